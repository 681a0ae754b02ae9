/-
  No cell of these rows narrows 'for every input' (looked for: loops, veiled, ifaces, maps, wideKeys, modest, calm, conditions, laid).
  DERIVED. THE GIVEN ROWS OF THIS SEAT. 5 by the template 'for every input the law returns true; each argument reads behind the call as it read before'; 0 by the template 'total and deterministic' (their statements: YtcdggocbjnmeaaaGreatTotals.lean).
  GIVEN WITH THE SEED: the statements are not yours to turn. If you find one false, say at which input.
  Laid BY PROGRAM, IN A SANDBOX (cutbox-rows.mjs): the forced cells as the released guide's own fill.sh prints them over the translation d396808fbfca419c… (all of the seat's roots in one cut). By AI agents, Wed Nov 11 2026. No macro, syntax, notation, axiom, sorry.
-/
import Derived.Test.YtcdggocbjnmeaaaGreatChecked
import GoSem.Claim
import GoSem.ClaimJoined
import GoSem.ClaimMapViews
import Derived.JoinedTies
import Derived.KernelRfl
namespace Go.Proofs.YtcdggocbjnmeaaaGreat
/- THE CELL 'sum', in the pinned program and in every row, IS THE sha256 OF THE DUMP (.gsa) THAT YtcdggocbjnmeaaaGreatProg.lean LOADS. Nothing in Lean hashes anything: it is a label: what it is worth is what the hold of that sum in a sandbox is worth. -/
noncomputable def Tryz.pinned : Pinned := { name := "ytcdggocbjnmeaaagreat", sum := "d396808fbfca419c64d1edca6262df539d724a28a62ffffa09c20f595f1efa61", checked := Tryz.checked }
namespace Rows
def none {H : Type} : Left H := { results := [], args := [] }

/-- 'lintellaw11.GroupAgrees': WHATEVER THE INPUT: true; the input reads as it did. -/
def groupAgreesSpec : ChangeSpec := { name := "groupAgrees", fn := fun _ => fun
  | [d1, d2] => { results := [.lit (.bool true)], args := [d1, d2] }
  | _ => none }
def groupAgreesRow : OpenClaim := { program := "ytcdggocbjnmeaaagreat", sum := "d396808fbfca419c64d1edca6262df539d724a28a62ffffa09c20f595f1efa61", func := "lintel/lintellaw11.GroupAgrees", spec := "groupAgrees", unfollowed := true, recurses := true, apart := false }
def GroupAgreesSaid : Prop := groupAgreesRow.holds Tryz.pinned (OpenSpec.ofChange groupAgreesSpec)

/-- ITS FALSE NEIGHBOUR: 'it returns false'. Refute it at one input. -/
def groupAgreesWrong : ChangeSpec := { name := "groupAgrees", fn := fun _ => fun
  | [d1, d2] => { results := [.lit (.bool false)], args := [d1, d2] }
  | _ => none }
def GroupAgreesWrongFalsely : Prop := groupAgreesRow.holds Tryz.pinned (OpenSpec.ofChange groupAgreesWrong)

/-- 'lintellaw11.GroupLeaders': WHATEVER THE INPUT: true; the input reads as it did. -/
def groupLeadersSpec : ChangeSpec := { name := "groupLeaders", fn := fun _ => fun
  | [d1, d2] => { results := [.lit (.bool true)], args := [d1, d2] }
  | _ => none }
def groupLeadersRow : OpenClaim := { program := "ytcdggocbjnmeaaagreat", sum := "d396808fbfca419c64d1edca6262df539d724a28a62ffffa09c20f595f1efa61", func := "lintel/lintellaw11.GroupLeaders", spec := "groupLeaders", unfollowed := true, recurses := true, apart := false }
def GroupLeadersSaid : Prop := groupLeadersRow.holds Tryz.pinned (OpenSpec.ofChange groupLeadersSpec)

/-- ITS FALSE NEIGHBOUR: 'it returns false'. Refute it at one input. -/
def groupLeadersWrong : ChangeSpec := { name := "groupLeaders", fn := fun _ => fun
  | [d1, d2] => { results := [.lit (.bool false)], args := [d1, d2] }
  | _ => none }
def GroupLeadersWrongFalsely : Prop := groupLeadersRow.holds Tryz.pinned (OpenSpec.ofChange groupLeadersWrong)

/-- 'lintellaw11.GroupHolds': WHATEVER THE INPUT: true; the input reads as it did. -/
def groupHoldsSpec : ChangeSpec := { name := "groupHolds", fn := fun _ => fun
  | [d1, d2] => { results := [.lit (.bool true)], args := [d1, d2] }
  | _ => none }
def groupHoldsRow : OpenClaim := { program := "ytcdggocbjnmeaaagreat", sum := "d396808fbfca419c64d1edca6262df539d724a28a62ffffa09c20f595f1efa61", func := "lintel/lintellaw11.GroupHolds", spec := "groupHolds", unfollowed := true, recurses := true, apart := false }
def GroupHoldsSaid : Prop := groupHoldsRow.holds Tryz.pinned (OpenSpec.ofChange groupHoldsSpec)

/-- ITS FALSE NEIGHBOUR: 'it returns false'. Refute it at one input. -/
def groupHoldsWrong : ChangeSpec := { name := "groupHolds", fn := fun _ => fun
  | [d1, d2] => { results := [.lit (.bool false)], args := [d1, d2] }
  | _ => none }
def GroupHoldsWrongFalsely : Prop := groupHoldsRow.holds Tryz.pinned (OpenSpec.ofChange groupHoldsWrong)

/-- 'lintellaw11.GroupMatches': WHATEVER THE INPUT: true; the input reads as it did. -/
def groupMatchesSpec : ChangeSpec := { name := "groupMatches", fn := fun _ => fun
  | [d1, d2] => { results := [.lit (.bool true)], args := [d1, d2] }
  | _ => none }
def groupMatchesRow : OpenClaim := { program := "ytcdggocbjnmeaaagreat", sum := "d396808fbfca419c64d1edca6262df539d724a28a62ffffa09c20f595f1efa61", func := "lintel/lintellaw11.GroupMatches", spec := "groupMatches", unfollowed := true, recurses := true, apart := false }
def GroupMatchesSaid : Prop := groupMatchesRow.holds Tryz.pinned (OpenSpec.ofChange groupMatchesSpec)

/-- ITS FALSE NEIGHBOUR: 'it returns false'. Refute it at one input. -/
def groupMatchesWrong : ChangeSpec := { name := "groupMatches", fn := fun _ => fun
  | [d1, d2] => { results := [.lit (.bool false)], args := [d1, d2] }
  | _ => none }
def GroupMatchesWrongFalsely : Prop := groupMatchesRow.holds Tryz.pinned (OpenSpec.ofChange groupMatchesWrong)

/-- 'lintellaw11.GroupNil': WHATEVER THE INPUT: true; the input reads as it did. -/
def groupNilSpec : ChangeSpec := { name := "groupNil", fn := fun _ => fun
  | [d1, d2] => { results := [.lit (.bool true)], args := [d1, d2] }
  | _ => none }
def groupNilRow : OpenClaim := { program := "ytcdggocbjnmeaaagreat", sum := "d396808fbfca419c64d1edca6262df539d724a28a62ffffa09c20f595f1efa61", func := "lintel/lintellaw11.GroupNil", spec := "groupNil", unfollowed := true, recurses := true, apart := false }
def GroupNilSaid : Prop := groupNilRow.holds Tryz.pinned (OpenSpec.ofChange groupNilSpec)

/-- ITS FALSE NEIGHBOUR: 'it returns false'. Refute it at one input. -/
def groupNilWrong : ChangeSpec := { name := "groupNil", fn := fun _ => fun
  | [d1, d2] => { results := [.lit (.bool false)], args := [d1, d2] }
  | _ => none }
def GroupNilWrongFalsely : Prop := groupNilRow.holds Tryz.pinned (OpenSpec.ofChange groupNilWrong)

/- THE SECOND FORM. 'bulk': how many values and letters a reading holds, each counted each time it is reached (what is shared counts as often as it is met; a slice's spare places count too). A statement '..UptoSaid' is the law's where the arguments, and the package variables that the reading takes, are together of bulk at most 1048576: NARROWER than '..Said'. Prove '..Said' where nothing that the law and all that it calls make is longer than what came in: it says more and counts as full. Else prove '..UptoSaid'. A law counts once. -/
mutual
def uptoBulk {H : Type} : DataW H → Nat
  | .lit (.string bytes) => bytes.length + 1
  | .lit _ => 1
  | .nil => 1
  | .ptr d => uptoBulk d + 1
  | .slice elems spare => uptoBulkAll elems + uptoBulkAll spare + 1
  | .agg parts => uptoBulkAll parts + 1
  | .iface _ d => uptoBulk d + 1
  | .map entries => uptoBulkEntries entries + 1
  | .held _ => 1
def uptoBulkAll {H : Type} : List (DataW H) → Nat
  | [] => 0
  | d :: r => uptoBulk d + uptoBulkAll r
def uptoBulkEntries {H : Type} : List (Lit × DataW H) → Nat
  | [] => 0
  | x :: r => uptoBulkEntry x + uptoBulkEntries r
def uptoBulkEntry {H : Type} : Lit × DataW H → Nat
  | (.string bytes, d) => bytes.length + uptoBulk d + 1
  | (_, d) => uptoBulk d + 1
 end
def uptoSmall : (H : Type) → List (DataW H) → Bool := fun _ ds => decide (uptoBulkAll ds ≤ 1048576)
def OpenSpec.upto (s : _root_.Go.ChangeSpec) : _root_.Go.OpenSpec := { _root_.Go.OpenSpec.ofChange s with cond := some uptoSmall }

/-- 'lintellaw11.GroupAgrees', WHERE WHAT IT READS IS OF BULK AT MOST 1048576: true; the input reads as it did. -/
def groupAgreesUptoRow : OpenClaim := { program := "ytcdggocbjnmeaaagreat", sum := "d396808fbfca419c64d1edca6262df539d724a28a62ffffa09c20f595f1efa61", func := "lintel/lintellaw11.GroupAgrees", spec := "groupAgrees", unfollowed := true, recurses := true, apart := false, narrowed := true }
def GroupAgreesUptoSaid : Prop := groupAgreesUptoRow.holds Tryz.pinned (OpenSpec.upto groupAgreesSpec)

/-- 'lintellaw11.GroupLeaders', WHERE WHAT IT READS IS OF BULK AT MOST 1048576: true; the input reads as it did. -/
def groupLeadersUptoRow : OpenClaim := { program := "ytcdggocbjnmeaaagreat", sum := "d396808fbfca419c64d1edca6262df539d724a28a62ffffa09c20f595f1efa61", func := "lintel/lintellaw11.GroupLeaders", spec := "groupLeaders", unfollowed := true, recurses := true, apart := false, narrowed := true }
def GroupLeadersUptoSaid : Prop := groupLeadersUptoRow.holds Tryz.pinned (OpenSpec.upto groupLeadersSpec)

/-- 'lintellaw11.GroupHolds', WHERE WHAT IT READS IS OF BULK AT MOST 1048576: true; the input reads as it did. -/
def groupHoldsUptoRow : OpenClaim := { program := "ytcdggocbjnmeaaagreat", sum := "d396808fbfca419c64d1edca6262df539d724a28a62ffffa09c20f595f1efa61", func := "lintel/lintellaw11.GroupHolds", spec := "groupHolds", unfollowed := true, recurses := true, apart := false, narrowed := true }
def GroupHoldsUptoSaid : Prop := groupHoldsUptoRow.holds Tryz.pinned (OpenSpec.upto groupHoldsSpec)

/-- 'lintellaw11.GroupMatches', WHERE WHAT IT READS IS OF BULK AT MOST 1048576: true; the input reads as it did. -/
def groupMatchesUptoRow : OpenClaim := { program := "ytcdggocbjnmeaaagreat", sum := "d396808fbfca419c64d1edca6262df539d724a28a62ffffa09c20f595f1efa61", func := "lintel/lintellaw11.GroupMatches", spec := "groupMatches", unfollowed := true, recurses := true, apart := false, narrowed := true }
def GroupMatchesUptoSaid : Prop := groupMatchesUptoRow.holds Tryz.pinned (OpenSpec.upto groupMatchesSpec)

/-- 'lintellaw11.GroupNil', WHERE WHAT IT READS IS OF BULK AT MOST 1048576: true; the input reads as it did. -/
def groupNilUptoRow : OpenClaim := { program := "ytcdggocbjnmeaaagreat", sum := "d396808fbfca419c64d1edca6262df539d724a28a62ffffa09c20f595f1efa61", func := "lintel/lintellaw11.GroupNil", spec := "groupNil", unfollowed := true, recurses := true, apart := false, narrowed := true }
def GroupNilUptoSaid : Prop := groupNilUptoRow.holds Tryz.pinned (OpenSpec.upto groupNilSpec)

end Rows
end Go.Proofs.YtcdggocbjnmeaaaGreat
