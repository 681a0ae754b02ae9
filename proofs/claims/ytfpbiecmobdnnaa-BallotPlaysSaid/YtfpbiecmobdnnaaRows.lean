/-
  No cell of these rows narrows 'for every input' (looked for: loops, veiled, ifaces, maps, wideKeys, modest, calm, conditions, laid).
  DERIVED. THE GIVEN ROWS OF THIS SEAT. 4 by the template 'for every input the law returns true; each argument reads behind the call as it read before'; 0 by the template 'total and deterministic' (their statements: YtfpbiecmobdnnaaTotals.lean).
  GIVEN WITH THE SEED: the statements are not yours to turn. If you find one false, say at which input.
  Laid BY PROGRAM, IN A SANDBOX (cutbox-rows.mjs): the forced cells as the released guide's own fill.sh prints them over the translation 41ef57ec365295dc… (all of the seat's roots in one cut). By AI agents, Wed Nov 11 2026. No macro, syntax, notation, axiom, sorry.
-/
import Derived.Test.YtfpbiecmobdnnaaChecked
import GoSem.Claim
import GoSem.ClaimJoined
import GoSem.ClaimMapViews
import Derived.JoinedTies
import Derived.KernelRfl
namespace Go.Proofs.Ytfpbiecmobdnnaa
/- THE CELL 'sum', in the pinned program and in every row, IS THE sha256 OF THE DUMP (.gsa) THAT YtfpbiecmobdnnaaProg.lean LOADS. Nothing in Lean hashes anything: it is a label: what it is worth is what the hold of that sum in a sandbox is worth. -/
noncomputable def Try.pinned : Pinned := { name := "ytfpbiecmobdnnaa", sum := "41ef57ec365295dcbbd30878a95bc30b4992cd4ad45b0dc4c0aed74451d92d26", checked := Try.checked }
namespace Rows
def none {H : Type} : Left H := { results := [], args := [] }

/-- 'lintellaw09.BallotStays': WHATEVER THE INPUT: true; the input reads as it did. -/
def ballotStaysSpec : ChangeSpec := { name := "ballotStays", fn := fun _ => fun
  | [d1, d2, d3] => { results := [.lit (.bool true)], args := [d1, d2, d3] }
  | _ => none }
def ballotStaysRow : OpenClaim := { program := "ytfpbiecmobdnnaa", sum := "41ef57ec365295dcbbd30878a95bc30b4992cd4ad45b0dc4c0aed74451d92d26", func := "lintel/lintellaw09.BallotStays", spec := "ballotStays", unfollowed := true, recurses := true, apart := false }
def BallotStaysSaid : Prop := ballotStaysRow.holds Try.pinned (OpenSpec.ofChange ballotStaysSpec)

/-- ITS FALSE NEIGHBOUR: 'it returns false'. Refute it at one input. -/
def ballotStaysWrong : ChangeSpec := { name := "ballotStays", fn := fun _ => fun
  | [d1, d2, d3] => { results := [.lit (.bool false)], args := [d1, d2, d3] }
  | _ => none }
def BallotStaysWrongFalsely : Prop := ballotStaysRow.holds Try.pinned (OpenSpec.ofChange ballotStaysWrong)

/-- 'lintellaw09.BallotPlays': WHATEVER THE INPUT: true; the input reads as it did. -/
def ballotPlaysSpec : ChangeSpec := { name := "ballotPlays", fn := fun _ => fun
  | [d1, d2, d3] => { results := [.lit (.bool true)], args := [d1, d2, d3] }
  | _ => none }
def ballotPlaysRow : OpenClaim := { program := "ytfpbiecmobdnnaa", sum := "41ef57ec365295dcbbd30878a95bc30b4992cd4ad45b0dc4c0aed74451d92d26", func := "lintel/lintellaw09.BallotPlays", spec := "ballotPlays", unfollowed := true, recurses := true, apart := false }
def BallotPlaysSaid : Prop := ballotPlaysRow.holds Try.pinned (OpenSpec.ofChange ballotPlaysSpec)

/-- ITS FALSE NEIGHBOUR: 'it returns false'. Refute it at one input. -/
def ballotPlaysWrong : ChangeSpec := { name := "ballotPlays", fn := fun _ => fun
  | [d1, d2, d3] => { results := [.lit (.bool false)], args := [d1, d2, d3] }
  | _ => none }
def BallotPlaysWrongFalsely : Prop := ballotPlaysRow.holds Try.pinned (OpenSpec.ofChange ballotPlaysWrong)

/-- 'lintellaw09.BallotNil': WHATEVER THE INPUT: true; the input reads as it did. -/
def ballotNilSpec : ChangeSpec := { name := "ballotNil", fn := fun _ => fun
  | [d] => { results := [.lit (.bool true)], args := [d] }
  | _ => none }
def ballotNilRow : OpenClaim := { program := "ytfpbiecmobdnnaa", sum := "41ef57ec365295dcbbd30878a95bc30b4992cd4ad45b0dc4c0aed74451d92d26", func := "lintel/lintellaw09.BallotNil", spec := "ballotNil", unfollowed := true, recurses := true, apart := false }
def BallotNilSaid : Prop := ballotNilRow.holds Try.pinned (OpenSpec.ofChange ballotNilSpec)

/-- ITS FALSE NEIGHBOUR: 'it returns false'. Refute it at one input. -/
def ballotNilWrong : ChangeSpec := { name := "ballotNil", fn := fun _ => fun
  | [d] => { results := [.lit (.bool false)], args := [d] }
  | _ => none }
def BallotNilWrongFalsely : Prop := ballotNilRow.holds Try.pinned (OpenSpec.ofChange ballotNilWrong)

/-- 'lintellaw09.BallotLoads': WHATEVER THE INPUT: true; the input reads as it did. -/
def ballotLoadsSpec : ChangeSpec := { name := "ballotLoads", fn := fun _ => fun
  | [d1, d2, d3] => { results := [.lit (.bool true)], args := [d1, d2, d3] }
  | _ => none }
def ballotLoadsRow : OpenClaim := { program := "ytfpbiecmobdnnaa", sum := "41ef57ec365295dcbbd30878a95bc30b4992cd4ad45b0dc4c0aed74451d92d26", func := "lintel/lintellaw09.BallotLoads", spec := "ballotLoads", unfollowed := true, recurses := true, apart := false }
def BallotLoadsSaid : Prop := ballotLoadsRow.holds Try.pinned (OpenSpec.ofChange ballotLoadsSpec)

/-- ITS FALSE NEIGHBOUR: 'it returns false'. Refute it at one input. -/
def ballotLoadsWrong : ChangeSpec := { name := "ballotLoads", fn := fun _ => fun
  | [d1, d2, d3] => { results := [.lit (.bool false)], args := [d1, d2, d3] }
  | _ => none }
def BallotLoadsWrongFalsely : Prop := ballotLoadsRow.holds Try.pinned (OpenSpec.ofChange ballotLoadsWrong)

/- THE SECOND FORM. 'bulk': how many values and letters a reading holds, each counted each time it is reached (what is shared counts as often as it is met; a slice's spare places count too). A statement '..UptoSaid' is the law's where the arguments, and the package variables that the reading takes, are together of bulk at most 1048576: NARROWER than '..Said'. Prove '..Said' where nothing that the law and all that it calls make is longer than what came in: it says more and counts as full. Else prove '..UptoSaid'. A law counts once. -/
mutual
def uptoBulk {H : Type} : DataW H → Nat
  | .lit (.string bytes) => bytes.length + 1
  | .lit _ => 1
  | .nil => 1
  | .ptr d => uptoBulk d + 1
  | .slice elems spare => uptoBulkAll elems + uptoBulkAll spare + 1
  | .agg parts => uptoBulkAll parts + 1
  | .iface _ d => uptoBulk d + 1
  | .map entries => uptoBulkEntries entries + 1
  | .held _ => 1
def uptoBulkAll {H : Type} : List (DataW H) → Nat
  | [] => 0
  | d :: r => uptoBulk d + uptoBulkAll r
def uptoBulkEntries {H : Type} : List (Lit × DataW H) → Nat
  | [] => 0
  | x :: r => uptoBulkEntry x + uptoBulkEntries r
def uptoBulkEntry {H : Type} : Lit × DataW H → Nat
  | (.string bytes, d) => bytes.length + uptoBulk d + 1
  | (_, d) => uptoBulk d + 1
 end
def uptoSmall : (H : Type) → List (DataW H) → Bool := fun _ ds => decide (uptoBulkAll ds ≤ 1048576)
def OpenSpec.upto (s : _root_.Go.ChangeSpec) : _root_.Go.OpenSpec := { _root_.Go.OpenSpec.ofChange s with cond := some uptoSmall }

/-- 'lintellaw09.BallotStays', WHERE WHAT IT READS IS OF BULK AT MOST 1048576: true; the input reads as it did. -/
def ballotStaysUptoRow : OpenClaim := { program := "ytfpbiecmobdnnaa", sum := "41ef57ec365295dcbbd30878a95bc30b4992cd4ad45b0dc4c0aed74451d92d26", func := "lintel/lintellaw09.BallotStays", spec := "ballotStays", unfollowed := true, recurses := true, apart := false, narrowed := true }
def BallotStaysUptoSaid : Prop := ballotStaysUptoRow.holds Try.pinned (OpenSpec.upto ballotStaysSpec)

/-- 'lintellaw09.BallotPlays', WHERE WHAT IT READS IS OF BULK AT MOST 1048576: true; the input reads as it did. -/
def ballotPlaysUptoRow : OpenClaim := { program := "ytfpbiecmobdnnaa", sum := "41ef57ec365295dcbbd30878a95bc30b4992cd4ad45b0dc4c0aed74451d92d26", func := "lintel/lintellaw09.BallotPlays", spec := "ballotPlays", unfollowed := true, recurses := true, apart := false, narrowed := true }
def BallotPlaysUptoSaid : Prop := ballotPlaysUptoRow.holds Try.pinned (OpenSpec.upto ballotPlaysSpec)

/-- 'lintellaw09.BallotNil', WHERE WHAT IT READS IS OF BULK AT MOST 1048576: true; the input reads as it did. -/
def ballotNilUptoRow : OpenClaim := { program := "ytfpbiecmobdnnaa", sum := "41ef57ec365295dcbbd30878a95bc30b4992cd4ad45b0dc4c0aed74451d92d26", func := "lintel/lintellaw09.BallotNil", spec := "ballotNil", unfollowed := true, recurses := true, apart := false, narrowed := true }
def BallotNilUptoSaid : Prop := ballotNilUptoRow.holds Try.pinned (OpenSpec.upto ballotNilSpec)

/-- 'lintellaw09.BallotLoads', WHERE WHAT IT READS IS OF BULK AT MOST 1048576: true; the input reads as it did. -/
def ballotLoadsUptoRow : OpenClaim := { program := "ytfpbiecmobdnnaa", sum := "41ef57ec365295dcbbd30878a95bc30b4992cd4ad45b0dc4c0aed74451d92d26", func := "lintel/lintellaw09.BallotLoads", spec := "ballotLoads", unfollowed := true, recurses := true, apart := false, narrowed := true }
def BallotLoadsUptoSaid : Prop := ballotLoadsUptoRow.holds Try.pinned (OpenSpec.upto ballotLoadsSpec)

end Rows
end Go.Proofs.Ytfpbiecmobdnnaa
