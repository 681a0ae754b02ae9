/-
  No cell of these rows narrows 'for every input' (looked for: loops, veiled, ifaces, maps, wideKeys, modest, calm, conditions, laid).
  DERIVED. THE GIVEN ROWS OF THIS SEAT. 3 by the template 'for every input the law returns true; each argument reads behind the call as it read before'; 0 by the template 'total and deterministic' (their statements: YthepfbcgpbkbdaaGreatTotals.lean).
  GIVEN WITH THE SEED: the statements are not yours to turn. If you find one false, say at which input.
  Laid BY PROGRAM, IN A SANDBOX (cutbox-rows.mjs): the forced cells as the released guide's own fill.sh prints them over the translation 5615daa3479ebd74… (all of the seat's roots in one cut). By AI agents, Wed Nov 11 2026. No macro, syntax, notation, axiom, sorry.
-/
import Derived.Test.YthepfbcgpbkbdaaGreatChecked
import GoSem.Claim
import GoSem.ClaimJoined
import GoSem.ClaimMapViews
import Derived.JoinedTies
import Derived.KernelRfl
namespace Go.Proofs.YthepfbcgpbkbdaaGreat
/- THE CELL 'sum', in the pinned program and in every row, IS THE sha256 OF THE DUMP (.gsa) THAT YthepfbcgpbkbdaaGreatProg.lean LOADS. Nothing in Lean hashes anything: it is a label: what it is worth is what the hold of that sum in a sandbox is worth. -/
noncomputable def Tryz.pinned : Pinned := { name := "ythepfbcgpbkbdaagreat", sum := "5615daa3479ebd74515c920a064ed1bedcbb999221d61fe4f694f9a28fafe803", checked := Tryz.checked }
namespace Rows
def none {H : Type} : Left H := { results := [], args := [] }

/-- 'lintellaw16.BoardOnce': WHATEVER THE INPUT: true; the input reads as it did. -/
def boardOnceSpec : ChangeSpec := { name := "boardOnce", fn := fun _ => fun
  | [d] => { results := [.lit (.bool true)], args := [d] }
  | _ => none }
def boardOnceRow : OpenClaim := { program := "ythepfbcgpbkbdaagreat", sum := "5615daa3479ebd74515c920a064ed1bedcbb999221d61fe4f694f9a28fafe803", func := "lintel/lintellaw16.BoardOnce", spec := "boardOnce", unfollowed := true, recurses := true, plainKeys := false, apart := false }
def BoardOnceSaid : Prop := boardOnceRow.holds Tryz.pinned (OpenSpec.ofChange boardOnceSpec)

/-- ITS FALSE NEIGHBOUR: 'it returns false'. Refute it at one input. -/
def boardOnceWrong : ChangeSpec := { name := "boardOnce", fn := fun _ => fun
  | [d] => { results := [.lit (.bool false)], args := [d] }
  | _ => none }
def BoardOnceWrongFalsely : Prop := boardOnceRow.holds Tryz.pinned (OpenSpec.ofChange boardOnceWrong)

/-- 'lintellaw16.BoardNil': WHATEVER THE INPUT: true; the input reads as it did. -/
def boardNilSpec : ChangeSpec := { name := "boardNil", fn := fun _ => fun
  | [d1, d2] => { results := [.lit (.bool true)], args := [d1, d2] }
  | _ => none }
def boardNilRow : OpenClaim := { program := "ythepfbcgpbkbdaagreat", sum := "5615daa3479ebd74515c920a064ed1bedcbb999221d61fe4f694f9a28fafe803", func := "lintel/lintellaw16.BoardNil", spec := "boardNil", unfollowed := true, recurses := true, plainKeys := false, apart := false }
def BoardNilSaid : Prop := boardNilRow.holds Tryz.pinned (OpenSpec.ofChange boardNilSpec)

/-- ITS FALSE NEIGHBOUR: 'it returns false'. Refute it at one input. -/
def boardNilWrong : ChangeSpec := { name := "boardNil", fn := fun _ => fun
  | [d1, d2] => { results := [.lit (.bool false)], args := [d1, d2] }
  | _ => none }
def BoardNilWrongFalsely : Prop := boardNilRow.holds Tryz.pinned (OpenSpec.ofChange boardNilWrong)

/-- 'lintellaw23.WorkAsks': WHATEVER THE INPUT: true; the input reads as it did. -/
def workAsksSpec : ChangeSpec := { name := "workAsks", fn := fun _ => fun
  | [d1, d2] => { results := [.lit (.bool true)], args := [d1, d2] }
  | _ => none }
def workAsksRow : OpenClaim := { program := "ythepfbcgpbkbdaagreat", sum := "5615daa3479ebd74515c920a064ed1bedcbb999221d61fe4f694f9a28fafe803", func := "lintel/lintellaw23.WorkAsks", spec := "workAsks", inPlace := ["slices.overlaps[lintel/api.Cell]"], unfollowed := true, recurses := true, plainKeys := false, apart := false }
def WorkAsksSaid : Prop := workAsksRow.holds Tryz.pinned (OpenSpec.ofChange workAsksSpec)

/-- ITS FALSE NEIGHBOUR: 'it returns false'. Refute it at one input. -/
def workAsksWrong : ChangeSpec := { name := "workAsks", fn := fun _ => fun
  | [d1, d2] => { results := [.lit (.bool false)], args := [d1, d2] }
  | _ => none }
def WorkAsksWrongFalsely : Prop := workAsksRow.holds Tryz.pinned (OpenSpec.ofChange workAsksWrong)

/- THE SECOND FORM. 'bulk': how many values and letters a reading holds, each counted each time it is reached (what is shared counts as often as it is met; a slice's spare places count too). A statement '..UptoSaid' is the law's where the arguments, and the package variables that the reading takes, are together of bulk at most 1048576: NARROWER than '..Said'. Prove '..Said' where nothing that the law and all that it calls make is longer than what came in: it says more and counts as full. Else prove '..UptoSaid'. A law counts once. -/
mutual
def uptoBulk {H : Type} : DataW H → Nat
  | .lit (.string bytes) => bytes.length + 1
  | .lit _ => 1
  | .nil => 1
  | .ptr d => uptoBulk d + 1
  | .slice elems spare => uptoBulkAll elems + uptoBulkAll spare + 1
  | .agg parts => uptoBulkAll parts + 1
  | .iface _ d => uptoBulk d + 1
  | .map entries => uptoBulkEntries entries + 1
  | .held _ => 1
def uptoBulkAll {H : Type} : List (DataW H) → Nat
  | [] => 0
  | d :: r => uptoBulk d + uptoBulkAll r
def uptoBulkEntries {H : Type} : List (Lit × DataW H) → Nat
  | [] => 0
  | x :: r => uptoBulkEntry x + uptoBulkEntries r
def uptoBulkEntry {H : Type} : Lit × DataW H → Nat
  | (.string bytes, d) => bytes.length + uptoBulk d + 1
  | (_, d) => uptoBulk d + 1
 end
def uptoSmall : (H : Type) → List (DataW H) → Bool := fun _ ds => decide (uptoBulkAll ds ≤ 1048576)
def OpenSpec.upto (s : _root_.Go.ChangeSpec) : _root_.Go.OpenSpec := { _root_.Go.OpenSpec.ofChange s with cond := some uptoSmall }

/-- 'lintellaw16.BoardOnce', WHERE WHAT IT READS IS OF BULK AT MOST 1048576: true; the input reads as it did. -/
def boardOnceUptoRow : OpenClaim := { program := "ythepfbcgpbkbdaagreat", sum := "5615daa3479ebd74515c920a064ed1bedcbb999221d61fe4f694f9a28fafe803", func := "lintel/lintellaw16.BoardOnce", spec := "boardOnce", unfollowed := true, recurses := true, plainKeys := false, apart := false, narrowed := true }
def BoardOnceUptoSaid : Prop := boardOnceUptoRow.holds Tryz.pinned (OpenSpec.upto boardOnceSpec)

/-- 'lintellaw16.BoardNil', WHERE WHAT IT READS IS OF BULK AT MOST 1048576: true; the input reads as it did. -/
def boardNilUptoRow : OpenClaim := { program := "ythepfbcgpbkbdaagreat", sum := "5615daa3479ebd74515c920a064ed1bedcbb999221d61fe4f694f9a28fafe803", func := "lintel/lintellaw16.BoardNil", spec := "boardNil", unfollowed := true, recurses := true, plainKeys := false, apart := false, narrowed := true }
def BoardNilUptoSaid : Prop := boardNilUptoRow.holds Tryz.pinned (OpenSpec.upto boardNilSpec)

/-- 'lintellaw23.WorkAsks', WHERE WHAT IT READS IS OF BULK AT MOST 1048576: true; the input reads as it did. -/
def workAsksUptoRow : OpenClaim := { program := "ythepfbcgpbkbdaagreat", sum := "5615daa3479ebd74515c920a064ed1bedcbb999221d61fe4f694f9a28fafe803", func := "lintel/lintellaw23.WorkAsks", spec := "workAsks", inPlace := ["slices.overlaps[lintel/api.Cell]"], unfollowed := true, recurses := true, plainKeys := false, apart := false, narrowed := true }
def WorkAsksUptoSaid : Prop := workAsksUptoRow.holds Tryz.pinned (OpenSpec.upto workAsksSpec)

end Rows
end Go.Proofs.YthepfbcgpbkbdaaGreat
