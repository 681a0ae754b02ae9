/-
  No cell of these rows narrows 'for every input' (looked for: loops, veiled, ifaces, maps, wideKeys, modest, calm, conditions, laid).
  DERIVED. THE GIVEN ROWS OF THIS SEAT. 4 by the template 'for every input the law returns true; each argument reads behind the call as it read before'; 0 by the template 'total and deterministic' (their statements: YtlfdfgokflhdbaaGreatTotals.lean).
  GIVEN WITH THE SEED: the statements are not yours to turn. If you find one false, say at which input.
  Laid BY PROGRAM, IN A SANDBOX (cutbox-rows.mjs): the forced cells as the released guide's own fill.sh prints them over the translation eb7bbe7f10d430d6… (all of the seat's roots in one cut). By AI agents, Wed Nov 11 2026. No macro, syntax, notation, axiom, sorry.
-/
import Derived.Test.YtlfdfgokflhdbaaGreatChecked
import GoSem.Claim
import GoSem.ClaimJoined
import GoSem.ClaimMapViews
import Derived.JoinedTies
import Derived.KernelRfl
namespace Go.Proofs.YtlfdfgokflhdbaaGreat
/- THE CELL 'sum', in the pinned program and in every row, IS THE sha256 OF THE DUMP (.gsa) THAT YtlfdfgokflhdbaaGreatProg.lean LOADS. Nothing in Lean hashes anything: it is a label: what it is worth is what the hold of that sum in a sandbox is worth. -/
noncomputable def Tryz.pinned : Pinned := { name := "ytlfdfgokflhdbaagreat", sum := "eb7bbe7f10d430d6d201daf59cb06b8786914bbde923dfe36c42efbe472aa959", checked := Tryz.checked }
namespace Rows
def none {H : Type} : Left H := { results := [], args := [] }

/-- 'lintellaw23.WorkAsks': WHATEVER THE INPUT: true; the input reads as it did. -/
def workAsksSpec : ChangeSpec := { name := "workAsks", fn := fun _ => fun
  | [d1, d2] => { results := [.lit (.bool true)], args := [d1, d2] }
  | _ => none }
def workAsksRow : OpenClaim := { program := "ytlfdfgokflhdbaagreat", sum := "eb7bbe7f10d430d6d201daf59cb06b8786914bbde923dfe36c42efbe472aa959", func := "lintel/lintellaw23.WorkAsks", spec := "workAsks", inPlace := ["slices.overlaps[lintel/api.Cell]"], unfollowed := true, recurses := true, plainKeys := false, apart := false }
def WorkAsksSaid : Prop := workAsksRow.holds Tryz.pinned (OpenSpec.ofChange workAsksSpec)

/-- ITS FALSE NEIGHBOUR: 'it returns false'. Refute it at one input. -/
def workAsksWrong : ChangeSpec := { name := "workAsks", fn := fun _ => fun
  | [d1, d2] => { results := [.lit (.bool false)], args := [d1, d2] }
  | _ => none }
def WorkAsksWrongFalsely : Prop := workAsksRow.holds Tryz.pinned (OpenSpec.ofChange workAsksWrong)

/-- 'lintellaw21.ExecReads': WHATEVER THE INPUT: true; the input reads as it did. -/
def execReadsSpec : ChangeSpec := { name := "execReads", fn := fun _ => fun
  | [d1, d2, d3, d4] => { results := [.lit (.bool true)], args := [d1, d2, d3, d4] }
  | _ => none }
def execReadsRow : OpenClaim := { program := "ytlfdfgokflhdbaagreat", sum := "eb7bbe7f10d430d6d201daf59cb06b8786914bbde923dfe36c42efbe472aa959", func := "lintel/lintellaw21.ExecReads", spec := "execReads", inPlace := ["slices.overlaps[lintel/api.Cell]", "internal/bytealg.abigen_runtime_cmpstring"], unfollowed := true, recurses := true, plainKeys := false, apart := false }
def ExecReadsSaid : Prop := execReadsRow.holds Tryz.pinned (OpenSpec.ofChange execReadsSpec)

/-- ITS FALSE NEIGHBOUR: 'it returns false'. Refute it at one input. -/
def execReadsWrong : ChangeSpec := { name := "execReads", fn := fun _ => fun
  | [d1, d2, d3, d4] => { results := [.lit (.bool false)], args := [d1, d2, d3, d4] }
  | _ => none }
def ExecReadsWrongFalsely : Prop := execReadsRow.holds Tryz.pinned (OpenSpec.ofChange execReadsWrong)

/-- 'lintellaw21.ExecExact': WHATEVER THE INPUT: true; the input reads as it did. -/
def execExactSpec : ChangeSpec := { name := "execExact", fn := fun _ => fun
  | [d1, d2, d3] => { results := [.lit (.bool true)], args := [d1, d2, d3] }
  | _ => none }
def execExactRow : OpenClaim := { program := "ytlfdfgokflhdbaagreat", sum := "eb7bbe7f10d430d6d201daf59cb06b8786914bbde923dfe36c42efbe472aa959", func := "lintel/lintellaw21.ExecExact", spec := "execExact", inPlace := ["slices.overlaps[lintel/api.Cell]", "internal/bytealg.abigen_runtime_cmpstring"], unfollowed := true, recurses := true, plainKeys := false, apart := false }
def ExecExactSaid : Prop := execExactRow.holds Tryz.pinned (OpenSpec.ofChange execExactSpec)

/-- ITS FALSE NEIGHBOUR: 'it returns false'. Refute it at one input. -/
def execExactWrong : ChangeSpec := { name := "execExact", fn := fun _ => fun
  | [d1, d2, d3] => { results := [.lit (.bool false)], args := [d1, d2, d3] }
  | _ => none }
def ExecExactWrongFalsely : Prop := execExactRow.holds Tryz.pinned (OpenSpec.ofChange execExactWrong)

/-- 'lintellaw21.ExecSplits': WHATEVER THE INPUT: true; the input reads as it did. -/
def execSplitsSpec : ChangeSpec := { name := "execSplits", fn := fun _ => fun
  | [d1, d2, d3, d4] => { results := [.lit (.bool true)], args := [d1, d2, d3, d4] }
  | _ => none }
def execSplitsRow : OpenClaim := { program := "ytlfdfgokflhdbaagreat", sum := "eb7bbe7f10d430d6d201daf59cb06b8786914bbde923dfe36c42efbe472aa959", func := "lintel/lintellaw21.ExecSplits", spec := "execSplits", inPlace := ["slices.overlaps[lintel/api.Cell]", "internal/bytealg.abigen_runtime_cmpstring"], unfollowed := true, recurses := true, plainKeys := false, apart := false }
def ExecSplitsSaid : Prop := execSplitsRow.holds Tryz.pinned (OpenSpec.ofChange execSplitsSpec)

/-- ITS FALSE NEIGHBOUR: 'it returns false'. Refute it at one input. -/
def execSplitsWrong : ChangeSpec := { name := "execSplits", fn := fun _ => fun
  | [d1, d2, d3, d4] => { results := [.lit (.bool false)], args := [d1, d2, d3, d4] }
  | _ => none }
def ExecSplitsWrongFalsely : Prop := execSplitsRow.holds Tryz.pinned (OpenSpec.ofChange execSplitsWrong)

/- THE SECOND FORM. 'bulk': how many values and letters a reading holds, each counted each time it is reached (what is shared counts as often as it is met; a slice's spare places count too). A statement '..UptoSaid' is the law's where the arguments, and the package variables that the reading takes, are together of bulk at most 1048576: NARROWER than '..Said'. Prove '..Said' where nothing that the law and all that it calls make is longer than what came in: it says more and counts as full. Else prove '..UptoSaid'. A law counts once. -/
mutual
def uptoBulk {H : Type} : DataW H → Nat
  | .lit (.string bytes) => bytes.length + 1
  | .lit _ => 1
  | .nil => 1
  | .ptr d => uptoBulk d + 1
  | .slice elems spare => uptoBulkAll elems + uptoBulkAll spare + 1
  | .agg parts => uptoBulkAll parts + 1
  | .iface _ d => uptoBulk d + 1
  | .map entries => uptoBulkEntries entries + 1
  | .held _ => 1
def uptoBulkAll {H : Type} : List (DataW H) → Nat
  | [] => 0
  | d :: r => uptoBulk d + uptoBulkAll r
def uptoBulkEntries {H : Type} : List (Lit × DataW H) → Nat
  | [] => 0
  | x :: r => uptoBulkEntry x + uptoBulkEntries r
def uptoBulkEntry {H : Type} : Lit × DataW H → Nat
  | (.string bytes, d) => bytes.length + uptoBulk d + 1
  | (_, d) => uptoBulk d + 1
 end
def uptoSmall : (H : Type) → List (DataW H) → Bool := fun _ ds => decide (uptoBulkAll ds ≤ 1048576)
def OpenSpec.upto (s : _root_.Go.ChangeSpec) : _root_.Go.OpenSpec := { _root_.Go.OpenSpec.ofChange s with cond := some uptoSmall }

/-- 'lintellaw23.WorkAsks', WHERE WHAT IT READS IS OF BULK AT MOST 1048576: true; the input reads as it did. -/
def workAsksUptoRow : OpenClaim := { program := "ytlfdfgokflhdbaagreat", sum := "eb7bbe7f10d430d6d201daf59cb06b8786914bbde923dfe36c42efbe472aa959", func := "lintel/lintellaw23.WorkAsks", spec := "workAsks", inPlace := ["slices.overlaps[lintel/api.Cell]"], unfollowed := true, recurses := true, plainKeys := false, apart := false, narrowed := true }
def WorkAsksUptoSaid : Prop := workAsksUptoRow.holds Tryz.pinned (OpenSpec.upto workAsksSpec)

/-- 'lintellaw21.ExecReads', WHERE WHAT IT READS IS OF BULK AT MOST 1048576: true; the input reads as it did. -/
def execReadsUptoRow : OpenClaim := { program := "ytlfdfgokflhdbaagreat", sum := "eb7bbe7f10d430d6d201daf59cb06b8786914bbde923dfe36c42efbe472aa959", func := "lintel/lintellaw21.ExecReads", spec := "execReads", inPlace := ["slices.overlaps[lintel/api.Cell]", "internal/bytealg.abigen_runtime_cmpstring"], unfollowed := true, recurses := true, plainKeys := false, apart := false, narrowed := true }
def ExecReadsUptoSaid : Prop := execReadsUptoRow.holds Tryz.pinned (OpenSpec.upto execReadsSpec)

/-- 'lintellaw21.ExecExact', WHERE WHAT IT READS IS OF BULK AT MOST 1048576: true; the input reads as it did. -/
def execExactUptoRow : OpenClaim := { program := "ytlfdfgokflhdbaagreat", sum := "eb7bbe7f10d430d6d201daf59cb06b8786914bbde923dfe36c42efbe472aa959", func := "lintel/lintellaw21.ExecExact", spec := "execExact", inPlace := ["slices.overlaps[lintel/api.Cell]", "internal/bytealg.abigen_runtime_cmpstring"], unfollowed := true, recurses := true, plainKeys := false, apart := false, narrowed := true }
def ExecExactUptoSaid : Prop := execExactUptoRow.holds Tryz.pinned (OpenSpec.upto execExactSpec)

/-- 'lintellaw21.ExecSplits', WHERE WHAT IT READS IS OF BULK AT MOST 1048576: true; the input reads as it did. -/
def execSplitsUptoRow : OpenClaim := { program := "ytlfdfgokflhdbaagreat", sum := "eb7bbe7f10d430d6d201daf59cb06b8786914bbde923dfe36c42efbe472aa959", func := "lintel/lintellaw21.ExecSplits", spec := "execSplits", inPlace := ["slices.overlaps[lintel/api.Cell]", "internal/bytealg.abigen_runtime_cmpstring"], unfollowed := true, recurses := true, plainKeys := false, apart := false, narrowed := true }
def ExecSplitsUptoSaid : Prop := execSplitsUptoRow.holds Tryz.pinned (OpenSpec.upto execSplitsSpec)

end Rows
end Go.Proofs.YtlfdfgokflhdbaaGreat
