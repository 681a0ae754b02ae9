/-
  No cell of these rows narrows 'for every input' (looked for: loops, veiled, ifaces, maps, wideKeys, modest, calm, conditions, laid).
  DERIVED. THE GIVEN ROWS OF THIS SEAT. 8 by the template 'for every input the law returns true; each argument reads behind the call as it read before'; 0 by the template 'total and deterministic' (their statements: YthepfbcgpbkbdaaTotals.lean).
  GIVEN WITH THE SEED: the statements are not yours to turn. If you find one false, say at which input.
  Laid BY PROGRAM, IN A SANDBOX (cutbox-rows.mjs): the forced cells as the released guide's own fill.sh prints them over the translation b57071a831e8143d… (all of the seat's roots in one cut). By AI agents, Wed Nov 11 2026. No macro, syntax, notation, axiom, sorry.
-/
import Derived.Test.YthepfbcgpbkbdaaChecked
import GoSem.Claim
import GoSem.ClaimJoined
import GoSem.ClaimMapViews
import Derived.JoinedTies
import Derived.KernelRfl
namespace Go.Proofs.Ythepfbcgpbkbdaa
/- THE CELL 'sum', in the pinned program and in every row, IS THE sha256 OF THE DUMP (.gsa) THAT YthepfbcgpbkbdaaProg.lean LOADS. Nothing in Lean hashes anything: it is a label: what it is worth is what the hold of that sum in a sandbox is worth. -/
noncomputable def Try.pinned : Pinned := { name := "ythepfbcgpbkbdaa", sum := "b57071a831e8143d3072c7ceb28d9c295272bc042c95052f0eefc0f5192703b9", checked := Try.checked }
namespace Rows
def none {H : Type} : Left H := { results := [], args := [] }

/-- 'lintellaw15.SchemaTurns': WHATEVER THE INPUT: true; the input reads as it did. -/
def schemaTurnsSpec : ChangeSpec := { name := "schemaTurns", fn := fun _ => fun
  | [d1, d2, d3] => { results := [.lit (.bool true)], args := [d1, d2, d3] }
  | _ => none }
def schemaTurnsRow : OpenClaim := { program := "ythepfbcgpbkbdaa", sum := "b57071a831e8143d3072c7ceb28d9c295272bc042c95052f0eefc0f5192703b9", func := "lintel/lintellaw15.SchemaTurns", spec := "schemaTurns", unfollowed := true, recurses := true, apart := false }
def SchemaTurnsSaid : Prop := schemaTurnsRow.holds Try.pinned (OpenSpec.ofChange schemaTurnsSpec)

/-- ITS FALSE NEIGHBOUR: 'it returns false'. Refute it at one input. -/
def schemaTurnsWrong : ChangeSpec := { name := "schemaTurns", fn := fun _ => fun
  | [d1, d2, d3] => { results := [.lit (.bool false)], args := [d1, d2, d3] }
  | _ => none }
def SchemaTurnsWrongFalsely : Prop := schemaTurnsRow.holds Try.pinned (OpenSpec.ofChange schemaTurnsWrong)

/-- 'lintellaw15.SchemaChecks': WHATEVER THE INPUT: true; the input reads as it did. -/
def schemaChecksSpec : ChangeSpec := { name := "schemaChecks", fn := fun _ => fun
  | [d1, d2] => { results := [.lit (.bool true)], args := [d1, d2] }
  | _ => none }
def schemaChecksRow : OpenClaim := { program := "ythepfbcgpbkbdaa", sum := "b57071a831e8143d3072c7ceb28d9c295272bc042c95052f0eefc0f5192703b9", func := "lintel/lintellaw15.SchemaChecks", spec := "schemaChecks", unfollowed := true, recurses := true, apart := false }
def SchemaChecksSaid : Prop := schemaChecksRow.holds Try.pinned (OpenSpec.ofChange schemaChecksSpec)

/-- ITS FALSE NEIGHBOUR: 'it returns false'. Refute it at one input. -/
def schemaChecksWrong : ChangeSpec := { name := "schemaChecks", fn := fun _ => fun
  | [d1, d2] => { results := [.lit (.bool false)], args := [d1, d2] }
  | _ => none }
def SchemaChecksWrongFalsely : Prop := schemaChecksRow.holds Try.pinned (OpenSpec.ofChange schemaChecksWrong)

/-- 'lintellaw15.SchemaSeen': WHATEVER THE INPUT: true; the input reads as it did. -/
def schemaSeenSpec : ChangeSpec := { name := "schemaSeen", fn := fun _ => fun
  | [d] => { results := [.lit (.bool true)], args := [d] }
  | _ => none }
def schemaSeenRow : OpenClaim := { program := "ythepfbcgpbkbdaa", sum := "b57071a831e8143d3072c7ceb28d9c295272bc042c95052f0eefc0f5192703b9", func := "lintel/lintellaw15.SchemaSeen", spec := "schemaSeen", unfollowed := true, recurses := true, apart := false }
def SchemaSeenSaid : Prop := schemaSeenRow.holds Try.pinned (OpenSpec.ofChange schemaSeenSpec)

/-- ITS FALSE NEIGHBOUR: 'it returns false'. Refute it at one input. -/
def schemaSeenWrong : ChangeSpec := { name := "schemaSeen", fn := fun _ => fun
  | [d] => { results := [.lit (.bool false)], args := [d] }
  | _ => none }
def SchemaSeenWrongFalsely : Prop := schemaSeenRow.holds Try.pinned (OpenSpec.ofChange schemaSeenWrong)

/-- 'lintellaw15.SchemaPaths': WHATEVER THE INPUT: true; the input reads as it did. -/
def schemaPathsSpec : ChangeSpec := { name := "schemaPaths", fn := fun _ => fun
  | [d1, d2] => { results := [.lit (.bool true)], args := [d1, d2] }
  | _ => none }
def schemaPathsRow : OpenClaim := { program := "ythepfbcgpbkbdaa", sum := "b57071a831e8143d3072c7ceb28d9c295272bc042c95052f0eefc0f5192703b9", func := "lintel/lintellaw15.SchemaPaths", spec := "schemaPaths", unfollowed := true, recurses := true, apart := false }
def SchemaPathsSaid : Prop := schemaPathsRow.holds Try.pinned (OpenSpec.ofChange schemaPathsSpec)

/-- ITS FALSE NEIGHBOUR: 'it returns false'. Refute it at one input. -/
def schemaPathsWrong : ChangeSpec := { name := "schemaPaths", fn := fun _ => fun
  | [d1, d2] => { results := [.lit (.bool false)], args := [d1, d2] }
  | _ => none }
def SchemaPathsWrongFalsely : Prop := schemaPathsRow.holds Try.pinned (OpenSpec.ofChange schemaPathsWrong)

/-- 'lintellaw15.SchemaSteps': WHATEVER THE INPUT: true; the input reads as it did. -/
def schemaStepsSpec : ChangeSpec := { name := "schemaSteps", fn := fun _ => fun
  | [d1, d2] => { results := [.lit (.bool true)], args := [d1, d2] }
  | _ => none }
def schemaStepsRow : OpenClaim := { program := "ythepfbcgpbkbdaa", sum := "b57071a831e8143d3072c7ceb28d9c295272bc042c95052f0eefc0f5192703b9", func := "lintel/lintellaw15.SchemaSteps", spec := "schemaSteps", unfollowed := true, recurses := true, apart := false }
def SchemaStepsSaid : Prop := schemaStepsRow.holds Try.pinned (OpenSpec.ofChange schemaStepsSpec)

/-- ITS FALSE NEIGHBOUR: 'it returns false'. Refute it at one input. -/
def schemaStepsWrong : ChangeSpec := { name := "schemaSteps", fn := fun _ => fun
  | [d1, d2] => { results := [.lit (.bool false)], args := [d1, d2] }
  | _ => none }
def SchemaStepsWrongFalsely : Prop := schemaStepsRow.holds Try.pinned (OpenSpec.ofChange schemaStepsWrong)

/-- 'lintellaw15.SchemaUndo': WHATEVER THE INPUT: true; the input reads as it did. -/
def schemaUndoSpec : ChangeSpec := { name := "schemaUndo", fn := fun _ => fun
  | [d1, d2] => { results := [.lit (.bool true)], args := [d1, d2] }
  | _ => none }
def schemaUndoRow : OpenClaim := { program := "ythepfbcgpbkbdaa", sum := "b57071a831e8143d3072c7ceb28d9c295272bc042c95052f0eefc0f5192703b9", func := "lintel/lintellaw15.SchemaUndo", spec := "schemaUndo", unfollowed := true, recurses := true, apart := false }
def SchemaUndoSaid : Prop := schemaUndoRow.holds Try.pinned (OpenSpec.ofChange schemaUndoSpec)

/-- ITS FALSE NEIGHBOUR: 'it returns false'. Refute it at one input. -/
def schemaUndoWrong : ChangeSpec := { name := "schemaUndo", fn := fun _ => fun
  | [d1, d2] => { results := [.lit (.bool false)], args := [d1, d2] }
  | _ => none }
def SchemaUndoWrongFalsely : Prop := schemaUndoRow.holds Try.pinned (OpenSpec.ofChange schemaUndoWrong)

/-- 'lintellaw16.BoardTwo': WHATEVER THE INPUT: true; the input reads as it did. -/
def boardTwoSpec : ChangeSpec := { name := "boardTwo", fn := fun _ => fun
  | [d] => { results := [.lit (.bool true)], args := [d] }
  | _ => none }
def boardTwoRow : OpenClaim := { program := "ythepfbcgpbkbdaa", sum := "b57071a831e8143d3072c7ceb28d9c295272bc042c95052f0eefc0f5192703b9", func := "lintel/lintellaw16.BoardTwo", spec := "boardTwo", unfollowed := true, recurses := true, apart := false }
def BoardTwoSaid : Prop := boardTwoRow.holds Try.pinned (OpenSpec.ofChange boardTwoSpec)

/-- ITS FALSE NEIGHBOUR: 'it returns false'. Refute it at one input. -/
def boardTwoWrong : ChangeSpec := { name := "boardTwo", fn := fun _ => fun
  | [d] => { results := [.lit (.bool false)], args := [d] }
  | _ => none }
def BoardTwoWrongFalsely : Prop := boardTwoRow.holds Try.pinned (OpenSpec.ofChange boardTwoWrong)

/-- 'lintellaw16.BoardStill': WHATEVER THE INPUT: true; the input reads as it did. -/
def boardStillSpec : ChangeSpec := { name := "boardStill", fn := fun _ => fun
  | [d] => { results := [.lit (.bool true)], args := [d] }
  | _ => none }
def boardStillRow : OpenClaim := { program := "ythepfbcgpbkbdaa", sum := "b57071a831e8143d3072c7ceb28d9c295272bc042c95052f0eefc0f5192703b9", func := "lintel/lintellaw16.BoardStill", spec := "boardStill", unfollowed := true, recurses := true, apart := false }
def BoardStillSaid : Prop := boardStillRow.holds Try.pinned (OpenSpec.ofChange boardStillSpec)

/-- ITS FALSE NEIGHBOUR: 'it returns false'. Refute it at one input. -/
def boardStillWrong : ChangeSpec := { name := "boardStill", fn := fun _ => fun
  | [d] => { results := [.lit (.bool false)], args := [d] }
  | _ => none }
def BoardStillWrongFalsely : Prop := boardStillRow.holds Try.pinned (OpenSpec.ofChange boardStillWrong)

/- THE SECOND FORM. 'bulk': how many values and letters a reading holds, each counted each time it is reached (what is shared counts as often as it is met; a slice's spare places count too). A statement '..UptoSaid' is the law's where the arguments, and the package variables that the reading takes, are together of bulk at most 1048576: NARROWER than '..Said'. Prove '..Said' where nothing that the law and all that it calls make is longer than what came in: it says more and counts as full. Else prove '..UptoSaid'. A law counts once. -/
mutual
def uptoBulk {H : Type} : DataW H → Nat
  | .lit (.string bytes) => bytes.length + 1
  | .lit _ => 1
  | .nil => 1
  | .ptr d => uptoBulk d + 1
  | .slice elems spare => uptoBulkAll elems + uptoBulkAll spare + 1
  | .agg parts => uptoBulkAll parts + 1
  | .iface _ d => uptoBulk d + 1
  | .map entries => uptoBulkEntries entries + 1
  | .held _ => 1
def uptoBulkAll {H : Type} : List (DataW H) → Nat
  | [] => 0
  | d :: r => uptoBulk d + uptoBulkAll r
def uptoBulkEntries {H : Type} : List (Lit × DataW H) → Nat
  | [] => 0
  | x :: r => uptoBulkEntry x + uptoBulkEntries r
def uptoBulkEntry {H : Type} : Lit × DataW H → Nat
  | (.string bytes, d) => bytes.length + uptoBulk d + 1
  | (_, d) => uptoBulk d + 1
 end
def uptoSmall : (H : Type) → List (DataW H) → Bool := fun _ ds => decide (uptoBulkAll ds ≤ 1048576)
def OpenSpec.upto (s : _root_.Go.ChangeSpec) : _root_.Go.OpenSpec := { _root_.Go.OpenSpec.ofChange s with cond := some uptoSmall }

/-- 'lintellaw15.SchemaTurns', WHERE WHAT IT READS IS OF BULK AT MOST 1048576: true; the input reads as it did. -/
def schemaTurnsUptoRow : OpenClaim := { program := "ythepfbcgpbkbdaa", sum := "b57071a831e8143d3072c7ceb28d9c295272bc042c95052f0eefc0f5192703b9", func := "lintel/lintellaw15.SchemaTurns", spec := "schemaTurns", unfollowed := true, recurses := true, apart := false, narrowed := true }
def SchemaTurnsUptoSaid : Prop := schemaTurnsUptoRow.holds Try.pinned (OpenSpec.upto schemaTurnsSpec)

/-- 'lintellaw15.SchemaChecks', WHERE WHAT IT READS IS OF BULK AT MOST 1048576: true; the input reads as it did. -/
def schemaChecksUptoRow : OpenClaim := { program := "ythepfbcgpbkbdaa", sum := "b57071a831e8143d3072c7ceb28d9c295272bc042c95052f0eefc0f5192703b9", func := "lintel/lintellaw15.SchemaChecks", spec := "schemaChecks", unfollowed := true, recurses := true, apart := false, narrowed := true }
def SchemaChecksUptoSaid : Prop := schemaChecksUptoRow.holds Try.pinned (OpenSpec.upto schemaChecksSpec)

/-- 'lintellaw15.SchemaSeen', WHERE WHAT IT READS IS OF BULK AT MOST 1048576: true; the input reads as it did. -/
def schemaSeenUptoRow : OpenClaim := { program := "ythepfbcgpbkbdaa", sum := "b57071a831e8143d3072c7ceb28d9c295272bc042c95052f0eefc0f5192703b9", func := "lintel/lintellaw15.SchemaSeen", spec := "schemaSeen", unfollowed := true, recurses := true, apart := false, narrowed := true }
def SchemaSeenUptoSaid : Prop := schemaSeenUptoRow.holds Try.pinned (OpenSpec.upto schemaSeenSpec)

/-- 'lintellaw15.SchemaPaths', WHERE WHAT IT READS IS OF BULK AT MOST 1048576: true; the input reads as it did. -/
def schemaPathsUptoRow : OpenClaim := { program := "ythepfbcgpbkbdaa", sum := "b57071a831e8143d3072c7ceb28d9c295272bc042c95052f0eefc0f5192703b9", func := "lintel/lintellaw15.SchemaPaths", spec := "schemaPaths", unfollowed := true, recurses := true, apart := false, narrowed := true }
def SchemaPathsUptoSaid : Prop := schemaPathsUptoRow.holds Try.pinned (OpenSpec.upto schemaPathsSpec)

/-- 'lintellaw15.SchemaSteps', WHERE WHAT IT READS IS OF BULK AT MOST 1048576: true; the input reads as it did. -/
def schemaStepsUptoRow : OpenClaim := { program := "ythepfbcgpbkbdaa", sum := "b57071a831e8143d3072c7ceb28d9c295272bc042c95052f0eefc0f5192703b9", func := "lintel/lintellaw15.SchemaSteps", spec := "schemaSteps", unfollowed := true, recurses := true, apart := false, narrowed := true }
def SchemaStepsUptoSaid : Prop := schemaStepsUptoRow.holds Try.pinned (OpenSpec.upto schemaStepsSpec)

/-- 'lintellaw15.SchemaUndo', WHERE WHAT IT READS IS OF BULK AT MOST 1048576: true; the input reads as it did. -/
def schemaUndoUptoRow : OpenClaim := { program := "ythepfbcgpbkbdaa", sum := "b57071a831e8143d3072c7ceb28d9c295272bc042c95052f0eefc0f5192703b9", func := "lintel/lintellaw15.SchemaUndo", spec := "schemaUndo", unfollowed := true, recurses := true, apart := false, narrowed := true }
def SchemaUndoUptoSaid : Prop := schemaUndoUptoRow.holds Try.pinned (OpenSpec.upto schemaUndoSpec)

/-- 'lintellaw16.BoardTwo', WHERE WHAT IT READS IS OF BULK AT MOST 1048576: true; the input reads as it did. -/
def boardTwoUptoRow : OpenClaim := { program := "ythepfbcgpbkbdaa", sum := "b57071a831e8143d3072c7ceb28d9c295272bc042c95052f0eefc0f5192703b9", func := "lintel/lintellaw16.BoardTwo", spec := "boardTwo", unfollowed := true, recurses := true, apart := false, narrowed := true }
def BoardTwoUptoSaid : Prop := boardTwoUptoRow.holds Try.pinned (OpenSpec.upto boardTwoSpec)

/-- 'lintellaw16.BoardStill', WHERE WHAT IT READS IS OF BULK AT MOST 1048576: true; the input reads as it did. -/
def boardStillUptoRow : OpenClaim := { program := "ythepfbcgpbkbdaa", sum := "b57071a831e8143d3072c7ceb28d9c295272bc042c95052f0eefc0f5192703b9", func := "lintel/lintellaw16.BoardStill", spec := "boardStill", unfollowed := true, recurses := true, apart := false, narrowed := true }
def BoardStillUptoSaid : Prop := boardStillUptoRow.holds Try.pinned (OpenSpec.upto boardStillSpec)

end Rows
end Go.Proofs.Ythepfbcgpbkbdaa
