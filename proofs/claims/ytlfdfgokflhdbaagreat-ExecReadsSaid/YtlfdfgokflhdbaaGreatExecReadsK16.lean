/-
  Part 16 for the law: lemmas.
  Conditions: none.
-/
import Derived.Test.YtlfdfgokflhdbaaGreatExecReadsK15
set_option linter.unusedVariables false
set_option linter.unusedSimpArgs false
set_option linter.unusedSectionVars false
section
namespace Fw
open Go
open Go.ChangeShapes Go.WideShapes Go.ChangeAt Go.RowKit
def whole (w : World) : PH := fun k => w.heap[k]?
theorem zi {P : Program} {f : FuncId} {args : Array Value} {w : World} (h : bu P f args (whole w) fun v s' => v = .bool true ∧ Mod [] (whole w) s') :
  Calls P f args w fun e w' => e = .returned (.bool true) ∧ RowKit.Below w.heap.size w w' := by
 refine (h w fun _ _ e => e).mono ?_;rintro e w' ⟨v, s', rfl, hr, rfl, hm⟩;refine ⟨rfl, hr.os, hr.tape, hr.output, hr.size, fun k hk => ?_⟩
 have e : whole w k = some w.heap[k] := by simp [whole, hk]
 have := hr.sub k _ (hm.at e (by simp));rw [this]; simp [hk]
theorem D1 (w : World) (a : Addr) : (whole w).cell? a = w.cell? a := rfl
end Fw
end
