/-
  The framework, part Q: from a law over partial heaps to what a row asks.
  Conditions: none; a library text, it proves no statement by itself.
-/
import Derived.Test.YtdbpockkebabiaaFwP
import Derived.Below
set_option linter.unusedVariables false
namespace Fw
open Go
/-- all that a world knows -/
def whole (w : World) : PH := fun k => w.heap[k]?
theorem calls_of_mod {P : Program} {f : FuncId} {args : Array Value} {w : World} (h : DCalls P f args (whole w) fun v s' => v = .bool true ∧ Mod [] (whole w) s') :
    Calls P f args w fun e w' => e = .returned (.bool true) ∧ RowKit.Below w.heap.size w w' := by
  refine (h w fun _ _ e => e).mono ?_
  rintro e w' ⟨v, s', rfl, hr, rfl, hm⟩
  refine ⟨rfl, hr.os, hr.tape, hr.output, hr.size, fun k hk => ?_⟩
  have e : whole w k = some w.heap[k] := by simp [whole, hk]
  have := hr.sub k _ (hm.at e (by simp))
  rw [this]; simp [hk]
end Fw
