/-
  The framework, part Q: from a law over known heaps to what a row asks.
  Conditions: none; a library text, it proves no statement by itself.
-/
import Derived.Test.YtcdggocbjnmeaaaGreatFwP
import Derived.Below
import Derived.ProofKit
import Derived.OpenShut
import Derived.ChangeSlices
import Derived.SizedLaws
set_option linter.unusedVariables false
namespace Fw
open Go
open Go.ChangeShapes Go.WideShapes Go.ChangeAt Go.RowKit
/-- all that a world knows -/
def whole (w : World) : PH := fun k => w.heap[k]?
theorem calls_of_mod {P : Program} {f : FuncId} {args : Array Value} {w : World} (h : DCalls P f args (whole w) fun v s' => v = .bool true ∧ Mod [] (whole w) s') :
    Calls P f args w fun e w' => e = .returned (.bool true) ∧ RowKit.Below w.heap.size w w' := by
  refine (h w fun _ _ e => e).mono ?_
  rintro e w' ⟨v, s', rfl, hr, rfl, hm⟩
  refine ⟨rfl, hr.os, hr.tape, hr.output, hr.size, fun k hk => ?_⟩
  have e : whole w k = some w.heap[k] := by simp [whole, hk]
  have := hr.sub k _ (hm.at e (by simp))
  rw [this]; simp [hk]
theorem whole_cell (w : World) (a : Addr) : (whole w).cell? a = w.cell? a := rfl

theorem open_intsAt {H : Type} {enc : TypeId × Value → H} {P : Program} {W : World} {base : Nat} {t e : TypeId} {v : Value} {d : DataW H} {ps : List MemPlace}
    (ht : P.underlying t = some (.slice e)) (he : P.underlying e = some (.int .i64)) (hc : P.cellsOf e = 1) (hval : Value.okWide P W .any base t v) (hd : DataW.Trod enc P W 0 (fun _ => true) true t v d ps) :
    ∃ a n c l, v = .slice a n c ∧ intsAt (whole W) a n l ∧ n ≤ c ∧ ((d.weights P t).all (· ≤ reachBytes) = true → n * P.bytesOf e ≤ reachBytes) := by
  obtain ⟨a, n, c, rfl⟩ := okWide_slice ht hval
  obtain ⟨fuel, hf⟩ := hd
  rcases open_ints ht he hc hf with ⟨hcs, _⟩ | ⟨x, l, c', zs, hcs, _, hl, hm, hz, hx, hcell, hwz⟩
  · simp [Value.cells] at hcs
    obtain ⟨rfl, rfl, rfl⟩ := hcs
    exact ⟨none, 0, 0, [], rfl, ⟨rfl, by simp⟩, Nat.le_refl _, fun _ => by omega⟩
  · simp [Value.cells] at hcs
    obtain ⟨rfl, rfl, rfl⟩ := hcs
    have hz : zs.length = c := by simpa using hz
    refine ⟨_, n, c, zs.take n, rfl, ⟨by simp; omega, ?_⟩, hl, ?_⟩
    · intro i y hy
      refine ⟨x, rfl, ?_⟩
      have hi : i < n := by
        have := (List.getElem?_eq_some_iff.1 hy).1
        simp at this; omega
      rw [List.getElem?_take_of_lt hi] at hy
      rw [whole_cell, hcell i (by omega)]
      simp [List.getD, hy]
    · intro h
      simp only [Prod.mk.injEq] at hx
      rw [hx.1] at h
      simp only [DataW.weights, ht, List.all_cons, Bool.and_eq_true, decide_eq_true_eq] at h
      have h1 := h.1
      have e1 : (lits (H := H) .i64 (zs.take n)).length + (lits (H := H) .i64 (zs.drop n)).length = c := by simp [lits]; omega
      rw [e1] at h1
      exact Nat.le_trans (Nat.mul_le_mul_right _ hl) h1
end Fw
