/-
  Part 23 for the law: lemmas.
  Conditions: none.
-/
import Derived.Test.YtlfdfgokflhdbaaGreatExecReadsK22
set_option linter.unusedVariables false
set_option linter.unusedSimpArgs false
set_option linter.unusedSectionVars false
section
namespace Fw
open Go
theorem mB (a : Addr) (i j : Nat) : (a.add i).add j = a.add (i + j) := by
 unfold Addr.add
 by_cases h1 : i = 0 <;> by_cases h2 : j = 0 <;> simp [h1, h2, Nat.add_assoc]
theorem zI {α : Type} {E : cK α} {s : PH} : ∀ (xs : List α) (ad : Addr), (∀ i x, xs[i]? = some x → s.has (ad.add (i * E.sz)) (E.f x)) → s.has ad (xs.flatMap E.f)
 | [], ad, h => fun i v hv => by simp at hv
 | x :: xs, ad, h => by
  intro j v hv;have h0 := h 0 x rfl;rw [Nat.zero_mul, add_zero] at h0;rw [List.flatMap_cons] at hv;rcases Nat.lt_or_ge j (E.f x).length with q | q
  ·rw [List.getElem?_append_left q] at hv; exact h0 j v hv
  ·rw [List.getElem?_append_right q] at hv
   have := zI xs (ad.add E.sz) (fun i y hy => by
    have := h (i + 1) y (by simpa using hy);rw [mB]
    rwa [show E.sz + i * E.sz = (i + 1) * E.sz by rw [Nat.add_mul]; omega]) _ v hv
   rw [mB, E.len] at this;rw [E.len] at q
   rwa [show E.sz + (j - E.sz) = j by omega] at this
section
variable {α : Type} {R : Rd α} {s s' : PH} {a : OA} {n : Nat} {xs : List α}
end
end Fw
end
