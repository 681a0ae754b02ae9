/-
  Part 24 for the law: lemmas.
  Conditions: none.
-/
import Derived.Test.YtcdggocbjnmeaaaGreatGroupHoldsK23
set_option linter.unusedVariables false
set_option linter.unusedSimpArgs false
set_option linter.unusedSectionVars false
section
namespace Fw
open Go
theorem DCalls.quiet {P : Program} {f : FuncId} {args : Array Value} {s : PH} {Q : Value → Prop} (h : DCalls P f args s fun v s' => Q v ∧ Mod [] s s') : DCalls P f args s fun v s' => Q v ∧ s' = s :=
 DCalls.weaken (h.mono fun v s' ⟨q, m⟩ => ⟨s, m.le, q, rfl⟩)
theorem wrap_succ {k : Nat} (h : k < 4611686018427387904) : IntKind.i64.wrap ((k : Int) + 1) = ((k + 1 : Nat) : Int) := by
 rw [wrap_in (by omega) (by omega)]; simp
theorem drop_some {α : Type} {l : List α} {k : Nat} {x : α} (h : l[k]? = some x) : l.drop k = x :: l.drop (k + 1) := by
 have hlt := (List.getElem?_eq_some_iff.1 h).1
 have := (List.getElem?_eq_some_iff.1 h).2
 rw [List.drop_eq_getElem_cons hlt, this]
def Rd.enc {α : Type} (E : Enc α) : Rd α where
 sz := E.sz
 is _ cs x := cs = E.f x
 len h := by rw [h]; exact E.len _
 mono _ h := h
theorem elems.at_enc {α : Type} {E : Enc α} {s : PH} {a : Option Addr} {n : Nat} {xs : List α} (h : elems (Rd.enc E) s a n xs) {i : Nat} {x : α} (hx : xs[i]? = some x) : ∃ ad, a = some ad ∧ s.has (ad.add (i * E.sz)) (E.f x) := by
 obtain ⟨ad, cs, h1, rfl, h3⟩ := h.2 i x hx
 exact ⟨ad, h1, h3⟩
theorem elems.of_row {α : Type} {E : Enc α} {s : PH} {e : TypeId} {a : Option Addr} {n c : Nat} {xs : List α} (h : rowE E s e a n c xs) : elems (Rd.enc E) s a n xs :=
 ⟨h.len, fun i x hx => by
  obtain ⟨g, rfl, hh⟩ := h.at hx
  exact ⟨_, E.f x, rfl, rfl, by rw [add_mk, Nat.zero_add]; exact hh⟩⟩
theorem has_one {s : PH} {A : Addr} {v : Value} (h : s.cell? A = some v) : s.has A [v] := by
 intro i w hw
 cases i with
 | zero => simp at hw; subst hw; rw [add_zero]; exact h
 | succ i => simp at hw
end Fw
end
