/-
  Part 24 for the law: lemmas.
  Conditions: none.
-/
import Derived.Test.YtlfdfgokflhdbaaGreatExecReadsK23
set_option linter.unusedVariables false
set_option linter.unusedSimpArgs false
set_option linter.unusedSectionVars false
section
namespace Fw
open Go
theorem bu.quiet {P : Program} {f : FuncId} {args : Array Value} {s : PH} {Q : Value → Prop} (h : bu P f args s fun v s' => Q v ∧ Mod [] s s') : bu P f args s fun v s' => Q v ∧ s' = s :=
 bu.weaken (h.mono fun v s' ⟨q, m⟩ => ⟨s, m.le, q, rfl⟩)
theorem ai {k : Nat} (h : k < 4611686018427387904) : IntKind.i64.wrap ((k : Int) + 1) = ((k + 1 : Nat) : Int) := by
 rw [cq (by omega) (by omega)]; simp
theorem cT {P : Program} {g : FuncId} {cap args : Array Value} {r : Bool × List Shape} {k : bR r.2 → W.T} {s : PH} {fn : Func} (hfn : P.funcs[g]? = some fn) (hb : fn.body.isSome = true) (hn : (fn.name == "runtime.NumGoroutine") = false) {Q : Value → PH → Prop}
  (h : bu P g (args ++ cap) s Q) (hk : ∀ v s', Q v s' → ∃ x, gx r x = v ∧ k x s') : W.dR P (.func (.func g) #[] cap) args r k s := by
 refine ⟨g, #[], cap, rfl, ⟨fn, hfn, hb, hn⟩, ?_⟩
 have : (#[] : Array Value) ++ args ++ cap = args ++ cap := by simp
 rw [this]; exact h.mono hk
def aJ {α : Type} (p : α → Bool) : List α → Nat → Int
 | [], _ => -1
 | x :: l, i => if p x then i else aJ p l (i + 1)
theorem ct {α : Type} {l : List α} {k : Nat} {x : α} (h : l[k]? = some x) : l.drop k = x :: l.drop (k + 1) := by
 have hlt := (List.getElem?_eq_some_iff.1 h).1;have := (List.getElem?_eq_some_iff.1 h).2;rw [List.drop_eq_getElem_cons hlt, this]
theorem ec {α : Type} {p : α → Bool} {l : List α} {k : Nat} {x : α} (h : l[k]? = some x) : aJ p (l.drop k) k = if p x then (k : Int) else aJ p (l.drop (k + 1)) (k + 1) := by
 rw [ct h]; (first | done | rfl)
theorem eW {α : Type} {p : α → Bool} {l : List α} {k : Nat} (h : l.length ≤ k) : aJ p (l.drop k) k = -1 := by
 rw [List.drop_eq_nil_of_le h]; (first | done | rfl)
theorem iX {α : Type} {p : α → Bool} : ∀ (l : List α) (i : Nat), (aJ p l i = -1 ∧ ∀ x ∈ l, p x = false) ∨ (∃ j x, aJ p l i = ((i + j : Nat) : Int) ∧ l[j]? = some x ∧ p x = true ∧ ∀ j' y, j' < j → l[j']? = some y → p y = false)
 | [], i => .inl ⟨rfl, by simp⟩
 | x :: l, i => by
  unfold aJ
  by_cases h : p x = true
  ·rw [if_pos h];exact .inr ⟨0, x, rfl, rfl, h, fun j' y h1 => by omega⟩
  ·rw [if_neg h]
   have hf : p x = false := by simpa using h
   rcases iX l (i + 1) with ⟨h1, h2⟩ | ⟨j, y, h1, h2, h3, h4⟩
   ·exact .inl ⟨h1, fun z hz => by rcases List.mem_cons.1 hz with rfl | hz; exact hf; exact h2 z hz⟩
   ·refine .inr ⟨j + 1, y, by rw [h1]; congr 1; omega, by simpa using h2, h3, ?_⟩;intro j' z hj hz
    cases j' with
    | zero => simp at hz; subst hz; exact hf
    | succ j' => exact h4 j' z (by omega) (by simpa using hz)
def Rd.enc {α : Type} (E : cK α) : Rd α where
 sz := E.sz
 is _ cs x := cs = E.f x
 len h := by rw [h]; exact E.len _
 mono _ h := h
theorem elems.imp {α : Type} {R R' : Rd α} {s : PH} {a : OA} {n : Nat} {xs : List α} (h : elems R s a n xs) (hz : R.sz = R'.sz) (hi : ∀ cs x, R.is s cs x → R'.is s cs x) : elems R' s a n xs :=
 ⟨h.1, fun i x hx => by obtain ⟨ad, cs, h1, h2, h3⟩ := h.2 i x hx; exact ⟨ad, cs, h1, hi _ _ h2, by rw [← hz]; exact h3⟩⟩
theorem elems.aA {α : Type} {E : cK α} {s : PH} {a : OA} {n : Nat} {xs : List α} (h : elems (Rd.enc E) s a n xs) {i : Nat} {x : α} (hx : xs[i]? = some x) : ∃ ad, a = some ad ∧ s.has (ad.add (i * E.sz)) (E.f x) := by
 obtain ⟨ad, cs, h1, rfl, h3⟩ := h.2 i x hx;exact ⟨ad, h1, h3⟩
theorem elems.bE {α : Type} {E : cK α} {s : PH} {e : TypeId} {a : OA} {n c : Nat} {xs : List α} (h : bp E s e a n c xs) : elems (Rd.enc E) s a n xs :=
 ⟨h.len, fun i x hx => by
   obtain ⟨g, rfl, hh⟩ := h.at hx
   exact ⟨_, E.f x, rfl, rfl, by rw [bf, Nat.zero_add]; exact hh⟩⟩
theorem elems.kX {α : Type} {E : cK α} {s : PH} {a : OA} {n : Nat} {xs : List α} (h : elems (Rd.enc E) s a n xs) : eF s E.sz (.sl a n) (xs.flatMap E.f) := by
 cases a with
 | none =>
  have : xs = [] := by
   cases xs with
   | nil => rfl
   | cons x xs => obtain ⟨ad, h1, _⟩ := h.aA (i := 0) rfl; cases h1
  subst this;have hn : n = 0 := h.1;subst hn;exact ⟨rfl, by simp⟩
 | some ad =>
  refine ⟨by rw [dV, h.1], zI _ _ fun i x hx => ?_⟩;obtain ⟨ad', h1, h2⟩ := h.aA hx;cases h1; exact h2
theorem IZ {s : PH} {A : Addr} {v : Value} (h : s.cell? A = some v) : s.has A [v] := by
 intro i w hw
 cases i with
 | zero => simp at hw; subst hw; rw [add_zero]; exact h
 | succ i => simp at hw
end Fw
end
