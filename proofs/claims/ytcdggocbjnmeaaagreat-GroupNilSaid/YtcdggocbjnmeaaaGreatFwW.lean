/-
  The framework, part W: what is only read; places in lists.
  Conditions: none; a library text, it proves no statement by itself.
-/
import Derived.Test.YtcdggocbjnmeaaaGreatFwV
set_option linter.unusedVariables false
set_option linter.unusedSectionVars false
set_option linter.unusedSimpArgs false
namespace Fw
open Go

/-- new blocks that nobody asks for are forgotten -/
theorem DCalls.quiet {P : Program} {f : FuncId} {args : Array Value} {s : PH} {Q : Value → Prop} (h : DCalls P f args s fun v s' => Q v ∧ Mod [] s s') : DCalls P f args s fun v s' => Q v ∧ s' = s :=
  DCalls.weaken (h.mono fun v s' ⟨q, m⟩ => ⟨s, m.le, q, rfl⟩)
theorem wrap_succ {k : Nat} (h : k < 4611686018427387904) : IntKind.i64.wrap ((k : Int) + 1) = ((k + 1 : Nat) : Int) := by
  rw [wrap_in (by omega) (by omega)]; simp
theorem callV_of' {P : Program} {g : FuncId} {cap args : Array Value} {r : Bool × List Shape} {k : MDen r.2 → W.T} {s : PH} {fn : Func} (hfn : P.funcs[g]? = some fn) (hb : fn.body.isSome = true) (hn : (fn.name == "runtime.NumGoroutine") = false) {Q : Value → PH → Prop}
    (h : DCalls P g (args ++ cap) s Q) (hk : ∀ v s', Q v s' → ∃ x, mkRes r x = v ∧ k x s') : W.callV P (.func (.func g) #[] cap) args r k s := by
  refine ⟨g, #[], cap, rfl, ⟨fn, hfn, hb, hn⟩, ?_⟩
  have : (#[] : Array Value) ++ args ++ cap = args ++ cap := by simp
  rw [this]; exact h.mono hk

/-- where the first one stands that p lets by; -1: nowhere -/
def seek {α : Type} (p : α → Bool) : List α → Nat → Int
  | [], _ => -1
  | x :: l, i => if p x then i else seek p l (i + 1)
theorem drop_some {α : Type} {l : List α} {k : Nat} {x : α} (h : l[k]? = some x) : l.drop k = x :: l.drop (k + 1) := by
  have hlt := (List.getElem?_eq_some_iff.1 h).1
  have := (List.getElem?_eq_some_iff.1 h).2
  rw [List.drop_eq_getElem_cons hlt, this]
theorem seek_step {α : Type} {p : α → Bool} {l : List α} {k : Nat} {x : α} (h : l[k]? = some x) : seek p (l.drop k) k = if p x then (k : Int) else seek p (l.drop (k + 1)) (k + 1) := by
  rw [drop_some h]; rfl
theorem seek_end {α : Type} {p : α → Bool} {l : List α} {k : Nat} (h : l.length ≤ k) : seek p (l.drop k) k = -1 := by
  rw [List.drop_eq_nil_of_le h]; rfl
theorem seek_spec {α : Type} {p : α → Bool} : ∀ (l : List α) (i : Nat), (seek p l i = -1 ∧ ∀ x ∈ l, p x = false) ∨ (∃ j x, seek p l i = ((i + j : Nat) : Int) ∧ l[j]? = some x ∧ p x = true ∧ ∀ j' y, j' < j → l[j']? = some y → p y = false)
  | [], i => .inl ⟨rfl, by simp⟩
  | x :: l, i => by
    unfold seek
    by_cases h : p x = true
    · rw [if_pos h]
      exact .inr ⟨0, x, rfl, rfl, h, fun j' y h1 => by omega⟩
    · rw [if_neg h]
      have hf : p x = false := by simpa using h
      rcases seek_spec l (i + 1) with ⟨h1, h2⟩ | ⟨j, y, h1, h2, h3, h4⟩
      · exact .inl ⟨h1, fun z hz => by rcases List.mem_cons.1 hz with rfl | hz; exact hf; exact h2 z hz⟩
      · refine .inr ⟨j + 1, y, by rw [h1]; congr 1; omega, by simpa using h2, h3, ?_⟩
        intro j' z hj hz
        cases j' with
        | zero => simp at hz; subst hz; exact hf
        | succ j' => exact h4 j' z (by omega) (by simpa using hz)
theorem seek_range {α : Type} {p : α → Bool} {l : List α} : -1 ≤ seek p l 0 ∧ (seek p l 0 : Int) < l.length ∨ l = [] := by
  rcases seek_spec (p := p) l 0 with ⟨h, _⟩ | ⟨j, x, h, h2, _⟩
  · by_cases hl : l = []
    · exact .inr hl
    · have : 0 < l.length := List.length_pos_iff.2 hl
      exact .inl ⟨by omega, by omega⟩
  · have := (List.getElem?_eq_some_iff.1 h2).1
    exact .inl ⟨by omega, by omega⟩
/-- values of a kind whose cells are all there is -/
def Rd.enc {α : Type} (E : Enc α) : Rd α where
  sz := E.sz
  is _ cs x := cs = E.f x
  len h := by rw [h]; exact E.len _
  mono _ h := h
theorem Rd.enc_ones {α : Type} {E : Enc α} : (Rd.enc E).Ones := by rintro s cs x rfl v hv; exact E.one x v hv
theorem elems.imp {α : Type} {R R' : Rd α} {s : PH} {a : Option Addr} {n : Nat} {xs : List α} (h : elems R s a n xs) (hz : R.sz = R'.sz) (hi : ∀ cs x, R.is s cs x → R'.is s cs x) : elems R' s a n xs :=
  ⟨h.1, fun i x hx => by obtain ⟨ad, cs, h1, h2, h3⟩ := h.2 i x hx; exact ⟨ad, cs, h1, hi _ _ h2, by rw [← hz]; exact h3⟩⟩
theorem elems.at_enc {α : Type} {E : Enc α} {s : PH} {a : Option Addr} {n : Nat} {xs : List α} (h : elems (Rd.enc E) s a n xs) {i : Nat} {x : α} (hx : xs[i]? = some x) : ∃ ad, a = some ad ∧ s.has (ad.add (i * E.sz)) (E.f x) := by
  obtain ⟨ad, cs, h1, rfl, h3⟩ := h.2 i x hx
  exact ⟨ad, h1, h3⟩
theorem elems.of_row {α : Type} {E : Enc α} {s : PH} {e : TypeId} {a : Option Addr} {n c : Nat} {xs : List α} (h : rowE E s e a n c xs) : elems (Rd.enc E) s a n xs :=
  ⟨h.len, fun i x hx => by
    obtain ⟨g, rfl, hh⟩ := h.at hx
    exact ⟨_, E.f x, rfl, rfl, by rw [add_mk, Nat.zero_add]; exact hh⟩⟩
theorem elems.src_enc {α : Type} {E : Enc α} {s : PH} {a : Option Addr} {n : Nat} {xs : List α} (h : elems (Rd.enc E) s a n xs) : srcIs s E.sz (.sl a n) (xs.flatMap E.f) := by
  cases a with
  | none =>
    have : xs = [] := by
      cases xs with
      | nil => rfl
      | cons x xs => obtain ⟨ad, h1, _⟩ := h.at_enc (i := 0) rfl; cases h1
    subst this
    have hn : n = 0 := h.1
    subst hn
    exact ⟨rfl, by simp⟩
  | some ad =>
    refine ⟨by rw [flat_len, h.1], has_flat _ _ fun i x hx => ?_⟩
    obtain ⟨ad', h1, h2⟩ := h.at_enc hx
    cases h1; exact h2
theorem has_one {s : PH} {A : Addr} {v : Value} (h : s.cell? A = some v) : s.has A [v] := by
  intro i w hw
  cases i with
  | zero => simp at hw; subst hw; rw [add_zero]; exact h
  | succ i => simp at hw
end Fw
