/-
  Part 23 for the law: lemmas.
  Conditions: none.
-/
import Derived.Test.YtlfdfgokflhdbaaGreatExecSplitsK22
set_option linter.unusedVariables false
set_option linter.unusedSimpArgs false
set_option linter.unusedSectionVars false
section
namespace Fw
open Go
abbrev Raw (sz : Nat) : Type := { cs : List Value // cs.length = sz ∧ ∀ v ∈ cs, v.oneCell' = true }
def zC (sz : Nat) (h : 0 < sz) : cG (Raw sz) where
 sz := sz
 f c := c.1
 len c := c.2.1
 one c := c.2.2
 pos := h
theorem jP (a : Addr) (i j : Nat) : (a.add i).add j = a.add (i + j) := by
 unfold Addr.add
 by_cases h1 : i = 0 <;> by_cases h2 : j = 0 <;> simp [h1, h2, Nat.add_assoc]
theorem sq {α : Type} {E : cG α} {s : PH} : ∀ (xs : List α) (ad : Addr), (∀ i x, xs[i]? = some x → s.has (ad.add (i * E.sz)) (E.f x)) → s.has ad (xs.flatMap E.f)
 | [], ad, h => fun i v hv => by simp at hv
 | x :: xs, ad, h => by
  intro j v hv
  have h0 := h 0 x rfl
  rw [Nat.zero_mul, add_zero] at h0
  rw [List.flatMap_cons] at hv
  rcases Nat.lt_or_ge j (E.f x).length with q | q
  ·rw [List.getElem?_append_left q] at hv; exact h0 j v hv
  ·rw [List.getElem?_append_right q] at hv
   have := sq xs (ad.add E.sz) (fun i y hy => by
    have := h (i + 1) y (by simpa using hy)
    rw [jP]
    rwa [show E.sz + i * E.sz = (i + 1) * E.sz by rw [Nat.add_mul]; omega]) _ v hv
   rw [jP, E.len] at this
   rw [E.len] at q
   rwa [show E.sz + (j - E.sz) = j by omega] at this
section
variable {α : Type} {R : Rd α} {s s' : PH} {a : Option Addr} {n : Nat} {xs : List α}
def Rd.IT (R : Rd α) : Prop := ∀ s cs x, R.is s cs x → ∀ v ∈ cs, v.oneCell' = true
theorem elems.raw (h : elems R s a n xs) (h1 : R.IT) (hp : 0 < R.sz) : ∃ cs : List (Raw R.sz), cs.length = n ∧ (∀ (i : Nat) (x : α), xs[i]? = some x → ∃ c : Raw R.sz, cs[i]? = some c ∧ R.is s c.1 x) ∧ dM s R.sz (.sl a n) (cs.flatMap (zC R.sz hp).f) := by
 obtain ⟨hn, h⟩ := h
 cases a with
 | none =>
  have : xs = [] := by
   cases xs with
   | nil => rfl
   | cons x xs => obtain ⟨ad, cs, e, _⟩ := h 0 x rfl; cases e
  subst this
  have hn : n = 0 := hn
  subst hn
  exact ⟨[], rfl, fun i x hx => by simp at hx, rfl, by simp⟩
 | some ad =>
  have H : ∀ i : Fin n, ∃ c : Raw R.sz, (∀ x, xs[i.1]? = some x → R.is s c.1 x) ∧ s.has (ad.add (i.1 * R.sz)) c.1 := by
   intro i
   have hi : i.1 < xs.length := by have := i.2; omega
   obtain ⟨ad', cs, e, g1, g2⟩ := h i.1 _ (List.getElem?_eq_getElem hi)
   cases e
   refine ⟨⟨cs, R.len g1, h1 _ _ _ g1⟩, fun x hx => ?_, g2⟩
   rw [List.getElem?_eq_getElem hi] at hx; cases hx; exact g1
  refine ⟨List.ofFn fun i : Fin n => Classical.choose (H i), List.length_ofFn, ?_, ?_⟩
  ·intro i x hx
   have hi : i < n := by have := (List.getElem?_eq_some_iff.1 hx).1; omega
   refine ⟨Classical.choose (H ⟨i, hi⟩), by rw [List.getElem?_ofFn, dif_pos hi], (Classical.choose_spec (H ⟨i, hi⟩)).1 x hx⟩
  ·refine ⟨by rw [dz, List.length_ofFn]; (first | done | rfl), sq _ _ fun i c hc => ?_⟩
   rw [List.getElem?_ofFn] at hc
   split at hc
   ·rename_i hi
    cases hc
    exact (Classical.choose_spec (H ⟨i, hi⟩)).2
   ·cases hc
theorem elems.copy (h : elems R s a n xs) (h1 : R.IT) (hp : 0 < R.sz) {e : TypeId} {bytes : Nat} {zero : List Value} (hz : zero.length = R.sz) (hl : n ≤ 1099511627776) (hb : n * bytes ≤ 140737488355328) {K : Option Addr → Nat → Nat → W.T}
  (hK : ∀ g c' s', elems R s' (some ⟨g, 0, none⟩) n xs → n ≤ c' → Mod [] s s' → s g = none → (∃ cs : List (Raw R.sz), aW (zC R.sz hp) s' e (some ⟨g, 0, none⟩) n c' cs) → K (some ⟨g, 0, none⟩) n c' s') :
  W.nw (.cells #[] e (0, 0)) (fun r => W.app e R.sz bytes zero (some ⟨r, 0, none⟩) 0 0 (.sl a n) K) s := by
 obtain ⟨cs, hc1, hc2, hc3⟩ := h.raw h1 hp
 intro r hr
 have m1 : Mod [] s (s.aM r (.cells #[] e (0, 0))) := Mod.new hr
 have hmax : maxLen = 9223372036854775807 := rfl
 have hsrc : dM (s.aM r (.cells #[] e (0, 0))) R.sz (.sl a n) (cs.flatMap (zC R.sz hp).f) := by
  cases a with
  | none => exact hc3
  | some a => exact ⟨hc3.1, hc3.2.mono m1.le⟩
 have hnil : aW (zC R.sz hp) (s.aM r (.cells #[] e (0, 0))) e (some ⟨r, 0, none⟩) 0 0 ([] : List (Raw R.sz)) := ⟨by simp, Nat.le_refl _, Nat.zero_le _, .inr ⟨r, _, rfl, PH.bA _ _ _, by simp, by simp⟩⟩
 refine fP (E := zC R.sz hp) (k := n) (ys := cs) hnil hz hsrc rfl hc1 (by omega) (by simpa using hb) ?_
 intro a' c' s2 hrow hm
 simp only [List.nil_append, Nat.zero_add] at hrow ⊢
 have hM : Mod [] s s2 ∧ ∃ g, a' = some ⟨g, 0, none⟩ ∧ s g = none := by
  rcases hm with ⟨rfl, hm⟩ | ⟨g, rfl, hg, hm⟩
  ·exact ⟨m1.fresh hm (by simp [Fw.aH, hr]), r, rfl, hr⟩
  ·exact ⟨m1.trans hm, g, rfl, m1.none hg (by simp)⟩
 obtain ⟨m2, g, rfl, hg⟩ := hM
 refine hK g c' s2 ⟨h.1, fun i x hx => ?_⟩ hrow.le m2 hg ⟨cs, hrow⟩
 obtain ⟨c, hc, hi⟩ := hc2 i x hx
 obtain ⟨g', hg', hh⟩ := hrow.at hc
 cases hg'
 refine ⟨_, c.1, rfl, R.mono m2.le hi, ?_⟩
 rw [aY, Nat.zero_add]; exact hh
end
end Fw
end
