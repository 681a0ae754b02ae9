/-
  Part 17 for the law: lemmas.
  Conditions: none.
-/
import Derived.Test.YtlfdfgokflhdbaaGreatExecReadsK16
set_option linter.unusedVariables false
set_option linter.unusedSimpArgs false
set_option linter.unusedSectionVars false
section
namespace Fw
open Go
theorem KC {s : PH} {r r2 : Nat} {o : Obj} (h : s r = some o) (hne : r ≠ r2) : ∀ x, (s.aS r2 x) r = some o := fun x => by rw [PH.bG _ _ hne]; exact h
theorem HY (v : Value) (n : Nat) : Builtin.zeroCells #[v] n = (List.replicate n v).toArray := by
 unfold Builtin.zeroCells;apply Array.ext';simp only [Array.toList_map, Array.toList_range, List.size_toArray, List.length_cons, List.length_nil, Nat.zero_add, Nat.mul_one];apply List.ext_getElem?;intro i;rw [List.getElem?_map, List.getElem?_replicate]
 by_cases h : i < n
 ·rw [List.getElem?_range h, if_pos h]; simp [Nat.mod_one]
 ·rw [List.getElem?_eq_none (by simpa using h), if_neg h]; (first | done | rfl)
@[simp] def B8 (c : Array Value) (off n : Nat) : Option (List Value) := if off + n ≤ c.size then some ((c.toList.drop off).take n) else none
namespace W
theorem aB {s : PH} {b : Nat} {c : Array Value} {e : TypeId} {f : Nat × Nat} (h : s b = some (.cells c e f)) (t : CT) (cs : List CT) (off : Nat) (k : Den (t :: cs) → T) :
  ld (t :: cs) ⟨b, off, none⟩ k s ↔ ∃ x, (B8 c off (cs.length + 1)).bind (ee (t :: cs)) = some x ∧ k x s := by
 rw [bC]; simp [h]
theorem dU {s : PH} {b : Nat} {c : Array Value} {e : TypeId} {f : Nat × Nat} (h : s b = some (.cells c e f)) (v : Value) (vs : List Value) (off : Nat) (k : T) :
  st ⟨b, off, none⟩ (v :: vs) k s ↔ off + (v :: vs).length ≤ c.size ∧ zE f off (v :: vs).length ∧ (∀ w ∈ v :: vs, w.oneCell' = true) ∧ k (s.aS b (.cells (gh c off (v :: vs)) e f)) := by
 rw [bA]; simp [h]
theorem still_at {s : PH} {b : Nat} {c : Array Value} {e : TypeId} {f : Nat × Nat} (h : s b = some (.cells c e f)) (t : CT) (cs : List CT) (off : Nat) (x : Den (t :: cs)) (k : T) :
  still (t :: cs) ⟨b, off, none⟩ x k s ↔ (B8 c off (cs.length + 1)).bind (ee (t :: cs)) = some x ∧ k s := by
 rw [FN]
 constructor
 ·rintro ⟨h1, h2⟩;refine ⟨?_, h2⟩;have := PH.EL (v := t.val x.1) (vs := vals cs x.2) h1;rw [lp] at this;simp only [PH.rd, h, true_and] at this;simp only [B8, this];exact kF (cs := t :: cs)
 ·rintro ⟨h1, h2⟩;refine ⟨?_, h2⟩
  have : s.rd ⟨b, off, none⟩ (cs.length + 1) = B8 c off (cs.length + 1) := by simp [h]
  rw [← this] at h1
  cases hr : s.rd ⟨b, off, none⟩ (cs.length + 1) with
  | none => rw [hr] at h1; simp at h1
  | some vs => rw [hr] at h1; rw [gE h1]; exact (PH.FB hr).2
theorem cr {P : Program} {f : FuncId} {args : Array Value} {r : Bool × List Shape} {k : bR r.2 → T} {s : PH} {v0 : Value} (x : bR r.2) (h : bu P f args s fun v s' => v = v0 ∧ s' = s) (hx : gx r x = v0) (hk : k x s) : cy P f args r k s :=
 ⟨x, h.mono fun v s' ⟨e1, e2⟩ => ⟨hx.trans e1.symm, e2⟩, hk⟩
theorem bK {o : Obj} {k : Nat → T} {s : PH} (h : ∀ r s1, s r = none → Mod [] s s1 → s1 r = some o → k r s1) : nw o k s := fun r hr => h r _ hr (Mod.new hr) (PH.bB _ _ _)
@[simp] theorem mD (x y : T) (s : PH) : both x y s ↔ x s ∧ y s := Iff.rfl
@[simp] theorem Lv (s : PH) (b : Nat) (c : Array Value) (e : TypeId) (f : Nat × Nat) (t : CT) (cs : List CT) (off : Nat) (k : Den (t :: cs) → T) :
  ld (t :: cs) ⟨b, off, none⟩ k (s.aS b (.cells c e f)) ↔ ∃ x, (B8 c off (cs.length + 1)).bind (ee (t :: cs)) = some x ∧ k x (s.aS b (.cells c e f)) := aB (PH.bB _ _ _) t cs off k
@[simp] theorem Lz (s : PH) (b : Nat) (c : Array Value) (e : TypeId) (f : Nat × Nat) (v : Value) (vs : List Value) (off : Nat) (k : T) :
  st ⟨b, off, none⟩ (v :: vs) k (s.aS b (.cells c e f)) ↔ off + (v :: vs).length ≤ c.size ∧ zE f off (v :: vs).length ∧ (∀ w ∈ v :: vs, w.oneCell' = true) ∧ k (s.aS b (.cells (gh c off (v :: vs)) e f)) := by
 rw [dU (PH.bB _ _ _), PH.wB]
end W
def row (s : PH) (e : TypeId) (sz : Nat) (a : OA) (n c : Nat) (vs : List Value) : Prop :=
 vs.length = n * sz ∧ n ≤ c ∧ c ≤ maxLen ∧ ((a = none ∧ n = 0 ∧ c = 0) ∨ ∃ g cur, a = some ⟨g, 0, none⟩ ∧ s g = some (.cells cur e (0, 0)) ∧ c * sz ≤ cur.size ∧ cur.toList.take (n * sz) = vs)
def aU (a : OA) : List Nat := match a with | some x => [x.block] | none => []
section
variable {s s' : PH} {e : TypeId} {sz n c : Nat} {a : OA} {vs : List Value}
theorem row.nil : row s e sz none 0 0 [] := ⟨by simp, Nat.le_refl _, Nat.zero_le _, .inl ⟨rfl, rfl, rfl⟩⟩
theorem row.mod {L : List Nat} (h : row s e sz a n c vs) (hm : Mod L s s') (hl : ∀ x ∈ aU a, x ∉ L) : row s' e sz a n c vs := by
 obtain ⟨h1, h2, h3, h4 | ⟨g, cur, rfl, hg, r⟩⟩ := h
 ·exact ⟨h1, h2, h3, .inl h4⟩
 ·exact ⟨h1, h2, h3, .inr ⟨g, cur, rfl, hm.at hg (hl g (by simp [aU])), r⟩⟩
theorem row.known (h : row s e sz a n c vs) : ∀ x ∈ aU a, s x ≠ none := by
 obtain ⟨h1, h2, h3, ⟨rfl, _⟩ | ⟨g, cur, rfl, hg, r⟩⟩ := h
 ·simp [aU]
 ·intro x hx; simp [aU] at hx; subst hx; simp [hg]
theorem row.cell (h : row s e sz a n c vs) {i : Nat} {v : Value} (hv : vs[i]? = some v) : ∃ g, a = some ⟨g, 0, none⟩ ∧ s.cell? ⟨g, i, none⟩ = some v := by
 obtain ⟨h1, h2, h3, ⟨rfl, rfl, rfl⟩ | ⟨g, cur, rfl, hg, hc, ht⟩⟩ := h
 ·have : vs = [] := List.length_eq_zero_iff.1 (by simpa using h1);subst this; simp at hv
 ·refine ⟨g, rfl, ?_⟩;have hi := (List.getElem?_eq_some_iff.1 hv).1
  have : (cur.toList.take (n * sz))[i]? = some v := by rw [ht]; exact hv
  rw [List.getElem?_take_of_lt (by omega), Array.getElem?_toList] at this;unfold PH.cell?;dsimp only;rw [hg]; exact this
theorem row.src (h : row s e sz a n c vs) {i m : Nat} (hm : i + m ≤ n) : eF s sz (.sl (if c = i then a else a.map (·.add (i * sz))) m) ((vs.drop (i * sz)).take (m * sz)) := by
 have hl : i * sz + m * sz ≤ vs.length := by
  rw [h.1, ← Nat.add_mul]; exact Nat.mul_le_mul_right _ hm
 have hlen : ((vs.drop (i * sz)).take (m * sz)).length = m * sz := by simp; omega
 by_cases h0 : (vs.drop (i * sz)).take (m * sz) = []
 ·have hz : m * sz = 0 := by rw [← hlen, h0]; (first | done | rfl)
  rw [h0]
  generalize (if c = i then a else a.map (·.add (i * sz))) = x
  cases x with
  | none => exact ⟨rfl, hz⟩
  | some x => exact ⟨by simp [hz], fun j v hv => by simp at hv⟩
 ·have hpos : 0 < m * sz := by
   rcases Nat.eq_zero_or_pos (m * sz) with q | q
   ·exact absurd (List.length_eq_zero_iff.1 (by rw [hlen]; exact q)) h0
   ·exact q
  have hm0 : 0 < m := by
   rcases Nat.eq_zero_or_pos m with q | q
   ·subst q; simp at hpos
   ·exact q
  obtain ⟨v0, hv0⟩ : ∃ v, vs[i * sz]? = some v := ⟨_, List.getElem?_eq_getElem (by omega)⟩
  obtain ⟨g, rfl, _⟩ := h.cell hv0
  have hci : c ≠ i := by have := h.2.1; omega
  rw [if_neg hci];refine ⟨hlen, ?_⟩;intro j v hv;have hj := (List.getElem?_eq_some_iff.1 hv).1;rw [hlen] at hj;rw [List.getElem?_take_of_lt hj, List.getElem?_drop] at hv;obtain ⟨g', hg', hcell⟩ := h.cell hv;cases hg'
  show s.cell? (((Addr.mk g 0 none).add (i * sz)).add j) = _
  rw [bf, bf, Nat.zero_add]; exact hcell
theorem Iw {bytes k : Nat} {zero : List Value} {src : Src} {news : List Value} {K : OA → Nat → Nat → W.T} (h : row s e sz a n c vs) (hz : zero.length = sz) (hs : eF s sz src news) (hk : src.len = k) (hn : news.length = k * sz)
  (h1 : ∀ v ∈ news, v.oneCell' = true) (hl : n + k ≤ maxLen) (hb : (n + k) * bytes ≤ 140737488355328)
  (hK : ∀ a' c' s', row s' e sz a' (n + k) c' (vs ++ news) → (a' = a ∧ Mod (aU a) s s' ∨ ∃ g, a' = some ⟨g, 0, none⟩ ∧ s g = none ∧ Mod [] s s') → K a' (n + k) c' s') : W.app e sz bytes zero a n c src K s := by
 subst hk;refine ⟨vs, news, ?_, hs, h1, hl, hb, ?_, ?_⟩
 ·have := h.src (i := 0) (m := n) (by omega);rw [Nat.zero_mul, List.drop_zero, List.take_of_length_le (by rw [h.1]; exact Nat.le_refl _)] at this;rcases h with ⟨g1, g2, g3, ⟨rfl, rfl, rfl⟩ | ⟨g, cur, rfl, hg, hc, ht⟩⟩
  ·simpa using this
  ·by_cases hc0 : c = 0
   ·rw [if_pos hc0] at this; exact this
   ·rw [if_neg hc0] at this;simpa [add_zero] using this
 ·intro hle;rcases h with ⟨g1, g2, g3, ⟨rfl, rfl, rfl⟩ | ⟨g, cur, rfl, hg, hc, ht⟩⟩
  ·have hk0 : src.len = 0 := by omega
   have hn0 : news = [] := List.length_eq_zero_iff.1 (by rw [hn, hk0]; simp);have hv0 : vs = [] := List.length_eq_zero_iff.1 (by simpa using g1);refine hK _ _ _ ⟨?_, by omega, by omega, .inl ⟨rfl, by omega, rfl⟩⟩ (.inl ⟨rfl, Mod.refl _ _⟩);rw [hn0, hv0, hk0]; simp
  ·have hle2 : n * sz + news.length ≤ cur.size := by rw [hn, ← Nat.add_mul]; exact Nat.le_trans (Nat.mul_le_mul_right _ hle) hc
   refine ⟨?_, ?_⟩
   ·rw [bf, Nat.zero_add];intro i hi;rw [bf];refine ⟨?_, ?_⟩
    ·unfold PH.cell?; dsimp only; rw [hg]
     have : n * sz + i < cur.size := by omega
     simp [this]
    ·unfold PH.frozen?; dsimp only; rw [hg]; simp
   ·rw [bf, Nat.zero_add]
    have hrow : ∀ cur', cur'.size = cur.size → cur'.toList.take ((n + src.len) * sz) = vs ++ news → row (s.aS g (.cells cur' e (0, 0))) e sz (some ⟨g, 0, none⟩) (n + src.len) c (vs ++ news) := fun cur' hsz ht' =>
     ⟨by rw [List.length_append, g1, hn, Nat.add_mul], hle, g3, .inr ⟨g, cur', rfl, PH.bB _ _ _, by rw [hsz]; exact hc, ht'⟩⟩
    cases news with
    | nil =>
     have hk0 : src.len * sz = 0 := by simpa using hn.symm
     refine hK _ _ _ ?_ (.inl ⟨rfl, Mod.refl _ _⟩);refine ⟨by rw [List.length_append, g1, hn, Nat.add_mul], hle, g3, .inr ⟨g, cur, rfl, hg, hc, ?_⟩⟩;rw [Nat.add_mul, hk0, Nat.add_zero, ht, List.append_nil]
    | cons v news =>
     rw [PH.jU (e := e) (f := (0, 0)) rfl (v :: news) 0 cur s hg (by simp)];refine hK _ _ _ ?_ (.inl ⟨rfl, Mod.aS (by simp [aU])⟩);refine hrow _ (eJ _ _ _) ?_
     have key : ∀ (l : List Value) (cc : Array Value) (i : Nat), i + l.length ≤ cc.size → (gh cc i l).toList.take (i + l.length) = cc.toList.take i ++ l := by
      intro l
      induction l with
      | nil => intro cc i _; simp [gh]
      | cons x l ih =>
       intro cc i hi;simp only [List.length_cons] at hi ⊢;have := ih (cc.setIfInBounds i x) (i + 1) (by simp; omega);simp only [gh];rw [show i + (l.length + 1) = i + 1 + l.length by omega, this]
       have hlt : i < cc.size := by omega
       rw [Array.toList_setIfInBounds, List.take_add_one, List.getElem?_set_self (by simpa using hlt), List.take_set_of_le (Nat.le_refl _)];simp
     have := key (v :: news) cur (n * sz) hle2;rw [hn] at this;rw [Nat.add_mul];simp only [Nat.add_zero];rw [this, ht]
 ·intro hlt b' c' hb' hc1 hc2;refine hK _ _ _ ⟨by rw [List.length_append, h.1, hn, Nat.add_mul], hc1, hc2, .inr ⟨b', _, rfl, PH.bB _ _ _, ?_, ?_⟩⟩ (.inr ⟨b', rfl, hb', Mod.new hb'⟩)
  ·have e1 : (Builtin.zeroCells zero.toArray (c' - (n + src.len))).size = (c' - (n + src.len)) * sz := by simp [Builtin.zeroCells, hz]
   simp only [Array.size_append, List.size_toArray, e1, h.1, hn];rw [← Nat.add_mul, ← Nat.add_mul];exact Nat.mul_le_mul_right _ (by omega)
  ·simp only [Array.toList_append];rw [List.take_append_of_le_length (by simp [h.1, hn, Nat.add_mul])];rw [List.take_of_length_le (by simp [h.1, hn, Nat.add_mul])]
end
structure cK (α : Type) where
 sz : Nat
 f : α → List Value
 len : ∀ x, (f x).length = sz
 one : ∀ x, ∀ v ∈ f x, v.oneCell' = true
 pos : 0 < sz
def bp {α : Type} (E : cK α) (s : PH) (e : TypeId) (a : OA) (n c : Nat) (xs : List α) : Prop := row s e E.sz a n c (xs.flatMap E.f)
section
variable {α : Type} {E : cK α}
theorem dV (xs : List α) : (xs.flatMap E.f).length = xs.length * E.sz := by
 induction xs with
 | nil => simp
 | cons x xs ih => rw [List.flatMap_cons, List.length_append, ih, E.len, List.length_cons, Nat.succ_mul, Nat.add_comm]
theorem qv : ∀ (xs : List α) (i : Nat), (xs.flatMap E.f).drop (i * E.sz) = (xs.drop i).flatMap E.f
 | [], i => by simp
 | x :: xs, 0 => by simp
 | x :: xs, i + 1 => by
  rw [List.flatMap_cons, Nat.succ_mul, Nat.add_comm, List.drop_append, E.len, List.drop_eq_nil_of_le (by rw [E.len]; omega), List.nil_append, Nat.add_sub_cancel_left, qv xs i]
  first | done | rfl
theorem ng : ∀ (xs : List α) (i : Nat), (xs.flatMap E.f).take (i * E.sz) = (xs.take i).flatMap E.f
 | [], i => by simp
 | x :: xs, 0 => by simp
 | x :: xs, i + 1 => by
  rw [List.flatMap_cons, Nat.succ_mul, Nat.add_comm, List.take_append, E.len, List.take_of_length_le (by rw [E.len]; omega), Nat.add_sub_cancel_left, ng xs i];simp
theorem vM {xs : List α} {i : Nat} {x : α} (h : xs[i]? = some x) : ∃ l r, xs.flatMap E.f = l ++ E.f x ++ r ∧ l.length = i * E.sz ∧ l = (xs.take i).flatMap E.f ∧ r = (xs.drop (i + 1)).flatMap E.f := by
 have hi := (List.getElem?_eq_some_iff.1 h).1;have he := (List.getElem?_eq_some_iff.1 h).2;refine ⟨(xs.take i).flatMap E.f, (xs.drop (i + 1)).flatMap E.f, ?_, ?_, rfl, rfl⟩
 ·have : xs = xs.take i ++ x :: xs.drop (i + 1) := by
   rw [← he, ← List.drop_eq_getElem_cons hi, List.take_append_drop]
  conv => lhs; rw [this]
  simp
 ·rw [dV, List.length_take, Nat.min_eq_left (by omega)]
theorem sQ (xs : List α) : ∀ v ∈ xs.flatMap E.f, v.oneCell' = true := by
 intro v hv;obtain ⟨x, _, h⟩ := List.mem_flatMap.1 hv;exact E.one x v h
variable {s s' : PH} {e : TypeId} {n c : Nat} {a : OA} {xs : List α}
theorem bp.nil : bp E s e none 0 0 ([] : List α) := row.nil
theorem bp.mod {L : List Nat} (h : bp E s e a n c xs) (hm : Mod L s s') (hl : ∀ x ∈ aU a, x ∉ L) : bp E s' e a n c xs := row.mod h hm hl
theorem bp.known (h : bp E s e a n c xs) : ∀ x ∈ aU a, s x ≠ none := row.known h
theorem bp.len (h : bp E s e a n c xs) : n = xs.length := by
 have := h.1;rw [dV] at this;exact (Nat.eq_of_mul_eq_mul_right E.pos this).symm
theorem bp.le (h : bp E s e a n c xs) : n ≤ c := h.2.1
theorem bp.max (h : bp E s e a n c xs) : c ≤ maxLen := h.2.2.1
theorem bp.ty (h : bp E s e a n c xs) {g : Nat} (hg : a = some ⟨g, 0, none⟩) : ∃ cur, s g = some (.cells cur e (0, 0)) := by
 obtain ⟨h1, h2, h3, ⟨rfl, _⟩ | ⟨g', cur, rfl, hg', r⟩⟩ := h
 ·cases hg
 ·cases hg; exact ⟨cur, hg'⟩
theorem bp.shape (h : bp E s e a n c xs) : a = none ∧ n = 0 ∧ c = 0 ∨ ∃ g, a = some ⟨g, 0, none⟩ := by
 obtain ⟨h1, h2, h3, h4 | ⟨g', cur, rfl, hg', r⟩⟩ := h
 ·exact .inl h4
 ·exact .inr ⟨g', rfl⟩
theorem bp.at (h : bp E s e a n c xs) {i : Nat} {x : α} (hx : xs[i]? = some x) : ∃ g, a = some ⟨g, 0, none⟩ ∧ s.has ⟨g, i * E.sz, none⟩ (E.f x) := by
 obtain ⟨l, r, he, hl, _, _⟩ := vM (E := E) hx
 have hget : ∀ j v, (E.f x)[j]? = some v → (xs.flatMap E.f)[i * E.sz + j]? = some v := by
  intro j v hv;have hj := (List.getElem?_eq_some_iff.1 hv).1;rw [he, List.append_assoc, List.getElem?_append_right (by omega), hl, Nat.add_sub_cancel_left, List.getElem?_append_left hj]; exact hv
 have h0 : 0 < (E.f x).length := by rw [E.len]; exact E.pos
 obtain ⟨g, hg, _⟩ := row.cell h (hget 0 _ (List.getElem?_eq_getElem h0));refine ⟨g, hg, fun j v hv => ?_⟩;obtain ⟨g', hg', hc⟩ := row.cell h (hget j v hv);rw [hg] at hg'; cases hg';rw [bf]; exact hc
theorem bq {A : Addr} {l : List Value} {cs : List CT} {y : Den cs} {k : Den cs → W.T} {j : Nat} (h : s.has A l) (hl : (l.drop j).take cs.length = vals cs y) (hk : k y s) : W.ld cs (A.add j) k s := by
 refine ⟨y, ?_, hk⟩;intro i v hv
 have hi : i < cs.length := by have := (List.getElem?_eq_some_iff.1 hv).1; rwa [lp] at this
 rw [← hl, List.getElem?_take_of_lt hi, List.getElem?_drop] at hv;have := h _ _ hv
 rwa [show A.add (j + i) = (A.add j).add i from ?_] at this
 unfold Addr.add
 by_cases h1 : j = 0 <;> by_cases h2 : i = 0 <;> simp [h1, h2, Nat.add_assoc]
theorem az {A : Addr} {l : List Value} {cs : List CT} {y : Den cs} {k : Den cs → W.T} (h : s.has A l) (hl : l.take cs.length = vals cs y) (hk : k y s) : W.ld cs A k s := by
 have := bq (j := 0) h (by rw [List.drop_zero]; exact hl) hk
 rwa [add_zero] at this
theorem B0 {A : Addr} {cs : List CT} {y : Den cs} {k : Den cs → W.T} (h : s.has A (vals cs y)) (hk : k y s) : W.ld cs A k s := ⟨y, h, hk⟩
theorem fQ : ∀ (l : List Value) (cc : Array Value) (i : Nat), i + l.length ≤ cc.size → (gh cc i l).toList = cc.toList.take i ++ l ++ cc.toList.drop (i + l.length)
 | [], cc, i, _ => by simp [gh]
 | x :: l, cc, i, hi => by
  simp only [List.length_cons] at hi ⊢;have := fQ l (cc.setIfInBounds i x) (i + 1) (by simp; omega);simp only [gh]
  have hlt : i < cc.size := by omega
  rw [this, Array.toList_setIfInBounds, List.take_add_one, List.getElem?_set_self (by simpa using hlt), List.take_set_of_le (Nat.le_refl _), List.drop_set_of_lt (by omega)];rw [show i + (l.length + 1) = i + 1 + l.length by omega];simp
theorem bp.st (h : bp E s e a n c xs) {i : Nat} {x x' : α} (hx : xs[i]? = some x) {j : Nat} {vs : List Value} {k : W.T} (hx' : E.f x' = (E.f x).take j ++ vs ++ (E.f x).drop (j + vs.length)) (hj : j + vs.length ≤ E.sz)
  (hne : vs ≠ []) (h1 : ∀ v ∈ vs, v.oneCell' = true) {g : Nat} (ha : a = some ⟨g, 0, none⟩) (hk : ∀ s', bp E s' e a n c (xs.set i x') → Mod [g] s s' → k s') : W.st ⟨g, i * E.sz + j, none⟩ vs k s := by
 subst ha;obtain ⟨l, r, he, hl, hl2, hr2⟩ := vM (E := E) hx;have hi := (List.getElem?_eq_some_iff.1 hx).1;obtain ⟨g1, g2, g3, ⟨h0, _⟩ | ⟨g', cur, hg', hg, hc, ht⟩⟩ := h
 ·cases h0
 ·cases hg'
  have hn : n = xs.length := by rw [dV] at g1; exact (Nat.eq_of_mul_eq_mul_right E.pos g1).symm
  have hsz : i * E.sz + E.sz ≤ n * E.sz := by
   rw [← Nat.succ_mul]; exact Nat.mul_le_mul_right _ (by omega)
  have hnc : n * E.sz ≤ cur.size := Nat.le_trans (Nat.mul_le_mul_right _ g2) hc
  cases vs with
  | nil => exact absurd rfl hne
  | cons v vs =>
   rw [W.bA];simp only [hg, W.stM];refine ⟨trivial, by omega, .inr (.inr (Nat.le_refl _)), h1, ?_⟩;refine hk _ ⟨?_, g2, g3, .inr ⟨g, _, rfl, PH.bB _ _ _, by rw [eJ]; exact hc, ?_⟩⟩ (Mod.aS (by simp))
   ·rw [dV, List.length_set, ← hn]
   ·rw [fQ _ _ _ (by omega)];have hxl : (E.f x).length = E.sz := E.len x
    have hset : (xs.set i x').flatMap E.f = l ++ E.f x' ++ r := by
     rw [List.set_eq_take_append_cons_drop, if_pos hi, hl2, hr2]; simp
    rw [hset, hx']
    obtain ⟨Z, hZ⟩ : ∃ Z, Z = cur.toList.drop (n * E.sz) := ⟨_, rfl⟩
    have hcur : cur.toList = (l ++ E.f x ++ r) ++ Z := by
     rw [hZ, ← he, ← ht, List.take_append_drop]
    have hrl : r.length + (i * E.sz + E.sz) = n * E.sz := by
     have := congrArg List.length he;rw [g1] at this;simp only [List.length_append, hl, hxl] at this;omega
    have e1 : cur.toList.take (i * E.sz + j) = l ++ (E.f x).take j := by
     rw [hcur, List.append_assoc, List.append_assoc, List.take_append, hl, Nat.add_sub_cancel_left, List.take_of_length_le (by omega), List.take_append_of_le_length (by omega)]
    have e2 : cur.toList.drop (i * E.sz + j + (v :: vs).length) = (E.f x).drop (j + (v :: vs).length) ++ (r ++ Z) := by
     rw [hcur, List.append_assoc, List.append_assoc, show i * E.sz + j + (v :: vs).length = l.length + (j + (v :: vs).length) by omega, List.drop_length_add_append, List.drop_append_of_le_length (by omega)]
    rw [e1, e2]
    have hlen : (l ++ (E.f x).take j ++ (v :: vs) ++ (E.f x).drop (j + (v :: vs).length) ++ r).length = n * E.sz := by
     simp only [List.length_append, List.length_take, List.length_drop, hl, hxl];omega
    have : l ++ (E.f x).take j ++ (v :: vs) ++ ((E.f x).drop (j + (v :: vs).length) ++ (r ++ Z)) = (l ++ (E.f x).take j ++ (v :: vs) ++ (E.f x).drop (j + (v :: vs).length) ++ r) ++ Z := by simp
    rw [this, List.take_append_of_le_length (by omega), List.take_of_length_le (by omega)];simp
theorem bp.src (h : bp E s e a n c xs) {i m : Nat} (hm : i + m ≤ n) : eF s E.sz (.sl (if c = i then a else a.map (·.add (i * E.sz))) m) (((xs.drop i).take m).flatMap E.f) := by
 have := row.src h hm
 rwa [qv, ng] at this
theorem bp.Lk (h : bp E s e a n c xs) : eF s E.sz (.sl a n) (xs.flatMap E.f) := by
 have := h.src (i := 0) (m := n) (by omega);rw [List.drop_zero, List.take_of_length_le (by rw [h.len]; exact Nat.le_refl _)] at this;rcases h with ⟨g1, g2, g3, ⟨rfl, rfl, rfl⟩ | ⟨g, cur, rfl, hg, hc, ht⟩⟩
 ·simpa using this
 ·by_cases hc0 : c = 0
  ·rw [if_pos hc0] at this; exact this
  ·rw [if_neg hc0] at this;simpa [add_zero] using this
theorem bp.HL (h : bp E s e a n c xs) {m : Nat} (hm : m ≤ n) : eF s E.sz (.sl a m) ((xs.take m).flatMap E.f) := by
 have := h.src (i := 0) (m := m) (by omega);rw [List.drop_zero] at this;rcases h with ⟨g1, g2, g3, ⟨rfl, rfl, rfl⟩ | ⟨g, cur, rfl, hg, hc, ht⟩⟩
 ·simpa using this
 ·by_cases hc0 : c = 0
  ·rw [if_pos hc0] at this; exact this
  ·rw [if_neg hc0] at this;simpa [add_zero] using this
theorem wu {A : Addr} {ys : List α} {m : Nat} (h : s.has A (ys.flatMap E.f)) (hm : ys.length = m) : eF s E.sz (.sl (some A) m) (ys.flatMap E.f) := ⟨by rw [dV, hm], h⟩
theorem jP {b : Nat} {cur : Array Value} {e : TypeId} {f : Nat × Nat} (h : s b = some (.cells cur e f)) : s.has ⟨b, 0, none⟩ cur.toList := by
 intro i v hv;rw [je h rfl];simpa using hv
theorem iU {bytes k : Nat} {zero : List Value} {src : Src} {ys : List α} {K : OA → Nat → Nat → W.T} (h : bp E s e a n c xs) (hz : zero.length = E.sz) (hs : eF s E.sz src (ys.flatMap E.f)) (hk : src.len = k) (hn : ys.length = k)
  (hl : n + k ≤ maxLen) (hb : (n + k) * bytes ≤ 140737488355328)
  (hK : ∀ a' c' s', bp E s' e a' (n + k) c' (xs ++ ys) → (a' = a ∧ Mod (aU a) s s' ∨ ∃ g, a' = some ⟨g, 0, none⟩ ∧ s g = none ∧ Mod [] s s') → K a' (n + k) c' s') : W.app e E.sz bytes zero a n c src K s := by
 refine Iw h hz hs hk (by rw [dV, hn]) (sQ ys) hl hb ?_;intro a' c' s' h' hm;rw [← List.flatMap_append] at h';exact hK a' c' s' h' hm
theorem bp.shrink (h : bp E s e a n c xs) {m c' : Nat} (hm : m ≤ n) (hc : m ≤ c') (hc' : c' ≤ c) : bp E s e (if a = none then none else a) m c' (xs.take m) := by
 obtain ⟨g1, g2, g3, ⟨rfl, rfl, rfl⟩ | ⟨g, cur, rfl, hg, hcc, ht⟩⟩ := h
 ·have hm0 : m = 0 := by omega
  have hc0 : c' = 0 := by omega
  subst hm0 hc0;exact row.nil
 ·refine ⟨?_, hc, by omega, .inr ⟨g, cur, by simp, hg, Nat.le_trans (Nat.mul_le_mul_right _ hc') hcc, ?_⟩⟩
  ·have hn : n = xs.length := by rw [dV] at g1; exact (Nat.eq_of_mul_eq_mul_right E.pos g1).symm
   rw [dV, List.length_take, Nat.min_eq_left (by omega)]
  ·rw [← ng, ← ht, List.take_take, Nat.min_eq_left (Nat.mul_le_mul_right _ hm)]
end
end Fw
end
