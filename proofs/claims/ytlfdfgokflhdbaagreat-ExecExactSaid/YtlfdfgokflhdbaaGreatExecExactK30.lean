/-
  Part 30 for the law: lemmas.
  Conditions: none.
-/
import Derived.Test.YtlfdfgokflhdbaaGreatExecExactK29
set_option maxHeartbeats 4000000
set_option maxRecDepth 100000
set_option linter.unusedVariables false
set_option linter.unusedSimpArgs false
set_option linter.unusedSectionVars false
namespace Go.Proofs.YtlfdfgokflhdbaaGreat
open Fw Go Go.IntKind
section
theorem mL (a b : List aL) (k : Int) : au (a ++ b) k = if eN a k = true then au a k else au b k := by
 unfold au eN;rw [List.find?_append]
 cases h : a.find? fun c => c.id == k with
 | some c =>
  have : (a.any fun c => c.id == k) = true := List.any_eq_true.2 ⟨c, List.mem_of_find?_eq_some h, by have := List.find?_some h; exact this⟩;rw [this]; (first | done | rfl)
 | none =>
  have : (a.any fun c => c.id == k) = false := by
   rw [List.any_eq_false];exact fun c hc => List.find?_eq_none.1 h c hc
  rw [this]; (first | done | rfl)
theorem mG {l : List aL} {id k : Int} {v : aH} (h : id ≠ k) : au (eo l id v) k = au l k := by
 have e : au l k = au (l.takeWhile (fun c => decide (c.id < id)) ++ l.dropWhile (fun c => decide (c.id < id))) k := by rw [List.takeWhile_append_dropWhile]
 rw [e];unfold eo
 have h1 : eN [(⟨id, v⟩ : aL)] k = false := by simp [eN, h]
 rw [List.append_assoc, mL, mL [(⟨id, v⟩ : aL)], h1, mL]
 split
 ·rfl
 ·rw [if_neg (by simp)]
  split
  ·rename_i h2; rw [h2]
  ·rename_i c r h2
   rw [h2]
   split
   ·rename_i h3
    rw [show c :: r = [c] ++ r from rfl, mL]
    have : eN [c] k = false := by simp [eN, h3, h]
    rw [this, if_neg (by simp)]
   ·rfl
theorem Al {l : List aL} {id : Int} {v : aH} : au (eo l id v) id = v := by
 unfold eo
 have h1 : eN (l.takeWhile fun c => decide (c.id < id)) id = false := by
  unfold eN;rw [List.any_eq_false];intro c hc
  have : ∀ l : List aL, c ∈ l.takeWhile (fun c => decide (c.id < id)) → c.id < id := fun l => by
   induction l with
   | nil => intro h; simp at h
   | cons a l ih =>
    intro h;rw [List.takeWhile_cons] at h
    split at h
    ·rename_i g
     rcases List.mem_cons.1 h with rfl | h
     ·simpa using g
     ·exact ih h
    ·simp at h
  have := this l hc;simp only [beq_iff_eq];omega
 rw [List.append_assoc, mL, h1, if_neg (by simp), mL]
 have h2 : eN [(⟨id, v⟩ : aL)] id = true := by simp [eN]
 rw [h2, if_pos rfl];simp [au]
theorem oE {l : List aL} {id : Int} {v : aH} : eo l id v ≠ [] := by unfold eo; simp
theorem wg {k : Int} : ∀ (l : List cm) (cs : List aL), (∀ c ∈ l, c.state = 2 → c.id ≠ k) → cs ≠ [] → au (mW l cs) k = au cs k ∧ mW l cs ≠ []
 | [], cs, _, hn => ⟨rfl, hn⟩
 | c :: l, cs, h, hn => by
  unfold mW;have hl : ∀ c ∈ l, c.state = 2 → c.id ≠ k := fun x hx => h x (List.mem_cons_of_mem _ hx)
  split
  ·rename_i g
   obtain ⟨i1, i2⟩ := wg l (eo cs c.id c.dflt) hl oE;exact ⟨by rw [i1, mG (h c List.mem_cons_self g.1)], i2⟩
  ·exact wg l cs hl hn
theorem rX {k : Int} : ∀ (l : List cm) (vs : List aH) (cs : List aL), (∀ c ∈ l, c.id ≠ k) → cs ≠ [] → au (iB l vs cs) k = au cs k ∧ iB l vs cs ≠ []
 | [], vs, cs, _, hn => ⟨rfl, hn⟩
 | c :: l, vs, cs, h, hn => by
  unfold iB;have hl : ∀ c ∈ l, c.id ≠ k := fun x hx => h x (List.mem_cons_of_mem _ hx);have hc := h c List.mem_cons_self
  split
  ·obtain ⟨i1, i2⟩ := rX l vs.tail (eo cs c.id (vs.headD gm)) hl oE;exact ⟨by rw [i1, mG hc], i2⟩
  split
  ·obtain ⟨i1, i2⟩ := rX l vs (eo cs c.id c.dflt) hl oE;exact ⟨by rw [i1, mG hc], i2⟩
  ·exact rX l vs cs hl hn
theorem Ka (k : BA) : jo k (k, k ++ ⟨#[0]⟩) = true := by
 rw [qU, eA]
 have : ∀ l : List UInt8, l < l ++ [0] := fun l => by
  induction l with
  | nil => simp
  | cons a l ih => rw [List.cons_append, List.cons_lt_cons_iff]; exact .inr ⟨rfl, ih⟩
 unfold bK
 have e : kL (k ++ ⟨#[0]⟩) = kL k ++ [0] := by unfold kL; simp
 rw [e, decide_eq_true (this _)]; (first | done | rfl)
section
variable {S : aK} (G : Gd S)
include G
theorem Gd.col {T : az} (h : T ∈ S.tabs) : ∃ c0 l, T.cols = c0 :: l ∧ bz T = c0.id ∧ c0.state = 3 ∧ ∀ c ∈ l, c.id ≠ bz T := by
 cases hc : T.cols with
 | nil => exact absurd hc (G.ok T h).ne
 | cons c0 l =>
  have e : bz T = c0.id := by unfold bz; rw [hc]; (first | done | rfl)
  refine ⟨c0, l, rfl, e, (G.ok T h).pub c0 (by rw [hc]; (first | done | rfl)), fun c hm => ?_⟩;rw [e]; exact KI G.nod h hc c hm
theorem Iu {T : az} (h : T ∈ S.tabs) {b : cG} {r : Rw} (hs : b.set ≠ bz T) : au (ic T b r) (bz T) = au r.cells (bz T) ∧ ic T b r ≠ [] := by
 obtain ⟨c0, l, h1, h2, h3, h4⟩ := G.col h;unfold ic
 obtain ⟨i1, i2⟩ := wg (k := bz T) T.cols (eo r.cells b.set b.to) (fun c hc hst => by
  rw [h1] at hc;rcases List.mem_cons.1 hc with rfl | hc
  ·omega
  ·exact h4 c hc) oE
 exact ⟨by rw [i1, mG hs], i2⟩
theorem He {T : az} (h : T ∈ S.tabs) {vs : List aH} : au (iB T.cols vs []) (bz T) = vs.headD gm ∧ iB T.cols vs [] ≠ [] := by
 obtain ⟨c0, l, h1, h2, h3, h4⟩ := G.col h;rw [h1];unfold iB;rw [if_pos h3];obtain ⟨i1, i2⟩ := rX (k := bz T) l vs.tail (eo [] c0.id (vs.headD gm)) h4 oE;exact ⟨by rw [i1, h2, Al], i2⟩
def lG (D : List Ht) (T : az) (r : Rw) : Prop := ∃ v, Kv D (cH T.id (au r.cells (bz T))) v ∧ fm T (cH T.id (au r.cells (bz T))) v r.cells ∧ r.key = au r.cells (bz T)
theorem AG {D : List Ht} (X : EX S D) {T : az} (hT : T ∈ S.tabs) {x : Ht} {r : Rw} (hx : x ∈ D) (e : eL T x = some r) (hk : ∀ T' ∈ S.tabs, ∀ k, dg k → x.key = cH T'.id k → T' = T) : lG D T r := by
 obtain ⟨h1, h2, h3⟩ := o8 e;rcases X.all x.key x.val ⟨x, hx, rfl, rfl⟩ with ⟨T', hT', cs, g⟩ | ⟨hv, _⟩
 ·obtain rfl := hk T' hT' _ (e9 g.cells _) g.2.2
  have : r.cells = cs := by have := g.1; rw [h1] at this; exact Option.some.inj this
  subst this;exact ⟨x.val, ⟨x, hx, g.2.2, rfl⟩, ⟨h1, h2, rfl⟩, h3⟩
 ·rw [hv] at h1;exact absurd (pq h1) h2
theorem u7 {D : List Ht} (X : EX S D) {T : az} (hT : T ∈ S.tabs) {k : aH} (hk : dg k) {r : Rw} (h : r ∈ gY T k D) : lG D T r := by
 obtain ⟨x, hx, e⟩ := nQ h;obtain ⟨h1, h2⟩ := jC.1 hx;have h3 := zY h2;refine AG G X hT h1 e fun T' hT' k' hk' e' => ?_;rw [h3] at e';exact pW G.nod hT' hT (nk (G.tid hT) (G.tid hT') hk hk' e').1.symm
theorem u5 {D : List Ht} (X : EX S D) {T : az} (hT : T ∈ S.tabs) {r : Rw} (h : r ∈ (ff T D).2) : lG D T r := by
 unfold ff at h
 split at h
 ·simp at h
 ·obtain ⟨x, hx, e⟩ := nQ h;obtain ⟨h1, h2⟩ := jC.1 hx;refine AG G X hT h1 e fun T' hT' k' hk' e' => ?_;rw [e'] at h2;exact pW G.nod hT' hT (KV (G.tid hT) (G.tid hT') hk' h2)
theorem BO {D : List Ht} (X : EX S D) {T : az} (hT : T ∈ S.tabs) {b : cG} (hb : b.whr ≠ 0 → dg b.is) {r : Rw} (h : r ∈ (aX T b D).2) : lG D T r := by
 unfold aX at h
 split at h
 ·exact u5 G X hT h
 rename_i h0
 split at h
 ·exact u7 G X hT (hb h0) h
 split at h
 ·exact u5 G X hT (List.mem_filter.1 h).1
 ·split at h
  ·simp at h
  ·obtain ⟨k, hk, hr⟩ := List.mem_flatMap.1 h;obtain ⟨y, _, hy⟩ := List.mem_filterMap.1 hk;refine u7 G X hT ?_ hr;unfold nK at hy
   cases hv : de y.key with
   | none => rw [hv] at hy; cases hy
   | some l =>
    rw [hv] at hy;exact (gU hv).2.1 k (List.mem_of_getLast? hy)
theorem F0 {D : List Ht} (X : EX S D) {T : az} {r r' : Rw} (h : lG D T r) (h' : lG D T r') (e : au r.cells (bz T) = au r'.cells (bz T)) : r = r' := by
 obtain ⟨v, a1, a2, a3⟩ := h;obtain ⟨v', b1, b2, b3⟩ := h';rw [e] at a1;have := Kv.one X.cJ a1 b1;subst this
 have hc : r.cells = r'.cells := by
  have := a2.1;rw [b2.1] at this;exact (Option.some.inj this).symm
 obtain ⟨k, c⟩ := r;obtain ⟨k', c'⟩ := r';dsimp only at *;subst hc;rw [a3, b3]
theorem lG.Mm {D : List Ht} {T : az} {r : Rw} (h : lG D T r) : eI r.cells ∧ r.cells ≠ [] := by
 obtain ⟨v, _, a2, _⟩ := h;obtain ⟨h1, h2, h3, _⟩ := j7 a2.1;exact ⟨⟨h2, h3⟩, a2.2.1⟩
def oU (D : List Ht) (T : az) (new : Rw → List aL) (r : Rw) : Prop := ∀ v cs, Kv D (cH T.id (au r.cells (bz T))) v → fm T (cH T.id (au r.cells (bz T))) v cs → cs = r.cells ∨ (cs = new r ∧ new r ≠ [])
theorem oU.of {D : List Ht} (X : EX S D) {T : az} {new : Rw → List aL} {r : Rw} (h : lG D T r) : oU D T new r := fun v cs a1 a2 => by
 obtain ⟨v', b1, b2, _⟩ := h;have := Kv.one X.cJ a1 b1;subst this;have := a2.1;rw [b2.1] at this;exact .inl (Option.some.inj this).symm
theorem B6 {D : List Ht} (X : EX S D) {T : az} (hT : T ∈ S.tabs) {new : Rw → List aL} {r : Rw} (hr : eI r.cells ∧ r.cells ≠ []) (hn : eI (new r)) (hk : new r ≠ [] → au (new r) (bz T) = au r.cells (bz T)) (hc : oU D T new r) :
  EX S (ai 0 D (cM T r.cells (new r))) ∧ ∀ r', (au r'.cells (bz T) = au r.cells (bz T) → r' = r) → (∀ c ∈ r'.cells, sA c) → oU D T new r' → oU (ai 0 D (cM T r.cells (new r))) T new r' := by
 obtain ⟨h1, h2, h3⟩ := X.LP G hT (old := r.cells) (new := new r) (k := au r.cells (bz T)) hr.1.2 hn (fun g => hr.2 g.1) (e9 hr.1.2 _) (fun _ => rfl) hk (fun v cs a1 a2 => by
  rcases hc v cs a1 a2 with g | g
  ·exact .inl ⟨g, hr.2⟩
  ·exact .inr g)
 refine ⟨h1, fun r' he hco hcur v cs a1 a2 => ?_⟩
 by_cases e : au r'.cells (bz T) = au r.cells (bz T)
 ·obtain rfl := he e;obtain ⟨g1, rfl⟩ := h3 v a1;exact .inr ⟨Ca hn a2.1, g1⟩
 ·refine hcur v cs (h2 _ _ (fun q => e ?_) ⟨T, hT, cs, a2⟩ a1) a2;exact (nk (G.tid hT) (G.tid hT) (e9 hco _) (e9 hr.1.2 _) q).2
theorem EX.eu {T : az} (hT : T ∈ S.tabs) {b : cG} (h1 : 1 ≤ b.set) (h2 : b.set ≤ 9223372036854775807) (hto : dg b.to) (hs : b.set ≠ bz T) : ∀ (L : List Rw) {D : List Ht}, EX S D → (∀ r ∈ L, eI r.cells ∧ r.cells ≠ []) → (∀ r ∈ L, ∀ r' ∈ L, au r'.cells (bz T) = au r.cells (bz T) → r' = r) →
  (∀ r ∈ L, oU D T (ic T b) r) → (eu S T b L D).1 = 0 → EX S (ai 0 D (eu S T b L D).2.2)
 | [], D, X, _, _, _, _ => X
 | r :: L, D, X, hc, hu, hcur, e => by
  unfold Go.Proofs.YtlfdfgokflhdbaaGreat.eu at e ⊢
  split at e
  ·rename_i g; exact absurd e g
  ·rename_i g
   rw [if_neg g];dsimp only at e ⊢;rw [cU];have hr := hc r List.mem_cons_self;obtain ⟨k1, k2⟩ := Iu G hT (b := b) (r := r) hs;have hn := (wT (b := b) (r := r) (G.ok T hT) hr.1 h1 h2 hto).1;obtain ⟨X1, hx⟩ := B6 G X hT (new := ic T b) hr hn (fun _ => k1) (hcur r List.mem_cons_self);refine EX.eu hT h1 h2 hto hs L X1 (fun q hq => hc q (List.mem_cons_of_mem _ hq)) (fun q hq q' hq' => hu q (List.mem_cons_of_mem _ hq) q' (List.mem_cons_of_mem _ hq')) (fun q hq => ?_) e;exact hx q (hu r List.mem_cons_self q (List.mem_cons_of_mem _ hq)) (hc q (List.mem_cons_of_mem _ hq)).1.2 (hcur q (List.mem_cons_of_mem _ hq))
theorem EX.ef {T : az} (hT : T ∈ S.tabs) : ∀ (L : List Rw) {D : List Ht}, EX S D → (∀ r ∈ L, eI r.cells ∧ r.cells ≠ []) → (∀ r ∈ L, ∀ r' ∈ L, au r'.cells (bz T) = au r.cells (bz T) → r' = r) →
  (∀ r ∈ L, oU D T (fun _ => []) r) → (ef S T L D).1 = 0 → EX S (ai 0 D (ef S T L D).2.2)
 | [], D, X, _, _, _, _ => X
 | r :: L, D, X, hc, hu, hcur, e => by
  unfold Go.Proofs.YtlfdfgokflhdbaaGreat.ef at e ⊢
  split at e
  ·rename_i g; exact absurd e g
  ·rename_i g
   rw [if_neg g];dsimp only at e ⊢;rw [cU];have hr := hc r List.mem_cons_self;obtain ⟨X1, hx⟩ := B6 G X hT (new := fun _ => []) hr eI.nil (fun q => absurd rfl q) (hcur r List.mem_cons_self);refine EX.ef hT L X1 (fun q hq => hc q (List.mem_cons_of_mem _ hq)) (fun q hq q' hq' => hu q (List.mem_cons_of_mem _ hq) q' (List.mem_cons_of_mem _ hq')) (fun q hq => ?_) e;exact hx q (hu r List.mem_cons_self q (List.mem_cons_of_mem _ hq)) (hc q (List.mem_cons_of_mem _ hq)).1.2 (hcur q (List.mem_cons_of_mem _ hq))
theorem Ie {b : cG} {T : az} (h : fe S b = some T) (hb : wX b) : (b.kind ≠ 1 → b.whr ≠ 0 → dg b.is) ∧ (b.kind = 2 → b.set ≠ bz T) := by
 have hf := lN h;have hT := G.ok T hf.mem;refine ⟨fun h1 h0 => ?_, fun h2 e => ?_⟩
 ·unfold fe at h
  split at h
  ·cases h
  split at h
  ·cases h
  try rw [if_neg h1] at h
  split at h
  ·cases h
  split at h
  ·rename_i U _ _ _ hw
   cases h;rcases hw with hw | hw
   ·exact absurd hw h0
   ·exact (nM hT hw hb.is).2.2
  ·cases h
 ·have hp := hf.aS h2;unfold gJ at hp;obtain ⟨c, _, hc⟩ := List.any_eq_true.1 hp;rw [e] at hc;simp at hc
theorem EX.one {D : List Ht} (X : EX S D) {b : cG} {T : az} (hr : fe S b = some T) (hb : wX b) (e : (gp S T b D).err = 0) : EX S (ai 0 D (gp S T b D).ws) := by
 have hf := lN hr;have hT := hf.mem;have hok := G.ok T hT;obtain ⟨hw1, hw2⟩ := Ie G hr hb;unfold gp at e ⊢
 split at e
 ·rename_i h1
  rw [if_pos h1];have ho := hf.ins h1;obtain ⟨hc1, _⟩ := mK hok.cols ho hb.vals eI.nil;obtain ⟨hk1, hk2⟩ := He G hT (vs := b.vals)
  have hv : dg (b.vals.headD gm) := by rw [← hk1]; exact e9 hc1.2 _
  unfold qV at e ⊢;dsimp only at e ⊢
  split at e
  ·cases e
  rename_i g1
  rw [if_neg g1]
  split at e
  ·rename_i g2; exact absurd e g2
  rename_i g2
  rw [if_neg g2];refine (X.LP G hT (old := []) (k := b.vals.headD gm) (by simp) hc1 (fun q => hk2 q.2) hv (fun q => absurd rfl q) (fun _ => hk1) fun v cs a1 a2 => ?_).1
  exfalso
  apply g1;obtain ⟨x, hx, ek, rfl⟩ := a1;intro hnil;have hd : eL T x = some ⟨au cs (bz T), cs⟩ := sE a2.1 a2.2.1;have : (⟨au cs (bz T), cs⟩ : Rw) ∈ gY T (b.vals.headD gm) D := List.mem_filterMap.2 ⟨x, jC.2 ⟨hx, by rw [ek]; exact Ka _⟩, hd⟩;rw [hnil] at this;simp at this
 rename_i h1
 rw [if_neg h1];have hm : ∀ r ∈ (aX T b D).2, lG D T r := fun r h => BO G X hT (hw1 h1) h;have hcs : ∀ r ∈ (aX T b D).2, eI r.cells ∧ r.cells ≠ [] := fun r h => (hm r h).Mm G;have hun : ∀ r ∈ (aX T b D).2, ∀ r' ∈ (aX T b D).2, au r'.cells (bz T) = au r.cells (bz T) → r' = r := fun r h r' h' q => F0 G X (hm r' h') (hm r h) q
 split at e
 ·rename_i h2
  rw [if_pos h2];obtain ⟨p1, p2, p3⟩ := nM hok (hf.aS h2) hb.to;unfold rJ at e ⊢
  split at e
  ·rename_i g; exact absurd e g
  rename_i g1
  rw [if_neg g1]
  split at e
  ·rename_i g; exact absurd e g
  rename_i g2
  rw [if_neg g2];exact EX.eu G hT p1 p2 p3 (hw2 h2) _ X hcs hun (fun r h => oU.of G X (hm r h)) (by omega)
 rename_i h2
 rw [if_neg h2]
 split at e
 ·rename_i h3
  rw [if_pos h3];unfold rm at e ⊢
  split at e
  ·rename_i g; exact absurd e g
  rename_i g1
  rw [if_neg g1]
  split at e
  ·rename_i g; exact absurd e g
  rename_i g2
  rw [if_neg g2];exact EX.ef G hT _ X hcs hun (fun r h => oU.of G X (hm r h)) (by omega)
 rename_i h3
 rw [if_neg h3];unfold rD
 split <;> exact X
theorem EX.run : ∀ (L : List cG) (i : Int) {D : List Ht}, EX S D → (∀ b ∈ L, wX b) → (bZ S i L D).err = 0 → EX S (ai 0 D (bZ S i L D).ws)
 | [], i, D, X, _, _ => by rw [Ij]; exact X
 | b :: L, i, D, X, hb, e => by
  rw [xJ] at e ⊢
  cases hr : fe S b with
  | none => rw [hr] at e; exact absurd (show (1 : Int) = 0 from e) (by decide)
  | some T =>
   rw [hr] at e;dsimp only at e ⊢
   split at e
   ·rename_i g; exact absurd e g
   ·rename_i g
    rw [if_neg g];dsimp only at e ⊢;rw [cU];exact EX.run L (i + 1) (X.one G hr (hb b List.mem_cons_self) (by omega)) (fun q hq => hb q (List.mem_cons_of_mem _ hq)) e
end
def qJ (T : az) (h : Ht) : Option (List aL) := match eM h.val with
 | some (c :: cs) => if cH T.id (au (c :: cs) (bz T)) = h.key then some (c :: cs) else none
 | _ => none
def kG (T : az) (h : Ht) (cs : List aL) (l : List dx) : List Ht := l.flatMap fun x => if 2 ≤ x.state then [⟨gu T x cs, h.ts, ⟨#[]⟩⟩] else []
def dX (T : az) (h : Ht) : List Ht := match qJ T h with
 | none => []
 | some cs => h :: kG T h cs T.idxs
def Dd (D : List Ht) (T : az) : List Ht := (aI D (bG T.id)).flatMap (dX T)
def gG (D : List Ht) (l : List az) : List Ht := l.flatMap (Dd D)
def jN (S : aK) (D : List Ht) : List Ht := (gG D S.tabs).foldl fK []
theorem qK {T : az} {h : Ht} {cs : List aL} : qJ T h = some cs ↔ fm T h.key h.val cs := by
 unfold qJ fm
 cases hg : eM h.val with
 | none => simp
 | some l =>
  cases l with
  | nil =>
   simp only [reduceCtorEq, Option.some.injEq, false_iff];rintro ⟨h1, h2, _⟩;exact h2 h1.symm
  | cons c l =>
   simp only [Option.some.injEq]
   constructor
   ·intro e
    split at e
    ·rename_i g
     have e := Option.some.inj e;subst e;exact ⟨rfl, by simp, g.symm⟩
    ·cases e
   ·rintro ⟨rfl, _, g⟩;rw [if_pos g.symm]
theorem q8 {T : az} {h : Ht} {cs : List aL} {l : List dx} {p : Ht} : p ∈ kG T h cs l ↔ ∃ x ∈ l, 2 ≤ x.state ∧ p = ⟨gu T x cs, h.ts, ⟨#[]⟩⟩ := by
 unfold kG;rw [List.mem_flatMap]
 constructor
 ·rintro ⟨x, hx, hp⟩
  split at hp
  ·rename_i g; simp only [List.mem_singleton] at hp; exact ⟨x, hx, g, hp⟩
  ·simp at hp
 ·rintro ⟨x, hx, g, rfl⟩;exact ⟨x, hx, by rw [if_pos g]; simp⟩
theorem fy {D : List Ht} {l : List az} {p : Ht} : p ∈ gG D l ↔ ∃ T ∈ l, ∃ h ∈ D, jo h.key (bG T.id) = true ∧ ∃ cs, fm T h.key h.val cs ∧ (p = h ∨ ∃ x ∈ T.idxs, 2 ≤ x.state ∧ p = ⟨gu T x cs, h.ts, ⟨#[]⟩⟩) := by
 unfold gG Dd;simp only [List.mem_flatMap, jC]
 constructor
 ·rintro ⟨T, hT, h, ⟨h1, h2⟩, hp⟩;refine ⟨T, hT, h, h1, h2, ?_⟩;unfold dX at hp
  split at hp
  ·simp at hp
  ·rename_i cs hc
   rcases List.mem_cons.1 hp with rfl | hp
   ·exact ⟨cs, qK.1 hc, .inl rfl⟩
   ·exact ⟨cs, qK.1 hc, .inr (q8.1 hp)⟩
 ·rintro ⟨T, hT, h, h1, h2, cs, hc, hp⟩;refine ⟨T, hT, h, ⟨h1, h2⟩, ?_⟩;unfold dX;rw [qK.2 hc];rcases hp with rfl | hp
  ·exact List.mem_cons_self
  ·exact List.mem_cons_of_mem _ (q8.2 hp)
theorem wz {D : List Ht} (h : cz D) (x : Ht) (κ v : BA) : Kv (fK D x) κ v ↔ (x.key = κ ∧ x.val = v) ∨ (Kv D κ v ∧ x.key ≠ κ) := by
 unfold fK;rw [pK h];simp
theorem Ce : ∀ (l : List Ht) {D : List Ht}, cz D → cz (l.foldl fK D) ∧ (∀ κ v, Kv (l.foldl fK D) κ v → (∃ p ∈ l, p.key = κ ∧ p.val = v) ∨ Kv D κ v) ∧ (∀ κ v, (∀ p ∈ l, p.key = κ → p.val = v) → (∃ p ∈ l, p.key = κ) ∨ Kv D κ v → Kv (l.foldl fK D) κ v)
 | [], D, h => ⟨h, fun κ v g => .inr g, fun κ v _ g => by rcases g with ⟨p, hp, _⟩ | g; simp at hp; exact g⟩
 | x :: l, D, h => by
  obtain ⟨i1, i2, i3⟩ := Ce l (FT h x).1;refine ⟨i1, fun κ v g => ?_, fun κ v hc g => ?_⟩
  ·rcases i2 κ v g with ⟨p, hp, e⟩ | g
   ·exact .inl ⟨p, List.mem_cons_of_mem _ hp, e⟩
   ·rcases (wz h x κ v).1 g with e | g
    ·exact .inl ⟨x, List.mem_cons_self, e⟩
    ·exact .inr g.1
  ·refine i3 κ v (fun p hp => hc p (List.mem_cons_of_mem _ hp)) ?_
   by_cases e : x.key = κ
   ·exact .inr ((wz h x κ v).2 (.inl ⟨e, hc x List.mem_cons_self e⟩))
   ·rcases g with ⟨p, hp, e2⟩ | g
    ·rcases List.mem_cons.1 hp with rfl | hp
     ·exact absurd e2 e
     ·exact .inl ⟨p, hp, e2⟩
    ·exact .inr ((wz h x κ v).2 (.inr ⟨g, e⟩))
section
variable {S : aK} (G : Gd S)
include G
theorem tF {D : List Ht} (h : cz D) : cz (jN S D) ∧ ∀ κ v, Kv (jN S D) κ v ↔ ∃ p ∈ gG D S.tabs, p.key = κ ∧ p.val = v := by
 obtain ⟨h1, h2, h3⟩ := Ce (gG D S.tabs) (D := []) List.Pairwise.nil;refine ⟨h1, fun κ v => ⟨fun g => ?_, ?_⟩⟩
 ·rcases h2 κ v g with g | ⟨x, hx, _⟩
  ·exact g
  ·simp at hx
 ·rintro ⟨p, hp, rfl, rfl⟩;refine h3 _ _ (fun q hq e => ?_) (.inl ⟨p, hp, rfl⟩);obtain ⟨T, hT, a, ha, _, cs, hr, hpa⟩ := fy.1 hp;obtain ⟨T', hT', b, hb, _, cs', hr', hqb⟩ := fy.1 hq;have o1 := e9 hr.cells;have o2 := e9 hr'.cells
  rcases hpa with rfl | ⟨x, hx, _, rfl⟩ <;> rcases hqb with rfl | ⟨y, hy, _, rfl⟩
  ·rw [Ct h ha hb e.symm]
  ·exfalso
   dsimp only at e;rw [hr.2.2] at e;exact lC (G.tid hT) (G.rP hT' hy) (o2 _) (o1 _) (o2 _) e.symm
  ·exfalso
   dsimp only at e;rw [hr'.2.2] at e;exact lC (G.tid hT') (G.rP hT hx) (o1 _) (o2 _) (o1 _) e
  ·rfl
theorem G6 {D : List Ht} (h : cz D) : EX S (jN S D) := by
 obtain ⟨h1, h2⟩ := tF G h;refine ⟨h1, fun κ v g => ?_, fun T hT κ v cs g r x hx hst => ?_⟩
 ·obtain ⟨p, hp, rfl, rfl⟩ := (h2 κ v).1 g;obtain ⟨T, hT, a, ha, hin, cs, hr, hpa⟩ := fy.1 hp;rcases hpa with rfl | ⟨x, hx, hst, rfl⟩
  ·exact .inl ⟨T, hT, cs, hr⟩
  ·refine .inr ⟨rfl, T, hT, x, hx, hst, a.key, a.val, cs, (h2 _ _).2 ⟨a, fy.2 ⟨T, hT, a, ha, hin, cs, hr, .inl rfl⟩, rfl, rfl⟩, hr, rfl⟩
 ·obtain ⟨p, hp, rfl, rfl⟩ := (h2 κ v).1 g;obtain ⟨T', hT', a, ha, hin, cs', hr, hpa⟩ := fy.1 hp;rcases hpa with rfl | ⟨y, hy, _, rfl⟩
  ·obtain ⟨rfl, _⟩ := Co G hT hT' r hr;have := r.same hr;subst this;exact (h2 _ _).2 ⟨_, fy.2 ⟨T, hT, p, ha, hin, cs, hr, .inr ⟨x, hx, hst, rfl⟩⟩, rfl, rfl⟩
  ·exact absurd r q9
theorem EX.exact {D : List Ht} (X : EX S D) (κ v : BA) : Kv (jN S D) κ v ↔ Kv D κ v := by
 rw [(tF G X.cJ).2 κ v]
 constructor
 ·rintro ⟨p, hp, rfl, rfl⟩;obtain ⟨T, hT, a, ha, hin, cs, hr, hpa⟩ := fy.1 hp;rcases hpa with rfl | ⟨x, hx, hst, rfl⟩
  ·exact ⟨p, ha, rfl, rfl⟩
  ·exact X.mj T hT a.key a.val cs ⟨a, ha, rfl, rfl⟩ hr x hx hst
 ·intro g
  have hin : ∀ T ∈ S.tabs, ∀ a : Ht, ∀ cs, fm T a.key a.val cs → jo a.key (bG T.id) = true := fun T hT a cs hr => by
   rw [hr.2.2]; exact Ld (e9 hr.cells _)
  rcases X.all κ v g with ⟨T, hT, cs, hr⟩ | ⟨rfl, T, hT, x, hx, hst, κ', v', cs, g', hr, rfl⟩
  ·obtain ⟨a, ha, rfl, rfl⟩ := g;exact ⟨a, fy.2 ⟨T, hT, a, ha, hin T hT a cs hr, cs, hr, .inl rfl⟩, rfl, rfl⟩
  ·obtain ⟨a, ha, rfl, rfl⟩ := g';exact ⟨_, fy.2 ⟨T, hT, a, ha, hin T hT a cs hr, cs, hr, .inr ⟨x, hx, hst, rfl⟩⟩, rfl, rfl⟩
end
theorem Jy {D E : List Ht} (h1 : cz D) (h2 : cz E) (h : ∀ κ v, Kv D κ v ↔ Kv E κ v) : D.map (fun a => (a.key, a.val)) = E.map (fun a => (a.key, a.val)) := by
 refine sq (fun p : BA × BA => p.1) (List.pairwise_map.2 h1) (List.pairwise_map.2 h2) fun p => ?_;have := h p.1 p.2;unfold Kv at this;simp only [List.mem_map]
 constructor
 ·rintro ⟨a, ha, rfl⟩;obtain ⟨b, hb, e1, e2⟩ := this.1 ⟨a, ha, rfl, rfl⟩;exact ⟨b, hb, by rw [e1, e2]⟩
 ·rintro ⟨a, ha, rfl⟩;obtain ⟨b, hb, e1, e2⟩ := this.2 ⟨a, ha, rfl, rfl⟩;exact ⟨b, hb, by rw [e1, e2]⟩
end
section
attribute [-simp] Fw.W.bD Fw.W.bB
theorem F6 (t : Int) : (bG t).1.size ≤ 1120 := Ec
theorem tV : ∀ (B : List Ht) (l : List Ht), (B.foldl fK l).length ≤ l.length + B.length
 | [], l => Nat.le_refl _
 | x :: B, l => by
  have h1 := tV B (fK l x);have h2 := w4 x.ts l ⟨x.key, x.val, false⟩
  show (B.foldl fK (fK l x)).length ≤ _
  unfold fK at *;rw [List.length_cons]; omega
theorem tW : ∀ (B : List Ht) {l : List Ht} {a : Ht}, a ∈ B.foldl fK l → a ∈ B ∨ a ∈ l
 | [], l, a, h => .inr h
 | x :: B, l, a, h => by
  rcases tW B (l := fK l x) h with h | h
  ·exact .inl (List.mem_cons_of_mem _ h)
  ·unfold fK eV at h;rw [List.mem_append, List.mem_append] at h;rcases h with (h | h) | h
   ·exact .inr (List.takeWhile_subset _ h)
   ·unfold gW at h;simp at h; exact .inl (by rw [h]; exact List.mem_cons_self)
   ·exact .inr ((List.dropWhile_sublist (fun h : Ht => bK h.key x.key) (l := l)).subset (List.mem_filter.1 h).1)
end
section
attribute [-simp] Fw.W.bD Fw.W.bB
theorem qL (T : az) (h : Ht) (cs : List aL) : ∀ l : List dx, (kG T h cs l).length ≤ l.length
 | [] => Nat.le_refl _
 | x :: l => by
  have := qL T h cs l;unfold kG at *
  have h1 : (if 2 ≤ x.state then [(⟨gu T x cs, h.ts, ⟨#[]⟩⟩ : Ht)] else []).length ≤ 1 := by split <;> simp
  rw [List.flatMap_cons, List.length_append, List.length_cons];omega
theorem E1 {T : az} (h8 : T.idxs.length ≤ 8) (h : Ht) : (dX T h).length ≤ 9 := by
 unfold dX
 split
 ·simp
 ·rename_i cs _
  have := qL T h cs T.idxs;rw [List.length_cons]; omega
theorem pe {T : az} (h8 : T.idxs.length ≤ 8) : ∀ l : List Ht, (l.flatMap (dX T)).length ≤ 9 * l.length
 | [] => Nat.le_refl _
 | x :: l => by
  have h1 := pe h8 l;have h2 := E1 h8 x;rw [List.flatMap_cons, List.length_append, List.length_cons]; omega
theorem o9 {D : List Ht} {N : Nat} (hN : D.length ≤ N) : ∀ l : List az, (∀ T ∈ l, T.idxs.length ≤ 8) → (gG D l).length ≤ 9 * N * l.length
 | [], _ => Nat.zero_le _
 | T :: l, h => by
  have h1 := o9 hN l fun U hU => h U (List.mem_cons_of_mem _ hU);have h2 := pe (h T List.mem_cons_self) (aI D (bG T.id));have h3 : (aI D (bG T.id)).length ≤ D.length := List.length_filter_le _ _;unfold gG at *;rw [List.flatMap_cons, List.length_append, List.length_cons, Nat.mul_succ];unfold Dd at *;omega
def Kb (l : List Ht) : Prop := ∀ x ∈ l, x.key.size ≤ 281474976710656
theorem nV (T : az) (x : dx) (cs : List aL) : (gu T x cs).size ≤ 1120 := fu _
theorem Kb.Mb {P : List Ht} (h : Kb P) : Kb (P.foldl fK []) := fun x hx => by
 rcases tW _ hx with g | g
 ·exact h x g
 ·simp at g
theorem Kb.app {a b : List Ht} (h : Kb a) (k : Kb b) : Kb (a ++ b) := fun x hx => by
 rcases List.mem_append.1 hx with hx | hx
 ·exact h x hx
 ·exact k x hx
theorem E9 (T : az) (h : Ht) (cs : List aL) (l : List dx) : Kb (kG T h cs l) := fun p hp => by
 obtain ⟨x, _, _, rfl⟩ := q8.1 hp;have := nV T x cs;dsimp only; omega
theorem KY (T : az) (h : Ht) (hk : h.key.size ≤ 281474976710656) : Kb (dX T h) := by
 unfold dX
 split
 ·intro x hx; simp at hx
 ·intro x hx;rcases List.mem_cons.1 hx with rfl | hx
  ·exact hk
  ·exact E9 _ _ _ _ x hx
theorem wu (T : az) : ∀ (l : List Ht), Kb l → Kb (l.flatMap (dX T))
 | [], _ => fun x hx => by simp at hx
 | a :: l, h => by
  rw [List.flatMap_cons];exact (KY T a (h a List.mem_cons_self)).app (wu T l fun x hx => h x (List.mem_cons_of_mem _ hx))
theorem xk {D : List Ht} (hD : Kb D) : ∀ l : List az, Kb (gG D l)
 | [] => fun x hx => by simp [gG] at hx
 | T :: l => by
  unfold gG;rw [List.flatMap_cons];exact (wu T _ fun x hx => hD x (jC.1 hx).1).app (xk hD l)
theorem ig {α β : Type} (f : α → List β) {l : List α} {k : Nat} {x : α} (h : l[k]? = some x) : (l.take (k + 1)).flatMap f = (l.take k).flatMap f ++ f x := qO f h
theorem AB {s0 s : PH} {a : OA} {n c : Nat} {P : List Ht} {p : Ht} {K : bX [(false, [CT.slice])] → W.T} (hG : Gw bh 75 s0 s a n c (P.foldl fK [])) (hP : Kb P) (hp : p.key.size ≤ 281474976710656) (hl : P.length ≤ 500000000)
  (hK : ∀ a' n' c' s', Gw bh 75 s0 s' a' n' c' ((P ++ [p]).foldl fK []) → Fw.Mod [] s s' → K (((a', n', c'), ()), ()) s') :
  W.nw (.cells #[.string p.key, .string p.val, .bool false] 79 (0, 0)) (fun r => W.call Tryz.prog 21 #[.slice a n c, .slice (some ⟨r, 0, none⟩) 1 1, .int .i64 p.ts] (false, [(false, [.slice])]) K) s := by
 have hlen := tV P [];simp only [List.length_nil, Nat.zero_add] at hlen;refine W.bI fun r s1 hr m1 k1 => ?_;have sl : Sl bh s1 (a, n, c) (P.foldl fK []) := Sl.bN (hG.row.mod m1 (by simp)) (by omega);have sw : Sl nT s1 (some ⟨r, 0, none⟩, 1, 1) [⟨p.key, p.val, false⟩] := Sl.bN (t := (some ⟨r, 0, none⟩, 1, 1)) (lD (E := nT) (n := 1) k1 rfl rfl (by omega)) (by simp);have hc := uE (ts := p.ts) sl (b := some ⟨r, 0, none⟩) (m := 1) (d := 1) sw hP.Mb (fun y hy => by simp at hy; subst hy; exact hp) (by omega) (by simp);refine W.aq hc ?_;rintro _ s2 ⟨a', n', c', rfl, hG2⟩;refine ⟨(((a', n', c'), ()), ()), rfl, hK a' n' c' s2 ?_ (m1.trans hG2.md)⟩;rw [List.foldl_append];exact (hG2.since m1).since hG.md
theorem zp {s : PH} {t : aU} {S : aK} {ps : List aD} (h : dO s t S ps) (hT : ∀ T ∈ S.tabs, fR S T) (h6 : S.tabs.length ≤ 6) {b : aU} {D : List Ht} (hb : Sl bh s b D) (hk : oa D) (hv : ny D) (hn : D.length ≤ 100000) :
  ah 24 #[fj S t, .slice b.1 b.2.1 b.2.2] s fun y s' => ∃ a n c, y = .slice a n c ∧ Gw bh 75 s s' a n c (jN S D) := by
 obtain ⟨ta, tn, tc⟩ := t;obtain ⟨ba, bn, bc⟩ := b;refine Fx S.version S.last ta tn tc ba bn bc _ s ?_;unfold yc;have htn : tn = ps.length := h.el.len
 have hpl : S.tabs.length = ps.length := by rw [h.eq]; simp
 have hbn : bn = D.length := hb.len
 have hkb : Kb D := fun x hx => by have := hk x hx; omega
 simp only [aQ, aR, aP, aT, bL, aF, bM, aY, bY, cE];refine ⟨fun z s' => ∃ (k : Nat) (a : OA) (n c : Nat), z = ((S.version, S.last, (ta, tn, tc), ()), ((a, n, c), ()), ((k : Int), ()), ()) ∧ k ≤ tn ∧ Gw bh 75 s s' a n c ((gG D (S.tabs.take k)).foldl fK []), fun z _ => tn - z.2.2.1.1.toNat, ⟨0, none, 0, 0, rfl, Nat.zero_le _, Gw.nil (Mod.refl _ _)⟩, ?_⟩;rintro _ s1 ⟨k, a, n, c, rfl, hkt, hG⟩;dsimp only;refine aC (fun d => ?_) fun d => ?_;rotate_left
 ·have d : ¬ (k : Int) < (tn : Int) := of_decide_eq_false d;rw [List.take_of_length_le (by omega)] at hG;exact ⟨a, n, c, rfl, hG⟩
 have hlt : (k : Int) < (tn : Int) := of_decide_eq_true d
 obtain ⟨p, hp⟩ : ∃ p, ps[k]? = some p := ⟨_, List.getElem?_eq_getElem (by omega)⟩
 have hTk : S.tabs[k]? = some p.T := by rw [h.eq, List.getElem?_map, hp]; (first | done | rfl)
 have hTm : p.T ∈ S.tabs := List.mem_of_getElem? hTk;have hok := hT p.T hTm;have hx8 := hok.x8;have hpm : p ∈ ps := List.mem_of_getElem? hp;have hS1 := h.mono hG.md.le;obtain ⟨ad, had, hh⟩ := hS1.el.el.aG hp;dsimp only at had;subst had;refine bg ⟨Int.natCast_nonneg k, hlt⟩ ?_;simp only [cR, Int.toNat_natCast];have hh : s1.has (ad.add (k * 5)) (ja.f p) := hh;refine aE hh (y := me p) rfl ?_;refine W.bF (bC (aB 0), ()) (lR 0 s1) rfl ?_;refine W.bF (bC (aB p.T.id), ()) (lR p.T.id s1) rfl ?_;refine W.bI fun r2 s2 hr2 m2 k2 => ?_;have hU := GR (jv (l := [aB 0, aB p.T.id]) (n := 2) k2 rfl rfl (by omega));refine aN (((bG p.T.id).1, (bG p.T.id).2, ()), ()) hU rfl ?_;have hW := w7 (a := ba) (n := bn) (c := bc) (l := D) (hb.mono (hG.md.trans m2).le) (bG p.T.id) (by have := F6 p.T.id; omega) hk (by omega);refine W.aq hW ?_;rintro _ s3 ⟨wa, wn, wc, rfl, hGw⟩;refine ⟨(((wa, wn, wc), ()), ()), rfl, ?_⟩
 obtain ⟨L, hL⟩ : ∃ L, aI D (bG p.T.id) = L := ⟨_, rfl⟩
 rw [hL] at hGw
 have hLD : ∀ x ∈ L, x ∈ D := fun x hx => by rw [← hL] at hx; exact (jC.1 hx).1
 have hLl : L.length ≤ D.length := by rw [← hL]; exact List.length_filter_le _ _
 have hwn := hGw.row.len;have m13 := m2.trans hGw.md;have hG3 := hG.same m13
 obtain ⟨P, hP⟩ : ∃ P, gG D (S.tabs.take k) = P := ⟨_, rfl⟩
 have hPl : P.length ≤ 6000000 := by
  rw [← hP];have h1 := o9 hn (S.tabs.take k) fun U hU => (hT U (List.mem_of_mem_take hU)).x8
  have h2 : (S.tabs.take k).length ≤ 6 := by rw [List.length_take]; omega
  have h3 : 9 * 100000 * (S.tabs.take k).length ≤ 9 * 100000 * 6 := Nat.mul_le_mul_left _ h2;omega
 have hPk : Kb P := by rw [← hP]; exact xk hkb _
 rw [hP] at hG3
 have hnext : gG D (S.tabs.take (k + 1)) = P ++ L.flatMap (dX p.T) := by
  rw [← hP, ← hL];exact ig _ hTk
 dsimp only;refine ⟨fun z s' => ∃ (j : Nat) (a : OA) (n c : Nat), z = ((S.version, S.last, (some ad, tn, tc), ()), ((a, n, c), ()), ((k : Int), ()), (p.T.id, p.T.name, p.c, p.x, p.k, ()), ((wa, wn, wc), ()), ((j : Int), ()), ()) ∧ j ≤ wn ∧ Gw bh 75 s s' a n c ((P ++ (L.take j).flatMap (dX p.T)).foldl fK []) ∧ Fw.Mod [] s3 s', fun z _ => wn - z.2.2.2.2.2.1.1.toNat, ⟨0, a, n, c, rfl, Nat.zero_le _, by simpa using hG3, Mod.refl _ _⟩, ?_⟩;rintro _ s4 ⟨j, a4, n4, c4, rfl, hj, hG4, m34⟩;dsimp only;refine aC (fun d2 => ?_) fun d2 => ?_;rotate_left
 ·have d2 : ¬ (j : Int) < (wn : Int) := of_decide_eq_false d2;rw [List.take_of_length_le (by omega), ← hnext] at hG4;rw [aj (k := k) (by omega)];exact ⟨⟨k + 1, a4, n4, c4, rfl, by omega, hG4⟩, by simp only [Int.toNat_natCast]; omega⟩
 have hltj : (j : Int) < (wn : Int) := of_decide_eq_true d2
 obtain ⟨x, hx⟩ : ∃ x, L[j]? = some x := ⟨_, List.getElem?_eq_getElem (by omega)⟩
 have hxD : x ∈ D := hLD x (List.mem_of_getElem? hx);have hxk := hkb x hxD;have hsn := ig (dX p.T) hx
 obtain ⟨Q, hQ⟩ : ∃ Q, P ++ (L.take j).flatMap (dX p.T) = Q := ⟨_, rfl⟩
 have hQ1 : P ++ (L.take (j + 1)).flatMap (dX p.T) = Q ++ dX p.T x := by rw [hsn, ← List.append_assoc, hQ]
 have hQl : Q.length ≤ 7000000 := by
  rw [← hQ, List.length_append];have h1 := pe hx8 (L.take j)
  have h2 : (L.take j).length ≤ 100000 := by rw [List.length_take]; omega
  omega
 have hQk : Kb Q := by rw [← hQ]; exact hPk.app (wu _ _ fun y hy => hkb y (hLD y (List.mem_of_mem_take hy)))
 rw [hQ] at hG4
 have hbel : ∀ {s' : PH}, Fw.Mod [] s4 s' → ∃ g, wa = some ⟨g, 0, none⟩ ∧ s'.has ⟨g, j * 3, none⟩ (bh.f x) := fun {s'} hm => by
  obtain ⟨g, e1, e2⟩ := ((hGw.row.mod m34 (by simp)).mod hm (by simp)).at hx;exact ⟨g, e1, e2⟩
 obtain ⟨g, hwa, hhx⟩ := hbel (Mod.refl _ s4);subst hwa
 have gj : (0 : Int) ≤ (j : Int) ∧ (j : Int) < (wn : Int) := ⟨Int.natCast_nonneg j, hltj⟩
 refine bg gj ?_;simp only [cR, Int.toNat_natCast, aV, Nat.zero_add];refine bl (A := ⟨g, j * 3, none⟩) (j := 2) hhx (y := (x.val, ())) rfl ?_
 have step : ∀ {s' : PH} {a' : OA} {n' c' : Nat}, dX p.T x = [] → Gw bh 75 s s' a' n' c' (Q.foldl fK []) → Gw bh 75 s s' a' n' c' ((P ++ (L.take (j + 1)).flatMap (dX p.T)).foldl fK []) := fun {s' a' n' c'} e hg => by
  rw [hQ1, e, List.append_nil]; exact hg
 refine W.aq (KA x.val (by have := hv x hxD; omega)) ?_;intro y s5 hget;have hws : i64.wrap ((j : Int) + 1) = ((j + 1 : Nat) : Int) := aj (k := j) (by omega);rw [hws]
 cases hg : eM x.val with
 | none =>
  rw [hg] at hget;obtain ⟨rfl, m5⟩ := hget;refine ⟨((((none : OA), 0, 0), ()), ((100 : Int), ()), ()), rfl, ?_⟩;refine W.bp (fun z s' => False) (fun z s' hz => hz.elim) ?_;intro J hJ;refine (W.af _ _ _ _).2 ⟨fun _ => ?_, fun q => (by cases q)⟩
  have he : dX p.T x = [] := by unfold dX qJ; rw [hg]
  exact ⟨⟨j + 1, a4, n4, c4, rfl, by omega, step he (hG4.same m5), m34.trans m5⟩, by simp only [Int.toNat_natCast]; omega⟩
 | some cs =>
  rw [hg] at hget;obtain ⟨ca, cn, cc, rfl, hGc⟩ := hget;refine ⟨(((ca, cn, cc), ()), ((0 : Int), ()), ()), rfl, ?_⟩;have m5 := hGc.md;have hcn := hGc.row.len
  have hcsl : cs.length ≤ 4000000 := by
   have h1 := zS hg;have h2 := hv x hxD;omega
  have hSc : ∀ {s' : PH}, s5.le s' → Sl bu s' (ca, cn, cc) cs := fun {s'} hl => (Sl.bN (t := (ca, cn, cc)) hGc.row (by omega)).mono hl;have hG5 := hG4.same m5;obtain ⟨g5, hga, hhx5⟩ := hbel m5;cases hga
  have hpc : ∀ {s' : PH}, s.le s' → ∃ ac, p.c.1 = some ac ∧ 0 < p.c.2.1 ∧ s'.has ac (dw.f (p.T.cols.head hok.ne)) := fun {s'} hl => by
   have hcI := ((h.mono hl).all p hpm).c;have h1 := hcI.len
   obtain ⟨c0, l0, hc0⟩ : ∃ c0 l0, p.T.cols = c0 :: l0 := by
    cases hcc : p.T.cols with
    | nil => exact absurd hcc hok.ne
    | cons c0 l0 => exact ⟨c0, l0, rfl⟩
   have h0 : p.T.cols[0]? = some (p.T.cols.head hok.ne) := by
    rw [List.head_eq_getElem]; exact List.getElem?_eq_getElem _
   obtain ⟨ac, e1, e2⟩ := hcI.el.aG h0;refine ⟨ac, e1, by rw [h1, hc0]; simp, ?_⟩;have e3 : s'.has (ac.add (0 * dw.sz)) (dw.f (p.T.cols.head hok.ne)) := e2;rw [Nat.zero_mul, add_zero] at e3;exact e3
  have hc0id : (p.T.cols.head hok.ne).id = bz p.T := by
   unfold bz
   have h0 : p.T.cols[0]? = some (p.T.cols.head hok.ne) := by
    rw [List.head_eq_getElem]; exact List.getElem?_eq_getElem _
   rw [h0]; (first | done | rfl)
  refine W.bp (fun z s' => z = ((S.version, S.last, (some ad, tn, tc), ()), ((a4, n4, c4), ()), ((k : Int), ()), (p.T.id, p.T.name, p.c, p.x, p.k, ()), ((some ⟨g, 0, none⟩, wn, wc), ()), ((j : Int), ()), ((ca, cn, cc), ()), ()) ∧ s5 = s' ∧ qJ p.T x = some cs) ?_ ?_;rotate_left
  ·intro J hJ;refine (W.af _ _ _ _).2 ⟨fun q => (by cases q), fun _ => ?_⟩;refine aC (fun q => ?_) fun q => ?_
   ·have q : (cn : Int) = 0 := eq_of_beq q;have hnil : cs = [] := List.eq_nil_of_length_eq_zero (by omega)
    have he : dX p.T x = [] := by unfold dX qJ; rw [hg, hnil]
    exact ⟨⟨j + 1, a4, n4, c4, rfl, by omega, step he hG5, m34.trans m5⟩, by simp only [Int.toNat_natCast]; omega⟩
   have q : ¬ (cn : Int) = 0 := by simpa using q
   obtain ⟨c1, cs1, hcs⟩ : ∃ c1 cs1, cs = c1 :: cs1 := by
    cases cs with
    | nil => simp at hcn; omega
    | cons c1 cs1 => exact ⟨c1, cs1, rfl⟩
   obtain ⟨ac, hac, hcp, hhc⟩ := hpc hG5.md.le;refine bg ⟨Int.le_refl 0, Int.natCast_pos.2 hcp⟩ ?_;refine bS hac ?_;rw [add_zero];refine bl (j := 0) hhc (y := ((p.T.cols.head hok.ne).id, ())) rfl ?_;rw [hc0id];refine W.bF (bC (au cs (bz p.T)), ()) (C0 (hSc (PH.le_refl _)) (bz p.T)) rfl ?_;refine W.bF ((cH p.T.id (au cs (bz p.T)), ()), ()) (EA p.T.id (au cs (bz p.T)) s5) rfl ?_;refine bg gj ?_;refine bl (A := ⟨g, j * 3, none⟩) (j := 0) hhx5 (y := (x.key, ())) rfl ?_;rw [bO];refine aC (fun q2 => ?_) fun q2 => ?_
   ·have q2 : ¬ cH p.T.id (au cs (bz p.T)) = x.key := by simpa using q2
    have he : dX p.T x = [] := by
     unfold dX qJ;rw [hg, hcs];rw [hcs] at q2;dsimp only;rw [if_neg q2]
    exact ⟨⟨j + 1, a4, n4, c4, rfl, by omega, step he hG5, m34.trans m5⟩, by simp only [Int.toNat_natCast]; omega⟩
   ·have q2 : cH p.T.id (au cs (bz p.T)) = x.key := by simpa using q2
    refine hJ _ _ ⟨rfl, rfl, ?_⟩;unfold qJ;rw [hg, hcs];rw [hcs] at q2;dsimp only;rw [if_pos q2]
  rintro _ s5 ⟨rfl, rfl, hex⟩;dsimp only
  have hrow : dX p.T x = x :: kG p.T x cs p.T.idxs := by unfold dX; rw [hex]
  refine bg gj ?_;simp only [cR, Int.toNat_natCast, aV, Nat.zero_add];refine bl (A := ⟨g, j * 3, none⟩) (j := 0) hhx5 (y := (x.key, ())) rfl ?_;refine bg gj ?_;refine bl (A := ⟨g, j * 3, none⟩) (j := 2) hhx5 (y := (x.val, ())) rfl ?_;refine bg gj ?_;refine bl (A := ⟨g, j * 3, none⟩) (j := 1) hhx5 (y := (x.ts, ())) rfl ?_;refine AB (p := x) hG5 hQk hxk (by omega) fun a6 n6 c6 s6 hG6 m6 => ?_;have hxn : p.x.2.1 = p.T.idxs.length := ((h.all p hpm).x).len;dsimp only;refine ⟨fun z s' => ∃ (i : Nat) (a : OA) (n c : Nat), z = ((S.version, S.last, (some ad, tn, tc), ()), ((a, n, c), ()), ((k : Int), ()), (p.T.id, p.T.name, p.c, p.x, p.k, ()), ((some ⟨g, 0, none⟩, wn, wc), ()), ((j : Int), ()), ((ca, cn, cc), ()), ((i : Int), ()), ()) ∧ i ≤ p.x.2.1 ∧ Gw bh 75 s s' a n c (((Q ++ [x]) ++ kG p.T x cs (p.T.idxs.take i)).foldl fK []) ∧ Fw.Mod [] s5 s', fun z _ => p.x.2.1 - z.2.2.2.2.2.2.2.1.1.toNat, ⟨0, a6, n6, c6, rfl, Nat.zero_le _, by simpa [kG] using hG6, m6⟩, ?_⟩;rintro _ s7 ⟨i, a7, n7, c7, rfl, hi, hG7, m57⟩;dsimp only;refine aC (fun d3 => ?_) fun d3 => ?_;rotate_left
  ·have d3 : ¬ (i : Int) < ((p.x.2.1 : Nat) : Int) := of_decide_eq_false d3;rw [List.take_of_length_le (by omega), List.append_assoc] at hG7;rw [hws];refine ⟨⟨j + 1, a7, n7, c7, rfl, by omega, ?_, (m34.trans m5).trans m57⟩, by simp only [Int.toNat_natCast]; omega⟩;rw [hQ1, hrow];exact hG7
  have hlti : (i : Int) < ((p.x.2.1 : Nat) : Int) := of_decide_eq_true d3
  obtain ⟨ix, hix⟩ : ∃ ix, p.T.idxs[i]? = some ix := ⟨_, List.getElem?_eq_getElem (by omega)⟩
  have hxI := ((h.mono hG7.md.le).all p hpm).x;obtain ⟨ax, hax, hhi⟩ := hxI.el.aG hix;have hhi : s7.has (ax.add (i * 5)) (jY.f ix) := hhi;refine bg ⟨Int.natCast_nonneg i, hlti⟩ ?_;refine bS hax ?_;simp only [Int.toNat_natCast];refine aE hhi (y := (ix.id, ix.name, ix.column, ix.unique, ix.state, ())) rfl ?_;dsimp only;have hsi : kG p.T x cs (p.T.idxs.take (i + 1)) = kG p.T x cs (p.T.idxs.take i) ++ (if 2 ≤ ix.state then [⟨gu p.T ix cs, x.ts, ⟨#[]⟩⟩] else []) := ig _ hix;rw [aj (k := i) (by omega)];have hEl := qL p.T x cs (p.T.idxs.take i);rw [List.length_take] at hEl;refine aC (fun d4 => ?_) fun d4 => ?_
  ·have d4 : 2 ≤ ix.state := of_decide_eq_true d4;rw [if_pos d4] at hsi;refine W.bF (bC (au cs ix.column), ()) (C0 (hSc m57.le) ix.column) rfl ?_;obtain ⟨ac, hac, hcp, hhc⟩ := hpc hG7.md.le;refine bg ⟨Int.le_refl 0, Int.natCast_pos.2 hcp⟩ ?_;refine bS hac ?_;rw [add_zero];refine bl (j := 0) hhc (y := ((p.T.cols.head hok.ne).id, ())) rfl ?_;rw [hc0id];refine W.bF (bC (au cs (bz p.T)), ()) (C0 (hSc m57.le) (bz p.T)) rfl ?_;refine W.bF ((gu p.T ix cs, ()), ()) (GQ ix.id (au cs ix.column) (au cs (bz p.T)) s7) rfl ?_;refine bg gj ?_;obtain ⟨g7, hga7, hhx7⟩ := hbel (m5.trans m57);cases hga7;simp only [cR, Int.toNat_natCast, aV, Nat.zero_add];refine bl (A := ⟨g, j * 3, none⟩) (j := 1) hhx7 (y := (x.ts, ())) rfl ?_;have hes := nV p.T ix cs;refine AB (p := ⟨gu p.T ix cs, x.ts, ⟨#[]⟩⟩) hG7 ((hQk.app fun y hy => by simp at hy; subst hy; exact hxk).app (E9 _ _ _ _)) (by dsimp only; omega) (by simp only [List.length_append, List.length_cons, List.length_nil]; omega) fun a8 n8 c8 s8 hG8 m8 => ?_;refine ⟨⟨i + 1, a8, n8, c8, rfl, by omega, ?_, m57.trans m8⟩, by (try simp only [Int.toNat_natCast]); omega⟩;rw [hsi, ← List.append_assoc];exact hG8
  ·have d4 : ¬ 2 ≤ ix.state := of_decide_eq_false d4;rw [if_neg d4, List.append_nil] at hsi;refine ⟨⟨i + 1, a7, n7, c7, rfl, by omega, ?_, m57⟩, by simp only [Int.toNat_natCast]; omega⟩;rw [hsi];exact hG7
theorem Ic {S : aK} (h : right S = true) (hr : vQ S) : Gd S := by
 obtain ⟨h1, _⟩ := jO h hr;obtain ⟨h2, h3⟩ := xH h;refine ⟨h1, h3, h2, fun T hT x hx => ?_⟩;obtain ⟨_, _, _, d, _⟩ := eB.1 h;obtain ⟨i, hi⟩ := List.mem_iff_getElem?.1 hT;obtain ⟨_, _, _, _, _, _, _, _, _, c2, _⟩ := gr.1 (ct.1 d i T hi);obtain ⟨j, hj⟩ := List.mem_iff_getElem?.1 hx;have h4 := ct.1 c2 j x hj;unfold iA dL at h4;simp only [Bool.and_eq_true, decide_eq_true_eq] at h4;exact h4.1.2
theorem Df {S : aK} {D : List Ht} {p : Ht} (h : p ∈ jN S D) : p ∈ D ∨ (p.key.size ≤ 1120 ∧ p.val = ⟨#[]⟩) := by
 rcases tW _ h with g | g
 ·obtain ⟨T, _, a, ha, _, cs, _, rfl | ⟨x, _, _, rfl⟩⟩ := fy.1 g
  ·exact .inl ha
  ·exact .inr ⟨nV T x cs, rfl⟩
 ·simp at g
theorem De {S : aK} {D : List Ht} {N : Nat} (hN : D.length ≤ N) (h8 : ∀ T ∈ S.tabs, T.idxs.length ≤ 8) (h6 : S.tabs.length ≤ 6) : (jN S D).length ≤ 54 * N := by
 have h1 := o9 hN S.tabs h8;have h2 := tV (gG D S.tabs) [];have h3 : 9 * N * S.tabs.length ≤ 9 * N * 6 := Nat.mul_le_mul_left _ h6;unfold jN;simp only [List.length_nil, Nat.zero_add] at h2;omega
theorem Fb {s : PH} {t : aU} {S : aK} {ps : List aD} (h : zb s t S ps) (hr : vQ S) {b : aU} {L : List cG} {bs : List iX} (hb : rQ s b L bs) {u : aU} {l : List Ht} (hu : oo bh s u l) (hk : oa l) :
  ah 5 #[fj S t, .slice b.1 b.2.1 b.2.2, .slice u.1 u.2.1 u.2.2] s fun y s' => y = .bool true ∧ Fw.Mod [] s s' := by
 obtain ⟨ba, bn, bc⟩ := b;refine BE S.version S.last t.1 t.2.1 t.2.2 ba bn bc u.1 u.2.1 u.2.2 _ s ?_;unfold sN;simp only [cE, aY, aR, aF, aP, aQ, aT, bL];refine W.bp (fun z s' => z = ((S.version, S.last, t, ()), ()) ∧ Fw.Mod [] s s' ∧ (S.tabs.length + jb S.tabs + gO bs + l.length ≤ 400 ∧ bs.length ≤ 12 ∧ ∀ x ∈ l, x.val.size ≤ 1000) ∧ right S = true) ?_ ?_;rotate_left
 ·intro J hJ;have aw : ∀ {s' : PH}, Fw.Mod [] s s' → W.call Tryz.prog 16 #[] (false, [(false, [.bool])]) (fun z => W.ret (fun y s' => y = .bool true ∧ Fw.Mod [] s s') (.bool z.1.1)) s' := fun {s'} m => aN ((true, ()), ()) (zn s') rfl ⟨rfl, m⟩;refine aN ((true, ()), ()) (zn s) rfl ?_;refine (W.af _ _ _ _).2 ⟨fun e => (by cases e), fun _ => ?_⟩;refine W.aq (GL h hb hu) ?_;rintro _ _ ⟨⟨g, rfl, hg⟩, rfl⟩;refine ⟨((g, ()), ()), rfl, ?_⟩;refine (W.af _ _ _ _).2 ⟨fun _ => aw (Mod.refl _ _), fun e => ?_⟩;have hS := h.LQ (by have := (hg e).1; omega);have hR := zq hS;refine W.aq hR ?_;rintro _ s1 hq;obtain ⟨rfl, rfl⟩ := hq;refine ⟨((right S, ()), ()), rfl, ?_⟩;refine (W.af _ _ _ _).2 ⟨fun _ => aw (Mod.refl _ _), fun e2 => ?_⟩;exact hJ _ _ ⟨rfl, Mod.refl _ _, hg e, by simpa using e2⟩
 rintro _ s0 ⟨rfl, m0, ⟨hg, hb12, hv⟩, hrt⟩;have G := Ic hrt hr;obtain ⟨_, h6⟩ := jO hrt hr;have h8 : ∀ T ∈ S.tabs, T.idxs.length ≤ 8 := fun T hT => (G.ok T hT).x8;have hS := (h.LQ (by omega)).mono m0.le;obtain ⟨hbs, hbv⟩ := hb.dF (by omega) hb12;have hul := (hu.dF (by omega)).mono m0.le;have hB := I0 hk hv (by omega);have hHB := Je (a := u.1) (n := u.2.1) (c := u.2.2) hul hk (by omega);refine W.aq hHB ?_;rintro _ s1 ⟨a1, n1, c1, rfl, hG1⟩;refine ⟨(((a1, n1, c1), ()), ()), rfl, ?_⟩
 obtain ⟨B0, hBe⟩ : ∃ B, kz l = B := ⟨_, rfl⟩
 rw [hBe] at hB hG1;have hBlen := hB.len;have sl1 : Sl bh s1 (a1, n1, c1) B0 := Sl.bN hG1.row (by omega);have hE1 := zp (hS.mono hG1.md.le) G.ok h6 sl1 hB.ks hB.vs (by omega);refine W.aq hE1 ?_;rintro _ s2 ⟨a2, n2, c2, rfl, hG2⟩;refine ⟨(((a2, n2, c2), ()), ()), rfl, ?_⟩
 obtain ⟨B, hBx⟩ : ∃ B, jN S B0 = B := ⟨_, rfl⟩
 have X : EX S B := by rw [← hBx]; exact G6 G hB.cJ
 have hBl : B.length ≤ 21600 := by
  have := De (S := S) (D := B0) hBlen h8 h6;rw [hBx] at this; omega
 have hsub : ∀ p ∈ B, p ∈ B0 ∨ (p.key.size ≤ 1120 ∧ p.val = ⟨#[]⟩) := fun p hp => Df (by rw [hBx]; exact hp)
 have hks : oa B := fun p hp => by
  rcases hsub p hp with g | g
  ·exact hB.ks p g
  ·have := g.1; omega
 have hvs : ny B := fun p hp => by
  rcases hsub p hp with g | g
  ·exact hB.vs p g
  ·rw [g.2]; show 0 ≤ 4000000; omega
 have hcn : kX 1000 B := fun p hp cs e => by
  rcases hsub p hp with g | g
  ·exact hB.cn p g cs e
  ·rw [g.2] at e; rw [pq e]; simp
 rw [hBx] at hG2;have m02 := hG1.md.trans hG2.md;have hn2 := hG2.row.len;have sl2 : Sl bh s2 (a2, n2, c2) B := Sl.bN hG2.row (by omega)
 have hrun := zx (N0 := 1000) (sh := (a2, n2, c2)) (B := B) (b := (ba, bn, bc)) (by omega) ⟨sl2, by show n2 ≤ 100000; omega, hks, hvs, X.cJ⟩ (hS.mono m02.le) (KT hr) hcn (hbs.mono (m0.trans m02).le) hb12 fun q hq => by
  obtain ⟨g1, g2⟩ := hbv q hq;exact ⟨g1.mono (m0.trans m02).le, g2⟩
 have hLe : bs.map (·.b) = L := hb.eq;rw [hLe] at hrun;refine W.aq hrun ?_;intro y s3 hq;obtain ⟨m3, u3, v3, t3, at3, rfl, hok3, hno3⟩ := D4 hq;refine ⟨((u3, v3, t3, ()), (at3, ()), (tX S L B, ()), ()), rfl, ?_⟩;have m03 := m02.trans m3;dsimp only;refine aC (fun e => ?_) fun e => ?_
 ·have e : tX S L B ≠ 0 := by simpa using e
  obtain ⟨rfl, rfl, rfl⟩ := hno3 e;refine (W.af _ _ _ _).2 ⟨fun _ => ?_, fun q => (by cases q)⟩;refine (W.af _ _ _ _).2 ⟨fun _ => ⟨rfl, m0.trans m03⟩, fun q => (by cases q)⟩
 have e : tX S L B = 0 := by simpa using e
 obtain ⟨hE3, hF3, he3⟩ := hok3 e
 obtain ⟨W1, hW1⟩ : ∃ W1, (bZ S 0 L B).ws = W1 := ⟨_, rfl⟩
 have X1 := X.run G L 0 (fun q hq => by
  rw [← hLe] at hq;obtain ⟨q', hq', rfl⟩ := List.mem_map.1 hq
  exact (hbv q' hq').2) he3
 rw [hW1] at hE3 hF3 X1;obtain ⟨q1, q2, q3, q4, q5⟩ := KZ X.cJ hks hvs (by omega) hF3;have hw3 : Sl nT s3 v3 (W1.foldl cL []) := Sl.bN (t := v3) hE3.writes.row (by have := hF3.ol; omega);have sl3 := sl2.mono m3.le;have hA := uE (ts := 0) sl3 (b := v3.1) (m := v3.2.1) (d := v3.2.2) hw3 (fun x hx => by have := hks x hx; omega) (fun x hx => by have := (hF3.sm x hx).1; omega) (by omega) (by have := hF3.ol; omega);refine W.aq hA ?_;rintro _ s4 ⟨a4, n4, c4, rfl, hG4⟩;refine ⟨(((a4, n4, c4), ()), ()), rfl, ?_⟩;rw [q1] at hG4
 obtain ⟨M, hM⟩ : ∃ M, ai 0 B W1 = M := ⟨_, rfl⟩
 rw [hM] at hG4 q2 q3 q4 q5 X1;have m04 := m03.trans hG4.md;have sl4 : Sl bh s4 (a4, n4, c4) M := Sl.bN hG4.row (by omega);have hn4 := hG4.row.len;have hE4 := zp (hS.mono m04.le) G.ok h6 sl4 q3 q4 (by omega);refine W.aq hE4 ?_;rintro _ s5 ⟨a5, n5, c5, rfl, hG5⟩;refine ⟨(((a5, n5, c5), ()), ()), rfl, ?_⟩;have m05 := m04.trans hG5.md;have hn5 := hG5.row.len;have hkv := Jy (tF G X1.cJ).1 X1.cJ (fun κ v => X1.exact G κ v)
 obtain ⟨E, hEx⟩ : ∃ E, jN S M = E := ⟨_, rfl⟩
 rw [hEx] at hG5 hn5 hkv
 have hlen : E.length = M.length := by
  have := congrArg List.length hkv
  rwa [List.length_map, List.length_map] at this
 have e45 : ((n4 : Int) != (n5 : Int)) = false := GG (by omega);dsimp only;refine (W.af _ _ _ _).2 ⟨fun q => (by rw [e45] at q; cases q), fun _ => ?_⟩;refine ⟨fun z s' => ∃ k : Nat, z = (((a4, n4, c4), ()), ((a5, n5, c5), ()), ((n4 : Int), ()), ((k : Int), ()), ()) ∧ k ≤ n4 ∧ s' = s5, fun z _ => n4 - z.2.2.2.1.1.toNat, ⟨0, rfl, Nat.zero_le _, rfl⟩, ?_⟩;rintro _ s5 ⟨k, rfl, hkn, rfl⟩;dsimp only;refine (W.af _ _ _ _).2 ⟨fun d => ?_, fun d => ⟨rfl, m0.trans m05⟩⟩;have hlt : (k : Int) < (n4 : Int) := of_decide_eq_true d
 obtain ⟨x, hx⟩ : ∃ x, M[k]? = some x := ⟨_, List.getElem?_eq_getElem (by omega)⟩
 obtain ⟨y, hy⟩ : ∃ y, E[k]? = some y := ⟨_, List.getElem?_eq_getElem (by omega)⟩
 have hxy : x.key = y.key ∧ x.val = y.val := by
  have := congrArg (fun l : List (BA × BA) => l[k]?) hkv;simp only [List.getElem?_map, hx, hy, Option.map_some, Option.some.injEq, Prod.mk.injEq] at this;exact ⟨this.1.symm, this.2.symm⟩
 obtain ⟨gx, hgx, hhx⟩ := (hG4.row.mod hG5.md (by simp)).at hx;obtain ⟨gy, hgy, hhy⟩ := hG5.row.at hy;subst hgx;subst hgy
 have gk : (0 : Int) ≤ (k : Int) ∧ (k : Int) < (n4 : Int) := ⟨Int.natCast_nonneg k, hlt⟩
 have gk5 : (0 : Int) ≤ (k : Int) ∧ (k : Int) < (n5 : Int) := ⟨Int.natCast_nonneg k, by omega⟩
 simp only [cR, Int.toNat_natCast, aV, Nat.zero_add];refine bg gk ?_;refine bl (A := ⟨gx, k * 3, none⟩) (j := 0) hhx (y := (x.key, ())) rfl ?_;refine bg gk5 ?_;refine bl (A := ⟨gy, k * 3, none⟩) (j := 0) hhy (y := (y.key, ())) rfl ?_;dsimp only;rw [bO, hxy.1];refine (W.af _ _ _ _).2 ⟨fun q => (by simp at q), fun _ => ?_⟩;refine bg gk ?_;refine bl (A := ⟨gx, k * 3, none⟩) (j := 2) hhx (y := (x.val, ())) rfl ?_;refine bg gk5 ?_;refine bl (A := ⟨gy, k * 3, none⟩) (j := 2) hhy (y := (y.val, ())) rfl ?_;dsimp only;rw [bO, hxy.2];refine (W.af _ _ _ _).2 ⟨fun q => (by simp at q), fun _ => ?_⟩;rw [aj (k := k) (by omega)];exact ⟨⟨k + 1, rfl, by omega, rfl⟩, by simp only [Int.toNat_natCast]; omega⟩
theorem Br {s : PH} {cs : Array Value} {S : aK} (h : y6.is s cs.toList S) {a : OA} {n c : Nat} {L : List cG} (w1 : elems uX s a n L) (h1 : n ≤ c) (b1 : c * 120 ≤ reachBytes) {a2 : OA} {n2 c2 : Nat} {l : List Ht} (w2 : elems uY s a2 n2 l) (h2 : n2 ≤ c2) (b2 : c2 * 40 ≤ reachBytes) :
  ah 5 #[.agg cs, .slice a n c, .slice a2 n2 c2] s fun y s' => y = .bool true ∧ Fw.Mod [] s s' := by
 obtain ⟨t, ps, e, hB, _⟩ := H8 h;obtain ⟨bs, hb⟩ := I2 w1 h1 b1;obtain ⟨hu, hk⟩ := Js w2 h2 b2;rw [GA e];have hl := Fb hB (J5 h) hb hu hk;exact hl
end
end Go.Proofs.YtlfdfgokflhdbaaGreat
