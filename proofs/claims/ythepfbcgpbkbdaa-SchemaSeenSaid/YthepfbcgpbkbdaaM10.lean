/-
  Schemas: the lists of a table of one's own are worked on.
  Conditions: none; it proves no statement by itself.
-/
import Derived.Test.YthepfbcgpbkbdaaM9
set_option linter.unusedVariables false
set_option linter.unusedSimpArgs false
set_option maxHeartbeats 1000000
set_option maxRecDepth 100000
namespace Go.Proofs.Ythepfbcgpbkbdaa
open Fw Go
attribute [-simp] Fw.W.ld_iff Fw.W.st_iff

/-- an append that has room stays where it is -/
theorem app_room {e : TypeId} {sz bytes : Nat} {zero : List Value} {b : Option Addr} {n c : Nat} {src : Src} {K : Option Addr → Nat → Nat → W.T} {s : PH} (hr : n + src.len ≤ c) (h : W.app e sz bytes zero b n c src (fun a' n' c' s' => (a' = b ∧ c' = c) → K a' n' c' s') s) : W.app e sz bytes zero b n c src K s := by
  obtain ⟨old, news, h1, h2, h3, h4, h5, h6, h7⟩ := h
  refine ⟨old, news, h1, h2, h3, h4, h5, fun hle => ?_, fun hlt => by omega⟩
  have h6 := h6 hle
  cases b with
  | none => exact h6 ⟨rfl, rfl⟩
  | some a => exact ⟨h6.1, h6.2 ⟨rfl, rfl⟩⟩
theorem zeros_one {zero : List Value} (h : ∀ v ∈ zero, v.oneCell' = true) (N : Nat) : (Builtin.zeroCells zero.toArray N).toList.length = N * zero.length ∧ ∀ v ∈ (Builtin.zeroCells zero.toArray N).toList, v.oneCell' = true := by
  refine ⟨by simp [Builtin.zeroCells], fun v hv => ?_⟩
  simp only [Builtin.zeroCells, Array.toList_map, Array.toList_range, List.mem_map, List.mem_range, List.size_toArray] at hv
  obtain ⟨i, hi, rfl⟩ := hv
  have hpos : 0 < zero.length := by
    rcases Nat.eq_zero_or_pos zero.length with q | q
    · rw [q] at hi; omega
    · exact q
  have hlt := Nat.mod_lt i hpos
  rw [getElem!_pos _ _ (by simpa using hlt)]
  exact h _ (by simp)
/-- the room behind a row is cleared -/
theorem clr_tail {α : Type} {E : Enc α} {s : PH} {e : TypeId} {a : Option Addr} {m c N : Nat} {xs : List α} {zero : List Value} {K : W.T} (h : rowE E s e a m c xs) (hz : zero.length = E.sz) (h1 : ∀ v ∈ zero, v.oneCell' = true) (hN : m + N ≤ c)
    (hK : ∀ s', rowE E s' e a m c xs → Fw.Mod (Fw.blk a) s s' → K s') : W.clr zero (if c = m then a else a.map (·.add (m * E.sz))) N K s := by
  obtain ⟨hl, ho⟩ := zeros_one h1 N
  rw [hz] at hl
  unfold W.clr
  generalize (Builtin.zeroCells zero.toArray N).toList = news at hl ho
  by_cases hc : c = m
  · subst hc
    have hN0 : N = 0 := by omega
    subst hN0
    have : news = [] := List.length_eq_zero_iff.1 (by rw [hl, Nat.zero_mul])
    subst this
    rw [if_pos rfl]
    cases a with
    | none => exact hK s h (Mod.refl _ _)
    | some a => exact ⟨fun i hi => absurd hi (Nat.not_lt_zero _), fun v hv => by simp at hv, hK s h (Mod.refl _ _)⟩
  · rw [if_neg hc]
    obtain ⟨g1, g2, g3, ⟨rfl, rfl, rfl⟩ | ⟨g, cur, rfl, hg, hcc, ht⟩⟩ := id h
    · exact absurd rfl hc
    · simp only [Option.map_some, add_mk, Nat.zero_add]
      have hb : (m + N) * E.sz ≤ cur.size := Nat.le_trans (Nat.mul_le_mul_right _ hN) hcc
      rw [Nat.add_mul] at hb
      refine ⟨fun i hi => ?_, ho, ?_⟩
      · rw [add_mk]
        refine ⟨?_, ?_⟩
        · unfold PH.cell?; dsimp only; rw [hg]
          have : m * E.sz + i < cur.size := by omega
          simp [this]
        · unfold PH.frozen?; dsimp only; rw [hg]; simp
      · cases news with
        | nil => exact hK s h (Mod.refl _ _)
        | cons v news =>
          rw [PH.stores_eq (e := e) (f := (0, 0)) rfl (v :: news) 0 cur s hg (by simp)]
          refine hK _ ⟨g1, g2, g3, .inr ⟨g, _, rfl, PH.upd_same _ _ _, by rw [setL_size]; exact hcc, ?_⟩⟩ (Mod.upd (by simp [Fw.blk]))
          simp only [Nat.add_zero]
          rw [setL_toList _ _ _ (by omega), ← ht]
          rw [List.append_assoc, List.take_append_of_le_length (by simp; omega), List.take_take, Nat.min_self]
theorem map_add0 (a : Option Addr) : a.map (·.add 0) = a := by cases a <;> simp [add_zero]

/-- a table's lists worked on: p becomes p' -/
structure Work (s s1 : PH) (p p' : TabP) : Prop where
  md : Fw.Mod p.L s s1
  own : Own s1 p'
  nd : p'.L.Nodup
  fr : ∀ g ∈ p'.L, g ∈ p.L ∨ s g = none
theorem Has.nodp {s : PH} {t : Tri} {ps : List TabP} {p : TabP} (h : Has s t ps) (hp : p ∈ ps) : p.L.Nodup := by
  obtain ⟨l, r, rfl⟩ := List.append_of_mem hp
  exact (Lof_nod.1 h.nod).2.1
theorem Has.put0 {s s1 s2 : PH} {t : Tri} {ps : List TabP} {i : Nat} {p p' : TabP} (h : Has s t ps) (hp : ps[i]? = some p) (hw : Work s s1 p p') (h2 : rowE tabE s2 42 t.1 t.2.1 t.2.2 (ps.set i p')) (m2 : Fw.Mod (Fw.blk t.1) s1 s2) :
    Has s2 t (ps.set i p') ∧ Step (Lof t ps) (Lof t (ps.set i p')) s s2 := by
  obtain ⟨hm, ho, hnd, hf⟩ := hw
  have hi := (List.getElem?_eq_some_iff.1 hp).1
  obtain ⟨l, r, rfl, hl⟩ : ∃ l r, ps = l ++ p :: r ∧ l.length = i := ⟨ps.take i, ps.drop (i + 1), by rw [← drop_some hp, List.take_append_drop], by simp; omega⟩
  subst hl
  have hset : (l ++ p :: r).set l.length p' = l ++ p' :: r := by simp
  rw [hset] at h2 ⊢
  have hn0 := Lof_nod.1 h.nod
  have hkn := h.known
  have hap : ∀ g, (g ∈ Fw.blk t.1 ∨ g ∈ l.flatMap TabP.L ∨ g ∈ r.flatMap TabP.L) → g ∉ p.L := fun g hg hg2 => hn0.2.2 g hg2 hg
  have hgl : ∀ x, x ∈ l.flatMap TabP.L ∨ x ∈ r.flatMap TabP.L → x ∉ Fw.blk t.1 := by
    intro x hx hx2
    have := hn0.1
    rw [List.nodup_append] at this
    exact this.2.2 x hx2 x (List.mem_append.2 hx) rfl
  refine ⟨⟨h2, ?_, ?_⟩, ⟨?_, ?_⟩⟩
  · intro q hq
    have hq' : q ∈ l ∨ q = p' ∨ q ∈ r := by simpa using hq
    rcases hq' with hq' | rfl | hq'
    · have hL : ∀ x ∈ q.L, x ∈ l.flatMap TabP.L := fun x hx => List.mem_flatMap.2 ⟨q, hq', hx⟩
      exact ((h.all q (by simp [hq'])).mod hm fun x hx => hap x (.inr (.inl (hL x hx)))).mod m2 fun x hx => hgl x (.inl (hL x hx))
    · exact ho.mod m2 fun x hx hx2 => by
        rcases hf x hx with e | e
        · exact hap x (.inl hx2) e
        · exact h.row.known x hx2 e
    · have hL : ∀ x ∈ q.L, x ∈ r.flatMap TabP.L := fun x hx => List.mem_flatMap.2 ⟨q, hq', hx⟩
      exact ((h.all q (by simp [hq'])).mod hm fun x hx => hap x (.inr (.inr (hL x hx)))).mod m2 fun x hx => hgl x (.inr (hL x hx))
  · refine Lof_nod.2 ⟨hn0.1, hnd, fun x hx hx2 => ?_⟩
    rcases hf x hx with e | e
    · exact hap x hx2 e
    · refine hkn x (Lof_mid.2 (.inl hx2)) e
  · exact (hm.mono fun x hx => Lof_mid.2 (.inr hx)).trans (m2.mono fun x hx => Lof_t hx)
  · intro x hx
    rcases Lof_mid.1 hx with hx | hx
    · exact .inl (Lof_mid.2 (.inl hx))
    · rcases hf x hx with e | e
      · exact .inl (Lof_mid.2 (.inr e))
      · exact .inr e
theorem Has.same {s s1 : PH} {t : Tri} {ps : List TabP} {i : Nat} {p p' : TabP} (h : Has s t ps) (hp : ps[i]? = some p) (hw : Work s s1 p p') (he : tabE.f p' = tabE.f p) :
    Has s1 t (ps.set i p') ∧ Step (Lof t ps) (Lof t (ps.set i p')) s s1 := by
  refine h.put0 hp hw ?_ (Mod.refl _ _)
  have hi := (List.getElem?_eq_some_iff.1 hp).1
  have hn0 := h.nod
  have hap : ∀ g ∈ Fw.blk t.1, g ∉ p.L := by
    intro g hg hg2
    simp only [Lof, List.nodup_append] at hn0
    exact hn0.2.2 g hg g (List.mem_flatMap.2 ⟨p, List.mem_of_getElem? hp, hg2⟩) rfl
  have hrow := h.row.mod hw.md hap
  unfold rowE at hrow ⊢
  have : (ps.set i p').flatMap tabE.f = ps.flatMap tabE.f := by
    obtain ⟨l, r, e, hl⟩ : ∃ l r, ps = l ++ p :: r ∧ l.length = i := ⟨ps.take i, ps.drop (i + 1), by rw [← drop_some hp, List.take_append_drop], by simp; omega⟩
    subst hl; subst e
    simp [he]
  rw [this]; exact hrow
theorem Has.store {s s1 : PH} {t : Tri} {ps : List TabP} {i : Nat} {p p' : TabP} {K : W.T} (h : Has s t ps) (hp : ps[i]? = some p) (hw : Work s s1 p p') {j : Nat} {vs : List Value}
    (hx' : tabE.f p' = (tabE.f p).take j ++ vs ++ (tabE.f p).drop (j + vs.length)) (hj : j + vs.length ≤ 5) (hne : vs ≠ []) {g : Nat} (ha : t.1 = some ⟨g, 0, none⟩)
    (hK : ∀ s2, Has s2 t (ps.set i p') → Step (Lof t ps) (Lof t (ps.set i p')) s s2 → K s2) : W.st ⟨g, i * 5 + j, none⟩ vs K s1 :=
  h.put hp hw.md hw.own hw.nd hw.fr hx' hj hne ha hK

/-! ## cols -/
abbrev zC : List Value := [.int .i64 0, .string ⟨#[]⟩, .int .i64 0, .int .i64 0, .int .i64 0, .int .i64 0, .string ⟨#[]⟩]
theorem work_c {s s1 : PH} {p : TabP} (ho : Own s p) (hn : p.L.Nodup) {u : Tri} {xs : List Col} (hr : rowE colE s1 44 u.1 u.2.1 u.2.2 xs) (hm : Fw.Mod (Fw.blk p.c.1) s s1) (hf : ∀ g ∈ Fw.blk u.1, g ∈ Fw.blk p.c.1 ∨ s g = none) :
    Work s s1 p ⟨{ p.T with cols := xs }, u, p.x, p.k⟩ := by
  have hn' := hn
  simp only [TabP.L, List.nodup_append] at hn'
  obtain ⟨n1, ⟨n2, n3, n4⟩, n5⟩ := hn'
  have e1 : ∀ g ∈ Fw.blk p.c.1, g ∉ Fw.blk p.x.1 := fun g h h2 => n5 g h g (List.mem_append.2 (.inl h2)) rfl
  have e2 : ∀ g ∈ Fw.blk p.c.1, g ∉ Fw.blk p.k.1 := fun g h h2 => n5 g h g (List.mem_append.2 (.inr h2)) rfl
  have e3 : ∀ g ∈ Fw.blk p.x.1, g ∉ Fw.blk p.k.1 := fun g h h2 => n4 g h g h2 rfl
  have e1' : ∀ g ∈ Fw.blk p.x.1, g ∉ Fw.blk p.c.1 := fun g h h2 => e1 g h2 h
  have e2' : ∀ g ∈ Fw.blk p.k.1, g ∉ Fw.blk p.c.1 := fun g h h2 => e2 g h2 h
  have e3' : ∀ g ∈ Fw.blk p.k.1, g ∉ Fw.blk p.x.1 := fun g h h2 => e3 g h2 h
  have kc := ho.c.known
  have kx := ho.x.known
  have kk := ho.k.known
  have ap : ∀ g ∈ Fw.blk u.1, g ∉ Fw.blk p.x.1 ∧ g ∉ Fw.blk p.k.1 := by
    intro g hg
    rcases hf g hg with e | e
    · exact ⟨e1 g e, e2 g e⟩
    · exact ⟨fun h => kx g h e, fun h => kk g h e⟩
  refine ⟨hm.mono fun g hg => by simp only [TabP.L, List.mem_append]; exact .inl hg, ⟨hr, ho.x.mod hm e1', ho.k.mod hm e2'⟩, ?_, ?_⟩
  · simp only [TabP.L, List.nodup_append, List.mem_append]
    exact ⟨blk_nodup _, ⟨n2, n3, n4⟩, fun g hg y hy e => by subst e; exact Or.elim hy (ap g hg).1 (ap g hg).2⟩
  · intro g hg
    simp only [TabP.L, List.mem_append] at hg ⊢
    rcases hg with hg | hg | hg
    · exact (hf g hg).imp_left .inl
    · exact .inl (.inr (.inl hg))
    · exact .inl (.inr (.inr hg))
theorem Has.app_c {s : PH} {t : Tri} {ps : List TabP} {i : Nat} {p : TabP} {K : Option Addr → Nat → Nat → W.T} (h : Has s t ps) (hp : ps[i]? = some p) (x : Col) (hl : p.T.cols.length ≤ 4294967296)
    (hK : ∀ (u : Tri) s1, u.2.1 = p.c.2.1 + 1 → Work s s1 p ⟨{ p.T with cols := p.T.cols ++ [x] }, u, p.x, p.k⟩ → K u.1 u.2.1 u.2.2 s1) : W.nw (.cells (colE.f x).toArray 44 (0, 0)) (fun r => W.app 44 7 72 zC p.c.1 p.c.2.1 p.c.2.2 (Src.sl (some ⟨r, 0, none⟩) 1) K) s := by
  refine W.nw_of fun r s1 hr m1 k1 => ?_
  have hmax : maxLen = 9223372036854775807 := rfl
  have hpm := List.mem_of_getElem? hp
  have ho := h.all p hpm
  have hn : p.c.2.1 = p.T.cols.length := ho.c.len
  refine app_rowE (ho.c.mod m1 (by simp)) rfl (ys := [x]) (k := 1) (src_has (by have := has_block k1; simpa using this) rfl) rfl rfl (by omega) (by omega) ?_
  intro a' c' s2 h' hm
  refine hK (a', p.c.2.1 + 1, c') s2 rfl (work_c ho (h.nodp hpm) (u := (a', p.c.2.1 + 1, c')) h' ?_ ?_)
  · rcases hm with ⟨_, hm⟩ | ⟨g, _, _, hm⟩
    · exact (m1.mono (by simp)).trans hm
    · exact (m1.trans hm).mono (by simp)
  · rcases hm with ⟨e, hm⟩ | ⟨g, e, hg, hm⟩
    · intro g hg; dsimp only at hg; rw [e] at hg; exact .inl hg
    · intro g' hg'
      dsimp only at hg'
      rw [e] at hg'
      have : g' = g := by simpa [Fw.blk] using hg'
      subst this
      exact .inr (m1.none hg (by simp))
theorem c_DeleteC {s : PH} {a : Option Addr} {n c k : Nat} {xs : List Col} (h : rowE colE s 44 a n c xs) (hk : k < n) (hl : n ≤ 4294967296) : DCalls Try.prog 141 #[.slice a n c, .int .i64 k, .int .i64 ((k + 1 : Nat) : Int)] s fun y s' =>
    y = .slice a (n - 1) c ∧ rowE colE s' 44 a (n - 1) c (xs.eraseIdx k) ∧ Fw.Mod (Fw.blk a) s s' := by
  refine ok_DeleteC a n c k ((k + 1 : Nat) : Int) _ s ?_
  unfold vc_DeleteC
  have hn : n = xs.length := h.len
  have hle := h.le
  have hmax : maxLen = 9223372036854775807 := rfl
  have hcm := h.max
  simp only [RP_guard, W.guard_iff, RP_ite, W.br_iff, RP_app, RP_ret, RP_clr]
  refine ⟨by omega, fun e => ?_, fun _ => ?_⟩
  · have e : (k : Int) = ((k + 1 : Nat) : Int) := by simpa using e
    omega
  refine ⟨by omega, by omega, ?_⟩
  have hpre : rowE colE s 44 a k c (xs.take k) := by
    have := h.shrink (m := k) (c' := c) (by omega) (by omega) (Nat.le_refl _)
    have e : (if a = none then none else a) = a := by cases a <;> simp
    rwa [e] at this
  have hsrc := h.src (i := k + 1) (m := n - (k + 1)) (by omega)
  have he : (if c = 0 then a else Option.map (fun x => x.add 0) a) = a := by split <;> simp [map_add0]
  simp only [Int.toNat_natCast, Nat.sub_zero, he]
  refine app_room (by show k + (n - (k + 1)) ≤ c; omega) ?_
  refine app_rowE hpre rfl (ys := (xs.drop (k + 1)).take (n - (k + 1))) (k := n - (k + 1)) hsrc rfl (by rw [List.length_take, List.length_drop]; omega) (by omega) (by omega) ?_
  rintro a' c' s' h' hm ⟨rfl, rfl⟩
  have hlist : xs.take k ++ (xs.drop (k + 1)).take (n - (k + 1)) = xs.eraseIdx k := by
    rw [List.eraseIdx_eq_take_drop_succ, List.take_of_length_le (l := xs.drop (k + 1)) (by rw [List.length_drop]; omega)]
  rw [hlist, show k + (n - (k + 1)) = n - 1 by omega] at h'
  have hm' : Fw.Mod (Fw.blk a') s s' := by
    rcases hm with ⟨_, hm⟩ | ⟨g, e, hg, hm⟩
    · exact hm
    · exact hm.mono (by simp)
  rw [show k + (n - (k + 1)) = n - 1 by omega]
  refine ⟨by omega, ?_⟩
  try simp only [Int.toNat_natCast]
  refine clr_tail h' rfl (by simp [Value.oneCell']) (by omega) fun s2 h2 m2 => ⟨rfl, h2, hm'.trans m2⟩
theorem c_stateC (A : Addr) (s : PH) : DCalls Try.prog 124 #[.pointer (some A)] s fun y s' => y = .pointer (some (A.add 3)) ∧ s' = s := by
  refine ok_stateC A _ s ?_
  unfold vc_stateC
  simp
theorem c_placeC {s : PH} {t : Tri} {ps : List TabP} {i k g : Nat} {p : TabP} {x : Col} (h : Has s t ps) (hp : ps[i]? = some p) (hx : p.T.cols[k]? = some x) (ht : t.1 = some ⟨g, 0, none⟩) (hl : p.T.cols.length ≤ 4294967296) (st : Int) :
    DCalls Try.prog 123 #[.pointer (some ⟨g, i * 5 + 2, none⟩), .int .i64 k, .int .i64 st, .func (.func 124) #[] #[]] s fun y s' => y = .tuple #[] ∧
      ∃ ps', Has s' t ps' ∧ ps'.map (·.T) = (ps.map (·.T)).set i { p.T with cols := placed p.T.cols k st (x.put st) } ∧ Step (Lof t ps) (Lof t ps') s s' := by
  refine ok_placeC ⟨g, i * 5 + 2, none⟩ k st _ s ?_
  unfold vc_placeC
  have hpm := List.mem_of_getElem? hp
  have ho := h.all p hpm
  have hn : p.c.2.1 = p.T.cols.length := ho.c.len
  have hkl := (List.getElem?_eq_some_iff.1 hx).1
  obtain ⟨g', hg', hh⟩ := h.row.at hp
  rw [ht] at hg'
  cases hg'
  have hh' : s.has (Addr.mk g (i * 5) none) (tabE.f p) := hh
  have hld : ∀ (K : Den [.slice] → W.T), K (p.c, ()) s → W.ld [.slice] ⟨g, i * 5 + 2, none⟩ K s := by
    intro K hK
    have := ld_has (j := 2) (cs := [.slice]) (y := (p.c, ())) hh' rfl hK
    rwa [add_mk] at this
  simp only [RP_ite, W.br_iff, RP_unSome, W.unSome_some, RP_ld, RP_call, RP_st, RP_ret, RP_guard]
  refine ⟨fun h0 => ?_, fun h0 => ?_⟩
  · have h0 : st = 0 := by simpa using h0
    refine hld _ ?_
    rw [wrap_succ (k := k) (by omega)]
    refine W.call_of (c_DeleteC ho.c (k := k) (by show k < p.c.2.1; omega) (by show p.c.2.1 ≤ _; omega)) ?_
    rintro _ s1 ⟨rfl, h1, m1⟩
    refine ⟨(((p.c.1, p.c.2.1 - 1, p.c.2.2), ()), ()), rfl, ?_⟩
    simp only [W.unSome_some]
    have hw := work_c ho (h.nodp hpm) (u := (p.c.1, p.c.2.1 - 1, p.c.2.2)) h1 m1 (fun g hg => .inl hg)
    refine h.store hp hw (j := 2) (vs := [.slice p.c.1 (p.c.2.1 - 1) p.c.2.2]) rfl (by simp) (by simp) ht fun s2 h2 st2 => ?_
    refine ⟨rfl, _, h2, ?_, st2⟩
    rw [List.map_set]; unfold placed; rw [if_pos h0]
  · have h0 : st ≠ 0 := by simpa using h0
    refine hld _ ?_
    refine ⟨by show (0 : Int) ≤ k ∧ (k : Int) < (p.c.2.1 : Nat); omega, ?_⟩
    obtain ⟨gc, hgc, hhc⟩ := ho.c.at hx
    rw [hgc]
    simp only [W.unSome_some, Int.toNat_natCast]
    refine callq ((some (((Addr.mk gc 0 none).add (k * 7)).add 3), ()), ()) (c_stateC _ s) rfl ?_
    simp only [W.unSome_some, add_mk, Nat.zero_add]
    refine rowE.st (E := colE) (i := k) (j := 3) (x' := x.put st) (vs := [.int .i64 st]) ho.c hx rfl (by show 3 + 1 ≤ 7; omega) (by simp) (by simp [Value.oneCell']) hgc fun s1 h1 m1 => ?_
    have hw := work_c ho (h.nodp hpm) (u := p.c) h1 (m1.mono fun x hx => by rw [hgc]; simpa [Fw.blk] using hx) (fun g hg => .inl hg)
    obtain ⟨h2, st2⟩ := h.same hp hw rfl
    refine ⟨rfl, _, h2, ?_, st2⟩
    rw [List.map_set]; unfold placed; rw [if_neg h0]

/-! ## idxs -/
abbrev zX : List Value := [.int .i64 0, .string ⟨#[]⟩, .int .i64 0, .bool false, .int .i64 0]
theorem work_x {s s1 : PH} {p : TabP} (ho : Own s p) (hn : p.L.Nodup) {u : Tri} {xs : List Idx} (hr : rowE idxE s1 106 u.1 u.2.1 u.2.2 xs) (hm : Fw.Mod (Fw.blk p.x.1) s s1) (hf : ∀ g ∈ Fw.blk u.1, g ∈ Fw.blk p.x.1 ∨ s g = none) :
    Work s s1 p ⟨{ p.T with idxs := xs }, p.c, u, p.k⟩ := by
  have hn' := hn
  simp only [TabP.L, List.nodup_append] at hn'
  obtain ⟨n1, ⟨n2, n3, n4⟩, n5⟩ := hn'
  have e1 : ∀ g ∈ Fw.blk p.c.1, g ∉ Fw.blk p.x.1 := fun g h h2 => n5 g h g (List.mem_append.2 (.inl h2)) rfl
  have e2 : ∀ g ∈ Fw.blk p.c.1, g ∉ Fw.blk p.k.1 := fun g h h2 => n5 g h g (List.mem_append.2 (.inr h2)) rfl
  have e3 : ∀ g ∈ Fw.blk p.x.1, g ∉ Fw.blk p.k.1 := fun g h h2 => n4 g h g h2 rfl
  have e1' : ∀ g ∈ Fw.blk p.x.1, g ∉ Fw.blk p.c.1 := fun g h h2 => e1 g h2 h
  have e2' : ∀ g ∈ Fw.blk p.k.1, g ∉ Fw.blk p.c.1 := fun g h h2 => e2 g h2 h
  have e3' : ∀ g ∈ Fw.blk p.k.1, g ∉ Fw.blk p.x.1 := fun g h h2 => e3 g h2 h
  have kc := ho.c.known
  have kx := ho.x.known
  have kk := ho.k.known
  have ap : ∀ g ∈ Fw.blk u.1, g ∉ Fw.blk p.c.1 ∧ g ∉ Fw.blk p.k.1 := by
    intro g hg
    rcases hf g hg with e | e
    · exact ⟨e1' g e, e3 g e⟩
    · exact ⟨fun h => kc g h e, fun h => kk g h e⟩
  refine ⟨hm.mono fun g hg => by simp only [TabP.L, List.mem_append]; exact .inr (.inl hg), ⟨ho.c.mod hm e1, hr, ho.k.mod hm e3'⟩, ?_, ?_⟩
  · simp only [TabP.L, List.nodup_append, List.mem_append]
    exact ⟨n1, ⟨blk_nodup _, n3, fun g hg y hy e => by subst e; exact (ap g hg).2 hy⟩, fun g hg y hy e => by subst e; exact Or.elim hy (fun hy => (ap g hy).1 hg) (e2 g hg)⟩
  · intro g hg
    simp only [TabP.L, List.mem_append] at hg ⊢
    rcases hg with hg | hg | hg
    · exact .inl (.inl hg)
    · exact (hf g hg).imp_left fun e => .inr (.inl e)
    · exact .inl (.inr (.inr hg))
theorem Has.app_x {s : PH} {t : Tri} {ps : List TabP} {i : Nat} {p : TabP} {K : Option Addr → Nat → Nat → W.T} (h : Has s t ps) (hp : ps[i]? = some p) (x : Idx) (hl : p.T.idxs.length ≤ 4294967296)
    (hK : ∀ (u : Tri) s1, u.2.1 = p.x.2.1 + 1 → Work s s1 p ⟨{ p.T with idxs := p.T.idxs ++ [x] }, p.c, u, p.k⟩ → K u.1 u.2.1 u.2.2 s1) : W.nw (.cells (idxE.f x).toArray 106 (0, 0)) (fun r => W.app 106 5 48 zX p.x.1 p.x.2.1 p.x.2.2 (Src.sl (some ⟨r, 0, none⟩) 1) K) s := by
  refine W.nw_of fun r s1 hr m1 k1 => ?_
  have hmax : maxLen = 9223372036854775807 := rfl
  have hpm := List.mem_of_getElem? hp
  have ho := h.all p hpm
  have hn : p.x.2.1 = p.T.idxs.length := ho.x.len
  refine app_rowE (ho.x.mod m1 (by simp)) rfl (ys := [x]) (k := 1) (src_has (by have := has_block k1; simpa using this) rfl) rfl rfl (by omega) (by omega) ?_
  intro a' c' s2 h' hm
  refine hK (a', p.x.2.1 + 1, c') s2 rfl (work_x ho (h.nodp hpm) (u := (a', p.x.2.1 + 1, c')) h' ?_ ?_)
  · rcases hm with ⟨_, hm⟩ | ⟨g, _, _, hm⟩
    · exact (m1.mono (by simp)).trans hm
    · exact (m1.trans hm).mono (by simp)
  · rcases hm with ⟨e, hm⟩ | ⟨g, e, hg, hm⟩
    · intro g hg; dsimp only at hg; rw [e] at hg; exact .inl hg
    · intro g' hg'
      dsimp only at hg'
      rw [e] at hg'
      have : g' = g := by simpa [Fw.blk] using hg'
      subst this
      exact .inr (m1.none hg (by simp))
theorem c_DeleteX {s : PH} {a : Option Addr} {n c k : Nat} {xs : List Idx} (h : rowE idxE s 106 a n c xs) (hk : k < n) (hl : n ≤ 4294967296) : DCalls Try.prog 143 #[.slice a n c, .int .i64 k, .int .i64 ((k + 1 : Nat) : Int)] s fun y s' =>
    y = .slice a (n - 1) c ∧ rowE idxE s' 106 a (n - 1) c (xs.eraseIdx k) ∧ Fw.Mod (Fw.blk a) s s' := by
  refine ok_DeleteX a n c k ((k + 1 : Nat) : Int) _ s ?_
  unfold vc_DeleteX
  have hn : n = xs.length := h.len
  have hle := h.le
  have hmax : maxLen = 9223372036854775807 := rfl
  have hcm := h.max
  simp only [RP_guard, W.guard_iff, RP_ite, W.br_iff, RP_app, RP_ret, RP_clr]
  refine ⟨by omega, fun e => ?_, fun _ => ?_⟩
  · have e : (k : Int) = ((k + 1 : Nat) : Int) := by simpa using e
    omega
  refine ⟨by omega, by omega, ?_⟩
  have hpre : rowE idxE s 106 a k c (xs.take k) := by
    have := h.shrink (m := k) (c' := c) (by omega) (by omega) (Nat.le_refl _)
    have e : (if a = none then none else a) = a := by cases a <;> simp
    rwa [e] at this
  have hsrc := h.src (i := k + 1) (m := n - (k + 1)) (by omega)
  have he : (if c = 0 then a else Option.map (fun x => x.add 0) a) = a := by split <;> simp [map_add0]
  simp only [Int.toNat_natCast, Nat.sub_zero, he]
  refine app_room (by show k + (n - (k + 1)) ≤ c; omega) ?_
  refine app_rowE hpre rfl (ys := (xs.drop (k + 1)).take (n - (k + 1))) (k := n - (k + 1)) hsrc rfl (by rw [List.length_take, List.length_drop]; omega) (by omega) (by omega) ?_
  rintro a' c' s' h' hm ⟨rfl, rfl⟩
  have hlist : xs.take k ++ (xs.drop (k + 1)).take (n - (k + 1)) = xs.eraseIdx k := by
    rw [List.eraseIdx_eq_take_drop_succ, List.take_of_length_le (l := xs.drop (k + 1)) (by rw [List.length_drop]; omega)]
  rw [hlist, show k + (n - (k + 1)) = n - 1 by omega] at h'
  have hm' : Fw.Mod (Fw.blk a') s s' := by
    rcases hm with ⟨_, hm⟩ | ⟨g, e, hg, hm⟩
    · exact hm
    · exact hm.mono (by simp)
  rw [show k + (n - (k + 1)) = n - 1 by omega]
  refine ⟨by omega, ?_⟩
  try simp only [Int.toNat_natCast]
  refine clr_tail h' rfl (by simp [Value.oneCell']) (by omega) fun s2 h2 m2 => ⟨rfl, h2, hm'.trans m2⟩
theorem c_stateX (A : Addr) (s : PH) : DCalls Try.prog 128 #[.pointer (some A)] s fun y s' => y = .pointer (some (A.add 4)) ∧ s' = s := by
  refine ok_stateX A _ s ?_
  unfold vc_stateX
  simp
theorem c_placeX {s : PH} {t : Tri} {ps : List TabP} {i k g : Nat} {p : TabP} {x : Idx} (h : Has s t ps) (hp : ps[i]? = some p) (hx : p.T.idxs[k]? = some x) (ht : t.1 = some ⟨g, 0, none⟩) (hl : p.T.idxs.length ≤ 4294967296) (st : Int) :
    DCalls Try.prog 127 #[.pointer (some ⟨g, i * 5 + 3, none⟩), .int .i64 k, .int .i64 st, .func (.func 128) #[] #[]] s fun y s' => y = .tuple #[] ∧
      ∃ ps', Has s' t ps' ∧ ps'.map (·.T) = (ps.map (·.T)).set i { p.T with idxs := placed p.T.idxs k st (x.put st) } ∧ Step (Lof t ps) (Lof t ps') s s' := by
  refine ok_placeX ⟨g, i * 5 + 3, none⟩ k st _ s ?_
  unfold vc_placeX
  have hpm := List.mem_of_getElem? hp
  have ho := h.all p hpm
  have hn : p.x.2.1 = p.T.idxs.length := ho.x.len
  have hkl := (List.getElem?_eq_some_iff.1 hx).1
  obtain ⟨g', hg', hh⟩ := h.row.at hp
  rw [ht] at hg'
  cases hg'
  have hh' : s.has (Addr.mk g (i * 5) none) (tabE.f p) := hh
  have hld : ∀ (K : Den [.slice] → W.T), K (p.x, ()) s → W.ld [.slice] ⟨g, i * 5 + 3, none⟩ K s := by
    intro K hK
    have := ld_has (j := 3) (cs := [.slice]) (y := (p.x, ())) hh' rfl hK
    rwa [add_mk] at this
  simp only [RP_ite, W.br_iff, RP_unSome, W.unSome_some, RP_ld, RP_call, RP_st, RP_ret, RP_guard]
  refine ⟨fun h0 => ?_, fun h0 => ?_⟩
  · have h0 : st = 0 := by simpa using h0
    refine hld _ ?_
    rw [wrap_succ (k := k) (by omega)]
    refine W.call_of (c_DeleteX ho.x (k := k) (by show k < p.x.2.1; omega) (by show p.x.2.1 ≤ _; omega)) ?_
    rintro _ s1 ⟨rfl, h1, m1⟩
    refine ⟨(((p.x.1, p.x.2.1 - 1, p.x.2.2), ()), ()), rfl, ?_⟩
    simp only [W.unSome_some]
    have hw := work_x ho (h.nodp hpm) (u := (p.x.1, p.x.2.1 - 1, p.x.2.2)) h1 m1 (fun g hg => .inl hg)
    refine h.store hp hw (j := 3) (vs := [.slice p.x.1 (p.x.2.1 - 1) p.x.2.2]) rfl (by simp) (by simp) ht fun s2 h2 st2 => ?_
    refine ⟨rfl, _, h2, ?_, st2⟩
    rw [List.map_set]; unfold placed; rw [if_pos h0]
  · have h0 : st ≠ 0 := by simpa using h0
    refine hld _ ?_
    refine ⟨by show (0 : Int) ≤ k ∧ (k : Int) < (p.x.2.1 : Nat); omega, ?_⟩
    obtain ⟨gc, hgc, hhc⟩ := ho.x.at hx
    rw [hgc]
    simp only [W.unSome_some, Int.toNat_natCast]
    refine callq ((some (((Addr.mk gc 0 none).add (k * 5)).add 4), ()), ()) (c_stateX _ s) rfl ?_
    simp only [W.unSome_some, add_mk, Nat.zero_add]
    refine rowE.st (E := idxE) (i := k) (j := 4) (x' := x.put st) (vs := [.int .i64 st]) ho.x hx rfl (by show 4 + 1 ≤ 5; omega) (by simp) (by simp [Value.oneCell']) hgc fun s1 h1 m1 => ?_
    have hw := work_x ho (h.nodp hpm) (u := p.x) h1 (m1.mono fun x hx => by rw [hgc]; simpa [Fw.blk] using hx) (fun g hg => .inl hg)
    obtain ⟨h2, st2⟩ := h.same hp hw rfl
    refine ⟨rfl, _, h2, ?_, st2⟩
    rw [List.map_set]; unfold placed; rw [if_neg h0]

/-! ## keys -/
abbrev zF : List Value := [.int .i64 0, .string ⟨#[]⟩, .int .i64 0, .int .i64 0, .int .i64 0]
theorem work_k {s s1 : PH} {p : TabP} (ho : Own s p) (hn : p.L.Nodup) {u : Tri} {xs : List For} (hr : rowE forE s1 109 u.1 u.2.1 u.2.2 xs) (hm : Fw.Mod (Fw.blk p.k.1) s s1) (hf : ∀ g ∈ Fw.blk u.1, g ∈ Fw.blk p.k.1 ∨ s g = none) :
    Work s s1 p ⟨{ p.T with keys := xs }, p.c, p.x, u⟩ := by
  have hn' := hn
  simp only [TabP.L, List.nodup_append] at hn'
  obtain ⟨n1, ⟨n2, n3, n4⟩, n5⟩ := hn'
  have e1 : ∀ g ∈ Fw.blk p.c.1, g ∉ Fw.blk p.x.1 := fun g h h2 => n5 g h g (List.mem_append.2 (.inl h2)) rfl
  have e2 : ∀ g ∈ Fw.blk p.c.1, g ∉ Fw.blk p.k.1 := fun g h h2 => n5 g h g (List.mem_append.2 (.inr h2)) rfl
  have e3 : ∀ g ∈ Fw.blk p.x.1, g ∉ Fw.blk p.k.1 := fun g h h2 => n4 g h g h2 rfl
  have e1' : ∀ g ∈ Fw.blk p.x.1, g ∉ Fw.blk p.c.1 := fun g h h2 => e1 g h2 h
  have e2' : ∀ g ∈ Fw.blk p.k.1, g ∉ Fw.blk p.c.1 := fun g h h2 => e2 g h2 h
  have e3' : ∀ g ∈ Fw.blk p.k.1, g ∉ Fw.blk p.x.1 := fun g h h2 => e3 g h2 h
  have kc := ho.c.known
  have kx := ho.x.known
  have kk := ho.k.known
  have ap : ∀ g ∈ Fw.blk u.1, g ∉ Fw.blk p.c.1 ∧ g ∉ Fw.blk p.x.1 := by
    intro g hg
    rcases hf g hg with e | e
    · exact ⟨e2' g e, e3' g e⟩
    · exact ⟨fun h => kc g h e, fun h => kx g h e⟩
  refine ⟨hm.mono fun g hg => by simp only [TabP.L, List.mem_append]; exact .inr (.inr hg), ⟨ho.c.mod hm e2, ho.x.mod hm e3, hr⟩, ?_, ?_⟩
  · simp only [TabP.L, List.nodup_append, List.mem_append]
    exact ⟨n1, ⟨n2, blk_nodup _, fun g hg y hy e => by subst e; exact (ap g hy).2 hg⟩, fun g hg y hy e => by subst e; exact Or.elim hy (e1 g hg) (fun hy => (ap g hy).1 hg)⟩
  · intro g hg
    simp only [TabP.L, List.mem_append] at hg ⊢
    rcases hg with hg | hg | hg
    · exact .inl (.inl hg)
    · exact .inl (.inr (.inl hg))
    · exact (hf g hg).imp_left fun e => .inr (.inr e)
theorem Has.app_k {s : PH} {t : Tri} {ps : List TabP} {i : Nat} {p : TabP} {K : Option Addr → Nat → Nat → W.T} (h : Has s t ps) (hp : ps[i]? = some p) (x : For) (hl : p.T.keys.length ≤ 4294967296)
    (hK : ∀ (u : Tri) s1, u.2.1 = p.k.2.1 + 1 → Work s s1 p ⟨{ p.T with keys := p.T.keys ++ [x] }, p.c, p.x, u⟩ → K u.1 u.2.1 u.2.2 s1) : W.nw (.cells (forE.f x).toArray 109 (0, 0)) (fun r => W.app 109 5 48 zF p.k.1 p.k.2.1 p.k.2.2 (Src.sl (some ⟨r, 0, none⟩) 1) K) s := by
  refine W.nw_of fun r s1 hr m1 k1 => ?_
  have hmax : maxLen = 9223372036854775807 := rfl
  have hpm := List.mem_of_getElem? hp
  have ho := h.all p hpm
  have hn : p.k.2.1 = p.T.keys.length := ho.k.len
  refine app_rowE (ho.k.mod m1 (by simp)) rfl (ys := [x]) (k := 1) (src_has (by have := has_block k1; simpa using this) rfl) rfl rfl (by omega) (by omega) ?_
  intro a' c' s2 h' hm
  refine hK (a', p.k.2.1 + 1, c') s2 rfl (work_k ho (h.nodp hpm) (u := (a', p.k.2.1 + 1, c')) h' ?_ ?_)
  · rcases hm with ⟨_, hm⟩ | ⟨g, _, _, hm⟩
    · exact (m1.mono (by simp)).trans hm
    · exact (m1.trans hm).mono (by simp)
  · rcases hm with ⟨e, hm⟩ | ⟨g, e, hg, hm⟩
    · intro g hg; dsimp only at hg; rw [e] at hg; exact .inl hg
    · intro g' hg'
      dsimp only at hg'
      rw [e] at hg'
      have : g' = g := by simpa [Fw.blk] using hg'
      subst this
      exact .inr (m1.none hg (by simp))
theorem c_DeleteF {s : PH} {a : Option Addr} {n c k : Nat} {xs : List For} (h : rowE forE s 109 a n c xs) (hk : k < n) (hl : n ≤ 4294967296) : DCalls Try.prog 145 #[.slice a n c, .int .i64 k, .int .i64 ((k + 1 : Nat) : Int)] s fun y s' =>
    y = .slice a (n - 1) c ∧ rowE forE s' 109 a (n - 1) c (xs.eraseIdx k) ∧ Fw.Mod (Fw.blk a) s s' := by
  refine ok_DeleteF a n c k ((k + 1 : Nat) : Int) _ s ?_
  unfold vc_DeleteF
  have hn : n = xs.length := h.len
  have hle := h.le
  have hmax : maxLen = 9223372036854775807 := rfl
  have hcm := h.max
  simp only [RP_guard, W.guard_iff, RP_ite, W.br_iff, RP_app, RP_ret, RP_clr]
  refine ⟨by omega, fun e => ?_, fun _ => ?_⟩
  · have e : (k : Int) = ((k + 1 : Nat) : Int) := by simpa using e
    omega
  refine ⟨by omega, by omega, ?_⟩
  have hpre : rowE forE s 109 a k c (xs.take k) := by
    have := h.shrink (m := k) (c' := c) (by omega) (by omega) (Nat.le_refl _)
    have e : (if a = none then none else a) = a := by cases a <;> simp
    rwa [e] at this
  have hsrc := h.src (i := k + 1) (m := n - (k + 1)) (by omega)
  have he : (if c = 0 then a else Option.map (fun x => x.add 0) a) = a := by split <;> simp [map_add0]
  simp only [Int.toNat_natCast, Nat.sub_zero, he]
  refine app_room (by show k + (n - (k + 1)) ≤ c; omega) ?_
  refine app_rowE hpre rfl (ys := (xs.drop (k + 1)).take (n - (k + 1))) (k := n - (k + 1)) hsrc rfl (by rw [List.length_take, List.length_drop]; omega) (by omega) (by omega) ?_
  rintro a' c' s' h' hm ⟨rfl, rfl⟩
  have hlist : xs.take k ++ (xs.drop (k + 1)).take (n - (k + 1)) = xs.eraseIdx k := by
    rw [List.eraseIdx_eq_take_drop_succ, List.take_of_length_le (l := xs.drop (k + 1)) (by rw [List.length_drop]; omega)]
  rw [hlist, show k + (n - (k + 1)) = n - 1 by omega] at h'
  have hm' : Fw.Mod (Fw.blk a') s s' := by
    rcases hm with ⟨_, hm⟩ | ⟨g, e, hg, hm⟩
    · exact hm
    · exact hm.mono (by simp)
  rw [show k + (n - (k + 1)) = n - 1 by omega]
  refine ⟨by omega, ?_⟩
  try simp only [Int.toNat_natCast]
  refine clr_tail h' rfl (by simp [Value.oneCell']) (by omega) fun s2 h2 m2 => ⟨rfl, h2, hm'.trans m2⟩
theorem c_stateF (A : Addr) (s : PH) : DCalls Try.prog 131 #[.pointer (some A)] s fun y s' => y = .pointer (some (A.add 4)) ∧ s' = s := by
  refine ok_stateF A _ s ?_
  unfold vc_stateF
  simp
theorem c_placeF {s : PH} {t : Tri} {ps : List TabP} {i k g : Nat} {p : TabP} {x : For} (h : Has s t ps) (hp : ps[i]? = some p) (hx : p.T.keys[k]? = some x) (ht : t.1 = some ⟨g, 0, none⟩) (hl : p.T.keys.length ≤ 4294967296) (st : Int) :
    DCalls Try.prog 130 #[.pointer (some ⟨g, i * 5 + 4, none⟩), .int .i64 k, .int .i64 st, .func (.func 131) #[] #[]] s fun y s' => y = .tuple #[] ∧
      ∃ ps', Has s' t ps' ∧ ps'.map (·.T) = (ps.map (·.T)).set i { p.T with keys := placed p.T.keys k st (x.put st) } ∧ Step (Lof t ps) (Lof t ps') s s' := by
  refine ok_placeF ⟨g, i * 5 + 4, none⟩ k st _ s ?_
  unfold vc_placeF
  have hpm := List.mem_of_getElem? hp
  have ho := h.all p hpm
  have hn : p.k.2.1 = p.T.keys.length := ho.k.len
  have hkl := (List.getElem?_eq_some_iff.1 hx).1
  obtain ⟨g', hg', hh⟩ := h.row.at hp
  rw [ht] at hg'
  cases hg'
  have hh' : s.has (Addr.mk g (i * 5) none) (tabE.f p) := hh
  have hld : ∀ (K : Den [.slice] → W.T), K (p.k, ()) s → W.ld [.slice] ⟨g, i * 5 + 4, none⟩ K s := by
    intro K hK
    have := ld_has (j := 4) (cs := [.slice]) (y := (p.k, ())) hh' rfl hK
    rwa [add_mk] at this
  simp only [RP_ite, W.br_iff, RP_unSome, W.unSome_some, RP_ld, RP_call, RP_st, RP_ret, RP_guard]
  refine ⟨fun h0 => ?_, fun h0 => ?_⟩
  · have h0 : st = 0 := by simpa using h0
    refine hld _ ?_
    rw [wrap_succ (k := k) (by omega)]
    refine W.call_of (c_DeleteF ho.k (k := k) (by show k < p.k.2.1; omega) (by show p.k.2.1 ≤ _; omega)) ?_
    rintro _ s1 ⟨rfl, h1, m1⟩
    refine ⟨(((p.k.1, p.k.2.1 - 1, p.k.2.2), ()), ()), rfl, ?_⟩
    simp only [W.unSome_some]
    have hw := work_k ho (h.nodp hpm) (u := (p.k.1, p.k.2.1 - 1, p.k.2.2)) h1 m1 (fun g hg => .inl hg)
    refine h.store hp hw (j := 4) (vs := [.slice p.k.1 (p.k.2.1 - 1) p.k.2.2]) rfl (by simp) (by simp) ht fun s2 h2 st2 => ?_
    refine ⟨rfl, _, h2, ?_, st2⟩
    rw [List.map_set]; unfold placed; rw [if_pos h0]
  · have h0 : st ≠ 0 := by simpa using h0
    refine hld _ ?_
    refine ⟨by show (0 : Int) ≤ k ∧ (k : Int) < (p.k.2.1 : Nat); omega, ?_⟩
    obtain ⟨gc, hgc, hhc⟩ := ho.k.at hx
    rw [hgc]
    simp only [W.unSome_some, Int.toNat_natCast]
    refine callq ((some (((Addr.mk gc 0 none).add (k * 5)).add 4), ()), ()) (c_stateF _ s) rfl ?_
    simp only [W.unSome_some, add_mk, Nat.zero_add]
    refine rowE.st (E := forE) (i := k) (j := 4) (x' := x.put st) (vs := [.int .i64 st]) ho.k hx rfl (by show 4 + 1 ≤ 5; omega) (by simp) (by simp [Value.oneCell']) hgc fun s1 h1 m1 => ?_
    have hw := work_k ho (h.nodp hpm) (u := p.k) h1 (m1.mono fun x hx => by rw [hgc]; simpa [Fw.blk] using hx) (fun g hg => .inl hg)
    obtain ⟨h2, st2⟩ := h.same hp hw rfl
    refine ⟨rfl, _, h2, ?_, st2⟩
    rw [List.map_set]; unfold placed; rw [if_neg h0]
end Go.Proofs.Ythepfbcgpbkbdaa
