/-
  Schemas: what is seen; the law SchemaSeen.
  Conditions: none; it proves no statement by itself.
-/
import Derived.Test.YthepfbcgpbkbdaaM20
set_option linter.unusedVariables false
set_option linter.unusedSimpArgs false
set_option maxHeartbeats 1000000
set_option maxRecDepth 100000
namespace Go.Proofs.Ythepfbcgpbkbdaa
open Fw Go
attribute [-simp] Fw.W.ld_iff Fw.W.st_iff

theorem Own.nodup {s : PH} {p : TabP} (h : Own s p) : p.L.Nodup := by
  have ty : ∀ {α : Type} {E : Enc α} {e : TypeId} {t : Tri} {xs : List α}, rowE E s e t.1 t.2.1 t.2.2 xs → ∀ g ∈ Fw.blk t.1, ∃ cur, s g = some (.cells cur e (0, 0)) := by
    intro α E e t xs hr g hg
    rcases hr.shape with ⟨h0, _⟩ | ⟨g', hg'⟩
    · rw [h0] at hg; simp [Fw.blk] at hg
    · have : g = g' := by rw [hg'] at hg; simpa [Fw.blk] using hg
      subst this
      exact hr.ty hg'
  have ne : ∀ {g : Nat} {e e' : TypeId}, (∃ cur, s g = some (.cells cur e (0, 0))) → (∃ cur, s g = some (.cells cur e' (0, 0))) → e = e' := by
    rintro g e e' ⟨c1, h1⟩ ⟨c2, h2⟩
    rw [h1] at h2; cases h2; rfl
  simp only [TabP.L, List.nodup_append]
  refine ⟨blk_nodup _, ⟨blk_nodup _, blk_nodup _, ?_⟩, ?_⟩
  · rintro g hg _ hg2 rfl
    exact absurd (ne (ty h.x g hg) (ty h.k g hg2)) (by decide)
  · rintro g hg _ hg2 rfl
    rcases List.mem_append.1 hg2 with hg2 | hg2
    · exact absurd (ne (ty h.c g hg) (ty h.x g hg2)) (by decide)
    · exact absurd (ne (ty h.c g hg) (ty h.k g hg2)) (by decide)
theorem nn_t {b : Bool} (h : (!!b) = true) : b = true := by cases b <;> simp_all
theorem nn_f {b : Bool} (h : (!!b) = false) : b = false := by cases b <;> simp_all
theorem filt_take {α : Type} {f : α → Bool} {l : List α} {k : Nat} {x : α} (h : l[k]? = some x) : (l.take (k + 1)).filter f = (l.take k).filter f ++ (if f x = true then [x] else []) := by
  rw [List.take_add_one, h]
  simp only [Option.toList_some, List.filter_append, List.filter_cons, List.filter_nil]
def sC (c : Col) : Bool := decide (c.state = 3)
def sX (c : Idx) : Bool := decide (c.state = 3)
def sF (c : For) : Bool := decide (c.state = 3)
def seenT (T : Tab) : Tab := { T with cols := T.cols.filter sC, idxs := T.idxs.filter sX, keys := T.keys.filter sF }
def Sch.seen (S : Sch) : Sch := { S with tabs := S.tabs.map seenT }

theorem c_seen1 (x : Col) (s : PH) : DCalls Try.prog 58 #[colV x] s fun y s' => y = .bool (!sC x) ∧ s' = s := by
  refine ok_seen1 x.id x.name x.kind x.state x.dflt.kind x.dflt.n x.dflt.s _ s ?_
  unfold vc_seen1 sC
  by_cases h : x.state = 3 <;> simp [h]
theorem c_IndexFuncCs {a : Option Addr} {an ac : Nat} {s : PH} {xs : List Col} (h : elems (Rd.enc colE) s a an xs) (hn : xs.length ≤ 4294967296) :
    DCalls Try.prog 104 #[.slice a an ac, .func (.func 58) #[] #[]] s fun y s' => y = .int .i64 (seek (fun x => !sC x) xs 0) ∧ s' = s := by
  refine ok_IndexFuncS a an ac _ s ?_
  unfold vc_IndexFuncS
  have hlen := h.1
  simp only [RP_loop]
  refine ⟨fun z s' => ∃ k : Nat, z = (((an : Int), ()), ((k : Int), ()), ()) ∧ k ≤ an ∧ s' = s ∧ seek (fun x => !sC x) (xs.drop k) k = seek (fun x => !sC x) xs 0, fun z _ => an - z.2.1.1.toNat, ⟨0, rfl, Nat.zero_le _, rfl, rfl⟩, ?_⟩
  rintro _ s ⟨k, rfl, hk, rfl, hs⟩
  simp [W.br_iff]
  refine ⟨fun hlt => ⟨hlt, ?_⟩, fun hge => ?_⟩
  · obtain ⟨x, hx⟩ : ∃ x, xs[k]? = some x := ⟨_, List.getElem?_eq_getElem (by omega)⟩
    obtain ⟨ad, rfl, hh⟩ := h.at_enc hx
    simp only [W.unSome_some]
    refine ld_has_z hh (y := (x.id, x.name, x.kind, x.state, x.dflt.kind, x.dflt.n, x.dflt.s, ())) rfl ?_
    refine W.call_of (c_seen1 x _) ?_
    rintro _ s ⟨rfl, rfl⟩
    refine ⟨((!sC x, ()), ()), rfl, ?_⟩
    rw [seek_step hx] at hs
    simp [W.br_iff, wrap_succ (k := k) (by omega)]
    refine ⟨fun he => ?_, fun he => ⟨⟨k + 1, by simp, hlt, ?_⟩, by omega⟩⟩
    · rw [← hs, if_pos (by simp [he])]
    · rw [← hs, if_neg (by simp [he])]
  · rw [← hs, seek_end (by omega)]
theorem c_DelC {s : PH} {a : Option Addr} {n c : Nat} {xs : List Col} (h : rowE colE s 44 a n c xs) (hl : n ≤ 4294967296) : DCalls Try.prog 57 #[.slice a n c, .func (.func 58) #[] #[]] s fun y s' =>
    ∃ m, y = .slice a m c ∧ rowE colE s' 44 a m c (xs.filter sC) ∧ Fw.Mod (Fw.blk a) s s' := by
  refine ok_DelC a n c _ s ?_
  unfold vc_DelC
  have hn : n = xs.length := h.len
  have hle := h.le
  simp only [RP_join, RP_ite, RP_call, RP_callQ, RP_ret, RP_nw, RP_app, RP_st, RP_ld, RP_unSome, RP_guard, RP_loop, RP_clr, W.unSome_some]
  refine callq ((seek (fun x => !sC x) xs 0, ()), ()) (c_IndexFuncCs (elems.of_row h) (by omega)) rfl ?_
  rcases seek_cases (fun x => !sC x) xs with ⟨h1, h2⟩ | ⟨i0, x0, h1, hx0, h3, h4⟩
  · rw [h1]
    refine (W.br_iff _ _ _ _).2 ⟨fun _ => ⟨n, rfl, ?_, Mod.refl _ _⟩, fun e => by cases e⟩
    have : xs.filter sC = xs := List.filter_eq_self.2 fun x hx => by have := h2 x hx; simpa using this
    rw [this]; exact h
  rw [h1]
  have hi0 := (List.getElem?_eq_some_iff.1 hx0).1
  refine (W.br_iff _ _ _ _).2 ⟨fun e => ?_, fun _ => ?_⟩
  · have e : ((i0 : Int) == -1) = true := e
    have : (i0 : Int) = -1 := eq_of_beq e
    omega
  dsimp only
  rw [wrap_succ (k := i0) (by omega)]
  have hbeg : (xs.take (i0 + 1)).filter sC = xs.take i0 := by
    rw [filt_take hx0]
    have h3' : sC x0 = false := by simpa using h3
    rw [h3']
    simp only [Bool.false_eq_true, if_false, List.append_nil]
    refine List.filter_eq_self.2 fun x hx => ?_
    obtain ⟨j, hj⟩ := List.mem_iff_getElem?.1 hx
    rw [List.getElem?_take] at hj
    split at hj
    · have := h4 j x ‹_› hj; simpa using this
    · cases hj
  refine ⟨fun z s' => ∃ (i j : Nat) (ys : List Col), z = (((i : Int), ()), ((j : Int), ()), ()) ∧ i < j ∧ j ≤ n ∧ rowE colE s' 44 a n c ys ∧ Fw.Mod (Fw.blk a) s s' ∧ ys.take i = (xs.take j).filter sC ∧ ys.drop j = xs.drop j, fun z _ => n - z.2.1.1.toNat,
    ⟨i0, i0 + 1, xs, rfl, by omega, by omega, h, Mod.refl _ _, hbeg.symm, rfl⟩, ?_⟩
  rintro _ s1 ⟨i, j, ys, rfl, hij, hjn, hrow, m1, htk, hdr⟩
  have hyl : n = ys.length := hrow.len
  simp only [W.br_iff, decide_eq_true_eq, decide_eq_false_iff_not]
  refine ⟨fun hlt => ?_, fun hge => ?_⟩
  · have hlt : j < n := by omega
    obtain ⟨x, hx⟩ : ∃ x, xs[j]? = some x := ⟨_, List.getElem?_eq_getElem (by omega)⟩
    have hy : ys[j]? = some x := by
      have e1 : (ys.drop j)[0]? = (xs.drop j)[0]? := by rw [hdr]
      simpa [List.getElem?_drop, hx] using e1
    obtain ⟨g, rfl, hh⟩ := hrow.at hy
    have hh' : s1.has ((Addr.mk g 0 none).add (j * 7)) (colE.f x) := by rw [add_mk, Nat.zero_add]; exact hh
    refine ⟨by omega, ?_⟩
    simp only [W.unSome_some, Int.toNat_natCast]
    refine ld_has_z hh' (y := (x.id, x.name, x.kind, x.state, x.dflt.kind, x.dflt.n, x.dflt.s, ())) rfl ?_
    refine callq ((!sC x, ()), ()) (c_seen1 x _) rfl ?_
    have hst := filt_take (f := sC) hx
    have hdr' : ∀ zs : List Col, zs.drop j = xs.drop j → zs.drop (j + 1) = xs.drop (j + 1) := fun zs e => by rw [← List.drop_drop, e, List.drop_drop]
    refine (W.br_iff _ _ _ _).2 ⟨fun hk => ?_, fun hk => ?_⟩
    · have hk : sC x = true := nn_t hk
      refine ⟨by omega, ?_⟩
      simp only [W.unSome_some, Int.toNat_natCast, add_mk, Nat.zero_add]
      obtain ⟨y, hyi⟩ : ∃ y, ys[i]? = some y := ⟨_, List.getElem?_eq_getElem (by omega)⟩
      refine rowE.st (E := colE) (i := i) (j := 0) (x' := x) (vs := colE.f x) hrow hyi rfl (by rw [colE.len]; exact Nat.le_refl _) (by simp [colE]) (colE.one x) rfl fun s2 h2 m2 => ?_
      rw [wrap_succ (k := i) (by omega), wrap_succ (k := j) (by omega)]
      refine ⟨⟨i + 1, j + 1, ys.set i x, rfl, by omega, hlt, h2, m1.trans (m2.mono fun z hz => by simpa [Fw.blk] using hz), ?_, ?_⟩, by simp only [Int.toNat_natCast]; omega⟩
      · rw [hst, hk, if_pos rfl, ← htk, List.take_add_one, List.getElem?_set_self (by omega), List.take_set_of_le (Nat.le_refl _)]; rfl
      · rw [List.drop_set_of_lt (by omega)]; exact hdr' ys hdr
    · have hk : sC x = false := nn_f hk
      rw [wrap_succ (k := j) (by omega)]
      refine ⟨⟨i, j + 1, ys, rfl, by omega, hlt, hrow, m1, ?_, hdr' ys hdr⟩, by simp only [Int.toNat_natCast]; omega⟩
      rw [hst, hk]
      simpa using htk
  · have hje : j = n := by omega
    subst hje
    have hall : xs.take j = xs := List.take_of_length_le (by omega)
    rw [hall] at htk
    have hpre : rowE colE s1 44 a i c (ys.take i) := by
      have := hrow.shrink (m := i) (c' := c) (by omega) (by omega) (Nat.le_refl _)
      have e : (if a = none then none else a) = a := by cases a <;> simp
      rwa [e] at this
    rw [htk] at hpre
    refine ⟨by omega, ?_⟩
    simp only [Int.toNat_natCast]
    refine clr_tail hpre rfl (by simp [Value.oneCell']) (by omega) fun s2 h2 m2 => ?_
    refine ⟨by omega, ?_⟩
    have he : (if c = 0 then a else Option.map (fun x => x.add 0) a) = a := by split <;> simp [map_add0]
    refine ⟨i, ?_, h2, m1.trans m2⟩
    simp only [he, Nat.sub_zero, Int.toNat_natCast]

theorem c_seen2 (x : Idx) (s : PH) : DCalls Try.prog 60 #[idxV x] s fun y s' => y = .bool (!sX x) ∧ s' = s := by
  refine ok_seen2 x.id x.name x.column x.unique x.state _ s ?_
  unfold vc_seen2 sX
  by_cases h : x.state = 3 <;> simp [h]
theorem c_IndexFuncXs {a : Option Addr} {an ac : Nat} {s : PH} {xs : List Idx} (h : elems (Rd.enc idxE) s a an xs) (hn : xs.length ≤ 4294967296) :
    DCalls Try.prog 105 #[.slice a an ac, .func (.func 60) #[] #[]] s fun y s' => y = .int .i64 (seek (fun x => !sX x) xs 0) ∧ s' = s := by
  refine ok_IndexFuncXs a an ac _ s ?_
  unfold vc_IndexFuncXs
  have hlen := h.1
  simp only [RP_loop]
  refine ⟨fun z s' => ∃ k : Nat, z = (((an : Int), ()), ((k : Int), ()), ()) ∧ k ≤ an ∧ s' = s ∧ seek (fun x => !sX x) (xs.drop k) k = seek (fun x => !sX x) xs 0, fun z _ => an - z.2.1.1.toNat, ⟨0, rfl, Nat.zero_le _, rfl, rfl⟩, ?_⟩
  rintro _ s ⟨k, rfl, hk, rfl, hs⟩
  simp [W.br_iff]
  refine ⟨fun hlt => ⟨hlt, ?_⟩, fun hge => ?_⟩
  · obtain ⟨x, hx⟩ : ∃ x, xs[k]? = some x := ⟨_, List.getElem?_eq_getElem (by omega)⟩
    obtain ⟨ad, rfl, hh⟩ := h.at_enc hx
    simp only [W.unSome_some]
    refine ld_has_z hh (y := (x.id, x.name, x.column, x.unique, x.state, ())) rfl ?_
    refine W.call_of (c_seen2 x _) ?_
    rintro _ s ⟨rfl, rfl⟩
    refine ⟨((!sX x, ()), ()), rfl, ?_⟩
    rw [seek_step hx] at hs
    simp [W.br_iff, wrap_succ (k := k) (by omega)]
    refine ⟨fun he => ?_, fun he => ⟨⟨k + 1, by simp, hlt, ?_⟩, by omega⟩⟩
    · rw [← hs, if_pos (by simp [he])]
    · rw [← hs, if_neg (by simp [he])]
  · rw [← hs, seek_end (by omega)]
theorem c_DelX {s : PH} {a : Option Addr} {n c : Nat} {xs : List Idx} (h : rowE idxE s 106 a n c xs) (hl : n ≤ 4294967296) : DCalls Try.prog 59 #[.slice a n c, .func (.func 60) #[] #[]] s fun y s' =>
    ∃ m, y = .slice a m c ∧ rowE idxE s' 106 a m c (xs.filter sX) ∧ Fw.Mod (Fw.blk a) s s' := by
  refine ok_DelX a n c _ s ?_
  unfold vc_DelX
  have hn : n = xs.length := h.len
  have hle := h.le
  simp only [RP_join, RP_ite, RP_call, RP_callQ, RP_ret, RP_nw, RP_app, RP_st, RP_ld, RP_unSome, RP_guard, RP_loop, RP_clr, W.unSome_some]
  refine callq ((seek (fun x => !sX x) xs 0, ()), ()) (c_IndexFuncXs (elems.of_row h) (by omega)) rfl ?_
  rcases seek_cases (fun x => !sX x) xs with ⟨h1, h2⟩ | ⟨i0, x0, h1, hx0, h3, h4⟩
  · rw [h1]
    refine (W.br_iff _ _ _ _).2 ⟨fun _ => ⟨n, rfl, ?_, Mod.refl _ _⟩, fun e => by cases e⟩
    have : xs.filter sX = xs := List.filter_eq_self.2 fun x hx => by have := h2 x hx; simpa using this
    rw [this]; exact h
  rw [h1]
  have hi0 := (List.getElem?_eq_some_iff.1 hx0).1
  refine (W.br_iff _ _ _ _).2 ⟨fun e => ?_, fun _ => ?_⟩
  · have e : ((i0 : Int) == -1) = true := e
    have : (i0 : Int) = -1 := eq_of_beq e
    omega
  dsimp only
  rw [wrap_succ (k := i0) (by omega)]
  have hbeg : (xs.take (i0 + 1)).filter sX = xs.take i0 := by
    rw [filt_take hx0]
    have h3' : sX x0 = false := by simpa using h3
    rw [h3']
    simp only [Bool.false_eq_true, if_false, List.append_nil]
    refine List.filter_eq_self.2 fun x hx => ?_
    obtain ⟨j, hj⟩ := List.mem_iff_getElem?.1 hx
    rw [List.getElem?_take] at hj
    split at hj
    · have := h4 j x ‹_› hj; simpa using this
    · cases hj
  refine ⟨fun z s' => ∃ (i j : Nat) (ys : List Idx), z = (((i : Int), ()), ((j : Int), ()), ()) ∧ i < j ∧ j ≤ n ∧ rowE idxE s' 106 a n c ys ∧ Fw.Mod (Fw.blk a) s s' ∧ ys.take i = (xs.take j).filter sX ∧ ys.drop j = xs.drop j, fun z _ => n - z.2.1.1.toNat,
    ⟨i0, i0 + 1, xs, rfl, by omega, by omega, h, Mod.refl _ _, hbeg.symm, rfl⟩, ?_⟩
  rintro _ s1 ⟨i, j, ys, rfl, hij, hjn, hrow, m1, htk, hdr⟩
  have hyl : n = ys.length := hrow.len
  simp only [W.br_iff, decide_eq_true_eq, decide_eq_false_iff_not]
  refine ⟨fun hlt => ?_, fun hge => ?_⟩
  · have hlt : j < n := by omega
    obtain ⟨x, hx⟩ : ∃ x, xs[j]? = some x := ⟨_, List.getElem?_eq_getElem (by omega)⟩
    have hy : ys[j]? = some x := by
      have e1 : (ys.drop j)[0]? = (xs.drop j)[0]? := by rw [hdr]
      simpa [List.getElem?_drop, hx] using e1
    obtain ⟨g, rfl, hh⟩ := hrow.at hy
    have hh' : s1.has ((Addr.mk g 0 none).add (j * 5)) (idxE.f x) := by rw [add_mk, Nat.zero_add]; exact hh
    refine ⟨by omega, ?_⟩
    simp only [W.unSome_some, Int.toNat_natCast]
    refine ld_has_z hh' (y := (x.id, x.name, x.column, x.unique, x.state, ())) rfl ?_
    refine callq ((!sX x, ()), ()) (c_seen2 x _) rfl ?_
    have hst := filt_take (f := sX) hx
    have hdr' : ∀ zs : List Idx, zs.drop j = xs.drop j → zs.drop (j + 1) = xs.drop (j + 1) := fun zs e => by rw [← List.drop_drop, e, List.drop_drop]
    refine (W.br_iff _ _ _ _).2 ⟨fun hk => ?_, fun hk => ?_⟩
    · have hk : sX x = true := nn_t hk
      refine ⟨by omega, ?_⟩
      simp only [W.unSome_some, Int.toNat_natCast, add_mk, Nat.zero_add]
      obtain ⟨y, hyi⟩ : ∃ y, ys[i]? = some y := ⟨_, List.getElem?_eq_getElem (by omega)⟩
      refine rowE.st (E := idxE) (i := i) (j := 0) (x' := x) (vs := idxE.f x) hrow hyi rfl (by rw [idxE.len]; exact Nat.le_refl _) (by simp [idxE]) (idxE.one x) rfl fun s2 h2 m2 => ?_
      rw [wrap_succ (k := i) (by omega), wrap_succ (k := j) (by omega)]
      refine ⟨⟨i + 1, j + 1, ys.set i x, rfl, by omega, hlt, h2, m1.trans (m2.mono fun z hz => by simpa [Fw.blk] using hz), ?_, ?_⟩, by simp only [Int.toNat_natCast]; omega⟩
      · rw [hst, hk, if_pos rfl, ← htk, List.take_add_one, List.getElem?_set_self (by omega), List.take_set_of_le (Nat.le_refl _)]; rfl
      · rw [List.drop_set_of_lt (by omega)]; exact hdr' ys hdr
    · have hk : sX x = false := nn_f hk
      rw [wrap_succ (k := j) (by omega)]
      refine ⟨⟨i, j + 1, ys, rfl, by omega, hlt, hrow, m1, ?_, hdr' ys hdr⟩, by simp only [Int.toNat_natCast]; omega⟩
      rw [hst, hk]
      simpa using htk
  · have hje : j = n := by omega
    subst hje
    have hall : xs.take j = xs := List.take_of_length_le (by omega)
    rw [hall] at htk
    have hpre : rowE idxE s1 106 a i c (ys.take i) := by
      have := hrow.shrink (m := i) (c' := c) (by omega) (by omega) (Nat.le_refl _)
      have e : (if a = none then none else a) = a := by cases a <;> simp
      rwa [e] at this
    rw [htk] at hpre
    refine ⟨by omega, ?_⟩
    simp only [Int.toNat_natCast]
    refine clr_tail hpre rfl (by simp [Value.oneCell']) (by omega) fun s2 h2 m2 => ?_
    refine ⟨by omega, ?_⟩
    have he : (if c = 0 then a else Option.map (fun x => x.add 0) a) = a := by split <;> simp [map_add0]
    refine ⟨i, ?_, h2, m1.trans m2⟩
    simp only [he, Nat.sub_zero, Int.toNat_natCast]

theorem c_seen3 (x : For) (s : PH) : DCalls Try.prog 62 #[forV x] s fun y s' => y = .bool (!sF x) ∧ s' = s := by
  refine ok_seen3 x.id x.name x.column x.parent x.state _ s ?_
  unfold vc_seen3 sF
  by_cases h : x.state = 3 <;> simp [h]
theorem c_IndexFuncFs {a : Option Addr} {an ac : Nat} {s : PH} {xs : List For} (h : elems (Rd.enc forE) s a an xs) (hn : xs.length ≤ 4294967296) :
    DCalls Try.prog 106 #[.slice a an ac, .func (.func 62) #[] #[]] s fun y s' => y = .int .i64 (seek (fun x => !sF x) xs 0) ∧ s' = s := by
  refine ok_IndexFuncFs a an ac _ s ?_
  unfold vc_IndexFuncFs
  have hlen := h.1
  simp only [RP_loop]
  refine ⟨fun z s' => ∃ k : Nat, z = (((an : Int), ()), ((k : Int), ()), ()) ∧ k ≤ an ∧ s' = s ∧ seek (fun x => !sF x) (xs.drop k) k = seek (fun x => !sF x) xs 0, fun z _ => an - z.2.1.1.toNat, ⟨0, rfl, Nat.zero_le _, rfl, rfl⟩, ?_⟩
  rintro _ s ⟨k, rfl, hk, rfl, hs⟩
  simp [W.br_iff]
  refine ⟨fun hlt => ⟨hlt, ?_⟩, fun hge => ?_⟩
  · obtain ⟨x, hx⟩ : ∃ x, xs[k]? = some x := ⟨_, List.getElem?_eq_getElem (by omega)⟩
    obtain ⟨ad, rfl, hh⟩ := h.at_enc hx
    simp only [W.unSome_some]
    refine ld_has_z hh (y := (x.id, x.name, x.column, x.parent, x.state, ())) rfl ?_
    refine W.call_of (c_seen3 x _) ?_
    rintro _ s ⟨rfl, rfl⟩
    refine ⟨((!sF x, ()), ()), rfl, ?_⟩
    rw [seek_step hx] at hs
    simp [W.br_iff, wrap_succ (k := k) (by omega)]
    refine ⟨fun he => ?_, fun he => ⟨⟨k + 1, by simp, hlt, ?_⟩, by omega⟩⟩
    · rw [← hs, if_pos (by simp [he])]
    · rw [← hs, if_neg (by simp [he])]
  · rw [← hs, seek_end (by omega)]
theorem c_DelF {s : PH} {a : Option Addr} {n c : Nat} {xs : List For} (h : rowE forE s 109 a n c xs) (hl : n ≤ 4294967296) : DCalls Try.prog 61 #[.slice a n c, .func (.func 62) #[] #[]] s fun y s' =>
    ∃ m, y = .slice a m c ∧ rowE forE s' 109 a m c (xs.filter sF) ∧ Fw.Mod (Fw.blk a) s s' := by
  refine ok_DelF a n c _ s ?_
  unfold vc_DelF
  have hn : n = xs.length := h.len
  have hle := h.le
  simp only [RP_join, RP_ite, RP_call, RP_callQ, RP_ret, RP_nw, RP_app, RP_st, RP_ld, RP_unSome, RP_guard, RP_loop, RP_clr, W.unSome_some]
  refine callq ((seek (fun x => !sF x) xs 0, ()), ()) (c_IndexFuncFs (elems.of_row h) (by omega)) rfl ?_
  rcases seek_cases (fun x => !sF x) xs with ⟨h1, h2⟩ | ⟨i0, x0, h1, hx0, h3, h4⟩
  · rw [h1]
    refine (W.br_iff _ _ _ _).2 ⟨fun _ => ⟨n, rfl, ?_, Mod.refl _ _⟩, fun e => by cases e⟩
    have : xs.filter sF = xs := List.filter_eq_self.2 fun x hx => by have := h2 x hx; simpa using this
    rw [this]; exact h
  rw [h1]
  have hi0 := (List.getElem?_eq_some_iff.1 hx0).1
  refine (W.br_iff _ _ _ _).2 ⟨fun e => ?_, fun _ => ?_⟩
  · have e : ((i0 : Int) == -1) = true := e
    have : (i0 : Int) = -1 := eq_of_beq e
    omega
  dsimp only
  rw [wrap_succ (k := i0) (by omega)]
  have hbeg : (xs.take (i0 + 1)).filter sF = xs.take i0 := by
    rw [filt_take hx0]
    have h3' : sF x0 = false := by simpa using h3
    rw [h3']
    simp only [Bool.false_eq_true, if_false, List.append_nil]
    refine List.filter_eq_self.2 fun x hx => ?_
    obtain ⟨j, hj⟩ := List.mem_iff_getElem?.1 hx
    rw [List.getElem?_take] at hj
    split at hj
    · have := h4 j x ‹_› hj; simpa using this
    · cases hj
  refine ⟨fun z s' => ∃ (i j : Nat) (ys : List For), z = (((i : Int), ()), ((j : Int), ()), ()) ∧ i < j ∧ j ≤ n ∧ rowE forE s' 109 a n c ys ∧ Fw.Mod (Fw.blk a) s s' ∧ ys.take i = (xs.take j).filter sF ∧ ys.drop j = xs.drop j, fun z _ => n - z.2.1.1.toNat,
    ⟨i0, i0 + 1, xs, rfl, by omega, by omega, h, Mod.refl _ _, hbeg.symm, rfl⟩, ?_⟩
  rintro _ s1 ⟨i, j, ys, rfl, hij, hjn, hrow, m1, htk, hdr⟩
  have hyl : n = ys.length := hrow.len
  simp only [W.br_iff, decide_eq_true_eq, decide_eq_false_iff_not]
  refine ⟨fun hlt => ?_, fun hge => ?_⟩
  · have hlt : j < n := by omega
    obtain ⟨x, hx⟩ : ∃ x, xs[j]? = some x := ⟨_, List.getElem?_eq_getElem (by omega)⟩
    have hy : ys[j]? = some x := by
      have e1 : (ys.drop j)[0]? = (xs.drop j)[0]? := by rw [hdr]
      simpa [List.getElem?_drop, hx] using e1
    obtain ⟨g, rfl, hh⟩ := hrow.at hy
    have hh' : s1.has ((Addr.mk g 0 none).add (j * 5)) (forE.f x) := by rw [add_mk, Nat.zero_add]; exact hh
    refine ⟨by omega, ?_⟩
    simp only [W.unSome_some, Int.toNat_natCast]
    refine ld_has_z hh' (y := (x.id, x.name, x.column, x.parent, x.state, ())) rfl ?_
    refine callq ((!sF x, ()), ()) (c_seen3 x _) rfl ?_
    have hst := filt_take (f := sF) hx
    have hdr' : ∀ zs : List For, zs.drop j = xs.drop j → zs.drop (j + 1) = xs.drop (j + 1) := fun zs e => by rw [← List.drop_drop, e, List.drop_drop]
    refine (W.br_iff _ _ _ _).2 ⟨fun hk => ?_, fun hk => ?_⟩
    · have hk : sF x = true := nn_t hk
      refine ⟨by omega, ?_⟩
      simp only [W.unSome_some, Int.toNat_natCast, add_mk, Nat.zero_add]
      obtain ⟨y, hyi⟩ : ∃ y, ys[i]? = some y := ⟨_, List.getElem?_eq_getElem (by omega)⟩
      refine rowE.st (E := forE) (i := i) (j := 0) (x' := x) (vs := forE.f x) hrow hyi rfl (by rw [forE.len]; exact Nat.le_refl _) (by simp [forE]) (forE.one x) rfl fun s2 h2 m2 => ?_
      rw [wrap_succ (k := i) (by omega), wrap_succ (k := j) (by omega)]
      refine ⟨⟨i + 1, j + 1, ys.set i x, rfl, by omega, hlt, h2, m1.trans (m2.mono fun z hz => by simpa [Fw.blk] using hz), ?_, ?_⟩, by simp only [Int.toNat_natCast]; omega⟩
      · rw [hst, hk, if_pos rfl, ← htk, List.take_add_one, List.getElem?_set_self (by omega), List.take_set_of_le (Nat.le_refl _)]; rfl
      · rw [List.drop_set_of_lt (by omega)]; exact hdr' ys hdr
    · have hk : sF x = false := nn_f hk
      rw [wrap_succ (k := j) (by omega)]
      refine ⟨⟨i, j + 1, ys, rfl, by omega, hlt, hrow, m1, ?_, hdr' ys hdr⟩, by simp only [Int.toNat_natCast]; omega⟩
      rw [hst, hk]
      simpa using htk
  · have hje : j = n := by omega
    subst hje
    have hall : xs.take j = xs := List.take_of_length_le (by omega)
    rw [hall] at htk
    have hpre : rowE forE s1 109 a i c (ys.take i) := by
      have := hrow.shrink (m := i) (c' := c) (by omega) (by omega) (Nat.le_refl _)
      have e : (if a = none then none else a) = a := by cases a <;> simp
      rwa [e] at this
    rw [htk] at hpre
    refine ⟨by omega, ?_⟩
    simp only [Int.toNat_natCast]
    refine clr_tail hpre rfl (by simp [Value.oneCell']) (by omega) fun s2 h2 m2 => ?_
    refine ⟨by omega, ?_⟩
    have he : (if c = 0 then a else Option.map (fun x => x.add 0) a) = a := by split <;> simp [map_add0]
    refine ⟨i, ?_, h2, m1.trans m2⟩
    simp only [he, Nat.sub_zero, Int.toNat_natCast]

theorem c_Seen {s : PH} {t : Tri} {S : Sch} {ps : List TabP} (h : SchIs s t S ps) : DCalls Try.prog 21 #[schV S t] s (GivesC s S.seen) := by
  obtain ⟨ta, tn, tc⟩ := t
  refine ok_Seen S.version S.last ta tn tc _ s ?_
  unfold vc_Seen
  have htn : tn = ps.length := h.el.len
  have hfew := h.el.few
  have hpl : S.tabs.length = ps.length := by rw [h.eq]; simp
  simp only [RP_join, RP_ite, RP_call, RP_callQ, RP_ret, RP_nw, RP_app, RP_st, RP_ld, RP_unSome, RP_guard, RP_loop, W.unSome_some]
  refine ⟨fun z s' => ∃ (k a2 a3 : Nat) (a1 : Option Addr) (pc : List TabP), z = ((S.version, S.last, (a1, a2, a3), ()), (0, 0, (none, 0, 0), ()), ((ta, tn, tc), ()), ((tn : Int), ()), ((k : Int), ()), ()) ∧ k ≤ tn ∧ Has s' (a1, a2, a3) pc ∧ (S.tabs.take k).map seenT = pc.map (·.T) ∧ Fw.Mod [] s s' ∧ ∀ g ∈ Lof (a1, a2, a3) pc, s g = none,
    fun z _ => tn - z.2.2.2.2.1.1.toNat, ⟨0, 0, 0, none, [], rfl, Nat.zero_le _, Has.nil _, rfl, Mod.refl _ _, by simp [Lof, Fw.blk]⟩, ?_⟩
  rintro _ s1 ⟨k, a2, a3, a1, pc, rfl, hk, hH, he, m1, hf⟩
  simp only [W.br_iff, decide_eq_true_eq, decide_eq_false_iff_not]
  refine ⟨fun hlt => ?_, fun hge => ?_⟩
  · have hlt : k < tn := by omega
    obtain ⟨p, hp⟩ : ∃ p, ps[k]? = some p := ⟨_, List.getElem?_eq_getElem (by omega)⟩
    have hT : S.tabs[k]? = some p.T := by rw [h.eq, List.getElem?_map, hp]; rfl
    have hS1 := h.mono m1.le
    obtain ⟨ad, had, hh⟩ := hS1.el.el.at_enc hp
    dsimp only at had
    subst had
    refine ⟨by omega, ?_⟩
    simp only [W.unSome_some, Int.toNat_natCast]
    refine ld_has_z hh (y := (p.T.id, p.T.name, p.c, p.x, p.k, ())) rfl ?_
    have hP := hS1.all p (get_mem hp)
    refine W.call_of (c_copied hP) ?_
    rintro _ s2 ⟨q, rfl, hqT, hq, m2, fq, nq⟩
    refine ⟨((q.T.id, q.T.name, q.c, q.x, q.k, ()), ()), rfl, ?_⟩
    obtain ⟨qT, ⟨ca, cn, cc⟩, ⟨xa, xn, xc⟩, ⟨ka, kn, kc⟩⟩ := q
    dsimp only at hqT
    subst hqT
    have b1 := hP.c.few
    have b2 := hP.x.few
    have b3 := hP.k.few
    have l1 : cn = p.T.cols.length := hq.c.len
    have l2 : xn = p.T.idxs.length := hq.x.len
    have l3 : kn = p.T.keys.length := hq.k.len
    have nq' := nq
    simp only [TabP.L, List.nodup_append] at nq'
    obtain ⟨_, ⟨_, _, n4⟩, n5⟩ := nq'
    have hq' := hq
    obtain ⟨hc, hx, hkk⟩ := hq
    dsimp only at hc hx hkk n4 n5
    refine W.call_of (c_DelC (n := cn) hc (by omega)) ?_
    rintro _ s3 ⟨c2, rfl, r1, d1⟩
    refine ⟨(((ca, c2, cc), ()), ()), rfl, ?_⟩
    have hx3 := hx.mod d1 fun g hg hg2 => n5 g hg2 g (List.mem_append.2 (.inl hg)) rfl
    have hk3 := hkk.mod d1 fun g hg hg2 => n5 g hg2 g (List.mem_append.2 (.inr hg)) rfl
    refine W.call_of (c_DelX (n := xn) hx3 (by omega)) ?_
    rintro _ s4 ⟨x2, rfl, r2, d2⟩
    refine ⟨(((xa, x2, xc), ()), ()), rfl, ?_⟩
    have hc4 := r1.mod d2 fun g hg hg2 => n5 g hg g (List.mem_append.2 (.inl hg2)) rfl
    have hk4 := hk3.mod d2 fun g hg hg2 => n4 g hg2 g hg rfl
    refine W.call_of (c_DelF (n := kn) hk4 (by omega)) ?_
    rintro _ s5 ⟨k2, rfl, r3, d3⟩
    refine ⟨(((ka, k2, kc), ()), ()), rfl, ?_⟩
    have hc5 := hc4.mod d3 fun g hg hg2 => n5 g hg g (List.mem_append.2 (.inr hg2)) rfl
    have hx5 := r2.mod d3 fun g hg hg2 => n4 g hg g hg2 rfl
    have hfr : ∀ g ∈ Fw.blk ca ++ (Fw.blk xa ++ Fw.blk ka), s1 g = none := fq
    have m25 : Fw.Mod [] s1 s5 := by
      have e1 := m2.fresh d1 fun x hx => .inr (hfr x (List.mem_append.2 (.inl hx)))
      have e2 := e1.fresh d2 fun x hx => .inr (hfr x (List.mem_append.2 (.inr (List.mem_append.2 (.inl hx)))))
      exact e2.fresh d3 fun x hx => .inr (hfr x (List.mem_append.2 (.inr (List.mem_append.2 (.inr hx)))))
    have hpcl : pc.length = k := by
      have := congrArg List.length he
      simp only [List.length_map, List.length_take] at this
      omega
    have hH5 := hH.mod m25 (by simp)
    have hO : Own s5 ⟨seenT p.T, (ca, c2, cc), (xa, x2, xc), (ka, k2, kc)⟩ := ⟨hc5, hx5, r3⟩
    refine hH5.push (p := ⟨seenT p.T, (ca, c2, cc), (xa, x2, xc), (ka, k2, kc)⟩) hO hO.nodup (fun g hg hg2 => hH.known g hg2 (hfr g hg)) (by omega) ?_
    intro a' c' s6 h6 st6
    rw [wrap_succ (k := k) (by omega)]
    have m15 : Fw.Mod [] s s5 := m1.trans m25
    refine ⟨⟨k + 1, a2 + 1, c', a', pc ++ [⟨seenT p.T, (ca, c2, cc), (xa, x2, xc), (ka, k2, kc)⟩], rfl, hlt, h6, ?_, ?_, ?_⟩, by simp only [Int.toNat_natCast]; omega⟩
    · rw [List.take_add_one, hT, List.map_append, he]; simp
    · refine m15.fresh st6.mod fun x hx => ?_
      rcases List.mem_append.1 hx with hx | hx
      · exact .inr (hf x hx)
      · exact .inr (m1.none (hfr x hx) (by simp))
    · intro g hg
      rcases st6.new g hg with e | e
      · rcases List.mem_append.1 e with e | e
        · exact hf g e
        · exact m1.none (hfr g e) (by simp)
      · exact m15.none e (by simp)
  · have hall : S.tabs.take k = S.tabs := List.take_of_length_le (by omega)
    rw [hall] at he
    exact ⟨(a1, a2, a3), pc, rfl, hH, he, m1, hf⟩
theorem sm_each {S : Sch} (h : S.Sm) : ∀ T ∈ S.tabs, T.cols.length ≤ 1000 ∧ T.idxs.length ≤ 1000 ∧ T.keys.length ≤ 1000 := by
  have hc := h.cost
  unfold Sch.cost at hc
  have key : ∀ l : List Tab, ∀ T ∈ l, T.cost ≤ (l.map Tab.cost).sum := by
    intro l
    induction l with
    | nil => simp
    | cons a l ih =>
      simp only [List.map_cons, List.sum_cons]
      intro T hT
      rcases List.mem_cons.1 hT with rfl | hT
      · omega
      · have := ih T hT; omega
  intro T hT
  have := key S.tabs T hT
  have hT2 : T.cost = 1 + T.cols.length + T.idxs.length + T.keys.length := rfl
  exact ⟨by omega, by omega, by omega⟩
theorem c_rSeen {s : PH} {t : Tri} {S : Sch} {ps : List TabP} (h : SchIs s t S ps) (hSm : S.Sm) : DCalls Try.prog 22 #[schV S t] s (GivesC s S.seen) := by
  obtain ⟨ta, tn, tc⟩ := t
  refine ok_rSeen S.version S.last ta tn tc _ s ?_
  unfold vc_rSeen
  have htn : tn = ps.length := h.el.len
  have hfew := h.el.few
  have hpl : S.tabs.length = ps.length := by rw [h.eq]; simp
  simp only [RP_join, RP_ite, RP_call, RP_callQ, RP_ret, RP_nw, RP_app, RP_st, RP_ld, RP_unSome, RP_guard, RP_loop, W.unSome_some]
  have hcp := c_rCopy h
  refine W.call_of hcp ?_
  rintro _ s1 ⟨⟨ta1, tn1, tc1⟩, ps1, rfl, hH1, he1, m1, f1⟩
  refine ⟨((S.version, S.last, (ta1, tn1, tc1), ()), ()), rfl, ?_⟩
  have htn1 : tn1 = ps1.length := hH1.row.len
  have hpl1 : S.tabs.length = ps1.length := by rw [he1]; simp
  refine ⟨fun z s' => ∃ (k : Nat) (pc : List TabP), z = ((S.version, S.last, (ta1, tn1, tc1), ()), (0, 0, (none, 0, 0), ()), ((k : Int), ()), ()) ∧ k ≤ tn1 ∧ Has s' (ta1, tn1, tc1) pc ∧ (S.tabs.take k).map seenT ++ S.tabs.drop k = pc.map (·.T) ∧ Fw.Mod [] s s' ∧ ∀ g ∈ Lof (ta1, tn1, tc1) pc, s g = none,
    fun z _ => tn1 - z.2.2.1.1.toNat, ⟨0, ps1, rfl, Nat.zero_le _, hH1, by simpa using he1, m1, f1⟩, ?_⟩
  rintro _ s2 ⟨k, pc, rfl, hk, hH, he, m2, hf⟩
  have hpc : tn1 = pc.length := hH.row.len
  simp only [W.br_iff, decide_eq_true_eq, decide_eq_false_iff_not]
  refine ⟨fun hlt => ?_, fun hge => ?_⟩
  · have hlt : k < tn1 := by omega
    obtain ⟨p, hp⟩ : ∃ p, pc[k]? = some p := ⟨_, List.getElem?_eq_getElem (by omega)⟩
    obtain ⟨T, ⟨ca, can, cac⟩, ⟨xa, xan, xac⟩, ⟨ka, kan, kac⟩⟩ := p
    have hT : S.tabs[k]? = some T := by
      have e1 : (pc.map (·.T))[k]? = some T := by rw [List.getElem?_map, hp]; rfl
      rw [← he, List.getElem?_append_right (by simp; omega)] at e1
      rw [List.length_map, List.length_take, Nat.min_eq_left (by omega), Nat.sub_self, List.getElem?_drop] at e1
      exact e1
    obtain ⟨p0, hp0, hpT⟩ : ∃ p0, ps[k]? = some p0 ∧ p0.T = T := by
      rw [h.eq, List.getElem?_map] at hT
      cases hq : ps[k]? with
      | none => rw [hq] at hT; cases hT
      | some pp => rw [hq] at hT; exact ⟨pp, rfl, Option.some.inj hT⟩
    have hfw : T.Few := by rw [← hpT]; exact (h.all p0 (get_mem hp0)).few
    obtain ⟨g, hga, _⟩ := hH.row.at hp
    dsimp only at hga
    subst hga
    have hA := Gs.tabHas hH hp rfl
    have hpm := List.mem_of_getElem? hp
    have hO := hH.all _ hpm
    have hP := hO.is hfw
    obtain ⟨b1, b2, b3⟩ := sm_each hSm T (List.mem_of_getElem? hT)
    have l1 : can = T.cols.length := hP.c.len
    have l2 : xan = T.idxs.length := hP.x.len
    have l3 : kan = T.keys.length := hP.k.len
    refine ⟨by omega, ?_⟩
    simp only [W.unSome_some, Int.toNat_natCast, add_mk, Nat.zero_add]
    refine ld_has_z hA (y := (T.id, T.name, (ca, can, cac), (xa, xan, xac), (ka, kan, kac), ())) rfl ?_
    refine ⟨fun z s' => ∃ (j n c : Nat) (a : Option Addr), z = ((S.version, S.last, (some (Addr.mk g 0 none), tn1, tc1), ()), (0, 0, (none, 0, 0), ()), ((k : Int), ()), (T.id, T.name, (ca, can, cac), (xa, xan, xac), (ka, kan, kac), ()), (T.id, T.name, (a, n, c), (none, 0, 0), (none, 0, 0), ()), ((j : Int), ()), ()) ∧ j ≤ can ∧ rowE colE s' 44 a n c ((T.cols.take j).filter sC) ∧ (∀ q ∈ Fw.blk a, s2 q = none) ∧ Fw.Mod [] s2 s', fun z _ => can - z.2.2.2.2.2.1.1.toNat, ⟨0, 0, 0, none, rfl, Nat.zero_le _, by simpa using rowE.nil, by simp [Fw.blk], Mod.refl _ _⟩, ?_⟩
    rintro _ s3 ⟨j, n1, c1, a1, rfl, hj, r1, q1, d1⟩
    simp only [W.br_iff, decide_eq_true_eq, decide_eq_false_iff_not]
    refine ⟨fun hlt => ?_, fun hge => ?_⟩
    · have hlt : j < can := Int.ofNat_lt.1 hlt
      obtain ⟨y, hy⟩ : ∃ y, T.cols[j]? = some y := ⟨_, List.getElem?_eq_getElem (by omega)⟩
      obtain ⟨ad, had, hh⟩ := (hP.mono d1.le).c.el.at_enc hy
      have hgd : (0 : Int) ≤ (j : Int) ∧ (j : Int) < ((can : Nat) : Int) := by omega
      refine ⟨hgd, ?_⟩
      dsimp only at had
      rw [had]
      simp only [W.unSome_some, Int.toNat_natCast]
      refine ld_has (j := 3) hh (cs := [.int .i64]) (y := (y.state, ())) rfl ?_
      have hw := wrap_succ (k := j) (by omega)
      have hst := filt_take (f := sC) hy
      have hlen : ((T.cols.take j).filter sC).length ≤ 1099511627 := by
        have := List.length_filter_le sC (T.cols.take j)
        rw [List.length_take] at this
        omega
      refine (W.br_iff _ _ _ _).2 ⟨fun hk => ?_, fun hk => ?_⟩
      · have hk : sC y = true := by
          have : (y.state == 3) = true := hk
          unfold sC; simpa using this
        refine ⟨hgd, ?_⟩
        simp only [W.unSome_some, Int.toNat_natCast]
        refine ld_has_z hh (y := (y.id, y.name, y.kind, y.state, y.dflt.kind, y.dflt.n, y.dflt.s, ())) rfl ?_
        refine grow (E := colE) (x := y) r1 q1 d1 rfl hlen (by omega) ?_
        intro a' c' s9 h9 f9 m9
        rw [hw]
        refine ⟨⟨j + 1, _, c', a', rfl, hlt, by rw [hst, hk, if_pos rfl]; exact h9, f9, m9⟩, ?_⟩
        show can - (((j + 1 : Nat) : Int)).toNat < can - ((j : Int)).toNat
        simp only [Int.toNat_natCast]; omega
      · have hk : sC y = false := by
          have : (y.state == 3) = false := hk
          unfold sC; simpa using this
        rw [hw]
        refine ⟨⟨j + 1, n1, c1, a1, rfl, hlt, by rw [hst, hk]; simpa using r1, q1, d1⟩, ?_⟩
        show can - (((j + 1 : Nat) : Int)).toNat < can - ((j : Int)).toNat
        simp only [Int.toNat_natCast]; omega
    have hall : T.cols.take j = T.cols := List.take_of_length_le (by have hge := fun e => hge (Int.ofNat_lt.2 e); omega)
    rw [hall] at r1
    refine ⟨fun z s' => ∃ (j n c : Nat) (a : Option Addr), z = ((S.version, S.last, (some (Addr.mk g 0 none), tn1, tc1), ()), (0, 0, (none, 0, 0), ()), ((k : Int), ()), (T.id, T.name, (ca, can, cac), (xa, xan, xac), (ka, kan, kac), ()), (T.id, T.name, (a1, n1, c1), (a, n, c), (none, 0, 0), ()), ((j : Int), ()), ()) ∧ j ≤ xan ∧ rowE idxE s' 106 a n c ((T.idxs.take j).filter sX) ∧ (∀ q ∈ Fw.blk a, s3 q = none) ∧ Fw.Mod [] s3 s', fun z _ => xan - z.2.2.2.2.2.1.1.toNat, ⟨0, 0, 0, none, rfl, Nat.zero_le _, by simpa using rowE.nil, by simp [Fw.blk], Mod.refl _ _⟩, ?_⟩
    rintro _ s4 ⟨j, n2, c2, a2, rfl, hj, r2, q2, d2⟩
    simp only [W.br_iff, decide_eq_true_eq, decide_eq_false_iff_not]
    refine ⟨fun hlt => ?_, fun hge => ?_⟩
    · have hlt : j < xan := Int.ofNat_lt.1 hlt
      obtain ⟨y, hy⟩ : ∃ y, T.idxs[j]? = some y := ⟨_, List.getElem?_eq_getElem (by omega)⟩
      obtain ⟨ad, had, hh⟩ := ((hP.mono d1.le).mono d2.le).x.el.at_enc hy
      have hgd : (0 : Int) ≤ (j : Int) ∧ (j : Int) < ((xan : Nat) : Int) := by omega
      refine ⟨hgd, ?_⟩
      dsimp only at had
      rw [had]
      simp only [W.unSome_some, Int.toNat_natCast]
      refine ld_has (j := 4) hh (cs := [.int .i64]) (y := (y.state, ())) rfl ?_
      have hw := wrap_succ (k := j) (by omega)
      have hst := filt_take (f := sX) hy
      have hlen : ((T.idxs.take j).filter sX).length ≤ 1099511627 := by
        have := List.length_filter_le sX (T.idxs.take j)
        rw [List.length_take] at this
        omega
      refine (W.br_iff _ _ _ _).2 ⟨fun hk => ?_, fun hk => ?_⟩
      · have hk : sX y = true := by
          have : (y.state == 3) = true := hk
          unfold sX; simpa using this
        refine ⟨hgd, ?_⟩
        simp only [W.unSome_some, Int.toNat_natCast]
        refine ld_has_z hh (y := (y.id, y.name, y.column, y.unique, y.state, ())) rfl ?_
        refine grow (E := idxE) (x := y) r2 q2 d2 rfl hlen (by omega) ?_
        intro a' c' s9 h9 f9 m9
        rw [hw]
        refine ⟨⟨j + 1, _, c', a', rfl, hlt, by rw [hst, hk, if_pos rfl]; exact h9, f9, m9⟩, ?_⟩
        show xan - (((j + 1 : Nat) : Int)).toNat < xan - ((j : Int)).toNat
        simp only [Int.toNat_natCast]; omega
      · have hk : sX y = false := by
          have : (y.state == 3) = false := hk
          unfold sX; simpa using this
        rw [hw]
        refine ⟨⟨j + 1, n2, c2, a2, rfl, hlt, by rw [hst, hk]; simpa using r2, q2, d2⟩, ?_⟩
        show xan - (((j + 1 : Nat) : Int)).toNat < xan - ((j : Int)).toNat
        simp only [Int.toNat_natCast]; omega
    have hall : T.idxs.take j = T.idxs := List.take_of_length_le (by have hge := fun e => hge (Int.ofNat_lt.2 e); omega)
    rw [hall] at r2
    refine ⟨fun z s' => ∃ (j n c : Nat) (a : Option Addr), z = ((S.version, S.last, (some (Addr.mk g 0 none), tn1, tc1), ()), (0, 0, (none, 0, 0), ()), ((k : Int), ()), (T.id, T.name, (ca, can, cac), (xa, xan, xac), (ka, kan, kac), ()), (T.id, T.name, (a1, n1, c1), (a2, n2, c2), (a, n, c), ()), ((j : Int), ()), ()) ∧ j ≤ kan ∧ rowE forE s' 109 a n c ((T.keys.take j).filter sF) ∧ (∀ q ∈ Fw.blk a, s4 q = none) ∧ Fw.Mod [] s4 s', fun z _ => kan - z.2.2.2.2.2.1.1.toNat, ⟨0, 0, 0, none, rfl, Nat.zero_le _, by simpa using rowE.nil, by simp [Fw.blk], Mod.refl _ _⟩, ?_⟩
    rintro _ s5 ⟨j, n3, c3, a3, rfl, hj, r3, q3, d3⟩
    simp only [W.br_iff, decide_eq_true_eq, decide_eq_false_iff_not]
    refine ⟨fun hlt => ?_, fun hge => ?_⟩
    · have hlt : j < kan := Int.ofNat_lt.1 hlt
      obtain ⟨y, hy⟩ : ∃ y, T.keys[j]? = some y := ⟨_, List.getElem?_eq_getElem (by omega)⟩
      obtain ⟨ad, had, hh⟩ := ((hP.mono (d1.trans d2).le).mono d3.le).k.el.at_enc hy
      have hgd : (0 : Int) ≤ (j : Int) ∧ (j : Int) < ((kan : Nat) : Int) := by omega
      refine ⟨hgd, ?_⟩
      dsimp only at had
      rw [had]
      simp only [W.unSome_some, Int.toNat_natCast]
      refine ld_has (j := 4) hh (cs := [.int .i64]) (y := (y.state, ())) rfl ?_
      have hw := wrap_succ (k := j) (by omega)
      have hst := filt_take (f := sF) hy
      have hlen : ((T.keys.take j).filter sF).length ≤ 1099511627 := by
        have := List.length_filter_le sF (T.keys.take j)
        rw [List.length_take] at this
        omega
      refine (W.br_iff _ _ _ _).2 ⟨fun hk => ?_, fun hk => ?_⟩
      · have hk : sF y = true := by
          have : (y.state == 3) = true := hk
          unfold sF; simpa using this
        refine ⟨hgd, ?_⟩
        simp only [W.unSome_some, Int.toNat_natCast]
        refine ld_has_z hh (y := (y.id, y.name, y.column, y.parent, y.state, ())) rfl ?_
        refine grow (E := forE) (x := y) r3 q3 d3 rfl hlen (by omega) ?_
        intro a' c' s9 h9 f9 m9
        rw [hw]
        refine ⟨⟨j + 1, _, c', a', rfl, hlt, by rw [hst, hk, if_pos rfl]; exact h9, f9, m9⟩, ?_⟩
        show kan - (((j + 1 : Nat) : Int)).toNat < kan - ((j : Int)).toNat
        simp only [Int.toNat_natCast]; omega
      · have hk : sF y = false := by
          have : (y.state == 3) = false := hk
          unfold sF; simpa using this
        rw [hw]
        refine ⟨⟨j + 1, n3, c3, a3, rfl, hlt, by rw [hst, hk]; simpa using r3, q3, d3⟩, ?_⟩
        show kan - (((j + 1 : Nat) : Int)).toNat < kan - ((j : Int)).toNat
        simp only [Int.toNat_natCast]; omega
    have hall : T.keys.take j = T.keys := List.take_of_length_le (by have hge := fun e => hge (Int.ofNat_lt.2 e); omega)
    rw [hall] at r3
    refine ⟨by omega, ?_⟩
    simp only [W.unSome_some, Int.toNat_natCast, add_mk, Nat.zero_add]
    have d123 := (d1.trans d2).trans d3
    have hO' : Own s5 ⟨seenT T, (a1, n1, c1), (a2, n2, c2), (a3, n3, c3)⟩ := ⟨(r1.mod d2 (by simp)).mod d3 (by simp), r2.mod d3 (by simp), r3⟩
    have hfr : ∀ q ∈ (TabP.mk (seenT T) (a1, n1, c1) (a2, n2, c2) (a3, n3, c3)).L, s2 q = none := by
      intro q hq
      simp only [TabP.L, List.mem_append] at hq
      rcases hq with hq | hq | hq
      · exact q1 q hq
      · exact d1.none (q2 q hq) (by simp)
      · exact (d1.trans d2).none (q3 q hq) (by simp)
    refine hH.store hp ⟨d123.mono (by simp), hO', hO'.nodup, fun q hq => .inr (hfr q hq)⟩ (j := 0) (vs := [.int .i64 T.id, .string T.name, .slice a1 n1 c1, .slice a2 n2 c2, .slice a3 n3 c3]) rfl (by simp) (by simp) rfl fun s6 h6 st6 => ?_
    rw [wrap_succ (k := k) (by omega)]
    refine ⟨⟨k + 1, _, rfl, hlt, h6, ?_, m2.fresh st6.mod fun x hx => .inr (hf x hx), fun x hx => ?_⟩, by simp only [Int.toNat_natCast]; omega⟩
    · rw [set_map, ← he]
      dsimp only
      have e1 : S.tabs.drop k = T :: S.tabs.drop (k + 1) := drop_some hT
      have e2 : S.tabs.take (k + 1) = S.tabs.take k ++ [T] := by rw [List.take_add_one, hT]; rfl
      rw [e1, e2]
      have hl : ((S.tabs.take k).map seenT).length = k := by rw [List.length_map, List.length_take]; omega
      rw [List.set_append_right _ _ (by omega), hl, Nat.sub_self, List.set_cons_zero]
      simp
    · rcases st6.new x hx with e | e
      · exact hf x e
      · exact m2.none e (by simp)
  · have hall : S.tabs.take k = S.tabs := List.take_of_length_le (by omega)
    have hdr : S.tabs.drop k = [] := List.drop_eq_nil_of_le (by omega)
    rw [hall, hdr, List.append_nil] at he
    exact ⟨(ta1, tn1, tc1), pc, rfl, hH, he, m2, hf⟩
theorem seen_sm {S : Sch} (h : S.Sm) : S.seen.Sm := by
  refine ⟨fun T hT => ?_, ?_⟩
  · obtain ⟨U, hU, rfl⟩ := List.mem_map.1 hT
    obtain ⟨a, b, c, d⟩ := h.tabs U hU
    exact ⟨a, fun x hx => b x (List.mem_filter.1 hx).1, fun x hx => c x (List.mem_filter.1 hx).1, fun x hx => d x (List.mem_filter.1 hx).1⟩
  · have hc := h.cost
    unfold Sch.cost at hc ⊢
    have key : ∀ l : List Tab, ((l.map seenT).map Tab.cost).sum ≤ (l.map Tab.cost).sum := by
      intro l
      induction l with
      | nil => simp
      | cons a l ih =>
        have e1 : (seenT a).cost = 1 + (a.cols.filter sC).length + (a.idxs.filter sX).length + (a.keys.filter sF).length := rfl
        have e2 : a.cost = 1 + a.cols.length + a.idxs.length + a.keys.length := rfl
        have g1 := List.length_filter_le sC a.cols
        have g2 := List.length_filter_le sX a.idxs
        have g3 := List.length_filter_le sF a.keys
        simp only [List.map_cons, List.sum_cons]
        omega
    exact Nat.le_trans (key S.tabs) hc
theorem law_SchemaSeen {s : PH} {t : Tri} {S : Sch} {ps : List TabP} (h : SchB s t S ps) (hsm : ∀ T ∈ S.tabs, T.Sm) :
    DCalls Try.prog 5 #[schV S t] s fun y s' => y = .bool true ∧ Fw.Mod [] s s' := by
  obtain ⟨ta, tn, tc⟩ := t
  refine ok_SchemaSeen S.version S.last ta tn tc _ s ?_
  unfold vc_SchemaSeen
  simp only [RP_join, RP_ite, RP_call, RP_callQ, RP_ret, RP_nw, RP_app, RP_st, RP_ld, RP_unSome, RP_guard, RP_loop, W.unSome_some]
  refine W.join_gen (fun z s' => z = ((S.version, S.last, (ta, tn, tc), ()), ()) ∧ s' = s ∧ S.tabs.length + wsum S.tabs ≤ 300) ?_ ?_
  rotate_left
  · intro J hJ
    refine callq ((true, ()), ()) (c_awake s) rfl ?_
    refine (W.br_iff _ _ _ _).2 ⟨fun e => (by cases e), fun _ => ?_⟩
    refine W.call_of (c_great h noDdl (u := noTri) ⟨Sl.nil.el, Nat.le_refl _, by simp⟩) ?_
    rintro _ s' ⟨⟨b, rfl, hb⟩, rfl⟩
    refine ⟨((b, ()), ()), rfl, ?_⟩
    refine (W.br_iff _ _ _ _).2 ⟨fun _ => ?_, fun e => hJ _ _ ⟨rfl, rfl, by have := hb e; omega⟩⟩
    refine callq ((true, ()), ()) (c_awake _) rfl ?_
    exact ⟨rfl, Mod.refl _ _⟩
  rintro _ s0 ⟨rfl, rfl, hg⟩
  have hS := h.is hg
  have hSm := seen_sm (sm_great hsm hg)
  refine W.call_of (c_Seen hS) ?_
  rintro _ s1 ⟨t1, ps1, rfl, hH1, he1, m1, f1⟩
  refine ⟨((S.seen.version, S.seen.last, t1, ()), ()), rfl, ?_⟩
  refine W.call_of (c_rSeen (hS.mono m1.le) (sm_great hsm hg)) ?_
  rintro _ s2 ⟨t2, ps2, rfl, hH2, he2, m2, f2⟩
  refine ⟨((S.seen.version, S.seen.last, t2, ()), ()), rfl, ?_⟩
  have hc := c_same ((hH1.mod m2 (by simp)).sm he1 hSm) (hH2.sm he2 hSm) hSm hSm
  rw [decide_eq_true (by rfl)] at hc
  refine callq ((true, ()), ()) hc rfl ?_
  exact ⟨rfl, m1.trans m2⟩
theorem c_SchemaSeen {s : PH} {cs : Array Value} {S : Sch} (h : rdSch.is s cs.toList S) : DCalls Try.prog 5 #[.agg cs] s fun y s' => y = .bool true ∧ Fw.Mod [] s s' := by
  obtain ⟨t, ps, e, hB, hsm⟩ := rdSch_is h
  rw [agg_arr e]
  exact law_SchemaSeen hB hsm
end Go.Proofs.Ythepfbcgpbkbdaa
