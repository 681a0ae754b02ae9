/-
  Part 28 for the law: lemmas.
  Conditions: none.
-/
import Derived.Test.YtcdggocbjnmeaaaGreatGroupHoldsK27
set_option maxHeartbeats 4000000
set_option maxRecDepth 100000
set_option linter.unusedVariables false
set_option linter.unusedSimpArgs false
set_option linter.unusedSectionVars false
namespace Go.Proofs.YtcdggocbjnmeaaaGreat
open Fw Go Go.IntKind
section
attribute [-simp] Fw.W.ld_iff Fw.W.st_iff
def dlE : Enc (Dl × Tri) where
 sz := 8
 f p := dlCells p.1 p.2
 len _ := rfl
 one p v hv := by simp at hv; rcases hv with rfl | rfl | rfl | rfl | rfl | rfl | rfl | rfl <;> rfl
 pos := by omega
def arr3 (arr : Array Value) (i : Nat) (q : Mem) : Array Value := ((arr.setIfInBounds (i * 3 + 1) (.pointer (some ⟨q.d, 0, none⟩))).setIfInBounds (i * 3 + 2) (.pointer q.xp)).setIfInBounds (i * 3 + 0) (.pointer (q.bp.map fun b => ⟨b, 0, none⟩))
theorem dtot_memG {ls : List Dl} {D : Dl} (h : D ∈ ls) : D.list.length ≤ dtot ls := by
 unfold dtot
 induction ls with
 | nil => cases h
 | cons x ls ih =>
  simp only [List.map_cons, List.sum_cons]
  rcases List.mem_cons.1 h with rfl | h
  ·omega
  ·have := ih h; omega
theorem dtot_takeG (ls : List Dl) (k : Nat) : dtot (ls.take k) ≤ dtot ls := by
 unfold dtot
 induction ls generalizing k with
 | nil => simp
 | cons x ls ih =>
  cases k with
  | zero => simp
  | succ k => simp only [List.take_succ_cons, List.map_cons, List.sum_cons]; have := ih k; omega
def GstZ (ad : Addr) (xp : Option Addr) (put : List Dl) (lt : Tri) (k : Nat) (s0 : PH) (z : MDen [(false, [.ptr]), (false, [.ptr]), (false, [.slice]), (false, [.slice]), (false, [.int .i64]), (false, [.int .i64])]) (s' : PH) : Prop :=
 ∃ (j : Nat) (t : Tri) (ps : List (Dl × Tri)), z = ((some ad, ()), (xp, ()), (t, ()), (lt, ()), ((k : Int), ()), ((j : Int), ()), ()) ∧ j ≤ k ∧ ps.map (·.1) = put.take j ∧ rowE dlE s' 113 t.1 t.2.1 t.2.2 ps ∧
  (∀ p ∈ ps, rowE entE s' 43 p.2.1 p.2.2.1 p.2.2.2 p.1.list) ∧ (∀ x ∈ Fw.blk t.1, s0 x = none) ∧ (∀ p ∈ ps, ∀ x ∈ Fw.blk p.2.1, s0 x = none) ∧ Fw.Mod [] s0 s'
def StartQ (na d : Nat) (arr : Array Value) (i : Nat) (N' : Nd) (s : PH) (y : Value) (s' : PH) : Prop :=
 y = .tuple #[] ∧ ∃ q' : Mem, s' na = some (.cells (arr3 arr i q') 74 (0, 0)) ∧ NdIs s' q' N' ∧ (∀ x ∈ q'.F, s x = none) ∧ Fw.Mod [na, d] s s'
structure Nd.Disk (N : Nd) : Prop where
 kept : ∃ sure, Kept N.d LOG (N.put.map encDB) sure
 put : ∀ D ∈ N.put, D.I ∧ (encD D).length ≤ 1099511627776
 tot : dtot N.put ≤ 1000000
 few : N.put.length ≤ 1000000
 ok : N.d.Ok
 size : (N.d.got LOG).1.size ≤ 1099511627776
theorem c_gstart {s : PH} {g na d dm n : Nat} {P A : Value} {arr : Array Value} {i : Nat} {x0 : Option Addr} {N : Nd} (hc : s g = some (.cells #[.slice (some ⟨na, 0, none⟩) n n, P, A] 61 (0, 0))) (ha : s na = some (.cells arr 74 (0, 0)))
  (hi : i < n) (hn : n ≤ 5) (h0 : arr[i * 3 + 0]? = some (.pointer none)) (h1 : arr[i * 3 + 1]? = some (dptr d)) (h2 : arr[i * 3 + 2]? = some (.pointer x0)) (hd : DriveIs s d dm N.d) (hb : N.b = none) (hD : N.Disk) (keep : Int) :
  DCalls Tryz.prog 38 #[gptr g, .int .i64 (i : Int), .int .i64 keep] s (StartQ na d arr i (N.start i n keep) s) := by
 refine ok_gstart g i keep _ s ?_
 unfold vc_gstart
 obtain ⟨sure, hK⟩ := hD.kept
 obtain ⟨k, hk1, hk2, hk3, hk4, hk5⟩ := hK.crash hD.ok [keep]
 obtain ⟨N', hN'⟩ : ∃ N', N.start i n keep = N' := ⟨_, rfl⟩
 have hkl : k ≤ N.put.length := by rw [List.length_map] at hk2; exact hk2
 have hNN : N' = ⟨BS.loaded i n (N.put.take k), ((N.d.crash [keep]).opens LOG).2, N.put.take k⟩ := by
  rw [← hN']
  unfold Nd.start
  rw [hk3, if_neg (by simp)]
  simp only [List.length_take, List.length_map, Nat.min_eq_left hkl]
 rw [hN']
 have hgn : g ≠ na := by rintro rfl; rw [hc] at ha; exact absurd (Obj.cells.inj (Option.some.inj ha)).2.1 (by decide)
 have hdn : d ≠ na := by rintro rfl; have h1 := hd.blk; rw [ha] at h1; exact absurd (Obj.cells.inj (Option.some.inj h1)).2.1 (by decide)
 have hgd : g ≠ d := by rintro rfl; have h1 := hd.blk; rw [hc] at h1; exact absurd (Obj.cells.inj (Option.some.inj h1)).2.1 (by decide)
 simp only [RP_unSome, W.unSome_some, add_mk, Nat.zero_add, RP_ld]
 refine ld_blk (c := .slice) (x := (some ⟨na, 0, none⟩, n, n)) hc rfl ?_
 simp only [RP_guard, W.guard_iff, W.unSome_some, add_mk, Nat.zero_add, Int.toNat_natCast]
 refine ⟨by show (0 : Int) ≤ (i : Int) ∧ (i : Int) < (n : Int); omega, ?_⟩
 refine ld_blk (c := .ptr) (x := some ⟨d, 0, none⟩) ha h1 ?_
 simp only [RP_nw]
 refine W.nw_of fun r s1 hr m1 k1 => ?_
 have hd1 : DriveIs s1 d dm N.d := ⟨m1.at hd.blk (by simp), hd.map.mod m1 (by simp)⟩
 have hkeep : intsAt s1 (some ⟨r, 0, none⟩) 1 [keep] := ⟨rfl, fun j x hx => by
  cases j with
  | zero =>
   simp at hx; subst hx
   refine ⟨_, rfl, ?_⟩
   rw [add_zero]; unfold PH.cell?; dsimp only; rw [k1]; (first | done | rfl)
  | succ j => simp at hx⟩
 simp only [RP_call]
 refine W.call_of (c_Crash hd1 hD.ok hkeep) ?_
 rintro _ s2 ⟨nb, nm, rfl, hdr, _, m2, hnb, hnm⟩
 refine ⟨((some ⟨nb, 0, none⟩, ()), ()), rfl, ?_⟩
 have m02 : Fw.Mod [d] s s2 := (m1.mono (by simp) : Fw.Mod [d] s s1).trans m2
 have hnbs : s nb = none := m1.none hnb (by simp)
 have hnms : s nm = none := m1.none hnm (by simp)
 have ha2 := m02.at ha (by simp; exact hdn.symm)
 have hc2 := m02.at hc (by simp; exact hgd)
 simp only [W.unSome_some, add_mk, RP_st]
 refine st_blk ha2 h1 rfl ?_
 obtain ⟨s3, hs3⟩ : ∃ s3, s2.upd na (.cells (arr.setIfInBounds (i * 3 + 1) (.pointer (some ⟨nb, 0, none⟩))) 74 (0, 0)) = s3 := ⟨_, rfl⟩
 have m23 : Fw.Mod [na] s2 s3 := by rw [← hs3]; exact Mod.upd (by simp)
 have ha3 : s3 na = some (.cells (arr.setIfInBounds (i * 3 + 1) (.pointer (some ⟨nb, 0, none⟩))) 74 (0, 0)) := by rw [← hs3]; exact PH.upd_same _ _ _
 rw [hs3]
 have hnbn : nb ≠ na := by rintro rfl; rw [hnbs] at ha; cases ha
 have hnmn : nm ≠ na := by rintro rfl; rw [hnms] at ha; cases ha
 have hdr3 : DriveIs s3 nb nm (N.d.crash [keep]) := ⟨m23.at hdr.blk (by simp; exact hnbn), hdr.map.mod m23 (by simp; exact hnmn)⟩
 have hl1 := (Array.getElem?_eq_some_iff.1 h1).1
 have hl2 := (Array.getElem?_eq_some_iff.1 h2).1
 have hl0 := (Array.getElem?_eq_some_iff.1 h0).1
 simp only [W.unSome_some, add_mk]
 refine ld_blk (c := .ptr) (x := some ⟨nb, 0, none⟩) ha3 (by rw [Array.getElem?_setIfInBounds_self_of_lt hl1]; (first | done | rfl)) ?_
 have hread : ((N.d.crash [keep]).read LOG).1.size ≤ 1099511627776 := by
  obtain ⟨u, hu, _, hu2⟩ := crash_got hD.ok LOG [keep]
  unfold DS.read
  split
  ·exact Nat.zero_le _
  ·rw [hu]
   have := hD.size
   rw [ByteArray.size_extract]; omega
 refine W.call_of (c_Open hdr3 LOG hread) ?_
 rintro y s4 ⟨⟨px, la, lc, rfl, hrow, hfr, hx⟩, hdr4, m4⟩
 rw [hk3] at hrow hx ⊢
 rcases hx with ⟨_, x, rfl, hdia, hxs⟩ | ⟨hx, _⟩
 rotate_left
 ·exact absurd rfl hx
 have hLl : ((N.put.map encDB).take k).length = k := by rw [List.length_take, List.length_map]; omega
 refine ⟨((some ⟨x, 0, none⟩, ()), ((la, ((N.put.map encDB).take k).length, lc), ()), (0, ()), ()), rfl, ?_⟩
 have hne0 : ((0 : Int) != 0) = false := rfl
 simp only [RP_ite, hne0, W.br_false, RP_loop, hLl] at hrow hfr ⊢
 have m03 : Fw.Mod [na, d] s s3 := (m02.mono (by simp) : Fw.Mod [na, d] s s2).trans (m23.mono (by simp))
 have m04 : Fw.Mod [na, d] s s4 := m03.fresh m4 (by simp; exact ⟨.inr hnbs, .inr hnms⟩)
 have hxs1 : s x = none ∨ x = na ∨ x = d := by
  by_cases hL : x ∈ [na, d]
  ·simp at hL; exact .inr hL
  ·exact .inl (m03.none hxs hL)
 have hxs0 : s x = none := by
  rcases hxs1 with h | rfl | rfl
  ·exact h
  ·rw [ha3] at hxs; cases hxs
  ·have hne : x ≠ na := by rintro rfl; rw [ha3] at hxs; cases hxs
   have hmod : s3 x = s2 x := by rw [← hs3, PH.upd_other _ _ hne]
   rename_i hdd
   have := hdd
   exact absurd hxs (by
    rw [hmod]
    have hb2 : DriveIs s2 x dm { N.d with down := true } := by assumption
    rw [hb2.blk]; simp)
 have ha4 := m4.at ha3 (by simp; exact ⟨hnbn.symm, hnmn.symm⟩)
 have hc4 := m04.at hc (by simp; exact ⟨hgn, hgd⟩)
 refine ⟨GstZ ⟨na, i * 3, none⟩ (some ⟨x, 0, none⟩) N.put (la, k, lc) k s4, fun z _ => ((k : Int) - z.2.2.2.2.2.1.1).toNat, ⟨0, noTri, [], rfl, Nat.zero_le _, rfl, rowE.nil, by simp, by simp [Fw.blk], by simp, Mod.refl _ _⟩, ?_⟩
 rintro _ s5 ⟨j, t, ps, rfl, hj, hps, hrow5, hl5, hf5, hg5, m5⟩
 have hpl : ps.length = j := by rw [← List.length_map (f := (·.1)), hps, List.length_take]; omega
 have htn : t.2.1 = j := by rw [← hpl]; exact hrow5.len
 simp only [W.br_iff, decide_eq_true_eq, decide_eq_false_iff_not]
 refine ⟨fun hlt => ?_, fun hge => ?_⟩
 ·have hlt : j < k := by omega
  obtain ⟨D, hDj⟩ : ∃ D, N.put[j]? = some D := ⟨_, List.getElem?_eq_getElem (by omega)⟩
  have hLj : ((N.put.map encDB).take k)[j]? = some (encDB D) := by rw [List.getElem?_take_of_lt hlt, List.getElem?_map, hDj]; (first | done | rfl)
  have hrow5' := hrow.mod m5 (by simp)
  obtain ⟨g', hg', hh⟩ := hrow5'.at hLj
  have hDm := hD.put D (List.mem_of_getElem? hDj)
  have hfew := hD.few
  simp only [RP_guard, W.guard_iff, Int.toNat_natCast, hg', W.unSome_some, add_mk, Nat.zero_add]
  refine ⟨by show (0 : Int) ≤ (j : Int) ∧ (j : Int) < (k : Int); omega, (encDB D, ()), hh, ?_⟩
  refine W.call_of (c_GetDelta hDm.1 hDm.2) ?_
  rintro _ s6 ⟨dt, rfl, hrow6, hfr6, m6⟩
  refine ⟨((D.term, D.vote, D.whole, D.base, D.baseTerm, D.snap, D.from_, dt, ()), (0, ()), ()), rfl, ?_⟩
  refine W.nw_of fun r7 s7 hr7 m7 k7 => ?_
  have hmax : maxLen = 9223372036854775807 := rfl
  simp only [RP_app]
  refine app_rowE (E := dlE) (k := 1) (ys := [(D, dt)]) ((hrow5.mod m6 (by simp)).mod m7 (by simp)) rfl (src_has (E := dlE) (has_block k7) rfl) rfl rfl (by show t.2.1 + 1 ≤ maxLen; omega) (by show (t.2.1 + 1) * 88 ≤ 140737488355328; omega) ?_
  intro a' c' s8 hrow8 hm8
  have m8 : Fw.Mod (Fw.blk t.1) s7 s8 ∧ ∀ x ∈ Fw.blk a', x ∈ Fw.blk t.1 ∨ s7 x = none := by
   rcases hm8 with ⟨rfl, hm⟩ | ⟨g, rfl, hg, hm⟩
   ·exact ⟨hm, fun x hx => .inl hx⟩
   ·exact ⟨hm.mono (by simp), by intro x hx; simp [Fw.blk] at hx; subst hx; exact .inr hg⟩
  obtain ⟨m8, hf8⟩ := m8
  have m57 : Fw.Mod [] s5 s7 := m6.trans m7
  have m07 : Fw.Mod [] s4 s7 := m5.trans m57
  have hrow7 := hrow5.mod m57 (by simp)
  have hl7 : ∀ p ∈ ps ++ [(D, dt)], rowE entE s7 43 p.2.1 p.2.2.1 p.2.2.2 p.1.list := by
   intro p hp
   rcases List.mem_append.1 hp with hp | hp
   ·exact (hl5 p hp).mod m57 (by simp)
   ·rw [List.mem_singleton] at hp; subst hp; exact hrow6.mod m7 (by simp)
  refine ⟨⟨j + 1, (a', t.2.1 + 1, c'), ps ++ [(D, dt)], by rw [wrap_succ (by omega), ← hg'], hlt, ?_, hrow8, ?_, ?_, ?_, ?_⟩, ?_⟩
  ·rw [List.map_append, hps, List.take_add_one, hDj]; (first | done | rfl)
  ·intro p hp
   exact (hl7 p hp).mod m8 fun z hz => row_ne3 hrow7 (hl7 p hp) (by decide) z hz
  ·intro z hz
   rcases hf8 z hz with h | h
   ·exact hf5 z h
   ·exact m07.none h (by simp)
  ·intro p hp z hz
   rcases List.mem_append.1 hp with hp | hp
   ·exact hg5 p hp z hz
   ·rw [List.mem_singleton] at hp; subst hp
    exact m5.none (hfr6 z hz) (by simp)
  ·exact m07.fresh m8 fun z hz => .inr (hf5 z hz)
  ·rw [wrap_succ (by omega)]
   show ((k : Int) - ((j + 1 : Nat) : Int)).toNat < ((k : Int) - ((j : Nat) : Int)).toNat
   omega
 ·have hjk : j = k := by omega
  subst hjk
  have ha5 := m5.at ha4 (by simp)
  have hc5 := m5.at hc4 (by simp)
  simp only [W.unSome_some, add_mk]
  refine st_blk (v := .pointer x0) ha5 (by rw [Array.getElem?_setIfInBounds_ne (by omega)]; exact h2) rfl ?_
  obtain ⟨s6, hs6⟩ : ∃ s6, s5.upd na (.cells ((arr.setIfInBounds (i * 3 + 1) (.pointer (some ⟨nb, 0, none⟩))).setIfInBounds (i * 3 + 2) (.pointer (some ⟨x, 0, none⟩))) 74 (0, 0)) = s6 := ⟨_, rfl⟩
  have m6 : Fw.Mod [na] s5 s6 := by rw [← hs6]; exact Mod.upd (by simp)
  have ha6 : s6 na = some (.cells ((arr.setIfInBounds (i * 3 + 1) (.pointer (some ⟨nb, 0, none⟩))).setIfInBounds (i * 3 + 2) (.pointer (some ⟨x, 0, none⟩))) 74 (0, 0)) := by rw [← hs6]; exact PH.upd_same _ _ _
  rw [hs6]
  have hc6 := m6.at hc5 (by simp; exact hgn)
  simp only [W.unSome_some, add_mk, Nat.zero_add]
  refine ld_blk (c := .slice) (x := (some ⟨na, 0, none⟩, n, n)) hc6 rfl ?_
  have hna4 : s4 na ≠ none := by rw [ha4]; simp
  have hDls : DlsAt s6 t.1 t.2.1 (N.put.take j) := by
   refine ⟨by rw [List.length_take]; omega, fun u D hu => ?_⟩
   rw [← hps, List.getElem?_map, Option.map_eq_some_iff] at hu
   obtain ⟨⟨D', dt⟩, hu, rfl⟩ := hu
   obtain ⟨g', hg', hh⟩ := (hrow5.mod m6 (by intro z hz; simp; rintro rfl; exact hna4 (hf5 z hz))).at hu
   have hmem : (D', dt) ∈ ps := List.mem_of_getElem? hu
   have hr6 := (hl5 _ hmem).mod m6 (by intro z hz; simp; rintro rfl; exact hna4 (hg5 _ hmem z hz))
   refine ⟨_, dt, hg', by rw [add_mk, Nat.zero_add]; exact hh, View.of hr6, ?_⟩
   have hlen := hr6.len
   have hD'm : D' ∈ N.put := List.mem_of_mem_take (by rw [← hps]; exact List.mem_map_of_mem hmem)
   have := dtot_memG hD'm
   have := hD.tot
   simp only at hlen ⊢
   omega
  refine W.call_of (c_Load (id := (i : Int)) (size := (n : Int)) hDls (by show t.2.1 ≤ 140737488355328; have := hD.few; omega) (by have := dtot_takeG N.put j; have := hD.tot; omega)) ?_
  have hokn : okNew (i : Int) (n : Int) := ⟨by omega, by omega, by omega, by omega⟩
  have m06 : Fw.Mod [na, d] s s6 := (m04.fresh m5 (by simp)).trans (m6.mono (by simp))
  have hdr6 : DriveIs s6 nb nm ((N.d.crash [keep]).opens LOG).2 := ⟨m6.at (m5.at hdr4.blk (by simp)) (by simp; exact hnbn), (hdr4.map.mod m5 (by simp)).mod m6 (by simp; exact hnmn)⟩
  have hxn : x ≠ na := by rintro rfl; rw [hxs0] at ha; cases ha
  have hdia6 : DiaryIs s6 x nb LOG := m6.at (m5.at hdia (by simp)) (by simp; exact hxn)
  have h06 : ((arr.setIfInBounds (i * 3 + 1) (.pointer (some ⟨nb, 0, none⟩))).setIfInBounds (i * 3 + 2) (.pointer (some ⟨x, 0, none⟩)))[i * 3 + 0]? = some (.pointer none) := by
   rw [Array.getElem?_setIfInBounds_ne (by omega), Array.getElem?_setIfInBounds_ne (by omega)]; exact h0
  rintro y s7 ⟨m7, h7⟩
  have ha7 := m7.at ha6 (by simp)
  have hdr7 : DriveIs s7 nb nm ((N.d.crash [keep]).opens LOG).2 := ⟨m7.at hdr6.blk (by simp), hdr6.map.mod m7 (by simp)⟩
  have hdia7 : DiaryIs s7 x nb LOG := m7.at hdia6 (by simp)
  have m07 : Fw.Mod [na, d] s s7 := m06.fresh m7 (by simp)
  have hfin : ∀ q' : Mem, q'.d = nb → q'.dm = nm → q'.xp = some ⟨x, 0, none⟩ → NdIs s7 q' N' → (∀ z ∈ q'.F, s z = none) → na ∉ q'.F →
    StartQ na d arr i N' s (.tuple #[]) (s7.upd na (.cells (((arr.setIfInBounds (i * 3 + 1) (.pointer (some ⟨nb, 0, none⟩))).setIfInBounds (i * 3 + 2) (.pointer (some ⟨x, 0, none⟩))).setIfInBounds (i * 3 + 0) (.pointer (q'.bp.map fun b => ⟨b, 0, none⟩))) 74 (0, 0))) := by
   intro q' e1 e2 e3 hnd hfr hnn
   refine ⟨rfl, q', ?_, hnd.mod (Mod.upd (L := [na]) (by simp)) (by intro z hz; simp; rintro rfl; exact hnn hz), hfr, Mod.updLater m07 (.inl (by simp))⟩
   rw [PH.upd_same]; unfold arr3; rw [e1, e3]
  rcases h7 with ⟨_, B, hB, b, l, rfl, hBal, hbf⟩ | ⟨_, hno, rfl⟩ | ⟨hno, _⟩
  ·refine ⟨((some ⟨b, 0, none⟩, ()), (0, ()), ()), rfl, ?_⟩
   simp only [W.unSome_some, add_mk]
   refine st_blk ha7 h06 rfl ?_
   have hb0 : ∀ z ∈ bL b l noTri noTri noTri, s z = none := by
    intro z hz
    have h6 := hbf z hz
    by_cases hL : z ∈ [na, d]
    ·exfalso
     simp at hL
     rcases hL with rfl | rfl
     ·rw [ha6] at h6; cases h6
     ·have hne : z ≠ na := by rintro rfl; rw [ha6] at h6; cases h6
      have h5 : s5 z = none := by rw [← hs6, PH.upd_other _ _ hne] at h6; exact h6
      have h4' : s4 z = none := m5.none h5 (by simp)
      have h3' : s3 z = none := m4.none h4' (by
       simp
       constructor
       ·rintro rfl; have := hd.blk; rw [hnbs] at this; cases this
       ·rintro rfl; have := hd.blk; rw [hnms] at this; cases this)
      have h2' : s2 z = none := by rw [← hs3, PH.upd_other _ _ hne] at h3'; exact h3'
      have hb2 : DriveIs s2 z dm { N.d with down := true } := by assumption
      have := hb2.blk
      rw [h2'] at this; cases this
    ·exact m06.none h6 hL
   refine hfin ⟨some b, l, noTri, noTri, noTri, nb, nm, some ⟨x, 0, none⟩⟩ rfl rfl rfl ?_ ?_ ?_
   ·rw [hNN, hB]
    refine ⟨hdr7, fun e => (by cases e), fun B' e => ?_⟩
    cases e
    exact ⟨b, x, rfl, hBal, rfl, hdia7⟩
   ·intro z hz
    simp only [Mem.F, Fw.blk, List.mem_append, List.mem_cons, List.not_mem_nil, or_false] at hz
    rcases hz with hz | rfl | rfl | rfl
    ·exact hb0 z hz
    ·exact hxs0
    ·exact hnbs
    ·exact hnms
   ·intro hz
    have hna : s na ≠ none := by rw [ha]; simp
    simp only [Mem.F, Fw.blk, List.mem_append, List.mem_cons, List.not_mem_nil, or_false] at hz
    rcases hz with hz | rfl | rfl | rfl
    ·exact hna (hb0 _ hz)
    ·exact hna hxs0
    ·exact hna hnbs
    ·exact hna hnms
  ·refine ⟨((none, ()), (100, ()), ()), rfl, ?_⟩
   simp only [W.unSome_some, add_mk]
   refine st_blk ha7 h06 rfl ?_
   refine hfin ⟨none, noTri, noTri, noTri, noTri, nb, nm, some ⟨x, 0, none⟩⟩ rfl rfl rfl ?_ ?_ ?_
   ·rw [hNN, hno]
    exact ⟨hdr7, fun _ => rfl, fun B' e => (by cases e)⟩
   ·intro z hz
    simp only [Mem.F, List.mem_cons, List.not_mem_nil, or_false] at hz
    rcases hz with rfl | rfl
    ·exact hnbs
    ·exact hnms
   ·intro hz
    simp only [Mem.F, List.mem_cons, List.not_mem_nil, or_false] at hz
    rcases hz with rfl | rfl
    ·exact hnbn rfl
    ·exact hnmn rfl
  ·exact absurd hokn hno
end
section
attribute [-simp] Fw.W.ld_iff Fw.W.st_iff
theorem zero_three (v : Value) (n : Nat) : Builtin.zeroCells #[v, v, v] n = (List.replicate (n * 3) v).toArray := by
 unfold Builtin.zeroCells
 apply Array.ext'
 simp only [Array.toList_map, Array.toList_range, List.size_toArray, List.length_cons, List.length_nil, Nat.zero_add]
 apply List.ext_getElem?
 intro i
 rw [List.getElem?_map, List.getElem?_replicate]
 by_cases h : i < n * 3
 ·rw [List.getElem?_range h, if_pos h]
  have : i % 3 = 0 ∨ i % 3 = 1 ∨ i % 3 = 2 := by omega
  rcases this with e | e | e <;> simp [e]
 ·rw [List.getElem?_eq_none (by simpa using h), if_neg h]; (first | done | rfl)
theorem Grp.Fit.dsk {G : Grp} (hf : G.Fit) {i : Nat} {N : Nd} (hN : G.nodes[i]? = some N) : N.Disk :=
 ⟨(hf.disk i N hN).1, (hf.disk i N hN).2.1, (hf.disk i N hN).2.2.1, (hf.disk i N hN).2.2.2, (hf.nds i N hN).2.1, (hf.nds i N hN).1⟩
theorem arr3_set {ms : List Mem} {i : Nat} {q q' : Mem} (hq : ms[i]? = some q) : arr3 (ms.flatMap memE.f).toArray i q' = ((ms.set i q').flatMap memE.f).toArray := by
 have hi := (List.getElem?_eq_some_iff.1 hq).1
 unfold arr3
 rw [mem_set (q' := { q with d := q'.d }) hq rfl (by omega), mem_set (q := { q with d := q'.d }) (q' := { q with d := q'.d, xp := q'.xp }) (by rw [List.getElem?_set_self hi]) rfl (by omega), List.set_set,
  mem_set (q := { q with d := q'.d, xp := q'.xp }) (q' := { q with d := q'.d, xp := q'.xp, bp := q'.bp }) (by rw [List.getElem?_set_self hi]) rfl (by omega), List.set_set]
 congr 1
 have h2 : (ms.set i { q with d := q'.d, xp := q'.xp, bp := q'.bp }).flatMap memE.f = ((ms.set i { q with d := q'.d, xp := q'.xp, bp := q'.bp }).set i q').flatMap memE.f := by
  symm
  exact flat_set_same (q := { q with d := q'.d, xp := q'.xp, bp := q'.bp }) (by rw [List.getElem?_set_self hi]) rfl
 rw [h2, List.set_set]
section
variable {s s1 : PH} {g na p : Nat} {ms : List Mem} {t : Tri} {G : Grp}
theorem c_grestart (h : GrpIs s g na p ms t G) (hf : G.Fit) (k a b : Int) (x : ByteArray) :
  DCalls Tryz.prog 29 #[gptr g, actV k a b x] s (GrpQ g na p ms t (G.ndSet (G.pl a) fun N => if N.b.isSome = true then N else N.start (plc a G.nodes.length) G.nodes.length b) s) := by
 refine ok_grestart g k a b x _ s ?_
 unfold vc_grestart
 obtain ⟨N, hN⟩ := hf.at_ a
 rw [ndSet_some hN]
 have hr := plc_range a (n := G.nodes.length) (by have := hf.sz; omega) (by have := hf.sz; omega)
 have hlen := h.len
 simp only [RP_call]
 cases hB : N.b with
 | some B =>
  refine W.call_of (c_node_up h hf k a b x hN hB) ?_
  rintro _ s ⟨rfl, rfl⟩
  refine ⟨((some ⟨na, G.pl a * 3, none⟩, ()), ()), rfl, ?_⟩
  simp only [RP_ite, Option.isNone_some, W.br_false]
  simp only [Option.isSome_some, if_true]
  rw [GrpIs.same hN]; exact GrpQ.refl h
 | none =>
  refine W.call_of (c_node_down h hf k a b x hN hB) ?_
  rintro _ s ⟨rfl, rfl⟩
  refine ⟨((none, ()), ()), rfl, ?_⟩
  obtain ⟨q, hq⟩ := h.mem hN
  have hnd := h.nds _ q _ hq hN
  have hbp := hnd.down hB
  have hqF : q.F = [q.d, q.dm] := by unfold Mem.F; rw [hbp]
  have hc := h.cell
  simp only [RP_ite, Option.isNone_none, W.br_true, RP_unSome, W.unSome_some, add_mk, Nat.zero_add, RP_ld]
  refine ld_blk (c := .slice) (x := (some ⟨na, 0, none⟩, ms.length, ms.length)) hc rfl ?_
  simp only [RP_callQ]
  refine W.callQ_of ((plc a ms.length, ()), ()) (c_place a ms.length s) rfl ?_
  have ei : plc a ms.length = ((G.pl a : Nat) : Int) := by rw [hlen]; show _ = (((plc a G.nodes.length).toNat : Nat) : Int); omega
  have ei2 : plc a G.nodes.length = ((G.pl a : Nat) : Int) := by rw [← hlen]; exact ei
  rw [ei]
  have hi := (List.getElem?_eq_some_iff.1 hq).1
  refine W.call_of (c_gstart hc h.arr hi h.few (mem_get hq (by omega) (by show some _ = some _; rw [hbp]; (first | done | rfl))) (mem_get hq (by omega) rfl) (mem_get hq (by omega) rfl) hnd.drive hB (hf.dsk hN) b) ?_
  rintro y s1 ⟨rfl, q', ha1, hn1, hf1, m1⟩
  refine ⟨(), rfl, ?_⟩
  rw [arr3_set hq] at ha1
  obtain ⟨u1, u2⟩ := h.upd hq hN (q' := q') (m1.mono (by rw [hqF]; simp)) ha1 hn1 (fun y hy => .inr (hf1 y hy))
  simp only [Option.isSome_none, Bool.false_eq_true, if_false]
  rw [ei2]
  rw [hlen] at u1
  exact ⟨rfl, _, t, u1, u2⟩
theorem c_gLetters (h : GrpIs s g na p ms t G) : DCalls Tryz.prog 19 #[gptr g] s fun y s' => y = .int .i64 (G.bag.length : Int) ∧ s' = s := by
 refine ok_gLetters g _ s ?_
 unfold vc_gLetters
 have hc := h.cell
 simp only [RP_ite, Option.isNone_some, W.br_false, RP_unSome, W.unSome_some, add_mk, Nat.zero_add, RP_ld]
 refine ld_blk (c := .ptr) (x := some ⟨p, 0, none⟩) hc rfl ?_
 simp only [RP_call]
 refine W.call_of (c_pLen h.post) ?_
 rintro _ s ⟨rfl, rfl⟩
 exact ⟨((_, ()), ()), rfl, rfl, rfl⟩
structure Grp.Pre (G : Grp) (k a : Int) (x : ByteArray) : Prop where
 fit : G.Fit
 p12 : k = 1 ∨ k = 2 → ∀ M, G.bag[(plc a G.bag.length).toNat]? = some M → ∀ N B, G.nodes[M.to.toNat]? = some N → N.b = some B → RFit G.nodes.length (B.take M)
 p4 : k = 4 → ∀ N B, G.nodes[G.pl a]? = some N → N.b = some B → RFit G.nodes.length B.timeout
 p5 : k = 5 → ∀ N B, G.nodes[G.pl a]? = some N → N.b = some B → RFit G.nodes.length B.beat
 p6 : k = 6 → 1 ≤ x.size ∧ x.size ≤ 256 → ∀ N B, G.nodes[G.pl a]? = some N → N.b = some B → RFit G.nodes.length (B.propose 0 G.acts x).2
 p10 : k = 10 → ∀ N B, G.nodes[G.pl a]? = some N → N.b = some B → RFit G.nodes.length B.cutAll
theorem callV_plain {P : Program} {g : FuncId} {args : Array Value} {r : Bool × List Shape} {k : MDen r.2 → W.T} {s : PH} {fn : Func} (hfn : P.funcs[g]? = some fn) (hb : fn.body.isSome = true) (hn : (fn.name == "runtime.NumGoroutine") = false) {Q : Value → PH → Prop}
  (h : DCalls P g args s Q) (hk : ∀ v s', Q v s' → ∃ x, mkRes r x = v ∧ k x s') : W.callV P (.func (.func g) #[] #[]) args r k s :=
 callV_bound hfn hb hn (by simpa using h) hk
theorem tick_is (h : GrpIs s g na p ms t G) (ha : Num G.acts) : GrpIs (s.upd g (.cells #[.slice (some ⟨na, 0, none⟩) ms.length ms.length, .pointer (some ⟨p, 0, none⟩), .int .i64 (i64.wrap (G.acts + 1))] 61 (0, 0))) g na p ms t G.tick := by
 have hw : i64.wrap (G.acts + 1) = G.acts + 1 := by unfold Num at ha; exact wrap_in (by omega) (by omega)
 rw [hw]
 obtain ⟨s', hs'⟩ : ∃ s', s.upd g (.cells #[.slice (some ⟨na, 0, none⟩) ms.length ms.length, .pointer (some ⟨p, 0, none⟩), .int .i64 (G.acts + 1)] 61 (0, 0)) = s' := ⟨_, rfl⟩
 have m1 : Fw.Mod [g] s s' := by rw [← hs']; exact Mod.upd (by simp)
 have k1 : s' g = some (.cells #[.slice (some ⟨na, 0, none⟩) ms.length ms.length, .pointer (some ⟨p, 0, none⟩), .int .i64 (G.acts + 1)] 61 (0, 0)) := by rw [← hs']; exact PH.upd_same _ _ _
 have hne := h.ne
 rw [hs']
 refine ⟨k1, m1.at h.arr (by simp; exact hne.1.symm), h.post.mod m1 (by simp; exact hne.2.1.symm) (by intro x hx; simp; rintro rfl; exact hne.2.2.2.1 hx), h.len, h.few, fun i q N hq hN => (h.nds i q N hq hN).mod m1 fun x hx => ?_, h.apart⟩
 simp; exact (h.oth q (List.mem_of_getElem? hq) x hx).1
theorem c_gDo (h : GrpIs s g na p ms t G) (ha : Num G.acts) (k a b : Int) (x : ByteArray) (hp : G.tick.Pre k a x) :
  DCalls Tryz.prog 11 #[gptr g, actV k a b x] s (GrpQ g na p ms t (G.act k a b x) s) := by
 refine ok_gDo g k a b x _ s ?_
 unfold vc_gDo
 have hc := h.cell
 simp only [RP_ite, Option.isNone_some, W.br_false, RP_unSome, W.unSome_some, add_mk, Nat.zero_add, RP_ld]
 refine ld_blk (c := .int .i64) (x := G.acts) hc rfl ?_
 simp only [W.unSome_some, add_mk, Nat.zero_add, RP_st]
 refine st_blk (v := .int .i64 G.acts) hc rfl rfl ?_
 obtain ⟨s1, hs1⟩ : ∃ s1, s.upd g (.cells #[.slice (some ⟨na, 0, none⟩) ms.length ms.length, .pointer (some ⟨p, 0, none⟩), .int .i64 (i64.wrap (G.acts + 1))] 61 (0, 0)) = s1 := ⟨_, rfl⟩
 have h1 : GrpIs s1 g na p ms t G.tick := by rw [← hs1]; exact tick_is h ha
 have st1 : Step (GF g na p ms t) (GF g na p ms t) s s1 := ⟨by rw [← hs1]; exact Mod.upd (by simp [GF]), fun y hy => .inl hy⟩
 simp only [RP_nw]
 change W.nw _ _ (s.upd g (.cells #[.slice (some ⟨na, 0, none⟩) ms.length ms.length, .pointer (some ⟨p, 0, none⟩), .int .i64 (i64.wrap (G.acts + 1))] 61 (0, 0)))
 rw [hs1]
 refine W.nw_of fun r s2 hr m2 k2 => ?_
 refine set_blk4 (vs := [.func (.func 22) #[] #[], .func (.func 23) #[] #[], .func (.func 24) #[] #[], .func (.func 25) #[] #[], .func (.func 26) #[] #[], .func (.func 27) #[] #[], .func (.func 28) #[] #[], .func (.func 29) #[] #[], .func (.func 30) #[] #[], .func (.func 31) #[] #[]]) k2 rfl (by simp) _ (by intro v hv; simp at hv; rcases hv with rfl | rfl | rfl | rfl | rfl | rfl | rfl | rfl | rfl | rfl <;> rfl) fun s3 k3 m3 => ?_
 have m13 : Fw.Mod [] s1 s3 := m2.fresh m3 (by simp [hr])
 have h2 := h1.new m13
 have st3 : Step (GF g na p ms t) (GF g na p ms t) s s3 := st1.trans ⟨m13.mono (by simp), fun y hy => .inl hy⟩
 obtain ⟨R, hR⟩ : ∃ R : Value → PH → Prop, GrpQ g na p ms t (G.act k a b x) s = R := ⟨_, rfl⟩
 have fin : ∀ G', G' = G.act k a b x → ∀ v s', GrpQ g na p ms t G' s3 v s' → ∃ z : Unit, mkRes (true, []) z = v ∧ R (.tuple #[]) s' := by
  rintro G' rfl v s' hQ
  obtain ⟨e, _⟩ := id hQ
  subst e
  exact ⟨(), rfl, by rw [← hR]; exact hQ.trans st3⟩
 rw [hR]
 have k3' : s3 r = some (.cells #[.func (.func 22) #[] #[], .func (.func 23) #[] #[], .func (.func 24) #[] #[], .func (.func 25) #[] #[], .func (.func 26) #[] #[], .func (.func 27) #[] #[], .func (.func 28) #[] #[], .func (.func 29) #[] #[], .func (.func 30) #[] #[], .func (.func 31) #[] #[]] 63 (0, 0)) := k3
 simp only [RP_join]
 refine W.join_gen (fun z s' => z = ((k, a, b, x, ()), (Addr.mk r 0 none, ()), (decide (1 ≤ k ∧ k ≤ 10), ()), ()) ∧ s' = s3) ?_ ?_
 ·rintro _ s3 ⟨rfl, rfl⟩
  simp only [W.br_iff, decide_eq_true_eq, decide_eq_false_iff_not]
  refine ⟨fun hk => ?_, fun hk => ?_⟩
  ·have hw : i64.wrap (k - 1) = k - 1 := wrap_in (by omega) (by omega)
   simp only [RP_guard, W.guard_iff, RP_callV, hw, add_mk]
   refine ⟨by omega, ?_⟩
   have hcase : k = 1 ∨ k = 2 ∨ k = 3 ∨ k = 4 ∨ k = 5 ∨ k = 6 ∨ k = 7 ∨ k = 8 ∨ k = 9 ∨ k = 10 := by omega
   rcases hcase with rfl | rfl | rfl | rfl | rfl | rfl | rfl | rfl | rfl | rfl
   ·refine ld_blk (c := .raw) (x := .func (.func 22) #[] #[]) k3' rfl ?_
    exact callV_plain (fn := _) rfl rfl rfl (c_gtake h2 hp.fit 1 a b x (hp.p12 (.inl rfl))) (fin _ rfl)
   ·refine ld_blk (c := .raw) (x := .func (.func 23) #[] #[]) k3' rfl ?_
    exact callV_plain (fn := _) rfl rfl rfl (c_gcopy h2 hp.fit 2 a b x (hp.p12 (.inr rfl))) (fin _ rfl)
   ·refine ld_blk (c := .raw) (x := .func (.func 24) #[] #[]) k3' rfl ?_
    exact callV_plain (fn := _) rfl rfl rfl (c_glose h2 hp.fit 3 a b x) (fin _ rfl)
   ·refine ld_blk (c := .raw) (x := .func (.func 25) #[] #[]) k3' rfl ?_
    exact callV_plain (fn := _) rfl rfl rfl (c_gtimeout h2 hp.fit 4 a b x (hp.p4 rfl)) (fin _ rfl)
   ·refine ld_blk (c := .raw) (x := .func (.func 26) #[] #[]) k3' rfl ?_
    exact callV_plain (fn := _) rfl rfl rfl (c_gbeat h2 hp.fit 5 a b x (hp.p5 rfl)) (fin _ rfl)
   ·refine ld_blk (c := .raw) (x := .func (.func 27) #[] #[]) k3' rfl ?_
    exact callV_plain (fn := _) rfl rfl rfl (c_gpropose h2 hp.fit 6 a b x (hp.p6 rfl)) (fin _ rfl)
   ·refine ld_blk (c := .raw) (x := .func (.func 28) #[] #[]) k3' rfl ?_
    exact callV_plain (fn := _) rfl rfl rfl (c_gcrash h2 hp.fit 7 a b x) (fin _ rfl)
   ·refine ld_blk (c := .raw) (x := .func (.func 29) #[] #[]) k3' rfl ?_
    exact callV_plain (fn := _) rfl rfl rfl (c_grestart h2 hp.fit 8 a b x) (fin _ rfl)
   ·refine ld_blk (c := .raw) (x := .func (.func 30) #[] #[]) k3' rfl ?_
    exact callV_plain (fn := _) rfl rfl rfl (c_garm h2 hp.fit 9 a b x) (fin _ rfl)
   ·refine ld_blk (c := .raw) (x := .func (.func 31) #[] #[]) k3' rfl ?_
    exact callV_plain (fn := _) rfl rfl rfl (c_gcut h2 hp.fit 10 a b x (hp.p10 rfl)) (fin _ rfl)
  ·simp only [RP_ret, W.ret_iff]
   rw [← hR]
   have e : G.act k a b x = G.tick := by
    unfold Grp.act Grp.does
    rw [if_neg (by omega)]
    rw [if_neg (by omega)]
    rw [if_neg (by omega)]
    rw [if_neg (by omega)]
    rw [if_neg (by omega)]
    rw [if_neg (by omega)]
    rw [if_neg (by omega)]
    rw [if_neg (by omega)]
    rw [if_neg (by omega)]
    rw [if_neg (by omega)]
   rw [e]
   exact (GrpQ.refl h2).trans st3
 ·intro J hJ
  simp only [W.br_iff, decide_eq_true_eq, decide_eq_false_iff_not]
  refine ⟨fun h1 => hJ _ _ ⟨?_, rfl⟩, fun h1 => hJ _ _ ⟨?_, rfl⟩⟩
  ·have e : decide (k ≤ 10) = decide (1 ≤ k ∧ k ≤ 10) := by simp only [decide_eq_decide]; omega
   rw [e]
  ·have e : false = decide (1 ≤ k ∧ k ≤ 10) := by symm; rw [decide_eq_false_iff_not]; omega
   rw [e]
end
end
section
theorem Sim.ok9 {d e : DS} {C : Nat} (h : Sim d e C) (hC : C ≤ 1000000000) : d.Ok := by
 have hm : maxLen = 9223372036854775807 := rfl
 refine ⟨fun p hp => ?_, ?_, fun p hp => ?_⟩
 ·have := (h.file p hp).1; omega
 ·have := h.few; omega
 ·have := h.file p hp; omega
theorem LOG_small : LOG.size ≤ 281474976710656 := by decide
def Nd.kp (d : DS) (w : Bool) (x : ByteArray) : Int × DS := if w = true then d.rewrites LOG [x] else d.puts LOG [x]
theorem kp_step {d e : DS} {put : List ByteArray} {su C : Nat} (hk : Kept d LOG put su) (hs : put.length = su) (ha : 0 ≤ d.armed ∧ d.armed ≤ 9223372036854775807) (hS : Sim d e C) (w : Bool) (x : ByteArray) :
  (0 ≤ (Nd.kp d w x).2.armed ∧ (Nd.kp d w x).2.armed ≤ 9223372036854775807) ∧ (∃ e', Sim (Nd.kp d w x).2 e' (C + 65600)) ∧
  ((Nd.kp d w x).1 = 0 → Kept (Nd.kp d w x).2 LOG (if w = true then [x] else put ++ [x]) (if w = true then [x] else put ++ [x]).length) ∧
  ((Nd.kp d w x).1 ≠ 0 → Kept (Nd.kp d w x).2 LOG (if (Nd.kp d w x).1 = 50 ∧ w = false then put ++ [x] else put) su) := by
 have hall : bigB [x] = true → (allB [x]).2 = 30 := fun hb => by unfold allB; rw [if_pos hb]
 have hsz : bigB [x] = false → (recsB [x]).size ≤ 65544 := fun hb => by
  rw [recs_len_le]
  unfold bigB at hb
  simp at hb
  simp; omega
 unfold Nd.kp
 cases w with
 | true =>
  simp only [if_true]
  obtain ⟨k1, k2, k3⟩ := hk.rewrites ha [x]
  refine ⟨k1, ?_, k2, fun h => ?_⟩
  ·by_cases hb : bigB [x] = true
   ·have : (d.rewrites LOG [x]).2 = d := by unfold DS.rewrites; rw [hall hb, if_pos (by decide)]
    rw [this]; exact ⟨e, hS.mono (by omega)⟩
   ·have hb : bigB [x] = false := by simpa using hb
    have := hsz hb
    exact ⟨_, (hS.rewrites LOG [x] (C := C + 65600) (by omega) LOG_small).2⟩
  ·rw [if_neg (by rintro ⟨_, h⟩; cases h)]; exact k3 h
 | false =>
  simp only [Bool.false_eq_true, if_false]
  by_cases hb : bigB [x] = true
  ·have : d.puts LOG [x] = (30, d) := by unfold DS.puts; rw [hall hb, if_pos (.inl (by decide))]
   rw [this]
   refine ⟨ha, ⟨e, hS.mono (by omega)⟩, fun h => absurd h (by show ¬ (30 : Int) = 0; omega), fun _ => ?_⟩
   rw [if_neg (by rintro ⟨h, _⟩; exact absurd h (by show ¬ (30 : Int) = 50; omega))]; exact hk
  ·have hb : bigB [x] = false := by simpa using hb
   have := hsz hb
   rcases hk.puts ha [x] hb (by simp) with ⟨h0, _, hk1, a1, a2⟩ | ⟨h0, _, a1, a2, hk1, _⟩
   ·exact ⟨⟨a1, a2⟩, ⟨_, (hS.puts LOG [x] (C := C + 65600) (by omega) LOG_small).2⟩, fun _ => hk1, fun h => absurd h0 h⟩
   ·refine ⟨⟨a1, a2⟩, ⟨_, (hS.puts LOG [x] (C := C + 65600) (by omega) LOG_small).2⟩, fun h => absurd (h0.symm.trans h) (by decide), fun _ => ?_⟩
    rw [if_pos ⟨h0, trivial⟩]; exact hk1 hs
structure NdI (n i A su : Nat) (N : Nd) : Prop where
 kept : Kept N.d LOG (N.put.map encDB) su
 ld : ∀ m, su ≤ m → m ≤ N.put.length → ∃ X : BS, Saved (N.put.take m) X ∧ X.id = i ∧ X.size = n ∧ X.Inv (10 * A)
 up : ∀ B, N.b = some B → su = N.put.length ∧ Clean B ∧ Saved N.put B ∧ B.id = i ∧ B.size = n ∧ B.Inv (10 * A) ∧ B.Fr
 arm : 0 ≤ N.d.armed ∧ N.d.armed ≤ 9223372036854775807
 sim : ∃ e, Sim N.d e (65600 * A)
 put : ∀ D ∈ N.put, D.I ∧ (encD D).length ≤ 1099511627776
 tot : dtot N.put ≤ 1000 * A
 few : N.put.length ≤ A
def Cand (n i su : Nat) (N : Nd) (B : BS) : Prop := N.b = some B ∨ (N.b = none ∧ ∃ m, su ≤ m ∧ m ≤ N.put.length ∧ BS.loaded i n (N.put.take m) = some B)
theorem NdI.le {n i A su : Nat} {N : Nd} (h : NdI n i A su N) : su ≤ N.put.length := by have := h.kept.le; rwa [List.length_map] at this
theorem NdI.cand {n i A su : Nat} {N : Nd} (h : NdI n i A su N) : ∃ B, Cand n i su N B := by
 cases hb : N.b with
 | some B => exact ⟨B, .inl hb⟩
 | none =>
  obtain ⟨X, h1, h2, h3, h4⟩ := h.ld N.put.length h.le (Nat.le_refl _)
  exact ⟨X.rst, .inr ⟨hb, _, h.le, Nat.le_refl _, h1.loaded h2 h3⟩⟩
theorem NdI.mono {n i A A' su : Nat} {N : Nd} (h : NdI n i A su N) (hA : A ≤ A') : NdI n i A' su N := by
 obtain ⟨e, he⟩ := h.sim
 refine ⟨h.kept, fun m h1 h2 => ?_, fun B hb => ?_, h.arm, ⟨e, he.mono (by omega)⟩, h.put, by have := h.tot; omega, by have := h.few; omega⟩
 ·obtain ⟨X, x1, x2, x3, x4⟩ := h.ld m h1 h2
  exact ⟨X, x1, x2, x3, x4.mono (by omega)⟩
 ·obtain ⟨u1, u2, u3, u4, u5, u6, u7⟩ := h.up B hb
  exact ⟨u1, u2, u3, u4, u5, u6.mono (by omega), u7⟩
theorem dtot_app (a b : List Dl) : dtot (a ++ b) = dtot a + dtot b := by unfold dtot; rw [List.map_append, List.sum_append]
structure Made (n i A : Nat) (B B1 : BS) : Prop where
 inv : B1.Inv (10 * (A + 1 : Nat))
 fr : B1.Fr
 pr : PR B B1
 fit : B1.Fit
 term : 0 ≤ B1.term ∧ B1.term ≤ 2 * FAR
 vote : -1 ≤ B1.vote ∧ B1.vote < n
 base : 0 ≤ B1.base ∧ B1.base ≤ 2 * FAR
 bt : 0 ≤ B1.baseTerm ∧ B1.baseTerm ≤ 2 * FAR
 len : B1.log.length ≤ 1000
theorem deltaOf_len (B : BS) : B.deltaOf.list.length ≤ B.log.length := by
 unfold BS.deltaOf
 split
 ·exact Nat.le_refl _
 ·show (List.drop _ _).length ≤ _
  rw [List.length_drop]; omega
theorem keeps_kp (N : Nd) (D : Dl) : N.keeps D = Nd.kp N.d D.whole (encDB D) := rfl
theorem saved_step {n i A su : Nat} {N : Nd} {B B1 : BS} (hn : NdI n i A su N) (hb : N.b = some B) (hm : Made n i A B B1) :
  ∃ su', NdI n i (A + 1) su' (N.saved B1) ∧ ((N.okd B1 = true ∧ ∀ B', Cand n i su' (N.saved B1) B' → B' = B1 ∨ B' = B1.cleaned) ∨ (N.okd B1 = false ∧ ∀ B', Cand n i su' (N.saved B1) B' → B' = B.rst ∨ B' = B1.rst)) := by
 obtain ⟨u1, u2, u3, u4, u5, u6, u7⟩ := hn.up B hb
 have hbl : B.base ≤ B.lst := Int.le_trans u6.run.ok.com u6.run.lc
 have h1id : B1.id = i := hm.pr.id.trans u4
 have h1sz : B1.size = n := hm.pr.sz.trans u5
 obtain ⟨e, he⟩ := hn.sim
 have htk : N.put.take N.put.length = N.put := List.take_length
 unfold Nd.saved Nd.okd
 by_cases ht : B1.touched = true
 ·rw [if_pos ht, ht]
  have hS := u3.step hm.pr hbl hm.term (by rw [h1sz]; exact hm.vote) hm.base hm.bt
  rw [keeps_kp]
  obtain ⟨k1, ⟨e', k2⟩, k3, k4⟩ := kp_step hn.kept (by rw [List.length_map]; exact u1.symm) hn.arm he B1.deltaOf.whole (encDB B1.deltaOf)
  obtain ⟨K, hK⟩ : ∃ K, Nd.kp N.d B1.deltaOf.whole (encDB B1.deltaOf) = K := ⟨_, rfl⟩
  rw [hK] at k1 k2 k3 k4 ⊢
  obtain ⟨D, hD⟩ : ∃ D, B1.deltaOf = D := ⟨_, rfl⟩
  have hdl := deltaOf_len B1
  have hdf := hm.fit.delta
  rw [hD] at hS k3 k4 hdl hdf ⊢
  have hlen := hm.len
  have htot := hn.tot
  have hfew := hn.few
  have hd1 : dtot [D] = D.list.length := by unfold dtot; simp
  have hdo : dtot (N.put ++ [D]) = dtot N.put + dtot [D] := dtot_app _ _
  have hput : ∀ X ∈ N.put ++ [D], X.I ∧ (encD X).length ≤ 1099511627776 := by
   intro X hX
   rcases List.mem_append.1 hX with hX | hX
   ·exact hn.put X hX
   ·rw [List.mem_singleton] at hX; subst hX; exact hdf
  have k2' : ∃ e', Sim K.2 e' (65600 * (A + 1)) := ⟨e', k2.mono (by omega)⟩
  by_cases h0 : K.1 = 0
  ·rw [if_pos h0]
   have hkk := k3 h0
   refine ⟨(if D.whole = true then [D] else N.put ++ [D]).length, ⟨?_, fun m h1 h2 => ?_, fun X hX => ?_, k1, k2', ?_, ?_, ?_⟩, .inl ⟨by rw [h0]; (first | done | rfl), fun B' hc => ?_⟩⟩
   ·have : (if D.whole = true then [D] else N.put ++ [D]).map encDB = if D.whole = true then [encDB D] else N.put.map encDB ++ [encDB D] := by split <;> simp
    have hl : (if D.whole = true then [D] else N.put ++ [D]).length = (if D.whole = true then [encDB D] else N.put.map encDB ++ [encDB D]).length := by rw [← this, List.length_map]
    show Kept K.2 LOG ((if D.whole = true then [D] else N.put ++ [D]).map encDB) _
    rw [this, hl]; exact hkk
   ·have h2 : m ≤ (if D.whole = true then [D] else N.put ++ [D]).length := h2
    refine ⟨B1, ?_, h1id, h1sz, hm.inv⟩
    show Saved (List.take m (if D.whole = true then [D] else N.put ++ [D])) B1
    rw [List.take_of_length_le h1]; exact hS
   ·cases hX
    exact ⟨rfl, cleaned_clean _, hS.cleaned, h1id, h1sz, Inv.cleaned hm.inv, BS.Fr.cleaned (Int.le_trans hm.inv.run.ok.com hm.inv.run.lc)⟩
   ·show ∀ X ∈ (if D.whole = true then [D] else N.put ++ [D]), _
    split
    ·intro X hX; rw [List.mem_singleton] at hX; subst hX; exact hdf
    ·exact hput
   ·show dtot (if D.whole = true then [D] else N.put ++ [D]) ≤ _
    split
    ·omega
    ·omega
   ·show (if D.whole = true then [D] else N.put ++ [D]).length ≤ _
    split
    ·simp
    ·rw [List.length_append]; simp; omega
   ·rcases hc with hc | ⟨hc, _⟩
    ·cases hc; exact .inr rfl
    ·cases hc
  ·rw [if_neg h0]
   have hkk := k4 h0
   have hSr := u3
   by_cases h50 : K.1 = 50 ∧ D.whole = false
   ·rw [if_pos h50] at hkk ⊢
    have hSw : Saved (N.put ++ [D]) B1 := by rw [if_neg (by rw [h50.2]; decide)] at hS; exact hS
    refine ⟨su, ⟨?_, fun m h1 h2 => ?_, fun X hX => (by cases hX), k1, k2', hput, ?_, ?_⟩, .inr ⟨by simpa using h0, fun B' hc => ?_⟩⟩
    ·show Kept K.2 LOG ((N.put ++ [D]).map encDB) su
     rw [List.map_append]; exact hkk
    ·have h2 : m ≤ (N.put ++ [D]).length := h2
     rw [List.length_append] at h2
     have h2 : m ≤ N.put.length + 1 := h2
     show ∃ X, Saved (List.take m (N.put ++ [D])) X ∧ _
     rcases Nat.lt_or_ge N.put.length m with hlt | hge
     ·refine ⟨B1, ?_, h1id, h1sz, hm.inv⟩
      rw [List.take_of_length_le (by rw [List.length_append]; exact hlt)]; exact hSw
     ·refine ⟨B, ?_, u4, u5, u6.mono (by omega)⟩
      rw [show m = N.put.length by omega, List.take_left]; exact u3
    ·show dtot (N.put ++ [D]) ≤ _
     omega
    ·show (N.put ++ [D]).length ≤ _
     rw [List.length_append]; simp; omega
    ·rcases hc with hc | ⟨_, m, h1, h2, hc⟩
     ·cases hc
     ·have h2 : m ≤ (N.put ++ [D]).length := h2
      rw [List.length_append] at h2
      have h2 : m ≤ N.put.length + 1 := h2
      have hc : BS.loaded i n (List.take m (N.put ++ [D])) = some B' := hc
      rcases Nat.lt_or_ge N.put.length m with hlt | hge
      ·rw [List.take_of_length_le (by rw [List.length_append]; exact hlt), hSw.loaded h1id h1sz] at hc
       cases hc; exact .inr rfl
      ·rw [show m = N.put.length by omega, List.take_left, u3.loaded u4 u5] at hc
       cases hc; exact .inl rfl
   ·rw [if_neg h50] at hkk ⊢
    refine ⟨su, ⟨hkk, fun m h1 h2 => ?_, fun X hX => (by cases hX), k1, k2', hn.put, by show dtot N.put ≤ _; omega, by show N.put.length ≤ _; omega⟩, .inr ⟨by simpa using h0, fun B' hc => ?_⟩⟩
    ·have h2 : m ≤ N.put.length := h2
     refine ⟨B, ?_, u4, u5, u6.mono (by omega)⟩
     show Saved (List.take m N.put) B
     rw [show m = N.put.length by omega, htk]; exact u3
    ·rcases hc with hc | ⟨_, m, h1, h2, hc⟩
     ·cases hc
     ·have h2 : m ≤ N.put.length := h2
      have hc : BS.loaded i n (List.take m N.put) = some B' := hc
      rw [show m = N.put.length by omega, htk, u3.loaded u4 u5] at hc
      cases hc; exact .inl rfl
 ·have ht : B1.touched = false := by simpa using ht
  rw [if_neg (by rw [ht]; decide), ht]
  have hS := u3.kept hm.pr ht
  refine ⟨su, ⟨hn.kept, fun m h1 h2 => ?_, fun X hX => ?_, hn.arm, ⟨e, he.mono (by omega)⟩, hn.put, by have := hn.tot; show dtot N.put ≤ _; omega, by have := hn.few; show N.put.length ≤ _; omega⟩, .inl ⟨rfl, fun B' hc => ?_⟩⟩
  ·have h2 : m ≤ N.put.length := h2
   refine ⟨B1, ?_, h1id, h1sz, hm.inv⟩
   show Saved (List.take m N.put) B1
   rw [show m = N.put.length by omega, htk]; exact hS
  ·cases hX
   exact ⟨u1, hm.pr.clean u2 ht, hS, h1id, h1sz, hm.inv, hm.fr⟩
  ·rcases hc with hc | ⟨hc, _⟩
   ·cases hc; exact .inl rfl
   ·cases hc
structure Sys (n A : Nat) (σ : Nat → BS) (bag : List Msg) (gh : Gh) (Fs : Nat → List Ent) : Prop where
 gok : GhOk gh n A
 nd : ∀ i, i < n → NodeOk gh n i (σ i) (Fs i)
 lt : ∀ M ∈ bag, LetOk gh n M
structure GI (n A : Nat) (G : Grp) (H : Gh → Prop) (su : Nat → Nat) : Prop where
 sz : G.nodes.length = n
 n1 : 1 ≤ n ∧ n ≤ 5
 le : A ≤ 500
 acts : G.acts = A
 bag : G.bag.length ≤ 20 * A
 nds : ∀ i N, G.nodes[i]? = some N → NdI n i A (su i) N
 all : ∀ σ : Nat → BS, (∀ i N, G.nodes[i]? = some N → Cand n i (su i) N (σ i)) → ∃ gh Fs, Sys n A σ G.bag gh Fs ∧ H gh
def Mono (H : Gh → Prop) : Prop := ∀ i g h, Stp i g h → H g → H h
section
variable {n A : Nat} {G : Grp} {H : Gh → Prop} {su : Nat → Nat}
theorem GI.choose (h : GI n A G H su) : ∃ σ : Nat → BS, ∀ i N, G.nodes[i]? = some N → Cand n i (su i) N (σ i) := by
 have : ∀ i, ∃ B : BS, ∀ N, G.nodes[i]? = some N → Cand n i (su i) N B := by
  intro i
  cases hN : G.nodes[i]? with
  | none => exact ⟨newBS 0 1, fun N h => by cases h⟩
  | some N =>
   obtain ⟨B, hB⟩ := (h.nds i N hN).cand
   exact ⟨B, fun N' h => by cases h; exact hB⟩
 exact ⟨fun i => Classical.choose (this i), fun i N hN => Classical.choose_spec (this i) N hN⟩
theorem GI.has (h : GI n A G H su) {i : Nat} {N : Nd} (hN : G.nodes[i]? = some N) {B : BS} (hB : Cand n i (su i) N B) : ∃ σ gh Fs, σ i = B ∧ Sys n A σ G.bag gh Fs ∧ H gh := by
 obtain ⟨σ, hσ⟩ := h.choose
 obtain ⟨gh, Fs, h1, h2⟩ := h.all (fun j => if j = i then B else σ j) fun j M hM => by
  by_cases e : j = i
  ·subst e; rw [if_pos rfl]; rw [hN] at hM; cases hM; exact hB
  ·rw [if_neg e]; exact hσ j M hM
 exact ⟨_, gh, Fs, if_pos rfl, h1, h2⟩
theorem Sys.mono {σ : Nat → BS} {bag : List Msg} {gh : Gh} {Fs : Nat → List Ent} {A' : Nat} (h : Sys n A σ bag gh Fs) (hA : A ≤ A') : Sys n A' σ bag gh Fs := ⟨h.gok.mono hA, h.nd, h.lt⟩
theorem GI.tick (h : GI n A G H su) (hA : A + 1 ≤ 500) : GI n (A + 1) G.tick H su := by
 refine ⟨h.sz, h.n1, hA, by show G.acts + 1 = _; rw [h.acts]; push_cast; (first | done | rfl), by have := h.bag; show G.bag.length ≤ _; omega, fun i N hN => (h.nds i N hN).mono (by omega), fun σ hσ => ?_⟩
 obtain ⟨gh, Fs, h1, h2⟩ := h.all σ hσ
 exact ⟨gh, Fs, h1.mono (by omega), h2⟩
theorem GI.sub (h : GI n A G H su) {bag : List Msg} (hb : ∀ M ∈ bag, M ∈ G.bag) (hl : bag.length ≤ G.bag.length) : GI n A { G with bag := bag } H su := by
 refine ⟨h.sz, h.n1, h.le, h.acts, by have := h.bag; show bag.length ≤ _; omega, h.nds, fun σ hσ => ?_⟩
 obtain ⟨gh, Fs, h1, h2⟩ := h.all σ hσ
 exact ⟨gh, Fs, ⟨h1.gok, h1.nd, fun M hM => h1.lt M (hb M hM)⟩, h2⟩
theorem GI.step (h : GI n A G H su) (hH : Mono H) (hA : A + 1 ≤ 500) {i : Nat} {N N' : Nd} {su' : Nat} {out : List Msg} (hN : G.nodes[i]? = some N) (hN' : NdI n i (A + 1) su' N') (hout : out.length ≤ 20)
  (hst : ∀ B', Cand n i su' N' B' → ∃ B, Cand n i (su i) N B ∧ ∀ gh F, GhOk gh n A → NodeOk gh n i B F → (∀ M ∈ G.bag, LetOk gh n M) → ∃ gh' F', Stp i gh gh' ∧ GhOk gh' n (A + 1) ∧ NodeOk gh' n i B' F' ∧ ∀ M ∈ out, LetOk gh' n M) :
  GI n (A + 1) ⟨G.nodes.set i N', G.bag ++ out, G.acts + 1⟩ H (fun j => if j = i then su' else su j) := by
 have hi := (List.getElem?_eq_some_iff.1 hN).1
 have hself : (G.nodes.set i N')[i]? = Option.some N' := List.getElem?_set_self hi
 refine ⟨by show (G.nodes.set i N').length = n; rw [List.length_set]; exact h.sz, h.n1, hA, by show G.acts + 1 = _; rw [h.acts]; push_cast; (first | done | rfl), by have := h.bag; show (G.bag ++ out).length ≤ _; rw [List.length_append]; omega, fun j M hM => ?_, fun σ hσ => ?_⟩
 ·have hM : (G.nodes.set i N')[j]? = Option.some M := hM
  by_cases e : j = i
  ·subst e
   rw [hself] at hM; cases hM
   rw [if_pos rfl]; exact hN'
  ·rw [List.getElem?_set_ne (fun h => e h.symm)] at hM
   rw [if_neg e]; exact (h.nds j M hM).mono (by omega)
 ·have hc := hσ i N' hself
  try dsimp only at hc
  rw [if_pos rfl] at hc
  obtain ⟨B, hB, hgo⟩ := hst (σ i) hc
  obtain ⟨gh, Fs, hS, hh⟩ := h.all (fun j => if j = i then B else σ j) fun j M hM => by
   by_cases e : j = i
   ·subst e; rw [if_pos rfl]; rw [hN] at hM; cases hM; exact hB
   ·rw [if_neg e]
    have := hσ j M (by show (G.nodes.set i N')[j]? = _; rw [List.getElem?_set_ne (fun h => e h.symm)]; exact hM)
    rwa [if_neg e] at this
  have hin : i < n := by have := h.sz; omega
  have hNi := hS.nd i hin
  rw [if_pos rfl] at hNi
  obtain ⟨gh', F', s, g1, g2, g3⟩ := hgo gh (Fs i) hS.gok hNi hS.lt
  refine ⟨gh', fun j => if j = i then F' else Fs j, ⟨g1, fun j hj => ?_, fun M hM => ?_⟩, hH i gh gh' s hh⟩
  ·try dsimp only
   by_cases e : j = i
   ·subst e; rw [if_pos rfl]; exact g2
   ·rw [if_neg e]
    have := hS.nd j hj
    try dsimp only at this
    rw [if_neg e] at this
    exact this.stp hS.gok s e
  ·rcases List.mem_append.1 hM with hM | hM
   ·exact (hS.lt M hM).stp s
   ·exact g3 M hM
end
end
section
theorem feeds_ln {B : BS} {n : Nat} (h : B.size = n) : B.feeds.length ≤ n := by
 have h1 := BS.others_len B (fun to => B.feedM to ((B.next[to]?).getD 0)) B.size.toNat
 have h2 : B.size.toNat = n := by omega
 rw [h2] at h1
 show (B.others _ B.size.toNat).length ≤ n
 rw [h2]; exact h1
theorem asks_ln {B : BS} {n : Nat} (h : B.size = n) : B.asks.length ≤ n := by
 have h1 := BS.others_len B (fun to => B.askM to) B.size.toNat
 have h2 : B.size.toNat = n := by omega
 rw [h2] at h1
 show (B.others _ B.size.toNat).length ≤ n
 rw [h2]; exact h1
theorem ite_all {p : Prop} [Decidable p] {α : Type} {P : α → Prop} {a b : α} (ha : p → P a) (hb : ¬ p → P b) : P (if p then a else b) := by
 by_cases h : p
 ·rw [if_pos h]; exact ha h
 ·rw [if_neg h]; exact hb h
theorem settled_len2 {B : BS} {n : Nat} (h : B.size = n) : B.settled.2.length ≤ n := by
 have := settled_len B
 omega
theorem counted_ln {B : BS} {n : Nat} (h : B.size = n) : B.counted.2.length ≤ 2 * n := by
 unfold BS.counted
 split
 ·exact Nat.zero_le _
 ·show (_ ++ _ : List Msg).length ≤ _
  rw [List.length_append]
  have h1 := feeds_ln (B := B.lead2.set (B.lst + 1) [{ noEnt with term := B.term }]) (n := n) h
  have h2 := settled_len2 (B := B.lead2.set (B.lst + 1) [{ noEnt with term := B.term }]) (n := n) h
  omega
theorem take_ln {B : BS} {n : Nat} (h : B.size = n) (M : Msg) : (B.take M).2.length ≤ 2 * n + 1 := by
 unfold BS.take
 split
 ·exact Nat.zero_le _
 ·have hs : (B.seen M).size = n := by
   unfold BS.seen; split
   ·exact h
   ·exact h
  split
  ·unfold BS.late
   split
   ·simp
   ·split <;> simp
  ·unfold BS.does
   split
   ·simp [BS.asked]
   ·split
    ·unfold BS.voted
     split
     ·exact Nat.zero_le _
     ·exact Nat.le_trans (counted_ln (B := { B.seen M with votes := (B.seen M).votes.set M.from_.toNat true }) (n := n) hs) (by omega)
    ·split
     ·unfold BS.fed
      split
      ·exact Nat.zero_le _
      ·dsimp only
       split
       ·simp
       ·split <;> simp
     ·split
      ·unfold BS.heard
       split
       ·exact Nat.zero_le _
       ·dsimp only
        have h2 := settled_len2 (B := (B.seen M).fedTo M.from_.toNat M.index) (n := n) hs
        split
        ·simp
        ·split
         ·rw [List.length_append]; simp; omega
         ·omega
      ·unfold BS.given
       split
       ·exact Nat.zero_le _
       ·split <;> simp
section
variable {n A : Nat} {G : Grp} {H : Gh → Prop} {su : Nat → Nat}
theorem Room.of {g : Gh} (hg : GhOk g n A) : Room g (A + 1) := ⟨by omega, fun T hT => by have := (hg.ll T hT).2.1; omega⟩
theorem GI.small (h : GI n A G H su) (hA : A + 1 ≤ 500) : Sml n (A + 1) (10 * A + 10) ∧ Sml n (A + 1) (10 * A) ∧ Sml n (A + 1) (10 * (A + 1 : Nat)) ∧ Sml n A (10 * A) := by
 have := h.n1
 refine ⟨⟨by omega, by omega, by omega⟩, ⟨by omega, by omega, by omega⟩, ⟨by omega, by omega, by omega⟩, ⟨by omega, by omega, by omega⟩⟩
theorem GI.op1 (h : GI n A G H su) (hH : Mono H) (hA : A + 1 ≤ 500) {i : Nat} {N : Nd} {B : BS} (hN : G.nodes[i]? = some N) (hb : N.b = some B) (R : BS × List Msg) (hI : R.1.Inv (10 * (A + 1 : Nat))) (hF : R.1.Fr) (hP : PR B R.1) (hlen : R.2.length ≤ 20)
  (hop : ∀ gh F, GhOk gh n A → NodeOk gh n i B F → (∀ M ∈ G.bag, LetOk gh n M) → OpOk gh n (A + 1) i R) : RFit n R ∧ ∃ su', GI n (A + 1) (G.tick.done i N R) H su' := by
 have hFAR : FAR = 1099511627776 := rfl
 obtain ⟨s1, s2, s3, s4⟩ := h.small hA
 have hi : i < n := by have := (List.getElem?_eq_some_iff.1 hN).1; have := h.sz; omega
 have hnd := h.nds i N hN
 obtain ⟨u1, u2, u3, u4, u5, u6, u7⟩ := hnd.up B hb
 obtain ⟨σ, gh, Fs, e1, hS, hh⟩ := h.has hN (.inl hb)
 have hNi := hS.nd i hi
 rw [e1] at hNi
 obtain ⟨gh', F', s, g1, g2, g3⟩ := hop gh (Fs i) hS.gok hNi hS.lt
 obtain ⟨b1, b2, b3, b4, b5, b6, b7⟩ := g2.bounds hI s3
 have hl := g2.lg.len g1
 have hct := g1.ctb i
 rw [g2.ct] at hct
 have htm := g2.lg.tms b1 R.1.base.toNat
 rw [← g2.rep.bt] at htm
 have hlg := lst_def R.1
 have hfit := g2.fit g1 hI s3 hF
 have hmade : Made n i A B R.1 := ⟨hI, hF, hP, hfit, by omega, ⟨hI.vote, g2.vlt⟩, by omega, by omega, by omega⟩
 refine ⟨⟨hfit, fun M hM => ⟨(g3 M hM).fit, (g3 M hM).to⟩, hlen⟩, ?_⟩
 have hrst : ∀ (gh : Gh) (X : BS) F z, NodeOk gh n i X F → X.Inv z → NodeOk gh n i X.rst F := fun gh X F z q1 q2 => q1.rst q2.run.ok.com (by
  have := q2.run.lc
  have := q1.rep.lst
  omega)
 obtain ⟨su', hn', hc⟩ := saved_step hnd hb hmade
 rcases hc with ⟨hok, hc⟩ | ⟨hok, hc⟩
 ·have hG := h.step hH hA hN hn' hlen (out := R.2) fun B' hB' => ⟨B, .inl hb, fun gh F q1 q2 q3 => by
   obtain ⟨gh', F', s, g1, g2, g3⟩ := hop gh F q1 q2 q3
   refine ⟨gh', F', s, g1, ?_, g3⟩
   rcases hc B' hB' with rfl | rfl
   ·exact g2
   ·exact g2.cleaned⟩
  refine ⟨fun j => if j = i then su' else su j, ?_⟩
  have e : G.tick.done i N R = ⟨G.nodes.set i (N.saved R.1), G.bag ++ R.2, G.acts + 1⟩ := by
   unfold Grp.done
   rw [if_pos hok]; (first | done | rfl)
  rw [e]; exact hG
 ·have hG := h.step hH hA hN hn' (out := []) (Nat.zero_le _) fun B' hB' => ⟨B, .inl hb, fun gh F q1 q2 q3 => by
   rcases hc B' hB' with rfl | rfl
   ·exact ⟨gh, F, Stp.refl i gh, q1.mono (by omega), hrst gh B F _ q2 u6, fun M hM => absurd hM (by simp)⟩
   ·obtain ⟨gh', F', s, g1, g2, g3⟩ := hop gh F q1 q2 q3
    exact ⟨gh', F', s, g1, hrst gh' R.1 F' _ g2 hI, fun M hM => absurd hM (by simp)⟩⟩
  refine ⟨fun j => if j = i then su' else su j, ?_⟩
  have e : G.tick.done i N R = ⟨G.nodes.set i (N.saved R.1), G.bag ++ [], G.acts + 1⟩ := by
   unfold Grp.done
   rw [if_neg (by rw [hok]; decide), List.append_nil]; (first | done | rfl)
  rw [e]; exact hG
theorem GI.ops (h : GI n A G H su) (hH : Mono H) (hA : A + 1 ≤ 500) {i : Nat} {N : Nd} {B : BS} (hN : G.nodes[i]? = some N) (hb : N.b = some B) :
  (RFit n B.timeout ∧ ∃ su', GI n (A + 1) (G.tick.done i N B.timeout) H su') ∧ (RFit n B.beat ∧ ∃ su', GI n (A + 1) (G.tick.done i N B.beat) H su') ∧ (RFit n B.cutAll ∧ ∃ su', GI n (A + 1) (G.tick.done i N B.cutAll) H su') ∧
  (∀ x : ByteArray, x.size ≤ 256 → RFit n (B.propose 0 (A + 1 : Nat) x).2 ∧ ∃ su', GI n (A + 1) (G.tick.done i N (B.propose 0 (A + 1 : Nat) x).2) H su') ∧
  (∀ M ∈ G.bag, RFit n (B.take M) ∧ ∃ su', GI n (A + 1) (G.tick.done i N (B.take M)) H su') := by
 obtain ⟨s1, s2, s3, s4⟩ := h.small hA
 have hn1 := h.n1
 obtain ⟨u1, u2, u3, u4, u5, u6, u7⟩ := (h.nds i N hN).up B hb
 have hz : (0 : Int) ≤ 10 * A := by omega
 have hbl : B.base ≤ B.lst := Int.le_trans u6.run.ok.com u6.run.lc
 have hP := PR.refl u2 hbl
 have hz1 : Sml n (A + 1) (10 * A + 1) := ⟨s1.n, s1.A, by omega⟩
 have hz2 : Sml n (A + 1) (10 * A + 2) := ⟨s1.n, s1.A, by omega⟩
 refine ⟨h.op1 hH hA hN hb _ ((Inv.timeout u6 (by omega)).mono (by omega)) (u7.did u6 ⟨1, 0, 0, ⟨#[]⟩, ⟨0, 0, 0, 0, 0, 0, 0, false, [], ⟨#[]⟩⟩⟩ hz) (hP.timeout u6) ?_ fun gh F q1 q2 q3 => (q2.timeout (q1.mono (by omega)) (Room.of q1) ?_ u6 hz2 hz),
  h.op1 hH hA hN hb _ (u6.mono (by omega)) u7 hP ?_ fun gh F q1 q2 q3 => (q2.beat (q1.mono (by omega)) u6 s2),
  h.op1 hH hA hN hb _ ?_ ?_ hP.cutAll (Nat.zero_le _) fun gh F q1 q2 q3 => (q2.cutAll (q1.mono (by omega)) u6 s2),
  fun x hx => h.op1 hH hA hN hb _ ((Inv.propose u6 (by omega) _ _ _).mono (by omega)) (u7.did u6 ⟨3, 0, _, x, ⟨0, 0, 0, 0, 0, 0, 0, false, [], ⟨#[]⟩⟩⟩ hz) (hP.propose u6 _ _ _) ?_ fun gh F q1 q2 q3 => (q2.proposed (q1.mono (by omega)) (Room.of q1) u6 hz1 hz (by omega) hx),
  fun M hM => ?_⟩
 ·unfold BS.timeout
  split
  ·exact Nat.zero_le _
  ·show (_ ++ _ : List Msg).length ≤ _
   rw [List.length_append]
   have h1 := asks_ln (B := B.stood) (n := n) u5
   have h2 := counted_ln (B := B.stood) (n := n) u5
   omega
 ·have := q1.ctb i
  rw [q2.ct] at this
  push_cast; omega
 ·unfold BS.beat
  show (if B.role = 2 then B.feeds else []).length ≤ _
  have := feeds_ln (B := B) (n := n) u5
  split
  ·omega
  ·exact Nat.zero_le _
 ·unfold BS.cutAll BS.cut
  split
  ·exact u6.mono (by omega)
  ·exact (Inv.cut u6 (by omega) (by omega) (by omega) _ _).mono (by omega)
 ·unfold BS.cutAll BS.cut
  split
  ·exact u7
  ·exact BS.Fr.whole rfl
 ·unfold BS.propose
  split
  ·show (_ ++ _ : List Msg).length ≤ _
   rw [List.length_append]
   have h1 := feeds_ln (B := B.proposed 0 (A + 1 : Nat) x) (n := n) u5
   have h2 := settled_len2 (B := B.proposed 0 (A + 1 : Nat) x) (n := n) u5
   omega
  ·exact Nat.zero_le _
 ·obtain ⟨σ, gh, Fs, e1, hS, hh⟩ := h.has hN (.inl hb)
  have hfew := (hS.lt M hM).few
  refine h.op1 hH hA hN hb _ ((Inv.take u6 M ⟨hz, by omega⟩).mono (by omega)) (u7.take u6 M hz) (hP.take u6 M hz) ?_ fun gh F q1 q2 q3 => (q2.take (q1.mono (by omega)) (Room.of q1) u6 hz1 hz (q3 M hM))
  have := take_ln (B := B) (n := n) u5 M
  omega
theorem GI.fit (h : GI n A G H su) : G.Fit := by
 have hn := h.n1
 have hle := h.le
 have hS4 : Sml n A (10 * A) := ⟨by omega, by omega, by omega⟩
 refine ⟨fun i N hN => ?_, fun i N hN => ?_, fun m hm => ?_, by have := h.bag; omega, by rw [h.sz]; exact hn, by rw [h.acts]; unfold Num; omega⟩
 ·obtain ⟨e, he⟩ := (h.nds i N hN).sim
  refine ⟨by have := (he.got LOG).2.2.2; omega, he.ok9 (by omega), fun B hb => ?_⟩
  obtain ⟨u1, u2, u3, u4, u5, u6, u7⟩ := (h.nds i N hN).up B hb
  obtain ⟨σ, gh, Fs, e1, hS, hh⟩ := h.has hN (.inl hb)
  have hi : i < n := by have := (List.getElem?_eq_some_iff.1 hN).1; have := h.sz; omega
  have hNi := hS.nd i hi
  rw [e1] at hNi
  exact hNi.fit hS.gok u6 hS4 u7
 ·have hd := h.nds i N hN
  exact ⟨⟨_, hd.kept⟩, hd.put, by have := hd.tot; omega, by have := hd.few; omega⟩
 ·obtain ⟨σ, hσ⟩ := h.choose
  obtain ⟨gh, Fs, hS, hh⟩ := h.all σ hσ
  have := hS.lt m hm
  exact ⟨this.fit, this.to.1, by rw [h.sz]; exact this.to.2⟩
theorem GI.quiet (h : GI n A G H su) (hH : Mono H) (hA : A + 1 ≤ 500) {i : Nat} {N N' : Nd} (hN : G.nodes[i]? = some N) {su' : Nat} (hN' : NdI n i (A + 1) su' N') (hc : ∀ B', Cand n i su' N' B' → Cand n i (su i) N B' ∨ ∃ B, N.b = some B ∧ B' = B.rst) :
  ∃ su', GI n (A + 1) { G.tick with nodes := G.nodes.set i N' } H su' := by
 have hG := h.step hH hA hN hN' (out := []) (Nat.zero_le _) fun B' hB' => by
  rcases hc B' hB' with hc | ⟨B, hb, rfl⟩
  ·exact ⟨B', hc, fun gh F q1 q2 q3 => ⟨gh, F, Stp.refl i gh, q1.mono (by omega), q2, fun M hM => absurd hM (by simp)⟩⟩
  ·refine ⟨B, .inl hb, fun gh F q1 q2 q3 => ⟨gh, F, Stp.refl i gh, q1.mono (by omega), ?_, fun M hM => absurd hM (by simp)⟩⟩
   obtain ⟨u1, u2, u3, u4, u5, u6, u7⟩ := (h.nds i N hN).up B hb
   exact q2.rst u6.run.ok.com (by
    have := u6.run.lc
    have := q2.rep.lst
    omega)
 refine ⟨fun j => if j = i then su' else su j, ?_⟩
 rw [List.append_nil] at hG
 exact hG
theorem GI.ndSet (h : GI n A G H su) (hH : Mono H) (hA : A + 1 ≤ 500) (i : Nat) (f : Nd → Nd) (hf : ∀ N, G.nodes[i]? = some N → ∃ su', NdI n i (A + 1) su' (f N) ∧ ∀ B', Cand n i su' (f N) B' → Cand n i (su i) N B' ∨ ∃ B, N.b = some B ∧ B' = B.rst) : ∃ su', GI n (A + 1) (G.tick.ndSet i f) H su' := by
 unfold Grp.ndSet
 split
 ·rename_i N hN
  obtain ⟨su', h1, h2⟩ := hf N hN
  exact h.quiet hH hA hN h1 h2
 ·exact ⟨su, h.tick hA⟩
theorem GI.opG (h : GI n A G H su) (hA : A + 1 ≤ 500) (i : Nat) (f : BS → BS × List Msg) (hf : ∀ N B, G.nodes[i]? = some N → N.b = some B → ∃ su', GI n (A + 1) (G.tick.done i N (f B)) H su') : ∃ su', GI n (A + 1) (G.tick.op i f) H su' := by
 unfold Grp.op
 split
 ·rename_i N hN
  split
  ·rename_i B hB
   exact hf N B hN hB
  ·exact ⟨su, h.tick hA⟩
 ·exact ⟨su, h.tick hA⟩
theorem GI.opSub (h : GI n A G H su) (hA : A + 1 ≤ 500) (i : Nat) (f : BS → BS × List Msg) {bag : List Msg} (hb : ∀ M ∈ bag, M ∈ G.bag) (hl : bag.length ≤ G.bag.length) (hf : ∀ N B, G.nodes[i]? = some N → N.b = some B → ∃ su', GI n (A + 1) (G.tick.done i N (f B)) H su') :
  ∃ su', GI n (A + 1) (Grp.op { G.tick with bag := bag } i f) H su' := by
 have ht := (h.tick hA).sub (bag := bag) hb hl
 unfold Grp.op
 split
 ·rename_i N hN
  split
  ·rename_i B hB
   obtain ⟨su', hg⟩ := hf N B hN hB
   refine ⟨su', ?_⟩
   by_cases hok : N.okd (f B).1 = true
   ·have e1 : G.tick.done i N (f B) = { G.tick with nodes := G.nodes.set i (N.saved (f B).1), bag := G.bag ++ (f B).2 } := by unfold Grp.done; rw [if_pos hok]; (first | done | rfl)
    have e2 : Grp.done { G.tick with bag := bag } i N (f B) = { G.tick with nodes := G.nodes.set i (N.saved (f B).1), bag := bag ++ (f B).2 } := by unfold Grp.done; rw [if_pos hok]; (first | done | rfl)
    rw [e1] at hg
    rw [e2]
    refine hg.sub (bag := bag ++ (f B).2) (fun M hM => ?_) (by show (bag ++ _).length ≤ (G.bag ++ _).length; rw [List.length_append, List.length_append]; omega)
    rcases List.mem_append.1 hM with hM | hM
    ·exact List.mem_append.2 (.inl (hb M hM))
    ·exact List.mem_append.2 (.inr hM)
   ·have e1 : G.tick.done i N (f B) = { G.tick with nodes := G.nodes.set i (N.saved (f B).1), bag := G.bag } := by unfold Grp.done; rw [if_neg hok]; (first | done | rfl)
    have e2 : Grp.done { G.tick with bag := bag } i N (f B) = { G.tick with nodes := G.nodes.set i (N.saved (f B).1), bag := bag } := by unfold Grp.done; rw [if_neg hok]; (first | done | rfl)
    rw [e1] at hg
    rw [e2]
    exact hg.sub hb hl
  ·exact ⟨su, ht⟩
 ·exact ⟨su, ht⟩
theorem NdI.start {i : Nat} {su : Nat} {N : Nd} (h : NdI n i A su N) (hA : A + 1 ≤ 500) (hb : N.b = none) (keep : Int) : ∃ su', NdI n i (A + 1) su' (N.start i n keep) ∧ ∀ B', Cand n i su' (N.start i n keep) B' → Cand n i su N B' := by
 obtain ⟨e, he⟩ := h.sim
 have hok := he.ok9 (by omega)
 obtain ⟨k, hk1, hk2, hk3, hk4, hk5⟩ := h.kept.crash hok [keep]
 rw [List.length_map] at hk2
 obtain ⟨X, x1, x2, x3, x4⟩ := h.ld k hk1 hk2
 have hN' : N.start i n keep = ⟨some X.rst, ((N.d.crash [keep]).opens LOG).2, N.put.take k⟩ := by
  unfold Nd.start
  rw [hk3, if_neg (by simp)]
  simp only [List.length_take, List.length_map, Nat.min_eq_left hk2]
  rw [x1.loaded x2 x3]
 rw [hN']
 have hbl : X.base ≤ X.lst := Int.le_trans x4.run.ok.com x4.run.lc
 have hlk : (N.put.take k).length = k := by rw [List.length_take]; omega
 have htt : (N.put.take k).take k = N.put.take k := by rw [List.take_take, Nat.min_self]
 refine ⟨k, ⟨by show Kept _ LOG ((N.put.take k).map encDB) k; rw [List.map_take]; exact hk4, fun m h1 h2 => ⟨X, ?_, x2, x3, x4.mono (by omega)⟩, fun B hB => ?_, by show 0 ≤ ((N.d.crash [keep]).opens LOG).2.armed ∧ _; rw [hk5]; omega, ?_, fun D hD => h.put D (List.mem_of_mem_take hD), ?_, ?_⟩, fun B' hc => ?_⟩
 ·have h2 : m ≤ (N.put.take k).length := h2
  show Saved ((N.put.take k).take m) X
  rw [show m = k by omega, htt]; exact x1
 ·cases hB
  exact ⟨hlk.symm, rst_clean X, x1.rst, x2, x3, (Inv.rst x4 hbl).mono (by omega), Fr.rst hbl⟩
 ·exact ⟨_, ((he.crash (by omega) [keep]).opens LOG (C := 65600 * (A + 1)) (by omega) LOG_small).2⟩
 ·have := dtot_takeG N.put k
  have := h.tot
  show dtot (N.put.take k) ≤ _
  omega
 ·have := h.few
  show (N.put.take k).length ≤ _
  omega
 ·rcases hc with hc | ⟨hc, _⟩
  ·cases hc
   exact .inr ⟨hb, k, hk1, hk2, x1.loaded x2 x3⟩
  ·cases hc
theorem GI.act (h : GI n A G H su) (hH : Mono H) (hA : A + 1 ≤ 500) (k a b : Int) (hb : b ≤ 9223372036854775807) (x : ByteArray) : G.tick.Pre k a x ∧ ∃ su', GI n (A + 1) (G.act k a b x) H su' := by
 have hsz : G.tick.nodes.length = n := h.sz
 have hacts : G.tick.acts = ((A + 1 : Nat) : Int) := (h.tick hA).acts
 constructor
 ·refine ⟨(h.tick hA).fit, fun _ M hM N B hN hB => ?_, fun _ N B hN hB => ?_, fun _ N B hN hB => ?_, fun _ hx N B hN hB => ?_, fun _ N B hN hB => ?_⟩
  ·rw [hsz]; exact ((h.ops hH hA hN hB).2.2.2.2 M (List.mem_of_getElem? hM)).1
  ·rw [hsz]; exact (h.ops hH hA hN hB).1.1
  ·rw [hsz]; exact (h.ops hH hA hN hB).2.1.1
  ·rw [hsz, hacts]; exact ((h.ops hH hA hN hB).2.2.2.1 x hx.2).1
  ·rw [hsz]; exact (h.ops hH hA hN hB).2.2.1.1
 ·unfold Grp.act Grp.does
  refine ite_all (P := fun G' => ∃ su', GI n (A + 1) G' H su') (fun _ => ?_) fun _ => ?_
  ·split
   ·rename_i m hm
    have hmem : m ∈ G.bag := List.mem_of_getElem? hm
    exact h.opSub hA _ _ (fun M hM => List.mem_of_mem_eraseIdx hM) (List.length_eraseIdx_le (l := G.bag) (i := _)) fun N B hN hB => ((h.ops hH hA hN hB).2.2.2.2 m hmem).2
   ·exact ⟨su, h.tick hA⟩
  refine ite_all (P := fun G' => ∃ su', GI n (A + 1) G' H su') (fun _ => ?_) fun _ => ?_
  ·split
   ·rename_i m hm
    have hmem : m ∈ G.bag := List.mem_of_getElem? hm
    exact h.opG hA _ _ fun N B hN hB => ((h.ops hH hA hN hB).2.2.2.2 m hmem).2
   ·exact ⟨su, h.tick hA⟩
  refine ite_all (P := fun G' => ∃ su', GI n (A + 1) G' H su') (fun _ => ?_) fun _ => ?_
  ·exact ⟨su, (h.tick hA).sub (fun M hM => List.mem_of_mem_eraseIdx hM) (List.length_eraseIdx_le (l := G.bag) (i := _))⟩
  refine ite_all (P := fun G' => ∃ su', GI n (A + 1) G' H su') (fun _ => ?_) fun _ => ?_
  ·exact h.opG hA _ _ fun N B hN hB => (h.ops hH hA hN hB).1.2
  refine ite_all (P := fun G' => ∃ su', GI n (A + 1) G' H su') (fun _ => ?_) fun _ => ?_
  ·exact h.opG hA _ _ fun N B hN hB => (h.ops hH hA hN hB).2.1.2
  refine ite_all (P := fun G' => ∃ su', GI n (A + 1) G' H su') (fun _ => ?_) fun _ => ?_
  ·split
   ·rename_i hx
    rw [hacts]
    exact h.opG hA _ _ fun N B hN hB => ((h.ops hH hA hN hB).2.2.2.1 x hx.2).2
   ·exact ⟨su, h.tick hA⟩
  refine ite_all (P := fun G' => ∃ su', GI n (A + 1) G' H su') (fun _ => ?_) fun _ => ?_
  ·refine h.ndSet hH hA _ _ fun N hN => ?_
   have hd := h.nds _ N hN
   cases hB : N.b with
   | none =>
    refine ⟨_, hd.mono (A' := A + 1) (by omega) |> fun q => ⟨q.kept, q.ld, fun B e => (by cases e), q.arm, q.sim, q.put, q.tot, q.few⟩, fun B' hc => .inl ?_⟩
    rcases hc with hc | ⟨_, hc⟩
    ·cases hc
    ·exact .inr ⟨hB, hc⟩
   | some B =>
    obtain ⟨u1, u2, u3, u4, u5, u6, u7⟩ := hd.up B hB
    refine ⟨_, hd.mono (A' := A + 1) (by omega) |> fun q => ⟨q.kept, q.ld, fun B e => (by cases e), q.arm, q.sim, q.put, q.tot, q.few⟩, fun B' hc => .inr ⟨B, rfl, ?_⟩⟩
    rcases hc with hc | ⟨_, m, h1, h2, hc⟩
    ·cases hc
    ·have h2 : m ≤ N.put.length := h2
     have hc : BS.loaded _ n (N.put.take m) = some B' := hc
     rw [show m = N.put.length by omega, List.take_length, u3.loaded u4 u5] at hc
     cases hc; (first | done | rfl)
  refine ite_all (P := fun G' => ∃ su', GI n (A + 1) G' H su') (fun _ => ?_) fun _ => ?_
  ·refine h.ndSet hH hA _ _ fun N hN => ?_
   have hd := h.nds _ N hN
   have hi := (List.getElem?_eq_some_iff.1 hN).1
   cases hB : N.b with
   | some B =>
    rw [if_pos (by simp)]
    refine ⟨_, hd.mono (by omega), fun B' hc => .inl hc⟩
   | none =>
    rw [if_neg (by simp)]
    have hpl : plc a G.tick.nodes.length = ((plc a G.tick.nodes.length).toNat : Int) := by
     have := plc_range a (n := G.tick.nodes.length) (by have := h.n1; omega) (by have := h.n1; omega)
     omega
    obtain ⟨su', q1, q2⟩ := hd.start hA hB b
    have e : N.start (plc a G.tick.nodes.length) (G.tick.nodes.length) b = N.start ((plc a G.tick.nodes.length).toNat : Int) n b := by
     rw [← hpl]; exact congrArg (fun q : Nat => N.start (plc a G.tick.nodes.length) (q : Int) b) hsz
    rw [e]
    exact ⟨su', q1, fun B' hc => .inl (q2 B' hc)⟩
  refine ite_all (P := fun G' => ∃ su', GI n (A + 1) G' H su') (fun _ => ?_) fun _ => ?_
  ·refine h.ndSet hH hA _ _ fun N hN => ?_
   have hd := (h.nds _ N hN).mono (A' := A + 1) (by omega)
   cases hB : N.b with
   | none =>
    rw [if_neg (by simp)]
    exact ⟨_, hd, fun B' hc => .inl hc⟩
   | some B =>
    rw [if_pos (by simp)]
    obtain ⟨e, he⟩ := hd.sim
    refine ⟨_, ⟨hd.kept.arm b, hd.ld, fun X hX => hd.up X (by rw [hB]; exact hX), arm_armed b hb hd.arm, ⟨_, he.arm b hb⟩, hd.put, hd.tot, hd.few⟩, fun B' hc => .inl ?_⟩
    rcases hc with hc | ⟨hc, _⟩
    ·exact .inl (by rw [hB]; exact hc)
    ·cases hc
  refine ite_all (P := fun G' => ∃ su', GI n (A + 1) G' H su') (fun _ => ?_) fun _ => ?_
  ·exact h.opG hA _ _ fun N B hN hB => (h.ops hH hA hN hB).2.2.1.2
  ·exact ⟨su, h.tick hA⟩
end
end
section
attribute [-simp] Fw.W.ld_iff Fw.W.st_iff
theorem Nd.none_disk : Nd.none.Disk := ⟨⟨0, Kept.start⟩, by simp [Nd.none], by simp [Nd.none, dtot], by simp [Nd.none], ⟨by simp [Nd.none], by simp [Nd.none], by simp [Nd.none]⟩, by show (0 : Nat) ≤ _; omega⟩
abbrev nilP : Value := .pointer none
theorem new_arr {A : List Value} {i m : Nat} (hA : A.length = i * 3) (q : Mem) (d0 : Value) : arr3 ((A ++ List.replicate ((m + 1) * 3) nilP).toArray.setIfInBounds (i * 3 + 1) d0) i q = (A ++ memE.f q ++ List.replicate (m * 3) nilP).toArray := by
 unfold arr3
 have e : List.replicate ((m + 1) * 3) nilP = nilP :: nilP :: nilP :: List.replicate (m * 3) nilP := by
  rw [show (m + 1) * 3 = m * 3 + 1 + 1 + 1 by omega, List.replicate_succ, List.replicate_succ, List.replicate_succ]
 rw [e]
 simp only [List.setIfInBounds_toArray]
 congr 1
 rw [List.set_append_right _ _ (by omega), List.set_append_right _ _ (by omega), List.set_append_right _ _ (by omega), List.set_append_right _ _ (by omega), hA]
 have e1 : i * 3 + 1 - i * 3 = 1 := by omega
 have e2 : i * 3 + 2 - i * 3 = 2 := by omega
 have e0 : i * 3 + 0 - i * 3 = 0 := by omega
 rw [e1, e2, e0]
 simp [memE]
structure NewI (n g na p : Nat) (ms : List Mem) (s0 s' : PH) : Prop where
 cell : s' g = some (.cells #[.slice (some ⟨na, 0, none⟩) n n, .pointer (some ⟨p, 0, none⟩), .int .i64 0] 61 (0, 0))
 arr : s' na = some (.cells (ms.flatMap memE.f ++ List.replicate ((n - ms.length) * 3) nilP).toArray 74 (0, 0))
 post : PostIs s' p noTri []
 len : ms.length ≤ n
 nds : ∀ (i : Nat) q, ms[i]? = some q → NdIs s' q (Nd.none.start i n 0)
 apart : ∀ (i j : Nat) q r, ms[i]? = some q → ms[j]? = some r → i ≠ j → ∀ x ∈ q.F, x ∉ r.F
 mod : Fw.Mod [] s0 s'
 fresh : ∀ x ∈ GF g na p ms noTri, s0 x = none
def NewZ (n : Nat) (s0 : PH) (g na p : Nat) (z : MDen [(false, [.ptr]), (false, [.int .i64]), (false, [.int .i64])]) (s' : PH) : Prop :=
 ∃ ms : List Mem, z = ((some ⟨g, 0, none⟩, ()), ((n : Int), ()), ((ms.length : Int), ()), ()) ∧ NewI n g na p ms s0 s'
def NewQ (n : Nat) (s : PH) (y : Value) (s' : PH) : Prop := ∃ g na p ms t, y = .tuple #[gptr g, .int .i64 0] ∧ GrpIs s' g na p ms t (Grp.new n) ∧ Fw.Mod [] s s' ∧ ∀ x ∈ GF g na p ms t, s x = none
theorem c_gNew {n : Nat} (h1 : 1 ≤ n) (h5 : n ≤ 5) (s : PH) : DCalls Tryz.prog 18 #[.int .i64 (n : Int)] s (NewQ n s) := by
 refine ok_gNew n _ s ?_
 unfold vc_gNew
 simp only [RP_join]
 refine W.join_gen (fun z s' => s' = s) ?_ ?_
 rotate_left
 ·intro J hJ
  have n1 : ¬ ((n : Int) < 1) := by omega
  have n2 : ¬ ((n : Int) > 5) := by omega
  simp only [RP_ite, decide_eq_false n1, decide_eq_false n2, W.br_false]
  exact hJ _ _ rfl
 rintro _ s rfl
 refine W.join_gen (fun z s' => ∃ g na p, z = ((some ⟨g, 0, none⟩, ()), ()) ∧ NewI n g na p [] s s') ?_ ?_
 ·rintro _ s1 ⟨g, na, p, rfl, hI⟩
  simp only [RP_unSome, W.unSome_some, add_mk, Nat.zero_add, RP_ld]
  refine ld_blk (c := .slice) (x := (some ⟨na, 0, none⟩, n, n)) hI.cell rfl ?_
  simp only [RP_loop]
  refine ⟨NewZ n s g na p, fun z _ => ((n : Int) - z.2.2.1.1).toNat, ⟨[], rfl, hI⟩, ?_⟩
  rintro _ s2 ⟨ms, rfl, hI⟩
  have hc := hI.cell
  have ha := hI.arr
  simp only [RP_ite, W.br_iff, decide_eq_true_eq, decide_eq_false_iff_not]
  refine ⟨fun hlt => ?_, fun hge => ?_⟩
  ·have hlt : ms.length < n := by omega
   simp only [W.unSome_some, add_mk, Nat.zero_add]
   refine ld_blk (c := .slice) (x := (some ⟨na, 0, none⟩, n, n)) hc rfl ?_
   simp only [RP_call]
   refine W.call_of (c_New s2) ?_
   rintro _ s3 ⟨db, dm, rfl, hdr, m3, hdb, hdm⟩
   refine ⟨((some ⟨db, 0, none⟩, ()), ()), rfl, ?_⟩
   have hc3 := m3.at hc (by simp)
   have ha3 := m3.at ha (by simp)
   simp only [RP_still]
   refine (W.still_at hc3 _ _ _ _ _).2 ⟨rfl, ?_⟩
   simp only [RP_guard, W.guard_iff, W.unSome_some, add_mk, Nat.zero_add, Int.toNat_natCast, RP_st]
   refine ⟨by show (0 : Int) ≤ (ms.length : Int) ∧ (ms.length : Int) < (n : Int); omega, ?_⟩
   obtain ⟨m, hm⟩ : ∃ m, n - ms.length = m + 1 := ⟨n - ms.length - 1, by omega⟩
   rw [hm] at ha3
   have hAl : (ms.flatMap memE.f).length = ms.length * 3 := flat_len ms
   have hget : ∀ j, j < 3 → ((ms.flatMap memE.f ++ List.replicate ((m + 1) * 3) nilP).toArray)[ms.length * 3 + j]? = some nilP := by
    intro j hj
    rw [List.getElem?_toArray, List.getElem?_append_right (by omega), hAl, Nat.add_sub_cancel_left, List.getElem?_replicate, if_pos (by omega)]
   refine st_blk ha3 (hget 1 (by omega)) rfl ?_
   obtain ⟨s4, hs4⟩ : ∃ s4, s3.upd na (.cells ((ms.flatMap memE.f ++ List.replicate ((m + 1) * 3) nilP).toArray.setIfInBounds (ms.length * 3 + 1) (.pointer (some ⟨db, 0, none⟩))) 74 (0, 0)) = s4 := ⟨_, rfl⟩
   have m4 : Fw.Mod [na] s3 s4 := by rw [← hs4]; exact Mod.upd (by simp)
   have ha4 : s4 na = some (.cells ((ms.flatMap memE.f ++ List.replicate ((m + 1) * 3) nilP).toArray.setIfInBounds (ms.length * 3 + 1) (.pointer (some ⟨db, 0, none⟩))) 74 (0, 0)) := by rw [← hs4]; exact PH.upd_same _ _ _
   rw [hs4]
   have hgna : g ≠ na := by rintro rfl; rw [hc] at ha; exact absurd (Obj.cells.inj (Option.some.inj ha)).2.1 (by decide)
   have hpna : p ≠ na := by rintro rfl; have := hI.post.cell; rw [ha] at this; exact absurd (Obj.cells.inj (Option.some.inj this)).2.1 (by decide)
   have hdbna : db ≠ na := by rintro rfl; rw [hdb] at ha; cases ha
   have hdmna : dm ≠ na := by rintro rfl; rw [hdm] at ha; cases ha
   have hc4 := m4.at hc3 (by simp; exact hgna)
   have hdr4 : DriveIs s4 db dm ⟨[], false, 0⟩ := ⟨m4.at hdr.blk (by simp; exact hdbna), hdr.map.mod m4 (by simp; exact hdmna)⟩
   have hsz : (ms.flatMap memE.f ++ List.replicate ((m + 1) * 3) nilP).toArray.size = ms.length * 3 + (m + 1) * 3 := by simp [hAl]
   refine W.call_of (c_gstart (N := Nd.none) hc4 ha4 hlt h5 (x0 := none) (by rw [Array.getElem?_setIfInBounds_ne (by omega)]; exact hget 0 (by omega)) (by rw [Array.getElem?_setIfInBounds_self_of_lt (by rw [hsz]; omega)]; (first | done | rfl))
    (by rw [Array.getElem?_setIfInBounds_ne (by omega)]; exact hget 2 (by omega)) hdr4 rfl Nd.none_disk 0) ?_
   rintro _ s5 ⟨rfl, q', ha5, hn5, hf5, m5⟩
   refine ⟨(), rfl, ?_⟩
   rw [new_arr hAl] at ha5
   have hfq : ∀ x ∈ q'.F, s2 x = none ∧ x ≠ na := by
    intro x hx
    have h4 := hf5 x hx
    have hxna : x ≠ na := by rintro rfl; rw [ha4] at h4; cases h4
    refine ⟨?_, hxna⟩
    rw [← hs4, PH.upd_other _ _ hxna] at h4
    exact m3.none h4 (by simp)
   have hkn : ∀ (i : Nat) (q : Mem), ms[i]? = some q → ∀ x ∈ q.F, s2 x ≠ none := fun i q hq x hx => (hI.nds i q hq).known x hx
   have hoth : ∀ (i : Nat) (q : Mem), ms[i]? = some q → ∀ x ∈ q.F, x ≠ na ∧ x ≠ db := by
    intro i q hq x hx
    refine ⟨?_, ?_⟩
    ·rintro rfl; exact ((hI.nds i q hq).oth x hx _ _ _ ha).2.1 rfl
    ·rintro rfl; exact hkn i q hq x hx hdb
   have m25 : Fw.Mod [na, db] s2 s5 := ((m3.mono (by simp) : Fw.Mod [na, db] s2 s3).trans (m4.mono (by simp))).trans m5
   have m24 : Fw.Mod [na] s2 s4 := (m3.mono (by simp) : Fw.Mod [na] s2 s3).trans m4
   have hms : ms.length + 1 = (ms ++ [q']).length := by simp
   have hdbg : ∀ z, s2 z ≠ none → z ≠ db := by rintro z hz rfl; exact hz hdb
   refine ⟨⟨ms ++ [q'], by rw [wrap_succ (by omega), hms], ⟨?_, ?_, ?_, by simp; omega, ?_, ?_, ?_, ?_⟩⟩, ?_⟩
   ·exact m25.at hc (by simp; exact ⟨hgna, hdbg g (by rw [hc]; simp)⟩)
   ·rw [ha5]
    congr 4
    ·simp
    ·simp; omega
   ·exact hI.post.mod m25 (by simp; exact ⟨hpna, hdbg p (by rw [hI.post.cell]; simp)⟩) (by simp [Fw.blk])
   ·intro i q hq
    by_cases hi : i < ms.length
    ·rw [List.getElem?_append_left hi] at hq
     exact (hI.nds i q hq).mod m25 fun x hx => by simp; exact hoth i q hq x hx
    ·have hi2 := (List.getElem?_eq_some_iff.1 hq).1
     simp at hi2
     have : i = ms.length := by omega
     subst this
     rw [List.getElem?_append_right (Nat.le_refl _)] at hq
     simp at hq; subst hq
     exact hn5
   ·intro i j q r hq hr hij x hx hxr
    have hi2 := (List.getElem?_eq_some_iff.1 hq).1
    have hj2 := (List.getElem?_eq_some_iff.1 hr).1
    simp at hi2 hj2
    by_cases hi : i < ms.length
    ·rw [List.getElem?_append_left hi] at hq
     by_cases hj : j < ms.length
     ·rw [List.getElem?_append_left hj] at hr
      exact hI.apart i j q r hq hr hij x hx hxr
     ·have : j = ms.length := by omega
      subst this
      rw [List.getElem?_append_right (Nat.le_refl _)] at hr
      simp at hr; subst hr
      exact hkn i q hq x hx (hfq x hxr).1
    ·have : i = ms.length := by omega
     subst this
     rw [List.getElem?_append_right (Nat.le_refl _)] at hq
     simp at hq; subst hq
     rw [List.getElem?_append_left (by omega)] at hr
     exact hkn j r hr x hxr (hfq x hx).1
   ·have h03 : Fw.Mod [] s s3 := hI.mod.trans m3
    have hna0 : s na = none := hI.fresh na (by simp [GF])
    have h04 : Fw.Mod [] s s4 := h03.fresh m4 (by simp [hna0])
    have hdb0 : s db = none := hI.mod.none hdb (by simp)
    exact h04.fresh m5 (by simp [hna0, hdb0])
   ·intro x hx
    simp only [GF, List.mem_cons, List.mem_append, List.mem_flatMap, List.not_mem_nil, or_false] at hx
    rcases hx with rfl | rfl | rfl | hx | ⟨q, hq | rfl, hx⟩
    ·exact hI.fresh x (by simp [GF])
    ·exact hI.fresh x (by simp [GF])
    ·exact hI.fresh x (by simp [GF])
    ·simp [Fw.blk] at hx
    ·refine hI.fresh x ?_
     simp only [GF, List.mem_cons, List.mem_append, List.mem_flatMap]
     exact .inr (.inr (.inr (.inr ⟨q, hq, hx⟩)))
    ·exact hI.mod.none (hfq x hx).1 (by simp)
   ·rw [wrap_succ (by omega)]
    show ((n : Int) - ((ms.length + 1 : Nat) : Int)).toNat < ((n : Int) - ((ms.length : Nat) : Int)).toNat
    omega
  ·have hnn : ms.length = n := by have := hI.len; omega
   refine ⟨g, na, p, ms, noTri, rfl, ⟨?_, ?_, hI.post, ?_, by omega, ?_, hI.apart⟩, hI.mod, hI.fresh⟩
   ·rw [hc, hnn]; (first | done | rfl)
   ·rw [ha, hnn]; simp
   ·simp [Grp.new, hnn]
   ·intro i q N hq hN
    have hi := (List.getElem?_eq_some_iff.1 hq).1
    have : N = Nd.none.start (i : Int) n 0 := by
     simp only [Grp.new, List.getElem?_map, List.getElem?_range (by omega : i < n), Option.map_some, Option.some.injEq] at hN
     exact hN.symm
    subst this
    exact hI.nds i q hq
 ·intro J hJ
  have hz : Builtin.zeroCells [nilP, nilP, nilP].toArray ((n : Nat) : Int).toNat = (List.replicate (n * 3) nilP).toArray := zero_three nilP n
  simp only [RP_both, W.both_iff]
  refine ⟨?_, ?_⟩
  ·simp only [RP_mksl]
   refine ⟨by omega, Int.le_refl _, by omega, by omega, fun r hr => ?_⟩
   rw [hz]
   obtain ⟨s1, hs1⟩ : ∃ s1, s.upd r (.cells (List.replicate (n * 3) nilP).toArray 74) = s1 := ⟨_, rfl⟩
   have m1 : Fw.Mod [] s s1 := by rw [← hs1]; exact Mod.new hr
   have k1 : s1 r = some (.cells (List.replicate (n * 3) nilP).toArray 74 (0, 0)) := by rw [← hs1]; exact PH.upd_same _ _ _
   rw [hs1]
   simp only [RP_call]
   refine W.call_of (c_pNew s1) ?_
   rintro _ s2 ⟨p, rfl, hP, m2, hp⟩
   refine ⟨((some ⟨p, 0, none⟩, ()), ()), rfl, ?_⟩
   simp only [RP_nw]
   refine W.nw_of fun g s3 hg m3 k3 => ?_
   refine hJ _ _ ⟨g, r, p, rfl, ⟨k3, ?_, hP.mod m3 (by simp) (by simp), Nat.zero_le _, by simp, by simp, (m1.trans m2).trans m3, ?_⟩⟩
   ·simpa using m3.at (m2.at k1 (by simp)) (by simp)
   ·intro x hx
    simp only [GF, List.mem_cons, List.mem_append, List.flatMap_nil, List.not_mem_nil, or_false, Fw.blk] at hx
    rcases hx with rfl | rfl | rfl
    ·exact (m1.trans m2).none hg (by simp)
    ·exact hr
    ·exact m1.none hp (by simp)
  ·simp only [RP_call]
   refine W.call_of (c_pNew s) ?_
   rintro _ s2 ⟨p, rfl, hP, m2, hp⟩
   refine ⟨((some ⟨p, 0, none⟩, ()), ()), rfl, ?_⟩
   simp only [RP_mksl]
   refine ⟨by omega, Int.le_refl _, by omega, by omega, fun r hr => ?_⟩
   rw [hz]
   obtain ⟨s1, hs1⟩ : ∃ s1, s2.upd r (.cells (List.replicate (n * 3) nilP).toArray 74) = s1 := ⟨_, rfl⟩
   have m1 : Fw.Mod [] s2 s1 := by rw [← hs1]; exact Mod.new hr
   have k1 : s1 r = some (.cells (List.replicate (n * 3) nilP).toArray 74 (0, 0)) := by rw [← hs1]; exact PH.upd_same _ _ _
   rw [hs1]
   simp only [RP_nw]
   refine W.nw_of fun g s3 hg m3 k3 => ?_
   refine hJ _ _ ⟨g, r, p, rfl, ⟨k3, ?_, (hP.mod m1 (by simp) (by simp)).mod m3 (by simp) (by simp), Nat.zero_le _, by simp, by simp, (m2.trans m1).trans m3, ?_⟩⟩
   ·simpa using m3.at k1 (by simp)
   ·intro x hx
    simp only [GF, List.mem_cons, List.mem_append, List.flatMap_nil, List.not_mem_nil, or_false, Fw.blk] at hx
    rcases hx with rfl | rfl | rfl
    ·exact (m2.trans m1).none hg (by simp)
    ·exact m2.none hr (by simp)
    ·exact hp
end
section
attribute [-simp] Fw.W.ld_iff Fw.W.st_iff
def Grp.balAt (G : Grp) (n : Int) : Option BS := if n < 0 then none else match G.nodes[n.toNat]? with
 | some N => N.b
 | none => none
def Grp.txts (G : Grp) (n : Int) : List ByteArray := match G.balAt n with
 | some B => B.texts
 | none => []
abbrev zeroStand : Value := .agg #[.int .i64 0, .int .i64 0, .int .i64 0, .int .i64 0, .int .i64 0, .int .i64 0, .int .i64 0]
def standOf (o : Option BS) : Value := match o with
 | some B => B.stand
 | none => zeroStand
section
variable {s s1 : PH} {g na p : Nat} {ms : List Mem} {t : Tri} {G : Grp}
theorem balAt_fit (hf : G.Fit) {n : Int} {B : BS} (h : G.balAt n = some B) : B.Fit := by
 unfold Grp.balAt at h
 split at h
 ·cases h
 ·cases hN : G.nodes[n.toNat]? with
  | none => rw [hN] at h; cases h
  | some N => rw [hN] at h; exact (hf.nds _ N hN).2.2 B h
def AtQ (G : Grp) (n : Int) (s : PH) (y : Value) (s' : PH) : Prop := s' = s ∧ ((G.balAt n = none ∧ y = .pointer none) ∨ ∃ B b l v m k, G.balAt n = some B ∧ y = bptr b ∧ Bal s b l v m k B)
theorem c_gat (h : GrpIs s g na p ms t G) (n : Int) : DCalls Tryz.prog 32 #[gptr g, .int .i64 n] s (AtQ G n s) := by
 refine ok_gat g n _ s ?_
 unfold vc_gat
 have hc := h.cell
 simp only [RP_ite, Option.isNone_some, W.br_false, RP_unSome]
 simp only [W.br_iff, decide_eq_true_eq, decide_eq_false_iff_not]
 refine ⟨fun hn => ⟨rfl, .inl ⟨by unfold Grp.balAt; rw [if_pos hn], rfl⟩⟩, fun hn => ?_⟩
 simp only [W.unSome_some, add_mk, Nat.zero_add, RP_ld]
 refine ld_blk (c := .slice) (x := (some ⟨na, 0, none⟩, ms.length, ms.length)) hc rfl ?_
 by_cases hge : n ≥ (ms.length : Int)
 ·simp only [decide_eq_true hge, W.br_true]
  refine ⟨rfl, .inl ⟨?_, rfl⟩⟩
  unfold Grp.balAt
  rw [if_neg hn, List.getElem?_eq_none (by rw [← h.len]; omega)]
 ·simp only [decide_eq_false hge, W.br_false, W.unSome_some, add_mk, Nat.zero_add]
  refine ld_blk (c := .slice) (x := (some ⟨na, 0, none⟩, ms.length, ms.length)) hc rfl ?_
  simp only [RP_guard, W.guard_iff, W.unSome_some, add_mk, Nat.zero_add]
  refine ⟨by show (0 : Int) ≤ n ∧ n < (ms.length : Int); omega, ?_⟩
  obtain ⟨q, hq⟩ : ∃ q, ms[n.toNat]? = some q := ⟨_, List.getElem?_eq_getElem (by omega)⟩
  obtain ⟨N, hN⟩ := h.node hq
  have hnd := h.nds _ q N hq hN
  have hba : G.balAt n = N.b := by unfold Grp.balAt; rw [if_neg hn, hN]
  cases hB : N.b with
  | none =>
   refine ld_blk (c := .ptr) (x := none) h.arr (mem_get hq (k := 0) (by omega) (by show some _ = some _; rw [hnd.down hB]; (first | done | rfl))) ?_
   exact ⟨rfl, .inl ⟨by rw [hba, hB], rfl⟩⟩
  | some B =>
   obtain ⟨b, x, e1, hBal, _⟩ := hnd.up B hB
   refine ld_blk (c := .ptr) (x := some ⟨b, 0, none⟩) h.arr (mem_get hq (k := 0) (by omega) (by show some _ = some _; rw [e1]; (first | done | rfl))) ?_
   exact ⟨rfl, .inr ⟨B, b, _, _, _, _, by rw [hba, hB], rfl, hBal⟩⟩
theorem c_gStand (h : GrpIs s g na p ms t G) (hf : G.Fit) (n : Int) : DCalls Tryz.prog 14 #[gptr g, .int .i64 n] s fun y s' => y = .tuple #[standOf (G.balAt n), .bool (G.balAt n).isSome] ∧ Fw.Mod [] s s' := by
 refine ok_gStand g n _ s ?_
 unfold vc_gStand
 simp only [RP_call]
 refine W.call_of (c_gat h n) ?_
 rintro y s1 ⟨rfl, ⟨hb, rfl⟩ | ⟨B, b, l, v, m, k, hb, rfl, hBal⟩⟩
 ·refine ⟨((none, ()), ()), rfl, ?_⟩
  refine W.call_of (n_Stand s1) ?_
  rintro _ s2 ⟨rfl, m2⟩
  refine ⟨((0, 0, 0, 0, 0, 0, 0, ()), ()), rfl, ?_⟩
  rw [hb]
  exact ⟨rfl, m2⟩
 ·refine ⟨((some ⟨b, 0, none⟩, ()), ()), rfl, ?_⟩
  refine W.call_of (c_Stand hBal (balAt_fit hf hb).run.ok.small) ?_
  rintro _ s2 ⟨rfl, m2⟩
  refine ⟨((B.term, B.vote, B.role, B.lead, B.base, B.lst, B.commit, ()), ()), rfl, ?_⟩
  rw [hb]
  exact ⟨rfl, m2⟩
theorem c_gEntry (h : GrpIs s g na p ms t G) (hf : G.Fit) (n : Int) {i : Int} (hi : Num i) : DCalls Tryz.prog 15 #[gptr g, .int .i64 n, .int .i64 i] s fun y s' => y = .tuple #[entV (((G.balAt n).bind (·.entry i)).getD noEnt), .bool ((G.balAt n).bind (·.entry i)).isSome] ∧ Fw.Mod [] s s' := by
 refine ok_gEntry g n i _ s ?_
 unfold vc_gEntry
 simp only [RP_call]
 refine W.call_of (c_gat h n) ?_
 rintro y s1 ⟨rfl, ⟨hb, rfl⟩ | ⟨B, b, l, v, m, k, hb, rfl, hBal⟩⟩
 ·refine ⟨((none, ()), ()), rfl, ?_⟩
  refine W.call_of (n_Entry i s1) ?_
  rintro _ s2 ⟨rfl, m2⟩
  refine ⟨((0, 0, 0, ⟨#[]⟩, ()), (false, ()), ()), rfl, ?_⟩
  rw [hb]
  exact ⟨rfl, m2⟩
 ·refine ⟨((some ⟨b, 0, none⟩, ()), ()), rfl, ?_⟩
  refine W.call_of (c_Entry hBal (balAt_fit hf hb).run.ok.small hi) ?_
  rintro _ s2 ⟨rfl, m2⟩
  obtain ⟨e, he⟩ : ∃ e, (B.entry i).getD noEnt = e := ⟨_, rfl⟩
  rw [he]
  refine ⟨((e.term, e.at_, e.born, e.text, ()), ((B.entry i).isSome, ()), ()), rfl, ?_⟩
  rw [hb]
  refine ⟨?_, m2⟩
  show _ = Value.tuple #[entV ((B.entry i).getD noEnt), .bool (B.entry i).isSome]
  rw [he]; (first | done | rfl)
def GTextsQ (G : Grp) (n : Int) (s : PH) (y : Value) (s' : PH) : Prop := ∃ tt : Tri, y = tt.v ∧ rowE strE s' 9 tt.1 tt.2.1 tt.2.2 (G.txts n) ∧ (∀ x ∈ Fw.blk tt.1, s x = none) ∧ Fw.Mod [] s s'
theorem c_gTexts (h : GrpIs s g na p ms t G) (hf : G.Fit) (n : Int) : DCalls Tryz.prog 12 #[gptr g, .int .i64 n] s (GTextsQ G n s) := by
 refine ok_gTexts g n _ s ?_
 unfold vc_gTexts
 simp only [RP_call]
 refine W.call_of (c_gat h n) ?_
 rintro y s1 ⟨rfl, ⟨hb, rfl⟩ | ⟨B, b, l, v, m, k, hb, rfl, hBal⟩⟩
 ·refine ⟨((none, ()), ()), rfl, ?_⟩
  simp only [RP_ite, Option.isNone_none, W.br_true]
  refine ⟨noTri, rfl, ?_, by simp [Fw.blk], Mod.refl _ _⟩
  unfold Grp.txts; rw [hb]; exact rowE.nil
 ·refine ⟨((some ⟨b, 0, none⟩, ()), ()), rfl, ?_⟩
  simp only [RP_ite, Option.isNone_some, W.br_false]
  refine W.call_of (c_gtexts hBal (balAt_fit hf hb)) ?_
  rintro _ s2 ⟨tt, rfl, hrow, hfr, m2⟩
  refine ⟨((tt, ()), ()), rfl, tt, rfl, ?_, hfr, m2⟩
  unfold Grp.txts; rw [hb]; exact hrow
inductive AllPre : Nat → Grp → Prop
 | zero (G : Grp) : AllPre 0 G
 | none (f : Nat) (G : Grp) : G.bag = [] → AllPre (f + 1) G
 | step (f : Nat) (G : Grp) : G.bag ≠ [] → Num G.acts → G.tick.Pre 1 0 ⟨#[]⟩ → AllPre f (G.act 1 0 0 ⟨#[]⟩) → AllPre (f + 1) G
def AllZ (g na p : Nat) (ms : List Mem) (t : Tri) (G : Grp) (most : Nat) (s0 : PH) (z : MDen [(false, [.int .i64]), (false, [.int .i64])]) (s' : PH) : Prop :=
 ∃ (i : Nat) (ms' : List Mem) (t' : Tri) (G' : Grp), z = (((most : Int), ()), ((i : Int), ()), ()) ∧ i ≤ most ∧ GrpIs s' g na p ms' t' G' ∧ Step (GF g na p ms t) (GF g na p ms' t') s0 s' ∧ AllPre (most - i) G' ∧ Grp.all (most - i) G' = Grp.all most G
theorem c_lall (h : GrpIs s g na p ms t G) {most : Nat} (hm : most ≤ 1000) (hp : AllPre most G) : DCalls Tryz.prog 20 #[gptr g, .int .i64 (most : Int)] s fun y s' => y = .bool (Grp.all most G).1 ∧ GrpQ g na p ms t (Grp.all most G).2 s (.tuple #[]) s' := by
 refine ok_lall g most _ s ?_
 unfold vc_lall
 simp only [RP_loop]
 refine ⟨AllZ g na p ms t G most s, fun z _ => ((most : Int) - z.2.1.1).toNat, ⟨0, ms, t, G, rfl, Nat.zero_le _, h, Step.refl _ _, hp, rfl⟩, ?_⟩
 rintro _ s1 ⟨i, ms1, t1, G1, rfl, hi, h1, st1, hp1, he⟩
 simp only [RP_ite, W.br_iff, decide_eq_true_eq, decide_eq_false_iff_not, RP_call]
 have hbe : ∀ G : Grp, ((G.bag.length : Int) == 0) = G.bag.isEmpty := by
  intro G
  cases G.bag with
  | nil => rfl
  | cons a l => simp; omega
 refine ⟨fun hlt => ?_, fun hge => ?_⟩
 ·have hlt : i < most := by omega
  obtain ⟨f, hf⟩ : ∃ f, most - i = f + 1 := ⟨most - i - 1, by omega⟩
  rw [hf] at hp1 he
  refine W.call_of (c_gLetters h1) ?_
  rintro _ s1 ⟨rfl, rfl⟩
  refine ⟨(((G1.bag.length : Int), ()), ()), rfl, ?_⟩
  simp only [hbe]
  cases hp1 with
  | none _ _ hb =>
   have hbb : G1.bag.isEmpty = true := by rw [hb]; (first | done | rfl)
   simp only [hbb, W.br_true]
   have e : Grp.all (f + 1) G1 = (true, G1) := by unfold Grp.all; rw [if_pos hbb]
   rw [← he, e]
   exact ⟨rfl, rfl, ms1, t1, h1, st1⟩
  | step _ _ hb ha hpre hrest =>
   have hbb : G1.bag.isEmpty = false := by
    cases hbg : G1.bag with
    | nil => exact absurd hbg hb
    | cons a l => rfl
   simp only [hbb, W.br_false]
   refine W.call_of (c_gDo h1 ha 1 0 0 ⟨#[]⟩ hpre) ?_
   rintro _ s2 ⟨rfl, ms2, t2, h2, st2⟩
   refine ⟨(), rfl, ?_⟩
   have hff : most - (i + 1) = f := by omega
   refine ⟨⟨i + 1, ms2, t2, _, by rw [wrap_succ (by omega)], hlt, h2, st1.trans st2, by rw [hff]; exact hrest, ?_⟩, ?_⟩
   ·rw [hff, ← he]
    conv => rhs; unfold Grp.all
    rw [if_neg (by rw [hbb]; simp)]
   ·rw [wrap_succ (by omega)]
    show ((most : Int) - ((i + 1 : Nat) : Int)).toNat < ((most : Int) - ((i : Nat) : Int)).toNat
    omega
 ·have hii : i = most := by omega
  subst hii
  rw [Nat.sub_self] at he
  refine W.call_of (c_gLetters h1) ?_
  rintro _ s1 ⟨rfl, rfl⟩
  refine ⟨(((G1.bag.length : Int), ()), ()), rfl, ?_⟩
  simp only [hbe]
  rw [← he]
  exact ⟨rfl, rfl, ms1, t1, h1, st1⟩
end
end
section
attribute [-simp] Fw.W.ld_iff Fw.W.st_iff
def i64B (n : Int) : Bool := decide (-9223372036854775808 ≤ n) && decide (n < 9223372036854775808)
theorem i64B_ok {n : Int} (h : i64B n = true) : I64 n := by
 unfold i64B at h
 simp only [Bool.and_eq_true, decide_eq_true_eq] at h
 exact h
def entB (e : Ent) : Bool := i64B e.term && (i64B e.at_ && (i64B e.born && decide (e.text.size ≤ 65536)))
theorem entB_ok {e : Ent} (h : entB e = true) : e.I ∧ e.text.size ≤ 65536 := by
 unfold entB at h
 simp only [Bool.and_eq_true, decide_eq_true_eq] at h
 exact ⟨⟨i64B_ok h.1, i64B_ok h.2.1, i64B_ok h.2.2.1⟩, h.2.2.2⟩
def BS.fitB (B : BS) : Bool := B.runB && ((B.whole || (decide (B.base < B.from_) && decide (B.from_ ≤ B.lst + 1))) && (decide (-4611686018427387904 ≤ B.term) && (decide (B.term ≤ 4611686018427387904) && (i64B B.vote && (i64B B.baseTerm && (B.log.all entB && (decide (B.log.length ≤ 1000000) && decide (B.snap.size ≤ 1073741824))))))))
theorem fitB_ok {B : BS} (h : B.fitB = true) : B.Fit := by
 unfold BS.fitB at h
 simp only [Bool.and_eq_true, decide_eq_true_eq, Bool.or_eq_true, List.all_eq_true] at h
 obtain ⟨h1, h2, h3, h4, h5, h6, h7, h8, h9⟩ := h
 refine ⟨BS.runB_run h1, fun hw => ?_, ⟨h3, h4⟩, i64B_ok h5, i64B_ok h6, fun e he => entB_ok (h7 e he), h8, h9⟩
 rcases h2 with h2 | h2
 ·rw [h2] at hw; cases hw
 ·exact h2
def Msg.fitB (n : Nat) (M : Msg) : Bool := M.nums.all i64B && (M.list.all entB && (decide (M.list.length ≤ 1000000) && (decide (M.snap.size ≤ 1073741824) && (decide (0 ≤ M.to) && decide (M.to < n)))))
theorem mfitB_ok {n : Nat} {M : Msg} (h : M.fitB n = true) : M.Fit ∧ 0 ≤ M.to ∧ M.to < n := by
 unfold Msg.fitB at h
 simp only [Bool.and_eq_true, decide_eq_true_eq, List.all_eq_true] at h
 obtain ⟨h1, h2, h3, h4, h5, h6⟩ := h
 exact ⟨⟨⟨fun x hx => i64B_ok (h1 x hx), fun x hx => (entB_ok (h2 x hx)).1, by omega⟩, fun x hx => (entB_ok (h2 x hx)).2, h3, h4⟩, h5, h6⟩
def rfitB (n : Nat) (R : BS × List Msg) : Bool := R.1.fitB && (R.2.all (Msg.fitB n) && decide (R.2.length ≤ 20))
theorem rfitB_ok {n : Nat} {R : BS × List Msg} (h : rfitB n R = true) : RFit n R := by
 unfold rfitB at h
 simp only [Bool.and_eq_true, decide_eq_true_eq, List.all_eq_true] at h
 exact ⟨fitB_ok h.1, fun M hM => mfitB_ok (h.2.1 M hM), h.2.2⟩
def dlB (D : Dl) : Bool := i64B D.term && (i64B D.vote && (i64B D.base && (i64B D.baseTerm && (i64B D.from_ && (D.list.all entB && (decide (D.list.length ≤ 1000000) && decide ((encD D).length ≤ 70000)))))))
theorem dlB_ok {D : Dl} (h : dlB D = true) : D.I ∧ (encD D).length ≤ 1099511627776 := by
 unfold dlB at h
 simp only [Bool.and_eq_true, decide_eq_true_eq, List.all_eq_true] at h
 obtain ⟨h1, h2, h3, h4, h5, h6, h7, h8⟩ := h
 exact ⟨⟨⟨i64B_ok h1, i64B_ok h2, i64B_ok h3, i64B_ok h4, i64B_ok h5⟩, fun x hx => (entB_ok (h6 x hx)).1, by omega⟩, by omega⟩
def Nd.fitB (N : Nd) : Bool := (match N.b with | some B => B.fitB | .none => true) && (N.put.all dlB && (decide (dtot N.put ≤ 1000000) && (decide (N.put.length ≤ 1000000) && (decide ((N.d.got LOG).1.size ≤ 1000000) &&
 (N.d.files.all (fun p => decide (p.1.size ≤ 1000) && (decide (0 ≤ p.2.2) && (decide (p.2.2 ≤ p.2.1.size) && decide (p.2.1.size ≤ 1000000)))) && (decide (N.d.files.length ≤ 1000) &&
 (!bigB (N.put.map encDB) && ((N.d.got LOG).1 == recsB (N.put.map encDB) && (decide (((recsB (N.put.map encDB)).size : Int) ≤ (N.d.got LOG).2) && decide ((N.d.got LOG).2 ≤ (N.d.got LOG).1.size))))))))))
theorem ndfitB_ok {N : Nd} (h : N.fitB = true) : N.Disk ∧ ∀ B, N.b = some B → B.Fit := by
 unfold Nd.fitB at h
 simp only [Bool.and_eq_true, decide_eq_true_eq, List.all_eq_true, Bool.not_eq_true', beq_iff_eq] at h
 obtain ⟨h1, h2, h3, h4, h5, h6, h7, h8, h9, h10, h11⟩ := h
 have hmax : maxLen = 9223372036854775807 := rfl
 refine ⟨⟨⟨(N.put.map encDB).length, ⟨Nat.le_refl _, h8, ⟨_, Nat.le_refl _, Nat.le_refl _, by rw [List.take_length]; exact h9⟩, ⟨by rw [List.take_length]; exact h10, h11⟩, fun _ => rfl⟩⟩, fun D hD => dlB_ok (h2 D hD), h3, h4, ⟨fun p hp => ?_, by omega, fun p hp => ?_⟩, by omega⟩, fun B hB => ?_⟩
 ·have := (h6 p hp).1; omega
 ·obtain ⟨_, q1, q2, q3⟩ := h6 p hp; exact ⟨q1, q2, by omega⟩
 ·rw [hB] at h1; exact fitB_ok h1
def Grp.fitB (G : Grp) : Bool := G.nodes.all Nd.fitB && (G.bag.all (Msg.fitB G.nodes.length) && (decide (G.bag.length ≤ 1000000) && (decide (1 ≤ G.nodes.length) && (decide (G.nodes.length ≤ 5) && (decide (-4611686018427387904 ≤ G.acts) && decide (G.acts ≤ 4611686018427387904))))))
theorem gfitB_ok {G : Grp} (h : G.fitB = true) : G.Fit := by
 unfold Grp.fitB at h
 simp only [Bool.and_eq_true, decide_eq_true_eq, List.all_eq_true] at h
 obtain ⟨h1, h2, h3, h4, h5, h6, h7⟩ := h
 refine ⟨fun i N hN => ?_, fun i N hN => ?_, fun m hm => mfitB_ok (h2 m hm), h3, ⟨h4, h5⟩, ⟨h6, h7⟩⟩
 ·obtain ⟨hd, hb⟩ := ndfitB_ok (h1 N (List.mem_of_getElem? hN))
  exact ⟨hd.size, hd.ok, hb⟩
 ·obtain ⟨hd, hb⟩ := ndfitB_ok (h1 N (List.mem_of_getElem? hN))
  exact ⟨hd.kept, hd.put, hd.tot, hd.few⟩
def Grp.upB (G : Grp) (i : Nat) (f : BS → Bool) : Bool := match G.nodes[i]? with
 | some N => (match N.b with
  | some B => f B
  | none => true)
 | none => true
theorem upB_ok {G : Grp} {i : Nat} {f : BS → Bool} (h : G.upB i f = true) : ∀ N B, G.nodes[i]? = some N → N.b = some B → f B = true := by
 intro N B hN hB
 unfold Grp.upB at h
 rw [hN] at h
 dsimp only at h
 rw [hB] at h
 exact h
def Grp.pre1B (G : Grp) : Bool := G.fitB && (match G.bag[(plc 0 G.bag.length).toNat]? with | some M => G.upB M.to.toNat (fun B => rfitB G.nodes.length (B.take M)) | none => true)
theorem pre1B_ok {G : Grp} (h : G.pre1B = true) : G.Pre 1 0 ⟨#[]⟩ := by
 unfold Grp.pre1B at h
 simp only [Bool.and_eq_true] at h
 refine ⟨gfitB_ok h.1, fun _ M hM N B hN hB => ?_, fun e => (by cases e), fun e => (by cases e), fun e => (by cases e), fun e => (by cases e)⟩
 have h2 := h.2
 rw [hM] at h2
 exact rfitB_ok (upB_ok h2 N B hN hB)
def Grp.pre4B (G : Grp) : Bool := G.fitB && G.upB (G.pl 0) (fun B => rfitB G.nodes.length B.timeout)
theorem pre4B_ok {G : Grp} (h : G.pre4B = true) : G.Pre 4 0 ⟨#[]⟩ := by
 unfold Grp.pre4B at h
 simp only [Bool.and_eq_true] at h
 refine ⟨gfitB_ok h.1, fun e => (by rcases e with e | e <;> cases e), fun _ N B hN hB => rfitB_ok (upB_ok h.2 N B hN hB), fun e => (by cases e), fun e => (by cases e), fun e => (by cases e)⟩
def Grp.pre6B (G : Grp) (x : ByteArray) : Bool := G.fitB && G.upB (G.pl 0) (fun B => rfitB G.nodes.length (B.propose 0 G.acts x).2)
theorem pre6B_ok {G : Grp} {x : ByteArray} (h : G.pre6B x = true) : G.Pre 6 0 x := by
 unfold Grp.pre6B at h
 simp only [Bool.and_eq_true] at h
 refine ⟨gfitB_ok h.1, fun e => (by rcases e with e | e <;> cases e), fun e => (by cases e), fun e => (by cases e), fun _ _ N B hN hB => rfitB_ok (upB_ok h.2 N B hN hB), fun e => (by cases e)⟩
def allPreB : Nat → Grp → Bool
 | 0, _ => true
 | f + 1, G => if G.bag.isEmpty = true then true else decide (-4611686018427387904 ≤ G.acts) && (decide (G.acts ≤ 4611686018427387904) && (G.tick.pre1B && allPreB f (G.act 1 0 0 ⟨#[]⟩)))
theorem allPreB_ok : ∀ (f : Nat) (G : Grp), allPreB f G = true → AllPre f G
 | 0, G, _ => .zero G
 | f + 1, G, h => by
  unfold allPreB at h
  split at h
  ·rename_i hb
   exact .none f G (List.isEmpty_iff.1 hb)
  ·rename_i hb
   simp only [Bool.and_eq_true, decide_eq_true_eq] at h
   exact .step f G (fun e => hb (List.isEmpty_iff.2 e)) ⟨h.1, h.2.1⟩ (pre1B_ok h.2.2.1) (allPreB_ok f _ h.2.2.2)
theorem txts_nat (G : Grp) (i : Nat) : G.txts (i : Int) = G.txt i := by
 unfold Grp.txts Grp.balAt Grp.txt
 rw [if_neg (by omega), Int.toNat_natCast]
 cases G.nodes[i]? with
 | none => rfl
 | some N => rfl
theorem aw_ok : awOk = true := by kernel_rfl
theorem aw_pre : ((Grp.new 3).tick.pre4B && (allPreB 100 awA && (awB.2.tick.pre6B ⟨#[120]⟩ && (allPreB 100 awC && (awB.2.fitB && awD.2.fitB))))) = true := by kernel_rfl
theorem aw_num : decide (awB.2.acts ≤ 1000 ∧ 0 ≤ awB.2.acts) = true := by kernel_rfl
theorem c_awake11 (s : PH) : DCalls Tryz.prog 9 #[] s fun y s' => y = .bool true ∧ s' = s := by
 refine DCalls.quiet (ok_lawake _ s ?_)
 unfold vc_lawake
 have hok := aw_ok
 have hpre := aw_pre
 have hnum := aw_num
 simp only [Bool.and_eq_true] at hpre
 obtain ⟨p1, p2, p3, p4, p5, p6⟩ := hpre
 simp only [decide_eq_true_eq] at hnum
 unfold awOk at hok
 simp only [Bool.and_eq_true, beq_iff_eq] at hok
 obtain ⟨⟨⟨⟨o1, o2⟩, o3⟩, o4⟩, o5⟩ := hok
 simp only [RP_call]
 refine W.call_of (c_gNew (n := 3) (by omega) (by omega) s) ?_
 rintro _ s1 ⟨g, na, p, ms, t, rfl, h1, m1, hfr⟩
 refine ⟨((some ⟨g, 0, none⟩, ()), (0, ()), ()), rfl, ?_⟩
 refine W.call_of (c_gDo h1 ⟨by show _ ≤ (0 : Int); omega, by show (0 : Int) ≤ _; omega⟩ 4 0 0 ⟨#[]⟩ (pre4B_ok p1)) ?_
 rintro _ s2 ⟨rfl, ms2, t2, h2, st2⟩
 refine ⟨(), rfl, ?_⟩
 have h2 : GrpIs s2 g na p ms2 t2 awA := h2
 refine W.call_of (c_lall h2 (most := 100) (by omega) (allPreB_ok _ _ p2)) ?_
 rintro _ s3 ⟨rfl, _, ms3, t3, h3, st3⟩
 have h3 : GrpIs s3 g na p ms3 t3 awB.2 := h3
 have ob : (Grp.all 100 awA).1 = true := o1
 rw [ob]
 refine ⟨((true, ()), ()), rfl, ?_⟩
 refine W.call_of (c_gStand h3 (gfitB_ok p5) 0) ?_
 rintro _ s4 ⟨rfl, m4⟩
 obtain ⟨B, hB, hrole⟩ : ∃ B, awB.2.balAt 0 = some B ∧ B.role = 2 := by
  unfold roleAt at o2
  unfold Grp.balAt
  rw [if_neg (by omega)]
  have e0 : (0 : Int).toNat = 0 := rfl
  rw [e0]
  cases hN : awB.2.nodes[0]? with
  | none => rw [hN] at o2; cases o2
  | some N =>
   rw [hN] at o2
   dsimp only at o2 ⊢
   cases hb : N.b with
   | none => rw [hb] at o2; cases o2
   | some B => rw [hb] at o2; exact ⟨B, rfl, by simpa using o2⟩
 rw [hB]
 refine ⟨((B.term, B.vote, B.role, B.lead, B.base, B.lst, B.commit, ()), (true, ()), ()), rfl, ?_⟩
 have h4 := h3.new m4
 refine W.call_of (c_gDo h4 ⟨by omega, by omega⟩ 6 0 0 ⟨#[120]⟩ (pre6B_ok p3)) ?_
 rintro _ s5 ⟨rfl, ms5, t5, h5, st5⟩
 have h5 : GrpIs s5 g na p ms5 t5 awC := h5
 refine ⟨(), rfl, ?_⟩
 have c01 : Step [] (GF g na p ms t) s s1 := ⟨m1, fun x hx => .inr (hfr x hx)⟩
 have c34 : Step (GF g na p ms3 t3) (GF g na p ms3 t3) s3 s4 := ⟨m4.mono (by simp), fun x hx => .inl hx⟩
 have c05 := (((c01.trans st2).trans st3).trans c34).trans st5
 simp only [RP_join]
 refine W.join_gen (fun z s' => z = ((some ⟨g, 0, none⟩, ()), (0, ()), (true, ()), (B.term, B.vote, B.role, B.lead, B.base, B.lst, B.commit, ()), (true, ()), ()) ∧ ∃ ms6 t6, GrpIs s' g na p ms6 t6 awD.2 ∧ Step [] (GF g na p ms6 t6) s s') ?_ ?_
 ·rintro _ s6 ⟨rfl, ms6, t6, h6, st6⟩
  have hr2 : (B.role == 2) = true := by simp [hrole]
  simp only [RP_ite, beq_self_eq_true, hr2, W.br_true]
  refine W.call_of (c_gTexts h6 (gfitB_ok p6) 1) ?_
  rintro _ s7 ⟨tt, rfl, hrow, hft, m7⟩
  refine ⟨((tt, ()), ()), rfl, ?_⟩
  have ht1 : awD.2.txts 1 = [⟨#[120]⟩] := (txts_nat awD.2 1).trans o4
  have ht2 : awD.2.txts 2 = [⟨#[120]⟩] := (txts_nat awD.2 2).trans o5
  rw [ht1] at hrow
  simp only [RP_nw]
  refine W.nw_of fun r s8 hr8 m8 k8 => ?_
  have hmax : (1 : Nat) ≤ 1099511627776 := by omega
  refine W.call_of (c_Same (l := [⟨#[120]⟩]) (k := [⟨#[120]⟩]) ((elems.of_row hrow).mono m8.le) (elems_one k8) (by simp) (by simp)) ?_
  intro y9 s9 hy9
  have hs : y9 = .bool true ∧ s9 = s8 := by
   obtain ⟨e1, e2⟩ := hy9
   exact ⟨by rw [e1]; simp, e2⟩
  obtain ⟨rfl, rfl⟩ := hs
  refine ⟨((true, ()), ()), rfl, ?_⟩
  simp only [W.br_true]
  refine W.call_of (c_gTexts ((h6.new m7).new m8) (gfitB_ok p6) 2) ?_
  rintro _ s10 ⟨tt2, rfl, hrow2, hft2, m10⟩
  refine ⟨((tt2, ()), ()), rfl, ?_⟩
  rw [ht2] at hrow2
  refine W.nw_of fun r2 s11 hr11 m11 k11 => ?_
  refine W.call_of (c_Same (l := [⟨#[120]⟩]) (k := [⟨#[120]⟩]) ((elems.of_row hrow2).mono m11.le) (elems_one k11) (by simp) (by simp)) ?_
  intro y12 s12 hy12
  have hs : y12 = .bool true ∧ s12 = s11 := by
   obtain ⟨e1, e2⟩ := hy12
   exact ⟨by rw [e1]; simp, e2⟩
  obtain ⟨rfl, rfl⟩ := hs
  refine ⟨((true, ()), ()), rfl, rfl, ?_⟩
  exact (((st6.mod.trans m7).trans m8).trans m10).trans m11
 ·intro J hJ
  simp only [RP_ite, W.br_true]
  refine W.call_of (c_lall h5 (most := 100) (by omega) (allPreB_ok _ _ p4)) ?_
  rintro _ s6 ⟨rfl, _, ms6, t6, h6, st6⟩
  have od : (Grp.all 100 awC).1 = true := o3
  rw [od]
  refine ⟨((true, ()), ()), rfl, ?_⟩
  exact hJ _ _ ⟨rfl, ms6, t6, h6, c05.trans st6⟩
end
section
attribute [-simp] Fw.W.ld_iff Fw.W.st_iff
structure ActD where
 kind : Int
 a : Int
 b : Int
 text : ByteArray
def rdAct : Rd ActD := (Rd.pair (Rd.int .i64) (Rd.pair (Rd.int .i64) (Rd.pair (Rd.int .i64) (Rd.pair Rd.str Rd.unit)))).map fun x => ⟨x.1, x.2.1, x.2.2.1, x.2.2.2.1⟩
theorem opensAct : Opens Tryz.prog 30 rdAct :=
 opens_map _ (opens_struct (.cons rfl (opens_int Tryz.underlying3 (by kernel_rfl)) (.cons rfl (opens_int Tryz.underlying3 (by kernel_rfl)) (.cons rfl (opens_int Tryz.underlying3 (by kernel_rfl))
  (.cons rfl (opens_str Tryz.underlying9 (by kernel_rfl)) (.nil _))))) Tryz.underlying30 (by kernel_rfl))
theorem rdAct_is {s : PH} {cs : List Value} {o : ActD} (h : rdAct.is s cs o) : cs = [.int .i64 o.kind, .int .i64 o.a, .int .i64 o.b, .string o.text] := by
 obtain ⟨x, rfl, c1, c2, rfl, ⟨rfl, h1⟩, d1, d2, rfl, ⟨rfl, h2⟩, e1, e2, rfl, ⟨rfl, h3⟩, f1, f2, rfl, ⟨rfl, h4⟩, rfl⟩ := h
 first | done | rfl
end
section
def gh0 : Gh := ⟨fun _ => 0, fun _ _ => none, fun _ _ => none, fun _ => none, fun _ => [], fun _ _ => 0⟩
theorem gh0_ok (n A : Nat) : GhOk gh0 n A := by
 have hF : FAR = 1099511627776 := rfl
 exact ⟨fun T i h => (by cases h), fun T v c h => (by cases h), fun T h => absurd rfl h, fun T T' k _ h => absurd rfl h, fun T v h => absurd h (by show ¬ 0 < 0; omega), fun T v c h => (by cases h), fun T c C h => (by cases h), fun v => by show (0 : Int) ≤ _; omega⟩
theorem start_none (i n : Int) : Nd.none.start i n 0 = ⟨some (newBS i n).rst, ⟨[], false, 0⟩, []⟩ := by
 have e : ((Nd.none.d.crash [0]).opens LOG) = (([], 0), ⟨[], false, 0⟩) := by kernel_rfl
 unfold Nd.start
 rw [e, if_neg (by simp)]
 first | done | rfl
theorem new_inv {i n : Nat} (hi : i < n) (hn : n ≤ 5) : (newBS i n).Inv 0 := by
 have hF : FAR = 1099511627776 := rfl
 have hl : (newBS (i : Int) n).lst = 0 := rfl
 exact ⟨⟨BS.Ok.of (Int.le_refl _) (by rw [hl]; omega) (by show 0 ≤ 1000000; omega) (by show 1 ≤ (n : Int) ∧ (n : Int) ≤ 5; omega) (by show 0 ≤ (i : Int) ∧ (i : Int) < n; omega) (Int.le_refl _), by rw [hl]; exact Int.le_refl _, fun e => absurd e (by show ¬ (0 : Int) = 1; omega), fun e => absurd e (by show ¬ (0 : Int) = 2; omega)⟩,
  by show ((0 : Nat) : Int) ≤ 0; omega, by rw [hl]; omega, by show 0 ≤ (0 : Int) ∧ (0 : Int) ≤ _; omega, by show (-1 : Int) ≤ -1; omega⟩
theorem GI.new {n : Nat} (h1 : 1 ≤ n) (h5 : n ≤ 5) : GI n 0 (Grp.new n) (fun _ => True) fun _ => 0 := by
 have hlen : (Grp.new n).nodes.length = n := by unfold Grp.new; simp
 have hget : ∀ i N, (Grp.new n).nodes[i]? = some N → i < n ∧ N = ⟨some (newBS i n).rst, ⟨[], false, 0⟩, []⟩ := by
  intro i N hN
  have hi := (List.getElem?_eq_some_iff.1 hN).1
  rw [hlen] at hi
  unfold Grp.new at hN
  simp only [List.getElem?_map, List.getElem?_range hi, Option.map_some, Option.some.injEq] at hN
  exact ⟨hi, by rw [← hN, start_none]⟩
 refine ⟨hlen, ⟨h1, h5⟩, by omega, rfl, Nat.le_refl _, fun i N hN => ?_, fun σ hσ => ?_⟩
 ·obtain ⟨hi, rfl⟩ := hget i N hN
  have hI := new_inv hi h5
  have hI' : (newBS (i : Int) n).Inv (10 * (0 : Nat)) := hI.mono (by omega)
  refine ⟨Kept.start, fun m _ hm => ⟨newBS i n, ?_, rfl, rfl, hI'⟩, fun B hB => ?_, by show 0 ≤ (0 : Int) ∧ (0 : Int) ≤ _; omega, ⟨_, Sim.start⟩, by simp, by simp [dtot], Nat.le_refl _⟩
  ·have hm : m ≤ 0 := hm
   rw [show m = 0 by omega]; exact Saved.new _ _
  ·cases hB
   exact ⟨rfl, rst_clean _, Saved.new _ _, rfl, rfl, Inv.rst hI' (Int.le_refl _), Fr.rst (Int.le_refl _)⟩
 ·refine ⟨gh0, fun _ => [], ⟨gh0_ok n 0, fun i hi => ?_, fun M hM => by cases hM⟩, trivial⟩
  obtain ⟨N, hN⟩ : ∃ N, (Grp.new n).nodes[i]? = some N := ⟨_, List.getElem?_eq_getElem (by rw [hlen]; exact hi)⟩
  obtain ⟨_, rfl⟩ := hget i N hN
  have hs : σ i = (newBS i n).rst := by
   rcases hσ i _ hN with h | ⟨h, _⟩
   ·exact (Option.some.inj h).symm
   ·cases h
  rw [hs]
  refine ⟨⟨Int.le_refl _, Nat.le_refl _, rfl, rfl, rfl⟩, rfl, rfl, hi, rfl, ?_, by show (-1 : Int) < n; omega, fun k e h => (by cases h), fun T k h0 h1 => absurd h1 (by show ¬ k ≤ 0; omega), .inl rfl, fun e => absurd e (by show ¬ (0 : Int) = 2; omega), fun e => absurd e (by show ¬ (0 : Int) = 1; omega), fun T _ => ⟨rfl, by show (none : Option Nat) ≠ _; simp⟩⟩
  show (none : Option Nat) = if 0 ≤ (-1 : Int) then _ else none
  rw [if_neg (by omega)]
section
variable {n A : Nat} {G : Grp} {H : Gh → Prop} {su : Nat → Nat}
theorem GI.learn (h : GI n A G H su) (K : Gh → Prop) (hK : ∀ σ gh Fs, (∀ i N, G.nodes[i]? = some N → Cand n i (su i) N (σ i)) → Sys n A σ G.bag gh Fs → H gh → K gh) : GI n A G K su :=
 ⟨h.sz, h.n1, h.le, h.acts, h.bag, h.nds, fun σ hσ => by
  obtain ⟨gh, Fs, h1, h2⟩ := h.all σ hσ
  exact ⟨gh, Fs, h1, hK σ gh Fs hσ h1 h2⟩⟩
theorem GI.up (h : GI n A G H su) {σ : Nat → BS} {gh : Gh} {Fs : Nat → List Ent} (hσ : ∀ i N, G.nodes[i]? = some N → Cand n i (su i) N (σ i)) (hS : Sys n A σ G.bag gh Fs) {i : Int} {B : BS} (hb : G.balAt i = some B) :
  0 ≤ i ∧ i.toNat < n ∧ NodeOk gh n i.toNat B (Fs i.toNat) ∧ B.Inv (10 * A) ∧ B.Fr := by
 unfold Grp.balAt at hb
 split at hb
 ·cases hb
 ·rename_i hi
  split at hb
  ·rename_i N hN
   have hlt := (List.getElem?_eq_some_iff.1 hN).1
   rw [h.sz] at hlt
   have hs : σ i.toNat = B := by
    rcases hσ _ _ hN with e | ⟨e, _⟩
    ·rw [hb] at e; cases e; (first | done | rfl)
    ·rw [hb] at e; cases e
   have hN1 := hS.nd _ hlt
   rw [hs] at hN1
   obtain ⟨u1, u2, u3, u4, u5, u6, u7⟩ := (h.nds _ _ hN).up B hb
   exact ⟨by omega, hlt, hN1, u6, u7⟩
  ·cases hb
end
end
section
attribute [-simp] Fw.W.ld_iff Fw.W.st_iff
theorem wf64 {n : Int} (h : (Lit.int .i64 n).wf = true) : n ≤ 9223372036854775807 := (wf_i64 h).2
theorem act_at {s : PH} {a : Option Addr} {n : Nat} {ops : List ActD} (h : elems rdAct s a n ops) {i : Nat} {o : ActD} (ho : ops[i]? = some o) : ∃ ad, a = some ad ∧ s.has (ad.add (i * 4)) [.int .i64 o.kind, .int .i64 o.a, .int .i64 o.b, .string o.text] ∧ o.b ≤ 9223372036854775807 := by
 obtain ⟨ad, cs, h1, h2, h3⟩ := h.2 i o ho
 refine ⟨ad, h1, ?_, ?_⟩
 ·rw [rdAct_is h2] at h3; exact h3
 ·obtain ⟨x, rfl, c1, c2, rfl, ⟨rfl, w1⟩, d1, d2, rfl, ⟨rfl, w2⟩, e1, e2, rfl, ⟨rfl, w3⟩, f1, f2, rfl, ⟨rfl, w4⟩, rfl⟩ := h2
  exact wf64 w3
def GrtZ (a : Option Addr) (n c : Nat) (s : PH) (z : MDen [(false, [.int .i64]), (false, [.slice]), (false, [.int .i64]), (false, [.int .i64])]) (s' : PH) : Prop := ∃ (x : Int) (i : Nat), z = ((x, ()), ((a, n, c), ()), ((n : Int), ()), ((i : Int), ()), ()) ∧ i ≤ n ∧ s' = s
theorem c_lgreat {s : PH} {a : Option Addr} {n c : Nat} {ops : List ActD} (h : elems rdAct s a n ops) (hn : n ≤ 140737488355328) : DCalls Tryz.prog 10 #[.slice a n c] s fun y s' => s' = s ∧ ∃ v, y = .bool v ∧ (v = false → n ≤ 400) := by
 refine ok_lgreat a n c _ s ?_
 unfold vc_lgreat
 have hlen := h.1
 simp only [RP_loop]
 refine ⟨GrtZ a n c s, fun z _ => n - z.2.2.2.1.1.toNat, ⟨0, 0, rfl, Nat.zero_le _, rfl⟩, ?_⟩
 rintro _ s1 ⟨x, i, rfl, hi, e1⟩
 subst e1
 simp only [RP_ite, W.br_iff, decide_eq_true_eq, decide_eq_false_iff_not, RP_guard, W.guard_iff, Int.toNat_natCast, RP_unSome, RP_ld]
 refine ⟨fun hlt => ⟨by omega, ?_⟩, fun hge => ?_⟩
 ·obtain ⟨o, ho⟩ : ∃ o, ops[i]? = some o := ⟨_, List.getElem?_eq_getElem (by omega)⟩
  obtain ⟨ad, rfl, hhas, hb⟩ := act_at h ho
  simp only [W.unSome_some]
  refine ld_has_z hhas (y := (o.kind, o.a, o.b, o.text, ())) rfl ?_
  simp only [W.br_iff, decide_eq_true_eq, decide_eq_false_iff_not]
  refine ⟨fun _ => ⟨rfl, true, rfl, fun e => by cases e⟩, fun _ => ⟨⟨_, i + 1, by rw [show i64.wrap ((i : Int) + 1) = ((i + 1 : Nat) : Int) from wrap_succ (by omega)], by omega, rfl⟩, ?_⟩⟩
  rw [show i64.wrap ((i : Int) + 1) = ((i + 1 : Nat) : Int) from wrap_succ (by omega)]
  show n - ((i + 1 : Nat) : Int).toNat < n - (i : Int).toNat
  omega
 ·refine ⟨rfl, _, rfl, fun e => ?_⟩
  simp only [decide_eq_false_iff_not] at e
  omega
theorem size_of (size : Int) : ∃ n : Nat, i64.wrap (i64.wrap ((u64.wrap size).tmod 5) + 1) = n ∧ 1 ≤ n ∧ n ≤ 5 := by
 have h0 : 0 ≤ u64.wrap size := by
  have e : u64.wrap size = size % 18446744073709551616 := by simp [IntKind.wrap, IntKind.bits, IntKind.signed]
  rw [e]; omega
 obtain ⟨m, hm⟩ : ∃ m : Nat, (u64.wrap size).tmod 5 = m ∧ m < 5 := by
  refine ⟨((u64.wrap size).tmod 5).toNat, ?_, ?_⟩
  ·rw [Int.toNat_of_nonneg (Int.tmod_nonneg _ h0)]
  ·have := Int.tmod_lt_of_pos (u64.wrap size) (show (0 : Int) < 5 by omega)
   omega
 refine ⟨m + 1, ?_, by omega, by omega⟩
 rw [hm.1, wrap_in (n := (m : Int)) (by omega) (by omega), wrap_in (by omega) (by omega)]; push_cast; (first | done | rfl)
structure Live (n A : Nat) (H : Gh → Prop) (s0 s : PH) (g na p : Nat) (ms : List Mem) (t : Tri) (G : Grp) (su : Nat → Nat) : Prop where
 grp : GrpIs s g na p ms t G
 gi : GI n A G H su
 mod : Fw.Mod [] s0 s
 fresh : ∀ x ∈ GF g na p ms t, s0 x = none
theorem c_lbegun (size : Int) (s : PH) : DCalls Tryz.prog 8 #[.int .i64 size] s fun y s' => ∃ (n : Nat) (g na p : Nat) (ms : List Mem) (t : Tri) (su : Nat → Nat), y = .tuple #[gptr g, .int .i64 (n : Int), .bool true] ∧ Live n 0 (fun _ => True) s s' g na p ms t (Grp.new n) su := by
 refine ok_lbegun size _ s ?_
 unfold vc_lbegun
 obtain ⟨n, hn, h1, h5⟩ := size_of size
 simp only [hn, RP_call]
 refine W.call_of (c_gNew h1 h5 s) ?_
 rintro _ s1 ⟨g, na, p, ms, t, rfl, hg, m1, hf⟩
 refine ⟨((some ⟨g, 0, none⟩, ()), (0, ()), ()), rfl, ?_⟩
 simp only [RP_ite, beq_self_eq_true, W.br_true]
 exact ⟨n, g, na, p, ms, t, _, rfl, ⟨hg, GI.new h1 h5, m1, hf⟩⟩
section
variable {n A : Nat} {H : Gh → Prop} {s0 s : PH} {g na p : Nat} {ms : List Mem} {t : Tri} {G : Grp} {su : Nat → Nat}
theorem Live.new (h : Live n A H s0 s g na p ms t G su) {s' : PH} (hm : Fw.Mod [] s s') : Live n A H s0 s' g na p ms t G su := ⟨h.grp.new hm, h.gi, h.mod.trans hm, h.fresh⟩
theorem Live.off (h : Live n A H s0 s g na p ms t G su) {s' : PH} {r : Nat} (hm : Fw.Mod [r] s s') (hr : s0 r = none) (hg : r ∉ GF g na p ms t) : Live n A H s0 s' g na p ms t G su :=
 ⟨h.grp.mod hm fun x hx => by simp; rintro rfl; exact hg hx, h.gi, h.mod.fresh hm fun x hx => by simp at hx; subst hx; exact .inr hr, h.fresh⟩
theorem Live.known (h : Live n A H s0 s g na p ms t G su) : ∀ x ∈ GF g na p ms t, s x ≠ none := by
 intro x hx
 simp only [GF, List.mem_cons, List.mem_append, List.mem_flatMap] at hx
 rcases hx with rfl | rfl | rfl | hx | ⟨r, hr, hx⟩
 ·rw [h.grp.cell]; simp
 ·rw [h.grp.arr]; simp
 ·rw [h.grp.post.cell]; simp
 ·exact h.grp.post.row.known x hx
 ·obtain ⟨j, hj⟩ := List.mem_iff_getElem?.1 hr
  obtain ⟨M, hM⟩ := h.grp.node hj
  exact (h.grp.nds j r M hj hM).known x hx
theorem c_live (h : Live n A H s0 s g na p ms t G su) (hH : Mono H) (hA : A + 1 ≤ 500) (k a b : Int) (hb : b ≤ 9223372036854775807) (x : ByteArray) : DCalls Tryz.prog 11 #[gptr g, actV k a b x] s fun y s' => y = .tuple #[] ∧
  ∃ ms' t' G' su', Live n (A + 1) H s0 s' g na p ms' t' G' su' ∧ Step (GF g na p ms t) (GF g na p ms' t') s s' := by
 obtain ⟨hp, su', hg⟩ := h.gi.act hH hA k a b hb x
 refine (c_gDo h.grp (by rw [h.gi.acts]; unfold Num; have := h.gi.le; omega) k a b x hp).mono fun y s' hq => ?_
 obtain ⟨rfl, ms', t', h1, st⟩ := hq
 refine ⟨rfl, ms', t', _, su', ⟨h1, hg, h.mod.fresh st.mod fun z hz => .inr (h.fresh z hz), fun z hz => ?_⟩, st⟩
 rcases st.new z hz with hz | hz
 ·exact h.fresh z hz
 ·exact h.mod.none hz (by simp)
theorem Live.apart (h : Live n A H s0 s g na p ms t G su) {ms' : List Mem} {t' : Tri} {s' : PH} (st : Step (GF g na p ms t) (GF g na p ms' t') s s') {L : List Nat} (hL : ∀ x ∈ L, x ∉ GF g na p ms t) (hk : ∀ x ∈ L, s x ≠ none) : ∀ x ∈ L, x ∉ GF g na p ms' t' := st.apart hL hk
end
abbrev stZ (B : BS) : Den [CT.int .i64, CT.int .i64, CT.int .i64, CT.int .i64, CT.int .i64, CT.int .i64, CT.int .i64] := (B.term, B.vote, B.role, B.lead, B.base, B.lst, B.commit, ())
end
section
open Fw.W
def vc_lholds {W : Type} (π : Prims W) (g : Nat) (i : Int) (st sv sr sl sb sla sc : Int) (m : Nat) : W :=
 π.rng (some m) fun r0 =>
 π.loop [(true, [.int .i64, .int .i64, .int .i64, .int .i64, .int .i64, .int .i64, .int .i64]), (false, [.addr])] ((st, sv, sr, sl, sb, sla, sc, ()), (Addr.mk r0 0 none, ()), ()) fun (((x2 : Int), (x3 : Int), (x4 : Int), (x5 : Int), (x6 : Int), (x7 : Int), (x8 : Int), _), (p9, _), _) again1 =>
  π.guard (p9.2 = (0 : Nat)) <|
  π.nxt (p9.1) fun v10 =>
  π.ext (v10) ((0 : Nat)) (false, [.bool]) fun ((b11 : Bool), _) =>
  π.ite (b11) (
   π.guard (p9.2 = (0 : Nat)) <|
   π.ent (p9.1) fun v12 =>
   π.ext (v12) ((0 : Nat)) (false, [.int .i64]) fun ((x13 : Int), _) =>
   π.ext (v12) ((1 : Nat)) (true, [.int .i64, .int .i64, .int .i64, .str, .int .i64]) fun ((x14 : Int), (x15 : Int), (x16 : Int), (t17 : ByteArray), (x18 : Int), _) =>
   π.join [(true, [.int .i64, .int .i64, .int .i64, .int .i64, .int .i64, .int .i64, .int .i64]), (false, [.int .i64]), (true, [.int .i64, .int .i64, .int .i64, .str, .int .i64]), (false, [.addr])] (fun J19 =>
    π.ite (decide (x18 ≥ x2)) (
     again1 ((x2, x3, x4, x5, x6, x7, x8, ()), (p9, ()), ())
    ) (
     π.ite (decide (x13 ≤ x6)) (
      again1 ((x2, x3, x4, x5, x6, x7, x8, ()), (p9, ()), ())
     ) (
      J19 ((x2, x3, x4, x5, x6, x7, x8, ()), (x13, ()), (x14, x15, x16, t17, x18, ()), (p9, ()), ())
     )
    )
   ) (fun (((x20 : Int), (x21 : Int), (x22 : Int), (x23 : Int), (x24 : Int), (x25 : Int), (x26 : Int), _), ((x27 : Int), _), ((x28 : Int), (x29 : Int), (x30 : Int), (t31 : ByteArray), (x32 : Int), _), (p33, _), _) =>
    π.call 15 #[(.pointer (some (Addr.mk g 0 none))), (.int .i64 i), (.int .i64 x27)] (true, [(true, [.int .i64, .int .i64, .int .i64, .str]), (false, [.bool])]) fun (((x34 : Int), (x35 : Int), (x36 : Int), (t37 : ByteArray), _), ((b38 : Bool), _), _) =>
    π.ite (!b38) (
     π.ret (.bool false)
    ) (
     π.ite (!(x34 == x28 && (x35 == x29 && (x36 == x30 && (t37 == t31 && true))))) (
      π.ret (.bool false)
     ) (
      again1 ((x20, x21, x22, x23, x24, x25, x26, ()), (p33, ()), ())
     )
    )
   )
  ) (
   π.ret (.bool true)
  )
def ann_lholds : Ann := { join := [(5, [(6, 37), (9, 3), (10, 47), (14, 1000000)])], loop := [(2, [(6, 37), (14, 1000000)])] }
def la_lholds : LA := { ptr := [(6, 6, 0), (10, 10, 0), (11, 11, 0), (20, 10, 4), (22, 6, 0), (27, 6, 4), (42, 10, 0)], ty := [(6, 37), (10, 47), (11, 43)] }
theorem eq_lholds {W : Type} (π : Prims W) (g : Nat) (i : Int) (st sv sr sl sb sla sc : Int) (m : Nat) : bodyE π Tryz.prog la_lholds ann_lholds 46 Tryz.f16 (bodyOf Tryz.f16) [.v (.pointer (some ⟨g, 0, none⟩)), .v (.int .i64 i), .v (.agg #[.int .i64 st, .int .i64 sv, .int .i64 sr, .int .i64 sl, .int .i64 sb, .int .i64 sla, .int .i64 sc]), .v (.map (some m))] [] = vc_lholds π g i st sv sr sl sb sla sc m := by kernel_rfl
theorem ok_lholds (g : Nat) (i : Int) (st sv sr sl sb sla sc : Int) (m : Nat) (R : RT) (s : PH) (h : vc_lholds (RP Tryz.prog R) g i st sv sr sl sb sla sc m s) : DCalls Tryz.prog 16 (List.map AV.val [.v (.pointer (some ⟨g, 0, none⟩)), .v (.int .i64 i), .v (.agg #[.int .i64 st, .int .i64 sv, .int .i64 sr, .int .i64 sl, .int .i64 sb, .int .i64 sla, .int .i64 sc]), .v (.map (some m))]).toArray s R :=
 callsE (c := bodyOf Tryz.f16) la_lholds mo Tryz.func16 rfl (by kernel_rfl) Tryz.ntmps16 rfl (by kernel_rfl) (eq_lholds ..) h
def vc_GroupHolds {W : Type} (π : Prims W) (size : Int) (a : Option Addr) (an ac : Nat) : W :=
 π.call 8 #[(.int .i64 size)] (true, [(false, [.ptr]), (false, [.int .i64]), (false, [.bool])]) fun ((p0, _), ((x1 : Int), _), ((b2 : Bool), _), _) =>
 π.join [(false, [.ptr]), (false, [.int .i64])] (fun J3 =>
  π.call 9 #[] (false, [(false, [.bool])]) fun (((b4 : Bool), _), _) =>
  π.ite (!b4) (
   π.call 9 #[] (false, [(false, [.bool])]) fun (((b5 : Bool), _), _) =>
   π.ret (.bool b5)
  ) (
   π.call 10 #[(.slice a an ac)] (false, [(false, [.bool])]) fun (((b6 : Bool), _), _) =>
   π.ite (b6) (
    π.call 9 #[] (false, [(false, [.bool])]) fun (((b7 : Bool), _), _) =>
    π.ret (.bool b7)
   ) (
    π.ite (!b2) (
     π.call 9 #[] (false, [(false, [.bool])]) fun (((b8 : Bool), _), _) =>
     π.ret (.bool b8)
    ) (
     J3 ((p0, ()), (x1, ()), ())
    )
   )
  )
 ) (fun ((p9, _), ((x10 : Int), _), _) =>
  π.nw (Obj.map #[] (0 : Nat)) fun r11 =>
  π.loop [(false, [.ptr]), (false, [.int .i64]), (false, [.map]), (false, [.slice]), (false, [.int .i64]), (false, [.int .i64])] ((p9, ()), (x10, ()), (some r11, ()), ((a, an, ac), ()), ((↑an : Int), ()), ((0 : Int), ()), ()) fun ((p13, _), ((x14 : Int), _), ((m15 : Option Nat), _), (((a16 : Option Addr), (n17 : Nat), (c18 : Nat)), _), ((x19 : Int), _), ((x20 : Int), _), _) again12 =>
   π.ite (decide (x20 < x19)) (
    π.guard (0 ≤ x20 ∧ x20 < (↑n17 : Int)) <|
    π.unSome (a16) fun p21 =>
    π.ld [.int .i64, .int .i64, .int .i64, .str] (p21.add (x20.toNat * 4)) fun ((x22 : Int), (x23 : Int), (x24 : Int), (t25 : ByteArray), _) =>
    π.call 11 #[(.pointer (p13)), (.agg #[(.int .i64 x22), (.int .i64 x23), (.int .i64 x24), (.string t25)])] (true, []) fun (_) =>
    π.loop [(false, [.ptr]), (false, [.int .i64]), (false, [.map]), (false, [.slice]), (false, [.int .i64]), (false, [.int .i64]), (false, [.int .i64]), (false, [.int .i64])] ((p13, ()), (x14, ()), (m15, ()), ((a16, n17, c18), ()), (x19, ()), (x20, ()), (x14, ()), ((0 : Int), ()), ()) fun ((p27, _), ((x28 : Int), _), ((m29 : Option Nat), _), (((a30 : Option Addr), (n31 : Nat), (c32 : Nat)), _), ((x33 : Int), _), ((x34 : Int), _), ((x35 : Int), _), ((x36 : Int), _), _) again26 =>
     π.ite (decide (x36 < x35)) (
      π.call 14 #[(.pointer (p27)), (.int .i64 x36)] (true, [(true, [.int .i64, .int .i64, .int .i64, .int .i64, .int .i64, .int .i64, .int .i64]), (false, [.bool])]) fun (((x37 : Int), (x38 : Int), (x39 : Int), (x40 : Int), (x41 : Int), (x42 : Int), (x43 : Int), _), ((b44 : Bool), _), _) =>
      π.ite (!b44) (
       again26 ((p27, ()), (x28, ()), (m29, ()), ((a30, n31, c32), ()), (x33, ()), (x34, ()), (x35, ()), (i64.wrap (x36 + 1), ()), ())
      ) (
       π.loop [(false, [.ptr]), (false, [.int .i64]), (false, [.map]), (false, [.int .i64]), (true, [.int .i64, .int .i64, .int .i64, .int .i64, .int .i64, .int .i64, .int .i64]), (false, [.int .i64]), (false, [.slice]), (false, [.int .i64]), (false, [.int .i64]), (false, [.int .i64]), (false, [.int .i64])] ((p27, ()), (x28, ()), (m29, ()), (x36, ()), (x37, x38, x39, x40, x41, x42, x43, ()), (i64.wrap (x41 + 1), ()), ((a30, n31, c32), ()), (x33, ()), (x34, ()), (x35, ()), (x36, ()), ()) fun ((p46, _), ((x47 : Int), _), ((m48 : Option Nat), _), ((x49 : Int), _), ((x50 : Int), (x51 : Int), (x52 : Int), (x53 : Int), (x54 : Int), (x55 : Int), (x56 : Int), _), ((x57 : Int), _), (((a58 : Option Addr), (n59 : Nat), (c60 : Nat)), _), ((x61 : Int), _), ((x62 : Int), _), ((x63 : Int), _), ((x64 : Int), _), _) again45 =>
        π.ite (decide (x57 ≤ x56)) (
         π.call 15 #[(.pointer (p46)), (.int .i64 x49), (.int .i64 x57)] (true, [(true, [.int .i64, .int .i64, .int .i64, .str]), (false, [.bool])]) fun (((x65 : Int), (x66 : Int), (x67 : Int), (t68 : ByteArray), _), ((b69 : Bool), _), _) =>
         π.look (TypeDesc.int IntKind.i64) (m48) (.int .i64 x57) (.agg #[(.int .i64 0), (.int .i64 0), (.int .i64 0), (.string ⟨#[]⟩), (.int .i64 0)]) (true, [.int .i64, .int .i64, .int .i64, .str, .int .i64]) fun ((x71 : Int), (x72 : Int), (x73 : Int), (t74 : ByteArray), (x75 : Int), _) b70 =>
         π.ite (!b69) (
          π.ret (.bool false)
         ) (
          π.ite (b70) (
           π.ite (!(x71 == x65 && (x72 == x66 && (x73 == x67 && (t74 == t68 && true))))) (
            π.ret (.bool false)
           ) (
            π.ite (!b70) (
             π.mset (TypeDesc.int IntKind.i64) (m48) (.int .i64 x57) (.agg #[(.int .i64 x65), (.int .i64 x66), (.int .i64 x67), (.string t68), (.int .i64 x50)]) <|
             again45 ((p46, ()), (x47, ()), (m48, ()), (x49, ()), (x50, x51, x52, x53, x54, x55, x56, ()), (i64.wrap (x57 + 1), ()), ((a58, n59, c60), ()), (x61, ()), (x62, ()), (x63, ()), (x64, ()), ())
            ) (
             π.ite (decide (x50 < x75)) (
              π.mset (TypeDesc.int IntKind.i64) (m48) (.int .i64 x57) (.agg #[(.int .i64 x65), (.int .i64 x66), (.int .i64 x67), (.string t68), (.int .i64 x50)]) <|
              again45 ((p46, ()), (x47, ()), (m48, ()), (x49, ()), (x50, x51, x52, x53, x54, x55, x56, ()), (i64.wrap (x57 + 1), ()), ((a58, n59, c60), ()), (x61, ()), (x62, ()), (x63, ()), (x64, ()), ())
             ) (
              again45 ((p46, ()), (x47, ()), (m48, ()), (x49, ()), (x50, x51, x52, x53, x54, x55, x56, ()), (i64.wrap (x57 + 1), ()), ((a58, n59, c60), ()), (x61, ()), (x62, ()), (x63, ()), (x64, ()), ())
             )
            )
           )
          ) (
           π.ite (!b70) (
            π.mset (TypeDesc.int IntKind.i64) (m48) (.int .i64 x57) (.agg #[(.int .i64 x65), (.int .i64 x66), (.int .i64 x67), (.string t68), (.int .i64 x50)]) <|
            again45 ((p46, ()), (x47, ()), (m48, ()), (x49, ()), (x50, x51, x52, x53, x54, x55, x56, ()), (i64.wrap (x57 + 1), ()), ((a58, n59, c60), ()), (x61, ()), (x62, ()), (x63, ()), (x64, ()), ())
           ) (
            π.ite (decide (x50 < x75)) (
             π.mset (TypeDesc.int IntKind.i64) (m48) (.int .i64 x57) (.agg #[(.int .i64 x65), (.int .i64 x66), (.int .i64 x67), (.string t68), (.int .i64 x50)]) <|
             again45 ((p46, ()), (x47, ()), (m48, ()), (x49, ()), (x50, x51, x52, x53, x54, x55, x56, ()), (i64.wrap (x57 + 1), ()), ((a58, n59, c60), ()), (x61, ()), (x62, ()), (x63, ()), (x64, ()), ())
            ) (
             again45 ((p46, ()), (x47, ()), (m48, ()), (x49, ()), (x50, x51, x52, x53, x54, x55, x56, ()), (i64.wrap (x57 + 1), ()), ((a58, n59, c60), ()), (x61, ()), (x62, ()), (x63, ()), (x64, ()), ())
            )
           )
          )
         )
        ) (
         again26 ((p46, ()), (x47, ()), (m48, ()), ((a58, n59, c60), ()), (x61, ()), (x62, ()), (x63, ()), (i64.wrap (x64 + 1), ()), ())
        )
      )
     ) (
      π.loop [(false, [.ptr]), (false, [.int .i64]), (false, [.map]), (false, [.slice]), (false, [.int .i64]), (false, [.int .i64]), (false, [.int .i64]), (false, [.int .i64])] ((p27, ()), (x28, ()), (m29, ()), ((a30, n31, c32), ()), (x33, ()), (x34, ()), (x28, ()), ((0 : Int), ()), ()) fun ((p77, _), ((x78 : Int), _), ((m79 : Option Nat), _), (((a80 : Option Addr), (n81 : Nat), (c82 : Nat)), _), ((x83 : Int), _), ((x84 : Int), _), ((x85 : Int), _), ((x86 : Int), _), _) again76 =>
       π.ite (decide (x86 < x85)) (
        π.call 14 #[(.pointer (p77)), (.int .i64 x86)] (true, [(true, [.int .i64, .int .i64, .int .i64, .int .i64, .int .i64, .int .i64, .int .i64]), (false, [.bool])]) fun (((x87 : Int), (x88 : Int), (x89 : Int), (x90 : Int), (x91 : Int), (x92 : Int), (x93 : Int), _), ((b94 : Bool), _), _) =>
        π.ite (b94) (
         π.ite (x89 == 2) (
          π.call 16 #[(.pointer (p77)), (.int .i64 x86), (.agg #[(.int .i64 x87), (.int .i64 x88), (.int .i64 x89), (.int .i64 x90), (.int .i64 x91), (.int .i64 x92), (.int .i64 x93)]), (.map (m79))] (false, [(false, [.bool])]) fun (((b95 : Bool), _), _) =>
          π.ite (!b95) (
           π.ret (.bool false)
          ) (
           again76 ((p77, ()), (x78, ()), (m79, ()), ((a80, n81, c82), ()), (x83, ()), (x84, ()), (x85, ()), (i64.wrap (x86 + 1), ()), ())
          )
         ) (
          again76 ((p77, ()), (x78, ()), (m79, ()), ((a80, n81, c82), ()), (x83, ()), (x84, ()), (x85, ()), (i64.wrap (x86 + 1), ()), ())
         )
        ) (
         again76 ((p77, ()), (x78, ()), (m79, ()), ((a80, n81, c82), ()), (x83, ()), (x84, ()), (x85, ()), (i64.wrap (x86 + 1), ()), ())
        )
       ) (
        again12 ((p77, ()), (x78, ()), (m79, ()), ((a80, n81, c82), ()), (x83, ()), (i64.wrap (x84 + 1), ()), ())
       )
     )
   ) (
    π.ret (.bool true)
   )
 )
def ann_GroupHolds : Ann := { join := [(4, [(5, 23), (6, 3)])], loop := [(6, [(5, 23), (6, 3), (8, 41), (40, 22), (41, 3), (42, 3)]), (10, [(5, 23), (6, 3), (8, 41), (40, 22), (41, 3), (42, 3), (49, 3), (50, 3)]), (15, [(5, 23), (6, 3), (8, 41), (11, 3), (12, 37), (14, 3), (40, 22), (41, 3), (42, 3), (49, 3), (50, 3)]), (25, [(5, 23), (6, 3), (8, 41), (40, 22), (41, 3), (42, 3), (110, 3), (111, 3)])] }
def la_GroupHolds : LA := { ptr := [(10, 10, 0), (12, 12, 0), (15, 15, 0), (17, 17, 0), (20, 20, 0), (61, 12, 4), (65, 12, 6), (88, 17, 0), (97, 12, 0), (99, 17, 4), (106, 12, 0), (122, 20, 2)], ty := [(10, 30), (12, 37), (15, 43), (17, 47), (20, 37)] }
theorem eq_GroupHolds {W : Type} (π : Prims W) (size : Int) (a : Option Addr) (an ac : Nat) : bodyE π Tryz.prog la_GroupHolds ann_GroupHolds 136 Tryz.f5 (bodyOf Tryz.f5) [.v (.int .i64 size), .v (.slice a an ac)] [] = vc_GroupHolds π size a an ac := by kernel_rfl
theorem ok_GroupHolds (size : Int) (a : Option Addr) (an ac : Nat) (R : RT) (s : PH) (h : vc_GroupHolds (RP Tryz.prog R) size a an ac s) : DCalls Tryz.prog 5 (List.map AV.val [.v (.int .i64 size), .v (.slice a an ac)]).toArray s R :=
 callsE (c := bodyOf Tryz.f5) la_GroupHolds mo Tryz.func5 rfl (by kernel_rfl) Tryz.ntmps5 rfl (by kernel_rfl) (eq_GroupHolds ..) h
end
section
attribute [-simp] Fw.W.ld_iff Fw.W.st_iff
def unseen (seen : Array Nat) (l : List MapEntry) : Nat := (l.filter fun e => !seen.contains e.born).length
theorem filter_lt {α : Type} {p q : α → Bool} : ∀ l : List α, (∀ x, q x = true → p x = true) → (∃ x ∈ l, p x = true ∧ q x = false) → (l.filter q).length < (l.filter p).length
 | [], _, h => by obtain ⟨x, hx, _⟩ := h; cases hx
 | a :: l, hpq, h => by
  have hle : (l.filter q).length ≤ (l.filter p).length := by
   clear h
   induction l with
   | nil => exact Nat.le_refl _
   | cons b l ih =>
    simp only [List.filter_cons]
    by_cases hb : q b = true
    ·rw [if_pos hb, if_pos (hpq b hb)]; simp only [List.length_cons]; omega
    ·rw [if_neg hb]
     split
     ·simp only [List.length_cons]; omega
     ·exact ih
  obtain ⟨x, hx, h1, h2⟩ := h
  simp only [List.filter_cons]
  rcases List.mem_cons.1 hx with rfl | hx
  ·rw [if_neg (by rw [h2]; decide), if_pos h1]; simp only [List.length_cons]; omega
  ·have ih := filter_lt l hpq ⟨x, hx, h1, h2⟩
   by_cases hb : q a = true
   ·rw [if_pos hb, if_pos (hpq a hb)]; simp only [List.length_cons]; omega
   ·rw [if_neg hb]
    split
    ·simp only [List.length_cons]; omega
    ·exact ih
theorem unseen_push {seen : Array Nat} {e : MapEntry} {l : List MapEntry} (he : e ∈ l) (hn : seen.contains e.born = false) : unseen (seen.push e.born) l < unseen seen l := by
 refine filter_lt l (fun x hx => ?_) ⟨e, he, by rw [hn]; (first | done | rfl), by simp⟩
 simp only [Bool.not_eq_true', Array.contains_eq_mem, decide_eq_false_iff_not, Array.mem_push, not_or] at hx ⊢
 exact hx.1
section
variable {K V : Type} [BEq K] [LawfulBEq K] {ke : KeyE K} {ve : V → Value}
def ItIs (ke : KeyE K) (ve : V → Value) (s : PH) (r m : Nat) (f : List (K × V)) : Prop :=
 ∃ es c seen, s r = some (.mapIter (some m) c seen c) ∧ s m = some (.map es c) ∧ es.toList.map (fun e => (e.key, e.val)) = f.map (fun p => (ke.enc p.1, ve p.2)) ∧ Go.MapKept.Stamped es c
def ItMu (r m : Nat) (s : PH) : Nat := match s r, s m with
 | some (.mapIter _ _ seen _), some (.map es _) => unseen seen es.toList
 | _, _ => 0
theorem ItIs.mod {s s' : PH} {r m : Nat} {f : List (K × V)} (h : ItIs ke ve s r m f) (hm : Fw.Mod [] s s') : ItIs ke ve s' r m f ∧ ItMu r m s' = ItMu r m s := by
 obtain ⟨es, c, seen, h1, h2, h3, h4⟩ := h
 have e1 := hm.at h1 (by simp)
 have e2 := hm.at h2 (by simp)
 refine ⟨⟨es, c, seen, e1, e2, h3, h4⟩, ?_⟩
 unfold ItMu
 rw [e1, e2, h1, h2]
theorem rng_of {s : PH} {m : Nat} {f : List (K × V)} (hm : isMap ke ve s m f) {k : Nat → W.T} (hk : ∀ r s', s r = none → Fw.Mod [] s s' → ItIs ke ve s' r m f → k r s') : W.rng (some m) k s := by
 obtain ⟨es, c, h1, h2, h3⟩ := hm
 refine ⟨_, ⟨es, c, h1, rfl⟩, fun r hr => ?_⟩
 have hne : m ≠ r := by rintro rfl; rw [h1] at hr; cases hr
 exact hk r _ hr (Mod.new hr) ⟨es, c, #[], PH.upd_same _ _ _, by rw [PH.upd_other _ _ hne]; exact h1, h2, h3⟩
theorem find_born {e : MapEntry} : ∀ {l : List MapEntry}, (l.map (·.born)).Nodup → e ∈ l → l.find? (·.born == e.born) = some e
 | [], _, h => by cases h
 | a :: l, hn, h => by
  simp only [List.map_cons, List.nodup_cons] at hn
  rcases List.mem_cons.1 h with rfl | h
  ·simp
  ·have hne : a.born ≠ e.born := fun e1 => hn.1 (by rw [e1]; exact List.mem_map_of_mem h)
   rw [List.find?_cons_of_neg (by simpa using hne)]
   exact find_born hn.2 h
theorem nxt_of {s : PH} {r m : Nat} {f : List (K × V)} (h : ItIs ke ve s r m f) {k : Value → W.T} (h0 : k (.tuple #[.bool false]) s)
  (h1 : ∀ p ∈ f, ∀ s', Fw.Mod [r] s s' → ItIs ke ve s' r m f → ItMu r m s' < ItMu r m s → (∀ K : Value → W.T, K (.tuple #[ke.enc p.1, ve p.2]) s' → W.ent r K s') → k (.tuple #[.bool true, ke.enc p.1, ve p.2]) s') : W.nxt r k s := by
 obtain ⟨es, c, seen, g1, g2, g3, g4⟩ := h
 have hne : m ≠ r := by rintro rfl; rw [g1] at g2; cases g2
 refine ⟨some m, c, seen, g1, es, g2, fun e he => g4.1 e (by simpa using he), fun _ => h0, fun e he hn => ?_⟩
 have hel : e ∈ es.toList := by simpa using he
 have hin : (e.key, e.val) ∈ f.map (fun p => (ke.enc p.1, ve p.2)) := by rw [← g3]; exact List.mem_map_of_mem (f := fun e : MapEntry => (e.key, e.val)) hel
 obtain ⟨p, hp, hpe⟩ := List.mem_map.1 hin
 obtain ⟨hp1, hp2⟩ := Prod.mk.inj hpe
 rw [← hp1, ← hp2]
 have k1 : (s.upd r (.mapIter (some m) c (seen.push e.born) c)) r = some (.mapIter (some m) c (seen.push e.born) c) := PH.upd_same _ _ _
 have k2 : (s.upd r (.mapIter (some m) c (seen.push e.born) c)) m = some (.map es c) := by rw [PH.upd_other _ _ hne]; exact g2
 refine h1 p hp _ (Mod.upd (by simp)) ⟨es, c, _, k1, k2, g3, g4⟩ ?_ fun K hK => ⟨m, c, seen.push e.born, c, es, e, k1, k2, by simp, ?_, by rw [← hp1, ← hp2]; exact hK⟩
 ·unfold ItMu
  rw [k1, k2, g1, g2]
  exact unseen_push hel hn
 ·rw [← Array.find?_toList]; exact find_born g4.2.1 hel
omit [LawfulBEq K] in
theorem mem_aset2 {f : List (K × V)} {k : K} {v : V} {p : K × V} (h : p ∈ aset f k v) : p = (k, v) ∨ p ∈ f := by
 induction f with
 | nil => simp [aset] at h; exact .inl h
 | cons a f ih =>
  obtain ⟨a, b⟩ := a
  simp only [aset] at h
  split at h
  ·rcases List.mem_cons.1 h with h | h
   ·exact .inl h
   ·exact .inr (List.mem_cons_of_mem _ h)
  ·rcases List.mem_cons.1 h with h | h
   ·exact .inr (by rw [h]; exact List.mem_cons_self)
   ·rcases ih h with h | h
    ·exact .inl h
    ·exact .inr (List.mem_cons_of_mem _ h)
theorem lookup_in {f : List (K × V)} {k : K} {v : V} (h : f.lookup k = some v) : (k, v) ∈ f := by
 induction f with
 | nil => cases h
 | cons a f ih =>
  obtain ⟨a, b⟩ := a
  simp only [List.lookup] at h
  split at h
  ·rename_i e
   have := eq_of_beq e
   cases h; subst this; exact List.mem_cons_self
  ·exact List.mem_cons_of_mem _ (ih h)
end
def MarkAt (n : Nat) (k : Int) (e : Ent) (t : Int) (g : Gh) : Prop := 1 ≤ k ∧ ∃ T0 k0, T0 ≤ t ∧ Com g n T0 k0 ∧ k.toNat ≤ k0 ∧ (g.LL T0)[k.toNat - 1]? = some e
def Marks (n : Nat) (es : List (Int × (Ent × Int))) (g : Gh) : Prop := ∀ p ∈ es, MarkAt n p.1 p.2.1 p.2.2 g
theorem pre_get {F L : List Ent} (h : F <+: L) {j : Nat} {e : Ent} (he : F[j]? = some e) : L[j]? = some e := by
 obtain ⟨t, rfl⟩ := h
 rw [List.getElem?_append_left (List.getElem?_eq_some_iff.1 he).1]; exact he
theorem Marks.mono (n : Nat) (es : List (Int × (Ent × Int))) : Mono (Marks n es) := fun i g h s hm p hp => by
 obtain ⟨h1, T0, k0, h2, h3, h4, h5⟩ := hm p hp
 exact ⟨h1, T0, k0, h2, h3.stp s, h4, pre_get (s.ll T0 h3.ld) h5⟩
theorem MarkAt.two {n A : Nat} {g : Gh} (hg : GhOk g n A) {k : Int} {e e' : Ent} {t t' : Int} (h : MarkAt n k e t g) (h' : MarkAt n k e' t' g) : e = e' := by
 obtain ⟨h1, T0, k0, h2, h3, h4, h5⟩ := h
 obtain ⟨_, T1, k1, g2, g3, g4, g5⟩ := h'
 have key : (g.LL T0)[k.toNat - 1]? = (g.LL T1)[k.toNat - 1]? := by
  rcases Nat.le_total k0 k1 with q | q
  ·exact (h3.two hg g3 q).get (by omega)
  ·exact ((g3.two hg h3 q).get (by omega)).symm
 rw [h5, g5] at key
 exact Option.some.inj key
section
variable {n A i : Nat} {g : Gh} {B : BS} {F : List Ent} {z : Int}
theorem NodeOk.mark (hN : NodeOk g n i B F) (hI : B.Inv z) {k : Int} (h1 : B.base < k) (h2 : k ≤ B.commit) {e : Ent} (he : B.entry k = some e) : MarkAt n k e B.term g := by
 have h0 := hN.rep.b0
 have hlc := hI.run.lc
 have hl := hN.rep.lst
 have hen := hN.rep.entry (k := k.toNat) (by omega) (by omega)
 rw [show ((k.toNat : Nat) : Int) = k by omega, he] at hen
 refine ⟨by omega, ?_⟩
 rcases hN.com with c | ⟨T0, k0, c1, c2, c3, c4⟩
 ·omega
 ·exact ⟨T0, k0, c1, c2, by omega, by rw [← c4.get (by omega)]; exact hen.symm⟩
theorem NodeOk.holds (hg : GhOk g n A) (hN : NodeOk g n i B F) (hr : B.role = 2) {k : Int} {e : Ent} {t : Int} (hm : MarkAt n k e t g) (ht : t < B.term) (hb : B.base < k) : B.entry k = some e ∧ k ≤ A := by
 obtain ⟨h1, T0, k0, h2, h3, h4, h5⟩ := hm
 obtain ⟨a1, a2, _⟩ := hN.ld hr
 have hp := h3.in_later hg (T' := B.term) (by rw [a1]; simp) (by omega)
 rw [a2] at hp
 have hl := hN.lg.len hg
 have hr1 := hp.r
 have := hN.rep.entry (k := k.toNat) (by omega) (by omega)
 rw [show ((k.toNat : Nat) : Int) = k by omega, ← hp.get (by omega), h5] at this
 exact ⟨this, by omega⟩
end
def markV (p : Ent × Int) : Value := .agg #[.int .i64 p.1.term, .int .i64 p.1.at_, .int .i64 p.1.born, .string p.1.text, .int .i64 p.2]
abbrev isMarks (s : PH) (m : Nat) (es : List (Int × (Ent × Int))) : Prop := isMap (intKey .i64) markV s m es
theorem c_lholds {s : PH} {g na p : Nat} {ms : List Mem} {t : Tri} {G : Grp} (h : GrpIs s g na p ms t G) (hf : G.Fit) {m : Nat} {es : List (Int × (Ent × Int))} (hm : isMarks s m es) {i : Int} {B : BS} (hB : G.balAt i = some B)
  (hk : ∀ q ∈ es, q.2.2 < B.term → B.base < q.1 → B.entry q.1 = some q.2.1 ∧ Num q.1) :
  DCalls Tryz.prog 16 #[gptr g, .int .i64 i, B.stand, .map (some m)] s fun y s' => y = .bool true ∧ Fw.Mod [] s s' := by
 refine ok_lholds g i B.term B.vote B.role B.lead B.base B.lst B.commit m _ s ?_
 unfold vc_lholds
 simp only [RP_rng]
 refine rng_of hm fun r s1 hr m1 hi => ?_
 simp only [RP_loop]
 refine ⟨fun z s' => z = (stZ B, (Addr.mk r 0 none, ()), ()) ∧ ItIs (intKey .i64) markV s' r m es ∧ Fw.Mod [] s s', fun _ s' => ItMu r m s', ⟨rfl, hi, m1⟩, ?_⟩
 rintro _ s2 ⟨rfl, hi, m2⟩
 simp only [RP_guard, W.guard_iff, RP_nxt, RP_ent, RP_ext]
 refine ⟨trivial, ?_⟩
 refine nxt_of hi ?_ ?_
 ·refine ⟨_, (false, ()), rfl, rfl, ?_⟩
  simp only [RP_ite, W.br_false]
  exact ⟨rfl, m2⟩
 rintro ⟨k, e, tm⟩ hp s3 m3 hi3 hmu hent
 have m23 : Fw.Mod [] s s3 := m2.fresh m3 (by simp; exact hr)
 refine ⟨_, (true, ()), rfl, rfl, ?_⟩
 simp only [RP_ite, W.br_true]
 refine ⟨trivial, hent _ ?_⟩
 refine ⟨_, (k, ()), rfl, rfl, ?_⟩
 refine ⟨_, (e.term, e.at_, e.born, e.text, tm, ()), rfl, rfl, ?_⟩
 simp only [RP_join]
 refine W.join_gen (fun z s' => z = (stZ B, (k, ()), (e.term, e.at_, e.born, e.text, tm, ()), (Addr.mk r 0 none, ()), ()) ∧ s' = s3 ∧ tm < B.term ∧ B.base < k) ?_ ?_
 rotate_left
 ·intro J hJ
  simp only [W.br_iff, decide_eq_true_eq, decide_eq_false_iff_not]
  exact ⟨fun _ => ⟨⟨trivial, hi3, m23⟩, hmu⟩, fun h1 => ⟨fun _ => ⟨⟨trivial, hi3, m23⟩, hmu⟩, fun h2 => hJ _ _ ⟨rfl, rfl, by omega, by omega⟩⟩⟩
 rintro _ _ ⟨rfl, rfl, ht, hb⟩
 obtain ⟨he, hn⟩ := hk _ hp ht hb
 have ex : (G.balAt i).bind (·.entry k) = some e := by rw [hB]; exact he
 simp only [RP_call]
 refine W.call_of (c_gEntry (h.new m23) hf i hn) ?_
 rintro _ s4 ⟨rfl, m4⟩
 rw [ex]
 refine ⟨((e.term, e.at_, e.born, e.text, ()), (true, ()), ()), rfl, ?_⟩
 simp only [Bool.not_true, W.br_false, beq_self_eq_true, Bool.and_true]
 obtain ⟨hi4, hmu4⟩ := hi3.mod m4
 exact ⟨⟨trivial, hi4, m23.trans m4⟩, by rw [hmu4]; exact hmu⟩
theorem law_GroupHolds (size : Int) {s0 : PH} {a : Option Addr} {n c : Nat} {ops : List ActD} (h : elems rdAct s0 a n ops) (hn : n ≤ 140737488355328) : DCalls Tryz.prog 5 #[.int .i64 size, .slice a n c] s0 fun y s' => y = .bool true ∧ Fw.Mod [] s0 s' := by
 refine ok_GroupHolds size a n c _ s0 ?_
 unfold vc_GroupHolds
 have hlen := h.1
 obtain ⟨R, hR⟩ : ∃ R : Value → PH → Prop, (fun (y : Value) (s' : PH) => y = .bool true ∧ Fw.Mod [] s0 s') = R := ⟨_, rfl⟩
 have done : ∀ s', Fw.Mod [] s0 s' → R (.bool true) s' := fun s' hm => by rw [← hR]; exact ⟨rfl, hm⟩
 rw [hR]
 simp only [RP_call]
 refine W.call_of (c_lbegun size s0) ?_
 rintro _ s1 ⟨m, g, na, p, ms, t, su, rfl, hL⟩
 refine ⟨((some ⟨g, 0, none⟩, ()), ((m : Int), ()), (true, ()), ()), rfl, ?_⟩
 simp only [RP_join]
 refine W.join_gen (fun z s' => z = ((some ⟨g, 0, none⟩, ()), ((m : Int), ()), ()) ∧ s' = s1 ∧ n ≤ 400) ?_ ?_
 rotate_left
 ·intro J hJ
  refine W.call_of (c_awake11 s1) ?_
  rintro _ _ ⟨rfl, rfl⟩
  refine ⟨((true, ()), ()), rfl, ?_⟩
  simp only [RP_ite, Bool.not_true, W.br_false]
  refine W.call_of (c_lgreat (c := c) (h.mono hL.mod.le) hn) ?_
  rintro _ _ ⟨rfl, v, rfl, hv⟩
  refine ⟨((v, ()), ()), rfl, ?_⟩
  cases v with
  | true =>
   simp only [W.br_true]
   refine W.call_of (c_awake11 _) ?_
   rintro _ _ ⟨rfl, rfl⟩
   exact ⟨((true, ()), ()), rfl, done _ hL.mod⟩
  | false =>
   simp only [W.br_false]
   exact hJ _ _ ⟨rfl, rfl, hv rfl⟩
 rintro _ _ ⟨rfl, rfl, h400⟩
 have hm5 := hL.gi.n1
 simp only [RP_nw]
 refine W.nw_of fun r s2 hr m2 k2 => ?_
 have hr0 : s0 r = none := hL.mod.none hr (by simp)
 have hrG : r ∉ GF g na p ms t := fun hx => hL.known r hx hr
 have hL2 := hL.new m2
 simp only [RP_loop]
 refine ⟨fun z s' => ∃ (i : Nat) (es : List (Int × (Ent × Int))) (ms : List Mem) (t : Tri) (G : Grp) (su : Nat → Nat), z = ((some ⟨g, 0, none⟩, ()), ((m : Int), ()), (some r, ()), ((a, n, c), ()), ((n : Int), ()), ((i : Int), ()), ()) ∧ i ≤ n ∧ Live m i (Marks m es) s0 s' g na p ms t G su ∧ isMarks s' r es ∧ r ∉ GF g na p ms t,
  fun z _ => n - z.2.2.2.2.2.1.1.toNat, ⟨0, [], ms, t, Grp.new m, su, rfl, Nat.zero_le _, ⟨hL2.grp, hL2.gi.learn _ fun _ _ _ _ _ _ => (fun q e => by cases e), hL2.mod, hL2.fresh⟩, ⟨#[], 0, k2, rfl, Go.MapKept.stamped_empty 0⟩, hrG⟩, ?_⟩
 rintro _ s2 ⟨i, es, ms, t, G, su, rfl, hi, hL, hM, hrG⟩
 simp only [RP_ite, W.br_iff, decide_eq_true_eq, decide_eq_false_iff_not, RP_guard, W.guard_iff, Int.toNat_natCast, RP_unSome, RP_ld, RP_call]
 refine ⟨fun hlt => ⟨by omega, ?_⟩, fun hge => done _ hL.mod⟩
 obtain ⟨o, ho⟩ : ∃ o, ops[i]? = some o := ⟨_, List.getElem?_eq_getElem (by omega)⟩
 obtain ⟨ad, rfl, hhas, hb⟩ := act_at (h.mono hL.mod.le) ho
 simp only [W.unSome_some]
 refine ld_has_z hhas (y := (o.kind, o.a, o.b, o.text, ())) rfl ?_
 refine W.call_of (c_live hL (Marks.mono m es) (by omega) o.kind o.a o.b hb o.text) ?_
 rintro _ s3 ⟨rfl, ms', t', G', su', hL', st⟩
 refine ⟨(), rfl, ?_⟩
 have hwi : i64.wrap ((i : Int) + 1) = ((i + 1 : Nat) : Int) := wrap_succ (by omega)
 have hM' := hM.mod st.mod hrG
 have hrG' : r ∉ GF g na p ms' t' := hL.apart st (L := [r]) (by simp; exact hrG) (by simp; exact hM.known) r (by simp)
 refine ⟨fun z s' => ∃ (j : Nat) (es : List (Int × (Ent × Int))), z = ((some ⟨g, 0, none⟩, ()), ((m : Int), ()), (some r, ()), ((some ad, n, c), ()), ((n : Int), ()), ((i : Int), ()), ((m : Int), ()), ((j : Int), ()), ()) ∧ j ≤ m ∧ Live m (i + 1) (Marks m es) s0 s' g na p ms' t' G' su' ∧ isMarks s' r es,
  fun z _ => m - z.2.2.2.2.2.2.2.1.1.toNat, ⟨0, es, rfl, Nat.zero_le _, hL', hM'⟩, ?_⟩
 rintro _ s4 ⟨j, es, rfl, hj, hL', hM'⟩
 have hwj : i64.wrap ((j : Int) + 1) = ((j + 1 : Nat) : Int) := wrap_succ (by omega)
 simp only [W.br_iff, decide_eq_true_eq, decide_eq_false_iff_not]
 refine ⟨fun hlt2 => ?_, fun hge2 => ?_⟩
 rotate_left
 ·-- all has been seen: the leaders
  refine ⟨fun z s' => ∃ (j : Nat), z = ((some ⟨g, 0, none⟩, ()), ((m : Int), ()), (some r, ()), ((some ad, n, c), ()), ((n : Int), ()), ((i : Int), ()), ((m : Int), ()), ((j : Int), ()), ()) ∧ j ≤ m ∧ Live m (i + 1) (Marks m es) s0 s' g na p ms' t' G' su' ∧ isMarks s' r es,
   fun z _ => m - z.2.2.2.2.2.2.2.1.1.toNat, ⟨0, rfl, Nat.zero_le _, hL', hM'⟩, ?_⟩
  rintro _ s5 ⟨j, rfl, hj, hL', hM'⟩
  have hwj : i64.wrap ((j : Int) + 1) = ((j + 1 : Nat) : Int) := wrap_succ (by omega)
  have hdec : (j : Int) < (m : Int) → m - ((j + 1 : Nat) : Int).toNat < m - (j : Int).toNat := by omega
  simp only [W.br_iff, decide_eq_true_eq, decide_eq_false_iff_not]
  refine ⟨fun hlt3 => ?_, fun hge3 => ?_⟩
  rotate_left
  ·rw [hwi]
   exact ⟨⟨i + 1, es, ms', t', G', su', rfl, by omega, hL', hM', hrG'⟩, by show n - ((i + 1 : Nat) : Int).toNat < n - (i : Int).toNat; omega⟩
  refine W.call_of (c_gStand hL'.grp hL'.gi.fit (j : Int)) ?_
  rintro _ s6 ⟨rfl, m6⟩
  have hL6 := hL'.new m6
  have hM6 := hM'.mod m6 (by simp)
  rw [hwj]
  cases hB : G'.balAt (j : Int) with
  | none =>
   refine ⟨((0, 0, 0, 0, 0, 0, 0, ()), (false, ()), ()), rfl, ?_⟩
   simp only [W.br_false]
   exact ⟨⟨j + 1, rfl, by omega, hL6, hM6⟩, hdec hlt3⟩
  | some B =>
   refine ⟨(stZ B, (true, ()), ()), rfl, ?_⟩
   simp only [W.br_true]
   by_cases hrole : B.role = 2
   rotate_left
   ·have hb2 : (B.role == 2) = false := by simpa using hrole
    simp only [hb2, W.br_false]
    exact ⟨⟨j + 1, rfl, by omega, hL6, hM6⟩, hdec hlt3⟩
   have hb2 : (B.role == 2) = true := by simpa using hrole
   simp only [hb2, W.br_true]
   refine W.call_of (c_lholds hL6.grp hL6.gi.fit hM6 hB ?_) ?_
   ·intro q hq ht hb
    obtain ⟨σ, hσ⟩ := hL6.gi.choose
    obtain ⟨gh, Fs, hS, hl⟩ := hL6.gi.all σ hσ
    obtain ⟨_, _, q1, q2, _⟩ := hL6.gi.up hσ hS hB
    obtain ⟨w1, w2⟩ := q1.holds hS.gok hrole (hl q hq) ht hb
    exact ⟨w1, by unfold Num; have := (hl q hq).1; omega⟩
   rintro _ s7 ⟨rfl, m7⟩
   refine ⟨((true, ()), ()), rfl, ?_⟩
   simp only [Bool.not_true, W.br_false]
   exact ⟨⟨j + 1, rfl, by omega, hL6.new m7, hM6.mod m7 (by simp)⟩, hdec hlt3⟩
 have hdec : m - ((j + 1 : Nat) : Int).toNat < m - (j : Int).toNat := by omega
 refine W.call_of (c_gStand hL'.grp hL'.gi.fit (j : Int)) ?_
 rintro _ s5 ⟨rfl, m5⟩
 have hL5 := hL'.new m5
 have hM5 := hM'.mod m5 (by simp)
 rw [hwj]
 cases hB : G'.balAt (j : Int) with
 | none =>
  refine ⟨((0, 0, 0, 0, 0, 0, 0, ()), (false, ()), ()), rfl, ?_⟩
  simp only [Bool.not_false, W.br_true]
  exact ⟨⟨j + 1, es, rfl, by omega, hL5, hM5⟩, hdec⟩
 | some B =>
  refine ⟨(stZ B, (true, ()), ()), rfl, ?_⟩
  simp only [Bool.not_true, W.br_false]
  -- the numbers of this ballot
  have hnum : 0 ≤ B.base ∧ B.base ≤ B.commit ∧ B.commit ≤ B.lst ∧ B.lst ≤ 500 := by
   obtain ⟨σ, hσ⟩ := hL5.gi.choose
   obtain ⟨gh, Fs, hS, hl⟩ := hL5.gi.all σ hσ
   obtain ⟨_, _, q1, q2, _⟩ := hL5.gi.up hσ hS hB
   have w1 := q1.lg.len hS.gok
   have w2 := q1.rep.lst
   have w3 := hL5.gi.le
   exact ⟨q1.rep.b0, q2.run.ok.com, q2.run.lc, by omega⟩
  obtain ⟨b1, b2, b3, b4⟩ := hnum
  have hw0 : i64.wrap (B.base + 1) = B.base + 1 := wrap_in (by omega) (by omega)
  rw [hw0]
  refine ⟨fun z s' => ∃ (k : Int) (es : List (Int × (Ent × Int))), z = ((some ⟨g, 0, none⟩, ()), ((m : Int), ()), (some r, ()), ((j : Int), ()), stZ B, (k, ()), ((some ad, n, c), ()), ((n : Int), ()), ((i : Int), ()), ((m : Int), ()), ((j : Int), ()), ()) ∧ B.base < k ∧ k ≤ B.commit + 1 ∧ Live m (i + 1) (Marks m es) s0 s' g na p ms' t' G' su' ∧ isMarks s' r es,
   fun z _ => (B.commit + 1 - z.2.2.2.2.2.1.1).toNat, ⟨B.base + 1, es, rfl, by omega, by omega, hL5, hM5⟩, ?_⟩
  rintro _ s6 ⟨k, es, rfl, hk1, hk2, hL6, hM6⟩
  simp only [W.br_iff, decide_eq_true_eq, decide_eq_false_iff_not]
  refine ⟨fun hle => ?_, fun hgt => ?_⟩
  rotate_left
  ·rw [hwj]
   exact ⟨⟨j + 1, es, rfl, by omega, hL6, hM6⟩, hdec⟩
  have hle : k ≤ B.commit := hle
  have hwk : i64.wrap (k + 1) = k + 1 := wrap_in (by omega) (by omega)
  have hdk : (B.commit + 1 - (k + 1)).toNat < (B.commit + 1 - k).toNat := by omega
  obtain ⟨e, he⟩ : ∃ e, B.entry k = some e := by
   obtain ⟨σ, hσ⟩ := hL6.gi.choose
   obtain ⟨gh, Fs, hS, hl⟩ := hL6.gi.all σ hσ
   obtain ⟨_, _, q1, q2, _⟩ := hL6.gi.up hσ hS hB
   have w2 := q1.rep.lst
   have hen := q1.rep.entry (k := k.toNat) (by omega) (by omega)
   rw [show ((k.toNat : Nat) : Int) = k by omega] at hen
   rw [hen]
   exact ⟨_, List.getElem?_eq_getElem (by omega)⟩
  have fact : ∀ σ gh Fs, (∀ i N, G'.nodes[i]? = some N → Cand m i (su' i) N (σ i)) → Sys m (i + 1) σ G'.bag gh Fs → MarkAt m k e B.term gh := by
   intro σ gh Fs hσ hS
   obtain ⟨_, _, q1, q2, _⟩ := hL6.gi.up hσ hS hB
   exact q1.mark q2 hk1 hle he
  have ex : (G'.balAt (j : Int)).bind (·.entry k) = some e := by rw [hB]; exact he
  refine W.call_of (c_gEntry hL6.grp hL6.gi.fit (j : Int) (i := k) (by unfold Num; omega)) ?_
  rintro _ s7 ⟨rfl, m7⟩
  rw [ex]
  refine ⟨((e.term, e.at_, e.born, e.text, ()), (true, ()), ()), rfl, ?_⟩
  have hL7 := hL6.new m7
  have hM7 := hM6.mod m7 (by simp)
  have fin : ∀ (o : Obj), isMarks (s7.upd r o) r (aset es k (e, B.term)) → Live m (i + 1) (Marks m (aset es k (e, B.term))) s0 (s7.upd r o) g na p ms' t' G' su' := by
   intro o ho
   have h1 : Live m (i + 1) (Marks m es) s0 (s7.upd r o) g na p ms' t' G' su' := hL7.off (Mod.upd (by simp)) hr0 hrG'
   refine ⟨h1.grp, h1.gi.learn _ fun σ gh Fs hσ hS hl => ?_, h1.mod, h1.fresh⟩
   intro q hq
   rcases mem_aset2 hq with rfl | hq
   ·exact fact σ gh Fs hσ hS
   ·exact hl q hq
  have setk : ∀ K : W.T, (∀ o, isMarks (s7.upd r o) r (aset es k (e, B.term)) → K (s7.upd r o)) → W.mset (TypeDesc.int .i64) (some r) (.int .i64 k) (.agg #[.int .i64 e.term, .int .i64 e.at_, .int .i64 e.born, .string e.text, .int .i64 B.term]) K s7 :=
   fun K hK => mset_of (ke := intKey .i64) (ve := markV) (key := k) (v := (e, B.term)) hM7 hK
  have next : ∀ o, isMarks (s7.upd r o) r (aset es k (e, B.term)) → (∃ (k' : Int) (es : List (Int × (Ent × Int))), ((some ⟨g, 0, none⟩, ()), ((m : Int), ()), (some r, ()), ((j : Int), ()), stZ B, (k + 1, ()), ((some ad, n, c), ()), ((n : Int), ()), ((i : Int), ()), ((m : Int), ()), ((j : Int), ()), ()) =
    (((some ⟨g, 0, none⟩, ()), ((m : Int), ()), (some r, ()), ((j : Int), ()), stZ B, (k', ()), ((some ad, n, c), ()), ((n : Int), ()), ((i : Int), ()), ((m : Int), ()), ((j : Int), ()), ()) : MDen [(false, [CT.ptr]), (false, [CT.int .i64]), (false, [CT.map]), (false, [CT.int .i64]), (true, [CT.int .i64, CT.int .i64, CT.int .i64, CT.int .i64, CT.int .i64, CT.int .i64, CT.int .i64]), (false, [CT.int .i64]), (false, [CT.slice]), (false, [CT.int .i64]), (false, [CT.int .i64]), (false, [CT.int .i64]), (false, [CT.int .i64])]) ∧ B.base < k' ∧ k' ≤ B.commit + 1 ∧ Live m (i + 1) (Marks m es) s0 (s7.upd r o) g na p ms' t' G' su' ∧ isMarks (s7.upd r o) r es) :=
   fun o ho => ⟨k + 1, _, rfl, by omega, by omega, fin o ho, ho⟩
  simp only [RP_look, RP_mset, hwk]
  refine look_of (ke := intKey .i64) (ve := markV) hM7 ?_
  cases hkv : es.lookup k with
  | none =>
   refine ⟨(0, 0, 0, ⟨#[]⟩, 0, ()), rfl, ?_⟩
   simp only [Bool.not_true, Bool.not_false, W.br_false, W.br_true]
   exact setk _ fun o ho => ⟨next o ho, hdk⟩
  | some v =>
   obtain ⟨e', t0⟩ := v
   have hee : e' = e := by
    obtain ⟨σ, hσ⟩ := hL7.gi.choose
    obtain ⟨gh, Fs, hS, hl⟩ := hL7.gi.all σ hσ
    exact (hl _ (lookup_in hkv)).two hS.gok (fact σ gh Fs hσ hS)
   subst hee
   refine ⟨(e'.term, e'.at_, e'.born, e'.text, t0, ()), rfl, ?_⟩
   simp only [Bool.not_true, W.br_false, W.br_true, beq_self_eq_true, Bool.and_true]
   refine (W.br_iff _ _ _ _).2 ⟨fun _ => ?_, fun _ => ?_⟩
   ·exact setk _ fun o ho => ⟨next o ho, hdk⟩
   ·exact ⟨⟨k + 1, es, rfl, by omega, by omega, hL7, hM7⟩, hdk⟩
end
end Go.Proofs.YtcdggocbjnmeaaaGreat
