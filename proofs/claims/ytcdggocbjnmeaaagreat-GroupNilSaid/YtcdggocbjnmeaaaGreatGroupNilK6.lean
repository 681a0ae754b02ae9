/-
  Part 6 for the law: texts of this session's own, those parts that the claim needs, one behind the other.
  Conditions: none; it proves no statement by itself.
-/
import Derived.Test.YtcdggocbjnmeaaaGreatGroupNilK5
set_option linter.unusedVariables false
set_option linter.unusedSectionVars false
set_option linter.unusedSimpArgs false
section
set_option linter.unusedVariables false
set_option linter.unusedSimpArgs false
set_option maxHeartbeats 2000000
set_option maxRecDepth 100000
namespace Go.Proofs.YtcdggocbjnmeaaaGreat
open Fw Go
attribute [-simp] Fw.W.ld_iff Fw.W.st_iff
def dlE : Enc (Dl × Tri) where
  sz := 8
  f p := dlCells p.1 p.2
  len _ := rfl
  one p v hv := by simp at hv; rcases hv with rfl | rfl | rfl | rfl | rfl | rfl | rfl | rfl <;> rfl
  pos := by omega
/-- three cells are laid anew -/
def arr3 (arr : Array Value) (i : Nat) (q : Mem) : Array Value := ((arr.setIfInBounds (i * 3 + 1) (.pointer (some ⟨q.d, 0, none⟩))).setIfInBounds (i * 3 + 2) (.pointer q.xp)).setIfInBounds (i * 3 + 0) (.pointer (q.bp.map fun b => ⟨b, 0, none⟩))
theorem dtot_memG {ls : List Dl} {D : Dl} (h : D ∈ ls) : D.list.length ≤ dtot ls := by
  unfold dtot
  induction ls with
  | nil => cases h
  | cons x ls ih =>
    simp only [List.map_cons, List.sum_cons]
    rcases List.mem_cons.1 h with rfl | h
    · omega
    · have := ih h; omega
theorem dtot_takeG (ls : List Dl) (k : Nat) : dtot (ls.take k) ≤ dtot ls := by
  unfold dtot
  induction ls generalizing k with
  | nil => simp
  | cons x ls ih =>
    cases k with
    | zero => simp
    | succ k => simp only [List.take_succ_cons, List.map_cons, List.sum_cons]; have := ih k; omega
def GstZ (ad : Addr) (xp : Option Addr) (put : List Dl) (lt : Tri) (k : Nat) (s0 : PH) (z : MDen [(false, [.ptr]), (false, [.ptr]), (false, [.slice]), (false, [.slice]), (false, [.int .i64]), (false, [.int .i64])]) (s' : PH) : Prop :=
  ∃ (j : Nat) (t : Tri) (ps : List (Dl × Tri)), z = ((some ad, ()), (xp, ()), (t, ()), (lt, ()), ((k : Int), ()), ((j : Int), ()), ()) ∧ j ≤ k ∧ ps.map (·.1) = put.take j ∧ rowE dlE s' 113 t.1 t.2.1 t.2.2 ps ∧
    (∀ p ∈ ps, rowE entE s' 43 p.2.1 p.2.2.1 p.2.2.2 p.1.list) ∧ (∀ x ∈ Fw.blk t.1, s0 x = none) ∧ (∀ p ∈ ps, ∀ x ∈ Fw.blk p.2.1, s0 x = none) ∧ Fw.Mod [] s0 s'
def StartQ (na d : Nat) (arr : Array Value) (i : Nat) (N' : Nd) (s : PH) (y : Value) (s' : PH) : Prop :=
  y = .tuple #[] ∧ ∃ q' : Mem, s' na = some (.cells (arr3 arr i q') 74 (0, 0)) ∧ NdIs s' q' N' ∧ (∀ x ∈ q'.F, s x = none) ∧ Fw.Mod [na, d] s s'
structure Nd.Disk (N : Nd) : Prop where
  kept : ∃ sure, Kept N.d LOG (N.put.map encDB) sure
  put : ∀ D ∈ N.put, D.I ∧ (encD D).length ≤ 1099511627776
  tot : dtot N.put ≤ 1000000
  few : N.put.length ≤ 1000000
  ok : N.d.Ok
  size : (N.d.got LOG).1.size ≤ 1099511627776
theorem c_gstart {s : PH} {g na d dm n : Nat} {P A : Value} {arr : Array Value} {i : Nat} {x0 : Option Addr} {N : Nd} (hc : s g = some (.cells #[.slice (some ⟨na, 0, none⟩) n n, P, A] 61 (0, 0))) (ha : s na = some (.cells arr 74 (0, 0)))
    (hi : i < n) (hn : n ≤ 5) (h0 : arr[i * 3 + 0]? = some (.pointer none)) (h1 : arr[i * 3 + 1]? = some (dptr d)) (h2 : arr[i * 3 + 2]? = some (.pointer x0)) (hd : DriveIs s d dm N.d) (hb : N.b = none) (hD : N.Disk) (keep : Int) :
    DCalls Tryz.prog 38 #[gptr g, .int .i64 (i : Int), .int .i64 keep] s (StartQ na d arr i (N.start i n keep) s) := by
  refine ok_gstart g i keep _ s ?_
  unfold vc_gstart
  obtain ⟨sure, hK⟩ := hD.kept
  obtain ⟨k, hk1, hk2, hk3, hk4, hk5⟩ := hK.crash hD.ok [keep]
  obtain ⟨N', hN'⟩ : ∃ N', N.start i n keep = N' := ⟨_, rfl⟩
  have hkl : k ≤ N.put.length := by rw [List.length_map] at hk2; exact hk2
  have hNN : N' = ⟨BS.loaded i n (N.put.take k), ((N.d.crash [keep]).opens LOG).2, N.put.take k⟩ := by
    rw [← hN']
    unfold Nd.start
    rw [hk3, if_neg (by simp)]
    simp only [List.length_take, List.length_map, Nat.min_eq_left hkl]
  rw [hN']
  have hgn : g ≠ na := by rintro rfl; rw [hc] at ha; exact absurd (Obj.cells.inj (Option.some.inj ha)).2.1 (by decide)
  have hdn : d ≠ na := by rintro rfl; have h1 := hd.blk; rw [ha] at h1; exact absurd (Obj.cells.inj (Option.some.inj h1)).2.1 (by decide)
  have hgd : g ≠ d := by rintro rfl; have h1 := hd.blk; rw [hc] at h1; exact absurd (Obj.cells.inj (Option.some.inj h1)).2.1 (by decide)
  simp only [RP_unSome, W.unSome_some, add_mk, Nat.zero_add, RP_ld]
  refine ld_blk (c := .slice) (x := (some ⟨na, 0, none⟩, n, n)) hc rfl ?_
  simp only [RP_guard, W.guard_iff, W.unSome_some, add_mk, Nat.zero_add, Int.toNat_natCast]
  refine ⟨by show (0 : Int) ≤ (i : Int) ∧ (i : Int) < (n : Int); omega, ?_⟩
  refine ld_blk (c := .ptr) (x := some ⟨d, 0, none⟩) ha h1 ?_
  simp only [RP_nw]
  refine W.nw_of fun r s1 hr m1 k1 => ?_
  have hd1 : DriveIs s1 d dm N.d := ⟨m1.at hd.blk (by simp), hd.map.mod m1 (by simp)⟩
  have hkeep : intsAt s1 (some ⟨r, 0, none⟩) 1 [keep] := ⟨rfl, fun j x hx => by
    cases j with
    | zero =>
      simp at hx; subst hx
      refine ⟨_, rfl, ?_⟩
      rw [add_zero]; unfold PH.cell?; dsimp only; rw [k1]; (first | done | rfl)
    | succ j => simp at hx⟩
  simp only [RP_call]
  refine W.call_of (c_Crash hd1 hD.ok hkeep) ?_
  rintro _ s2 ⟨nb, nm, rfl, hdr, _, m2, hnb, hnm⟩
  refine ⟨((some ⟨nb, 0, none⟩, ()), ()), rfl, ?_⟩
  have m02 : Fw.Mod [d] s s2 := (m1.mono (by simp) : Fw.Mod [d] s s1).trans m2
  have hnbs : s nb = none := m1.none hnb (by simp)
  have hnms : s nm = none := m1.none hnm (by simp)
  have ha2 := m02.at ha (by simp; exact hdn.symm)
  have hc2 := m02.at hc (by simp; exact hgd)
  simp only [W.unSome_some, add_mk, RP_st]
  refine st_blk ha2 h1 rfl ?_
  obtain ⟨s3, hs3⟩ : ∃ s3, s2.upd na (.cells (arr.setIfInBounds (i * 3 + 1) (.pointer (some ⟨nb, 0, none⟩))) 74 (0, 0)) = s3 := ⟨_, rfl⟩
  have m23 : Fw.Mod [na] s2 s3 := by rw [← hs3]; exact Mod.upd (by simp)
  have ha3 : s3 na = some (.cells (arr.setIfInBounds (i * 3 + 1) (.pointer (some ⟨nb, 0, none⟩))) 74 (0, 0)) := by rw [← hs3]; exact PH.upd_same _ _ _
  rw [hs3]
  have hnbn : nb ≠ na := by rintro rfl; rw [hnbs] at ha; cases ha
  have hnmn : nm ≠ na := by rintro rfl; rw [hnms] at ha; cases ha
  have hdr3 : DriveIs s3 nb nm (N.d.crash [keep]) := ⟨m23.at hdr.blk (by simp; exact hnbn), hdr.map.mod m23 (by simp; exact hnmn)⟩
  have hl1 := (Array.getElem?_eq_some_iff.1 h1).1
  have hl2 := (Array.getElem?_eq_some_iff.1 h2).1
  have hl0 := (Array.getElem?_eq_some_iff.1 h0).1
  simp only [W.unSome_some, add_mk]
  refine ld_blk (c := .ptr) (x := some ⟨nb, 0, none⟩) ha3 (by rw [Array.getElem?_setIfInBounds_self_of_lt hl1]; (first | done | rfl)) ?_
  have hread : ((N.d.crash [keep]).read LOG).1.size ≤ 1099511627776 := by
    obtain ⟨u, hu, _, hu2⟩ := crash_got hD.ok LOG [keep]
    unfold DS.read
    split
    · exact Nat.zero_le _
    · rw [hu]
      have := hD.size
      rw [ByteArray.size_extract]; omega
  refine W.call_of (c_Open hdr3 LOG hread) ?_
  rintro y s4 ⟨⟨px, la, lc, rfl, hrow, hfr, hx⟩, hdr4, m4⟩
  rw [hk3] at hrow hx ⊢
  rcases hx with ⟨_, x, rfl, hdia, hxs⟩ | ⟨hx, _⟩
  rotate_left
  · exact absurd rfl hx
  have hLl : ((N.put.map encDB).take k).length = k := by rw [List.length_take, List.length_map]; omega
  refine ⟨((some ⟨x, 0, none⟩, ()), ((la, ((N.put.map encDB).take k).length, lc), ()), (0, ()), ()), rfl, ?_⟩
  have hne0 : ((0 : Int) != 0) = false := rfl
  simp only [RP_ite, hne0, W.br_false, RP_loop, hLl] at hrow hfr ⊢
  have m03 : Fw.Mod [na, d] s s3 := (m02.mono (by simp) : Fw.Mod [na, d] s s2).trans (m23.mono (by simp))
  have m04 : Fw.Mod [na, d] s s4 := m03.fresh m4 (by simp; exact ⟨.inr hnbs, .inr hnms⟩)
  have hxs1 : s x = none ∨ x = na ∨ x = d := by
    by_cases hL : x ∈ [na, d]
    · simp at hL; exact .inr hL
    · exact .inl (m03.none hxs hL)
  have hxs0 : s x = none := by
    rcases hxs1 with h | rfl | rfl
    · exact h
    · rw [ha3] at hxs; cases hxs
    · have hne : x ≠ na := by rintro rfl; rw [ha3] at hxs; cases hxs
      have hmod : s3 x = s2 x := by rw [← hs3, PH.upd_other _ _ hne]
      rename_i hdd
      have := hdd
      exact absurd hxs (by
        rw [hmod]
        have hb2 : DriveIs s2 x dm { N.d with down := true } := by assumption
        rw [hb2.blk]; simp)
  have ha4 := m4.at ha3 (by simp; exact ⟨hnbn.symm, hnmn.symm⟩)
  have hc4 := m04.at hc (by simp; exact ⟨hgn, hgd⟩)
  refine ⟨GstZ ⟨na, i * 3, none⟩ (some ⟨x, 0, none⟩) N.put (la, k, lc) k s4, fun z _ => ((k : Int) - z.2.2.2.2.2.1.1).toNat, ⟨0, noTri, [], rfl, Nat.zero_le _, rfl, rowE.nil, by simp, by simp [Fw.blk], by simp, Mod.refl _ _⟩, ?_⟩
  rintro _ s5 ⟨j, t, ps, rfl, hj, hps, hrow5, hl5, hf5, hg5, m5⟩
  have hpl : ps.length = j := by rw [← List.length_map (f := (·.1)), hps, List.length_take]; omega
  have htn : t.2.1 = j := by rw [← hpl]; exact hrow5.len
  simp only [W.br_iff, decide_eq_true_eq, decide_eq_false_iff_not]
  refine ⟨fun hlt => ?_, fun hge => ?_⟩
  · have hlt : j < k := by omega
    obtain ⟨D, hDj⟩ : ∃ D, N.put[j]? = some D := ⟨_, List.getElem?_eq_getElem (by omega)⟩
    have hLj : ((N.put.map encDB).take k)[j]? = some (encDB D) := by rw [List.getElem?_take_of_lt hlt, List.getElem?_map, hDj]; (first | done | rfl)
    have hrow5' := hrow.mod m5 (by simp)
    obtain ⟨g', hg', hh⟩ := hrow5'.at hLj
    have hDm := hD.put D (List.mem_of_getElem? hDj)
    have hfew := hD.few
    simp only [RP_guard, W.guard_iff, Int.toNat_natCast, hg', W.unSome_some, add_mk, Nat.zero_add]
    refine ⟨by show (0 : Int) ≤ (j : Int) ∧ (j : Int) < (k : Int); omega, (encDB D, ()), hh, ?_⟩
    refine W.call_of (c_GetDelta hDm.1 hDm.2) ?_
    rintro _ s6 ⟨dt, rfl, hrow6, hfr6, m6⟩
    refine ⟨((D.term, D.vote, D.whole, D.base, D.baseTerm, D.snap, D.from_, dt, ()), (0, ()), ()), rfl, ?_⟩
    refine W.nw_of fun r7 s7 hr7 m7 k7 => ?_
    have hmax : maxLen = 9223372036854775807 := rfl
    simp only [RP_app]
    refine app_rowE (E := dlE) (k := 1) (ys := [(D, dt)]) ((hrow5.mod m6 (by simp)).mod m7 (by simp)) rfl (src_has (E := dlE) (has_block k7) rfl) rfl rfl (by show t.2.1 + 1 ≤ maxLen; omega) (by show (t.2.1 + 1) * 88 ≤ 140737488355328; omega) ?_
    intro a' c' s8 hrow8 hm8
    have m8 : Fw.Mod (Fw.blk t.1) s7 s8 ∧ ∀ x ∈ Fw.blk a', x ∈ Fw.blk t.1 ∨ s7 x = none := by
      rcases hm8 with ⟨rfl, hm⟩ | ⟨g, rfl, hg, hm⟩
      · exact ⟨hm, fun x hx => .inl hx⟩
      · exact ⟨hm.mono (by simp), by intro x hx; simp [Fw.blk] at hx; subst hx; exact .inr hg⟩
    obtain ⟨m8, hf8⟩ := m8
    have m57 : Fw.Mod [] s5 s7 := m6.trans m7
    have m07 : Fw.Mod [] s4 s7 := m5.trans m57
    have hrow7 := hrow5.mod m57 (by simp)
    have hl7 : ∀ p ∈ ps ++ [(D, dt)], rowE entE s7 43 p.2.1 p.2.2.1 p.2.2.2 p.1.list := by
      intro p hp
      rcases List.mem_append.1 hp with hp | hp
      · exact (hl5 p hp).mod m57 (by simp)
      · rw [List.mem_singleton] at hp; subst hp; exact hrow6.mod m7 (by simp)
    refine ⟨⟨j + 1, (a', t.2.1 + 1, c'), ps ++ [(D, dt)], by rw [wrap_succ (by omega), ← hg'], hlt, ?_, hrow8, ?_, ?_, ?_, ?_⟩, ?_⟩
    · rw [List.map_append, hps, List.take_add_one, hDj]; (first | done | rfl)
    · intro p hp
      exact (hl7 p hp).mod m8 fun z hz => row_ne3 hrow7 (hl7 p hp) (by decide) z hz
    · intro z hz
      rcases hf8 z hz with h | h
      · exact hf5 z h
      · exact m07.none h (by simp)
    · intro p hp z hz
      rcases List.mem_append.1 hp with hp | hp
      · exact hg5 p hp z hz
      · rw [List.mem_singleton] at hp; subst hp
        exact m5.none (hfr6 z hz) (by simp)
    · exact m07.fresh m8 fun z hz => .inr (hf5 z hz)
    · rw [wrap_succ (by omega)]
      show ((k : Int) - ((j + 1 : Nat) : Int)).toNat < ((k : Int) - ((j : Nat) : Int)).toNat
      omega
  · have hjk : j = k := by omega
    subst hjk
    have ha5 := m5.at ha4 (by simp)
    have hc5 := m5.at hc4 (by simp)
    simp only [W.unSome_some, add_mk]
    refine st_blk (v := .pointer x0) ha5 (by rw [Array.getElem?_setIfInBounds_ne (by omega)]; exact h2) rfl ?_
    obtain ⟨s6, hs6⟩ : ∃ s6, s5.upd na (.cells ((arr.setIfInBounds (i * 3 + 1) (.pointer (some ⟨nb, 0, none⟩))).setIfInBounds (i * 3 + 2) (.pointer (some ⟨x, 0, none⟩))) 74 (0, 0)) = s6 := ⟨_, rfl⟩
    have m6 : Fw.Mod [na] s5 s6 := by rw [← hs6]; exact Mod.upd (by simp)
    have ha6 : s6 na = some (.cells ((arr.setIfInBounds (i * 3 + 1) (.pointer (some ⟨nb, 0, none⟩))).setIfInBounds (i * 3 + 2) (.pointer (some ⟨x, 0, none⟩))) 74 (0, 0)) := by rw [← hs6]; exact PH.upd_same _ _ _
    rw [hs6]
    have hc6 := m6.at hc5 (by simp; exact hgn)
    simp only [W.unSome_some, add_mk, Nat.zero_add]
    refine ld_blk (c := .slice) (x := (some ⟨na, 0, none⟩, n, n)) hc6 rfl ?_
    have hna4 : s4 na ≠ none := by rw [ha4]; simp
    have hDls : DlsAt s6 t.1 t.2.1 (N.put.take j) := by
      refine ⟨by rw [List.length_take]; omega, fun u D hu => ?_⟩
      rw [← hps, List.getElem?_map, Option.map_eq_some_iff] at hu
      obtain ⟨⟨D', dt⟩, hu, rfl⟩ := hu
      obtain ⟨g', hg', hh⟩ := (hrow5.mod m6 (by intro z hz; simp; rintro rfl; exact hna4 (hf5 z hz))).at hu
      have hmem : (D', dt) ∈ ps := List.mem_of_getElem? hu
      have hr6 := (hl5 _ hmem).mod m6 (by intro z hz; simp; rintro rfl; exact hna4 (hg5 _ hmem z hz))
      refine ⟨_, dt, hg', by rw [add_mk, Nat.zero_add]; exact hh, View.of hr6, ?_⟩
      have hlen := hr6.len
      have hD'm : D' ∈ N.put := List.mem_of_mem_take (by rw [← hps]; exact List.mem_map_of_mem hmem)
      have := dtot_memG hD'm
      have := hD.tot
      simp only at hlen ⊢
      omega
    refine W.call_of (c_Load (id := (i : Int)) (size := (n : Int)) hDls (by show t.2.1 ≤ 140737488355328; have := hD.few; omega) (by have := dtot_takeG N.put j; have := hD.tot; omega)) ?_
    have hokn : okNew (i : Int) (n : Int) := ⟨by omega, by omega, by omega, by omega⟩
    have m06 : Fw.Mod [na, d] s s6 := (m04.fresh m5 (by simp)).trans (m6.mono (by simp))
    have hdr6 : DriveIs s6 nb nm ((N.d.crash [keep]).opens LOG).2 := ⟨m6.at (m5.at hdr4.blk (by simp)) (by simp; exact hnbn), (hdr4.map.mod m5 (by simp)).mod m6 (by simp; exact hnmn)⟩
    have hxn : x ≠ na := by rintro rfl; rw [hxs0] at ha; cases ha
    have hdia6 : DiaryIs s6 x nb LOG := m6.at (m5.at hdia (by simp)) (by simp; exact hxn)
    have h06 : ((arr.setIfInBounds (i * 3 + 1) (.pointer (some ⟨nb, 0, none⟩))).setIfInBounds (i * 3 + 2) (.pointer (some ⟨x, 0, none⟩)))[i * 3 + 0]? = some (.pointer none) := by
      rw [Array.getElem?_setIfInBounds_ne (by omega), Array.getElem?_setIfInBounds_ne (by omega)]; exact h0
    rintro y s7 ⟨m7, h7⟩
    have ha7 := m7.at ha6 (by simp)
    have hdr7 : DriveIs s7 nb nm ((N.d.crash [keep]).opens LOG).2 := ⟨m7.at hdr6.blk (by simp), hdr6.map.mod m7 (by simp)⟩
    have hdia7 : DiaryIs s7 x nb LOG := m7.at hdia6 (by simp)
    have m07 : Fw.Mod [na, d] s s7 := m06.fresh m7 (by simp)
    have hfin : ∀ q' : Mem, q'.d = nb → q'.dm = nm → q'.xp = some ⟨x, 0, none⟩ → NdIs s7 q' N' → (∀ z ∈ q'.F, s z = none) → na ∉ q'.F →
        StartQ na d arr i N' s (.tuple #[]) (s7.upd na (.cells (((arr.setIfInBounds (i * 3 + 1) (.pointer (some ⟨nb, 0, none⟩))).setIfInBounds (i * 3 + 2) (.pointer (some ⟨x, 0, none⟩))).setIfInBounds (i * 3 + 0) (.pointer (q'.bp.map fun b => ⟨b, 0, none⟩))) 74 (0, 0))) := by
      intro q' e1 e2 e3 hnd hfr hnn
      refine ⟨rfl, q', ?_, hnd.mod (Mod.upd (L := [na]) (by simp)) (by intro z hz; simp; rintro rfl; exact hnn hz), hfr, Mod.updLater m07 (.inl (by simp))⟩
      rw [PH.upd_same]; unfold arr3; rw [e1, e3]
    rcases h7 with ⟨_, B, hB, b, l, rfl, hBal, hbf⟩ | ⟨_, hno, rfl⟩ | ⟨hno, _⟩
    · refine ⟨((some ⟨b, 0, none⟩, ()), (0, ()), ()), rfl, ?_⟩
      simp only [W.unSome_some, add_mk]
      refine st_blk ha7 h06 rfl ?_
      have hb0 : ∀ z ∈ bL b l noTri noTri noTri, s z = none := by
        intro z hz
        have h6 := hbf z hz
        by_cases hL : z ∈ [na, d]
        · exfalso
          simp at hL
          rcases hL with rfl | rfl
          · rw [ha6] at h6; cases h6
          · have hne : z ≠ na := by rintro rfl; rw [ha6] at h6; cases h6
            have h5 : s5 z = none := by rw [← hs6, PH.upd_other _ _ hne] at h6; exact h6
            have h4' : s4 z = none := m5.none h5 (by simp)
            have h3' : s3 z = none := m4.none h4' (by
              simp
              constructor
              · rintro rfl; have := hd.blk; rw [hnbs] at this; cases this
              · rintro rfl; have := hd.blk; rw [hnms] at this; cases this)
            have h2' : s2 z = none := by rw [← hs3, PH.upd_other _ _ hne] at h3'; exact h3'
            have hb2 : DriveIs s2 z dm { N.d with down := true } := by assumption
            have := hb2.blk
            rw [h2'] at this; cases this
        · exact m06.none h6 hL
      refine hfin ⟨some b, l, noTri, noTri, noTri, nb, nm, some ⟨x, 0, none⟩⟩ rfl rfl rfl ?_ ?_ ?_
      · rw [hNN, hB]
        refine ⟨hdr7, fun e => (by cases e), fun B' e => ?_⟩
        cases e
        exact ⟨b, x, rfl, hBal, rfl, hdia7⟩
      · intro z hz
        simp only [Mem.F, Fw.blk, List.mem_append, List.mem_cons, List.not_mem_nil, or_false] at hz
        rcases hz with hz | rfl | rfl | rfl
        · exact hb0 z hz
        · exact hxs0
        · exact hnbs
        · exact hnms
      · intro hz
        have hna : s na ≠ none := by rw [ha]; simp
        simp only [Mem.F, Fw.blk, List.mem_append, List.mem_cons, List.not_mem_nil, or_false] at hz
        rcases hz with hz | rfl | rfl | rfl
        · exact hna (hb0 _ hz)
        · exact hna hxs0
        · exact hna hnbs
        · exact hna hnms
    · refine ⟨((none, ()), (100, ()), ()), rfl, ?_⟩
      simp only [W.unSome_some, add_mk]
      refine st_blk ha7 h06 rfl ?_
      refine hfin ⟨none, noTri, noTri, noTri, noTri, nb, nm, some ⟨x, 0, none⟩⟩ rfl rfl rfl ?_ ?_ ?_
      · rw [hNN, hno]
        exact ⟨hdr7, fun _ => rfl, fun B' e => (by cases e)⟩
      · intro z hz
        simp only [Mem.F, List.mem_cons, List.not_mem_nil, or_false] at hz
        rcases hz with rfl | rfl
        · exact hnbs
        · exact hnms
      · intro hz
        simp only [Mem.F, List.mem_cons, List.not_mem_nil, or_false] at hz
        rcases hz with rfl | rfl
        · exact hnbn rfl
        · exact hnmn rfl
    · exact absurd hokn hno
end Go.Proofs.YtcdggocbjnmeaaaGreat
end
section
set_option linter.unusedVariables false
set_option linter.unusedSimpArgs false
set_option maxHeartbeats 2000000
set_option maxRecDepth 100000
namespace Go.Proofs.YtcdggocbjnmeaaaGreat
open Fw Go
attribute [-simp] Fw.W.ld_iff Fw.W.st_iff
theorem zero_three (v : Value) (n : Nat) : Builtin.zeroCells #[v, v, v] n = (List.replicate (n * 3) v).toArray := by
  unfold Builtin.zeroCells
  apply Array.ext'
  simp only [Array.toList_map, Array.toList_range, List.size_toArray, List.length_cons, List.length_nil, Nat.zero_add]
  apply List.ext_getElem?
  intro i
  rw [List.getElem?_map, List.getElem?_replicate]
  by_cases h : i < n * 3
  · rw [List.getElem?_range h, if_pos h]
    have : i % 3 = 0 ∨ i % 3 = 1 ∨ i % 3 = 2 := by omega
    rcases this with e | e | e <;> simp [e]
  · rw [List.getElem?_eq_none (by simpa using h), if_neg h]; (first | done | rfl)
theorem Grp.Fit.dsk {G : Grp} (hf : G.Fit) {i : Nat} {N : Nd} (hN : G.nodes[i]? = some N) : N.Disk :=
  ⟨(hf.disk i N hN).1, (hf.disk i N hN).2.1, (hf.disk i N hN).2.2.1, (hf.disk i N hN).2.2.2, (hf.nds i N hN).2.1, (hf.nds i N hN).1⟩
theorem arr3_set {ms : List Mem} {i : Nat} {q q' : Mem} (hq : ms[i]? = some q) : arr3 (ms.flatMap memE.f).toArray i q' = ((ms.set i q').flatMap memE.f).toArray := by
  have hi := (List.getElem?_eq_some_iff.1 hq).1
  unfold arr3
  rw [mem_set (q' := { q with d := q'.d }) hq rfl (by omega), mem_set (q := { q with d := q'.d }) (q' := { q with d := q'.d, xp := q'.xp }) (by rw [List.getElem?_set_self hi]) rfl (by omega), List.set_set,
    mem_set (q := { q with d := q'.d, xp := q'.xp }) (q' := { q with d := q'.d, xp := q'.xp, bp := q'.bp }) (by rw [List.getElem?_set_self hi]) rfl (by omega), List.set_set]
  congr 1
  have h2 : (ms.set i { q with d := q'.d, xp := q'.xp, bp := q'.bp }).flatMap memE.f = ((ms.set i { q with d := q'.d, xp := q'.xp, bp := q'.bp }).set i q').flatMap memE.f := by
    symm
    exact flat_set_same (q := { q with d := q'.d, xp := q'.xp, bp := q'.bp }) (by rw [List.getElem?_set_self hi]) rfl
  rw [h2, List.set_set]
section
variable {s s1 : PH} {g na p : Nat} {ms : List Mem} {t : Tri} {G : Grp}
theorem c_grestart (h : GrpIs s g na p ms t G) (hf : G.Fit) (k a b : Int) (x : ByteArray) :
    DCalls Tryz.prog 29 #[gptr g, actV k a b x] s (GrpQ g na p ms t (G.ndSet (G.pl a) fun N => if N.b.isSome = true then N else N.start (plc a G.nodes.length) G.nodes.length b) s) := by
  refine ok_grestart g k a b x _ s ?_
  unfold vc_grestart
  obtain ⟨N, hN⟩ := hf.at_ a
  rw [ndSet_some hN]
  have hr := plc_range a (n := G.nodes.length) (by have := hf.sz; omega) (by have := hf.sz; omega)
  have hlen := h.len
  simp only [RP_call]
  cases hB : N.b with
  | some B =>
    refine W.call_of (c_node_up h hf k a b x hN hB) ?_
    rintro _ s ⟨rfl, rfl⟩
    refine ⟨((some ⟨na, G.pl a * 3, none⟩, ()), ()), rfl, ?_⟩
    simp only [RP_ite, Option.isNone_some, W.br_false]
    simp only [Option.isSome_some, if_true]
    rw [GrpIs.same hN]; exact GrpQ.refl h
  | none =>
    refine W.call_of (c_node_down h hf k a b x hN hB) ?_
    rintro _ s ⟨rfl, rfl⟩
    refine ⟨((none, ()), ()), rfl, ?_⟩
    obtain ⟨q, hq⟩ := h.mem hN
    have hnd := h.nds _ q _ hq hN
    have hbp := hnd.down hB
    have hqF : q.F = [q.d, q.dm] := by unfold Mem.F; rw [hbp]
    have hc := h.cell
    simp only [RP_ite, Option.isNone_none, W.br_true, RP_unSome, W.unSome_some, add_mk, Nat.zero_add, RP_ld]
    refine ld_blk (c := .slice) (x := (some ⟨na, 0, none⟩, ms.length, ms.length)) hc rfl ?_
    simp only [RP_callQ]
    refine W.callQ_of ((plc a ms.length, ()), ()) (c_place a ms.length s) rfl ?_
    have ei : plc a ms.length = ((G.pl a : Nat) : Int) := by rw [hlen]; show _ = (((plc a G.nodes.length).toNat : Nat) : Int); omega
    have ei2 : plc a G.nodes.length = ((G.pl a : Nat) : Int) := by rw [← hlen]; exact ei
    rw [ei]
    have hi := (List.getElem?_eq_some_iff.1 hq).1
    refine W.call_of (c_gstart hc h.arr hi h.few (mem_get hq (by omega) (by show some _ = some _; rw [hbp]; (first | done | rfl))) (mem_get hq (by omega) rfl) (mem_get hq (by omega) rfl) hnd.drive hB (hf.dsk hN) b) ?_
    rintro y s1 ⟨rfl, q', ha1, hn1, hf1, m1⟩
    refine ⟨(), rfl, ?_⟩
    rw [arr3_set hq] at ha1
    obtain ⟨u1, u2⟩ := h.upd hq hN (q' := q') (m1.mono (by rw [hqF]; simp)) ha1 hn1 (fun y hy => .inr (hf1 y hy))
    simp only [Option.isSome_none, Bool.false_eq_true, if_false]
    rw [ei2]
    rw [hlen] at u1
    exact ⟨rfl, _, t, u1, u2⟩
/-- the letters' number, a node's ballot -/
theorem c_gLetters (h : GrpIs s g na p ms t G) : DCalls Tryz.prog 19 #[gptr g] s fun y s' => y = .int .i64 (G.bag.length : Int) ∧ s' = s := by
  refine ok_gLetters g _ s ?_
  unfold vc_gLetters
  have hc := h.cell
  simp only [RP_ite, Option.isNone_some, W.br_false, RP_unSome, W.unSome_some, add_mk, Nat.zero_add, RP_ld]
  refine ld_blk (c := .ptr) (x := some ⟨p, 0, none⟩) hc rfl ?_
  simp only [RP_call]
  refine W.call_of (c_pLen h.post) ?_
  rintro _ s ⟨rfl, rfl⟩
  exact ⟨((_, ()), ()), rfl, rfl, rfl⟩
/-- what suits an act -/
structure Grp.Pre (G : Grp) (k a : Int) (x : ByteArray) : Prop where
  fit : G.Fit
  p12 : k = 1 ∨ k = 2 → ∀ M, G.bag[(plc a G.bag.length).toNat]? = some M → ∀ N B, G.nodes[M.to.toNat]? = some N → N.b = some B → RFit G.nodes.length (B.take M)
  p4 : k = 4 → ∀ N B, G.nodes[G.pl a]? = some N → N.b = some B → RFit G.nodes.length B.timeout
  p5 : k = 5 → ∀ N B, G.nodes[G.pl a]? = some N → N.b = some B → RFit G.nodes.length B.beat
  p6 : k = 6 → 1 ≤ x.size ∧ x.size ≤ 256 → ∀ N B, G.nodes[G.pl a]? = some N → N.b = some B → RFit G.nodes.length (B.propose 0 G.acts x).2
  p10 : k = 10 → ∀ N B, G.nodes[G.pl a]? = some N → N.b = some B → RFit G.nodes.length B.cutAll
theorem callV_plain {P : Program} {g : FuncId} {args : Array Value} {r : Bool × List Shape} {k : MDen r.2 → W.T} {s : PH} {fn : Func} (hfn : P.funcs[g]? = some fn) (hb : fn.body.isSome = true) (hn : (fn.name == "runtime.NumGoroutine") = false) {Q : Value → PH → Prop}
    (h : DCalls P g args s Q) (hk : ∀ v s', Q v s' → ∃ x, mkRes r x = v ∧ k x s') : W.callV P (.func (.func g) #[] #[]) args r k s :=
  callV_bound hfn hb hn (by simpa using h) hk
theorem tick_is (h : GrpIs s g na p ms t G) (ha : Num G.acts) : GrpIs (s.upd g (.cells #[.slice (some ⟨na, 0, none⟩) ms.length ms.length, .pointer (some ⟨p, 0, none⟩), .int .i64 (IntKind.i64.wrap (G.acts + 1))] 61 (0, 0))) g na p ms t G.tick := by
  have hw : IntKind.i64.wrap (G.acts + 1) = G.acts + 1 := by unfold Num at ha; exact wrap_in (by omega) (by omega)
  rw [hw]
  obtain ⟨s', hs'⟩ : ∃ s', s.upd g (.cells #[.slice (some ⟨na, 0, none⟩) ms.length ms.length, .pointer (some ⟨p, 0, none⟩), .int .i64 (G.acts + 1)] 61 (0, 0)) = s' := ⟨_, rfl⟩
  have m1 : Fw.Mod [g] s s' := by rw [← hs']; exact Mod.upd (by simp)
  have k1 : s' g = some (.cells #[.slice (some ⟨na, 0, none⟩) ms.length ms.length, .pointer (some ⟨p, 0, none⟩), .int .i64 (G.acts + 1)] 61 (0, 0)) := by rw [← hs']; exact PH.upd_same _ _ _
  have hne := h.ne
  rw [hs']
  refine ⟨k1, m1.at h.arr (by simp; exact hne.1.symm), h.post.mod m1 (by simp; exact hne.2.1.symm) (by intro x hx; simp; rintro rfl; exact hne.2.2.2.1 hx), h.len, h.few, fun i q N hq hN => (h.nds i q N hq hN).mod m1 fun x hx => ?_, h.apart⟩
  simp; exact (h.oth q (List.mem_of_getElem? hq) x hx).1
theorem c_gDo (h : GrpIs s g na p ms t G) (ha : Num G.acts) (k a b : Int) (x : ByteArray) (hp : G.tick.Pre k a x) :
    DCalls Tryz.prog 11 #[gptr g, actV k a b x] s (GrpQ g na p ms t (G.act k a b x) s) := by
  refine ok_gDo g k a b x _ s ?_
  unfold vc_gDo
  have hc := h.cell
  simp only [RP_ite, Option.isNone_some, W.br_false, RP_unSome, W.unSome_some, add_mk, Nat.zero_add, RP_ld]
  refine ld_blk (c := .int .i64) (x := G.acts) hc rfl ?_
  simp only [W.unSome_some, add_mk, Nat.zero_add, RP_st]
  refine st_blk (v := .int .i64 G.acts) hc rfl rfl ?_
  obtain ⟨s1, hs1⟩ : ∃ s1, s.upd g (.cells #[.slice (some ⟨na, 0, none⟩) ms.length ms.length, .pointer (some ⟨p, 0, none⟩), .int .i64 (IntKind.i64.wrap (G.acts + 1))] 61 (0, 0)) = s1 := ⟨_, rfl⟩
  have h1 : GrpIs s1 g na p ms t G.tick := by rw [← hs1]; exact tick_is h ha
  have st1 : Step (GF g na p ms t) (GF g na p ms t) s s1 := ⟨by rw [← hs1]; exact Mod.upd (by simp [GF]), fun y hy => .inl hy⟩
  simp only [RP_nw]
  change W.nw _ _ (s.upd g (.cells #[.slice (some ⟨na, 0, none⟩) ms.length ms.length, .pointer (some ⟨p, 0, none⟩), .int .i64 (IntKind.i64.wrap (G.acts + 1))] 61 (0, 0)))
  rw [hs1]
  refine W.nw_of fun r s2 hr m2 k2 => ?_
  refine set_blk4 (vs := [.func (.func 22) #[] #[], .func (.func 23) #[] #[], .func (.func 24) #[] #[], .func (.func 25) #[] #[], .func (.func 26) #[] #[], .func (.func 27) #[] #[], .func (.func 28) #[] #[], .func (.func 29) #[] #[], .func (.func 30) #[] #[], .func (.func 31) #[] #[]]) k2 rfl (by simp) _ (by intro v hv; simp at hv; rcases hv with rfl | rfl | rfl | rfl | rfl | rfl | rfl | rfl | rfl | rfl <;> rfl) fun s3 k3 m3 => ?_
  have m13 : Fw.Mod [] s1 s3 := m2.fresh m3 (by simp [hr])
  have h2 := h1.new m13
  have st3 : Step (GF g na p ms t) (GF g na p ms t) s s3 := st1.trans ⟨m13.mono (by simp), fun y hy => .inl hy⟩
  obtain ⟨R, hR⟩ : ∃ R : Value → PH → Prop, GrpQ g na p ms t (G.act k a b x) s = R := ⟨_, rfl⟩
  have fin : ∀ G', G' = G.act k a b x → ∀ v s', GrpQ g na p ms t G' s3 v s' → ∃ z : Unit, mkRes (true, []) z = v ∧ R (.tuple #[]) s' := by
    rintro G' rfl v s' hQ
    obtain ⟨e, _⟩ := id hQ
    subst e
    exact ⟨(), rfl, by rw [← hR]; exact hQ.trans st3⟩
  rw [hR]
  have k3' : s3 r = some (.cells #[.func (.func 22) #[] #[], .func (.func 23) #[] #[], .func (.func 24) #[] #[], .func (.func 25) #[] #[], .func (.func 26) #[] #[], .func (.func 27) #[] #[], .func (.func 28) #[] #[], .func (.func 29) #[] #[], .func (.func 30) #[] #[], .func (.func 31) #[] #[]] 63 (0, 0)) := k3
  simp only [RP_join]
  refine W.join_gen (fun z s' => z = ((k, a, b, x, ()), (Addr.mk r 0 none, ()), (decide (1 ≤ k ∧ k ≤ 10), ()), ()) ∧ s' = s3) ?_ ?_
  · rintro _ s3 ⟨rfl, rfl⟩
    simp only [W.br_iff, decide_eq_true_eq, decide_eq_false_iff_not]
    refine ⟨fun hk => ?_, fun hk => ?_⟩
    · have hw : IntKind.i64.wrap (k - 1) = k - 1 := wrap_in (by omega) (by omega)
      simp only [RP_guard, W.guard_iff, RP_callV, hw, add_mk]
      refine ⟨by omega, ?_⟩
      have hcase : k = 1 ∨ k = 2 ∨ k = 3 ∨ k = 4 ∨ k = 5 ∨ k = 6 ∨ k = 7 ∨ k = 8 ∨ k = 9 ∨ k = 10 := by omega
      rcases hcase with rfl | rfl | rfl | rfl | rfl | rfl | rfl | rfl | rfl | rfl
      · refine ld_blk (c := .raw) (x := .func (.func 22) #[] #[]) k3' rfl ?_
        exact callV_plain (fn := _) rfl rfl rfl (c_gtake h2 hp.fit 1 a b x (hp.p12 (.inl rfl))) (fin _ rfl)
      · refine ld_blk (c := .raw) (x := .func (.func 23) #[] #[]) k3' rfl ?_
        exact callV_plain (fn := _) rfl rfl rfl (c_gcopy h2 hp.fit 2 a b x (hp.p12 (.inr rfl))) (fin _ rfl)
      · refine ld_blk (c := .raw) (x := .func (.func 24) #[] #[]) k3' rfl ?_
        exact callV_plain (fn := _) rfl rfl rfl (c_glose h2 hp.fit 3 a b x) (fin _ rfl)
      · refine ld_blk (c := .raw) (x := .func (.func 25) #[] #[]) k3' rfl ?_
        exact callV_plain (fn := _) rfl rfl rfl (c_gtimeout h2 hp.fit 4 a b x (hp.p4 rfl)) (fin _ rfl)
      · refine ld_blk (c := .raw) (x := .func (.func 26) #[] #[]) k3' rfl ?_
        exact callV_plain (fn := _) rfl rfl rfl (c_gbeat h2 hp.fit 5 a b x (hp.p5 rfl)) (fin _ rfl)
      · refine ld_blk (c := .raw) (x := .func (.func 27) #[] #[]) k3' rfl ?_
        exact callV_plain (fn := _) rfl rfl rfl (c_gpropose h2 hp.fit 6 a b x (hp.p6 rfl)) (fin _ rfl)
      · refine ld_blk (c := .raw) (x := .func (.func 28) #[] #[]) k3' rfl ?_
        exact callV_plain (fn := _) rfl rfl rfl (c_gcrash h2 hp.fit 7 a b x) (fin _ rfl)
      · refine ld_blk (c := .raw) (x := .func (.func 29) #[] #[]) k3' rfl ?_
        exact callV_plain (fn := _) rfl rfl rfl (c_grestart h2 hp.fit 8 a b x) (fin _ rfl)
      · refine ld_blk (c := .raw) (x := .func (.func 30) #[] #[]) k3' rfl ?_
        exact callV_plain (fn := _) rfl rfl rfl (c_garm h2 hp.fit 9 a b x) (fin _ rfl)
      · refine ld_blk (c := .raw) (x := .func (.func 31) #[] #[]) k3' rfl ?_
        exact callV_plain (fn := _) rfl rfl rfl (c_gcut h2 hp.fit 10 a b x (hp.p10 rfl)) (fin _ rfl)
    · simp only [RP_ret, W.ret_iff]
      rw [← hR]
      have e : G.act k a b x = G.tick := by
        unfold Grp.act Grp.does
        rw [if_neg (by omega)]
        rw [if_neg (by omega)]
        rw [if_neg (by omega)]
        rw [if_neg (by omega)]
        rw [if_neg (by omega)]
        rw [if_neg (by omega)]
        rw [if_neg (by omega)]
        rw [if_neg (by omega)]
        rw [if_neg (by omega)]
        rw [if_neg (by omega)]
      rw [e]
      exact (GrpQ.refl h2).trans st3
  · intro J hJ
    simp only [W.br_iff, decide_eq_true_eq, decide_eq_false_iff_not]
    refine ⟨fun h1 => hJ _ _ ⟨?_, rfl⟩, fun h1 => hJ _ _ ⟨?_, rfl⟩⟩
    · have e : decide (k ≤ 10) = decide (1 ≤ k ∧ k ≤ 10) := by simp only [decide_eq_decide]; omega
      rw [e]
    · have e : false = decide (1 ≤ k ∧ k ≤ 10) := by symm; rw [decide_eq_false_iff_not]; omega
      rw [e]
end
end Go.Proofs.YtcdggocbjnmeaaaGreat
end
section
set_option linter.unusedVariables false
set_option linter.unusedSimpArgs false
set_option maxHeartbeats 2000000
set_option maxRecDepth 100000
namespace Go.Proofs.YtcdggocbjnmeaaaGreat
open Fw Go
attribute [-simp] Fw.W.ld_iff Fw.W.st_iff
theorem Nd.none_disk : Nd.none.Disk := ⟨⟨0, Kept.start⟩, by simp [Nd.none], by simp [Nd.none, dtot], by simp [Nd.none], ⟨by simp [Nd.none], by simp [Nd.none], by simp [Nd.none]⟩, by show (0 : Nat) ≤ _; omega⟩
abbrev nilP : Value := .pointer none
theorem new_arr {A : List Value} {i m : Nat} (hA : A.length = i * 3) (q : Mem) (d0 : Value) : arr3 ((A ++ List.replicate ((m + 1) * 3) nilP).toArray.setIfInBounds (i * 3 + 1) d0) i q = (A ++ memE.f q ++ List.replicate (m * 3) nilP).toArray := by
  unfold arr3
  have e : List.replicate ((m + 1) * 3) nilP = nilP :: nilP :: nilP :: List.replicate (m * 3) nilP := by
    rw [show (m + 1) * 3 = m * 3 + 1 + 1 + 1 by omega, List.replicate_succ, List.replicate_succ, List.replicate_succ]
  rw [e]
  simp only [List.setIfInBounds_toArray]
  congr 1
  rw [List.set_append_right _ _ (by omega), List.set_append_right _ _ (by omega), List.set_append_right _ _ (by omega), List.set_append_right _ _ (by omega), hA]
  have e1 : i * 3 + 1 - i * 3 = 1 := by omega
  have e2 : i * 3 + 2 - i * 3 = 2 := by omega
  have e0 : i * 3 + 0 - i * 3 = 0 := by omega
  rw [e1, e2, e0]
  simp [memE]
/-- a group that is being made -/
structure NewI (n g na p : Nat) (ms : List Mem) (s0 s' : PH) : Prop where
  cell : s' g = some (.cells #[.slice (some ⟨na, 0, none⟩) n n, .pointer (some ⟨p, 0, none⟩), .int .i64 0] 61 (0, 0))
  arr : s' na = some (.cells (ms.flatMap memE.f ++ List.replicate ((n - ms.length) * 3) nilP).toArray 74 (0, 0))
  post : PostIs s' p noTri []
  len : ms.length ≤ n
  nds : ∀ (i : Nat) q, ms[i]? = some q → NdIs s' q (Nd.none.start i n 0)
  apart : ∀ (i j : Nat) q r, ms[i]? = some q → ms[j]? = some r → i ≠ j → ∀ x ∈ q.F, x ∉ r.F
  mod : Fw.Mod [] s0 s'
  fresh : ∀ x ∈ GF g na p ms noTri, s0 x = none
def NewZ (n : Nat) (s0 : PH) (g na p : Nat) (z : MDen [(false, [.ptr]), (false, [.int .i64]), (false, [.int .i64])]) (s' : PH) : Prop :=
  ∃ ms : List Mem, z = ((some ⟨g, 0, none⟩, ()), ((n : Int), ()), ((ms.length : Int), ()), ()) ∧ NewI n g na p ms s0 s'
def NewQ (n : Nat) (s : PH) (y : Value) (s' : PH) : Prop := ∃ g na p ms t, y = .tuple #[gptr g, .int .i64 0] ∧ GrpIs s' g na p ms t (Grp.new n) ∧ Fw.Mod [] s s' ∧ ∀ x ∈ GF g na p ms t, s x = none
theorem c_gNew {n : Nat} (h1 : 1 ≤ n) (h5 : n ≤ 5) (s : PH) : DCalls Tryz.prog 18 #[.int .i64 (n : Int)] s (NewQ n s) := by
  refine ok_gNew n _ s ?_
  unfold vc_gNew
  simp only [RP_join]
  refine W.join_gen (fun z s' => s' = s) ?_ ?_
  rotate_left
  · intro J hJ
    have n1 : ¬ ((n : Int) < 1) := by omega
    have n2 : ¬ ((n : Int) > 5) := by omega
    simp only [RP_ite, decide_eq_false n1, decide_eq_false n2, W.br_false]
    exact hJ _ _ rfl
  rintro _ s rfl
  refine W.join_gen (fun z s' => ∃ g na p, z = ((some ⟨g, 0, none⟩, ()), ()) ∧ NewI n g na p [] s s') ?_ ?_
  · rintro _ s1 ⟨g, na, p, rfl, hI⟩
    simp only [RP_unSome, W.unSome_some, add_mk, Nat.zero_add, RP_ld]
    refine ld_blk (c := .slice) (x := (some ⟨na, 0, none⟩, n, n)) hI.cell rfl ?_
    simp only [RP_loop]
    refine ⟨NewZ n s g na p, fun z _ => ((n : Int) - z.2.2.1.1).toNat, ⟨[], rfl, hI⟩, ?_⟩
    rintro _ s2 ⟨ms, rfl, hI⟩
    have hc := hI.cell
    have ha := hI.arr
    simp only [RP_ite, W.br_iff, decide_eq_true_eq, decide_eq_false_iff_not]
    refine ⟨fun hlt => ?_, fun hge => ?_⟩
    · have hlt : ms.length < n := by omega
      simp only [W.unSome_some, add_mk, Nat.zero_add]
      refine ld_blk (c := .slice) (x := (some ⟨na, 0, none⟩, n, n)) hc rfl ?_
      simp only [RP_call]
      refine W.call_of (c_New s2) ?_
      rintro _ s3 ⟨db, dm, rfl, hdr, m3, hdb, hdm⟩
      refine ⟨((some ⟨db, 0, none⟩, ()), ()), rfl, ?_⟩
      have hc3 := m3.at hc (by simp)
      have ha3 := m3.at ha (by simp)
      simp only [RP_still]
      refine (W.still_at hc3 _ _ _ _ _).2 ⟨rfl, ?_⟩
      simp only [RP_guard, W.guard_iff, W.unSome_some, add_mk, Nat.zero_add, Int.toNat_natCast, RP_st]
      refine ⟨by show (0 : Int) ≤ (ms.length : Int) ∧ (ms.length : Int) < (n : Int); omega, ?_⟩
      obtain ⟨m, hm⟩ : ∃ m, n - ms.length = m + 1 := ⟨n - ms.length - 1, by omega⟩
      rw [hm] at ha3
      have hAl : (ms.flatMap memE.f).length = ms.length * 3 := flat_len ms
      have hget : ∀ j, j < 3 → ((ms.flatMap memE.f ++ List.replicate ((m + 1) * 3) nilP).toArray)[ms.length * 3 + j]? = some nilP := by
        intro j hj
        rw [List.getElem?_toArray, List.getElem?_append_right (by omega), hAl, Nat.add_sub_cancel_left, List.getElem?_replicate, if_pos (by omega)]
      refine st_blk ha3 (hget 1 (by omega)) rfl ?_
      obtain ⟨s4, hs4⟩ : ∃ s4, s3.upd na (.cells ((ms.flatMap memE.f ++ List.replicate ((m + 1) * 3) nilP).toArray.setIfInBounds (ms.length * 3 + 1) (.pointer (some ⟨db, 0, none⟩))) 74 (0, 0)) = s4 := ⟨_, rfl⟩
      have m4 : Fw.Mod [na] s3 s4 := by rw [← hs4]; exact Mod.upd (by simp)
      have ha4 : s4 na = some (.cells ((ms.flatMap memE.f ++ List.replicate ((m + 1) * 3) nilP).toArray.setIfInBounds (ms.length * 3 + 1) (.pointer (some ⟨db, 0, none⟩))) 74 (0, 0)) := by rw [← hs4]; exact PH.upd_same _ _ _
      rw [hs4]
      have hgna : g ≠ na := by rintro rfl; rw [hc] at ha; exact absurd (Obj.cells.inj (Option.some.inj ha)).2.1 (by decide)
      have hpna : p ≠ na := by rintro rfl; have := hI.post.cell; rw [ha] at this; exact absurd (Obj.cells.inj (Option.some.inj this)).2.1 (by decide)
      have hdbna : db ≠ na := by rintro rfl; rw [hdb] at ha; cases ha
      have hdmna : dm ≠ na := by rintro rfl; rw [hdm] at ha; cases ha
      have hc4 := m4.at hc3 (by simp; exact hgna)
      have hdr4 : DriveIs s4 db dm ⟨[], false, 0⟩ := ⟨m4.at hdr.blk (by simp; exact hdbna), hdr.map.mod m4 (by simp; exact hdmna)⟩
      have hsz : (ms.flatMap memE.f ++ List.replicate ((m + 1) * 3) nilP).toArray.size = ms.length * 3 + (m + 1) * 3 := by simp [hAl]
      refine W.call_of (c_gstart (N := Nd.none) hc4 ha4 hlt h5 (x0 := none) (by rw [Array.getElem?_setIfInBounds_ne (by omega)]; exact hget 0 (by omega)) (by rw [Array.getElem?_setIfInBounds_self_of_lt (by rw [hsz]; omega)]; (first | done | rfl))
        (by rw [Array.getElem?_setIfInBounds_ne (by omega)]; exact hget 2 (by omega)) hdr4 rfl Nd.none_disk 0) ?_
      rintro _ s5 ⟨rfl, q', ha5, hn5, hf5, m5⟩
      refine ⟨(), rfl, ?_⟩
      rw [new_arr hAl] at ha5
      have hfq : ∀ x ∈ q'.F, s2 x = none ∧ x ≠ na := by
        intro x hx
        have h4 := hf5 x hx
        have hxna : x ≠ na := by rintro rfl; rw [ha4] at h4; cases h4
        refine ⟨?_, hxna⟩
        rw [← hs4, PH.upd_other _ _ hxna] at h4
        exact m3.none h4 (by simp)
      have hkn : ∀ (i : Nat) (q : Mem), ms[i]? = some q → ∀ x ∈ q.F, s2 x ≠ none := fun i q hq x hx => (hI.nds i q hq).known x hx
      have hoth : ∀ (i : Nat) (q : Mem), ms[i]? = some q → ∀ x ∈ q.F, x ≠ na ∧ x ≠ db := by
        intro i q hq x hx
        refine ⟨?_, ?_⟩
        · rintro rfl; exact ((hI.nds i q hq).oth x hx _ _ _ ha).2.1 rfl
        · rintro rfl; exact hkn i q hq x hx hdb
      have m25 : Fw.Mod [na, db] s2 s5 := ((m3.mono (by simp) : Fw.Mod [na, db] s2 s3).trans (m4.mono (by simp))).trans m5
      have m24 : Fw.Mod [na] s2 s4 := (m3.mono (by simp) : Fw.Mod [na] s2 s3).trans m4
      have hms : ms.length + 1 = (ms ++ [q']).length := by simp
      have hdbg : ∀ z, s2 z ≠ none → z ≠ db := by rintro z hz rfl; exact hz hdb
      refine ⟨⟨ms ++ [q'], by rw [wrap_succ (by omega), hms], ⟨?_, ?_, ?_, by simp; omega, ?_, ?_, ?_, ?_⟩⟩, ?_⟩
      · exact m25.at hc (by simp; exact ⟨hgna, hdbg g (by rw [hc]; simp)⟩)
      · rw [ha5]
        congr 4
        · simp
        · simp; omega
      · exact hI.post.mod m25 (by simp; exact ⟨hpna, hdbg p (by rw [hI.post.cell]; simp)⟩) (by simp [Fw.blk])
      · intro i q hq
        by_cases hi : i < ms.length
        · rw [List.getElem?_append_left hi] at hq
          exact (hI.nds i q hq).mod m25 fun x hx => by simp; exact hoth i q hq x hx
        · have hi2 := (List.getElem?_eq_some_iff.1 hq).1
          simp at hi2
          have : i = ms.length := by omega
          subst this
          rw [List.getElem?_append_right (Nat.le_refl _)] at hq
          simp at hq; subst hq
          exact hn5
      · intro i j q r hq hr hij x hx hxr
        have hi2 := (List.getElem?_eq_some_iff.1 hq).1
        have hj2 := (List.getElem?_eq_some_iff.1 hr).1
        simp at hi2 hj2
        by_cases hi : i < ms.length
        · rw [List.getElem?_append_left hi] at hq
          by_cases hj : j < ms.length
          · rw [List.getElem?_append_left hj] at hr
            exact hI.apart i j q r hq hr hij x hx hxr
          · have : j = ms.length := by omega
            subst this
            rw [List.getElem?_append_right (Nat.le_refl _)] at hr
            simp at hr; subst hr
            exact hkn i q hq x hx (hfq x hxr).1
        · have : i = ms.length := by omega
          subst this
          rw [List.getElem?_append_right (Nat.le_refl _)] at hq
          simp at hq; subst hq
          rw [List.getElem?_append_left (by omega)] at hr
          exact hkn j r hr x hxr (hfq x hx).1
      · have h03 : Fw.Mod [] s s3 := hI.mod.trans m3
        have hna0 : s na = none := hI.fresh na (by simp [GF])
        have h04 : Fw.Mod [] s s4 := h03.fresh m4 (by simp [hna0])
        have hdb0 : s db = none := hI.mod.none hdb (by simp)
        exact h04.fresh m5 (by simp [hna0, hdb0])
      · intro x hx
        simp only [GF, List.mem_cons, List.mem_append, List.mem_flatMap, List.not_mem_nil, or_false] at hx
        rcases hx with rfl | rfl | rfl | hx | ⟨q, hq | rfl, hx⟩
        · exact hI.fresh x (by simp [GF])
        · exact hI.fresh x (by simp [GF])
        · exact hI.fresh x (by simp [GF])
        · simp [Fw.blk] at hx
        · refine hI.fresh x ?_
          simp only [GF, List.mem_cons, List.mem_append, List.mem_flatMap]
          exact .inr (.inr (.inr (.inr ⟨q, hq, hx⟩)))
        · exact hI.mod.none (hfq x hx).1 (by simp)
      · rw [wrap_succ (by omega)]
        show ((n : Int) - ((ms.length + 1 : Nat) : Int)).toNat < ((n : Int) - ((ms.length : Nat) : Int)).toNat
        omega
    · have hnn : ms.length = n := by have := hI.len; omega
      refine ⟨g, na, p, ms, noTri, rfl, ⟨?_, ?_, hI.post, ?_, by omega, ?_, hI.apart⟩, hI.mod, hI.fresh⟩
      · rw [hc, hnn]; (first | done | rfl)
      · rw [ha, hnn]; simp
      · simp [Grp.new, hnn]
      · intro i q N hq hN
        have hi := (List.getElem?_eq_some_iff.1 hq).1
        have : N = Nd.none.start (i : Int) n 0 := by
          simp only [Grp.new, List.getElem?_map, List.getElem?_range (by omega : i < n), Option.map_some, Option.some.injEq] at hN
          exact hN.symm
        subst this
        exact hI.nds i q hq
  · intro J hJ
    have hz : Builtin.zeroCells [nilP, nilP, nilP].toArray ((n : Nat) : Int).toNat = (List.replicate (n * 3) nilP).toArray := zero_three nilP n
    simp only [RP_both, W.both_iff]
    refine ⟨?_, ?_⟩
    · simp only [RP_mksl]
      refine ⟨by omega, Int.le_refl _, by omega, by omega, fun r hr => ?_⟩
      rw [hz]
      obtain ⟨s1, hs1⟩ : ∃ s1, s.upd r (.cells (List.replicate (n * 3) nilP).toArray 74) = s1 := ⟨_, rfl⟩
      have m1 : Fw.Mod [] s s1 := by rw [← hs1]; exact Mod.new hr
      have k1 : s1 r = some (.cells (List.replicate (n * 3) nilP).toArray 74 (0, 0)) := by rw [← hs1]; exact PH.upd_same _ _ _
      rw [hs1]
      simp only [RP_call]
      refine W.call_of (c_pNew s1) ?_
      rintro _ s2 ⟨p, rfl, hP, m2, hp⟩
      refine ⟨((some ⟨p, 0, none⟩, ()), ()), rfl, ?_⟩
      simp only [RP_nw]
      refine W.nw_of fun g s3 hg m3 k3 => ?_
      refine hJ _ _ ⟨g, r, p, rfl, ⟨k3, ?_, hP.mod m3 (by simp) (by simp), Nat.zero_le _, by simp, by simp, (m1.trans m2).trans m3, ?_⟩⟩
      · simpa using m3.at (m2.at k1 (by simp)) (by simp)
      · intro x hx
        simp only [GF, List.mem_cons, List.mem_append, List.flatMap_nil, List.not_mem_nil, or_false, Fw.blk] at hx
        rcases hx with rfl | rfl | rfl
        · exact (m1.trans m2).none hg (by simp)
        · exact hr
        · exact m1.none hp (by simp)
    · simp only [RP_call]
      refine W.call_of (c_pNew s) ?_
      rintro _ s2 ⟨p, rfl, hP, m2, hp⟩
      refine ⟨((some ⟨p, 0, none⟩, ()), ()), rfl, ?_⟩
      simp only [RP_mksl]
      refine ⟨by omega, Int.le_refl _, by omega, by omega, fun r hr => ?_⟩
      rw [hz]
      obtain ⟨s1, hs1⟩ : ∃ s1, s2.upd r (.cells (List.replicate (n * 3) nilP).toArray 74) = s1 := ⟨_, rfl⟩
      have m1 : Fw.Mod [] s2 s1 := by rw [← hs1]; exact Mod.new hr
      have k1 : s1 r = some (.cells (List.replicate (n * 3) nilP).toArray 74 (0, 0)) := by rw [← hs1]; exact PH.upd_same _ _ _
      rw [hs1]
      simp only [RP_nw]
      refine W.nw_of fun g s3 hg m3 k3 => ?_
      refine hJ _ _ ⟨g, r, p, rfl, ⟨k3, ?_, (hP.mod m1 (by simp) (by simp)).mod m3 (by simp) (by simp), Nat.zero_le _, by simp, by simp, (m2.trans m1).trans m3, ?_⟩⟩
      · simpa using m3.at k1 (by simp)
      · intro x hx
        simp only [GF, List.mem_cons, List.mem_append, List.flatMap_nil, List.not_mem_nil, or_false, Fw.blk] at hx
        rcases hx with rfl | rfl | rfl
        · exact (m2.trans m1).none hg (by simp)
        · exact m2.none hr (by simp)
        · exact hp
theorem c_gNewBad {n : Int} (h : ¬ (1 ≤ n ∧ n ≤ 5)) (s : PH) : DCalls Tryz.prog 18 #[.int .i64 n] s fun y s' => y = .tuple #[.pointer none, .int .i64 1] ∧ s' = s := by
  refine ok_gNew n _ s ?_
  unfold vc_gNew
  simp only [RP_join]
  refine W.join_gen (fun z s' => False) (fun _ _ e => e.elim) ?_
  intro J hJ
  simp only [RP_ite, W.br_iff, decide_eq_true_eq, decide_eq_false_iff_not]
  refine ⟨fun _ => ⟨rfl, rfl⟩, fun h1 => ⟨fun _ => ⟨rfl, rfl⟩, fun h2 => hJ _ _ (h ?_)⟩⟩
  exact ⟨Int.not_lt.1 h1, Int.not_lt.1 h2⟩
end Go.Proofs.YtcdggocbjnmeaaaGreat
end
section
set_option linter.unusedVariables false
set_option linter.unusedSimpArgs false
set_option maxHeartbeats 2000000
set_option maxRecDepth 100000
namespace Go.Proofs.YtcdggocbjnmeaaaGreat
open Fw Go
attribute [-simp] Fw.W.ld_iff Fw.W.st_iff
def Grp.balAt (G : Grp) (n : Int) : Option BS := if n < 0 then none else match G.nodes[n.toNat]? with
  | some N => N.b
  | none => none
def Grp.txts (G : Grp) (n : Int) : List ByteArray := match G.balAt n with
  | some B => B.texts
  | none => []
abbrev zeroStand : Value := .agg #[.int .i64 0, .int .i64 0, .int .i64 0, .int .i64 0, .int .i64 0, .int .i64 0, .int .i64 0]
def standOf (o : Option BS) : Value := match o with
  | some B => B.stand
  | none => zeroStand
section
variable {s s1 : PH} {g na p : Nat} {ms : List Mem} {t : Tri} {G : Grp}
theorem balAt_fit (hf : G.Fit) {n : Int} {B : BS} (h : G.balAt n = some B) : B.Fit := by
  unfold Grp.balAt at h
  split at h
  · cases h
  · cases hN : G.nodes[n.toNat]? with
    | none => rw [hN] at h; cases h
    | some N => rw [hN] at h; exact (hf.nds _ N hN).2.2 B h
def AtQ (G : Grp) (n : Int) (s : PH) (y : Value) (s' : PH) : Prop := s' = s ∧ ((G.balAt n = none ∧ y = .pointer none) ∨ ∃ B b l v m k, G.balAt n = some B ∧ y = bptr b ∧ Bal s b l v m k B)
theorem c_gat (h : GrpIs s g na p ms t G) (n : Int) : DCalls Tryz.prog 32 #[gptr g, .int .i64 n] s (AtQ G n s) := by
  refine ok_gat g n _ s ?_
  unfold vc_gat
  have hc := h.cell
  simp only [RP_ite, Option.isNone_some, W.br_false, RP_unSome]
  simp only [W.br_iff, decide_eq_true_eq, decide_eq_false_iff_not]
  refine ⟨fun hn => ⟨rfl, .inl ⟨by unfold Grp.balAt; rw [if_pos hn], rfl⟩⟩, fun hn => ?_⟩
  simp only [W.unSome_some, add_mk, Nat.zero_add, RP_ld]
  refine ld_blk (c := .slice) (x := (some ⟨na, 0, none⟩, ms.length, ms.length)) hc rfl ?_
  by_cases hge : n ≥ (ms.length : Int)
  · simp only [decide_eq_true hge, W.br_true]
    refine ⟨rfl, .inl ⟨?_, rfl⟩⟩
    unfold Grp.balAt
    rw [if_neg hn, List.getElem?_eq_none (by rw [← h.len]; omega)]
  · simp only [decide_eq_false hge, W.br_false, W.unSome_some, add_mk, Nat.zero_add]
    refine ld_blk (c := .slice) (x := (some ⟨na, 0, none⟩, ms.length, ms.length)) hc rfl ?_
    simp only [RP_guard, W.guard_iff, W.unSome_some, add_mk, Nat.zero_add]
    refine ⟨by show (0 : Int) ≤ n ∧ n < (ms.length : Int); omega, ?_⟩
    obtain ⟨q, hq⟩ : ∃ q, ms[n.toNat]? = some q := ⟨_, List.getElem?_eq_getElem (by omega)⟩
    obtain ⟨N, hN⟩ := h.node hq
    have hnd := h.nds _ q N hq hN
    have hba : G.balAt n = N.b := by unfold Grp.balAt; rw [if_neg hn, hN]
    cases hB : N.b with
    | none =>
      refine ld_blk (c := .ptr) (x := none) h.arr (mem_get hq (k := 0) (by omega) (by show some _ = some _; rw [hnd.down hB]; (first | done | rfl))) ?_
      exact ⟨rfl, .inl ⟨by rw [hba, hB], rfl⟩⟩
    | some B =>
      obtain ⟨b, x, e1, hBal, _⟩ := hnd.up B hB
      refine ld_blk (c := .ptr) (x := some ⟨b, 0, none⟩) h.arr (mem_get hq (k := 0) (by omega) (by show some _ = some _; rw [e1]; (first | done | rfl))) ?_
      exact ⟨rfl, .inr ⟨B, b, _, _, _, _, by rw [hba, hB], rfl, hBal⟩⟩
theorem c_gStand (h : GrpIs s g na p ms t G) (hf : G.Fit) (n : Int) : DCalls Tryz.prog 14 #[gptr g, .int .i64 n] s fun y s' => y = .tuple #[standOf (G.balAt n), .bool (G.balAt n).isSome] ∧ Fw.Mod [] s s' := by
  refine ok_gStand g n _ s ?_
  unfold vc_gStand
  simp only [RP_call]
  refine W.call_of (c_gat h n) ?_
  rintro y s1 ⟨rfl, ⟨hb, rfl⟩ | ⟨B, b, l, v, m, k, hb, rfl, hBal⟩⟩
  · refine ⟨((none, ()), ()), rfl, ?_⟩
    refine W.call_of (n_Stand s1) ?_
    rintro _ s2 ⟨rfl, m2⟩
    refine ⟨((0, 0, 0, 0, 0, 0, 0, ()), ()), rfl, ?_⟩
    rw [hb]
    exact ⟨rfl, m2⟩
  · refine ⟨((some ⟨b, 0, none⟩, ()), ()), rfl, ?_⟩
    refine W.call_of (c_Stand hBal (balAt_fit hf hb).run.ok.small) ?_
    rintro _ s2 ⟨rfl, m2⟩
    refine ⟨((B.term, B.vote, B.role, B.lead, B.base, B.lst, B.commit, ()), ()), rfl, ?_⟩
    rw [hb]
    exact ⟨rfl, m2⟩
def GTextsQ (G : Grp) (n : Int) (s : PH) (y : Value) (s' : PH) : Prop := ∃ tt : Tri, y = tt.v ∧ rowE strE s' 9 tt.1 tt.2.1 tt.2.2 (G.txts n) ∧ (∀ x ∈ Fw.blk tt.1, s x = none) ∧ Fw.Mod [] s s'
theorem c_gTexts (h : GrpIs s g na p ms t G) (hf : G.Fit) (n : Int) : DCalls Tryz.prog 12 #[gptr g, .int .i64 n] s (GTextsQ G n s) := by
  refine ok_gTexts g n _ s ?_
  unfold vc_gTexts
  simp only [RP_call]
  refine W.call_of (c_gat h n) ?_
  rintro y s1 ⟨rfl, ⟨hb, rfl⟩ | ⟨B, b, l, v, m, k, hb, rfl, hBal⟩⟩
  · refine ⟨((none, ()), ()), rfl, ?_⟩
    simp only [RP_ite, Option.isNone_none, W.br_true]
    refine ⟨noTri, rfl, ?_, by simp [Fw.blk], Mod.refl _ _⟩
    unfold Grp.txts; rw [hb]; exact rowE.nil
  · refine ⟨((some ⟨b, 0, none⟩, ()), ()), rfl, ?_⟩
    simp only [RP_ite, Option.isNone_some, W.br_false]
    refine W.call_of (c_gtexts hBal (balAt_fit hf hb)) ?_
    rintro _ s2 ⟨tt, rfl, hrow, hfr, m2⟩
    refine ⟨((tt, ()), ()), rfl, tt, rfl, ?_, hfr, m2⟩
    unfold Grp.txts; rw [hb]; exact hrow
/-- every letter is taken -/
inductive AllPre : Nat → Grp → Prop
  | zero (G : Grp) : AllPre 0 G
  | none (f : Nat) (G : Grp) : G.bag = [] → AllPre (f + 1) G
  | step (f : Nat) (G : Grp) : G.bag ≠ [] → Num G.acts → G.tick.Pre 1 0 ⟨#[]⟩ → AllPre f (G.act 1 0 0 ⟨#[]⟩) → AllPre (f + 1) G
def AllZ (g na p : Nat) (ms : List Mem) (t : Tri) (G : Grp) (most : Nat) (s0 : PH) (z : MDen [(false, [.int .i64]), (false, [.int .i64])]) (s' : PH) : Prop :=
  ∃ (i : Nat) (ms' : List Mem) (t' : Tri) (G' : Grp), z = (((most : Int), ()), ((i : Int), ()), ()) ∧ i ≤ most ∧ GrpIs s' g na p ms' t' G' ∧ Step (GF g na p ms t) (GF g na p ms' t') s0 s' ∧ AllPre (most - i) G' ∧ Grp.all (most - i) G' = Grp.all most G
theorem c_lall (h : GrpIs s g na p ms t G) {most : Nat} (hm : most ≤ 1000) (hp : AllPre most G) : DCalls Tryz.prog 20 #[gptr g, .int .i64 (most : Int)] s fun y s' => y = .bool (Grp.all most G).1 ∧ GrpQ g na p ms t (Grp.all most G).2 s (.tuple #[]) s' := by
  refine ok_lall g most _ s ?_
  unfold vc_lall
  simp only [RP_loop]
  refine ⟨AllZ g na p ms t G most s, fun z _ => ((most : Int) - z.2.1.1).toNat, ⟨0, ms, t, G, rfl, Nat.zero_le _, h, Step.refl _ _, hp, rfl⟩, ?_⟩
  rintro _ s1 ⟨i, ms1, t1, G1, rfl, hi, h1, st1, hp1, he⟩
  simp only [RP_ite, W.br_iff, decide_eq_true_eq, decide_eq_false_iff_not, RP_call]
  have hbe : ∀ G : Grp, ((G.bag.length : Int) == 0) = G.bag.isEmpty := by
    intro G
    cases G.bag with
    | nil => rfl
    | cons a l => simp; omega
  refine ⟨fun hlt => ?_, fun hge => ?_⟩
  · have hlt : i < most := by omega
    obtain ⟨f, hf⟩ : ∃ f, most - i = f + 1 := ⟨most - i - 1, by omega⟩
    rw [hf] at hp1 he
    refine W.call_of (c_gLetters h1) ?_
    rintro _ s1 ⟨rfl, rfl⟩
    refine ⟨(((G1.bag.length : Int), ()), ()), rfl, ?_⟩
    simp only [hbe]
    cases hp1 with
    | none _ _ hb =>
      have hbb : G1.bag.isEmpty = true := by rw [hb]; (first | done | rfl)
      simp only [hbb, W.br_true]
      have e : Grp.all (f + 1) G1 = (true, G1) := by unfold Grp.all; rw [if_pos hbb]
      rw [← he, e]
      exact ⟨rfl, rfl, ms1, t1, h1, st1⟩
    | step _ _ hb ha hpre hrest =>
      have hbb : G1.bag.isEmpty = false := by
        cases hbg : G1.bag with
        | nil => exact absurd hbg hb
        | cons a l => rfl
      simp only [hbb, W.br_false]
      refine W.call_of (c_gDo h1 ha 1 0 0 ⟨#[]⟩ hpre) ?_
      rintro _ s2 ⟨rfl, ms2, t2, h2, st2⟩
      refine ⟨(), rfl, ?_⟩
      have hff : most - (i + 1) = f := by omega
      refine ⟨⟨i + 1, ms2, t2, _, by rw [wrap_succ (by omega)], hlt, h2, st1.trans st2, by rw [hff]; exact hrest, ?_⟩, ?_⟩
      · rw [hff, ← he]
        conv => rhs; unfold Grp.all
        rw [if_neg (by rw [hbb]; simp)]
      · rw [wrap_succ (by omega)]
        show ((most : Int) - ((i + 1 : Nat) : Int)).toNat < ((most : Int) - ((i : Nat) : Int)).toNat
        omega
  · have hii : i = most := by omega
    subst hii
    rw [Nat.sub_self] at he
    refine W.call_of (c_gLetters h1) ?_
    rintro _ s1 ⟨rfl, rfl⟩
    refine ⟨(((G1.bag.length : Int), ()), ()), rfl, ?_⟩
    simp only [hbe]
    rw [← he]
    exact ⟨rfl, rfl, ms1, t1, h1, st1⟩
end
end Go.Proofs.YtcdggocbjnmeaaaGreat
end
section
set_option linter.unusedVariables false
set_option linter.unusedSimpArgs false
set_option maxHeartbeats 2000000
set_option maxRecDepth 100000
namespace Go.Proofs.YtcdggocbjnmeaaaGreat
open Fw Go
attribute [-simp] Fw.W.ld_iff Fw.W.st_iff
def i64B (n : Int) : Bool := decide (-9223372036854775808 ≤ n) && decide (n < 9223372036854775808)
theorem i64B_ok {n : Int} (h : i64B n = true) : I64 n := by
  unfold i64B at h
  simp only [Bool.and_eq_true, decide_eq_true_eq] at h
  exact h
def entB (e : Ent) : Bool := i64B e.term && (i64B e.at_ && (i64B e.born && decide (e.text.size ≤ 65536)))
theorem entB_ok {e : Ent} (h : entB e = true) : e.I ∧ e.text.size ≤ 65536 := by
  unfold entB at h
  simp only [Bool.and_eq_true, decide_eq_true_eq] at h
  exact ⟨⟨i64B_ok h.1, i64B_ok h.2.1, i64B_ok h.2.2.1⟩, h.2.2.2⟩
def BS.fitB (B : BS) : Bool := B.runB && ((B.whole || (decide (B.base < B.from_) && decide (B.from_ ≤ B.lst + 1))) && (decide (-4611686018427387904 ≤ B.term) && (decide (B.term ≤ 4611686018427387904) && (i64B B.vote && (i64B B.baseTerm && (B.log.all entB && (decide (B.log.length ≤ 1000000) && decide (B.snap.size ≤ 1073741824))))))))
theorem fitB_ok {B : BS} (h : B.fitB = true) : B.Fit := by
  unfold BS.fitB at h
  simp only [Bool.and_eq_true, decide_eq_true_eq, Bool.or_eq_true, List.all_eq_true] at h
  obtain ⟨h1, h2, h3, h4, h5, h6, h7, h8, h9⟩ := h
  refine ⟨BS.runB_run h1, fun hw => ?_, ⟨h3, h4⟩, i64B_ok h5, i64B_ok h6, fun e he => entB_ok (h7 e he), h8, h9⟩
  rcases h2 with h2 | h2
  · rw [h2] at hw; cases hw
  · exact h2
def Msg.fitB (n : Nat) (M : Msg) : Bool := M.nums.all i64B && (M.list.all entB && (decide (M.list.length ≤ 1000000) && (decide (M.snap.size ≤ 1073741824) && (decide (0 ≤ M.to) && decide (M.to < n)))))
theorem mfitB_ok {n : Nat} {M : Msg} (h : M.fitB n = true) : M.Fit ∧ 0 ≤ M.to ∧ M.to < n := by
  unfold Msg.fitB at h
  simp only [Bool.and_eq_true, decide_eq_true_eq, List.all_eq_true] at h
  obtain ⟨h1, h2, h3, h4, h5, h6⟩ := h
  exact ⟨⟨⟨fun x hx => i64B_ok (h1 x hx), fun x hx => (entB_ok (h2 x hx)).1, by omega⟩, fun x hx => (entB_ok (h2 x hx)).2, h3, h4⟩, h5, h6⟩
def rfitB (n : Nat) (R : BS × List Msg) : Bool := R.1.fitB && (R.2.all (Msg.fitB n) && decide (R.2.length ≤ 20))
theorem rfitB_ok {n : Nat} {R : BS × List Msg} (h : rfitB n R = true) : RFit n R := by
  unfold rfitB at h
  simp only [Bool.and_eq_true, decide_eq_true_eq, List.all_eq_true] at h
  exact ⟨fitB_ok h.1, fun M hM => mfitB_ok (h.2.1 M hM), h.2.2⟩
def dlB (D : Dl) : Bool := i64B D.term && (i64B D.vote && (i64B D.base && (i64B D.baseTerm && (i64B D.from_ && (D.list.all entB && (decide (D.list.length ≤ 1000000) && decide ((encD D).length ≤ 70000)))))))
theorem dlB_ok {D : Dl} (h : dlB D = true) : D.I ∧ (encD D).length ≤ 1099511627776 := by
  unfold dlB at h
  simp only [Bool.and_eq_true, decide_eq_true_eq, List.all_eq_true] at h
  obtain ⟨h1, h2, h3, h4, h5, h6, h7, h8⟩ := h
  exact ⟨⟨⟨i64B_ok h1, i64B_ok h2, i64B_ok h3, i64B_ok h4, i64B_ok h5⟩, fun x hx => (entB_ok (h6 x hx)).1, by omega⟩, by omega⟩
def Nd.fitB (N : Nd) : Bool := (match N.b with | some B => B.fitB | .none => true) && (N.put.all dlB && (decide (dtot N.put ≤ 1000000) && (decide (N.put.length ≤ 1000000) && (decide ((N.d.got LOG).1.size ≤ 1000000) &&
  (N.d.files.all (fun p => decide (p.1.size ≤ 1000) && (decide (0 ≤ p.2.2) && (decide (p.2.2 ≤ p.2.1.size) && decide (p.2.1.size ≤ 1000000)))) && (decide (N.d.files.length ≤ 1000) &&
  (!bigB (N.put.map encDB) && ((N.d.got LOG).1 == recsB (N.put.map encDB) && (decide (((recsB (N.put.map encDB)).size : Int) ≤ (N.d.got LOG).2) && decide ((N.d.got LOG).2 ≤ (N.d.got LOG).1.size))))))))))
theorem ndfitB_ok {N : Nd} (h : N.fitB = true) : N.Disk ∧ ∀ B, N.b = some B → B.Fit := by
  unfold Nd.fitB at h
  simp only [Bool.and_eq_true, decide_eq_true_eq, List.all_eq_true, Bool.not_eq_true', beq_iff_eq] at h
  obtain ⟨h1, h2, h3, h4, h5, h6, h7, h8, h9, h10, h11⟩ := h
  have hmax : maxLen = 9223372036854775807 := rfl
  refine ⟨⟨⟨(N.put.map encDB).length, ⟨Nat.le_refl _, h8, ⟨_, Nat.le_refl _, Nat.le_refl _, by rw [List.take_length]; exact h9⟩, ⟨by rw [List.take_length]; exact h10, h11⟩, fun _ => rfl⟩⟩, fun D hD => dlB_ok (h2 D hD), h3, h4, ⟨fun p hp => ?_, by omega, fun p hp => ?_⟩, by omega⟩, fun B hB => ?_⟩
  · have := (h6 p hp).1; omega
  · obtain ⟨_, q1, q2, q3⟩ := h6 p hp; exact ⟨q1, q2, by omega⟩
  · rw [hB] at h1; exact fitB_ok h1
def Grp.fitB (G : Grp) : Bool := G.nodes.all Nd.fitB && (G.bag.all (Msg.fitB G.nodes.length) && (decide (G.bag.length ≤ 1000000) && (decide (1 ≤ G.nodes.length) && (decide (G.nodes.length ≤ 5) && (decide (-4611686018427387904 ≤ G.acts) && decide (G.acts ≤ 4611686018427387904))))))
theorem gfitB_ok {G : Grp} (h : G.fitB = true) : G.Fit := by
  unfold Grp.fitB at h
  simp only [Bool.and_eq_true, decide_eq_true_eq, List.all_eq_true] at h
  obtain ⟨h1, h2, h3, h4, h5, h6, h7⟩ := h
  refine ⟨fun i N hN => ?_, fun i N hN => ?_, fun m hm => mfitB_ok (h2 m hm), h3, ⟨h4, h5⟩, ⟨h6, h7⟩⟩
  · obtain ⟨hd, hb⟩ := ndfitB_ok (h1 N (List.mem_of_getElem? hN))
    exact ⟨hd.size, hd.ok, hb⟩
  · obtain ⟨hd, hb⟩ := ndfitB_ok (h1 N (List.mem_of_getElem? hN))
    exact ⟨hd.kept, hd.put, hd.tot, hd.few⟩
def Grp.upB (G : Grp) (i : Nat) (f : BS → Bool) : Bool := match G.nodes[i]? with
  | some N => (match N.b with
    | some B => f B
    | none => true)
  | none => true
theorem upB_ok {G : Grp} {i : Nat} {f : BS → Bool} (h : G.upB i f = true) : ∀ N B, G.nodes[i]? = some N → N.b = some B → f B = true := by
  intro N B hN hB
  unfold Grp.upB at h
  rw [hN] at h
  dsimp only at h
  rw [hB] at h
  exact h
def Grp.pre1B (G : Grp) : Bool := G.fitB && (match G.bag[(plc 0 G.bag.length).toNat]? with | some M => G.upB M.to.toNat (fun B => rfitB G.nodes.length (B.take M)) | none => true)
theorem pre1B_ok {G : Grp} (h : G.pre1B = true) : G.Pre 1 0 ⟨#[]⟩ := by
  unfold Grp.pre1B at h
  simp only [Bool.and_eq_true] at h
  refine ⟨gfitB_ok h.1, fun _ M hM N B hN hB => ?_, fun e => (by cases e), fun e => (by cases e), fun e => (by cases e), fun e => (by cases e)⟩
  have h2 := h.2
  rw [hM] at h2
  exact rfitB_ok (upB_ok h2 N B hN hB)
def Grp.pre4B (G : Grp) : Bool := G.fitB && G.upB (G.pl 0) (fun B => rfitB G.nodes.length B.timeout)
theorem pre4B_ok {G : Grp} (h : G.pre4B = true) : G.Pre 4 0 ⟨#[]⟩ := by
  unfold Grp.pre4B at h
  simp only [Bool.and_eq_true] at h
  refine ⟨gfitB_ok h.1, fun e => (by rcases e with e | e <;> cases e), fun _ N B hN hB => rfitB_ok (upB_ok h.2 N B hN hB), fun e => (by cases e), fun e => (by cases e), fun e => (by cases e)⟩
def Grp.pre6B (G : Grp) (x : ByteArray) : Bool := G.fitB && G.upB (G.pl 0) (fun B => rfitB G.nodes.length (B.propose 0 G.acts x).2)
theorem pre6B_ok {G : Grp} {x : ByteArray} (h : G.pre6B x = true) : G.Pre 6 0 x := by
  unfold Grp.pre6B at h
  simp only [Bool.and_eq_true] at h
  refine ⟨gfitB_ok h.1, fun e => (by rcases e with e | e <;> cases e), fun e => (by cases e), fun e => (by cases e), fun _ _ N B hN hB => rfitB_ok (upB_ok h.2 N B hN hB), fun e => (by cases e)⟩
def allPreB : Nat → Grp → Bool
  | 0, _ => true
  | f + 1, G => if G.bag.isEmpty = true then true else decide (-4611686018427387904 ≤ G.acts) && (decide (G.acts ≤ 4611686018427387904) && (G.tick.pre1B && allPreB f (G.act 1 0 0 ⟨#[]⟩)))
theorem allPreB_ok : ∀ (f : Nat) (G : Grp), allPreB f G = true → AllPre f G
  | 0, G, _ => .zero G
  | f + 1, G, h => by
    unfold allPreB at h
    split at h
    · rename_i hb
      exact .none f G (List.isEmpty_iff.1 hb)
    · rename_i hb
      simp only [Bool.and_eq_true, decide_eq_true_eq] at h
      exact .step f G (fun e => hb (List.isEmpty_iff.2 e)) ⟨h.1, h.2.1⟩ (pre1B_ok h.2.2.1) (allPreB_ok f _ h.2.2.2)
theorem txts_nat (G : Grp) (i : Nat) : G.txts (i : Int) = G.txt i := by
  unfold Grp.txts Grp.balAt Grp.txt
  rw [if_neg (by omega), Int.toNat_natCast]
  cases G.nodes[i]? with
  | none => rfl
  | some N => rfl
theorem aw_ok : awOk = true := by kernel_rfl
theorem aw_pre : ((Grp.new 3).tick.pre4B && (allPreB 100 awA && (awB.2.tick.pre6B ⟨#[120]⟩ && (allPreB 100 awC && (awB.2.fitB && awD.2.fitB))))) = true := by kernel_rfl
theorem aw_num : decide (awB.2.acts ≤ 1000 ∧ 0 ≤ awB.2.acts) = true := by kernel_rfl
theorem c_awake11 (s : PH) : DCalls Tryz.prog 9 #[] s fun y s' => y = .bool true ∧ s' = s := by
  refine DCalls.quiet (ok_lawake _ s ?_)
  unfold vc_lawake
  have hok := aw_ok
  have hpre := aw_pre
  have hnum := aw_num
  simp only [Bool.and_eq_true] at hpre
  obtain ⟨p1, p2, p3, p4, p5, p6⟩ := hpre
  simp only [decide_eq_true_eq] at hnum
  unfold awOk at hok
  simp only [Bool.and_eq_true, beq_iff_eq] at hok
  obtain ⟨⟨⟨⟨o1, o2⟩, o3⟩, o4⟩, o5⟩ := hok
  simp only [RP_call]
  refine W.call_of (c_gNew (n := 3) (by omega) (by omega) s) ?_
  rintro _ s1 ⟨g, na, p, ms, t, rfl, h1, m1, hfr⟩
  refine ⟨((some ⟨g, 0, none⟩, ()), (0, ()), ()), rfl, ?_⟩
  refine W.call_of (c_gDo h1 ⟨by show _ ≤ (0 : Int); omega, by show (0 : Int) ≤ _; omega⟩ 4 0 0 ⟨#[]⟩ (pre4B_ok p1)) ?_
  rintro _ s2 ⟨rfl, ms2, t2, h2, st2⟩
  refine ⟨(), rfl, ?_⟩
  have h2 : GrpIs s2 g na p ms2 t2 awA := h2
  refine W.call_of (c_lall h2 (most := 100) (by omega) (allPreB_ok _ _ p2)) ?_
  rintro _ s3 ⟨rfl, _, ms3, t3, h3, st3⟩
  have h3 : GrpIs s3 g na p ms3 t3 awB.2 := h3
  have ob : (Grp.all 100 awA).1 = true := o1
  rw [ob]
  refine ⟨((true, ()), ()), rfl, ?_⟩
  refine W.call_of (c_gStand h3 (gfitB_ok p5) 0) ?_
  rintro _ s4 ⟨rfl, m4⟩
  obtain ⟨B, hB, hrole⟩ : ∃ B, awB.2.balAt 0 = some B ∧ B.role = 2 := by
    unfold roleAt at o2
    unfold Grp.balAt
    rw [if_neg (by omega)]
    have e0 : (0 : Int).toNat = 0 := rfl
    rw [e0]
    cases hN : awB.2.nodes[0]? with
    | none => rw [hN] at o2; cases o2
    | some N =>
      rw [hN] at o2
      dsimp only at o2 ⊢
      cases hb : N.b with
      | none => rw [hb] at o2; cases o2
      | some B => rw [hb] at o2; exact ⟨B, rfl, by simpa using o2⟩
  rw [hB]
  refine ⟨((B.term, B.vote, B.role, B.lead, B.base, B.lst, B.commit, ()), (true, ()), ()), rfl, ?_⟩
  have h4 := h3.new m4
  refine W.call_of (c_gDo h4 ⟨by omega, by omega⟩ 6 0 0 ⟨#[120]⟩ (pre6B_ok p3)) ?_
  rintro _ s5 ⟨rfl, ms5, t5, h5, st5⟩
  have h5 : GrpIs s5 g na p ms5 t5 awC := h5
  refine ⟨(), rfl, ?_⟩
  have c01 : Step [] (GF g na p ms t) s s1 := ⟨m1, fun x hx => .inr (hfr x hx)⟩
  have c34 : Step (GF g na p ms3 t3) (GF g na p ms3 t3) s3 s4 := ⟨m4.mono (by simp), fun x hx => .inl hx⟩
  have c05 := (((c01.trans st2).trans st3).trans c34).trans st5
  simp only [RP_join]
  refine W.join_gen (fun z s' => z = ((some ⟨g, 0, none⟩, ()), (0, ()), (true, ()), (B.term, B.vote, B.role, B.lead, B.base, B.lst, B.commit, ()), (true, ()), ()) ∧ ∃ ms6 t6, GrpIs s' g na p ms6 t6 awD.2 ∧ Step [] (GF g na p ms6 t6) s s') ?_ ?_
  · rintro _ s6 ⟨rfl, ms6, t6, h6, st6⟩
    have hr2 : (B.role == 2) = true := by simp [hrole]
    simp only [RP_ite, beq_self_eq_true, hr2, W.br_true]
    refine W.call_of (c_gTexts h6 (gfitB_ok p6) 1) ?_
    rintro _ s7 ⟨tt, rfl, hrow, hft, m7⟩
    refine ⟨((tt, ()), ()), rfl, ?_⟩
    have ht1 : awD.2.txts 1 = [⟨#[120]⟩] := (txts_nat awD.2 1).trans o4
    have ht2 : awD.2.txts 2 = [⟨#[120]⟩] := (txts_nat awD.2 2).trans o5
    rw [ht1] at hrow
    simp only [RP_nw]
    refine W.nw_of fun r s8 hr8 m8 k8 => ?_
    have hmax : (1 : Nat) ≤ 1099511627776 := by omega
    refine W.call_of (c_Same (l := [⟨#[120]⟩]) (k := [⟨#[120]⟩]) ((elems.of_row hrow).mono m8.le) (elems_one k8) (by simp) (by simp)) ?_
    intro y9 s9 hy9
    have hs : y9 = .bool true ∧ s9 = s8 := by
      obtain ⟨e1, e2⟩ := hy9
      exact ⟨by rw [e1]; simp, e2⟩
    obtain ⟨rfl, rfl⟩ := hs
    refine ⟨((true, ()), ()), rfl, ?_⟩
    simp only [W.br_true]
    refine W.call_of (c_gTexts ((h6.new m7).new m8) (gfitB_ok p6) 2) ?_
    rintro _ s10 ⟨tt2, rfl, hrow2, hft2, m10⟩
    refine ⟨((tt2, ()), ()), rfl, ?_⟩
    rw [ht2] at hrow2
    refine W.nw_of fun r2 s11 hr11 m11 k11 => ?_
    refine W.call_of (c_Same (l := [⟨#[120]⟩]) (k := [⟨#[120]⟩]) ((elems.of_row hrow2).mono m11.le) (elems_one k11) (by simp) (by simp)) ?_
    intro y12 s12 hy12
    have hs : y12 = .bool true ∧ s12 = s11 := by
      obtain ⟨e1, e2⟩ := hy12
      exact ⟨by rw [e1]; simp, e2⟩
    obtain ⟨rfl, rfl⟩ := hs
    refine ⟨((true, ()), ()), rfl, rfl, ?_⟩
    exact (((st6.mod.trans m7).trans m8).trans m10).trans m11
  · intro J hJ
    simp only [RP_ite, W.br_true]
    refine W.call_of (c_lall h5 (most := 100) (by omega) (allPreB_ok _ _ p4)) ?_
    rintro _ s6 ⟨rfl, _, ms6, t6, h6, st6⟩
    have od : (Grp.all 100 awC).1 = true := o3
    rw [od]
    refine ⟨((true, ()), ()), rfl, ?_⟩
    exact hJ _ _ ⟨rfl, ms6, t6, h6, c05.trans st6⟩
end Go.Proofs.YtcdggocbjnmeaaaGreat
end
section
set_option linter.unusedVariables false
set_option linter.unusedSimpArgs false
set_option maxHeartbeats 2000000
set_option maxRecDepth 100000
namespace Go.Proofs.YtcdggocbjnmeaaaGreat
open Fw Go
attribute [-simp] Fw.W.ld_iff Fw.W.st_iff
structure ActD where
  kind : Int
  a : Int
  b : Int
  text : ByteArray
def rdAct : Rd ActD := (Rd.pair (Rd.int .i64) (Rd.pair (Rd.int .i64) (Rd.pair (Rd.int .i64) (Rd.pair Rd.str Rd.unit)))).map fun x => ⟨x.1, x.2.1, x.2.2.1, x.2.2.2.1⟩
theorem opensAct : Opens Tryz.prog 30 rdAct :=
  opens_map _ (opens_struct (.cons rfl (opens_int Tryz.underlying3 (by kernel_rfl)) (.cons rfl (opens_int Tryz.underlying3 (by kernel_rfl)) (.cons rfl (opens_int Tryz.underlying3 (by kernel_rfl))
    (.cons rfl (opens_str Tryz.underlying9 (by kernel_rfl)) (.nil _))))) Tryz.underlying30 (by kernel_rfl))
theorem rdAct_is {s : PH} {cs : List Value} {o : ActD} (h : rdAct.is s cs o) : cs = [.int .i64 o.kind, .int .i64 o.a, .int .i64 o.b, .string o.text] := by
  obtain ⟨x, rfl, c1, c2, rfl, ⟨rfl, h1⟩, d1, d2, rfl, ⟨rfl, h2⟩, e1, e2, rfl, ⟨rfl, h3⟩, f1, f2, rfl, ⟨rfl, h4⟩, rfl⟩ := h
  first | done | rfl
theorem n_gDo (k a b : Int) (x : ByteArray) (s : PH) : DCalls Tryz.prog 11 #[.pointer none, actV k a b x] s fun y s' => y = .tuple #[] ∧ s' = s := by
  refine ok_gDoNil k a b x _ s ?_
  unfold vc_gDoNil
  simp only [RP_ite, W.br_true]
  exact ⟨rfl, rfl⟩
theorem n_gat (n : Int) (s : PH) : DCalls Tryz.prog 32 #[.pointer none, .int .i64 n] s fun y s' => y = .pointer none ∧ s' = s := by
  refine ok_gatNil n _ s ?_
  unfold vc_gatNil
  simp only [RP_ite, Option.isNone_none, W.br_true]
  exact ⟨rfl, rfl⟩
theorem n_gStand (n : Int) (s : PH) : DCalls Tryz.prog 14 #[.pointer none, .int .i64 n] s fun y s' => y = .tuple #[zeroStand, .bool false] ∧ Fw.Mod [] s s' := by
  refine ok_gStandNil n _ s ?_
  unfold vc_gStandNil
  simp only [RP_call]
  refine W.call_of (n_gat n s) ?_
  rintro _ s ⟨rfl, rfl⟩
  refine ⟨((none, ()), ()), rfl, ?_⟩
  refine W.call_of (n_Stand s) ?_
  rintro _ s2 ⟨rfl, m2⟩
  exact ⟨((0, 0, 0, 0, 0, 0, 0, ()), ()), rfl, rfl, m2⟩
theorem n_gEntry (n i : Int) (s : PH) : DCalls Tryz.prog 15 #[.pointer none, .int .i64 n, .int .i64 i] s fun y s' => y = .tuple #[entV noEnt, .bool false] ∧ Fw.Mod [] s s' := by
  refine ok_gEntryNil n i _ s ?_
  unfold vc_gEntryNil
  simp only [RP_call]
  refine W.call_of (n_gat n s) ?_
  rintro _ s ⟨rfl, rfl⟩
  refine ⟨((none, ()), ()), rfl, ?_⟩
  refine W.call_of (n_Entry i s) ?_
  rintro _ s2 ⟨rfl, m2⟩
  exact ⟨((0, 0, 0, ⟨#[]⟩, ()), (false, ()), ()), rfl, rfl, m2⟩
theorem n_gLetters (s : PH) : DCalls Tryz.prog 19 #[.pointer none] s fun y s' => y = .int .i64 0 ∧ s' = s := by
  refine ok_gLettersNil _ s ?_
  unfold vc_gLettersNil
  simp only [RP_ite, Option.isNone_none, W.br_true]
  exact ⟨rfl, rfl⟩
theorem n_gTexts (n : Int) (s : PH) : DCalls Tryz.prog 12 #[.pointer none, .int .i64 n] s fun y s' => y = .slice none 0 0 ∧ s' = s := by
  refine ok_gTextsNil n _ s ?_
  unfold vc_gTextsNil
  simp only [RP_call]
  refine W.call_of (n_gat n s) ?_
  rintro _ s ⟨rfl, rfl⟩
  refine ⟨((none, ()), ()), rfl, ?_⟩
  simp only [RP_ite, Option.isNone_none, W.br_true]
  exact ⟨rfl, rfl⟩
theorem law_GroupNil (size : Int) {cs : Array Value} {o : ActD} {s : PH} (h : rdAct.is s cs.toList o) : DCalls Tryz.prog 7 #[.int .i64 size, .agg cs] s fun x s' => x = .bool true ∧ Fw.Mod [] s s' := by
  have hcs : cs = #[.int .i64 o.kind, .int .i64 o.a, .int .i64 o.b, .string o.text] := Array.ext' (rdAct_is h)
  subst hcs
  refine ok_GroupNil size o.kind o.a o.b o.text _ s ?_
  unfold vc_GroupNil
  obtain ⟨R, hR⟩ : ∃ R : Value → PH → Prop, (fun (x : Value) (s' : PH) => x = .bool true ∧ Fw.Mod [] s s') = R := ⟨_, rfl⟩
  rw [hR]
  simp only [RP_call]
  refine W.call_of (n_gDo o.kind o.a o.b o.text s) ?_
  rintro _ s1 ⟨rfl, e1⟩
  subst e1
  refine ⟨(), rfl, ?_⟩
  refine W.call_of (n_gStand o.a s1) ?_
  rintro _ s2 ⟨rfl, m2⟩
  refine ⟨((0, 0, 0, 0, 0, 0, 0, ()), (false, ()), ()), rfl, ?_⟩
  refine W.call_of (n_gEntry o.a o.b s2) ?_
  rintro _ s3 ⟨rfl, m3⟩
  refine ⟨((0, 0, 0, ⟨#[]⟩, ()), (false, ()), ()), rfl, ?_⟩
  have m13 := m2.trans m3
  have key : ∀ (pp : Option Addr) (e : Int) (s4 : PH), Fw.Mod [] s3 s4 → (1 ≤ size ∧ size ≤ 5 ∧ pp.isNone = false ∧ e = 0 ∨ ¬ (1 ≤ size ∧ size ≤ 5) ∧ pp = none ∧ e = 1) →
      W.call Tryz.prog 9 #[] (false, [(false, [.bool])]) (fun ((b15, _), _) =>
        W.br b15 (W.call Tryz.prog 19 #[.pointer none] (false, [(false, [.int .i64])]) fun ((x16, _), _) =>
          W.br (x16 == 0) (W.br true (W.br true (W.br true (W.call Tryz.prog 12 #[.pointer none, .int .i64 o.a] (false, [(false, [.slice])]) fun (((a17, n18, c19), _), _) =>
            W.br ((↑n18 : Int) == 0) (W.br (decide (size ≥ 1)) (W.br (decide (size ≤ 5) == (e == 0)) (W.ret R (.bool (pp.isNone == (e == 1)))) (W.ret R (.bool false))) (W.br (false == (e == 0)) (W.ret R (.bool (pp.isNone == (e == 1)))) (W.ret R (.bool false)))) (W.ret R (.bool false))) (W.ret R (.bool false))) (W.ret R (.bool false))) (W.ret R (.bool false))) (W.ret R (.bool false))) (W.ret R (.bool false))) s4 := by
    intro pp e s4 m4 hc
    refine W.call_of (c_awake11 s4) ?_
    rintro _ s5 ⟨rfl, e5⟩
    subst e5
    refine ⟨((true, ()), ()), rfl, ?_⟩
    simp only [W.br_true]
    refine W.call_of (n_gLetters s5) ?_
    rintro _ s6 ⟨rfl, e6⟩
    subst e6
    refine ⟨((0, ()), ()), rfl, ?_⟩
    simp only [beq_self_eq_true, W.br_true]
    refine W.call_of (n_gTexts o.a s6) ?_
    rintro _ s7 ⟨rfl, e7⟩
    subst e7
    refine ⟨(((none, 0, 0), ()), ()), rfl, ?_⟩
    have hz : ((((0 : Nat) : Int)) == 0) = true := rfl
    simp only [hz, W.br_true]
    have hfin : R (.bool true) s7 := by rw [← hR]; exact ⟨rfl, m13.trans m4⟩
    rcases hc with ⟨h1, h2, h3, rfl⟩ | ⟨h1, rfl, rfl⟩
    · have e1 : decide (size ≥ 1) = true := decide_eq_true h1
      have e2 : decide (size ≤ 5) = true := decide_eq_true h2
      simp only [e1, e2, h3, W.br_true]
      exact hfin
    · by_cases h0 : size ≥ 1
      · have e2 : decide (size ≤ 5) = false := decide_eq_false (by omega)
        simp only [decide_eq_true h0, e2, W.br_true]
        exact hfin
      · simp only [decide_eq_false h0, W.br_false]
        exact hfin
  by_cases hsz : 1 ≤ size ∧ size ≤ 5
  · obtain ⟨n, rfl⟩ : ∃ n : Nat, size = (n : Int) := ⟨size.toNat, by omega⟩
    refine W.call_of (c_gNew (n := n) (by omega) (by omega) s3) ?_
    rintro _ s4 ⟨g, na, p, ms, t, rfl, h4, m4, hfr⟩
    refine ⟨((some ⟨g, 0, none⟩, ()), (0, ()), ()), rfl, ?_⟩
    exact key (some ⟨g, 0, none⟩) 0 s4 m4 (.inl ⟨hsz.1, hsz.2, rfl, rfl⟩)
  · refine W.call_of (c_gNewBad hsz s3) ?_
    rintro _ s4 ⟨rfl, e4⟩
    subst e4
    refine ⟨((none, ()), (1, ()), ()), rfl, ?_⟩
    exact key none 1 s4 (Mod.refl _ _) (.inr ⟨hsz, rfl, rfl⟩)
end Go.Proofs.YtcdggocbjnmeaaaGreat
end
