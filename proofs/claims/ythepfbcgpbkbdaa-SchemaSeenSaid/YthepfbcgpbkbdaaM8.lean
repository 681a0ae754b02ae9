/-
  Schemas: the document's Right.
  Conditions: none; it proves no statement by itself.
-/
import Derived.Test.YthepfbcgpbkbdaaM7
set_option linter.unusedVariables false
set_option linter.unusedSimpArgs false
set_option maxHeartbeats 2000000
set_option maxRecDepth 100000
namespace Go.Proofs.Ythepfbcgpbkbdaa
open Fw Go
attribute [-simp] Fw.W.ld_iff Fw.W.st_iff

theorem ids_ld {s0 s : PH} {a : Option Addr} {n c : Nat} {l : List Int} (h : Ids s0 s a n c l) {i : Nat} {x : Int} (hx : l[i]? = some x) {K : Den [.int .i64] → W.T} (hK : K (x, ()) s) : W.unSome a (fun p => W.ld [.int .i64] (p.add (i * 1)) K) s := by
  obtain ⟨ad, rfl, hh⟩ := (elems.of_row h.row).at_enc hx
  simp only [W.unSome_some]
  exact ld_has_z hh (cs := [.int .i64]) (y := (x, ())) rfl hK
theorem c_rRight {s : PH} {t : Tri} {S : Sch} {ps : List TabP} (h : SchIs s t S ps) : DCalls Try.prog 19 #[schV S t] s fun y s' => y = .bool (right S) ∧ s' = s := by
  refine DCalls.quiet ?_
  obtain ⟨ta, tn, tc⟩ := t
  refine ok_rRight S.version S.last ta tn tc _ s ?_
  unfold vc_rRight
  have htn : tn = ps.length := h.el.len
  have hpl : S.tabs.length = ps.length := by rw [h.eq]; simp
  obtain ⟨R, hR⟩ : ∃ b, right S = b := ⟨_, rfl⟩
  rw [hR]
  have ret0 : ∀ {s'}, Fw.Mod [] s s' → ¬ right S = true → (Value.bool false = .bool R ∧ Fw.Mod [] s s') := fun m e => ⟨by rw [← hR, right_no e], m⟩
  simp only [RP_join]
  refine W.join_gen (fun z s' => z = ((S.version, S.last, (ta, tn, tc), ()), ()) ∧ s' = s ∧ headB S = true ∧ tn ≤ 6) ?_ ?_
  rotate_left
  · intro J hJ
    simp only [RP_ite, W.br_iff, decide_eq_true_eq, decide_eq_false_iff_not, RP_ret, W.ret_iff]
    have hno : ¬ (0 ≤ S.version ∧ S.version ≤ 1125899906842624 ∧ 0 ≤ S.last ∧ S.last ≤ 1125899906842624 ∧ S.tabs.length ≤ 6) → ¬ right S = true := fun e r => e (by
      have := (right_iff.1 r).1
      unfold headB at this
      simp only [Bool.and_eq_true, decide_eq_true_eq] at this
      exact ⟨this.1, this.2.1, this.2.2.1, this.2.2.2, (right_iff.1 r).2.1⟩)
    refine ⟨fun h1 => ret0 (Mod.refl _ _) (hno (by omega)), fun h1 => ⟨fun h2 => ret0 (Mod.refl _ _) (hno (by omega)), fun h2 => ⟨fun h3 => ret0 (Mod.refl _ _) (hno (by omega)), fun h3 => ⟨fun h4 => ret0 (Mod.refl _ _) (hno (by omega)), fun h4 => ⟨fun h5 => ret0 (Mod.refl _ _) (hno (by omega)), fun h5 => hJ _ _ ⟨rfl, rfl, ?_, by omega⟩⟩⟩⟩⟩⟩
    unfold headB
    simp only [Bool.and_eq_true, decide_eq_true_eq]
    omega
  rintro _ s1 ⟨rfl, rfl, hhead, h6⟩
  simp only [RP_loop]
  refine ⟨fun z s' => ∃ (k n c : Nat) (ia : Option Addr), z = ((S.version, S.last, (ta, tn, tc), ()), ((ia, n, c), ()), ((k : Int), ()), ()) ∧ k ≤ tn ∧ Ids s1 s' ia n c ((S.tabs.take k).flatMap idsOf) ∧ ((S.tabs.take k).flatMap idsOf).length ≤ 25 * k ∧
    upTo (condI (fun i T => nameT S.tabs i T && tabB S T) S.tabs) k = true, fun z _ => tn - z.2.2.1.1.toNat, ⟨0, 0, 0, none, rfl, Nat.zero_le _, Ids.nil _, by simp, rfl⟩, ?_⟩
  rintro _ s2 ⟨k, n, c, ia, rfl, hk, hids, hlen, hup⟩
  have hS2 := h.mono hids.md.le
  simp only [RP_ite, W.br_iff, decide_eq_true_eq, decide_eq_false_iff_not]
  refine ⟨fun hlt => ?_, fun hge => ?_⟩
  · have hlt : k < tn := by omega
    obtain ⟨p, hp⟩ : ∃ p, ps[k]? = some p := ⟨_, List.getElem?_eq_getElem (by omega)⟩
    have hT : S.tabs[k]? = some p.T := by rw [h.eq, List.getElem?_map, hp]; rfl
    obtain ⟨ad, had, hh⟩ := hS2.el.el.at_enc hp
    dsimp only at had
    subst had
    have hP0 := h.all p (get_mem hp)
    obtain ⟨T, ⟨ca, can, cac⟩, ⟨xa, xan, xac⟩, ⟨ka, kan, kac⟩⟩ := p
    dsimp only at hP0 hT
    have hcan : can = T.cols.length := hP0.c.len
    have hxan : xan = T.idxs.length := hP0.x.len
    have hkan : kan = T.keys.length := hP0.k.len
    have hnoT : ¬ tabB S T = true → ¬ right S = true := fun e r => e (by have := allI_iff.1 (right_iff.1 r).2.2.2.1 k T hT; exact this)
    simp only [RP_guard, W.guard_iff, RP_unSome, W.unSome_some, RP_ld, Int.toNat_natCast]
    refine ⟨by omega, ?_⟩
    refine ld_has_z hh (y := (T.id, T.name, (ca, can, cac), (xa, xan, xac), (ka, kan, kac), ())) rfl ?_
    refine W.join_gen (fun z s' => z = ((S.version, S.last, (some ad, tn, tc), ()), ((ia, n, c), ()), ((k : Int), ()), (T.id, T.name, (ca, can, cac), (xa, xan, xac), (ka, kan, kac), ()), ()) ∧ s' = s2 ∧ nameT S.tabs k T = true ∧ 1 ≤ can ∧ can ≤ 8 ∧ xan ≤ 8 ∧ kan ≤ 8) ?_ ?_
    rotate_left
    · intro J hJ
      simp only [RP_call]
      refine callq ((named T.name, ()), ()) (c_rNamed T.name s2) rfl ?_
      have hnoN : ¬ nameT S.tabs k T = true → ¬ right S = true := fun e r => e (allI_iff.1 (right_iff.1 r).2.2.1 k T hT)
      have hnoL : ¬ (1 ≤ T.cols.length ∧ T.cols.length ≤ 8 ∧ T.idxs.length ≤ 8 ∧ T.keys.length ≤ 8) → ¬ right S = true := fun e => hnoT fun r => e (by obtain ⟨a, b, c, d, _⟩ := tabB_iff.1 r; exact ⟨a, b, c, d⟩)
      simp only [W.br_iff]
      refine ⟨fun hb => ret0 hids.md (hnoN fun r => ?_), fun hb => ?_⟩
      · unfold nameT at r; simp only [Bool.and_eq_true] at r; rw [r.1] at hb; cases hb
      have hb : named T.name = true := by simpa using hb
      refine callq ((tabAt S T.name, ()), ()) (c_rTableAt (t := (some ad, tn, tc)) hS2 T.name) rfl ?_
      simp only [W.br_iff]
      refine ⟨fun h1 => ret0 hids.md (hnoN fun r => ?_), fun h1 => ?_⟩
      · unfold nameT at r; simp only [Bool.and_eq_true, decide_eq_true_eq] at r
        unfold tabAt at h1; rw [r.2] at h1; simp at h1
      have h1 : tabAt S T.name = (k : Int) := by simpa using h1
      simp only [decide_eq_true_eq, decide_eq_false_iff_not]
      refine ⟨fun h2 => ret0 hids.md (hnoL (by omega)), fun h2 => ⟨fun h3 => ret0 hids.md (hnoL (by omega)), fun h3 => ⟨fun h4 => ret0 hids.md (hnoL (by omega)), fun h4 => ⟨fun h5 => ret0 hids.md (hnoL (by omega)), fun h5 => hJ _ _ ⟨rfl, rfl, ?_, by omega, by omega, by omega, by omega⟩⟩⟩⟩⟩
      unfold nameT; rw [hb]; unfold tabAt at h1; rw [h1]; simp
    rintro _ s3 ⟨rfl, rfl, hnameT, hc1, hc8, hx8, hk8⟩
    try simp only [RP_nw, RP_app]
    refine hids.push (by omega) ?_
    intro ia c s4 hids
    obtain ⟨B, hB⟩ : ∃ B, (S.tabs.take k).flatMap idsOf ++ [T.id] = B := ⟨_, rfl⟩
    have hBl : B.length ≤ 25 * k + 1 := by rw [← hB, List.length_append, List.length_singleton]; omega
    rw [hB] at hids
    generalize n + 1 = n at hids ⊢
    try simp only [RP_loop]
    refine ⟨fun z s' => ∃ (j n c : Nat) (ia : Option Addr), z = ((S.version, S.last, (some ad, tn, tc), ()), ((ia, n, c), ()), ((k : Int), ()), (T.id, T.name, (ca, can, cac), (xa, xan, xac), (ka, kan, kac), ()), ((j : Int), ()), ()) ∧ j ≤ can ∧ Ids s1 s' ia n c (B ++ (T.cols.take j).map (·.id)) ∧
      upTo (condI (fun i x => nameC T.cols i x && colB i x) T.cols) j = true ∧ (0 < j → first3 T = true), fun z _ => can - z.2.2.2.2.1.1.toNat, ⟨0, _, _, _, rfl, Nat.zero_le _, by simpa using hids, rfl, by omega⟩, ?_⟩
    rintro _ s5 ⟨j, n, c, ia, rfl, hj, hids, hupC, hf3⟩
    simp only [RP_ite, W.br_iff, decide_eq_true_eq, decide_eq_false_iff_not]
    refine ⟨fun hlt2 => ?_, fun hge => ?_⟩
    · have hlt2 : j < can := by omega
      obtain ⟨x, hx⟩ : ∃ x, T.cols[j]? = some x := ⟨_, List.getElem?_eq_getElem (by omega)⟩
      have hCs := hP0.c.mono hids.md.le
      obtain ⟨ad2, had2, hh2⟩ := hCs.el.at_enc hx
      dsimp only at had2
      subst had2
      have hw := wrap_succ (k := j) (by omega)
      have hno : ¬ (named x.name = true ∧ colAt T x.name = j ∧ 1 ≤ x.state ∧ x.state ≤ 3 ∧ typed x.kind = true ∧ fits x.dflt x.kind = true) → ¬ right S = true := fun e => hnoT (no_col hx fun ⟨a, b⟩ => e (by
        unfold nameC at a; unfold colB stateB at b
        simp only [Bool.and_eq_true, decide_eq_true_eq] at a b
        exact ⟨a.1, a.2, b.1.1, b.1.2, b.2.1, b.2.2⟩))
      simp only [RP_guard, W.guard_iff, RP_unSome, W.unSome_some, RP_ld, Int.toNat_natCast]
      refine ⟨by omega, ?_⟩
      refine ld_has_z hh2 (y := (x.id, x.name, x.kind, x.state, x.dflt.kind, x.dflt.n, x.dflt.s, ())) rfl ?_
      refine callq ((named x.name, ()), ()) (c_rNamed x.name s5) rfl ?_
      simp only [W.br_iff]
      refine ⟨fun hb => ret0 hids.md (hno fun q => by rw [q.1] at hb; cases hb), fun hb => ?_⟩
      have hb : named x.name = true := by simpa using hb
      refine callq ((colAt T x.name, ()), ()) (c_rColumnAt (p := ⟨T, (some ad2, can, cac), (xa, xan, xac), (ka, kan, kac)⟩) hCs x.name) rfl ?_
      simp only [W.br_iff]
      refine ⟨fun h1 => ret0 hids.md (hno fun q => by rw [q.2.1] at h1; simp at h1), fun h1 => ?_⟩
      have h1 : colAt T x.name = (j : Int) := by simpa using h1
      simp only [decide_eq_true_eq, decide_eq_false_iff_not]
      refine ⟨fun h2 => ret0 hids.md (hno (by omega)), fun h2 => ⟨fun h3 => ret0 hids.md (hno (by omega)), fun h3 => ?_⟩⟩
      have hpush : ∀ (K : Option Addr → Nat → Nat → W.T), (∀ a' c' s', Ids s1 s' a' (n + 1) c' (B ++ (T.cols.take (j + 1)).map (·.id)) → K a' (n + 1) c' s') → W.nw (.cells #[.int .i64 x.id] 3 (0, 0)) (fun r => W.app 3 1 8 [.int .i64 0] ia n c (Src.sl (some ⟨r, 0, none⟩) 1) K) s5 := by
        intro K hK
        refine hids.push (by simp; omega) fun a' c' s' h' => hK a' c' s' ?_
        rw [ids_take (·.id) hx]; simpa using h'
      have hyes : typed x.kind = true → fits x.dflt x.kind = true → upTo (condI (fun i x => nameC T.cols i x && colB i x) T.cols) (j + 1) = true := fun a b => up_succ hupC hx (by
        unfold nameC colB stateB; unfold colAt at h1; rw [hb, h1, a, b, decide_eq_true (p := 1 ≤ x.state) (by omega), decide_eq_true (p := x.state ≤ 3) (by omega)]; simp)
      have hfirst : j = 0 → first3 T = decide (x.state = 3) := by
        rintro rfl
        unfold first3
        cases hcs : T.cols with
        | nil => rw [hcs] at hx; cases hx
        | cons a b => rw [hcs] at hx; cases hx; rfl
      have hno3 : first3 T = false → ¬ right S = true := fun e => hnoT fun r => by obtain ⟨_, _, _, _, _, _, _, q, _⟩ := tabB_iff.1 r; rw [e] at q; cases q
      try simp only [RP_ite, W.br_iff]
      refine ⟨fun h0 => ⟨fun h4 => ret0 hids.md (hno3 ?_), fun h4 => ?_⟩, fun h0 => ?_⟩
      · rw [hfirst (by have : (j : Int) = 0 := by simpa using h0
                       omega)]
        simpa using h4
      · have hq : first3 T = true := by
          rw [hfirst (by have : (j : Int) = 0 := by simpa using h0
                         omega)]
          simpa using h4
        refine callq ((typed x.kind, ()), ()) (c_rTyped x.kind s5) rfl ?_
        simp only [W.br_iff]
        refine ⟨fun hb => ret0 hids.md (hno fun q => by rw [q.2.2.2.2.1] at hb; cases hb), fun hb => ?_⟩
        refine callq ((fits x.dflt x.kind, ()), ()) (c_rFits x.dflt x.kind s5) rfl ?_
        simp only [W.br_iff]
        refine ⟨fun hb => ret0 hids.md (hno fun q => by rw [q.2.2.2.2.2] at hb; cases hb), fun hb2 => ?_⟩
        refine hpush _ fun a' c' s' h' => ?_
        rw [hw]
        refine ⟨⟨j + 1, n + 1, c', a', rfl, hlt2, h', hyes (by simpa using hb) (by simpa using hb2), fun _ => hq⟩, ?_⟩
        simp only [Int.toNat_natCast]; omega
      · have hq : first3 T = true := hf3 (by have : (j : Int) ≠ 0 := by simpa using h0
                                             omega)
        refine callq ((typed x.kind, ()), ()) (c_rTyped x.kind s5) rfl ?_
        simp only [W.br_iff]
        refine ⟨fun hb => ret0 hids.md (hno fun q => by rw [q.2.2.2.2.1] at hb; cases hb), fun hb => ?_⟩
        refine callq ((fits x.dflt x.kind, ()), ()) (c_rFits x.dflt x.kind s5) rfl ?_
        simp only [W.br_iff]
        refine ⟨fun hb => ret0 hids.md (hno fun q => by rw [q.2.2.2.2.2] at hb; cases hb), fun hb2 => ?_⟩
        refine hpush _ fun a' c' s' h' => ?_
        rw [hw]
        refine ⟨⟨j + 1, n + 1, c', a', rfl, hlt2, h', hyes (by simpa using hb) (by simpa using hb2), fun _ => hq⟩, ?_⟩
        simp only [Int.toNat_natCast]; omega
    · have hall : T.cols.take j = T.cols := List.take_of_length_le (by omega)
      have hupA : allI (fun i x => nameC T.cols i x && colB i x) T.cols = true := by unfold allI; rw [show T.cols.length = j by omega]; exact hupC
      have hq : first3 T = true := hf3 (by omega)
      rw [hall] at hids
      obtain ⟨B2, hB2⟩ : ∃ B2, B ++ T.cols.map (·.id) = B2 := ⟨_, rfl⟩
      have hB2l : B2.length ≤ 25 * k + 9 := by rw [← hB2, List.length_append, List.length_map]; omega
      rw [hB2] at hids
      refine ⟨fun z s' => ∃ (j n c : Nat) (ia : Option Addr), z = ((S.version, S.last, (some ad, tn, tc), ()), ((ia, n, c), ()), ((k : Int), ()), (T.id, T.name, (ca, can, cac), (xa, xan, xac), (ka, kan, kac), ()), ((j : Int), ()), ()) ∧ j ≤ xan ∧ Ids s1 s' ia n c (B2 ++ (T.idxs.take j).map (·.id)) ∧
        upTo (condI (fun i x => nameX T.idxs i x && idxB T i x) T.idxs) j = true, fun z _ => xan - z.2.2.2.2.1.1.toNat, ⟨0, _, _, _, rfl, Nat.zero_le _, by simpa using hids, rfl⟩, ?_⟩
      rintro _ s6 ⟨j, n, c, ia, rfl, hj, hids, hupX⟩
      simp only [RP_ite, W.br_iff, decide_eq_true_eq, decide_eq_false_iff_not]
      refine ⟨fun hlt2 => ?_, fun hge => ?_⟩
      · have hlt2 : j < xan := by omega
        obtain ⟨x, hx⟩ : ∃ x, T.idxs[j]? = some x := ⟨_, List.getElem?_eq_getElem (by omega)⟩
        have hXs := hP0.x.mono hids.md.le
        have hCs := hP0.c.mono hids.md.le
        obtain ⟨ad2, had2, hh2⟩ := hXs.el.at_enc hx
        dsimp only at had2
        subst had2
        have hw := wrap_succ (k := j) (by omega)
        have hno : ¬ (named x.name = true ∧ idxAt T x.name = j ∧ 1 ≤ x.state ∧ x.state ≤ 3 ∧ 0 ≤ colOf T x.column) → ¬ right S = true := fun e => hnoT (no_idx hx fun ⟨a, b⟩ => e (by
          unfold nameX at a; unfold idxB stateB at b
          simp only [Bool.and_eq_true, decide_eq_true_eq] at a b
          exact ⟨a.1, a.2, b.1.1, b.1.2, b.2⟩))
        simp only [RP_guard, W.guard_iff, RP_unSome, W.unSome_some, RP_ld, Int.toNat_natCast]
        refine ⟨by omega, ?_⟩
        refine ld_has_z hh2 (y := (x.id, x.name, x.column, x.unique, x.state, ())) rfl ?_
        refine callq ((named x.name, ()), ()) (c_rNamed x.name s6) rfl ?_
        simp only [W.br_iff]
        refine ⟨fun hb => ret0 hids.md (hno fun q => by rw [q.1] at hb; cases hb), fun hb => ?_⟩
        have hb : named x.name = true := by simpa using hb
        refine callq ((idxAt T x.name, ()), ()) (c_rIndexAt (p := ⟨T, (ca, can, cac), (some ad2, xan, xac), (ka, kan, kac)⟩) hXs x.name) rfl ?_
        simp only [W.br_iff]
        refine ⟨fun h1 => ret0 hids.md (hno fun q => by rw [q.2.1] at h1; simp at h1), fun h1 => ?_⟩
        have h1 : idxAt T x.name = (j : Int) := by simpa using h1
        simp only [decide_eq_true_eq, decide_eq_false_iff_not]
        refine ⟨fun h2 => ret0 hids.md (hno (by omega)), fun h2 => ⟨fun h3 => ret0 hids.md (hno (by omega)), fun h3 => ?_⟩⟩
        refine callq ((colOf T x.column, ()), ()) (c_rColumnOf (p := ⟨T, (ca, can, cac), (some ad2, xan, xac), (ka, kan, kac)⟩) hCs x.column) rfl ?_
        simp only [W.br_iff, decide_eq_true_eq, decide_eq_false_iff_not]
        refine ⟨fun h4 => ret0 hids.md (hno (by omega)), fun h4 => ?_⟩
        refine hids.push (by rw [List.length_append, List.length_map, List.length_take]; omega) fun a' c' s' h' => ?_
        rw [hw]
        refine ⟨⟨j + 1, n + 1, c', a', rfl, hlt2, by rw [ids_take (·.id) hx]; simpa using h', up_succ hupX hx ?_⟩, ?_⟩
        · unfold nameX idxB stateB; unfold idxAt at h1; rw [hb, h1, decide_eq_true (p := 1 ≤ x.state) (by omega), decide_eq_true (p := x.state ≤ 3) (by omega), decide_eq_true (p := 0 ≤ colOf T x.column) (by omega)]; simp
        · simp only [Int.toNat_natCast]; omega
      · have hall : T.idxs.take j = T.idxs := List.take_of_length_le (by omega)
        have hupB : allI (fun i x => nameX T.idxs i x && idxB T i x) T.idxs = true := by unfold allI; rw [show T.idxs.length = j by omega]; exact hupX
        rw [hall] at hids
        obtain ⟨B3, hB3⟩ : ∃ B3, B2 ++ T.idxs.map (·.id) = B3 := ⟨_, rfl⟩
        have hB3l : B3.length ≤ 25 * k + 17 := by rw [← hB3, List.length_append, List.length_map]; omega
        rw [hB3] at hids
        refine ⟨fun z s' => ∃ (j n c : Nat) (ia : Option Addr), z = ((S.version, S.last, (some ad, tn, tc), ()), ((ia, n, c), ()), ((k : Int), ()), (T.id, T.name, (ca, can, cac), (xa, xan, xac), (ka, kan, kac), ()), ((j : Int), ()), ()) ∧ j ≤ kan ∧ Ids s1 s' ia n c (B3 ++ (T.keys.take j).map (·.id)) ∧
          upTo (condI (fun i x => nameF T.keys i x && keyB S T i x) T.keys) j = true, fun z _ => kan - z.2.2.2.2.1.1.toNat, ⟨0, _, _, _, rfl, Nat.zero_le _, by simpa using hids, rfl⟩, ?_⟩
        rintro _ s7 ⟨j, n, c, ia, rfl, hj, hids, hupF⟩
        have hSn := h.mono hids.md.le
        have hXs := hP0.x.mono hids.md.le
        have hCs := hP0.c.mono hids.md.le
        have hKs := hP0.k.mono hids.md.le
        simp only [RP_ite, W.br_iff, decide_eq_true_eq, decide_eq_false_iff_not]
        refine ⟨fun hlt2 => ?_, fun hge => ?_⟩
        · have hlt2 : j < kan := by omega
          obtain ⟨x, hx⟩ : ∃ x, T.keys[j]? = some x := ⟨_, List.getElem?_eq_getElem (by omega)⟩
          obtain ⟨ad2, had2, hh2⟩ := hKs.el.at_enc hx
          dsimp only at had2
          subst had2
          have hw := wrap_succ (k := j) (by omega)
          have hno : ¬ (named x.name = true ∧ keyAt T x.name = j ∧ 1 ≤ x.state ∧ x.state ≤ 3 ∧ 0 ≤ colOf T x.column ∧ 0 ≤ tabOf S x.parent ∧ parB S T x = true) → ¬ right S = true := fun e => hnoT (no_key hx fun ⟨a, b⟩ => e (by
            unfold nameF at a; unfold keyB stateB at b
            simp only [Bool.and_eq_true, decide_eq_true_eq] at a b
            exact ⟨a.1, a.2, b.1.1, b.1.2, b.2.1, b.2.2.1, b.2.2.2⟩))
          simp only [RP_guard, W.guard_iff, RP_unSome, W.unSome_some, RP_ld, Int.toNat_natCast]
          refine ⟨by omega, ?_⟩
          refine ld_has_z hh2 (y := (x.id, x.name, x.column, x.parent, x.state, ())) rfl ?_
          refine callq ((tabOf S x.parent, ()), ()) (c_rTableOf (t := (some ad, tn, tc)) hSn x.parent) rfl ?_
          refine callq ((colOf T x.column, ()), ()) (c_rColumnOf (p := ⟨T, (ca, can, cac), (xa, xan, xac), (some ad2, kan, kac)⟩) hCs x.column) rfl ?_
          refine W.join_gen (fun z s' => z = ((S.version, S.last, (some ad, tn, tc), ()), ((ia, n, c), ()), ((k : Int), ()), (T.id, T.name, (ca, can, cac), (xa, xan, xac), (some ad2, kan, kac), ()), ((j : Int), ()), (x.id, x.name, x.column, x.parent, x.state, ()), (tabOf S x.parent, ()), (colOf T x.column, ()), ()) ∧ s' = s7 ∧
            named x.name = true ∧ keyAt T x.name = j ∧ 1 ≤ x.state ∧ x.state ≤ 3 ∧ 0 ≤ colOf T x.column ∧ 0 ≤ tabOf S x.parent) ?_ ?_
          rotate_left
          · intro J hJ
            refine callq ((named x.name, ()), ()) (c_rNamed x.name s7) rfl ?_
            simp only [W.br_iff]
            refine ⟨fun hb => ret0 hids.md (hno fun q => by rw [q.1] at hb; cases hb), fun hb => ?_⟩
            have hb : named x.name = true := by simpa using hb
            refine callq ((keyAt T x.name, ()), ()) (c_rKeyAt (p := ⟨T, (ca, can, cac), (xa, xan, xac), (some ad2, kan, kac)⟩) hKs x.name) rfl ?_
            simp only [W.br_iff]
            refine ⟨fun h1 => ret0 hids.md (hno fun q => by rw [q.2.1] at h1; simp at h1), fun h1 => ?_⟩
            have h1 : keyAt T x.name = (j : Int) := by simpa using h1
            simp only [decide_eq_true_eq, decide_eq_false_iff_not]
            refine ⟨fun h2 => ret0 hids.md (hno (by omega)), fun h2 => ⟨fun h3 => ret0 hids.md (hno (by omega)), fun h3 => ⟨fun h4 => ret0 hids.md (hno (by omega)), fun h4 => ⟨fun h5 => ret0 hids.md (hno (by omega)), fun h5 => hJ _ _ ⟨rfl, rfl, hb, h1, by omega, by omega, by omega, by omega⟩⟩⟩⟩⟩
          rintro _ s8 ⟨rfl, rfl, hb, h1, hs1, hs3, hcol, htab⟩
          obtain ⟨jp, P, hjp, hPj, _, _⟩ : ∃ (jp : Nat) (P : Tab), tabOf S x.parent = (jp : Int) ∧ S.tabs[jp]? = some P ∧ True ∧ True := by
            rcases seek_spec (p := fun T : Tab => decide (T.id = x.parent)) S.tabs 0 with ⟨e, _⟩ | ⟨j, P, e, e2, _⟩
            · exact absurd e (by unfold tabOf at htab; omega)
            · exact ⟨j, P, by unfold tabOf; rw [e]; simp, e2, trivial, trivial⟩
          obtain ⟨j2, C, hj2, hCj, _, _⟩ : ∃ (j : Nat) (C : Col), colOf T x.column = (j : Int) ∧ T.cols[j]? = some C ∧ True ∧ True := by
            rcases seek_spec (p := fun c : Col => decide (c.id = x.column)) T.cols 0 with ⟨e, _⟩ | ⟨j, P, e, e2, _⟩
            · exact absurd e (by unfold colOf at hcol; omega)
            · exact ⟨j, P, by unfold colOf; rw [e]; simp, e2, trivial, trivial⟩
          have hpar : parB S T x = (match P.cols with | c0 :: _ => decide (C.kind = c0.kind) | [] => false) := by unfold parB; rw [hjp, hj2]; simp only [Int.toNat_natCast, hPj, hCj]; rfl
          obtain ⟨pp, hpp, hppT⟩ : ∃ pp, ps[jp]? = some pp ∧ pp.T = P := by
            rw [h.eq, List.getElem?_map] at hPj
            cases hq : ps[jp]? with
            | none => rw [hq] at hPj; cases hPj
            | some pp => rw [hq] at hPj; exact ⟨pp, rfl, Option.some.inj hPj⟩
          have hjl := (List.getElem?_eq_some_iff.1 hpp).1
          have hj2l := (List.getElem?_eq_some_iff.1 hCj).1
          obtain ⟨ad3, had3, hh3⟩ := hSn.el.el.at_enc hpp
          dsimp only at had3
          cases had3
          have hPP := hSn.all pp (get_mem hpp)
          obtain ⟨PT, ⟨pca, pcn, pcc⟩, ⟨pxa, pxn, pxc⟩, ⟨pka, pkn, pkc⟩⟩ := pp
          dsimp only at hppT
          subst hppT
          have hpcn : pcn = PT.cols.length := hPP.c.len
          rw [hjp, hj2]
          simp only [Int.toNat_natCast]
          refine ⟨by omega, ?_⟩
          simp only [W.unSome_some]
          refine ld_has (j := 2) hh3 (cs := [.slice]) (y := ((pca, pcn, pcc), ())) rfl ?_
          simp only [W.br_iff]
          refine ⟨fun h3 => ret0 hids.md (hno fun q => ?_), fun h3 => ?_⟩
          · have h3 : pcn = 0 := by simpa using h3
            have : PT.cols = [] := List.length_eq_zero_iff.1 (by omega)
            have q := q.2.2.2.2.2.2
            rw [hpar, this] at q; cases q
          have h3 : pcn ≠ 0 := by simpa using h3
          obtain ⟨c1, cs1, hcs1⟩ : ∃ c0 cs, PT.cols = c0 :: cs := by
            cases hc : PT.cols with
            | nil => rw [hc] at hpcn; simp at hpcn; omega
            | cons a b => exact ⟨a, b, rfl⟩
          obtain ⟨ad4, had4, hh4⟩ := hCs.el.at_enc hCj
          dsimp only at had4
          cases had4
          obtain ⟨ad5, had5, hh5⟩ := hPP.c.el.at_enc (i := 0) (x := c1) (by rw [hcs1]; rfl)
          dsimp only at had5
          subst had5
          rw [Nat.zero_mul, add_zero] at hh5
          refine ⟨by omega, ?_⟩
          simp only [W.unSome_some]
          refine ld_has (j := 2) hh3 (cs := [.slice]) (y := ((some ad5, pcn, pcc), ())) rfl ?_
          refine ⟨by dsimp only; omega, ?_⟩
          simp only [W.unSome_some]
          refine ld_has (j := 2) (A := Addr.add ad5 0) (by rw [add_zero]; exact hh5) (cs := [.int .i64]) (y := (c1.kind, ())) rfl ?_
          refine ⟨by omega, ?_⟩
          simp only [W.unSome_some]
          refine ld_has (j := 2) hh4 (cs := [.int .i64]) (y := (C.kind, ())) rfl ?_
          simp only [W.br_iff]
          refine ⟨fun h6 => ret0 hids.md (hno fun q => ?_), fun h6 => ?_⟩
          · have q := q.2.2.2.2.2.2
            rw [hpar, hcs1] at q
            have q : C.kind = c1.kind := by simpa using q
            rw [q] at h6; simp at h6
          refine hids.push (by rw [List.length_append, List.length_map, List.length_take]; omega) fun a' c' s' h' => ?_
          rw [hw]
          refine ⟨⟨j + 1, n + 1, c', a', rfl, hlt2, by rw [ids_take (·.id) hx]; simpa using h', up_succ hupF hx ?_⟩, ?_⟩
          · have e6 : c1.kind = C.kind := by simpa using h6
            unfold nameF keyB stateB; unfold keyAt at h1; rw [hb, h1, decide_eq_true (p := 1 ≤ x.state) (by omega), decide_eq_true (p := x.state ≤ 3) (by omega), decide_eq_true (p := 0 ≤ colOf T x.column) (by omega), decide_eq_true (p := 0 ≤ tabOf S x.parent) (by omega), hpar, hcs1]; simp [e6]
          · simp only [Int.toNat_natCast]; omega
        · have hall : T.keys.take j = T.keys := List.take_of_length_le (by omega)
          have hupD : allI (fun i x => nameF T.keys i x && keyB S T i x) T.keys = true := by unfold allI; rw [show T.keys.length = j by omega]; exact hupF
          rw [hall] at hids
          have htabB : tabB S T = true := tabB_iff.2 ⟨by omega, by omega, by omega, by omega, (allI_and hupA).1, (allI_and hupB).1, (allI_and hupD).1, hq, (allI_and hupA).2, (allI_and hupB).2, (allI_and hupD).2⟩
          have hnext : (S.tabs.take (k + 1)).flatMap idsOf = B3 ++ T.keys.map (·.id) := by
            rw [List.take_add_one, hT, List.flatMap_append, ← hB3, ← hB2, ← hB]
            simp [idsOf]
          rw [wrap_succ (k := k) (by omega)]
          refine ⟨⟨k + 1, _, _, _, rfl, hlt, by rw [hnext]; exact hids, ?_, up_succ hup hT (by rw [hnameT, htabB]; rfl)⟩, ?_⟩
          · rw [hnext, List.length_append, List.length_map]; omega
          · simp only [Int.toNat_natCast]; omega
  · have hall : S.tabs.take k = S.tabs := List.take_of_length_le (by omega)
    have hupA : allI (fun i T => nameT S.tabs i T && tabB S T) S.tabs = true := by unfold allI; rw [show S.tabs.length = k by omega]; exact hup
    rw [hall] at hids hlen
    have hrun : right S = true ↔ runIds S.last (S.tabs.flatMap idsOf) [] = true :=
      ⟨fun r => (right_iff.1 r).2.2.2.2, fun r => right_iff.2 ⟨hhead, by omega, (allI_and hupA).1, (allI_and hupA).2, r⟩⟩
    generalize S.tabs.flatMap idsOf = l at hids hrun hlen
    have hnl : n = l.length := hids.row.len
    refine ⟨fun z s' => ∃ i : Nat, z = ((S.version, S.last, (ta, tn, tc), ()), ((ia, n, c), ()), ((i : Int), ()), ()) ∧ i ≤ n ∧ s' = s2 ∧ runIds S.last (l.take i) [] = true, fun z _ => n - z.2.2.1.1.toNat, ⟨0, rfl, Nat.zero_le _, rfl, rfl⟩, ?_⟩
    rintro _ s3 ⟨i, rfl, hi, rfl, hr⟩
    simp only [RP_ite, W.br_iff, decide_eq_true_eq, decide_eq_false_iff_not]
    refine ⟨fun hlt => ?_, fun hge => ?_⟩
    · have hlt : i < n := by omega
      obtain ⟨x, hx⟩ : ∃ x, l[i]? = some x := ⟨_, List.getElem?_eq_getElem (by omega)⟩
      have hstep : runIds S.last (l.take (i + 1)) [] = ((decide (1 ≤ x) && decide (x ≤ S.last)) && !decide (x ∈ (l.take i).reverse ++ [])) := by
        have := ids_take (fun y : Int => y) hx
        simp only [List.map_id'] at this
        rw [this, runIds_snoc, hr, Bool.true_and]
      have hno : ¬ (1 ≤ x ∧ x ≤ S.last ∧ x ∉ l.take i) → ¬ right S = true := fun e r => e (by
        have := runIds_pre (k := i + 1) (hrun.1 r)
        rw [hstep] at this
        simp only [Bool.and_eq_true, decide_eq_true_eq] at this
        refine ⟨this.1.1, this.1.2, ?_⟩
        simpa using this.2)
      refine W.join_gen (fun z s' => z = ((S.version, S.last, (ta, tn, tc), ()), ((ia, n, c), ()), ((i : Int), ()), ()) ∧ s' = s3 ∧ 1 ≤ x ∧ x ≤ S.last) ?_ ?_
      rotate_left
      · intro J hJ
        simp only [Int.toNat_natCast]
        refine ⟨by omega, ?_⟩
        refine ids_ld hids hx ?_
        simp only [W.br_iff, decide_eq_true_eq, decide_eq_false_iff_not]
        refine ⟨fun h1 => ret0 hids.md (hno (by omega)), fun h1 => ⟨by omega, ?_⟩⟩
        refine ids_ld hids hx ?_
        simp only [W.br_iff, decide_eq_true_eq, decide_eq_false_iff_not]
        exact ⟨fun h1 => ret0 hids.md (hno (by omega)), fun h2 => hJ _ _ ⟨rfl, rfl, by omega, by omega⟩⟩
      rintro _ s4 ⟨rfl, rfl, hx1, hx2⟩
      refine ⟨fun z s' => ∃ m : Nat, z = ((S.version, S.last, (ta, tn, tc), ()), ((ia, n, c), ()), ((i : Int), ()), ((m : Int), ()), ()) ∧ m ≤ i ∧ s' = s4 ∧ x ∉ l.take m, fun z _ => i - z.2.2.2.1.1.toNat, ⟨0, rfl, Nat.zero_le _, rfl, by simp⟩, ?_⟩
      rintro _ s5 ⟨m, rfl, hm, rfl, hnot⟩
      simp only [RP_ite, W.br_iff, decide_eq_true_eq, decide_eq_false_iff_not]
      refine ⟨fun hlt2 => ?_, fun hge => ?_⟩
      · have hlt2 : m < i := by omega
        obtain ⟨y, hy⟩ : ∃ y, l[m]? = some y := ⟨_, List.getElem?_eq_getElem (by omega)⟩
        simp only [Int.toNat_natCast]
        refine ⟨by omega, ?_⟩
        refine ids_ld hids hy ?_
        refine ⟨by omega, ?_⟩
        refine ids_ld hids hx ?_
        simp only [W.br_iff]
        refine ⟨fun h1 => ret0 hids.md (hno fun q => q.2.2 ?_), fun h1 => ?_⟩
        · have h1 : y = x := by simpa using h1
          subst h1
          exact List.mem_iff_getElem?.2 ⟨m, by rw [List.getElem?_take_of_lt hlt2]; exact hy⟩
        · have h1 : y ≠ x := by simpa using h1
          rw [wrap_succ (k := m) (by omega)]
          refine ⟨⟨m + 1, rfl, hlt2, trivial, ?_⟩, ?_⟩
          · rw [List.take_add_one, hy]
            simp only [Option.toList_some, List.mem_append, List.mem_singleton, not_or]
            exact ⟨hnot, fun e => h1 e.symm⟩
          · simp only [Int.toNat_natCast]; omega
      · have hmi : m = i := by omega
        subst hmi
        rw [wrap_succ (k := m) (by omega)]
        refine ⟨⟨m + 1, rfl, hlt, trivial, ?_⟩, ?_⟩
        · rw [hstep, decide_eq_true (p := 1 ≤ x) hx1, decide_eq_true (p := x ≤ S.last) hx2]
          simp [hnot]
        · simp only [Int.toNat_natCast]; omega
    · have hall : l.take i = l := List.take_of_length_le (by omega)
      rw [hall] at hr
      refine ⟨?_, hids.md⟩
      rw [← hR, hrun.2 hr]
end Go.Proofs.Ythepfbcgpbkbdaa
