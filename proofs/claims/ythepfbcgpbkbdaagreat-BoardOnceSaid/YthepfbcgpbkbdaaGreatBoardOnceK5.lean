/-
  Part 5 for the law: texts of this session's own, those parts that the claim needs, one behind the other.
  Conditions: none; it proves no statement by itself.
-/
import Derived.Test.YthepfbcgpbkbdaaGreatBoardOnceK4
set_option linter.unusedVariables false
set_option linter.unusedSectionVars false
set_option linter.unusedSimpArgs false
section
set_option linter.unusedVariables false
set_option linter.unusedSimpArgs false
set_option maxHeartbeats 4000000
set_option maxRecDepth 100000
namespace Go.Proofs.YthepfbcgpbkbdaaGreat
open Fw Go
attribute [-simp] Fw.W.ld_iff Fw.W.st_iff
/-- a store into a block that is known whole -/
theorem st_blk {s : PH} {b : Nat} {c c' : Array Value} {e : TypeId} {v : Value} {vs : List Value} {off : Nat} {k : W.T} (h : s b = some (.cells c e (0, 0))) (hs : off + (v :: vs).length ≤ c.size) (h1 : ∀ w ∈ v :: vs, w.oneCell' = true) (hc : setL c off (v :: vs) = c')
    (hk : ∀ s', s' = s.upd b (.cells c' e (0, 0)) → k s') : W.st ⟨b, off, none⟩ (v :: vs) k s :=
  (W.st_at h v vs off k).2 ⟨hs, by simp [frz], h1, hc ▸ hk _ rfl⟩
theorem one3 {u v w : Value} (h1 : u.oneCell' = true) (h2 : v.oneCell' = true) (h3 : w.oneCell' = true) : ∀ x ∈ [u, v, w], x.oneCell' = true := by
  intro x hx; simp at hx; rcases hx with rfl | rfl | rfl <;> assumption
section
variable {s s1 : PH} {b : Nat} {P : Pl} {t la ja : Tri} {ps : List TabP} {qs : List JbP}
/-- new leases -/
theorem Brd.newL (h : Brd s b P t la ja ps qs) {la' : Tri} {L' : List Lse} (hm : Fw.Mod (Fw.blk la.1) s s1) (hr : rowE lseE s1 86 la'.1 la'.2.1 la'.2.2 L') {s2 : PH}
    (hs2 : s2 = s1.upd b (.cells #[.int .i64 P.S.version, .int .i64 P.S.last, .slice t.1 t.2.1 t.2.2, .slice la'.1 la'.2.1 la'.2.2, .slice ja.1 ja.2.1 ja.2.2] 79 (0, 0))) :
    Brd s2 b { P with L := L' } t la' ja ps qs ∧ Fw.Mod (b :: Fw.blk la.1) s s2 := by
  subst hs2
  obtain ⟨o1, o2, o3⟩ := h.bl
  have hb1 : Ty s1 b 79 := ⟨_, hm.at h.blk o1⟩
  have m2 : Fw.Mod (b :: Fw.blk la.1) s (s1.upd b (.cells #[.int .i64 P.S.version, .int .i64 P.S.last, .slice t.1 t.2.1 t.2.2, .slice la'.1 la'.2.1 la'.2.2, .slice ja.1 ja.2.1 ja.2.2] 79 (0, 0))) := (hm.mono (by simp; exact fun x hx => .inr hx)).trans (Mod.upd (by simp))
  have hB : ∀ g ∈ b :: Fw.blk la.1, g ∈ BL b la ja := by intro g hg; simp [BL] at hg ⊢; rcases hg with rfl | hg <;> simp [*]
  refine ⟨⟨PH.upd_same _ _ _, h.hasM m2 hB, h.teq, h.sm, ?_, ?_, h.jeq, h.colsM m2 hB⟩, m2⟩
  · refine hr.mod (L := [b]) (Mod.upd (by simp)) fun x hx => ?_
    simp; rintro rfl
    exact (hb1.ne (row_ty hr x hx) (by decide)) rfl
  · refine h.jrow.mod m2 fun x hx => ?_
    simp; exact ⟨fun e => o2 (e ▸ hx), fun e => o3 x e hx⟩
/-- new jobs -/
theorem Brd.newJ (h : Brd s b P t la ja ps qs) {ja' : Tri} {qs' : List JbP} (hm : Fw.Mod (Fw.blk ja.1) s s1) (hr : rowE jobE s1 58 ja'.1 ja'.2.1 ja'.2.2 qs') (hc : ∀ q ∈ qs', rowE colE s1 97 q.u.1 q.u.2.1 q.u.2.2 q.j.D.cols ∧ q.j.D.cols.length ≤ 1048576) {s2 : PH}
    (hs2 : s2 = s1.upd b (.cells #[.int .i64 P.S.version, .int .i64 P.S.last, .slice t.1 t.2.1 t.2.2, .slice la.1 la.2.1 la.2.2, .slice ja'.1 ja'.2.1 ja'.2.2] 79 (0, 0))) :
    Brd s2 b { P with J := qs'.map (·.j) } t la ja' ps qs' ∧ Fw.Mod (b :: Fw.blk ja.1) s s2 := by
  subst hs2
  obtain ⟨o1, o2, o3⟩ := h.bl
  have hb1 : Ty s1 b 79 := ⟨_, hm.at h.blk o2⟩
  have m2 : Fw.Mod (b :: Fw.blk ja.1) s (s1.upd b (.cells #[.int .i64 P.S.version, .int .i64 P.S.last, .slice t.1 t.2.1 t.2.2, .slice la.1 la.2.1 la.2.2, .slice ja'.1 ja'.2.1 ja'.2.2] 79 (0, 0))) := (hm.mono (by simp; exact fun x hx => .inr hx)).trans (Mod.upd (by simp))
  have hB : ∀ g ∈ b :: Fw.blk ja.1, g ∈ BL b la ja := by intro g hg; simp [BL] at hg ⊢; rcases hg with rfl | hg <;> simp [*]
  have mu : ∀ {c : Array Value}, Fw.Mod [b] s1 (s1.upd b (.cells c 79 (0, 0))) := Mod.upd (by simp)
  refine ⟨⟨PH.upd_same _ _ _, h.hasM m2 hB, h.teq, h.sm, ?_, ?_, rfl, ?_⟩, m2⟩
  · refine h.lrow.mod m2 fun x hx => ?_
    simp; exact ⟨fun e => o1 (e ▸ hx), fun e => o3 x hx e⟩
  · refine hr.mod mu fun x hx => ?_
    simp; rintro rfl
    exact (hb1.ne (row_ty hr x hx) (by decide)) rfl
  · intro q hq
    refine ⟨(hc q hq).1.mod mu fun x hx => ?_, (hc q hq).2⟩
    simp; rintro rfl
    exact (hb1.ne (row_ty (hc q hq).1 x hx) (by decide)) rfl
/-- a new schema -/
theorem Brd.newS (h : Brd s b P t la ja ps qs) {t' : Tri} {ps' : List TabP} {S' : Sch} (hm : Fw.Mod [] s s1) (hH : Has s1 t' ps') (he : S'.tabs = ps'.map (·.T)) (hsm : S'.Sm) {s2 : PH}
    (hs2 : s2 = s1.upd b (.cells #[.int .i64 S'.version, .int .i64 S'.last, .slice t'.1 t'.2.1 t'.2.2, .slice la.1 la.2.1 la.2.2, .slice ja.1 ja.2.1 ja.2.2] 79 (0, 0))) :
    Brd s2 b { P with S := S' } t' la ja ps' qs ∧ Fw.Mod [b] s s2 := by
  subst hs2
  obtain ⟨o1, o2, o3⟩ := h.bl
  have hb1 : Ty s1 b 79 := ⟨_, hm.at h.blk (by simp)⟩
  have mu : ∀ {c : Array Value}, Fw.Mod [b] s1 (s1.upd b (.cells c 79 (0, 0))) := Mod.upd (by simp)
  have m2 : Fw.Mod [b] s (s1.upd b (.cells #[.int .i64 S'.version, .int .i64 S'.last, .slice t'.1 t'.2.1 t'.2.2, .slice la.1 la.2.1 la.2.2, .slice ja.1 ja.2.1 ja.2.2] 79 (0, 0))) := (hm.mono (by simp)).trans mu
  have hB : ∀ g ∈ [b], g ∈ BL b la ja := by intro g hg; simp at hg; subst hg; simp [BL]
  refine ⟨⟨PH.upd_same _ _ _, ?_, he, hsm, ?_, ?_, h.jeq, h.colsM m2 hB⟩, m2⟩
  · refine hH.mod mu fun g hg hg2 => ?_
    simp at hg2; subst hg2
    rcases hH.ty g hg with h1 | h1 | h1 | h1 <;> exact (h1.ne hb1 (by decide)) rfl
  · refine h.lrow.mod m2 fun x hx => ?_
    simp; rintro rfl; exact o1 hx
  · refine h.jrow.mod m2 fun x hx => ?_
    simp; rintro rfl; exact o2 hx
theorem step_new {L L' : List Nat} {s s' : PH} (hm : Fw.Mod L s s') (hk : ∀ x ∈ L', x ∉ L → s x = none) : Step L L' s s' :=
  ⟨hm, fun x hx => by by_cases h : x ∈ L; exact .inl h; exact .inr (hk x hx h)⟩
theorem c_grant (h : Brd s b P t la ja ps qs) (hn : P.J.length ≤ 1000000) (hnl : P.L.length ≤ 1000000) (k : CmdP) (now : Int) :
    DCalls Tryz.prog 25 #[cp b, .int .i64 now, cmdV k] s (BdPost s b (BL b la ja) (P.grant now k.c)) := by
  refine ok_grant b now k.c.kind k.c.y1 k.c.y2 k.c.y3 k.x1 k.x2 k.x3 k.ho k.r.1 k.r.2.1 k.r.2.2 k.w.1 k.w.2.1 k.w.2.2 k.mi k.un k.ts k.c.ver k.c.call k.c.D.kind k.c.D.table k.c.D.name k.c.D.column k.c.D.parent k.c.D.unique k.c.D.type k.c.D.dflt.kind k.c.D.dflt.n k.c.D.dflt.s k.u.1 k.u.2.1 k.u.2.2 k.c.job k.c.phase k.c.mark k.c.why _ s ?_
  unfold vc_grant
  obtain ⟨R, hR⟩ : ∃ R, BdPost s b (BL b la ja) (P.grant now k.c) = R := ⟨_, rfl⟩
  rw [hR]
  unfold Pl.grant at hR
  simp only [RP_nw, RP_call, RP_ite, RP_unSome, RP_ld, RP_st, RP_ret, RP_join, RP_app]
  refine W.nw_of fun r0 s1 hr0 m1 k1 => ?_
  have h1 := h.mod m1
  refine W.join_gen (fun z s' => z = ((Addr.mk r0 0 none, ()), cmdD k, zerD, ()) ∧ s' = s1 ∧ ¬ (P.hand.map fun p => p.2.drain) = some true) ?_ ?_
  rotate_left
  · intro J hJ
    refine callq ((handP ja P, ()), ()) (c_hand h1 hn) rfl ?_
    unfold handP
    cases hh : P.hand with
    | none =>
      refine (W.br_iff _ _ _ _).2 ⟨fun e => (by cases e), fun _ => hJ _ _ ⟨rfl, rfl, by simp [hh]⟩⟩
    | some p =>
      obtain ⟨i, j⟩ := p
      obtain ⟨hj, hf, _⟩ := hand_some hh
      obtain ⟨g, q, hg, hq, rfl, hhas⟩ := h1.at hj
      dsimp only
      rw [hg]
      simp only [Option.map_some, add_mk, Nat.zero_add]
      refine (W.br_iff _ _ _ _).2 ⟨fun _ => ?_, fun e => (by cases e)⟩
      simp only [W.unSome_some, add_mk]
      refine ld_hasm (j := 18) hhas (cs := [.bool]) (y := (q.j.drain, ())) rfl ?_
      refine (W.br_iff _ _ _ _).2 ⟨fun e => ?_, fun e => hJ _ _ ⟨rfl, rfl, ?_⟩⟩
      · have e : q.j.drain = true := e
        rw [if_pos (by simp [hh, e])] at hR
        rw [← hR]; exact post_same h m1 _
      · have e : q.j.drain = false := e
        simp [hh, e]
  rintro _ _ ⟨rfl, rfl, hnd⟩
  rename_i s1
  rw [if_neg hnd] at hR
  simp only [W.unSome_some, add_mk, Nat.zero_add]
  rw [W.ld_at h1.blk]
  refine ⟨(P.S.version, ()), rfl, ?_⟩
  rw [W.ld_at k1]
  refine ⟨(now, ()), rfl, ?_⟩
  dsimp only
  obtain ⟨m, hm⟩ : ∃ m : Lse, (⟨k.c.y1, P.S.version, IntKind.i64.wrap (now + 20)⟩ : Lse) = m := ⟨_, rfl⟩
  refine W.nw_of fun r1 s2 hr1 m2 k2 => ?_
  refine st_blk (c' := #[.int .i64 m.node, .int .i64 m.ver, .int .i64 m.til]) k2 (Nat.le_of_ble_eq_true rfl) (one3 rfl rfl rfl) (by rw [← hm]; (first | done | rfl)) fun s3 e3 => ?_
  have hr1s : s r1 = none := m1.none hr1 (by simp)
  have m23 : Fw.Mod [] s1 s3 := fun x hx _ => by
    rw [e3, PH.upd_other _ _ (fun e => hx (by rw [e]; exact hr1))]
    exact m2 x hx (by simp)
  have q3 : LseAt s3 r1 m := by rw [e3]; exact PH.upd_same _ _ _
  have p3 : IntAt s3 r0 now := m23.at k1 (by simp)
  have h3 := h1.mod m23
  have m13 := m1.trans m23
  clear e3 k2 m2
  simp only [W.unSome_some, add_mk, Nat.zero_add]
  rw [W.ld_at h3.blk]
  refine ⟨(la, ()), rfl, ?_⟩
  have hkn := h.lrow.known
  have hpa : r0 ∉ Fw.blk la.1 := fun hx => hkn r0 hx hr0
  have hqa : r1 ∉ Fw.blk la.1 := fun hx => hkn r1 hx hr1s
  have hLn : la.2.1 = P.L.length := h.lrow.len
  refine W.call_of (c_DelL h3.lrow (by omega) p3 q3 hpa hqa) ?_
  rintro _ s4 ⟨n4, rfl, hrow4, m4⟩
  refine ⟨(((la.1, n4, la.2.2), ()), ()), rfl, ?_⟩
  have hb4 := m4.at h3.blk h3.bl.1
  simp only [W.unSome_some, add_mk, Nat.zero_add]
  refine st_blk (c' := #[.int .i64 P.S.version, .int .i64 P.S.last, .slice t.1 t.2.1 t.2.2, .slice la.1 n4 la.2.2, .slice ja.1 ja.2.1 ja.2.2]) hb4 (Nat.le_of_ble_eq_true rfl) (one1 rfl) rfl fun s5 e5 => ?_
  obtain ⟨h5, m5⟩ := h3.newL (la' := (la.1, n4, la.2.2)) m4 hrow4 e5
  clear e5
  simp only [W.unSome_some, add_mk, Nat.zero_add]
  rw [W.ld_at h5.blk]
  refine ⟨((la.1, n4, la.2.2), ()), rfl, ?_⟩
  have hr1b : r1 ∉ b :: Fw.blk la.1 := by
    simp; refine ⟨fun e => ?_, hqa⟩
    subst e; have := h.blk; rw [hr1s] at this; cases this
  have q5 := q3.mod m5 hr1b
  unfold LseAt at q5
  rw [W.ld_at q5]
  refine ⟨(m.node, m.ver, m.til, ()), rfl, ?_⟩
  refine W.nw_of fun r2 s6 hr2 m6 k6 => ?_
  have h6 := h5.mod m6
  have hmax : maxLen = 9223372036854775807 := rfl
  have hn4 : n4 ≤ 1000000 := by
    have h1 := hrow4.len
    have h2 := List.length_filter_le (fun x => !goneB now m x) P.L
    omega
  dsimp only
  refine app_rowE (E := lseE) (k := 1) (ys := [m]) h6.lrow rfl (src_has (E := lseE) (has_block k6) rfl) rfl rfl (by omega) (by omega) ?_
  intro a' c' s7 hrow7 hm7
  have m7 : Fw.Mod (Fw.blk la.1) s6 s7 := by
    rcases hm7 with ⟨_, hm⟩ | ⟨_, _, _, hm⟩
    · exact hm
    · exact hm.mono (by simp)
  have hb7 := m7.at h6.blk h6.bl.1
  simp only [W.unSome_some, add_mk, Nat.zero_add]
  refine st_blk (c' := #[.int .i64 P.S.version, .int .i64 P.S.last, .slice t.1 t.2.1 t.2.2, .slice a' (n4 + 1) c', .slice ja.1 ja.2.1 ja.2.2]) hb7 (Nat.le_of_ble_eq_true rfl) (one1 rfl) rfl fun s8 e8 => ?_
  obtain ⟨h8, m8⟩ := h6.newL (la' := (a', n4 + 1, c')) m7 hrow7 e8
  clear e8
  have q8 : LseAt s8 r1 m := (LseAt.mod (M := []) q5 m6 (by simp)).mod m8 hr1b
  unfold LseAt at q8
  rw [W.ld_at q8]
  refine ⟨(m.ver, ()), rfl, ?_⟩
  rw [W.ld_at q8]
  refine ⟨(m.til, ()), rfl, ?_⟩
  have hBL : ∀ x ∈ b :: Fw.blk la.1, x ∈ BL b la ja := by intro g hg; simp [BL] at hg ⊢; rcases hg with rfl | hg <;> simp [*]
  have mall : Fw.Mod (BL b la ja) s s8 := ((m13.mono (by simp)).trans (m5.mono hBL)).trans ((m6.mono (by simp)).trans (m8.mono hBL))
  have m16 : Fw.Mod (BL b la ja) s s6 := ((m13.mono (by simp)).trans (m5.mono hBL)).trans (m6.mono (by simp))
  rw [← hR]
  refine ⟨?_, BL b (a', n4 + 1, c') ja, ⟨t, (a', n4 + 1, c'), ja, ps, qs, rfl, ?_⟩, step_new mall fun x hx hxL => ?_⟩
  · rw [← hm]
  · have e : (P.L.filter fun x => !goneB now m x) ++ [m] = P.L.filter (fun x => !(!forceB x now || (decide (x.node = k.c.y1) && decide (x.ver = P.S.version)))) ++ [⟨k.c.y1, P.S.version, IntKind.i64.wrap (now + 20)⟩] := by
      rw [← hm]; (first | done | rfl)
    rw [e] at h8
    exact h8
  · simp only [BL, List.mem_cons, List.mem_append] at hx hxL
    simp only [not_or] at hxL
    rcases hx with hx | hx | hx
    · exact absurd hx hxL.1
    · rcases hm7 with ⟨e, _⟩ | ⟨g, e, hg, _⟩
      · rw [e] at hx; exact absurd hx hxL.2.1
      · rw [e] at hx
        simp [Fw.blk] at hx
        subst hx
        exact m16.none hg (by simp only [BL, List.mem_cons, List.mem_append, not_or]; exact hxL)
    · exact absurd hx hxL.2.2
theorem take_filter_len {α : Type} {f : α → Bool} {l : List α} {k : Nat} {x : α} (h : l[k]? = some x) : ((l.take (k + 1)).filter f).length = ((l.take k).filter f).length + (if f x = true then 1 else 0) := by
  rw [filt_take h, List.length_append]; split <;> simp
theorem c_submit (h : Brd s b P t la ja ps qs) (hn : P.J.length ≤ 1000000) (k : CmdP) (hu : Sl colE s k.u k.c.D.cols) (hul : k.c.D.cols.length ≤ 1048576) (now : Int) :
    DCalls Tryz.prog 26 #[cp b, .int .i64 now, cmdV k] s (BdPost s b (BL b la ja) (P.submit k.c)) := by
  refine ok_submit b now k.c.kind k.c.y1 k.c.y2 k.c.y3 k.x1 k.x2 k.x3 k.ho k.r.1 k.r.2.1 k.r.2.2 k.w.1 k.w.2.1 k.w.2.2 k.mi k.un k.ts k.c.ver k.c.call k.c.D.kind k.c.D.table k.c.D.name k.c.D.column k.c.D.parent k.c.D.unique k.c.D.type k.c.D.dflt.kind k.c.D.dflt.n k.c.D.dflt.s k.u.1 k.u.2.1 k.u.2.2 k.c.job k.c.phase k.c.mark k.c.why _ s ?_
  unfold vc_submit
  obtain ⟨R, hR⟩ : ∃ R, BdPost s b (BL b la ja) (P.submit k.c) = R := ⟨_, rfl⟩
  rw [hR]
  unfold Pl.submit at hR
  simp only [RP_nw, RP_call, RP_ite, RP_unSome, RP_ld, RP_st, RP_ret, RP_join, RP_app, RP_loop, RP_guard]
  refine W.call_of (c_Path k.c.D k.u false s) ?_
  rintro _ s1 ⟨⟨va, vn, vc⟩, rfl, hr, m1⟩
  dsimp only at hr
  refine ⟨(((va, vn, vc), ()), ()), rfl, ?_⟩
  have hvl := hr.len
  have h1 := h.mod m1
  refine (W.br_iff _ _ _ _).2 ⟨fun e => ?_, fun e => ?_⟩
  · have e : ((vn : Int) == 0) = true := e
    have e : (vn : Int) = 0 := eq_of_beq e
    rw [if_pos (by omega)] at hR
    rw [← hR]; exact post_same h m1 _
  have e : ((vn : Int) == 0) = false := e
  have e : (vn : Int) ≠ 0 := by simpa using e
  rw [if_neg (by omega)] at hR
  simp only [W.unSome_some, add_mk, Nat.zero_add]
  rw [W.ld_at h1.blk]
  refine ⟨(ja, ()), rfl, ?_⟩
  have hjl := h1.jrow.len
  have hjn : P.J.length = qs.length := by rw [h.jeq, List.length_map]
  refine ⟨fun z s' => ∃ i : Nat, z = (cmdD k, zerD, (((running (P.J.take i) : Nat) : Int), ()), (ja, ()), ((ja.2.1 : Int), ()), ((i : Int), ()), ()) ∧ i ≤ ja.2.1 ∧ s' = s1 ∧ ∀ j ∈ P.J.take i, sameBy j k.c = false, fun z _ => ja.2.1 - z.2.2.2.2.2.1.1.toNat,
    ⟨0, rfl, Nat.zero_le _, rfl, by simp⟩, ?_⟩
  rintro _ _ ⟨i, rfl, hi, rfl, hno⟩
  rename_i s1
  refine (W.br_iff _ _ _ _).2 ⟨fun hlt => ?_, fun hge => ?_⟩
  · have hlt : (i : Int) < (ja.2.1 : Int) := of_decide_eq_true hlt
    obtain ⟨q, hq⟩ : ∃ q, qs[i]? = some q := ⟨_, List.getElem?_eq_getElem (by omega)⟩
    have hqP : P.J[i]? = some q.j := by rw [h.jeq, List.getElem?_map, hq]; (first | done | rfl)
    obtain ⟨g, hg, hh⟩ := h1.jrow.at hq
    dsimp only
    refine (W.guard_iff _ _ _).2 ⟨⟨by omega, hlt⟩, ?_⟩
    rw [hg]
    simp only [W.unSome_some, Int.toNat_natCast, add_mk, Nat.zero_add]
    refine ld_has_z (A := ⟨g, i * 22, none⟩) hh (cs := [.int .i64, .int .i64, .int .i64, .int .i64, .int .i64, .int .i64, .str, .str, .str, .str, .bool, .int .i64, .int .i64, .int .i64, .str, .slice, .int .i64, .bool, .bool, .str, .int .i64, .int .i64])
      (y := (q.j.id, q.j.call, q.j.y1, q.j.y2, q.j.y3, q.j.D.kind, q.j.D.table, q.j.D.name, q.j.D.column, q.j.D.parent, q.j.D.unique, q.j.D.type, q.j.D.dflt.kind, q.j.D.dflt.n, q.j.D.dflt.s, q.u, q.j.phase, q.j.back, q.j.drain, q.j.mark, q.j.fin, q.j.why, ())) rfl ?_
    refine (W.br_iff _ _ _ _).2 ⟨fun e => ?_, fun e => ?_⟩
    · have e : sameBy q.j k.c = true := e
      have hby : byAt P.J k.c = some q.j := by
        unfold byAt
        rw [List.find?_eq_some_iff_append]
        refine ⟨e, P.J.take i, P.J.drop (i + 1), ?_, fun a ha => by simp [hno a ha]⟩
        have hd := drop_some hqP
        rw [← hd, List.take_append_drop]
      rw [hby] at hR
      rw [← hR]; exact post_same h m1 _
    · have e : sameBy q.j k.c = false := e
      have hrun := take_filter_len (f := fun j : Jb => decide (j.fin = 0)) hqP
      have hno' : ∀ j ∈ P.J.take (i + 1), sameBy j k.c = false := by
        intro j hj
        rw [List.take_add_one, hqP] at hj
        simp only [Option.toList_some, List.mem_append, List.mem_singleton] at hj
        rcases hj with hj | rfl
        · exact hno j hj
        · exact e
      have hrl : running (P.J.take i) ≤ i := by
        unfold running
        have h1 := List.length_filter_le (fun j : Jb => decide (j.fin = 0)) (P.J.take i)
        rw [List.length_take] at h1; omega
      refine (W.br_iff _ _ _ _).2 ⟨fun e2 => ?_, fun e2 => ?_⟩
      · have e2 : (q.j.fin == 0) = true := e2
        have e2 : q.j.fin = 0 := eq_of_beq e2
        rw [if_pos (by simp [e2])] at hrun
        rw [wrap_succ (k := running (P.J.take i)) (by omega), wrap_succ (k := i) (by omega)]
        refine ⟨⟨i + 1, ?_, by omega, rfl, hno'⟩, by simp only [Int.toNat_natCast]; omega⟩
        have : running (P.J.take (i + 1)) = running (P.J.take i) + 1 := hrun
        rw [this, ← hg]
        try rfl
      · have e2 : (q.j.fin == 0) = false := e2
        have e2 : q.j.fin ≠ 0 := by simpa using e2
        rw [if_neg (by simp [e2])] at hrun
        rw [wrap_succ (k := i) (by omega)]
        refine ⟨⟨i + 1, ?_, by omega, rfl, hno'⟩, by simp only [Int.toNat_natCast]; omega⟩
        have : running (P.J.take (i + 1)) = running (P.J.take i) := hrun
        rw [this, ← hg]
        try rfl
  · have hge : ¬ (i : Int) < (ja.2.1 : Int) := of_decide_eq_false hge
    have hall : P.J.take i = P.J := List.take_of_length_le (by omega)
    rw [hall] at hno
    have hby : byAt P.J k.c = none := by
      unfold byAt
      rw [List.find?_eq_none]
      intro a ha; simp [hno a ha]
    rw [hby] at hR
    dsimp only at hR
    rw [hall]
    simp only [W.unSome_some, add_mk, Nat.zero_add]
    rw [W.ld_at h1.blk]
    refine ⟨(ja, ()), rfl, ?_⟩
    refine W.call_of (c_CloneC (hu.mono m1.le)) ?_
    rintro _ s2 ⟨u', rfl, hcol, m2, hnew⟩
    refine ⟨((u', ()), ()), rfl, ?_⟩
    have h2 := h1.mod m2
    have hrl : running P.J ≤ P.J.length := List.length_filter_le _ _
    have hid : IntKind.i64.wrap ((ja.2.1 : Int) + 1) = ((P.J.length + 1 : Nat) : Int) := by rw [wrap_succ (k := ja.2.1) (by omega)]; omega
    obtain ⟨nj, hnj⟩ : ∃ nj, newJob P.J k.c = nj := ⟨_, rfl⟩
    rw [hnj] at hR
    refine W.join_gen (fun z s' => z = (zerD, (nj.id, nj.call, nj.y1, nj.y2, nj.y3, nj.D.kind, nj.D.table, nj.D.name, nj.D.column, nj.D.parent, nj.D.unique, nj.D.type, nj.D.dflt.kind, nj.D.dflt.n, nj.D.dflt.s, u', nj.phase, nj.back, nj.drain, nj.mark, nj.fin, nj.why, ()), ()) ∧ s' = s2) ?_ ?_
    rotate_left
    · intro J hJ
      refine (W.br_iff _ _ _ _).2 ⟨fun e => hJ _ _ ⟨?_, rfl⟩, fun e => hJ _ _ ⟨?_, rfl⟩⟩
      · have e : ((running P.J : Nat) : Int) ≥ 4 := of_decide_eq_true e
        rw [← hnj]
        unfold newJob
        rw [if_pos (by omega), if_pos (by omega), ← hid]
      · have e : ¬ ((running P.J : Nat) : Int) ≥ 4 := of_decide_eq_false e
        rw [← hnj]
        unfold newJob
        rw [if_neg (by omega), if_neg (by omega), ← hid]
    rintro _ _ ⟨rfl, rfl⟩
    rename_i s2
    simp only [W.unSome_some, add_mk, Nat.zero_add]
    rw [W.ld_at h2.blk]
    refine ⟨(ja, ()), rfl, ?_⟩
    refine W.nw_of fun r3 s3 hr3 m3 k3 => ?_
    have h3 := h2.mod m3
    have hmax : maxLen = 9223372036854775807 := rfl
    have hl1 : ja.2.1 + 1 ≤ maxLen := by omega
    have hl2 : (ja.2.1 + 1) * 232 ≤ 140737488355328 := by omega
    refine app_rowE (E := jobE) (k := 1) (ys := [⟨nj, u'⟩]) h3.jrow rfl (src_has (E := jobE) (has_block k3) rfl) rfl rfl hl1 hl2 ?_
    intro a' c' s4 hrow4 hm4
    have m4 : Fw.Mod (Fw.blk ja.1) s3 s4 := by
      rcases hm4 with ⟨_, hm⟩ | ⟨_, _, _, hm⟩
      · exact hm
      · exact hm.mono (by simp)
    have hb4 := m4.at h3.blk h3.bl.2.1
    simp only [W.unSome_some, add_mk, Nat.zero_add]
    have hD : nj.D = k.c.D := by rw [← hnj]; (first | done | rfl)
    have hcol3 := hcol.mod m3 (by simp)
    have hcols4 : ∀ q ∈ qs ++ [⟨nj, u'⟩], rowE colE s4 97 q.u.1 q.u.2.1 q.u.2.2 q.j.D.cols ∧ q.j.D.cols.length ≤ 1048576 := by
      intro q hq
      simp only [List.mem_append, List.mem_singleton] at hq
      rcases hq with hq | rfl
      · exact h3.colsM m4 (fun g hg => by simp [BL, hg]) q hq
      · dsimp only
        rw [hD]
        refine ⟨hcol3.mod m4 fun g hg hg2 => ((row_ty hcol3 g hg).ne (row_ty h3.jrow g hg2) (by decide)) rfl, hul⟩
    refine st_blk (c' := #[.int .i64 P.S.version, .int .i64 P.S.last, .slice t.1 t.2.1 t.2.2, .slice la.1 la.2.1 la.2.2, .slice a' (ja.2.1 + 1) c']) hb4 (Nat.le_of_ble_eq_true rfl) (one1 rfl) rfl fun s5 e5 => ?_
    obtain ⟨h5, m5⟩ := h3.newJ (ja' := (a', ja.2.1 + 1, c')) m4 hrow4 hcols4 e5
    clear e5
    have hBL : ∀ x ∈ b :: Fw.blk ja.1, x ∈ BL b la ja := by intro g hg; simp [BL] at hg ⊢; rcases hg with rfl | hg <;> simp [*]
    have m13 := (m1.trans m2).trans m3
    have mall : Fw.Mod (BL b la ja) s s5 := (m13.mono (by simp)).trans (m5.mono hBL)
    rw [← hR]
    refine ⟨?_, BL b la (a', ja.2.1 + 1, c'), ⟨t, la, (a', ja.2.1 + 1, c'), ps, qs ++ [⟨nj, u'⟩], rfl, ?_⟩, step_new mall fun x hx hxL => ?_⟩
    · rw [← hnj]; (first | done | rfl)
    · have e : (qs ++ [(⟨nj, u'⟩ : JbP)]).map (·.j) = P.J ++ [nj] := by rw [List.map_append, ← h.jeq]; (first | done | rfl)
      rw [e] at h5
      exact h5
    · simp only [BL, List.mem_cons, List.mem_append] at hx hxL
      simp only [not_or] at hxL
      rcases hx with hx | hx | hx
      · exact absurd hx hxL.1
      · exact absurd hx hxL.2.1
      · rcases hm4 with ⟨e, _⟩ | ⟨g, e, hg, _⟩
        · rw [e] at hx; exact absurd hx hxL.2.2
        · rw [e] at hx
          simp [Fw.blk] at hx
          subst hx
          exact m13.none hg (by simp)
end
end Go.Proofs.YthepfbcgpbkbdaaGreat
end
section
set_option linter.unusedVariables false
set_option linter.unusedSimpArgs false
set_option maxHeartbeats 4000000
set_option maxRecDepth 100000
namespace Go.Proofs.YthepfbcgpbkbdaaGreat
open Fw Go
attribute [-simp] Fw.W.ld_iff Fw.W.st_iff
section
variable {s : PH} {b : Nat} {P : Pl} {t la ja : Tri} {ps : List TabP} {qs : List JbP}
theorem c_bnext (h : Brd s b P t la ja ps qs) (hok : PlOk P) (hn : P.J.length ≤ 1000000) (hnl : P.L.length ≤ 1000000) (k : CmdP) (now : Int) :
    DCalls Tryz.prog 28 #[cp b, .int .i64 now, cmdV k] s (BdPost s b (BL b la ja) (P.next now k.c)) := by
  refine ok_bnext b now k.c.kind k.c.y1 k.c.y2 k.c.y3 k.x1 k.x2 k.x3 k.ho k.r.1 k.r.2.1 k.r.2.2 k.w.1 k.w.2.1 k.w.2.2 k.mi k.un k.ts k.c.ver k.c.call k.c.D.kind k.c.D.table k.c.D.name k.c.D.column k.c.D.parent k.c.D.unique k.c.D.type k.c.D.dflt.kind k.c.D.dflt.n k.c.D.dflt.s k.u.1 k.u.2.1 k.u.2.2 k.c.job k.c.phase k.c.mark k.c.why _ s ?_
  unfold vc_bnext
  obtain ⟨R, hR⟩ : ∃ R, BdPost s b (BL b la ja) (P.next now k.c) = R := ⟨_, rfl⟩
  rw [hR]
  unfold Pl.next at hR
  simp only [RP_nw, RP_call, RP_callQ, RP_ite, RP_unSome, RP_ld, RP_st, RP_ret, RP_join, RP_still, RP_both]
  refine W.nw_of fun r s1 hr m1 k1 => ?_
  have h1 := h.mod m1
  refine callq ((turnP ja P k.c [1, 2, 3], ()), ()) (c_bturn h1 hok hn k (ints_row (l := [1, 2, 3]) k1) (by decide)) rfl ?_
  cases ht : P.turn k.c [1, 2, 3] with
  | none =>
    rw [ht] at hR
    rw [turnP_none ht]
    refine (W.br_iff _ _ _ _).2 ⟨fun _ => ?_, fun e => (by cases e)⟩
    rw [← hR]; exact post_same h m1 _
  | some p =>
    obtain ⟨i, j⟩ := p
    rw [ht] at hR
    dsimp only at hR
    obtain ⟨hhd, _⟩ := turn_some ht
    obtain ⟨hj, hf, _⟩ := hand_some hhd
    have hph := hok.ph j (List.mem_of_getElem? hj) hf
    obtain ⟨g, q, hg, hq, rfl, hhas⟩ := h1.at hj
    rw [turnP_some ht hg]
    refine (W.br_iff _ _ _ _).2 ⟨fun e => (by cases e), fun _ => ?_⟩
    refine W.callQ_of (((moveOf q.j).1, (moveOf q.j).2, ()), ()) (c_move hhas hph) rfl ?_
    obtain ⟨mk, ms, hmv⟩ : ∃ mk ms, moveOf q.j = (mk, ms) := ⟨_, _, rfl⟩
    rw [hmv] at hR ⊢
    dsimp only at hR ⊢
    simp only [W.unSome_some, add_mk, Nat.zero_add]
    rw [W.ld_at h1.blk]
    refine ⟨(P.S.version, ()), rfl, ?_⟩
    rw [W.still_at h1.blk]
    refine ⟨rfl, ?_⟩
    have hbel : belowOf P q.j = if mk = 2 then IntKind.i64.wrap (P.S.version + 1) else P.S.version := by unfold belowOf; rw [hmv]
    refine W.join_gen (fun z s' => z = (zerD, (some (Addr.mk g (i * 22) none), ()), (mk, ms, ()), (belowOf P q.j, ()), ()) ∧ s' = s1 ∧ ¬ (mk = 2 ∧ q.j.drain = false)) ?_ ?_
    rotate_left
    · intro J hJ
      refine (W.br_iff _ _ _ _).2 ⟨fun e => ?_, fun e => ?_⟩
      · have e : (mk == 2) = true := e
        have e : mk = 2 := eq_of_beq e
        rw [if_pos e] at hbel
        simp only [W.unSome_some, add_mk]
        refine ld_hasm (j := 18) hhas (cs := [.bool]) (y := (q.j.drain, ())) rfl ?_
        refine (W.br_iff _ _ _ _).2 ⟨fun e2 => ?_, fun e2 => hJ _ _ ⟨by rw [hbel], rfl, ?_⟩⟩
        · have e2 : (!q.j.drain) = true := e2
          rw [if_pos ⟨e, by simpa using e2⟩] at hR
          rw [← hR]; exact post_same h m1 _
        · have e2 : (!q.j.drain) = false := e2
          rintro ⟨_, e3⟩
          rw [e3] at e2; cases e2
      · have e : (mk == 2) = false := e
        have e : mk ≠ 2 := by simpa using e
        rw [if_neg e] at hbel
        exact hJ _ _ ⟨by rw [hbel], rfl, fun e3 => e e3.1⟩
    rintro _ _ ⟨rfl, rfl, hnd⟩
    rename_i s1
    rw [if_neg hnd] at hR
    refine callq ((clearB P now (belowOf P q.j), ()), ()) (c_Clear h1 hnl now (belowOf P q.j)) rfl ?_
    refine (W.br_iff _ _ _ _).2 ⟨fun e => ?_, fun e => ?_⟩
    · have e : (!clearB P now (belowOf P q.j)) = true := e
      rw [if_pos (by simpa using e)] at hR
      rw [← hR]; exact post_same h m1 _
    have e : (!clearB P now (belowOf P q.j)) = false := e
    rw [if_neg (by intro e3; rw [e3] at e; cases e)] at hR
    have hgB : ∀ x ∈ [g], x ∈ BL b la ja := by intro x hx; simp at hx; subst hx; simp [BL, hg, Fw.blk]
    refine (W.br_iff _ _ _ _).2 ⟨fun e => ?_, fun e => ?_⟩
    · have e : (mk != 3) = true := e
      rw [if_pos (by simpa using e)] at hR
      obtain ⟨S', x, hSx⟩ : ∃ S' x, P.S.turn q.j.D ms = (S', x) := ⟨_, _, rfl⟩
      have hsm := turn_sm P.S q.j.D ms
      have hcq := h1.cols q (List.mem_of_getElem? hq)
      have hT := c_Turn h1.is q.j.D (Sl.of_row (t := q.u) hcq.1 (by have := hcq.2; omega)) (by have := hcq.2; omega) ms
      rw [hSx] at hR hsm hT
      dsimp only at hR hsm hT
      refine W.join_gen (fun z s' => ∃ t' ps', z = (zerD, (some (Addr.mk g (i * 22) none), ()), (S'.version, S'.last, t', ()), (x, ()), ()) ∧ Has s' t' ps' ∧ S'.tabs = ps'.map (·.T) ∧ Fw.Mod [] s1 s') ?_ ?_
      rotate_left
      · intro J hJ
        simp only [W.unSome_some, add_mk, Nat.zero_add]
        rw [W.ld_at h1.blk]
        refine ⟨(P.S.version, P.S.last, t, ()), rfl, ?_⟩
        simp only [W.unSome_some, add_mk]
        refine ld_hasm (j := 5) hhas (y := ddlD q.j.D q.u) rfl ?_
        have hgo : ∀ K : MDen [(true, [CT.int .i64, CT.int .i64, CT.slice]), (false, [CT.int .i64])] → W.T, (∀ z s', (∃ t' ps', z = ((S'.version, S'.last, t', ()), (x, ()), ()) ∧ Has s' t' ps' ∧ S'.tabs = ps'.map (·.T) ∧ Fw.Mod [] s1 s') → K z s') →
            W.call Tryz.prog 64 #[schV P.S t, ddlV q.j.D q.u, .int .i64 ms] (true, [(true, [CT.int .i64, CT.int .i64, CT.slice]), (false, [CT.int .i64])]) K s1 := by
          intro K hK
          refine W.call_of hT ?_
          rintro _ s2 ⟨t', ps', rfl, hH, he, m2, f2⟩
          exact ⟨((S'.version, S'.last, t', ()), (x, ()), ()), rfl, hK _ _ ⟨t', ps', rfl, hH, he, m2⟩⟩
        refine ⟨hgo _ ?_, hgo _ ?_⟩ <;>
        · rintro _ s2 ⟨t', ps', rfl, hH, he, m2⟩
          exact hJ _ _ ⟨t', ps', rfl, hH, he, m2⟩
      rintro _ s2 ⟨t', ps', rfl, hH, he, m2⟩
      have h2 := h1.mod m2
      refine (W.br_iff _ _ _ _).2 ⟨fun e2 => ?_, fun e2 => ?_⟩
      · have e2 : (x != 0) = true := e2
        rw [if_pos (by simpa using e2)] at hR
        simp only [W.unSome_some, add_mk]
        refine h2.st (q' := ⟨q.j.w q.j.phase q.j.back q.j.drain q.j.mark 3 q.j.why, q.u⟩) (j := 20) hq rfl (Nat.le_of_ble_eq_true rfl) (by simp) (one1 rfl) rfl rfl hg fun s3 h3 m3 => ?_
        simp only [W.unSome_some, add_mk]
        have hq3 := setJ_at (P := P) (q' := ⟨q.j.w q.j.phase q.j.back q.j.drain q.j.mark 3 q.j.why, q.u⟩) hq
        refine h3.st (q' := ⟨q.j.w q.j.phase q.j.back q.j.drain q.j.mark 3 x, q.u⟩) (j := 21) hq3 rfl (Nat.le_of_ble_eq_true rfl) (by simp) (one1 rfl) rfl rfl hg fun s4 h4 m4 => ?_
        simp only [W.unSome_some, add_mk]
        have hq4 := setJ_at (P := P) (q' := ⟨q.j.w q.j.phase q.j.back q.j.drain q.j.mark 3 x, q.u⟩) hq3
        refine h4.st (q' := ⟨q.j.w q.j.phase q.j.back false q.j.mark 3 x, q.u⟩) (j := 18) hq4 rfl (Nat.le_of_ble_eq_true rfl) (by simp) (one1 rfl) rfl rfl hg fun s5 h5 m5 => ?_
        simp only [setJ_setJ] at h5
        rw [← hR]
        exact post_job h5 hg ((((m1.trans m2).mono (by simp)).trans m3).trans (m4.trans m5)) ⟨0, 0, 0, 0, true⟩
      · have e2 : (x != 0) = false := e2
        rw [if_neg (by simpa using e2)] at hR
        simp only [W.unSome_some, add_mk, Nat.zero_add]
        refine st_blk (c' := #[.int .i64 S'.version, .int .i64 S'.last, .slice t'.1 t'.2.1 t'.2.2, .slice la.1 la.2.1 la.2.2, .slice ja.1 ja.2.1 ja.2.2]) h2.blk (Nat.le_of_ble_eq_true rfl) (one3 rfl rfl rfl) rfl fun s3 e3 => ?_
        obtain ⟨h3, m3⟩ := h2.newS (Mod.refl [] s2) hH he hsm e3
        clear e3
        refine W.call_of (c_step h3 hq hg hph) ?_
        rintro _ s4 ⟨rfl, qs', h4, m4⟩
        refine ⟨((0, 0, 0, 0, 0, S'.version, 0, 0, true, ()), ()), rfl, ?_⟩
        rw [← hR]
        refine ⟨rfl, BL b la ja, ⟨t', la, ja, ps', qs', rfl, h4⟩, ⟨?_, fun y hy => .inl hy⟩⟩
        exact (((m1.trans m2).mono (by simp)).trans (m3.mono (by intro y hy; simp at hy; subst hy; simp [BL]))).trans (m4.mono hgB)
    · have e : (mk != 3) = false := e
      rw [if_neg (by simpa using e)] at hR
      refine W.call_of (c_step h1 hq hg hph) ?_
      rintro _ s2 ⟨rfl, qs', h2, m2⟩
      refine ⟨((0, 0, 0, 0, 0, P.S.version, 0, 0, true, ()), ()), rfl, ?_⟩
      rw [← hR]
      exact post_job h2 hg ((m1.mono (by simp)).trans m2) ⟨0, P.S.version, 0, 0, true⟩
abbrev bfn (f b : Nat) : Value := .func (.func f) #[cp b] #[]
theorem c_bDo (h : Brd s b P t la ja ps qs) (hok : PlOk P) (hn : P.J.length ≤ 1000000) (hnl : P.L.length ≤ 1000000) (k : CmdP) (hu : Sl colE s k.u k.c.D.cols) (hul : k.c.D.cols.length ≤ 1048576) (now : Int) :
    DCalls Tryz.prog 10 #[cp b, .int .i64 now, cmdV k] s (BdPost s b (BL b la ja) (P.do now k.c)) := by
  refine ok_Do b now k.c.kind k.c.y1 k.c.y2 k.c.y3 k.x1 k.x2 k.x3 k.ho k.r.1 k.r.2.1 k.r.2.2 k.w.1 k.w.2.1 k.w.2.2 k.mi k.un k.ts k.c.ver k.c.call k.c.D.kind k.c.D.table k.c.D.name k.c.D.column k.c.D.parent k.c.D.unique k.c.D.type k.c.D.dflt.kind k.c.D.dflt.n k.c.D.dflt.s k.u.1 k.u.2.1 k.u.2.2 k.c.job k.c.phase k.c.mark k.c.why _ s ?_
  unfold vc_Do
  obtain ⟨R, hR⟩ : ∃ R, BdPost s b (BL b la ja) (P.do now k.c) = R := ⟨_, rfl⟩
  rw [hR]
  simp only [RP_nw, RP_ite, RP_ret, RP_mset, RP_look, RP_callV]
  refine (W.br_iff _ _ _ _).2 ⟨fun e => (by cases e), fun _ => ?_⟩
  intro r hr
  have m1 : Fw.Mod [] s (s.upd r (.map #[] 0)) := Mod.new hr
  have i1 : isMap (intKey .i64) (fun v : Value => v) (s.upd r (.map #[] 0)) r [] := isMap.new
  obtain ⟨s1, hs1⟩ : ∃ s1, s.upd r (.map #[] 0) = s1 := ⟨_, rfl⟩
  rw [hs1] at m1 i1 ⊢
  refine mset_of i1 (key := 11) (v := bfn 25 b) fun o i2 => ?_
  have m2 := m1.updLater (o := o) (.inr hr)
  obtain ⟨s2, hs2⟩ : ∃ s2, s1.upd r o = s2 := ⟨_, rfl⟩
  rw [hs2] at m2 i2 ⊢
  refine mset_of i2 (key := 12) (v := bfn 26 b) fun o i3 => ?_
  have m3 := m2.updLater (o := o) (.inr hr)
  obtain ⟨s3, hs3⟩ : ∃ s3, s2.upd r o = s3 := ⟨_, rfl⟩
  rw [hs3] at m3 i3 ⊢
  refine mset_of i3 (key := 13) (v := bfn 27 b) fun o i4 => ?_
  have m4 := m3.updLater (o := o) (.inr hr)
  obtain ⟨s4, hs4⟩ : ∃ s4, s3.upd r o = s4 := ⟨_, rfl⟩
  rw [hs4] at m4 i4 ⊢
  refine mset_of i4 (key := 14) (v := bfn 28 b) fun o i5 => ?_
  have m5 := m4.updLater (o := o) (.inr hr)
  obtain ⟨s5, hs5⟩ : ∃ s5, s4.upd r o = s5 := ⟨_, rfl⟩
  rw [hs5] at m5 i5 ⊢
  refine mset_of i5 (key := 15) (v := bfn 29 b) fun o i6 => ?_
  have m6 := m5.updLater (o := o) (.inr hr)
  obtain ⟨s6, hs6⟩ : ∃ s6, s5.upd r o = s6 := ⟨_, rfl⟩
  rw [hs6] at m6 i6 ⊢
  refine mset_of i6 (key := 16) (v := bfn 30 b) fun o i7 => ?_
  have m7 := m6.updLater (o := o) (.inr hr)
  obtain ⟨s7, hs7⟩ : ∃ s7, s6.upd r o = s7 := ⟨_, rfl⟩
  rw [hs7] at m7 i7 ⊢
  have hf : aset (aset (aset (aset (aset (aset ([] : List (Int × Value)) 11 (bfn 25 b)) 12 (bfn 26 b)) 13 (bfn 27 b)) 14 (bfn 28 b)) 15 (bfn 29 b)) 16 (bfn 30 b) =
    [(11, bfn 25 b), (12, bfn 26 b), (13, bfn 27 b), (14, bfn 28 b), (15, bfn 29 b), (16, bfn 30 b)] := rfl
  rw [hf] at i7
  have h7 := h.mod m7
  have hu7 := hu.mono m7.le
  refine look_of i7 (key := k.c.kind) ?_
  unfold Pl.do at hR
  have hbad : (k.c.kind < 11 ∨ 16 < k.c.kind ∨ now < 0 ∨ 1125899906842624 < now) → R (resV (Rs.bad 1)) s7 := by
    intro e
    rw [if_pos e] at hR
    rw [← hR]; exact post_same h m7 _
  have hpost : ∀ o y s', BdPost s7 b (BL b la ja) o y s' → BdPost s b (BL b la ja) o y s' := by
    rintro o y s' ⟨rfl, L', hb, hs⟩
    refine ⟨rfl, L', hb, (m7.mono (by simp)).trans hs.mod, fun x hx => ?_⟩
    rcases hs.new x hx with h1 | h1
    · exact .inl h1
    · exact .inr (m7.none h1 (by simp))
  have hgo : ∀ (f : Nat) (fn : Func) (o : Rs × Pl), Tryz.prog.funcs[f]? = some fn → fn.body.isSome = true → (fn.name == "runtime.NumGoroutine") = false → DCalls Tryz.prog f #[cp b, .int .i64 now, cmdV k] s7 (BdPost s7 b (BL b la ja) o) →
      ¬ (k.c.kind < 11 ∨ 16 < k.c.kind) → (¬ (k.c.kind < 11 ∨ 16 < k.c.kind ∨ now < 0 ∨ 1125899906842624 < now) → BdPost s b (BL b la ja) o = R) →
      W.br (!true) (W.ret R (resV (Rs.bad 1))) (W.br (decide (now < 0)) (W.ret R (resV (Rs.bad 1))) (W.br (decide (now > 1125899906842624)) (W.ret R (resV (Rs.bad 1)))
        (W.callV Tryz.prog (bfn f b) #[.int .i64 now, cmdV k] (false, [(true, [CT.int .i64, CT.int .i64, CT.int .i64, CT.int .i64, CT.int .i64, CT.int .i64, CT.int .i64, CT.int .i64, CT.bool])]) fun x =>
          W.ret R (.agg #[.int .i64 x.1.1, .int .i64 x.1.2.1, .int .i64 x.1.2.2.1, .int .i64 x.1.2.2.2.1, .int .i64 x.1.2.2.2.2.1, .int .i64 x.1.2.2.2.2.2.1, .int .i64 x.1.2.2.2.2.2.2.1, .int .i64 x.1.2.2.2.2.2.2.2.1, .bool x.1.2.2.2.2.2.2.2.2.1])))) s7 := by
    intro f fn o g1 g2 g3 hd hk ho
    refine (W.br_iff _ _ _ _).2 ⟨fun e => (by cases e), fun _ => ?_⟩
    refine (W.br_iff _ _ _ _).2 ⟨fun e => hbad (.inr (.inr (.inl (of_decide_eq_true e)))), fun e1 => ?_⟩
    refine (W.br_iff _ _ _ _).2 ⟨fun e => hbad (.inr (.inr (.inr (of_decide_eq_true e)))), fun e2 => ?_⟩
    have e1 : ¬ now < 0 := of_decide_eq_false e1
    have e2 : ¬ now > 1125899906842624 := of_decide_eq_false e2
    refine ⟨f, #[cp b], #[], rfl, ⟨fn, g1, g2, g3⟩, ?_⟩
    have ea : #[cp b] ++ #[Value.int .i64 now, cmdV k] ++ #[] = #[cp b, .int .i64 now, cmdV k] := rfl
    rw [ea]
    refine hd.mono ?_
    rintro _ s' ⟨rfl, L', hb, hs⟩
    refine ⟨((o.1.err, 0, 0, 0, 0, o.1.ver, o.1.til, o.1.job, o.1.new, ()), ()), rfl, ?_⟩
    rw [← ho (by omega)]
    exact hpost _ _ _ ⟨rfl, L', hb, hs⟩
  by_cases e : k.c.kind = 11
  · have el : List.lookup k.c.kind [(11, bfn 25 b), (12, bfn 26 b), (13, bfn 27 b), (14, bfn 28 b), (15, bfn 29 b), ((16 : Int), bfn 30 b)] = some (bfn 25 b) := by rw [e]; (first | done | rfl)
    rw [el]
    refine ⟨(bfn 25 b, ()), rfl, ?_⟩
    exact hgo 25 Tryz.f25 _ Tryz.func25 (by kernel_rfl) (by kernel_rfl) (c_grant h7 hn hnl k now) (by omega) fun hc => by rw [if_neg hc] at hR; rw [if_pos e] at hR; exact hR
  by_cases e : k.c.kind = 12
  · have el : List.lookup k.c.kind [(11, bfn 25 b), (12, bfn 26 b), (13, bfn 27 b), (14, bfn 28 b), (15, bfn 29 b), ((16 : Int), bfn 30 b)] = some (bfn 26 b) := by rw [e]; (first | done | rfl)
    rw [el]
    refine ⟨(bfn 26 b, ()), rfl, ?_⟩
    exact hgo 26 Tryz.f26 _ Tryz.func26 (by kernel_rfl) (by kernel_rfl) (c_submit h7 hn k hu7 hul now) (by omega) fun hc => by rw [if_neg hc] at hR; rw [if_neg (by omega)] at hR; rw [if_pos e] at hR; exact hR
  by_cases e : k.c.kind = 13
  · have el : List.lookup k.c.kind [(11, bfn 25 b), (12, bfn 26 b), (13, bfn 27 b), (14, bfn 28 b), (15, bfn 29 b), ((16 : Int), bfn 30 b)] = some (bfn 27 b) := by rw [e]; (first | done | rfl)
    rw [el]
    refine ⟨(bfn 27 b, ()), rfl, ?_⟩
    exact hgo 27 Tryz.f27 _ Tryz.func27 (by kernel_rfl) (by kernel_rfl) (c_drain h7 hok hn k now) (by omega) fun hc => by rw [if_neg hc] at hR; rw [if_neg (by omega)] at hR; rw [if_neg (by omega)] at hR; rw [if_pos e] at hR; exact hR
  by_cases e : k.c.kind = 14
  · have el : List.lookup k.c.kind [(11, bfn 25 b), (12, bfn 26 b), (13, bfn 27 b), (14, bfn 28 b), (15, bfn 29 b), ((16 : Int), bfn 30 b)] = some (bfn 28 b) := by rw [e]; (first | done | rfl)
    rw [el]
    refine ⟨(bfn 28 b, ()), rfl, ?_⟩
    exact hgo 28 Tryz.f28 _ Tryz.func28 (by kernel_rfl) (by kernel_rfl) (c_bnext h7 hok hn hnl k now) (by omega) fun hc => by rw [if_neg hc] at hR; rw [if_neg (by omega)] at hR; rw [if_neg (by omega)] at hR; rw [if_neg (by omega)] at hR; rw [if_pos e] at hR; exact hR
  by_cases e : k.c.kind = 15
  · have el : List.lookup k.c.kind [(11, bfn 25 b), (12, bfn 26 b), (13, bfn 27 b), (14, bfn 28 b), (15, bfn 29 b), ((16 : Int), bfn 30 b)] = some (bfn 29 b) := by rw [e]; (first | done | rfl)
    rw [el]
    refine ⟨(bfn 29 b, ()), rfl, ?_⟩
    exact hgo 29 Tryz.f29 _ Tryz.func29 (by kernel_rfl) (by kernel_rfl) (c_bmark h7 hok hn k now) (by omega) fun hc => by rw [if_neg hc] at hR; rw [if_neg (by omega)] at hR; rw [if_neg (by omega)] at hR; rw [if_neg (by omega)] at hR; rw [if_neg (by omega)] at hR; rw [if_pos e] at hR; exact hR
  by_cases e : k.c.kind = 16
  · have el : List.lookup k.c.kind [(11, bfn 25 b), (12, bfn 26 b), (13, bfn 27 b), (14, bfn 28 b), (15, bfn 29 b), ((16 : Int), bfn 30 b)] = some (bfn 30 b) := by rw [e]; (first | done | rfl)
    rw [el]
    refine ⟨(bfn 30 b, ()), rfl, ?_⟩
    exact hgo 30 Tryz.f30 _ Tryz.func30 (by kernel_rfl) (by kernel_rfl) (c_bfail h7 hok hn k now) (by omega) fun hc => by rw [if_neg hc] at hR; rw [if_neg (by omega)] at hR; rw [if_neg (by omega)] at hR; rw [if_neg (by omega)] at hR; rw [if_neg (by omega)] at hR; rw [if_neg (by omega)] at hR; exact hR
  have el : List.lookup k.c.kind [(11, bfn 25 b), (12, bfn 26 b), (13, bfn 27 b), (14, bfn 28 b), (15, bfn 29 b), ((16 : Int), bfn 30 b)] = none := by
    rw [List.lookup_eq_none_iff]
    intro p hp
    simp at hp
    rcases hp with rfl | rfl | rfl | rfl | rfl | rfl <;> simp [*]
  rw [el]
  refine ⟨(.nilFunc, ()), rfl, ?_⟩
  exact (W.br_iff _ _ _ _).2 ⟨fun _ => hbad (by omega), fun e => (by cases e)⟩
end
end Go.Proofs.YthepfbcgpbkbdaaGreat
end
section
set_option linter.unusedVariables false
set_option maxHeartbeats 1000000
namespace Go.Proofs.YthepfbcgpbkbdaaGreat
open Fw Fw.W Go
/-- slices.Clone[[]lintel/api.Lease,lintel/api.Lease] -/
def vc_CloneL {W : Type} (π : Prims W) (a : Option Addr) (an ac : Nat) : W :=
  π.ite (a.isNone) (
    π.ret (Go.Value.slice (none) ((0 : Nat)) ((0 : Nat)))
  ) (
    π.nw (Go.Obj.cells #[] (86 : Nat) ((0 : Nat), (0 : Nat))) fun r0 =>
    π.app (86 : Nat) (3 : Nat) (24 : Nat) [(Go.Value.int (IntKind.i64) ((0 : Int))), (Go.Value.int (IntKind.i64) ((0 : Int))), (Go.Value.int (IntKind.i64) ((0 : Int)))] (some (Addr.mk r0 (0 : Nat) none)) ((0 : Nat)) ((0 : Nat)) (Src.sl a an) fun a1 n2 c3 =>
    π.ret (Go.Value.slice (a1) (n2) (c3))
  )
def ann_CloneL : Ann := { draws := [], join := [], loop := [] }
def la_CloneL : LA := { ptr := [], ty := [] }
set_option maxRecDepth 100000 in
theorem eq_CloneL {W : Type} (π : Prims W) (a : Option Addr) (an ac : Nat) : bodyL π Tryz.prog la_CloneL ann_CloneL (mkFr (maskA [] [.v (.slice a an ac)] 0) 8) Tryz.f69 (bodyOf Tryz.f69) (mkFr (List.map some [.v (.slice a an ac)]) 8) = vc_CloneL π a an ac := by kernel_rfl
theorem ok_CloneL (a : Option Addr) (an ac : Nat) (R : Value → PH → Prop) (s : PH) (h : vc_CloneL (RP Tryz.prog R) a an ac s) : DCalls Tryz.prog 69 (List.map AV.val [.v (.slice a an ac)]).toArray s R :=
  calls_vcL (c := bodyOf Tryz.f69) (ann := ann_CloneL) la_CloneL (by kernel_rfl) Tryz.func69 rfl (by kernel_rfl) [.v (.slice a an ac)] [] (by rw [Tryz.ntmps69]; exact Nat.le_of_ble_eq_true rfl) (by kernel_rfl) (by rw [show Tryz.f69.ntmps = 8 from Tryz.ntmps69, eq_CloneL]; exact h)
/-- slices.Clone[[]lintel/api.Job,lintel/api.Job] -/
def vc_CloneJ {W : Type} (π : Prims W) (a : Option Addr) (an ac : Nat) : W :=
  π.ite (a.isNone) (
    π.ret (Go.Value.slice (none) ((0 : Nat)) ((0 : Nat)))
  ) (
    π.nw (Go.Obj.cells #[] (58 : Nat) ((0 : Nat), (0 : Nat))) fun r0 =>
    π.app (58 : Nat) (22 : Nat) (232 : Nat) [(Go.Value.int (IntKind.i64) ((0 : Int))), (Go.Value.int (IntKind.i64) ((0 : Int))), (Go.Value.int (IntKind.i64) ((0 : Int))), (Go.Value.int (IntKind.i64) ((0 : Int))), (Go.Value.int (IntKind.i64) ((0 : Int))), (Go.Value.int (IntKind.i64) ((0 : Int))), (Go.Value.string (ByteArray.mk #[])), (Go.Value.string (ByteArray.mk #[])), (Go.Value.string (ByteArray.mk #[])), (Go.Value.string (ByteArray.mk #[])), (Go.Value.bool (false)), (Go.Value.int (IntKind.i64) ((0 : Int))), (Go.Value.int (IntKind.i64) ((0 : Int))), (Go.Value.int (IntKind.i64) ((0 : Int))), (Go.Value.string (ByteArray.mk #[])), (Go.Value.slice (none) ((0 : Nat)) ((0 : Nat))), (Go.Value.int (IntKind.i64) ((0 : Int))), (Go.Value.bool (false)), (Go.Value.bool (false)), (Go.Value.string (ByteArray.mk #[])), (Go.Value.int (IntKind.i64) ((0 : Int))), (Go.Value.int (IntKind.i64) ((0 : Int)))] (some (Addr.mk r0 (0 : Nat) none)) ((0 : Nat)) ((0 : Nat)) (Src.sl a an) fun a1 n2 c3 =>
    π.ret (Go.Value.slice (a1) (n2) (c3))
  )
def ann_CloneJ : Ann := { draws := [], join := [], loop := [] }
def la_CloneJ : LA := { ptr := [], ty := [] }
set_option maxRecDepth 100000 in
theorem eq_CloneJ {W : Type} (π : Prims W) (a : Option Addr) (an ac : Nat) : bodyL π Tryz.prog la_CloneJ ann_CloneJ (mkFr (maskA [] [.v (.slice a an ac)] 0) 8) Tryz.f70 (bodyOf Tryz.f70) (mkFr (List.map some [.v (.slice a an ac)]) 8) = vc_CloneJ π a an ac := by kernel_rfl
theorem ok_CloneJ (a : Option Addr) (an ac : Nat) (R : Value → PH → Prop) (s : PH) (h : vc_CloneJ (RP Tryz.prog R) a an ac s) : DCalls Tryz.prog 70 (List.map AV.val [.v (.slice a an ac)]).toArray s R :=
  calls_vcL (c := bodyOf Tryz.f70) (ann := ann_CloneJ) la_CloneJ (by kernel_rfl) Tryz.func70 rfl (by kernel_rfl) [.v (.slice a an ac)] [] (by rw [Tryz.ntmps70]; exact Nat.le_of_ble_eq_true rfl) (by kernel_rfl) (by rw [show Tryz.f70.ntmps = 8 from Tryz.ntmps70, eq_CloneJ]; exact h)
/-- lintel/lintellaw16.own -/
def vc_own {W : Type} (π : Prims W) (ck y1 y2 y3 x1 x2 x3 ho : Int) (ra : Option Addr) (rn rc : Nat) (wa : Option Addr) (wn wc : Nat) (mi un ts ve ca : Int) (dk : Int) (dt dn dc dp : ByteArray) (du : Bool) (dy vk vn : Int) (vs : ByteArray) (da : Option Addr) (dan dac : Nat) (jo ph : Int) (mk : ByteArray) (wh : Int) : W :=
  π.nw (Go.Obj.cells #[] (97 : Nat) ((0 : Nat), (0 : Nat))) fun r0 =>
  π.app (97 : Nat) (7 : Nat) (72 : Nat) [(Go.Value.int (IntKind.i64) ((0 : Int))), (Go.Value.string (ByteArray.mk #[])), (Go.Value.int (IntKind.i64) ((0 : Int))), (Go.Value.int (IntKind.i64) ((0 : Int))), (Go.Value.int (IntKind.i64) ((0 : Int))), (Go.Value.int (IntKind.i64) ((0 : Int))), (Go.Value.string (ByteArray.mk #[]))] (some (Addr.mk r0 (0 : Nat) none)) ((0 : Nat)) ((0 : Nat)) (Src.sl da dan) fun a1 n2 c3 =>
  π.ret (Go.Value.agg #[(Go.Value.int (IntKind.i64) (ck)), (Go.Value.int (IntKind.i64) (y1)), (Go.Value.int (IntKind.i64) (y2)), (Go.Value.int (IntKind.i64) (y3)), (Go.Value.int (IntKind.i64) (x1)), (Go.Value.int (IntKind.i64) (x2)), (Go.Value.int (IntKind.i64) (x3)), (Go.Value.int (IntKind.i64) (ho)), (Go.Value.slice (ra) (rn) (rc)), (Go.Value.slice (wa) (wn) (wc)), (Go.Value.int (IntKind.i64) (mi)), (Go.Value.int (IntKind.i64) (un)), (Go.Value.int (IntKind.i64) (ts)), (Go.Value.int (IntKind.i64) (ve)), (Go.Value.int (IntKind.i64) (ca)), (Go.Value.int (IntKind.i64) (dk)), (Go.Value.string (dt)), (Go.Value.string (dn)), (Go.Value.string (dc)), (Go.Value.string (dp)), (Go.Value.bool (du)), (Go.Value.int (IntKind.i64) (dy)), (Go.Value.int (IntKind.i64) (vk)), (Go.Value.int (IntKind.i64) (vn)), (Go.Value.string (vs)), (Go.Value.slice (a1) (n2) (c3)), (Go.Value.int (IntKind.i64) (jo)), (Go.Value.int (IntKind.i64) (ph)), (Go.Value.string (mk)), (Go.Value.int (IntKind.i64) (wh))])
def ann_own : Ann := { draws := [], join := [], loop := [] }
def la_own : LA := { ptr := [(1, 1, 0), (2, 2, 0), (4, 1, 15), (5, 1, 25), (8, 1, 15), (9, 1, 25)], ty := [(1, 39), (2, 39)] }
set_option maxRecDepth 100000 in
theorem eq_own {W : Type} (π : Prims W) (ck y1 y2 y3 x1 x2 x3 ho : Int) (ra : Option Addr) (rn rc : Nat) (wa : Option Addr) (wn wc : Nat) (mi un ts ve ca : Int) (dk : Int) (dt dn dc dp : ByteArray) (du : Bool) (dy vk vn : Int) (vs : ByteArray) (da : Option Addr) (dan dac : Nat) (jo ph : Int) (mk : ByteArray) (wh : Int) : bodyL π Tryz.prog la_own ann_own (mkFr (maskA [] [.v (.agg #[.int .i64 ck, .int .i64 y1, .int .i64 y2, .int .i64 y3, .int .i64 x1, .int .i64 x2, .int .i64 x3, .int .i64 ho, .slice ra rn rc, .slice wa wn wc, .int .i64 mi, .int .i64 un, .int .i64 ts, .int .i64 ve, .int .i64 ca, .int .i64 dk, .string dt, .string dn, .string dc, .string dp, .bool du, .int .i64 dy, .int .i64 vk, .int .i64 vn, .string vs, .slice da dan dac, .int .i64 jo, .int .i64 ph, .string mk, .int .i64 wh])] 0) 11) Tryz.f11 (bodyOf Tryz.f11) (mkFr (List.map some [.v (.agg #[.int .i64 ck, .int .i64 y1, .int .i64 y2, .int .i64 y3, .int .i64 x1, .int .i64 x2, .int .i64 x3, .int .i64 ho, .slice ra rn rc, .slice wa wn wc, .int .i64 mi, .int .i64 un, .int .i64 ts, .int .i64 ve, .int .i64 ca, .int .i64 dk, .string dt, .string dn, .string dc, .string dp, .bool du, .int .i64 dy, .int .i64 vk, .int .i64 vn, .string vs, .slice da dan dac, .int .i64 jo, .int .i64 ph, .string mk, .int .i64 wh])]) 11) = vc_own π ck y1 y2 y3 x1 x2 x3 ho ra rn rc wa wn wc mi un ts ve ca dk dt dn dc dp du dy vk vn vs da dan dac jo ph mk wh := by kernel_rfl
theorem ok_own (ck y1 y2 y3 x1 x2 x3 ho : Int) (ra : Option Addr) (rn rc : Nat) (wa : Option Addr) (wn wc : Nat) (mi un ts ve ca : Int) (dk : Int) (dt dn dc dp : ByteArray) (du : Bool) (dy vk vn : Int) (vs : ByteArray) (da : Option Addr) (dan dac : Nat) (jo ph : Int) (mk : ByteArray) (wh : Int) (R : Value → PH → Prop) (s : PH) (h : vc_own (RP Tryz.prog R) ck y1 y2 y3 x1 x2 x3 ho ra rn rc wa wn wc mi un ts ve ca dk dt dn dc dp du dy vk vn vs da dan dac jo ph mk wh s) : DCalls Tryz.prog 11 (List.map AV.val [.v (.agg #[.int .i64 ck, .int .i64 y1, .int .i64 y2, .int .i64 y3, .int .i64 x1, .int .i64 x2, .int .i64 x3, .int .i64 ho, .slice ra rn rc, .slice wa wn wc, .int .i64 mi, .int .i64 un, .int .i64 ts, .int .i64 ve, .int .i64 ca, .int .i64 dk, .string dt, .string dn, .string dc, .string dp, .bool du, .int .i64 dy, .int .i64 vk, .int .i64 vn, .string vs, .slice da dan dac, .int .i64 jo, .int .i64 ph, .string mk, .int .i64 wh])]).toArray s R :=
  calls_vcL (c := bodyOf Tryz.f11) (ann := ann_own) la_own (by kernel_rfl) Tryz.func11 rfl (by kernel_rfl) [.v (.agg #[.int .i64 ck, .int .i64 y1, .int .i64 y2, .int .i64 y3, .int .i64 x1, .int .i64 x2, .int .i64 x3, .int .i64 ho, .slice ra rn rc, .slice wa wn wc, .int .i64 mi, .int .i64 un, .int .i64 ts, .int .i64 ve, .int .i64 ca, .int .i64 dk, .string dt, .string dn, .string dc, .string dp, .bool du, .int .i64 dy, .int .i64 vk, .int .i64 vn, .string vs, .slice da dan dac, .int .i64 jo, .int .i64 ph, .string mk, .int .i64 wh])] [] (by rw [Tryz.ntmps11]; exact Nat.le_of_ble_eq_true rfl) (by kernel_rfl) (by rw [show Tryz.f11.ntmps = 11 from Tryz.ntmps11, eq_own]; exact h)
/-- lintel/lintellaw16.great -/
def vc_bgreat {W : Type} (π : Prims W) (a : Option Addr) (an ac : Nat) : W :=
  π.loop [(false, [.int .i64]), (false, [.slice]), (false, [.int .i64]), (false, [.int .i64])] (((0 : Int), ()), ((a, an, ac), ()), ((↑an : Int), ()), ((0 : Int), ()), ()) fun (((x1 : Int), _), (((a2 : Option Addr), (n3 : Nat), (c4 : Nat)), _), ((x5 : Int), _), ((x6 : Int), _), _) again0 =>
    π.ite (decide (x6 < x5)) (
      π.guard ((0 : Int) ≤ x6 ∧ x6 < (↑n3 : Int)) <|
      π.unSome (a2) fun p7 =>
      π.ld [.int .i64, .int .i64, .int .i64, .int .i64, .int .i64, .int .i64, .int .i64, .int .i64, .int .i64, .slice, .slice, .int .i64, .int .i64, .int .i64, .int .i64, .int .i64, .int .i64, .str, .str, .str, .str, .bool, .int .i64, .int .i64, .int .i64, .str, .slice, .int .i64, .int .i64, .str, .int .i64] (p7.add (x6.toNat * (31 : Nat))) fun ((x8 : Int), (x9 : Int), (x10 : Int), (x11 : Int), (x12 : Int), (x13 : Int), (x14 : Int), (x15 : Int), (x16 : Int), ((a17 : Option Addr), (n18 : Nat), (c19 : Nat)), ((a20 : Option Addr), (n21 : Nat), (c22 : Nat)), (x23 : Int), (x24 : Int), (x25 : Int), (x26 : Int), (x27 : Int), (x28 : Int), (t29 : ByteArray), (t30 : ByteArray), (t31 : ByteArray), (t32 : ByteArray), (b33 : Bool), (x34 : Int), (x35 : Int), (x36 : Int), (t37 : ByteArray), ((a38 : Option Addr), (n39 : Nat), (c40 : Nat)), (x41 : Int), (x42 : Int), (t43 : ByteArray), (x44 : Int), _) =>
      π.ite (decide (IntKind.i64.wrap (x1 + IntKind.i64.wrap ((1 : Int) + (↑n39 : Int))) > (1000 : Int))) (
        π.ret (Go.Value.bool (true))
      ) (
        again0 ((IntKind.i64.wrap (x1 + IntKind.i64.wrap ((1 : Int) + (↑n39 : Int))), ()), ((a2, n3, c4), ()), (x5, ()), (IntKind.i64.wrap (x6 + (1 : Int)), ()), ())
      )
    ) (
      π.ret (Go.Value.bool (decide ((↑an : Int) > (150 : Int))))
    )
def ann_bgreat : Ann := { draws := [], join := [], loop := [(3, [(3, 3), (6, 22), (7, 3), (8, 3)])] }
def la_bgreat : LA := { ptr := [(5, 5, 0), (13, 5, 1), (14, 5, 16), (15, 5, 26)], ty := [(5, 41)] }
set_option maxRecDepth 100000 in
theorem eq_bgreat {W : Type} (π : Prims W) (a : Option Addr) (an ac : Nat) : bodyL π Tryz.prog la_bgreat ann_bgreat (mkFr (maskA [] [.v (.slice a an ac)] 0) 26) Tryz.f7 (bodyOf Tryz.f7) (mkFr (List.map some [.v (.slice a an ac)]) 26) = vc_bgreat π a an ac := by kernel_rfl
theorem ok_bgreat (a : Option Addr) (an ac : Nat) (R : Value → PH → Prop) (s : PH) (h : vc_bgreat (RP Tryz.prog R) a an ac s) : DCalls Tryz.prog 7 (List.map AV.val [.v (.slice a an ac)]).toArray s R :=
  calls_vcL (c := bodyOf Tryz.f7) (ann := ann_bgreat) la_bgreat (by kernel_rfl) Tryz.func7 rfl (by kernel_rfl) [.v (.slice a an ac)] [] (by rw [Tryz.ntmps7]; exact Nat.le_of_ble_eq_true rfl) (by kernel_rfl) (by rw [show Tryz.f7.ntmps = 26 from Tryz.ntmps7, eq_bgreat]; exact h)
/-- lintel/lintellaw16.awake -/
def vc_bawake {W : Type} (π : Prims W) : W :=
  π.call (8 : Nat) #[] (false, [(false, [.ptr])]) fun ((p0, _), _) =>
  π.call (10 : Nat) #[(Go.Value.pointer (p0)), (Go.Value.int (IntKind.i64) ((5 : Int))), (Go.Value.agg #[(Go.Value.int (IntKind.i64) ((11 : Int))), (Go.Value.int (IntKind.i64) ((2 : Int))), (Go.Value.int (IntKind.i64) ((0 : Int))), (Go.Value.int (IntKind.i64) ((0 : Int))), (Go.Value.int (IntKind.i64) ((0 : Int))), (Go.Value.int (IntKind.i64) ((0 : Int))), (Go.Value.int (IntKind.i64) ((0 : Int))), (Go.Value.int (IntKind.i64) ((0 : Int))), (Go.Value.slice (none) ((0 : Nat)) ((0 : Nat))), (Go.Value.slice (none) ((0 : Nat)) ((0 : Nat))), (Go.Value.int (IntKind.i64) ((0 : Int))), (Go.Value.int (IntKind.i64) ((0 : Int))), (Go.Value.int (IntKind.i64) ((0 : Int))), (Go.Value.int (IntKind.i64) ((0 : Int))), (Go.Value.int (IntKind.i64) ((0 : Int))), (Go.Value.int (IntKind.i64) ((0 : Int))), (Go.Value.string (ByteArray.mk #[])), (Go.Value.string (ByteArray.mk #[])), (Go.Value.string (ByteArray.mk #[])), (Go.Value.string (ByteArray.mk #[])), (Go.Value.bool (false)), (Go.Value.int (IntKind.i64) ((0 : Int))), (Go.Value.int (IntKind.i64) ((0 : Int))), (Go.Value.int (IntKind.i64) ((0 : Int))), (Go.Value.string (ByteArray.mk #[])), (Go.Value.slice (none) ((0 : Nat)) ((0 : Nat))), (Go.Value.int (IntKind.i64) ((0 : Int))), (Go.Value.int (IntKind.i64) ((0 : Int))), (Go.Value.string (ByteArray.mk #[])), (Go.Value.int (IntKind.i64) ((0 : Int)))])] (false, [(true, [.int .i64, .int .i64, .int .i64, .int .i64, .int .i64, .int .i64, .int .i64, .int .i64, .bool])]) fun (((x1 : Int), (x2 : Int), (x3 : Int), (x4 : Int), (x5 : Int), (x6 : Int), (x7 : Int), (x8 : Int), (b9 : Bool), _), _) =>
  π.call (24 : Nat) #[] (false, [(true, [.int .i64, .str, .str, .str, .str, .bool, .int .i64, .int .i64, .int .i64, .str, .slice])]) fun (((x10 : Int), (t11 : ByteArray), (t12 : ByteArray), (t13 : ByteArray), (t14 : ByteArray), (b15 : Bool), (x16 : Int), (x17 : Int), (x18 : Int), (t19 : ByteArray), ((a20 : Option Addr), (n21 : Nat), (c22 : Nat)), _), _) =>
  π.call (10 : Nat) #[(Go.Value.pointer (p0)), (Go.Value.int (IntKind.i64) ((5 : Int))), (Go.Value.agg #[(Go.Value.int (IntKind.i64) ((12 : Int))), (Go.Value.int (IntKind.i64) ((0 : Int))), (Go.Value.int (IntKind.i64) ((0 : Int))), (Go.Value.int (IntKind.i64) ((1 : Int))), (Go.Value.int (IntKind.i64) ((0 : Int))), (Go.Value.int (IntKind.i64) ((0 : Int))), (Go.Value.int (IntKind.i64) ((0 : Int))), (Go.Value.int (IntKind.i64) ((0 : Int))), (Go.Value.slice (none) ((0 : Nat)) ((0 : Nat))), (Go.Value.slice (none) ((0 : Nat)) ((0 : Nat))), (Go.Value.int (IntKind.i64) ((0 : Int))), (Go.Value.int (IntKind.i64) ((0 : Int))), (Go.Value.int (IntKind.i64) ((0 : Int))), (Go.Value.int (IntKind.i64) ((0 : Int))), (Go.Value.int (IntKind.i64) ((0 : Int))), (Go.Value.int (IntKind.i64) (x10)), (Go.Value.string (t11)), (Go.Value.string (t12)), (Go.Value.string (t13)), (Go.Value.string (t14)), (Go.Value.bool (b15)), (Go.Value.int (IntKind.i64) (x16)), (Go.Value.int (IntKind.i64) (x17)), (Go.Value.int (IntKind.i64) (x18)), (Go.Value.string (t19)), (Go.Value.slice (a20) (n21) (c22)), (Go.Value.int (IntKind.i64) ((0 : Int))), (Go.Value.int (IntKind.i64) ((0 : Int))), (Go.Value.string (ByteArray.mk #[])), (Go.Value.int (IntKind.i64) ((0 : Int)))])] (false, [(true, [.int .i64, .int .i64, .int .i64, .int .i64, .int .i64, .int .i64, .int .i64, .int .i64, .bool])]) fun (((x23 : Int), (x24 : Int), (x25 : Int), (x26 : Int), (x27 : Int), (x28 : Int), (x29 : Int), (x30 : Int), (b31 : Bool), _), _) =>
  π.call (10 : Nat) #[(Go.Value.pointer (p0)), (Go.Value.int (IntKind.i64) ((6 : Int))), (Go.Value.agg #[(Go.Value.int (IntKind.i64) ((14 : Int))), (Go.Value.int (IntKind.i64) ((0 : Int))), (Go.Value.int (IntKind.i64) ((0 : Int))), (Go.Value.int (IntKind.i64) ((0 : Int))), (Go.Value.int (IntKind.i64) ((0 : Int))), (Go.Value.int (IntKind.i64) ((0 : Int))), (Go.Value.int (IntKind.i64) ((0 : Int))), (Go.Value.int (IntKind.i64) ((0 : Int))), (Go.Value.slice (none) ((0 : Nat)) ((0 : Nat))), (Go.Value.slice (none) ((0 : Nat)) ((0 : Nat))), (Go.Value.int (IntKind.i64) ((0 : Int))), (Go.Value.int (IntKind.i64) ((0 : Int))), (Go.Value.int (IntKind.i64) ((0 : Int))), (Go.Value.int (IntKind.i64) ((0 : Int))), (Go.Value.int (IntKind.i64) ((0 : Int))), (Go.Value.int (IntKind.i64) ((0 : Int))), (Go.Value.string (ByteArray.mk #[])), (Go.Value.string (ByteArray.mk #[])), (Go.Value.string (ByteArray.mk #[])), (Go.Value.string (ByteArray.mk #[])), (Go.Value.bool (false)), (Go.Value.int (IntKind.i64) ((0 : Int))), (Go.Value.int (IntKind.i64) ((0 : Int))), (Go.Value.int (IntKind.i64) ((0 : Int))), (Go.Value.string (ByteArray.mk #[])), (Go.Value.slice (none) ((0 : Nat)) ((0 : Nat))), (Go.Value.int (IntKind.i64) ((1 : Int))), (Go.Value.int (IntKind.i64) ((0 : Int))), (Go.Value.string (ByteArray.mk #[])), (Go.Value.int (IntKind.i64) ((0 : Int)))])] (false, [(true, [.int .i64, .int .i64, .int .i64, .int .i64, .int .i64, .int .i64, .int .i64, .int .i64, .bool])]) fun (((x32 : Int), (x33 : Int), (x34 : Int), (x35 : Int), (x36 : Int), (x37 : Int), (x38 : Int), (x39 : Int), (b40 : Bool), _), _) =>
  π.call (10 : Nat) #[(Go.Value.pointer (p0)), (Go.Value.int (IntKind.i64) ((6 : Int))), (Go.Value.agg #[(Go.Value.int (IntKind.i64) ((12 : Int))), (Go.Value.int (IntKind.i64) ((0 : Int))), (Go.Value.int (IntKind.i64) ((0 : Int))), (Go.Value.int (IntKind.i64) ((2 : Int))), (Go.Value.int (IntKind.i64) ((0 : Int))), (Go.Value.int (IntKind.i64) ((0 : Int))), (Go.Value.int (IntKind.i64) ((0 : Int))), (Go.Value.int (IntKind.i64) ((0 : Int))), (Go.Value.slice (none) ((0 : Nat)) ((0 : Nat))), (Go.Value.slice (none) ((0 : Nat)) ((0 : Nat))), (Go.Value.int (IntKind.i64) ((0 : Int))), (Go.Value.int (IntKind.i64) ((0 : Int))), (Go.Value.int (IntKind.i64) ((0 : Int))), (Go.Value.int (IntKind.i64) ((0 : Int))), (Go.Value.int (IntKind.i64) ((0 : Int))), (Go.Value.int (IntKind.i64) ((2 : Int))), (Go.Value.string (ByteArray.mk #[(116 : UInt8)])), (Go.Value.string (ByteArray.mk #[(105 : UInt8)])), (Go.Value.string (ByteArray.mk #[(98 : UInt8)])), (Go.Value.string (ByteArray.mk #[])), (Go.Value.bool (false)), (Go.Value.int (IntKind.i64) ((0 : Int))), (Go.Value.int (IntKind.i64) ((0 : Int))), (Go.Value.int (IntKind.i64) ((0 : Int))), (Go.Value.string (ByteArray.mk #[])), (Go.Value.slice (none) ((0 : Nat)) ((0 : Nat))), (Go.Value.int (IntKind.i64) ((0 : Int))), (Go.Value.int (IntKind.i64) ((0 : Int))), (Go.Value.string (ByteArray.mk #[])), (Go.Value.int (IntKind.i64) ((0 : Int)))])] (false, [(true, [.int .i64, .int .i64, .int .i64, .int .i64, .int .i64, .int .i64, .int .i64, .int .i64, .bool])]) fun (((x41 : Int), (x42 : Int), (x43 : Int), (x44 : Int), (x45 : Int), (x46 : Int), (x47 : Int), (x48 : Int), (b49 : Bool), _), _) =>
  π.call (10 : Nat) #[(Go.Value.pointer (p0)), (Go.Value.int (IntKind.i64) ((7 : Int))), (Go.Value.agg #[(Go.Value.int (IntKind.i64) ((14 : Int))), (Go.Value.int (IntKind.i64) ((0 : Int))), (Go.Value.int (IntKind.i64) ((0 : Int))), (Go.Value.int (IntKind.i64) ((0 : Int))), (Go.Value.int (IntKind.i64) ((0 : Int))), (Go.Value.int (IntKind.i64) ((0 : Int))), (Go.Value.int (IntKind.i64) ((0 : Int))), (Go.Value.int (IntKind.i64) ((0 : Int))), (Go.Value.slice (none) ((0 : Nat)) ((0 : Nat))), (Go.Value.slice (none) ((0 : Nat)) ((0 : Nat))), (Go.Value.int (IntKind.i64) ((0 : Int))), (Go.Value.int (IntKind.i64) ((0 : Int))), (Go.Value.int (IntKind.i64) ((0 : Int))), (Go.Value.int (IntKind.i64) ((0 : Int))), (Go.Value.int (IntKind.i64) ((0 : Int))), (Go.Value.int (IntKind.i64) ((0 : Int))), (Go.Value.string (ByteArray.mk #[])), (Go.Value.string (ByteArray.mk #[])), (Go.Value.string (ByteArray.mk #[])), (Go.Value.string (ByteArray.mk #[])), (Go.Value.bool (false)), (Go.Value.int (IntKind.i64) ((0 : Int))), (Go.Value.int (IntKind.i64) ((0 : Int))), (Go.Value.int (IntKind.i64) ((0 : Int))), (Go.Value.string (ByteArray.mk #[])), (Go.Value.slice (none) ((0 : Nat)) ((0 : Nat))), (Go.Value.int (IntKind.i64) ((2 : Int))), (Go.Value.int (IntKind.i64) ((0 : Int))), (Go.Value.string (ByteArray.mk #[])), (Go.Value.int (IntKind.i64) ((0 : Int)))])] (false, [(true, [.int .i64, .int .i64, .int .i64, .int .i64, .int .i64, .int .i64, .int .i64, .int .i64, .bool])]) fun (((x50 : Int), (x51 : Int), (x52 : Int), (x53 : Int), (x54 : Int), (x55 : Int), (x56 : Int), (x57 : Int), (b58 : Bool), _), _) =>
  π.call (10 : Nat) #[(Go.Value.pointer (p0)), (Go.Value.int (IntKind.i64) ((28 : Int))), (Go.Value.agg #[(Go.Value.int (IntKind.i64) ((14 : Int))), (Go.Value.int (IntKind.i64) ((0 : Int))), (Go.Value.int (IntKind.i64) ((0 : Int))), (Go.Value.int (IntKind.i64) ((0 : Int))), (Go.Value.int (IntKind.i64) ((0 : Int))), (Go.Value.int (IntKind.i64) ((0 : Int))), (Go.Value.int (IntKind.i64) ((0 : Int))), (Go.Value.int (IntKind.i64) ((0 : Int))), (Go.Value.slice (none) ((0 : Nat)) ((0 : Nat))), (Go.Value.slice (none) ((0 : Nat)) ((0 : Nat))), (Go.Value.int (IntKind.i64) ((0 : Int))), (Go.Value.int (IntKind.i64) ((0 : Int))), (Go.Value.int (IntKind.i64) ((0 : Int))), (Go.Value.int (IntKind.i64) ((0 : Int))), (Go.Value.int (IntKind.i64) ((0 : Int))), (Go.Value.int (IntKind.i64) ((0 : Int))), (Go.Value.string (ByteArray.mk #[])), (Go.Value.string (ByteArray.mk #[])), (Go.Value.string (ByteArray.mk #[])), (Go.Value.string (ByteArray.mk #[])), (Go.Value.bool (false)), (Go.Value.int (IntKind.i64) ((0 : Int))), (Go.Value.int (IntKind.i64) ((0 : Int))), (Go.Value.int (IntKind.i64) ((0 : Int))), (Go.Value.string (ByteArray.mk #[])), (Go.Value.slice (none) ((0 : Nat)) ((0 : Nat))), (Go.Value.int (IntKind.i64) ((2 : Int))), (Go.Value.int (IntKind.i64) ((0 : Int))), (Go.Value.string (ByteArray.mk #[])), (Go.Value.int (IntKind.i64) ((0 : Int)))])] (false, [(true, [.int .i64, .int .i64, .int .i64, .int .i64, .int .i64, .int .i64, .int .i64, .int .i64, .bool])]) fun (((x59 : Int), (x60 : Int), (x61 : Int), (x62 : Int), (x63 : Int), (x64 : Int), (x65 : Int), (x66 : Int), (b67 : Bool), _), _) =>
  π.call (10 : Nat) #[(Go.Value.pointer (p0)), (Go.Value.int (IntKind.i64) ((29 : Int))), (Go.Value.agg #[(Go.Value.int (IntKind.i64) ((14 : Int))), (Go.Value.int (IntKind.i64) ((0 : Int))), (Go.Value.int (IntKind.i64) ((0 : Int))), (Go.Value.int (IntKind.i64) ((0 : Int))), (Go.Value.int (IntKind.i64) ((0 : Int))), (Go.Value.int (IntKind.i64) ((0 : Int))), (Go.Value.int (IntKind.i64) ((0 : Int))), (Go.Value.int (IntKind.i64) ((0 : Int))), (Go.Value.slice (none) ((0 : Nat)) ((0 : Nat))), (Go.Value.slice (none) ((0 : Nat)) ((0 : Nat))), (Go.Value.int (IntKind.i64) ((0 : Int))), (Go.Value.int (IntKind.i64) ((0 : Int))), (Go.Value.int (IntKind.i64) ((0 : Int))), (Go.Value.int (IntKind.i64) ((0 : Int))), (Go.Value.int (IntKind.i64) ((0 : Int))), (Go.Value.int (IntKind.i64) ((0 : Int))), (Go.Value.string (ByteArray.mk #[])), (Go.Value.string (ByteArray.mk #[])), (Go.Value.string (ByteArray.mk #[])), (Go.Value.string (ByteArray.mk #[])), (Go.Value.bool (false)), (Go.Value.int (IntKind.i64) ((0 : Int))), (Go.Value.int (IntKind.i64) ((0 : Int))), (Go.Value.int (IntKind.i64) ((0 : Int))), (Go.Value.string (ByteArray.mk #[])), (Go.Value.slice (none) ((0 : Nat)) ((0 : Nat))), (Go.Value.int (IntKind.i64) ((2 : Int))), (Go.Value.int (IntKind.i64) ((0 : Int))), (Go.Value.string (ByteArray.mk #[])), (Go.Value.int (IntKind.i64) ((0 : Int)))])] (false, [(true, [.int .i64, .int .i64, .int .i64, .int .i64, .int .i64, .int .i64, .int .i64, .int .i64, .bool])]) fun (((x68 : Int), (x69 : Int), (x70 : Int), (x71 : Int), (x72 : Int), (x73 : Int), (x74 : Int), (x75 : Int), (b76 : Bool), _), _) =>
  π.ite (x1 == (0 : Int) && (x2 == (0 : Int) && (x3 == (0 : Int) && (x4 == (0 : Int) && (x5 == (0 : Int) && true)) && (x6 == (0 : Int) && (x7 == (25 : Int) && (x8 == (0 : Int) && (b9 == true && true))))))) (
    π.ite (x23 == (0 : Int) && (x24 == (0 : Int) && (x25 == (0 : Int) && (x26 == (0 : Int) && (x27 == (0 : Int) && true)) && (x28 == (0 : Int) && (x29 == (0 : Int) && (x30 == (1 : Int) && (b31 == true && true))))))) (
      π.ite (x32 == (0 : Int) && (x33 == (0 : Int) && (x34 == (0 : Int) && (x35 == (0 : Int) && (x36 == (0 : Int) && true)) && (x37 == (1 : Int) && (x38 == (0 : Int) && (x39 == (0 : Int) && (b40 == true && true))))))) (
        π.ite (x50 == (161 : Int)) (
          π.ite (x59 == (161 : Int)) (
            π.ite (x68 == (0 : Int) && (x69 == (0 : Int) && (x70 == (0 : Int) && (x71 == (0 : Int) && (x72 == (0 : Int) && true)) && (x73 == (2 : Int) && (x74 == (0 : Int) && (x75 == (0 : Int) && (b76 == true && true))))))) (
              π.ret (Go.Value.bool (true))
            ) (
              π.ret (Go.Value.bool (false))
            )
          ) (
            π.ret (Go.Value.bool (false))
          )
        ) (
          π.ret (Go.Value.bool (false))
        )
      ) (
        π.ret (Go.Value.bool (false))
      )
    ) (
      π.ret (Go.Value.bool (false))
    )
  ) (
    π.ret (Go.Value.bool (false))
  )
def ann_bawake : Ann := { draws := [], join := [], loop := [] }
def la_bawake : LA := { ptr := [(2, 2, 0), (3, 3, 0), (4, 4, 0), (5, 5, 0), (6, 6, 0), (7, 7, 0), (49, 5, 0), (54, 6, 0)], ty := [(2, 47), (3, 47), (4, 47), (5, 47), (6, 47), (7, 47)] }
set_option maxRecDepth 100000 in
theorem eq_bawake {W : Type} (π : Prims W) : bodyL π Tryz.prog la_bawake ann_bawake (mkFr (maskA [] [] 0) 71) Tryz.f6 (bodyOf Tryz.f6) (mkFr (List.map some []) 71) = vc_bawake π := by kernel_rfl
theorem ok_bawake (R : Value → PH → Prop) (s : PH) (h : vc_bawake (RP Tryz.prog R) s) : DCalls Tryz.prog 6 (List.map AV.val []).toArray s R :=
  calls_vcL (c := bodyOf Tryz.f6) (ann := ann_bawake) la_bawake (by kernel_rfl) Tryz.func6 rfl (by kernel_rfl) [] [] (by rw [Tryz.ntmps6]; exact Nat.le_of_ble_eq_true rfl) (by kernel_rfl) (by rw [show Tryz.f6.ntmps = 71 from Tryz.ntmps6, eq_bawake]; exact h)
end Go.Proofs.YthepfbcgpbkbdaaGreat
end
section
set_option linter.unusedVariables false
set_option linter.unusedSimpArgs false
set_option maxHeartbeats 4000000
set_option maxRecDepth 100000
namespace Go.Proofs.YthepfbcgpbkbdaaGreat
open Fw Go
attribute [-simp] Fw.W.ld_iff Fw.W.st_iff
theorem set_sameB {α : Type} {l : List α} {i : Nat} {x : α} (h : l[i]? = some x) : l.set i x = l := by
  apply List.ext_getElem?
  intro n
  by_cases e : i = n
  · subst e; rw [List.getElem?_set_self (List.getElem?_eq_some_iff.1 h).1, h]
  · rw [List.getElem?_set_ne e]
theorem c_CloneL {s : PH} {t : Tri} {xs : List Lse} (h : Sl lseE s t xs) : DCalls Tryz.prog 69 #[.slice t.1 t.2.1 t.2.2] s fun y s' => ∃ u : Tri, y = u.v ∧ rowE lseE s' 86 u.1 u.2.1 u.2.2 xs ∧ Fw.Mod [] s s' ∧ ∀ g ∈ Fw.blk u.1, s g = none := by
  obtain ⟨a, an, ac⟩ := t
  refine ok_CloneL a an ac _ s ?_
  unfold vc_CloneL
  have hlen := h.len
  have hfew := h.few
  dsimp only at hlen
  simp only [RP_ite, W.br_iff]
  refine ⟨fun hnone => ?_, fun hsome => ?_⟩
  · cases a with
    | some ad => cases hnone
    | none =>
      have : xs = [] := by
        cases xs with
        | nil => rfl
        | cons x xs => obtain ⟨ad, h1, _⟩ := h.el.at_enc (i := 0) rfl; cases h1
      subst this
      exact ⟨noTri, rfl, rowE.nil, Mod.refl _ _, by simp [Fw.blk]⟩
  · simp only [RP_nw]
    refine row_copy (E := lseE) (k := an) h.el.src_enc rfl hlen.symm (by omega) (by omega) rfl ?_
    intro a' c' s' hrow hm hf
    exact ⟨(a', an, c'), rfl, hrow, hm, hf⟩
theorem c_CloneJ {s : PH} {t : Tri} {xs : List JbP} (h : Sl jobE s t xs) : DCalls Tryz.prog 70 #[.slice t.1 t.2.1 t.2.2] s fun y s' => ∃ u : Tri, y = u.v ∧ rowE jobE s' 58 u.1 u.2.1 u.2.2 xs ∧ Fw.Mod [] s s' ∧ ∀ g ∈ Fw.blk u.1, s g = none := by
  obtain ⟨a, an, ac⟩ := t
  refine ok_CloneJ a an ac _ s ?_
  unfold vc_CloneJ
  have hlen := h.len
  have hfew := h.few
  dsimp only at hlen
  simp only [RP_ite, W.br_iff]
  refine ⟨fun hnone => ?_, fun hsome => ?_⟩
  · cases a with
    | some ad => cases hnone
    | none =>
      have : xs = [] := by
        cases xs with
        | nil => rfl
        | cons x xs => obtain ⟨ad, h1, _⟩ := h.el.at_enc (i := 0) rfl; cases h1
      subst this
      exact ⟨noTri, rfl, rowE.nil, Mod.refl _ _, by simp [Fw.blk]⟩
  · simp only [RP_nw]
    refine row_copy (E := jobE) (k := an) h.el.src_enc rfl hlen.symm (by omega) (by omega) rfl ?_
    intro a' c' s' hrow hm hf
    exact ⟨(a', an, c'), rfl, hrow, hm, hf⟩
theorem c_bTables {s : PH} {t : Tri} {S : Sch} {ps : List TabP} (h : SchIs s t S ps) :
    DCalls Tryz.prog 68 #[schV S t] s fun y s' => ∃ t' ps', y = schV S t' ∧ Has s' t' ps' ∧ S.tabs = ps'.map (·.T) ∧ Fw.Mod [] s s' := by
  obtain ⟨ta, tn, tc⟩ := t
  refine ok_bTables S.version S.last ta tn tc _ s ?_
  unfold vc_bTables
  have htn : tn = ps.length := h.el.len
  have hfew := h.el.few
  have hpl : S.tabs.length = ps.length := by rw [h.eq]; simp
  simp only [RP_join, RP_ite, RP_call, RP_callQ, RP_ret, RP_nw, RP_app, RP_st, RP_ld, RP_unSome, RP_guard, RP_loop, W.unSome_some]
  refine ⟨fun z s' => ∃ (k a2 a3 : Nat) (a1 : Option Addr) (pc : List TabP), z = ((S.version, S.last, (ta, tn, tc), ()), (0, 0, (none, 0, 0), ()), ((a1, a2, a3), ()), ((ta, tn, tc), ()), ((tn : Int), ()), ((k : Int), ()), ()) ∧ k ≤ tn ∧ Has s' (a1, a2, a3) pc ∧ (S.tabs.take k) = pc.map (·.T) ∧ Fw.Mod [] s s' ∧ ∀ g ∈ Lof (a1, a2, a3) pc, s g = none,
    fun z _ => tn - z.2.2.2.2.2.1.1.toNat, ⟨0, 0, 0, none, [], rfl, Nat.zero_le _, Has.nil _, rfl, Mod.refl _ _, by simp [Lof, Fw.blk]⟩, ?_⟩
  rintro _ s1 ⟨k, a2, a3, a1, pc, rfl, hk, hH, he, m1, hf⟩
  simp only [W.br_iff, decide_eq_true_eq, decide_eq_false_iff_not]
  refine ⟨fun hlt => ?_, fun hge => ?_⟩
  · have hlt : k < tn := by omega
    obtain ⟨p, hp⟩ : ∃ p, ps[k]? = some p := ⟨_, List.getElem?_eq_getElem (by omega)⟩
    have hT : S.tabs[k]? = some p.T := by rw [h.eq, List.getElem?_map, hp]; (first | done | rfl)
    have hS1 := h.mono m1.le
    obtain ⟨ad, had, hh⟩ := hS1.el.el.at_enc hp
    dsimp only at had
    subst had
    refine ⟨by omega, ?_⟩
    simp only [W.unSome_some, Int.toNat_natCast]
    refine ld_has_z hh (y := (p.T.id, p.T.name, p.c, p.x, p.k, ())) rfl ?_
    have hP := hS1.all p (get_mem hp)
    refine W.call_of (c_CloneC hP.c) ?_
    rintro _ s2 ⟨uc, rfl, hc, m2, fc⟩
    refine ⟨((uc, ()), ()), rfl, ?_⟩
    refine W.call_of (c_CloneX (hP.x.mono m2.le)) ?_
    rintro _ s3 ⟨ux, rfl, hx, m3, fx⟩
    refine ⟨((ux, ()), ()), rfl, ?_⟩
    refine W.call_of (c_CloneF (hP.k.mono (m2.trans m3).le)) ?_
    rintro _ s4 ⟨uk, rfl, hkk, m4, fk⟩
    refine ⟨((uk, ()), ()), rfl, ?_⟩
    have hq : Own s4 ⟨p.T, uc, ux, uk⟩ := ⟨(hc.mod m3 (by simp)).mod m4 (by simp), hx.mod m4 (by simp), hkk⟩
    have m24 := (m2.trans m3).trans m4
    have fq : ∀ g ∈ TabP.L ⟨p.T, uc, ux, uk⟩, s1 g = none := by
      intro g hg
      simp only [TabP.L, List.mem_append] at hg
      rcases hg with hg | hg | hg
      · exact fc g hg
      · exact m2.none (fx g hg) (by simp)
      · exact (m2.trans m3).none (fk g hg) (by simp)
    have hH4 := hH.mod m24 (by simp)
    have hpcl : pc.length = k := by
      have := congrArg List.length he
      rw [List.length_take, List.length_map] at this; omega
    refine Has.push hH4 hq hq.nodup (fun g hg hg2 => hH.known g hg2 (fq g hg)) (by omega) ?_
    intro a' c' s5 hH5 hst
    have hal := hH.row.len
    dsimp only at hal
    rw [wrap_succ (k := k) (by omega)]
    have mm : Fw.Mod [] s s5 := (m1.trans m24).fresh hst.mod fun x hx => by
      rcases List.mem_append.1 hx with hx | hx
      · exact .inr (hf x hx)
      · exact .inr (m1.none (fq x hx) (by simp))
    refine ⟨⟨k + 1, a2 + 1, c', a', pc ++ [⟨p.T, uc, ux, uk⟩], rfl, hlt, hH5, ?_, mm, ?_⟩, by simp only [Int.toNat_natCast]; omega⟩
    · rw [List.take_add_one, hT, he, List.map_append]; (first | done | rfl)
    · intro g hg
      rcases hst.new g hg with h1 | h1
      · rcases List.mem_append.1 h1 with h1 | h1
        · exact hf g h1
        · exact m1.none (fq g h1) (by simp)
      · exact (m1.trans m24).none h1 (by simp)
  · rw [List.take_of_length_le (by omega)] at he
    exact ⟨(a1, a2, a3), pc, rfl, hH, he, m1⟩
/-- a copy of a plan -/
structure Cop (s s' : PH) (P : Pl) (t la ja : Tri) : Prop where
  ex : ∃ ps qs, Has s' t ps ∧ P.S.tabs = ps.map (·.T) ∧ P.J = qs.map (·.j) ∧ rowE jobE s' 58 ja.1 ja.2.1 ja.2.2 qs ∧ ∀ q ∈ qs, rowE colE s' 97 q.u.1 q.u.2.1 q.u.2.2 q.j.D.cols ∧ q.j.D.cols.length ≤ 1048576
  lrow : rowE lseE s' 86 la.1 la.2.1 la.2.2 P.L
  mod : Fw.Mod [] s s'
abbrev planV (P : Pl) (t la ja : Tri) : Value := .agg #[.int .i64 P.S.version, .int .i64 P.S.last, .slice t.1 t.2.1 t.2.2, .slice la.1 la.2.1 la.2.2, .slice ja.1 ja.2.1 ja.2.2]
section
variable {s : PH} {b : Nat} {P : Pl} {t la ja : Tri} {ps : List TabP} {qs : List JbP}
theorem c_bCopied (h : Brd s b P t la ja ps qs) (hn : P.J.length ≤ 1000000) (hnl : P.L.length ≤ 1000000) :
    DCalls Tryz.prog 38 #[planV P t la ja] s fun y s' => ∃ t' la' ja', y = planV P t' la' ja' ∧ Cop s s' P t' la' ja' := by
  refine ok_bCopied P.S.version P.S.last t.1 t.2.1 t.2.2 la.1 la.2.1 la.2.2 ja.1 ja.2.1 ja.2.2 _ s ?_
  unfold vc_bCopied
  have hjn : P.J.length = qs.length := by rw [h.jeq, List.length_map]
  simp only [RP_ite, RP_call, RP_ret, RP_st, RP_ld, RP_unSome, RP_guard, RP_loop]
  refine W.call_of (c_bTables h.is) ?_
  rintro _ s1 ⟨t', ps', rfl, hH, he, m1⟩
  refine ⟨((P.S.version, P.S.last, t', ()), ()), rfl, ?_⟩
  have h1 := h.mod m1
  refine W.call_of (c_CloneL (t := la) (Sl.of_row h1.lrow (by omega))) ?_
  rintro _ s2 ⟨la', rfl, hl2, m2, fl⟩
  refine ⟨((la', ()), ()), rfl, ?_⟩
  have h2 := h1.mod m2
  refine W.call_of (c_CloneJ (t := ja) (Sl.of_row h2.jrow (by omega))) ?_
  rintro _ s3 ⟨⟨ja1, jn, jc⟩, rfl, hj3, m3, fj⟩
  refine ⟨(((ja1, jn, jc), ()), ()), rfl, ?_⟩
  have h3 := h2.mod m3
  have m13 := (m1.trans m2).trans m3
  have hH3 := (hH.mod m2 (by simp)).mod m3 (by simp)
  have hl3 := hl2.mod m3 (by simp)
  have hjl := hj3.len
  dsimp only at hj3 hjl fj
  have fj0 : ∀ g ∈ Fw.blk ja1, s g = none := fun g hg => (m1.trans m2).none (fj g hg) (by simp)
  refine ⟨fun z s' => ∃ (i : Nat) (qs' : List JbP), z = ((P.S.version, P.S.last, t', la', (ja1, jn, jc), ()), (0, 0, (none, 0, 0), (none, 0, 0), (none, 0, 0), ()), ((jn : Int), ()), ((i : Int), ()), ()) ∧ i ≤ jn ∧ Has s' t' ps' ∧ rowE lseE s' 86 la'.1 la'.2.1 la'.2.2 P.L ∧ rowE jobE s' 58 ja1 jn jc qs' ∧ P.J = qs'.map (·.j) ∧
    (∀ q ∈ qs', rowE colE s' 97 q.u.1 q.u.2.1 q.u.2.2 q.j.D.cols ∧ q.j.D.cols.length ≤ 1048576) ∧ Fw.Mod [] s s', fun z _ => jn - z.2.2.2.1.1.toNat, ⟨0, qs, rfl, Nat.zero_le _, hH3, hl3, hj3, h.jeq, h3.cols, m13⟩, ?_⟩
  rintro _ s4 ⟨i, qs', rfl, hi, hH4, hl4, hj4, hje, hc4, m4⟩
  refine (W.br_iff _ _ _ _).2 ⟨fun hlt => ?_, fun hge => ?_⟩
  · have hlt : (i : Int) < (jn : Int) := of_decide_eq_true hlt
    have hjl4 := hj4.len
    obtain ⟨q, hq⟩ : ∃ q, qs'[i]? = some q := ⟨_, List.getElem?_eq_getElem (by omega)⟩
    obtain ⟨g, rfl, hh⟩ := hj4.at hq
    dsimp only
    refine (W.guard_iff _ _ _).2 ⟨by omega, ?_⟩
    simp only [W.unSome_some, Int.toNat_natCast, add_mk, Nat.zero_add]
    have hh' : s4.has ⟨g, i * 22, none⟩ (jobE.f q) := hh
    refine ld_hasm (o := i * 22) (j := 15) hh' (cs := [.slice]) (y := (q.u, ())) rfl ?_
    have hcq := hc4 q (List.mem_of_getElem? hq)
    refine W.call_of (c_CloneC (Sl.of_row (t := q.u) hcq.1 (by have := hcq.2; omega))) ?_
    rintro _ s5 ⟨u', rfl, hu5, m5, fu⟩
    refine ⟨((u', ()), ()), rfl, ?_⟩
    refine (W.guard_iff _ _ _).2 ⟨by omega, ?_⟩
    simp only [W.unSome_some, Int.toNat_natCast, add_mk, Nat.zero_add]
    refine rowE.st (E := jobE) (hj4.mod m5 (by simp)) hq (x' := ⟨q.j, u'⟩) (j := 15) (vs := [.slice u'.1 u'.2.1 u'.2.2]) rfl (Nat.le_of_ble_eq_true rfl) (by simp) (one1 rfl) rfl fun s6 hj6 m6 => ?_
    have gJ : Ty s5 g 58 := row_ty (hj4.mod m5 (by simp)) g (by simp [Fw.blk])
    have hgf : s g = none := fj0 g (by simp [Fw.blk])
    rw [wrap_succ (k := i) (by omega)]
    refine ⟨⟨i + 1, qs'.set i ⟨q.j, u'⟩, rfl, by omega, ?_, ?_, hj6, ?_, ?_, (m4.trans m5).fresh m6 (by simp [hgf])⟩, by simp only [Int.toNat_natCast]; omega⟩
    · have hH5 := hH4.mod m5 (by simp)
      refine hH5.mod m6 fun x hx hx2 => ?_
      simp at hx2; subst hx2
      rcases hH5.ty x hx with h1 | h1 | h1 | h1 <;> exact (h1.ne gJ (by decide)) rfl
    · have hl5 := hl4.mod m5 (by simp)
      refine hl5.mod m6 fun x hx hx2 => ?_
      simp at hx2; subst hx2
      exact ((row_ty hl5 x hx).ne gJ (by decide)) rfl
    · rw [List.map_set, ← hje]
      have : P.J[i]? = some q.j := by rw [hje, List.getElem?_map, hq]; (first | done | rfl)
      exact (set_sameB this).symm
    · intro q2 hq2
      have keep : ∀ {u : Tri} {l : List Col}, rowE colE s5 97 u.1 u.2.1 u.2.2 l → rowE colE s6 97 u.1 u.2.1 u.2.2 l := fun {u l} hr => hr.mod m6 fun x hx hx2 => by
        simp at hx2; subst hx2
        exact ((row_ty hr x hx).ne gJ (by decide)) rfl
      rcases List.mem_or_eq_of_mem_set hq2 with hq2 | rfl
      · exact ⟨keep ((hc4 q2 hq2).1.mod m5 (by simp)), (hc4 q2 hq2).2⟩
      · exact ⟨keep hu5, hcq.2⟩
  · exact ⟨t', la', (ja1, jn, jc), rfl, ⟨ps', qs', hH4, he, hje, hj4, hc4⟩, hl4, m4⟩
theorem c_Save (h : Brd s b P t la ja ps qs) (hn : P.J.length ≤ 1000000) (hnl : P.L.length ≤ 1000000) :
    DCalls Tryz.prog 13 #[cp b] s fun y s' => ∃ t' la' ja', y = planV P t' la' ja' ∧ Cop s s' P t' la' ja' := by
  refine ok_Save b _ s ?_
  unfold vc_Save
  simp only [RP_ite, RP_call, RP_ret, RP_ld, RP_unSome]
  refine (W.br_iff _ _ _ _).2 ⟨fun e => (by cases e), fun _ => ?_⟩
  simp only [W.unSome_some, add_mk, Nat.zero_add]
  rw [W.ld_at h.blk]
  refine ⟨(P.S.version, P.S.last, t, la, ja, ()), rfl, ?_⟩
  refine W.call_of (c_bCopied h hn hnl) ?_
  rintro _ s1 ⟨t', la', ja', rfl, hc⟩
  refine ⟨((P.S.version, P.S.last, t', la', ja', ()), ()), rfl, ?_⟩
  exact ⟨t', la', ja', rfl, hc⟩
theorem c_bSchema (h : Brd s b P t la ja ps qs) (hn : P.J.length ≤ 1000000) (hnl : P.L.length ≤ 1000000) :
    DCalls Tryz.prog 9 #[cp b] s fun y s' => ∃ t', y = schV P.S t' ∧ Fw.Mod [] s s' := by
  refine ok_bSchema b _ s ?_
  unfold vc_bSchema
  simp only [RP_call, RP_ret]
  refine W.call_of (c_Save h hn hnl) ?_
  rintro _ s1 ⟨t', la', ja', rfl, hc⟩
  refine ⟨((P.S.version, P.S.last, t', la', ja', ()), ()), rfl, ?_⟩
  exact ⟨t', rfl, hc.mod⟩
abbrev jobV (j : Jb) (u : Tri) : Value := .agg #[.int .i64 j.id, .int .i64 j.call, .int .i64 j.y1, .int .i64 j.y2, .int .i64 j.y3, .int .i64 j.D.kind, .string j.D.table, .string j.D.name, .string j.D.column, .string j.D.parent, .bool j.D.unique, .int .i64 j.D.type,
    .int .i64 j.D.dflt.kind, .int .i64 j.D.dflt.n, .string j.D.dflt.s, .slice u.1 u.2.1 u.2.2, .int .i64 j.phase, .bool j.back, .bool j.drain, .string j.mark, .int .i64 j.fin, .int .i64 j.why]
abbrev noJb : Jb := ⟨0, 0, 0, 0, 0, ⟨0, ⟨#[]⟩, ⟨#[]⟩, ⟨#[]⟩, ⟨#[]⟩, false, 0, ⟨0, 0, ⟨#[]⟩⟩, []⟩, 0, false, false, ⟨#[]⟩, 0, 0⟩
def handV (P : Pl) (u : Tri) : Value := match P.hand with
  | none => .tuple #[jobV noJb noTri, .agg #[.int .i64 0, .int .i64 0], .bool false]
  | some (_, j) => .tuple #[jobV j u, .agg #[.int .i64 (moveOf j).1, .int .i64 (moveOf j).2], .bool true]
abbrev jobD (j : Jb) (u : Tri) : Den [.int .i64, .int .i64, .int .i64, .int .i64, .int .i64, .int .i64, .str, .str, .str, .str, .bool, .int .i64, .int .i64, .int .i64, .str, .slice, .int .i64, .bool, .bool, .str, .int .i64, .int .i64] :=
  (j.id, j.call, j.y1, j.y2, j.y3, j.D.kind, j.D.table, j.D.name, j.D.column, j.D.parent, j.D.unique, j.D.type, j.D.dflt.kind, j.D.dflt.n, j.D.dflt.s, u, j.phase, j.back, j.drain, j.mark, j.fin, j.why, ())
end
end Go.Proofs.YthepfbcgpbkbdaaGreat
end
section
set_option linter.unusedVariables false
set_option linter.unusedSimpArgs false
set_option maxHeartbeats 400000
set_option maxRecDepth 100000
namespace Go.Proofs.YthepfbcgpbkbdaaGreat
open Fw Go
attribute [-simp] Fw.W.ld_iff Fw.W.st_iff
theorem setL_full {l : List Value} {cc : Array Value} (h : l.length = cc.size) : setL cc 0 l = l.toArray := by
  apply Array.toList_inj.1
  rw [setL_toList _ _ _ (by omega)]
  simp [h]
section
variable {s : PH} {b : Nat} {P : Pl} {t la ja : Tri} {ps : List TabP} {qs : List JbP}
theorem c_Hand (h : Brd s b P t la ja ps qs) (hok : PlOk P) (hn : P.J.length ≤ 1000000) :
    DCalls Tryz.prog 15 #[cp b] s fun y s' => ∃ u, y = handV P u ∧ Fw.Mod [] s s' := by
  refine ok_Hand b _ s ?_
  unfold vc_Hand
  obtain ⟨R, hR⟩ : ∃ R : Value → PH → Prop, (fun y s' => ∃ u, y = handV P u ∧ Fw.Mod [] s s') = R := ⟨_, rfl⟩
  rw [hR]
  unfold handV at hR
  simp only [RP_ite, RP_call, RP_callQ, RP_ret, RP_ld, RP_st, RP_nw, RP_unSome, RP_join]
  have hch := c_hand h hn
  obtain ⟨pz, hpz⟩ : ∃ pz, handP ja P = pz := ⟨_, rfl⟩
  rw [hpz] at hch
  unfold handP at hpz
  refine W.join_gen (fun z s' => s' = s ∧ ∃ i j, P.hand = some (i, j)) ?_ ?_
  rotate_left
  · intro J hJ
    refine (W.br_iff _ _ _ _).2 ⟨fun e => (by cases e), fun _ => ?_⟩
    refine callq ((pz, ()), ()) hch rfl ?_
    cases hh : P.hand with
    | none =>
      rw [hh] at hR hpz
      subst hpz
      refine (W.br_iff _ _ _ _).2 ⟨fun _ => ?_, fun e => (by cases e)⟩
      rw [← hR]; exact ⟨noTri, rfl, Mod.refl _ _⟩
    | some p =>
      obtain ⟨i, j⟩ := p
      obtain ⟨hj, hf, _⟩ := hand_some hh
      obtain ⟨g, q, hg, hq, rfl, hhas⟩ := h.at hj
      rw [hh, hg] at hpz
      subst hpz
      refine (W.br_iff _ _ _ _).2 ⟨fun e => (by cases e), fun _ => hJ _ _ ⟨rfl, i, q.j, hh⟩⟩
  rintro z _ ⟨rfl, i, j, hh⟩
  rename_i s
  refine callq ((pz, ()), ()) hch rfl ?_
  rw [hh] at hR hpz
  obtain ⟨hj, hf, _⟩ := hand_some hh
  have hph := hok.ph j (List.mem_of_getElem? hj) hf
  obtain ⟨g, q, hg, hq, rfl, hhas⟩ := h.at hj
  dsimp only at hR
  rw [hg] at hpz
  simp only [Option.map_some, add_mk, Nat.zero_add] at hpz
  subst hpz
  simp only [W.unSome_some]
  refine ld_has_z hhas (y := jobD q.j q.u) rfl ?_
  refine W.nw_of fun r s1 hr m1 k1 => ?_
  have hone : ∀ w ∈ jobE.f q, w.oneCell' = true := jobE.one q
  refine st_blk (c' := (jobE.f q).toArray) k1 (Nat.le_of_ble_eq_true rfl) hone (setL_full rfl) fun s2 e2 => ?_
  have m2 : Fw.Mod [] s s2 := by rw [e2]; exact m1.updLater (.inr hr)
  have k2 : s2 r = some (.cells (jobE.f q).toArray 58 (0, 0)) := by rw [e2]; exact PH.upd_same _ _ _
  clear e2
  simp only [add_mk, Nat.zero_add]
  rw [W.ld_at k2]
  refine ⟨(q.u, ()), rfl, ?_⟩
  have hcq := (h.mod m2).cols q (List.mem_of_getElem? hq)
  refine W.call_of (c_CloneC (Sl.of_row (t := q.u) hcq.1 (by have := hcq.2; omega))) ?_
  rintro _ s3 ⟨u', rfl, hu3, m3, fu⟩
  refine ⟨((u', ()), ()), rfl, ?_⟩
  have k3 := m3.at k2 (by simp)
  simp only [add_mk, Nat.zero_add]
  refine st_blk (c' := (jobE.f ⟨q.j, u'⟩).toArray) k3 (Nat.le_of_ble_eq_true rfl) (one1 rfl) rfl fun s4 e4 => ?_
  have m4 : Fw.Mod [] s s4 := by rw [e4]; exact (m2.trans m3).updLater (.inr hr)
  have k4 : s4 r = some (.cells (jobE.f ⟨q.j, u'⟩).toArray 58 (0, 0)) := by rw [e4]; exact PH.upd_same _ _ _
  clear e4
  have hh4 : s4.has ⟨r, 0, none⟩ (jobE.f ⟨q.j, u'⟩) := has_block k4
  refine ld_has_z hh4 (y := jobD q.j u') rfl ?_
  refine W.callQ_of (((moveOf q.j).1, (moveOf q.j).2, ()), ()) (c_move (q := ⟨q.j, u'⟩) hh4 hph) rfl ?_
  rw [← hR]
  exact ⟨u', rfl, m4⟩
end
end Go.Proofs.YthepfbcgpbkbdaaGreat
end
section
set_option linter.unusedVariables false
set_option linter.unusedSimpArgs false
set_option maxHeartbeats 2000000
set_option maxRecDepth 100000
namespace Go.Proofs.YthepfbcgpbkbdaaGreat
open Fw Go
open Go.ChangeShapes Go.WideShapes Go.ChangeAt Go.RowKit Go.Deep
attribute [-simp] Fw.W.ld_iff Fw.W.st_iff
def rdTri : Rd Tri where
  sz := 1
  is _ cs t := cs = [.slice t.1 t.2.1 t.2.2]
  len h := by rw [h]; (first | done | rfl)
  mono _ h := h
theorem opens_tri {P : Program} {t e : TypeId} (ht : P.underlying t = some (.slice e)) (hc : P.cellsOf t = 1) : Opens P t rdTri := by
  refine ⟨hc, ?_⟩
  intro H enc W fuel cs x h hw
  rcases open_slice ht h with ⟨rfl, _⟩ | ⟨a, len, cap, m, n, D, Pl, rfl, _⟩
  · exact ⟨(none, 0, 0), rfl⟩
  · exact ⟨(some a, len, cap), rfl⟩
def rdTid : Rd (Int × Int × Int × Unit) := Rd.pair (Rd.int .i64) (Rd.pair (Rd.int .i64) (Rd.pair (Rd.int .i64) Rd.unit))
theorem opTid : Opens Tryz.prog 29 rdTid := opens_struct (.cons rfl op3 (.cons rfl op3 (.cons rfl op3 (.nil _)))) Tryz.underlying29 (by kernel_rfl)
theorem opErr : Opens Tryz.prog 37 (Rd.int .i64) := opens_int Tryz.underlying37 (by kernel_rfl)
def rdCmd : Rd CmdP := (Rd.pair (Rd.int .i64) (Rd.pair rdTid (Rd.pair rdTid (Rd.pair (Rd.int .i64) (Rd.pair rdTri (Rd.pair rdTri (Rd.pair (Rd.int .i64) (Rd.pair (Rd.int .i64) (Rd.pair (Rd.int .i64) (Rd.pair (Rd.int .i64) (Rd.pair (Rd.int .i64) (Rd.pair rdDdl (Rd.pair (Rd.int .i64) (Rd.pair (Rd.int .i64) (Rd.pair Rd.str (Rd.pair (Rd.int .i64) Rd.unit)))))))))))))))).map
  fun (kind, (y1, y2, y3, _), (x1, x2, x3, _), ho, r, w, mi, un, ts, ver, call, D, job, phase, mark, why, _) => ⟨⟨kind, y1, y2, y3, ver, call, D, job, phase, mark, why⟩, x1, x2, x3, ho, r, w, mi, un, ts, noTri⟩
theorem opCmd : Opens Tryz.prog 39 rdCmd := opens_map _ (opens_struct (.cons rfl op3 (.cons rfl opTid (.cons rfl opTid (.cons rfl op3 (.cons rfl (opens_tri Tryz.underlying30 (by kernel_rfl)) (.cons rfl (opens_tri Tryz.underlying31 (by kernel_rfl))
  (.cons rfl op3 (.cons rfl op3 (.cons rfl op3 (.cons rfl op3 (.cons rfl op3 (.cons rfl op29 (.cons rfl op3 (.cons rfl op3 (.cons rfl op9 (.cons rfl opErr (.nil _))))))))))))))))) Tryz.underlying39 (by kernel_rfl))
structure OpB where
  at_ : Int
  k : CmdP
def rdOpB : Rd OpB := (Rd.pair (Rd.int .i64) (Rd.pair rdCmd Rd.unit)).map fun (a, k, _) => ⟨a, k⟩
theorem opOpB : Opens Tryz.prog 41 rdOpB := opens_map _ (opens_struct (.cons rfl op3 (.cons rfl opCmd (.nil _))) Tryz.underlying41 (by kernel_rfl))
abbrev CmdP.at (k : CmdP) (u : Tri) : CmdP := ⟨k.c, k.x1, k.x2, k.x3, k.ho, k.r, k.w, k.mi, k.un, k.ts, u⟩
abbrev opCells (o : OpB) (u : Tri) : List Value := [.int .i64 o.at_, .int .i64 o.k.c.kind, .int .i64 o.k.c.y1, .int .i64 o.k.c.y2, .int .i64 o.k.c.y3, .int .i64 o.k.x1, .int .i64 o.k.x2, .int .i64 o.k.x3, .int .i64 o.k.ho, .slice o.k.r.1 o.k.r.2.1 o.k.r.2.2, .slice o.k.w.1 o.k.w.2.1 o.k.w.2.2, .int .i64 o.k.mi, .int .i64 o.k.un, .int .i64 o.k.ts, .int .i64 o.k.c.ver, .int .i64 o.k.c.call,
  .int .i64 o.k.c.D.kind, .string o.k.c.D.table, .string o.k.c.D.name, .string o.k.c.D.column, .string o.k.c.D.parent, .bool o.k.c.D.unique, .int .i64 o.k.c.D.type, .int .i64 o.k.c.D.dflt.kind, .int .i64 o.k.c.D.dflt.n, .string o.k.c.D.dflt.s, .slice u.1 u.2.1 u.2.2, .int .i64 o.k.c.job, .int .i64 o.k.c.phase, .string o.k.c.mark, .int .i64 o.k.c.why]
theorem rdOpB_is {s : PH} {cs : List Value} {o : OpB} (h : rdOpB.is s cs o) : ∃ u : Tri, cs = opCells o u ∧ SlB colE s u o.k.c.D.cols ∧ o.at_ ≤ 9223372036854775807 := by
  obtain ⟨⟨a, k, _⟩, rfl, c1, c2, rfl, ⟨rfl, w1⟩, c3, c4, rfl, ⟨⟨kind, ⟨y1, y2, y3, _⟩, ⟨x1, x2, x3, _⟩, ho, r, w, mi, un, ts, ver, call, D, job, phase, mark, why, _⟩, rfl, d1, d2, rfl, ⟨rfl, _⟩, e1, e2, rfl, ⟨t1, t2, rfl, ⟨rfl, _⟩, t3, t4, rfl, ⟨rfl, _⟩, t5, t6, rfl, ⟨rfl, _⟩, rfl⟩,
    f1, f2, rfl, ⟨v1, v2, rfl, ⟨rfl, _⟩, v3, v4, rfl, ⟨rfl, _⟩, v5, v6, rfl, ⟨rfl, _⟩, rfl⟩, g1, g2, rfl, ⟨rfl, _⟩, h1, h2, rfl, rfl, i1, i2, rfl, rfl, j1, j2, rfl, ⟨rfl, _⟩, k1, k2, rfl, ⟨rfl, _⟩, l1, l2, rfl, ⟨rfl, _⟩, m1, m2, rfl, ⟨rfl, _⟩, n1, n2, rfl, ⟨rfl, _⟩, o1, o2, rfl, hD,
    p1, p2, rfl, ⟨rfl, _⟩, q1, q2, rfl, ⟨rfl, _⟩, r1, r2, rfl, ⟨rfl, _⟩, s1, s2, rfl, ⟨rfl, _⟩, rfl⟩, rfl⟩ := h
  obtain ⟨u, rfl, hu⟩ := rdDdl_is hD
  exact ⟨u, rfl, hu, (wf_i64 w1).2⟩
theorem opB_at {s : PH} {a : Option Addr} {n : Nat} {ops : List OpB} (h : elems rdOpB s a n ops) {i : Nat} {o : OpB} (ho : ops[i]? = some o) : ∃ (ad : Addr) (u : Tri), a = some ad ∧ s.has (ad.add (i * 31)) (opCells o u) ∧ SlB colE s u o.k.c.D.cols ∧ o.at_ ≤ 9223372036854775807 := by
  obtain ⟨ad, cs, h1, h2, h3⟩ := h.2 i o ho
  obtain ⟨u, rfl, hu, hw⟩ := rdOpB_is h2
  exact ⟨ad, u, h1, h3, hu, hw⟩
theorem SlB.mono {α : Type} {E : Enc α} {s s' : PH} {t : Tri} {xs : List α} (h : SlB E s t xs) (hm : s.le s') : SlB E s' t xs := by
  cases h; constructor <;> first | assumption | (rename_i h1 _ _; exact h1.mono hm) | skip
abbrev opD (o : OpB) (u : Tri) : Den [.int .i64, .int .i64, .int .i64, .int .i64, .int .i64, .int .i64, .int .i64, .int .i64, .int .i64, .slice, .slice, .int .i64, .int .i64, .int .i64, .int .i64, .int .i64, .int .i64, .str, .str, .str, .str, .bool, .int .i64, .int .i64, .int .i64, .str, .slice, .int .i64, .int .i64, .str, .int .i64] := (o.at_, cmdD (o.k.at u))
def csum (l : List OpB) : Nat := (l.map fun o => 1 + o.k.c.D.cols.length).sum
theorem csum_snoc {l : List OpB} {i : Nat} {o : OpB} (h : l[i]? = some o) : csum (l.take (i + 1)) = csum (l.take i) + (1 + o.k.c.D.cols.length) := by
  unfold csum; rw [List.take_add_one, h]; simp
theorem csum_at {l : List OpB} {o : OpB} (h : o ∈ l) : 1 + o.k.c.D.cols.length ≤ csum l := by
  induction l with
  | nil => cases h
  | cons x l ih =>
    unfold csum at ih ⊢
    simp only [List.map_cons, List.sum_cons]
    rcases List.mem_cons.1 h with rfl | h
    · omega
    · have := ih h; omega
theorem c_bgreat {s : PH} {a : Option Addr} {n c : Nat} {ops : List OpB} (h : elems rdOpB s a n ops) (hn : n ≤ 1099511627776000) : DCalls Tryz.prog 7 #[.slice a n c] s fun y s' => (∃ b : Bool, y = .bool b ∧ (b = false → ops.length ≤ 150 ∧ csum ops ≤ 1000)) ∧ s' = s := by
  refine ok_bgreat a n c _ s ?_
  unfold vc_bgreat
  obtain ⟨R, hR⟩ : ∃ R : Value → PH → Prop, (fun y s' => (∃ b : Bool, y = .bool b ∧ (b = false → ops.length ≤ 150 ∧ csum ops ≤ 1000)) ∧ s' = s) = R := ⟨_, rfl⟩
  rw [hR]
  have hl : n = ops.length := h.1
  simp only [RP_ite, RP_ret, RP_guard, RP_loop, RP_unSome, RP_ld]
  refine ⟨fun z s' => ∃ i : Nat, z = (((csum (ops.take i) : Int), ()), ((a, n, c), ()), ((n : Int), ()), ((i : Int), ()), ()) ∧ i ≤ n ∧ csum (ops.take i) ≤ 1000 ∧ s' = s, fun z _ => n - z.2.2.2.1.1.toNat, ⟨0, rfl, Nat.zero_le _, by simp [csum], rfl⟩, ?_⟩
  rintro _ s ⟨i, rfl, hi, hs, rfl⟩
  refine (W.br_iff _ _ _ _).2 ⟨fun hlt => ?_, fun hge => ?_⟩
  · have hlt : (i : Int) < (n : Int) := of_decide_eq_true hlt
    obtain ⟨o, ho⟩ : ∃ o, ops[i]? = some o := ⟨_, List.getElem?_eq_getElem (by omega)⟩
    obtain ⟨ad, u, rfl, hh, hu, _⟩ := opB_at h ho
    have hss := csum_snoc ho
    have hul : u.2.1 = o.k.c.D.cols.length := hu.el.1
    have hub : u.2.1 ≤ 281474976710656 := by have := hu.big; omega
    dsimp only
    refine (W.guard_iff _ _ _).2 ⟨by omega, ?_⟩
    simp only [W.unSome_some, Int.toNat_natCast]
    refine ld_has_z hh (y := opD o u) rfl ?_
    have hw0 : IntKind.i64.wrap ((csum (ops.take i) : Int) + IntKind.i64.wrap (1 + (u.2.1 : Int))) = ((csum (ops.take (i + 1)) : Nat) : Int) := by
      rw [wrap_in (n := 1 + (u.2.1 : Int)) (by omega) (by omega), wrap_in (by omega) (by omega)]; omega
    dsimp only
    rw [hw0]
    refine (W.br_iff _ _ _ _).2 ⟨fun hbig => ?_, fun hbig => ?_⟩
    · rw [← hR]; exact ⟨⟨true, rfl, fun e => by cases e⟩, rfl⟩
    · have hbig : ¬ ((csum (ops.take (i + 1)) : Int) > 1000) := of_decide_eq_false hbig
      rw [wrap_succ (k := i) (by omega)]
      exact ⟨⟨i + 1, rfl, by omega, by omega, rfl⟩, by simp only [Int.toNat_natCast]; omega⟩
  · have hge : ¬ (i : Int) < (n : Int) := of_decide_eq_false hge
    rw [List.take_of_length_le (by omega)] at hs
    rw [← hR]
    refine ⟨⟨_, rfl, fun e => ⟨?_, hs⟩⟩, rfl⟩
    have e : ¬ ((n : Int) > 150) := of_decide_eq_false e
    omega
theorem c_own {s : PH} (k : CmdP) (hu : Sl colE s k.u k.c.D.cols) : DCalls Tryz.prog 11 #[cmdV k] s fun y s' => ∃ u', y = cmdV (k.at u') ∧ Sl colE s' u' k.c.D.cols ∧ Fw.Mod [] s s' := by
  refine ok_own k.c.kind k.c.y1 k.c.y2 k.c.y3 k.x1 k.x2 k.x3 k.ho k.r.1 k.r.2.1 k.r.2.2 k.w.1 k.w.2.1 k.w.2.2 k.mi k.un k.ts k.c.ver k.c.call k.c.D.kind k.c.D.table k.c.D.name k.c.D.column k.c.D.parent k.c.D.unique k.c.D.type k.c.D.dflt.kind k.c.D.dflt.n k.c.D.dflt.s k.u.1 k.u.2.1 k.u.2.2 k.c.job k.c.phase k.c.mark k.c.why _ s ?_
  unfold vc_own
  have hlen := hu.len
  have hfew := hu.few
  simp only [RP_nw, RP_app, RP_ret]
  refine row_copy (E := colE) (k := k.u.2.1) hu.el.src_enc rfl hlen.symm (by omega) (by omega) rfl ?_
  intro a' c' s' hrow hm hf
  exact ⟨(a', k.u.2.1, c'), rfl, Sl.of_row (t := (a', k.u.2.1, c')) hrow hfew, hm⟩
end Go.Proofs.YthepfbcgpbkbdaaGreat
end
section
set_option linter.unusedVariables false
set_option linter.unusedSimpArgs false
set_option maxHeartbeats 2000000
set_option maxRecDepth 100000
namespace Go.Proofs.YthepfbcgpbkbdaaGreat
open Fw Go
attribute [-simp] Fw.W.ld_iff Fw.W.st_iff
theorem do_len (P : Pl) (now : Int) (c : Cm) : (P.do now c).2.J.length ≤ P.J.length + 1 ∧ (P.do now c).2.L.length ≤ P.L.length + 1 := by
  have hset : ∀ (i : Nat) (j : Jb), (P.setJ i j).J.length ≤ P.J.length + 1 ∧ (P.setJ i j).L.length ≤ P.L.length + 1 := fun i j => by
    unfold Pl.setJ; simp
  have h0 : P.J.length ≤ P.J.length + 1 ∧ P.L.length ≤ P.L.length + 1 := ⟨Nat.le_succ _, Nat.le_succ _⟩
  unfold Pl.do
  split
  · exact h0
  split
  · unfold Pl.grant
    split
    · exact h0
    · refine ⟨Nat.le_succ _, ?_⟩
      dsimp only
      rw [List.length_append]
      have := List.length_filter_le (fun x => !(!forceB x now || (decide (x.node = c.y1) && decide (x.ver = P.S.version)))) P.L
      simp only [List.length_cons, List.length_nil]; omega
  split
  · unfold Pl.submit
    split
    · exact h0
    · split
      · exact h0
      · refine ⟨?_, Nat.le_succ _⟩
        dsimp only
        rw [List.length_append]; simp
  split
  · unfold Pl.drain
    split
    · exact h0
    · exact hset _ _
  split
  · unfold Pl.next
    split
    · exact h0
    · split
      · exact h0
      split
      · exact h0
      split
      · split
        · exact hset _ _
        · refine ⟨?_, Nat.le_succ _⟩
          dsimp only
          rw [List.length_set]; omega
      · exact hset _ _
  split
  · unfold Pl.mark
    split
    · exact h0
    · dsimp only
      split <;> exact hset _ _
  · unfold Pl.fail
    split
    · exact h0
    · split
      · exact h0
      · exact hset _ _
theorem PlOk.new : PlOk noPl := ⟨by simp, by simp, by decide, by decide⟩
/-- a board of one's own -/
def BI (s0 s : PH) (b : Nat) (P : Pl) : Prop := ∃ L, BdAt s b P L ∧ (∀ g ∈ L, s0 g = none) ∧ Fw.Mod [] s0 s
section
variable {s0 s s' : PH} {b : Nat} {P : Pl}
theorem BI.mod (h : BI s0 s b P) : Fw.Mod [] s0 s := by obtain ⟨_, _, _, m⟩ := h; exact m
theorem BI.same (h : BI s0 s b P) (hm : Fw.Mod [] s s') : BI s0 s' b P := by
  obtain ⟨L, h1, h2, h3⟩ := h
  exact ⟨L, h1.mod hm, h2, h3.trans hm⟩
theorem BI.do (h : BI s0 s b P) (hok : PlOk P) (hn : P.J.length ≤ 1000000) (hnl : P.L.length ≤ 1000000) (k : CmdP) (hu : Sl colE s k.u k.c.D.cols) (hul : k.c.D.cols.length ≤ 1048576) (now : Int) :
    DCalls Tryz.prog 10 #[cp b, .int .i64 now, cmdV k] s fun y s' => y = resV (P.do now k.c).1 ∧ BI s0 s' b (P.do now k.c).2 := by
  obtain ⟨L, ⟨t, la, ja, ps, qs, rfl, h1⟩, h2, h3⟩ := h
  refine (c_bDo h1 hok hn hnl k hu hul now).mono ?_
  rintro _ s' ⟨rfl, L', hb, hs⟩
  refine ⟨rfl, L', hb, fun g hg => ?_, h3.fresh hs.mod fun x hx => .inr (h2 x hx)⟩
  rcases hs.new g hg with h4 | h4
  · exact h2 g h4
  · exact h3.none h4 (by simp)
theorem BI.save (h : BI s0 s b P) (hn : P.J.length ≤ 1000000) (hnl : P.L.length ≤ 1000000) :
    DCalls Tryz.prog 13 #[cp b] s fun y s' => ∃ t' la' ja', y = planV P t' la' ja' ∧ Cop s s' P t' la' ja' ∧ BI s0 s' b P := by
  have h0 := h
  obtain ⟨L, ⟨t, la, ja, ps, qs, rfl, h1⟩, h2, h3⟩ := h
  refine (c_Save h1 hn hnl).mono ?_
  rintro _ s' ⟨t', la', ja', rfl, hc⟩
  exact ⟨t', la', ja', rfl, hc, h0.same hc.mod⟩
theorem BI.schema (h : BI s0 s b P) (hn : P.J.length ≤ 1000000) (hnl : P.L.length ≤ 1000000) :
    DCalls Tryz.prog 9 #[cp b] s fun y s' => ∃ t', y = schV P.S t' ∧ BI s0 s' b P := by
  have h0 := h
  obtain ⟨L, ⟨t, la, ja, ps, qs, rfl, h1⟩, h2, h3⟩ := h
  refine (c_bSchema h1 hn hnl).mono ?_
  rintro _ s' ⟨t', rfl, hc⟩
  exact ⟨t', rfl, h0.same hc⟩
theorem BI.hand (h : BI s0 s b P) (hok : PlOk P) (hn : P.J.length ≤ 1000000) :
    DCalls Tryz.prog 15 #[cp b] s fun y s' => ∃ u, y = handV P u ∧ BI s0 s' b P := by
  have h0 := h
  obtain ⟨L, ⟨t, la, ja, ps, qs, rfl, h1⟩, h2, h3⟩ := h
  refine (c_Hand h1 hok hn).mono ?_
  rintro _ s' ⟨u, rfl, hc⟩
  exact ⟨u, rfl, h0.same hc⟩
end
abbrev noD : Ddl := ⟨0, emp, emp, emp, emp, false, 0, ⟨0, 0, emp⟩, []⟩
abbrev mkC (kind y1 y3 job : Int) (D : Ddl) : Cm := ⟨kind, y1, 0, y3, 0, 0, D, job, 0, emp, 0⟩
abbrev mkP (c : Cm) (u : Tri) : CmdP := ⟨c, 0, 0, 0, 0, noTri, noTri, 0, 0, 0, u⟩
def aw1 := noPl.do 5 (mkC 11 2 0 0 noD)
def aw2 := aw1.2.do 5 (mkC 12 0 1 0 exD)
def aw3 := aw2.2.do 6 (mkC 14 0 0 1 noD)
def aw4 := aw3.2.do 6 (mkC 12 0 2 0 exD2)
def aw5 := aw4.2.do 7 (mkC 14 0 0 2 noD)
def aw6 := aw5.2.do 28 (mkC 14 0 0 2 noD)
def aw7 := aw6.2.do 29 (mkC 14 0 0 2 noD)
theorem aw1r : aw1.1 = ⟨0, 0, 25, 0, true⟩ := by kernel_rfl
theorem aw2r : aw2.1 = ⟨0, 0, 0, 1, true⟩ := by kernel_rfl
theorem aw3r : aw3.1 = ⟨0, 1, 0, 0, true⟩ := by kernel_rfl
theorem aw5r : aw5.1.err = 161 := by kernel_rfl
theorem aw6r : aw6.1.err = 161 := by kernel_rfl
theorem aw7r : aw7.1 = ⟨0, 2, 0, 0, true⟩ := by kernel_rfl
theorem c_bawake (s : PH) : DCalls Tryz.prog 6 #[] s fun y s' => y = .bool true ∧ s' = s := by
  refine DCalls.quiet ?_
  refine ok_bawake _ s ?_
  unfold vc_bawake
  simp only [RP_call, RP_ite, RP_ret]
  refine W.call_of (c_bNew s) ?_
  rintro _ s1 ⟨b, rfl, hB, m1, hb⟩
  refine ⟨((some ⟨b, 0, none⟩, ()), ()), rfl, ?_⟩
  have g0 : BI s s1 b noPl := ⟨[b], hB, by simp [hb], m1⟩
  have l0 : noPl.J.length ≤ 0 ∧ noPl.L.length ≤ 0 := ⟨Nat.le_refl _, Nat.le_refl _⟩
  have ok0 := PlOk.new
  have next : ∀ {P : Pl} {n : Nat} (now : Int) (c : Cm), PlOk P → P.J.length ≤ n ∧ P.L.length ≤ n → PlOk (P.do now c).2 ∧ (P.do now c).2.J.length ≤ n + 1 ∧ (P.do now c).2.L.length ≤ n + 1 := fun {P n} now c hok hl => by
    have := do_len P now c
    exact ⟨hok.do now c, by omega, by omega⟩
  obtain ⟨ok1, l1⟩ : PlOk aw1.2 ∧ aw1.2.J.length ≤ 1 ∧ aw1.2.L.length ≤ 1 := next 5 (mkC 11 2 0 0 noD) ok0 l0
  obtain ⟨ok2, l2⟩ : PlOk aw2.2 ∧ aw2.2.J.length ≤ 2 ∧ aw2.2.L.length ≤ 2 := next 5 (mkC 12 0 1 0 exD) ok1 l1
  obtain ⟨ok3, l3⟩ : PlOk aw3.2 ∧ aw3.2.J.length ≤ 3 ∧ aw3.2.L.length ≤ 3 := next 6 (mkC 14 0 0 1 noD) ok2 l2
  obtain ⟨ok4, l4⟩ : PlOk aw4.2 ∧ aw4.2.J.length ≤ 4 ∧ aw4.2.L.length ≤ 4 := next 6 (mkC 12 0 2 0 exD2) ok3 l3
  obtain ⟨ok5, l5⟩ : PlOk aw5.2 ∧ aw5.2.J.length ≤ 5 ∧ aw5.2.L.length ≤ 5 := next 7 (mkC 14 0 0 2 noD) ok4 l4
  obtain ⟨ok6, l6⟩ : PlOk aw6.2 ∧ aw6.2.J.length ≤ 6 ∧ aw6.2.L.length ≤ 6 := next 28 (mkC 14 0 0 2 noD) ok5 l5
  have d1 := g0.do ok0 (Nat.le_trans l0.1 (by decide)) (Nat.le_trans l0.2 (by decide)) (mkP (mkC 11 2 0 0 noD) noTri) Sl.nil (by decide) 5
  refine W.call_of d1 ?_
  rintro _ s2 ⟨rfl, g1⟩
  have g1 : BI s s2 b aw1.2 := g1
  refine ⟨((aw1.1.err, 0, 0, 0, 0, aw1.1.ver, aw1.1.til, aw1.1.job, aw1.1.new, ()), ()), rfl, ?_⟩
  refine W.call_of (c_Example s2) ?_
  rintro _ s3 ⟨u, rfl, hu, m3⟩
  refine ⟨(ddlD exD u, ()), rfl, ?_⟩
  have d2 := (g1.same m3).do ok1 (Nat.le_trans l1.1 (by decide)) (Nat.le_trans l1.2 (by decide)) (mkP (mkC 12 0 1 0 exD) u) hu (by show exD.cols.length ≤ 1048576; decide) 5
  refine W.call_of d2 ?_
  rintro _ s4 ⟨rfl, g2⟩
  have g2 : BI s s4 b aw2.2 := g2
  refine ⟨((aw2.1.err, 0, 0, 0, 0, aw2.1.ver, aw2.1.til, aw2.1.job, aw2.1.new, ()), ()), rfl, ?_⟩
  have d3 := g2.do ok2 (Nat.le_trans l2.1 (by decide)) (Nat.le_trans l2.2 (by decide)) (mkP (mkC 14 0 0 1 noD) noTri) Sl.nil (by decide) 6
  refine W.call_of d3 ?_
  rintro _ s5 ⟨rfl, g3⟩
  have g3 : BI s s5 b aw3.2 := g3
  refine ⟨((aw3.1.err, 0, 0, 0, 0, aw3.1.ver, aw3.1.til, aw3.1.job, aw3.1.new, ()), ()), rfl, ?_⟩
  have d4 := g3.do ok3 (Nat.le_trans l3.1 (by decide)) (Nat.le_trans l3.2 (by decide)) (mkP (mkC 12 0 2 0 exD2) noTri) Sl.nil (by decide) 6
  refine W.call_of d4 ?_
  rintro _ s6 ⟨rfl, g4⟩
  have g4 : BI s s6 b aw4.2 := g4
  refine ⟨((aw4.1.err, 0, 0, 0, 0, aw4.1.ver, aw4.1.til, aw4.1.job, aw4.1.new, ()), ()), rfl, ?_⟩
  have d5 := g4.do ok4 (Nat.le_trans l4.1 (by decide)) (Nat.le_trans l4.2 (by decide)) (mkP (mkC 14 0 0 2 noD) noTri) Sl.nil (by decide) 7
  refine W.call_of d5 ?_
  rintro _ s7 ⟨rfl, g5⟩
  have g5 : BI s s7 b aw5.2 := g5
  refine ⟨((aw5.1.err, 0, 0, 0, 0, aw5.1.ver, aw5.1.til, aw5.1.job, aw5.1.new, ()), ()), rfl, ?_⟩
  have d6 := g5.do ok5 (Nat.le_trans l5.1 (by decide)) (Nat.le_trans l5.2 (by decide)) (mkP (mkC 14 0 0 2 noD) noTri) Sl.nil (by decide) 28
  refine W.call_of d6 ?_
  rintro _ s8 ⟨rfl, g6⟩
  have g6 : BI s s8 b aw6.2 := g6
  refine ⟨((aw6.1.err, 0, 0, 0, 0, aw6.1.ver, aw6.1.til, aw6.1.job, aw6.1.new, ()), ()), rfl, ?_⟩
  have d7 := g6.do ok6 (Nat.le_trans l6.1 (by decide)) (Nat.le_trans l6.2 (by decide)) (mkP (mkC 14 0 0 2 noD) noTri) Sl.nil (by decide) 29
  refine W.call_of d7 ?_
  rintro _ s9 ⟨rfl, g7⟩
  have g7 : BI s s9 b aw7.2 := g7
  refine ⟨((aw7.1.err, 0, 0, 0, 0, aw7.1.ver, aw7.1.til, aw7.1.job, aw7.1.new, ()), ()), rfl, ?_⟩
  have m9 := g7.mod
  rw [aw1r, aw2r, aw3r, aw5r, aw6r, aw7r]
  refine (W.br_iff _ _ _ _).2 ⟨fun _ => ?_, fun e => (by cases e)⟩
  refine (W.br_iff _ _ _ _).2 ⟨fun _ => ?_, fun e => (by cases e)⟩
  refine (W.br_iff _ _ _ _).2 ⟨fun _ => ?_, fun e => (by cases e)⟩
  refine (W.br_iff _ _ _ _).2 ⟨fun _ => ?_, fun e => (by cases e)⟩
  refine (W.br_iff _ _ _ _).2 ⟨fun _ => ?_, fun e => (by cases e)⟩
  refine (W.br_iff _ _ _ _).2 ⟨fun _ => ⟨rfl, m9⟩, fun e => (by cases e)⟩
end Go.Proofs.YthepfbcgpbkbdaaGreat
end
section
set_option linter.unusedVariables false
set_option linter.unusedSimpArgs false
set_option maxHeartbeats 1000000
set_option maxRecDepth 100000
namespace Go.Proofs.YthepfbcgpbkbdaaGreat
open Fw Go
/-- jobs are numbered from one, and their moves are few -/
structure JIds (J : List Jb) : Prop where
  id : ∀ (i : Nat) (j : Jb), J[i]? = some j → j.id = (i : Int) + 1
  ph : ∀ j : Jb, j ∈ J → 0 ≤ j.phase ∧ j.phase ≤ 1048576
theorem JIds.nil : JIds [] := ⟨by simp, by simp⟩
theorem JIds.set {J : List Jb} (h : JIds J) {i : Nat} {j j' : Jb} (hi : J[i]? = some j) (he : j'.id = j.id) (hp : 0 ≤ j'.phase ∧ j'.phase ≤ 1048576) : JIds (J.set i j') := by
  refine ⟨fun k x hx => ?_, fun x hx => ?_⟩
  · by_cases e : i = k
    · subst e
      rw [List.getElem?_set_self (List.getElem?_eq_some_iff.1 hi).1] at hx
      cases hx
      rw [he]; exact h.id _ _ hi
    · rw [List.getElem?_set_ne e] at hx
      exact h.id _ _ hx
  · rcases List.mem_or_eq_of_mem_set hx with hx | rfl
    · exact h.ph x hx
    · exact hp
theorem JIds.snoc {J : List Jb} (h : JIds J) {j : Jb} (he : j.id = ((J.length + 1 : Nat) : Int)) (hp : j.phase = 0) : JIds (J ++ [j]) := by
  refine ⟨fun k x hx => ?_, fun x hx => ?_⟩
  · by_cases e : k < J.length
    · rw [List.getElem?_append_left e] at hx
      exact h.id _ _ hx
    · rw [List.getElem?_append_right (by omega)] at hx
      have : k - J.length = 0 := by
        by_cases h0 : k - J.length = 0
        · exact h0
        · rw [List.getElem?_eq_none (by simp; omega)] at hx; cases hx
      rw [this] at hx
      simp at hx
      subst hx
      rw [he]; omega
  · simp only [List.mem_append, List.mem_singleton] at hx
    rcases hx with hx | rfl
    · exact h.ph x hx
    · omega
theorem ids_phase {P : Pl} (hok : PlOk P) (h : JIds P.J) {i : Nat} {j : Jb} (hh : P.hand = some (i, j)) : IntKind.i64.wrap (j.phase + 1) = j.phase + 1 ∧ 0 ≤ j.phase ∧ j.phase + 1 ≤ 10 := by
  obtain ⟨hj, hf, _⟩ := hand_some hh
  have h1 := hok.ph j (List.mem_of_getElem? hj) hf
  have h2 := moves_len j
  exact ⟨wrap_in (by omega) (by omega), h1.1, by omega⟩
/-- what a command may do to a list of jobs: one job may be laid anew, which was running, or one may be added -/
inductive JDid (c : Cm) (J : List Jb) : List Jb → Prop
  | same : JDid c J J
  | snoc (j : Jb) : j.id = ((J.length + 1 : Nat) : Int) → j.phase = 0 → j.D = c.D → j.mark = ⟨#[]⟩ → JDid c J (J ++ [j])
  | set (i : Nat) (j j' : Jb) : J[i]? = some j → j.fin = 0 → j'.id = j.id → 0 ≤ j'.phase → j'.phase ≤ 1048576 → j'.D = j.D → (j'.mark = j.mark ∨ j'.mark = ⟨#[]⟩ ∨ j'.mark = c.mark) → JDid c J (J.set i j')
theorem do_did {P : Pl} (hok : PlOk P) (h : JIds P.J) (now : Int) (c : Cm) : JDid c P.J (P.do now c).2.J ∧ P.S.version ≤ (P.do now c).2.S.version := by
  have h0 : JDid c P.J P.J ∧ P.S.version ≤ P.S.version := ⟨.same, Int.le_refl _⟩
  have hset : ∀ {i : Nat} {j j' : Jb}, P.hand = some (i, j) → j'.id = j.id → 0 ≤ j'.phase → j'.phase ≤ 1048576 → j'.D = j.D → (j'.mark = j.mark ∨ j'.mark = ⟨#[]⟩ ∨ j'.mark = c.mark) → JDid c P.J (P.J.set i j') := fun {i j j'} hh h1 h2 h3 h4 h5 => by
    obtain ⟨hj, hf, _⟩ := hand_some hh
    exact .set i j j' hj hf h1 h2 h3 h4 h5
  have hstep : ∀ {i : Nat} {j : Jb}, P.hand = some (i, j) → JDid c P.J (P.J.set i j.step) := fun {i j} hh => by
    obtain ⟨e, h1, h2⟩ := ids_phase hok h hh
    refine hset hh rfl ?_ ?_ rfl (.inr (.inl rfl))
    · show (0 : Int) ≤ IntKind.i64.wrap (j.phase + 1); omega
    · show IntKind.i64.wrap (j.phase + 1) ≤ 1048576; omega
  unfold Pl.do
  split
  · exact h0
  split
  · unfold Pl.grant
    split <;> exact h0
  split
  · unfold Pl.submit
    split
    · exact h0
    · split
      · exact h0
      · exact ⟨.snoc _ rfl rfl rfl rfl, Int.le_refl _⟩
  split
  · unfold Pl.drain
    split
    · exact h0
    · rename_i i j ht
      obtain ⟨hh, _⟩ := turn_some ht
      obtain ⟨e, h1, h2⟩ := ids_phase hok h hh
      exact ⟨hset hh rfl h1 (by dsimp only; omega) rfl (.inl rfl), Int.le_refl _⟩
  split
  · unfold Pl.next
    split
    · exact h0
    · rename_i i j ht
      obtain ⟨hh, _⟩ := turn_some ht
      obtain ⟨e, h1, h2⟩ := ids_phase hok h hh
      split
      · exact h0
      split
      · exact h0
      split
      · split
        · exact ⟨hset hh rfl h1 (by dsimp only; omega) rfl (.inl rfl), Int.le_refl _⟩
        · rename_i hne
          obtain ⟨e1, e2⟩ := turn_ver hne
          refine ⟨hstep hh, ?_⟩
          dsimp only; omega
      · exact ⟨hstep hh, Int.le_refl _⟩
  split
  · unfold Pl.mark
    split
    · exact h0
    · rename_i i j ht
      obtain ⟨hh, _⟩ := turn_some ht
      obtain ⟨e, h1, h2⟩ := ids_phase hok h hh
      dsimp only
      split
      · exact ⟨hstep hh, Int.le_refl _⟩
      · exact ⟨hset hh rfl h1 (by dsimp only; omega) rfl (by dsimp only; split; exact .inl rfl; exact .inr (.inr rfl)), Int.le_refl _⟩
  · unfold Pl.fail
    split
    · exact h0
    · rename_i i j ht
      obtain ⟨hh, _⟩ := turn_some ht
      split
      · exact h0
      · exact ⟨hset hh rfl (Int.le_refl _) (by dsimp only; omega) rfl (.inr (.inl rfl)), Int.le_refl _⟩
theorem JDid.ids {c : Cm} {J J' : List Jb} (h : JDid c J J') (hi : JIds J) : JIds J' := by
  cases h with
  | same => exact hi
  | snoc j h1 h2 h3 h4 => exact hi.snoc h1 h2
  | set i j j' h1 h2 h3 h4 h5 h6 h7 => exact hi.set h1 h3 ⟨h4, h5⟩
/-- what jobs came to stays -/
theorem JDid.ends {c : Cm} {J J' : List Jb} (h : JDid c J J') {i : Nat} {j : Jb} (hj : J[i]? = some j) : ∃ j', J'[i]? = some j' ∧ (j.fin ≠ 0 → j'.fin = j.fin) := by
  cases h with
  | same => exact ⟨j, hj, fun _ => rfl⟩
  | snoc x h1 h2 h3 h4 =>
    refine ⟨j, ?_, fun _ => rfl⟩
    rw [List.getElem?_append_left (List.getElem?_eq_some_iff.1 hj).1]; exact hj
  | set k x x' h1 h2 h3 h4 h5 h6 h7 =>
    by_cases e : k = i
    · subst e
      rw [hj] at h1; cases h1
      exact ⟨x', List.getElem?_set_self (List.getElem?_eq_some_iff.1 hj).1, fun h => absurd h2 h⟩
    · exact ⟨j, by rw [List.getElem?_set_ne e]; exact hj, fun _ => rfl⟩
theorem turn_set {P : Pl} {i : Nat} {j' : Jb} {c : Cm} {ks : List Int} (hI : JIds P.J) (hi : P.J[i]? = some j') (he : j'.id = c.job) {i2 : Nat} {j2 : Jb} (h : P.turn c ks = some (i2, j2)) : i2 = i ∧ j2 = j' := by
  obtain ⟨hh, _, h1, _⟩ := turn_some h
  obtain ⟨hj, _, _⟩ := hand_some hh
  have e1 := hI.id _ _ hj
  have e2 := hI.id _ _ hi
  have : i2 = i := by omega
  subst this
  rw [hj] at hi; cases hi
  exact ⟨rfl, rfl⟩
theorem set_here {J : List Jb} {i : Nat} {j j' : Jb} (h : J[i]? = some j) : (J.set i j')[i]? = some j' := List.getElem?_set_self (List.getElem?_eq_some_iff.1 h).1
/-- a command about a job that comes again at once does nothing more -/
theorem do_again {P : Pl} (hok : PlOk P) (hI : JIds P.J) (now : Int) (c : Cm) (hk : 12 ≤ c.kind) (hk2 : c.kind ≠ 15) (hn : (P.do now c).1.new = true) :
    ((P.do now c).2.do now c).1.new = false ∧ ((P.do now c).2.do now c).2 = (P.do now c).2 := by
  have hI' : JIds (P.do now c).2.J := (do_did hok hI now c).1.ids hI
  unfold Pl.do at hn hI' ⊢
  by_cases h0 : c.kind < 11 ∨ 16 < c.kind ∨ now < 0 ∨ 1125899906842624 < now
  · rw [if_pos h0] at hn; cases hn
  simp only [if_neg h0, if_neg (show ¬ c.kind = 11 by omega)] at hn hI' ⊢
  by_cases h12 : c.kind = 12
  · simp only [if_pos h12] at hn hI' ⊢
    unfold Pl.submit at hn hI' ⊢
    by_cases hp : (pairs (pathL c.D.kind false)).length = 0
    · rw [if_pos hp] at hn; cases hn
    simp only [if_neg hp] at hn hI' ⊢
    cases hb : byAt P.J c with
    | some j => rw [hb] at hn; cases hn
    | none =>
      simp only
      have : byAt (P.J ++ [newJob P.J c]) c = some (newJob P.J c) := by
        unfold byAt at hb ⊢
        rw [List.find?_append, hb]
        simp [sameBy, newJob]
      rw [this]
      exact ⟨rfl, rfl⟩
  simp only [if_neg h12] at hn hI' ⊢
  by_cases h13 : c.kind = 13
  · simp only [if_pos h13] at hn hI' ⊢
    unfold Pl.drain at hn hI' ⊢
    cases ht : P.turn c [2] with
    | none => rw [ht] at hn; cases hn
    | some p =>
      obtain ⟨i, j⟩ := p
      rw [ht] at hn hI'
      simp only at hn hI' ⊢
      obtain ⟨hh, _, e1, e2⟩ := turn_some ht
      obtain ⟨hj, hf, _⟩ := hand_some hh
      cases ht2 : (P.setJ i { j with drain := true }).turn c [2] with
      | none => exact ⟨rfl, rfl⟩
      | some p =>
        obtain ⟨i2, j2⟩ := p
        obtain ⟨rfl, rfl⟩ := turn_set hI' (set_here hj) e1 ht2
        refine ⟨rfl, ?_⟩
        unfold Pl.setJ
        simp only [List.set_set]
  simp only [if_neg h13] at hn hI' ⊢
  by_cases h14 : c.kind = 14
  · simp only [if_pos h14] at hn hI' ⊢
    obtain ⟨Q, hQ⟩ : ∃ Q, P.next now c = Q := ⟨_, rfl⟩
    rw [hQ] at hn hI' ⊢
    have key : ∃ (i : Nat) (j' : Jb), Q.2.J[i]? = some j' ∧ j'.id = c.job ∧ (j'.fin ≠ 0 ∨ j'.phase ≠ c.phase) := by
      unfold Pl.next at hQ
      cases ht : P.turn c [1, 2, 3] with
      | none => rw [ht] at hQ; subst hQ; cases hn
      | some p =>
        obtain ⟨i, j⟩ := p
        rw [ht] at hQ
        simp only at hQ
        obtain ⟨hh, _, e1, e2⟩ := turn_some ht
        obtain ⟨hj, hf, _⟩ := hand_some hh
        obtain ⟨w1, w2, w3⟩ := ids_phase hok hI hh
        have hstep : j.step.phase ≠ c.phase := by
          show IntKind.i64.wrap (j.phase + 1) ≠ c.phase
          omega
        split at hQ
        · subst hQ; cases hn
        split at hQ
        · subst hQ; cases hn
        split at hQ
        · split at hQ
          · subst hQ
            exact ⟨i, _, set_here hj, e1, .inl (by dsimp only; omega)⟩
          · subst hQ
            exact ⟨i, _, set_here hj, e1, .inr hstep⟩
        · subst hQ
          exact ⟨i, _, set_here hj, e1, .inr hstep⟩
    obtain ⟨i, j', h1, h2, h3⟩ := key
    have hno : Q.2.turn c [1, 2, 3] = none := by
      cases ht2 : Q.2.turn c [1, 2, 3] with
      | none => rfl
      | some p =>
        obtain ⟨i2, j2⟩ := p
        obtain ⟨rfl, rfl⟩ := turn_set hI' h1 h2 ht2
        obtain ⟨hh, _, _, e2⟩ := turn_some ht2
        obtain ⟨_, hf, _⟩ := hand_some hh
        rcases h3 with h3 | h3
        · exact absurd hf h3
        · exact absurd e2 h3
    unfold Pl.next
    rw [hno]
    exact ⟨rfl, rfl⟩
  simp only [if_neg h14, if_neg hk2] at hn hI' ⊢
  unfold Pl.fail at hn hI' ⊢
  cases ht : P.turn c [4] with
  | none => rw [ht] at hn; cases hn
  | some p =>
    obtain ⟨i, j⟩ := p
    rw [ht] at hn hI'
    simp only at hn hI' ⊢
    obtain ⟨hh, _, e1, e2⟩ := turn_some ht
    obtain ⟨hj, hf, _⟩ := hand_some hh
    by_cases hb : j.back = true
    · rw [if_pos hb] at hn; cases hn
    simp only [if_neg hb] at hn hI' ⊢
    cases ht2 : (P.setJ i { j with back := true, phase := 0, mark := ⟨#[]⟩, why := c.why }).turn c [4] with
    | none => exact ⟨rfl, rfl⟩
    | some p =>
      obtain ⟨i2, j2⟩ := p
      obtain ⟨rfl, rfl⟩ := turn_set hI' (set_here hj) e1 ht2
      exact ⟨rfl, rfl⟩
/-- the ends that are known: of jobs by their numbers -/
def EndsOk (J : List Jb) (f : List (Int × Int)) : Prop := ∀ k e, f.lookup k = some e → ∃ (i : Nat) (j : Jb), k = (i : Int) + 1 ∧ J[i]? = some j ∧ j.fin = e ∧ e ≠ 0
theorem EndsOk.did {c : Cm} {J J' : List Jb} {f : List (Int × Int)} (h : EndsOk J f) (hd : JDid c J J') : EndsOk J' f := by
  intro k e hk
  obtain ⟨i, j, h1, h2, h3, h4⟩ := h k e hk
  obtain ⟨j', h5, h6⟩ := hd.ends h2
  exact ⟨i, j', h1, h5, by rw [h6 (by rw [h3]; exact h4), h3], h4⟩
end Go.Proofs.YthepfbcgpbkbdaaGreat
end
section
set_option linter.unusedVariables false
set_option maxHeartbeats 1000000
namespace Go.Proofs.YthepfbcgpbkbdaaGreat
open Fw Fw.W Go
/-- lintel/lintelref10.tid -/
def vc_tid {W : Type} (π : Prims W) (y1 y2 y3 : Int) : W :=
  π.nw (Go.Obj.cells #[(Go.Value.int (IntKind.i64) (y1)), (Go.Value.int (IntKind.i64) (y2)), (Go.Value.int (IntKind.i64) (y3))] (3 : Nat) ((0 : Nat), (0 : Nat))) fun r0 =>
  π.call (33 : Nat) #[(Go.Value.slice (some (Addr.mk r0 (0 : Nat) none)) ((3 : Nat)) ((3 : Nat)))] (false, [(false, [.str])]) fun (((t1 : ByteArray), _), _) =>
  π.ret (Go.Value.string (t1))
def ann_tid : Ann := { draws := [], join := [], loop := [] }
def la_tid : LA := { ptr := [(1, 1, 0), (3, 1, 0), (5, 1, 1), (7, 1, 2)], ty := [(1, 29)] }
set_option maxRecDepth 100000 in
theorem eq_tid {W : Type} (π : Prims W) (y1 y2 y3 : Int) : bodyL π Tryz.prog la_tid ann_tid (mkFr (maskA [] [.v (.agg #[.int .i64 y1, .int .i64 y2, .int .i64 y3])] 0) 11) Tryz.f34 (bodyOf Tryz.f34) (mkFr (List.map some [.v (.agg #[.int .i64 y1, .int .i64 y2, .int .i64 y3])]) 11) = vc_tid π y1 y2 y3 := by kernel_rfl
theorem ok_tid (y1 y2 y3 : Int) (R : Value → PH → Prop) (s : PH) (h : vc_tid (RP Tryz.prog R) y1 y2 y3 s) : DCalls Tryz.prog 34 (List.map AV.val [.v (.agg #[.int .i64 y1, .int .i64 y2, .int .i64 y3])]).toArray s R :=
  calls_vcL (c := bodyOf Tryz.f34) (ann := ann_tid) la_tid (by kernel_rfl) Tryz.func34 rfl (by kernel_rfl) [.v (.agg #[.int .i64 y1, .int .i64 y2, .int .i64 y3])] [] (by rw [Tryz.ntmps34]; exact Nat.le_of_ble_eq_true rfl) (by kernel_rfl) (by rw [show Tryz.f34.ntmps = 11 from Tryz.ntmps34, eq_tid]; exact h)
/-- lintel/lintelref10.Ddl -/
def vc_encD {W : Type} (π : Prims W) (dk : Int) (dt dn dc dp : ByteArray) (du : Bool) (dy vk vn : Int) (vs : ByteArray) (da : Option Addr) (dan dac : Nat) : W :=
  π.callQ (32 : Nat) #[(Go.Value.int (IntKind.i64) (dk))] (false, [(false, [.str])]) fun (((t0 : ByteArray), _), _) =>
  π.callQ (37 : Nat) #[(Go.Value.string (dt))] (false, [(false, [.str])]) fun (((t1 : ByteArray), _), _) =>
  π.guard ((↑(t0.size + t1.size) : Int) ≤ (9223372036854775807 : Int)) <|
  π.callQ (37 : Nat) #[(Go.Value.string (dn))] (false, [(false, [.str])]) fun (((t2 : ByteArray), _), _) =>
  π.guard ((↑((t0 ++ t1).size + t2.size) : Int) ≤ (9223372036854775807 : Int)) <|
  π.callQ (37 : Nat) #[(Go.Value.string (dc))] (false, [(false, [.str])]) fun (((t3 : ByteArray), _), _) =>
  π.guard ((↑((t0 ++ t1 ++ t2).size + t3.size) : Int) ≤ (9223372036854775807 : Int)) <|
  π.callQ (37 : Nat) #[(Go.Value.string (dp))] (false, [(false, [.str])]) fun (((t4 : ByteArray), _), _) =>
  π.guard ((↑((t0 ++ t1 ++ t2 ++ t3).size + t4.size) : Int) ≤ (9223372036854775807 : Int)) <|
  π.callQ (36 : Nat) #[(Go.Value.bool (du))] (false, [(false, [.str])]) fun (((t5 : ByteArray), _), _) =>
  π.guard ((↑((t0 ++ t1 ++ t2 ++ t3 ++ t4).size + t5.size) : Int) ≤ (9223372036854775807 : Int)) <|
  π.callQ (32 : Nat) #[(Go.Value.int (IntKind.i64) (dy))] (false, [(false, [.str])]) fun (((t6 : ByteArray), _), _) =>
  π.guard ((↑((t0 ++ t1 ++ t2 ++ t3 ++ t4 ++ t5).size + t6.size) : Int) ≤ (9223372036854775807 : Int)) <|
  π.callQ (67 : Nat) #[(Go.Value.agg #[(Go.Value.int (IntKind.i64) (vk)), (Go.Value.int (IntKind.i64) (vn)), (Go.Value.string (vs))])] (false, [(false, [.str])]) fun (((t7 : ByteArray), _), _) =>
  π.guard ((↑((t0 ++ t1 ++ t2 ++ t3 ++ t4 ++ t5 ++ t6).size + t7.size) : Int) ≤ (9223372036854775807 : Int)) <|
  π.callQ (66 : Nat) #[(Go.Value.slice (da) (dan) (dac))] (false, [(false, [.str])]) fun (((t8 : ByteArray), _), _) =>
  π.guard ((↑((t0 ++ t1 ++ t2 ++ t3 ++ t4 ++ t5 ++ t6 ++ t7).size + t8.size) : Int) ≤ (9223372036854775807 : Int)) <|
  π.ret (Go.Value.string (t0 ++ t1 ++ t2 ++ t3 ++ t4 ++ t5 ++ t6 ++ t7 ++ t8))
def ann_encD : Ann := { draws := [(1, { A := [0, 1, 2, 3, 4, 5, 6, 7, 8, 9, 10, 11, 12, 13, 14, 15, 16, 17, 18, 19, 20, 21, 22, 23, 24, 25, 26, 27, 28, 29, 30, 31, 32, 33, 34, 35], quiet := [2, 5, 9, 13, 17, 21, 25, 29, 33] })], join := [], loop := [] }
def la_encD : LA := { ptr := [(1, 1, 0), (3, 1, 0), (6, 1, 1), (10, 1, 2), (14, 1, 3), (18, 1, 4), (22, 1, 5), (26, 1, 6), (30, 1, 7), (34, 1, 10)], ty := [(1, 36)] }
set_option maxRecDepth 100000 in
theorem eq_encD {W : Type} (π : Prims W) (dk : Int) (dt dn dc dp : ByteArray) (du : Bool) (dy vk vn : Int) (vs : ByteArray) (da : Option Addr) (dan dac : Nat) : bodyL π Tryz.prog la_encD ann_encD (mkFr (maskA [] [.v (.agg #[.int .i64 dk, .string dt, .string dn, .string dc, .string dp, .bool du, .int .i64 dy, .int .i64 vk, .int .i64 vn, .string vs, .slice da dan dac])] 0) 38) Tryz.f35 (bodyOf Tryz.f35) (mkFr (List.map some [.v (.agg #[.int .i64 dk, .string dt, .string dn, .string dc, .string dp, .bool du, .int .i64 dy, .int .i64 vk, .int .i64 vn, .string vs, .slice da dan dac])]) 38) = vc_encD π dk dt dn dc dp du dy vk vn vs da dan dac := by kernel_rfl
theorem ok_encD (dk : Int) (dt dn dc dp : ByteArray) (du : Bool) (dy vk vn : Int) (vs : ByteArray) (da : Option Addr) (dan dac : Nat) (R : Value → PH → Prop) (s : PH) (h : vc_encD (RP Tryz.prog R) dk dt dn dc dp du dy vk vn vs da dan dac s) : DCalls Tryz.prog 35 (List.map AV.val [.v (.agg #[.int .i64 dk, .string dt, .string dn, .string dc, .string dp, .bool du, .int .i64 dy, .int .i64 vk, .int .i64 vn, .string vs, .slice da dan dac])]).toArray s R :=
  calls_vcL (c := bodyOf Tryz.f35) (ann := ann_encD) la_encD (by kernel_rfl) Tryz.func35 rfl (by kernel_rfl) [.v (.agg #[.int .i64 dk, .string dt, .string dn, .string dc, .string dp, .bool du, .int .i64 dy, .int .i64 vk, .int .i64 vn, .string vs, .slice da dan dac])] [] (by rw [Tryz.ntmps35]; exact Nat.le_of_ble_eq_true rfl) (by kernel_rfl) (by rw [show Tryz.f35.ntmps = 38 from Tryz.ntmps35, eq_encD]; exact h)
/-- lintel/lintelref10.Plan -/
def vc_encPl {W : Type} (π : Prims W) (sv sl : Int) (sa : Option Addr) (san sac : Nat) (la : Option Addr) (lan lac : Nat) (ja : Option Addr) (jan jac : Nat) : W :=
  π.callQ (31 : Nat) #[(Go.Value.agg #[(Go.Value.int (IntKind.i64) (sv)), (Go.Value.int (IntKind.i64) (sl)), (Go.Value.slice (sa) (san) (sac))])] (false, [(false, [.str])]) fun (((t0 : ByteArray), _), _) =>
  π.callQ (32 : Nat) #[(Go.Value.int (IntKind.i64) ((↑lan : Int)))] (false, [(false, [.str])]) fun (((t1 : ByteArray), _), _) =>
  π.guard ((↑(t0.size + t1.size) : Int) ≤ (9223372036854775807 : Int)) <|
  π.loop [(true, [.int .i64, .int .i64, .slice, .slice, .slice]), (false, [.str]), (false, [.int .i64])] ((sv, sl, (sa, san, sac), (la, lan, lac), (ja, jan, jac), ()), (t0 ++ t1, ()), ((0 : Int), ()), ()) fun (((x3 : Int), (x4 : Int), ((a5 : Option Addr), (n6 : Nat), (c7 : Nat)), ((a8 : Option Addr), (n9 : Nat), (c10 : Nat)), ((a11 : Option Addr), (n12 : Nat), (c13 : Nat)), _), ((t14 : ByteArray), _), ((x15 : Int), _), _) again2 =>
    π.ite (decide (x15 < (↑n9 : Int))) (
      π.guard ((0 : Int) ≤ x15 ∧ x15 < (↑n9 : Int)) <|
      π.unSome (a8) fun p16 =>
      π.ld [.int .i64] ((p16.add (x15.toNat * (3 : Nat))).add (0 : Nat)) fun ((x17 : Int), _) =>
      π.guard ((0 : Int) ≤ x15 ∧ x15 < (↑n9 : Int)) <|
      π.unSome (a8) fun p18 =>
      π.ld [.int .i64] ((p18.add (x15.toNat * (3 : Nat))).add (1 : Nat)) fun ((x19 : Int), _) =>
      π.guard ((0 : Int) ≤ x15 ∧ x15 < (↑n9 : Int)) <|
      π.unSome (a8) fun p20 =>
      π.ld [.int .i64] ((p20.add (x15.toNat * (3 : Nat))).add (2 : Nat)) fun ((x21 : Int), _) =>
      π.nw (Go.Obj.cells #[(Go.Value.int (IntKind.i64) (x17)), (Go.Value.int (IntKind.i64) (x19)), (Go.Value.int (IntKind.i64) (x21))] (3 : Nat) ((0 : Nat), (0 : Nat))) fun r22 =>
      π.call (33 : Nat) #[(Go.Value.slice (some (Addr.mk r22 (0 : Nat) none)) ((3 : Nat)) ((3 : Nat)))] (false, [(false, [.str])]) fun (((t23 : ByteArray), _), _) =>
      π.guard ((↑(t14.size + t23.size) : Int) ≤ (9223372036854775807 : Int)) <|
      again2 ((x3, x4, (a5, n6, c7), (a8, n9, c10), (a11, n12, c13), ()), (t14 ++ t23, ()), (IntKind.i64.wrap (x15 + (1 : Int)), ()), ())
    ) (
      π.call (32 : Nat) #[(Go.Value.int (IntKind.i64) ((↑n12 : Int)))] (false, [(false, [.str])]) fun (((t24 : ByteArray), _), _) =>
      π.guard ((↑(t14.size + t24.size) : Int) ≤ (9223372036854775807 : Int)) <|
      π.loop [(true, [.int .i64, .int .i64, .slice, .slice, .slice]), (false, [.str]), (false, [.int .i64])] ((x3, x4, (a5, n6, c7), (a8, n9, c10), (a11, n12, c13), ()), (t14 ++ t24, ()), ((0 : Int), ()), ()) fun (((x26 : Int), (x27 : Int), ((a28 : Option Addr), (n29 : Nat), (c30 : Nat)), ((a31 : Option Addr), (n32 : Nat), (c33 : Nat)), ((a34 : Option Addr), (n35 : Nat), (c36 : Nat)), _), ((t37 : ByteArray), _), ((x38 : Int), _), _) again25 =>
        π.ite (decide (x38 < (↑n35 : Int))) (
          π.guard ((0 : Int) ≤ x38 ∧ x38 < (↑n35 : Int)) <|
          π.unSome (a34) fun p39 =>
          π.ld [.int .i64, .int .i64, .int .i64, .int .i64, .int .i64, .int .i64, .str, .str, .str, .str, .bool, .int .i64, .int .i64, .int .i64, .str, .slice, .int .i64, .bool, .bool, .str, .int .i64, .int .i64] (p39.add (x38.toNat * (22 : Nat))) fun ((x40 : Int), (x41 : Int), (x42 : Int), (x43 : Int), (x44 : Int), (x45 : Int), (t46 : ByteArray), (t47 : ByteArray), (t48 : ByteArray), (t49 : ByteArray), (b50 : Bool), (x51 : Int), (x52 : Int), (x53 : Int), (t54 : ByteArray), ((a55 : Option Addr), (n56 : Nat), (c57 : Nat)), (x58 : Int), (b59 : Bool), (b60 : Bool), (t61 : ByteArray), (x62 : Int), (x63 : Int), _) =>
          π.both (
            π.nw (Go.Obj.cells #[(Go.Value.int (IntKind.i64) (x40)), (Go.Value.int (IntKind.i64) (x41))] (3 : Nat) ((0 : Nat), (0 : Nat))) fun r64 =>
            π.both (
              π.call (33 : Nat) #[(Go.Value.slice (some (Addr.mk r64 (0 : Nat) none)) ((2 : Nat)) ((2 : Nat)))] (false, [(false, [.str])]) fun (((t65 : ByteArray), _), _) =>
              π.guard ((↑(t37.size + t65.size) : Int) ≤ (9223372036854775807 : Int)) <|
              π.both (
                π.call (34 : Nat) #[(Go.Value.agg #[(Go.Value.int (IntKind.i64) (x42)), (Go.Value.int (IntKind.i64) (x43)), (Go.Value.int (IntKind.i64) (x44))])] (false, [(false, [.str])]) fun (((t66 : ByteArray), _), _) =>
                π.guard ((↑((t37 ++ t65).size + t66.size) : Int) ≤ (9223372036854775807 : Int)) <|
                π.both (
                  π.call (35 : Nat) #[(Go.Value.agg #[(Go.Value.int (IntKind.i64) (x45)), (Go.Value.string (t46)), (Go.Value.string (t47)), (Go.Value.string (t48)), (Go.Value.string (t49)), (Go.Value.bool (b50)), (Go.Value.int (IntKind.i64) (x51)), (Go.Value.int (IntKind.i64) (x52)), (Go.Value.int (IntKind.i64) (x53)), (Go.Value.string (t54)), (Go.Value.slice (a55) (n56) (c57))])] (false, [(false, [.str])]) fun (((t67 : ByteArray), _), _) =>
                  π.guard ((↑((t37 ++ t65 ++ t66).size + t67.size) : Int) ≤ (9223372036854775807 : Int)) <|
                  π.both (
                    π.call (32 : Nat) #[(Go.Value.int (IntKind.i64) (x58))] (false, [(false, [.str])]) fun (((t68 : ByteArray), _), _) =>
                    π.guard ((↑((t37 ++ t65 ++ t66 ++ t67).size + t68.size) : Int) ≤ (9223372036854775807 : Int)) <|
                    π.both (
                      π.call (36 : Nat) #[(Go.Value.bool (b59))] (false, [(false, [.str])]) fun (((t69 : ByteArray), _), _) =>
                      π.guard ((↑((t37 ++ t65 ++ t66 ++ t67 ++ t68).size + t69.size) : Int) ≤ (9223372036854775807 : Int)) <|
                      π.both (
                        π.call (36 : Nat) #[(Go.Value.bool (b60))] (false, [(false, [.str])]) fun (((t70 : ByteArray), _), _) =>
                        π.guard ((↑((t37 ++ t65 ++ t66 ++ t67 ++ t68 ++ t69).size + t70.size) : Int) ≤ (9223372036854775807 : Int)) <|
                        π.both (
                          π.call (37 : Nat) #[(Go.Value.string (t61))] (false, [(false, [.str])]) fun (((t71 : ByteArray), _), _) =>
                          π.guard ((↑((t37 ++ t65 ++ t66 ++ t67 ++ t68 ++ t69 ++ t70).size + t71.size) : Int) ≤ (9223372036854775807 : Int)) <|
                          π.nw (Go.Obj.cells #[(Go.Value.int (IntKind.i64) (x62)), (Go.Value.int (IntKind.i64) (x63))] (3 : Nat) ((0 : Nat), (0 : Nat))) fun r72 =>
                          π.call (33 : Nat) #[(Go.Value.slice (some (Addr.mk r72 (0 : Nat) none)) ((2 : Nat)) ((2 : Nat)))] (false, [(false, [.str])]) fun (((t73 : ByteArray), _), _) =>
                          π.guard ((↑((t37 ++ t65 ++ t66 ++ t67 ++ t68 ++ t69 ++ t70 ++ t71).size + t73.size) : Int) ≤ (9223372036854775807 : Int)) <|
                          again25 ((x26, x27, (a28, n29, c30), (a31, n32, c33), (a34, n35, c36), ()), (t37 ++ t65 ++ t66 ++ t67 ++ t68 ++ t69 ++ t70 ++ t71 ++ t73, ()), (IntKind.i64.wrap (x38 + (1 : Int)), ()), ())
                        ) (
                          π.nw (Go.Obj.cells #[(Go.Value.int (IntKind.i64) (x62)), (Go.Value.int (IntKind.i64) (x63))] (3 : Nat) ((0 : Nat), (0 : Nat))) fun r74 =>
                          π.call (37 : Nat) #[(Go.Value.string (t61))] (false, [(false, [.str])]) fun (((t75 : ByteArray), _), _) =>
                          π.guard ((↑((t37 ++ t65 ++ t66 ++ t67 ++ t68 ++ t69 ++ t70).size + t75.size) : Int) ≤ (9223372036854775807 : Int)) <|
                          π.call (33 : Nat) #[(Go.Value.slice (some (Addr.mk r74 (0 : Nat) none)) ((2 : Nat)) ((2 : Nat)))] (false, [(false, [.str])]) fun (((t76 : ByteArray), _), _) =>
                          π.guard ((↑((t37 ++ t65 ++ t66 ++ t67 ++ t68 ++ t69 ++ t70 ++ t75).size + t76.size) : Int) ≤ (9223372036854775807 : Int)) <|
                          again25 ((x26, x27, (a28, n29, c30), (a31, n32, c33), (a34, n35, c36), ()), (t37 ++ t65 ++ t66 ++ t67 ++ t68 ++ t69 ++ t70 ++ t75 ++ t76, ()), (IntKind.i64.wrap (x38 + (1 : Int)), ()), ())
                        )
                      ) (
                        π.nw (Go.Obj.cells #[(Go.Value.int (IntKind.i64) (x62)), (Go.Value.int (IntKind.i64) (x63))] (3 : Nat) ((0 : Nat), (0 : Nat))) fun r77 =>
                        π.call (36 : Nat) #[(Go.Value.bool (b60))] (false, [(false, [.str])]) fun (((t78 : ByteArray), _), _) =>
                        π.guard ((↑((t37 ++ t65 ++ t66 ++ t67 ++ t68 ++ t69).size + t78.size) : Int) ≤ (9223372036854775807 : Int)) <|
                        π.call (37 : Nat) #[(Go.Value.string (t61))] (false, [(false, [.str])]) fun (((t79 : ByteArray), _), _) =>
                        π.guard ((↑((t37 ++ t65 ++ t66 ++ t67 ++ t68 ++ t69 ++ t78).size + t79.size) : Int) ≤ (9223372036854775807 : Int)) <|
                        π.call (33 : Nat) #[(Go.Value.slice (some (Addr.mk r77 (0 : Nat) none)) ((2 : Nat)) ((2 : Nat)))] (false, [(false, [.str])]) fun (((t80 : ByteArray), _), _) =>
                        π.guard ((↑((t37 ++ t65 ++ t66 ++ t67 ++ t68 ++ t69 ++ t78 ++ t79).size + t80.size) : Int) ≤ (9223372036854775807 : Int)) <|
                        again25 ((x26, x27, (a28, n29, c30), (a31, n32, c33), (a34, n35, c36), ()), (t37 ++ t65 ++ t66 ++ t67 ++ t68 ++ t69 ++ t78 ++ t79 ++ t80, ()), (IntKind.i64.wrap (x38 + (1 : Int)), ()), ())
                      )
                    ) (
                      π.nw (Go.Obj.cells #[(Go.Value.int (IntKind.i64) (x62)), (Go.Value.int (IntKind.i64) (x63))] (3 : Nat) ((0 : Nat), (0 : Nat))) fun r81 =>
                      π.call (36 : Nat) #[(Go.Value.bool (b59))] (false, [(false, [.str])]) fun (((t82 : ByteArray), _), _) =>
                      π.guard ((↑((t37 ++ t65 ++ t66 ++ t67 ++ t68).size + t82.size) : Int) ≤ (9223372036854775807 : Int)) <|
                      π.call (36 : Nat) #[(Go.Value.bool (b60))] (false, [(false, [.str])]) fun (((t83 : ByteArray), _), _) =>
                      π.guard ((↑((t37 ++ t65 ++ t66 ++ t67 ++ t68 ++ t82).size + t83.size) : Int) ≤ (9223372036854775807 : Int)) <|
                      π.call (37 : Nat) #[(Go.Value.string (t61))] (false, [(false, [.str])]) fun (((t84 : ByteArray), _), _) =>
                      π.guard ((↑((t37 ++ t65 ++ t66 ++ t67 ++ t68 ++ t82 ++ t83).size + t84.size) : Int) ≤ (9223372036854775807 : Int)) <|
                      π.call (33 : Nat) #[(Go.Value.slice (some (Addr.mk r81 (0 : Nat) none)) ((2 : Nat)) ((2 : Nat)))] (false, [(false, [.str])]) fun (((t85 : ByteArray), _), _) =>
                      π.guard ((↑((t37 ++ t65 ++ t66 ++ t67 ++ t68 ++ t82 ++ t83 ++ t84).size + t85.size) : Int) ≤ (9223372036854775807 : Int)) <|
                      again25 ((x26, x27, (a28, n29, c30), (a31, n32, c33), (a34, n35, c36), ()), (t37 ++ t65 ++ t66 ++ t67 ++ t68 ++ t82 ++ t83 ++ t84 ++ t85, ()), (IntKind.i64.wrap (x38 + (1 : Int)), ()), ())
                    )
                  ) (
                    π.nw (Go.Obj.cells #[(Go.Value.int (IntKind.i64) (x62)), (Go.Value.int (IntKind.i64) (x63))] (3 : Nat) ((0 : Nat), (0 : Nat))) fun r86 =>
                    π.call (32 : Nat) #[(Go.Value.int (IntKind.i64) (x58))] (false, [(false, [.str])]) fun (((t87 : ByteArray), _), _) =>
                    π.guard ((↑((t37 ++ t65 ++ t66 ++ t67).size + t87.size) : Int) ≤ (9223372036854775807 : Int)) <|
                    π.call (36 : Nat) #[(Go.Value.bool (b59))] (false, [(false, [.str])]) fun (((t88 : ByteArray), _), _) =>
                    π.guard ((↑((t37 ++ t65 ++ t66 ++ t67 ++ t87).size + t88.size) : Int) ≤ (9223372036854775807 : Int)) <|
                    π.call (36 : Nat) #[(Go.Value.bool (b60))] (false, [(false, [.str])]) fun (((t89 : ByteArray), _), _) =>
                    π.guard ((↑((t37 ++ t65 ++ t66 ++ t67 ++ t87 ++ t88).size + t89.size) : Int) ≤ (9223372036854775807 : Int)) <|
                    π.call (37 : Nat) #[(Go.Value.string (t61))] (false, [(false, [.str])]) fun (((t90 : ByteArray), _), _) =>
                    π.guard ((↑((t37 ++ t65 ++ t66 ++ t67 ++ t87 ++ t88 ++ t89).size + t90.size) : Int) ≤ (9223372036854775807 : Int)) <|
                    π.call (33 : Nat) #[(Go.Value.slice (some (Addr.mk r86 (0 : Nat) none)) ((2 : Nat)) ((2 : Nat)))] (false, [(false, [.str])]) fun (((t91 : ByteArray), _), _) =>
                    π.guard ((↑((t37 ++ t65 ++ t66 ++ t67 ++ t87 ++ t88 ++ t89 ++ t90).size + t91.size) : Int) ≤ (9223372036854775807 : Int)) <|
                    again25 ((x26, x27, (a28, n29, c30), (a31, n32, c33), (a34, n35, c36), ()), (t37 ++ t65 ++ t66 ++ t67 ++ t87 ++ t88 ++ t89 ++ t90 ++ t91, ()), (IntKind.i64.wrap (x38 + (1 : Int)), ()), ())
                  )
                ) (
                  π.nw (Go.Obj.cells #[(Go.Value.int (IntKind.i64) (x62)), (Go.Value.int (IntKind.i64) (x63))] (3 : Nat) ((0 : Nat), (0 : Nat))) fun r92 =>
                  π.call (35 : Nat) #[(Go.Value.agg #[(Go.Value.int (IntKind.i64) (x45)), (Go.Value.string (t46)), (Go.Value.string (t47)), (Go.Value.string (t48)), (Go.Value.string (t49)), (Go.Value.bool (b50)), (Go.Value.int (IntKind.i64) (x51)), (Go.Value.int (IntKind.i64) (x52)), (Go.Value.int (IntKind.i64) (x53)), (Go.Value.string (t54)), (Go.Value.slice (a55) (n56) (c57))])] (false, [(false, [.str])]) fun (((t93 : ByteArray), _), _) =>
                  π.guard ((↑((t37 ++ t65 ++ t66).size + t93.size) : Int) ≤ (9223372036854775807 : Int)) <|
                  π.call (32 : Nat) #[(Go.Value.int (IntKind.i64) (x58))] (false, [(false, [.str])]) fun (((t94 : ByteArray), _), _) =>
                  π.guard ((↑((t37 ++ t65 ++ t66 ++ t93).size + t94.size) : Int) ≤ (9223372036854775807 : Int)) <|
                  π.call (36 : Nat) #[(Go.Value.bool (b59))] (false, [(false, [.str])]) fun (((t95 : ByteArray), _), _) =>
                  π.guard ((↑((t37 ++ t65 ++ t66 ++ t93 ++ t94).size + t95.size) : Int) ≤ (9223372036854775807 : Int)) <|
                  π.call (36 : Nat) #[(Go.Value.bool (b60))] (false, [(false, [.str])]) fun (((t96 : ByteArray), _), _) =>
                  π.guard ((↑((t37 ++ t65 ++ t66 ++ t93 ++ t94 ++ t95).size + t96.size) : Int) ≤ (9223372036854775807 : Int)) <|
                  π.call (37 : Nat) #[(Go.Value.string (t61))] (false, [(false, [.str])]) fun (((t97 : ByteArray), _), _) =>
                  π.guard ((↑((t37 ++ t65 ++ t66 ++ t93 ++ t94 ++ t95 ++ t96).size + t97.size) : Int) ≤ (9223372036854775807 : Int)) <|
                  π.call (33 : Nat) #[(Go.Value.slice (some (Addr.mk r92 (0 : Nat) none)) ((2 : Nat)) ((2 : Nat)))] (false, [(false, [.str])]) fun (((t98 : ByteArray), _), _) =>
                  π.guard ((↑((t37 ++ t65 ++ t66 ++ t93 ++ t94 ++ t95 ++ t96 ++ t97).size + t98.size) : Int) ≤ (9223372036854775807 : Int)) <|
                  again25 ((x26, x27, (a28, n29, c30), (a31, n32, c33), (a34, n35, c36), ()), (t37 ++ t65 ++ t66 ++ t93 ++ t94 ++ t95 ++ t96 ++ t97 ++ t98, ()), (IntKind.i64.wrap (x38 + (1 : Int)), ()), ())
                )
              ) (
                π.nw (Go.Obj.cells #[(Go.Value.int (IntKind.i64) (x62)), (Go.Value.int (IntKind.i64) (x63))] (3 : Nat) ((0 : Nat), (0 : Nat))) fun r99 =>
                π.call (34 : Nat) #[(Go.Value.agg #[(Go.Value.int (IntKind.i64) (x42)), (Go.Value.int (IntKind.i64) (x43)), (Go.Value.int (IntKind.i64) (x44))])] (false, [(false, [.str])]) fun (((t100 : ByteArray), _), _) =>
                π.guard ((↑((t37 ++ t65).size + t100.size) : Int) ≤ (9223372036854775807 : Int)) <|
                π.call (35 : Nat) #[(Go.Value.agg #[(Go.Value.int (IntKind.i64) (x45)), (Go.Value.string (t46)), (Go.Value.string (t47)), (Go.Value.string (t48)), (Go.Value.string (t49)), (Go.Value.bool (b50)), (Go.Value.int (IntKind.i64) (x51)), (Go.Value.int (IntKind.i64) (x52)), (Go.Value.int (IntKind.i64) (x53)), (Go.Value.string (t54)), (Go.Value.slice (a55) (n56) (c57))])] (false, [(false, [.str])]) fun (((t101 : ByteArray), _), _) =>
                π.guard ((↑((t37 ++ t65 ++ t100).size + t101.size) : Int) ≤ (9223372036854775807 : Int)) <|
                π.call (32 : Nat) #[(Go.Value.int (IntKind.i64) (x58))] (false, [(false, [.str])]) fun (((t102 : ByteArray), _), _) =>
                π.guard ((↑((t37 ++ t65 ++ t100 ++ t101).size + t102.size) : Int) ≤ (9223372036854775807 : Int)) <|
                π.call (36 : Nat) #[(Go.Value.bool (b59))] (false, [(false, [.str])]) fun (((t103 : ByteArray), _), _) =>
                π.guard ((↑((t37 ++ t65 ++ t100 ++ t101 ++ t102).size + t103.size) : Int) ≤ (9223372036854775807 : Int)) <|
                π.call (36 : Nat) #[(Go.Value.bool (b60))] (false, [(false, [.str])]) fun (((t104 : ByteArray), _), _) =>
                π.guard ((↑((t37 ++ t65 ++ t100 ++ t101 ++ t102 ++ t103).size + t104.size) : Int) ≤ (9223372036854775807 : Int)) <|
                π.call (37 : Nat) #[(Go.Value.string (t61))] (false, [(false, [.str])]) fun (((t105 : ByteArray), _), _) =>
                π.guard ((↑((t37 ++ t65 ++ t100 ++ t101 ++ t102 ++ t103 ++ t104).size + t105.size) : Int) ≤ (9223372036854775807 : Int)) <|
                π.call (33 : Nat) #[(Go.Value.slice (some (Addr.mk r99 (0 : Nat) none)) ((2 : Nat)) ((2 : Nat)))] (false, [(false, [.str])]) fun (((t106 : ByteArray), _), _) =>
                π.guard ((↑((t37 ++ t65 ++ t100 ++ t101 ++ t102 ++ t103 ++ t104 ++ t105).size + t106.size) : Int) ≤ (9223372036854775807 : Int)) <|
                again25 ((x26, x27, (a28, n29, c30), (a31, n32, c33), (a34, n35, c36), ()), (t37 ++ t65 ++ t100 ++ t101 ++ t102 ++ t103 ++ t104 ++ t105 ++ t106, ()), (IntKind.i64.wrap (x38 + (1 : Int)), ()), ())
              )
            ) (
              π.nw (Go.Obj.cells #[(Go.Value.int (IntKind.i64) (x62)), (Go.Value.int (IntKind.i64) (x63))] (3 : Nat) ((0 : Nat), (0 : Nat))) fun r107 =>
              π.call (33 : Nat) #[(Go.Value.slice (some (Addr.mk r64 (0 : Nat) none)) ((2 : Nat)) ((2 : Nat)))] (false, [(false, [.str])]) fun (((t108 : ByteArray), _), _) =>
              π.guard ((↑(t37.size + t108.size) : Int) ≤ (9223372036854775807 : Int)) <|
              π.call (34 : Nat) #[(Go.Value.agg #[(Go.Value.int (IntKind.i64) (x42)), (Go.Value.int (IntKind.i64) (x43)), (Go.Value.int (IntKind.i64) (x44))])] (false, [(false, [.str])]) fun (((t109 : ByteArray), _), _) =>
              π.guard ((↑((t37 ++ t108).size + t109.size) : Int) ≤ (9223372036854775807 : Int)) <|
              π.call (35 : Nat) #[(Go.Value.agg #[(Go.Value.int (IntKind.i64) (x45)), (Go.Value.string (t46)), (Go.Value.string (t47)), (Go.Value.string (t48)), (Go.Value.string (t49)), (Go.Value.bool (b50)), (Go.Value.int (IntKind.i64) (x51)), (Go.Value.int (IntKind.i64) (x52)), (Go.Value.int (IntKind.i64) (x53)), (Go.Value.string (t54)), (Go.Value.slice (a55) (n56) (c57))])] (false, [(false, [.str])]) fun (((t110 : ByteArray), _), _) =>
              π.guard ((↑((t37 ++ t108 ++ t109).size + t110.size) : Int) ≤ (9223372036854775807 : Int)) <|
              π.call (32 : Nat) #[(Go.Value.int (IntKind.i64) (x58))] (false, [(false, [.str])]) fun (((t111 : ByteArray), _), _) =>
              π.guard ((↑((t37 ++ t108 ++ t109 ++ t110).size + t111.size) : Int) ≤ (9223372036854775807 : Int)) <|
              π.call (36 : Nat) #[(Go.Value.bool (b59))] (false, [(false, [.str])]) fun (((t112 : ByteArray), _), _) =>
              π.guard ((↑((t37 ++ t108 ++ t109 ++ t110 ++ t111).size + t112.size) : Int) ≤ (9223372036854775807 : Int)) <|
              π.call (36 : Nat) #[(Go.Value.bool (b60))] (false, [(false, [.str])]) fun (((t113 : ByteArray), _), _) =>
              π.guard ((↑((t37 ++ t108 ++ t109 ++ t110 ++ t111 ++ t112).size + t113.size) : Int) ≤ (9223372036854775807 : Int)) <|
              π.call (37 : Nat) #[(Go.Value.string (t61))] (false, [(false, [.str])]) fun (((t114 : ByteArray), _), _) =>
              π.guard ((↑((t37 ++ t108 ++ t109 ++ t110 ++ t111 ++ t112 ++ t113).size + t114.size) : Int) ≤ (9223372036854775807 : Int)) <|
              π.call (33 : Nat) #[(Go.Value.slice (some (Addr.mk r107 (0 : Nat) none)) ((2 : Nat)) ((2 : Nat)))] (false, [(false, [.str])]) fun (((t115 : ByteArray), _), _) =>
              π.guard ((↑((t37 ++ t108 ++ t109 ++ t110 ++ t111 ++ t112 ++ t113 ++ t114).size + t115.size) : Int) ≤ (9223372036854775807 : Int)) <|
              again25 ((x26, x27, (a28, n29, c30), (a31, n32, c33), (a34, n35, c36), ()), (t37 ++ t108 ++ t109 ++ t110 ++ t111 ++ t112 ++ t113 ++ t114 ++ t115, ()), (IntKind.i64.wrap (x38 + (1 : Int)), ()), ())
            )
          ) (
            π.nw (Go.Obj.cells #[(Go.Value.int (IntKind.i64) (x62)), (Go.Value.int (IntKind.i64) (x63))] (3 : Nat) ((0 : Nat), (0 : Nat))) fun r116 =>
            π.nw (Go.Obj.cells #[(Go.Value.int (IntKind.i64) (x40)), (Go.Value.int (IntKind.i64) (x41))] (3 : Nat) ((0 : Nat), (0 : Nat))) fun r117 =>
            π.call (33 : Nat) #[(Go.Value.slice (some (Addr.mk r117 (0 : Nat) none)) ((2 : Nat)) ((2 : Nat)))] (false, [(false, [.str])]) fun (((t118 : ByteArray), _), _) =>
            π.guard ((↑(t37.size + t118.size) : Int) ≤ (9223372036854775807 : Int)) <|
            π.call (34 : Nat) #[(Go.Value.agg #[(Go.Value.int (IntKind.i64) (x42)), (Go.Value.int (IntKind.i64) (x43)), (Go.Value.int (IntKind.i64) (x44))])] (false, [(false, [.str])]) fun (((t119 : ByteArray), _), _) =>
            π.guard ((↑((t37 ++ t118).size + t119.size) : Int) ≤ (9223372036854775807 : Int)) <|
            π.call (35 : Nat) #[(Go.Value.agg #[(Go.Value.int (IntKind.i64) (x45)), (Go.Value.string (t46)), (Go.Value.string (t47)), (Go.Value.string (t48)), (Go.Value.string (t49)), (Go.Value.bool (b50)), (Go.Value.int (IntKind.i64) (x51)), (Go.Value.int (IntKind.i64) (x52)), (Go.Value.int (IntKind.i64) (x53)), (Go.Value.string (t54)), (Go.Value.slice (a55) (n56) (c57))])] (false, [(false, [.str])]) fun (((t120 : ByteArray), _), _) =>
            π.guard ((↑((t37 ++ t118 ++ t119).size + t120.size) : Int) ≤ (9223372036854775807 : Int)) <|
            π.call (32 : Nat) #[(Go.Value.int (IntKind.i64) (x58))] (false, [(false, [.str])]) fun (((t121 : ByteArray), _), _) =>
            π.guard ((↑((t37 ++ t118 ++ t119 ++ t120).size + t121.size) : Int) ≤ (9223372036854775807 : Int)) <|
            π.call (36 : Nat) #[(Go.Value.bool (b59))] (false, [(false, [.str])]) fun (((t122 : ByteArray), _), _) =>
            π.guard ((↑((t37 ++ t118 ++ t119 ++ t120 ++ t121).size + t122.size) : Int) ≤ (9223372036854775807 : Int)) <|
            π.call (36 : Nat) #[(Go.Value.bool (b60))] (false, [(false, [.str])]) fun (((t123 : ByteArray), _), _) =>
            π.guard ((↑((t37 ++ t118 ++ t119 ++ t120 ++ t121 ++ t122).size + t123.size) : Int) ≤ (9223372036854775807 : Int)) <|
            π.call (37 : Nat) #[(Go.Value.string (t61))] (false, [(false, [.str])]) fun (((t124 : ByteArray), _), _) =>
            π.guard ((↑((t37 ++ t118 ++ t119 ++ t120 ++ t121 ++ t122 ++ t123).size + t124.size) : Int) ≤ (9223372036854775807 : Int)) <|
            π.call (33 : Nat) #[(Go.Value.slice (some (Addr.mk r116 (0 : Nat) none)) ((2 : Nat)) ((2 : Nat)))] (false, [(false, [.str])]) fun (((t125 : ByteArray), _), _) =>
            π.guard ((↑((t37 ++ t118 ++ t119 ++ t120 ++ t121 ++ t122 ++ t123 ++ t124).size + t125.size) : Int) ≤ (9223372036854775807 : Int)) <|
            again25 ((x26, x27, (a28, n29, c30), (a31, n32, c33), (a34, n35, c36), ()), (t37 ++ t118 ++ t119 ++ t120 ++ t121 ++ t122 ++ t123 ++ t124 ++ t125, ()), (IntKind.i64.wrap (x38 + (1 : Int)), ()), ())
          )
        ) (
          π.ret (Go.Value.string (t37))
        )
    )
def ann_encPl : Ann := { draws := [(1, { A := [0, 1, 2, 3, 4, 5, 6, 7, 8], quiet := [2, 6] }), (5, { A := [0, 1, 2, 3, 4, 5, 6, 7, 8, 9, 10, 11, 12, 13, 14, 15, 16, 17, 18], quiet := [20], eag := [21] }), (11, { A := [0, 1, 2, 3, 4, 8, 9, 12, 13, 16, 17, 20, 21, 24, 25, 28, 29, 32, 33, 34, 35], quiet := [6, 10, 14, 18, 22, 26, 30, 37], chkL := [(6, [9, 13, 17, 21, 25, 29, 33, 35]), (10, [13, 17, 21, 25, 29, 33, 35]), (14, [17, 21, 25, 29, 33, 35]), (18, [21, 25, 29, 33, 35]), (22, [25, 29, 33, 35]), (26, [29, 33, 35]), (30, [33, 35])], eag := [7, 11, 15, 19, 23, 27, 31, 38] })], join := [], loop := [(3, [(1, 54), (3, 9), (4, 3)]), (8, [(1, 54), (3, 9), (5, 3)])] }
def la_encPl : LA := { ptr := [(1, 1, 0), (6, 6, 0), (7, 1, 0), (10, 1, 3), (16, 1, 3), (23, 1, 3), (29, 1, 3), (35, 1, 3), (45, 1, 4), (51, 1, 4), (57, 1, 4), (63, 6, 0), (65, 6, 1), (70, 6, 2), (74, 6, 5), (78, 6, 16), (82, 6, 17), (86, 6, 18), (90, 6, 19), (94, 6, 20), (96, 6, 21)], ty := [(1, 54), (6, 58)] }
set_option maxRecDepth 100000 in
theorem eq_encPl {W : Type} (π : Prims W) (sv sl : Int) (sa : Option Addr) (san sac : Nat) (la : Option Addr) (lan lac : Nat) (ja : Option Addr) (jan jac : Nat) : bodyL π Tryz.prog la_encPl ann_encPl (mkFr (maskA [] [.v (.agg #[.int .i64 sv, .int .i64 sl, .slice sa san sac, .slice la lan lac, .slice ja jan jac])] 0) 102) Tryz.f12 (bodyOf Tryz.f12) (mkFr (List.map some [.v (.agg #[.int .i64 sv, .int .i64 sl, .slice sa san sac, .slice la lan lac, .slice ja jan jac])]) 102) = vc_encPl π sv sl sa san sac la lan lac ja jan jac := by kernel_rfl
theorem ok_encPl (sv sl : Int) (sa : Option Addr) (san sac : Nat) (la : Option Addr) (lan lac : Nat) (ja : Option Addr) (jan jac : Nat) (R : Value → PH → Prop) (s : PH) (h : vc_encPl (RP Tryz.prog R) sv sl sa san sac la lan lac ja jan jac s) : DCalls Tryz.prog 12 (List.map AV.val [.v (.agg #[.int .i64 sv, .int .i64 sl, .slice sa san sac, .slice la lan lac, .slice ja jan jac])]).toArray s R :=
  calls_vcL (c := bodyOf Tryz.f12) (ann := ann_encPl) la_encPl (by kernel_rfl) Tryz.func12 rfl (by kernel_rfl) [.v (.agg #[.int .i64 sv, .int .i64 sl, .slice sa san sac, .slice la lan lac, .slice ja jan jac])] [] (by rw [Tryz.ntmps12]; exact Nat.le_of_ble_eq_true rfl) (by kernel_rfl) (by rw [show Tryz.f12.ntmps = 102 from Tryz.ntmps12, eq_encPl]; exact h)
/-- (*lintel/board.Board).Jobs -/
def vc_bJobs {W : Type} (π : Prims W) (b : Nat) : W :=
  π.call (13 : Nat) #[(Go.Value.pointer (some (Addr.mk b (0 : Nat) none)))] (false, [(true, [.int .i64, .int .i64, .slice, .slice, .slice])]) fun (((x0 : Int), (x1 : Int), ((a2 : Option Addr), (n3 : Nat), (c4 : Nat)), ((a5 : Option Addr), (n6 : Nat), (c7 : Nat)), ((a8 : Option Addr), (n9 : Nat), (c10 : Nat)), _), _) =>
  π.ret (Go.Value.slice (a8) (n9) (c10))
def ann_bJobs : Ann := { draws := [], join := [], loop := [] }
def la_bJobs : LA := { ptr := [], ty := [] }
set_option maxRecDepth 100000 in
theorem eq_bJobs {W : Type} (π : Prims W) (b : Nat) : bodyL π Tryz.prog la_bJobs ann_bJobs (mkFr (maskA [] [.v (.pointer (some ⟨b, 0, none⟩))] 0) 6) Tryz.f14 (bodyOf Tryz.f14) (mkFr (List.map some [.v (.pointer (some ⟨b, 0, none⟩))]) 6) = vc_bJobs π b := by kernel_rfl
theorem ok_bJobs (b : Nat) (R : Value → PH → Prop) (s : PH) (h : vc_bJobs (RP Tryz.prog R) b s) : DCalls Tryz.prog 14 (List.map AV.val [.v (.pointer (some ⟨b, 0, none⟩))]).toArray s R :=
  calls_vcL (c := bodyOf Tryz.f14) (ann := ann_bJobs) la_bJobs (by kernel_rfl) Tryz.func14 rfl (by kernel_rfl) [.v (.pointer (some ⟨b, 0, none⟩))] [] (by rw [Tryz.ntmps14]; exact Nat.le_of_ble_eq_true rfl) (by kernel_rfl) (by rw [show Tryz.f14.ntmps = 6 from Tryz.ntmps14, eq_bJobs]; exact h)
/-- lintel/lintellaw16.BoardOnce -/
def vc_BoardOnce {W : Type} (π : Prims W) (a : Option Addr) (an ac : Nat) : W :=
  π.join [] (fun J0 =>
    π.call (6 : Nat) #[] (false, [(false, [.bool])]) fun (((b1 : Bool), _), _) =>
    π.ite (!b1) (
      π.call (6 : Nat) #[] (false, [(false, [.bool])]) fun (((b2 : Bool), _), _) =>
      π.ret (Go.Value.bool (b2))
    ) (
      π.call (7 : Nat) #[(Go.Value.slice (a) (an) (ac))] (false, [(false, [.bool])]) fun (((b3 : Bool), _), _) =>
      π.ite (b3) (
        π.call (6 : Nat) #[] (false, [(false, [.bool])]) fun (((b4 : Bool), _), _) =>
        π.ret (Go.Value.bool (b4))
      ) (
        J0 (())
      )
    )
  ) (fun (_) =>
    π.call (8 : Nat) #[] (false, [(false, [.ptr])]) fun ((p5, _), _) =>
    π.nw (Obj.map #[] (0 : Nat)) fun r6 =>
    π.loop [(false, [.ptr]), (false, [.map]), (false, [.slice]), (false, [.int .i64]), (false, [.int .i64])] ((p5, ()), (some r6, ()), ((a, an, ac), ()), ((↑an : Int), ()), ((0 : Int), ()), ()) fun ((p8, _), ((m9 : Option Nat), _), (((a10 : Option Addr), (n11 : Nat), (c12 : Nat)), _), ((x13 : Int), _), ((x14 : Int), _), _) again7 =>
      π.ite (decide (x14 < x13)) (
        π.guard ((0 : Int) ≤ x14 ∧ x14 < (↑n11 : Int)) <|
        π.unSome (a10) fun p15 =>
        π.ld [.int .i64, .int .i64, .int .i64, .int .i64, .int .i64, .int .i64, .int .i64, .int .i64, .int .i64, .slice, .slice, .int .i64, .int .i64, .int .i64, .int .i64, .int .i64, .int .i64, .str, .str, .str, .str, .bool, .int .i64, .int .i64, .int .i64, .str, .slice, .int .i64, .int .i64, .str, .int .i64] (p15.add (x14.toNat * (31 : Nat))) fun ((x16 : Int), (x17 : Int), (x18 : Int), (x19 : Int), (x20 : Int), (x21 : Int), (x22 : Int), (x23 : Int), (x24 : Int), ((a25 : Option Addr), (n26 : Nat), (c27 : Nat)), ((a28 : Option Addr), (n29 : Nat), (c30 : Nat)), (x31 : Int), (x32 : Int), (x33 : Int), (x34 : Int), (x35 : Int), (x36 : Int), (t37 : ByteArray), (t38 : ByteArray), (t39 : ByteArray), (t40 : ByteArray), (b41 : Bool), (x42 : Int), (x43 : Int), (x44 : Int), (t45 : ByteArray), ((a46 : Option Addr), (n47 : Nat), (c48 : Nat)), (x49 : Int), (x50 : Int), (t51 : ByteArray), (x52 : Int), _) =>
        π.call (9 : Nat) #[(Go.Value.pointer (p8))] (false, [(true, [.int .i64, .int .i64, .slice])]) fun (((x53 : Int), (x54 : Int), ((a55 : Option Addr), (n56 : Nat), (c57 : Nat)), _), _) =>
        π.join [(false, [.ptr]), (false, [.map]), (true, [.int .i64, .int .i64, .int .i64, .int .i64, .int .i64, .int .i64, .int .i64, .int .i64, .int .i64, .slice, .slice, .int .i64, .int .i64, .int .i64, .int .i64, .int .i64, .int .i64, .str, .str, .str, .str, .bool, .int .i64, .int .i64, .int .i64, .str, .slice, .int .i64, .int .i64, .str, .int .i64]), (false, [.int .i64]), (true, [.int .i64, .int .i64, .int .i64, .int .i64, .int .i64, .int .i64, .int .i64, .int .i64, .bool]), (false, [.slice]), (false, [.int .i64]), (false, [.int .i64])] (fun J58 =>
          π.both (
            π.call (11 : Nat) #[(Go.Value.agg #[(Go.Value.int (IntKind.i64) (x17)), (Go.Value.int (IntKind.i64) (x18)), (Go.Value.int (IntKind.i64) (x19)), (Go.Value.int (IntKind.i64) (x20)), (Go.Value.int (IntKind.i64) (x21)), (Go.Value.int (IntKind.i64) (x22)), (Go.Value.int (IntKind.i64) (x23)), (Go.Value.int (IntKind.i64) (x24)), (Go.Value.slice (a25) (n26) (c27)), (Go.Value.slice (a28) (n29) (c30)), (Go.Value.int (IntKind.i64) (x31)), (Go.Value.int (IntKind.i64) (x32)), (Go.Value.int (IntKind.i64) (x33)), (Go.Value.int (IntKind.i64) (x34)), (Go.Value.int (IntKind.i64) (x35)), (Go.Value.int (IntKind.i64) (x36)), (Go.Value.string (t37)), (Go.Value.string (t38)), (Go.Value.string (t39)), (Go.Value.string (t40)), (Go.Value.bool (b41)), (Go.Value.int (IntKind.i64) (x42)), (Go.Value.int (IntKind.i64) (x43)), (Go.Value.int (IntKind.i64) (x44)), (Go.Value.string (t45)), (Go.Value.slice (a46) (n47) (c48)), (Go.Value.int (IntKind.i64) (x49)), (Go.Value.int (IntKind.i64) (x50)), (Go.Value.string (t51)), (Go.Value.int (IntKind.i64) (x52))])] (false, [(true, [.int .i64, .int .i64, .int .i64, .int .i64, .int .i64, .int .i64, .int .i64, .int .i64, .slice, .slice, .int .i64, .int .i64, .int .i64, .int .i64, .int .i64, .int .i64, .str, .str, .str, .str, .bool, .int .i64, .int .i64, .int .i64, .str, .slice, .int .i64, .int .i64, .str, .int .i64])]) fun (((x59 : Int), (x60 : Int), (x61 : Int), (x62 : Int), (x63 : Int), (x64 : Int), (x65 : Int), (x66 : Int), ((a67 : Option Addr), (n68 : Nat), (c69 : Nat)), ((a70 : Option Addr), (n71 : Nat), (c72 : Nat)), (x73 : Int), (x74 : Int), (x75 : Int), (x76 : Int), (x77 : Int), (x78 : Int), (t79 : ByteArray), (t80 : ByteArray), (t81 : ByteArray), (t82 : ByteArray), (b83 : Bool), (x84 : Int), (x85 : Int), (x86 : Int), (t87 : ByteArray), ((a88 : Option Addr), (n89 : Nat), (c90 : Nat)), (x91 : Int), (x92 : Int), (t93 : ByteArray), (x94 : Int), _), _) =>
            π.both (
              π.call (10 : Nat) #[(Go.Value.pointer (p8)), (Go.Value.int (IntKind.i64) (x16)), (Go.Value.agg #[(Go.Value.int (IntKind.i64) (x59)), (Go.Value.int (IntKind.i64) (x60)), (Go.Value.int (IntKind.i64) (x61)), (Go.Value.int (IntKind.i64) (x62)), (Go.Value.int (IntKind.i64) (x63)), (Go.Value.int (IntKind.i64) (x64)), (Go.Value.int (IntKind.i64) (x65)), (Go.Value.int (IntKind.i64) (x66)), (Go.Value.slice (a67) (n68) (c69)), (Go.Value.slice (a70) (n71) (c72)), (Go.Value.int (IntKind.i64) (x73)), (Go.Value.int (IntKind.i64) (x74)), (Go.Value.int (IntKind.i64) (x75)), (Go.Value.int (IntKind.i64) (x76)), (Go.Value.int (IntKind.i64) (x77)), (Go.Value.int (IntKind.i64) (x78)), (Go.Value.string (t79)), (Go.Value.string (t80)), (Go.Value.string (t81)), (Go.Value.string (t82)), (Go.Value.bool (b83)), (Go.Value.int (IntKind.i64) (x84)), (Go.Value.int (IntKind.i64) (x85)), (Go.Value.int (IntKind.i64) (x86)), (Go.Value.string (t87)), (Go.Value.slice (a88) (n89) (c90)), (Go.Value.int (IntKind.i64) (x91)), (Go.Value.int (IntKind.i64) (x92)), (Go.Value.string (t93)), (Go.Value.int (IntKind.i64) (x94))])] (false, [(true, [.int .i64, .int .i64, .int .i64, .int .i64, .int .i64, .int .i64, .int .i64, .int .i64, .bool])]) fun (((x95 : Int), (x96 : Int), (x97 : Int), (x98 : Int), (x99 : Int), (x100 : Int), (x101 : Int), (x102 : Int), (b103 : Bool), _), _) =>
              J58 ((p8, ()), (m9, ()), (x16, x17, x18, x19, x20, x21, x22, x23, x24, (a25, n26, c27), (a28, n29, c30), x31, x32, x33, x34, x35, x36, t37, t38, t39, t40, b41, x42, x43, x44, t45, (a46, n47, c48), x49, x50, t51, x52, ()), (x53, ()), (x95, x96, x97, x98, x99, x100, x101, x102, b103, ()), ((a10, n11, c12), ()), (x13, ()), (x14, ()), ())
            ) (
              π.call (10 : Nat) #[(Go.Value.pointer (p8)), (Go.Value.int (IntKind.i64) (x16)), (Go.Value.agg #[(Go.Value.int (IntKind.i64) (x59)), (Go.Value.int (IntKind.i64) (x60)), (Go.Value.int (IntKind.i64) (x61)), (Go.Value.int (IntKind.i64) (x62)), (Go.Value.int (IntKind.i64) (x63)), (Go.Value.int (IntKind.i64) (x64)), (Go.Value.int (IntKind.i64) (x65)), (Go.Value.int (IntKind.i64) (x66)), (Go.Value.slice (a67) (n68) (c69)), (Go.Value.slice (a70) (n71) (c72)), (Go.Value.int (IntKind.i64) (x73)), (Go.Value.int (IntKind.i64) (x74)), (Go.Value.int (IntKind.i64) (x75)), (Go.Value.int (IntKind.i64) (x76)), (Go.Value.int (IntKind.i64) (x77)), (Go.Value.int (IntKind.i64) (x78)), (Go.Value.string (t79)), (Go.Value.string (t80)), (Go.Value.string (t81)), (Go.Value.string (t82)), (Go.Value.bool (b83)), (Go.Value.int (IntKind.i64) (x84)), (Go.Value.int (IntKind.i64) (x85)), (Go.Value.int (IntKind.i64) (x86)), (Go.Value.string (t87)), (Go.Value.slice (a88) (n89) (c90)), (Go.Value.int (IntKind.i64) (x91)), (Go.Value.int (IntKind.i64) (x92)), (Go.Value.string (t93)), (Go.Value.int (IntKind.i64) (x94))])] (false, [(true, [.int .i64, .int .i64, .int .i64, .int .i64, .int .i64, .int .i64, .int .i64, .int .i64, .bool])]) fun (((x104 : Int), (x105 : Int), (x106 : Int), (x107 : Int), (x108 : Int), (x109 : Int), (x110 : Int), (x111 : Int), (b112 : Bool), _), _) =>
              J58 ((p8, ()), (m9, ()), (x16, x17, x18, x19, x20, x21, x22, x23, x24, (a25, n26, c27), (a28, n29, c30), x31, x32, x33, x34, x35, x36, t37, t38, t39, t40, b41, x42, x43, x44, t45, (a46, n47, c48), x49, x50, t51, x52, ()), (x53, ()), (x104, x105, x106, x107, x108, x109, x110, x111, b112, ()), ((a10, n11, c12), ()), (x13, ()), (x14, ()), ())
            )
          ) (
            π.call (11 : Nat) #[(Go.Value.agg #[(Go.Value.int (IntKind.i64) (x17)), (Go.Value.int (IntKind.i64) (x18)), (Go.Value.int (IntKind.i64) (x19)), (Go.Value.int (IntKind.i64) (x20)), (Go.Value.int (IntKind.i64) (x21)), (Go.Value.int (IntKind.i64) (x22)), (Go.Value.int (IntKind.i64) (x23)), (Go.Value.int (IntKind.i64) (x24)), (Go.Value.slice (a25) (n26) (c27)), (Go.Value.slice (a28) (n29) (c30)), (Go.Value.int (IntKind.i64) (x31)), (Go.Value.int (IntKind.i64) (x32)), (Go.Value.int (IntKind.i64) (x33)), (Go.Value.int (IntKind.i64) (x34)), (Go.Value.int (IntKind.i64) (x35)), (Go.Value.int (IntKind.i64) (x36)), (Go.Value.string (t37)), (Go.Value.string (t38)), (Go.Value.string (t39)), (Go.Value.string (t40)), (Go.Value.bool (b41)), (Go.Value.int (IntKind.i64) (x42)), (Go.Value.int (IntKind.i64) (x43)), (Go.Value.int (IntKind.i64) (x44)), (Go.Value.string (t45)), (Go.Value.slice (a46) (n47) (c48)), (Go.Value.int (IntKind.i64) (x49)), (Go.Value.int (IntKind.i64) (x50)), (Go.Value.string (t51)), (Go.Value.int (IntKind.i64) (x52))])] (false, [(true, [.int .i64, .int .i64, .int .i64, .int .i64, .int .i64, .int .i64, .int .i64, .int .i64, .slice, .slice, .int .i64, .int .i64, .int .i64, .int .i64, .int .i64, .int .i64, .str, .str, .str, .str, .bool, .int .i64, .int .i64, .int .i64, .str, .slice, .int .i64, .int .i64, .str, .int .i64])]) fun (((x113 : Int), (x114 : Int), (x115 : Int), (x116 : Int), (x117 : Int), (x118 : Int), (x119 : Int), (x120 : Int), ((a121 : Option Addr), (n122 : Nat), (c123 : Nat)), ((a124 : Option Addr), (n125 : Nat), (c126 : Nat)), (x127 : Int), (x128 : Int), (x129 : Int), (x130 : Int), (x131 : Int), (x132 : Int), (t133 : ByteArray), (t134 : ByteArray), (t135 : ByteArray), (t136 : ByteArray), (b137 : Bool), (x138 : Int), (x139 : Int), (x140 : Int), (t141 : ByteArray), ((a142 : Option Addr), (n143 : Nat), (c144 : Nat)), (x145 : Int), (x146 : Int), (t147 : ByteArray), (x148 : Int), _), _) =>
            π.call (10 : Nat) #[(Go.Value.pointer (p8)), (Go.Value.int (IntKind.i64) (x16)), (Go.Value.agg #[(Go.Value.int (IntKind.i64) (x113)), (Go.Value.int (IntKind.i64) (x114)), (Go.Value.int (IntKind.i64) (x115)), (Go.Value.int (IntKind.i64) (x116)), (Go.Value.int (IntKind.i64) (x117)), (Go.Value.int (IntKind.i64) (x118)), (Go.Value.int (IntKind.i64) (x119)), (Go.Value.int (IntKind.i64) (x120)), (Go.Value.slice (a121) (n122) (c123)), (Go.Value.slice (a124) (n125) (c126)), (Go.Value.int (IntKind.i64) (x127)), (Go.Value.int (IntKind.i64) (x128)), (Go.Value.int (IntKind.i64) (x129)), (Go.Value.int (IntKind.i64) (x130)), (Go.Value.int (IntKind.i64) (x131)), (Go.Value.int (IntKind.i64) (x132)), (Go.Value.string (t133)), (Go.Value.string (t134)), (Go.Value.string (t135)), (Go.Value.string (t136)), (Go.Value.bool (b137)), (Go.Value.int (IntKind.i64) (x138)), (Go.Value.int (IntKind.i64) (x139)), (Go.Value.int (IntKind.i64) (x140)), (Go.Value.string (t141)), (Go.Value.slice (a142) (n143) (c144)), (Go.Value.int (IntKind.i64) (x145)), (Go.Value.int (IntKind.i64) (x146)), (Go.Value.string (t147)), (Go.Value.int (IntKind.i64) (x148))])] (false, [(true, [.int .i64, .int .i64, .int .i64, .int .i64, .int .i64, .int .i64, .int .i64, .int .i64, .bool])]) fun (((x149 : Int), (x150 : Int), (x151 : Int), (x152 : Int), (x153 : Int), (x154 : Int), (x155 : Int), (x156 : Int), (b157 : Bool), _), _) =>
            J58 ((p8, ()), (m9, ()), (x16, x17, x18, x19, x20, x21, x22, x23, x24, (a25, n26, c27), (a28, n29, c30), x31, x32, x33, x34, x35, x36, t37, t38, t39, t40, b41, x42, x43, x44, t45, (a46, n47, c48), x49, x50, t51, x52, ()), (x53, ()), (x149, x150, x151, x152, x153, x154, x155, x156, b157, ()), ((a10, n11, c12), ()), (x13, ()), (x14, ()), ())
          )
        ) (fun ((p158, _), ((m159 : Option Nat), _), ((x160 : Int), (x161 : Int), (x162 : Int), (x163 : Int), (x164 : Int), (x165 : Int), (x166 : Int), (x167 : Int), (x168 : Int), ((a169 : Option Addr), (n170 : Nat), (c171 : Nat)), ((a172 : Option Addr), (n173 : Nat), (c174 : Nat)), (x175 : Int), (x176 : Int), (x177 : Int), (x178 : Int), (x179 : Int), (x180 : Int), (t181 : ByteArray), (t182 : ByteArray), (t183 : ByteArray), (t184 : ByteArray), (b185 : Bool), (x186 : Int), (x187 : Int), (x188 : Int), (t189 : ByteArray), ((a190 : Option Addr), (n191 : Nat), (c192 : Nat)), (x193 : Int), (x194 : Int), (t195 : ByteArray), (x196 : Int), _), ((x197 : Int), _), ((x198 : Int), (x199 : Int), (x200 : Int), (x201 : Int), (x202 : Int), (x203 : Int), (x204 : Int), (x205 : Int), (b206 : Bool), _), (((a207 : Option Addr), (n208 : Nat), (c209 : Nat)), _), ((x210 : Int), _), ((x211 : Int), _), _) =>
          π.join [(false, [.ptr]), (false, [.map]), (false, [.int .i64]), (false, [.slice]), (false, [.int .i64]), (false, [.int .i64])] (fun J212 =>
            π.join [(false, [.ptr]), (false, [.map]), (true, [.int .i64, .int .i64, .int .i64, .int .i64, .int .i64, .int .i64, .int .i64, .int .i64, .int .i64, .slice, .slice, .int .i64, .int .i64, .int .i64, .int .i64, .int .i64, .int .i64, .str, .str, .str, .str, .bool, .int .i64, .int .i64, .int .i64, .str, .slice, .int .i64, .int .i64, .str, .int .i64]), (false, [.int .i64]), (false, [.slice]), (false, [.int .i64]), (false, [.int .i64]), (false, [.bool])] (fun J213 =>
              π.ite (decide (x161 ≥ (12 : Int))) (
                π.ite (x161 != (15 : Int)) (
                  J213 ((p158, ()), (m159, ()), (x160, x161, x162, x163, x164, x165, x166, x167, x168, (a169, n170, c171), (a172, n173, c174), x175, x176, x177, x178, x179, x180, t181, t182, t183, t184, b185, x186, x187, x188, t189, (a190, n191, c192), x193, x194, t195, x196, ()), (x197, ()), ((a207, n208, c209), ()), (x210, ()), (x211, ()), (b206, ()), ())
                ) (
                  J213 ((p158, ()), (m159, ()), (x160, x161, x162, x163, x164, x165, x166, x167, x168, (a169, n170, c171), (a172, n173, c174), x175, x176, x177, x178, x179, x180, t181, t182, t183, t184, b185, x186, x187, x188, t189, (a190, n191, c192), x193, x194, t195, x196, ()), (x197, ()), ((a207, n208, c209), ()), (x210, ()), (x211, ()), (false, ()), ())
                )
              ) (
                J213 ((p158, ()), (m159, ()), (x160, x161, x162, x163, x164, x165, x166, x167, x168, (a169, n170, c171), (a172, n173, c174), x175, x176, x177, x178, x179, x180, t181, t182, t183, t184, b185, x186, x187, x188, t189, (a190, n191, c192), x193, x194, t195, x196, ()), (x197, ()), ((a207, n208, c209), ()), (x210, ()), (x211, ()), (false, ()), ())
              )
            ) (fun ((p214, _), ((m215 : Option Nat), _), ((x216 : Int), (x217 : Int), (x218 : Int), (x219 : Int), (x220 : Int), (x221 : Int), (x222 : Int), (x223 : Int), (x224 : Int), ((a225 : Option Addr), (n226 : Nat), (c227 : Nat)), ((a228 : Option Addr), (n229 : Nat), (c230 : Nat)), (x231 : Int), (x232 : Int), (x233 : Int), (x234 : Int), (x235 : Int), (x236 : Int), (t237 : ByteArray), (t238 : ByteArray), (t239 : ByteArray), (t240 : ByteArray), (b241 : Bool), (x242 : Int), (x243 : Int), (x244 : Int), (t245 : ByteArray), ((a246 : Option Addr), (n247 : Nat), (c248 : Nat)), (x249 : Int), (x250 : Int), (t251 : ByteArray), (x252 : Int), _), ((x253 : Int), _), (((a254 : Option Addr), (n255 : Nat), (c256 : Nat)), _), ((x257 : Int), _), ((x258 : Int), _), ((b259 : Bool), _), _) =>
              π.ite (b259) (
                π.call (13 : Nat) #[(Go.Value.pointer (p214))] (false, [(true, [.int .i64, .int .i64, .slice, .slice, .slice])]) fun (((x260 : Int), (x261 : Int), ((a262 : Option Addr), (n263 : Nat), (c264 : Nat)), ((a265 : Option Addr), (n266 : Nat), (c267 : Nat)), ((a268 : Option Addr), (n269 : Nat), (c270 : Nat)), _), _) =>
                π.call (12 : Nat) #[(Go.Value.agg #[(Go.Value.int (IntKind.i64) (x260)), (Go.Value.int (IntKind.i64) (x261)), (Go.Value.slice (a262) (n263) (c264)), (Go.Value.slice (a265) (n266) (c267)), (Go.Value.slice (a268) (n269) (c270))])] (false, [(false, [.str])]) fun (((t271 : ByteArray), _), _) =>
                π.join [(false, [.ptr]), (false, [.map]), (false, [.int .i64]), (false, [.str]), (true, [.int .i64, .int .i64, .int .i64, .int .i64, .int .i64, .int .i64, .int .i64, .int .i64, .bool]), (false, [.slice]), (false, [.int .i64]), (false, [.int .i64])] (fun J272 =>
                  π.both (
                    π.call (11 : Nat) #[(Go.Value.agg #[(Go.Value.int (IntKind.i64) (x217)), (Go.Value.int (IntKind.i64) (x218)), (Go.Value.int (IntKind.i64) (x219)), (Go.Value.int (IntKind.i64) (x220)), (Go.Value.int (IntKind.i64) (x221)), (Go.Value.int (IntKind.i64) (x222)), (Go.Value.int (IntKind.i64) (x223)), (Go.Value.int (IntKind.i64) (x224)), (Go.Value.slice (a225) (n226) (c227)), (Go.Value.slice (a228) (n229) (c230)), (Go.Value.int (IntKind.i64) (x231)), (Go.Value.int (IntKind.i64) (x232)), (Go.Value.int (IntKind.i64) (x233)), (Go.Value.int (IntKind.i64) (x234)), (Go.Value.int (IntKind.i64) (x235)), (Go.Value.int (IntKind.i64) (x236)), (Go.Value.string (t237)), (Go.Value.string (t238)), (Go.Value.string (t239)), (Go.Value.string (t240)), (Go.Value.bool (b241)), (Go.Value.int (IntKind.i64) (x242)), (Go.Value.int (IntKind.i64) (x243)), (Go.Value.int (IntKind.i64) (x244)), (Go.Value.string (t245)), (Go.Value.slice (a246) (n247) (c248)), (Go.Value.int (IntKind.i64) (x249)), (Go.Value.int (IntKind.i64) (x250)), (Go.Value.string (t251)), (Go.Value.int (IntKind.i64) (x252))])] (false, [(true, [.int .i64, .int .i64, .int .i64, .int .i64, .int .i64, .int .i64, .int .i64, .int .i64, .slice, .slice, .int .i64, .int .i64, .int .i64, .int .i64, .int .i64, .int .i64, .str, .str, .str, .str, .bool, .int .i64, .int .i64, .int .i64, .str, .slice, .int .i64, .int .i64, .str, .int .i64])]) fun (((x273 : Int), (x274 : Int), (x275 : Int), (x276 : Int), (x277 : Int), (x278 : Int), (x279 : Int), (x280 : Int), ((a281 : Option Addr), (n282 : Nat), (c283 : Nat)), ((a284 : Option Addr), (n285 : Nat), (c286 : Nat)), (x287 : Int), (x288 : Int), (x289 : Int), (x290 : Int), (x291 : Int), (x292 : Int), (t293 : ByteArray), (t294 : ByteArray), (t295 : ByteArray), (t296 : ByteArray), (b297 : Bool), (x298 : Int), (x299 : Int), (x300 : Int), (t301 : ByteArray), ((a302 : Option Addr), (n303 : Nat), (c304 : Nat)), (x305 : Int), (x306 : Int), (t307 : ByteArray), (x308 : Int), _), _) =>
                    π.both (
                      π.call (10 : Nat) #[(Go.Value.pointer (p214)), (Go.Value.int (IntKind.i64) (x216)), (Go.Value.agg #[(Go.Value.int (IntKind.i64) (x273)), (Go.Value.int (IntKind.i64) (x274)), (Go.Value.int (IntKind.i64) (x275)), (Go.Value.int (IntKind.i64) (x276)), (Go.Value.int (IntKind.i64) (x277)), (Go.Value.int (IntKind.i64) (x278)), (Go.Value.int (IntKind.i64) (x279)), (Go.Value.int (IntKind.i64) (x280)), (Go.Value.slice (a281) (n282) (c283)), (Go.Value.slice (a284) (n285) (c286)), (Go.Value.int (IntKind.i64) (x287)), (Go.Value.int (IntKind.i64) (x288)), (Go.Value.int (IntKind.i64) (x289)), (Go.Value.int (IntKind.i64) (x290)), (Go.Value.int (IntKind.i64) (x291)), (Go.Value.int (IntKind.i64) (x292)), (Go.Value.string (t293)), (Go.Value.string (t294)), (Go.Value.string (t295)), (Go.Value.string (t296)), (Go.Value.bool (b297)), (Go.Value.int (IntKind.i64) (x298)), (Go.Value.int (IntKind.i64) (x299)), (Go.Value.int (IntKind.i64) (x300)), (Go.Value.string (t301)), (Go.Value.slice (a302) (n303) (c304)), (Go.Value.int (IntKind.i64) (x305)), (Go.Value.int (IntKind.i64) (x306)), (Go.Value.string (t307)), (Go.Value.int (IntKind.i64) (x308))])] (false, [(true, [.int .i64, .int .i64, .int .i64, .int .i64, .int .i64, .int .i64, .int .i64, .int .i64, .bool])]) fun (((x309 : Int), (x310 : Int), (x311 : Int), (x312 : Int), (x313 : Int), (x314 : Int), (x315 : Int), (x316 : Int), (b317 : Bool), _), _) =>
                      J272 ((p214, ()), (m215, ()), (x253, ()), (t271, ()), (x309, x310, x311, x312, x313, x314, x315, x316, b317, ()), ((a254, n255, c256), ()), (x257, ()), (x258, ()), ())
                    ) (
                      π.call (10 : Nat) #[(Go.Value.pointer (p214)), (Go.Value.int (IntKind.i64) (x216)), (Go.Value.agg #[(Go.Value.int (IntKind.i64) (x273)), (Go.Value.int (IntKind.i64) (x274)), (Go.Value.int (IntKind.i64) (x275)), (Go.Value.int (IntKind.i64) (x276)), (Go.Value.int (IntKind.i64) (x277)), (Go.Value.int (IntKind.i64) (x278)), (Go.Value.int (IntKind.i64) (x279)), (Go.Value.int (IntKind.i64) (x280)), (Go.Value.slice (a281) (n282) (c283)), (Go.Value.slice (a284) (n285) (c286)), (Go.Value.int (IntKind.i64) (x287)), (Go.Value.int (IntKind.i64) (x288)), (Go.Value.int (IntKind.i64) (x289)), (Go.Value.int (IntKind.i64) (x290)), (Go.Value.int (IntKind.i64) (x291)), (Go.Value.int (IntKind.i64) (x292)), (Go.Value.string (t293)), (Go.Value.string (t294)), (Go.Value.string (t295)), (Go.Value.string (t296)), (Go.Value.bool (b297)), (Go.Value.int (IntKind.i64) (x298)), (Go.Value.int (IntKind.i64) (x299)), (Go.Value.int (IntKind.i64) (x300)), (Go.Value.string (t301)), (Go.Value.slice (a302) (n303) (c304)), (Go.Value.int (IntKind.i64) (x305)), (Go.Value.int (IntKind.i64) (x306)), (Go.Value.string (t307)), (Go.Value.int (IntKind.i64) (x308))])] (false, [(true, [.int .i64, .int .i64, .int .i64, .int .i64, .int .i64, .int .i64, .int .i64, .int .i64, .bool])]) fun (((x318 : Int), (x319 : Int), (x320 : Int), (x321 : Int), (x322 : Int), (x323 : Int), (x324 : Int), (x325 : Int), (b326 : Bool), _), _) =>
                      J272 ((p214, ()), (m215, ()), (x253, ()), (t271, ()), (x318, x319, x320, x321, x322, x323, x324, x325, b326, ()), ((a254, n255, c256), ()), (x257, ()), (x258, ()), ())
                    )
                  ) (
                    π.call (11 : Nat) #[(Go.Value.agg #[(Go.Value.int (IntKind.i64) (x217)), (Go.Value.int (IntKind.i64) (x218)), (Go.Value.int (IntKind.i64) (x219)), (Go.Value.int (IntKind.i64) (x220)), (Go.Value.int (IntKind.i64) (x221)), (Go.Value.int (IntKind.i64) (x222)), (Go.Value.int (IntKind.i64) (x223)), (Go.Value.int (IntKind.i64) (x224)), (Go.Value.slice (a225) (n226) (c227)), (Go.Value.slice (a228) (n229) (c230)), (Go.Value.int (IntKind.i64) (x231)), (Go.Value.int (IntKind.i64) (x232)), (Go.Value.int (IntKind.i64) (x233)), (Go.Value.int (IntKind.i64) (x234)), (Go.Value.int (IntKind.i64) (x235)), (Go.Value.int (IntKind.i64) (x236)), (Go.Value.string (t237)), (Go.Value.string (t238)), (Go.Value.string (t239)), (Go.Value.string (t240)), (Go.Value.bool (b241)), (Go.Value.int (IntKind.i64) (x242)), (Go.Value.int (IntKind.i64) (x243)), (Go.Value.int (IntKind.i64) (x244)), (Go.Value.string (t245)), (Go.Value.slice (a246) (n247) (c248)), (Go.Value.int (IntKind.i64) (x249)), (Go.Value.int (IntKind.i64) (x250)), (Go.Value.string (t251)), (Go.Value.int (IntKind.i64) (x252))])] (false, [(true, [.int .i64, .int .i64, .int .i64, .int .i64, .int .i64, .int .i64, .int .i64, .int .i64, .slice, .slice, .int .i64, .int .i64, .int .i64, .int .i64, .int .i64, .int .i64, .str, .str, .str, .str, .bool, .int .i64, .int .i64, .int .i64, .str, .slice, .int .i64, .int .i64, .str, .int .i64])]) fun (((x327 : Int), (x328 : Int), (x329 : Int), (x330 : Int), (x331 : Int), (x332 : Int), (x333 : Int), (x334 : Int), ((a335 : Option Addr), (n336 : Nat), (c337 : Nat)), ((a338 : Option Addr), (n339 : Nat), (c340 : Nat)), (x341 : Int), (x342 : Int), (x343 : Int), (x344 : Int), (x345 : Int), (x346 : Int), (t347 : ByteArray), (t348 : ByteArray), (t349 : ByteArray), (t350 : ByteArray), (b351 : Bool), (x352 : Int), (x353 : Int), (x354 : Int), (t355 : ByteArray), ((a356 : Option Addr), (n357 : Nat), (c358 : Nat)), (x359 : Int), (x360 : Int), (t361 : ByteArray), (x362 : Int), _), _) =>
                    π.call (10 : Nat) #[(Go.Value.pointer (p214)), (Go.Value.int (IntKind.i64) (x216)), (Go.Value.agg #[(Go.Value.int (IntKind.i64) (x327)), (Go.Value.int (IntKind.i64) (x328)), (Go.Value.int (IntKind.i64) (x329)), (Go.Value.int (IntKind.i64) (x330)), (Go.Value.int (IntKind.i64) (x331)), (Go.Value.int (IntKind.i64) (x332)), (Go.Value.int (IntKind.i64) (x333)), (Go.Value.int (IntKind.i64) (x334)), (Go.Value.slice (a335) (n336) (c337)), (Go.Value.slice (a338) (n339) (c340)), (Go.Value.int (IntKind.i64) (x341)), (Go.Value.int (IntKind.i64) (x342)), (Go.Value.int (IntKind.i64) (x343)), (Go.Value.int (IntKind.i64) (x344)), (Go.Value.int (IntKind.i64) (x345)), (Go.Value.int (IntKind.i64) (x346)), (Go.Value.string (t347)), (Go.Value.string (t348)), (Go.Value.string (t349)), (Go.Value.string (t350)), (Go.Value.bool (b351)), (Go.Value.int (IntKind.i64) (x352)), (Go.Value.int (IntKind.i64) (x353)), (Go.Value.int (IntKind.i64) (x354)), (Go.Value.string (t355)), (Go.Value.slice (a356) (n357) (c358)), (Go.Value.int (IntKind.i64) (x359)), (Go.Value.int (IntKind.i64) (x360)), (Go.Value.string (t361)), (Go.Value.int (IntKind.i64) (x362))])] (false, [(true, [.int .i64, .int .i64, .int .i64, .int .i64, .int .i64, .int .i64, .int .i64, .int .i64, .bool])]) fun (((x363 : Int), (x364 : Int), (x365 : Int), (x366 : Int), (x367 : Int), (x368 : Int), (x369 : Int), (x370 : Int), (b371 : Bool), _), _) =>
                    J272 ((p214, ()), (m215, ()), (x253, ()), (t271, ()), (x363, x364, x365, x366, x367, x368, x369, x370, b371, ()), ((a254, n255, c256), ()), (x257, ()), (x258, ()), ())
                  )
                ) (fun ((p372, _), ((m373 : Option Nat), _), ((x374 : Int), _), ((t375 : ByteArray), _), ((x376 : Int), (x377 : Int), (x378 : Int), (x379 : Int), (x380 : Int), (x381 : Int), (x382 : Int), (x383 : Int), (b384 : Bool), _), (((a385 : Option Addr), (n386 : Nat), (c387 : Nat)), _), ((x388 : Int), _), ((x389 : Int), _), _) =>
                  π.ite (b384) (
                    π.ite (x376 == (0 : Int)) (
                      π.ret (Go.Value.bool (false))
                    ) (
                      π.call (13 : Nat) #[(Go.Value.pointer (p372))] (false, [(true, [.int .i64, .int .i64, .slice, .slice, .slice])]) fun (((x390 : Int), (x391 : Int), ((a392 : Option Addr), (n393 : Nat), (c394 : Nat)), ((a395 : Option Addr), (n396 : Nat), (c397 : Nat)), ((a398 : Option Addr), (n399 : Nat), (c400 : Nat)), _), _) =>
                      π.call (12 : Nat) #[(Go.Value.agg #[(Go.Value.int (IntKind.i64) (x390)), (Go.Value.int (IntKind.i64) (x391)), (Go.Value.slice (a392) (n393) (c394)), (Go.Value.slice (a395) (n396) (c397)), (Go.Value.slice (a398) (n399) (c400))])] (false, [(false, [.str])]) fun (((t401 : ByteArray), _), _) =>
                      π.ite (!t401.toList == t375.toList) (
                        π.ret (Go.Value.bool (false))
                      ) (
                        J212 ((p372, ()), (m373, ()), (x374, ()), ((a385, n386, c387), ()), (x388, ()), (x389, ()), ())
                      )
                    )
                  ) (
                    π.call (13 : Nat) #[(Go.Value.pointer (p372))] (false, [(true, [.int .i64, .int .i64, .slice, .slice, .slice])]) fun (((x402 : Int), (x403 : Int), ((a404 : Option Addr), (n405 : Nat), (c406 : Nat)), ((a407 : Option Addr), (n408 : Nat), (c409 : Nat)), ((a410 : Option Addr), (n411 : Nat), (c412 : Nat)), _), _) =>
                    π.call (12 : Nat) #[(Go.Value.agg #[(Go.Value.int (IntKind.i64) (x402)), (Go.Value.int (IntKind.i64) (x403)), (Go.Value.slice (a404) (n405) (c406)), (Go.Value.slice (a407) (n408) (c409)), (Go.Value.slice (a410) (n411) (c412))])] (false, [(false, [.str])]) fun (((t413 : ByteArray), _), _) =>
                    π.ite (!t413.toList == t375.toList) (
                      π.ret (Go.Value.bool (false))
                    ) (
                      J212 ((p372, ()), (m373, ()), (x374, ()), ((a385, n386, c387), ()), (x388, ()), (x389, ()), ())
                    )
                  )
                )
              ) (
                J212 ((p214, ()), (m215, ()), (x253, ()), ((a254, n255, c256), ()), (x257, ()), (x258, ()), ())
              )
            )
          ) (fun ((p414, _), ((m415 : Option Nat), _), ((x416 : Int), _), (((a417 : Option Addr), (n418 : Nat), (c419 : Nat)), _), ((x420 : Int), _), ((x421 : Int), _), _) =>
            π.call (9 : Nat) #[(Go.Value.pointer (p414))] (false, [(true, [.int .i64, .int .i64, .slice])]) fun (((x422 : Int), (x423 : Int), ((a424 : Option Addr), (n425 : Nat), (c426 : Nat)), _), _) =>
            π.ite (decide (x422 < x416)) (
              π.ret (Go.Value.bool (false))
            ) (
              π.call (14 : Nat) #[(Go.Value.pointer (p414))] (false, [(false, [.slice])]) fun ((((a427 : Option Addr), (n428 : Nat), (c429 : Nat)), _), _) =>
              π.loop [(false, [.ptr]), (false, [.map]), (false, [.slice]), (false, [.int .i64]), (false, [.int .i64]), (false, [.slice]), (false, [.int .i64]), (false, [.int .i64])] ((p414, ()), (m415, ()), ((a417, n418, c419), ()), (x420, ()), (x421, ()), ((a427, n428, c429), ()), ((↑n428 : Int), ()), ((0 : Int), ()), ()) fun ((p431, _), ((m432 : Option Nat), _), (((a433 : Option Addr), (n434 : Nat), (c435 : Nat)), _), ((x436 : Int), _), ((x437 : Int), _), (((a438 : Option Addr), (n439 : Nat), (c440 : Nat)), _), ((x441 : Int), _), ((x442 : Int), _), _) again430 =>
                π.ite (decide (x442 < x441)) (
                  π.guard ((0 : Int) ≤ x442 ∧ x442 < (↑n439 : Int)) <|
                  π.unSome (a438) fun p443 =>
                  π.ld [.int .i64, .int .i64, .int .i64, .int .i64, .int .i64, .int .i64, .str, .str, .str, .str, .bool, .int .i64, .int .i64, .int .i64, .str, .slice, .int .i64, .bool, .bool, .str, .int .i64, .int .i64] (p443.add (x442.toNat * (22 : Nat))) fun ((x444 : Int), (x445 : Int), (x446 : Int), (x447 : Int), (x448 : Int), (x449 : Int), (t450 : ByteArray), (t451 : ByteArray), (t452 : ByteArray), (t453 : ByteArray), (b454 : Bool), (x455 : Int), (x456 : Int), (x457 : Int), (t458 : ByteArray), ((a459 : Option Addr), (n460 : Nat), (c461 : Nat)), (x462 : Int), (b463 : Bool), (b464 : Bool), (t465 : ByteArray), (x466 : Int), (x467 : Int), _) =>
                  π.look (TypeDesc.int IntKind.i64) (m432) (Go.Value.int (IntKind.i64) (x444)) (Go.Value.int (IntKind.i64) ((0 : Int))) (false, [.int .i64]) fun ((x469 : Int), _) b468 =>
                  π.ite (b468) (
                    π.ite (x469 != x466) (
                      π.ret (Go.Value.bool (false))
                    ) (
                      π.ite (x466 != (0 : Int)) (
                        π.mset (TypeDesc.int IntKind.i64) (m432) (Go.Value.int (IntKind.i64) (x444)) (Go.Value.int (IntKind.i64) (x466)) <|
                        again430 ((p431, ()), (m432, ()), ((a433, n434, c435), ()), (x436, ()), (x437, ()), ((a438, n439, c440), ()), (x441, ()), (IntKind.i64.wrap (x442 + (1 : Int)), ()), ())
                      ) (
                        again430 ((p431, ()), (m432, ()), ((a433, n434, c435), ()), (x436, ()), (x437, ()), ((a438, n439, c440), ()), (x441, ()), (IntKind.i64.wrap (x442 + (1 : Int)), ()), ())
                      )
                    )
                  ) (
                    π.ite (x466 != (0 : Int)) (
                      π.mset (TypeDesc.int IntKind.i64) (m432) (Go.Value.int (IntKind.i64) (x444)) (Go.Value.int (IntKind.i64) (x466)) <|
                      again430 ((p431, ()), (m432, ()), ((a433, n434, c435), ()), (x436, ()), (x437, ()), ((a438, n439, c440), ()), (x441, ()), (IntKind.i64.wrap (x442 + (1 : Int)), ()), ())
                    ) (
                      again430 ((p431, ()), (m432, ()), ((a433, n434, c435), ()), (x436, ()), (x437, ()), ((a438, n439, c440), ()), (x441, ()), (IntKind.i64.wrap (x442 + (1 : Int)), ()), ())
                    )
                  )
                ) (
                  again7 ((p431, ()), (m432, ()), ((a433, n434, c435), ()), (x436, ()), (IntKind.i64.wrap (x437 + (1 : Int)), ()), ())
                )
            )
          )
        )
      ) (
        π.ret (Go.Value.bool (true))
      )
  )
def ann_BoardOnce : Ann := { draws := [(9, { A := [0, 1, 2, 3, 4], chkL := [(5, [2])] }), (12, { A := [0, 1, 2, 3, 4], chkL := [(5, [2])] })], join := [(3, []), (10, [(3, 25), (4, 27), (6, 41), (7, 3), (8, 47), (24, 22), (25, 3), (26, 3)]), (11, [(3, 25), (4, 27), (6, 41), (7, 3), (24, 22), (25, 3), (26, 3), (53, 4)]), (13, [(3, 25), (4, 27), (7, 3), (9, 9), (10, 47), (24, 22), (25, 3), (26, 3)]), (15, [(3, 25), (4, 27), (7, 3), (24, 22), (25, 3), (26, 3)])], loop := [(6, [(3, 25), (4, 27), (24, 22), (25, 3), (26, 3)]), (18, [(3, 25), (4, 27), (24, 22), (25, 3), (26, 3), (84, 52), (85, 3), (86, 3)])] }
def la_BoardOnce : LA := { ptr := [(6, 6, 0), (8, 8, 0), (10, 10, 0), (12, 12, 0), (34, 6, 0), (36, 6, 1), (40, 6, 1), (41, 6, 1), (45, 6, 1), (46, 6, 1), (51, 8, 8), (58, 6, 0), (60, 6, 1), (64, 10, 8), (67, 10, 0), (92, 12, 0), (100, 12, 20), (104, 12, 20), (108, 12, 0), (110, 12, 20)], ty := [(6, 41), (8, 47), (10, 47), (12, 58)] }
set_option maxRecDepth 100000 in
theorem eq_BoardOnce {W : Type} (π : Prims W) (a : Option Addr) (an ac : Nat) : bodyL π Tryz.prog la_BoardOnce ann_BoardOnce (mkFr (maskA [] [.v (.slice a an ac)] 0) 114) Tryz.f3 (bodyOf Tryz.f3) (mkFr (List.map some [.v (.slice a an ac)]) 114) = vc_BoardOnce π a an ac := by kernel_rfl
theorem ok_BoardOnce (a : Option Addr) (an ac : Nat) (R : Value → PH → Prop) (s : PH) (h : vc_BoardOnce (RP Tryz.prog R) a an ac s) : DCalls Tryz.prog 3 (List.map AV.val [.v (.slice a an ac)]).toArray s R :=
  calls_vcL (c := bodyOf Tryz.f3) (ann := ann_BoardOnce) la_BoardOnce (by kernel_rfl) Tryz.func3 rfl (by kernel_rfl) [.v (.slice a an ac)] [] (by rw [Tryz.ntmps3]; exact Nat.le_of_ble_eq_true rfl) (by kernel_rfl) (by rw [show Tryz.f3.ntmps = 114 from Tryz.ntmps3, eq_BoardOnce]; exact h)
end Go.Proofs.YthepfbcgpbkbdaaGreat
end
section
set_option linter.unusedVariables false
set_option linter.unusedSimpArgs false
set_option maxHeartbeats 2000000
set_option maxRecDepth 100000
namespace Go.Proofs.YthepfbcgpbkbdaaGreat
open Fw Go
attribute [-simp] Fw.W.ld_iff Fw.W.st_iff
structure Ddl.Sm (D : Ddl) : Prop where
  table : D.table.size ≤ 281474976710656
  name : D.name.size ≤ 281474976710656
  column : D.column.size ≤ 281474976710656
  parent : D.parent.size ≤ 281474976710656
  dflt : D.dflt.s.size ≤ 281474976710656
  cols : ∀ c ∈ D.cols, c.Sm
  few : D.cols.length ≤ 1000
def encD (D : Ddl) : ByteArray := num D.kind ++ txt D.table ++ txt D.name ++ txt D.column ++ txt D.parent ++ flagB D.unique ++ num D.type ++ encV D.dflt ++ encCols D.cols
theorem encD_size {D : Ddl} (h : D.Sm) : (encD D).size ≤ 1407374883553780 + D.cols.length * 1125899906842624 := by
  have h1 := num_size D.kind
  have h2 := txt_size D.table
  have h3 := txt_size D.name
  have h4 := txt_size D.column
  have h5 := txt_size D.parent
  have h6 := flag_size D.unique
  have h7 := num_size D.type
  have h8 := encV_size D.dflt
  have h9 := encCols_size h.cols
  obtain ⟨g1, g2, g3, g4, g5, _, _⟩ := h
  unfold encD
  simp only [size_app]
  omega
theorem c_tid (y1 y2 y3 : Int) (s : PH) : DCalls Tryz.prog 34 #[.agg #[.int .i64 y1, .int .i64 y2, .int .i64 y3]] s fun y s' => y = .string (numsB [y1, y2, y3]) ∧ s' = s := by
  refine DCalls.quiet (ok_tid y1 y2 y3 _ s ?_)
  unfold vc_tid
  simp only [RP_nw]
  refine W.nw_of fun r s1 hr m1 k1 => ?_
  refine callq ((numsB [y1, y2, y3], ()), ()) (c_nums (l := [y1, y2, y3]) (nums_lit (l := [y1, y2, y3]) k1) (by simp)) rfl ?_
  exact ⟨rfl, m1⟩
theorem c_encD {s : PH} {D : Ddl} {u : Tri} (hD : D.Sm) (hu : Sl colE s u D.cols) : DCalls Tryz.prog 35 #[ddlV D u] s fun y s' => y = .string (encD D) ∧ s' = s := by
  refine ok_encD D.kind D.table D.name D.column D.parent D.unique D.type D.dflt.kind D.dflt.n D.dflt.s u.1 u.2.1 u.2.2 _ s ?_
  unfold vc_encD
  have h1 := num_size D.kind
  have h2 := txt_size D.table
  have h3 := txt_size D.name
  have h4 := txt_size D.column
  have h5 := txt_size D.parent
  have h6 := flag_size D.unique
  have h7 := num_size D.type
  have h8 := encV_size D.dflt
  have h9 := encCols_size hD.cols
  obtain ⟨g1, g2, g3, g4, g5, g6, hl⟩ := hD
  simp only [RP_callQ, RP_guard, RP_ret, W.guard_iff]
  refine W.callQ_of ((num D.kind, ()), ()) (c_Num _ s) rfl ?_
  refine W.callQ_of ((txt D.table, ()), ()) (c_text g1 s) rfl ?_
  refine ⟨by dsimp only; (try simp only [size_app]); omega, ?_⟩
  refine W.callQ_of ((txt D.name, ()), ()) (c_text g2 s) rfl ?_
  refine ⟨by dsimp only; (try simp only [size_app]); omega, ?_⟩
  refine W.callQ_of ((txt D.column, ()), ()) (c_text g3 s) rfl ?_
  refine ⟨by dsimp only; (try simp only [size_app]); omega, ?_⟩
  refine W.callQ_of ((txt D.parent, ()), ()) (c_text g4 s) rfl ?_
  refine ⟨by dsimp only; (try simp only [size_app]); omega, ?_⟩
  refine W.callQ_of ((flagB D.unique, ()), ()) (c_flag _ s) rfl ?_
  refine ⟨by dsimp only; (try simp only [size_app]); omega, ?_⟩
  refine W.callQ_of ((num D.type, ()), ()) (c_Num _ s) rfl ?_
  refine ⟨by dsimp only; (try simp only [size_app]); omega, ?_⟩
  refine W.callQ_of ((encV D.dflt, ()), ()) (c_encV g5 s) rfl ?_
  refine ⟨by dsimp only; (try simp only [size_app]); omega, ?_⟩
  refine W.callQ_of ((encCols D.cols, ()), ()) (c_encC hu hl g6) rfl ?_
  refine ⟨by dsimp only; (try simp only [size_app]); omega, ?_⟩
  exact ⟨rfl, rfl⟩
def encLse (t : ByteArray) (l : Lse) : ByteArray := t ++ numsB [l.node, l.ver, l.til]
def encJb (t : ByteArray) (j : Jb) : ByteArray := t ++ numsB [j.id, j.call] ++ numsB [j.y1, j.y2, j.y3] ++ encD j.D ++ num j.phase ++ flagB j.back ++ flagB j.drain ++ txt j.mark ++ numsB [j.fin, j.why]
def encPl (P : Pl) : ByteArray := P.J.foldl encJb (P.L.foldl encLse (encS P.S ++ num P.L.length) ++ num P.J.length)
/-- jobs whose texts are no longer than a machine's -/
def JSm (J : List Jb) : Prop := ∀ j ∈ J, j.D.Sm ∧ j.mark.size ≤ 281474976710656
def jcost (J : List Jb) : Nat := (J.map fun j => 2 + j.D.cols.length).sum
theorem encLse_size (l : Lse) (t : ByteArray) : (encLse t l).size ≤ t.size + 30 := by
  have := numsB_size [l.node, l.ver, l.til]
  simp only [List.length_cons, List.length_nil] at this
  unfold encLse; simp only [size_app]; omega
theorem encJb_size {j : Jb} (h : j.D.Sm ∧ j.mark.size ≤ 281474976710656) (t : ByteArray) : (encJb t j).size ≤ t.size + (2 + j.D.cols.length) * 1125899906842624 := by
  have h1 := numsB_size [j.id, j.call]
  have h2 := numsB_size [j.y1, j.y2, j.y3]
  have h3 := encD_size h.1
  have h4 := num_size j.phase
  have h5 := flag_size j.back
  have h6 := flag_size j.drain
  have h7 := txt_size j.mark
  have h8 := numsB_size [j.fin, j.why]
  have h9 := h.2
  simp only [List.length_cons, List.length_nil] at h1 h2 h8
  unfold encJb; simp only [size_app]; omega
theorem encJbs_size : ∀ (l : List Jb) (t : ByteArray), JSm l → (l.foldl encJb t).size ≤ t.size + jcost l * 1125899906842624
  | [], t, _ => by simp [jcost]
  | j :: l, t, h => by
    have h1 := encJb_size (h j (by simp)) t
    have h2 := encJbs_size l (encJb t j) fun y hy => h y (List.mem_cons_of_mem _ hy)
    have e : jcost (j :: l) = (2 + j.D.cols.length) + jcost l := by simp [jcost]
    rw [e, Nat.add_mul]
    simp only [List.foldl_cons]
    omega
theorem jcost_take {l : List Jb} {k : Nat} {j : Jb} (h : l[k]? = some j) : jcost (l.take (k + 1)) = jcost (l.take k) + (2 + j.D.cols.length) := by
  unfold jcost; rw [List.take_add_one, h]; simp
theorem jcost_take_le (l : List Jb) (k : Nat) : jcost (l.take k) ≤ jcost l := by
  have := congrArg jcost (List.take_append_drop k l)
  unfold jcost at this ⊢
  simp only [List.map_append, List.sum_append] at this
  omega
theorem jcost_len (l : List Jb) : 2 * l.length ≤ jcost l := by
  induction l with
  | nil => simp
  | cons j l ih =>
    have e : jcost (j :: l) = (2 + j.D.cols.length) + jcost l := by simp [jcost]
    simp only [List.length_cons]; omega
theorem JDid.sm {c : Cm} {J J' : List Jb} (h : JDid c J J') (hJ : JSm J) (hD : c.D.Sm) (hm : c.mark.size ≤ 281474976710656) : JSm J' := by
  cases h with
  | same => exact hJ
  | snoc j h1 h2 h3 h4 =>
    intro x hx
    simp only [List.mem_append, List.mem_singleton] at hx
    rcases hx with hx | rfl
    · exact hJ x hx
    · refine ⟨by rw [h3]; exact hD, ?_⟩
      rw [h4]; exact Nat.zero_le _
  | set i j j' h1 h2 h3 h4 h5 h6 h7 =>
    intro x hx
    have hj := hJ j (List.mem_of_getElem? h1)
    rcases List.mem_or_eq_of_mem_set hx with hx | rfl
    · exact hJ x hx
    · refine ⟨by rw [h6]; exact hj.1, ?_⟩
      rcases h7 with h7 | h7 | h7 <;> rw [h7]
      · exact hj.2
      · exact Nat.zero_le _
      · exact hm
theorem sum_set {α : Type} (f : α → Nat) : ∀ (l : List α) (i : Nat) (x x' : α), l[i]? = some x → f x' = f x → ((l.set i x').map f).sum = (l.map f).sum
  | [], i, x, x', h, _ => by simp at h
  | y :: l, 0, x, x', h, e => by
    simp at h; subst h
    simp [e]
  | y :: l, i + 1, x, x', h, e => by
    have := sum_set f l i x x' (by simpa using h) e
    simp only [List.set_cons_succ, List.map_cons, List.sum_cons]; omega
theorem JDid.cost {c : Cm} {J J' : List Jb} (h : JDid c J J') : jcost J' ≤ jcost J + 2 + c.D.cols.length := by
  cases h with
  | same => omega
  | snoc j h1 h2 h3 h4 =>
    unfold jcost
    simp [h3]; omega
  | set i j j' h1 h2 h3 h4 h5 h6 h7 =>
    have : jcost (J.set i j') = jcost J := sum_set _ _ _ _ _ h1 (by rw [h6])
    omega
theorem BI.sm {s0 s : PH} {b : Nat} {P : Pl} (h : BI s0 s b P) : P.S.Sm := by
  obtain ⟨L, ⟨t, la, ja, ps, qs, rfl, h1⟩, h2, h3⟩ := h
  exact h1.sm
/-- a step beside: new blocks with numbers in them -/
def Lits (s0 s : PH) (L : List (Nat × List Int)) : Prop := Fw.Mod [] s0 s ∧ ∀ p ∈ L, s p.1 = some (.cells (p.2.map (Value.int .i64)).toArray 3 (0, 0))
theorem Lits.nw {s0 s : PH} {L : List (Nat × List Int)} (h : Lits s0 s L) (l : List Int) {cs : Array Value} (hc : cs = (l.map (Value.int .i64)).toArray) {K : Nat → W.T} (hK : ∀ r s', Lits s0 s' ((r, l) :: L) → K r s') : W.nw (.cells cs 3 (0, 0)) K s := by
  subst hc
  refine W.nw_of fun r s1 hr m1 k1 => hK r s1 ⟨h.1.trans m1, fun p hp => ?_⟩
  rcases List.mem_cons.1 hp with rfl | hp
  · exact k1
  · exact m1.at (h.2 p hp) (by simp)
theorem Lits.nums {s0 s : PH} {L : List (Nat × List Int)} (h : Lits s0 s L) {r : Nat} (l : List Int) (hp : (r, l) ∈ L) (hl : l.length ≤ 1000) {K : MDen [(false, [.str])] → W.T} (hK : K ((numsB l, ()), ()) s) {n : Nat} (hn : n = l.length) :
    W.call Tryz.prog 33 #[.slice (some ⟨r, 0, none⟩) n n] (false, [(false, [.str])]) K s := by
  subst hn
  exact callq ((numsB l, ()), ()) (c_nums (l := l) (nums_lit (l := l) (h.2 _ hp)) hl) rfl hK
theorem c_encPl {s0 s : PH} {P : Pl} {t la ja : Tri} (hc : Cop s0 s P t la ja) (hS : P.S.Sm) (hJ : JSm P.J) (hcost : jcost P.J ≤ 3000) (hL : P.L.length ≤ 1000000) :
    DCalls Tryz.prog 12 #[planV P t la ja] s fun y s' => y = .string (encPl P) ∧ s' = s := by
  obtain ⟨⟨ps, qs, hH, hte, hje, hjr, hjc⟩, hlr, _⟩ := hc
  obtain ⟨la1, ln, lc⟩ := la
  obtain ⟨ja1, jn, jc⟩ := ja
  refine DCalls.quiet (ok_encPl P.S.version P.S.last t.1 t.2.1 t.2.2 la1 ln lc ja1 jn jc _ s ?_)
  unfold vc_encPl
  have hlen := hlr.len
  have hjlen := hjr.len
  dsimp only at hlr hjr hlen hjlen
  have hjq : P.J.length = qs.length := by rw [hje, List.length_map]
  have hjl := jcost_len P.J
  have b0 : (encS P.S).size ≤ 1125899906842624000 + 1000 := by
    have h1 := encTabs_size P.S.tabs (numsB [P.S.version, P.S.last] ++ num P.S.tabs.length) hS.tabs
    have h2 := numsB_size [P.S.version, P.S.last]
    have h3 := num_size (P.S.tabs.length : Nat)
    have h4 : (P.S.tabs.map Tab.cost).sum ≤ 1000 := hS.cost
    simp only [List.length_cons, List.length_nil, size_app] at h1 h2
    unfold encS
    omega
  simp only [RP_callQ, RP_guard, RP_ret, RP_loop, RP_ite, RP_ld, RP_unSome, RP_nw, RP_call, RP_both]
  refine W.callQ_of ((encS P.S, ()), ()) (c_encS (hH.sm hte hS) hS) rfl ?_
  refine W.callQ_of ((num ln, ()), ()) (c_Num _ s) rfl ?_
  have b1 := num_size (ln : Nat)
  refine (W.guard_iff _ _ _).2 ⟨by dsimp only; omega, ?_⟩
  dsimp only
  obtain ⟨st, hst⟩ : ∃ st, st = encS P.S ++ num ln := ⟨_, rfl⟩
  have hsts : st.size ≤ 1125899906842624000 + 1010 := by rw [hst, size_app]; omega
  rw [← hst]
  refine ⟨fun z s' => ∃ k : Nat, z = ((P.S.version, P.S.last, t, (la1, ln, lc), (ja1, jn, jc), ()), ((P.L.take k).foldl encLse st, ()), ((k : Int), ()), ()) ∧ k ≤ ln ∧ Fw.Mod [] s s', fun z _ => ln - z.2.2.1.1.toNat, ⟨0, rfl, Nat.zero_le _, Mod.refl _ _⟩, ?_⟩
  rintro _ s1 ⟨k, rfl, hk, m1⟩
  have hlr1 := hlr.mod m1 (by simp)
  refine (W.br_iff _ _ _ _).2 ⟨fun hlt => ?_, fun hge => ?_⟩
  · have hlt : (k : Int) < (ln : Int) := of_decide_eq_true hlt
    obtain ⟨l, hl⟩ : ∃ l, P.L[k]? = some l := ⟨_, List.getElem?_eq_getElem (by omega)⟩
    obtain ⟨g, rfl, hh⟩ := hlr1.at hl
    have hh' : s1.has ⟨g, k * 3, none⟩ (lseE.f l) := hh
    have hsz := fold_size (f := encLse) (b := 30) (P.L.take k) st fun x hx t => encLse_size x t
    rw [List.length_take, show min k P.L.length = k by omega] at hsz
    have hfin := foldl_take encLse st hl
    generalize (P.L.take k).foldl encLse st = out at hsz hfin ⊢
    have b2 := numsB_size [l.node, l.ver, l.til]
    simp only [List.length_cons, List.length_nil] at b2
    dsimp only
    refine (W.guard_iff _ _ _).2 ⟨by omega, ?_⟩
    simp only [W.unSome_some, Int.toNat_natCast, add_mk, Nat.zero_add]
    refine ld_hasm (o := k * 3) (j := 0) hh' (cs := [.int .i64]) (y := (l.node, ())) rfl ?_
    refine (W.guard_iff _ _ _).2 ⟨by omega, ?_⟩
    simp only [W.unSome_some, Int.toNat_natCast, add_mk, Nat.zero_add]
    refine ld_hasm (o := k * 3) (j := 1) hh' (cs := [.int .i64]) (y := (l.ver, ())) rfl ?_
    refine (W.guard_iff _ _ _).2 ⟨by omega, ?_⟩
    simp only [W.unSome_some, Int.toNat_natCast, add_mk, Nat.zero_add]
    refine ld_hasm (o := k * 3) (j := 2) hh' (cs := [.int .i64]) (y := (l.til, ())) rfl ?_
    have hg : Lits s s1 [] := ⟨m1, by simp⟩
    refine hg.nw [l.node, l.ver, l.til] rfl fun r s2 h2 => ?_
    refine h2.nums [l.node, l.ver, l.til] (.head _) (by simp) ?_ rfl
    refine (W.guard_iff _ _ _).2 ⟨by dsimp only; omega, ?_⟩
    dsimp only
    rw [wrap_succ (k := k) (by omega)]
    refine ⟨⟨k + 1, ?_, by omega, h2.1⟩, by simp only [Int.toNat_natCast]; omega⟩
    rw [hfin]; (first | done | rfl)
  · have hge : ¬ (k : Int) < (ln : Int) := of_decide_eq_false hge
    rw [List.take_of_length_le (by omega)]
    have hsz := fold_size (f := encLse) (b := 30) P.L st fun x hx t => encLse_size x t
    have hend : encPl P = P.J.foldl encJb (P.L.foldl encLse st ++ num P.J.length) := by
      rw [hst]; unfold encPl; rw [hlen]
    obtain ⟨o1, ho1⟩ : ∃ o1, P.L.foldl encLse st = o1 := ⟨_, rfl⟩
    rw [ho1] at hsz hend ⊢
    refine callq ((num jn, ()), ()) (c_Num _ _) rfl ?_
    have b2 := num_size (jn : Nat)
    refine (W.guard_iff _ _ _).2 ⟨by dsimp only; omega, ?_⟩
    dsimp only
    obtain ⟨o2, ho2⟩ : ∃ o2, o2 = o1 ++ num jn := ⟨_, rfl⟩
    have hs2 : o2.size ≤ 1125899906842624000 + 1020 + 30 * 1000000 := by rw [ho2, size_app]; omega
    have hend : encPl P = P.J.foldl encJb o2 := by rw [hend, ho2, show P.J.length = jn by omega]
    rw [← ho2, hend]
    refine ⟨fun z s' => ∃ k : Nat, z = ((P.S.version, P.S.last, t, (la1, ln, lc), (ja1, jn, jc), ()), ((P.J.take k).foldl encJb o2, ()), ((k : Int), ()), ()) ∧ k ≤ jn ∧ Fw.Mod [] s s', fun z _ => jn - z.2.2.1.1.toNat, ⟨0, rfl, Nat.zero_le _, m1⟩, ?_⟩
    rintro _ s2 ⟨k, rfl, hk, m2⟩
    refine (W.br_iff _ _ _ _).2 ⟨fun hlt => ?_, fun hge => ?_⟩
    rotate_left
    · have hge : ¬ (k : Int) < (jn : Int) := of_decide_eq_false hge
      rw [List.take_of_length_le (by omega)]
      exact ⟨rfl, m2⟩
    have hlt : (k : Int) < (jn : Int) := of_decide_eq_true hlt
    obtain ⟨q, hq⟩ : ∃ q, qs[k]? = some q := ⟨_, List.getElem?_eq_getElem (by omega)⟩
    obtain ⟨j, u⟩ := q
    have hj : P.J[k]? = some j := by rw [hje, List.getElem?_map, hq]; (first | done | rfl)
    obtain ⟨g, rfl, hh⟩ := (hjr.mod m2 (by simp)).at hq
    have hh' : s2.has ⟨g, k * 22, none⟩ (jobE.f ⟨j, u⟩) := hh
    have hsz := encJbs_size (P.J.take k) o2 fun x hx => hJ x (List.mem_of_mem_take hx)
    have hct := jcost_take hj
    have hct2 := jcost_take_le P.J (k + 1)
    have hfin := foldl_take encJb o2 hj
    obtain ⟨C, hC⟩ : ∃ C, C = jcost (P.J.take k) := ⟨_, rfl⟩
    rw [← hC] at hsz hct
    generalize (P.J.take k).foldl encJb o2 = out at hsz hfin ⊢
    obtain ⟨hDs, hms⟩ := hJ j (List.mem_of_getElem? hj)
    have hcl := hjc ⟨j, u⟩ (List.mem_of_getElem? hq)
    dsimp only at hcl
    have d1 := numsB_size [j.id, j.call]
    have d2 := numsB_size [j.y1, j.y2, j.y3]
    have d3 := encD_size hDs
    have d4 := num_size j.phase
    have d5 := flag_size j.back
    have d6 := flag_size j.drain
    have d7 := txt_size j.mark
    have d8 := numsB_size [j.fin, j.why]
    simp only [List.length_cons, List.length_nil] at d1 d2 d8
    dsimp only
    refine (W.guard_iff _ _ _).2 ⟨by omega, ?_⟩
    simp only [W.unSome_some, Int.toNat_natCast, add_mk, Nat.zero_add]
    refine ld_has_z hh' (y := jobD j u) rfl ?_
    have hg : Lits s s2 [] := ⟨m2, by simp⟩
    have hDc : ∀ {s3 : PH} {L : List (Nat × List Int)}, Lits s s3 L → DCalls Tryz.prog 35 #[ddlV j.D u] s3 fun y s' => y = .string (encD j.D) ∧ s' = s3 := fun {s3 L} h3 =>
      c_encD hDs (Sl.of_row (hcl.1.mod h3.1 (by simp)) (by omega))
    have hagain : ∀ {s3 : PH} {L : List (Nat × List Int)}, Lits s s3 L →
        (fun (z : MDen [(true, [CT.int .i64, CT.int .i64, CT.slice, CT.slice, CT.slice]), (false, [CT.str]), (false, [CT.int .i64])]) s' => (∃ k : Nat, z = ((P.S.version, P.S.last, t, (la1, ln, lc), (some ⟨g, 0, none⟩, jn, jc), ()), ((P.J.take k).foldl encJb o2, ()), ((k : Int), ()), ()) ∧ k ≤ jn ∧ Fw.Mod [] s s') ∧ jn - z.2.2.1.1.toNat < jn - ((k : Nat) : Int).toNat)
          ((P.S.version, P.S.last, t, (la1, ln, lc), (some ⟨g, 0, none⟩, jn, jc), ()), (encJb out j, ()), (((k + 1 : Nat) : Int), ()), ()) s3 := fun {s3 L} h3 =>
      ⟨⟨k + 1, by rw [hfin], by omega, h3.1⟩, by simp only [Int.toNat_natCast]; omega⟩
    repeat' first
      | refine (W.guard_iff _ _ _).2 ⟨by (first | (dsimp only; omega) | (dsimp only; simp only [size_app]; omega)), ?_⟩
      | refine (W.both_iff _ _ _).2 ⟨?_, ?_⟩
      | refine Lits.nw (by assumption) [j.id, j.call] rfl fun r s3 h3 => ?_
      | refine Lits.nw (by assumption) [j.fin, j.why] rfl fun r s3 h3 => ?_
      | refine Lits.nums (by assumption) [j.id, j.call] (by first | exact .head _ | exact .tail _ (.head _)) (by simp) ?_ rfl
      | refine Lits.nums (by assumption) [j.fin, j.why] (by first | exact .head _ | exact .tail _ (.head _)) (by simp) ?_ rfl
      | refine callq ((numsB [j.y1, j.y2, j.y3], ()), ()) (c_tid _ _ _ _) rfl ?_
      | refine callq ((encD j.D, ()), ()) (hDc (by assumption)) rfl ?_
      | refine callq ((num j.phase, ()), ()) (c_Num _ _) rfl ?_
      | refine callq ((flagB j.back, ()), ()) (c_flag _ _) rfl ?_
      | refine callq ((flagB j.drain, ()), ()) (c_flag _ _) rfl ?_
      | refine callq ((txt j.mark, ()), ()) (c_text hms _) rfl ?_
      | (rw [wrap_succ (k := k) (by omega)]; exact hagain (by assumption))
end Go.Proofs.YthepfbcgpbkbdaaGreat
end
section
set_option linter.unusedVariables false
set_option linter.unusedSimpArgs false
set_option maxHeartbeats 2000000
set_option maxRecDepth 100000
namespace Go.Proofs.YthepfbcgpbkbdaaGreat
open Fw Go
attribute [-simp] Fw.W.ld_iff Fw.W.st_iff
theorem sl_openB {α : Type} {R : Rd α} {E : Enc α} {P : α → Prop} {bytes : Nat} {s : PH} {cs : List Value} {xs : List α} (hb : 48 ≤ bytes) (hz : R.sz = E.sz) (hi : ∀ cs x, R.is s cs x → cs = E.f x ∧ P x) (h : (Rd.sl R bytes).is s cs xs) :
    ∃ t : Tri, cs = [t.v] ∧ SlB E s t xs ∧ (∀ x ∈ xs, P x) ∧ xs.length * bytes ≤ 140737488355328 := by
  obtain ⟨t, h1, h2, h3⟩ := sl_open hb hz hi h
  obtain ⟨a, n, c, rfl, g1, g2, g3, g4⟩ := h
  refine ⟨t, h1, h2, h3, ?_⟩
  have hr : reachBytes = 140737488351232 := rfl
  have e := g4.1
  have : n * bytes ≤ c * bytes := Nat.mul_le_mul_right _ g1
  rw [← e]; omega
theorem rdDdl_sm {s : PH} {cs : List Value} {D : Ddl} (h : rdDdl.is s cs D) : ∃ t : Tri, cs = [.int .i64 D.kind, .string D.table, .string D.name, .string D.column, .string D.parent, .bool D.unique, .int .i64 D.type, .int .i64 D.dflt.kind, .int .i64 D.dflt.n, .string D.dflt.s, .slice t.1 t.2.1 t.2.2] ∧
    SlB colE s t D.cols ∧ D.cols.length * 72 ≤ 140737488355328 ∧ (D.cols.length ≤ 1000 → D.Sm) := by
  obtain ⟨x, rfl, c1, c2, rfl, ⟨rfl, _⟩, d1, d2, rfl, ⟨rfl, z1⟩, e1, e2, rfl, ⟨rfl, z2⟩, f1, f2, rfl, ⟨rfl, z3⟩, g1, g2, rfl, ⟨rfl, z4⟩, i1, i2, rfl, rfl, j1, j2, rfl, ⟨rfl, _⟩, k1, k2, rfl, hv, l1, l2, rfl, hc, rfl⟩ := h
  obtain ⟨rfl, z5⟩ := rdVal_is hv
  obtain ⟨t, rfl, k, hp, hb⟩ := sl_openB (by omega) rfl (fun cs x hx => rdCol_is hx) hc
  exact ⟨t, rfl, k, hb, fun hl => ⟨Nat.le_trans z1 rsz, Nat.le_trans z2 rsz, Nat.le_trans z3 rsz, Nat.le_trans z4 rsz, z5, hp, hl⟩⟩
theorem rdOpB_sm {s : PH} {cs : List Value} {o : OpB} (h : rdOpB.is s cs o) : ∃ u : Tri, cs = opCells o u ∧ SlB colE s u o.k.c.D.cols ∧ o.k.c.D.cols.length * 72 ≤ 140737488355328 ∧ (o.k.c.D.cols.length ≤ 1000 → o.k.c.D.Sm) ∧ o.k.c.mark.size ≤ 281474976710656 := by
  obtain ⟨⟨a, k, _⟩, rfl, c1, c2, rfl, ⟨rfl, w1⟩, c3, c4, rfl, ⟨⟨kind, ⟨y1, y2, y3, _⟩, ⟨x1, x2, x3, _⟩, ho, r, w, mi, un, ts, ver, call, D, job, phase, mark, why, _⟩, rfl, d1, d2, rfl, ⟨rfl, _⟩, e1, e2, rfl, ⟨t1, t2, rfl, ⟨rfl, _⟩, t3, t4, rfl, ⟨rfl, _⟩, t5, t6, rfl, ⟨rfl, _⟩, rfl⟩,
    f1, f2, rfl, ⟨v1, v2, rfl, ⟨rfl, _⟩, v3, v4, rfl, ⟨rfl, _⟩, v5, v6, rfl, ⟨rfl, _⟩, rfl⟩, g1, g2, rfl, ⟨rfl, _⟩, h1, h2, rfl, rfl, i1, i2, rfl, rfl, j1, j2, rfl, ⟨rfl, _⟩, k1, k2, rfl, ⟨rfl, _⟩, l1, l2, rfl, ⟨rfl, _⟩, m1, m2, rfl, ⟨rfl, _⟩, n1, n2, rfl, ⟨rfl, _⟩, o1, o2, rfl, hD,
    p1, p2, rfl, ⟨rfl, _⟩, q1, q2, rfl, ⟨rfl, _⟩, r1, r2, rfl, ⟨rfl, z1⟩, s1, s2, rfl, ⟨rfl, _⟩, rfl⟩, rfl⟩ := h
  obtain ⟨u, rfl, hu, hb, hs⟩ := rdDdl_sm hD
  exact ⟨u, rfl, hu, hb, hs, Nat.le_trans z1 rsz⟩
abbrev nb : Value := .pointer none
abbrev noPlV : Value := planV noPl noTri noTri noTri
abbrev opV (o : OpB) (u : Tri) : Value := .agg (opCells o u).toArray
end Go.Proofs.YthepfbcgpbkbdaaGreat
end
section
set_option linter.unusedVariables false
set_option linter.unusedSimpArgs false
set_option maxHeartbeats 2000000
set_option maxRecDepth 100000
namespace Go.Proofs.YthepfbcgpbkbdaaGreat
open Fw Go
attribute [-simp] Fw.W.ld_iff Fw.W.st_iff
/-- maps stay as they are -/
def Maps (s s' : PH) : Prop := ∀ m es c, s m = some (.map es c) → s' m = some (.map es c)
theorem Maps.of {s s' : PH} (h : Fw.Mod [] s s') : Maps s s' := fun m es c e => h.at e (by simp)
theorem Maps.trans {s s' s'' : PH} (h : Maps s s') (h' : Maps s' s'') : Maps s s'' := fun m es c e => h' m es c (h m es c e)
/-- where a map alone is written to, lists stay -/
theorem Ty.nomap {s : PH} {g m : Nat} {e : TypeId} {es : Array MapEntry} {c : Nat} (h : Ty s g e) (hm : s m = some (.map es c)) : g ≠ m := by
  rintro rfl
  obtain ⟨cur, h⟩ := h
  rw [h] at hm; cases hm
section
variable {s s' : PH} {b m : Nat} {P : Pl} {t la ja : Tri} {ps : List TabP} {qs : List JbP} {es : Array MapEntry} {c : Nat}
theorem rowE.modm {α : Type} {E : Enc α} {e : TypeId} {a : Option Addr} {n k : Nat} {xs : List α} (h : rowE E s e a n k xs) (hm : s m = some (.map es c)) (h1 : Fw.Mod [m] s s') : rowE E s' e a n k xs :=
  h.mod h1 fun g hg hg2 => by
    simp at hg2; subst hg2
    exact (row_ty h g hg).nomap hm rfl
theorem Brd.modm (h : Brd s b P t la ja ps qs) (hm : s m = some (.map es c)) (h1 : Fw.Mod [m] s s') : Brd s' b P t la ja ps qs := by
  refine ⟨h1.at h.blk (by simp; exact h.bty.nomap hm), ?_, h.teq, h.sm, rowE.modm h.lrow hm h1, rowE.modm h.jrow hm h1, h.jeq, fun q hq => ⟨rowE.modm (h.cols q hq).1 hm h1, (h.cols q hq).2⟩⟩
  refine h.has.mod h1 fun g hg hg2 => ?_
  simp at hg2; subst hg2
  rcases h.has.ty g hg with h2 | h2 | h2 | h2 <;> exact h2.nomap hm rfl
end
/-- a board of one's own, and the ends that are known -/
structure OI (s0 s : PH) (b m : Nat) (P : Pl) (f : List (Int × Int)) : Prop where
  bi : BI s0 s b P
  map : isMap (intKey .i64) (Value.int .i64) s m f
  fr : s0 m = none
section
variable {s0 s s' : PH} {b m : Nat} {P : Pl} {f : List (Int × Int)}
theorem OI.same (h : OI s0 s b m P f) (hm : Fw.Mod [] s s') : OI s0 s' b m P f := ⟨h.bi.same hm, h.map.mod hm (by simp), h.fr⟩
theorem OI.do (h : OI s0 s b m P f) (hok : PlOk P) (hn : P.J.length ≤ 1000000) (hnl : P.L.length ≤ 1000000) (k : CmdP) (hu : Sl colE s k.u k.c.D.cols) (hul : k.c.D.cols.length ≤ 1048576) (now : Int) :
    DCalls Tryz.prog 10 #[cp b, .int .i64 now, cmdV k] s fun y s' => y = resV (P.do now k.c).1 ∧ OI s0 s' b m (P.do now k.c).2 f := by
  obtain ⟨⟨L, ⟨t, la, ja, ps, qs, rfl, h1⟩, h2, h3⟩, hmap, hfr⟩ := h
  refine (c_bDo h1 hok hn hnl k hu hul now).mono ?_
  rintro _ s' ⟨rfl, L', hb, hs⟩
  refine ⟨rfl, ⟨L', hb, fun g hg => ?_, h3.fresh hs.mod fun x hx => .inr (h2 x hx)⟩, hmap.mod hs.mod fun hx => ?_, hfr⟩
  · rcases hs.new g hg with h4 | h4
    · exact h2 g h4
    · exact h3.none h4 (by simp)
  · obtain ⟨es, c, he, _⟩ := hmap
    rcases h1.tys m hx with h4 | h4 | h4 <;> exact h4.nomap he rfl
theorem OI.save (h : OI s0 s b m P f) (hn : P.J.length ≤ 1000000) (hnl : P.L.length ≤ 1000000) :
    DCalls Tryz.prog 13 #[cp b] s fun y s' => ∃ t' la' ja', y = planV P t' la' ja' ∧ Cop s s' P t' la' ja' ∧ OI s0 s' b m P f := by
  have h0 := h
  obtain ⟨⟨L, ⟨t, la, ja, ps, qs, rfl, h1⟩, h2, h3⟩, hmap, hfr⟩ := h
  refine (c_Save h1 hn hnl).mono ?_
  rintro _ s' ⟨t', la', ja', rfl, hc⟩
  exact ⟨t', la', ja', rfl, hc, h0.same hc.mod⟩
theorem OI.schema (h : OI s0 s b m P f) (hn : P.J.length ≤ 1000000) (hnl : P.L.length ≤ 1000000) :
    DCalls Tryz.prog 9 #[cp b] s fun y s' => ∃ t', y = schV P.S t' ∧ OI s0 s' b m P f := by
  have h0 := h
  obtain ⟨⟨L, ⟨t, la, ja, ps, qs, rfl, h1⟩, h2, h3⟩, hmap, hfr⟩ := h
  refine (c_bSchema h1 hn hnl).mono ?_
  rintro _ s' ⟨t', rfl, hc⟩
  exact ⟨t', rfl, h0.same hc⟩
theorem OI.jobs (h : OI s0 s b m P f) (hn : P.J.length ≤ 1000000) (hnl : P.L.length ≤ 1000000) :
    DCalls Tryz.prog 14 #[cp b] s fun y s' => ∃ (ja' : Tri) (qs : List JbP), y = ja'.v ∧ rowE jobE s' 58 ja'.1 ja'.2.1 ja'.2.2 qs ∧ P.J = qs.map (·.j) ∧ OI s0 s' b m P f := by
  refine ok_bJobs b _ s ?_
  unfold vc_bJobs
  simp only [RP_call, RP_ret]
  refine W.call_of (h.save hn hnl) ?_
  rintro _ s1 ⟨t', la', ja', rfl, hc, h1⟩
  refine ⟨((P.S.version, P.S.last, t', la', ja', ()), ()), rfl, ?_⟩
  obtain ⟨ps, qs, _, _, hje, hjr, _⟩ := hc.ex
  exact ⟨ja', qs, rfl, hjr, hje, h1⟩
theorem OI.put (h : OI s0 s b m P f) {o : Obj} {g : List (Int × Int)} (hg : isMap (intKey .i64) (Value.int .i64) (s.upd m o) m g) : OI s0 (s.upd m o) b m P g := by
  obtain ⟨⟨L, ⟨t, la, ja, ps, qs, rfl, h1⟩, h2, h3⟩, hmap, hfr⟩ := h
  obtain ⟨es, c, he, _⟩ := hmap
  have hm : Fw.Mod [m] s (s.upd m o) := Mod.upd (by simp)
  refine ⟨⟨_, ⟨t, la, ja, ps, qs, rfl, h1.modm he hm⟩, h2, h3.fresh hm (by simp [hfr])⟩, hg, hfr⟩
end
theorem EndsOk.put {J : List Jb} {f : List (Int × Int)} (h : EndsOk J f) {k : Nat} {j : Jb} (hj : J[k]? = some j) {id : Int} (hid : id = (k : Int) + 1) (hf : j.fin ≠ 0) : EndsOk J (aset f id j.fin) := by
  intro i e hi
  rw [lookup_aset] at hi
  split at hi
  · rename_i he
    have he : i = id := by simpa using he
    cases hi
    exact ⟨k, j, he.trans hid, hj, rfl, hf⟩
  · exact h i e hi
theorem opB_sm {s : PH} {a : Option Addr} {n : Nat} {ops : List OpB} (h : elems rdOpB s a n ops) {i : Nat} {o : OpB} (ho : ops[i]? = some o) : ∃ (ad : Addr) (u : Tri), a = some ad ∧ s.has (ad.add (i * 31)) (opCells o u) ∧ SlB colE s u o.k.c.D.cols ∧ (o.k.c.D.cols.length ≤ 1000 → o.k.c.D.Sm) ∧ o.k.c.mark.size ≤ 281474976710656 := by
  obtain ⟨ad, cs, h1, h2, h3⟩ := h.2 i o ho
  obtain ⟨u, rfl, hu, _, hs, hw⟩ := rdOpB_sm h2
  exact ⟨ad, u, h1, h3, hu, hs, hw⟩
theorem csum_take_le (l : List OpB) (k : Nat) : csum (l.take k) ≤ csum l := by
  have := congrArg csum (List.take_append_drop k l)
  unfold csum at this ⊢
  simp only [List.map_append, List.sum_append] at this
  omega
/-- what is true of the plan between commands -/
structure PlSm (P : Pl) (i w : Nat) : Prop where
  ok : PlOk P
  ids : JIds P.J
  sm : JSm P.J
  cost : jcost P.J ≤ 2 * w
  few : P.L.length ≤ i
theorem PlSm.do {P : Pl} {i w : Nat} (h : PlSm P i w) (now : Int) {c : Cm} (hD : c.D.Sm) (hm : c.mark.size ≤ 281474976710656) : PlSm (P.do now c).2 (i + 1) (w + (1 + c.D.cols.length)) := by
  have hd := (do_did h.ok h.ids now c).1
  have h1 := hd.cost
  have h2 := h.cost
  have h3 := (do_len P now c).2
  have h4 := h.few
  exact ⟨h.ok.do now c, hd.ids h.ids, hd.sm h.sm hD hm, by omega, by omega⟩
theorem PlSm.new : PlSm noPl 0 0 := ⟨PlOk.new, JIds.nil, fun j hj => by simp at hj, by simp [jcost], by simp⟩
theorem PlSm.len {P : Pl} {i w : Nat} (h : PlSm P i w) : P.J.length ≤ w := by
  have h1 := jcost_len P.J
  have h2 := h.cost
  omega
abbrev plD (P : Pl) (t la ja : Tri) : Den [.int .i64, .int .i64, .slice, .slice, .slice] := (P.S.version, P.S.last, t, la, ja, ())
abbrev rsD (r : Rs) : Den [.int .i64, .int .i64, .int .i64, .int .i64, .int .i64, .int .i64, .int .i64, .int .i64, .bool] := (r.err, 0, 0, 0, 0, r.ver, r.til, r.job, r.new, ())
theorem c_BoardOnce {s0 : PH} {a : Option Addr} {n c : Nat} {ops : List OpB} (h : elems rdOpB s0 a n ops) (hn : n ≤ 1099511627776000) : DCalls Tryz.prog 3 #[.slice a n c] s0 fun y s' => y = .bool true ∧ Fw.Mod [] s0 s' := by
  refine ok_BoardOnce a n c _ s0 ?_
  unfold vc_BoardOnce
  obtain ⟨R, hR⟩ : ∃ R : Value → PH → Prop, (fun y s' => y = .bool true ∧ Fw.Mod [] s0 s') = R := ⟨_, rfl⟩
  rw [hR]
  have hnl : n = ops.length := h.1
  simp only [RP_ite, RP_ret, RP_guard, RP_loop, RP_unSome, RP_ld, RP_call, RP_join, RP_nw, RP_both, RP_look, RP_mset]
  refine W.join_gen (fun z s' => s' = s0 ∧ ops.length ≤ 150 ∧ csum ops ≤ 1000) ?_ ?_
  rotate_left
  · intro J hJ
    refine W.call_of (c_bawake s0) ?_
    rintro _ s1 ⟨rfl, rfl⟩
    refine ⟨((true, ()), ()), rfl, ?_⟩
    refine (W.br_iff _ _ _ _).2 ⟨fun e => (by cases e), fun _ => ?_⟩
    refine W.call_of (c_bgreat h hn) ?_
    rintro _ _ ⟨⟨b, rfl, hb2⟩, rfl⟩
    refine ⟨((b, ()), ()), rfl, ?_⟩
    refine (W.br_iff _ _ _ _).2 ⟨fun e => ?_, fun e => hJ _ _ ⟨rfl, hb2 e⟩⟩
    refine W.call_of (c_bawake _) ?_
    rintro _ _ ⟨rfl, rfl⟩
    refine ⟨((true, ()), ()), rfl, ?_⟩
    rw [← hR]; exact ⟨rfl, Mod.refl _ _⟩
  rintro _ _ ⟨rfl, hlen, hsum⟩
  rename_i s0
  refine W.call_of (c_bNew s0) ?_
  rintro _ s1 ⟨b, rfl, hB, m1, hb⟩
  refine ⟨((some ⟨b, 0, none⟩, ()), ()), rfl, ?_⟩
  have g0 : BI s0 s1 b noPl := ⟨[b], hB, by simp [hb], m1⟩
  intro m hm
  have g1 : OI s0 (s1.upd m (.map #[] 0)) b m noPl [] := ⟨g0.same (Mod.new hm), isMap.new, m1.none hm (by simp)⟩
  refine ⟨fun z s' => ∃ (i : Nat) (P : Pl) (f : List (Int × Int)), z = ((some (Addr.mk b 0 none), ()), (some m, ()), ((a, n, c), ()), ((n : Int), ()), ((i : Int), ()), ()) ∧ i ≤ n ∧ OI s0 s' b m P f ∧ PlSm P i (csum (ops.take i)) ∧ EndsOk P.J f,
    fun z _ => n - z.2.2.2.2.1.1.toNat, ⟨0, noPl, [], rfl, Nat.zero_le _, g1, PlSm.new, fun k e hk => by cases hk⟩, ?_⟩
  clear g0 g1 hB hb m1 hm
  rintro _ s ⟨i, P, f, rfl, hi, hI, hS, hE⟩
  refine (W.br_iff _ _ _ _).2 ⟨fun hlt => ?_, fun hge => ?_⟩
  rotate_left
  · rw [← hR]; exact ⟨rfl, hI.bi.mod⟩
  have hlt : (i : Int) < (n : Int) := of_decide_eq_true hlt
  obtain ⟨o, hoi⟩ : ∃ o, ops[i]? = some o := ⟨_, List.getElem?_eq_getElem (by omega)⟩
  obtain ⟨ad, u, rfl, hh, hu, hDs, hmk⟩ := opB_sm h hoi
  have hcs := csum_at (List.mem_of_getElem? hoi)
  have hsn := csum_snoc hoi
  have hsl : csum (ops.take (i + 1)) ≤ 1000 := Nat.le_trans (csum_take_le ops (i + 1)) hsum
  have huS := hu.few (by omega)
  have hDs := hDs (by omega)
  have hJl := hS.len
  have hLl := hS.few
  dsimp only
  refine (W.guard_iff _ _ _).2 ⟨by omega, ?_⟩
  simp only [W.unSome_some, Int.toNat_natCast]
  refine ld_has_z (hh.mono hI.bi.mod.le) (y := opD o u) rfl ?_
  refine W.call_of (hI.schema (by omega) (by omega)) ?_
  rintro _ s1 ⟨ts, rfl, hI1⟩
  refine ⟨((P.S.version, P.S.last, ts, ()), ()), rfl, ?_⟩
  dsimp only
  have hS' := hS.do o.at_ hDs hmk
  rw [← hsn] at hS'
  have hdid := do_did hS.ok hS.ids o.at_ o.k.c
  have hag := do_again hS.ok hS.ids o.at_ o.k.c
  have hE' := hE.did hdid.1
  obtain ⟨rs, P', hrP⟩ : ∃ rs P', P.do o.at_ o.k.c = (rs, P') := ⟨_, _, rfl⟩
  rw [hrP] at hS' hdid hag hE'
  dsimp only at hS' hdid hag hE'
  refine W.join_gen (fun z s' => z = ((some (Addr.mk b 0 none), ()), (some m, ()), opD o u, (P.S.version, ()), rsD rs, ((some ad, n, c), ()), ((n : Int), ()), ((i : Int), ()), ()) ∧ OI s0 s' b m P' f) ?_ ?_
  rotate_left
  · intro J hJ
    have hdo : ∀ {s2 : PH} {u2 : Tri} (hI2 : OI s0 s2 b m P f) (hu2 : Sl colE s2 u2 o.k.c.D.cols), DCalls Tryz.prog 10 #[cp b, .int .i64 o.at_, cmdV (o.k.at u2)] s2 fun y s' => y = resV rs ∧ OI s0 s' b m P' f := fun {s2 u2} hI2 hu2 => by
      have hd := hI2.do hS.ok (by omega) (by omega) (o.k.at u2) hu2 (by show o.k.c.D.cols.length ≤ _; omega) o.at_
      have e : P.do o.at_ (o.k.at u2).c = (rs, P') := hrP
      rw [e] at hd; exact hd
    repeat' first
      | refine (W.both_iff _ _ _).2 ⟨?_, ?_⟩
      | (refine W.call_of (c_own (o.k.at u) (huS.mono hI1.bi.mod.le)) ?_; rintro _ s2 ⟨u2, rfl, hu2, m2⟩; refine ⟨(cmdD (o.k.at u2), ()), rfl, ?_⟩)
      | (refine W.call_of (hdo (hI1.same (by assumption)) (by assumption)) ?_; rintro _ s3 ⟨rfl, hI3⟩; refine ⟨(rsD rs, ()), rfl, ?_⟩)
      | exact hJ _ _ ⟨rfl, by assumption⟩
  rintro _ s3 ⟨rfl, hI3⟩
  dsimp only
  have hJl' := hS'.len
  have hLl' := hS'.few
  have hag2 : 12 ≤ o.k.c.kind → o.k.c.kind ≠ 15 → rs.new = true → (P'.do o.at_ o.k.c).1.new = false ∧ (P'.do o.at_ o.k.c).2 = P' := hag
  refine W.join_gen (fun z s' => z = ((some (Addr.mk b 0 none), ()), (some m, ()), (P.S.version, ()), ((some ad, n, c), ()), ((n : Int), ()), ((i : Int), ()), ()) ∧ OI s0 s' b m P' f) ?_ ?_
  rotate_left
  · intro J2 hJ2
    refine W.join_gen (fun z s' => ∃ bn : Bool, z = ((some (Addr.mk b 0 none), ()), (some m, ()), opD o u, (P.S.version, ()), ((some ad, n, c), ()), ((n : Int), ()), ((i : Int), ()), (bn, ()), ()) ∧ s' = s3 ∧ (bn = true → 12 ≤ o.k.c.kind ∧ o.k.c.kind ≠ 15 ∧ rs.new = true)) ?_ ?_
    rotate_left
    · intro J3 hJ3
      refine (W.br_iff _ _ _ _).2 ⟨fun e1 => (W.br_iff _ _ _ _).2 ⟨fun e2 => hJ3 _ _ ⟨rs.new, rfl, rfl, fun e3 => ⟨of_decide_eq_true e1, by simpa using e2, e3⟩⟩, fun e2 => hJ3 _ _ ⟨false, rfl, rfl, fun e => by cases e⟩⟩, fun e1 => hJ3 _ _ ⟨false, rfl, rfl, fun e => by cases e⟩⟩
    rintro _ s3 ⟨bn, rfl, rfl, hbn⟩
    rename_i s3
    refine (W.br_iff _ _ _ _).2 ⟨fun e1 => ?_, fun e1 => hJ2 _ _ ⟨rfl, hI3⟩⟩
    obtain ⟨k1, k2, k3⟩ := hbn e1
    obtain ⟨q1, q2⟩ := hag2 k1 k2 k3
    refine W.call_of (hI3.save (by omega) (by omega)) ?_
    rintro _ s4 ⟨t', la', ja', rfl, hc, hI4⟩
    refine ⟨(plD P' t' la' ja', ()), rfl, ?_⟩
    have hcost : jcost P'.J ≤ 3000 := by have := hS'.cost; omega
    refine callq ((encPl P', ()), ()) (c_encPl hc hI4.bi.sm hS'.sm hcost (by omega)) rfl ?_
    refine W.join_gen (fun z s' => ∃ rs2 : Rs, z = ((some (Addr.mk b 0 none), ()), (some m, ()), (P.S.version, ()), (encPl P', ()), rsD rs2, ((some ad, n, c), ()), ((n : Int), ()), ((i : Int), ()), ()) ∧ rs2.new = false ∧ OI s0 s' b m P' f) ?_ ?_
    rotate_left
    · intro J4 hJ4
      have hdo : ∀ {s2 : PH} {u2 : Tri} (hI2 : OI s0 s2 b m P' f) (hu2 : Sl colE s2 u2 o.k.c.D.cols), DCalls Tryz.prog 10 #[cp b, .int .i64 o.at_, cmdV (o.k.at u2)] s2 fun y s' => y = resV (P'.do o.at_ o.k.c).1 ∧ OI s0 s' b m P' f := fun {s2 u2} hI2 hu2 => by
        have hd := hI2.do hS'.ok (by omega) (by omega) (o.k.at u2) hu2 (by show o.k.c.D.cols.length ≤ _; omega) o.at_
        have e : (P'.do o.at_ (o.k.at u2).c).2 = P' := q2
        rw [e] at hd; exact hd
      obtain ⟨rs2, hrs2⟩ : ∃ rs2, (P'.do o.at_ o.k.c).1 = rs2 := ⟨_, rfl⟩
      rw [hrs2] at q1
      rw [hrs2] at hdo
      repeat' first
        | refine (W.both_iff _ _ _).2 ⟨?_, ?_⟩
        | (refine W.call_of (c_own (o.k.at u) (huS.mono hI4.bi.mod.le)) ?_; rintro _ s5 ⟨u2, rfl, hu2, m2⟩; refine ⟨(cmdD (o.k.at u2), ()), rfl, ?_⟩)
        | (refine W.call_of (hdo (hI4.same (by assumption)) (by assumption)) ?_; rintro _ s6 ⟨rfl, hI6⟩; refine ⟨(rsD rs2, ()), rfl, ?_⟩)
        | exact hJ4 _ _ ⟨rs2, rfl, q1, by assumption⟩
    rintro _ s6 ⟨rs2, rfl, hnew, hI6⟩
    dsimp only
    refine (W.br_iff _ _ _ _).2 ⟨fun e => (by rw [hnew] at e; cases e), fun _ => ?_⟩
    refine W.call_of (hI6.save (by omega) (by omega)) ?_
    rintro _ s7 ⟨t2, la2, ja2, rfl, hc2, hI7⟩
    refine ⟨(plD P' t2 la2 ja2, ()), rfl, ?_⟩
    refine callq ((encPl P', ()), ()) (c_encPl hc2 hI7.bi.sm hS'.sm hcost (by omega)) rfl ?_
    refine (W.br_iff _ _ _ _).2 ⟨fun e => (by simp at e), fun _ => hJ2 _ _ ⟨rfl, hI7⟩⟩
  rintro _ s4 ⟨rfl, hI4⟩
  dsimp only
  refine W.call_of (hI4.schema (by omega) (by omega)) ?_
  rintro _ s5 ⟨ts2, rfl, hI5⟩
  refine ⟨((P'.S.version, P'.S.last, ts2, ()), ()), rfl, ?_⟩
  have hver := hdid.2
  refine (W.br_iff _ _ _ _).2 ⟨fun e => (by have e : P'.S.version < P.S.version := of_decide_eq_true e; omega), fun _ => ?_⟩
  refine W.call_of (hI5.jobs (by omega) (by omega)) ?_
  rintro _ s6 ⟨⟨ja, jn, jc⟩, qs, rfl, hjr, hje, hI6⟩
  refine ⟨(((ja, jn, jc), ()), ()), rfl, ?_⟩
  have hjl := hjr.len
  dsimp only at hjr hjl
  have hjq : P'.J.length = qs.length := by rw [hje, List.length_map]
  refine ⟨fun z s' => ∃ (k : Nat) (g : List (Int × Int)), z = ((some (Addr.mk b 0 none), ()), (some m, ()), ((some ad, n, c), ()), ((n : Int), ()), ((i : Int), ()), ((ja, jn, jc), ()), ((jn : Int), ()), ((k : Int), ()), ()) ∧ k ≤ jn ∧ OI s0 s' b m P' g ∧ EndsOk P'.J g ∧ rowE jobE s' 58 ja jn jc qs,
    fun z _ => jn - z.2.2.2.2.2.2.2.1.1.toNat, ⟨0, f, rfl, Nat.zero_le _, hI6, hE', hjr⟩, ?_⟩
  rintro _ s7 ⟨k, g, rfl, hk, hI7, hE7, hjr7⟩
  refine (W.br_iff _ _ _ _).2 ⟨fun hkl => ?_, fun hkl => ?_⟩
  rotate_left
  · dsimp only
    rw [wrap_succ (k := i) (by omega)]
    refine ⟨⟨i + 1, P', g, rfl, by omega, hI7, hS', hE7⟩, by simp only [Int.toNat_natCast]; omega⟩
  have hkl : (k : Int) < (jn : Int) := of_decide_eq_true hkl
  obtain ⟨q, hq⟩ : ∃ q, qs[k]? = some q := ⟨_, List.getElem?_eq_getElem (by omega)⟩
  obtain ⟨j, uj⟩ := q
  have hj : P'.J[k]? = some j := by rw [hje, List.getElem?_map, hq]; (first | done | rfl)
  obtain ⟨gb, rfl, hhj⟩ := hjr7.at hq
  have hid := hS'.ids.id k j hj
  dsimp only
  refine (W.guard_iff _ _ _).2 ⟨by omega, ?_⟩
  simp only [W.unSome_some, Int.toNat_natCast, add_mk, Nat.zero_add]
  have hhj' : s7.has ⟨gb, k * 22, none⟩ (jobE.f ⟨j, uj⟩) := hhj
  refine ld_has_z hhj' (y := jobD j uj) rfl ?_
  have hgo : ∀ {s' : PH} {g' : List (Int × Int)}, OI s0 s' b m P' g' → EndsOk P'.J g' → rowE jobE s' 58 (some ⟨gb, 0, none⟩) jn jc qs →
      (fun (z : MDen [(false, [CT.ptr]), (false, [CT.map]), (false, [CT.slice]), (false, [CT.int .i64]), (false, [CT.int .i64]), (false, [CT.slice]), (false, [CT.int .i64]), (false, [CT.int .i64])]) s' => (∃ (k : Nat) (g : List (Int × Int)), z = ((some (Addr.mk b 0 none), ()), (some m, ()), ((some ad, n, c), ()), ((n : Int), ()), ((i : Int), ()), ((some ⟨gb, 0, none⟩, jn, jc), ()), ((jn : Int), ()), ((k : Int), ()), ()) ∧ k ≤ jn ∧ OI s0 s' b m P' g ∧ EndsOk P'.J g ∧ rowE jobE s' 58 (some ⟨gb, 0, none⟩) jn jc qs) ∧ jn - z.2.2.2.2.2.2.2.1.1.toNat < jn - (k : Int).toNat)
        ((some (Addr.mk b 0 none), ()), (some m, ()), ((some ad, n, c), ()), ((n : Int), ()), ((i : Int), ()), ((some ⟨gb, 0, none⟩, jn, jc), ()), ((jn : Int), ()), (IntKind.i64.wrap ((k : Int) + 1), ()), ()) s' := fun {s' g'} h1 h2 h3 => by
    rw [wrap_succ (k := k) (by omega)]
    exact ⟨⟨k + 1, g', rfl, by omega, h1, h2, h3⟩, by simp only [Int.toNat_natCast]; omega⟩
  have hset : ∀ {K : W.T}, j.fin ≠ 0 → (∀ o, OI s0 (s7.upd m o) b m P' (aset g j.id j.fin) → rowE jobE (s7.upd m o) 58 (some ⟨gb, 0, none⟩) jn jc qs → K (s7.upd m o)) → W.mset (.int .i64) (some m) (.int .i64 j.id) (.int .i64 j.fin) K s7 := fun {K} hf hK => by
    refine mset_of (ke := intKey .i64) hI7.map (v := j.fin) fun o ho => hK o (hI7.put ho) ?_
    obtain ⟨es, cc, he, _⟩ := hI7.map
    exact rowE.modm hjr7 he (Mod.upd (by simp))
  refine look_of (ke := intKey .i64) hI7.map (key := j.id) ?_
  cases hl : g.lookup j.id with
  | none =>
    refine ⟨(0, ()), rfl, ?_⟩
    dsimp only
    refine (W.br_iff _ _ _ _).2 ⟨fun e => (by cases e), fun _ => (W.br_iff _ _ _ _).2 ⟨fun e => ?_, fun e => hgo hI7 hE7 hjr7⟩⟩
    have hf : j.fin ≠ 0 := by simpa using e
    exact hset hf fun o ho hro => hgo ho (hE7.put hj hid hf) hro
  | some e =>
    obtain ⟨i2, j2, e1, e2, e3, e4⟩ := hE7 _ _ hl
    have : i2 = k := by omega
    subst this
    rw [hj] at e2; cases e2
    subst e3
    refine ⟨(j.fin, ()), rfl, ?_⟩
    dsimp only
    refine (W.br_iff _ _ _ _).2 ⟨fun _ => (W.br_iff _ _ _ _).2 ⟨fun e => (by simp at e), fun _ => (W.br_iff _ _ _ _).2 ⟨fun e => ?_, fun e => hgo hI7 hE7 hjr7⟩⟩, fun e => (by cases e)⟩
    exact hset e4 fun o ho hro => hgo ho (hE7.put hj hid e4) hro
end Go.Proofs.YthepfbcgpbkbdaaGreat
end
