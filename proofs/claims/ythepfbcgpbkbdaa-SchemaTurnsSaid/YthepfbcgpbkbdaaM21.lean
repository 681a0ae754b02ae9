/-
  Schemas: the law SchemaTurns.
  Conditions: none; it proves no statement by itself.
-/
import Derived.Test.YthepfbcgpbkbdaaM20
set_option linter.unusedVariables false
set_option linter.unusedSimpArgs false
set_option maxHeartbeats 1000000
set_option maxRecDepth 100000
namespace Go.Proofs.Ythepfbcgpbkbdaa
open Fw Go
attribute [-simp] Fw.W.ld_iff Fw.W.st_iff

theorem law_SchemaTurns {s : PH} {t : Tri} {S : Sch} {ps : List TabP} (h : SchB s t S ps) (hsm : ∀ T ∈ S.tabs, T.Sm) (D : Ddl) {u : Tri} (hu : SlB colE s u D.cols) (st : Int) :
    DCalls Try.prog 3 #[schV S t, ddlV D u, .int .i64 st] s fun y s' => y = .bool true ∧ Fw.Mod [] s s' := by
  obtain ⟨ta, tn, tc⟩ := t
  obtain ⟨ua, un, uc⟩ := u
  refine ok_SchemaTurns S.version S.last ta tn tc D.kind D.table D.name D.column D.parent D.unique D.type D.dflt.kind D.dflt.n D.dflt.s ua un uc st _ s ?_
  unfold vc_SchemaTurns
  simp only [RP_join, RP_ite, RP_call, RP_callQ, RP_ret, RP_nw, RP_app, RP_st, RP_ld, RP_unSome, RP_guard, RP_loop, RP_still, RP_clr, RP_look, RP_mset, W.unSome_some]
  refine W.join_gen (fun z s' => z = ((S.version, S.last, (ta, tn, tc), ()), (D.kind, D.table, D.name, D.column, D.parent, D.unique, D.type, D.dflt.kind, D.dflt.n, D.dflt.s, (ua, un, uc), ()), ()) ∧ s' = s ∧ S.tabs.length + D.cols.length + wsum S.tabs ≤ 300) ?_ ?_
  rotate_left
  · intro J hJ
    refine callq ((true, ()), ()) (c_awake s) rfl ?_
    refine (W.br_iff _ _ _ _).2 ⟨fun e => (by cases e), fun _ => ?_⟩
    refine W.call_of (c_great h D (u := (ua, un, uc)) hu) ?_
    rintro _ s' ⟨⟨b, rfl, hb⟩, rfl⟩
    refine ⟨((b, ()), ()), rfl, ?_⟩
    refine (W.br_iff _ _ _ _).2 ⟨fun _ => ?_, fun e => hJ _ _ ⟨rfl, rfl, hb e⟩⟩
    refine callq ((true, ()), ()) (c_awake _) rfl ?_
    exact ⟨rfl, Mod.refl _ _⟩
  rintro _ s0 ⟨rfl, rfl, hg⟩
  have hS := h.is (by omega)
  have hSm := sm_great hsm (by omega)
  have hU := hu.few (by omega)
  have hRm := turn_sm S D st
  refine W.call_of (c_rCopy hS) ?_
  rintro _ s1 ⟨t1, ps1, rfl, hH1, he1, m1, f1⟩
  refine ⟨((S.version, S.last, t1, ()), ()), rfl, ?_⟩
  have hS1 := hH1.sm he1 hSm
  have hT := c_Turn hS1 D (hU.mono m1.le) (by omega) st
  have hT' : ∀ s2, Fw.Mod [] s0 s2 → DCalls Try.prog 15 #[schV S (ta, tn, tc), ddlV D (ua, un, uc), .int .i64 st] s2 (Gives s2 (S.turn D st).1 (S.turn D st).2) := fun s2 m => c_rTurn (hS.mono m.le) D (hU.mono m.le) (by omega) st
  generalize hpair : S.turn D st = pr at hT hT' hRm
  obtain ⟨S', e⟩ := pr
  dsimp only at hT hT' hRm
  refine W.call_of hT ?_
  intro y s2 hgv
  obtain ⟨t2, ps2, rfl, hS2, hH2, m2, f2⟩ := gives_at hgv hRm
  refine ⟨((S'.version, S'.last, t2, ()), (e, ()), ()), rfl, ?_⟩
  have m12 := m1.trans m2
  refine W.call_of (hT' s2 m12) ?_
  intro y s3 hgv
  obtain ⟨t3, ps3, rfl, hS3, hH3, m3, f3⟩ := gives_at hgv hRm
  refine ⟨((S'.version, S'.last, t3, ()), (e, ()), ()), rfl, ?_⟩
  have m13 := m12.trans m3
  have hH1' : Has s3 t1 ps1 := (hH1.mod m2 (by simp)).mod m3 (by simp)
  have hH2' : Has s3 t2 ps2 := hH2.mod m3 (by simp)
  have hapart : ∀ g ∈ Lof t1 ps1, g ∉ Lof t2 ps2 := fun g hg hg2 => hH1.known g hg (f2 g hg2)
  refine W.join_gen (fun z s' => z = ((S.version, S.last, (ta, tn, tc), ()), (S.version, S.last, t1, ()), (S'.version, S'.last, t2, ()), ()) ∧ s' = s3) ?_ ?_
  rotate_left
  · intro J hJ
    refine (W.br_iff _ _ _ _).2 ⟨fun hne => ?_, fun _ => ?_⟩
    · have hne : (e != e) = true := hne
      simp at hne
    have hc := c_same (hS2.mono m3.le) hS3 hRm hRm
    rw [decide_eq_true (by rfl)] at hc
    refine callq ((true, ()), ()) hc rfl ?_
    refine (W.br_iff _ _ _ _).2 ⟨fun e => (by cases e), fun _ => ?_⟩
    have hc2 := c_same (hH1'.sm he1 hSm) (hS.mono m13.le) hSm hSm
    rw [decide_eq_true (by rfl)] at hc2
    refine callq ((true, ()), ()) hc2 rfl ?_
    exact (W.br_iff _ _ _ _).2 ⟨fun e => (by cases e), fun _ => hJ _ _ ⟨rfl, rfl⟩⟩
  rintro _ s4 ⟨rfl, rfl⟩
  obtain ⟨ga, gn, gc⟩ := t2
  have hgn : gn = ps2.length := hH2.row.len
  have hps2 : ps2.length ≤ 4294967296 := hS2.el.few
  refine ⟨fun z s' => ∃ (k : Nat) (pc : List TabP), z = ((S.version, S.last, (ta, tn, tc), ()), (S.version, S.last, t1, ()), (S'.version, S'.last, (ga, gn, gc), ()), ((gn : Int), ()), ((k : Int), ()), ()) ∧ k ≤ gn ∧ Has s' (ga, gn, gc) pc ∧ Step (Lof (ga, gn, gc) ps2) (Lof (ga, gn, gc) pc) s4 s' ∧ (∀ p ∈ pc, p.c.2.1 ≤ 4294967296),
    fun z _ => gn - z.2.2.2.2.1.1.toNat, ⟨0, ps2, rfl, Nat.zero_le _, hH2', Step.refl _ _, fun p hp => ?_⟩, ?_⟩
  · have := (hS2.all p hp).c
    have h1 := this.len
    have h2 := this.few
    rw [h1]; exact h2
  rintro _ s5 ⟨k, pc, rfl, hk, hH5, st5, hfw⟩
  have hpc : gn = pc.length := hH5.row.len
  simp only [W.br_iff, decide_eq_true_eq, decide_eq_false_iff_not]
  refine ⟨fun hlt => ?_, fun hge => ?_⟩
  · have hlt : k < gn := by omega
    obtain ⟨p, hp⟩ : ∃ p, pc[k]? = some p := ⟨_, List.getElem?_eq_getElem (by omega)⟩
    obtain ⟨g, hga, _⟩ := hH5.row.at hp
    dsimp only at hga
    subst hga
    have hA := Gs.tabHas hH5 hp rfl
    refine ⟨by omega, ?_⟩
    simp only [W.unSome_some, Int.toNat_natCast, add_mk, Nat.zero_add]
    refine ld_hasm (j := 2) hA (cs := [.slice]) (y := (p.c, ())) rfl ?_
    obtain ⟨cn, hcn⟩ : ∃ n, p.c.2.1 = n := ⟨_, rfl⟩
    have hcnf : cn ≤ 4294967296 := by rw [← hcn]; exact hfw p (List.mem_of_getElem? hp)
    refine ⟨fun z s' => ∃ (j : Nat) (pd : List TabP) (q : TabP), z = ((S.version, S.last, (ta, tn, tc), ()), (S.version, S.last, t1, ()), (S'.version, S'.last, (some (Addr.mk g 0 none), gn, gc), ()), ((k : Int), ()), ((gn : Int), ()), ((k : Int), ()), ((cn : Int), ()), ((j : Int), ()), ()) ∧ j ≤ cn ∧ Has s' (some ⟨g, 0, none⟩, gn, gc) pd ∧
      Step (Lof (some ⟨g, 0, none⟩, gn, gc) ps2) (Lof (some ⟨g, 0, none⟩, gn, gc) pd) s4 s' ∧ (∀ p ∈ pd, p.c.2.1 ≤ 4294967296) ∧ pd[k]? = some q ∧ q.c.2.1 = cn, fun z _ => cn - z.2.2.2.2.2.2.2.1.1.toNat, ⟨0, pc, p, by rw [← hcn]; rfl, Nat.zero_le _, hH5, st5, hfw, hp, hcn⟩, ?_⟩
    rintro _ s6 ⟨j, pd, q, rfl, hj, hH6, st6, hfw6, hq, hqc⟩
    have hpd : gn = pd.length := hH6.row.len
    simp only [W.br_iff, decide_eq_true_eq, decide_eq_false_iff_not]
    refine ⟨fun hlt2 => ?_, fun hge => ?_⟩
    · have hlt2 : j < cn := by omega
      have hA6 := Gs.tabHas hH6 hq rfl
      have hoq := hH6.all q (List.mem_of_getElem? hq)
      have hql : q.c.2.1 = q.T.cols.length := hoq.c.len
      obtain ⟨x, hx⟩ : ∃ x, q.T.cols[j]? = some x := ⟨_, List.getElem?_eq_getElem (by omega)⟩
      obtain ⟨g2, hg2, _⟩ := hoq.c.at hx
      refine ⟨by omega, ?_⟩
      simp only [W.unSome_some, Int.toNat_natCast, add_mk, Nat.zero_add]
      refine ld_hasm (j := 2) hA6 (cs := [.slice]) (y := (q.c, ())) rfl ?_
      refine ⟨by show (0 : Int) ≤ j ∧ (j : Int) < (q.c.2.1 : Nat); omega, ?_⟩
      rw [hg2]
      simp only [W.unSome_some, Int.toNat_natCast, add_mk, Nat.zero_add]
      refine rowE.st (E := colE) (i := j) (j := 1) (x' := { x with name := ⟨#[115, 112, 111, 105, 108, 116]⟩ }) (vs := [.string ⟨#[115, 112, 111, 105, 108, 116]⟩]) hoq.c hx rfl (by show 1 + 1 ≤ 7; omega) (by simp) (by simp [Value.oneCell']) hg2 fun s7 h7 m7 => ?_
      have hw := work_c hoq (hH6.nodp (List.mem_of_getElem? hq)) (u := q.c) h7 (m7.mono fun y hy => by rw [hg2]; simpa [Fw.blk] using hy) (fun y hy => .inl hy)
      obtain ⟨hH7, st7⟩ := hH6.same hq hw rfl
      rw [wrap_succ (k := j) (by omega)]
      refine ⟨⟨j + 1, _, _, rfl, hlt2, hH7, st6.trans st7, fun y hy => ?_, List.getElem?_set_self (List.getElem?_eq_some_iff.1 hq).1, hqc⟩, by simp only [Int.toNat_natCast]; omega⟩
      rcases List.mem_or_eq_of_mem_set hy with hy | rfl
      · exact hfw6 y hy
      · show q.c.2.1 ≤ _
        omega
    · rw [wrap_succ (k := k) (by omega)]
      exact ⟨⟨k + 1, pd, rfl, hlt, hH6, st6, hfw6⟩, by simp only [Int.toNat_natCast]; omega⟩
  · have hm5 : Fw.Mod [] s0 s5 := m13.fresh st5.mod fun x hx => .inr (m1.none (f2 x hx) (by simp))
    have hH1'' : Has s5 t1 ps1 := hH1'.mod st5.mod hapart
    have hc2 := c_same (hH1''.sm he1 hSm) (hS.mono hm5.le) hSm hSm
    rw [decide_eq_true (by rfl)] at hc2
    refine callq ((true, ()), ()) hc2 rfl ?_
    exact ⟨rfl, hm5⟩
theorem c_SchemaTurns {s : PH} {cs ds : Array Value} {S : Sch} {D : Ddl} (h : rdSch.is s cs.toList S) (k : rdDdl.is s ds.toList D) (st : Int) : DCalls Try.prog 3 #[.agg cs, .agg ds, .int .i64 st] s fun y s' => y = .bool true ∧ Fw.Mod [] s s' := by
  obtain ⟨t, ps, e, hB, hsm⟩ := rdSch_is h
  obtain ⟨u, e2, hU⟩ := rdDdl_is k
  rw [agg_arr e, agg_arr e2]
  exact law_SchemaTurns hB hsm D hU st
end Go.Proofs.Ythepfbcgpbkbdaa
