/-
  Schemas: the laws SchemaTurns and SchemaChecks.
  Conditions: none; it proves no statement by itself.
-/
import Derived.Test.YthepfbcgpbkbdaaM19
set_option linter.unusedVariables false
set_option linter.unusedSimpArgs false
set_option maxHeartbeats 1000000
set_option maxRecDepth 100000
namespace Go.Proofs.Ythepfbcgpbkbdaa
open Fw Go
attribute [-simp] Fw.W.ld_iff Fw.W.st_iff

abbrev noDdl : Ddl := ⟨0, emp, emp, emp, emp, false, 0, ⟨0, 0, emp⟩, []⟩
/-- what is great need not be looked at -/
theorem law_SchemaChecks {s : PH} {t : Tri} {S : Sch} {ps : List TabP} (h : SchB s t S ps) (hsm : ∀ T ∈ S.tabs, T.Sm) (name : ByteArray) :
    DCalls Try.prog 4 #[schV S t, .string name] s fun y s' => y = .bool true ∧ Fw.Mod [] s s' := by
  obtain ⟨ta, tn, tc⟩ := t
  refine ok_SchemaChecks S.version S.last ta tn tc name _ s ?_
  unfold vc_SchemaChecks
  simp only [RP_join, RP_ite, RP_call, RP_callQ, RP_ret, RP_nw, RP_app, RP_st, RP_ld, RP_unSome, RP_guard, RP_loop, RP_still, RP_clr, RP_look, RP_mset, W.unSome_some]
  refine W.join_gen (fun z s' => z = ((S.version, S.last, (ta, tn, tc), ()), ()) ∧ s' = s ∧ S.tabs.length + wsum S.tabs ≤ 300) ?_ ?_
  rotate_left
  · intro J hJ
    refine callq ((true, ()), ()) (c_awake s) rfl ?_
    refine (W.br_iff _ _ _ _).2 ⟨fun e => (by cases e), fun _ => ?_⟩
    refine W.call_of (c_great h noDdl (u := noTri) ⟨Sl.nil.el, Nat.le_refl _, by simp⟩) ?_
    rintro _ s' ⟨⟨b, rfl, hb⟩, rfl⟩
    refine ⟨((b, ()), ()), rfl, ?_⟩
    refine (W.br_iff _ _ _ _).2 ⟨fun _ => ?_, fun e => hJ _ _ ⟨rfl, rfl, by have := hb e; omega⟩⟩
    refine callq ((true, ()), ()) (c_awake _) rfl ?_
    exact ⟨rfl, Mod.refl _ _⟩
  rintro _ s0 ⟨rfl, rfl, hg⟩
  have hS := h.is hg
  have hSm := sm_great hsm hg
  have htn : tn = ps.length := hS.el.len
  have hpl : S.tabs.length = ps.length := by rw [hS.eq]; simp
  have hle : tn ≤ tc := hS.el.le
  refine W.call_of (c_Table hS name) ?_
  have fin : ∀ s1, Fw.Mod [] s0 s1 → W.call Try.prog 19 #[schV S (ta, tn, tc)] (false, [(false, [.bool])]) (fun y => W.br y.1.1
      (W.call Try.prog 20 #[schV S (ta, tn, tc)] (false, [(false, [.int .i64])]) fun x => W.ret (fun y s' => y = .bool true ∧ Fw.Mod [] s0 s') (.bool (x.1.1 == 0)))
      (W.call Try.prog 20 #[schV S (ta, tn, tc)] (false, [(false, [.int .i64])]) fun x => W.ret (fun y s' => y = .bool true ∧ Fw.Mod [] s0 s') (.bool (x.1.1 == 100)))) s1 := by
    intro s1 m1
    have hS1 := hS.mono m1.le
    have hR := c_rRight hS1
    have hC := c_Check hS1
    have hE : errS S = if right S = true then 0 else 100 := rfl
    generalize errS S = E at hC hE
    generalize right S = r at hR hE
    refine callq ((r, ()), ()) hR rfl ?_
    refine (W.br_iff _ _ _ _).2 ⟨fun e => ?_, fun e => ?_⟩
    · have e : r = true := e
      rw [if_pos e] at hE
      subst hE
      refine callq ((0, ()), ()) hC rfl ?_
      exact ⟨rfl, m1⟩
    · have e : r = false := e
      rw [if_neg (by rw [e]; simp)] at hE
      subst hE
      refine callq ((100, ()), ()) hC rfl ?_
      exact ⟨rfl, m1⟩
  rintro y s1 (⟨hneg, rfl, rfl⟩ | ⟨i, q, hi, hT, rfl, hq, m1⟩)
  · refine ⟨((0, emp, (none, 0, 0), (none, 0, 0), (none, 0, 0), ()), (false, ()), ()), rfl, ?_⟩
    obtain ⟨E, hE⟩ : ∃ E, tabAt S name = E := ⟨_, rfl⟩
    have hc := c_rTableAt (t := (ta, tn, tc)) hS name
    rw [hE] at hc hneg
    refine callq ((E, ()), ()) hc rfl ?_
    refine W.join_gen (fun z s' => z = ((S.version, S.last, (ta, tn, tc), ()), ()) ∧ s' = s1) ?_ ?_
    · rintro _ s2 ⟨rfl, rfl⟩
      exact fin _ (Mod.refl _ _)
    · intro J hJ
      refine (W.br_iff _ _ _ _).2 ⟨fun e => ?_, fun _ => ?_⟩
      · have e : (!(false == decide (E ≥ 0))) = true := e
        rw [decide_eq_false (p := E ≥ 0) (by omega)] at e
        cases e
      · exact (W.br_iff _ _ _ _).2 ⟨fun e => (by cases e), fun _ => hJ _ _ ⟨rfl, rfl⟩⟩
  · refine ⟨((q.T.id, q.T.name, q.c, q.x, q.k, ()), (true, ()), ()), rfl, ?_⟩
    have hS1 := hS.mono m1.le
    have hil := (List.getElem?_eq_some_iff.1 hT).1
    have hc := c_rTableAt (t := (ta, tn, tc)) hS1 name
    rw [hi] at hc
    refine callq (((i : Int), ()), ()) hc rfl ?_
    refine W.join_gen (fun z s' => z = ((S.version, S.last, (ta, tn, tc), ()), ()) ∧ Fw.Mod [] s0 s') ?_ ?_
    · rintro _ s2 ⟨rfl, m2⟩
      exact fin _ m2
    · intro J hJ
      refine (W.br_iff _ _ _ _).2 ⟨fun e => ?_, fun _ => ?_⟩
      · have e : (!(true == decide ((i : Int) ≥ 0))) = true := e
        rw [decide_eq_true (p := (i : Int) ≥ 0) (by omega)] at e
        cases e
      refine (W.br_iff _ _ _ _).2 ⟨fun _ => ?_, fun e => by cases e⟩
      dsimp only
      rw [wrap_succ (k := i) (by omega)]
      refine ⟨by omega, ?_⟩
      refine W.nw_of fun r s2 hr m2 k2 => ?_
      have hq2 := hq.mod m2 (by simp)
      have hS2 := hS1.mono m2.le
      have hci : ¬ (tc = i) := by omega
      obtain ⟨p, hp⟩ : ∃ p, ps[i]? = some p := ⟨_, List.getElem?_eq_getElem (by omega)⟩
      have hpT : p.T = q.T := by
        rw [hS.eq, List.getElem?_map, hp] at hT
        exact Option.some.inj hT
      have hfew := (hS.all p (get_mem hp)).few
      have hTm : q.T ∈ S.tabs := List.mem_of_getElem? hT
      have h1 : SchIs s2 (some ⟨r, 0, none⟩, 1, 1) ⟨0, 0, [q.T]⟩ [q] := ⟨⟨elems.of_row (row_one (E := tabE) (e := 42) k2 rfl), Nat.le_refl _, by simp⟩, rfl, fun p' hp' => by
        have : p' = q := by simpa using hp'
        subst this
        exact hq2.is (by rw [← hpT]; exact hfew)⟩
      obtain ⟨ad, had, hh⟩ := hS2.el.el.at_enc hp
      dsimp only at had
      subst had
      have hel : elems (Rd.enc tabE) s2 (some (ad.add (i * 5))) 1 [p] := ⟨rfl, fun j x hx => by
        match j with
        | 0 =>
          simp at hx; subst hx
          exact ⟨_, _, rfl, rfl, by rw [Nat.zero_mul, add_zero]; exact hh⟩
        | j + 1 => simp at hx⟩
      have h2 : SchIs s2 (some (ad.add (i * 5)), 1, tc - i) ⟨0, 0, [q.T]⟩ [p] := ⟨⟨hel, by show 1 ≤ tc - i; omega, by simp⟩, by simp [hpT], fun p' hp' => by
        have : p' = p := by simpa using hp'
        subst this
        exact hS2.all p' (get_mem hp)⟩
      have hsm1 : Sch.Sm ⟨0, 0, [q.T]⟩ := by
        refine ⟨fun T hT => ?_, ?_⟩
        · have : T = q.T := by simpa using hT
          subst this
          exact hSm.tabs _ hTm
        · have hh := hSm.cost
          unfold Sch.cost at hh ⊢
          have key : ∀ (l : List Tab), ∀ T ∈ l, T.cost ≤ (l.map Tab.cost).sum := by
            intro l
            induction l with
            | nil => simp
            | cons a l ih =>
              intro T hT
              simp only [List.map_cons, List.sum_cons]
              rcases List.mem_cons.1 hT with rfl | hT
              · omega
              · have := ih T hT; omega
          have := key S.tabs q.T hTm
          simp only [List.map_cons, List.map_nil, List.sum_cons, List.sum_nil]
          omega
      have hcs := c_same h1 h2 hsm1 hsm1
      rw [decide_eq_true (by rfl)] at hcs
      have e1 : ((i + 1 : Nat) : Int).toNat - (i : Int).toNat = 1 := by simp only [Int.toNat_natCast]; omega
      simp only [Int.toNat_natCast, if_neg hci, Option.map_some] at e1 ⊢
      rw [e1]
      refine callq ((true, ()), ()) hcs rfl ?_
      refine (W.br_iff _ _ _ _).2 ⟨fun e => (by cases e), fun _ => hJ _ _ ⟨rfl, m1.trans m2⟩⟩
theorem agg_arr {cs : Array Value} {l : List Value} (h : cs.toList = l) : Value.agg cs = .agg l.toArray := by rw [← h]
theorem c_SchemaChecks {s : PH} {cs : Array Value} {S : Sch} (h : rdSch.is s cs.toList S) (name : ByteArray) : DCalls Try.prog 4 #[.agg cs, .string name] s fun y s' => y = .bool true ∧ Fw.Mod [] s s' := by
  obtain ⟨t, ps, e, hB, hsm⟩ := rdSch_is h
  rw [agg_arr e]
  exact law_SchemaChecks hB hsm name
end Go.Proofs.Ythepfbcgpbkbdaa
