/-
  Schemas: the document's turn.
  Conditions: none; it proves no statement by itself.
-/
import Derived.Test.YthepfbcgpbkbdaaM16
set_option linter.unusedVariables false
set_option linter.unusedSimpArgs false
set_option maxHeartbeats 1000000
set_option maxRecDepth 100000
namespace Go.Proofs.Ythepfbcgpbkbdaa
open Fw Go
attribute [-simp] Fw.W.ld_iff Fw.W.st_iff

theorem stateB_ne {n : Int} (h : stateB n = true) : n ≠ 0 := by
  unfold stateB at h
  simp only [Bool.and_eq_true, decide_eq_true_eq] at h
  omega
theorem right_sn {S : Sch} (h : right S = true) : S.Sn := by
  obtain ⟨a, b, c, d, e⟩ := right_iff.1 h
  refine ⟨fun T hT x hx => ?_, fun T hT x hx => ?_, fun T hT x hx => ?_⟩
  all_goals
    obtain ⟨i, hi⟩ := List.mem_iff_getElem?.1 hT
    obtain ⟨_, _, _, _, _, _, _, _, c1, c2, c3⟩ := tabB_iff.1 (allI_iff.1 d i T hi)
    obtain ⟨j, hj⟩ := List.mem_iff_getElem?.1 hx
  · have := allI_iff.1 c1 j x hj
    unfold colB at this
    simp only [Bool.and_eq_true] at this
    exact stateB_ne this.1
  · have := allI_iff.1 c2 j x hj
    unfold idxB at this
    simp only [Bool.and_eq_true] at this
    exact stateB_ne this.1
  · have := allI_iff.1 c3 j x hj
    unfold keyB at this
    simp only [Bool.and_eq_true] at this
    exact stateB_ne this.1
def Res.out (r : Res) : Sch × Int := match r with
  | .error e => (noSch, e)
  | .ok S' => (S', 0)
theorem outR_give {s s1 s2 : PH} {L : List Nat} {r : Res} {y : Value} (ho : OutR r L s1 y s2) (m1 : Fw.Mod [] s s1) (hf : ∀ g ∈ L, s g = none) (her : r.ErrOk) {r' : Sch × Int} (hr : r' = r.out) {K : W.T}
    {k : MDen [(true, [.int .i64, .int .i64, .slice]), (false, [.int .i64])] → W.T}
    (hk0 : ∀ (S'' : Sch) (t'' : Tri) (e : Int), e ≠ 0 → Gives s noSch e (.tuple #[schV noSch noTri, .int .i64 e]) s2 → r' = (noSch, e) → k ((S''.version, S''.last, t'', ()), (e, ()), ()) s2)
    (hk1 : ∀ (S' : Sch) (t' : Tri), Gives s S' 0 (.tuple #[schV S' t', .int .i64 0]) s2 → r' = (S', 0) → k ((S'.version, S'.last, t', ()), (0, ()), ()) s2) :
    ∃ x, mkRes (true, [(true, [.int .i64, .int .i64, .slice]), (false, [.int .i64])]) x = y ∧ k x s2 := by
  cases r with
  | error e =>
    obtain ⟨⟨S'', t'', rfl⟩, m2⟩ := ho
    refine ⟨((S''.version, S''.last, t'', ()), (e, ()), ()), rfl, hk0 S'' t'' e (her e rfl) (gives_no (m1.fresh m2 fun g hg => .inr (hf g hg))) hr⟩
  | ok S' =>
    obtain ⟨t', ps', rfl, hH, he, st⟩ := ho
    refine ⟨((S'.version, S'.last, t', ()), (0, ()), ()), rfl, hk1 S' t' ⟨t', ps', rfl, hH, he, m1.fresh st.mod fun g hg => .inr (hf g hg), fun g hg => ?_⟩ hr⟩
    rcases st.new g hg with e | e
    · exact hf g e
    · exact m1.none e (by simp)
theorem c_rTurn {s : PH} {t : Tri} {S : Sch} {ps : List TabP} (h : SchIs s t S ps) (D : Ddl) {u : Tri} (hu : Sl colE s u D.cols) (hul : D.cols.length ≤ 1073741824) (st : Int) :
    DCalls Try.prog 15 #[schV S t, ddlV D u, .int .i64 st] s (Gives s (S.turn D st).1 (S.turn D st).2) := by
  obtain ⟨ua, un, uc⟩ := u
  obtain ⟨ta, tn, tc⟩ := t
  refine ok_rTurn S.version S.last ta tn tc D.kind D.table D.name D.column D.parent D.unique D.type D.dflt.kind D.dflt.n D.dflt.s ua un uc st _ s ?_
  unfold vc_rTurn
  obtain ⟨R, hR⟩ : ∃ R, Gives s (S.turn D st).1 (S.turn D st).2 = R := ⟨_, rfl⟩
  rw [hR]
  simp only [RP_join, RP_ite, RP_call, RP_callQ, RP_ret, RP_nw, RP_app, RP_st, RP_ld, RP_unSome, RP_guard, RP_loop, RP_still, RP_clr, RP_look, RP_mset, W.unSome_some]
  refine W.join_gen (fun z s' => z = ((S.version, S.last, (ta, tn, tc), ()), (D.kind, D.table, D.name, D.column, D.parent, D.unique, D.type, D.dflt.kind, D.dflt.n, D.dflt.s, (ua, un, uc), ()), (0, 0, (none, 0, 0), ()), ()) ∧ s' = s ∧ right S = true ∧ 0 ≤ st ∧ st ≤ 3) ?_ ?_
  rotate_left
  · intro J hJ
    have hbad : ¬ (right S = true ∧ 0 ≤ st ∧ st ≤ 3) → R (.tuple #[schV noSch noTri, .int .i64 100]) s := by
      intro e
      have : S.turn D st = (noSch, 100) := by
        unfold Sch.turn; rw [if_pos]
        cases hr : right S
        · rfl
        · rw [hr] at e
          simp only [Bool.true_and, Bool.and_eq_false_iff, decide_eq_false_iff_not]
          simp only [true_and] at e
          omega
      rw [← hR, this]
      exact gives_no (Mod.refl _ _)
    have hc := c_rRight h
    obtain ⟨E, hE⟩ : ∃ E, right S = E := ⟨_, rfl⟩
    rw [hE] at hc hbad hJ
    refine callq ((E, ()), ()) hc rfl ?_
    simp only [W.br_iff, decide_eq_true_eq, decide_eq_false_iff_not]
    exact ⟨fun h1 => hbad (fun e => by rw [e.1] at h1; cases h1), fun h1 => ⟨fun h2 => hbad (by omega), fun h2 => ⟨fun h3 => hbad (by omega), fun h3 => hJ _ _ ⟨rfl, rfl, not_f h1, by omega, by omega⟩⟩⟩⟩
  rintro _ s0 ⟨rfl, rfl, hr, hst0, hst3⟩
  have hturn0 : S.turn D st = if D.kind < 1 ∨ 7 < D.kind then (noSch, 1) else match turn1 { S with version := S.version + 1 } D st with
      | .error e => (noSch, e)
      | .ok S' => (S', 0) := by
    unfold Sch.turn
    rw [if_neg (by rw [hr, decide_eq_true hst0, decide_eq_true hst3]; simp)]
    rfl
  refine W.join_gen (fun z s' => z = ((S.version, S.last, (ta, tn, tc), ()), (D.kind, D.table, D.name, D.column, D.parent, D.unique, D.type, D.dflt.kind, D.dflt.n, D.dflt.s, (ua, un, uc), ()), (0, 0, (none, 0, 0), ()), ()) ∧ s' = s0 ∧ ¬ (D.kind < 1 ∨ 7 < D.kind)) ?_ ?_
  rotate_left
  · intro J hJ
    have hbad : (D.kind < 1 ∨ 7 < D.kind) → R (.tuple #[schV noSch noTri, .int .i64 1]) s0 := by
      intro e
      rw [← hR, hturn0, if_pos e]
      exact gives_no (Mod.refl _ _)
    simp only [W.br_iff, decide_eq_true_eq, decide_eq_false_iff_not]
    exact ⟨fun h2 => hbad (by omega), fun h2 => ⟨fun h3 => hbad (by omega), fun h3 => hJ _ _ ⟨rfl, rfl, by omega⟩⟩⟩
  rintro _ s1 ⟨rfl, rfl, hkind⟩
  rw [if_neg hkind] at hturn0
  obtain ⟨hbd, hv0, hv1⟩ := right_bd hr
  have hsn := right_sn hr
  have hvw : IntKind.i64.wrap (S.version + 1) = S.version + 1 := wrap_in (by omega) (by omega)
  refine W.call_of (c_rCopy h) ?_
  rintro _ s2 ⟨t', ps', rfl, hH, he, m2, hf⟩
  refine ⟨((S.version, S.last, t', ()), ()), rfl, ?_⟩
  simp only [hvw]
  obtain ⟨S1, hS1⟩ : ∃ S1 : Sch, S1 = ⟨S.version + 1, S.last, S.tabs⟩ := ⟨_, rfl⟩
  have hbd1 : S1.Bd := by rw [hS1]; exact ⟨hbd.tabs, hbd.each, hbd.last⟩
  have hsn1 : S1.Sn := by rw [hS1]; exact ⟨hsn.c, hsn.x, hsn.k⟩
  have he1 : S1.tabs = ps'.map (·.T) := by rw [hS1]; exact he
  have hSch2 : SchIs s2 t' S1 ps' := hH.is he1 (by have := hbd1.tabs; omega) (fun T hT => by obtain ⟨_, a, b, c⟩ := hbd1.each T hT; exact ⟨by omega, by omega, by omega⟩)
  have eS1 : (⟨S.version + 1, S.last, S.tabs⟩ : Sch) = S1 := hS1.symm
  have hturn2 : S.turn D st = (turn1 S1 D st).out := by rw [← eS1]; exact hturn0
  have hv : S.version + 1 = S1.version := by rw [hS1]
  have hl : S.last = S1.last := by rw [hS1]
  rw [hv, hl]
  have herr := turn1_err S1 D st
  have hu2 := hu.mono m2.le
  refine callq ((tabAt S1 D.table, ()), ()) (c_rTableAt hSch2 D.table) rfl ?_
  have hk0 : ∀ e, Gives s1 noSch e (.tuple #[schV noSch noTri, .int .i64 e]) s2 → S.turn D st = (noSch, e) → R (.tuple #[schV noSch noTri, .int .i64 e]) s2 := fun e hg ht => by rw [← hR, ht]; exact hg
  simp only [W.br_iff, decide_eq_true_eq, decide_eq_false_iff_not]
  refine ⟨fun h1 => ?_, fun h1 => ?_⟩
  · have h1 : D.kind = 1 := by simpa using h1
    have ht1 : turn1 S1 D st = createTurn S1 D st := by unfold turn1; rw [if_pos h1]
    rw [ht1] at herr hturn2
    refine W.call_of (c_rCreate hH he1 hbd1 D hu2 hul st) ?_
    intro y s3 ho
    refine outR_give ho m2 hf herr hturn2 (K := fun _ => True) ?_ ?_
    · intro S'' t'' e hne hg ht
      simp only [W.br_iff]
      refine ⟨fun _ => by rw [← hR, ht]; exact hg, fun hz => absurd (by simpa using hz) hne⟩
    · intro S' t'' hg ht
      refine (W.br_iff _ _ _ _).2 ⟨fun hz => by simp at hz, fun _ => ?_⟩
      show R _ _
      rw [← hR, ht]; exact hg
  have h1 : D.kind ≠ 1 := by simpa using h1
  refine ⟨fun h2 => ?_, fun h2 => ?_⟩
  · have ht1 : turn1 S1 D st = .error 150 := by unfold turn1; rw [if_neg h1, if_pos h2]
    rw [ht1] at hturn2
    first
      | exact hk0 150 (gives_no m2) hturn2
      | exact ⟨fun _ => hk0 150 (gives_no m2) hturn2, fun e => by cases e⟩
  obtain ⟨i, T, hi, hT, _⟩ := (seek_cases (fun T : Tab => decide (T.name = D.table)) S1.tabs).resolve_left (fun e => by have := e.1; unfold tabAt at h2; omega)
  have hi : tabAt S1 D.table = (i : Int) := hi
  obtain ⟨p, hp, rfl⟩ : ∃ p, ps'[i]? = some p ∧ p.T = T := by
    rw [he1, List.getElem?_map] at hT
    cases hq : ps'[i]? with
    | none => rw [hq] at hT; cases hT
    | some pp => rw [hq] at hT; exact ⟨pp, rfl, Option.some.inj hT⟩
  have ht1 : turn1 S1 D st = if D.kind = 4 ∨ D.kind = 5 then colTurn S1 i p.T D st else if D.kind = 2 ∨ D.kind = 3 then idxTurn S1 i p.T D st else keyTurn S1 i p.T D st := by
    unfold turn1
    rw [if_neg h1, if_neg h2, hi]
    simp only [Int.toNat_natCast, hT]
  rw [hi]
  refine W.join_gen (fun z s' => z = ((D.kind, D.table, D.name, D.column, D.parent, D.unique, D.type, D.dflt.kind, D.dflt.n, D.dflt.s, (ua, un, uc), ()), (0, 0, (none, 0, 0), ()), (S1.version, S1.last, t', ()), ((i : Int), ()), (decide (D.kind = 4 ∨ D.kind = 5), ()), ()) ∧ s' = s2) ?_ ?_
  rotate_left
  · intro J hJ
    simp only [W.br_iff]
    refine ⟨fun h4 => hJ _ _ ⟨?_, rfl⟩, fun h4 => hJ _ _ ⟨?_, rfl⟩⟩
    · have h4 : D.kind = 4 := by simpa using h4
      simp [h4]
    · have h4 : D.kind ≠ 4 := by simpa using h4
      simp [h4, beq_dec]
  rintro _ s3 ⟨rfl, rfl⟩
  simp only [W.br_iff, decide_eq_true_eq, decide_eq_false_iff_not]
  refine ⟨fun h4 => ?_, fun h4 => ?_⟩
  · rw [if_pos h4] at ht1
    rw [ht1] at herr hturn2
    refine W.call_of (c_rColumn hH he1 hbd1 hsn1 hp D (ua, un, uc) st) ?_
    intro y s4 ho
    refine outR_give ho m2 hf herr hturn2 (K := fun _ => True) ?_ ?_
    · intro S'' t'' e hne hg ht
      simp only [W.br_iff]
      refine ⟨fun _ => by rw [← hR, ht]; exact hg, fun hz => absurd (by simpa using hz) hne⟩
    · intro S' t'' hg ht
      refine (W.br_iff _ _ _ _).2 ⟨fun hz => by simp at hz, fun _ => ?_⟩
      show R _ _
      rw [← hR, ht]; exact hg
  rw [if_neg h4] at ht1
  refine W.join_gen (fun z s' => z = ((D.kind, D.table, D.name, D.column, D.parent, D.unique, D.type, D.dflt.kind, D.dflt.n, D.dflt.s, (ua, un, uc), ()), (0, 0, (none, 0, 0), ()), (S1.version, S1.last, t', ()), ((i : Int), ()), (decide (D.kind = 2 ∨ D.kind = 3), ()), ()) ∧ s' = s3) ?_ ?_
  rotate_left
  · intro J hJ
    simp only [W.br_iff]
    refine ⟨fun h4 => hJ _ _ ⟨?_, rfl⟩, fun h4 => hJ _ _ ⟨?_, rfl⟩⟩
    · have h4 : D.kind = 2 := by simpa using h4
      simp [h4]
    · have h4 : D.kind ≠ 2 := by simpa using h4
      simp [h4, beq_dec]
  rintro _ s4 ⟨rfl, rfl⟩
  simp only [W.br_iff, decide_eq_true_eq, decide_eq_false_iff_not]
  refine ⟨fun h5 => ?_, fun h5 => ?_⟩
  · rw [if_pos h5] at ht1
    rw [ht1] at herr hturn2
    refine W.call_of (c_rIndex hH he1 hbd1 hsn1 hp D (ua, un, uc) st) ?_
    intro y s5 ho
    refine outR_give ho m2 hf herr hturn2 (K := fun _ => True) ?_ ?_
    · intro S'' t'' e hne hg ht
      simp only [W.br_iff]
      refine ⟨fun _ => by rw [← hR, ht]; exact hg, fun hz => absurd (by simpa using hz) hne⟩
    · intro S' t'' hg ht
      refine (W.br_iff _ _ _ _).2 ⟨fun hz => by simp at hz, fun _ => ?_⟩
      show R _ _
      rw [← hR, ht]; exact hg
  · rw [if_neg h5] at ht1
    rw [ht1] at herr hturn2
    refine W.call_of (c_rForeign hH he1 hbd1 hsn1 hp D (ua, un, uc) st) ?_
    intro y s5 ho
    refine outR_give ho m2 hf herr hturn2 (K := fun _ => True) ?_ ?_
    · intro S'' t'' e hne hg ht
      simp only [W.br_iff]
      refine ⟨fun _ => by rw [← hR, ht]; exact hg, fun hz => absurd (by simpa using hz) hne⟩
    · intro S' t'' hg ht
      refine (W.br_iff _ _ _ _).2 ⟨fun hz => by simp at hz, fun _ => ?_⟩
      show R _ _
      rw [← hR, ht]; exact hg
end Go.Proofs.Ythepfbcgpbkbdaa
