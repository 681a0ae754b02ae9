/-
  The ballot: answers that the document fixes; the law of a ballot that is none.
  Conditions: none; it proves no statement by itself.
-/
import Derived.Test.YtfpbiecmobdnnaaC11
set_option linter.unusedVariables false
set_option linter.unusedSimpArgs false
set_option maxHeartbeats 1000000
set_option maxRecDepth 100000
namespace Go.Proofs.Ytfpbiecmobdnnaa
open Fw Go
attribute [-simp] Fw.W.ld_iff Fw.W.st_iff

def BS.runB (B : BS) : Bool :=
  decide (0 ≤ B.base ∧ B.base ≤ 4611686016279904256 ∧ B.log.length ≤ 1073741824 ∧ 1 ≤ B.size ∧ B.size ≤ 5 ∧ 0 ≤ B.id ∧ B.id < B.size ∧ B.base ≤ B.commit ∧ B.commit ≤ B.lst) &&
  (decide (B.role = 1 → B.votes.length = B.size.toNat) && decide (B.role = 2 → B.next.length = B.size.toNat ∧ B.mat.length = B.size.toNat ∧ (∀ x ∈ B.next, 0 ≤ x ∧ x ≤ B.lst + 1) ∧ ∀ x ∈ B.mat, 0 ≤ x ∧ x ≤ B.lst))
theorem BS.runB_run {B : BS} (h : B.runB = true) : B.Run := by
  unfold BS.runB at h
  simp only [Bool.and_eq_true, decide_eq_true_eq] at h
  obtain ⟨⟨h1, h2, h3, h4, h5, h6, h7, h8, h9⟩, hv, hl⟩ := h
  refine ⟨⟨⟨h1, by omega, h3⟩, h2, ⟨h4, h5⟩, ⟨h6, h7⟩, h8⟩, h9, hv, fun hr => ?_⟩
  obtain ⟨g1, g2, g3, g4⟩ := hl hr
  exact ⟨g1, g2, fun i x hx => g3 x (List.mem_of_getElem? hx), fun i x hx => g4 x (List.mem_of_getElem? hx)⟩
def aw0 : BS := newBS 0 3
def aw1 : BS × List Msg := aw0.timeout
def awV : Msg := ⟨2, 1, 0, 1, 0, 0, 0, true, [], ⟨#[]⟩⟩
def aw2 : BS × List Msg := aw1.1.take awV
def awF : Msg := ⟨4, 1, 0, 1, 1, 0, 0, true, [], ⟨#[]⟩⟩
def aw3 : BS × List Msg := aw2.1.take awF
theorem aw0_run : aw0.runB = true := by kernel_rfl
theorem aw1_run : aw1.1.runB = true := by kernel_rfl
theorem aw2_run : aw2.1.runB = true := by kernel_rfl
theorem aw3_run : aw3.1.runB = true := by kernel_rfl
theorem aw1_len : aw1.2.length = 2 := by kernel_rfl
theorem aw1_1 : (aw1.2[1]?).map (fun M => (M.kind, M.to)) = some (1, 2) := by kernel_rfl
theorem aw2_len : aw2.2.length = 2 := by kernel_rfl
theorem aw2_0 : (aw2.2[0]?).map (fun M => M.list.length) = some 1 := by kernel_rfl
theorem aw3_len : aw3.2.length = 2 := by kernel_rfl
theorem aw3_0 : (aw3.2[0]?).map (fun M => M.commit) = some 1 := by kernel_rfl
theorem aw3_st : aw3.1.role = 2 ∧ aw3.1.commit = 1 := by constructor <;> kernel_rfl
theorem aw_log : aw0.log.length = 0 ∧ aw1.1.log.length = 0 ∧ aw2.1.log.length = 1 := by refine ⟨?_, ?_, ?_⟩ <;> kernel_rfl

theorem Msgs.get {s : PH} {t : Tri} {ps : List (Msg × Tri)} {ms : List Msg} (h : Msgs s t ps) (hm : ps.map (·.1) = ms) {i : Nat} {α : Type} {f : Msg → α} {y : α} (hi : (ms[i]?).map f = some y) :
    ∃ g M t', t.1 = some ⟨g, 0, none⟩ ∧ s.has ⟨g, i * 10, none⟩ (msgCells M t') ∧ f M = y ∧ rowE entE s 39 t'.1 t'.2.1 t'.2.2 M.list := by
  subst hm
  rw [List.getElem?_map] at hi
  cases hp : ps[i]? with
  | none => rw [hp] at hi; cases hi
  | some p =>
    rw [hp] at hi
    obtain ⟨g, hg, hh⟩ := h.row.at hp
    exact ⟨g, p.1, p.2, hg, hh, Option.some.inj hi, h.lists p (List.mem_of_getElem? hp)⟩
theorem Msgs.size {s : PH} {t : Tri} {ps : List (Msg × Tri)} {ms : List Msg} (h : Msgs s t ps) (hm : ps.map (·.1) = ms) : t.2.1 = ms.length := by
  rw [h.row.len, ← hm, List.length_map]

theorem c_awake (s : PH) : DCalls Try.prog 8 #[] s fun x s' => x = .bool true ∧ Fw.Mod [] s s' := by
  refine ok_awake _ s ?_
  unfold vc_awake
  simp only [RP_call]
  refine W.call_of (c_New 0 3 s) ?_
  intro x s1 hx
  rcases hx with ⟨_, b, rfl, h1, m1, hb⟩ | ⟨hno, _⟩
  rotate_left
  · exact absurd (by unfold okNew; omega) hno
  refine ⟨((some ⟨b, 0, none⟩, ()), (0, ()), ()), rfl, ?_⟩
  have h1 : Bal s1 b noTri noTri noTri noTri aw0 := h1
  have st1 : Step [] (bL b noTri noTri noTri noTri) s s1 := ⟨m1, fun x hx => .inr (by simp [bL, Fw.blk] at hx; subst hx; exact hb)⟩
  have R0 := BS.runB_run aw0_run
  have R1 := BS.runB_run aw1_run
  have R2 := BS.runB_run aw2_run
  have R3 := BS.runB_run aw3_run
  obtain ⟨l0, l1, l2⟩ := aw_log
  refine W.call_of (c_Timeout h1 R0.ok R0.lc (by omega) (by unfold Num; constructor <;> decide)) ?_
  rintro _ s2 ⟨t1, ps1, a1, a2, a3, a4, rfl, h2, st2, hms1, hps1, hf1⟩
  refine ⟨((t1, ()), ()), rfl, ?_⟩
  have hps1 : ps1.map (·.1) = aw1.2 := hps1
  have h2 : Bal s2 b a1 a2 a3 a4 aw1.1 := h2
  refine W.call_of (c_Take h2 R1 (by omega) awV noTri rowE.nil (by show 0 ≤ 1000000; omega)) ?_
  rintro _ s3 ⟨t2, ps2, b1, b2, b3, b4, rfl, h3, st3, hms2, hps2, hf2⟩
  refine ⟨((t2, ()), ()), rfl, ?_⟩
  have hps2 : ps2.map (·.1) = aw2.2 := hps2
  have h3 : Bal s3 b b1 b2 b3 b4 aw2.1 := h3
  have hms1' := hms1.mod st3.mod (fun y hy hx => (hf1 y hy).2 hx)
  have hap := st3.apart (fun x hx => (hf1 x hx).2) hms1.known
  refine W.call_of (c_Take h3 R2 (by omega) awF noTri rowE.nil (by show 0 ≤ 1000000; omega)) ?_
  rintro _ s4 ⟨t3, ps3, c1, c2, c3, c4, rfl, h4, st4, hms3, hps3, hf3⟩
  refine ⟨((t3, ()), ()), rfl, ?_⟩
  have hps3 : ps3.map (·.1) = aw3.2 := hps3
  have h4 : Bal s4 b c1 c2 c3 c4 aw3.1 := h4
  have hms1'' := hms1'.mod st4.mod hap
  have hms2' := hms2.mod st4.mod (fun y hy hx => (hf2 y hy).2 hx)
  have st := ((st1.trans st2).trans st3).trans st4
  refine W.call_of (c_Stand h4 R3.ok.small) ?_
  rintro _ s5 ⟨rfl, m5⟩
  refine ⟨((aw3.1.term, aw3.1.vote, aw3.1.role, aw3.1.lead, aw3.1.base, aw3.1.lst, aw3.1.commit, ()), ()), rfl, ?_⟩
  refine W.nw_of fun r s6 hr m6 k6 => ?_
  have m56 := m5.trans m6
  have hsz1 := hms1.size hps1
  have hsz2 := hms2.size hps2
  have hsz3 := hms3.size hps3
  rw [aw1_len] at hsz1
  rw [aw2_len] at hsz2
  rw [aw3_len] at hsz3
  obtain ⟨hro, hco⟩ := aw3_st
  simp [W.st_at k6, hsz1, hsz2, hsz3, hro, hco]
  have m7 : Fw.Mod [] s4 (s6.upd r (.cells #[.int .i64 aw3.1.term, .int .i64 aw3.1.vote, .int .i64 2, .int .i64 aw3.1.lead, .int .i64 aw3.1.base, .int .i64 aw3.1.lst, .int .i64 1] 36 (0, 0))) := m56.updLater (.inr (m5.none hr (by simp)))
  have k7 := PH.upd_same s6 r (.cells #[.int .i64 aw3.1.term, .int .i64 aw3.1.vote, .int .i64 2, .int .i64 aw3.1.lead, .int .i64 aw3.1.base, .int .i64 aw3.1.lst, .int .i64 1] 36 (0, 0))
  generalize s6.upd r (.cells #[.int .i64 aw3.1.term, .int .i64 aw3.1.vote, .int .i64 2, .int .i64 aw3.1.lead, .int .i64 aw3.1.base, .int .i64 aw3.1.lst, .int .i64 1] 36 (0, 0)) = s7 at m7 k7 ⊢
  obtain ⟨g1, M1, u1, e1, hh1, hy1, _⟩ := (hms1''.mod m7 (by simp)).get hps1 aw1_1
  obtain ⟨g2, M2, u2, e2, hh2, hy2, hr2⟩ := (hms2'.mod m7 (by simp)).get hps2 aw2_0
  obtain ⟨g3, M3, u3, e3, hh3, hy3, _⟩ := (hms3.mod m7 (by simp)).get hps3 aw3_0
  have hM1k : M1.kind = 1 := congrArg Prod.fst hy1
  have hM1t : M1.to = 2 := congrArg Prod.snd hy1
  have hu2 : u2.2.1 = 1 := by rw [hr2.len]; exact hy2
  rw [e1, e2, e3]
  simp
  have q1 : s7.has ⟨g1, 10, none⟩ (msgCells M1 u1) := hh1
  have q2 : s7.has ⟨g2, 0, none⟩ (msgCells M2 u2) := by simpa using hh2
  have q3 : s7.has ⟨g3, 0, none⟩ (msgCells M3 u3) := by simpa using hh3
  have hM3 : M3.commit = 1 := hy3
  refine ld_has_z q1 (cs := [.int .i64]) (y := (M1.kind, ())) rfl ?_
  simp only [hM1k, beq_self_eq_true, W.br_true]
  refine ⟨trivial, ?_⟩
  simp only [W.unSome_some]
  refine ld_has (A := ⟨g1, 10, none⟩) (j := 2) q1 (cs := [.int .i64]) (y := (M1.to, ())) rfl ?_
  simp only [hM1t, beq_self_eq_true, W.br_true]
  refine ⟨trivial, ?_⟩
  simp only [W.unSome_some]
  refine ld_has (A := ⟨g2, 0, none⟩) (j := 8) q2 (cs := [.slice]) (y := (u2, ())) rfl ?_
  have e4 : ((u2.2.1 : Int) == 1) = true := by rw [hu2]; rfl
  simp only [e4, W.br_true]
  refine ⟨trivial, ?_⟩
  simp only [W.unSome_some]
  refine ld_has (A := ⟨g3, 0, none⟩) (j := 6) q3 (cs := [.int .i64]) (y := (M3.commit, ())) rfl ?_
  simp only [hM3, beq_self_eq_true, W.br_true]
  simp [W.ld_at k7]
  exact (st.mod.trans (m7.mono (by simp)))

theorem c_BallotNil (o : OpD) (t : Tri) (s : PH) (h : MsgIs s (msgCells o.M t) o.M t) : DCalls Try.prog 5 #[opV o t] s fun x s' => x = .bool true ∧ Fw.Mod [] s s' := by
  refine ok_BallotNil o.kind o.a o.b o.text o.M.kind o.M.from_ o.M.to o.M.term o.M.index o.M.prev o.M.commit o.M.good t.1 t.2.1 t.2.2 o.M.snap _ s ?_
  unfold vc_BallotNil
  simp only [RP_nw]
  refine W.nw_of fun r s1 hr m1 k1 => ?_
  simp [W.ld_at k1, -W.nw_iff]
  refine W.call_of (n_did o t s1 (h.mono m1.le)) ?_
  rintro _ s2 ⟨rfl, m2⟩
  refine ⟨((noTri, ()), (0, ()), ()), rfl, ?_⟩
  refine W.call_of (n_Delta s2) ?_
  rintro _ s3 ⟨rfl, m3⟩
  refine ⟨((0, 0, false, 0, 0, ⟨#[]⟩, 0, noTri, ()), (false, ()), ()), rfl, ?_⟩
  refine W.nw_of fun r2 s4 hr2 m4 k4 => ?_
  have k1' := ((m2.trans m3).trans m4).at k1 (by simp)
  have hne : r ≠ r2 := ne_of_known ((m2.trans m3).at k1 (by simp)) hr2
  simp [W.st_at k4, fun o => W.ld_at (upd_at k1' hne o), -W.nw_iff]
  have m5 : Fw.Mod [] s3 (s4.upd r2 (.cells #[.int .i64 0, .int .i64 0, .bool false, .int .i64 0, .int .i64 0, .string ⟨#[]⟩, .int .i64 0, .slice none 0 0] 53 (0, 0))) := m4.updLater (.inr hr2)
  generalize s4.upd r2 (.cells #[.int .i64 0, .int .i64 0, .bool false, .int .i64 0, .int .i64 0, .string ⟨#[]⟩, .int .i64 0, .slice none 0 0] 53 (0, 0)) = s5 at m5 ⊢
  refine W.call_of (n_Entry o.a s5) ?_
  rintro _ s6 ⟨rfl, m6⟩
  refine ⟨((0, 0, 0, ⟨#[]⟩, ()), (false, ()), ()), rfl, ?_⟩
  refine W.nw_of fun r3 s7 hr3 m7 k7 => ?_
  simp [W.st_at k7]
  have m8 : Fw.Mod [] s6 (s7.upd r3 (.cells #[.int .i64 0, .int .i64 0, .int .i64 0, .string ⟨#[]⟩] 39 (0, 0))) := m7.updLater (.inr hr3)
  generalize s7.upd r3 (.cells #[.int .i64 0, .int .i64 0, .int .i64 0, .string ⟨#[]⟩] 39 (0, 0)) = s8 at m8 ⊢
  refine W.call_of (c_awake s8) ?_
  rintro _ s9 ⟨rfl, m9⟩
  refine ⟨((true, ()), ()), rfl, ?_⟩
  simp
  refine W.call_of (n_Snap s9) ?_
  rintro _ s9 ⟨rfl, rfl⟩
  refine ⟨((⟨#[]⟩, ()), ()), rfl, ?_⟩
  simp
  refine W.call_of (n_Stand s9) ?_
  rintro _ s10 ⟨rfl, m10⟩
  refine ⟨((0, 0, 0, 0, 0, 0, 0, ()), ()), rfl, ?_⟩
  simp
  exact (((((m1.trans m2).trans m3).trans m5).trans m6).trans m8).trans (m9.trans m10)
theorem c_BallotNil' {cs : Array Value} {o : OpD} {s : PH} (h : rdOp.is s cs.toList o) : DCalls Try.prog 5 #[.agg cs] s fun x s' => x = .bool true ∧ Fw.Mod [] s s' := by
  obtain ⟨t, he, ht⟩ := rdOp_is h
  have : cs = (opCells o t).toArray := by rw [← he]
  rw [this]
  exact c_BallotNil o t s ht
end Go.Proofs.Ytfpbiecmobdnnaa
