/-
  The ballot: what a law is handed; a ballot that is none.
  Conditions: none; it proves no statement by itself.
-/
import Derived.Test.YtfpbiecmobdnnaaFwO
import Derived.Test.YtfpbiecmobdnnaaC10
import Derived.Test.YtfpbiecmobdnnaaVc3
set_option linter.unusedVariables false
set_option linter.unusedSimpArgs false
set_option maxHeartbeats 1000000
set_option maxRecDepth 100000
namespace Go.Proofs.Ytfpbiecmobdnnaa
open Fw Go
attribute [-simp] Fw.W.ld_iff Fw.W.st_iff

def rdEnt : Rd Ent := (Rd.pair (Rd.int .i64) (Rd.pair (Rd.int .i64) (Rd.pair (Rd.int .i64) (Rd.pair Rd.str Rd.unit)))).map fun x => ⟨x.1, x.2.1, x.2.2.1, x.2.2.2.1⟩
theorem opens39 : Opens Try.prog 39 rdEnt :=
  opens_map _ (opens_struct (.cons rfl (opens_int Try.underlying3 (by kernel_rfl)) (.cons rfl (opens_int Try.underlying3 (by kernel_rfl)) (.cons rfl (opens_int Try.underlying3 (by kernel_rfl))
    (.cons rfl (opens_str Try.underlying9 (by kernel_rfl)) (.nil _))))) Try.underlying39 (by kernel_rfl))
theorem rdEnt_is {s : PH} {cs : List Value} {e : Ent} (h : rdEnt.is s cs e) : cs = entE.f e := by
  obtain ⟨x, rfl, c1, c2, rfl, ⟨rfl, h1⟩, d1, d2, rfl, ⟨rfl, h2⟩, e1, e2, rfl, ⟨rfl, h3⟩, f1, f2, rfl, ⟨rfl, h4⟩, rfl⟩ := h
  rfl
theorem View.elems {s : PH} {a : Option Addr} {n c : Nat} {xs : List Ent} (h : Fw.elems rdEnt s a n xs) (hc : n ≤ c) : View s a n c xs :=
  ⟨h.1, hc, fun j x hx => by obtain ⟨ad, cs, h1, h2, h3⟩ := h.2 j x hx; rw [rdEnt_is h2] at h3; exact ⟨ad, h1, h3⟩⟩
def rdMsgF : Rd (Int × Int × Int × Int × Int × Int × Int × Bool × List Ent × ByteArray × Unit) :=
  Rd.pair (Rd.int .i64) (Rd.pair (Rd.int .i64) (Rd.pair (Rd.int .i64) (Rd.pair (Rd.int .i64) (Rd.pair (Rd.int .i64) (Rd.pair (Rd.int .i64) (Rd.pair (Rd.int .i64) (Rd.pair Rd.bool (Rd.pair (Rd.sl rdEnt 40) (Rd.pair Rd.str Rd.unit)))))))))
def rdMsg : Rd Msg := rdMsgF.map fun x => ⟨x.1, x.2.1, x.2.2.1, x.2.2.2.1, x.2.2.2.2.1, x.2.2.2.2.2.1, x.2.2.2.2.2.2.1, x.2.2.2.2.2.2.2.1, x.2.2.2.2.2.2.2.2.1, x.2.2.2.2.2.2.2.2.2.1⟩
theorem opens32 : Opens Try.prog 32 rdMsg :=
  opens_map _ (opens_struct (.cons rfl (opens_int Try.underlying3 (by kernel_rfl)) (.cons rfl (opens_int Try.underlying3 (by kernel_rfl)) (.cons rfl (opens_int Try.underlying3 (by kernel_rfl)) (.cons rfl (opens_int Try.underlying3 (by kernel_rfl))
    (.cons rfl (opens_int Try.underlying3 (by kernel_rfl)) (.cons rfl (opens_int Try.underlying3 (by kernel_rfl)) (.cons rfl (opens_int Try.underlying3 (by kernel_rfl)) (.cons rfl (opens_bool Try.underlying4 (by kernel_rfl))
    (.cons rfl (opens_sl opens39 Try.underlying30 (by kernel_rfl) (by kernel_rfl)) (.cons rfl (opens_str Try.underlying9 (by kernel_rfl)) (.nil _))))))))))) Try.underlying32 (by kernel_rfl))
structure MsgIs (s : PH) (cs : List Value) (M : Msg) (t : Tri) : Prop where
  cells : cs = msgCells M t
  view : View s t.1 t.2.1 t.2.2 M.list
  room : t.2.1 * 40 ≤ 140737488355328
theorem MsgIs.mono {s s' : PH} {cs : List Value} {M : Msg} {t : Tri} (h : MsgIs s cs M t) (hm : s.le s') : MsgIs s' cs M t := ⟨h.cells, h.view.mono hm, h.room⟩
theorem rdMsg_is {s : PH} {cs : List Value} {M : Msg} (h : rdMsg.is s cs M) : ∃ t : Tri, MsgIs s cs M t := by
  obtain ⟨x, rfl, c1, c2, rfl, ⟨rfl, h1⟩, d1, d2, rfl, ⟨rfl, h2⟩, e1, e2, rfl, ⟨rfl, h3⟩, f1, f2, rfl, ⟨rfl, h4⟩, g1, g2, rfl, ⟨rfl, h5⟩, i1, i2, rfl, ⟨rfl, h6⟩, j1, j2, rfl, ⟨rfl, h7⟩, k1, k2, rfl, rfl, l1, l2, rfl, ⟨a, n, c, rfl, g3, g4, g5, g6⟩, m1, m2, rfl, ⟨rfl, h9⟩, rfl⟩ := h
  have hr : reachBytes = 140737488351232 := rfl
  refine ⟨(a, n, c), rfl, View.elems g6 g3, ?_⟩
  show n * 40 ≤ _
  rw [hr] at g5; omega

structure OpD where
  kind : Int
  a : Int
  b : Int
  text : ByteArray
  M : Msg
def rdOp : Rd OpD := (Rd.pair (Rd.int .i64) (Rd.pair (Rd.int .i64) (Rd.pair (Rd.int .i64) (Rd.pair Rd.str (Rd.pair rdMsg Rd.unit))))).map fun x => ⟨x.1, x.2.1, x.2.2.1, x.2.2.2.1, x.2.2.2.2.1⟩
theorem opens34 : Opens Try.prog 34 rdOp :=
  opens_map _ (opens_struct (.cons rfl (opens_int Try.underlying3 (by kernel_rfl)) (.cons rfl (opens_int Try.underlying3 (by kernel_rfl)) (.cons rfl (opens_int Try.underlying3 (by kernel_rfl)) (.cons rfl (opens_str Try.underlying9 (by kernel_rfl))
    (.cons rfl opens32 (.nil _)))))) Try.underlying34 (by kernel_rfl))
abbrev opCells (o : OpD) (t : Tri) : List Value := .int .i64 o.kind :: .int .i64 o.a :: .int .i64 o.b :: .string o.text :: msgCells o.M t
theorem rdOp_is {s : PH} {cs : List Value} {o : OpD} (h : rdOp.is s cs o) : ∃ t : Tri, cs = opCells o t ∧ MsgIs s (msgCells o.M t) o.M t := by
  obtain ⟨x, rfl, c1, c2, rfl, ⟨rfl, h1⟩, d1, d2, rfl, ⟨rfl, h2⟩, e1, e2, rfl, ⟨rfl, h3⟩, f1, f2, rfl, ⟨rfl, h4⟩, g1, g2, rfl, h5, rfl⟩ := h
  obtain ⟨t, ht⟩ := rdMsg_is h5
  have := ht.cells
  subst this
  exact ⟨t, by simp [opCells], ⟨rfl, ht.view, ht.room⟩⟩

theorem c_copied {s : PH} {M : Msg} {t : Tri} (h : MsgIs s (msgCells M t) M t) : DCalls Try.prog 29 #[msgV M t] s (FeedPost M s) := by
  have hmax : maxLen = 9223372036854775807 := rfl
  refine ok_copied M.kind M.from_ M.to M.term M.index M.prev M.commit M.good t.1 t.2.1 t.2.2 M.snap _ s ?_
  unfold vc_copied
  simp only [RP_nw]
  refine W.nw_of fun r s1 hr m1 k1 => ?_
  refine W.nw_of fun q s2 hq m2 k2 => ?_
  refine W.nw_of fun p s3 hp m3 k3 => ?_
  have k1' := (m2.trans m3).at k1 (by simp)
  have k2' := m3.at k2 (by simp)
  have m13 := (m1.trans m2).trans m3
  have hv := h.view.mono m13.le
  have hroom := h.room
  have hrq : r ≠ q := ne_of_known k1 hq
  have hrp : r ≠ p := ne_of_known (m2.at k1 (by simp)) hp
  have hqp : q ≠ p := ne_of_known k2 hp
  simp [W.ld_at k1']
  have hnil : rowE entE s3 39 (some ⟨p, 0, none⟩) 0 0 ([] : List Ent) := ⟨rfl, Nat.le_refl _, Nat.zero_le _, .inr ⟨p, _, rfl, k3, by simp, by simp⟩⟩
  refine app_rowE (E := entE) (k := t.2.1) (ys := M.list) hnil rfl hv.src rfl hv.len.symm (by omega) (by omega) ?_
  intro a' c' s4 hrow hm
  have m4 : Fw.Mod [p] s3 s4 := by
    rcases hm with ⟨_, hm⟩ | ⟨g, _, _, hm⟩
    · exact hm.mono (by simp [Fw.blk])
    · exact hm.mono (by simp)
  have k1'' := m4.at k1' (by simpa using hrp)
  have k2'' := m4.at k2' (by simpa using hqp)
  have hrow : rowE entE s4 39 a' t.2.1 c' M.list := by simpa using hrow
  have hf : ∀ y ∈ Fw.blk a', s y = none := by
    have hps : s p = none := (m1.trans m2).none hp (by simp)
    rcases hm with ⟨rfl, hm⟩ | ⟨g, rfl, hg, hm⟩
    · intro y hy; simp [Fw.blk] at hy; subst hy; exact hps
    · intro y hy; simp [Fw.blk] at hy; subst hy; exact m13.none hg (by simp)
  have ha1 : r ∉ Fw.blk a' := row_ne2 hrow k1'' (by decide)
  have ha2 : q ∉ Fw.blk a' := row_ne2 hrow k2'' (by decide)
  simp [W.st_at k1'', fun o => W.st_at (upd_at k2'' hrq.symm o)]
  have hps : s p = none := (m1.trans m2).none hp (by simp)
  have m5 : Fw.Mod [] s s4 := m13.fresh m4 (by simp [hps])
  refine ⟨(a', t.2.1, c'), rfl, ?_, (m5.updLater (.inr hr)).updLater (.inr (m1.none hq (by simp))), hf⟩
  refine (hrow.mod (L := [r]) (Mod.upd (by simp)) fun x hx => by simp; rintro rfl; exact ha1 hx).mod (L := [q]) (Mod.upd (by simp)) fun x hx => by simp; rintro rfl; exact ha2 hx

/-! ## a ballot that is none -/
theorem n_Timeout (s : PH) : DCalls Try.prog 24 #[.pointer none] s fun x s' => x = .slice none 0 0 ∧ s' = s := by
  refine ok_TimeoutN _ s ?_
  unfold vc_TimeoutN
  simp only [RP_join]
  refine W.join_gen (fun _ _ => False) (by rintro _ _ ⟨⟩) ?_
  intro J hJ
  simp [W.br_iff]
theorem n_Beat (s : PH) : DCalls Try.prog 27 #[.pointer none] s fun x s' => x = .slice none 0 0 ∧ s' = s := by
  refine ok_BeatN _ s ?_
  unfold vc_BeatN
  simp [W.br_iff]
theorem n_Propose (at_ born : Int) (text : ByteArray) (s : PH) : DCalls Try.prog 28 #[.pointer none, .int .i64 at_, .int .i64 born, .string text] s fun x s' => x = .tuple #[.int .i64 0, .slice none 0 0] ∧ s' = s := by
  refine ok_ProposeN at_ born text _ s ?_
  unfold vc_ProposeN
  simp only [RP_join]
  refine W.join_gen (fun _ _ => False) (by rintro _ _ ⟨⟩) ?_
  intro J hJ
  simp [W.br_iff]
theorem n_Take (M : Msg) (t : Tri) (s : PH) : DCalls Try.prog 25 #[.pointer none, msgV M t] s fun x s' => x = .slice none 0 0 ∧ Fw.Mod [] s s' := by
  refine ok_TakeN M.kind M.from_ M.to M.term M.index M.prev M.commit M.good t.1 t.2.1 t.2.2 M.snap _ s ?_
  unfold vc_TakeN
  simp only [RP_nw]
  refine W.nw_of fun r s1 hr m1 k1 => ?_
  simp only [RP_join]
  refine W.join_gen (fun _ _ => False) (by rintro _ _ ⟨⟩) ?_
  intro J hJ
  simp [W.br_iff, m1]
theorem n_Cut (i : Int) (snap : ByteArray) (s : PH) : DCalls Try.prog 30 #[.pointer none, .int .i64 i, .string snap] s fun x s' => x = .bool false ∧ s' = s := by
  refine ok_CutN i snap _ s ?_
  unfold vc_CutN
  simp only [RP_join]
  refine W.join_gen (fun _ _ => False) (by rintro _ _ ⟨⟩) ?_
  intro J hJ
  simp [W.br_iff]
abbrev noDelta : Value := .agg #[.int .i64 0, .int .i64 0, .bool false, .int .i64 0, .int .i64 0, .string ⟨#[]⟩, .int .i64 0, .slice none 0 0]
theorem n_Delta (s : PH) : DCalls Try.prog 17 #[.pointer none] s fun x s' => x = .tuple #[noDelta, .bool false] ∧ Fw.Mod [] s s' := by
  refine ok_DeltaN _ s ?_
  unfold vc_DeltaN
  simp only [RP_nw]
  refine W.nw_of fun r s1 hr m1 k1 => ?_
  simp only [RP_join]
  refine W.join_gen (fun _ _ => False) (by rintro _ _ ⟨⟩) ?_
  intro J hJ
  simp [W.br_iff, W.st_at k1]
  exact m1.updLater (.inr hr)
theorem n_Entry (i : Int) (s : PH) : DCalls Try.prog 11 #[.pointer none, .int .i64 i] s fun x s' => x = .tuple #[entV noEnt, .bool false] ∧ Fw.Mod [] s s' := by
  refine ok_EntryN i _ s ?_
  unfold vc_EntryN
  simp only [RP_nw]
  refine W.nw_of fun r s1 hr m1 k1 => ?_
  simp [W.br_iff, W.st_at k1]
  exact ⟨rfl, m1.updLater (.inr hr)⟩
theorem n_Snap (s : PH) : DCalls Try.prog 20 #[.pointer none] s fun x s' => x = .string ⟨#[]⟩ ∧ s' = s := by
  refine ok_SnapN _ s ?_
  unfold vc_SnapN
  simp [W.br_iff]
theorem n_Stand (s : PH) : DCalls Try.prog 10 #[.pointer none] s fun x s' => x = .agg #[.int .i64 0, .int .i64 0, .int .i64 0, .int .i64 0, .int .i64 0, .int .i64 0, .int .i64 0] ∧ Fw.Mod [] s s' := by
  refine ok_StandN _ s ?_
  unfold vc_StandN
  simp only [RP_nw]
  refine W.nw_of fun r s1 hr m1 k1 => ?_
  simp [W.br_iff, W.st_at k1]
  exact m1.updLater (.inr hr)
abbrev opV (o : OpD) (t : Tri) : Value := .agg #[.int .i64 o.kind, .int .i64 o.a, .int .i64 o.b, .string o.text, .int .i64 o.M.kind, .int .i64 o.M.from_, .int .i64 o.M.to, .int .i64 o.M.term, .int .i64 o.M.index, .int .i64 o.M.prev, .int .i64 o.M.commit, .bool o.M.good, .slice t.1 t.2.1 t.2.2, .string o.M.snap]
theorem n_did (o : OpD) (t : Tri) (s : PH) (h : MsgIs s (msgCells o.M t) o.M t) : DCalls Try.prog 12 #[.pointer none, opV o t] s fun x s' => x = .tuple #[.slice none 0 0, .int .i64 0] ∧ Fw.Mod [] s s' := by
  refine ok_didN o.kind o.a o.b o.text o.M.kind o.M.from_ o.M.to o.M.term o.M.index o.M.prev o.M.commit o.M.good t.1 t.2.1 t.2.2 o.M.snap _ s ?_
  unfold vc_didN
  simp only [RP_nw]
  refine W.nw_of fun r s1 hr m1 k1 => ?_
  simp [W.ld_at k1, W.br_iff]
  refine ⟨fun _ => ?_, fun _ => ⟨fun _ => ?_, fun _ => ⟨fun _ => ?_, fun _ => ⟨fun _ => ?_, fun _ => ⟨fun _ => ?_, fun _ => m1⟩⟩⟩⟩⟩
  · refine W.call_of (n_Timeout s1) ?_
    rintro _ _ ⟨rfl, rfl⟩
    exact ⟨((noTri, ()), ()), rfl, by simp [m1]⟩
  · refine W.call_of (n_Beat s1) ?_
    rintro _ _ ⟨rfl, rfl⟩
    exact ⟨((noTri, ()), ()), rfl, by simp [m1]⟩
  · refine W.call_of (n_Propose o.a o.b o.text s1) ?_
    rintro _ _ ⟨rfl, rfl⟩
    exact ⟨((0, ()), (noTri, ()), ()), rfl, by simp [m1]⟩
  · refine W.call_of (c_copied (h.mono m1.le)) ?_
    rintro _ s2 ⟨t', rfl, hrow, m2, hf⟩
    refine ⟨((o.M.kind, o.M.from_, o.M.to, o.M.term, o.M.index, o.M.prev, o.M.commit, o.M.good, t', o.M.snap, ()), ()), rfl, ?_⟩
    refine W.call_of (n_Take o.M t' s2) ?_
    rintro _ s3 ⟨rfl, m3⟩
    exact ⟨((noTri, ()), ()), rfl, by simp [(m1.trans m2).trans m3]⟩
  · refine W.call_of (n_Cut o.a o.text s1) ?_
    rintro _ _ ⟨rfl, rfl⟩
    exact ⟨((false, ()), ()), rfl, by simp [m1, W.br_iff]⟩
end Go.Proofs.Ytfpbiecmobdnnaa
