/-
  The ballot: a message is taken.
  Conditions: none; it proves no statement by itself.
-/
import Derived.Test.YtfpbiecmobdnnaaC9
set_option linter.unusedVariables false
set_option linter.unusedSimpArgs false
set_option maxHeartbeats 1000000
namespace Go.Proofs.Ytfpbiecmobdnnaa
open Fw Go
attribute [-simp] Fw.W.ld_iff Fw.W.st_iff

theorem callV_of {g : FuncId} {args : Array Value} {r : Bool × List Shape} {k : MDen r.2 → W.T} {s : PH} {fn : Func} (hfn : Try.prog.funcs[g]? = some fn) (hb : fn.body.isSome = true) (hn : (fn.name == "runtime.NumGoroutine") = false) {Q : Value → PH → Prop}
    (h : DCalls Try.prog g args s Q) (hk : ∀ v s', Q v s' → ∃ x, mkRes r x = v ∧ k x s') : W.callV Try.prog (.func (.func g) #[] #[]) args r k s := by
  refine ⟨g, #[], #[], rfl, ⟨fn, hfn, hb, hn⟩, ?_⟩
  have : (#[] : Array Value) ++ args ++ #[] = args := by simp
  rw [this]; exact h.mono hk

section
variable {s : PH} {b : Nat} {l v n m : Tri} {B : BS}
theorem OnePost.op {B' : BS} {ms : List Msg} {x : Value} {s' : PH} (hk : ∀ x ∈ bL b l v n m, s x ≠ none) (h : OnePost B' ms b l v n m s x s') : OpPost (B', ms) b (bL b l v n m) s x s' := by
  obtain ⟨t, ps, rfl, hms, hps, hB, hm, hf⟩ := h
  exact ⟨t, ps, l, v, n, m, rfl, hB, ⟨hm.mono (by simp [bL]), fun x hx => .inl hx⟩, hms, hps, fun y hy => ⟨.inr (hf y hy), fun hx => hk y hx (hf y hy)⟩⟩
def BS.seen (B : BS) (M : Msg) : BS := if M.term > B.term then B.turned M.term (-1) 0 else B
def BS.does (B : BS) (M : Msg) : BS × List Msg :=
  if M.kind = 1 then B.asked M else if M.kind = 2 then B.voted M else if M.kind = 3 then B.fed M else if M.kind = 4 then B.heard M else B.given M
def BS.late (B : BS) (M : Msg) : List Msg := if M.kind = 1 then [B.msg 2 M.from_] else if M.kind = 3 ∨ M.kind = 5 then [B.toldM M.from_ false B.lst] else []
def BS.take (B : BS) (M : Msg) : BS × List Msg :=
  if M.strange B.id B.size = true then (B, []) else
  if M.term < (B.seen M).term then (B.seen M, (B.seen M).late M) else (B.seen M).does M
structure BS.Run (B : BS) : Prop where
  ok : B.Ok
  lc : B.commit ≤ B.lst
  vt : B.role = 1 → B.votes.length = B.size.toNat
  ld : B.role = 2 → B.Ldr
theorem BS.Run.seen {B : BS} (h : B.Run) (M : Msg) : (B.seen M).Run := by
  unfold BS.seen
  split
  · exact ⟨⟨⟨h.ok.small.base0, h.ok.small.base1, h.ok.small.log1⟩, h.ok.base, h.ok.size, h.ok.id, h.ok.com⟩, h.lc, fun e => absurd e (by show ¬ (0 : Int) = 1; omega), fun e => absurd e (by show ¬ (0 : Int) = 2; omega)⟩
  · exact h
theorem c_Take (h : Bal s b l v n m B) (hR : B.Run) (hl1 : B.log.length + 1 ≤ 1073741824) (M : Msg) (t : Tri) (hrow : rowE entE s 39 t.1 t.2.1 t.2.2 M.list) (hll : M.list.length ≤ 1000000) :
    DCalls Try.prog 25 #[bptr b, msgV M t] s (OpPost (B.take M) b (bL b l v n m) s) := by
  refine ok_Take b M.kind M.from_ M.to M.term M.index M.prev M.commit M.good t.1 t.2.1 t.2.2 M.snap _ s ?_
  unfold vc_Take
  simp only [RP_nw]
  refine W.nw_of fun r s1 hr m1 k1 => ?_
  have h1 := h.new m1
  have hb1 := h1.cell
  have hbr : b ≠ r := ne_of_known h.cell hr
  have st1 : Step (bL b l v n m) (bL b l v n m) s s1 := ⟨m1.mono (by simp), fun x hx => .inl hx⟩
  have hrow1 := hrow.mod m1 (by simp)
  simp only [RP_join]
  refine W.join_gen (fun z s' => z = ((Addr.mk r 0 none, ()), ()) ∧ M.strange B.id B.size = false ∧ Fw.Mod [] s1 s') ?_ ?_
  · rintro _ s2 ⟨rfl, hst, m2⟩
    have hst' := hst
    unfold Msg.strange at hst'
    simp only [Bool.or_eq_false_iff, decide_eq_false_iff_not] at hst'
    obtain ⟨f1, f2, f3, f4, f5, f6, f7, f8, f9, f10, ⟨f11, f12⟩, f13, f14⟩ := hst'
    have h2 := h1.new m2
    have hb2 := h2.cell
    have k2 := m2.at k1 (by simp)
    have hrow2 := hrow1.mod m2 (by simp)
    refine W.join_gen (fun z s' => z = ((Addr.mk r 0 none, ()), ()) ∧ Bal s' b l v n m (B.seen M) ∧ Step (bL b l v n m) (bL b l v n m) s s' ∧ s' r = some (.cells (msgCells M t).toArray 32 (0, 0)) ∧ rowE entE s' 39 t.1 t.2.1 t.2.2 M.list) ?_ ?_
    · rintro _ s3 ⟨rfl, h3, st3, k3, hrow3⟩
      have htk : B.take M = if M.term < (B.seen M).term then (B.seen M, (B.seen M).late M) else (B.seen M).does M := by unfold BS.take; rw [if_neg (by rw [hst]; simp)]
      rw [htk]
      have hR3 := hR.seen M
      have hsz : (B.seen M).size = B.size ∧ (B.seen M).log = B.log := by unfold BS.seen; split <;> exact ⟨rfl, rfl⟩
      rw [← hsz.2] at hl1
      rw [← hsz.1] at f4
      generalize B.seen M = B3 at h3 hR3 hl1 f4 ⊢
      have hb3 := h3.cell
      simp [W.ld_at hb3, W.ld_at k3, W.br_iff, -W.nw_iff]
      refine ⟨fun hlt => ?_, fun hge => ?_⟩
      · rw [if_pos hlt]
        unfold BS.late
        refine ⟨fun hk => ?_, fun hk => ?_⟩
        · rw [if_pos hk]
          refine W.call_of (c_msg h3 2 M.from_) ?_
          rintro _ s4 ⟨rfl, m4⟩
          refine ⟨((2, B3.id, M.from_, B3.term, 0, 0, 0, false, (none, 0, 0), ⟨#[]⟩, ()), ()), rfl, ?_⟩
          refine W.nw_of fun q s5 hq m5 k5 => ?_
          have h4 := h3.new m4
          have st4 : Step (bL b l v n m) (bL b l v n m) s s4 := st3.trans ⟨m4.mono (by simp), fun x hx => .inl hx⟩
          exact OpPost.start ((one_of (M := B3.msg 2 M.from_) h4 (Mod.refl _ _) (by rw [h4.cell]; simp) hq m5 k5 rfl).op h4.known) st4
        · rw [if_neg hk]
          refine W.join_gen (fun z s' => z = ((Addr.mk r 0 none, ()), (decide (M.kind = 3 ∨ M.kind = 5), ()), ()) ∧ s' = s3) ?_ ?_
          · rintro _ s3 ⟨rfl, rfl⟩
            simp only [W.br_iff, decide_eq_true_eq, decide_eq_false_iff_not]
            refine ⟨fun h35 => ?_, fun h35 => ?_⟩
            · rw [if_pos h35]
              simp [W.ld_at k3]
              refine W.callQ_of ((B3.lst, ()), ()) (c_last h3 hR3.ok.small) rfl ?_
              refine W.call_of (c_told h3 M.from_ false B3.lst) ?_
              intro x s6 hp
              obtain ⟨t6, ps, rfl, q⟩ := hp
              refine ⟨((t6, ()), ()), rfl, ?_⟩
              exact op_msgs h3 st3 ⟨t6, ps, rfl, q⟩
            · rw [if_neg h35]
              exact OpPost.noMsgs h3 st3
          · intro J hJ
            simp only [W.br_iff]
            refine ⟨fun h3' => hJ _ _ ⟨?_, rfl⟩, fun h3' => hJ _ _ ⟨?_, rfl⟩⟩
            · have : M.kind = 3 := by simpa using h3'
              simp [this]
            · have : ¬ M.kind = 3 := by simpa using h3'
              simp [this]; rw [Bool.eq_iff_iff]; simp
      · rw [if_neg (by omega)]
        refine W.nw_of fun q s4 hq m4 k4 => ?_
        have k3' := m4.at k3 (by simp)
        have hrq : r ≠ q := ne_of_known k3 hq
        have hsame : (s4.upd q (.cells #[.func (.func 47) #[] #[], .func (.func 48) #[] #[], .func (.func 49) #[] #[], .func (.func 50) #[] #[], .func (.func 51) #[] #[]] 89 (0, 0))) q = some (.cells #[.func (.func 47) #[] #[], .func (.func 48) #[] #[], .func (.func 49) #[] #[], .func (.func 50) #[] #[], .func (.func 51) #[] #[]] 89 (0, 0)) := PH.upd_same _ _ _
        simp [W.st_at k4]
        have m5 : Fw.Mod [] s3 (s4.upd q (.cells #[.func (.func 47) #[] #[], .func (.func 48) #[] #[], .func (.func 49) #[] #[], .func (.func 50) #[] #[], .func (.func 51) #[] #[]] 89 (0, 0))) := m4.updLater (.inr hq)
        generalize s4.upd q (.cells #[.func (.func 47) #[] #[], .func (.func 48) #[] #[], .func (.func 49) #[] #[], .func (.func 50) #[] #[], .func (.func 51) #[] #[]] 89 (0, 0)) = s5 at hsame m5 ⊢
        have k5 := m5.at k3 (by simp)
        have h5 := h3.new m5
        have hrow5 := hrow3.mod m5 (by simp)
        have st5 : Step (bL b l v n m) (bL b l v n m) s s5 := st3.trans ⟨m5.mono (by simp), fun x hx => .inl hx⟩
        have hFAR : FAR = 1099511627776 := rfl
        have hi1 : -1 ≤ M.index := by split at f9 <;> omega
        have hkind : M.kind = 1 ∨ M.kind = 2 ∨ M.kind = 3 ∨ M.kind = 4 ∨ M.kind = 5 := by omega
        unfold BS.does
        rcases hkind with hk | hk | hk | hk | hk
        · have hw : IntKind.i64.wrap (M.kind - 1) = 0 := by rw [hk]; kernel_rfl
          simp [W.ld_at k5, hw, W.ld_at hsame]
          rw [if_pos hk]
          refine callV_of Try.func47 rfl (by kernel_rfl) ((c_asked h5 hR3.ok M t).mono fun x s' hp => OnePost.op h5.known hp) ?_
          intro x s6 hp
          obtain ⟨t', ps, l', v', n', m', rfl, q⟩ := hp
          exact ⟨((t', ()), ()), rfl, OpPost.start ⟨t', ps, l', v', n', m', rfl, q⟩ st5⟩
        · have hw : IntKind.i64.wrap (M.kind - 1) = 1 := by rw [hk]; kernel_rfl
          simp [W.ld_at k5, hw, W.ld_at hsame]
          rw [if_neg (by omega), if_pos hk]
          refine callV_of Try.func48 rfl (by kernel_rfl) (c_voted h5 hR3.ok hR3.vt hR3.lc hl1 M t (by omega) (by omega)) ?_
          intro x s6 hp
          obtain ⟨t', ps, l', v', n', m', rfl, q⟩ := hp
          exact ⟨((t', ()), ()), rfl, OpPost.start ⟨t', ps, l', v', n', m', rfl, q⟩ st5⟩
        · have hw : IntKind.i64.wrap (M.kind - 1) = 2 := by rw [hk]; kernel_rfl
          simp [W.ld_at k5, hw, W.ld_at hsame]
          rw [if_neg (by omega), if_neg (by omega), if_pos hk]
          refine callV_of Try.func49 rfl (by kernel_rfl) (c_fed h5 hR3.ok hR3.lc M t hrow5 hll ⟨by simp [hk] at f9; omega, by omega⟩) ?_
          intro x s6 hp
          obtain ⟨t', ps, l', v', n', m', rfl, q⟩ := hp
          exact ⟨((t', ()), ()), rfl, OpPost.start ⟨t', ps, l', v', n', m', rfl, q⟩ st5⟩
        · have hw : IntKind.i64.wrap (M.kind - 1) = 3 := by rw [hk]; kernel_rfl
          simp [W.ld_at k5, hw, W.ld_at hsame]
          rw [if_neg (by omega), if_neg (by omega), if_neg (by omega), if_pos hk]
          refine callV_of Try.func50 rfl (by kernel_rfl) (c_heard h5 hR3.ok hR3.ld hR3.lc M t (by omega) (by omega) ⟨by omega, by omega⟩) ?_
          intro x s6 hp
          obtain ⟨t', ps, l', v', n', m', rfl, q⟩ := hp
          exact ⟨((t', ()), ()), rfl, OpPost.start ⟨t', ps, l', v', n', m', rfl, q⟩ st5⟩
        · have hw : IntKind.i64.wrap (M.kind - 1) = 4 := by rw [hk]; kernel_rfl
          simp [W.ld_at k5, hw, W.ld_at hsame]
          rw [if_neg (by omega), if_neg (by omega), if_neg (by omega), if_neg (by omega)]
          refine callV_of Try.func51 rfl (by kernel_rfl) (c_given h5 hR3.ok hR3.lc M t ⟨by omega, by omega⟩) ?_
          intro x s6 hp
          obtain ⟨t', ps, l', v', n', m', rfl, q⟩ := hp
          exact ⟨((t', ()), ()), rfl, OpPost.start ⟨t', ps, l', v', n', m', rfl, q⟩ st5⟩
    · intro J hJ
      simp [W.ld_at hb2, W.ld_at k2, W.br_iff]
      refine ⟨fun hlt => ?_, fun hge => ?_⟩
      · refine W.call_of (c_turn h2 M.term (-1) 0) ?_
        rintro _ s3 ⟨rfl, h3, m3⟩
        refine ⟨(), rfl, ?_⟩
        have : B.seen M = B.turned M.term (-1) 0 := by unfold BS.seen; rw [if_pos hlt]
        refine hJ _ _ ⟨rfl, by rw [this]; exact h3, ?_, m3.at k2 (by simpa using hbr.symm), ?_⟩
        · exact (st1.trans ⟨m2.mono (by simp), fun x hx => .inl hx⟩).trans ⟨m3.mono (by simp [bL]), fun x hx => .inl hx⟩
        · refine hrow2.mod m3 fun x hx hx' => ?_
          simp at hx'; subst hx'; exact row_ne2 hrow2 hb2 (by decide) hx
      · have : B.seen M = B := by unfold BS.seen; rw [if_neg (by omega)]
        refine hJ _ _ ⟨rfl, by rw [this]; exact h2, ?_, k2, hrow2⟩
        exact st1.trans ⟨m2.mono (by simp), fun x hx => .inl hx⟩
  · intro J hJ
    simp [W.ld_at k1, W.br_iff]
    refine W.call_of (c_strange h1 M t) ?_
    rintro _ s2 ⟨rfl, m2⟩
    refine ⟨((M.strange B.id B.size, ()), ()), rfl, ?_⟩
    simp only [W.br_iff]
    refine ⟨fun hs => ?_, fun hs => hJ _ _ ⟨rfl, hs, m2⟩⟩
    have hs : M.strange B.id B.size = true := hs
    have : B.take M = (B, []) := by unfold BS.take; rw [if_pos hs]
    rw [this]; exact OpPost.noMsgs (h1.new m2) (st1.trans ⟨m2.mono (by simp), fun x hx => .inl hx⟩)
end
end Go.Proofs.Ytfpbiecmobdnnaa
