/-
  Part 4 for the law: texts of this session's own, those parts that the claim needs, one behind the other.
  Conditions: none; it proves no statement by itself.
-/
import Derived.Test.YtfpbiecmobdnnaaBallotPlaysK3
set_option linter.unusedVariables false
set_option linter.unusedSectionVars false
set_option linter.unusedSimpArgs false
section
set_option linter.unusedVariables false
set_option linter.unusedSimpArgs false
set_option maxHeartbeats 1000000
set_option maxRecDepth 10000
namespace Go.Proofs.Ytfpbiecmobdnnaa
open Fw Go
attribute [-simp] Fw.W.ld_iff Fw.W.st_iff
section
variable {s0 s s1 s' : PH} {L : List Nat} {r : Nat} {B B' : BS} {X X' : RS} {ms : List Msg} {l o : Tri} {ps : List (Msg × Tri)}
/-- a message in a block of its own beside the ballot -/
theorem RSt.msg (h : RSt s0 L r s B X ms) (M : Msg) (t : Tri) {K : Nat → W.T}
    (hK : ∀ q s1 L1, RSt s1 L1 r s1 B X ms → s1 q = some (.cells (msgCells M t).toArray 32 (0, 0)) → q ∉ L1 → Fw.Mod [] s s1 → (∀ y ∈ L1, y ∈ L ∨ s0 y = none) → (∀ {s' B' X' ms'}, RSt s1 L1 r s' B' X' ms' → RSt s0 L r s' B' X' ms') → K q s1) :
    W.nw (.cells #[.int .i64 M.kind, .int .i64 M.from_, .int .i64 M.to, .int .i64 M.term, .int .i64 M.index, .int .i64 M.prev, .int .i64 M.commit, .bool M.good, .slice t.1 t.2.1 t.2.2, .string M.snap] 32 (0, 0)) K s := by
  refine W.nw_of fun q s1 hq m1 k1 => ?_
  obtain ⟨l, o, ps, hR, hms, st⟩ := h
  have hq0 : q ∉ rL r l o ps := fun hx => hR.known q hx hq
  have hR1 := hR.new m1
  have st1 : Step L (rL r l o ps) s0 s1 := ⟨st.mod.trans (m1.mono (by simp)), st.new⟩
  refine hK q s1 (rL r l o ps) ⟨l, o, ps, hR1, hms, Step.refl _ _⟩ k1 hq0 m1 st.new ?_
  rintro s' B' X' ms' ⟨l', o', ps', g1, g2, g3⟩
  exact ⟨l', o', ps', g1, g2, st1.trans g3⟩
theorem RSt.keep (h : RSt s1 L r s B X ms) {q : Nat} {ob : Obj} (k : s1 q = some ob) (hq : q ∉ L) : s q = some ob := by
  obtain ⟨l, o, ps, hR, hms, st⟩ := h
  exact st.mod.at k hq
theorem c_rStrange (hR : Ref s r l o ps B X) (M : Msg) (t : Tri) : DCalls Try.prog 64 #[bptr r, msgV M t] s (ValPost (.bool (M.strange B.id B.size)) s) := by
  refine ok_rStrange r M.kind M.from_ M.to M.term M.index M.prev M.commit M.good t.1 t.2.1 t.2.2 M.snap _ s ?_
  unfold vc_rStrange
  simp only [RP_nw]
  refine W.nw_of fun q s1 hq m1 k1 => ?_
  have hb := (hR.new m1).cell
  obtain ⟨S, hS⟩ : ∃ S, M.strange B.id B.size = S := ⟨_, rfl⟩
  rw [hS]
  unfold Msg.strange FAR at hS
  simp [W.ld_at hb, W.ld_at k1, W.br_iff, ValPost, m1]
  by_cases h4 : M.kind = 4
  · simp [h4] at hS ⊢
    cases S <;> simp at hS ⊢ <;> omega
  · simp [h4] at hS ⊢
    cases S <;> simp at hS ⊢ <;> omega
theorem c_rrebase (h : RSt s0 L r s B X ms) (i term : Int) (snap : ByteArray) {a : Option Addr} {an ac : Nat} {ys : List Ent} (hrow : rowE entE s 39 a an ac ys) (hf : ∀ y ∈ Fw.blk a, y ∈ L ∨ s0 y = none) :
    DCalls Try.prog 69 #[bptr r, .int .i64 i, .int .i64 term, .string snap, .slice a an ac] s fun x s' => x = .tuple #[] ∧ RSt s0 L r s' (B.rebase i term snap ys) X ms := by
  obtain ⟨l, o, ps, hR, hms, st⟩ := h
  refine ok_rrebase r i term snap a an ac _ s ?_
  unfold vc_rrebase
  have hb := hR.cell
  simp [W.st_at hb]
  refine ⟨(a, an, ac), o, ps, refOf (B' := B.rebase i term snap ys) (X' := X) (l' := (a, an, ac)) hb hrow hR.out, hms, ⟨st.mod.updLater (st.new r (by simp [rL])), fun y hy => ?_⟩⟩
  simp only [rL, List.mem_cons, List.mem_append] at hy
  rcases hy with rfl | hy | hy
  · exact st.new y (by simp [rL])
  · exact hf y hy
  · exact st.new y (by simp [rL, hy])
theorem c_rask (h : RSt s0 L r s B X ms) (hok : B.Ok) (hv : -1 ≤ B.vote) (hlen : ms.length ≤ 400) (M : Msg) (t : Tri) :
    DCalls Try.prog 65 #[bptr r, msgV M t] s fun x s' => x = .tuple #[] ∧ RSt s0 L r s' (B.asked M).1 X (ms ++ (B.asked M).2) := by
  refine ok_rask r M.kind M.from_ M.to M.term M.index M.prev M.commit M.good t.1 t.2.1 t.2.2 M.snap _ s ?_
  unfold vc_rask
  have hs := hok.small
  have hbs := hok.base
  obtain ⟨q1, q2, q3⟩ := _root_.id hs
  have hd := lst_def B
  simp only [RP_ite, RP_unSome, RP_ld, RP_st, RP_call, RP_callQ, RP_ret, RP_loop, RP_guard, RP_nw, RP_join]
  refine h.msg M t fun q s1 L1 h1 kq hq m1 hkn up => ?_
  have h1' := h1
  obtain ⟨l, o, ps, hR, hms, st⟩ := h1
  refine W.call_of (c_rLast hR hs) ?_
  rintro _ _ ⟨rfl, rfl⟩
  rename_i s1
  refine ⟨((B.lst, ()), ()), rfl, ?_⟩
  refine W.call_of (c_rTermAt hR hs (num_lst hs hbs)) ?_
  rintro _ _ ⟨rfl, rfl⟩
  rename_i s1
  refine ⟨((B.rTerm B.lst, ()), ()), rfl, ?_⟩
  rw [rTerm_at hs (by omega) (Int.le_refl _)]
  obtain ⟨T, hT⟩ : ∃ T, (B.termAt B.lst).1 = T := ⟨_, rfl⟩
  rw [hT]
  have hgood : B.askGood M = ((B.vote == -1 || B.vote == M.from_) && (decide (M.prev > T) || (M.prev == T && decide (M.index ≥ B.lst)))) := by
    unfold BS.askGood
    rw [hT]
    have : decide (B.vote < 0) = (B.vote == -1) := by
      by_cases e : B.vote = -1
      · rw [e]; (first | done | rfl)
      · rw [decide_eq_false (by omega)]; simp [e]
    rw [this]
  obtain ⟨g0, hg0⟩ : ∃ g0, (B.vote == -1 || B.vote == M.from_) = g0 := ⟨_, rfl⟩
  rw [hg0] at hgood
  refine W.join_gen (fun z s' => z = ((Addr.mk q 0 none, ()), (T, ()), (g0, ()), ()) ∧ s' = s1) ?_ ?_
  rotate_left
  · intro J hJ
    simp only [W.unSome_some, add_mk, Nat.zero_add]
    refine ld_ref hR (y := (B.vote, ())) rfl ?_
    refine (W.br_iff _ _ _ _).2 ⟨fun e => ?_, fun e => ?_⟩
    · have e : (B.vote == -1) = true := e
      rw [e] at hg0
      exact hJ _ _ ⟨by rw [← hg0]; (first | done | rfl), rfl⟩
    · have e : (B.vote == -1) = false := e
      rw [e] at hg0
      simp only [W.unSome_some, add_mk, Nat.zero_add]
      refine ld_ref hR (y := (B.vote, ())) rfl ?_
      rw [W.ld_at kq]
      refine ⟨(M.from_, ()), rfl, hJ _ _ ⟨by rw [← hg0]; (first | done | rfl), rfl⟩⟩
  rintro _ s2 ⟨rfl, rfl⟩
  refine W.join_gen (fun z s' => z = ((Addr.mk q 0 none, ()), (B.askGood M, ()), ()) ∧ s' = s2) ?_ ?_
  rotate_left
  · intro J hJ
    simp only [add_mk, Nat.zero_add]
    rw [W.ld_at kq]
    refine ⟨(M.prev, ()), rfl, ?_⟩
    refine (W.br_iff _ _ _ _).2 ⟨fun e1 => ?_, fun e1 => ?_⟩
    · have e1 : M.prev < T := of_decide_eq_true e1
      refine hJ _ _ ⟨?_, rfl⟩
      have : B.askGood M = false := by rw [hgood, decide_eq_false (show ¬ M.prev > T by omega)]; simp; intro _ h; omega
      rw [this]
    · have e1 : ¬ M.prev < T := of_decide_eq_false e1
      rw [W.ld_at kq]
      refine ⟨(M.prev, ()), rfl, ?_⟩
      refine (W.br_iff _ _ _ _).2 ⟨fun e2 => ?_, fun e2 => ?_⟩
      · have e2 : M.prev = T := by simpa using e2
        rw [W.ld_at kq]
        refine ⟨(M.index, ()), rfl, ?_⟩
        refine W.callQ_of ((B.lst, ()), ()) (c_rLast hR hs) rfl ?_
        refine (W.br_iff _ _ _ _).2 ⟨fun e3 => ?_, fun e3 => ?_⟩
        · have e3 : M.index < B.lst := of_decide_eq_true e3
          refine hJ _ _ ⟨?_, rfl⟩
          have : B.askGood M = false := by rw [hgood]; simp; intro _; constructor; omega; intro _; omega
          rw [this]
        · have e3 : ¬ M.index < B.lst := of_decide_eq_false e3
          refine hJ _ _ ⟨?_, rfl⟩
          have : B.askGood M = g0 := by rw [hgood, e2, decide_eq_true (show M.index ≥ B.lst by omega)]; simp
          rw [this]
      · have e2 : M.prev ≠ T := by simpa using e2
        refine hJ _ _ ⟨?_, rfl⟩
        have : B.askGood M = g0 := by rw [hgood, decide_eq_true (show M.prev > T by omega)]; simp
        rw [this]
  rintro _ s3 ⟨rfl, rfl⟩
  refine (W.br_iff _ _ _ _).2 ⟨fun e => ?_, fun e => ?_⟩
  · have e : B.askGood M = true := e
    have hA : B.asked M = ({ B with vote := M.from_, touched := true }, [{ B.msg 2 M.from_ with good := true }]) := by unfold BS.asked; rw [e]; (first | done | rfl)
    rw [hA, e]
    simp only [add_mk, Nat.zero_add]
    rw [W.ld_at kq]
    refine ⟨(M.from_, ()), rfl, ?_⟩
    simp only [W.unSome_some, add_mk, Nat.zero_add]
    refine st_ref hR st (B' := { B with vote := M.from_ }) (X' := X) rfl (by decide) rfl rfl fun s4 hR4 st4 => ?_
    simp only [W.unSome_some, add_mk, Nat.zero_add]
    refine st_ref hR4 st4 (B' := { B with vote := M.from_, touched := true }) (X' := X) rfl (by decide) rfl rfl fun s5 hR5 st5 => ?_
    have h5 := RSt.of hR5 hms st5
    rw [W.ld_at (h5.keep kq hq)]
    refine ⟨(M.from_, ()), rfl, ?_⟩
    refine W.call_of (c_rsend h5 (by omega) { kind := 2, from_ := 0, to := M.from_, term := 0, good := true } (t := noTri) rowE.nil (by simp [Fw.blk])) ?_
    rintro _ s6 ⟨rfl, h6⟩
    exact ⟨(), rfl, rfl, up h6⟩
  · have e : B.askGood M = false := e
    have hA : B.asked M = (B, [{ B.msg 2 M.from_ with good := false }]) := by unfold BS.asked; rw [e]; (first | done | rfl)
    rw [hA, e]
    simp only [add_mk, Nat.zero_add]
    rw [W.ld_at kq]
    refine ⟨(M.from_, ()), rfl, ?_⟩
    refine W.call_of (c_rsend h1' (by omega) { kind := 2, from_ := 0, to := M.from_, term := 0, good := false } (t := noTri) rowE.nil (by simp [Fw.blk])) ?_
    rintro _ s6 ⟨rfl, h6⟩
    exact ⟨(), rfl, rfl, up h6⟩
end
end Go.Proofs.Ytfpbiecmobdnnaa
end
section
set_option linter.unusedVariables false
set_option linter.unusedSimpArgs false
set_option maxHeartbeats 1000000
set_option maxRecDepth 10000
namespace Go.Proofs.Ytfpbiecmobdnnaa
open Fw Go
attribute [-simp] Fw.W.ld_iff Fw.W.st_iff
section
variable {s0 s s1 s' : PH} {L : List Nat} {r : Nat} {B B' : BS} {X X' : RS} {ms : List Msg} {l o : Tri} {ps : List (Msg × Tri)}
theorem Mt2.setN {f : Nat} {v : Int} (h : Mt2 B X) (hl : B.next.length = B.size.toNat) (hf : f < B.size.toNat) : Mt2 { B with next := B.next.set f v } { X with next := setF X.next f v } := by
  refine ⟨fun k hk => ?_, h.mt⟩
  show setF X.next f v k = (((B.next.set f v)[k]?).getD 0)
  unfold setF
  by_cases e : k = f
  · subst e; rw [if_pos rfl, List.getElem?_set_self (by rw [hl]; exact hf)]; (first | done | rfl)
  · rw [if_neg e, List.getElem?_set_ne (fun h => e h.symm)]; exact h.nx k hk
theorem Mt2.setM {f : Nat} {v : Int} (h : Mt2 B X) (hl : B.mat.length = B.size.toNat) (hf : f < B.size.toNat) : Mt2 { B with mat := B.mat.set f v } { X with mat := setF X.mat f v } := by
  refine ⟨h.nx, fun k hk => ?_⟩
  show setF X.mat f v k = (((B.mat.set f v)[k]?).getD 0)
  unfold setF
  by_cases e : k = f
  · subst e; rw [if_pos rfl, List.getElem?_set_self (by rw [hl]; exact hf)]; (first | done | rfl)
  · rw [if_neg e, List.getElem?_set_ne (fun h => e h.symm)]; exact h.mt k hk
theorem c_rheard (h : RSt s0 L r s B X ms) (hok : B.Ok) (hM : Mt B X) (hL : B.role = 2 → B.Ldr) (hlc : B.commit ≤ B.lst) (hlen : ms.length ≤ 400) (M : Msg) (t : Tri) (hf0 : 0 ≤ M.from_) (hf1 : M.from_ < B.size) (hi : -1 ≤ M.index ∧ M.index ≤ FAR) :
    DCalls Try.prog 67 #[bptr r, msgV M t] s fun x s' => x = .tuple #[] ∧ ∃ X', RSt s0 L r s' (B.heard M).1 X' (ms ++ (B.heard M).2) ∧ Mt (B.heard M).1 X' := by
  refine ok_rheard r M.kind M.from_ M.to M.term M.index M.prev M.commit M.good t.1 t.2.1 t.2.2 M.snap _ s ?_
  unfold vc_rheard
  have hs := hok.small
  have hbs := hok.base
  have hz := hok.size
  obtain ⟨q1, q2, q3⟩ := _root_.id hs
  have hd := lst_def B
  have hfar : FAR = 1099511627776 := rfl
  simp only [RP_ite, RP_unSome, RP_ld, RP_st, RP_call, RP_callQ, RP_ret, RP_loop, RP_guard, RP_nw, RP_join]
  refine h.msg M t fun q s1 L1 h1 kq hq m1 hkn up => ?_
  have h1' := h1
  obtain ⟨l, o, ps, hR, hms, st⟩ := h1
  simp only [W.unSome_some, add_mk, Nat.zero_add]
  refine ld_ref hR (y := (B.role, ())) rfl ?_
  refine (W.br_iff _ _ _ _).2 ⟨fun e => ?_, fun e => ?_⟩
  · have e : B.role ≠ 2 := by simpa using e
    have : B.heard M = (B, []) := by unfold BS.heard; rw [if_pos e]
    rw [this, List.append_nil]
    exact ⟨rfl, X, up h1', hM⟩
  have e : B.role = 2 := by simpa using e
  have hl := hL e
  have hM2 := hM.ld e
  obtain ⟨f, hf⟩ : ∃ f : Nat, M.from_ = f := ⟨M.from_.toNat, by omega⟩
  have hft : M.from_.toNat = f := by omega
  have hfs : f < B.size.toNat := by omega
  have hnl : f < B.next.length := by rw [hl.nlen]; exact hfs
  have hml : f < B.mat.length := by rw [hl.mlen]; exact hfs
  have hnf : B.next[f]? = some (B.nx f) := by unfold BS.nx; rw [List.getElem?_eq_getElem hnl]; (first | done | rfl)
  have hmf : B.mat[f]? = some (B.mt f) := by unfold BS.mt; rw [List.getElem?_eq_getElem hml]; (first | done | rfl)
  have hnr := hl.nr f _ hnf
  have hmr := hl.mr f _ hmf
  have hXn := hM2.nx f hfs
  have hXm := hM2.mt f hfs
  have hhd : B.heard M = if M.good = false then (B.unfed f M.index, [(B.unfed f M.index).feedM M.from_ ((B.unfed f M.index).nx f)])
      else if (B.fedTo f M.index).settled.1.mt f > B.mt f ∧ (B.fedTo f M.index).settled.1.nx f ≤ (B.fedTo f M.index).settled.1.lst then ((B.fedTo f M.index).settled.1, (B.fedTo f M.index).settled.2 ++ [(B.fedTo f M.index).settled.1.feedM M.from_ ((B.fedTo f M.index).settled.1.nx f)]) else (B.fedTo f M.index).settled := by
    unfold BS.heard; rw [if_neg (by omega), hft]
  try simp only [add_mk, Nat.zero_add]
  rw [W.ld_at kq]
  refine ⟨(M.from_, ()), rfl, ?_⟩
  rw [W.ld_at kq]
  refine ⟨(M.good, ()), rfl, ?_⟩
  dsimp only
  rw [hf]
  have hgd : (0 : Int) ≤ (f : Int) ∧ (f : Int) < 5 := by omega
  refine (W.br_iff _ _ _ _).2 ⟨fun eg => ?_, fun eg => ?_⟩
  · have eg : M.good = false := by simpa using eg
    rw [hhd, if_pos eg]
    rw [W.ld_at kq]
    refine ⟨(M.index, ()), rfl, ?_⟩
    simp only [W.unSome_some, add_mk, Nat.zero_add]
    refine (W.guard_iff _ _ _).2 ⟨hgd, ?_⟩
    refine ld_nx hR.cell (k := f) (by omega) ?_ (by simp)
    simp only [W.unSome_some, add_mk, Nat.zero_add]
    refine (W.guard_iff _ _ _).2 ⟨hgd, ?_⟩
    refine ld_mt hR.cell (k := f) (by omega) ?_ (by simp)
    simp only [W.unSome_some, add_mk, Nat.zero_add]
    refine (W.guard_iff _ _ _).2 ⟨hgd, ?_⟩
    try dsimp only
    rw [hXn, hXm, show IntKind.i64.wrap (B.mt f + 1) = B.mt f + 1 from wrap_in (by omega) (by omega), show IntKind.i64.wrap (B.nx f - 1) = B.nx f - 1 from wrap_in (by omega) (by omega), show IntKind.i64.wrap (M.index + 1) = M.index + 1 from wrap_in (by omega) (by omega)]
    have hv : (if B.mt f + 1 > if B.nx f - 1 < M.index + 1 then B.nx f - 1 else M.index + 1 then B.mt f + 1 else if B.nx f - 1 < M.index + 1 then B.nx f - 1 else M.index + 1) = mx (B.mt f + 1) (mn (B.nx f - 1) (M.index + 1)) := by
      unfold mx mn
      repeat' split
      all_goals omega
    obtain ⟨v, hve⟩ : ∃ v, mx (B.mt f + 1) (mn (B.nx f - 1) (M.index + 1)) = v := ⟨_, rfl⟩
    rw [hv]
    rw [hve]
    refine st_nx hR.cell (k := f) (by omega) ?_ (by simp)
    have h2 := RSt.lay (B' := B) (X' := { X with next := setF X.next f v }) hR hms st
    obtain ⟨s2, hs2⟩ : ∃ s2, s1.upd r (.cells (refCells B { X with next := setF X.next f v } l o) 78 (0, 0)) = s2 := ⟨_, rfl⟩
    rw [hs2] at h2 ⊢
    have hB1 : B.unfed f M.index = { B with next := B.next.set f v } := by unfold BS.unfed; rw [hve]
    have hLd1 := hl.unfed hfs M.index
    have hMt1 : Mt2 (B.unfed f M.index) { X with next := setF X.next f v } := by rw [hB1]; exact hM2.setN hl.nlen hfs
    have h3 : RSt s1 L1 r s2 (B.unfed f M.index) { X with next := setF X.next f v } ms := by rw [hB1]; exact h2.as
    have hs3 : (B.unfed f M.index).Small := ⟨q1, q2, q3⟩
    have hx3 := fed_rng hLd1.fed hMt1 f hfs
    refine W.call_of (c_rfeed h3 hs3 hbs (by omega) (to := f) (by omega) hx3) ?_
    rintro _ s4 ⟨rfl, h4⟩
    refine ⟨(), rfl, rfl, _, up ?_, fun e1 => by have e1 : B.role = 1 := e1; omega, fun _ => hMt1⟩
    rw [hMt1.nx f hfs] at h4
    rw [hf]; exact h4
  · have eg : ¬ M.good = false := by simpa using eg
    rw [hhd, if_neg eg]
    simp only [W.unSome_some, add_mk, Nat.zero_add]
    refine (W.guard_iff _ _ _).2 ⟨hgd, ?_⟩
    refine ld_mt hR.cell (k := f) (by omega) ?_ (by simp)
    rw [hXm]
    rw [W.ld_at kq]
    refine ⟨(M.index, ()), rfl, ?_⟩
    refine W.callQ_of ((B.lst, ()), ()) (c_rLast hR hs) rfl ?_
    simp only [W.unSome_some, add_mk, Nat.zero_add]
    refine (W.guard_iff _ _ _).2 ⟨hgd, ?_⟩
    try dsimp only
    have hv : (if (if B.lst < M.index then B.lst else M.index) > B.mt f then if B.lst < M.index then B.lst else M.index else B.mt f) = mx (B.mt f) (mn M.index B.lst) := by
      unfold mx mn
      repeat' split
      all_goals omega
    obtain ⟨v, hve⟩ : ∃ v, mx (B.mt f) (mn M.index B.lst) = v := ⟨_, rfl⟩
    have hvr : 0 ≤ v ∧ v ≤ B.lst := by
      rw [← hve]
      unfold mx mn
      repeat' split
      all_goals omega
    rw [hv, hve]
    refine st_mt hR.cell (k := f) (by omega) ?_ (by simp)
    obtain ⟨s2, hs2⟩ : ∃ s2, s1.upd r (.cells (refCells B { X with mat := setF X.mat f v } l o) 78 (0, 0)) = s2 := ⟨_, rfl⟩
    have h2 := RSt.lay (B' := B) (X' := { X with mat := setF X.mat f v }) hR hms st
    rw [hs2] at h2 ⊢
    clear hs2
    obtain ⟨l2, o2, ps2, hR2, hms2, st2⟩ := h2
    simp only [W.unSome_some, add_mk, Nat.zero_add]
    refine (W.guard_iff _ _ _).2 ⟨hgd, ?_⟩
    refine ld_mt hR2.cell (k := f) (by omega) ?_ (by simp)
    simp only [W.unSome_some, add_mk, Nat.zero_add]
    refine (W.guard_iff _ _ _).2 ⟨hgd, ?_⟩
    have hsf : setF X.mat f v f = v := by unfold setF; rw [if_pos rfl]
    try dsimp only
    rw [hsf, show IntKind.i64.wrap (v + 1) = v + 1 from wrap_in (by omega) (by omega)]
    refine st_nx hR2.cell (k := f) (by omega) ?_ (by simp)
    have h3 := RSt.lay (B' := B) (X' := { X with mat := setF X.mat f v, next := setF X.next f (v + 1) }) hR2 hms2 st2
    obtain ⟨s3, hs3⟩ : ∃ s3, s2.upd r (.cells (refCells B { X with mat := setF X.mat f v, next := setF X.next f (v + 1) } l2 o2) 78 (0, 0)) = s3 := ⟨_, rfl⟩
    rw [hs3] at h3 ⊢
    clear hs3
    have hB1 : B.fedTo f M.index = { B with mat := B.mat.set f v, next := B.next.set f (v + 1) } := by unfold BS.fedTo; rw [hve]
    have hLd1 : (B.fedTo f M.index).Ldr := hl.fedTo hfs M.index (by omega)
    have hMt1 : Mt2 (B.fedTo f M.index) { X with mat := setF X.mat f v, next := setF X.next f (v + 1) } := by
      rw [hB1]
      exact Mt2.setN (B := { B with mat := B.mat.set f v }) (hM2.setM hl.mlen hfs) hl.nlen hfs
    have h4 : RSt s1 L1 r s3 (B.fedTo f M.index) { X with mat := setF X.mat f v, next := setF X.next f (v + 1) } ms := by rw [hB1]; exact h3.as
    have hok1 : (B.fedTo f M.index).Ok := ⟨⟨q1, q2, q3⟩, hbs, hz, hok.id, hok.com⟩
    have hlc1 : (B.fedTo f M.index).commit ≤ (B.fedTo f M.index).lst := hlc
    have hsz1 : (B.fedTo f M.index).size = B.size := rfl
    have hrole1 : (B.fedTo f M.index).role = 2 := e
    have hlst1 : (B.fedTo f M.index).lst = B.lst := rfl
    have hba1 : (B.fedTo f M.index).base = B.base := rfl
    generalize B.fedTo f M.index = C at *
    generalize ({ X with mat := setF X.mat f v, next := setF X.next f (v + 1) } : RS) = Y at *
    refine W.call_of (c_rsettle h4 hok1 hLd1.fed hMt1 hLd1.mlen hlc1 (by omega)) ?_
    rintro _ s5 ⟨rfl, h5⟩
    refine ⟨(), rfl, ?_⟩
    obtain ⟨c, hc, hc1, hc2⟩ := settled_com C hlc1
    have hsl := settled_len C
    obtain ⟨D, hD⟩ : ∃ D, C.settled = D := ⟨_, rfl⟩
    rw [hD] at h5 hc hsl ⊢
    obtain ⟨D, ds⟩ := D
    dsimp only at h5 hc hsl ⊢
    have hMtD : Mt2 D Y := by rw [hc]; exact ⟨hMt1.nx, hMt1.mt⟩
    have hsD : D.size = B.size := by rw [hc]; exact hsz1
    have hlD : D.lst = B.lst := by rw [hc]; exact hlst1
    have hbD : D.base = B.base := by rw [hc]; exact hba1
    have hrD : D.role = 2 := by rw [hc]; exact hrole1
    have hLdD : D.Fed := by rw [hc]; exact ⟨hLd1.fed.len, hLd1.fed.rng⟩
    have hSm : D.Small := by rw [hc]; exact ⟨hok1.small.base0, hok1.small.base1, hok1.small.log1⟩
    have hend : Mt D Y := ⟨fun e1 => by omega, fun _ => hMtD⟩
    have h5' := h5
    obtain ⟨l5, o5, ps5, hR5, hms5, st5⟩ := h5
    simp only [W.unSome_some, add_mk, Nat.zero_add]
    refine (W.guard_iff _ _ _).2 ⟨hgd, ?_⟩
    refine ld_mt hR5.cell (k := f) (by omega) ?_ (by simp)
    rw [hMtD.mt f (by omega)]
    refine (W.br_iff _ _ _ _).2 ⟨fun eb => ?_, fun eb => ?_⟩
    · have eb : D.mt f > B.mt f := of_decide_eq_true eb
      simp only [W.unSome_some, add_mk, Nat.zero_add]
      refine (W.guard_iff _ _ _).2 ⟨hgd, ?_⟩
      refine ld_nx hR5.cell (k := f) (by omega) ?_ (by simp)
      rw [hMtD.nx f (by omega)]
      refine W.callQ_of ((D.lst, ()), ()) (c_rLast hR5 hSm) rfl ?_
      refine (W.br_iff _ _ _ _).2 ⟨fun en => ?_, fun en => ?_⟩
      · have en : D.nx f ≤ D.lst := of_decide_eq_true en
        rw [if_pos ⟨eb, en⟩]
        refine W.call_of (c_rfeed h5' hSm (by omega) (by rw [List.length_append]; omega) (to := f) (by omega) (fed_rng hLdD hMtD f (by omega))) ?_
        rintro _ s6 ⟨rfl, h6⟩
        refine ⟨(), rfl, rfl, Y, up ?_, hend⟩
        rw [hMtD.nx f (by omega)] at h6
        rw [← List.append_assoc, hf]; exact h6
      · have en : ¬ D.nx f ≤ D.lst := of_decide_eq_false en
        rw [if_neg (fun h => en h.2)]
        exact ⟨rfl, Y, up h5', hend⟩
    · have eb : ¬ D.mt f > B.mt f := of_decide_eq_false eb
      rw [if_neg (fun h => eb h.1)]
      exact ⟨rfl, Y, up h5', hend⟩
end
end Go.Proofs.Ytfpbiecmobdnnaa
end
section
set_option linter.unusedVariables false
set_option linter.unusedSimpArgs false
set_option maxHeartbeats 1000000
set_option maxRecDepth 10000
namespace Go.Proofs.Ytfpbiecmobdnnaa
open Fw Go
attribute [-simp] Fw.W.ld_iff Fw.W.st_iff
section
variable {w s0 s s1 s' : PH} {L : List Nat} {r : Nat} {B B' : BS} {X X' : RS} {ms : List Msg} {l o : Tri} {ps : List (Msg × Tri)}
/-- what was known ahead of the ballot stays -/
theorem RSt.le (h : RSt s0 L r s B X ms) (hw : w.le s0) (hL : ∀ y ∈ L, w y = none) : w.le s := by
  obtain ⟨l, o, ps, hR, hms, st⟩ := h
  intro b ob hb
  exact st.mod.at (hw b ob hb) fun hx => by rw [hL b hx] at hb; cases hb
theorem rTerm_is (hs : B.Small) {i p : Int} (hp : 0 ≤ p) (hb : B.base ≤ i) : B.rTerm i = p ↔ B.termAt i = (p, true) := by
  by_cases hl : i ≤ B.lst
  · rw [rTerm_at hs hb hl]
    have h2 : (B.termAt i).2 = true := by
      unfold BS.termAt
      split
      · rfl
      · obtain ⟨e, he, _⟩ := BS.entry_in (B := B) (i := i) (by omega) hl
        rw [he]; (first | done | rfl)
    constructor
    · intro h; exact Prod.ext h h2
    · intro h; rw [h]
  · have hd := lst_def B
    have hne : i ≠ B.base := by omega
    have e1 : B.rTerm i = -1 := by unfold BS.rTerm; rw [if_neg hne, if_pos (.inr (by omega))]
    have e2 : (B.termAt i).2 = false := by
      unfold BS.termAt
      rw [if_neg hne, BS.entry_out (.inr (by omega))]; (first | done | rfl)
    rw [e1]
    constructor
    · intro h; omega
    · intro h; rw [h] at e2; cases e2
theorem c_rgiven (h : RSt s0 L r s B X ms) (hok : B.Ok) (hlc : B.commit ≤ B.lst) (hll : B.log.length ≤ 1000000000) (hlen : ms.length ≤ 400) (M : Msg) (t : Tri) (hi : -1 ≤ M.index ∧ M.index ≤ FAR) (hp : 0 ≤ M.prev) :
    DCalls Try.prog 68 #[bptr r, msgV M t] s fun x s' => x = .tuple #[] ∧ RSt s0 L r s' (B.given M).1 X (ms ++ (B.given M).2) := by
  refine ok_rgiven r M.kind M.from_ M.to M.term M.index M.prev M.commit M.good t.1 t.2.1 t.2.2 M.snap _ s ?_
  unfold vc_rgiven
  have hs := hok.small
  have hbs := hok.base
  have hcom := hok.com
  obtain ⟨q1, q2, q3⟩ := _root_.id hs
  have hd := lst_def B
  have hfar : FAR = 1099511627776 := rfl
  simp only [RP_ite, RP_unSome, RP_ld, RP_st, RP_call, RP_callQ, RP_ret, RP_loop, RP_guard, RP_nw, RP_join, RP_app]
  refine h.msg M t fun q s1 L1 h1 kq hq m1 hkn up => ?_
  have h1' := h1
  obtain ⟨l, o, ps, hR, hms, st⟩ := h1
  simp only [W.unSome_some, add_mk, Nat.zero_add]
  refine ld_ref hR (y := (B.role, ())) rfl ?_
  refine (W.br_iff _ _ _ _).2 ⟨fun e => ?_, fun e => ?_⟩
  · have e : B.role = 2 := by simpa using e
    have : B.given M = (B, []) := by unfold BS.given; rw [if_pos e]
    rw [this, List.append_nil]
    exact ⟨rfl, up h1'⟩
  have e : B.role ≠ 2 := by simpa using e
  simp only [W.unSome_some, add_mk, Nat.zero_add]
  refine st_ref hR st (B' := { B with role := 0 }) (X' := X) rfl (by decide) rfl rfl fun s2 hR2 st2 => ?_
  rw [W.ld_at ((RSt.of hR2 hms st2).keep kq hq)]
  refine ⟨(M.from_, ()), rfl, ?_⟩
  simp only [W.unSome_some, add_mk, Nat.zero_add]
  refine st_ref hR2 st2 (B' := { B with role := 0, lead := M.from_ }) (X' := X) rfl (by decide) rfl rfl fun s3 hR3 st3 => ?_
  have h3 := RSt.of hR3 hms st3
  have kq3 := h3.keep kq hq
  clear hR2 st2
  obtain ⟨C, hC⟩ : ∃ C, ({ B with role := 0, lead := M.from_ } : BS) = C := ⟨_, rfl⟩
  have hgv : B.given M = if M.index ≤ B.commit then (C, [B.toldM M.from_ true M.index]) else
      ({ (C.rebase M.index M.prev M.snap (if B.termAt M.index = (M.prev, true) then B.log.drop (M.index - B.base).toNat else [])) with commit := M.index }, [B.toldM M.from_ true M.index]) := by
    unfold BS.given; rw [if_neg e, ← hC]
  have eCi : C.id = B.id := by rw [← hC]
  have eCt : C.term = B.term := by rw [← hC]
  have eCl : C.log = B.log := by rw [← hC]
  have eCb : C.base = B.base := by rw [← hC]
  have eCc : C.commit = B.commit := by rw [← hC]
  have eCr : C.rTerm M.index = B.rTerm M.index := by rw [← hC]; (first | done | rfl)
  have hsC : C.Small := by rw [← hC]; exact ⟨q1, q2, q3⟩
  have told : ∀ (D : BS), D.id = B.id → D.term = B.term → sentM D { kind := 4, from_ := 0, to := M.from_, term := 0, index := M.index, good := true } = B.toldM M.from_ true M.index := fun D e1 e2 => by
    unfold BS.toldM BS.msg
    show ({ kind := 4, from_ := D.id, to := M.from_, term := D.term, index := M.index, good := true } : Msg) = _
    rw [e1, e2]
  rw [hC] at h3 hR3 
  rw [W.ld_at kq3]
  refine ⟨(M.index, ()), rfl, ?_⟩
  simp only [W.unSome_some, add_mk, Nat.zero_add]
  refine ld_ref hR3 (y := (C.commit, ())) rfl ?_
  refine (W.br_iff _ _ _ _).2 ⟨fun eg => ?_, fun eg => ?_⟩
  rotate_left
  · have eg : ¬ M.index > C.commit := of_decide_eq_false eg
    rw [W.ld_at kq3]
    refine ⟨(M.from_, ()), rfl, ?_⟩
    rw [W.ld_at kq3]
    refine ⟨(M.index, ()), rfl, ?_⟩
    refine W.call_of (c_rsend h3 (by omega) { kind := 4, from_ := 0, to := M.from_, term := 0, index := M.index, good := true } (t := noTri) rowE.nil (by simp [Fw.blk])) ?_
    rintro _ s4 ⟨rfl, h4⟩
    refine ⟨(), rfl, rfl, ?_⟩
    rw [hgv, if_pos (by omega)]
    rw [told C eCi eCt] at h4
    exact up h4
  have eg : M.index > C.commit := of_decide_eq_true eg
  obtain ⟨rest, hrest⟩ : ∃ rest, (if B.termAt M.index = (M.prev, true) then B.log.drop (M.index - B.base).toNat else []) = rest := ⟨_, rfl⟩
  rw [hrest] at hgv
  rw [if_neg (by omega)] at hgv
  refine W.join_gen (fun z s' => ∃ t' : Tri, z = ((Addr.mk q 0 none, ()), (t', ()), ()) ∧ rowE entE s' 39 t'.1 t'.2.1 t'.2.2 rest ∧ Fw.Mod [] s3 s' ∧ ∀ y ∈ Fw.blk t'.1, s3 y = none) ?_ ?_
  · rintro _ s4 ⟨⟨ta, tn, tc⟩, rfl, hrow, m4, hf⟩
    have h4 := h3.new m4
    have kq4 := m4.at kq3 (by simp)
    try simp only [add_mk, Nat.zero_add]
    rw [W.ld_at kq4]
    refine ⟨(M.index, ()), rfl, ?_⟩
    rw [W.ld_at kq4]
    refine ⟨(M.prev, ()), rfl, ?_⟩
    rw [W.ld_at kq4]
    refine ⟨(M.snap, ()), rfl, ?_⟩
    refine W.call_of (c_rrebase h4 M.index M.prev M.snap hrow fun y hy => h3.fresh (hf y hy)) ?_
    rintro _ s5 ⟨rfl, h5⟩
    refine ⟨(), rfl, ?_⟩
    rw [W.ld_at (h5.keep kq hq)]
    refine ⟨(M.index, ()), rfl, ?_⟩
    obtain ⟨l5, o5, ps5, hR5, hms5, st5⟩ := h5
    simp only [W.unSome_some, add_mk, Nat.zero_add]
    refine st_ref hR5 st5 (B' := { (C.rebase M.index M.prev M.snap rest) with commit := M.index }) (X' := X) rfl (by decide) rfl rfl fun s6 hR6 st6 => ?_
    have h6 := RSt.of hR6 hms5 st6
    rw [W.ld_at (h6.keep kq hq)]
    refine ⟨(M.from_, ()), rfl, ?_⟩
    rw [W.ld_at (h6.keep kq hq)]
    refine ⟨(M.index, ()), rfl, ?_⟩
    refine W.call_of (c_rsend h6 (by omega) { kind := 4, from_ := 0, to := M.from_, term := 0, index := M.index, good := true } (t := noTri) rowE.nil (by simp [Fw.blk])) ?_
    rintro _ s7 ⟨rfl, h7⟩
    refine ⟨(), rfl, rfl, ?_⟩
    rw [hgv]
    rw [told { (C.rebase M.index M.prev M.snap rest) with commit := M.index } eCi eCt] at h7
    exact up h7
  · intro J hJ
    try simp only [add_mk, Nat.zero_add]
    rw [W.ld_at kq3]
    refine ⟨(M.index, ()), rfl, ?_⟩
    refine W.callQ_of ((C.rTerm M.index, ()), ()) (c_rTermAt hR3 hsC ⟨by omega, by omega⟩) rfl ?_
    rw [W.ld_at kq3]
    refine ⟨(M.prev, ()), rfl, ?_⟩
    rw [eCr]
    have hiff := rTerm_is (B := B) hs (i := M.index) hp (by omega)
    refine (W.br_iff _ _ _ _).2 ⟨fun et => ?_, fun et => ?_⟩
    · have et : B.rTerm M.index = M.prev := by simpa using et
      have ht := hiff.1 et
      rw [if_pos ht] at hrest
      have hle : M.index ≤ B.lst := termAt_le (by rw [ht]) (by omega)
      obtain ⟨j, hj⟩ : ∃ j : Nat, (M.index - B.base).toNat = j := ⟨_, rfl⟩
      obtain ⟨⟨l1, ln, lc⟩, hl⟩ : ∃ y, l = y := ⟨l, rfl⟩
      subst hl
      have hln := hR3.log.len
      have hlv := View.of (t := (l1, ln, lc)) hR3.log
      have hlc := hR3.log.le
      dsimp only at hln hlv hlc
      rw [eCl] at hln hlv
      have hwj : IntKind.i64.wrap (M.index - C.base) = (j : Int) := by rw [eCb, wrap_in (by omega) (by omega)]; omega
      simp only [W.unSome_some, add_mk, Nat.zero_add]
      refine ld_ref hR3 (y := ((l1, ln, lc), ())) rfl ?_
      rw [W.ld_at kq3]
      refine ⟨(M.index, ()), rfl, ?_⟩
      simp only [W.unSome_some, add_mk, Nat.zero_add]
      refine ld_ref hR3 (y := (C.base, ())) rfl ?_
      try dsimp only
      rw [hwj]
      refine (W.guard_iff _ _ _).2 ⟨by omega, ?_⟩
      simp only [Int.toNat_natCast]
      have hsub := hlv.sub (k := j) (by omega)
      have hmax : maxLen = 9223372036854775807 := rfl
      refine app_rowE (E := entE) (k := ln - j) (ys := B.log.drop j) (rowE.nil (E := entE) (s := s3) (e := 39)) rfl hsub.src rfl (by rw [List.length_drop]; omega) (by omega) (by omega) ?_
      intro a' c' s4 hrow hm
      rw [List.nil_append] at hrow
      have hmf : Fw.Mod [] s3 s4 ∧ ∀ y ∈ Fw.blk a', s3 y = none := by
        rcases hm with ⟨rfl, m'⟩ | ⟨g, rfl, hg, m'⟩
        · exact ⟨m', by simp [Fw.blk]⟩
        · exact ⟨m', by simp [Fw.blk]; exact hg⟩
      refine hJ _ _ ⟨(a', 0 + (ln - j), c'), rfl, ?_, hmf.1, hmf.2⟩
      rw [← hrest, hj]; exact hrow
    · have et : B.rTerm M.index ≠ M.prev := by simpa using et
      rw [if_neg (fun h => et (hiff.2 h))] at hrest
      refine hJ _ _ ⟨noTri, rfl, ?_, Mod.refl _ _, by simp [Fw.blk]⟩
      rw [← hrest]; exact rowE.nil
end
end Go.Proofs.Ytfpbiecmobdnnaa
end
section
set_option linter.unusedVariables false
set_option linter.unusedSimpArgs false
set_option maxHeartbeats 1000000
set_option maxRecDepth 10000
namespace Go.Proofs.Ytfpbiecmobdnnaa
open Fw Go
attribute [-simp] Fw.W.ld_iff Fw.W.st_iff
section
variable {w s0 s s1 s' : PH} {L : List Nat} {r : Nat} {B B' : BS} {X X' : RS} {ms : List Msg} {l o : Tri} {ps : List (Msg × Tri)}
theorem merge_cons (B : BS) (i : Int) (e : Ent) (xs : List Ent) : B.merge i (e :: xs) = if B.termAt (i + 1) = (e.term, true) then B.merge (i + 1) xs else B.set (i + 1) (e :: xs) := rfl
/-- what is laid of a message's entries -/
def BS.laid (B : BS) (M : Msg) : BS := if M.index < B.commit then B.merge B.commit (M.list.drop (B.commit - M.index).toNat) else B.merge M.index M.list
theorem c_rentries (h : RSt s0 L r s B X ms) (hok : B.Ok) (hlc : B.commit ≤ B.lst) (hlen : ms.length ≤ 400) (M : Msg) (t : Tri) (hw : w.le s0) (hL : ∀ y ∈ L, w y = none) (hv : View w t.1 t.2.1 t.2.2 M.list) (hll : M.list.length ≤ 1000000) (hi : 0 ≤ M.index ∧ M.index ≤ FAR) (hp : 0 ≤ M.prev) :
    DCalls Try.prog 66 #[bptr r, msgV M t] s fun x s' => x = .tuple #[] ∧ RSt s0 L r s' (B.fed M).1 X (ms ++ (B.fed M).2) := by
  obtain ⟨ta, tn, tc⟩ := t
  dsimp only at hv
  refine ok_rentries r M.kind M.from_ M.to M.term M.index M.prev M.commit M.good ta tn tc M.snap _ s ?_
  unfold vc_rentries
  have hs := hok.small
  have hbs := hok.base
  have hcom := hok.com
  obtain ⟨q1, q2, q3⟩ := _root_.id hs
  have hd := lst_def B
  have hfar : FAR = 1099511627776 := rfl
  have hvl := hv.len
  have hvc := hv.le
  have hwe : IntKind.i64.wrap (M.index + (tn : Int)) = M.index + (tn : Int) := wrap_in (by omega) (by omega)
  have hwi1 : IntKind.i64.wrap (M.index + 1) = M.index + 1 := wrap_in (by omega) (by omega)
  simp only [RP_ite, RP_unSome, RP_ld, RP_st, RP_call, RP_callQ, RP_ret, RP_loop, RP_guard, RP_nw, RP_join, RP_app]
  refine h.msg M (ta, tn, tc) fun q s1 L1 h1 kq hq m1 hkn up => ?_
  have h1' := h1
  have hvs : ∀ {s2 B2 X2 ms2}, RSt s1 L1 r s2 B2 X2 ms2 → View s2 ta tn tc M.list := fun {s2 B2 X2 ms2} h2 => hv.mono ((up h2).le hw hL)
  obtain ⟨l, o, ps, hR, hms, st⟩ := h1
  simp only [W.unSome_some, add_mk, Nat.zero_add]
  refine ld_ref hR (y := (B.role, ())) rfl ?_
  refine (W.br_iff _ _ _ _).2 ⟨fun e => ?_, fun e => ?_⟩
  · have e : B.role = 2 := by simpa using e
    have : B.fed M = (B, []) := by unfold BS.fed; rw [if_pos e]
    rw [this, List.append_nil]
    exact ⟨rfl, up h1'⟩
  have e : B.role ≠ 2 := by simpa using e
  simp only [W.unSome_some, add_mk, Nat.zero_add]
  refine st_ref hR st (B' := { B with role := 0 }) (X' := X) rfl (by decide) rfl rfl fun s2 hR2 st2 => ?_
  rw [W.ld_at ((RSt.of hR2 hms st2).keep kq hq)]
  refine ⟨(M.from_, ()), rfl, ?_⟩
  simp only [W.unSome_some, add_mk, Nat.zero_add]
  refine st_ref hR2 st2 (B' := { B with role := 0, lead := M.from_ }) (X' := X) rfl (by decide) rfl rfl fun s3 hR3 st3 => ?_
  have h3 := RSt.of hR3 hms st3
  have kq3 := h3.keep kq hq
  clear hR2 st2
  obtain ⟨C, hC⟩ : ∃ C, ({ B with role := 0, lead := M.from_ } : BS) = C := ⟨_, rfl⟩
  have hfd : B.fed M = if M.index + (tn : Int) ≤ B.commit then (C, [B.toldM M.from_ true (M.index + (tn : Int))]) else
      if ¬ M.index < B.commit ∧ B.termAt M.index ≠ (M.prev, true) then (C, [B.toldM M.from_ false (mn B.lst (M.index - 1))]) else
      ({ C.laid M with commit := mx (C.laid M).commit (mn M.commit (M.index + (tn : Int))) }, [B.toldM M.from_ true (M.index + (tn : Int))]) := by
    unfold BS.fed BS.laid; rw [if_neg e, hvl, ← hC]
  have eCi : C.id = B.id := by rw [← hC]
  have eCt : C.term = B.term := by rw [← hC]
  have eCl : C.log = B.log := by rw [← hC]
  have eCb : C.base = B.base := by rw [← hC]
  have eCc : C.commit = B.commit := by rw [← hC]
  have eCs : C.lst = B.lst := by rw [← hC]; (first | done | rfl)
  have eCr : C.rTerm M.index = B.rTerm M.index := by rw [← hC]; (first | done | rfl)
  have hsC : C.Small := by rw [← hC]; exact ⟨q1, q2, q3⟩
  have told : ∀ (D : BS) (g : Bool) (i : Int), D.id = B.id → D.term = B.term → sentM D { kind := 4, from_ := 0, to := M.from_, term := 0, index := i, good := g } = B.toldM M.from_ g i := fun D g i e1 e2 => by
    unfold BS.toldM BS.msg
    show ({ kind := 4, from_ := D.id, to := M.from_, term := D.term, index := i, good := g } : Msg) = _
    rw [e1, e2]
  rw [hC] at h3 hR3
  rw [W.ld_at kq3]
  refine ⟨(M.index, ()), rfl, ?_⟩
  rw [W.ld_at kq3]
  refine ⟨((ta, tn, tc), ()), rfl, ?_⟩
  simp only [W.unSome_some, add_mk, Nat.zero_add]
  refine ld_ref hR3 (y := (C.commit, ())) rfl ?_
  try dsimp only
  rw [hwe]
  refine (W.br_iff _ _ _ _).2 ⟨fun eg => ?_, fun eg => ?_⟩
  · have eg : M.index + (tn : Int) ≤ C.commit := of_decide_eq_true eg
    rw [W.ld_at kq3]
    refine ⟨(M.from_, ()), rfl, ?_⟩
    refine W.call_of (c_rsend h3 (by omega) { kind := 4, from_ := 0, to := M.from_, term := 0, index := M.index + (tn : Int), good := true } (t := noTri) rowE.nil (by simp [Fw.blk])) ?_
    rintro _ s4 ⟨rfl, h4⟩
    refine ⟨(), rfl, rfl, ?_⟩
    rw [hfd, if_pos (by omega)]
    rw [told C true _ eCi eCt] at h4
    exact up h4
  have eg : ¬ M.index + (tn : Int) ≤ C.commit := of_decide_eq_false eg
  rw [if_neg (by omega)] at hfd
  have hiff : M.index ≥ B.commit → (B.rTerm M.index = M.prev ↔ B.termAt M.index = (M.prev, true)) := fun hge => rTerm_is (B := B) hs hp (by omega)
  refine W.join_gen (fun z s' => ∃ bad : Bool, z = ((Addr.mk q 0 none, ()), (M.index + (tn : Int), ()), (bad, ()), ()) ∧ s' = s3 ∧ (bad = true ↔ (¬ M.index < B.commit ∧ B.termAt M.index ≠ (M.prev, true)))) ?_ ?_
  rotate_left
  · intro J hJ
    try simp only [add_mk, Nat.zero_add]
    rw [W.ld_at kq3]
    refine ⟨(M.index, ()), rfl, ?_⟩
    simp only [W.unSome_some, add_mk, Nat.zero_add]
    refine ld_ref hR3 (y := (C.commit, ())) rfl ?_
    refine (W.br_iff _ _ _ _).2 ⟨fun ec => ?_, fun ec => ?_⟩
    · have ec : M.index ≥ C.commit := of_decide_eq_true ec
      rw [W.ld_at kq3]
      refine ⟨(M.index, ()), rfl, ?_⟩
      refine W.callQ_of ((C.rTerm M.index, ()), ()) (c_rTermAt hR3 hsC ⟨by omega, by omega⟩) rfl ?_
      rw [W.ld_at kq3]
      refine ⟨(M.prev, ()), rfl, ?_⟩
      rw [eCr]
      refine hJ _ _ ⟨_, rfl, rfl, ?_⟩
      have := hiff (by omega)
      constructor
      · intro hb
        have hb : B.rTerm M.index ≠ M.prev := by simpa using hb
        exact ⟨by omega, fun h => hb (this.2 h)⟩
      · rintro ⟨_, hb⟩
        have : B.rTerm M.index ≠ M.prev := fun h => hb (this.1 h)
        simpa using this
    · have ec : ¬ M.index ≥ C.commit := of_decide_eq_false ec
      refine hJ _ _ ⟨false, rfl, rfl, ?_⟩
      constructor
      · intro h; cases h
      · rintro ⟨h, _⟩; omega
  rintro _ s3 ⟨bad, rfl, rfl, hbad⟩
  rename_i s3
  refine (W.br_iff _ _ _ _).2 ⟨fun eb => ?_, fun eb => ?_⟩
  · have eb : bad = true := eb
    rw [if_pos (hbad.1 eb)] at hfd
    have hge := (hbad.1 eb).1
    try simp only [add_mk, Nat.zero_add]
    rw [W.ld_at kq3]
    refine ⟨(M.from_, ()), rfl, ?_⟩
    refine W.callQ_of ((C.lst, ()), ()) (c_rLast hR3 hsC) rfl ?_
    rw [W.ld_at kq3]
    refine ⟨(M.index, ()), rfl, ?_⟩
    try dsimp only
    rw [show IntKind.i64.wrap (M.index - 1) = M.index - 1 from wrap_in (by omega) (by omega), eCs]
    refine W.call_of (c_rsend h3 (by omega) { kind := 4, from_ := 0, to := M.from_, term := 0, index := mn B.lst (M.index - 1), good := false } (t := noTri) rowE.nil (by simp [Fw.blk])) ?_
    rintro _ s4 ⟨rfl, h4⟩
    refine ⟨(), rfl, rfl, ?_⟩
    rw [hfd]
    rw [told C false _ eCi eCt] at h4
    exact up h4
  have eb : bad = false := eb
  rw [if_neg (fun h => by have := hbad.2 h; rw [eb] at this; cases this)] at hfd
  obtain ⟨D, hD⟩ : ∃ D, C.laid M = D := ⟨_, rfl⟩
  rw [hD] at hfd
  have hDm : D.id = B.id ∧ D.term = B.term ∧ D.commit = B.commit := by
    rw [← hD]
    unfold BS.laid
    split
    · obtain ⟨a1, a2, a3, _⟩ := merge_same C (M.list.drop (C.commit - M.index).toNat) C.commit
      exact ⟨a1.trans eCi, a2.trans eCt, a3.trans eCc⟩
    · obtain ⟨a1, a2, a3, _⟩ := merge_same C M.list M.index
      exact ⟨a1.trans eCi, a2.trans eCt, a3.trans eCc⟩
  obtain ⟨hDi, hDt, hDc⟩ := hDm
  refine W.join_gen (fun z s' => z = ((Addr.mk q 0 none, ()), (M.index + (tn : Int), ()), ()) ∧ RSt s1 L1 r s' D X ms) ?_ ?_
  · rintro _ s4 ⟨rfl, h4⟩
    have kq4 := h4.keep kq hq
    obtain ⟨l4, o4, ps4, hR4, hms4, st4⟩ := h4
    try simp only [add_mk, Nat.zero_add]
    rw [W.ld_at kq4]
    refine ⟨(M.commit, ()), rfl, ?_⟩
    simp only [W.unSome_some, add_mk, Nat.zero_add]
    refine ld_ref hR4 (y := (D.commit, ())) rfl ?_
    try dsimp only
    have hmn : (if M.index + (tn : Int) < M.commit then M.index + (tn : Int) else M.commit) = mn M.commit (M.index + (tn : Int)) := rfl
    rw [hmn]
    refine (W.br_iff _ _ _ _).2 ⟨fun ec => ?_, fun ec => ?_⟩
    · have ec : mn M.commit (M.index + (tn : Int)) > D.commit := of_decide_eq_true ec
      have hmx : mx D.commit (mn M.commit (M.index + (tn : Int))) = mn M.commit (M.index + (tn : Int)) := by unfold mx; rw [if_pos ec]
      rw [hmx] at hfd
      simp only [W.unSome_some, add_mk, Nat.zero_add]
      refine st_ref hR4 st4 (B' := { D with commit := mn M.commit (M.index + (tn : Int)) }) (X' := X) rfl (by decide) rfl rfl fun s5 hR5 st5 => ?_
      have h5 := RSt.of hR5 hms4 st5
      rw [W.ld_at (h5.keep kq hq)]
      refine ⟨(M.from_, ()), rfl, ?_⟩
      refine W.call_of (c_rsend h5 (by omega) { kind := 4, from_ := 0, to := M.from_, term := 0, index := M.index + (tn : Int), good := true } (t := noTri) rowE.nil (by simp [Fw.blk])) ?_
      rintro _ s6 ⟨rfl, h6⟩
      refine ⟨(), rfl, rfl, ?_⟩
      rw [hfd]
      rw [told { D with commit := mn M.commit (M.index + (tn : Int)) } true _ hDi hDt] at h6
      exact up h6
    · have ec : ¬ mn M.commit (M.index + (tn : Int)) > D.commit := of_decide_eq_false ec
      have hmx : mx D.commit (mn M.commit (M.index + (tn : Int))) = D.commit := by unfold mx; rw [if_neg ec]
      rw [hmx] at hfd
      rw [W.ld_at kq4]
      refine ⟨(M.from_, ()), rfl, ?_⟩
      refine W.call_of (c_rsend (RSt.of hR4 hms4 st4) (by omega) { kind := 4, from_ := 0, to := M.from_, term := 0, index := M.index + (tn : Int), good := true } (t := noTri) rowE.nil (by simp [Fw.blk])) ?_
      rintro _ s6 ⟨rfl, h6⟩
      refine ⟨(), rfl, rfl, ?_⟩
      rw [hfd]
      rw [told D true _ hDi hDt] at h6
      exact up h6
  intro J hJ
  -- the first j are committed
  obtain ⟨d, hdd⟩ : ∃ d : Nat, (C.commit - M.index).toNat = d := ⟨_, rfl⟩
  have hdl : d ≤ tn := by omega
  have hlaid : D = C.merge (M.index + (d : Int)) (M.list.drop d) := by
    rw [← hD]; unfold BS.laid
    rw [hdd]
    split
    · rw [show C.commit = M.index + (d : Int) by omega]
    · have : d = 0 := by omega
      rw [this]; simp
  have hd0 : M.index + (d : Int) ≤ C.lst := by
    by_cases hc : M.index < B.commit
    · omega
    · have ht : B.termAt M.index = (M.prev, true) := by
        by_cases ht : B.termAt M.index = (M.prev, true)
        · exact ht
        · have := hbad.2 ⟨hc, ht⟩; rw [eb] at this; cases this
      have := termAt_le (B := B) (i := M.index) (by rw [ht]) (by omega)
      omega
  refine ⟨fun z s' => ∃ k : Nat, z = ((Addr.mk q 0 none, ()), (M.index + (tn : Int), ()), ((k : Int), ()), ()) ∧ k ≤ tn ∧ s' = s3 ∧ D = C.merge (M.index + ((max k d : Nat) : Int)) (M.list.drop (max k d)) ∧ M.index + ((max k d : Nat) : Int) ≤ C.lst, fun z _ => tn - z.2.2.1.1.toNat, ⟨0, rfl, Nat.zero_le _, rfl, by rw [Nat.max_eq_right (Nat.zero_le _)]; exact hlaid, by rw [Nat.max_eq_right (Nat.zero_le _)]; exact hd0⟩, ?_⟩
  rintro _ s3 ⟨k, rfl, hk, rfl, hDk, hjl⟩
  rename_i s3
  try simp only [add_mk, Nat.zero_add]
  rw [W.ld_at kq3]
  refine ⟨((ta, tn, tc), ()), rfl, ?_⟩
  have hw1 : IntKind.i64.wrap ((k : Int) + 1) = ((k + 1 : Nat) : Int) := by rw [wrap_in (by omega) (by omega)]; simp
  refine (W.br_iff _ _ _ _).2 ⟨fun hlt => ?_, fun hge => ?_⟩
  rotate_left
  · have hge : ¬ (k : Int) < (tn : Int) := of_decide_eq_false hge
    refine hJ _ _ ⟨rfl, ?_⟩
    rw [hDk, Nat.max_eq_left (by omega), List.drop_eq_nil_of_le (by omega)]
    exact h3
  have hlt : (k : Int) < (tn : Int) := of_decide_eq_true hlt
  rw [W.ld_at kq3]
  refine ⟨(M.index, ()), rfl, ?_⟩
  simp only [W.unSome_some, add_mk, Nat.zero_add]
  refine ld_ref hR3 (y := (C.commit, ())) rfl ?_
  try dsimp only
  rw [hwi1, show IntKind.i64.wrap (M.index + 1 + (k : Int)) = M.index + 1 + (k : Int) from wrap_in (by omega) (by omega), hw1]
  have again : D = C.merge (M.index + ((max (k + 1) d : Nat) : Int)) (M.list.drop (max (k + 1) d)) → M.index + ((max (k + 1) d : Nat) : Int) ≤ C.lst →
      (fun (z : MDen [(false, [CT.addr]), (false, [CT.int .i64]), (false, [CT.int .i64])]) s' => (∃ k : Nat, z = ((Addr.mk q 0 none, ()), (M.index + (tn : Int), ()), ((k : Int), ()), ()) ∧ k ≤ tn ∧ s' = s3 ∧ D = C.merge (M.index + ((max k d : Nat) : Int)) (M.list.drop (max k d)) ∧ M.index + ((max k d : Nat) : Int) ≤ C.lst) ∧ tn - z.2.2.1.1.toNat < tn - ((k : Nat) : Int).toNat)
        ((Addr.mk q 0 none, ()), (M.index + (tn : Int), ()), (((k + 1 : Nat) : Int), ()), ()) s3 := fun hx hy =>
    ⟨⟨k + 1, rfl, by omega, rfl, hx, hy⟩, by simp only [Int.toNat_natCast]; omega⟩
  refine (W.br_iff _ _ _ _).2 ⟨fun ei => ?_, fun ei => ?_⟩
  rotate_left
  · have ei : ¬ M.index + 1 + (k : Int) > C.commit := of_decide_eq_false ei
    rw [Nat.max_eq_right (by omega)] at hDk hjl
    refine again ?_ ?_
    · rw [Nat.max_eq_right (by omega)]; exact hDk
    · rw [Nat.max_eq_right (by omega)]; exact hjl
  have ei : M.index + 1 + (k : Int) > C.commit := of_decide_eq_true ei
  rw [Nat.max_eq_left (by omega)] at hDk hjl
  obtain ⟨x, hx⟩ : ∃ x, M.list[k]? = some x := ⟨_, List.getElem?_eq_getElem (by omega)⟩
  have hdrop : M.list.drop k = x :: M.list.drop (k + 1) := drop_at hx
  rw [hdrop, merge_cons, show M.index + (k : Int) + 1 = M.index + 1 + (k : Int) by omega] at hDk
  have put : ∀ {K : MDen [] → W.T}, C.termAt (M.index + 1 + (k : Int)) ≠ (x.term, true) → (M.index + 1 + (k : Int) ≤ C.lst + 1) → (∀ s', RSt s1 L1 r s' D X ms → K () s') →
      W.call Try.prog 62 #[.pointer (some ⟨r, 0, none⟩), .int .i64 (M.index + 1 + (k : Int)), .slice (if tc = k then ta else ta.map (fun x => x.add (k * 4))) (tn - k) (tc - k)] (true, []) K s3 := fun {K} hne hle hK => by
    rw [if_neg hne] at hDk
    have hsub := (hvs h3).sub (k := k) (by omega)
    refine W.call_of (c_rput h3 hsC (i := M.index + 1 + (k : Int)) (ys := M.list.drop k) (by omega) hle hsub.src (by rw [List.length_drop]; omega) (by omega)) ?_
    rintro _ s4 ⟨rfl, h4⟩
    refine ⟨(), rfl, hK _ ?_⟩
    rw [hDk, ← hdrop]; exact h4
  have hvv := hvs h3
  refine W.callQ_of ((C.lst, ()), ()) (c_rLast hR3 hsC) rfl ?_
  refine (W.br_iff _ _ _ _).2 ⟨fun el => ?_, fun el => ?_⟩
  · have el : M.index + 1 + (k : Int) > C.lst := of_decide_eq_true el
    rw [W.ld_at kq3]
    refine ⟨((ta, tn, tc), ()), rfl, ?_⟩
    refine (W.guard_iff _ _ _).2 ⟨by (try dsimp only); omega, ?_⟩
    simp only [Int.toNat_natCast]
    refine put ?_ (by omega) fun s' h4 => hJ _ _ ⟨rfl, h4⟩
    have : (C.termAt (M.index + 1 + (k : Int))).2 = false := by
      have hdC := lst_def C
      unfold BS.termAt
      rw [if_neg (by omega), BS.entry_out (.inr (by omega))]; (first | done | rfl)
    intro h; rw [h] at this; cases this
  · have el : ¬ M.index + 1 + (k : Int) > C.lst := of_decide_eq_false el
    refine W.callQ_of ((C.rTerm (M.index + 1 + (k : Int)), ()), ()) (c_rTermAt hR3 hsC ⟨by omega, by omega⟩) rfl ?_
    rw [rTerm_at hsC (by omega) (by omega)]
    have h2 : (C.termAt (M.index + 1 + (k : Int))).2 = true := by
      unfold BS.termAt
      split
      · rfl
      · obtain ⟨e, he, _⟩ := BS.entry_in (B := C) (i := M.index + 1 + (k : Int)) (by omega) (by omega)
        rw [he]; (first | done | rfl)
    rw [W.ld_at kq3]
    refine ⟨((ta, tn, tc), ()), rfl, ?_⟩
    refine (W.guard_iff _ _ _).2 ⟨by (try dsimp only); omega, ?_⟩
    obtain ⟨ad, rfl, hhas⟩ := hvv.all k x hx
    simp only [W.unSome_some, Int.toNat_natCast]
    refine ld_has (j := 0) hhas (cs := [.int .i64]) (y := (x.term, ())) rfl ?_
    refine (W.br_iff _ _ _ _).2 ⟨fun et => ?_, fun et => ?_⟩
    · have et : (C.termAt (M.index + 1 + (k : Int))).1 ≠ x.term := by simpa using et
      rw [W.ld_at kq3]
      refine ⟨((some ad, tn, tc), ()), rfl, ?_⟩
      refine (W.guard_iff _ _ _).2 ⟨by (try dsimp only); omega, ?_⟩
      simp only [Int.toNat_natCast]
      exact put (fun h => et (by rw [h])) (by omega) fun s' h4 => hJ _ _ ⟨rfl, h4⟩
    · have et : (C.termAt (M.index + 1 + (k : Int))).1 = x.term := by simpa using et
      rw [if_pos (Prod.ext et h2)] at hDk
      refine again ?_ ?_
      · rw [Nat.max_eq_left (by omega), hDk]
        congr 1; omega
      · rw [Nat.max_eq_left (by omega)]; omega
end
end Go.Proofs.Ytfpbiecmobdnnaa
end
section
set_option linter.unusedVariables false
set_option linter.unusedSimpArgs false
set_option maxHeartbeats 1000000
set_option maxRecDepth 10000
namespace Go.Proofs.Ytfpbiecmobdnnaa
open Fw Go
attribute [-simp] Fw.W.ld_iff Fw.W.st_iff
section
variable {w s0 s s1 s' : PH} {L : List Nat} {r : Nat} {B B' : BS} {X X' : RS} {ms : List Msg} {l o : Tri} {ps : List (Msg × Tri)}
def RCutPost (s0 : PH) (L : List Nat) (r : Nat) (B : BS) (X : RS) (ms : List Msg) (i : Int) (sn : ByteArray) (x : Value) (s' : PH) : Prop := x = .bool (B.cuts i) ∧ RSt s0 L r s' (B.cut i sn) X ms
theorem c_rCut (h : RSt s0 L r s B X ms) (hok : B.Ok) (hlc : B.commit ≤ B.lst) (i : Int) (sn : ByteArray) : DCalls Try.prog 35 #[bptr r, .int .i64 i, .string sn] s (RCutPost s0 L r B X ms i sn) := by
  have h0 := h
  obtain ⟨⟨l1, ln, lc⟩, o, ps, hR, hms, st⟩ := h
  refine ok_rCut r i sn _ s ?_
  unfold vc_rCut
  have hs := hok.small
  have hbs := hok.base
  obtain ⟨q1, q2, q3⟩ := _root_.id hs
  have hd := lst_def B
  simp only [RP_ite, RP_unSome, RP_ld, RP_st, RP_call, RP_callQ, RP_ret, RP_loop, RP_guard, RP_join]
  have hno : i ≤ B.base ∨ i > B.commit → RCutPost s0 L r B X ms i sn (.bool false) s := fun hc => by
    have e1 : B.cuts i = false := by unfold BS.cuts; rw [decide_eq_true hc]; (first | done | rfl)
    have e2 : B.cut i sn = B := by unfold BS.cut; rw [if_pos hc]
    exact ⟨by rw [e1], by rw [e2]; exact h0⟩
  refine W.join_gen (fun z s' => s' = s ∧ B.base < i ∧ i ≤ B.commit) ?_ ?_
  rotate_left
  · intro J hJ
    simp only [W.unSome_some, add_mk, Nat.zero_add]
    refine ld_ref hR (y := (B.base, ())) rfl ?_
    refine (W.br_iff _ _ _ _).2 ⟨fun e => hno (.inl (of_decide_eq_true e)), fun e => ?_⟩
    have e : ¬ i ≤ B.base := of_decide_eq_false e
    simp only [W.unSome_some, add_mk, Nat.zero_add]
    refine ld_ref hR (y := (B.commit, ())) rfl ?_
    refine (W.br_iff _ _ _ _).2 ⟨fun e2 => hno (.inr (of_decide_eq_true e2)), fun e2 => ?_⟩
    have e2 : ¬ i > B.commit := of_decide_eq_false e2
    exact hJ _ _ ⟨rfl, by omega, by omega⟩
  rintro _ s ⟨rfl, hi1, hi2⟩
  rename_i s
  have hyes1 : B.cuts i = true := by unfold BS.cuts; rw [decide_eq_false (by omega)]; (first | done | rfl)
  have hyes2 : B.cut i sn = B.rebase i (B.termAt i).1 sn (B.log.drop (i - B.base).toNat) := by unfold BS.cut; rw [if_neg (by omega)]
  refine W.callQ_of ((B.rTerm i, ()), ()) (c_rTermAt hR hs ⟨by omega, by omega⟩) rfl ?_
  rw [rTerm_at hs (by omega) (by omega)]
  obtain ⟨j, hj⟩ : ∃ j : Nat, (i - B.base).toNat = j := ⟨_, rfl⟩
  have hln := hR.log.len
  have hlv := View.of (t := (l1, ln, lc)) hR.log
  have hlc := hR.log.le
  dsimp only at hln hlv hlc
  have hwj : IntKind.i64.wrap (i - B.base) = (j : Int) := by rw [wrap_in (by omega) (by omega)]; omega
  simp only [W.unSome_some, add_mk, Nat.zero_add]
  refine ld_ref hR (y := ((l1, ln, lc), ())) rfl ?_
  simp only [W.unSome_some, add_mk, Nat.zero_add]
  refine ld_ref hR (y := (B.base, ())) rfl ?_
  try dsimp only
  rw [hwj]
  refine (W.guard_iff _ _ _).2 ⟨by (try dsimp only); omega, ?_⟩
  simp only [Int.toNat_natCast]
  have hsub := hlv.sub (k := j) (by omega)
  refine copy_new (k := ln - j) (xs := B.log.drop j) hsub.src rfl (by rw [List.length_drop]; omega) (by omega) ?_
  intro a' c' s3 hrow m3 hf3
  refine W.call_of (c_rrebase (h0.new m3) i (B.termAt i).1 sn hrow fun y hy => h0.fresh (hf3 y hy)) ?_
  rintro _ s4 ⟨rfl, h4⟩
  refine ⟨(), rfl, by rw [hyes1], ?_⟩
  rw [hyes2, hj]; exact h4
def RDelPost (s0 : PH) (L : List Nat) (r : Nat) (s : PH) (B : BS) (X : RS) (ms : List Msg) (x : Value) (s' : PH) : Prop :=
  (B.touched = false ∧ x = .tuple #[noDelta, .bool false] ∧ RSt s0 L r s' B X ms) ∨
  (B.touched = true ∧ ∃ t : Tri, x = .tuple #[dlV B.deltaOf t, .bool true] ∧ rowE entE s' 39 t.1 t.2.1 t.2.2 B.deltaOf.list ∧ RSt s0 L r s' B.cleaned X ms ∧ ∀ y ∈ Fw.blk t.1, s y = none)
abbrev dlD (D : Dl) (t : Tri) : Den [.int .i64, .int .i64, .bool, .int .i64, .int .i64, .str, .int .i64, .slice] := (D.term, D.vote, D.whole, D.base, D.baseTerm, D.snap, D.from_, t, ())
theorem c_rDelta (h : RSt s0 L r s B X ms) (hs : B.Small) (hbs : B.base ≤ 4611686016279904256) (hf : B.whole = false → B.base < B.from_ ∧ B.from_ ≤ B.lst + 1) : DCalls Try.prog 18 #[bptr r] s (RDelPost s0 L r s B X ms) := by
  have h0 := h
  obtain ⟨⟨l1, ln, lc⟩, o, ps, hR, hms, st⟩ := h
  refine ok_rDelta r _ s ?_
  unfold vc_rDelta
  obtain ⟨q1, q2, q3⟩ := _root_.id hs
  have hd := lst_def B
  simp only [RP_ite, RP_unSome, RP_ld, RP_st, RP_call, RP_callQ, RP_ret, RP_loop, RP_guard, RP_join, RP_app]
  simp only [W.unSome_some, add_mk, Nat.zero_add]
  refine ld_ref hR (y := (B.touched, ())) rfl ?_
  refine (W.br_iff _ _ _ _).2 ⟨fun e => ?_, fun e => ?_⟩
  · have e : B.touched = false := by simpa using e
    exact .inl ⟨e, rfl, h0⟩
  have e : B.touched = true := by simpa using e
  simp only [W.unSome_some, add_mk, Nat.zero_add]
  refine ld_ref hR (y := (B.term, ())) rfl ?_
  simp only [W.unSome_some, add_mk, Nat.zero_add]
  refine ld_ref hR (y := (B.vote, ())) rfl ?_
  simp only [W.unSome_some, add_mk, Nat.zero_add]
  refine ld_ref hR (y := (B.from_, ())) rfl ?_
  have hwb : IntKind.i64.wrap (B.base + 1) = B.base + 1 := wrap_in (by omega) (by omega)
  have hfr : B.base < B.deltaOf.from_ ∧ B.deltaOf.from_ ≤ B.lst + 1 ∧ B.deltaOf.list = B.log.drop (B.deltaOf.from_ - B.base - 1).toNat := by
    unfold BS.deltaOf
    by_cases hw : B.whole = true
    · rw [if_pos hw]
      refine ⟨by show B.base < B.base + 1; omega, by show B.base + 1 ≤ _; omega, ?_⟩
      show B.log = B.log.drop (B.base + 1 - B.base - 1).toNat
      rw [show (B.base + 1 - B.base - 1).toNat = 0 by omega]; (first | done | rfl)
    · rw [if_neg hw]
      have := hf (by simpa using hw)
      exact ⟨this.1, this.2, rfl⟩
  refine W.join_gen (fun z s' => z = ((0, 0, false, 0, 0, ⟨#[]⟩, 0, noTri, ()), dlD B.deltaOf noTri, ()) ∧ s' = s) ?_ ?_
  rotate_left
  · intro J hJ
    simp only [W.unSome_some, add_mk, Nat.zero_add]
    refine ld_ref hR (y := (B.whole, ())) rfl ?_
    refine (W.br_iff _ _ _ _).2 ⟨fun ew => ?_, fun ew => ?_⟩
    · have ew : B.whole = true := ew
      simp only [W.unSome_some, add_mk, Nat.zero_add]
      refine ld_ref hR (y := (B.base, ())) rfl ?_
      simp only [W.unSome_some, add_mk, Nat.zero_add]
      refine ld_ref hR (y := (B.baseTerm, ())) rfl ?_
      simp only [W.unSome_some, add_mk, Nat.zero_add]
      refine ld_ref hR (y := (B.snap, ())) rfl ?_
      simp only [W.unSome_some, add_mk, Nat.zero_add]
      refine ld_ref hR (y := (B.base, ())) rfl ?_
      try dsimp only
      rw [hwb]
      refine hJ _ _ ⟨?_, rfl⟩
      have : B.deltaOf = ⟨B.term, B.vote, true, B.base, B.baseTerm, B.snap, B.base + 1, B.log⟩ := by unfold BS.deltaOf; rw [if_pos ew]
      rw [this]
    · have ew : B.whole = false := ew
      refine hJ _ _ ⟨?_, rfl⟩
      have : B.deltaOf = ⟨B.term, B.vote, false, 0, 0, ⟨#[]⟩, B.from_, B.log.drop (B.from_ - B.base - 1).toNat⟩ := by unfold BS.deltaOf; rw [if_neg (by simp [ew])]
      rw [this]
  rintro _ s ⟨rfl, rfl⟩
  rename_i s
  obtain ⟨D, hD⟩ : ∃ D, B.deltaOf = D := ⟨_, rfl⟩
  rw [hD] at hfr ⊢
  obtain ⟨f1, f2, f3⟩ := hfr
  obtain ⟨j, hj⟩ : ∃ j : Nat, (D.from_ - B.base - 1).toNat = j := ⟨_, rfl⟩
  have hln := hR.log.len
  have hlv := View.of (t := (l1, ln, lc)) hR.log
  have hlc := hR.log.le
  dsimp only at hln hlv hlc
  have hwj : IntKind.i64.wrap (IntKind.i64.wrap (D.from_ - B.base) - 1) = (j : Int) := by
    rw [wrap_in (n := D.from_ - B.base) (by omega) (by omega), wrap_in (by omega) (by omega)]; omega
  simp only [W.unSome_some, add_mk, Nat.zero_add]
  refine ld_ref hR (y := ((l1, ln, lc), ())) rfl ?_
  simp only [W.unSome_some, add_mk, Nat.zero_add]
  refine ld_ref hR (y := (B.base, ())) rfl ?_
  try dsimp only
  rw [hwj]
  refine (W.guard_iff _ _ _).2 ⟨by (try dsimp only); omega, ?_⟩
  simp only [Int.toNat_natCast]
  have hsub := hlv.sub (k := j) (by omega)
  have hmax : maxLen = 9223372036854775807 := rfl
  refine app_rowE (E := entE) (k := ln - j) (ys := B.log.drop j) (rowE.nil (E := entE) (s := s) (e := 39)) rfl hsub.src rfl (by rw [List.length_drop]; omega) (by omega) (by omega) ?_
  intro a' c' s3 hrow hm
  rw [List.nil_append] at hrow
  rw [Nat.zero_add] at hrow
  have hmf : Fw.Mod [] s s3 ∧ ∀ y ∈ Fw.blk a', s y = none := by
    rcases hm with ⟨rfl, m'⟩ | ⟨g, rfl, hg, m'⟩
    · exact ⟨m', by simp [Fw.blk]⟩
    · exact ⟨m', by simp [Fw.blk]; exact hg⟩
  have hR3 := hR.new hmf.1
  have st3 : Step L (rL r (l1, ln, lc) o ps) s0 s3 := ⟨st.mod.trans (hmf.1.mono (by simp)), st.new⟩
  simp only [W.unSome_some, add_mk, Nat.zero_add]
  refine st_ref hR3 (Step.refl _ s3) (B' := { B with touched := false }) (X' := X) rfl (by decide) rfl rfl fun s4 hR4 st4 => ?_
  simp only [W.unSome_some, add_mk, Nat.zero_add]
  refine st_ref hR4 st4 (B' := { B with touched := false, whole := false }) (X' := X) rfl (by decide) rfl rfl fun s5 hR5 st5 => ?_
  refine W.call_of (c_rLast hR5 ⟨q1, q2, q3⟩) ?_
  rintro _ _ ⟨rfl, rfl⟩
  refine ⟨((B.lst, ()), ()), rfl, ?_⟩
  have hwl : IntKind.i64.wrap (B.lst + 1) = B.lst + 1 := wrap_in (by omega) (by omega)
  try dsimp only
  rw [hwl]
  simp only [W.unSome_some, add_mk, Nat.zero_add]
  refine st_ref hR5 st5 (B' := B.cleaned) (X' := X) rfl (by decide) rfl rfl fun s6 hR6 st6 => ?_
  refine .inr ⟨e, (a', ln - j, c'), ?_, ?_, ⟨(l1, ln, lc), o, ps, hR6, hms, st3.trans st6⟩, hmf.2⟩
  · rw [hD]
  · rw [hD, f3, hj]
    exact hrow.mod st6.mod fun x hx hx2 => (hR.known x hx2) (hmf.2 x hx)
end
end Go.Proofs.Ytfpbiecmobdnnaa
end
section
set_option linter.unusedVariables false
set_option linter.unusedSimpArgs false
set_option maxHeartbeats 1000000
set_option maxRecDepth 10000
namespace Go.Proofs.Ytfpbiecmobdnnaa
open Fw Go
attribute [-simp] Fw.W.ld_iff Fw.W.st_iff
section
variable {w s0 s s1 s' : PH} {L : List Nat} {r : Nat} {B B' : BS} {X X' : RS} {ms : List Msg} {l o : Tri} {ps : List (Msg × Tri)}
theorem Mt.zero (h : B.role = 0) : Mt B X := ⟨fun e => by omega, fun e => by omega⟩
theorem Mt.asked (h : Mt B X) (M : Msg) : Mt (B.asked M).1 X := by
  unfold BS.asked
  dsimp only
  split
  · exact ⟨h.has, fun e => ⟨(h.ld e).nx, (h.ld e).mt⟩⟩
  · exact h
theorem Mt.fed (h : Mt B X) (M : Msg) : Mt (B.fed M).1 X := by
  unfold BS.fed
  split
  · exact h
  · dsimp only
    split
    · exact Mt.zero rfl
    · split
      · exact Mt.zero rfl
      · split
        · exact Mt.zero (merge_role _ _)
        · exact Mt.zero (merge_role _ _)
theorem Mt.given (h : Mt B X) (M : Msg) : Mt (B.given M).1 X := by
  unfold BS.given
  split
  · exact h
  · split
    · exact Mt.zero rfl
    · exact Mt.zero rfl
abbrev msgD (M : Msg) (t : Tri) : Den [.int .i64, .int .i64, .int .i64, .int .i64, .int .i64, .int .i64, .int .i64, .bool, .slice, .str] := (M.kind, M.from_, M.to, M.term, M.index, M.prev, M.commit, M.good, t, M.snap, ())
theorem c_rTake (hR : Ref s r l o [] B X) (hM : Mt B X) (hRn : B.Run) (hvt : -1 ≤ B.vote) (hl1 : B.log.length ≤ 1000000) (M : Msg) (t : Tri) (hw : w.le s) (hL : ∀ y ∈ rL r l o [], w y = none) (hv : View w t.1 t.2.1 t.2.2 M.list) (hll : M.list.length ≤ 1000000) :
    DCalls Try.prog 34 #[bptr r, msgV M t] s (RPost (B.take M) r (rL r l o []) s) := by
  refine ok_rTake r M.kind M.from_ M.to M.term M.index M.prev M.commit M.good t.1 t.2.1 t.2.2 M.snap _ s ?_
  unfold vc_rTake
  obtain ⟨L, hLe⟩ : ∃ L, rL r l o [] = L := ⟨_, rfl⟩
  have h0 : RSt s L r s B X [] := by rw [← hLe]; exact RSt.start hR
  rw [hLe] at hL ⊢
  simp only [RP_ite, RP_unSome, RP_ld, RP_st, RP_call, RP_callQ, RP_ret, RP_loop, RP_guard, RP_nw, RP_join, RP_app]
  refine h0.msg M t fun q s1 L1 h1 kq hq m1 hkn up => ?_
  rw [W.ld_at kq]
  refine ⟨msgD M t, rfl, ?_⟩
  refine W.call_of (c_rStrange (hR.new m1) M t) ?_
  rintro _ s2 ⟨rfl, m2⟩
  refine ⟨((M.strange B.id B.size, ()), ()), rfl, ?_⟩
  refine (W.br_iff _ _ _ _).2 ⟨fun hst => ?_, fun hst => ?_⟩
  · have hst : M.strange B.id B.size = true := hst
    have : B.take M = (B, []) := by unfold BS.take; rw [if_pos hst]
    rw [this]
    have m12 := m1.trans m2
    exact ⟨l, o, noTri, [], X, rfl, Msgs.nil _, rfl, hR.new m12, hM, ⟨m12.mono (by simp), fun x hx => .inl (by rw [← hLe]; exact hx)⟩, by simp [mF, Fw.blk]⟩
  have hst : M.strange B.id B.size = false := hst
  have htk : B.take M = if M.term < (B.seen M).term then (B.seen M, (B.seen M).late M) else (B.seen M).does M := by unfold BS.take; rw [if_neg (by rw [hst]; simp)]
  rw [htk]
  unfold Msg.strange at hst
  simp only [Bool.or_eq_false_iff, decide_eq_false_iff_not] at hst
  obtain ⟨f1, f2, f3, f4, f5, f6, f7, f8, f9, f10, ⟨f11, f12⟩, f13, f14⟩ := hst
  have h2 := h1.new m2
  have kq2 := m2.at kq (by simp)
  refine W.join_gen (fun z s' => z = ((Addr.mk q 0 none, ()), ()) ∧ RSt s1 L1 r s' (B.seen M) X [] ) ?_ ?_
  rotate_left
  · intro J hJ
    obtain ⟨l2, o2, ps2, hR2, hms2, st2⟩ := h2
    try simp only [add_mk, Nat.zero_add]
    rw [W.ld_at kq2]
    refine ⟨(M.term, ()), rfl, ?_⟩
    simp only [W.unSome_some, add_mk, Nat.zero_add]
    refine ld_ref hR2 (y := (B.term, ())) rfl ?_
    refine (W.br_iff _ _ _ _).2 ⟨fun e => ?_, fun e => ?_⟩
    · have e : M.term > B.term := of_decide_eq_true e
      have hse : B.seen M = B.turned M.term (-1) 0 := by unfold BS.seen; rw [if_pos e]
      rw [hse] at hJ
      rw [W.ld_at kq2]
      refine ⟨(M.term, ()), rfl, ?_⟩
      simp only [W.unSome_some, add_mk, Nat.zero_add]
      refine st_ref hR2 st2 (B' := { B with term := M.term }) (X' := X) rfl (by decide) rfl rfl fun s3 hR3 st3 => ?_
      simp only [W.unSome_some, add_mk, Nat.zero_add]
      refine st_ref hR3 st3 (B' := { B with term := M.term, vote := -1 }) (X' := X) rfl (by decide) rfl rfl fun s4 hR4 st4 => ?_
      simp only [W.unSome_some, add_mk, Nat.zero_add]
      refine st_ref hR4 st4 (B' := { B with term := M.term, vote := -1, role := 0 }) (X' := X) rfl (by decide) rfl rfl fun s5 hR5 st5 => ?_
      simp only [W.unSome_some, add_mk, Nat.zero_add]
      refine st_ref hR5 st5 (B' := { B with term := M.term, vote := -1, role := 0, lead := -1 }) (X' := X) rfl (by decide) rfl rfl fun s6 hR6 st6 => ?_
      simp only [W.unSome_some, add_mk, Nat.zero_add]
      refine st_ref hR6 st6 (B' := B.turned M.term (-1) 0) (X' := X) rfl (by decide) rfl rfl fun s7 hR7 st7 => ?_
      exact hJ _ _ ⟨rfl, RSt.of hR7 hms2 st7⟩
    · have e : ¬ M.term > B.term := of_decide_eq_false e
      have hse : B.seen M = B := by unfold BS.seen; rw [if_neg e]
      rw [hse] at hJ
      exact hJ _ _ ⟨rfl, RSt.of hR2 hms2 st2⟩
  rintro _ s3 ⟨rfl, h3⟩
  have hR3 := hRn.seen M
  have hM3 : Mt (B.seen M) X := by
    unfold BS.seen; split
    · exact Mt.zero rfl
    · exact hM
  have hv3 : -1 ≤ (B.seen M).vote := by
    unfold BS.seen; split
    · exact Int.le_refl _
    · exact hvt
  have hsz : (B.seen M).size = B.size ∧ (B.seen M).log = B.log := by unfold BS.seen; split <;> exact ⟨rfl, rfl⟩
  rw [← hsz.2] at hl1
  rw [← hsz.1] at f4
  generalize B.seen M = C at h3 hR3 hl1 f4 hM3 hv3 ⊢
  clear hsz htk
  have kq3 := h3.keep kq hq
  have h3' := h3
  have hok := hR3.ok
  have hs := hok.small
  have hz := hok.size
  have finish : ∀ {s5 : PH} {D : BS} {Y : RS} {ns : List Msg} {K : MDen [(false, [.slice])] → W.T}, RSt s1 L1 r s5 D Y ns → Mt D Y → (∀ o s', RPost (D, ns) r L s (.slice o.1 o.2.1 o.2.2) s' → K ((o, ()), ()) s') → W.call Try.prog 60 #[.pointer (some ⟨r, 0, none⟩)] (false, [(false, [.slice])]) K s5 := fun {s5 D Y ns K} h5 hM5 hK => by
    refine W.call_of (c_rsent (up h5)) ?_
    rintro x s6 h6
    have hp := h6.post hM5
    obtain ⟨l', o', ps', rfl, _⟩ := h6
    exact ⟨((o', ()), ()), rfl, hK _ _ hp⟩
  obtain ⟨l3, o3, ps3, hRf, hms3, st3⟩ := h3
  try simp only [add_mk, Nat.zero_add]
  rw [W.ld_at kq3]
  refine ⟨(M.term, ()), rfl, ?_⟩
  simp only [W.unSome_some, add_mk, Nat.zero_add]
  refine ld_ref hRf (y := (C.term, ())) rfl ?_
  refine (W.br_iff _ _ _ _).2 ⟨fun hlt => ?_, fun hge => ?_⟩
  · have hlt : M.term < C.term := of_decide_eq_true hlt
    rw [if_pos hlt]
    refine W.join_gen (fun z s' => z = ((Addr.mk q 0 none, ()), ()) ∧ RSt s1 L1 r s' C X (if M.kind = 1 then [C.msg 2 M.from_] else [])) ?_ ?_
    rotate_left
    · intro J hJ
      rw [W.ld_at kq3]
      refine ⟨(M.kind, ()), rfl, ?_⟩
      refine (W.br_iff _ _ _ _).2 ⟨fun e => ?_, fun e => ?_⟩
      · have e : M.kind = 1 := by simpa using e
        rw [if_pos e] at hJ
        rw [W.ld_at kq3]
        refine ⟨(M.from_, ()), rfl, ?_⟩
        refine W.call_of (c_rsend h3' (by simp) { kind := 2, from_ := 0, to := M.from_, term := 0 } (t := noTri) rowE.nil (by simp [Fw.blk])) ?_
        rintro _ s4 ⟨rfl, h4⟩
        exact ⟨(), rfl, hJ _ _ ⟨rfl, h4⟩⟩
      · have e : M.kind ≠ 1 := by simpa using e
        rw [if_neg e] at hJ
        exact hJ _ _ ⟨rfl, h3'⟩
    rintro _ s4 ⟨rfl, h4⟩
    have kq4 := h4.keep kq hq
    refine W.join_gen (fun z s' => ∃ b : Bool, z = ((Addr.mk q 0 none, ()), (b, ()), ()) ∧ s' = s4 ∧ (b = true ↔ (M.kind = 3 ∨ M.kind = 5))) ?_ ?_
    rotate_left
    · intro J hJ
      try simp only [add_mk, Nat.zero_add]
      rw [W.ld_at kq4]
      refine ⟨(M.kind, ()), rfl, ?_⟩
      refine (W.br_iff _ _ _ _).2 ⟨fun e => ?_, fun e => ?_⟩
      · have e : M.kind = 3 := by simpa using e
        exact hJ _ _ ⟨true, rfl, rfl, by simp [e]⟩
      · have e : M.kind ≠ 3 := by simpa using e
        rw [W.ld_at kq4]
        refine ⟨(M.kind, ()), rfl, ?_⟩
        exact hJ _ _ ⟨_, rfl, rfl, by simp [e]⟩
    rintro _ s4 ⟨b, rfl, rfl, hb⟩
    rename_i s4
    refine (W.br_iff _ _ _ _).2 ⟨fun e => ?_, fun e => ?_⟩
    · have e : b = true := e
      have h35 := hb.1 e
      have hk1 : M.kind ≠ 1 := by omega
      rw [if_neg hk1] at h4
      have hla : C.late M = [C.toldM M.from_ false C.lst] := by unfold BS.late; rw [if_neg hk1, if_pos h35]
      rw [hla]
      have h4' := h4
      obtain ⟨l4, o4, ps4, hR4, hms4, st4⟩ := h4
      try simp only [add_mk, Nat.zero_add]
      rw [W.ld_at kq4]
      refine ⟨(M.from_, ()), rfl, ?_⟩
      refine W.callQ_of ((C.lst, ()), ()) (c_rLast hR4 hs) rfl ?_
      refine W.call_of (c_rsend h4' (by simp) { kind := 4, from_ := 0, to := M.from_, term := 0, index := C.lst } (t := noTri) rowE.nil (by simp [Fw.blk])) ?_
      rintro _ s5 ⟨rfl, h5⟩
      refine ⟨(), rfl, ?_⟩
      exact finish h5 hM3 fun o s' hp => hp
    · have e : b = false := e
      have h35 : ¬ (M.kind = 3 ∨ M.kind = 5) := fun h => by have := hb.2 h; rw [e] at this; cases this
      have hla : C.late M = if M.kind = 1 then [C.msg 2 M.from_] else [] := by unfold BS.late; rw [if_neg h35]
      rw [hla]
      exact finish h4 hM3 fun o s' hp => hp
  have hge : ¬ M.term < C.term := of_decide_eq_false hge
  rw [if_neg hge]
  rw [W.ld_at kq3]
  refine ⟨(M.kind, ()), rfl, ?_⟩
  unfold BS.does
  refine (W.br_iff _ _ _ _).2 ⟨fun e => ?_, fun e1 => ?_⟩
  · have e : M.kind = 1 := by simpa using e
    rw [if_pos e]
    rw [W.ld_at kq3]
    refine ⟨msgD M t, rfl, ?_⟩
    refine W.call_of (c_rask h3' hok hv3 (by simp) M t) ?_
    rintro _ s5 ⟨rfl, h5⟩
    refine ⟨(), rfl, ?_⟩
    exact finish h5 (hM3.asked M) fun o s' hp => hp
  have e1 : M.kind ≠ 1 := by simpa using e1
  rw [if_neg e1]
  refine (W.br_iff _ _ _ _).2 ⟨fun e => ?_, fun e2 => ?_⟩
  · have e : M.kind = 2 := by simpa using e
    rw [if_pos e]
    refine W.join_gen (fun z s' => ∃ b : Bool, z = ((Addr.mk q 0 none, ()), (b, ()), ()) ∧ s' = s3 ∧ (b = true ↔ (C.role = 1 ∧ M.good = true))) ?_ ?_
    rotate_left
    · intro J hJ
      simp only [W.unSome_some, add_mk, Nat.zero_add]
      refine ld_ref hRf (y := (C.role, ())) rfl ?_
      refine (W.br_iff _ _ _ _).2 ⟨fun e => ?_, fun e => ?_⟩
      · have e : C.role = 1 := by simpa using e
        rw [W.ld_at kq3]
        refine ⟨(M.good, ()), rfl, ?_⟩
        exact hJ _ _ ⟨M.good, rfl, rfl, by simp [e]⟩
      · have e : C.role ≠ 1 := by simpa using e
        exact hJ _ _ ⟨false, rfl, rfl, by simp [e]⟩
    rintro _ s3 ⟨b, rfl, rfl, hb⟩
    rename_i s3
    refine (W.br_iff _ _ _ _).2 ⟨fun eb => ?_, fun eb => ?_⟩
    · have eb : b = true := eb
      obtain ⟨g1, g2⟩ := hb.1 eb
      have hvo : C.voted M = ({ C with votes := C.votes.set M.from_.toNat true } : BS).counted := by unfold BS.voted; rw [if_neg (by simp [g1, g2])]
      rw [hvo]
      try simp only [add_mk, Nat.zero_add]
      rw [W.ld_at kq3]
      refine ⟨(M.from_, ()), rfl, ?_⟩
      simp only [W.unSome_some, add_mk, Nat.zero_add]
      refine (W.guard_iff _ _ _).2 ⟨by (try dsimp only); omega, ?_⟩
      refine st_hs hRf.cell (k := M.from_.toNat) (by omega) ?_ (by simp)
      have h4 := RSt.lay (B' := C) (X' := { X with has := setF X.has M.from_.toNat true }) hRf hms3 st3
      obtain ⟨s4, hs4⟩ : ∃ s4, s3.upd r (.cells (refCells C { X with has := setF X.has M.from_.toNat true } l3 o3) 78 (0, 0)) = s4 := ⟨_, rfl⟩
      rw [hs4] at h4 ⊢
      clear hs4
      have h5 : RSt s1 L1 r s4 { C with votes := C.votes.set M.from_.toNat true } { X with has := setF X.has M.from_.toNat true } [] := h4.as
      have hvl := hR3.vt g1
      have hh := hM3.has g1
      refine W.call_of (c_rcount h5 ⟨⟨hs.base0, hs.base1, hs.log1⟩, hok.base, hz, hok.id, hok.com⟩ (by show (C.votes.set _ _).length = _; rw [List.length_set]; exact hvl) (fun k hk => ?_) g1 hR3.lc (by show C.log.length + 1 ≤ _; omega) (by simp)) ?_
      · have hk : k < C.size.toNat := hk
        show setF X.has M.from_.toNat true k = (((C.votes.set M.from_.toNat true)[k]?).getD false)
        unfold setF
        by_cases e : k = M.from_.toNat
        · rw [if_pos e, e, List.getElem?_set_self (by rw [hvl]; omega)]; (first | done | rfl)
        · rw [if_neg e, List.getElem?_set_ne (fun h => e h.symm)]; exact hh k hk
      rintro _ s6 ⟨rfl, Y, h6, hM6⟩
      refine ⟨(), rfl, ?_⟩
      exact finish h6 hM6 fun o s' hp => hp
    · have eb : b = false := eb
      have hno : C.role ≠ 1 ∨ M.good = false := by
        by_cases g1 : C.role = 1
        · right
          cases hg : M.good with
          | false => rfl
          | true => have := hb.2 ⟨g1, hg⟩; rw [eb] at this; cases this
        · exact .inl g1
      have hvo : C.voted M = (C, []) := by unfold BS.voted; rw [if_pos hno]
      rw [hvo]
      exact finish h3' hM3 fun o s' hp => hp
  have e2 : M.kind ≠ 2 := by simpa using e2
  rw [if_neg e2]
  have hw1 : w.le s1 := PH.le_trans hw m1.le
  have hwL1 : ∀ y ∈ L1, w y = none := by
    intro y hy
    rcases hkn y hy with h1 | h1
    · exact hL y h1
    · cases hwy : w y with
      | none => rfl
      | some ob => have := hw y ob hwy; rw [h1] at this; cases this
  refine (W.br_iff _ _ _ _).2 ⟨fun e => ?_, fun e3 => ?_⟩
  · have e : M.kind = 3 := by simpa using e
    rw [if_pos e]
    rw [W.ld_at kq3]
    refine ⟨msgD M t, rfl, ?_⟩
    refine W.call_of (c_rentries h3' hok hR3.lc (by simp) M t hw1 hwL1 hv hll ⟨by have := f9; simp [e] at this; omega, by omega⟩ (by omega)) ?_
    rintro _ s5 ⟨rfl, h5⟩
    refine ⟨(), rfl, ?_⟩
    exact finish h5 (hM3.fed M) fun o s' hp => hp
  have e3 : M.kind ≠ 3 := by simpa using e3
  rw [if_neg e3]
  have hidx : -1 ≤ M.index := by
    have := f9
    by_cases e4 : M.kind = 4
    · simp [e4] at this; omega
    · simp [e4] at this; omega
  refine (W.br_iff _ _ _ _).2 ⟨fun e => ?_, fun e4 => ?_⟩
  · have e : M.kind = 4 := by simpa using e
    rw [if_pos e]
    rw [W.ld_at kq3]
    refine ⟨msgD M t, rfl, ?_⟩
    refine W.call_of (c_rheard h3' hok hM3 hR3.ld hR3.lc (by simp) M t (by omega) (by omega) ⟨hidx, by omega⟩) ?_
    rintro _ s5 ⟨rfl, Y, h5, hM5⟩
    refine ⟨(), rfl, ?_⟩
    exact finish h5 hM5 fun o s' hp => hp
  have e4 : M.kind ≠ 4 := by simpa using e4
  rw [if_neg e4]
  refine (W.br_iff _ _ _ _).2 ⟨fun e => ?_, fun e5 => ?_⟩
  · rw [W.ld_at kq3]
    refine ⟨msgD M t, rfl, ?_⟩
    refine W.call_of (c_rgiven h3' hok hR3.lc (by omega) (by simp) M t ⟨hidx, by omega⟩ (by omega)) ?_
    rintro _ s5 ⟨rfl, h5⟩
    refine ⟨(), rfl, ?_⟩
    exact finish h5 (hM3.given M) fun o s' hp => hp
  · have e5 : M.kind ≠ 5 := by simpa using e5
    omega
end
end Go.Proofs.Ytfpbiecmobdnnaa
end
section
set_option linter.unusedVariables false
set_option linter.unusedSimpArgs false
set_option maxHeartbeats 1000000
set_option maxRecDepth 10000
namespace Go.Proofs.Ytfpbiecmobdnnaa
open Fw Go
attribute [-simp] Fw.W.ld_iff Fw.W.st_iff
section
variable {w s0 s s1 s' : PH} {L : List Nat} {r : Nat} {B B' : BS} {X X' : RS} {ms : List Msg} {l o : Tri} {ps : List (Msg × Tri)}
theorem row_max {α : Type} {E : Enc α} {s : PH} {e : TypeId} {a : Option Addr} {n c : Nat} {xs : List α} (h : rowE E s e a n c xs) : n ≤ 9223372036854775807 := by
  obtain ⟨_, h2, h3, _⟩ := h
  have : maxLen = 9223372036854775807 := rfl
  omega
theorem c_Entries {t u : Tri} {xs : List Ent} (h : rowE entE s 39 t.1 t.2.1 t.2.2 xs) (k : rowE entE s 39 u.1 u.2.1 u.2.2 xs) :
    DCalls Try.prog 39 #[.slice t.1 t.2.1 t.2.2, .slice u.1 u.2.1 u.2.2] s fun x s' => x = .bool true ∧ s' = s := by
  obtain ⟨a, an, ac⟩ := t
  obtain ⟨d, dn, dc⟩ := u
  dsimp only at h k ⊢
  refine ok_Entries a an ac d dn dc _ s ?_
  unfold vc_Entries
  have hl := h.len
  have kl := k.len
  have hmx := row_max h
  simp only [RP_ite, RP_unSome, RP_ld, RP_ret, RP_loop, RP_guard]
  refine (W.br_iff _ _ _ _).2 ⟨fun e => ?_, fun _ => ?_⟩
  · simp at e; omega
  refine ⟨fun z s' => ∃ i : Nat, z = (((i : Int), ()), ()) ∧ i ≤ an ∧ s' = s, fun z _ => an - z.1.1.toNat, ⟨0, rfl, Nat.zero_le _, rfl⟩, ?_⟩
  rintro _ s ⟨i, rfl, hi, rfl⟩
  refine (W.br_iff _ _ _ _).2 ⟨fun hlt => ?_, fun hge => ⟨rfl, rfl⟩⟩
  have hlt : (i : Int) < (an : Int) := of_decide_eq_true hlt
  obtain ⟨x, hx⟩ : ∃ x, xs[i]? = some x := ⟨_, List.getElem?_eq_getElem (by omega)⟩
  obtain ⟨g, rfl, hh⟩ := h.at hx
  obtain ⟨g2, rfl, kh⟩ := k.at hx
  refine (W.guard_iff _ _ _).2 ⟨by (try dsimp only); omega, ?_⟩
  simp only [W.unSome_some, add_mk, Nat.zero_add, Int.toNat_natCast]
  have hh' : s.has ⟨g, i * 4, none⟩ (entE.f x) := hh
  have kh' : s.has ⟨g2, i * 4, none⟩ (entE.f x) := kh
  refine ld_has_z hh' (y := (x.term, x.at_, x.born, x.text, ())) rfl ?_
  refine (W.guard_iff _ _ _).2 ⟨by (try dsimp only); omega, ?_⟩
  simp only [W.unSome_some, add_mk, Nat.zero_add, Int.toNat_natCast]
  refine ld_has_z kh' (y := (x.term, x.at_, x.born, x.text, ())) rfl ?_
  have hw : IntKind.i64.wrap ((i : Int) + 1) = ((i + 1 : Nat) : Int) := by rw [wrap_in (by omega) (by omega)]; simp
  refine (W.br_iff _ _ _ _).2 ⟨fun e => ?_, fun e => ?_⟩
  · simp at e
  · try dsimp only
    rw [hw]
    exact ⟨⟨i + 1, rfl, by omega, rfl⟩, by simp only [Int.toNat_natCast]; omega⟩
theorem c_SameMsg (M : Msg) {t u : Tri} (h : rowE entE s 39 t.1 t.2.1 t.2.2 M.list) (k : rowE entE s 39 u.1 u.2.1 u.2.2 M.list) :
    DCalls Try.prog 36 #[msgV M t, msgV M u] s (ValPost (.bool true) s) := by
  refine ok_SameMsg M.kind M.from_ M.to M.term M.index M.prev M.commit M.good t.1 t.2.1 t.2.2 M.snap M.kind M.from_ M.to M.term M.index M.prev M.commit M.good u.1 u.2.1 u.2.2 M.snap _ s ?_
  unfold vc_SameMsg
  simp only [RP_nw]
  refine W.nw_of fun q s1 hq m1 k1 => ?_
  refine W.nw_of fun q2 s2 hq2 m2 k2 => ?_
  have k1 := m2.at k1 (by simp)
  have m12 := m1.trans m2
  simp [W.ld_at k1, W.ld_at k2, W.br_iff]
  refine W.call_of (c_Entries (t := t) (u := u) (h.mod m12 (by simp)) (k.mod m12 (by simp))) ?_
  rintro _ _ ⟨rfl, rfl⟩
  exact ⟨((true, ()), ()), rfl, rfl, m12⟩
theorem c_Same {t u : Tri} {ps qs : List (Msg × Tri)} (h : Msgs s t ps) (k : Msgs s u qs) (he : ps.map (·.1) = qs.map (·.1)) :
    DCalls Try.prog 15 #[.slice t.1 t.2.1 t.2.2, .slice u.1 u.2.1 u.2.2] s (ValPost (.bool true) s) := by
  obtain ⟨a, an, ac⟩ := t
  obtain ⟨d, dn, dc⟩ := u
  refine ok_Same a an ac d dn dc _ s ?_
  unfold vc_Same
  have hl := h.row.len
  have kl := k.row.len
  have hmx := row_max h.row
  have hel : ps.length = qs.length := by have := congrArg List.length he; simpa using this
  dsimp only at hl kl hmx
  simp only [RP_ite, RP_unSome, RP_ld, RP_ret, RP_loop, RP_guard, RP_call]
  refine (W.br_iff _ _ _ _).2 ⟨fun e => ?_, fun _ => ?_⟩
  · simp at e; omega
  refine ⟨fun z s' => ∃ i : Nat, z = (((i : Int), ()), ()) ∧ i ≤ an ∧ Fw.Mod [] s s', fun z _ => an - z.1.1.toNat, ⟨0, rfl, Nat.zero_le _, Mod.refl _ _⟩, ?_⟩
  rintro _ s1 ⟨i, rfl, hi, m1⟩
  have h1 := h.mod m1 (by simp)
  have k1 := k.mod m1 (by simp)
  refine (W.br_iff _ _ _ _).2 ⟨fun hlt => ?_, fun hge => ⟨rfl, m1⟩⟩
  have hlt : (i : Int) < (an : Int) := of_decide_eq_true hlt
  obtain ⟨⟨M, tx⟩, hx⟩ : ∃ x, ps[i]? = some x := ⟨_, List.getElem?_eq_getElem (by omega)⟩
  obtain ⟨⟨M2, ux⟩, hy⟩ : ∃ x, qs[i]? = some x := ⟨_, List.getElem?_eq_getElem (by omega)⟩
  have hM : M = M2 := by
    have := congrArg (fun l => l[i]?) he
    simp [hx, hy] at this; exact this
  subst hM
  obtain ⟨g, hg, hh⟩ := h1.row.at hx
  obtain ⟨g2, hg2, kh⟩ := k1.row.at hy
  dsimp only at hg hg2
  subst hg hg2
  refine (W.guard_iff _ _ _).2 ⟨by (try dsimp only); omega, ?_⟩
  simp only [W.unSome_some, add_mk, Nat.zero_add, Int.toNat_natCast]
  have hh' : s1.has ⟨g, i * 10, none⟩ (rmE.f (M, tx)) := hh
  have kh' : s1.has ⟨g2, i * 10, none⟩ (rmE.f (M, ux)) := kh
  refine ld_has_z hh' (y := msgD M tx) rfl ?_
  refine (W.guard_iff _ _ _).2 ⟨by (try dsimp only); omega, ?_⟩
  simp only [W.unSome_some, add_mk, Nat.zero_add, Int.toNat_natCast]
  refine ld_has_z kh' (y := msgD M ux) rfl ?_
  have hw : IntKind.i64.wrap ((i : Int) + 1) = ((i + 1 : Nat) : Int) := by rw [wrap_in (by omega) (by omega)]; simp
  refine W.call_of (c_SameMsg M (t := tx) (u := ux) (h1.lists _ (List.mem_of_getElem? hx)) (k1.lists _ (List.mem_of_getElem? hy))) ?_
  rintro _ s2 ⟨rfl, m2⟩
  refine ⟨((true, ()), ()), rfl, ?_⟩
  refine (W.br_iff _ _ _ _).2 ⟨fun e => (by cases e), fun _ => ?_⟩
  try dsimp only
  rw [hw]
  exact ⟨⟨i + 1, rfl, by omega, m1.trans m2⟩, by simp only [Int.toNat_natCast]; omega⟩
theorem c_SameDelta (D : Dl) {t u : Tri} (h : rowE entE s 39 t.1 t.2.1 t.2.2 D.list) (k : rowE entE s 39 u.1 u.2.1 u.2.2 D.list) :
    DCalls Try.prog 19 #[dlV D t, dlV D u] s (ValPost (.bool true) s) := by
  refine ok_SameDelta D.term D.vote D.whole D.base D.baseTerm D.snap D.from_ t.1 t.2.1 t.2.2 D.term D.vote D.whole D.base D.baseTerm D.snap D.from_ u.1 u.2.1 u.2.2 _ s ?_
  unfold vc_SameDelta
  simp only [RP_nw]
  refine W.nw_of fun q s1 hq m1 k1 => ?_
  refine W.nw_of fun q2 s2 hq2 m2 k2 => ?_
  have k1 := m2.at k1 (by simp)
  have m12 := m1.trans m2
  simp [W.ld_at k1, W.ld_at k2, W.br_iff]
  refine W.call_of (c_Entries (t := t) (u := u) (h.mod m12 (by simp)) (k.mod m12 (by simp))) ?_
  rintro _ _ ⟨rfl, rfl⟩
  exact ⟨((true, ()), ()), rfl, rfl, m12⟩
theorem RPost.start {R : BS × List Msg} {x : Value} {lr lo : Tri} (h : RPost R r (rL r lr lo []) s x s') (hR : Ref s0 r lr lo [] B X) (m : Fw.Mod [] s0 s) : RPost R r (rL r lr lo []) s0 x s' := by
  obtain ⟨l, o1, o, ps, X', h1, h2, h3, h4, h5, h6, h7⟩ := h
  have st : Step (rL r lr lo []) (rL r lr lo []) s0 s := ⟨m.mono (by simp), fun x hx => .inl hx⟩
  exact ⟨l, o1, o, ps, X', h1, h2, h3, h4, h5, st.trans h6, fun y hy => (h7 y hy).imp_right fun e => m.none e (by simp)⟩
def RWPost (R : BS × List Msg × Int) (r : Nat) (L : List Nat) (s : PH) (x : Value) (s' : PH) : Prop := ∃ o : Tri, x = .tuple #[o.v, .int .i64 R.2.2] ∧ RPost (R.1, R.2.1) r L s o.v s'
theorem c_want (hR : Ref s r l o [] B X) (hM : Mt B X) {z : Int} (hI : B.Inv z) (hz : 0 ≤ z ∧ z ≤ 900000) (op : OpD) (t : Tri) (hw : w.le s) (hL : ∀ y ∈ rL r l o [], w y = none) (ho : MsgIs w (msgCells op.M t) op.M t) (hll : op.M.list.length ≤ 20000) :
    DCalls Try.prog 14 #[bptr r, opV op t] s (RWPost (B.did op) r (rL r l o []) s) := by
  refine ok_want r op.kind op.a op.b op.text op.M.kind op.M.from_ op.M.to op.M.term op.M.index op.M.prev op.M.commit op.M.good t.1 t.2.1 t.2.2 op.M.snap _ s ?_
  have hRn := hI.run
  have hlen := hI.len
  have hFAR : FAR = 1099511627776 := rfl
  have ht := hI.term
  unfold vc_want
  simp only [RP_nw]
  refine W.nw_of fun q s1 hq m1 k1 => ?_
  have hR1 := hR.new m1
  have hw1 : w.le s1 := PH.le_trans hw m1.le
  have up : ∀ {R : BS × List Msg} {x : Value} {s' : PH}, RPost R r (rL r l o []) s1 x s' → RPost R r (rL r l o []) s x s' := fun h => h.start hR m1
  have fin : ∀ {R : BS × List Msg} {k : Int} {x : Value} {s' : PH}, RPost R r (rL r l o []) s1 x s' → ∃ y : Tri, x = y.v ∧ RWPost (R.1, R.2, k) r (rL r l o []) s (.tuple #[y.v, .int .i64 k]) s' := fun {R k x s'} h => by
    have h' := up h
    obtain ⟨l', o1, y, ps, X', rfl, q⟩ := h
    exact ⟨y, rfl, y, rfl, h'⟩
  unfold BS.did
  simp [W.ld_at k1, W.br_iff]
  refine ⟨fun e => ?_, fun e1 => ⟨fun e => ?_, fun e2 => ⟨fun e => ?_, fun e3 => ⟨fun e => ?_, fun e4 => ⟨fun e => ?_, fun e5 => ?_⟩⟩⟩⟩⟩
  · rw [if_pos e]
    refine W.call_of (c_rTimeout hR1 hM hRn.ok hRn.lc (by omega) (by unfold Num; omega)) ?_
    intro x s2 hp
    obtain ⟨y, rfl, q⟩ := fin (k := 0) hp
    exact ⟨((y, ()), ()), rfl, q⟩
  · rw [if_neg e1, if_pos e]
    refine W.call_of (c_rBeat hR1 hM hRn.ok fun hr => (hRn.ld hr).fed) ?_
    intro x s2 hp
    obtain ⟨y, rfl, q⟩ := fin (k := 0) hp
    exact ⟨((y, ()), ()), rfl, q⟩
  · rw [if_neg e1, if_neg e2, if_pos e]
    refine W.call_of (c_rPropose hR1 hM hRn.ok hRn.ld hRn.lc (by omega) op.a op.b op.text) ?_
    rintro _ s2 ⟨y, rfl, hp⟩
    generalize B.propose op.a op.b op.text = R at hp
    obtain ⟨y, rfl, q⟩ := fin (k := R.1) hp
    exact ⟨((R.1, ()), (y, ()), ()), rfl, q⟩
  · rw [if_neg e1, if_neg e2, if_neg e3, if_pos e]
    refine W.call_of (c_rTake hR1 hM hRn hI.vote (by omega) op.M t hw1 hL ho.view (by omega)) ?_
    intro x s2 hp
    obtain ⟨y, rfl, q⟩ := fin (k := 0) hp
    exact ⟨((y, ()), ()), rfl, q⟩
  · rw [if_neg e1, if_neg e2, if_neg e3, if_neg e4, if_pos e]
    refine W.call_of (c_rCut (RSt.start hR1) hRn.ok hRn.lc op.a op.text) ?_
    rintro _ s2 ⟨rfl, h2⟩
    refine ⟨((B.cuts op.a, ()), ()), rfl, ?_⟩
    have hM2 : Mt (B.cut op.a op.text) X := by
      unfold BS.cut; split
      · exact hM
      · exact ⟨hM.has, fun e => ⟨(hM.ld e).nx, (hM.ld e).mt⟩⟩
    have hp : RPost (B.cut op.a op.text, []) r (rL r l o []) s1 noTri.v s2 := by
      obtain ⟨l2, o2, ps2, g1, g2, g3⟩ := h2
      have : ps2 = [] := by simpa using g2
      subst this
      exact ⟨l2, o2, noTri, [], X, rfl, Msgs.nil _, rfl, g1, hM2, g3, by simp [mF, Fw.blk]⟩
    have q := up hp
    simp only [W.br_iff]
    refine ⟨fun hc => ?_, fun hc => ?_⟩
    · have hc : B.cuts op.a = true := hc
      rw [if_pos hc]; exact ⟨noTri, rfl, q⟩
    · have hc : B.cuts op.a = false := hc
      rw [hc]; exact ⟨noTri, rfl, q⟩
  · rw [if_neg e1, if_neg e2, if_neg e3, if_neg e4, if_neg e5]
    exact ⟨noTri, rfl, up (RPost.none hR1 hM)⟩
end
end Go.Proofs.Ytfpbiecmobdnnaa
end
section
set_option linter.unusedVariables false
set_option linter.unusedSimpArgs false
set_option maxHeartbeats 1000000
namespace Go.Proofs.Ytfpbiecmobdnnaa
open Fw Go
def BS.Fr (B : BS) : Prop := B.whole = false → B.base < B.from_ ∧ B.from_ ≤ B.lst + 1
theorem BS.Fr.same {B B' : BS} (h : B.Fr) (h1 : B'.base = B.base) (h2 : B'.log = B.log) (h3 : B'.from_ = B.from_) (h4 : B'.whole = B.whole) : B'.Fr := by
  intro hw
  rw [h4] at hw
  have := h hw
  have e : B'.lst = B.lst := by unfold BS.lst; rw [h1, h2]
  rw [h1, h3, e]; exact this
theorem BS.Fr.set {B : BS} (h : B.Fr) {i : Int} (h1 : B.base < i) (h2 : i ≤ B.lst + 1) (ys : List Ent) : (B.set i ys).Fr := by
  intro hw
  have hh := h hw
  have e := set_lst h1 h2 ys
  rw [e]
  show B.base < (if i < B.from_ then i else B.from_) ∧ (if i < B.from_ then i else B.from_) ≤ i - 1 + ys.length + 1
  split <;> omega
theorem BS.Fr.settled {B : BS} (h : B.Fr) (hlc : B.commit ≤ B.lst) : B.settled.1.Fr := by
  obtain ⟨c, hc, _⟩ := settled_com B hlc
  rw [hc]; exact h.same rfl rfl rfl rfl
theorem BS.Fr.counted {B : BS} (h : B.Fr) {z : Int} (hI : B.Inv z) : B.counted.1.Fr := by
  unfold BS.counted
  split
  · exact h
  · have hb := hI.run.ok.com
    have hlc := hI.run.lc
    have h2 : B.lead2.Fr := h.same rfl rfl rfl rfl
    have hl : B.lead2.lst = B.lst := rfl
    have h3 := h2.set (i := B.lst + 1) (by show B.base < _; omega) (by rw [hl]; omega) [{ noEnt with term := B.term }]
    refine h3.settled ?_
    rw [set_lst (B := B.lead2) (by show B.base < _; omega) (by rw [hl]; omega)]
    show B.commit ≤ _
    simp; omega
theorem BS.Fr.merge {B : BS} (h : B.Fr) : ∀ (xs : List Ent) (i : Int), B.base ≤ i → i ≤ B.lst → (B.merge i xs).Fr
  | [], _, _, _ => h
  | e :: xs, i, h1, h2 => by
    rw [merge_cons]
    split
    · rename_i ht
      exact BS.Fr.merge h xs (i + 1) (by omega) (termAt_le (by rw [ht]) (by omega))
    · exact h.set (by omega) (by omega) _
theorem BS.Fr.fed {B : BS} (h : B.Fr) {z : Int} (hI : B.Inv z) (M : Msg) : (B.fed M).1.Fr := by
  have hb := hI.run.ok.com
  have hlc := hI.run.lc
  have hC : ({ B with role := 0, lead := M.from_ } : BS).Fr := h.same rfl rfl rfl rfl
  unfold BS.fed
  split
  · exact h
  · dsimp only
    split
    · exact hC
    · split
      · exact hC
      · rename_i hc
        split
        · exact (BS.Fr.merge hC _ B.commit hb hlc).same rfl rfl rfl rfl
        · rename_i hge
          have hyes : B.termAt M.index = (M.prev, true) := by
            by_cases e : B.termAt M.index = (M.prev, true)
            · exact e
            · exact absurd ⟨hge, e⟩ hc
          have hil : M.index ≤ B.lst := termAt_le (by rw [hyes]) (by omega)
          exact (BS.Fr.merge hC _ M.index (by show B.base ≤ _; omega) hil).same rfl rfl rfl rfl
theorem BS.Fr.whole {B : BS} (h : B.whole = true) : B.Fr := fun e => by rw [h] at e; cases e
theorem BS.Fr.given {B : BS} (h : B.Fr) (M : Msg) : (B.given M).1.Fr := by
  unfold BS.given
  split
  · exact h
  · split
    · exact h.same rfl rfl rfl rfl
    · exact BS.Fr.whole rfl
theorem BS.Fr.asked {B : BS} (h : B.Fr) (M : Msg) : (B.asked M).1.Fr := by
  unfold BS.asked
  dsimp only
  split
  · exact h.same rfl rfl rfl rfl
  · exact h
theorem BS.Fr.voted {B : BS} (h : B.Fr) {z : Int} (hI : B.Inv z) (M : Msg) : (B.voted M).1.Fr := by
  unfold BS.voted
  split
  · exact h
  · have hb := hI.run.ok.com
    have hlc := hI.run.lc
    have h1 : ({ B with votes := B.votes.set M.from_.toNat true } : BS).Fr := h.same rfl rfl rfl rfl
    unfold BS.counted
    split
    · exact h1
    · have h2 : ({ B with votes := B.votes.set M.from_.toNat true } : BS).lead2.Fr := h1.same rfl rfl rfl rfl
      have hl : ({ B with votes := B.votes.set M.from_.toNat true } : BS).lead2.lst = B.lst := rfl
      have hl2 : ({ B with votes := B.votes.set M.from_.toNat true } : BS).lst = B.lst := rfl
      rw [hl2]
      have h3 := h2.set (i := B.lst + 1) (by show B.base < _; omega) (by rw [hl]; omega) [{ noEnt with term := B.term }]
      refine h3.settled ?_
      rw [set_lst (B := ({ B with votes := B.votes.set M.from_.toNat true } : BS).lead2) (by show B.base < _; omega) (by rw [hl]; omega)]
      show B.commit ≤ _
      simp; omega
theorem BS.Fr.heard {B : BS} (h : B.Fr) {z : Int} (hI : B.Inv z) (M : Msg) : (B.heard M).1.Fr := by
  have hlc := hI.run.lc
  unfold BS.heard
  split
  · exact h
  · dsimp only
    split
    · exact h.same rfl rfl rfl rfl
    · have h1 : (B.fedTo M.from_.toNat M.index).Fr := h.same rfl rfl rfl rfl
      have h2 := h1.settled hlc
      split
      · exact h2
      · exact h2
theorem BS.Fr.take {B : BS} (h : B.Fr) {z : Int} (hI : B.Inv z) (M : Msg) (hz : 0 ≤ z) : (B.take M).1.Fr := by
  unfold BS.take
  split
  · exact h
  · rename_i hst
    have hs : (B.seen M).Fr := by
      unfold BS.seen; split
      · exact h.same rfl rfl rfl rfl
      · exact h
    have hsI : (B.seen M).Inv z := by
      have hst : M.strange B.id B.size = false := by simpa using hst
      unfold Msg.strange at hst
      simp only [Bool.or_eq_false_iff, decide_eq_false_iff_not] at hst
      obtain ⟨f1, f2, f3, f4, f5, f6, f7, f8, f9, f10, ⟨f11, f12⟩, f13, f14⟩ := hst
      unfold BS.seen; split
      · exact Inv.turned hI ⟨by omega, by omega⟩ hz
      · exact hI
    split
    · exact hs
    · unfold BS.does
      split
      · exact hs.asked M
      · split
        · exact hs.voted hsI M
        · split
          · exact hs.fed hsI M
          · split
            · exact hs.heard hsI M
            · exact hs.given M
theorem BS.Fr.did {B : BS} (h : B.Fr) {z : Int} (hI : B.Inv z) (o : OpD) (hz : 0 ≤ z) : (B.did o).1.Fr := by
  have hb := hI.run.ok.com
  have hlc := hI.run.lc
  unfold BS.did
  split
  · unfold BS.timeout
    split
    · exact h
    · have h1 : B.stood.Fr := h.same rfl rfl rfl rfl
      exact h1.counted (Inv.stood hI)
  split
  · exact h
  split
  · unfold BS.propose
    split
    · have h1 : (B.proposed o.a o.b o.text).Fr := h.set (by omega) (Int.le_refl _) _
      refine h1.settled ?_
      have : (B.proposed o.a o.b o.text).lst = B.lst + 1 - 1 + ([(⟨B.term, o.a, o.b, o.text⟩ : Ent)].length : Int) := set_lst (by omega) (Int.le_refl _) _
      rw [this]
      show B.commit ≤ _
      simp; omega
    · exact h
  split
  · exact h.take hI o.M hz
  split
  · unfold BS.cut
    split
    · exact h
    · exact BS.Fr.whole rfl
  · exact h
theorem BS.Fr.cleaned {B : BS} (hs : B.base ≤ B.lst) : B.cleaned.Fr := fun _ => by
  show B.base < B.lst + 1 ∧ B.lst + 1 ≤ B.lst + 1
  omega
theorem BS.Fr.new (id size : Int) : (newBS id size).Fr := fun _ => ⟨by show (0 : Int) < 1; omega, by show (1 : Int) ≤ 0 + 0 + 1; omega⟩
theorem Inv.cleaned {B : BS} {z : Int} (h : B.Inv z) : B.cleaned.Inv z := by
  have hk := h.run.ok
  exact ⟨⟨⟨⟨hk.small.base0, hk.small.base1, hk.small.log1⟩, hk.base, hk.size, hk.id, hk.com⟩, h.run.lc, h.run.vt, fun hr => ⟨(h.run.ld hr).nlen, (h.run.ld hr).mlen, (h.run.ld hr).nr, (h.run.ld hr).mr⟩⟩, h.len, h.far, h.term, h.vote⟩
end Go.Proofs.Ytfpbiecmobdnnaa
end
section
set_option linter.unusedVariables false
set_option linter.unusedSimpArgs false
set_option maxHeartbeats 2000000
set_option maxRecDepth 10000
namespace Go.Proofs.Ytfpbiecmobdnnaa
open Fw Go
attribute [-simp] Fw.W.ld_iff Fw.W.st_iff
/-- both ballots, of one's own and apart -/
structure LI (s0 s : PH) (b r : Nat) (l v n m lr lo : Tri) (B : BS) (X : RS) (z : Int) : Prop where
  bal : Bal s b l v n m B
  ref : Ref s r lr lo [] B X
  mt : Mt B X
  inv : B.Inv z
  fr : B.Fr
  mod : Fw.Mod [] s0 s
  fb : ∀ y ∈ bL b l v n m, s0 y = none
  rb : ∀ y ∈ rL r lr lo [], s0 y = none
  ap : ∀ y ∈ bL b l v n m, y ∉ rL r lr lo []
section
variable {s0 s s' : PH} {b r : Nat} {l v n m lr lo : Tri} {B : BS} {X : RS} {z : Int} {t : Tri} {ps : List (Msg × Tri)}
theorem LI.modm {M : List Nat} (h : LI s0 s b r l v n m lr lo B X z) (hm : Fw.Mod M s s') (hd : ∀ y ∈ M, y ∉ bL b l v n m ∧ y ∉ rL r lr lo [] ∧ s0 y = none) : LI s0 s' b r l v n m lr lo B X z :=
  ⟨h.bal.mod hm fun x hx hx2 => (hd x hx2).1 hx, h.ref.mod hm fun x hx hx2 => (hd x hx2).2.1 hx, h.mt, h.inv, h.fr, h.mod.fresh hm fun x hx => .inr (hd x hx).2.2, h.fb, h.rb, h.ap⟩
theorem LI.new (h : LI s0 s b r l v n m lr lo B X z) (hm : Fw.Mod [] s s') : LI s0 s' b r l v n m lr lo B X z := h.modm hm (by simp)
/-- what messages may be spoilt -/
structure Loose (s0 s : PH) (t : Tri) (ps : List (Msg × Tri)) (A : List Nat) : Prop where
  row : rowE rmE s 32 t.1 t.2.1 t.2.2 ps
  own : ∀ y ∈ Fw.blk t.1, y ∉ A
  lists : ∀ p ∈ ps, (p.2.1 = none ∧ p.2.2.1 = 0) ∨ ∃ g cur, p.2.1 = some ⟨g, 0, none⟩ ∧ s g = some (.cells cur 39 (0, 0)) ∧ p.2.2.1 * 4 ≤ cur.size ∧ p.2.2.1 ≤ 9223372036854775807 ∧ s0 g = none ∧ g ∉ A
def Lst (s : PH) (t : Tri) : Prop := (t.1 = none ∧ t.2.1 = 0) ∨ ∃ g cur, t.1 = some ⟨g, 0, none⟩ ∧ s g = some (.cells cur 39 (0, 0)) ∧ t.2.1 * 4 ≤ cur.size ∧ t.2.1 ≤ 9223372036854775807
theorem lst_of {xs : List Ent} (h : rowE entE s 39 t.1 t.2.1 t.2.2 xs) : Lst s t := by
  have hmx := row_max h
  obtain ⟨h1, h2, h3, ⟨e1, e2, e3⟩ | ⟨g, cur, e1, e2, e3, e4⟩⟩ := h
  · exact .inl ⟨e1, e2⟩
  · refine .inr ⟨g, cur, e1, e2, ?_⟩
    have : t.2.1 * 4 ≤ t.2.2 * 4 := Nat.mul_le_mul_right _ h2
    exact ⟨Nat.le_trans this e3, hmx⟩
theorem Loose.of {A : List Nat} (h : Msgs s t ps) (hf : ∀ y ∈ mF t ps, s0 y = none ∧ y ∉ A) : Loose s0 s t ps A := by
  refine ⟨h.row, fun y hy => (hf y (by simp [mF, hy])).2, fun p hp => ?_⟩
  rcases lst_of (h.lists p hp) with h1 | ⟨g, cur, e1, e2, e3, e6⟩
  · exact .inl h1
  · have hg : g ∈ mF t ps := by
      simp only [mF, List.mem_append, List.mem_flatMap]
      exact .inr ⟨p, hp, by rw [e1]; simp [Fw.blk]⟩
    exact .inr ⟨g, cur, e1, e2, e3, e6, hf g hg⟩
/-- one text spoilt -/
theorem spoil {K : W.T} {ad : Addr} {g : Nat} {cur : Array Value} {k : Nat} {x : Value} (ha : ad = ⟨g, 0, none⟩) (hg : s g = some (.cells cur 39 (0, 0))) (hk : (k + 1) * 4 ≤ cur.size) (hx : x.oneCell' = true)
    (hK : ∀ cur', cur'.size = cur.size → Fw.Mod [g] s (s.upd g (.cells cur' 39 (0, 0))) → K (s.upd g (.cells cur' 39 (0, 0)))) : W.st ((ad.add (k * 4)).add 3) [x] K s := by
  subst ha
  simp only [add_mk, Nat.zero_add]
  rw [W.st_at hg]
  refine ⟨by show k * 4 + 3 + 1 ≤ cur.size; omega, by simp, by simpa using hx, hK _ ?_ (Mod.upd (by simp))⟩
  exact setL_size _ _ _
theorem Loose.upd {A : List Nat} (h : Loose s0 s t ps A) {g : Nat} {cur cur' : Array Value} (hg : s g = some (.cells cur 39 (0, 0))) (hsz : cur'.size = cur.size) : Loose s0 (s.upd g (.cells cur' 39 (0, 0))) t ps A := by
  refine ⟨h.row.mod (Mod.upd (L := [g]) (by simp)) fun y hy hy2 => ?_, h.own, fun p hp => ?_⟩
  · simp at hy2; subst hy2
    exact row_ne2 h.row hg (by decide) hy
  · rcases h.lists p hp with h1 | ⟨g2, c2, e1, e2, e3, e6, e4, e5⟩
    · exact .inl h1
    · by_cases e : g2 = g
      · subst e
        rw [hg] at e2; cases e2
        exact .inr ⟨g2, cur', e1, PH.upd_same _ _ _, by omega, e6, e4, e5⟩
      · exact .inr ⟨g2, c2, e1, by rw [PH.upd_other _ _ e]; exact e2, e3, e6, e4, e5⟩
theorem Loose.modm {M A : List Nat} (h : Loose s0 s t ps A) (hm : Fw.Mod M s s') (hM : ∀ y ∈ M, y ∈ A) : Loose s0 s' t ps A :=
  ⟨h.row.mod hm fun y hy hy2 => h.own y hy (hM y hy2), h.own, fun p hp => (h.lists p hp).imp_right fun ⟨g, cur, e1, e2, e3, e6, e4, e5⟩ => ⟨g, cur, e1, hm.at e2 fun hx => e5 (hM g hx), e3, e6, e4, e5⟩⟩
theorem Loose.to {A A' : List Nat} (h : Loose s0 s t ps A) (hA : ∀ y ∈ A', y ∈ A ∨ s y = none) : Loose s0 s t ps A' := by
  refine ⟨h.row, fun y hy hy2 => ?_, fun p hp => (h.lists p hp).imp_right fun ⟨g, cur, e1, e2, e3, e6, e4, e5⟩ => ⟨g, cur, e1, e2, e3, e6, e4, fun hx => ?_⟩⟩
  · rcases hA y hy2 with h1 | h1
    · exact h.own y hy h1
    · exact h.row.known y hy h1
  · rcases hA g hx with h1 | h1
    · exact e5 h1
    · rw [e2] at h1; cases h1
end
abbrev opDn (o : OpD) (t : Tri) : Den [.int .i64, .int .i64, .int .i64, .str, .int .i64, .int .i64, .int .i64, .int .i64, .int .i64, .int .i64, .int .i64, .bool, .slice, .str] :=
  (o.kind, o.a, o.b, o.text, o.M.kind, o.M.from_, o.M.to, o.M.term, o.M.index, o.M.prev, o.M.commit, o.M.good, t, o.M.snap, ())
abbrev noDl : Dl := ⟨0, 0, false, 0, 0, ⟨#[]⟩, 0, []⟩
/-- a call on both -/
theorem LI.both {s0 s s1 s2 : PH} {b r : Nat} {l v n m l' v' n' m' lr lo lr' lo' : Tri} {B B' : BS} {X X' : RS} {z z' : Int} {t : Tri} {ps : List (Msg × Tri)}
    (h : LI s0 s b r l v n m lr lo B X z) (h1 : Bal s1 b l' v' n' m' B') (st1 : Step (bL b l v n m) (bL b l' v' n' m') s s1) (hm : Msgs s1 t ps) (hmf : ∀ y ∈ mF t ps, (y ∈ bL b l v n m ∨ s y = none) ∧ y ∉ bL b l' v' n' m')
    (h2 : Ref s2 r lr' lo' [] B' X') (hM : Mt B' X') (st2 : Step (rL r lr lo []) (rL r lr' lo' []) s1 s2) (hI : B'.Inv z') (hF : B'.Fr) :
    LI s0 s2 b r l' v' n' m' lr' lo' B' X' z' ∧ Msgs s2 t ps ∧ ∀ y ∈ mF t ps, s0 y = none ∧ y ∉ bL b l' v' n' m' ++ rL r lr' lo' [] := by
  have hrk := h.ref.known
  have hr1 : ∀ y ∈ rL r lr lo [], s1 y ≠ none := fun y hy e => hrk y hy (by rw [← st1.mod y (hrk y hy) fun hx => h.ap y hx hy]; exact e)
  have a1 : ∀ y ∈ bL b l' v' n' m', y ∉ rL r lr lo [] := fun y hy hy2 => by
    rcases st1.new y hy with g | g
    · exact h.ap y g hy2
    · exact hrk y hy2 g
  have a2 : ∀ y ∈ mF t ps, y ∉ rL r lr lo [] := fun y hy hy2 => by
    rcases (hmf y hy).1 with g | g
    · exact h.ap y g hy2
    · exact hrk y hy2 g
  have f1 : ∀ y ∈ bL b l' v' n' m', s0 y = none := fun y hy => by
    rcases st1.new y hy with g | g
    · exact h.fb y g
    · exact h.mod.none g (by simp)
  have m1 : Fw.Mod [] s0 s1 := h.mod.fresh st1.mod fun x hx => .inr (h.fb x hx)
  have m2 : Fw.Mod [] s0 s2 := m1.fresh st2.mod fun x hx => .inr (h.rb x hx)
  have hm2 : Msgs s2 t ps := hm.mod st2.mod a2
  have ap2 : ∀ y ∈ bL b l' v' n' m', y ∉ rL r lr' lo' [] := fun y hy hy2 => by
    rcases st2.new y hy2 with g | g
    · exact a1 y hy g
    · exact h1.known y hy g
  have b2 : Bal s2 b l' v' n' m' B' := h1.mod st2.mod a1
  refine ⟨⟨b2, h2, hM, hI, hF, m2, f1, fun y hy => ?_, ap2⟩, hm2, fun y hy => ⟨?_, ?_⟩⟩
  · rcases st2.new y hy with g | g
    · exact h.rb y g
    · exact m1.none g (by simp)
  · rcases (hmf y hy).1 with g | g
    · exact h.fb y g
    · exact h.mod.none g (by simp)
  · intro hx
    rcases List.mem_append.1 hx with hx | hx
    · exact (hmf y hy).2 hx
    · rcases st2.new y hx with g | g
      · exact a2 y hy g
      · exact hm.known y hy g
end Go.Proofs.Ytfpbiecmobdnnaa
end
section
set_option linter.unusedVariables false
set_option linter.unusedSimpArgs false
set_option maxHeartbeats 2000000
set_option maxRecDepth 10000
namespace Go.Proofs.Ytfpbiecmobdnnaa
open Fw Go
attribute [-simp] Fw.W.ld_iff Fw.W.st_iff
/-- a round of the loops over what is spoilt -/
abbrev Spl (s0 s : PH) (b r : Nat) (l v n m lr lo : Tri) (B : BS) (X : RS) (z : Int) (t : Tri) (ps : List (Msg × Tri)) : Prop :=
  LI s0 s b r l v n m lr lo B X z ∧ Loose s0 s t ps (bL b l v n m ++ rL r lr lo [])
theorem Spl.upd {s0 s : PH} {b r : Nat} {l v n m lr lo : Tri} {B : BS} {X : RS} {z : Int} {t : Tri} {ps : List (Msg × Tri)} (h : Spl s0 s b r l v n m lr lo B X z t ps) {g : Nat} {cur cur' : Array Value}
    (hg : s g = some (.cells cur 39 (0, 0))) (hsz : cur'.size = cur.size) (hA : g ∉ bL b l v n m ++ rL r lr lo []) (h0 : s0 g = none) (hm : Fw.Mod [g] s (s.upd g (.cells cur' 39 (0, 0)))) : Spl s0 (s.upd g (.cells cur' 39 (0, 0))) b r l v n m lr lo B X z t ps := by
  refine ⟨h.1.modm hm fun y hy => ?_, h.2.upd hg hsz⟩
  simp at hy; subst hy
  exact ⟨fun hx => hA (by simp [hx]), fun hx => hA (by simp [hx]), h0⟩
def BS.delQ (B : BS) : Dl := if B.touched = true then B.deltaOf else noDl
def BS.delC (B : BS) : BS := if B.touched = true then B.cleaned else B
section
variable {s0 s s' : PH} {b r : Nat} {l v n m lr lo : Tri} {B : BS} {X : RS} {z : Int} {t : Tri} {ps : List (Msg × Tri)}
theorem c_DeltaU (h : Bal s b l v n m B) (hs : B.Small) (hbs : B.base ≤ 4611686016279904256) (hf : B.Fr) : DCalls Try.prog 17 #[bptr b] s fun x s' => ∃ td : Tri, x = .tuple #[dlV B.delQ td, .bool B.touched] ∧ rowE entE s' 39 td.1 td.2.1 td.2.2 B.delQ.list ∧ Bal s' b l v n m B.delC ∧ Fw.Mod [b] s s' ∧ ∀ y ∈ Fw.blk td.1, s y = none := by
  refine (c_Delta h hs hbs hf).mono ?_
  rintro x s' (⟨e, rfl, h1, m1⟩ | ⟨e, td, rfl, h1, h2, m1, h3⟩)
  · unfold BS.delQ BS.delC
    rw [e]
    exact ⟨noTri, rfl, rowE.nil, h1, m1.mono (by simp), by simp [Fw.blk]⟩
  · unfold BS.delQ BS.delC
    rw [e]
    exact ⟨td, rfl, h1, h2, m1, h3⟩
theorem c_rDeltaU (h : Ref s r lr lo [] B X) (hs : B.Small) (hbs : B.base ≤ 4611686016279904256) (hf : B.Fr) : DCalls Try.prog 18 #[bptr r] s fun x s' => ∃ td l2 o2 : Tri, x = .tuple #[dlV B.delQ td, .bool B.touched] ∧ rowE entE s' 39 td.1 td.2.1 td.2.2 B.delQ.list ∧ Ref s' r l2 o2 [] B.delC X ∧ Step (rL r lr lo []) (rL r l2 o2 []) s s' := by
  refine (c_rDelta (RSt.start h) hs hbs hf).mono ?_
  rintro x s' (⟨e, rfl, l2, o2, ps2, h1, hp, h2⟩ | ⟨e, td, rfl, h1, ⟨l2, o2, ps2, h2, hp, h3⟩, _⟩)
  · have : ps2 = [] := by simpa using hp
    subst this
    unfold BS.delQ BS.delC
    rw [e]
    exact ⟨noTri, l2, o2, rfl, rowE.nil, h1, h2⟩
  · have : ps2 = [] := by simpa using hp
    subst this
    unfold BS.delQ BS.delC
    rw [e]
    exact ⟨td, l2, o2, rfl, h1, h2, h3⟩
def LdA (s0 s : PH) (td : Tri) (A : List Nat) : Prop := (td.1 = none ∧ td.2.1 = 0) ∨ ∃ g cur, td.1 = some ⟨g, 0, none⟩ ∧ s g = some (.cells cur 39 (0, 0)) ∧ td.2.1 * 4 ≤ cur.size ∧ td.2.1 ≤ 9223372036854775807 ∧ s0 g = none ∧ g ∉ A
theorem LdA.new {A : List Nat} {td : Tri} (h : LdA s0 s td A) (hm : Fw.Mod [] s s') : LdA s0 s' td A := h.imp_right fun ⟨g, cur, e1, e2, e3, e6, e4, e5⟩ => ⟨g, cur, e1, hm.at e2 (by simp), e3, e6, e4, e5⟩
abbrev spoilt : Value := .string (ByteArray.mk #[(115 : UInt8), (112 : UInt8), (111 : UInt8), (105 : UInt8), (108 : UInt8), (116 : UInt8)])
end
theorem c_BallotPlays {s0 : PH} (id size : Int) {a : Option Addr} {an ac : Nat} {ops : List OpD} (h : elems rdOp s0 a an ops) (hn : an ≤ 140737488355328) : DCalls Try.prog 4 #[.int .i64 id, .int .i64 size, .slice a an ac] s0 fun x s' => x = .bool true ∧ Fw.Mod [] s0 s' := by
  refine ok_BallotPlays2 id size a an ac _ s0 ?_
  unfold vc_BallotPlays2
  obtain ⟨R, hR⟩ : ∃ R : Value → PH → Prop, (fun x s' => x = .bool true ∧ Fw.Mod [] s0 s') = R := ⟨_, rfl⟩
  rw [hR]
  have hdone : ∀ s', Fw.Mod [] s0 s' → R (.bool true) s' := fun s' m => by rw [← hR]; exact ⟨rfl, m⟩
  have hnl : an = ops.length := h.1
  simp only [RP_ite, RP_ret, RP_guard, RP_loop, RP_unSome, RP_ld, RP_st, RP_call, RP_join]
  refine W.join_gen (fun z s' => Fw.Mod [] s0 s' ∧ greatB ops = false) ?_ ?_
  rotate_left
  · intro J hJ
    refine W.call_of (c_awake s0) ?_
    rintro _ s1 ⟨rfl, m1⟩
    refine ⟨((true, ()), ()), rfl, ?_⟩
    refine (W.br_iff _ _ _ _).2 ⟨fun e => (by cases e), fun _ => ?_⟩
    refine W.call_of (c_great (h.mono m1.le) hn) ?_
    rintro _ s2 ⟨rfl, m2⟩
    refine ⟨((greatB ops, ()), ()), rfl, ?_⟩
    refine (W.br_iff _ _ _ _).2 ⟨fun e => ?_, fun e => hJ _ _ ⟨m1.trans m2, e⟩⟩
    refine W.call_of (c_awake s2) ?_
    rintro _ s3 ⟨rfl, m3⟩
    exact ⟨((true, ()), ()), rfl, hdone _ ((m1.trans m2).trans m3)⟩
  rintro _ s1 ⟨m1, hgr⟩
  unfold greatB at hgr
  simp only [Bool.or_eq_false_iff, decide_eq_false_iff_not] at hgr
  obtain ⟨hg1, hg2⟩ := hgr
  refine W.call_of (c_New id size s1) ?_
  rintro _ s2 (⟨hok, b, rfl, hB, m2, hb⟩ | ⟨hno, rfl, rfl⟩)
  rotate_left
  · refine ⟨((none, ()), (1, ()), ()), rfl, ?_⟩
    refine W.call_of (c_rNew id size _) ?_
    rintro _ s3 (⟨hok, _⟩ | ⟨_, rfl, rfl⟩)
    · exact absurd hok hno
    refine ⟨((none, ()), (false, ()), ()), rfl, ?_⟩
    refine (W.br_iff _ _ _ _).2 ⟨fun _ => ?_, fun e => (by cases e)⟩
    refine (W.br_iff _ _ _ _).2 ⟨fun _ => hdone _ m1, fun e => (by cases e)⟩
  refine ⟨((some ⟨b, 0, none⟩, ()), (0, ()), ()), rfl, ?_⟩
  refine W.call_of (c_rNew id size _) ?_
  rintro _ s3 (⟨_, r, rfl, hRf, m3, hr⟩ | ⟨hno, _⟩)
  rotate_left
  · exact absurd hok hno
  refine ⟨((some ⟨r, 0, none⟩, ()), (true, ()), ()), rfl, ?_⟩
  refine (W.br_iff _ _ _ _).2 ⟨fun e => (by cases e), fun _ => ?_⟩
  have hbr : b ≠ r := ne_of_known hB.cell hr
  have i0 : LI s0 s3 b r noTri noTri noTri noTri noTri noTri (newBS id size) noRS 0 := by
    refine ⟨hB.new m3, hRf, Mt.zero rfl, Inv.new hok, BS.Fr.new id size, (m1.trans m2).trans m3, ?_, ?_, ?_⟩
    · intro y hy
      simp [bL, Fw.blk] at hy; subst hy
      exact m1.none hb (by simp)
    · intro y hy
      simp [rL, mF, Fw.blk] at hy; subst hy
      exact (m1.trans m2).none hr (by simp)
    · intro y hy
      simp [bL, Fw.blk] at hy; subst hy
      simp [rL, mF, Fw.blk]; exact hbr
  refine W.join_gen (fun z s' => z = ((some (Addr.mk b 0 none), ()), (some (Addr.mk r 0 none), ()), ()) ∧ s' = s3) ?_ ?_
  rotate_left
  · intro J hJ
    refine (W.br_iff _ _ _ _).2 ⟨fun e => (by cases e), fun _ => (W.br_iff _ _ _ _).2 ⟨fun e => (by cases e), fun _ => hJ _ _ ⟨rfl, rfl⟩⟩⟩
  rintro _ s3 ⟨rfl, rfl⟩
  rename_i s3
  refine ⟨fun z s' => ∃ (k : Nat) (l v n m lr lo : Tri) (B : BS) (X : RS), z = ((some (Addr.mk b 0 none), ()), (some (Addr.mk r 0 none), ()), ((a, an, ac), ()), ((an : Int), ()), ((k : Int), ()), ()) ∧ k ≤ an ∧ LI s0 s' b r l v n m lr lo B X (zOf ops k),
    fun z _ => an - z.2.2.2.2.1.1.toNat, ⟨0, _, _, _, _, _, _, _, _, rfl, Nat.zero_le _, by simpa [zOf, total] using i0⟩, ?_⟩
  clear i0 hbr hr m3 hRf hb m2 hB m1
  rintro _ s4 ⟨k, l, v, n, m, lr, lo, B, X, rfl, hk, hI⟩
  refine (W.br_iff _ _ _ _).2 ⟨fun hlt => ?_, fun hge => ?_⟩
  rotate_left
  · refine W.call_of (c_stands hI.bal hI.ref rfl hI.inv.run.ok.small hI.inv.run.ok.base) ?_
    rintro _ s5 ⟨rfl, m5⟩
    exact ⟨((true, ()), ()), rfl, hdone _ (hI.mod.trans m5)⟩
  have hlt : (k : Int) < (an : Int) := of_decide_eq_true hlt
  obtain ⟨o, hoi⟩ : ∃ o, ops[k]? = some o := ⟨_, List.getElem?_eq_getElem (by omega)⟩
  obtain ⟨ad, ot, rfl, hhas, hMo, hs1, hs2⟩ := op_at h hoi
  have htk := total_take_le ops k
  have htt := total_take hoi
  have htk1 := total_take_le ops (k + 1)
  have hsz : o.size = 1 + o.text.size + o.M.list.length + o.M.snap.size := rfl
  have hzb : 0 ≤ zOf ops k ∧ zOf ops k ≤ 900000 := by unfold zOf; omega
  have hz1 : zOf ops k + (2 + (o.M.list.length : Int)) ≤ zOf ops (k + 1) := by unfold zOf; omega
  have hwk : IntKind.i64.wrap ((k : Int) + 1) = ((k + 1 : Nat) : Int) := by rw [wrap_in (by omega) (by omega)]; simp
  dsimp only
  refine (W.guard_iff _ _ _).2 ⟨by omega, ?_⟩
  simp only [W.unSome_some, Int.toNat_natCast]
  refine ld_has_z (hhas.mono hI.mod.le) (y := opDn o ot) rfl ?_
  refine W.call_of (c_did hI.bal hI.inv hzb o ot (hMo.mono hI.mod.le) (by omega)) ?_
  rintro _ s5 ⟨y, rfl, t, ps, l', v', n', m', rfl, h5, st5, hms5, hps5, hmf5⟩
  refine ⟨((t, ()), ((B.did o).2.2, ()), ()), rfl, ?_⟩
  have hR5 : Ref s5 r lr lo [] B X := hI.ref.mod st5.mod fun x hx hx2 => hI.ap x hx2 hx
  have hw5 : s0.le s5 := fun x ob hx => st5.mod.at (hI.mod.le x ob hx) fun hy => by rw [hI.fb x hy] at hx; cases hx
  refine W.call_of (c_want (w := s0) hR5 hI.mt hI.inv hzb o ot hw5 hI.rb hMo (by omega)) ?_
  rintro _ s6 ⟨u, rfl, lr', lo', u', qs, X', hu, hms6, hqs6, hR6, hM6, st6, _⟩
  have hu : u = u' := by
    obtain ⟨u1, u2, u3⟩ := u
    obtain ⟨v1, v2, v3⟩ := u'
    simp [Tri.v] at hu; obtain ⟨rfl, rfl, rfl⟩ := hu; (first | done | rfl)
  subst hu
  refine ⟨((u, ()), ((B.did o).2.2, ()), ()), rfl, ?_⟩
  have hinv := (Inv.did hI.inv o hzb (by omega)).mono hz1
  have hfr := hI.fr.did hI.inv o hzb.1
  obtain ⟨hI6, hms, hfresh⟩ := hI.both h5 st5 hms5 hmf5 hR6 hM6 st6 hinv hfr
  have hpq : ps.map (·.1) = qs.map (·.1) := hps5.trans hqs6.symm
  obtain ⟨C, hC⟩ : ∃ C, (B.did o).1 = C := ⟨_, rfl⟩
  have hI6 : LI s0 s6 b r l' v' n' m' lr' lo' C X' (zOf ops (k + 1)) := by rw [← hC]; exact hI6
  have hL6 := Loose.of hms hfresh
  obtain ⟨k2, hk2⟩ : ∃ k2, (B.did o).2.2 = k2 := ⟨_, rfl⟩
  rw [hk2]
  clear hinv hfr h5 st5 hms5 hps5 hmf5 hR5 hw5 hR6 hM6 st6 hqs6 hfresh
  dsimp only
  refine W.join_gen (fun z s' => z = ((some (Addr.mk b 0 none), ()), (some (Addr.mk r 0 none), ()), opDn o ot, (t, ()), ((some ad, an, ac), ()), ((an : Int), ()), ((k : Int), ()), ()) ∧ Spl s0 s' b r l' v' n' m' lr' lo' C X' (zOf ops (k + 1)) t ps) ?_ ?_
  rotate_left
  · intro J hJ
    refine (W.br_iff _ _ _ _).2 ⟨fun e => (by simp at e), fun _ => ?_⟩
    refine W.call_of (c_Same hms hms6 hpq) ?_
    rintro _ s7 ⟨rfl, m7⟩
    refine ⟨((true, ()), ()), rfl, ?_⟩
    refine (W.br_iff _ _ _ _).2 ⟨fun e => (by cases e), fun _ => ?_⟩
    have hI7 := hI6.new m7
    refine W.call_of (c_stands hI7.bal hI7.ref rfl hI7.inv.run.ok.small hI7.inv.run.ok.base) ?_
    rintro _ s8 ⟨rfl, m8⟩
    refine ⟨((true, ()), ()), rfl, ?_⟩
    refine (W.br_iff _ _ _ _).2 ⟨fun e => (by cases e), fun _ => ?_⟩
    exact hJ _ _ ⟨rfl, hI7.new m8, (hL6.modm m7 (by simp)).modm m8 (by simp)⟩
  clear hms6 hpq hms hI6 hL6 hI
  rintro _ s7 ⟨rfl, hS⟩
  dsimp only
  refine W.join_gen (fun z s' => z = ((some (Addr.mk b 0 none), ()), (some (Addr.mk r 0 none), ()), (t, ()), ((some ad, an, ac), ()), ((an : Int), ()), ((k : Int), ()), ()) ∧ ∃ lr lo D Y, Spl s0 s' b r l' v' n' m' lr lo D Y (zOf ops (k + 1)) t ps) ?_ ?_
  rotate_left
  · intro J hJ
    refine (W.br_iff _ _ _ _).2 ⟨fun e6 => ?_, fun _ => hJ _ _ ⟨rfl, _, _, _, _, hS⟩⟩
    obtain ⟨hI, hL⟩ := hS
    have hsm := hI.inv.run.ok.small
    have hbs := hI.inv.run.ok.base
    refine W.call_of (c_DeltaU hI.bal hsm hbs hI.fr) ?_
    rintro _ s8 ⟨td, rfl, hrow, h8, m8, hf8⟩
    refine ⟨(dlD C.delQ td, (C.touched, ()), ()), rfl, ?_⟩
    have hbL : b ∈ bL b l' v' n' m' := bL_self
    have hR8 : Ref s8 r lr' lo' [] C X' := hI.ref.mod m8 fun x hx hx2 => by simp at hx2; subst hx2; exact hI.ap x hbL hx
    refine W.call_of (c_rDeltaU hR8 hsm hbs hI.fr) ?_
    rintro _ s9 ⟨tu, l2, o2, rfl, hrow9, h9, st9⟩
    refine ⟨(dlD C.delQ tu, (C.touched, ()), ()), rfl, ?_⟩
    have hM9 : Mt C.delC X' := by
      unfold BS.delC; split
      · exact ⟨hI.mt.has, fun e => ⟨(hI.mt.ld e).nx, (hI.mt.ld e).mt⟩⟩
      · exact hI.mt
    have hI9 : C.delC.Inv (zOf ops (k + 1)) := by
      unfold BS.delC; split
      · exact Inv.cleaned hI.inv
      · exact hI.inv
    have hF9 : C.delC.Fr := by
      unfold BS.delC; split
      · have := lst_def C; exact BS.Fr.cleaned (by omega)
      · exact hI.fr
    obtain ⟨hLI9, _, _⟩ := hI.both (t := noTri) (ps := []) h8 ⟨m8.mono (by simp [hbL]), fun x hx => .inl hx⟩ (Msgs.nil _) (by simp [mF, Fw.blk]) h9 hM9 st9 hI9 hF9
    have hL8 : Loose s0 s8 t ps (bL b l' v' n' m' ++ rL r lr' lo' [] ++ (bL b l' v' n' m' ++ rL r l2 o2 [])) := by
      refine (hL.modm m8 (by simp [hbL])).to fun y hy => ?_
      rcases List.mem_append.1 hy with hy | hy
      · exact .inl hy
      · rcases List.mem_append.1 hy with hy | hy
        · exact .inl (by simp [hy])
        · rcases st9.new y hy with g | g
          · exact .inl (by simp [g])
          · exact .inr g
    have hL9 : Loose s0 s9 t ps (bL b l' v' n' m' ++ rL r l2 o2 []) := (hL8.modm st9.mod (by intro y hy; simp [hy])).to fun y hy => .inl (List.mem_append_right _ hy)
    have hda : ∀ y ∈ Fw.blk td.1, y ∉ rL r lr' lo' [] := fun y hy hx => (hI.ref.known y hx) (hf8 y hy)
    have hdb : ∀ y ∈ Fw.blk td.1, y ∉ bL b l' v' n' m' ++ rL r l2 o2 [] := fun y hy hx => by
      rcases List.mem_append.1 hx with hx | hx
      · exact (hI.bal.known y hx) (hf8 y hy)
      · rcases st9.new y hx with g | g
        · exact hda y hy g
        · exact hrow.known y hy g
    have hrowd : rowE entE s9 39 td.1 td.2.1 td.2.2 C.delQ.list := hrow.mod st9.mod hda
    have hD9 : LdA s0 s9 td (bL b l' v' n' m' ++ rL r l2 o2 []) := by
      rcases lst_of hrowd with h1 | ⟨g, cur, e1, e2, e3, e6⟩
      · exact .inl h1
      · have hg : g ∈ Fw.blk td.1 := by rw [e1]; simp [Fw.blk]
        exact .inr ⟨g, cur, e1, e2, e3, e6, hI.mod.none (hf8 g hg) (by simp), hdb g hg⟩
    refine W.join_gen (fun z s' => z = ((some (Addr.mk b 0 none), ()), (some (Addr.mk r 0 none), ()), (t, ()), dlD C.delQ td, ((some ad, an, ac), ()), ((an : Int), ()), ((k : Int), ()), ()) ∧ Spl s0 s' b r l' v' n' m' l2 o2 C.delC X' (zOf ops (k + 1)) t ps ∧ LdA s0 s' td (bL b l' v' n' m' ++ rL r l2 o2 [])) ?_ ?_
    rotate_left
    · intro J2 hJ2
      refine (W.br_iff _ _ _ _).2 ⟨fun e => (by simp at e), fun _ => ?_⟩
      refine W.call_of (c_SameDelta C.delQ hrowd hrow9) ?_
      rintro _ s10 ⟨rfl, m10⟩
      refine ⟨((true, ()), ()), rfl, ?_⟩
      refine (W.br_iff _ _ _ _).2 ⟨fun e => (by cases e), fun _ => ?_⟩
      exact hJ2 _ _ ⟨rfl, ⟨hLI9.new m10, hL9.modm m10 (by simp)⟩, hD9.new m10⟩
    rintro _ s10 ⟨rfl, hS, hD⟩
    dsimp only
    refine ⟨fun z s' => ∃ j : Nat, z = ((some (Addr.mk b 0 none), ()), (some (Addr.mk r 0 none), ()), (t, ()), dlD C.delQ td, ((some ad, an, ac), ()), ((an : Int), ()), ((k : Int), ()), ((td.2.1 : Int), ()), ((j : Int), ()), ()) ∧ j ≤ td.2.1 ∧ Spl s0 s' b r l' v' n' m' l2 o2 C.delC X' (zOf ops (k + 1)) t ps ∧ LdA s0 s' td (bL b l' v' n' m' ++ rL r l2 o2 []), fun z _ => td.2.1 - z.2.2.2.2.2.2.2.2.1.1.toNat, ⟨0, rfl, Nat.zero_le _, hS, hD⟩, ?_⟩
    clear hS hD
    rintro _ s11 ⟨j, rfl, hj, hS, hD⟩
    refine (W.br_iff _ _ _ _).2 ⟨fun hjl => ?_, fun hjl => hJ _ _ ⟨rfl, _, _, _, _, hS⟩⟩
    have hjl : (j : Int) < (td.2.1 : Int) := of_decide_eq_true hjl
    dsimp only
    refine (W.guard_iff _ _ _).2 ⟨⟨by omega, hjl⟩, ?_⟩
    rcases hD with ⟨_, h0⟩ | ⟨g, cur, e1, e2, e3, e6, e4, e5⟩
    · omega
    rw [e1]
    simp only [W.unSome_some, Int.toNat_natCast]
    have hjw : IntKind.i64.wrap ((j : Int) + 1) = ((j + 1 : Nat) : Int) := by rw [wrap_in (by omega) (by omega)]; simp
    refine spoil rfl e2 (k := j) (by omega) rfl fun cur' hsz' hm' => ?_
    try dsimp only
    rw [hjw]
    refine ⟨⟨j + 1, ?_, by omega, hS.upd e2 hsz' e5 e4 hm', .inr ⟨g, cur', e1, PH.upd_same _ _ _, by omega, e6, e4, e5⟩⟩, by simp only [Int.toNat_natCast]; omega⟩
    rw [← e1]
  clear hS
  rintro _ s8 ⟨rfl, lr2, lo2, D, Y, hS⟩
  dsimp only
  refine ⟨fun z s' => ∃ i : Nat, z = ((some (Addr.mk b 0 none), ()), (some (Addr.mk r 0 none), ()), (t, ()), ((some ad, an, ac), ()), ((an : Int), ()), ((k : Int), ()), ((t.2.1 : Int), ()), ((i : Int), ()), ()) ∧ i ≤ t.2.1 ∧ Spl s0 s' b r l' v' n' m' lr2 lo2 D Y (zOf ops (k + 1)) t ps, fun z _ => t.2.1 - z.2.2.2.2.2.2.2.1.1.toNat, ⟨0, rfl, Nat.zero_le _, hS⟩, ?_⟩
  clear hS
  rintro _ s9 ⟨i, rfl, hi, hS⟩
  have hmx := row_max hS.2.row
  refine (W.br_iff _ _ _ _).2 ⟨fun hil => ?_, fun hil => ?_⟩
  rotate_left
  · dsimp only
    rw [hwk]
    exact ⟨⟨k + 1, l', v', n', m', lr2, lo2, D, Y, rfl, by omega, hS.1⟩, by simp only [Int.toNat_natCast]; omega⟩
  have hil : (i : Int) < (t.2.1 : Int) := of_decide_eq_true hil
  have htl := hS.2.row.len
  obtain ⟨p, hp⟩ : ∃ p, ps[i]? = some p := ⟨_, List.getElem?_eq_getElem (by omega)⟩
  have hw1 : IntKind.i64.wrap ((i : Int) + 1) = ((i + 1 : Nat) : Int) := by rw [wrap_in (by omega) (by omega)]; simp
  have hld : ∀ {s' : PH}, Spl s0 s' b r l' v' n' m' lr2 lo2 D Y (zOf ops (k + 1)) t ps → ∀ {K : Den [.slice] → W.T}, K (p.2, ()) s' → W.unSome t.1 (fun x => W.ld [.slice] ((x.add (i * 10)).add 8) K) s' := fun {s'} h' {K} hK => by
    obtain ⟨g, hg, hh⟩ := h'.2.row.at hp
    rw [hg]
    simp only [W.unSome_some, add_mk, Nat.zero_add]
    have hh' : s'.has ⟨g, i * 10, none⟩ (rmE.f p) := hh
    have := ld_has (j := 8) hh' (cs := [.slice]) (y := (p.2, ())) (k := K) rfl hK
    rwa [add_mk] at this
  dsimp only
  refine (W.guard_iff _ _ _).2 ⟨⟨by omega, hil⟩, ?_⟩
  simp only [Int.toNat_natCast]
  refine hld hS ?_
  refine ⟨fun z s' => ∃ j : Nat, z = ((some (Addr.mk b 0 none), ()), (some (Addr.mk r 0 none), ()), (t, ()), ((i : Int), ()), ((some ad, an, ac), ()), ((an : Int), ()), ((k : Int), ()), ((t.2.1 : Int), ()), ((i : Int), ()), ((p.2.2.1 : Int), ()), ((j : Int), ()), ()) ∧ j ≤ p.2.2.1 ∧ Spl s0 s' b r l' v' n' m' lr2 lo2 D Y (zOf ops (k + 1)) t ps, fun z _ => p.2.2.1 - z.2.2.2.2.2.2.2.2.2.2.1.1.toNat, ⟨0, rfl, Nat.zero_le _, hS⟩, ?_⟩
  clear hS
  rintro _ s10 ⟨j, rfl, hj, hS⟩
  refine (W.br_iff _ _ _ _).2 ⟨fun hjl => ?_, fun hjl => ?_⟩
  rotate_left
  · dsimp only
    rw [hw1]
    exact ⟨⟨i + 1, rfl, by omega, hS⟩, by simp only [Int.toNat_natCast]; omega⟩
  have hjl : (j : Int) < (p.2.2.1 : Int) := of_decide_eq_true hjl
  dsimp only
  refine (W.guard_iff _ _ _).2 ⟨⟨by omega, hil⟩, ?_⟩
  simp only [Int.toNat_natCast]
  refine hld hS ?_
  dsimp only
  refine (W.guard_iff _ _ _).2 ⟨⟨by omega, hjl⟩, ?_⟩
  rcases hS.2.lists p (List.mem_of_getElem? hp) with ⟨_, h0⟩ | ⟨g, cur, e1, e2, e3, e6, e4, e5⟩
  · omega
  rw [e1]
  simp only [W.unSome_some, Int.toNat_natCast]
  have hjw : IntKind.i64.wrap ((j : Int) + 1) = ((j + 1 : Nat) : Int) := by rw [wrap_in (by omega) (by omega)]; simp
  refine spoil rfl e2 (k := j) (by omega) rfl fun cur' hsz' hm' => ?_
  try dsimp only
  rw [hjw]
  exact ⟨⟨j + 1, rfl, by omega, hS.upd e2 hsz' e5 e4 hm'⟩, by simp only [Int.toNat_natCast]; omega⟩
end Go.Proofs.Ytfpbiecmobdnnaa
end
