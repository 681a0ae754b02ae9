/-
  Part 4 for the law: texts of this session's own, those parts that the claim needs, one behind the other.
  Conditions: none; it proves no statement by itself.
-/
import Derived.Test.YtcdggocbjnmeaaaGreatGroupNilK3
set_option linter.unusedVariables false
set_option linter.unusedSectionVars false
set_option linter.unusedSimpArgs false
section
set_option linter.unusedVariables false
set_option linter.unusedSimpArgs false
set_option maxHeartbeats 1000000
namespace Go.Proofs.YtcdggocbjnmeaaaGreat
open Fw Go
attribute [-simp] Fw.W.ld_iff Fw.W.st_iff
def mx (a b : Int) : Int := if b > a then b else a
def mn (a b : Int) : Int := if b < a then b else a
/-- a leader's rows -/
structure BS.Ldr (B : BS) : Prop where
  nlen : B.next.length = B.size.toNat
  mlen : B.mat.length = B.size.toNat
  nr : ∀ (i : Nat) x, B.next[i]? = some x → 0 ≤ x ∧ x ≤ B.lst + 1
  mr : ∀ (i : Nat) x, B.mat[i]? = some x → 0 ≤ x ∧ x ≤ B.lst
theorem BS.Ldr.fed {B : BS} (h : B.Ldr) : B.Fed := ⟨h.nlen, fun i nx hn => by have := (h.nr i nx hn).2; omega⟩
def BS.nx (B : BS) (f : Nat) : Int := (B.next[f]?).getD 0
def BS.mt (B : BS) (f : Nat) : Int := (B.mat[f]?).getD 0
/-- it was not fed -/
def BS.unfed (B : BS) (f : Nat) (i : Int) : BS := { B with next := B.next.set f (mx (B.mt f + 1) (mn (B.nx f - 1) (i + 1))) }
/-- it has them up to there -/
def BS.fedTo (B : BS) (f : Nat) (i : Int) : BS := { B with mat := B.mat.set f (mx (B.mt f) (mn i B.lst)), next := B.next.set f (mx (B.mt f) (mn i B.lst) + 1) }
def BS.heard (B : BS) (M : Msg) : BS × List Msg :=
  if B.role ≠ 2 then (B, []) else
  let f := M.from_.toNat
  if M.good = false then (B.unfed f M.index, [(B.unfed f M.index).feedM M.from_ ((B.unfed f M.index).nx f)])
  else
    let R := (B.fedTo f M.index).settled
    if R.1.mt f > B.mt f ∧ R.1.nx f ≤ R.1.lst then (R.1, R.2 ++ [R.1.feedM M.from_ (R.1.nx f)]) else R
theorem BS.Ldr.unfed {B : BS} (h : B.Ldr) {f : Nat} (hf : f < B.size.toNat) (i : Int) : (B.unfed f i).Ldr := by
  refine ⟨by show (B.next.set _ _).length = _; rw [List.length_set]; exact h.nlen, h.mlen, fun j x hx => ?_, h.mr⟩
  have hx : (B.next.set f (mx (B.mt f + 1) (mn (B.nx f - 1) (i + 1))))[j]? = some x := hx
  show 0 ≤ x ∧ x ≤ B.lst + 1
  rw [List.getElem?_set] at hx
  split at hx
  · split at hx
    · cases hx
      have h1 : B.mat[f]? = some (B.mt f) := by unfold BS.mt; rw [List.getElem?_eq_getElem (by rw [h.mlen]; exact hf)]; (first | done | rfl)
      have h2 : B.next[f]? = some (B.nx f) := by unfold BS.nx; rw [List.getElem?_eq_getElem (by rw [h.nlen]; exact hf)]; (first | done | rfl)
      have g1 := h.mr _ _ h1
      have g2 := h.nr _ _ h2
      unfold mx mn
      repeat' split
      all_goals omega
    · cases hx
  · exact h.nr j x hx
theorem BS.Ldr.fedTo {B : BS} (h : B.Ldr) {f : Nat} (hf : f < B.size.toNat) (i : Int) (hl : 0 ≤ B.lst) : (B.fedTo f i).Ldr := by
  have h1 : B.mat[f]? = some (B.mt f) := by unfold BS.mt; rw [List.getElem?_eq_getElem (by rw [h.mlen]; exact hf)]; (first | done | rfl)
  have g1 := h.mr _ _ h1
  have hb : 0 ≤ mx (B.mt f) (mn i B.lst) ∧ mx (B.mt f) (mn i B.lst) ≤ B.lst := by
    unfold mx mn
    repeat' split
    all_goals omega
  refine ⟨by show (B.next.set _ _).length = _; rw [List.length_set]; exact h.nlen, by show (B.mat.set _ _).length = _; rw [List.length_set]; exact h.mlen, fun j x hx => ?_, fun j x hx => ?_⟩
  · have hx : (B.next.set f (mx (B.mt f) (mn i B.lst) + 1))[j]? = some x := hx
    show 0 ≤ x ∧ x ≤ B.lst + 1
    rw [List.getElem?_set] at hx
    split at hx
    · split at hx
      · cases hx; omega
      · cases hx
    · exact h.nr j x hx
  · have hx : (B.mat.set f (mx (B.mt f) (mn i B.lst)))[j]? = some x := hx
    show 0 ≤ x ∧ x ≤ B.lst
    rw [List.getElem?_set] at hx
    split at hx
    · split at hx
      · cases hx; omega
      · cases hx
    · exact h.mr j x hx
section
variable {s : PH} {b : Nat} {l v n m : Tri} {B : BS}
/-- one message alone -/
theorem op_one {s0 s2 s3 s4 : PH} {B2 : BS} {M2 : Msg} {t' : Tri} {r : Nat} (h2 : Bal s2 b l v n m B2) {L : List Nat} (st : Step L (bL b l v n m) s0 s2) (m3 : Fw.Mod [] s2 s3) (hrow : rowE entE s3 43 t'.1 t'.2.1 t'.2.2 M2.list) (hf : ∀ y ∈ Fw.blk t'.1, s2 y = none)
    (hr : s3 r = none) (m4 : Fw.Mod [] s3 s4) (k4 : s4 r = some (.cells (msgCells M2 t').toArray 119 (0, 0))) : OpPost (B2, [M2]) b L s0 (.slice (some ⟨r, 0, none⟩) 1 1) s4 := by
  have m24 := m3.trans m4
  refine ⟨(some ⟨r, 0, none⟩, 1, 1), [(M2, t')], l, v, n, m, rfl, h2.new m24, st.trans ⟨m24.mono (by simp), fun x hx => .inl hx⟩, ⟨row_one k4 rfl, fun p hp => by simp at hp; subst hp; exact hrow.mod m4 (by simp)⟩, rfl, ?_⟩
  intro y hy
  have hy2 : s2 y = none := by
    simp [mF, Fw.blk] at hy
    rcases hy with rfl | hy
    · exact m3.none hr (by simp)
    · exact hf y (by simpa [Fw.blk] using hy)
  refine ⟨?_, fun hx => h2.known y hx hy2⟩
  by_cases hl : y ∈ L
  · exact .inl hl
  · exact .inr (st.mod.none hy2 hl)
/-- a message behind others -/
theorem push_msg2 {s1 s2 : PH} {t t' : Tri} {ps : List (Msg × Tri)} {M : Msg} (Fr : Nat → Prop) (hFr : ∀ g, s1 g = none → Fr g) (h : Msgs s1 t ps) (hf : ∀ y ∈ mF t ps, Fr y) (hrow : rowE entE s2 43 t'.1 t'.2.1 t'.2.2 M.list) (m2 : Fw.Mod [] s1 s2) (hf' : ∀ y ∈ Fw.blk t'.1, s1 y = none) (hc : t.2.1 ≤ 1000)
    {K : Option Addr → Nat → Nat → W.T} (hK : ∀ a n c s', Msgs s' (a, n, c) (ps ++ [(M, t')]) → Fw.Mod (Fw.blk t.1) s1 s' → (∀ y ∈ mF (a, n, c) (ps ++ [(M, t')]), Fr y) → K a n c s') :
    W.nw (.cells (msgCells M t').toArray 119 (0, 0)) (fun r => W.app 119 10 104 zeroMsg t.1 t.2.1 t.2.2 (.sl (some ⟨r, 0, none⟩) 1) K) s2 := by
  refine W.nw_of fun r s3 hr m3 k3 => ?_
  have m23 := m2.trans m3
  have hms : Msgs s3 (some ⟨r, 0, none⟩, 1, 1) [(M, t')] := ⟨row_one k3 rfl, fun p hp => by simp at hp; subst hp; exact hrow.mod m3 (by simp)⟩
  have hd : ∀ y ∈ mF (some ⟨r, 0, none⟩, 1, 1) [(M, t')], s1 y = none := by
    intro y hy
    simp [mF, Fw.blk] at hy
    rcases hy with rfl | hy
    · exact m2.none hr (by simp)
    · exact hf' y (by simpa [Fw.blk] using hy)
  exact app_msgs Fr (fun g hg => hFr g (m23.none hg (by simp))) (h.mod m23 (by simp)) hms hf (fun y hy => hFr y (hd y hy)) (fun y hy hy' => (h.known y (by simp [mF, hy'])) (hd y hy)) h.apart hc (by show 1 ≤ 1000; omega)
    fun a n c s' g1 g2 g3 => hK a n c s' g1 ((m23.mono (by simp)).trans g3) g2
theorem c_heard (h : Bal s b l v n m B) (hok : B.Ok) (hL : B.role = 2 → B.Ldr) (hlc : B.commit ≤ B.lst) (M : Msg) (t : Tri) (hf0 : 0 ≤ M.from_) (hf1 : M.from_ < B.size) (hi : -1 ≤ M.index ∧ M.index ≤ FAR) :
    DCalls Tryz.prog 96 #[bptr b, msgV M t] s (OpPost (B.heard M) b (bL b l v n m) s) := by
  refine ok_heard b M.kind M.from_ M.to M.term M.index M.prev M.commit M.good t.1 t.2.1 t.2.2 M.snap _ s ?_
  unfold vc_heard
  simp only [RP_nw]
  refine W.nw_of fun r s1 hr m1 k1 => ?_
  have h1 := h.new m1
  have hb1 := h1.cell
  have hbr : b ≠ r := ne_of_known h.cell hr
  have st1 : Step (bL b l v n m) (bL b l v n m) s s1 := ⟨m1.mono (by simp), fun x hx => .inl hx⟩
  have hs := hok.small
  obtain ⟨q1, q2, q3⟩ := id hs
  have hnl := num_lst hs hok.base
  unfold Num at hnl
  unfold FAR at hi
  simp [W.ld_at hb1, W.ld_at k1, W.br_iff, -W.nw_iff]
  refine ⟨fun hrole => ?_, fun hrole => ?_⟩
  · have : B.heard M = (B, []) := by unfold BS.heard; rw [if_pos hrole]
    rw [this]; exact OpPost.noMsgs h1 st1
  have hL := hL hrole
  obtain ⟨f, hf⟩ : ∃ f : Nat, M.from_ = f := ⟨M.from_.toNat, by omega⟩
  have hfs : f < B.size.toNat := by omega
  have hnx : B.next[f]? = some (B.nx f) := by unfold BS.nx; rw [List.getElem?_eq_getElem (by rw [hL.nlen]; exact hfs)]; (first | done | rfl)
  have hmt : B.mat[f]? = some (B.mt f) := by unfold BS.mt; rw [List.getElem?_eq_getElem (by rw [hL.mlen]; exact hfs)]; (first | done | rfl)
  have gn := hL.nr _ _ hnx
  have gm := hL.mr _ _ hmt
  have hnn := h1.next.len
  have hmn := h1.mat.len
  obtain ⟨g, hg, hgm, hhas, hst⟩ := h1.getNext hnx
  obtain ⟨g2, hg2, hgm2, hhas2, hst2⟩ := h1.getMat hmt
  have hn1 := hL.nlen
  have hm1 := hL.mlen
  refine ⟨fun hgood => ?_, fun hgood => ?_⟩
  · rw [hf]
    refine ⟨by omega, ?_⟩
    rw [hg2]
    simp only [W.unSome_some, add_mk, Nat.zero_add, Int.toNat_natCast]
    refine ld_has_z hhas2 (cs := [.int .i64]) (y := (B.mt f, ())) rfl ?_
    simp [W.ld_at hb1, -W.nw_iff]
    refine ⟨by omega, ?_⟩
    rw [hg]
    simp only [W.unSome_some, add_mk, Nat.zero_add]
    refine ld_has_z hhas (cs := [.int .i64]) (y := (B.nx f, ())) rfl ?_
    simp [W.ld_at k1, -W.nw_iff]
    refine ⟨by omega, ?_⟩
    have e1 : IntKind.i64.wrap (M.index + 1) = M.index + 1 := wrap_in (by omega) (by omega)
    have e2 : IntKind.i64.wrap (B.nx f - 1) = B.nx f - 1 := wrap_in (by omega) (by omega)
    have e3 : IntKind.i64.wrap (B.mt f + 1) = B.mt f + 1 := wrap_in (by omega) (by omega)
    rw [e1, e2, e3]
    have e4 : (if B.mt f + 1 < (if M.index + 1 < B.nx f - 1 then M.index + 1 else B.nx f - 1) then (if M.index + 1 < B.nx f - 1 then M.index + 1 else B.nx f - 1) else B.mt f + 1) = mx (B.mt f + 1) (mn (B.nx f - 1) (M.index + 1)) := by unfold mx mn; (first | done | rfl)
    rw [e4]
    refine hst _ _ fun s2 h2 m2 => ?_
    have h2 : Bal s2 b l v n m (B.unfed f M.index) := h2
    have hL2 := hL.unfed hfs M.index
    have st2 : Step (bL b l v n m) (bL b l v n m) s s2 := st1.trans ⟨m2.mono (by simpa using hgm), fun x hx => .inl hx⟩
    have hnx2 : (B.unfed f M.index).next[f]? = some ((B.unfed f M.index).nx f) := by unfold BS.nx; rw [List.getElem?_eq_getElem (by rw [hL2.nlen]; exact hfs)]; (first | done | rfl)
    have hh : B.heard M = (B.unfed f M.index, [(B.unfed f M.index).feedM M.from_ ((B.unfed f M.index).nx f)]) := by
      unfold BS.heard
      rw [if_neg (by simp [hrole])]
      simp only [hgood, if_true, hf, Int.toNat_natCast]
    rw [hh, hf]
    have hs2 : (B.unfed f M.index).Small := ⟨q1, q2, q3⟩
    have hbb : (B.unfed f M.index).base ≤ 4611686016279904256 := hok.base
    generalize B.unfed f M.index = B2 at h2 hL2 hnx2 hs2 hbb
    refine W.call_of (c_feed h2 hs2 hbb hnx2 (hL2.fed.rng f _ hnx2)) ?_
    rintro _ s3 ⟨t', rfl, hrow, m3, hf'⟩
    generalize B2.feedM f (B2.nx f) = M2 at hrow
    refine ⟨((M2.kind, M2.from_, M2.to, M2.term, M2.index, M2.prev, M2.commit, M2.good, t', M2.snap, ()), ()), rfl, ?_⟩
    refine W.nw_of fun r35 s4 hr4 m4 k4 => ?_
    exact op_one h2 st2 m3 hrow hf' hr4 m4 k4
  · rw [hf]
    refine ⟨by omega, ?_⟩
    rw [hg2]
    simp only [W.unSome_some, add_mk, Nat.zero_add, Int.toNat_natCast]
    refine ld_has_z hhas2 (cs := [.int .i64]) (y := (B.mt f, ())) rfl ?_
    simp [W.ld_at hb1, W.ld_at k1, -W.nw_iff]
    refine W.callQ_of ((B.lst, ()), ()) (c_last h1 hs) rfl ?_
    simp [W.ld_at hb1, W.ld_at k1, -W.nw_iff]
    refine ⟨by omega, ?_⟩
    rw [hg2]
    have e4 : (if B.mt f < (if B.lst < M.index then B.lst else M.index) then (if B.lst < M.index then B.lst else M.index) else B.mt f) = mx (B.mt f) (mn M.index B.lst) := by unfold mx mn; (first | done | rfl)
    simp only [W.unSome_some, add_mk, Nat.zero_add, e4]
    refine hst2 _ _ fun s2 h2 m2 => ?_
    have hb2 := h2.cell
    obtain ⟨g3, hg3, hgm3, hhas3, hst3⟩ := h2.getNext (f := f) (x := B.nx f) hnx
    obtain ⟨g4, hg4, hgm4, hhas4, hst4⟩ := h2.getMat (f := f) (x := mx (B.mt f) (mn M.index B.lst)) (by show (B.mat.set f _)[f]? = _; rw [List.getElem?_set_self (by omega)])
    simp [W.ld_at hb2, -W.nw_iff]
    refine ⟨by omega, ?_⟩
    rw [hg4]
    simp only [W.unSome_some, add_mk, Nat.zero_add]
    refine ld_has_z hhas4 (cs := [.int .i64]) (y := (mx (B.mt f) (mn M.index B.lst), ())) rfl ?_
    simp only [W.guard_iff]
    refine ⟨by omega, ?_⟩
    rw [hg3]
    have hb5 : 0 ≤ mx (B.mt f) (mn M.index B.lst) ∧ mx (B.mt f) (mn M.index B.lst) ≤ B.lst := by
      unfold mx mn
      repeat' split
      all_goals omega
    have e5 : IntKind.i64.wrap (mx (B.mt f) (mn M.index B.lst) + 1) = mx (B.mt f) (mn M.index B.lst) + 1 := wrap_in (by omega) (by omega)
    simp only [W.unSome_some, add_mk, Nat.zero_add, e5]
    refine hst3 _ _ fun s3 h3 m3 => ?_
    have h3 : Bal s3 b l v n m (B.fedTo f M.index) := h3
    have hL3 := hL.fedTo hfs M.index (by omega)
    have hh : B.heard M = (if (B.fedTo f M.index).settled.1.mt f > B.mt f ∧ (B.fedTo f M.index).settled.1.nx f ≤ (B.fedTo f M.index).settled.1.lst then ((B.fedTo f M.index).settled.1, (B.fedTo f M.index).settled.2 ++ [(B.fedTo f M.index).settled.1.feedM M.from_ ((B.fedTo f M.index).settled.1.nx f)]) else (B.fedTo f M.index).settled) := by
      unfold BS.heard
      rw [if_neg (by simp [hrole])]
      simp only [hgood, hf, Int.toNat_natCast, Bool.true_eq_false, if_false]
    rw [hh, hf]
    have hok3 : (B.fedTo f M.index).Ok := ⟨⟨q1, q2, q3⟩, hok.base, hok.size, hok.id, hok.com⟩
    have hlc3 : (B.fedTo f M.index).commit ≤ (B.fedTo f M.index).lst := hlc
    have hsz3 : (B.fedTo f M.index).size = B.size := rfl
    have st3 : Step (bL b l v n m) (bL b l v n m) s s3 := (st1.trans ⟨m2.mono (by simpa using hgm2), fun x hx => .inl hx⟩).trans ⟨m3.mono (by simpa using hgm3), fun x hx => .inl hx⟩
    generalize B.fedTo f M.index = B3 at h3 hL3 hok3 hlc3 hsz3
    refine W.call_of (c_settle h3 hok3 hL3.fed hL3.mlen hlc3) ?_
    rintro _ s4 ⟨t4, ps4, rfl, hms4, hps4, h4, m4, hf4⟩
    refine ⟨((t4, ()), ()), rfl, ?_⟩
    have hset : B3.settled.1.next = B3.next ∧ B3.settled.1.mat = B3.mat ∧ B3.settled.1.base = B3.base ∧ B3.settled.1.log = B3.log := by
      unfold BS.settled; split <;> exact ⟨rfl, rfl, rfl, rfl⟩
    have hlen4 := settled_len B3
    generalize hR : B3.settled = R at h4 hset hps4 hlen4
    obtain ⟨e6, e7, e8, e9⟩ := hset
    have hb4 := h4.cell
    have st4 : Step (bL b l v n m) (bL b l v n m) s s4 := st3.trans ⟨m4.mono (by simp [bL]), fun x hx => .inl hx⟩
    have hmt4 : R.1.mat[f]? = some (R.1.mt f) := by unfold BS.mt; rw [e7, List.getElem?_eq_getElem (by rw [hL3.mlen, hsz3]; exact hfs)]; (first | done | rfl)
    have hnx4 : R.1.next[f]? = some (R.1.nx f) := by unfold BS.nx; rw [e6, List.getElem?_eq_getElem (by rw [hL3.nlen, hsz3]; exact hfs)]; (first | done | rfl)
    have hl4 : R.1.lst = B3.lst := by unfold BS.lst; rw [e8, e9]
    have hs4 : R.1.Small := ⟨by rw [e8]; exact hok3.small.base0, by rw [e8]; exact hok3.small.base1, by rw [e9]; exact hok3.small.log1⟩
    have hnn4 := h4.next.len
    have hmn4 := h4.mat.len
    have hm4l := hL3.mlen
    have hn4l := hL3.nlen
    rw [e7] at hmn4
    rw [e6] at hnn4
    obtain ⟨g5, hg5, hgm5, hhas5, _⟩ := h4.getMat hmt4
    obtain ⟨g6, hg6, hgm6, hhas6, _⟩ := h4.getNext hnx4
    have htl : t4.2.1 ≤ 5 := by
      have a1 := hms4.row.len
      have a2 := congrArg List.length hps4
      simp only [List.length_map] at a2
      have := hok3.size.2
      omega
    -- the messages are new
    have hnew : ∀ y, (s3 y = none ∨ s4 y = none) → (y ∈ bL b l v n m ∨ s y = none) ∧ y ∉ bL b l v n m := by
      intro y hy
      have hn : y ∉ bL b l v n m := fun hx => by
        rcases hy with hy | hy
        · exact h3.known y hx hy
        · exact h4.known y hx hy
      refine ⟨.inr ?_, hn⟩
      rcases hy with hy | hy
      · exact st3.mod.none hy hn
      · exact st4.mod.none hy hn
    have stop : OpPost R b (bL b l v n m) s t4.v s4 := ⟨t4, ps4, l, v, n, m, rfl, h4, st4, hms4, hps4, fun y hy => hnew y (.inl (hf4 y hy))⟩
    simp [W.ld_at hb4, -W.nw_iff]
    refine ⟨by omega, ?_⟩
    rw [hg5]
    simp only [W.unSome_some, add_mk, Nat.zero_add]
    refine ld_has_z hhas5 (cs := [.int .i64]) (y := (R.1.mt f, ())) rfl ?_
    simp [W.ld_at hb4, W.br_iff, -W.nw_iff]
    refine ⟨fun hgt => ⟨by omega, ?_⟩, fun hle => ?_⟩
    · rw [hg6]
      simp only [W.unSome_some, add_mk, Nat.zero_add]
      refine ld_has_z hhas6 (cs := [.int .i64]) (y := (R.1.nx f, ())) rfl ?_
      refine W.callQ_of ((R.1.lst, ()), ()) (c_last h4 hs4) rfl ?_
      simp [W.br_iff, -W.nw_iff]
      refine ⟨fun hle => ?_, fun hgt2 => ?_⟩
      · rw [if_pos ⟨hgt, hle⟩]
        refine W.call_of (c_feed h4 hs4 (by rw [e8]; exact hok3.base) hnx4 (by omega)) ?_
        rintro _ s5 ⟨t', rfl, hrow, m5, hf'⟩
        generalize R.1.feedM f (R.1.nx f) = M2 at hrow
        refine ⟨((M2.kind, M2.from_, M2.to, M2.term, M2.index, M2.prev, M2.commit, M2.good, t', M2.snap, ()), ()), rfl, ?_⟩
        refine push_msg2 (M := M2) (fun y => (y ∈ bL b l v n m ∨ s y = none) ∧ y ∉ bL b l v n m) (fun g hg => hnew g (.inr hg)) hms4 (fun y hy => hnew y (.inl (hf4 y hy))) hrow m5 hf' (by omega) ?_
        intro a' n' c' s6 k1 k2 k3
        have hdis : ∀ x ∈ bL b l v n m, x ∉ Fw.blk t4.1 := fun x hx hx' => (hnew x (.inl (hf4 x (by simp [mF, hx'])))).2 hx
        refine ⟨(a', n', c'), ps4 ++ [(M2, t')], l, v, n, m, rfl, h4.mod k2 hdis, ?_, k1, by rw [List.map_append, hps4]; (first | done | rfl), k3⟩
        refine ⟨fun x g1 g2 => ?_, fun x hx => .inl hx⟩
        rw [k2 x ?_ ?_, st4.mod x g1 g2]
        · rw [st4.mod x g1 g2]; exact g1
        · intro hx'
          rcases (hnew x (.inl (hf4 x (by simp [mF, hx'])))).1 with a | a
          · exact g2 a
          · exact g1 a
      · rw [if_neg (by intro hc; omega)]
        exact stop
    · rw [if_neg (by intro hc; omega)]
      exact stop
end
end Go.Proofs.YtcdggocbjnmeaaaGreat
end
section
set_option linter.unusedVariables false
set_option linter.unusedSimpArgs false
set_option maxHeartbeats 1000000
namespace Go.Proofs.YtcdggocbjnmeaaaGreat
open Fw Go
attribute [-simp] Fw.W.ld_iff Fw.W.st_iff
section
variable {s : PH} {b : Nat} {l v n m : Tri} {B : BS}
theorem op_msgs {s0 s2 s3 : PH} {B2 : BS} {L : List Nat} {ms : List Msg} {x : Value} (h2 : Bal s2 b l v n m B2) (st : Step L (bL b l v n m) s0 s2) (hp : MsgsPost ms s2 x s3) : OpPost (B2, ms) b L s0 x s3 := by
  obtain ⟨t, ps, rfl, hms, hps, m3, hf⟩ := hp
  refine ⟨t, ps, l, v, n, m, rfl, h2.new m3, st.trans ⟨m3.mono (by simp), fun x hx => .inl hx⟩, hms, hps, fun y hy => ⟨?_, fun hx => h2.known y hx (hf y hy)⟩⟩
  by_cases hl : y ∈ L
  · exact .inl hl
  · exact .inr (st.mod.none (hf y hy) hl)
def BS.toldM (B : BS) (to : Int) (good : Bool) (i : Int) : Msg := { B.msg 4 to with good := good, index := i }
def BS.given (B : BS) (M : Msg) : BS × List Msg :=
  if B.role = 2 then (B, []) else
  if M.index ≤ B.commit then ({ B with role := 0, lead := M.from_ }, [B.toldM M.from_ true M.index]) else
  ({ ({ B with role := 0, lead := M.from_ }.rebase M.index M.prev M.snap (if B.termAt M.index = (M.prev, true) then B.log.drop (M.index - B.base).toNat else [])) with commit := M.index }, [B.toldM M.from_ true M.index])
theorem termAt_le {B : BS} {i : Int} (h : (B.termAt i).2 = true) (hb : B.base ≤ i) : i ≤ B.lst := by
  unfold BS.termAt at h
  split at h
  · rename_i e; unfold BS.lst; omega
  · by_cases hl : B.lst < i
    · rw [BS.entry_out (.inr hl)] at h; cases h
    · omega
def GivJ (B2 : BS) (b : Nat) (v n m : Tri) (rest : List Ent) (r : Nat) (c : Array Value) (s1 : PH) (z : MDen [(false, [.addr]), (false, [.slice])]) (s' : PH) : Prop :=
  ∃ t : Tri, z = ((Addr.mk r 0 none, ()), (t, ()), ()) ∧ rowE entE s' 43 t.1 t.2.1 t.2.2 rest ∧ (∀ y ∈ Fw.blk t.1, s1 y = none) ∧ Fw.Mod [] s1 s'
theorem c_given (h : Bal s b l v n m B) (hok : B.Ok) (hlc : B.commit ≤ B.lst) (M : Msg) (t : Tri) (hi : -1 ≤ M.index ∧ M.index ≤ FAR) :
    DCalls Tryz.prog 97 #[bptr b, msgV M t] s (OpPost (B.given M) b (bL b l v n m) s) := by
  refine ok_given b M.kind M.from_ M.to M.term M.index M.prev M.commit M.good t.1 t.2.1 t.2.2 M.snap _ s ?_
  unfold vc_given
  simp only [RP_nw]
  refine W.nw_of fun r s1 hr m1 k1 => ?_
  have h1 := h.new m1
  have hb1 := h1.cell
  have hbr : b ≠ r := ne_of_known h.cell hr
  have hs := hok.small
  obtain ⟨q1, q2, q3⟩ := id hs
  have hcb := hok.com
  unfold FAR at hi
  have st1 : Step (bL b l v n m) (bL b l v n m) s s1 := ⟨m1.mono (by simp), fun x hx => .inl hx⟩
  have k1' : ∀ o, (s1.upd b o) r = some (.cells (msgCells M t).toArray 119 (0, 0)) := fun o => upd_at k1 hbr.symm o
  simp [W.ld_at hb1, W.ld_at k1, W.br_iff, W.st_at hb1, fun o => W.ld_at (k1' o), fun o => W.still_at (k1' o)]
  refine ⟨fun hrole => ?_, fun hrole => ?_⟩
  · have : B.given M = (B, []) := by unfold BS.given; rw [if_pos hrole]
    rw [this]; exact OpPost.noMsgs h1 st1
  have hB2 : Bal (s1.upd b (.cells ({ B with role := 0, lead := M.from_ }.cells l v n m) 101 (0, 0))) b l v n m { B with role := 0, lead := M.from_ } := h1.lay
  have st2 : Step (bL b l v n m) (bL b l v n m) s (s1.upd b (.cells ({ B with role := 0, lead := M.from_ }.cells l v n m) 101 (0, 0))) := st1.trans ⟨Mod.upd (by simp [bL]), fun x hx => .inl hx⟩
  have k2 := k1' (.cells ({ B with role := 0, lead := M.from_ }.cells l v n m) 101 (0, 0))
  generalize hs2 : s1.upd b (.cells ({ B with role := 0, lead := M.from_ }.cells l v n m) 101 (0, 0)) = s2 at hB2 st2 k2
  have hs2' : { B with role := 0, lead := M.from_ }.Small := ⟨q1, q2, q3⟩
  refine ⟨fun hle => ?_, fun hgt => ?_⟩
  · have : B.given M = ({ B with role := 0, lead := M.from_ }, [B.toldM M.from_ true M.index]) := by unfold BS.given; rw [if_neg hrole, if_pos hle]
    rw [this]
    refine W.call_of (c_told hB2 M.from_ true M.index) ?_
    intro x s3 hp
    obtain ⟨t3, ps, rfl, q⟩ := hp
    refine ⟨((t3, ()), ()), rfl, ?_⟩
    exact op_msgs hB2 st2 ⟨t3, ps, rfl, q⟩
  have hg : B.given M = ({ ({ B with role := 0, lead := M.from_ }.rebase M.index M.prev M.snap (if B.termAt M.index = (M.prev, true) then B.log.drop (M.index - B.base).toNat else [])) with commit := M.index }, [B.toldM M.from_ true M.index]) := by
    unfold BS.given; rw [if_neg hrole, if_neg (by omega)]
  rw [hg]
  refine W.join_gen (GivJ { B with role := 0, lead := M.from_ } b v n m (if B.termAt M.index = (M.prev, true) then B.log.drop (M.index - B.base).toNat else []) r (msgCells M t).toArray s2) ?_ ?_
  · rintro _ s3 ⟨t3, rfl, hrow, hf3, m3⟩
    have h3 := hB2.new m3
    have k3 := m3.at k2 (by simp)
    simp [W.ld_at k3]
    refine W.call_of (c_rebase h3 M.index M.prev M.snap hrow) ?_
    rintro _ s4 ⟨rfl, h4, m4⟩
    refine ⟨(), rfl, ?_⟩
    have k4 := m4.at k3 (by simpa using hbr.symm)
    have hb4 := h4.cell
    simp [W.ld_at k4, W.st_at hb4, fun o => W.ld_at (upd_at k4 hbr.symm o)]
    have h5 : Bal (s4.upd b (.cells ({ ({ B with role := 0, lead := M.from_ }.rebase M.index M.prev M.snap (if B.termAt M.index = (M.prev, true) then B.log.drop (M.index - B.base).toNat else [])) with commit := M.index }.cells (t3.1, t3.2.1, t3.2.2) v n m) 101 (0, 0))) b (t3.1, t3.2.1, t3.2.2) v n m
        { ({ B with role := 0, lead := M.from_ }.rebase M.index M.prev M.snap (if B.termAt M.index = (M.prev, true) then B.log.drop (M.index - B.base).toNat else [])) with commit := M.index } := h4.lay
    have st5 : Step (bL b l v n m) (bL b (t3.1, t3.2.1, t3.2.2) v n m) s (s4.upd b (.cells ({ ({ B with role := 0, lead := M.from_ }.rebase M.index M.prev M.snap (if B.termAt M.index = (M.prev, true) then B.log.drop (M.index - B.base).toNat else [])) with commit := M.index }.cells (t3.1, t3.2.1, t3.2.2) v n m) 101 (0, 0))) := by
      refine st2.trans ⟨(((m3.mono (by simp)).trans (m4.mono (by simp [bL]))).updLater (.inl (by simp [bL]))), ?_⟩
      intro y hy
      simp only [bL, List.mem_cons, List.mem_append] at hy ⊢
      rcases hy with hy | hy | hy
      · exact .inl (.inl hy)
      · exact .inr (hf3 y hy)
      · exact .inl (.inr (.inr hy))
    refine W.call_of (c_told h5 M.from_ true M.index) ?_
    intro x s6 hp
    obtain ⟨t6, ps, rfl, q⟩ := hp
    refine ⟨((t6, ()), ()), rfl, ?_⟩
    exact op_msgs h5 st5 ⟨t6, ps, rfl, q⟩
  · intro J hJ
    simp [W.ld_at k2]
    refine W.call_of (c_term hB2 hs2' (i := M.index) (by unfold Num; omega)) ?_
    rintro _ s3 ⟨rfl, m3⟩
    have hte : ({ B with role := 0, lead := M.from_ } : BS).termAt M.index = B.termAt M.index := rfl
    rw [hte]
    refine ⟨(((B.termAt M.index).1, ()), ((B.termAt M.index).2, ()), ()), rfl, ?_⟩
    have k3 := m3.at k2 (by simp)
    have h3 := hB2.new m3
    have hb3 := h3.cell
    have hnone : B.termAt M.index ≠ (M.prev, true) → J ((Addr.mk r 0 none, ()), ((none, 0, 0), ()), ()) s3 := by
      intro hne
      exact hJ _ _ ⟨noTri, rfl, by rw [if_neg hne]; exact rowE.nil, by simp [Fw.blk], m3⟩
    simp [W.ld_at k3, W.ld_at hb3, W.br_iff]
    refine ⟨fun hok2 => ⟨fun hpe => ?_, fun hpn => ?_⟩, fun hno => ?_⟩
    · have hlle := termAt_le hok2 (by omega)
      have hlst : B.lst = B.base + B.log.length := rfl
      obtain ⟨k, hk⟩ : ∃ k : Nat, (M.index - B.base).toNat = k := ⟨_, rfl⟩
      have hw : IntKind.i64.wrap (M.index - B.base) = (k : Int) := by rw [wrap_in (by omega) (by omega)]; omega
      have hll := h3.log.len
      have hlc2 := h3.log.le
      have hll : l.2.1 = B.log.length := hll
      simp [hw]
      refine ⟨⟨by omega, by omega⟩, ?_⟩
      have hsrc := h3.log.src (i := k) (m := l.2.1 - k) (by omega)
      rw [List.take_of_length_le (by rw [List.length_drop, hll]; exact Nat.le_refl _)] at hsrc
      refine W.call_of (c_Clone (ys := B.log.drop k) hsrc (by rw [List.length_drop, hll]) (by omega)) ?_
      rintro _ s4 ⟨t4, rfl, _, hrow4, m4, hf4⟩
      refine ⟨((t4, ()), ()), rfl, ?_⟩
      refine hJ _ _ ⟨t4, rfl, ?_, fun y hy => m3.none (hf4 y hy) (by simp), m3.trans m4⟩
      rw [if_pos (Prod.ext hpe hok2), hk]; exact hrow4
    · exact hnone (by intro e; rw [e] at hpn; exact hpn rfl)
    · exact hnone (by intro e; rw [e] at hno; cases hno)
end
end Go.Proofs.YtcdggocbjnmeaaaGreat
end
section
set_option linter.unusedVariables false
set_option linter.unusedSimpArgs false
set_option maxHeartbeats 1000000
namespace Go.Proofs.YtcdggocbjnmeaaaGreat
open Fw Go
attribute [-simp] Fw.W.ld_iff Fw.W.st_iff
/-- entries that can be read -/
structure View (s : PH) (a : Option Addr) (n c : Nat) (xs : List Ent) : Prop where
  len : n = xs.length
  le : n ≤ c
  all : ∀ j x, xs[j]? = some x → ∃ ad, a = some ad ∧ s.has (ad.add (j * 4)) (entE.f x)
theorem View.of {s : PH} {t : Tri} {xs : List Ent} (h : rowE entE s 43 t.1 t.2.1 t.2.2 xs) : View s t.1 t.2.1 t.2.2 xs := by
  refine ⟨h.len, h.le, fun j x hx => ?_⟩
  obtain ⟨g, hg, hh⟩ := h.at hx
  exact ⟨_, hg, by rw [add_mk, Nat.zero_add]; exact hh⟩
theorem View.mono {s s' : PH} {a : Option Addr} {n c : Nat} {xs : List Ent} (h : View s a n c xs) (hm : s.le s') : View s' a n c xs :=
  ⟨h.len, h.le, fun j x hx => by obtain ⟨ad, h1, h2⟩ := h.all j x hx; exact ⟨ad, h1, h2.mono hm⟩⟩
theorem View.sub {s : PH} {a : Option Addr} {n c : Nat} {xs : List Ent} (h : View s a n c xs) {k : Nat} (hk : k ≤ n) : View s (if c = k then a else a.map (·.add (k * 4))) (n - k) (c - k) (xs.drop k) := by
  have hl := h.len
  have hc := h.le
  refine ⟨by rw [List.length_drop]; omega, by omega, fun j x hx => ?_⟩
  rw [List.getElem?_drop] at hx
  have hj := (List.getElem?_eq_some_iff.1 hx).1
  obtain ⟨ad, h1, h2⟩ := h.all _ x hx
  rw [if_neg (by omega), h1]
  refine ⟨_, rfl, ?_⟩
  have : (ad.add (k * 4)).add (j * 4) = ad.add ((k + j) * 4) := by
    rw [Nat.add_mul]
    unfold Addr.add
    by_cases e1 : k * 4 = 0 <;> by_cases e2 : j * 4 = 0 <;> simp [e1, e2, Nat.add_assoc]
  rw [this]; exact h2
theorem View.src {s : PH} {a : Option Addr} {n c : Nat} {xs : List Ent} (h : View s a n c xs) : srcIs s 4 (.sl a n) (xs.flatMap entE.f) := by
  have hl := h.len
  cases a with
  | none =>
    have : xs = [] := by
      cases xs with
      | nil => rfl
      | cons x xs => obtain ⟨ad, h1, _⟩ := h.all 0 x rfl; cases h1
    subst this
    exact ⟨rfl, by rw [hl]; (first | done | rfl)⟩
  | some ad =>
    refine ⟨by rw [flat_len, hl]; (first | done | rfl), ?_⟩
    intro i v hv
    have hi := (List.getElem?_eq_some_iff.1 hv).1
    rw [flat_len] at hi
    have hi : i < xs.length * 4 := hi
    have hq : i / 4 < xs.length := by omega
    have hx : xs[i / 4]? = some xs[i / 4] := List.getElem?_eq_getElem hq
    obtain ⟨l, r, he, hll, _, _⟩ := flat_at (E := entE) hx
    obtain ⟨ad', h1, h2⟩ := h.all _ _ hx
    cases h1
    have hlen4 : (entE.f xs[i / 4]).length = 4 := entE.len _
    have hll : l.length = i / 4 * 4 := hll
    rw [he, List.append_assoc, List.getElem?_append_right (by omega), List.getElem?_append_left (by omega), hll] at hv
    have := h2 _ _ hv
    rwa [show (ad.add (i / 4 * 4)).add (i - i / 4 * 4) = ad.add i from ?_] at this
    unfold Addr.add
    by_cases e1 : i / 4 * 4 = 0
    · have e3 : i - i / 4 * 4 = i := by omega
      simp [e1]
    · by_cases e2 : i - i / 4 * 4 = 0
      · have e3 : i / 4 * 4 = i := by omega
        simp [e2, e3]
      · have e3 : i ≠ 0 := by omega
        have e4 : i / 4 * 4 + (i - i / 4 * 4) = i := by omega
        simp [e1, e2, e3, Nat.add_assoc, e4]
/-- entries from i + 1 on are laid, from the first one on that is not there -/
def BS.merge (B : BS) (i : Int) : List Ent → BS
  | [] => B
  | e :: r => if B.termAt (i + 1) = (e.term, true) then B.merge (i + 1) r else B.set (i + 1) (e :: r)
def BS.fed (B : BS) (M : Msg) : BS × List Msg :=
  if B.role = 2 then (B, []) else
  let B1 := { B with role := 0, lead := M.from_ }
  let e := M.index + M.list.length
  if e ≤ B.commit then (B1, [B.toldM M.from_ true e]) else
  if ¬ M.index < B.commit ∧ B.termAt M.index ≠ (M.prev, true) then (B1, [B.toldM M.from_ false (mn B.lst (M.index - 1))]) else
  let B2 := if M.index < B.commit then B1.merge B.commit (M.list.drop (B.commit - M.index).toNat) else B1.merge M.index M.list
  ({ B2 with commit := mx B2.commit (mn M.commit e) }, [B.toldM M.from_ true e])
theorem merge_same (B : BS) : ∀ (L : List Ent) (i : Int), (B.merge i L).id = B.id ∧ (B.merge i L).term = B.term ∧ (B.merge i L).commit = B.commit ∧ (B.merge i L).base = B.base
  | [], _ => ⟨rfl, rfl, rfl, rfl⟩
  | e :: r, i => by
    simp only [BS.merge]
    split
    · exact merge_same B r (i + 1)
    · exact ⟨rfl, rfl, rfl, rfl⟩
section
variable {s : PH} {b : Nat} {l v n m : Tri} {B : BS}
def fedX (B : BS) (M : Msg) : List Ent := if M.index < B.commit then M.list.drop (B.commit - M.index).toNat else M.list
def fedI (B : BS) (M : Msg) : Int := if M.index < B.commit then B.commit else M.index
def FedJ (B : BS) (b : Nat) (l v n m : Tri) (M : Msg) (t0 : Tri) (r : Nat) (L : List Nat) (s0 : PH) (z : MDen [(false, [.addr]), (false, [.int .i64]), (false, [.slice]), (false, [.int .i64])]) (s' : PH) : Prop :=
  ∃ t : Tri, z = ((Addr.mk r 0 none, ()), (M.index + M.list.length, ()), (t, ()), (fedI B M, ()), ()) ∧ View s' t.1 t.2.1 t.2.2 (fedX B M) ∧ Bal s' b l v n m { B with role := 0, lead := M.from_ } ∧ Step L (bL b l v n m) s0 s' ∧
    s' r = some (.cells (msgCells M t0).toArray 119 (0, 0)) ∧ B.base ≤ fedI B M ∧ fedI B M ≤ B.lst ∧ ¬ (¬ M.index < B.commit ∧ B.termAt M.index ≠ (M.prev, true))
def FedK (B : BS) (b : Nat) (v n m : Tri) (M : Msg) (t0 : Tri) (r : Nat) (L : List Nat) (s0 : PH) (z : MDen [(false, [.addr]), (false, [.int .i64])]) (s' : PH) : Prop :=
  ∃ l' : Tri, z = ((Addr.mk r 0 none, ()), (M.index + M.list.length, ()), ()) ∧ Bal s' b l' v n m ({ B with role := 0, lead := M.from_ }.merge (fedI B M) (fedX B M)) ∧ Step L (bL b l' v n m) s0 s' ∧
    s' r = some (.cells (msgCells M t0).toArray 119 (0, 0))
def FedZ (B : BS) (b : Nat) (l v n m : Tri) (M : Msg) (t0 t : Tri) (r : Nat) (L : List Nat) (s0 : PH) (z : MDen [(false, [.addr]), (false, [.int .i64]), (false, [.slice]), (false, [.int .i64]), (false, [.slice]), (false, [.int .i64]), (false, [.int .i64])]) (s' : PH) : Prop :=
  ∃ k : Nat, z = ((Addr.mk r 0 none, ()), (M.index + M.list.length, ()), (t, ()), (fedI B M, ()), (t, ()), ((t.2.1 : Int), ()), ((k : Int), ()), ()) ∧ k ≤ t.2.1 ∧ View s' t.1 t.2.1 t.2.2 (fedX B M) ∧ Bal s' b l v n m { B with role := 0, lead := M.from_ } ∧
    Step L (bL b l v n m) s0 s' ∧ s' r = some (.cells (msgCells M t0).toArray 119 (0, 0)) ∧ fedI B M + k ≤ B.lst ∧ { B with role := 0, lead := M.from_ }.merge (fedI B M) (fedX B M) = { B with role := 0, lead := M.from_ }.merge (fedI B M + k) ((fedX B M).drop k)
theorem c_fed (h : Bal s b l v n m B) (hok : B.Ok) (hlc : B.commit ≤ B.lst) (M : Msg) (t : Tri) (hrow : rowE entE s 43 t.1 t.2.1 t.2.2 M.list) (hll : M.list.length ≤ 1000000) (hi : 0 ≤ M.index ∧ M.index ≤ FAR) :
    DCalls Tryz.prog 95 #[bptr b, msgV M t] s (OpPost (B.fed M) b (bL b l v n m) s) := by
  refine ok_fed b M.kind M.from_ M.to M.term M.index M.prev M.commit M.good t.1 t.2.1 t.2.2 M.snap _ s ?_
  unfold vc_fed
  simp only [RP_nw]
  refine W.nw_of fun r s1 hr m1 k1 => ?_
  have h1 := h.new m1
  have hb1 := h1.cell
  have hbr : b ≠ r := ne_of_known h.cell hr
  have hs := hok.small
  obtain ⟨q1, q2, q3⟩ := id hs
  have hcb := hok.com
  have hbb := hok.base
  have hlst : B.lst = B.base + B.log.length := rfl
  have hnl := num_lst hs hok.base
  unfold Num at hnl
  unfold FAR at hi
  have htn : t.2.1 = M.list.length := hrow.len
  have htc := hrow.le
  have st1 : Step (bL b l v n m) (bL b l v n m) s s1 := ⟨m1.mono (by simp), fun x hx => .inl hx⟩
  have k1' : ∀ o, (s1.upd b o) r = some (.cells (msgCells M t).toArray 119 (0, 0)) := fun o => upd_at k1 hbr.symm o
  have hwe : IntKind.i64.wrap (M.index + (t.2.1 : Int)) = M.index + M.list.length := by rw [htn, wrap_in (by omega) (by omega)]
  simp [W.ld_at hb1, W.ld_at k1, W.br_iff, W.st_at hb1, fun o => W.ld_at (k1' o), fun o => W.still_at (k1' o), hwe]
  refine ⟨fun hrole => ?_, fun hrole => ?_⟩
  · have : B.fed M = (B, []) := by unfold BS.fed; rw [if_pos hrole]
    rw [this]; exact OpPost.noMsgs h1 st1
  have hB2 : Bal (s1.upd b (.cells ({ B with role := 0, lead := M.from_ }.cells l v n m) 101 (0, 0))) b l v n m { B with role := 0, lead := M.from_ } := h1.lay
  have st2 : Step (bL b l v n m) (bL b l v n m) s (s1.upd b (.cells ({ B with role := 0, lead := M.from_ }.cells l v n m) 101 (0, 0))) := st1.trans ⟨Mod.upd (by simp [bL]), fun x hx => .inl hx⟩
  have k2 := k1' (.cells ({ B with role := 0, lead := M.from_ }.cells l v n m) 101 (0, 0))
  have hrow2 : rowE entE (s1.upd b (.cells ({ B with role := 0, lead := M.from_ }.cells l v n m) 101 (0, 0))) 43 t.1 t.2.1 t.2.2 M.list := (hrow.mod m1 (by simp)).mod (L := [b]) (Mod.upd (by simp)) fun x hx => by simp; rintro rfl; exact row_ne2 (hrow.mod m1 (by simp)) hb1 (by decide) hx
  generalize hs2 : s1.upd b (.cells ({ B with role := 0, lead := M.from_ }.cells l v n m) 101 (0, 0)) = s2 at hB2 st2 k2 hrow2
  clear hs2
  have hs2' : { B with role := 0, lead := M.from_ }.Small := ⟨q1, q2, q3⟩
  have hb2 := hB2.cell
  refine ⟨fun hle => ?_, fun hgt => ?_⟩
  · have : B.fed M = ({ B with role := 0, lead := M.from_ }, [B.toldM M.from_ true (M.index + M.list.length)]) := by unfold BS.fed; rw [if_neg hrole]; simp only [hle, if_true]
    rw [this]
    refine W.call_of (c_told hB2 M.from_ true (M.index + M.list.length)) ?_
    intro x s3 hp
    obtain ⟨t3, ps, rfl, q⟩ := hp
    refine ⟨((t3, ()), ()), rfl, ?_⟩
    exact op_msgs hB2 st2 ⟨t3, ps, rfl, q⟩
  have hgt' : ¬ M.index + (M.list.length : Int) ≤ B.commit := by omega
  refine W.join_gen (FedJ B b l v n m M t r (bL b l v n m) s) ?_ ?_
  · rintro _ s3 ⟨t3, rfl, hv3, h3, st3, k3, hI0, hI1, hc⟩
    have hxl : (fedX B M).length ≤ 1000000 := by
      unfold fedX; split
      · rw [List.length_drop]; omega
      · exact hll
    have hIn : Num (fedI B M) := by unfold Num; omega
    have hg : ¬ (¬ M.index < B.commit ∧ B.termAt M.index ≠ (M.prev, true)) → B.fed M = ({ ({ B with role := 0, lead := M.from_ }.merge (fedI B M) (fedX B M)) with commit := mx B.commit (mn M.commit (M.index + M.list.length)) }, [B.toldM M.from_ true (M.index + M.list.length)]) := by
      intro hc
      have e2 : (if M.index < B.commit then { B with role := 0, lead := M.from_ }.merge B.commit (M.list.drop (B.commit - M.index).toNat) else { B with role := 0, lead := M.from_ }.merge M.index M.list) = { B with role := 0, lead := M.from_ }.merge (fedI B M) (fedX B M) := by
        unfold fedI fedX; split <;> rfl
      unfold BS.fed; rw [if_neg hrole]; simp only [hgt', if_false]
      rw [if_neg hc]
      simp only [e2, (merge_same { B with role := 0, lead := M.from_ } (fedX B M) (fedI B M)).2.2.1]
    refine W.join_gen (FedK B b v n m M t r (bL b l v n m) s) ?_ ?_
    · rintro _ s4 ⟨l', rfl, h4, st4, k4⟩
      have hb4 := h4.cell
      obtain ⟨e1, e2, e3, e4⟩ := merge_same { B with role := 0, lead := M.from_ } (fedX B M) (fedI B M)
      have k4' : ∀ o, (s4.upd b o) r = some (.cells (msgCells M t).toArray 119 (0, 0)) := fun o => upd_at k4 hbr.symm o
      rw [hg hc]
      dsimp only at e1 e2 e3 e4
      generalize hBB : BS.merge { B with role := 0, lead := M.from_ } (fedI B M) (fedX B M) = B3 at h4 hb4 e1 e2 e3 e4 ⊢
      have hmm : (if (if M.index + (M.list.length : Int) < M.commit then M.index + (M.list.length : Int) else M.commit) > B3.commit then (if M.index + (M.list.length : Int) < M.commit then M.index + (M.list.length : Int) else M.commit) else B3.commit) = mx B.commit (mn M.commit (M.index + M.list.length)) := by rw [e3]; (first | done | rfl)
      simp [W.ld_at hb4, W.ld_at k4, W.br_iff, W.st_at hb4, fun o => W.ld_at (k4' o)]
      simp only [gt_iff_lt] at hmm
      rw [hmm]
      have h5 : Bal (s4.upd b (.cells ({ B3 with commit := mx B.commit (mn M.commit (M.index + M.list.length)) }.cells l' v n m) 101 (0, 0))) b l' v n m { B3 with commit := mx B.commit (mn M.commit (M.index + M.list.length)) } := h4.lay
      have st5 : Step (bL b l v n m) (bL b l' v n m) s (s4.upd b (.cells ({ B3 with commit := mx B.commit (mn M.commit (M.index + M.list.length)) }.cells l' v n m) 101 (0, 0))) := st4.trans ⟨Mod.upd (by simp [bL]), fun x hx => .inl hx⟩
      refine W.call_of (c_told h5 M.from_ true (M.index + M.list.length)) ?_
      intro x s6 hp
      obtain ⟨t6, ps, rfl, q⟩ := hp
      refine ⟨((t6, ()), ()), rfl, ?_⟩
      have hmsg : ({ BS.msg { B3 with commit := mx B.commit (mn M.commit (M.index + M.list.length)) } 4 M.from_ with good := true, index := M.index + M.list.length } : Msg) = B.toldM M.from_ true (M.index + M.list.length) := by
        unfold BS.toldM BS.msg; simp only [e1, e2]
      rw [← hmsg]
      exact op_msgs h5 st5 ⟨t6, ps, rfl, q⟩
    · intro J hJ
      simp only [RP_loop]
      refine ⟨FedZ B b l v n m M t t3 r (bL b l v n m) s, fun z _ => t3.2.1 - z.2.2.2.2.2.2.1.1.toNat, ⟨0, rfl, by omega, hv3, h3, st3, k3, by simpa using hI1, by simp⟩, ?_⟩
      rintro _ s4 ⟨k, rfl, hk, hv4, h4, st4, k4, hIk, hmg⟩
      have hb4 := h4.cell
      have hvl := hv4.len
      have hvc := hv4.le
      have hw12 : IntKind.i64.wrap (IntKind.i64.wrap (fedI B M + 1) + (k : Int)) = fedI B M + k + 1 := by
        unfold Num at hIn
        rw [wrap_in (n := fedI B M + 1) (by omega) (by omega), wrap_in (by omega) (by omega)]; omega
      have hwk : IntKind.i64.wrap ((k : Int) + 1) = ((k + 1 : Nat) : Int) := by rw [wrap_in (by omega) (by omega)]; simp
      simp [W.br_iff, -W.nw_iff]
      refine ⟨fun hkn => ⟨hkn, ?_⟩, fun hkn => ?_⟩
      · obtain ⟨e, he⟩ : ∃ e, (fedX B M)[k]? = some e := ⟨_, List.getElem?_eq_getElem (by omega)⟩
        obtain ⟨ad, had, hhas⟩ := hv4.all _ _ he
        have htri : (some ad, t3.2.1, t3.2.2) = t3 := by rw [← had]
        have hdrop : (fedX B M).drop k = e :: (fedX B M).drop (k + 1) := by
          have hlt := (List.getElem?_eq_some_iff.1 he).1
          rw [List.drop_eq_getElem_cons hlt, (List.getElem?_eq_some_iff.1 he).2]
        have hsub := (hv4.sub (k := k) (by omega))
        rw [had]
        simp only [W.unSome_some]
        refine ld_has_z hhas (cs := [.int .i64, .int .i64, .int .i64, .str]) (y := (e.term, e.at_, e.born, e.text, ())) rfl ?_
        refine W.nw_of fun q s5 hq m5 k5 => ?_
        simp [W.st_at k5, hw12]
        have m6 : Fw.Mod [] s4 (s5.upd q (.cells #[.int .i64 e.term, .int .i64 e.at_, .int .i64 e.born, .string e.text] 43 (0, 0))) := m5.updLater (.inr hq)
        have k6 : (s5.upd q (.cells #[.int .i64 e.term, .int .i64 e.at_, .int .i64 e.born, .string e.text] 43 (0, 0))) q = some (.cells #[.int .i64 e.term, .int .i64 e.at_, .int .i64 e.born, .string e.text] 43 (0, 0)) := PH.upd_same _ _ _
        generalize s5.upd q (.cells #[.int .i64 e.term, .int .i64 e.at_, .int .i64 e.born, .string e.text] 43 (0, 0)) = s6 at m6 k6 ⊢
        have h6 := h4.new m6
        refine W.call_of (c_term h6 hs2' (i := fedI B M + k + 1) (by unfold Num at hIn ⊢; omega)) ?_
        rintro _ s7 ⟨rfl, m7⟩
        have hte : ({ B with role := 0, lead := M.from_ } : BS).termAt (fedI B M + k + 1) = B.termAt (fedI B M + k + 1) := rfl
        rw [hte]
        generalize hT : B.termAt (fedI B M + k + 1) = T at hte ⊢
        obtain ⟨T1, T2⟩ := T
        refine ⟨((T1, ()), (T2, ()), ()), rfl, ?_⟩
        have m67 := m6.trans m7
        have h7 := h4.new m67
        have k7 := m7.at k6 (by simp)
        have kr7 := m67.at k4 (by simp)
        have hv7 : View s7 (if t3.2.2 = k then some ad else some (ad.add (k * 4))) (t3.2.1 - k) (t3.2.2 - k) ((fedX B M).drop k) := by
          have := hsub.mono m67.le
          rw [had] at this; exact this
        have st7 : Step (bL b l v n m) (bL b l v n m) s s7 := st4.trans ⟨m67.mono (by simp), fun x hx => .inl hx⟩
        have hset : (T1, T2) ≠ (e.term, true) → ∀ (x : Value) (s8 : PH), SetPost ({ B with role := 0, lead := M.from_ }.set (fedI B M + k + 1) ((fedX B M).drop k)) b l v n m s7 x s8 → x = .tuple #[] ∧ J ((Addr.mk r 0 none, ()), (M.index + M.list.length, ()), ()) s8 := by
          rintro hne x s8 ⟨l', rfl, h8, st8⟩
          refine ⟨rfl, hJ _ _ ⟨l', rfl, ?_, st7.trans st8, ?_⟩⟩
          · rw [hmg, hdrop]
            simp only [BS.merge]
            rw [hte, if_neg hne, ← hdrop]; exact h8
          · exact st8.mod.at kr7 (fun hx => by
              have hh := h7.log
              simp only [bL, List.mem_cons, List.mem_append] at hx
              rcases hx with hx | hx | hx | hx | hx
              · exact hbr hx.symm
              · exact row_ne2 h7.log kr7 (by decide) hx
              · exact row_ne2 h7.votes kr7 (by decide) hx
              · exact row_ne2 h7.next kr7 (by decide) hx
              · exact row_ne2 h7.mat kr7 (by decide) hx)
        simp [W.br_iff, W.ld_at k7]
        have hcall : ∀ (R : Value → PH → Prop), (∀ x s8, SetPost ({ B with role := 0, lead := M.from_ }.set (fedI B M + k + 1) ((fedX B M).drop k)) b l v n m s7 x s8 → R x s8) → DCalls Tryz.prog 73 #[bptr b, .int .i64 (fedI B M + k + 1), .slice (if t3.2.2 = k then some ad else some (ad.add (k * 4))) (t3.2.1 - k) (t3.2.2 - k)] s7 R := by
          intro R hR
          refine (c_set h7 hs2' (i := fedI B M + k + 1) ?_ ?_ hv7.src (by rw [List.length_drop]; omega) (by omega)).mono hR
          · show B.base < _; omega
          · show _ ≤ B.lst + 1; omega
        refine ⟨fun h0 => ⟨⟨by omega, by omega⟩, ?_⟩, fun h1 => ⟨fun hne => ⟨⟨by omega, by omega⟩, ?_⟩, fun heq => ⟨⟨k + 1, ?_, by omega, hv4.mono m67.le, h7, st7, kr7, ?_, ?_⟩, by rw [hwk]; simp only [Int.toNat_natCast]; omega⟩⟩⟩
        · refine W.call_of (hcall _ (hset (by rw [h0]; intro h; cases h))) ?_
          rintro _ s8 ⟨rfl, hJ8⟩
          exact ⟨(), rfl, hJ8⟩
        · refine W.call_of (hcall _ (hset (by intro h; exact hne (congrArg Prod.fst h)))) ?_
          rintro _ s8 ⟨rfl, hJ8⟩
          exact ⟨(), rfl, hJ8⟩
        · rw [hwk, htri]
        · have : fedI B M + k + 1 ≤ B.lst := termAt_le (B := B) (by rw [hT]; exact h1) (by omega)
          push_cast; omega
        · rw [hmg, hdrop]
          simp only [BS.merge]
          rw [hte, if_pos (by rw [heq, h1])]
          rw [show ((k + 1 : Nat) : Int) = (k : Int) + 1 by push_cast; (first | done | rfl), ← Int.add_assoc]
      · refine hJ _ _ ⟨l, rfl, ?_, st4, k4⟩
        have : (fedX B M).drop k = [] := List.drop_eq_nil_of_le (by omega)
        rw [hmg, this]
        exact h4
  · intro J hJ
    simp [W.ld_at hb2, W.br_iff]
    refine ⟨fun hlt => ?_, fun hge => ?_⟩
    · obtain ⟨k, hk⟩ : ∃ k : Nat, (B.commit - M.index).toNat = k := ⟨_, rfl⟩
      have hw : IntKind.i64.wrap (B.commit - M.index) = (k : Int) := by rw [wrap_in (by omega) (by omega)]; omega
      rw [hw]
      refine ⟨⟨by omega, by omega, by omega⟩, ?_⟩
      simp only [Int.toNat_natCast]
      have hX : fedX B M = M.list.drop k := by unfold fedX; rw [if_pos hlt, hk]
      have hI : fedI B M = B.commit := by unfold fedI; rw [if_pos hlt]
      refine hJ _ _ ⟨(if t.2.2 = k then t.1 else t.1.map (·.add (k * 4)), t.2.1 - k, t.2.2 - k), by rw [hI], by rw [hX]; exact (View.of hrow2).sub (by omega), hB2, st2, k2, by rw [hI]; exact hcb, by rw [hI]; exact hlc, fun q => q.1 hlt⟩
    · have hX : fedX B M = M.list := by unfold fedX; rw [if_neg (by omega)]
      have hI : fedI B M = M.index := by unfold fedI; rw [if_neg (by omega)]
      refine W.call_of (c_term hB2 hs2' (i := M.index) (by unfold Num; omega)) ?_
      rintro _ s3 ⟨rfl, m3⟩
      have hte : ({ B with role := 0, lead := M.from_ } : BS).termAt M.index = B.termAt M.index := rfl
      rw [hte]
      refine ⟨(((B.termAt M.index).1, ()), ((B.termAt M.index).2, ()), ()), rfl, ?_⟩
      have k3 := m3.at k2 (by simp)
      have h3 := hB2.new m3
      have hb3 := h3.cell
      have st3 : Step (bL b l v n m) (bL b l v n m) s s3 := st2.trans ⟨m3.mono (by simp), fun x hx => .inl hx⟩
      refine W.join_gen (fun z s' => s' = s3 ∧ z = ((Addr.mk r 0 none, ()), (M.index + M.list.length, ()), (t, ()), (M.index, ()), (!decide (B.termAt M.index = (M.prev, true)), ()), ())) ?_ ?_
      · rintro _ s3 ⟨rfl, rfl⟩
        simp [W.br_iff, W.ld_at k3]
        refine ⟨fun hno => ?_, fun hyes => ?_⟩
        · have hno : B.termAt M.index ≠ (M.prev, true) := hno
          have hg : B.fed M = ({ B with role := 0, lead := M.from_ }, [B.toldM M.from_ false (mn B.lst (M.index - 1))]) := by
            unfold BS.fed; rw [if_neg hrole]; simp only [hgt', if_false]; rw [if_pos ⟨by omega, hno⟩]
          rw [hg]
          refine W.callQ_of ((B.lst, ()), ()) (c_last h3 hs2') rfl ?_
          have hw1 : IntKind.i64.wrap (M.index - 1) = M.index - 1 := wrap_in (by omega) (by omega)
          have e4 : (if M.index - 1 < B.lst then M.index - 1 else B.lst) = mn B.lst (M.index - 1) := rfl
          simp [hw1, e4]
          refine W.call_of (c_told h3 M.from_ false (mn B.lst (M.index - 1))) ?_
          intro x s6 hp
          obtain ⟨t6, ps, rfl, q⟩ := hp
          refine ⟨((t6, ()), ()), rfl, ?_⟩
          exact op_msgs h3 st3 ⟨t6, ps, rfl, q⟩
        · have hyes : B.termAt M.index = (M.prev, true) := hyes
          refine hJ _ _ ⟨t, by rw [hI], by rw [hX]; exact View.of (hrow2.mod m3 (by simp)), h3, st3, k3, by rw [hI]; omega, by rw [hI]; exact termAt_le (by rw [hyes]) (by omega), fun q => q.2 hyes⟩
      · intro K hK
        simp [W.br_iff, W.ld_at k3]
        refine ⟨fun hf => hK _ _ ⟨rfl, ?_⟩, fun ht => hK _ _ ⟨rfl, ?_⟩⟩
        · have : B.termAt M.index ≠ (M.prev, true) := by intro e; rw [e] at hf; cases hf
          simp [this]
        · have : (decide (B.termAt M.index = (M.prev, true))) = ((B.termAt M.index).1 == M.prev) := by
            by_cases e : (B.termAt M.index).1 = M.prev
            · have : B.termAt M.index = (M.prev, true) := Prod.ext e ht
              simp [this]
            · have h' : B.termAt M.index ≠ (M.prev, true) := by intro e2; rw [e2] at e; exact e rfl
              simp [h', e]
          rw [this]; (first | done | rfl)
end
end Go.Proofs.YtcdggocbjnmeaaaGreat
end
section
set_option linter.unusedVariables false
set_option linter.unusedSimpArgs false
set_option maxHeartbeats 1000000
namespace Go.Proofs.YtcdggocbjnmeaaaGreat
open Fw Go
attribute [-simp] Fw.W.ld_iff Fw.W.st_iff
section
variable {s : PH} {b : Nat} {l v n m : Tri} {B : BS}
theorem op_app {s1 s2 s3 : PH} {B1 : BS} {R : BS × List Msg} {t1 t2 l' v' n' m' : Tri} {ps1 ps2 : List (Msg × Tri)} (h1 : Bal s1 b l v n m B1) (hms1 : Msgs s2 t1 ps1) (m2 : Fw.Mod [] s1 s2) (hf1 : ∀ y ∈ mF t1 ps1, s1 y = none)
    (h3 : Bal s3 b l' v' n' m' R.1) (st3 : Step (bL b l v n m) (bL b l' v' n' m') s2 s3) (hms2 : Msgs s3 t2 ps2) (hf2 : ∀ y ∈ mF t2 ps2, (y ∈ bL b l v n m ∨ s2 y = none) ∧ y ∉ bL b l' v' n' m') (c1 : t1.2.1 ≤ 1000) (c2 : t2.2.1 ≤ 1000)
    {K : Option Addr → Nat → Nat → W.T} (hK : ∀ a kk c s', OpPost (R.1, ps1.map (·.1) ++ ps2.map (·.1)) b (bL b l v n m) s1 (.slice a kk c) s' → K a kk c s') : W.app 119 10 104 zeroMsg t1.1 t1.2.1 t1.2.2 (.sl t2.1 t2.2.1) K s3 := by
  have hno : ∀ y ∈ mF t1 ps1, ¬ (y ∈ bL b l v n m ∨ s2 y = none) := fun y hy hx => by
    rcases hx with hx | hx
    · exact h1.known y hx (hf1 y hy)
    · exact hms1.known y hy hx
  have hno' : ∀ y ∈ mF t1 ps1, y ∉ bL b l' v' n' m' := fun y hy hx => hno y hy (st3.new y hx)
  have hb1 : ∀ y ∈ Fw.blk t1.1, y ∈ mF t1 ps1 := fun y hy => by simp [mF, hy]
  have hms1' := hms1.mod st3.mod (fun y hy hx => hno y hy (.inl hx))
  have st : Step (bL b l v n m) (bL b l' v' n' m') s1 s3 := Step.trans (L' := bL b l v n m) ⟨m2.mono (by simp), fun x hx => .inl hx⟩ st3
  refine app_msgs (fun y => (y ∈ bL b l v n m ∨ s1 y = none) ∧ y ∉ bL b l' v' n' m') ?_ hms1' hms2 ?_ ?_ ?_ hms1.apart c1 c2 ?_
  · intro g hg
    refine ⟨?_, fun hx => h3.known g hx hg⟩
    by_cases hx : g ∈ bL b l v n m
    · exact .inl hx
    · exact .inr (st.mod.none hg hx)
  · exact fun y hy => ⟨.inr (hf1 y hy), hno' y hy⟩
  · intro y hy
    refine ⟨?_, (hf2 y hy).2⟩
    rcases (hf2 y hy).1 with g | g
    · exact .inl g
    · exact .inr (m2.none g (by simp))
  · intro y hy hx
    exact hno y (hb1 y hx) (hf2 y hy).1
  · intro a k c s' g1 g2 g3
    refine hK a k c s' ⟨(a, k, c), ps1 ++ ps2, l', v', n', m', rfl, h3.mod g3 (fun x hx hx' => hno' x (hb1 x hx') hx), ⟨st.mod.fresh g3 (fun y hy => .inr (hf1 y (hb1 y hy))), st.new⟩, g1, by simp, g2⟩
def BS.turned (B : BS) (t v r : Int) : BS := { B with term := t, vote := v, role := r, lead := -1, touched := true }
def BS.stood (B : BS) : BS := { B.turned (B.term + 1) B.id 1 with votes := (List.replicate B.size.toNat false).set B.id.toNat true }
def BS.timeout (B : BS) : BS × List Msg := if B.role = 2 then (B, []) else (B.stood.counted.1, B.stood.asks ++ B.stood.counted.2)
theorem mksl_bool {k : Nat → W.T} {s : PH} {c : Nat} (hc : c ≤ 1000) (h : ∀ r s1, s r = none → Fw.Mod [] s s1 → rowE boolE s1 4 (some ⟨r, 0, none⟩) c c (List.replicate c false) → k r s1) : W.mksl 4 1 1 [.bool false] (c : Int) (c : Int) k s := by
  refine ⟨by omega, Int.le_refl _, by omega, by omega, fun r hr => ?_⟩
  have hz : Builtin.zeroCells [Value.bool false].toArray ((c : Nat) : Int).toNat = (List.replicate c (Value.bool false)).toArray := zero_one (.bool false) c
  rw [hz]
  refine h r _ hr (Mod.new hr) ⟨by rw [flat_len]; simp [boolE], Nat.le_refl _, by show c ≤ 9223372036854775807; omega, .inr ⟨r, _, rfl, PH.upd_same _ _ _, by simp [boolE], ?_⟩⟩
  have : ∀ c : Nat, (List.replicate c false).flatMap boolE.f = List.replicate c (Value.bool false) := by
    intro c
    induction c with
    | zero => rfl
    | succ c ih => rw [List.replicate_succ, List.flatMap_cons, ih, List.replicate_succ]; (first | done | rfl)
  rw [this]; simp [boolE]
theorem counted_len (B : BS) (h : B.size ≤ 5) : B.counted.2.length ≤ 10 := by
  unfold BS.counted
  split
  · simp
  · have h3 : (B.lead2.set (B.lst + 1) [{ noEnt with term := B.term }]).size = B.size := rfl
    generalize B.lead2.set (B.lst + 1) [{ noEnt with term := B.term }] = B3 at h3 ⊢
    have h1 := BS.others_len B3 (fun to => B3.feedM to ((B3.next[to]?).getD 0)) B3.size.toNat
    have h2 := settled_len B3
    have h4 : B3.feeds.length = (B3.others (fun to => B3.feedM to ((B3.next[to]?).getD 0)) B3.size.toNat).length := rfl
    show (B3.feeds ++ B3.settled.2).length ≤ 10
    rw [List.length_append]
    omega
theorem c_Timeout (h : Bal s b l v n m B) (hok : B.Ok) (hlc : B.commit ≤ B.lst) (hl1 : B.log.length + 1 ≤ 1073741824) (ht : Num B.term) : DCalls Tryz.prog 47 #[bptr b] s (OpPost B.timeout b (bL b l v n m) s) := by
  refine ok_Timeout b _ s ?_
  unfold vc_Timeout
  have hb := h.cell
  have hsz := hok.size
  have hid := hok.id
  simp only [RP_join]
  refine W.join_gen (fun z s' => s' = s ∧ z = () ∧ B.role ≠ 2) ?_ ?_
  · rintro _ s ⟨rfl, rfl, hr⟩
    have ht1 : IntKind.i64.wrap (B.term + 1) = B.term + 1 := by unfold Num at ht; exact wrap_in (by omega) (by omega)
    simp [W.ld_at hb, ht1]
    refine W.call_of (c_turn h (B.term + 1) B.id 1) ?_
    rintro _ s1 ⟨rfl, h1, m1⟩
    refine ⟨(), rfl, ?_⟩
    have hb1 := h1.cell
    obtain ⟨c, hc⟩ : ∃ c : Nat, B.size = c := ⟨B.size.toNat, by omega⟩
    have hct : B.size.toNat = c := by omega
    obtain ⟨f, hf⟩ : ∃ f : Nat, B.id = f := ⟨B.id.toNat, by omega⟩
    simp [W.ld_at hb1, hc]
    refine mksl_bool (by omega) fun r s2 hr2 m2 hrow => ?_
    have h2 := h1.new m2
    have hb2 := h2.cell
    have hidt : B.id.toNat = f := by omega
    simp [W.st_at hb2]
    have h3 : Bal (s2.upd b (.cells ({ B.turned (B.term + 1) B.id 1 with votes := List.replicate c false }.cells l (some ⟨r, 0, none⟩, c, c) n m) 101 (0, 0))) b l (some ⟨r, 0, none⟩, c, c) n m { B.turned (B.term + 1) B.id 1 with votes := List.replicate c false } :=
      balOf (B' := { B.turned (B.term + 1) B.id 1 with votes := List.replicate c false }) (v' := (some ⟨r, 0, none⟩, c, c)) hb2 h2.log hrow h2.next h2.mat h2.nm
    have hr1 : r ∉ bL b l v n m := fun hx => h1.known r hx hr2
    have st3 : Step (bL b l v n m) (bL b l (some ⟨r, 0, none⟩, c, c) n m) s (s2.upd b (.cells ({ B.turned (B.term + 1) B.id 1 with votes := List.replicate c false }.cells l (some ⟨r, 0, none⟩, c, c) n m) 101 (0, 0))) := by
      refine ⟨((m1.mono (by simp [bL])).trans (m2.mono (by simp))).updLater (.inl (by simp [bL])), ?_⟩
      intro z hz
      simp only [bL, List.mem_cons, List.mem_append] at hz ⊢
      rcases hz with hz | hz | hz | hz
      · exact .inl (.inl hz)
      · exact .inl (.inr (.inl hz))
      · simp [Fw.blk] at hz; subst hz
        exact .inr (m1.none hr2 (by simpa using (ne_of_known hb1 hr2).symm))
      · exact .inl (.inr (.inr (.inr hz)))
    have hx : ({ B.turned (B.term + 1) B.id 1 with votes := List.replicate c false } : BS).votes[f]? = some false := by
      show (List.replicate c false)[f]? = _
      rw [List.getElem?_replicate, if_pos (by omega)]
    obtain ⟨g, hgv, hgm, hst⟩ := h3.setVote hx true
    have hgr : g = r := by simp at hgv; exact hgv.symm
    subst hgr
    have hw : B.stood = { ({ B.turned (B.term + 1) B.id 1 with votes := List.replicate c false } : BS) with votes := (List.replicate c false).set f true } := by unfold BS.stood; rw [hct, hidt]
    simp only [hidt]
    refine ⟨by omega, hst _ fun s4 h4 m4 => ?_⟩
    have st4 : Step (bL b l v n m) (bL b l (some ⟨g, 0, none⟩, c, c) n m) s s4 := st3.trans ⟨m4.mono (by simpa using hgm), fun x hx => .inl hx⟩
    have hto : B.timeout = (B.stood.counted.1, B.stood.asks ++ B.stood.counted.2) := by unfold BS.timeout; rw [if_neg hr]
    have hok4 : B.stood.Ok := ⟨⟨hok.small.base0, hok.small.base1, hok.small.log1⟩, hok.base, hok.size, hok.id, hok.com⟩
    have hv4 : B.stood.votes.length = B.stood.size.toNat := by rw [hw]; show (List.set _ _ _).length = B.size.toNat; simp [hct]
    have hlc4 : B.stood.commit ≤ B.stood.lst := hlc
    have hl4 : B.stood.log.length + 1 ≤ 1073741824 := hl1
    have h4 : Bal s4 b l (some ⟨g, 0, none⟩, c, c) n m B.stood := by rw [hw]; exact h4
    have hs4 : B.stood.size = B.size := rfl
    rw [hto]
    generalize B.stood = B4 at h4 hok4 hv4 hlc4 hl4 hs4
    refine W.call_of (c_othersAsk h4 hok4.small hok4.base ⟨by omega, by omega⟩) ?_
    rintro _ s5 ⟨t1, ps1, rfl, hms1, hps1, m5, hf1⟩
    refine ⟨((t1, ()), ()), rfl, ?_⟩
    have h5 := h4.new m5
    refine W.call_of (c_counted h5 hok4 hv4 hlc4 hl4) ?_
    rintro _ s6 ⟨t2, ps2, l', v', n', m', rfl, h6, st6, hms2, hps2, hf2⟩
    refine ⟨((t2, ()), ()), rfl, ?_⟩
    have c1 : t1.2.1 ≤ 1000 := by
      have g1 := hms1.row.len
      have g2 := congrArg List.length hps1
      have g3 := B4.others_len (fun to => B4.askM to) B4.size.toNat
      simp only [List.length_map] at g2
      have g4 : B4.asks.length = (B4.others (fun to => B4.askM to) B4.size.toNat).length := rfl
      omega
    have c2 : t2.2.1 ≤ 1000 := by
      have g1 := hms2.row.len
      have g2 := congrArg List.length hps2
      have g3 := counted_len B4 (by omega)
      simp only [List.length_map] at g2
      omega
    refine op_app h4 hms1 m5 hf1 h6 st6 hms2 hf2 c1 c2 ?_
    intro a kk c' s7 hp
    rw [hps1, hps2] at hp
    exact OpPost.start hp st4
  · intro J hJ
    simp [W.ld_at hb, W.br_iff]
    refine ⟨fun h2 => ?_, fun h2 => hJ _ _ ⟨rfl, rfl, h2⟩⟩
    have : B.timeout = (B, []) := by unfold BS.timeout; rw [if_pos h2]
    rw [this]; exact OpPost.noMsgs h (Step.refl _ _)
theorem c_Beat (h : Bal s b l v n m B) (hok : B.Ok) (hF : B.role = 2 → B.Fed) : DCalls Tryz.prog 48 #[bptr b] s (OpPost (B, if B.role = 2 then B.feeds else []) b (bL b l v n m) s) := by
  refine ok_Beat b _ s ?_
  unfold vc_Beat
  have hb := h.cell
  have hsz := hok.size
  simp [W.ld_at hb, W.br_iff]
  refine ⟨fun hr => ?_, fun hr => ?_⟩
  · rw [if_neg hr]; exact OpPost.noMsgs h (Step.refl _ _)
  · rw [if_pos hr]
    refine W.call_of (c_othersFeed h hok.small hok.base ⟨by omega, hsz.2⟩ (hF hr)) ?_
    rintro x s5 ⟨t1, ps1, rfl, q⟩
    refine ⟨((t1, ()), ()), rfl, ?_⟩
    exact op_msgs h (Step.refl _ _) ⟨t1, ps1, rfl, q⟩
def BS.proposed (B : BS) (at_ born : Int) (text : ByteArray) : BS := B.set (B.lst + 1) [⟨B.term, at_, born, text⟩]
def BS.propose (B : BS) (at_ born : Int) (text : ByteArray) : Int × BS × List Msg :=
  if B.role = 2 then ((B.proposed at_ born text).lst, (B.proposed at_ born text).settled.1, (B.proposed at_ born text).feeds ++ (B.proposed at_ born text).settled.2) else (0, B, [])
def ProPost (R : Int × BS × List Msg) (b : Nat) (L : List Nat) (s : PH) (x : Value) (s' : PH) : Prop := ∃ y, x = .tuple #[.int .i64 R.1, y] ∧ OpPost R.2 b L s y s'
theorem c_Propose (h : Bal s b l v n m B) (hok : B.Ok) (hL : B.role = 2 → B.Ldr) (hlc : B.commit ≤ B.lst) (hl1 : B.log.length + 1 ≤ 1073741824) (at_ born : Int) (text : ByteArray) :
    DCalls Tryz.prog 49 #[bptr b, .int .i64 at_, .int .i64 born, .string text] s (ProPost (B.propose at_ born text) b (bL b l v n m) s) := by
  refine ok_Propose b at_ born text _ s ?_
  unfold vc_Propose
  have hb := h.cell
  have hsz := hok.size
  have hs := hok.small
  obtain ⟨q1, q2, q3⟩ := id hs
  have hlst : B.lst = B.base + B.log.length := rfl
  have hbase := hok.base
  simp only [RP_join]
  refine W.join_gen (fun z s' => s' = s ∧ z = () ∧ B.role = 2) ?_ ?_
  · rintro _ s ⟨rfl, rfl, hr⟩
    have hl := hL hr
    have hwl : IntKind.i64.wrap (B.lst + 1) = B.lst + 1 := wrap_in (by omega) (by omega)
    refine W.callQ_of ((B.lst, ()), ()) (c_last h hs) rfl ?_
    simp [W.ld_at hb, -W.nw_iff, hwl]
    refine W.nw_of fun r s1 hr1 m1 k1 => ?_
    have hpr : B.propose at_ born text = ((B.proposed at_ born text).lst, (B.proposed at_ born text).settled.1, (B.proposed at_ born text).feeds ++ (B.proposed at_ born text).settled.2) := by unfold BS.propose; rw [if_pos hr]
    rw [hpr]
    refine W.call_of (c_set (h.new m1) hs (i := B.lst + 1) (ys := [⟨B.term, at_, born, text⟩]) (by omega) (Int.le_refl _) (row_one (E := entE) (x := ⟨B.term, at_, born, text⟩) k1 rfl).src0 rfl (by omega)) ?_
    rintro _ s2 ⟨l', rfl, h2, st2⟩
    refine ⟨(), rfl, ?_⟩
    have hl3 : (B.proposed at_ born text).log.length = B.log.length + 1 := by
      unfold BS.proposed BS.set
      simp only [List.length_append, List.length_take, List.length_cons, List.length_nil]; omega
    have hlst3 : (B.proposed at_ born text).lst = B.lst + 1 := by
      have e : (B.proposed at_ born text).lst = B.base + ((B.proposed at_ born text).log.length : Int) := rfl
      rw [e, hl3, hlst]; omega
    have hok3 : (B.proposed at_ born text).Ok := ⟨⟨q1, q2, by omega⟩, hbase, hsz, hok.id, hok.com⟩
    have hF3 : (B.proposed at_ born text).Fed := by
      refine ⟨hl.nlen, fun i nx hnx => ?_⟩
      have g := (hl.nr i nx hnx).2
      rw [hlst3]
      have e : (B.proposed at_ born text).base = B.base := rfl
      rw [e]; omega
    have hm3 : (B.proposed at_ born text).mat.length = (B.proposed at_ born text).size.toNat := hl.mlen
    have hlc3 : (B.proposed at_ born text).commit ≤ (B.proposed at_ born text).lst := by rw [hlst3]; show B.commit ≤ _; omega
    have st3 : Step (bL b l v n m) (bL b l' v n m) s s2 := Step.trans (L' := bL b l v n m) ⟨m1.mono (by simp), fun x hx => .inl hx⟩ st2
    have h2 : Bal s2 b l' v n m (B.proposed at_ born text) := h2
    have hsz3 : (B.proposed at_ born text).size = B.size := rfl
    generalize B.proposed at_ born text = B3 at h2 hok3 hF3 hm3 hlc3 hsz3
    refine W.call_of (c_last h2 hok3.small) ?_
    rintro _ s2 ⟨rfl, rfl⟩
    refine ⟨((B3.lst, ()), ()), rfl, ?_⟩
    refine W.call_of (c_othersFeed h2 hok3.small hok3.base ⟨by omega, by omega⟩ hF3) ?_
    rintro _ s6 ⟨t1, ps1, rfl, hms1, hps1, m6, hf1⟩
    refine ⟨((t1, ()), ()), rfl, ?_⟩
    have h6 := h2.new m6
    refine W.call_of (c_settle h6 hok3 hF3 hm3 hlc3) ?_
    rintro _ s7 ⟨t2, ps2, rfl, hms2, hps2, h7, m7, hf2⟩
    refine ⟨((t2, ()), ()), rfl, ?_⟩
    have c1 : t1.2.1 ≤ 1000 := by
      have g1 := hms1.row.len
      have g2 := congrArg List.length hps1
      have g3 := B3.others_len (fun to => B3.feedM to ((B3.next[to]?).getD 0)) B3.size.toNat
      simp only [List.length_map] at g2
      have g4 : B3.feeds.length = (B3.others (fun to => B3.feedM to ((B3.next[to]?).getD 0)) B3.size.toNat).length := rfl
      omega
    have c2 : t2.2.1 ≤ 1000 := by
      have g1 := hms2.row.len
      have g2 := congrArg List.length hps2
      have g3 := settled_len B3
      simp only [List.length_map] at g2
      omega
    refine op_app (R := B3.settled) h2 hms1 m6 hf1 h7 ⟨m7.mono (by simp [bL]), fun x hx => .inl hx⟩ hms2 (fun y hy => ⟨.inr (hf2 y hy), fun hx => h6.known y hx (hf2 y hy)⟩) c1 c2 ?_
    intro a kk c' s8 hp
    rw [hps1, hps2] at hp
    exact ⟨_, rfl, OpPost.start hp st3⟩
  · intro J hJ
    have no : B.role ≠ 2 → ProPost (B.propose at_ born text) b (bL b l v n m) s (.tuple #[.int .i64 0, .slice none 0 0]) s := by
      intro h2
      have : B.propose at_ born text = (0, B, []) := by unfold BS.propose; rw [if_neg h2]
      rw [this]; exact ⟨_, rfl, OpPost.noMsgs h (Step.refl _ _)⟩
    simp [W.ld_at hb, W.br_iff]
    exact ⟨fun h2 => no h2, fun h2 => hJ _ _ ⟨rfl, rfl, h2⟩⟩
end
end Go.Proofs.YtcdggocbjnmeaaaGreat
end
section
set_option linter.unusedVariables false
set_option linter.unusedSimpArgs false
set_option maxHeartbeats 1000000
namespace Go.Proofs.YtcdggocbjnmeaaaGreat
open Fw Go
attribute [-simp] Fw.W.ld_iff Fw.W.st_iff
theorem callV_of {g : FuncId} {args : Array Value} {r : Bool × List Shape} {k : MDen r.2 → W.T} {s : PH} {fn : Func} (hfn : Tryz.prog.funcs[g]? = some fn) (hb : fn.body.isSome = true) (hn : (fn.name == "runtime.NumGoroutine") = false) {Q : Value → PH → Prop}
    (h : DCalls Tryz.prog g args s Q) (hk : ∀ v s', Q v s' → ∃ x, mkRes r x = v ∧ k x s') : W.callV Tryz.prog (.func (.func g) #[] #[]) args r k s := by
  refine ⟨g, #[], #[], rfl, ⟨fn, hfn, hb, hn⟩, ?_⟩
  have : (#[] : Array Value) ++ args ++ #[] = args := by simp
  rw [this]; exact h.mono hk
section
variable {s : PH} {b : Nat} {l v n m : Tri} {B : BS}
theorem OnePost.op {B' : BS} {ms : List Msg} {x : Value} {s' : PH} (hk : ∀ x ∈ bL b l v n m, s x ≠ none) (h : OnePost B' ms b l v n m s x s') : OpPost (B', ms) b (bL b l v n m) s x s' := by
  obtain ⟨t, ps, rfl, hms, hps, hB, hm, hf⟩ := h
  exact ⟨t, ps, l, v, n, m, rfl, hB, ⟨hm.mono (by simp [bL]), fun x hx => .inl hx⟩, hms, hps, fun y hy => ⟨.inr (hf y hy), fun hx => hk y hx (hf y hy)⟩⟩
def BS.seen (B : BS) (M : Msg) : BS := if M.term > B.term then B.turned M.term (-1) 0 else B
def BS.does (B : BS) (M : Msg) : BS × List Msg :=
  if M.kind = 1 then B.asked M else if M.kind = 2 then B.voted M else if M.kind = 3 then B.fed M else if M.kind = 4 then B.heard M else B.given M
def BS.late (B : BS) (M : Msg) : List Msg := if M.kind = 1 then [B.msg 2 M.from_] else if M.kind = 3 ∨ M.kind = 5 then [B.toldM M.from_ false B.lst] else []
def BS.take (B : BS) (M : Msg) : BS × List Msg :=
  if M.strange B.id B.size = true then (B, []) else
  if M.term < (B.seen M).term then (B.seen M, (B.seen M).late M) else (B.seen M).does M
structure BS.Run (B : BS) : Prop where
  ok : B.Ok
  lc : B.commit ≤ B.lst
  vt : B.role = 1 → B.votes.length = B.size.toNat
  ld : B.role = 2 → B.Ldr
theorem BS.Run.seen {B : BS} (h : B.Run) (M : Msg) : (B.seen M).Run := by
  unfold BS.seen
  split
  · exact ⟨⟨⟨h.ok.small.base0, h.ok.small.base1, h.ok.small.log1⟩, h.ok.base, h.ok.size, h.ok.id, h.ok.com⟩, h.lc, fun e => absurd e (by show ¬ (0 : Int) = 1; omega), fun e => absurd e (by show ¬ (0 : Int) = 2; omega)⟩
  · exact h
theorem c_Take (h : Bal s b l v n m B) (hR : B.Run) (hl1 : B.log.length + 1 ≤ 1073741824) (M : Msg) (t : Tri) (hrow : rowE entE s 43 t.1 t.2.1 t.2.2 M.list) (hll : M.list.length ≤ 1000000) :
    DCalls Tryz.prog 61 #[bptr b, msgV M t] s (OpPost (B.take M) b (bL b l v n m) s) := by
  refine ok_Take b M.kind M.from_ M.to M.term M.index M.prev M.commit M.good t.1 t.2.1 t.2.2 M.snap _ s ?_
  unfold vc_Take
  simp only [RP_nw]
  refine W.nw_of fun r s1 hr m1 k1 => ?_
  have h1 := h.new m1
  have hb1 := h1.cell
  have hbr : b ≠ r := ne_of_known h.cell hr
  have st1 : Step (bL b l v n m) (bL b l v n m) s s1 := ⟨m1.mono (by simp), fun x hx => .inl hx⟩
  have hrow1 := hrow.mod m1 (by simp)
  simp only [RP_join]
  refine W.join_gen (fun z s' => z = ((Addr.mk r 0 none, ()), ()) ∧ M.strange B.id B.size = false ∧ Fw.Mod [] s1 s') ?_ ?_
  · rintro _ s2 ⟨rfl, hst, m2⟩
    have hst' := hst
    unfold Msg.strange at hst'
    simp only [Bool.or_eq_false_iff, decide_eq_false_iff_not] at hst'
    obtain ⟨f1, f2, f3, f4, f5, f6, f7, f8, f9, f10, ⟨f11, f12⟩, f13, f14⟩ := hst'
    have h2 := h1.new m2
    have hb2 := h2.cell
    have k2 := m2.at k1 (by simp)
    have hrow2 := hrow1.mod m2 (by simp)
    refine W.join_gen (fun z s' => z = ((Addr.mk r 0 none, ()), ()) ∧ Bal s' b l v n m (B.seen M) ∧ Step (bL b l v n m) (bL b l v n m) s s' ∧ s' r = some (.cells (msgCells M t).toArray 119 (0, 0)) ∧ rowE entE s' 43 t.1 t.2.1 t.2.2 M.list) ?_ ?_
    · rintro _ s3 ⟨rfl, h3, st3, k3, hrow3⟩
      have htk : B.take M = if M.term < (B.seen M).term then (B.seen M, (B.seen M).late M) else (B.seen M).does M := by unfold BS.take; rw [if_neg (by rw [hst]; simp)]
      rw [htk]
      have hR3 := hR.seen M
      have hsz : (B.seen M).size = B.size ∧ (B.seen M).log = B.log := by unfold BS.seen; split <;> exact ⟨rfl, rfl⟩
      rw [← hsz.2] at hl1
      rw [← hsz.1] at f4
      generalize B.seen M = B3 at h3 hR3 hl1 f4 ⊢
      have hb3 := h3.cell
      simp [W.ld_at hb3, W.ld_at k3, W.br_iff, -W.nw_iff]
      refine ⟨fun hlt => ?_, fun hge => ?_⟩
      · rw [if_pos hlt]
        unfold BS.late
        refine ⟨fun hk => ?_, fun hk => ?_⟩
        · rw [if_pos hk]
          refine W.call_of (c_msg h3 2 M.from_) ?_
          rintro _ s4 ⟨rfl, m4⟩
          refine ⟨((2, B3.id, M.from_, B3.term, 0, 0, 0, false, (none, 0, 0), ⟨#[]⟩, ()), ()), rfl, ?_⟩
          refine W.nw_of fun q s5 hq m5 k5 => ?_
          have h4 := h3.new m4
          have st4 : Step (bL b l v n m) (bL b l v n m) s s4 := st3.trans ⟨m4.mono (by simp), fun x hx => .inl hx⟩
          exact OpPost.start ((one_of (M := B3.msg 2 M.from_) h4 (Mod.refl _ _) (by rw [h4.cell]; simp) hq m5 k5 rfl).op h4.known) st4
        · rw [if_neg hk]
          refine W.join_gen (fun z s' => z = ((Addr.mk r 0 none, ()), (decide (M.kind = 3 ∨ M.kind = 5), ()), ()) ∧ s' = s3) ?_ ?_
          · rintro _ s3 ⟨rfl, rfl⟩
            simp only [W.br_iff, decide_eq_true_eq, decide_eq_false_iff_not]
            refine ⟨fun h35 => ?_, fun h35 => ?_⟩
            · rw [if_pos h35]
              simp [W.ld_at k3]
              refine W.callQ_of ((B3.lst, ()), ()) (c_last h3 hR3.ok.small) rfl ?_
              refine W.call_of (c_told h3 M.from_ false B3.lst) ?_
              intro x s6 hp
              obtain ⟨t6, ps, rfl, q⟩ := hp
              refine ⟨((t6, ()), ()), rfl, ?_⟩
              exact op_msgs h3 st3 ⟨t6, ps, rfl, q⟩
            · rw [if_neg h35]
              exact OpPost.noMsgs h3 st3
          · intro J hJ
            simp only [W.br_iff]
            refine ⟨fun h3' => hJ _ _ ⟨?_, rfl⟩, fun h3' => hJ _ _ ⟨?_, rfl⟩⟩
            · have : M.kind = 3 := by simpa using h3'
              simp [this]
            · have : ¬ M.kind = 3 := by simpa using h3'
              simp [this]; rw [Bool.eq_iff_iff]; simp
      · rw [if_neg (by omega)]
        refine W.nw_of fun q s4 hq m4 k4 => ?_
        have k3' := m4.at k3 (by simp)
        have hrq : r ≠ q := ne_of_known k3 hq
        have hsame : (s4.upd q (.cells #[.func (.func 93) #[] #[], .func (.func 94) #[] #[], .func (.func 95) #[] #[], .func (.func 96) #[] #[], .func (.func 97) #[] #[]] 160 (0, 0))) q = some (.cells #[.func (.func 93) #[] #[], .func (.func 94) #[] #[], .func (.func 95) #[] #[], .func (.func 96) #[] #[], .func (.func 97) #[] #[]] 160 (0, 0)) := PH.upd_same _ _ _
        simp [W.st_at k4]
        have m5 : Fw.Mod [] s3 (s4.upd q (.cells #[.func (.func 93) #[] #[], .func (.func 94) #[] #[], .func (.func 95) #[] #[], .func (.func 96) #[] #[], .func (.func 97) #[] #[]] 160 (0, 0))) := m4.updLater (.inr hq)
        generalize s4.upd q (.cells #[.func (.func 93) #[] #[], .func (.func 94) #[] #[], .func (.func 95) #[] #[], .func (.func 96) #[] #[], .func (.func 97) #[] #[]] 160 (0, 0)) = s5 at hsame m5 ⊢
        have k5 := m5.at k3 (by simp)
        have h5 := h3.new m5
        have hrow5 := hrow3.mod m5 (by simp)
        have st5 : Step (bL b l v n m) (bL b l v n m) s s5 := st3.trans ⟨m5.mono (by simp), fun x hx => .inl hx⟩
        have hFAR : FAR = 1099511627776 := rfl
        have hi1 : -1 ≤ M.index := by split at f9 <;> omega
        have hkind : M.kind = 1 ∨ M.kind = 2 ∨ M.kind = 3 ∨ M.kind = 4 ∨ M.kind = 5 := by omega
        unfold BS.does
        rcases hkind with hk | hk | hk | hk | hk
        · have hw : IntKind.i64.wrap (M.kind - 1) = 0 := by rw [hk]; kernel_rfl
          simp [W.ld_at k5, hw, W.ld_at hsame]
          rw [if_pos hk]
          refine callV_of Tryz.func93 rfl (by kernel_rfl) ((c_asked h5 hR3.ok M t).mono fun x s' hp => OnePost.op h5.known hp) ?_
          intro x s6 hp
          obtain ⟨t', ps, l', v', n', m', rfl, q⟩ := hp
          exact ⟨((t', ()), ()), rfl, OpPost.start ⟨t', ps, l', v', n', m', rfl, q⟩ st5⟩
        · have hw : IntKind.i64.wrap (M.kind - 1) = 1 := by rw [hk]; kernel_rfl
          simp [W.ld_at k5, hw, W.ld_at hsame]
          rw [if_neg (by omega), if_pos hk]
          refine callV_of Tryz.func94 rfl (by kernel_rfl) (c_voted h5 hR3.ok hR3.vt hR3.lc hl1 M t (by omega) (by omega)) ?_
          intro x s6 hp
          obtain ⟨t', ps, l', v', n', m', rfl, q⟩ := hp
          exact ⟨((t', ()), ()), rfl, OpPost.start ⟨t', ps, l', v', n', m', rfl, q⟩ st5⟩
        · have hw : IntKind.i64.wrap (M.kind - 1) = 2 := by rw [hk]; kernel_rfl
          simp [W.ld_at k5, hw, W.ld_at hsame]
          rw [if_neg (by omega), if_neg (by omega), if_pos hk]
          refine callV_of Tryz.func95 rfl (by kernel_rfl) (c_fed h5 hR3.ok hR3.lc M t hrow5 hll ⟨by simp [hk] at f9; omega, by omega⟩) ?_
          intro x s6 hp
          obtain ⟨t', ps, l', v', n', m', rfl, q⟩ := hp
          exact ⟨((t', ()), ()), rfl, OpPost.start ⟨t', ps, l', v', n', m', rfl, q⟩ st5⟩
        · have hw : IntKind.i64.wrap (M.kind - 1) = 3 := by rw [hk]; kernel_rfl
          simp [W.ld_at k5, hw, W.ld_at hsame]
          rw [if_neg (by omega), if_neg (by omega), if_neg (by omega), if_pos hk]
          refine callV_of Tryz.func96 rfl (by kernel_rfl) (c_heard h5 hR3.ok hR3.ld hR3.lc M t (by omega) (by omega) ⟨by omega, by omega⟩) ?_
          intro x s6 hp
          obtain ⟨t', ps, l', v', n', m', rfl, q⟩ := hp
          exact ⟨((t', ()), ()), rfl, OpPost.start ⟨t', ps, l', v', n', m', rfl, q⟩ st5⟩
        · have hw : IntKind.i64.wrap (M.kind - 1) = 4 := by rw [hk]; kernel_rfl
          simp [W.ld_at k5, hw, W.ld_at hsame]
          rw [if_neg (by omega), if_neg (by omega), if_neg (by omega), if_neg (by omega)]
          refine callV_of Tryz.func97 rfl (by kernel_rfl) (c_given h5 hR3.ok hR3.lc M t ⟨by omega, by omega⟩) ?_
          intro x s6 hp
          obtain ⟨t', ps, l', v', n', m', rfl, q⟩ := hp
          exact ⟨((t', ()), ()), rfl, OpPost.start ⟨t', ps, l', v', n', m', rfl, q⟩ st5⟩
    · intro J hJ
      simp [W.ld_at hb2, W.ld_at k2, W.br_iff]
      refine ⟨fun hlt => ?_, fun hge => ?_⟩
      · refine W.call_of (c_turn h2 M.term (-1) 0) ?_
        rintro _ s3 ⟨rfl, h3, m3⟩
        refine ⟨(), rfl, ?_⟩
        have : B.seen M = B.turned M.term (-1) 0 := by unfold BS.seen; rw [if_pos hlt]
        refine hJ _ _ ⟨rfl, by rw [this]; exact h3, ?_, m3.at k2 (by simpa using hbr.symm), ?_⟩
        · exact (st1.trans ⟨m2.mono (by simp), fun x hx => .inl hx⟩).trans ⟨m3.mono (by simp [bL]), fun x hx => .inl hx⟩
        · refine hrow2.mod m3 fun x hx hx' => ?_
          simp at hx'; subst hx'; exact row_ne2 hrow2 hb2 (by decide) hx
      · have : B.seen M = B := by unfold BS.seen; rw [if_neg (by omega)]
        refine hJ _ _ ⟨rfl, by rw [this]; exact h2, ?_, k2, hrow2⟩
        exact st1.trans ⟨m2.mono (by simp), fun x hx => .inl hx⟩
  · intro J hJ
    simp [W.ld_at k1, W.br_iff]
    refine W.call_of (c_strange h1 M t) ?_
    rintro _ s2 ⟨rfl, m2⟩
    refine ⟨((M.strange B.id B.size, ()), ()), rfl, ?_⟩
    simp only [W.br_iff]
    refine ⟨fun hs => ?_, fun hs => hJ _ _ ⟨rfl, hs, m2⟩⟩
    have hs : M.strange B.id B.size = true := hs
    have : B.take M = (B, []) := by unfold BS.take; rw [if_pos hs]
    rw [this]; exact OpPost.noMsgs (h1.new m2) (st1.trans ⟨m2.mono (by simp), fun x hx => .inl hx⟩)
end
end Go.Proofs.YtcdggocbjnmeaaaGreat
end
section
set_option linter.unusedVariables false
set_option linter.unusedSimpArgs false
set_option maxHeartbeats 1000000
set_option maxRecDepth 100000
namespace Go.Proofs.YtcdggocbjnmeaaaGreat
open Fw Go
attribute [-simp] Fw.W.ld_iff Fw.W.st_iff
def rdEnt : Rd Ent := (Rd.pair (Rd.int .i64) (Rd.pair (Rd.int .i64) (Rd.pair (Rd.int .i64) (Rd.pair Rd.str Rd.unit)))).map fun x => ⟨x.1, x.2.1, x.2.2.1, x.2.2.2.1⟩
theorem rdEnt_is {s : PH} {cs : List Value} {e : Ent} (h : rdEnt.is s cs e) : cs = entE.f e := by
  obtain ⟨x, rfl, c1, c2, rfl, ⟨rfl, h1⟩, d1, d2, rfl, ⟨rfl, h2⟩, e1, e2, rfl, ⟨rfl, h3⟩, f1, f2, rfl, ⟨rfl, h4⟩, rfl⟩ := h
  first | done | rfl
theorem View.elems {s : PH} {a : Option Addr} {n c : Nat} {xs : List Ent} (h : Fw.elems rdEnt s a n xs) (hc : n ≤ c) : View s a n c xs :=
  ⟨h.1, hc, fun j x hx => by obtain ⟨ad, cs, h1, h2, h3⟩ := h.2 j x hx; rw [rdEnt_is h2] at h3; exact ⟨ad, h1, h3⟩⟩
abbrev noDelta : Value := .agg #[.int .i64 0, .int .i64 0, .bool false, .int .i64 0, .int .i64 0, .string ⟨#[]⟩, .int .i64 0, .slice none 0 0]
theorem n_Entry (i : Int) (s : PH) : DCalls Tryz.prog 35 #[.pointer none, .int .i64 i] s fun x s' => x = .tuple #[entV noEnt, .bool false] ∧ Fw.Mod [] s s' := by
  refine ok_EntryN i _ s ?_
  unfold vc_EntryN
  simp only [RP_nw]
  refine W.nw_of fun r s1 hr m1 k1 => ?_
  simp [W.br_iff, W.st_at k1]
  exact ⟨rfl, m1.updLater (.inr hr)⟩
theorem n_Stand (s : PH) : DCalls Tryz.prog 34 #[.pointer none] s fun x s' => x = .agg #[.int .i64 0, .int .i64 0, .int .i64 0, .int .i64 0, .int .i64 0, .int .i64 0, .int .i64 0] ∧ Fw.Mod [] s s' := by
  refine ok_StandN _ s ?_
  unfold vc_StandN
  simp only [RP_nw]
  refine W.nw_of fun r s1 hr m1 k1 => ?_
  simp [W.br_iff, W.st_at k1]
  exact m1.updLater (.inr hr)
end Go.Proofs.YtcdggocbjnmeaaaGreat
end
section
set_option linter.unusedVariables false
set_option linter.unusedSimpArgs false
set_option maxHeartbeats 1000000
set_option maxRecDepth 100000
namespace Go.Proofs.YtcdggocbjnmeaaaGreat
open Fw Go
attribute [-simp] Fw.W.ld_iff Fw.W.st_iff
def BS.runB (B : BS) : Bool :=
  decide (0 ≤ B.base ∧ B.base ≤ 4611686016279904256 ∧ B.log.length ≤ 1073741824 ∧ 1 ≤ B.size ∧ B.size ≤ 5 ∧ 0 ≤ B.id ∧ B.id < B.size ∧ B.base ≤ B.commit ∧ B.commit ≤ B.lst) &&
  (decide (B.role = 1 → B.votes.length = B.size.toNat) && decide (B.role = 2 → B.next.length = B.size.toNat ∧ B.mat.length = B.size.toNat ∧ (∀ x ∈ B.next, 0 ≤ x ∧ x ≤ B.lst + 1) ∧ ∀ x ∈ B.mat, 0 ≤ x ∧ x ≤ B.lst))
theorem BS.runB_run {B : BS} (h : B.runB = true) : B.Run := by
  unfold BS.runB at h
  simp only [Bool.and_eq_true, decide_eq_true_eq] at h
  obtain ⟨⟨h1, h2, h3, h4, h5, h6, h7, h8, h9⟩, hv, hl⟩ := h
  refine ⟨⟨⟨h1, by omega, h3⟩, h2, ⟨h4, h5⟩, ⟨h6, h7⟩, h8⟩, h9, hv, fun hr => ?_⟩
  obtain ⟨g1, g2, g3, g4⟩ := hl hr
  exact ⟨g1, g2, fun i x hx => g3 x (List.mem_of_getElem? hx), fun i x hx => g4 x (List.mem_of_getElem? hx)⟩
theorem Msgs.get {s : PH} {t : Tri} {ps : List (Msg × Tri)} {ms : List Msg} (h : Msgs s t ps) (hm : ps.map (·.1) = ms) {i : Nat} {α : Type} {f : Msg → α} {y : α} (hi : (ms[i]?).map f = some y) :
    ∃ g M t', t.1 = some ⟨g, 0, none⟩ ∧ s.has ⟨g, i * 10, none⟩ (msgCells M t') ∧ f M = y ∧ rowE entE s 43 t'.1 t'.2.1 t'.2.2 M.list := by
  subst hm
  rw [List.getElem?_map] at hi
  cases hp : ps[i]? with
  | none => rw [hp] at hi; cases hi
  | some p =>
    rw [hp] at hi
    obtain ⟨g, hg, hh⟩ := h.row.at hp
    exact ⟨g, p.1, p.2, hg, hh, Option.some.inj hi, h.lists p (List.mem_of_getElem? hp)⟩
theorem Msgs.size {s : PH} {t : Tri} {ps : List (Msg × Tri)} {ms : List Msg} (h : Msgs s t ps) (hm : ps.map (·.1) = ms) : t.2.1 = ms.length := by
  rw [h.row.len, ← hm, List.length_map]
end Go.Proofs.YtcdggocbjnmeaaaGreat
end
section
set_option linter.unusedVariables false
set_option linter.unusedSimpArgs false
set_option maxHeartbeats 1000000
namespace Go.Proofs.YtcdggocbjnmeaaaGreat
open Fw Go
theorem best_in (B : BS) : ∀ (d : Nat) (i : Int), B.best d = some i → B.commit < i ∧ i ≤ B.commit + d
  | 0, i, h => by cases h
  | d + 1, i, h => by
    simp only [BS.best] at h
    split at h
    · simp only [Option.some.injEq] at h; subst h; push_cast; omega
    · have := best_in B d i h; push_cast; omega
theorem settled_com (B : BS) (h : B.commit ≤ B.lst) : ∃ c, B.settled.1 = { B with commit := c } ∧ B.commit ≤ c ∧ c ≤ B.lst := by
  unfold BS.settled
  split
  · rename_i i hi
    have := best_in B _ i hi
    exact ⟨i, rfl, by omega, by omega⟩
  · exact ⟨B.commit, rfl, Int.le_refl _, h⟩
/-- what holds in a ballot, with bounds that grow with the calls -/
structure BS.Inv (B : BS) (z : Int) : Prop where
  run : B.Run
  len : (B.log.length : Int) ≤ z
  far : B.lst ≤ 2 * FAR + z
  term : 0 ≤ B.term ∧ B.term ≤ 2 * FAR + z
  vote : -1 ≤ B.vote
theorem BS.Inv.mono {B : BS} {z z' : Int} (h : B.Inv z) (hz : z ≤ z') : B.Inv z' :=
  ⟨h.run, by have := h.len; omega, by have := h.far; omega, by have := h.term; omega, h.vote⟩
theorem lst_def (B : BS) : B.lst = B.base + B.log.length := rfl
/-- numbers that suit -/
theorem BS.Ok.of {B : BS} (h1 : 0 ≤ B.base) (h2 : B.lst ≤ 8000000000000) (h3 : B.log.length ≤ 1000000) (h4 : 1 ≤ B.size ∧ B.size ≤ 5) (h5 : 0 ≤ B.id ∧ B.id < B.size) (h6 : B.base ≤ B.commit) : B.Ok := by
  have := lst_def B
  exact ⟨⟨h1, by omega, by omega⟩, by omega, h4, h5, h6⟩
theorem Inv.com {B : BS} {z c : Int} (h : B.Inv z) (h1 : B.commit ≤ c) (h2 : c ≤ B.lst) : ({ B with commit := c } : BS).Inv z := by
  have hk := h.run.ok
  exact ⟨⟨⟨⟨hk.small.base0, hk.small.base1, hk.small.log1⟩, hk.base, hk.size, hk.id, by have := hk.com; show B.base ≤ c; omega⟩, h2, h.run.vt, fun hr => ⟨(h.run.ld hr).nlen, (h.run.ld hr).mlen, (h.run.ld hr).nr, (h.run.ld hr).mr⟩⟩, h.len, h.far, h.term, h.vote⟩
theorem Inv.settled {B : BS} {z : Int} (h : B.Inv z) : B.settled.1.Inv z := by
  obtain ⟨c, hc, h1, h2⟩ := settled_com B h.run.lc
  rw [hc]; exact Inv.com h h1 h2
theorem set_len {B : BS} {i : Int} (h1 : B.base < i) (h2 : i ≤ B.lst + 1) (ys : List Ent) : ((B.set i ys).log.length : Int) = i - B.base - 1 + ys.length := by
  have := lst_def B
  unfold BS.set
  simp only [List.length_append, List.length_take]
  omega
theorem set_lst {B : BS} {i : Int} (h1 : B.base < i) (h2 : i ≤ B.lst + 1) (ys : List Ent) : (B.set i ys).lst = i - 1 + ys.length := by
  have h := set_len h1 h2 ys
  have e : (B.set i ys).lst = B.base + ((B.set i ys).log.length : Int) := rfl
  omega
theorem Inv.set {B : BS} {z : Int} (h : B.Inv z) {i : Int} (h1 : B.commit < i) (h2 : i ≤ B.lst + 1) {ys : List Ent} (hz : z + ys.length ≤ 1000000) (hr : B.role = 2 → i = B.lst + 1) : (B.set i ys).Inv (z + ys.length) := by
  have hk := h.run.ok
  have hb := hk.com
  have hlen := h.len
  have hfar := h.far
  have hF : FAR = 1099511627776 := rfl
  have g1 := set_len (B := B) (i := i) (by omega) h2 ys
  have g2 := set_lst (B := B) (i := i) (by omega) h2 ys
  have hd := lst_def B
  have hb0 := hk.small.base0
  refine ⟨⟨BS.Ok.of hk.small.base0 (by omega) (by omega) hk.size hk.id hk.com, by rw [g2]; show B.commit ≤ _; omega, h.run.vt, fun hr2 => ?_⟩, by omega, by omega, by have := h.term; show 0 ≤ B.term ∧ B.term ≤ _; omega, h.vote⟩
  have hL := h.run.ld hr2
  have := hr hr2
  exact ⟨hL.nlen, hL.mlen, fun j x hx => by have := hL.nr j x hx; rw [g2]; omega, fun j x hx => by have := hL.mr j x hx; rw [g2]; omega⟩
theorem Inv.lead2 {B : BS} {z : Int} (h : B.Inv z) : B.lead2.Inv z := by
  have hk := h.run.ok
  have hlc := h.run.lc
  have hb := hk.com
  have hb0 := hk.small.base0
  refine ⟨⟨⟨⟨hk.small.base0, hk.small.base1, hk.small.log1⟩, hk.base, hk.size, hk.id, hk.com⟩, hlc, fun e => absurd e (by show ¬ (2 : Int) = 1; omega), fun _ => ⟨List.length_replicate, List.length_replicate, fun j x hx => ?_, fun j x hx => ?_⟩⟩, h.len, h.far, h.term, h.vote⟩
  · have hx : (List.replicate B.size.toNat (B.lst + 1))[j]? = some x := hx
    rw [List.getElem?_replicate] at hx
    split at hx
    · cases hx; show 0 ≤ B.lst + 1 ∧ B.lst + 1 ≤ B.lst + 1; omega
    · cases hx
  · have hx : (List.replicate B.size.toNat (0 : Int))[j]? = some x := hx
    rw [List.getElem?_replicate] at hx
    split at hx
    · cases hx; show (0 : Int) ≤ 0 ∧ 0 ≤ B.lst; omega
    · cases hx
theorem Inv.counted {B : BS} {z : Int} (h : B.Inv z) (hz : z + 1 ≤ 1000000) : B.counted.1.Inv (z + 1) := by
  unfold BS.counted
  split
  · exact h.mono (by omega)
  · have hlc := h.run.lc
    exact Inv.settled (Inv.set (ys := [{ noEnt with term := B.term }]) (Inv.lead2 h) (by show B.commit < B.lst + 1; omega) (Int.le_refl _) hz fun _ => rfl)
theorem Inv.stood {B : BS} {z : Int} (h : B.Inv z) : B.stood.Inv (z + 1) := by
  have hk := h.run.ok
  have hid := hk.id
  refine ⟨⟨⟨⟨hk.small.base0, hk.small.base1, hk.small.log1⟩, hk.base, hk.size, hk.id, hk.com⟩, h.run.lc, fun _ => ?_, fun e => absurd e (by show ¬ (1 : Int) = 2; omega)⟩, by have := h.len; show (B.log.length : Int) ≤ _; omega, by have := h.far; show B.lst ≤ _; omega, ?_, ?_⟩
  · show (List.set _ _ _).length = B.size.toNat; simp
  · have := h.term; show 0 ≤ B.term + 1 ∧ B.term + 1 ≤ _; omega
  · show -1 ≤ B.id; omega
theorem Inv.timeout {B : BS} {z : Int} (h : B.Inv z) (hz : z + 2 ≤ 1000000) : B.timeout.1.Inv (z + 2) := by
  unfold BS.timeout
  split
  · exact h.mono (by omega)
  · have := Inv.counted (Inv.stood h) (by omega)
    exact this.mono (by omega)
theorem Inv.propose {B : BS} {z : Int} (h : B.Inv z) (hz : z + 1 ≤ 1000000) (at_ born : Int) (text : ByteArray) : (B.propose at_ born text).2.1.Inv (z + 1) := by
  unfold BS.propose
  split
  · have hlc := h.run.lc
    exact Inv.settled (Inv.set (ys := [⟨B.term, at_, born, text⟩]) h (by omega) (Int.le_refl _) hz fun _ => rfl)
  · exact h.mono (by omega)
theorem Inv.turned {B : BS} {z : Int} (h : B.Inv z) {t : Int} (ht : 0 ≤ t ∧ t ≤ FAR) (hz : 0 ≤ z) : (B.turned t (-1) 0).Inv z := by
  have hk := h.run.ok
  have hF : FAR = 1099511627776 := rfl
  exact ⟨⟨⟨⟨hk.small.base0, hk.small.base1, hk.small.log1⟩, hk.base, hk.size, hk.id, hk.com⟩, h.run.lc, fun e => absurd e (by show ¬ (0 : Int) = 1; omega), fun e => absurd e (by show ¬ (0 : Int) = 2; omega)⟩, h.len, h.far, by show 0 ≤ t ∧ t ≤ _; omega, by show (-1 : Int) ≤ -1; omega⟩
theorem Inv.asked {B : BS} {z : Int} (h : B.Inv z) (M : Msg) (hf : 0 ≤ M.from_) : (B.asked M).1.Inv z := by
  unfold BS.asked
  split
  · have hk := h.run.ok
    exact ⟨⟨⟨⟨hk.small.base0, hk.small.base1, hk.small.log1⟩, hk.base, hk.size, hk.id, hk.com⟩, h.run.lc, h.run.vt, fun hr => ⟨(h.run.ld hr).nlen, (h.run.ld hr).mlen, (h.run.ld hr).nr, (h.run.ld hr).mr⟩⟩, h.len, h.far, h.term, by show -1 ≤ M.from_; omega⟩
  · exact h
theorem Inv.voted {B : BS} {z : Int} (h : B.Inv z) (M : Msg) (hz : z + 1 ≤ 1000000) : (B.voted M).1.Inv (z + 1) := by
  unfold BS.voted
  split
  · exact h.mono (by omega)
  · have hk := h.run.ok
    refine Inv.counted ⟨⟨⟨⟨hk.small.base0, hk.small.base1, hk.small.log1⟩, hk.base, hk.size, hk.id, hk.com⟩, h.run.lc, fun hr => ?_, fun hr => ⟨(h.run.ld hr).nlen, (h.run.ld hr).mlen, (h.run.ld hr).nr, (h.run.ld hr).mr⟩⟩, h.len, h.far, h.term, h.vote⟩ hz
    show (List.set _ _ _).length = _
    rw [List.length_set]; exact h.run.vt hr
theorem Inv.follows {B : BS} {z : Int} (h : B.Inv z) (f : Int) : ({ B with role := 0, lead := f } : BS).Inv z := by
  have hk := h.run.ok
  exact ⟨⟨⟨⟨hk.small.base0, hk.small.base1, hk.small.log1⟩, hk.base, hk.size, hk.id, hk.com⟩, h.run.lc, fun e => absurd e (by show ¬ (0 : Int) = 1; omega), fun e => absurd e (by show ¬ (0 : Int) = 2; omega)⟩, h.len, h.far, h.term, h.vote⟩
theorem merge_in {B : BS} {z : Int} (hr : B.role ≠ 2) (h : B.Inv z) : ∀ (xs : List Ent) (i : Int), z + xs.length ≤ 1000000 → B.commit ≤ i → i ≤ B.lst → (B.merge i xs).Inv (z + xs.length) ∧ i + xs.length ≤ (B.merge i xs).lst
  | [], i, hz, h1, h2 => by simp only [BS.merge]; exact ⟨by simpa using h, by simpa using h2⟩
  | e :: r, i, hz, h1, h2 => by
    have hb := h.run.ok.com
    simp only [List.length_cons] at hz
    push_cast at hz
    simp only [BS.merge]
    split
    · rename_i ht
      have hl : i + 1 ≤ B.lst := termAt_le (by rw [ht]) (by omega)
      have := merge_in hr h r (i + 1) (by omega) (by omega) hl
      refine ⟨this.1.mono (by simp only [List.length_cons]; push_cast; omega), ?_⟩
      have h3 := this.2
      simp only [List.length_cons]; push_cast; omega
    · refine ⟨Inv.set h (by omega) (by omega) (by simp only [List.length_cons]; push_cast; omega) (fun e => absurd e hr), ?_⟩
      rw [set_lst (by omega) (by omega)]; omega
theorem Inv.fed {B : BS} {z : Int} (h : B.Inv z) (M : Msg) (hz : z + M.list.length ≤ 1000000) : (B.fed M).1.Inv (z + M.list.length) := by
  unfold BS.fed
  split
  · exact h.mono (by omega)
  · have hF := Inv.follows h M.from_
    dsimp only
    split
    · exact hF.mono (by omega)
    · split
      · exact hF.mono (by omega)
      · rename_i hne hc
        have hlc := h.run.lc
        have hb := h.run.ok.com
        have hr0 : ({ B with role := 0, lead := M.from_ } : BS).role ≠ 2 := by show ¬ (0 : Int) = 2; omega
        split
        · rename_i hlt
          have hdl : ((M.list.drop (B.commit - M.index).toNat).length : Int) = M.index + M.list.length - B.commit := by rw [List.length_drop]; omega
          have hm := merge_in hr0 hF (M.list.drop (B.commit - M.index).toNat) B.commit (by omega) (Int.le_refl _) hlc
          obtain ⟨g1, g2, g3, g4⟩ := merge_same { B with role := 0, lead := M.from_ } (M.list.drop (B.commit - M.index).toNat) B.commit
          have g3 : (BS.merge { B with role := 0, lead := M.from_ } B.commit (M.list.drop (B.commit - M.index).toNat)).commit = B.commit := g3
          refine BS.Inv.mono (Inv.com hm.1 ?_ ?_) (by omega)
          · rw [g3]; unfold mx; split <;> omega
          · rw [g3]; have := hm.2; unfold mx mn; repeat' split
            all_goals omega
        · rename_i hge
          have hyes : B.termAt M.index = (M.prev, true) := by
            by_cases e : B.termAt M.index = (M.prev, true)
            · exact e
            · exact absurd ⟨hge, e⟩ hc
          have hil : M.index ≤ B.lst := termAt_le (by rw [hyes]) (by omega)
          have hm := merge_in hr0 hF M.list M.index hz (by show B.commit ≤ _; omega) hil
          obtain ⟨g1, g2, g3, g4⟩ := merge_same { B with role := 0, lead := M.from_ } M.list M.index
          have g3 : (BS.merge { B with role := 0, lead := M.from_ } M.index M.list).commit = B.commit := g3
          refine Inv.com hm.1 ?_ ?_
          · rw [g3]; unfold mx; split <;> omega
          · rw [g3]; have := hm.2; unfold mx mn; repeat' split
            all_goals omega
theorem Inv.ldr {B : BS} {z : Int} (h : B.Inv z) {N Mt : List Int} (hl : ({ B with next := N, mat := Mt } : BS).Ldr) (hr : B.role = 2) : ({ B with next := N, mat := Mt } : BS).Inv z := by
  have hk := h.run.ok
  exact ⟨⟨⟨⟨hk.small.base0, hk.small.base1, hk.small.log1⟩, hk.base, hk.size, hk.id, hk.com⟩, h.run.lc, fun e => absurd (e.symm.trans hr) (by decide), fun _ => hl⟩, h.len, h.far, h.term, h.vote⟩
theorem Inv.heard {B : BS} {z : Int} (h : B.Inv z) (M : Msg) (hf : M.from_.toNat < B.size.toNat) : (B.heard M).1.Inv z := by
  unfold BS.heard
  split
  · exact h
  · rename_i hr
    have hr : B.role = 2 := by omega
    have hL := h.run.ld hr
    have hl0 : 0 ≤ B.lst := by have := h.run.ok.small.base0; have := lst_def B; omega
    dsimp only
    split
    · exact Inv.ldr h (hL.unfed hf M.index) hr
    · have h2 : (B.fedTo M.from_.toNat M.index).Inv z := Inv.ldr h (hL.fedTo hf M.index hl0) hr
      split
      · exact Inv.settled h2
      · exact Inv.settled h2
theorem rebase_lst {B : BS} {i : Int} (h1 : B.base ≤ i) (h2 : i ≤ B.lst) (t : Int) (sn : ByteArray) : (B.rebase i t sn (B.log.drop (i - B.base).toNat)).lst = B.lst := by
  have e : (B.rebase i t sn (B.log.drop (i - B.base).toNat)).lst = i + ((B.log.drop (i - B.base).toNat).length : Int) := rfl
  have := lst_def B
  rw [e, List.length_drop]; omega
theorem Inv.cut {B : BS} {z : Int} (h : B.Inv z) {i : Int} (h1 : B.base < i) (h2 : i ≤ B.commit) (hz : z ≤ 1000000) (t : Int) (sn : ByteArray) : (B.rebase i t sn (B.log.drop (i - B.base).toNat)).Inv z := by
  have hk := h.run.ok
  have hlc := h.run.lc
  have hb0 := hk.small.base0
  have hF : FAR = 1099511627776 := rfl
  have g := rebase_lst (B := B) (i := i) (by omega) (by omega) t sn
  have hlen : (((B.rebase i t sn (B.log.drop (i - B.base).toNat)).log.length : Nat) : Int) ≤ z := by
    have := h.len
    show ((B.log.drop _).length : Int) ≤ z
    rw [List.length_drop]; omega
  have hfar := h.far
  refine ⟨⟨BS.Ok.of (by show 0 ≤ i; omega) (by omega) (by omega) hk.size hk.id h2, by rw [g]; exact hlc, h.run.vt, fun hr => ?_⟩, hlen, by omega, h.term, h.vote⟩
  have hL := h.run.ld hr
  exact ⟨hL.nlen, hL.mlen, fun j x hx => by rw [g]; exact hL.nr j x hx, fun j x hx => by rw [g]; exact hL.mr j x hx⟩
theorem Inv.given {B : BS} {z : Int} (h : B.Inv z) (M : Msg) (hi : M.index ≤ FAR) (hz : 0 ≤ z ∧ z ≤ 1000000) : (B.given M).1.Inv z := by
  have hF : FAR = 1099511627776 := rfl
  unfold BS.given
  split
  · exact h
  · split
    · exact Inv.follows h M.from_
    · rename_i hr hgt
      have hk := h.run.ok
      have hb0 := hk.small.base0
      have hbc := hk.com
      have hlen := h.len
      have hfar := h.far
      have key : ∀ rest : List Ent, (rest.length : Int) ≤ z → M.index + rest.length ≤ 2 * FAR + z → ({ ({ B with role := 0, lead := M.from_ }.rebase M.index M.prev M.snap rest) with commit := M.index } : BS).Inv z := by
        intro rest h1 h2
        have e : ({ ({ B with role := 0, lead := M.from_ }.rebase M.index M.prev M.snap rest) with commit := M.index } : BS).lst = M.index + rest.length := rfl
        exact ⟨⟨BS.Ok.of (by show 0 ≤ M.index; omega) (by rw [e]; omega) (by show rest.length ≤ _; omega) hk.size hk.id (Int.le_refl _), by rw [e]; show M.index ≤ _; omega, fun e => absurd e (by show ¬ (0 : Int) = 1; omega), fun e => absurd e (by show ¬ (0 : Int) = 2; omega)⟩, h1, by rw [e]; exact h2, h.term, h.vote⟩
      split
      · rename_i ht
        have hil : M.index ≤ B.lst := termAt_le (by rw [ht]) (by omega)
        have hd := lst_def B
        refine key _ ?_ ?_ <;> · rw [List.length_drop]; omega
      · exact key [] (by simp; omega) (by simp; omega)
theorem Inv.take {B : BS} {z : Int} (h : B.Inv z) (M : Msg) (hz : 0 ≤ z ∧ z + (1 + M.list.length) ≤ 1000000) : (B.take M).1.Inv (z + (1 + M.list.length)) := by
  unfold BS.take
  split
  · exact h.mono (by omega)
  · rename_i hst
    have hst : M.strange B.id B.size = false := by simpa using hst
    unfold Msg.strange at hst
    simp only [Bool.or_eq_false_iff, decide_eq_false_iff_not] at hst
    obtain ⟨f1, f2, f3, f4, f5, f6, f7, f8, f9, f10, ⟨f11, f12⟩, f13, f14⟩ := hst
    have hF : FAR = 1099511627776 := rfl
    have hs : (B.seen M).Inv z ∧ (B.seen M).size = B.size := by
      unfold BS.seen
      split
      · exact ⟨Inv.turned h (by omega) hz.1, rfl⟩
      · exact ⟨h, rfl⟩
    obtain ⟨hs, hsz⟩ := hs
    split
    · exact hs.mono (by omega)
    · unfold BS.does
      split
      · exact (Inv.asked hs M (by omega)).mono (by omega)
      · split
        · exact (Inv.voted hs M (by omega)).mono (by omega)
        · split
          · exact (Inv.fed hs M (by omega)).mono (by omega)
          · split
            · exact (Inv.heard hs M (by rw [hsz]; omega)).mono (by omega)
            · exact (Inv.given hs M (by omega) ⟨hz.1, by omega⟩).mono (by omega)
theorem Inv.new {id size : Int} (h : okNew id size) : (newBS id size).Inv 0 := by
  obtain ⟨h1, h2, h3, h4⟩ := h
  have hF : FAR = 1099511627776 := rfl
  have e : (newBS id size).lst = 0 := rfl
  exact ⟨⟨BS.Ok.of (by show (0 : Int) ≤ 0; omega) (by rw [e]; omega) (by show 0 ≤ _; omega) ⟨h1, h2⟩ ⟨h3, h4⟩ (by show (0 : Int) ≤ 0; omega), by rw [e]; show (0 : Int) ≤ 0; omega, fun e => absurd e (by show ¬ (0 : Int) = 1; omega), fun e => absurd e (by show ¬ (0 : Int) = 2; omega)⟩, by show (0 : Int) ≤ 0; omega, by rw [e]; omega, by show (0 : Int) ≤ 0 ∧ (0 : Int) ≤ _; omega, by show (-1 : Int) ≤ -1; omega⟩
end Go.Proofs.YtcdggocbjnmeaaaGreat
end
section
set_option linter.unusedVariables false
set_option linter.unusedSimpArgs false
set_option maxHeartbeats 1000000
namespace Go.Proofs.YtcdggocbjnmeaaaGreat
open Fw Go
attribute [-simp] Fw.W.ld_iff Fw.W.st_iff
section
variable {s : PH} {b : Nat} {l v n m : Tri} {B : BS}
/-- the log from a place on, copied -/
theorem clone_log {K : MDen [(false, [.slice])] → W.T} (h : Bal s b l v n m B) (hs : B.Small) {k : Nat} (hk : k ≤ B.log.length) (hK : ∀ (t : Tri) s', rowE entE s' 43 t.1 t.2.1 t.2.2 (B.log.drop k) → Fw.Mod [] s s' → (∀ g ∈ Fw.blk t.1, s g = none) → K ((t, ()), ()) s') :
    W.call Tryz.prog 79 #[.slice (if l.2.2 = k then l.1 else Option.map (fun x => x.add (k * 4)) l.1) (l.2.1 - k) (l.2.2 - k)] (false, [(false, [.slice])]) K s := by
  have hll : l.2.1 = B.log.length := h.log.len
  have hlc2 := h.log.le
  obtain ⟨q1, q2, q3⟩ := hs
  have hsrc := h.log.src (i := k) (m := l.2.1 - k) (by omega)
  rw [List.take_of_length_le (by rw [List.length_drop, hll]; exact Nat.le_refl _)] at hsrc
  refine W.call_of (c_Clone (ys := B.log.drop k) hsrc (by rw [List.length_drop, hll]) (by omega)) ?_
  rintro _ s4 ⟨t4, rfl, _, hrow4, m4, hf4⟩
  exact ⟨((t4, ()), ()), rfl, hK t4 s4 hrow4 m4 hf4⟩
def BS.cut (B : BS) (i : Int) (sn : ByteArray) : BS := if i ≤ B.base ∨ i > B.commit then B else B.rebase i (B.termAt i).1 sn (B.log.drop (i - B.base).toNat)
def BS.cuts (B : BS) (i : Int) : Bool := !decide (i ≤ B.base ∨ i > B.commit)
def CutPost (B : BS) (i : Int) (sn : ByteArray) (b : Nat) (l v n m : Tri) (s : PH) (x : Value) (s' : PH) : Prop := ∃ l' : Tri, x = .bool (B.cuts i) ∧ Bal s' b l' v n m (B.cut i sn) ∧ Step (bL b l v n m) (bL b l' v n m) s s'
theorem c_Cut (h : Bal s b l v n m B) (hs : B.Small) (hbs : B.base ≤ 4611686016279904256) (hlc : B.commit ≤ B.lst) (i : Int) (sn : ByteArray) : DCalls Tryz.prog 52 #[bptr b, .int .i64 i, .string sn] s (CutPost B i sn b l v n m s) := by
  refine ok_Cut b i sn _ s ?_
  unfold vc_Cut
  have hb := h.cell
  have hnl := num_lst hs hbs
  obtain ⟨q1, q2, q3⟩ := id hs
  have hd := lst_def B
  unfold Num at hnl
  have no : (i ≤ B.base ∨ i > B.commit) → CutPost B i sn b l v n m s (.bool false) s := fun hc => ⟨l, by unfold BS.cuts; rw [decide_eq_true hc]; (first | done | rfl), by unfold BS.cut; rw [if_pos hc]; exact h, Step.refl _ _⟩
  simp only [RP_join]
  refine W.join_gen (fun z s' => s' = s ∧ z = () ∧ ¬ (i ≤ B.base ∨ i > B.commit)) ?_ ?_
  · rintro _ s ⟨rfl, rfl, hc⟩
    obtain ⟨k, hk⟩ : ∃ k : Nat, (i - B.base).toNat = k := ⟨_, rfl⟩
    have hw : IntKind.i64.wrap (i - B.base) = (k : Int) := by rw [wrap_in (by omega) (by omega)]; omega
    have hll : l.2.1 = B.log.length := h.log.len
    have hlc2 := h.log.le
    refine W.call_of (c_term h hs (i := i) (by unfold Num; omega)) ?_
    rintro _ s2 ⟨rfl, m2⟩
    refine ⟨(((B.termAt i).1, ()), ((B.termAt i).2, ()), ()), rfl, ?_⟩
    have h2 := h.new m2
    have hb2 := h2.cell
    simp [W.ld_at hb2, hw]
    refine ⟨⟨by omega, by omega⟩, ?_⟩
    refine clone_log h2 hs (k := k) (by omega) ?_
    intro t s3 hrow m3 hf
    have h3 := h2.new m3
    refine W.call_of (c_rebase h3 i (B.termAt i).1 sn hrow) ?_
    rintro _ s4 ⟨rfl, h4, m4⟩
    refine ⟨(), rfl, (t.1, t.2.1, t.2.2), by unfold BS.cuts; rw [decide_eq_false hc]; (first | done | rfl), by unfold BS.cut; rw [if_neg hc, hk]; exact h4, ?_⟩
    have m23 := m2.trans m3
    refine ⟨(m23.mono (by simp)).trans (m4.mono (by simp [bL])), fun z hz => ?_⟩
    simp only [bL, List.mem_cons, List.mem_append] at hz ⊢
    rcases hz with hz | hz | hz
    · exact .inl (.inl hz)
    · exact .inr (m2.none (hf z hz) (by simp))
    · exact .inl (.inr (.inr hz))
  · intro J hJ
    simp [W.ld_at hb, W.br_iff]
    refine ⟨fun h1 => no (.inl h1), fun h1 => ⟨fun h2 => no (.inr h2), fun h2 => hJ _ _ ⟨rfl, rfl, by omega⟩⟩⟩
structure Dl where
  term : Int
  vote : Int
  whole : Bool
  base : Int
  baseTerm : Int
  snap : ByteArray
  from_ : Int
  list : List Ent
abbrev dlCells (D : Dl) (t : Tri) : List Value := [.int .i64 D.term, .int .i64 D.vote, .bool D.whole, .int .i64 D.base, .int .i64 D.baseTerm, .string D.snap, .int .i64 D.from_, .slice t.1 t.2.1 t.2.2]
abbrev dlV (D : Dl) (t : Tri) : Value := .agg #[.int .i64 D.term, .int .i64 D.vote, .bool D.whole, .int .i64 D.base, .int .i64 D.baseTerm, .string D.snap, .int .i64 D.from_, .slice t.1 t.2.1 t.2.2]
def BS.deltaOf (B : BS) : Dl := if B.whole = true then ⟨B.term, B.vote, true, B.base, B.baseTerm, B.snap, B.base + 1, B.log⟩ else ⟨B.term, B.vote, false, 0, 0, ⟨#[]⟩, B.from_, B.log.drop (B.from_ - B.base - 1).toNat⟩
def BS.cleaned (B : BS) : BS := { B with touched := false, whole := false, from_ := B.lst + 1 }
def DeltaPost (B : BS) (b : Nat) (l v n m : Tri) (s : PH) (x : Value) (s' : PH) : Prop :=
  (B.touched = false ∧ x = .tuple #[noDelta, .bool false] ∧ Bal s' b l v n m B ∧ Fw.Mod [] s s') ∨
  (B.touched = true ∧ ∃ t : Tri, x = .tuple #[dlV B.deltaOf t, .bool true] ∧ rowE entE s' 43 t.1 t.2.1 t.2.2 B.deltaOf.list ∧ Bal s' b l v n m B.cleaned ∧ Fw.Mod [b] s s' ∧ ∀ y ∈ Fw.blk t.1, s y = none)
def DelJ (B : BS) (r q : Nat) (s : PH) (z : MDen [(false, [.addr]), (false, [.addr])]) (s' : PH) : Prop :=
  z = ((Addr.mk r 0 none, ()), (Addr.mk q 0 none, ()), ()) ∧ s' q = some (.cells (dlCells B.deltaOf noTri).toArray 113 (0, 0)) ∧ Fw.Mod [] s s'
theorem c_Delta (h : Bal s b l v n m B) (hs : B.Small) (hbs : B.base ≤ 4611686016279904256) (hf : B.whole = false → B.base < B.from_ ∧ B.from_ ≤ B.lst + 1) : DCalls Tryz.prog 62 #[bptr b] s (DeltaPost B b l v n m s) := by
  refine ok_Delta b _ s ?_
  unfold vc_Delta
  have hb := h.cell
  have hnl := num_lst hs hbs
  obtain ⟨q1, q2, q3⟩ := id hs
  have hd := lst_def B
  unfold Num at hnl
  simp only [RP_nw]
  refine W.nw_of fun r s1 hr m1 k1 => ?_
  have h1 := h.new m1
  have hb1 := h1.cell
  simp only [RP_join]
  refine W.join_gen (fun z s' => s' = s1 ∧ z = ((Addr.mk r 0 none, ()), ()) ∧ B.touched = true) ?_ ?_
  · rintro _ s1 ⟨rfl, rfl, ht⟩
    simp [W.ld_at hb1, -W.nw_iff]
    refine W.nw_of fun q s2 hq m2 k2 => ?_
    have k1' := m2.at k1 (by simp)
    have hb2 := m2.at hb1 (by simp)
    have hrq : r ≠ q := ne_of_known k1 hq
    have hbq : b ≠ q := ne_of_known hb1 hq
    have hbr : b ≠ r := ne_of_known hb hr
    simp [W.st_at k2]
    have m3 : Fw.Mod [] s1 (s2.upd q (.cells #[.int .i64 B.term, .int .i64 B.vote, .bool false, .int .i64 0, .int .i64 0, .string ⟨#[]⟩, .int .i64 B.from_, .slice none 0 0] 113 (0, 0))) := m2.updLater (.inr hq)
    have k3 := PH.upd_same s2 q (.cells #[.int .i64 B.term, .int .i64 B.vote, .bool false, .int .i64 0, .int .i64 0, .string ⟨#[]⟩, .int .i64 B.from_, .slice none 0 0] 113 (0, 0))
    generalize s2.upd q (.cells #[.int .i64 B.term, .int .i64 B.vote, .bool false, .int .i64 0, .int .i64 0, .string ⟨#[]⟩, .int .i64 B.from_, .slice none 0 0] 113 (0, 0)) = s3 at m3 k3 ⊢
    have hb3 := m3.at hb1 (by simp)
    refine W.join_gen (DelJ B r q s1) ?_ ?_
    · rintro _ s4 ⟨rfl, k4, m4⟩
      have h4 := h1.new m4
      have hb4 := h4.cell
      obtain ⟨k, hk, hkl, hw⟩ : ∃ k : Nat, B.deltaOf.list = B.log.drop k ∧ k ≤ B.log.length ∧ IntKind.i64.wrap (IntKind.i64.wrap (B.deltaOf.from_ - B.base) - 1) = (k : Int) := by
        unfold BS.deltaOf
        split
        · exact ⟨0, by simp, Nat.zero_le _, by dsimp only; rw [wrap_in (n := B.base + 1 - B.base) (by omega) (by omega), wrap_in (by omega) (by omega)]; simp; omega⟩
        · rename_i hwf
          have := hf (by simpa using hwf)
          refine ⟨_, rfl, by omega, ?_⟩
          dsimp only
          rw [wrap_in (n := B.from_ - B.base) (by omega) (by omega), wrap_in (by omega) (by omega)]; omega
      have hll : l.2.1 = B.log.length := h4.log.len
      have hlc2 := h4.log.le
      simp [W.ld_at hb4, W.ld_at k4, hw]
      refine ⟨⟨by omega, by omega⟩, ?_⟩
      refine clone_log h4 hs hkl ?_
      intro t s5 hrow m5 hft
      rw [← hk] at hrow
      have h5 := h4.new m5
      have k5 := m5.at k4 (by simp)
      simp [W.st_at k5]
      have hft1 : ∀ g ∈ Fw.blk t.1, s1 g = none := fun g hg => m4.none (hft g hg) (by simp)
      have hft0 : ∀ g ∈ Fw.blk t.1, s g = none := fun g hg => m1.none (hft1 g hg) (by simp)
      have hqt : q ∉ Fw.blk t.1 := row_ne2 hrow k5 (by decide)
      have m6 : Fw.Mod [] s1 (s5.upd q (.cells (dlCells B.deltaOf t).toArray 113 (0, 0))) := (m4.trans m5).updLater (.inr hq)
      have k6 : (s5.upd q (.cells (dlCells B.deltaOf t).toArray 113 (0, 0))) q = some (.cells (dlCells B.deltaOf t).toArray 113 (0, 0)) := PH.upd_same _ _ _
      have hrow6 : rowE entE (s5.upd q (.cells (dlCells B.deltaOf t).toArray 113 (0, 0))) 43 t.1 t.2.1 t.2.2 B.deltaOf.list := hrow.mod (L := [q]) (Mod.upd (by simp)) fun x hx => by simp; rintro rfl; exact hqt hx
      have hgo : ∀ s6, Fw.Mod [] s1 s6 → s6 q = some (.cells (dlCells B.deltaOf t).toArray 113 (0, 0)) → rowE entE s6 43 t.1 t.2.1 t.2.2 B.deltaOf.list →
          W.call Tryz.prog 87 #[bptr b] (true, []) (fun x => W.ld [.int .i64, .int .i64, .bool, .int .i64, .int .i64, .str, .int .i64, .slice] ⟨q, 0, none⟩ fun x =>
            W.st ⟨r, 0, none⟩ [.int .i64 x.1, .int .i64 x.2.1, .bool x.2.2.1, .int .i64 x.2.2.2.1, .int .i64 x.2.2.2.2.1, .string x.2.2.2.2.2.1, .int .i64 x.2.2.2.2.2.2.1, .slice x.2.2.2.2.2.2.2.1.1 x.2.2.2.2.2.2.2.1.2.1 x.2.2.2.2.2.2.2.1.2.2]
            (W.ld [.int .i64, .int .i64, .bool, .int .i64, .int .i64, .str, .int .i64, .slice] ⟨r, 0, none⟩ fun x =>
              W.ret (DeltaPost B b l v n m s) (.tuple #[.agg #[.int .i64 x.1, .int .i64 x.2.1, .bool x.2.2.1, .int .i64 x.2.2.2.1, .int .i64 x.2.2.2.2.1, .string x.2.2.2.2.2.1, .int .i64 x.2.2.2.2.2.2.1, .slice x.2.2.2.2.2.2.2.1.1 x.2.2.2.2.2.2.2.1.2.1 x.2.2.2.2.2.2.2.1.2.2], .bool true]))) s6 := by
        intro s6 m6 k6 hrow6
        have h6 := h1.new m6
        refine W.call_of (c_clean h6 hs) ?_
        rintro _ s7 ⟨rfl, h7, m7⟩
        refine ⟨(), rfl, ?_⟩
        have k7 := m7.at k6 (by simpa using hbq.symm)
        have kr7 := m7.at (m6.at k1 (by simp)) (by simpa using hbr.symm)
        have hrow7 := hrow6.mod m7 fun x hx => by simp; rintro rfl; have := hft0 _ hx; rw [hb] at this; cases this
        have hrt : r ∉ Fw.blk t.1 := row_ne2 hrow7 kr7 (by decide)
        simp [W.ld_at k7, W.st_at kr7]
        refine .inr ⟨ht, t, rfl, hrow7.mod (L := [r]) (Mod.upd (by simp)) fun x hx => by simp; rintro rfl; exact hrt hx, ?_, ?_, hft0⟩
        · exact Bal.mod (M := [r]) h7 (Mod.upd (by simp)) fun x hx => by simp; rintro rfl; exact h.known _ hx hr
        · exact (((m1.trans m6).mono (by simp)).trans m7).updLater (.inr hr)
      exact hgo _ m6 k6 hrow6
    · intro J hJ
      have hmod : ∀ o, Fw.Mod [] s1 (s3.upd q o) := fun o => m3.updLater (.inr hq)
      simp [W.ld_at hb3, W.br_iff, W.st_at k3, fun o => W.still_at (upd_at hb3 hbq o), fun o => W.ld_at (upd_at hb3 hbq o)]
      have hwb : IntKind.i64.wrap (B.base + 1) = B.base + 1 := wrap_in (by omega) (by omega)
      rw [hwb]
      refine ⟨fun hw => hJ _ _ ⟨rfl, ?_, hmod _⟩, fun hw => hJ _ _ ⟨rfl, ?_, m3⟩⟩
      · rw [PH.upd_same]; unfold BS.deltaOf; rw [if_pos hw]
      · rw [k3]; unfold BS.deltaOf; rw [if_neg (by rw [hw]; simp)]
  · intro J hJ
    simp [W.ld_at hb1, W.br_iff, W.st_at k1]
    refine ⟨fun hf => .inl ⟨hf, rfl, ?_, m1.updLater (.inr hr)⟩, fun ht => hJ _ _ ⟨rfl, rfl, ht⟩⟩
    exact h.new (m1.updLater (.inr hr))
end
end Go.Proofs.YtcdggocbjnmeaaaGreat
end
section
set_option linter.unusedVariables false
set_option linter.unusedSimpArgs false
set_option maxHeartbeats 1000000
set_option maxRecDepth 100000
namespace Go.Proofs.YtcdggocbjnmeaaaGreat
open Fw Go
attribute [-simp] Fw.W.ld_iff Fw.W.st_iff
abbrev msgA (M : Msg) (t : Tri) : Array Value :=
  #[.int .i64 M.kind, .int .i64 M.from_, .int .i64 M.to, .int .i64 M.term, .int .i64 M.index, .int .i64 M.prev, .int .i64 M.commit, .bool M.good, .slice t.1 t.2.1 t.2.2, .string M.snap]
abbrev dlA (D : Dl) (t : Tri) : Array Value := #[.int .i64 D.term, .int .i64 D.vote, .bool D.whole, .int .i64 D.base, .int .i64 D.baseTerm, .string D.snap, .int .i64 D.from_, .slice t.1 t.2.1 t.2.2]
def Msg.nums (M : Msg) : List Int := [M.kind, M.from_, M.to, M.term, M.index, M.prev, M.commit]
structure Msg.I (M : Msg) : Prop where
  nums : ∀ x ∈ M.nums, I64 x
  list : ∀ x ∈ M.list, x.I
  len : M.list.length ≤ 1099511627776
def encM (M : Msg) : List UInt8 := M.nums.flatMap encN ++ (encB M.good ++ (encL M.list ++ encT M.snap))
structure Dl.I (D : Dl) : Prop where
  nums : I64 D.term ∧ I64 D.vote ∧ I64 D.base ∧ I64 D.baseTerm ∧ I64 D.from_
  list : ∀ x ∈ D.list, x.I
  len : D.list.length ≤ 1099511627776
def encD (D : Dl) : List UInt8 := [D.term, D.vote].flatMap encN ++ (encB D.whole ++ ([D.base, D.baseTerm].flatMap encN ++ (encT D.snap ++ ([D.from_].flatMap encN ++ encL D.list))))
/-- a struct that went by: its list's row -/
def PieceQ (c pb : Nat) (rd : Bool) (g : List Nat) (bs' : List UInt8) (O : Tri → Obj) (t0 : Tri) (l : List Ent) (s : PH) (y : Value) (s' : PH) : Prop :=
  y = .tuple #[] ∧ ∃ (t : Tri) (g' : List Nat), Cod s' c rd g' bs' ∧ (∀ x ∈ g', x ∈ g ∨ s x = none) ∧ Fw.Mod (c :: pb :: g) s s' ∧ s' pb = some (O t) ∧ rowE entE s' 43 t.1 t.2.1 t.2.2 l ∧
    (rd = false → t = t0) ∧ (rd = true → ∀ x ∈ Fw.blk t.1, s x = none ∨ x ∈ g)
theorem ptr_one {pb off : Nat} : ∀ i, i < 1 → (#[Value.pointer (some ⟨pb, off, none⟩)] : Array Value)[i]? = some (.pointer (some ⟨pb, off + i, none⟩)) := by
  intro i hi
  have : i = 0 := by omega
  subst this; (first | done | rfl)
theorem c_wmsg {s : PH} {c pb : Nat} {rd : Bool} {g : List Nat} {bs bs' : List UInt8} {e : TypeId} {M old : Msg} {t0 : Tri} (h : Cod s c rd g bs) (hp : s pb = some (.cells (msgA old t0) e (0, 0))) (hne : pb ≠ c) (hpg : pb ∉ g)
    (hw : rd = false → old = M ∧ rowE entE s 43 t0.1 t0.2.1 t0.2.2 M.list ∧ ∀ x ∈ Fw.blk t0.1, x ≠ c ∧ x ≠ pb ∧ x ∉ g) (hrd : rd = true → t0 = noTri) (hI : M.I) (ha : Adv rd (encM M) bs bs') (hl : bs'.length ≤ 1099511627776) :
    DCalls Tryz.prog 89 #[cptr c, .pointer (some ⟨pb, 0, none⟩)] s (PieceQ c pb rd g bs' (fun t => .cells (msgA M t) e (0, 0)) t0 M.list s) := by
  refine ok_wmsg c ⟨pb, 0, none⟩ _ s ?_
  unfold vc_wmsg
  obtain ⟨b1, a1, ha, l1⟩ := ha.split h.lenB hl
  simp only [RP_unSome, W.unSome_some, add_mk, Nat.zero_add, RP_nw]
  refine W.nw_of fun r s1 hr m1 k1 => ?_
  have hp1 := m1.at hp (by simp)
  simp only [RP_call]
  refine W.call_of (c_wnums (pb := pb) (off := 0) (xs := M.nums) (old := old.nums) (h.new m1) hp1 hne hpg k1 (by rintro rfl; exact h.c_known hr) (fun hx => h.g_known r hx hr) (ne_of_known' hp hr) ?_ ?_ rfl (by simp [Msg.nums]) (fun e => by rw [(hw e).1]) hI.nums a1 l1) ?_
  · intro i hi
    match i, hi with
    | 0, _ => rfl
    | 1, _ => rfl
    | 2, _ => rfl
    | 3, _ => rfl
    | 4, _ => rfl
    | 5, _ => rfl
    | 6, _ => rfl
    | i + 7, hi => simp [Msg.nums] at hi; omega
  · intro i x hx
    match i, hx with
    | 0, hx => simp [Msg.nums] at hx; simp [hx]
    | 1, hx => simp [Msg.nums] at hx; simp [hx]
    | 2, hx => simp [Msg.nums] at hx; simp [hx]
    | 3, hx => simp [Msg.nums] at hx; simp [hx]
    | 4, hx => simp [Msg.nums] at hx; simp [hx]
    | 5, hx => simp [Msg.nums] at hx; simp [hx]
    | 6, hx => simp [Msg.nums] at hx; simp [hx]
    | i + 7, hx => simp [Msg.nums] at hx
  rintro _ s2 ⟨rfl, w2⟩
  refine ⟨(), rfl, ?_⟩
  obtain ⟨g2, hC2, hg2, m2, k2, hpg2⟩ := w2.ok (by rw [hp1]; simp) hpg
  have k2' : s2 pb = some (.cells (msgA { M with good := old.good, list := old.list, snap := old.snap } t0) e (0, 0)) := k2
  have m02 : Fw.Mod (c :: pb :: g) s s2 := (m1.mono (by simp) : Fw.Mod (c :: pb :: g) s s1).trans m2
  have hg02 : ∀ x ∈ g2, x ∈ g ∨ s x = none := fun x hx => (hg2 x hx).imp_right fun h => m1.none h (by simp)
  obtain ⟨b2, a2, ha, l2⟩ := ha.split hC2.lenB hl
  simp only [W.unSome_some, add_mk, Nat.zero_add]
  refine W.call_of (c_wflag (pb := pb) (off := 7) (b := M.good) (y := old.good) hC2 k2' hne hpg2 rfl (fun e => by rw [(hw e).1]) a2 l2) ?_
  rintro _ s3 ⟨rfl, w3⟩
  refine ⟨(), rfl, ?_⟩
  have w3 := went_trans hg02 m02 (Mod.refl _ _) (by rw [k2']; simp) w3
  obtain ⟨g3, hC3, hg3, m3, k3, hpg3⟩ := w3.ok (by rw [hp]; simp) hpg
  have k3' : s3 pb = some (.cells (msgA { M with list := old.list, snap := old.snap } t0) e (0, 0)) := k3
  obtain ⟨b3, a3, ha, l3⟩ := ha.split hC3.lenB hl
  simp only [W.unSome_some, add_mk, Nat.zero_add]
  refine W.call_of (c_witems (pb := pb) (off := 8) (t0 := t0) (l := M.list) hC3 k3' hne hpg3 rfl (fun e => ?_) hrd hI.list a3 l3 hI.len) ?_
  · obtain ⟨_, hrow, hap⟩ := hw e
    refine ⟨hrow.mod m3 fun x hx => ?_, fun x hx => ⟨(hap x hx).1, (hap x hx).2.1, fun hg => (hg3 x hg).elim (hap x hx).2.2 (hrow.known x hx)⟩⟩
    simp; exact ⟨(hap x hx).1, (hap x hx).2.1, (hap x hx).2.2⟩
  rintro _ s4 ⟨rfl, t, g4, hC4, hg4, m4, k4, hrow4, ht1, ht2, hapg⟩
  refine ⟨(), rfl, ?_⟩
  have k4' : s4 pb = some (.cells (msgA { M with snap := old.snap } t) e (0, 0)) := k4
  have hpg4 : pb ∉ g4 := fun hx => (hg4 pb hx).elim hpg3 (by rw [k3']; simp)
  have hfr : rd = true → ∀ x ∈ Fw.blk t.1, s x = none ∨ x ∈ g := fun e x hx => by
    rcases ht2 e x hx with h' | h'
    · by_cases hxL : x ∈ c :: pb :: g
      · rcases List.mem_cons.1 hxL with rfl | hxL
        · exact absurd h' hC3.c_known
        rcases List.mem_cons.1 hxL with rfl | hxL
        · rw [k3'] at h'; cases h'
        · exact .inr hxL
      · exact .inl (m3.none h' hxL)
    · exact (hg3 x h').symm
  have hapt : ∀ x ∈ Fw.blk t.1, x ≠ c ∧ x ≠ pb := fun x hx => by
    cases hrdv : rd with
    | true =>
      have := hfr hrdv x hx
      refine ⟨?_, ?_⟩
      · rintro rfl; exact this.elim h.c_known h.c_ng
      · rintro rfl; exact this.elim (by rw [hp]; simp) hpg
    | false =>
      have e := ht1 hrdv
      subst e
      exact ⟨((hw hrdv).2.2 x hx).1, ((hw hrdv).2.2 x hx).2.1⟩
  simp only [W.unSome_some, add_mk, Nat.zero_add]
  refine W.nw_of fun q s5 hq m5 k5 => ?_
  have hp5 := m5.at k4' (by simp)
  refine W.call_of (c_wtexts (pb := pb) (off := 9) (t := M.snap) (y := old.snap) (hC4.new m5) hp5 hne hpg4 k5 (by rintro rfl; exact hC4.c_known hq) (fun hx => hC4.g_known q hx hq) (ne_of_known' k4' hq) rfl rfl (fun e => by rw [(hw e).1]) ha hl) ?_
  rintro _ s6 ⟨rfl, w6⟩
  refine ⟨(), rfl, ?_⟩
  have m04 : Fw.Mod (c :: pb :: g) s s4 := by
    refine m3.fresh m4 fun y hy => ?_
    rcases List.mem_cons.1 hy with rfl | hy
    · exact .inl (by simp)
    rcases List.mem_cons.1 hy with rfl | hy
    · exact .inl (by simp)
    · exact (hg3 y hy).imp (fun h => by simp [h]) _root_.id
  have hg04 : ∀ x ∈ g4, x ∈ g ∨ s x = none := fun x hx => by
    rcases hg4 x hx with h' | h'
    · exact hg3 x h'
    · by_cases hxL : x ∈ c :: pb :: g
      · rcases List.mem_cons.1 hxL with rfl | hxL
        · exact absurd hx hC4.c_ng
        rcases List.mem_cons.1 hxL with rfl | hxL
        · exact absurd hx hpg4
        · exact .inl hxL
      · exact .inr (m3.none h' hxL)
  have hrow6 : rowE entE s6 43 t.1 t.2.1 t.2.2 M.list := by
    obtain ⟨g6, _, _, m6, _⟩ := w6
    exact (hrow4.mod m5 (by simp)).mod m6 (by intro x hx; simp; exact ⟨(hapt x hx).1, (hapt x hx).2, hapg x hx⟩)
  obtain ⟨g6, hC6, hg6, m6, k6⟩ := went_trans hg04 m04 m5 (by rw [hp5]; simp) w6
  exact ⟨rfl, t, g6, hC6, hg6, m6, k6, hrow6, ht1, hfr⟩
end Go.Proofs.YtcdggocbjnmeaaaGreat
end
section
set_option linter.unusedVariables false
set_option linter.unusedSimpArgs false
set_option maxHeartbeats 1000000
set_option maxRecDepth 100000
namespace Go.Proofs.YtcdggocbjnmeaaaGreat
open Fw Go
attribute [-simp] Fw.W.ld_iff Fw.W.st_iff
theorem c_wdelta {s : PH} {c pb : Nat} {rd : Bool} {g : List Nat} {bs bs' : List UInt8} {e : TypeId} {D old : Dl} {t0 : Tri} (h : Cod s c rd g bs) (hp : s pb = some (.cells (dlA old t0) e (0, 0))) (hne : pb ≠ c) (hpg : pb ∉ g)
    (hw : rd = false → old = D ∧ rowE entE s 43 t0.1 t0.2.1 t0.2.2 D.list ∧ ∀ x ∈ Fw.blk t0.1, x ≠ c ∧ x ≠ pb ∧ x ∉ g) (hrd : rd = true → t0 = noTri) (hI : D.I) (ha : Adv rd (encD D) bs bs') (hl : bs'.length ≤ 1099511627776) :
    DCalls Tryz.prog 85 #[cptr c, .pointer (some ⟨pb, 0, none⟩)] s (PieceQ c pb rd g bs' (fun t => .cells (dlA D t) e (0, 0)) t0 D.list s) := by
  refine ok_wdelta c ⟨pb, 0, none⟩ _ s ?_
  unfold vc_wdelta
  obtain ⟨i1, i2, i3, i4, i5⟩ := hI.nums
  obtain ⟨b1, a1, ha, l1⟩ := ha.split h.lenB hl
  simp only [RP_unSome, W.unSome_some, add_mk, Nat.zero_add, RP_nw]
  refine W.nw_of fun r s1 hr m1 k1 => ?_
  have hp1 := m1.at hp (by simp)
  simp only [RP_call]
  refine W.call_of (c_wnums (pb := pb) (off := 0) (xs := [D.term, D.vote]) (old := [old.term, old.vote]) (h.new m1) hp1 hne hpg k1 (by rintro rfl; exact h.c_known hr) (fun hx => h.g_known r hx hr) (ne_of_known' hp hr) ?_ ?_ rfl (by simp) (fun e => by rw [(hw e).1]) (by intro y hy; simp at hy; rcases hy with rfl | rfl <;> assumption) a1 l1) ?_
  · intro i hi
    match i, hi with
    | 0, _ => rfl
    | 1, _ => rfl
    | i + 2, hi => simp at hi; omega
  · intro i x hx
    match i, hx with
    | 0, hx => simp at hx; simp [hx]
    | 1, hx => simp at hx; simp [hx]
    | i + 2, hx => simp at hx
  rintro _ s2 ⟨rfl, w2⟩
  refine ⟨(), rfl, ?_⟩
  obtain ⟨g2, hC2, hg2, m2, k2, hpg2⟩ := w2.ok (by rw [hp1]; simp) hpg
  have k2' : s2 pb = some (.cells (dlA { old with term := D.term, vote := D.vote } t0) e (0, 0)) := k2
  have m02 : Fw.Mod (c :: pb :: g) s s2 := (m1.mono (by simp) : Fw.Mod (c :: pb :: g) s s1).trans m2
  have hg02 : ∀ x ∈ g2, x ∈ g ∨ s x = none := fun x hx => (hg2 x hx).imp_right fun h => m1.none h (by simp)
  obtain ⟨b2, a2, ha, l2⟩ := ha.split hC2.lenB hl
  simp only [W.unSome_some, add_mk, Nat.zero_add]
  refine W.call_of (c_wflag (pb := pb) (off := 2) (b := D.whole) (y := old.whole) hC2 k2' hne hpg2 rfl (fun e => by rw [(hw e).1]) a2 l2) ?_
  rintro _ s3 ⟨rfl, w3⟩
  refine ⟨(), rfl, ?_⟩
  have w3 := went_trans hg02 m02 (Mod.refl _ _) (by rw [k2']; simp) w3
  obtain ⟨g3, hC3, hg3, m3, k3, hpg3⟩ := w3.ok (by rw [hp]; simp) hpg
  have k3' : s3 pb = some (.cells (dlA { old with term := D.term, vote := D.vote, whole := D.whole } t0) e (0, 0)) := k3
  obtain ⟨b3, a3, ha, l3⟩ := ha.split hC3.lenB hl
  simp only [W.unSome_some, add_mk, Nat.zero_add]
  refine W.nw_of fun r4 s4 hr4 m4 k4 => ?_
  have hp4 := m4.at k3' (by simp)
  refine W.call_of (c_wnums (pb := pb) (off := 3) (xs := [D.base, D.baseTerm]) (old := [old.base, old.baseTerm]) (hC3.new m4) hp4 hne hpg3 k4 (by rintro rfl; exact hC3.c_known hr4) (fun hx => hC3.g_known r4 hx hr4) (ne_of_known' k3' hr4) ?_ ?_ rfl (by simp) (fun e => by rw [(hw e).1]) (by intro y hy; simp at hy; rcases hy with rfl | rfl <;> assumption) a3 l3) ?_
  · intro i hi
    match i, hi with
    | 0, _ => rfl
    | 1, _ => rfl
    | i + 2, hi => simp at hi; omega
  · intro i x hx
    match i, hx with
    | 0, hx => simp at hx; simp [hx]
    | 1, hx => simp at hx; simp [hx]
    | i + 2, hx => simp at hx
  rintro _ s5 ⟨rfl, w5⟩
  refine ⟨(), rfl, ?_⟩
  have w5 := went_trans hg3 m3 m4 (by rw [hp4]; simp) w5
  obtain ⟨g5, hC5, hg5, m5, k5, hpg5⟩ := w5.ok (by rw [hp]; simp) hpg
  have k5' : s5 pb = some (.cells (dlA { old with term := D.term, vote := D.vote, whole := D.whole, base := D.base, baseTerm := D.baseTerm } t0) e (0, 0)) := k5
  obtain ⟨b5, a5, ha, l5⟩ := ha.split hC5.lenB hl
  simp only [W.unSome_some, add_mk, Nat.zero_add]
  refine W.nw_of fun q s6 hq m6 k6 => ?_
  have hp6 := m6.at k5' (by simp)
  refine W.call_of (c_wtexts (pb := pb) (off := 5) (t := D.snap) (y := old.snap) (hC5.new m6) hp6 hne hpg5 k6 (by rintro rfl; exact hC5.c_known hq) (fun hx => hC5.g_known q hx hq) (ne_of_known' k5' hq) rfl rfl (fun e => by rw [(hw e).1]) a5 l5) ?_
  rintro _ s7 ⟨rfl, w7⟩
  refine ⟨(), rfl, ?_⟩
  have w7 := went_trans hg5 m5 m6 (by rw [hp6]; simp) w7
  obtain ⟨g7, hC7, hg7, m7, k7, hpg7⟩ := w7.ok (by rw [hp]; simp) hpg
  have k7' : s7 pb = some (.cells (dlA { D with from_ := old.from_, list := old.list } t0) e (0, 0)) := k7
  obtain ⟨b7, a7, ha, l7⟩ := ha.split hC7.lenB hl
  simp only [W.unSome_some, add_mk, Nat.zero_add]
  refine W.nw_of fun r8 s8 hr8 m8 k8 => ?_
  have hp8 := m8.at k7' (by simp)
  refine W.call_of (c_wnums (pb := pb) (off := 6) (xs := [D.from_]) (old := [old.from_]) (hC7.new m8) hp8 hne hpg7 k8 (by rintro rfl; exact hC7.c_known hr8) (fun hx => hC7.g_known r8 hx hr8) (ne_of_known' k7' hr8) (fun i hi => ptr_one i (by simpa using hi)) ?_ rfl (by simp) (fun e => by rw [(hw e).1]) (by intro y hy; simp at hy; subst hy; assumption) a7 l7) ?_
  · intro i x hx
    match i, hx with
    | 0, hx => simp at hx; simp [hx]
    | i + 1, hx => simp at hx
  rintro _ s9 ⟨rfl, w9⟩
  refine ⟨(), rfl, ?_⟩
  have w9 := went_trans hg7 m7 m8 (by rw [hp8]; simp) w9
  obtain ⟨g9, hC9, hg9, m9, k9, hpg9⟩ := w9.ok (by rw [hp]; simp) hpg
  have k9' : s9 pb = some (.cells (dlA { D with list := old.list } t0) e (0, 0)) := k9
  simp only [W.unSome_some, add_mk, Nat.zero_add]
  refine W.call_of (c_witems (pb := pb) (off := 7) (t0 := t0) (l := D.list) hC9 k9' hne hpg9 rfl (fun e => ?_) hrd hI.list ha hl hI.len) ?_
  · obtain ⟨_, hrow, hap⟩ := hw e
    refine ⟨hrow.mod m9 fun x hx => ?_, fun x hx => ⟨(hap x hx).1, (hap x hx).2.1, fun hg => (hg9 x hg).elim (hap x hx).2.2 (hrow.known x hx)⟩⟩
    simp; exact ⟨(hap x hx).1, (hap x hx).2.1, (hap x hx).2.2⟩
  rintro _ s4 ⟨rfl, t, g4, hC4, hg4, m4, k4, hrow4, ht1, ht2, hapg⟩
  refine ⟨(), rfl, rfl, t, g4, hC4, ?_, ?_, k4, hrow4, ht1, fun e x hx => ?_⟩
  · intro x hx
    have hpg4 : pb ∉ g4 := fun hx => (hg4 pb hx).elim hpg9 (by rw [k9']; simp)
    rcases hg4 x hx with h' | h'
    · exact hg9 x h'
    · by_cases hxL : x ∈ c :: pb :: g
      · rcases List.mem_cons.1 hxL with rfl | hxL
        · exact absurd hx hC4.c_ng
        rcases List.mem_cons.1 hxL with rfl | hxL
        · exact absurd hx hpg4
        · exact .inl hxL
      · exact .inr (m9.none h' hxL)
  · refine m9.fresh m4 fun y hy => ?_
    rcases List.mem_cons.1 hy with rfl | hy
    · exact .inl (by simp)
    rcases List.mem_cons.1 hy with rfl | hy
    · exact .inl (by simp)
    · exact (hg9 y hy).imp (fun h => by simp [h]) _root_.id
  · rcases ht2 e x hx with h' | h'
    · by_cases hxL : x ∈ c :: pb :: g
      · rcases List.mem_cons.1 hxL with rfl | hxL
        · exact absurd h' hC9.c_known
        rcases List.mem_cons.1 hxL with rfl | hxL
        · rw [k9'] at h'; cases h'
        · exact .inr hxL
      · exact .inl (m9.none h' hxL)
    · exact (hg9 x h').symm
/-- bytes that were written, as a text -/
theorem out_text {s : PH} {c : Nat} {g : List Nat} {bs : List UInt8} (h : Cod s c false g bs) : ∃ a n cp, s c = some (codO a n cp false) ∧ W.b2sOk s n (ofL bs) a := by
  obtain ⟨a, n, cp, hI⟩ := h
  refine ⟨a, n, cp, hI.cell, ?_⟩
  obtain ⟨hrow, _⟩ := hI.wrs rfl
  have hlen := hrow.len
  rcases hrow.shape with ⟨rfl, h0, _⟩ | ⟨g, rfl⟩
  · have : bs = [] := List.length_eq_zero_iff.1 (by omega)
    subst this; (first | done | rfl)
  · refine ⟨by rw [ofL_size, hlen], ?_⟩
    have := hrow.src0
    have hb : bytesOf (ofL bs) = bs.flatMap u8E.f := by rw [flat_u8]; (first | done | rfl)
    rw [hb]; exact this.2
theorem new_cod {s : PH} {r : Nat} (k : s r = some (codO none 0 0 false)) : Cod s r false [] [] :=
  ⟨none, 0, 0, k, by simp, by simp, fun e => (by cases e), fun _ => ⟨rowE.nil, by simp [Fw.blk]⟩, by simp⟩
theorem c_wputM {s : PH} {M : Msg} {t : Tri} (hrow : rowE entE s 43 t.1 t.2.1 t.2.2 M.list) (hI : M.I) (hl : (encM M).length ≤ 1099511627776) :
    DCalls Tryz.prog 102 #[msgV M t, .func (.func 89) #[] #[]] s fun y s' => y = .string (ofL (encM M)) ∧ s' = s := by
  refine DCalls.quiet (ok_wputM M.kind M.from_ M.to M.term M.index M.prev M.commit M.good t.1 t.2.1 t.2.2 M.snap _ s ?_)
  unfold vc_wputM
  simp only [RP_nw]
  refine W.nw_of fun r s1 hr m1 k1 => ?_
  refine W.nw_of fun q s2 hq m2 k2 => ?_
  have hC := new_cod k2
  have hk2 := m2.at k1 (by simp)
  have m12 := m1.trans m2
  have hqs : s q = none := m1.none hq (by simp)
  simp only [RP_call]
  refine W.call_of (c_wmsg (M := M) (old := M) (t0 := t) hC hk2 (ne_of_known k1 hq) (by simp) (fun _ => ⟨rfl, hrow.mod m12 (by simp), fun x hx => ⟨?_, ?_, by simp⟩⟩) (fun e => by cases e) hI (bs' := encM M) (by simp [Adv]) hl) ?_
  · rintro rfl; exact hrow.known x hx hqs
  · rintro rfl; exact hrow.known x hx hr
  rintro _ s3 ⟨rfl, t', g', hC3, hg3, m3, k3, _, _, _⟩
  refine ⟨(), rfl, ?_⟩
  obtain ⟨a, n, cp, hc, hb⟩ := out_text hC3
  simp only [RP_unSome, W.unSome_some, add_mk, Nat.zero_add, RP_ld]
  refine ld_blk (c := .slice) (x := (a, n, cp)) hc rfl ?_
  simp only [RP_b2s]
  exact ⟨_, hb, rfl, m12.fresh m3 (by simp [hr, hqs])⟩
theorem c_wputD {s : PH} {D : Dl} {t : Tri} (hrow : rowE entE s 43 t.1 t.2.1 t.2.2 D.list) (hI : D.I) (hl : (encD D).length ≤ 1099511627776) :
    DCalls Tryz.prog 101 #[dlV D t, .func (.func 85) #[] #[]] s fun y s' => y = .string (ofL (encD D)) ∧ s' = s := by
  refine DCalls.quiet (ok_wputD D.term D.vote D.whole D.base D.baseTerm D.snap D.from_ t.1 t.2.1 t.2.2 _ s ?_)
  unfold vc_wputD
  simp only [RP_nw]
  refine W.nw_of fun r s1 hr m1 k1 => ?_
  refine W.nw_of fun q s2 hq m2 k2 => ?_
  have hC := new_cod k2
  have hk2 := m2.at k1 (by simp)
  have m12 := m1.trans m2
  have hqs : s q = none := m1.none hq (by simp)
  simp only [RP_call]
  refine W.call_of (c_wdelta (D := D) (old := D) (t0 := t) hC hk2 (ne_of_known k1 hq) (by simp) (fun _ => ⟨rfl, hrow.mod m12 (by simp), fun x hx => ⟨?_, ?_, by simp⟩⟩) (fun e => by cases e) hI (bs' := encD D) (by simp [Adv]) hl) ?_
  · rintro rfl; exact hrow.known x hx hqs
  · rintro rfl; exact hrow.known x hx hr
  rintro _ s3 ⟨rfl, t', g', hC3, hg3, m3, k3, _, _, _⟩
  refine ⟨(), rfl, ?_⟩
  obtain ⟨a, n, cp, hc, hb⟩ := out_text hC3
  simp only [RP_unSome, W.unSome_some, add_mk, Nat.zero_add, RP_ld]
  refine ld_blk (c := .slice) (x := (a, n, cp)) hc rfl ?_
  simp only [RP_b2s]
  exact ⟨_, hb, rfl, m12.fresh m3 (by simp [hr, hqs])⟩
theorem c_PutMsg {s : PH} {M : Msg} {t : Tri} (hrow : rowE entE s 43 t.1 t.2.1 t.2.2 M.list) (hI : M.I) (hl : (encM M).length ≤ 1099511627776) :
    DCalls Tryz.prog 67 #[msgV M t] s fun y s' => y = .string (ofL (encM M)) ∧ s' = s := by
  refine ok_PutMsg M.kind M.from_ M.to M.term M.index M.prev M.commit M.good t.1 t.2.1 t.2.2 M.snap _ s ?_
  unfold vc_PutMsg
  simp only [RP_call]
  refine W.call_of (c_wputM hrow hI hl) ?_
  rintro _ s ⟨rfl, rfl⟩
  exact ⟨((ofL (encM M), ()), ()), rfl, rfl, rfl⟩
theorem c_PutDelta {s : PH} {D : Dl} {t : Tri} (hrow : rowE entE s 43 t.1 t.2.1 t.2.2 D.list) (hI : D.I) (hl : (encD D).length ≤ 1099511627776) :
    DCalls Tryz.prog 65 #[dlV D t] s fun y s' => y = .string (ofL (encD D)) ∧ s' = s := by
  refine ok_PutDelta D.term D.vote D.whole D.base D.baseTerm D.snap D.from_ t.1 t.2.1 t.2.2 _ s ?_
  unfold vc_PutDelta
  simp only [RP_call]
  refine W.call_of (c_wputD hrow hI hl) ?_
  rintro _ s ⟨rfl, rfl⟩
  exact ⟨((ofL (encD D), ()), ()), rfl, rfl, rfl⟩
/-- the bytes of a text that are to be read -/
theorem read_cod {s : PH} {q r : Nat} {t : ByteArray} {n : Nat} {f : Nat × Nat} (k : s r = some (.cells (W.bytesRow t n) 5 f)) (kq : s q = some (codO (some ⟨r, 0, none⟩) t.size n true)) (hne : q ≠ r) (hn : t.size ≤ n) (hl : t.size ≤ 1099511627776) : Cod s q true [r] (toL t) := by
  refine ⟨some ⟨r, 0, none⟩, t.size, n, kq, by simp; exact hne, by rw [toL_len]; exact hl, fun _ => ⟨⟨(toL_len t).symm, fun i x hx => ⟨_, rfl, by simp, ?_⟩⟩, hn⟩, fun e => (by cases e), by simp [k]⟩
  rw [add_mk, Nat.zero_add]
  unfold PH.cell?
  dsimp only
  rw [k]
  have hlt := (List.getElem?_eq_some_iff.1 hx).1
  show (W.bytesRow t n)[i]? = _
  unfold W.bytesRow
  have hsz : i < (t.data.map fun b => Value.int .u8 b.toNat).size := by rw [Array.size_map, ← Array.length_toList]; exact hlt
  rw [Array.getElem?_append_left hsz, Array.getElem?_map]
  have : t.data[i]? = some x := by rw [← Array.getElem?_toList]; exact hx
  rw [this]; (first | done | rfl)
def GetMQ (M : Msg) (s : PH) (y : Value) (s' : PH) : Prop := ∃ t : Tri, y = .tuple #[msgV M t, .int .i64 0] ∧ rowE entE s' 43 t.1 t.2.1 t.2.2 M.list ∧ (∀ x ∈ Fw.blk t.1, s x = none) ∧ Fw.Mod [] s s'
def GetDQ (D : Dl) (s : PH) (y : Value) (s' : PH) : Prop := ∃ t : Tri, y = .tuple #[dlV D t, .int .i64 0] ∧ rowE entE s' 43 t.1 t.2.1 t.2.2 D.list ∧ (∀ x ∈ Fw.blk t.1, s x = none) ∧ Fw.Mod [] s s'
theorem c_wgetM {s : PH} {M : Msg} (hI : M.I) (hl : (encM M).length ≤ 1099511627776) : DCalls Tryz.prog 88 #[.string (ofL (encM M)), .func (.func 89) #[] #[]] s (GetMQ M s) := by
  refine ok_wgetM (ofL (encM M)) _ s ?_
  unfold vc_wgetM
  have hmax : maxLen = 9223372036854775807 := rfl
  have hsz : (ofL (encM M)).size ≤ 1099511627776 := by rw [ofL_size]; exact hl
  simp only [RP_s2b]
  refine ⟨by omega, fun r n hr hn1 hn2 => ?_⟩
  obtain ⟨s1, hs1⟩ : ∃ s1, s.upd r (.cells (W.bytesRow (ofL (encM M)) n) 5 (n, n + 1)) = s1 := ⟨_, rfl⟩
  have m1 : Fw.Mod [] s s1 := by rw [← hs1]; exact Mod.new hr
  have k1 : s1 r = some (.cells (W.bytesRow (ofL (encM M)) n) 5 (n, n + 1)) := by rw [← hs1]; exact PH.upd_same _ _ _
  rw [hs1]
  simp only [RP_nw]
  refine W.nw_of fun q s2 hq m2 k2 => ?_
  refine W.nw_of fun p s3 hp m3 k3 => ?_
  have hqr : q ≠ r := ne_of_known' k1 hq
  have hC : Cod s3 q true [r] (encM M) := by
    have := read_cod (m3.at (m2.at k1 (by simp)) (by simp)) (m3.at k2 (by simp)) hqr hn1 hsz
    rwa [toL_ofL] at this
  have hpr : p ≠ r := ne_of_known' (m2.at k1 (by simp)) hp
  have m13 := (m1.trans m2).trans m3
  have hqs : s q = none := m1.none hq (by simp)
  have hps : s p = none := (m1.trans m2).none hp (by simp)
  simp only [RP_call]
  refine W.call_of (c_wmsg (M := M) (old := ⟨0, 0, 0, 0, 0, 0, 0, false, [], ⟨#[]⟩⟩) (t0 := noTri) hC k3 (ne_of_known' k2 hp) (by simp; exact hpr) (fun e => by cases e) (fun _ => rfl) hI (bs' := []) (by simp [Adv]) (by simp)) ?_
  rintro _ s4 ⟨rfl, t, g', hC4, hg4, m4, k4, hrow4, _, hfr⟩
  refine ⟨(), rfl, ?_⟩
  have m04 : Fw.Mod [] s s4 := m13.fresh m4 (by simp [hqs, hps, hr])
  have hfr' : ∀ x ∈ Fw.blk t.1, s x = none := fun x hx => (hfr rfl x hx).elim (fun h => m13.none h (by simp)) (fun h => by simp at h; subst h; exact hr)
  obtain ⟨a, k, cp, hCI⟩ := id hC4
  have hc4 := hCI.cell
  have hk0 : k = 0 := (hCI.rds rfl).1.1
  subst hk0
  simp only [RP_unSome, W.unSome_some, add_mk, Nat.zero_add, RP_ld]
  refine ld_blk (c := .bool) (x := false) hc4 rfl ?_
  simp only [RP_ite, W.br_false, W.unSome_some, add_mk, Nat.zero_add]
  refine ld_blk (c := .slice) (x := (a, 0, cp)) hc4 rfl ?_
  have hn0 : ¬ (((0 : Nat) : Int) > 0) := by omega
  simp only [decide_eq_false hn0, W.br_false]
  have hh : s4.has ⟨p, 0, none⟩ (msgCells M t) := has_block k4
  refine ⟨(M.kind, M.from_, M.to, M.term, M.index, M.prev, M.commit, M.good, t, M.snap, ()), hh, ?_⟩
  refine W.call_of (c_wputM hrow4 hI hl) ?_
  rintro _ s4 ⟨rfl, rfl⟩
  refine ⟨((ofL (encM M), ()), ()), rfl, ?_⟩
  have hbe : (!(ofL (encM M)).toList == (ofL (encM M)).toList) = false := by simp
  simp only [hbe, W.br_false]
  refine ⟨(M.kind, M.from_, M.to, M.term, M.index, M.prev, M.commit, M.good, t, M.snap, ()), hh, ?_⟩
  exact ⟨t, rfl, hrow4, hfr', m04⟩
theorem c_wgetD {s : PH} {D : Dl} (hI : D.I) (hl : (encD D).length ≤ 1099511627776) : DCalls Tryz.prog 84 #[.string (ofL (encD D)), .func (.func 85) #[] #[]] s (GetDQ D s) := by
  refine ok_wgetD (ofL (encD D)) _ s ?_
  unfold vc_wgetD
  have hmax : maxLen = 9223372036854775807 := rfl
  have hsz : (ofL (encD D)).size ≤ 1099511627776 := by rw [ofL_size]; exact hl
  simp only [RP_s2b]
  refine ⟨by omega, fun r n hr hn1 hn2 => ?_⟩
  obtain ⟨s1, hs1⟩ : ∃ s1, s.upd r (.cells (W.bytesRow (ofL (encD D)) n) 5 (n, n + 1)) = s1 := ⟨_, rfl⟩
  have m1 : Fw.Mod [] s s1 := by rw [← hs1]; exact Mod.new hr
  have k1 : s1 r = some (.cells (W.bytesRow (ofL (encD D)) n) 5 (n, n + 1)) := by rw [← hs1]; exact PH.upd_same _ _ _
  rw [hs1]
  simp only [RP_nw]
  refine W.nw_of fun q s2 hq m2 k2 => ?_
  refine W.nw_of fun p s3 hp m3 k3 => ?_
  have hqr : q ≠ r := ne_of_known' k1 hq
  have hC : Cod s3 q true [r] (encD D) := by
    have := read_cod (m3.at (m2.at k1 (by simp)) (by simp)) (m3.at k2 (by simp)) hqr hn1 hsz
    rwa [toL_ofL] at this
  have hpr : p ≠ r := ne_of_known' (m2.at k1 (by simp)) hp
  have m13 := (m1.trans m2).trans m3
  have hqs : s q = none := m1.none hq (by simp)
  have hps : s p = none := (m1.trans m2).none hp (by simp)
  simp only [RP_call]
  refine W.call_of (c_wdelta (D := D) (old := ⟨0, 0, false, 0, 0, ⟨#[]⟩, 0, []⟩) (t0 := noTri) hC k3 (ne_of_known' k2 hp) (by simp; exact hpr) (fun e => by cases e) (fun _ => rfl) hI (bs' := []) (by simp [Adv]) (by simp)) ?_
  rintro _ s4 ⟨rfl, t, g', hC4, hg4, m4, k4, hrow4, _, hfr⟩
  refine ⟨(), rfl, ?_⟩
  have m04 : Fw.Mod [] s s4 := m13.fresh m4 (by simp [hqs, hps, hr])
  have hfr' : ∀ x ∈ Fw.blk t.1, s x = none := fun x hx => (hfr rfl x hx).elim (fun h => m13.none h (by simp)) (fun h => by simp at h; subst h; exact hr)
  obtain ⟨a, k, cp, hCI⟩ := id hC4
  have hc4 := hCI.cell
  have hk0 : k = 0 := (hCI.rds rfl).1.1
  subst hk0
  simp only [RP_unSome, W.unSome_some, add_mk, Nat.zero_add, RP_ld]
  refine ld_blk (c := .bool) (x := false) hc4 rfl ?_
  simp only [RP_ite, W.br_false, W.unSome_some, add_mk, Nat.zero_add]
  refine ld_blk (c := .slice) (x := (a, 0, cp)) hc4 rfl ?_
  have hn0 : ¬ (((0 : Nat) : Int) > 0) := by omega
  simp only [decide_eq_false hn0, W.br_false]
  have hh : s4.has ⟨p, 0, none⟩ (dlCells D t) := has_block k4
  refine ⟨(D.term, D.vote, D.whole, D.base, D.baseTerm, D.snap, D.from_, t, ()), hh, ?_⟩
  refine W.call_of (c_wputD hrow4 hI hl) ?_
  rintro _ s4 ⟨rfl, rfl⟩
  refine ⟨((ofL (encD D), ()), ()), rfl, ?_⟩
  have hbe : (!(ofL (encD D)).toList == (ofL (encD D)).toList) = false := by simp
  simp only [hbe, W.br_false]
  refine ⟨(D.term, D.vote, D.whole, D.base, D.baseTerm, D.snap, D.from_, t, ()), hh, ?_⟩
  exact ⟨t, rfl, hrow4, hfr', m04⟩
theorem c_GetMsg {s : PH} {M : Msg} (hI : M.I) (hl : (encM M).length ≤ 1099511627776) : DCalls Tryz.prog 60 #[.string (ofL (encM M))] s (GetMQ M s) := by
  refine ok_GetMsg (ofL (encM M)) _ s ?_
  unfold vc_GetMsg
  simp only [RP_call]
  refine W.call_of (c_wgetM hI hl) ?_
  rintro _ s1 ⟨t, rfl, h⟩
  exact ⟨((M.kind, M.from_, M.to, M.term, M.index, M.prev, M.commit, M.good, t, M.snap, ()), (0, ()), ()), rfl, t, rfl, h⟩
theorem c_GetDelta {s : PH} {D : Dl} (hI : D.I) (hl : (encD D).length ≤ 1099511627776) : DCalls Tryz.prog 58 #[.string (ofL (encD D))] s (GetDQ D s) := by
  refine ok_GetDelta (ofL (encD D)) _ s ?_
  unfold vc_GetDelta
  simp only [RP_call]
  refine W.call_of (c_wgetD hI hl) ?_
  rintro _ s1 ⟨t, rfl, h⟩
  exact ⟨((D.term, D.vote, D.whole, D.base, D.baseTerm, D.snap, D.from_, t, ()), (0, ()), ()), rfl, t, rfl, h⟩
end Go.Proofs.YtcdggocbjnmeaaaGreat
end
section
set_option linter.unusedVariables false
set_option linter.unusedSimpArgs false
set_option maxHeartbeats 1000000
set_option maxRecDepth 100000
namespace Go.Proofs.YtcdggocbjnmeaaaGreat
open Fw Go
attribute [-simp] Fw.W.ld_iff Fw.W.st_iff
section
variable {s : PH} {b : Nat} {l v n m : Tri} {B : BS}
end
end Go.Proofs.YtcdggocbjnmeaaaGreat
end
section
set_option linter.unusedVariables false
set_option linter.unusedSimpArgs false
set_option maxHeartbeats 1000000
set_option maxRecDepth 100000
namespace Go.Proofs.YtcdggocbjnmeaaaGreat
open Fw Go
attribute [-simp] Fw.W.ld_iff Fw.W.st_iff
end Go.Proofs.YtcdggocbjnmeaaaGreat
end
section
set_option linter.unusedVariables false
set_option linter.unusedSimpArgs false
set_option maxHeartbeats 1000000
set_option maxRecDepth 100000
namespace Go.Proofs.YtcdggocbjnmeaaaGreat
open Fw Go
structure DlIs (s : PH) (D : Dl) (t : Tri) : Prop where
  view : View s t.1 t.2.1 t.2.2 D.list
  room : t.2.1 * 40 ≤ 140737488355328
/-- one delta laid on; none: refused -/
def BS.lay (B : BS) (D : Dl) : Option BS :=
  if D.term < 0 ∨ D.term > 2 * FAR ∨ D.vote < -1 ∨ D.vote ≥ B.size then none else
  if D.whole = true then
    if D.base < 0 ∨ D.base > 2 * FAR ∨ D.baseTerm < 0 ∨ D.baseTerm > 2 * FAR then none else some { B with base := D.base, baseTerm := D.baseTerm, snap := D.snap, log := D.list, term := D.term, vote := D.vote }
  else if D.from_ ≤ B.base ∨ D.from_ > B.lst + 1 then none else some { B with log := B.log.take (D.from_ - B.base - 1).toNat ++ D.list, term := D.term, vote := D.vote }
def BS.lays : BS → List Dl → Option BS
  | B, [] => some B
  | B, D :: l => match B.lay D with
    | some B' => B'.lays l
    | none => none
def BS.loaded (id size : Int) (l : List Dl) : Option BS := ((newBS id size).lays l).map fun B => { B with commit := B.base, touched := false, whole := false, from_ := B.lst + 1 }
end Go.Proofs.YtcdggocbjnmeaaaGreat
end
section
set_option linter.unusedVariables false
set_option linter.unusedSimpArgs false
set_option maxHeartbeats 1000000
set_option maxRecDepth 100000
namespace Go.Proofs.YtcdggocbjnmeaaaGreat
open Fw Go
attribute [-simp] Fw.W.ld_iff Fw.W.st_iff
theorem far2 : (2 * FAR : Int) = 2199023255552 := rfl
theorem lay_n1 {B : BS} {D : Dl} (h : D.term < 0 ∨ D.term > 2199023255552 ∨ D.vote < -1 ∨ D.vote ≥ B.size) : B.lay D = none := by
  unfold BS.lay; rw [far2, if_pos h]
theorem lay_n2 {B : BS} {D : Dl} (hw : D.whole = true) (h : D.base < 0 ∨ D.base > 2199023255552 ∨ D.baseTerm < 0 ∨ D.baseTerm > 2199023255552) : B.lay D = none := by
  unfold BS.lay; rw [far2, if_pos hw, if_pos h]; split <;> rfl
theorem lay_n3 {B : BS} {D : Dl} (hw : D.whole = false) (h : D.from_ ≤ B.base ∨ D.from_ > B.lst + 1) : B.lay D = none := by
  unfold BS.lay; rw [if_neg (show ¬ D.whole = true by rw [hw]; simp), if_pos h]; split <;> rfl
def BS.layW (B : BS) (D : Dl) : BS := { B with base := D.base, baseTerm := D.baseTerm, snap := D.snap, log := D.list, term := D.term, vote := D.vote }
def BS.layL (B : BS) (D : Dl) : BS := { B with log := B.log.take (D.from_ - B.base - 1).toNat ++ D.list, term := D.term, vote := D.vote }
theorem lay_w {B : BS} {D : Dl} (h1 : ¬ (D.term < 0 ∨ D.term > 2199023255552 ∨ D.vote < -1 ∨ D.vote ≥ B.size)) (hw : D.whole = true) (h : ¬ (D.base < 0 ∨ D.base > 2199023255552 ∨ D.baseTerm < 0 ∨ D.baseTerm > 2199023255552)) : B.lay D = some (B.layW D) := by
  unfold BS.lay; rw [far2, if_neg h1, if_pos hw, if_neg h]; (first | done | rfl)
theorem lay_l {B : BS} {D : Dl} (h1 : ¬ (D.term < 0 ∨ D.term > 2199023255552 ∨ D.vote < -1 ∨ D.vote ≥ B.size)) (hw : D.whole = false) (h : ¬ (D.from_ ≤ B.base ∨ D.from_ > B.lst + 1)) : B.lay D = some (B.layL D) := by
  unfold BS.lay; rw [far2, if_neg h1, if_neg (show ¬ D.whole = true by rw [hw]; simp), if_neg h]; (first | done | rfl)
def dtot (ls : List Dl) : Nat := (ls.map fun D => D.list.length).sum
theorem dtot_take {ls : List Dl} {k : Nat} {D : Dl} (h : ls[k]? = some D) : dtot (ls.take (k + 1)) = dtot (ls.take k) + D.list.length := by
  unfold dtot
  rw [List.take_add_one, h]; simp
theorem dtot_take_le (ls : List Dl) (k : Nat) : dtot (ls.take k) ≤ dtot ls := by
  have := congrArg dtot (List.take_append_drop k ls)
  unfold dtot at this ⊢
  rw [List.map_append, List.sum_append] at this
  omega
theorem dtot_mem {ls : List Dl} {k : Nat} {D : Dl} (h : ls[k]? = some D) : D.list.length ≤ dtot ls := by
  have h1 := dtot_take h
  have h2 := dtot_take_le ls (k + 1)
  omega
theorem drop_at {α : Type} {ls : List α} {k : Nat} {D : α} (h : ls[k]? = some D) : ls.drop k = D :: ls.drop (k + 1) := by
  have hlt := (List.getElem?_eq_some_iff.1 h).1
  have := (List.getElem?_eq_some_iff.1 h).2
  rw [List.drop_eq_getElem_cons hlt, this]
/-- what holds of a ballot that is being loaded -/
structure BS.Lds (B : BS) (id size : Int) (ls : List Dl) (k : Nat) : Prop where
  eq : B.lays (ls.drop k) = (newBS id size).lays ls
  sz : B.size = size
  b0 : 0 ≤ B.base
  b1 : B.base ≤ 2199023255552
  len : B.log.length ≤ dtot (ls.take k)
  rows : B.votes = [] ∧ B.next = [] ∧ B.mat = []
  flags : B.touched = false ∧ B.whole = false
theorem BS.Lds.small {B : BS} {id size : Int} {ls : List Dl} {k : Nat} (h : B.Lds id size ls k) (ht : dtot ls ≤ 1000000) : B.Small := by
  have h1 := dtot_take_le ls k
  have h2 := h.len
  have h3 := h.b1
  exact ⟨h.b0, by omega, by omega⟩
theorem BS.Lds.start (id size : Int) (ls : List Dl) : (newBS id size).Lds id size ls 0 := ⟨rfl, rfl, Int.le_refl _, by show (0 : Int) ≤ _; omega, Nat.zero_le _, ⟨rfl, rfl, rfl⟩, rfl, rfl⟩
theorem BS.Lds.step {B B' : BS} {id size : Int} {ls : List Dl} {k : Nat} {D : Dl} (h : B.Lds id size ls k) (hD : ls[k]? = some D) (hl : B.lay D = some B') : B'.Lds id size ls (k + 1) := by
  have h1 := h.eq
  rw [drop_at hD] at h1
  simp only [BS.lays, hl] at h1
  have h2 := dtot_take hD
  have h3 := h.len
  unfold BS.lay at hl
  split at hl
  · cases hl
  · split at hl
    · split at hl
      · cases hl
      · rename_i hc
        have hF : FAR = 1099511627776 := rfl
        cases hl
        exact ⟨h1, h.sz, by show 0 ≤ D.base; omega, by show D.base ≤ _; omega, by show D.list.length ≤ _; omega, h.rows, h.flags⟩
    · split at hl
      · cases hl
      · cases hl
        refine ⟨h1, h.sz, h.b0, h.b1, ?_, h.rows, h.flags⟩
        show (B.log.take _ ++ D.list).length ≤ _
        rw [List.length_append, List.length_take]; omega
theorem BS.Lds.bad {B : BS} {id size : Int} {ls : List Dl} {k : Nat} {D : Dl} (h : B.Lds id size ls k) (hD : ls[k]? = some D) (hl : B.lay D = none) : BS.loaded id size ls = none := by
  have h1 := h.eq
  rw [drop_at hD] at h1
  simp only [BS.lays, hl] at h1
  unfold BS.loaded; rw [← h1]; (first | done | rfl)
theorem BS.Lds.done {B : BS} {id size : Int} {ls : List Dl} {k : Nat} (h : B.Lds id size ls k) (hk : ls.length ≤ k) : BS.loaded id size ls = some { B with commit := B.base, touched := false, whole := false, from_ := B.lst + 1 } := by
  have h1 := h.eq
  rw [List.drop_eq_nil_of_le hk] at h1
  unfold BS.loaded; rw [← h1]; (first | done | rfl)
/-- changes that lie behind each other -/
def DlsAt (s : PH) (a : Option Addr) (n : Nat) (ls : List Dl) : Prop := n = ls.length ∧ ∀ (i : Nat) D, ls[i]? = some D → ∃ ad t, a = some ad ∧ s.has (ad.add (i * 8)) (dlCells D t) ∧ DlIs s D t
theorem DlsAt.mono {s s' : PH} {a : Option Addr} {n : Nat} {ls : List Dl} (h : DlsAt s a n ls) (hm : s.le s') : DlsAt s' a n ls :=
  ⟨h.1, fun i D hD => by obtain ⟨ad, t, h1, h2, h3⟩ := h.2 i D hD; exact ⟨ad, t, h1, h2.mono hm, ⟨h3.view.mono hm, h3.room⟩⟩⟩
theorem dl_at {s : PH} {a : Option Addr} {n : Nat} {ls : List Dl} (h : DlsAt s a n ls) {i : Nat} {D : Dl} (hD : ls[i]? = some D) :
    ∃ ad t, a = some ad ∧ s.has (ad.add (i * 8)) (dlCells D t) ∧ DlIs s D t := h.2 i D hD
section
variable {s : PH} {a : Option Addr} {an ac : Nat} {ls : List Dl} {id size : Int}
def LoadPost (id size : Int) (ls : List Dl) (s : PH) (x : Value) (s' : PH) : Prop :=
  Fw.Mod [] s s' ∧ ((okNew id size ∧ ∃ B, BS.loaded id size ls = some B ∧ ∃ b l, x = .tuple #[bptr b, .int .i64 0] ∧ Bal s' b l noTri noTri noTri B ∧ ∀ y ∈ bL b l noTri noTri noTri, s y = none) ∨
  (okNew id size ∧ BS.loaded id size ls = none ∧ x = .tuple #[.pointer none, .int .i64 100]) ∨ (¬ okNew id size ∧ x = .tuple #[.pointer none, .int .i64 1]))
def LdI (id size : Int) (ls : List Dl) (a : Option Addr) (an ac : Nat) (s0 : PH) (k b : Nat) (l : Tri) (B : BS) (s' : PH) : Prop :=
  Bal s' b l noTri noTri noTri B ∧ Fw.Mod [] s0 s' ∧ (∀ y ∈ bL b l noTri noTri noTri, s0 y = none) ∧ k ≤ an ∧ B.Lds id size ls k
def LdZ (id size : Int) (ls : List Dl) (a : Option Addr) (an ac : Nat) (s0 : PH) (z : MDen [(false, [.ptr]), (false, [.slice]), (false, [.int .i64]), (false, [.int .i64])]) (s' : PH) : Prop :=
  ∃ (k b : Nat) (l : Tri) (B : BS), z = ((some ⟨b, 0, none⟩, ()), ((a, an, ac), ()), ((an : Int), ()), ((k : Int), ()), ()) ∧ LdI id size ls a an ac s0 k b l B s'
theorem c_Load (h : DlsAt s a an ls) (hn : an ≤ 140737488355328) (ht : dtot ls ≤ 1000000) : DCalls Tryz.prog 59 #[.int .i64 id, .int .i64 size, .slice a an ac] s (LoadPost id size ls s) := by
  refine ok_Load2 id size a an ac _ s ?_
  unfold vc_Load2
  simp only [RP_call]
  refine W.call_of (c_bNew id size s) ?_
  rintro _ s1 (⟨hok, b, rfl, hB, m1, hb⟩ | ⟨hok, rfl, rfl⟩)
  rotate_left
  · refine ⟨((none, ()), (1, ()), ()), rfl, ?_⟩
    simp
    exact ⟨Mod.refl _ _, .inr (.inr ⟨hok, rfl⟩)⟩
  refine ⟨((some ⟨b, 0, none⟩, ()), (0, ()), ()), rfl, ?_⟩
  simp
  have hlen := h.1
  refine ⟨LdZ id size ls a an ac s, fun z _ => an - z.2.2.2.1.1.toNat, ⟨0, b, noTri, _, rfl, hB, m1, by simp [bL, Fw.blk, hb], Nat.zero_le _, BS.Lds.start id size ls⟩, ?_⟩
  rintro _ s2 ⟨k, b, l, B, rfl, hB, m2, hf, hk, hL⟩
  have hsm := hL.small ht
  obtain ⟨q1, q2, q3⟩ := _root_.id hsm
  have hd := lst_def B
  have hwk : IntKind.i64.wrap ((k : Int) + 1) = ((k + 1 : Nat) : Int) := by rw [wrap_in (by omega) (by omega)]; simp
  have hb2 := hB.cell
  simp [W.br_iff]
  refine ⟨fun hlt => ⟨hlt, ?_⟩, fun hge => ?_⟩
  · obtain ⟨D, hD⟩ : ∃ D, ls[k]? = some D := ⟨_, List.getElem?_eq_getElem (by omega)⟩
    obtain ⟨ad, t, rfl, hhas, hI⟩ := dl_at (h.mono m2.le) hD
    have hroom := hI.room
    have hvl := hI.view.len
    have hDl := dtot_mem hD
    have hsz := hL.sz
    simp only [W.unSome_some]
    refine ld_has_z hhas (y := (D.term, D.vote, D.whole, D.base, D.baseTerm, D.snap, D.from_, t, ())) rfl ?_
    refine W.join_gen (fun z s' => s' = s2 ∧ ∃ c : Bool, z = ((some ⟨b, 0, none⟩, ()), (D.term, D.vote, D.whole, D.base, D.baseTerm, D.snap, D.from_, t, ()), ((some ad, an, ac), ()), ((an : Int), ()), ((k : Int), ()), (c, ()), ()) ∧
      (c = true → B.lay D = none) ∧ (c = false → ∃ B', B.lay D = some B' ∧ (D.whole = true → B' = B.layW D) ∧ (D.whole = false → B' = B.layL D ∧ B.base < D.from_ ∧ D.from_ ≤ B.lst + 1))) ?_ ?_
    · rintro _ s2 ⟨rfl, c, rfl, hc1, hc2⟩
      simp only [W.br_iff]
      refine ⟨fun hc => ?_, fun hc => ?_⟩
      · exact ⟨m2, .inr (.inl ⟨hok, hL.bad hD (hc1 hc), rfl⟩)⟩
      · obtain ⟨B', hlay, hw1, hw2⟩ := hc2 hc
        have hL' := hL.step hD hlay
        refine ⟨fun hw => ?_, fun hw => ?_⟩
        · have hB' := hw1 hw
          subst hB'
          refine W.call_of (c_Clone hI.view.src hI.view.len.symm (show t.2.1 ≤ 1073741824 by rw [hvl]; omega)) ?_
          rintro _ s3 ⟨t3, rfl, ht3, hrow, m3, hf3⟩
          refine ⟨((t3, ()), ()), rfl, ?_⟩
          have hB3 := hB.new m3
          have hb3 := hB3.cell
          have hft : ∀ g ∈ Fw.blk t3.1, s g = none := fun g hg => m2.none (hf3 g hg) (by simp)
          simp [W.st_at hb3, hwk]
          refine ⟨⟨k + 1, b, t3, _, by simp, balOf (B' := B.layW D) (l' := t3) hb3 hrow hB3.votes hB3.next hB3.mat hB3.nm, (m2.trans m3).updLater (.inr (hf b (by simp [bL]))), ?_, hlt, hL'⟩, by omega⟩
          intro y hy
          simp only [bL, List.mem_cons, List.mem_append] at hy
          rcases hy with rfl | hy | hy
          · exact hf y (by simp [bL])
          · exact hft y hy
          · simp [Fw.blk] at hy
        · obtain ⟨hB', hfr1, hfr2⟩ := hw2 hw
          subst hB'
          obtain ⟨j, hj⟩ : ∃ j : Nat, (D.from_ - B.base - 1).toNat = j := ⟨_, rfl⟩
          have hw1 : IntKind.i64.wrap (IntKind.i64.wrap (D.from_ - B.base) - 1) = (j : Int) := by
            rw [wrap_in (n := D.from_ - B.base) (by omega) (by omega), wrap_in (by omega) (by omega)]; omega
          have hll := hB.log.len
          have hlc := hB.log.le
          have hmx := hB.log.max
          simp [W.ld_at hb2, hw1]
          refine ⟨by omega, ?_⟩
          have hrow := hB.log.shrink (m := j) (c' := j) (by omega) (Nat.le_refl _) (by omega)
          have hadr : (if l.1 = none then none else l.1) = l.1 := by split <;> simp_all
          rw [hadr] at hrow
          have hmax : maxLen = 9223372036854775807 := rfl
          refine app_rowE (E := entE) (k := t.2.1) (ys := D.list) hrow rfl hI.view.src rfl hI.view.len.symm (by omega) (by omega) ?_
          intro a' c' s3 hrow3 hm3
          have hbl : b ∉ Fw.blk l.1 := hB.ne.1
          have hM : ∃ M, Fw.Mod M s2 s3 ∧ (∀ x ∈ M, x ∈ Fw.blk l.1) ∧ ∀ x ∈ Fw.blk a', s x = none := by
            rcases hm3 with ⟨rfl, m'⟩ | ⟨g, rfl, hg, m'⟩
            · exact ⟨_, m', fun x hx => hx, fun x hx => hf x (by simp [bL, hx])⟩
            · exact ⟨[], m', by simp, by simp [Fw.blk]; exact m2.none hg (by simp)⟩
          obtain ⟨M, m3, hMl, hnew⟩ := hM
          have hb3 := m3.at hb2 fun hx => hbl (hMl _ hx)
          simp [W.st_at hb3, hwk]
          have hBr := balOf (B' := B.layL D) (l' := (a', j + t.2.1, c')) (v' := noTri) (n' := noTri) (m' := noTri) hb3 (by unfold BS.layL; rw [hj]; exact hrow3) (by rw [show (B.layL D).votes = [] from hL.rows.1]; exact rowE.nil) (by rw [show (B.layL D).next = [] from hL.rows.2.1]; exact rowE.nil)
            (by rw [show (B.layL D).mat = [] from hL.rows.2.2]; exact rowE.nil) (by simp [Fw.blk])
          refine ⟨⟨k + 1, b, (a', j + t.2.1, c'), _, by simp, hBr, ?_, ?_, hlt, hL'⟩, by omega⟩
          · exact (m2.fresh m3 fun x hx => .inr (hf x (by simp [bL, hMl x hx]))).updLater (.inr (hf b (by simp [bL])))
          · intro y hy
            simp only [bL, List.mem_cons, List.mem_append] at hy
            rcases hy with rfl | hy | hy
            · exact hf y (by simp [bL])
            · exact hnew y hy
            · simp [Fw.blk] at hy
    · intro J hJ
      have bad : ∀ c : Bool, c = true → B.lay D = none → J ((some ⟨b, 0, none⟩, ()), (D.term, D.vote, D.whole, D.base, D.baseTerm, D.snap, D.from_, t, ()), ((some ad, an, ac), ()), ((an : Int), ()), ((k : Int), ()), (c, ()), ()) s2 := fun c hc hl =>
        hJ _ _ ⟨rfl, c, rfl, fun _ => hl, fun e => by rw [hc] at e; cases e⟩
      refine W.join_gen (fun z s' => s' = s2 ∧ ∃ c : Bool, z = ((some ⟨b, 0, none⟩, ()), (D.term, D.vote, D.whole, D.base, D.baseTerm, D.snap, D.from_, t, ()), ((some ad, an, ac), ()), ((an : Int), ()), ((k : Int), ()), (c, ()), ()) ∧
        (c = true ↔ (D.term < 0 ∨ D.term > 2199023255552 ∨ D.vote < -1 ∨ D.vote ≥ B.size))) ?_ ?_
      · rintro _ s2 ⟨rfl, c, rfl, hc⟩
        simp only [W.br_iff]
        refine ⟨fun h1 => bad true rfl (lay_n1 (hc.1 h1)), fun h1 => ?_⟩
        have h1' : ¬ (D.term < 0 ∨ D.term > 2199023255552 ∨ D.vote < -1 ∨ D.vote ≥ B.size) := fun e => by have := hc.2 e; rw [h1] at this; cases this
        have last : D.whole = false → W.unSome (some (Addr.mk b 0 none)) (fun p => W.ld [.int .i64] ((p.add 2).add 4) fun x => W.br (decide (D.from_ ≤ x.1)) (J ((some ⟨b, 0, none⟩, ()), (D.term, D.vote, D.whole, D.base, D.baseTerm, D.snap, D.from_, t, ()), ((some ad, an, ac), ()), ((an : Int), ()), ((k : Int), ()), (true, ()), ()))
            (W.callQ Tryz.prog 55 #[.pointer (some ⟨b, 0, none⟩)] (false, [(false, [.int .i64])]) fun y => J ((some ⟨b, 0, none⟩, ()), (D.term, D.vote, D.whole, D.base, D.baseTerm, D.snap, D.from_, t, ()), ((some ad, an, ac), ()), ((an : Int), ()), ((k : Int), ()), (decide (D.from_ > IntKind.i64.wrap (y.1.1 + 1)), ()), ()))) s2 := by
          intro hw
          simp [W.ld_at hb2, W.br_iff]
          refine ⟨fun h2 => bad _ rfl (lay_n3 hw (.inl h2)), fun h2 => ?_⟩
          refine W.callQ_of ((B.lst, ()), ()) (c_last hB hsm) rfl ?_
          have hwl : IntKind.i64.wrap (B.lst + 1) = B.lst + 1 := wrap_in (by omega) (by omega)
          simp only [hwl]
          refine hJ _ _ ⟨rfl, _, rfl, fun h3 => lay_n3 hw (.inr (by simpa using h3)), fun h3 => ⟨_, lay_l h1' hw (by simp at h3; omega), fun e => (by rw [hw] at e; cases e), fun _ => ⟨rfl, by omega, by simp at h3; omega⟩⟩⟩
        refine ⟨fun hw => ?_, fun hw => ?_⟩
        · simp only [decide_eq_true_eq, decide_eq_false_iff_not]
          refine ⟨fun h2 => bad _ rfl (lay_n2 hw (.inl h2)), fun h2 => ⟨fun h3 => bad _ rfl (lay_n2 hw (.inr (.inl h3))), fun h3 => ⟨fun h4 => bad _ rfl (lay_n2 hw (.inr (.inr (.inl h4)))), fun h4 => ⟨fun h5 => bad _ rfl (lay_n2 hw (.inr (.inr (.inr h5)))), fun h5 => ⟨fun h6 => ?_, fun h6 => ?_⟩⟩⟩⟩⟩
          · rw [hw] at h6; cases h6
          · refine hJ _ _ ⟨rfl, _, rfl, (fun e => by cases e), fun _ => ⟨_, lay_w h1' hw (by omega), fun _ => rfl, fun e => by rw [hw] at e; cases e⟩⟩
        · have hw : D.whole = false := hw
          refine ⟨fun _ => last hw, fun h2 => ?_⟩
          rw [hw] at h2; cases h2
      · intro K hK
        simp [W.br_iff]
        refine ⟨fun h1 => hK _ _ ⟨rfl, _, rfl, by simp [h1]⟩, fun h1 => ⟨fun h2 => hK _ _ ⟨rfl, _, rfl, by simp; omega⟩, fun h2 => ⟨fun h3 => hK _ _ ⟨rfl, _, rfl, by simp; omega⟩, fun h3 => hK _ _ ⟨rfl, _, rfl, by simp; omega⟩⟩⟩⟩
  · simp [W.ld_at hb2, W.st_at hb2]
    have hB2 : Bal (s2.upd b (.cells ({ B with commit := B.base }.cells l noTri noTri noTri) 101 (0, 0))) b l noTri noTri noTri { B with commit := B.base } := hB.lay
    refine W.call_of (c_clean hB2 ⟨q1, q2, q3⟩) ?_
    rintro _ s3 ⟨rfl, hB3, m3⟩
    refine ⟨(), rfl, ?_⟩
    have hb0 := hf b (by simp [bL])
    exact ⟨(m2.updLater (.inr hb0)).fresh m3 (by simp [hb0]), .inl ⟨hok, _, hL.done (by omega), b, l, rfl, hB3, hf⟩⟩
end
end Go.Proofs.YtcdggocbjnmeaaaGreat
end
section
set_option linter.unusedVariables false
set_option linter.unusedSimpArgs false
set_option maxHeartbeats 1000000
namespace Go.Proofs.YtcdggocbjnmeaaaGreat
open Fw Go
theorem merge_cons (B : BS) (i : Int) (e : Ent) (xs : List Ent) : B.merge i (e :: xs) = if B.termAt (i + 1) = (e.term, true) then B.merge (i + 1) xs else B.set (i + 1) (e :: xs) := rfl
def BS.Fr (B : BS) : Prop := B.whole = false → B.base < B.from_ ∧ B.from_ ≤ B.lst + 1
theorem BS.Fr.same {B B' : BS} (h : B.Fr) (h1 : B'.base = B.base) (h2 : B'.log = B.log) (h3 : B'.from_ = B.from_) (h4 : B'.whole = B.whole) : B'.Fr := by
  intro hw
  rw [h4] at hw
  have := h hw
  have e : B'.lst = B.lst := by unfold BS.lst; rw [h1, h2]
  rw [h1, h3, e]; exact this
theorem BS.Fr.set {B : BS} (h : B.Fr) {i : Int} (h1 : B.base < i) (h2 : i ≤ B.lst + 1) (ys : List Ent) : (B.set i ys).Fr := by
  intro hw
  have hh := h hw
  have e := set_lst h1 h2 ys
  rw [e]
  show B.base < (if i < B.from_ then i else B.from_) ∧ (if i < B.from_ then i else B.from_) ≤ i - 1 + ys.length + 1
  split <;> omega
theorem BS.Fr.settled {B : BS} (h : B.Fr) (hlc : B.commit ≤ B.lst) : B.settled.1.Fr := by
  obtain ⟨c, hc, _⟩ := settled_com B hlc
  rw [hc]; exact h.same rfl rfl rfl rfl
theorem BS.Fr.counted {B : BS} (h : B.Fr) {z : Int} (hI : B.Inv z) : B.counted.1.Fr := by
  unfold BS.counted
  split
  · exact h
  · have hb := hI.run.ok.com
    have hlc := hI.run.lc
    have h2 : B.lead2.Fr := h.same rfl rfl rfl rfl
    have hl : B.lead2.lst = B.lst := rfl
    have h3 := h2.set (i := B.lst + 1) (by show B.base < _; omega) (by rw [hl]; omega) [{ noEnt with term := B.term }]
    refine h3.settled ?_
    rw [set_lst (B := B.lead2) (by show B.base < _; omega) (by rw [hl]; omega)]
    show B.commit ≤ _
    simp; omega
theorem BS.Fr.merge {B : BS} (h : B.Fr) : ∀ (xs : List Ent) (i : Int), B.base ≤ i → i ≤ B.lst → (B.merge i xs).Fr
  | [], _, _, _ => h
  | e :: xs, i, h1, h2 => by
    rw [merge_cons]
    split
    · rename_i ht
      exact BS.Fr.merge h xs (i + 1) (by omega) (termAt_le (by rw [ht]) (by omega))
    · exact h.set (by omega) (by omega) _
theorem BS.Fr.fed {B : BS} (h : B.Fr) {z : Int} (hI : B.Inv z) (M : Msg) : (B.fed M).1.Fr := by
  have hb := hI.run.ok.com
  have hlc := hI.run.lc
  have hC : ({ B with role := 0, lead := M.from_ } : BS).Fr := h.same rfl rfl rfl rfl
  unfold BS.fed
  split
  · exact h
  · dsimp only
    split
    · exact hC
    · split
      · exact hC
      · rename_i hc
        split
        · exact (BS.Fr.merge hC _ B.commit hb hlc).same rfl rfl rfl rfl
        · rename_i hge
          have hyes : B.termAt M.index = (M.prev, true) := by
            by_cases e : B.termAt M.index = (M.prev, true)
            · exact e
            · exact absurd ⟨hge, e⟩ hc
          have hil : M.index ≤ B.lst := termAt_le (by rw [hyes]) (by omega)
          exact (BS.Fr.merge hC _ M.index (by show B.base ≤ _; omega) hil).same rfl rfl rfl rfl
theorem BS.Fr.whole {B : BS} (h : B.whole = true) : B.Fr := fun e => by rw [h] at e; cases e
theorem BS.Fr.given {B : BS} (h : B.Fr) (M : Msg) : (B.given M).1.Fr := by
  unfold BS.given
  split
  · exact h
  · split
    · exact h.same rfl rfl rfl rfl
    · exact BS.Fr.whole rfl
theorem BS.Fr.asked {B : BS} (h : B.Fr) (M : Msg) : (B.asked M).1.Fr := by
  unfold BS.asked
  dsimp only
  split
  · exact h.same rfl rfl rfl rfl
  · exact h
theorem BS.Fr.voted {B : BS} (h : B.Fr) {z : Int} (hI : B.Inv z) (M : Msg) : (B.voted M).1.Fr := by
  unfold BS.voted
  split
  · exact h
  · have hb := hI.run.ok.com
    have hlc := hI.run.lc
    have h1 : ({ B with votes := B.votes.set M.from_.toNat true } : BS).Fr := h.same rfl rfl rfl rfl
    unfold BS.counted
    split
    · exact h1
    · have h2 : ({ B with votes := B.votes.set M.from_.toNat true } : BS).lead2.Fr := h1.same rfl rfl rfl rfl
      have hl : ({ B with votes := B.votes.set M.from_.toNat true } : BS).lead2.lst = B.lst := rfl
      have hl2 : ({ B with votes := B.votes.set M.from_.toNat true } : BS).lst = B.lst := rfl
      rw [hl2]
      have h3 := h2.set (i := B.lst + 1) (by show B.base < _; omega) (by rw [hl]; omega) [{ noEnt with term := B.term }]
      refine h3.settled ?_
      rw [set_lst (B := ({ B with votes := B.votes.set M.from_.toNat true } : BS).lead2) (by show B.base < _; omega) (by rw [hl]; omega)]
      show B.commit ≤ _
      simp; omega
theorem BS.Fr.heard {B : BS} (h : B.Fr) {z : Int} (hI : B.Inv z) (M : Msg) : (B.heard M).1.Fr := by
  have hlc := hI.run.lc
  unfold BS.heard
  split
  · exact h
  · dsimp only
    split
    · exact h.same rfl rfl rfl rfl
    · have h1 : (B.fedTo M.from_.toNat M.index).Fr := h.same rfl rfl rfl rfl
      have h2 := h1.settled hlc
      split
      · exact h2
      · exact h2
theorem BS.Fr.take {B : BS} (h : B.Fr) {z : Int} (hI : B.Inv z) (M : Msg) (hz : 0 ≤ z) : (B.take M).1.Fr := by
  unfold BS.take
  split
  · exact h
  · rename_i hst
    have hs : (B.seen M).Fr := by
      unfold BS.seen; split
      · exact h.same rfl rfl rfl rfl
      · exact h
    have hsI : (B.seen M).Inv z := by
      have hst : M.strange B.id B.size = false := by simpa using hst
      unfold Msg.strange at hst
      simp only [Bool.or_eq_false_iff, decide_eq_false_iff_not] at hst
      obtain ⟨f1, f2, f3, f4, f5, f6, f7, f8, f9, f10, ⟨f11, f12⟩, f13, f14⟩ := hst
      unfold BS.seen; split
      · exact Inv.turned hI ⟨by omega, by omega⟩ hz
      · exact hI
    split
    · exact hs
    · unfold BS.does
      split
      · exact hs.asked M
      · split
        · exact hs.voted hsI M
        · split
          · exact hs.fed hsI M
          · split
            · exact hs.heard hsI M
            · exact hs.given M
theorem BS.Fr.cleaned {B : BS} (hs : B.base ≤ B.lst) : B.cleaned.Fr := fun _ => by
  show B.base < B.lst + 1 ∧ B.lst + 1 ≤ B.lst + 1
  omega
theorem BS.Fr.new (id size : Int) : (newBS id size).Fr := fun _ => ⟨by show (0 : Int) < 1; omega, by show (1 : Int) ≤ 0 + 0 + 1; omega⟩
theorem Inv.cleaned {B : BS} {z : Int} (h : B.Inv z) : B.cleaned.Inv z := by
  have hk := h.run.ok
  exact ⟨⟨⟨⟨hk.small.base0, hk.small.base1, hk.small.log1⟩, hk.base, hk.size, hk.id, hk.com⟩, h.run.lc, h.run.vt, fun hr => ⟨(h.run.ld hr).nlen, (h.run.ld hr).mlen, (h.run.ld hr).nr, (h.run.ld hr).mr⟩⟩, h.len, h.far, h.term, h.vote⟩
end Go.Proofs.YtcdggocbjnmeaaaGreat
end
section
set_option linter.unusedVariables false
set_option maxHeartbeats 1000000
namespace Go.Proofs.YtcdggocbjnmeaaaGreat
open Fw Fw.W Go
/-- lintel/drive.New -/
def vc_New {W : Type} (π : Prims W) : W :=
  π.nw (Obj.map #[] (0 : Nat)) fun r0 =>
  π.nw (Obj.cells #[(Value.map (some r0)), (Value.bool (false)), (Value.int (IntKind.i64) ((0 : Int)))] (107 : Nat) ((0 : Nat), (0 : Nat))) fun r1 =>
  π.ret (Value.pointer (some (Addr.mk r1 (0 : Nat) none)))
def ann_New : Ann := { draws := [], join := [], loop := [] }
def la_New : LA := { ptr := [], ty := [] }
set_option maxRecDepth 100000 in
theorem eq_New {W : Type} (π : Prims W) : bodyL π Tryz.prog la_New ann_New (mkFr (maskA [] [] 0) 4) Tryz.f37 (bodyOf Tryz.f37) (mkFr (List.map some []) 4) = vc_New π := by kernel_rfl
theorem ok_New (R : Value → PH → Prop) (s : PH) (h : vc_New (RP Tryz.prog R) s) : DCalls Tryz.prog 37 (List.map AV.val []).toArray s R :=
  calls_vcL (c := bodyOf Tryz.f37) (ann := ann_New) la_New (by kernel_rfl) Tryz.func37 rfl (by kernel_rfl) [] [] (by rw [Tryz.ntmps37]; exact Nat.le_of_ble_eq_true rfl) (by kernel_rfl) (by rw [show Tryz.f37.ntmps = 4 from Tryz.ntmps37, eq_New]; exact h)
/-- (*lintel/drive.Drive).begin -/
def vc_begin {W : Type} (π : Prims W) (b : Nat) : W :=
  π.ite ((some (Addr.mk b (0 : Nat) none)).isNone) (
    π.ret (Value.tuple #[(Value.bool (false)), (Value.int (IntKind.i64) ((2 : Int)))])
  ) (
    π.unSome (some (Addr.mk b (0 : Nat) none)) fun p0 =>
    π.ld [.bool] (p0.add (1 : Nat)) fun ((b1 : Bool), _) =>
    π.ite (b1) (
      π.ret (Value.tuple #[(Value.bool (false)), (Value.int (IntKind.i64) ((50 : Int)))])
    ) (
      π.unSome (some (Addr.mk b (0 : Nat) none)) fun p2 =>
      π.ld [.int .i64] (p2.add (2 : Nat)) fun ((x3 : Int), _) =>
      π.ite (decide (x3 > (0 : Int))) (
        π.unSome (some (Addr.mk b (0 : Nat) none)) fun p4 =>
        π.ld [.int .i64] (p4.add (2 : Nat)) fun ((x5 : Int), _) =>
        π.unSome (some (Addr.mk b (0 : Nat) none)) fun p6 =>
        π.st (p6.add (2 : Nat)) [(Value.int (IntKind.i64) (IntKind.i64.wrap (x5 - (1 : Int))))] <|
        π.unSome (some (Addr.mk b (0 : Nat) none)) fun p7 =>
        π.ld [.int .i64] (p7.add (2 : Nat)) fun ((x8 : Int), _) =>
        π.unSome (some (Addr.mk b (0 : Nat) none)) fun p9 =>
        π.st (p9.add (1 : Nat)) [(Value.bool (x8 == (0 : Int)))] <|
        π.unSome (some (Addr.mk b (0 : Nat) none)) fun p10 =>
        π.ld [.bool] (p10.add (1 : Nat)) fun ((b11 : Bool), _) =>
        π.ite (b11) (
          π.ret (Value.tuple #[(Value.bool (true)), (Value.int (IntKind.i64) ((50 : Int)))])
        ) (
          π.ret (Value.tuple #[(Value.bool (false)), (Value.int (IntKind.i64) ((0 : Int)))])
        )
      ) (
        π.unSome (some (Addr.mk b (0 : Nat) none)) fun p12 =>
        π.ld [.bool] (p12.add (1 : Nat)) fun ((b13 : Bool), _) =>
        π.ite (b13) (
          π.ret (Value.tuple #[(Value.bool (true)), (Value.int (IntKind.i64) ((50 : Int)))])
        ) (
          π.ret (Value.tuple #[(Value.bool (false)), (Value.int (IntKind.i64) ((0 : Int)))])
        )
      )
    )
  )
def ann_begin : Ann := { draws := [], join := [], loop := [] }
def la_begin : LA := { ptr := [], ty := [] }
set_option maxRecDepth 100000 in
theorem eq_begin {W : Type} (π : Prims W) (b : Nat) : bodyL π Tryz.prog la_begin ann_begin (mkFr (maskA [] [.v (.pointer (some ⟨b, 0, none⟩))] 0) 36) Tryz.f106 (bodyOf Tryz.f106) (mkFr (List.map some [.v (.pointer (some ⟨b, 0, none⟩))]) 36) = vc_begin π b := by kernel_rfl
theorem ok_begin (b : Nat) (R : Value → PH → Prop) (s : PH) (h : vc_begin (RP Tryz.prog R) b s) : DCalls Tryz.prog 106 (List.map AV.val [.v (.pointer (some ⟨b, 0, none⟩))]).toArray s R :=
  calls_vcL (c := bodyOf Tryz.f106) (ann := ann_begin) la_begin (by kernel_rfl) Tryz.func106 rfl (by kernel_rfl) [.v (.pointer (some ⟨b, 0, none⟩))] [] (by rw [Tryz.ntmps106]; exact Nat.le_of_ble_eq_true rfl) (by kernel_rfl) (by rw [show Tryz.f106.ntmps = 36 from Tryz.ntmps106, eq_begin]; exact h)
/-- (*lintel/drive.Drive).Append -/
def vc_Append {W : Type} (π : Prims W) (b : Nat) (nm dt : ByteArray) : W :=
  π.call (106 : Nat) #[(Value.pointer (some (Addr.mk b (0 : Nat) none)))] (true, [(false, [.bool]), (false, [.int .i64])]) fun (((b0 : Bool), _), ((x1 : Int), _), _) =>
  π.join [(false, [.int .i64]), (false, [.bool])] (fun J2 =>
    π.ite (x1 == (0 : Int)) (
      J2 ((x1, ()), (true, ()), ())
    ) (
      J2 ((x1, ()), (b0, ()), ())
    )
  ) (fun (((x3 : Int), _), ((b4 : Bool), _), _) =>
    π.ite (b4) (
      π.unSome (some (Addr.mk b (0 : Nat) none)) fun p5 =>
      π.ld [.map] (p5.add (0 : Nat)) fun ((m6 : Option Nat), _) =>
      π.look (TypeDesc.string) (m6) (Value.string (nm)) (Value.agg #[(Value.string (ByteArray.mk #[])), (Value.int (IntKind.i64) ((0 : Int)))]) (true, [.str, .int .i64]) fun ((t8 : ByteArray), (x9 : Int), _) b7 =>
      π.guard ((↑(t8.size + dt.size) : Int) ≤ (9223372036854775807 : Int)) <|
      π.unSome (some (Addr.mk b (0 : Nat) none)) fun p10 =>
      π.ld [.map] (p10.add (0 : Nat)) fun ((m11 : Option Nat), _) =>
      π.mset (TypeDesc.string) (m11) (Value.string (nm)) (Value.agg #[(Value.string (t8 ++ dt)), (Value.int (IntKind.i64) (x9))]) <|
      π.ret (Value.int (IntKind.i64) (x3))
    ) (
      π.ret (Value.int (IntKind.i64) (x3))
    )
  )
def ann_Append : Ann := { draws := [(5, { A := [0, 1, 2, 3, 4, 5] })], join := [(3, [(8, 51), (19, 4)])], loop := [] }
def la_Append : LA := { ptr := [(9, 9, 0), (26, 9, 0), (30, 9, 0)], ty := [(9, 144)] }
set_option maxRecDepth 100000 in
theorem eq_Append {W : Type} (π : Prims W) (b : Nat) (nm dt : ByteArray) : bodyL π Tryz.prog la_Append ann_Append (mkFr (maskA [] [.v (.pointer (some ⟨b, 0, none⟩)), .v (.string nm), .v (.string dt)] 0) 38) Tryz.f99 (bodyOf Tryz.f99) (mkFr (List.map some [.v (.pointer (some ⟨b, 0, none⟩)), .v (.string nm), .v (.string dt)]) 38) = vc_Append π b nm dt := by kernel_rfl
theorem ok_Append (b : Nat) (nm dt : ByteArray) (R : Value → PH → Prop) (s : PH) (h : vc_Append (RP Tryz.prog R) b nm dt s) : DCalls Tryz.prog 99 (List.map AV.val [.v (.pointer (some ⟨b, 0, none⟩)), .v (.string nm), .v (.string dt)]).toArray s R :=
  calls_vcL (c := bodyOf Tryz.f99) (ann := ann_Append) la_Append (by kernel_rfl) Tryz.func99 rfl (by kernel_rfl) [.v (.pointer (some ⟨b, 0, none⟩)), .v (.string nm), .v (.string dt)] [] (by rw [Tryz.ntmps99]; exact Nat.le_of_ble_eq_true rfl) (by kernel_rfl) (by rw [show Tryz.f99.ntmps = 38 from Tryz.ntmps99, eq_Append]; exact h)
/-- (*lintel/drive.Drive).Sync -/
def vc_Sync {W : Type} (π : Prims W) (b : Nat) (nm : ByteArray) : W :=
  π.call (106 : Nat) #[(Value.pointer (some (Addr.mk b (0 : Nat) none)))] (true, [(false, [.bool]), (false, [.int .i64])]) fun (((b0 : Bool), _), ((x1 : Int), _), _) =>
  π.ite (x1 != (0 : Int)) (
    π.ret (Value.int (IntKind.i64) (x1))
  ) (
    π.unSome (some (Addr.mk b (0 : Nat) none)) fun p2 =>
    π.ld [.map] (p2.add (0 : Nat)) fun ((m3 : Option Nat), _) =>
    π.look (TypeDesc.string) (m3) (Value.string (nm)) (Value.agg #[(Value.string (ByteArray.mk #[])), (Value.int (IntKind.i64) ((0 : Int)))]) (true, [.str, .int .i64]) fun ((t5 : ByteArray), (x6 : Int), _) b4 =>
    π.ite (b4) (
      π.unSome (some (Addr.mk b (0 : Nat) none)) fun p7 =>
      π.ld [.map] (p7.add (0 : Nat)) fun ((m8 : Option Nat), _) =>
      π.mset (TypeDesc.string) (m8) (Value.string (nm)) (Value.agg #[(Value.string (t5)), (Value.int (IntKind.i64) ((↑t5.size : Int)))]) <|
      π.ret (Value.int (IntKind.i64) ((0 : Int)))
    ) (
      π.ret (Value.int (IntKind.i64) ((0 : Int)))
    )
  )
def ann_Sync : Ann := { draws := [(7, { A := [0, 1, 2, 3, 4, 5] })], join := [], loop := [] }
def la_Sync : LA := { ptr := [(7, 7, 0), (27, 7, 0), (30, 7, 1)], ty := [(7, 144)] }
set_option maxRecDepth 100000 in
theorem eq_Sync {W : Type} (π : Prims W) (b : Nat) (nm : ByteArray) : bodyL π Tryz.prog la_Sync ann_Sync (mkFr (maskA [] [.v (.pointer (some ⟨b, 0, none⟩)), .v (.string nm)] 0) 37) Tryz.f100 (bodyOf Tryz.f100) (mkFr (List.map some [.v (.pointer (some ⟨b, 0, none⟩)), .v (.string nm)]) 37) = vc_Sync π b nm := by kernel_rfl
theorem ok_Sync (b : Nat) (nm : ByteArray) (R : Value → PH → Prop) (s : PH) (h : vc_Sync (RP Tryz.prog R) b nm s) : DCalls Tryz.prog 100 (List.map AV.val [.v (.pointer (some ⟨b, 0, none⟩)), .v (.string nm)]).toArray s R :=
  calls_vcL (c := bodyOf Tryz.f100) (ann := ann_Sync) la_Sync (by kernel_rfl) Tryz.func100 rfl (by kernel_rfl) [.v (.pointer (some ⟨b, 0, none⟩)), .v (.string nm)] [] (by rw [Tryz.ntmps100]; exact Nat.le_of_ble_eq_true rfl) (by kernel_rfl) (by rw [show Tryz.f100.ntmps = 37 from Tryz.ntmps100, eq_Sync]; exact h)
/-- (*lintel/drive.Drive).Swap -/
def vc_Swap {W : Type} (π : Prims W) (b : Nat) (nm dt : ByteArray) : W :=
  π.call (106 : Nat) #[(Value.pointer (some (Addr.mk b (0 : Nat) none)))] (true, [(false, [.bool]), (false, [.int .i64])]) fun (((b0 : Bool), _), ((x1 : Int), _), _) =>
  π.ite (x1 == (0 : Int)) (
    π.unSome (some (Addr.mk b (0 : Nat) none)) fun p2 =>
    π.ld [.map] (p2.add (0 : Nat)) fun ((m3 : Option Nat), _) =>
    π.mset (TypeDesc.string) (m3) (Value.string (nm)) (Value.agg #[(Value.string (dt)), (Value.int (IntKind.i64) ((↑dt.size : Int)))]) <|
    π.ret (Value.int (IntKind.i64) (x1))
  ) (
    π.ret (Value.int (IntKind.i64) (x1))
  )
def ann_Swap : Ann := { draws := [], join := [], loop := [] }
def la_Swap : LA := { ptr := [], ty := [] }
set_option maxRecDepth 100000 in
theorem eq_Swap {W : Type} (π : Prims W) (b : Nat) (nm dt : ByteArray) : bodyL π Tryz.prog la_Swap ann_Swap (mkFr (maskA [] [.v (.pointer (some ⟨b, 0, none⟩)), .v (.string nm), .v (.string dt)] 0) 26) Tryz.f83 (bodyOf Tryz.f83) (mkFr (List.map some [.v (.pointer (some ⟨b, 0, none⟩)), .v (.string nm), .v (.string dt)]) 26) = vc_Swap π b nm dt := by kernel_rfl
theorem ok_Swap (b : Nat) (nm dt : ByteArray) (R : Value → PH → Prop) (s : PH) (h : vc_Swap (RP Tryz.prog R) b nm dt s) : DCalls Tryz.prog 83 (List.map AV.val [.v (.pointer (some ⟨b, 0, none⟩)), .v (.string nm), .v (.string dt)]).toArray s R :=
  calls_vcL (c := bodyOf Tryz.f83) (ann := ann_Swap) la_Swap (by kernel_rfl) Tryz.func83 rfl (by kernel_rfl) [.v (.pointer (some ⟨b, 0, none⟩)), .v (.string nm), .v (.string dt)] [] (by rw [Tryz.ntmps83]; exact Nat.le_of_ble_eq_true rfl) (by kernel_rfl) (by rw [show Tryz.f83.ntmps = 26 from Tryz.ntmps83, eq_Swap]; exact h)
/-- (*lintel/drive.Drive).Read -/
def vc_Read {W : Type} (π : Prims W) (b : Nat) (nm : ByteArray) : W :=
  π.ite ((some (Addr.mk b (0 : Nat) none)).isNone) (
    π.ret (Value.tuple #[(Value.string (ByteArray.mk #[])), (Value.int (IntKind.i64) ((2 : Int)))])
  ) (
    π.unSome (some (Addr.mk b (0 : Nat) none)) fun p0 =>
    π.ld [.bool] (p0.add (1 : Nat)) fun ((b1 : Bool), _) =>
    π.ite (b1) (
      π.ret (Value.tuple #[(Value.string (ByteArray.mk #[])), (Value.int (IntKind.i64) ((50 : Int)))])
    ) (
      π.unSome (some (Addr.mk b (0 : Nat) none)) fun p2 =>
      π.ld [.map] (p2.add (0 : Nat)) fun ((m3 : Option Nat), _) =>
      π.look (TypeDesc.string) (m3) (Value.string (nm)) (Value.agg #[(Value.string (ByteArray.mk #[])), (Value.int (IntKind.i64) ((0 : Int)))]) (true, [.str, .int .i64]) fun ((t5 : ByteArray), (x6 : Int), _) b4 =>
      π.ret (Value.tuple #[(Value.string (t5)), (Value.int (IntKind.i64) ((0 : Int)))])
    )
  )
def ann_Read : Ann := { draws := [], join := [], loop := [] }
def la_Read : LA := { ptr := [], ty := [] }
set_option maxRecDepth 100000 in
theorem eq_Read {W : Type} (π : Prims W) (b : Nat) (nm : ByteArray) : bodyL π Tryz.prog la_Read ann_Read (mkFr (maskA [] [.v (.pointer (some ⟨b, 0, none⟩)), .v (.string nm)] 0) 21) Tryz.f82 (bodyOf Tryz.f82) (mkFr (List.map some [.v (.pointer (some ⟨b, 0, none⟩)), .v (.string nm)]) 21) = vc_Read π b nm := by kernel_rfl
theorem ok_Read (b : Nat) (nm : ByteArray) (R : Value → PH → Prop) (s : PH) (h : vc_Read (RP Tryz.prog R) b nm s) : DCalls Tryz.prog 82 (List.map AV.val [.v (.pointer (some ⟨b, 0, none⟩)), .v (.string nm)]).toArray s R :=
  calls_vcL (c := bodyOf Tryz.f82) (ann := ann_Read) la_Read (by kernel_rfl) Tryz.func82 rfl (by kernel_rfl) [.v (.pointer (some ⟨b, 0, none⟩)), .v (.string nm)] [] (by rw [Tryz.ntmps82]; exact Nat.le_of_ble_eq_true rfl) (by kernel_rfl) (by rw [show Tryz.f82.ntmps = 21 from Tryz.ntmps82, eq_Read]; exact h)
/-- (*lintel/drive.Drive).Arm -/
def vc_Arm {W : Type} (π : Prims W) (b : Nat) (n : Int) : W :=
  π.ite (!(some (Addr.mk b (0 : Nat) none)).isNone) (
    π.unSome (some (Addr.mk b (0 : Nat) none)) fun p0 =>
    π.ld [.bool] (p0.add (1 : Nat)) fun ((b1 : Bool), _) =>
    π.ite (!b1) (
      π.unSome (some (Addr.mk b (0 : Nat) none)) fun p2 =>
      π.st (p2.add (2 : Nat)) [(Value.int (IntKind.i64) (if n > (0 : Int) then n else (0 : Int)))] <|
      π.ret (Value.tuple #[])
    ) (
      π.ret (Value.tuple #[])
    )
  ) (
    π.ret (Value.tuple #[])
  )
def ann_Arm : Ann := { draws := [], join := [], loop := [] }
def la_Arm : LA := { ptr := [], ty := [] }
set_option maxRecDepth 100000 in
theorem eq_Arm {W : Type} (π : Prims W) (b : Nat) (n : Int) : bodyL π Tryz.prog la_Arm ann_Arm (mkFr (maskA [] [.v (.pointer (some ⟨b, 0, none⟩)), .v (.int .i64 n)] 0) 18) Tryz.f50 (bodyOf Tryz.f50) (mkFr (List.map some [.v (.pointer (some ⟨b, 0, none⟩)), .v (.int .i64 n)]) 18) = vc_Arm π b n := by kernel_rfl
theorem ok_Arm (b : Nat) (n : Int) (R : Value → PH → Prop) (s : PH) (h : vc_Arm (RP Tryz.prog R) b n s) : DCalls Tryz.prog 50 (List.map AV.val [.v (.pointer (some ⟨b, 0, none⟩)), .v (.int .i64 n)]).toArray s R :=
  calls_vcL (c := bodyOf Tryz.f50) (ann := ann_Arm) la_Arm (by kernel_rfl) Tryz.func50 rfl (by kernel_rfl) [.v (.pointer (some ⟨b, 0, none⟩)), .v (.int .i64 n)] [] (by rw [Tryz.ntmps50]; exact Nat.le_of_ble_eq_true rfl) (by kernel_rfl) (by rw [show Tryz.f50.ntmps = 18 from Tryz.ntmps50, eq_Arm]; exact h)
/-- (*lintel/drive.Drive).Crash -/
def vc_Crash {W : Type} (π : Prims W) (b : Nat) (k : Option Addr) (n c : Nat) : W :=
  π.ite ((some (Addr.mk b (0 : Nat) none)).isNone) (
    π.ret (Value.pointer (none))
  ) (
    π.call (37 : Nat) #[] (false, [(false, [.ptr])]) fun ((p0, _), _) =>
    π.call (81 : Nat) #[(Value.pointer (some (Addr.mk b (0 : Nat) none)))] (false, [(false, [.slice])]) fun ((((a1 : Option Addr), (n2 : Nat), (c3 : Nat)), _), _) =>
    π.loop [(false, [.ptr]), (false, [.slice]), (false, [.int .i64]), (false, [.int .i64])] ((p0, ()), ((a1, n2, c3), ()), ((↑n2 : Int), ()), ((0 : Int), ()), ()) fun ((p5, _), (((a6 : Option Addr), (n7 : Nat), (c8 : Nat)), _), ((x9 : Int), _), ((x10 : Int), _), _) again4 =>
      π.ite (decide (x10 < x9)) (
        π.guard ((0 : Int) ≤ x10 ∧ x10 < (↑n7 : Int)) <|
        π.unSome (a6) fun p11 =>
        π.ld [.str] (p11.add (x10.toNat * (1 : Nat))) fun ((t12 : ByteArray), _) =>
        π.unSome (some (Addr.mk b (0 : Nat) none)) fun p13 =>
        π.ld [.map] (p13.add (0 : Nat)) fun ((m14 : Option Nat), _) =>
        π.look (TypeDesc.string) (m14) (Value.string (t12)) (Value.agg #[(Value.string (ByteArray.mk #[])), (Value.int (IntKind.i64) ((0 : Int)))]) (true, [.str, .int .i64]) fun ((t16 : ByteArray), (x17 : Int), _) b15 =>
        π.ite (decide (x10 < (↑n : Int))) (
          π.guard ((0 : Int) ≤ x10 ∧ x10 < (↑n : Int)) <|
          π.unSome (k) fun p18 =>
          π.ld [.int .i64] (p18.add (x10.toNat * (1 : Nat))) fun ((x19 : Int), _) =>
          π.unSome (p5) fun p20 =>
          π.ld [.map] (p20.add (0 : Nat)) fun ((m21 : Option Nat), _) =>
          π.guard ((0 : Int) ≤ (0 : Int) ∧ (0 : Int) ≤ IntKind.i64.wrap (x17 + if (if IntKind.i64.wrap ((↑t16.size : Int) - x17) < x19 then IntKind.i64.wrap ((↑t16.size : Int) - x17) else x19) > (0 : Int) then if IntKind.i64.wrap ((↑t16.size : Int) - x17) < x19 then IntKind.i64.wrap ((↑t16.size : Int) - x17) else x19 else (0 : Int)) ∧ IntKind.i64.wrap (x17 + if (if IntKind.i64.wrap ((↑t16.size : Int) - x17) < x19 then IntKind.i64.wrap ((↑t16.size : Int) - x17) else x19) > (0 : Int) then if IntKind.i64.wrap ((↑t16.size : Int) - x17) < x19 then IntKind.i64.wrap ((↑t16.size : Int) - x17) else x19 else (0 : Int)) ≤ (↑t16.size : Int)) <|
          π.mset (TypeDesc.string) (m21) (Value.string (t12)) (Value.agg #[(Value.string (t16.extract (0 : Nat) (IntKind.i64.wrap (x17 + if (if IntKind.i64.wrap ((↑t16.size : Int) - x17) < x19 then IntKind.i64.wrap ((↑t16.size : Int) - x17) else x19) > (0 : Int) then if IntKind.i64.wrap ((↑t16.size : Int) - x17) < x19 then IntKind.i64.wrap ((↑t16.size : Int) - x17) else x19 else (0 : Int))).toNat)), (Value.int (IntKind.i64) (IntKind.i64.wrap (x17 + if (if IntKind.i64.wrap ((↑t16.size : Int) - x17) < x19 then IntKind.i64.wrap ((↑t16.size : Int) - x17) else x19) > (0 : Int) then if IntKind.i64.wrap ((↑t16.size : Int) - x17) < x19 then IntKind.i64.wrap ((↑t16.size : Int) - x17) else x19 else (0 : Int))))]) <|
          again4 ((p5, ()), ((a6, n7, c8), ()), (x9, ()), (IntKind.i64.wrap (x10 + (1 : Int)), ()), ())
        ) (
          π.unSome (p5) fun p22 =>
          π.ld [.map] (p22.add (0 : Nat)) fun ((m23 : Option Nat), _) =>
          π.guard ((0 : Int) ≤ (0 : Int) ∧ (0 : Int) ≤ IntKind.i64.wrap (x17 + (0 : Int)) ∧ IntKind.i64.wrap (x17 + (0 : Int)) ≤ (↑t16.size : Int)) <|
          π.mset (TypeDesc.string) (m23) (Value.string (t12)) (Value.agg #[(Value.string (t16.extract (0 : Nat) (IntKind.i64.wrap (x17 + (0 : Int))).toNat)), (Value.int (IntKind.i64) (IntKind.i64.wrap (x17 + (0 : Int))))]) <|
          again4 ((p5, ()), ((a6, n7, c8), ()), (x9, ()), (IntKind.i64.wrap (x10 + (1 : Int)), ()), ())
        )
      ) (
        π.unSome (some (Addr.mk b (0 : Nat) none)) fun p24 =>
        π.st (p24.add (1 : Nat)) [(Value.bool (true))] <|
        π.ret (Value.pointer (p5))
      )
  )
def ann_Crash : Ann := { draws := [(10, { A := [0, 1, 2, 3, 4, 5, 6, 7, 8, 9, 10, 11, 12] }), (11, { A := [0, 1, 2, 3, 4, 5, 6, 7, 8, 9, 10, 11, 12, 13, 14, 15, 16] })], join := [], loop := [(5, [(5, 70), (14, 28), (15, 3), (16, 3)])] }
def la_Crash : LA := { ptr := [(8, 8, 0), (35, 8, 0), (38, 8, 1), (48, 8, 0), (50, 8, 1), (55, 8, 1)], ty := [(8, 144)] }
set_option maxRecDepth 100000 in
theorem eq_Crash {W : Type} (π : Prims W) (b : Nat) (k : Option Addr) (n c : Nat) : bodyL π Tryz.prog la_Crash ann_Crash (mkFr (maskA [] [.v (.pointer (some ⟨b, 0, none⟩)), .v (.slice k n c)] 0) 65) Tryz.f56 (bodyOf Tryz.f56) (mkFr (List.map some [.v (.pointer (some ⟨b, 0, none⟩)), .v (.slice k n c)]) 65) = vc_Crash π b k n c := by kernel_rfl
theorem ok_Crash (b : Nat) (k : Option Addr) (n c : Nat) (R : Value → PH → Prop) (s : PH) (h : vc_Crash (RP Tryz.prog R) b k n c s) : DCalls Tryz.prog 56 (List.map AV.val [.v (.pointer (some ⟨b, 0, none⟩)), .v (.slice k n c)]).toArray s R :=
  calls_vcL (c := bodyOf Tryz.f56) (ann := ann_Crash) la_Crash (by kernel_rfl) Tryz.func56 rfl (by kernel_rfl) [.v (.pointer (some ⟨b, 0, none⟩)), .v (.slice k n c)] [] (by rw [Tryz.ntmps56]; exact Nat.le_of_ble_eq_true rfl) (by kernel_rfl) (by rw [show Tryz.f56.ntmps = 65 from Tryz.ntmps56, eq_Crash]; exact h)
/-- (*lintel/drive.Drive).Names -/
def vc_Names {W : Type} (π : Prims W) (b : Nat) : W :=
  π.ite ((some (Addr.mk b (0 : Nat) none)).isNone) (
    π.ret (Value.slice (none) ((0 : Nat)) ((0 : Nat)))
  ) (
    π.unSome (some (Addr.mk b (0 : Nat) none)) fun p0 =>
    π.ld [.map] (p0.add (0 : Nat)) fun ((m1 : Option Nat), _) =>
    π.call (105 : Nat) #[(Value.map (m1))] (false, [(false, [.raw])]) fun (((v2 : Value), _), _) =>
    π.call (104 : Nat) #[v2] (false, [(false, [.slice])]) fun ((((a3 : Option Addr), (n4 : Nat), (c5 : Nat)), _), _) =>
    π.ret (Value.slice (a3) (n4) (c5))
  )
def ann_Names : Ann := { draws := [], join := [], loop := [] }
def la_Names : LA := { ptr := [], ty := [] }
set_option maxRecDepth 100000 in
theorem eq_Names {W : Type} (π : Prims W) (b : Nat) : bodyL π Tryz.prog la_Names ann_Names (mkFr (maskA [] [.v (.pointer (some ⟨b, 0, none⟩))] 0) 11) Tryz.f81 (bodyOf Tryz.f81) (mkFr (List.map some [.v (.pointer (some ⟨b, 0, none⟩))]) 11) = vc_Names π b := by kernel_rfl
theorem ok_Names (b : Nat) (R : Value → PH → Prop) (s : PH) (h : vc_Names (RP Tryz.prog R) b s) : DCalls Tryz.prog 81 (List.map AV.val [.v (.pointer (some ⟨b, 0, none⟩))]).toArray s R :=
  calls_vcL (c := bodyOf Tryz.f81) (ann := ann_Names) la_Names (by kernel_rfl) Tryz.func81 rfl (by kernel_rfl) [.v (.pointer (some ⟨b, 0, none⟩))] [] (by rw [Tryz.ntmps81]; exact Nat.le_of_ble_eq_true rfl) (by kernel_rfl) (by rw [show Tryz.f81.ntmps = 11 from Tryz.ntmps81, eq_Names]; exact h)
end Go.Proofs.YtcdggocbjnmeaaaGreat
end
section
set_option linter.unusedVariables false
set_option linter.unusedSimpArgs false
set_option maxHeartbeats 1000000
namespace Go.Proofs.YtcdggocbjnmeaaaGreat
open Fw Go
/-- what a drive stands for -/
structure DS where
  files : List (ByteArray × (ByteArray × Int))
  down : Bool
  armed : Int
def fileV (p : ByteArray × Int) : Value := .agg #[.string p.1, .int .i64 p.2]
def dptr (b : Nat) : Value := .pointer (some ⟨b, 0, none⟩)
structure DriveIs (s : PH) (b m : Nat) (d : DS) : Prop where
  blk : s b = some (.cells #[.map (some m), .bool d.down, .int .i64 d.armed] 107 (0, 0))
  map : isMap strKey fileV s m d.files
def DS.begin (d : DS) : (Bool × Int) × DS :=
  if d.down then ((false, 50), d)
  else if d.armed > 0 then
    let a := IntKind.i64.wrap (d.armed - 1)
    ((a == 0, if a == 0 then 50 else 0), { d with armed := a, down := a == 0 })
  else ((false, 0), d)
theorem DriveIs.ne {s : PH} {b m : Nat} {d : DS} (h : DriveIs s b m d) : b ≠ m := by
  rintro rfl
  obtain ⟨es, c, h1, _⟩ := h.map
  rw [h.blk] at h1; cases h1
theorem c_New (s : PH) : DCalls Tryz.prog 37 #[] s fun v s' => ∃ b m, v = dptr b ∧ DriveIs s' b m ⟨[], false, 0⟩ ∧ Mod [] s s' ∧ s b = none ∧ s m = none := by
  refine ok_New _ s ?_
  unfold vc_New
  simp only [RP_nw, RP_ret, W.nw_iff, W.ret_iff]
  intro m hm b hb
  have hne : b ≠ m := by rintro rfl; simp at hb
  have hb' : s b = none := by rwa [PH.upd_other _ _ hne] at hb
  exact ⟨b, m, rfl, ⟨PH.upd_same _ _ _, isMap.other isMap.new hne.symm⟩, (Mod.new hm).updLater (.inr hb'), hb', hm⟩
theorem DriveIs.upd {s : PH} {b m : Nat} {d : DS} (h : DriveIs s b m d) (x : Bool) (n : Int) : DriveIs (s.upd b (.cells #[.map (some m), .bool x, .int .i64 n] 107 (0, 0))) b m { d with down := x, armed := n } :=
  ⟨PH.upd_same _ _ _, h.map.other h.ne.symm⟩
theorem DriveIs.mod {L : List Nat} {s s' : PH} {b m : Nat} {d : DS} (h : DriveIs s b m d) (hm : Fw.Mod L s s') (hb : b ∉ L) (hl : m ∉ L) : DriveIs s' b m d :=
  ⟨hm.at h.blk hb, h.map.mod hm hl⟩
theorem c_begin {s : PH} {b m : Nat} {d : DS} (h : DriveIs s b m d) : DCalls Tryz.prog 106 #[dptr b] s fun v s' =>
    v = .tuple #[.bool d.begin.1.1, .int .i64 d.begin.1.2] ∧ DriveIs s' b m d.begin.2 ∧ Fw.Mod [b] s s' := by
  have hb := h.blk
  refine ok_begin b _ s ?_
  unfold vc_begin
  simp [W.br_iff, hb, DS.begin]
  refine ⟨fun hd => ?_, fun hd => ⟨fun ha => ⟨fun h0 => ?_, fun h0 => ?_⟩, fun ha => ?_⟩⟩
  · simp [hd, h, Mod.refl]
  · have := h.upd true 0
    simp [hd, ha, h0, this, Mod.upd]
  · have := h.upd false (IntKind.i64.wrap (d.armed - 1))
    have h1 : (IntKind.i64.wrap (d.armed - 1) == 0) = false := by simpa using h0
    simp [hd, ha, h0, h1, this, Mod.upd]
  · have : ¬ 0 < d.armed := by omega
    simp [hd, this, h, Mod.refl]
/-- what Append, Sync and Swap do to the files -/
def DS.got (d : DS) (nm : ByteArray) : ByteArray × Int := (d.files.lookup nm).getD (⟨#[]⟩, 0)
def DS.append (d : DS) (nm dt : ByteArray) : Int × DS :=
  let (r, d') := d.begin
  if r.2 == 0 || r.1 then (r.2, { d' with files := aset d'.files nm ((d'.got nm).1 ++ dt, (d'.got nm).2) }) else (r.2, d')
def DS.sync (d : DS) (nm : ByteArray) : Int × DS :=
  let (r, d') := d.begin
  if r.2 == 0 then match d'.files.lookup nm with
    | some f => (0, { d' with files := aset d'.files nm (f.1, f.1.size) })
    | none => (0, d')
  else (r.2, d')
def DS.swap (d : DS) (nm dt : ByteArray) : Int × DS :=
  let (r, d') := d.begin
  if r.2 == 0 then (0, { d' with files := aset d'.files nm (dt, dt.size) }) else (r.2, d')
theorem look_file {s : PH} {m : Nat} {f : List (ByteArray × (ByteArray × Int))} (hm : isMap strKey fileV s m f) (nm : ByteArray) {k : Den [CT.str, CT.int .i64] → Bool → W.T}
    (hk : k (((f.lookup nm).getD (⟨#[]⟩, 0)).1, ((f.lookup nm).getD (⟨#[]⟩, 0)).2, ()) (f.lookup nm).isSome s) :
    W.look .string (some m) (.string nm) (.agg #[.string ⟨#[]⟩, .int .i64 0]) (true, [.str, .int .i64]) k s := by
  refine look_of (ke := strKey) (key := nm) hm ?_
  cases e : f.lookup nm with
  | none => rw [e] at hk; exact ⟨_, rfl, hk⟩
  | some v => rw [e] at hk; exact ⟨_, rfl, hk⟩
theorem mset_file {s : PH} {b m : Nat} {d : DS} (h : DriveIs s b m d) (nm t : ByteArray) (n : Int) {k : W.T}
    (hk : ∀ s', DriveIs s' b m { d with files := aset d.files nm (t, n) } → Fw.Mod [m] s s' → k s') :
    W.mset .string (some m) (.string nm) (.agg #[.string t, .int .i64 n]) k s :=
  mset_of (ke := strKey) (ve := fileV) (v := (t, n)) (key := nm) h.map fun o ho => hk _ ⟨by rw [PH.upd_other _ _ h.ne]; exact h.blk, ho⟩ (Mod.upd (by simp))
theorem DS.begin_got (d : DS) (nm : ByteArray) : d.begin.2.got nm = d.got nm := by
  unfold DS.got DS.begin; split
  · rfl
  · split <;> rfl
theorem c_Append {s : PH} {b m : Nat} {d : DS} (h : DriveIs s b m d) (nm dt : ByteArray) (hsz : (d.got nm).1.size + dt.size ≤ 9223372036854775807) : DCalls Tryz.prog 99 #[dptr b, .string nm, .string dt] s fun v s' =>
    v = .int .i64 (d.append nm dt).1 ∧ DriveIs s' b m (d.append nm dt).2 ∧ Fw.Mod [b, m] s s' := by
  refine ok_Append b nm dt _ s ?_
  unfold vc_Append
  simp only [RP_call]
  refine W.call_of (c_begin h) ?_
  rintro _ s1 ⟨rfl, h1, m1⟩
  refine ⟨((d.begin.1.1, ()), (d.begin.1.2, ()), ()), rfl, ?_⟩
  have m1' := m1.mono (L' := [b, m]) (by simp)
  have hb := h1.blk
  simp only [RP_join]
  refine W.join_gen (fun x s' => s' = s1 ∧ x.1.1 = d.begin.1.2 ∧ x.2.1.1 = (d.begin.1.2 == 0 || d.begin.1.1)) ?_ ?_
  · rintro ⟨⟨x, _⟩, ⟨c, _⟩, _⟩ s' ⟨rfl, rfl, rfl⟩
    simp only [RP_ite, W.br_iff]
    refine ⟨fun hc => ?_, fun hc => ?_⟩
    · simp [hb]
      refine look_file h1.map nm ?_
      have hg := d.begin_got nm
      rw [← hg] at hsz
      unfold DS.got at hsz
      simp [hb]
      refine ⟨by omega, ?_⟩
      refine mset_file h1 nm _ _ ?_
      intro s2 hs2 hm
      have m2 := m1'.trans (hm.mono (L' := [b, m]) (by simp))
      simp only [RP_ret, W.ret_iff, DS.append, hc, if_true, true_and]
      exact ⟨hs2, m2⟩
    · simp [DS.append, hc, h1, m1']
  · intro K3 hK3
    simp only [RP_ite, W.br_iff]
    refine ⟨fun hc => hK3 _ _ ?_, fun hc => hK3 _ _ ?_⟩ <;> simp [hc]
theorem c_Sync {s : PH} {b m : Nat} {d : DS} (h : DriveIs s b m d) (nm : ByteArray) : DCalls Tryz.prog 100 #[dptr b, .string nm] s fun v s' =>
    v = .int .i64 (d.sync nm).1 ∧ DriveIs s' b m (d.sync nm).2 ∧ Fw.Mod [b, m] s s' := by
  refine ok_Sync b nm _ s ?_
  unfold vc_Sync
  simp only [RP_call]
  refine W.call_of (c_begin h) ?_
  rintro _ s1 ⟨rfl, h1, m1⟩
  refine ⟨((d.begin.1.1, ()), (d.begin.1.2, ()), ()), rfl, ?_⟩
  have m1' := m1.mono (L' := [b, m]) (by simp)
  have hb := h1.blk
  simp [W.br_iff, hb]
  refine ⟨fun h0 => ?_, fun h0 => look_file h1.map nm ?_⟩
  · simp [DS.sync, h0, h1, m1']
  cases e : d.begin.2.files.lookup nm with
  | none =>
    simp only [Option.isSome_none, W.br_false, Option.getD_none]
    simp [DS.sync, h0, e, m1', h1]
  | some f =>
    simp only [Option.isSome_some, W.br_true, Option.getD_some]
    simp [hb]
    refine mset_file h1 nm _ _ ?_
    intro s' hs' hm
    simp [DS.sync, h0, e, hs', (m1'.trans (hm.mono (by simp)))]
theorem c_Swap {s : PH} {b m : Nat} {d : DS} (h : DriveIs s b m d) (nm dt : ByteArray) : DCalls Tryz.prog 83 #[dptr b, .string nm, .string dt] s fun v s' =>
    v = .int .i64 (d.swap nm dt).1 ∧ DriveIs s' b m (d.swap nm dt).2 ∧ Fw.Mod [b, m] s s' := by
  refine ok_Swap b nm dt _ s ?_
  unfold vc_Swap
  simp only [RP_call]
  refine W.call_of (c_begin h) ?_
  rintro _ s1 ⟨rfl, h1, m1⟩
  refine ⟨((d.begin.1.1, ()), (d.begin.1.2, ()), ()), rfl, ?_⟩
  have m1' := m1.mono (L' := [b, m]) (by simp)
  have hb := h1.blk
  simp [W.br_iff, hb]
  refine ⟨fun h0 => mset_file h1 nm _ _ ?_, fun h0 => ?_⟩
  · intro s' hs' hm
    simp [DS.swap, h0, hs', m1'.trans (hm.mono (by simp))]
  · simp [DS.swap, h0, h1, m1']
def DS.read (d : DS) (nm : ByteArray) : ByteArray × Int := if d.down then (⟨#[]⟩, 50) else ((d.got nm).1, 0)
theorem c_Read {s : PH} {b m : Nat} {d : DS} (h : DriveIs s b m d) (nm : ByteArray) : DCalls Tryz.prog 82 #[dptr b, .string nm] s fun v s' =>
    v = .tuple #[.string (d.read nm).1, .int .i64 (d.read nm).2] ∧ s' = s := by
  refine ok_Read b nm _ s ?_
  unfold vc_Read
  have hb := h.blk
  simp [W.br_iff, hb]
  refine ⟨fun h0 => ?_, fun h0 => look_file h.map nm ?_⟩
  · simp [DS.read, h0]
  · simp [DS.read, DS.got, h0]
def DS.arm (d : DS) (n : Int) : DS := if d.down then d else { d with armed := if n > 0 then n else 0 }
theorem c_Arm {s : PH} {b m : Nat} {d : DS} (h : DriveIs s b m d) (n : Int) : DCalls Tryz.prog 50 #[dptr b, .int .i64 n] s fun v s' =>
    v = .tuple #[] ∧ DriveIs s' b m (d.arm n) ∧ Fw.Mod [b] s s' := by
  refine ok_Arm b n _ s ?_
  unfold vc_Arm
  have hb := h.blk
  simp [W.br_iff, hb]
  refine ⟨fun h0 => ?_, fun h0 => ?_⟩
  · have := h.upd false (if 0 < n then n else 0)
    simp [DS.arm, h0, this, Mod.upd]
  · simp [DS.arm, h0, h, Mod.refl]
end Go.Proofs.YtcdggocbjnmeaaaGreat
end
section
namespace Go.Proofs
open Go.RowKit Go.Maps Go.Sort Go.Shelf
def Tryz.keys44_ren : Go.Shelf.Ren := ⟨fun | 7 => 105 | 10 => 116 | n => n, fun | 23 => 105 | 26 => 9 | 3 => 144 | 28 => 168 | 0 => 0 | 27 => 167 | 33 => 190 | 4 => 4 | n => n, fun | n => n⟩
theorem Tryz.keys44 : Go.Proofs.SlLaysZ.n7 Tryz.prog Tryz.keys44_ren := {
  mixed := by kernel_rfl
  f7 := ⟨Tryz.f105.name, by decide, Tryz.func105.trans (congrArg some (by kernel_rfl))⟩
  f10 := ⟨Tryz.f116.name, by decide, Tryz.func116.trans (congrArg some (by kernel_rfl))⟩
  t0 := Tryz.underlying0
  a0 := Tryz.isAgg0
  z0 := Tryz.sizeOf0
  v0 := Tryz.zeroValue0
  t4 := Tryz.underlying4
  a4 := Tryz.isAgg4
  z4 := Tryz.sizeOf4
  v4 := Tryz.zeroValue4
  t23 := Tryz.underlying105
  a23 := Tryz.isAgg105
  z23 := Tryz.sizeOf105
  v23 := Tryz.zeroValue105
  t26 := Tryz.underlying9
  a26 := Tryz.isAgg9
  z26 := Tryz.sizeOf9
  v26 := Tryz.zeroValue9
  t27 := Tryz.underlying167
  a27 := Tryz.isAgg167
  z27 := Tryz.sizeOf167
  v27 := Tryz.zeroValue167
  t28 := Tryz.underlying168
  a28 := Tryz.isAgg168
  z28 := Tryz.sizeOf168
  v28 := Tryz.zeroValue168
  t33 := Tryz.underlying190
  a33 := Tryz.isAgg190
  z33 := Tryz.sizeOf190
  v33 := Tryz.zeroValue190 }
def Tryz.sorted43_ren : Go.Shelf.Ren := ⟨fun | 6 => 104 | 8 => 114 | 9 => 115 | 11 => 120 | 13 => 122 | 12 => 121 | 23 => 133 | 24 => 134 | 14 => 124 | 15 => 125 | 16 => 126 | 17 => 127 | 18 => 128 | 19 => 129 | 20 => 130 | 21 => 131 | 22 => 132 | 25 => 135 | 26 => 136 | 27 => 137 | 28 => 138 | 29 => 139 | 30 => 140 | 31 => 141 | n => n, fun | 26 => 9 | 28 => 168 | 24 => 28 | 0 => 0 | 3 => 3 | 37 => 56 | 48 => 133 | 50 => 198 | 4 => 4 | 40 => 207 | 39 => 206 | 45 => 40 | 5 => 5 | 9 => 9 | 51 => 215 | 55 => 176 | 57 => 220 | 58 => 221 | 33 => 190 | n => n, fun | n => n⟩
theorem Tryz.sorted43 : Go.Proofs.SlLaysZ.n6 Tryz.prog Tryz.sorted43_ren := {
  mixed := by kernel_rfl
  f6 := ⟨Tryz.f104.name, by decide, Tryz.func104.trans (congrArg some (by kernel_rfl))⟩
  f8 := ⟨Tryz.f114.name, by decide, Tryz.func114.trans (congrArg some (by kernel_rfl))⟩
  f11 := ⟨Tryz.f120.name, by decide, Tryz.func120.trans (congrArg some (by kernel_rfl))⟩
  t0 := Tryz.underlying0
  a0 := Tryz.isAgg0
  z0 := Tryz.sizeOf0
  v0 := Tryz.zeroValue0
  t24 := Tryz.underlying28
  a24 := Tryz.isAgg28
  z24 := Tryz.sizeOf28
  v24 := Tryz.zeroValue28
  t26 := Tryz.underlying9
  a26 := Tryz.isAgg9
  z26 := Tryz.sizeOf9
  v26 := Tryz.zeroValue9
  t28 := Tryz.underlying168
  a28 := Tryz.isAgg168
  z28 := Tryz.sizeOf168
  v28 := Tryz.zeroValue168
  i26 := by kernel_rfl }
def Tryz.sort49_ren : Go.Shelf.Ren := ⟨fun | 6 => 115 | 8 => 122 | 9 => 121 | 19 => 133 | 20 => 134 | 21 => 124 | 22 => 125 | 23 => 126 | 24 => 127 | 25 => 128 | 26 => 129 | 27 => 130 | 28 => 131 | 29 => 132 | 36 => 135 | 31 => 136 | 32 => 137 | 37 => 138 | 38 => 139 | 39 => 140 | 41 => 141 | n => n, fun | 27 => 28 | 29 => 9 | 3 => 3 | 32 => 56 | 26 => 28 | 0 => 0 | 44 => 133 | 46 => 198 | 4 => 4 | 36 => 207 | 35 => 206 | 41 => 40 | 5 => 5 | 9 => 9 | 53 => 215 | 57 => 176 | 63 => 220 | 64 => 221 | n => n, fun | n => n⟩
theorem Tryz.sort49 : Go.Proofs.SlLaysM.n6 Tryz.prog Tryz.sort49_ren := {
  mixed := by kernel_rfl
  f6 := ⟨Tryz.f115.name, by decide, Tryz.func115.trans (congrArg some (by kernel_rfl))⟩
  f8 := Tryz.func122.trans (congrArg some (by kernel_rfl))
  f9 := ⟨Tryz.f121.name, by decide, Tryz.func121.trans (congrArg some (by kernel_rfl))⟩
  f19 := Tryz.func133.trans (congrArg some (by kernel_rfl))
  f20 := Tryz.func134.trans (congrArg some (by kernel_rfl))
  f21 := ⟨Tryz.f124.name, by decide, Tryz.func124.trans (congrArg some (by kernel_rfl))⟩
  f22 := ⟨Tryz.f125.name, by decide, Tryz.func125.trans (congrArg some (by kernel_rfl))⟩
  f23 := ⟨Tryz.f126.name, by decide, Tryz.func126.trans (congrArg some (by kernel_rfl))⟩
  f24 := ⟨Tryz.f127.name, by decide, Tryz.func127.trans (congrArg some (by kernel_rfl))⟩
  f25 := ⟨Tryz.f128.name, by decide, Tryz.func128.trans (congrArg some (by kernel_rfl))⟩
  f26 := ⟨Tryz.f129.name, by decide, Tryz.func129.trans (congrArg some (by kernel_rfl))⟩
  f27 := ⟨Tryz.f130.name, by decide, Tryz.func130.trans (congrArg some (by kernel_rfl))⟩
  f28 := ⟨Tryz.f131.name, by decide, Tryz.func131.trans (congrArg some (by kernel_rfl))⟩
  f29 := ⟨Tryz.f132.name, by decide, Tryz.func132.trans (congrArg some (by kernel_rfl))⟩
  f31 := Tryz.func136.trans (congrArg some (by kernel_rfl))
  f32 := Tryz.func137.trans (congrArg some (by kernel_rfl))
  f36 := ⟨Tryz.f135.name, by decide, Tryz.func135.trans (congrArg some (by kernel_rfl))⟩
  f37 := ⟨Tryz.f138.name, by decide, Tryz.func138.trans (congrArg some (by kernel_rfl))⟩
  f38 := ⟨Tryz.f139.name, by decide, Tryz.func139.trans (congrArg some (by kernel_rfl))⟩
  f39 := ⟨Tryz.f140.name, by decide, Tryz.func140.trans (congrArg some (by kernel_rfl))⟩
  f41 := ⟨Tryz.f141.name, by decide, Tryz.func141.trans (congrArg some (by kernel_rfl))⟩
  t0 := Tryz.underlying0
  a0 := Tryz.isAgg0
  z0 := Tryz.sizeOf0
  v0 := Tryz.zeroValue0
  t3 := Tryz.underlying3
  a3 := Tryz.isAgg3
  z3 := Tryz.sizeOf3
  v3 := Tryz.zeroValue3
  t4 := Tryz.underlying4
  a4 := Tryz.isAgg4
  z4 := Tryz.sizeOf4
  v4 := Tryz.zeroValue4
  t5 := Tryz.underlying5
  a5 := Tryz.isAgg5
  z5 := Tryz.sizeOf5
  v5 := Tryz.zeroValue5
  t9 := Tryz.underlying9
  a9 := Tryz.isAgg9
  z9 := Tryz.sizeOf9
  v9 := Tryz.zeroValue9
  t26 := Tryz.underlying28
  a26 := Tryz.isAgg28
  z26 := Tryz.sizeOf28
  v26 := Tryz.zeroValue28
  t27 := Tryz.underlying28
  a27 := Tryz.isAgg28
  z27 := Tryz.sizeOf28
  v27 := Tryz.zeroValue28
  t29 := Tryz.underlying9
  a29 := Tryz.isAgg9
  z29 := Tryz.sizeOf9
  v29 := Tryz.zeroValue9
  t32 := Tryz.underlying56
  a32 := Tryz.isAgg56
  z32 := Tryz.sizeOf56
  v32 := Tryz.zeroValue56
  t35 := Tryz.underlying206
  a35 := Tryz.isAgg206
  z35 := Tryz.sizeOf206
  v35 := Tryz.zeroValue206
  t36 := Tryz.underlying207
  a36 := Tryz.isAgg207
  z36 := Tryz.sizeOf207
  v36 := Tryz.zeroValue207
  t41 := Tryz.underlying40
  a41 := Tryz.isAgg40
  z41 := Tryz.sizeOf40
  v41 := Tryz.zeroValue40
  t44 := Tryz.underlying133
  a44 := Tryz.isAgg133
  z44 := Tryz.sizeOf133
  v44 := Tryz.zeroValue133
  t46 := Tryz.underlying198
  a46 := Tryz.isAgg198
  z46 := Tryz.sizeOf198
  v46 := Tryz.zeroValue198
  t53 := Tryz.underlying215
  a53 := Tryz.isAgg215
  z53 := Tryz.sizeOf215
  v53 := Tryz.zeroValue215
  t57 := Tryz.underlying176
  a57 := Tryz.isAgg176
  z57 := Tryz.sizeOf176
  v57 := Tryz.zeroValue176
  t63 := Tryz.underlying220
  a63 := Tryz.isAgg220
  z63 := Tryz.sizeOf220
  v63 := Tryz.zeroValue220
  t64 := Tryz.underlying221
  a64 := Tryz.isAgg221
  z64 := Tryz.sizeOf221
  v64 := Tryz.zeroValue221 }
/-- slices.Sort's two contracts at this dump, at the fence that asks nothing. -/
theorem Tryz.sorts43 (m : Nat) : AnyZ.SortsIn Tryz.prog Tryz.sorted43_ren Fence.wide m :=
  ⟨fun blk off cap ss W hH hblk hsz => callsIn_wide.2 (AnyM.slices_Sort_string Tryz.sort49 blk off cap ss W hH hblk hsz),
   fun p cap W => callsIn_wide.2 (AnyM.slices_Sort_string_none Tryz.sort49 p cap W)⟩
/-- **maps.Keys[map[string]lintel/drive.file,string,lintel/drive.file], at whatever map, the nil one too:** a function value over ONE NEW BLOCK, which holds the map. -/
theorem Tryz.maps_Keys_44 (mb : Option Nat) (W : World) : CallsIn Fence.wide 5 Tryz.prog 105 #[.map mb] W fun e w' => e = .returned (.func (.func 116) #[] #[.pointer (some ⟨W.heap.size, 0, none⟩)]) ∧ w' = W.alloc (.cells #[.map mb] 105) :=
  AnyZ.keys_in Tryz.keys44 Fence.wide 5 trivial rfl mb W
namespace YtcdggocbjnmeaaaGreat
open Fw
theorem rel_below {w w' : World} {s : PH} (hs : Sub s w) (hb : RowKit.Below w.heap.size w w') : Rel w s s w' :=
  ⟨fun b o e => by
    have h := hs b o e
    rcases Nat.lt_or_ge b w.heap.size with q | q
    · rw [hb.block b q]; exact h
    · simp [Array.getElem?_eq_none q] at h,
   hb.os, hb.tape, hb.output, hb.size, fun k hk e => ⟨e, hb.block k hk⟩⟩
theorem rel_below_new {w w' : World} {s : PH} (hs : Sub s w) (hb : RowKit.Below w.heap.size w w') {g : Nat} {o : Obj} (hg : w.heap.size ≤ g) (ho : w'.heap[g]? = some o) : s g = none ∧ Rel w s (s.upd g o) w' := by
  have hn : s g = none := by
    cases e : s g with
    | none => rfl
    | some x => have := hs g x e; simp [Array.getElem?_eq_none hg] at this
  have hr := rel_below hs hb
  refine ⟨hn, fun b x e => ?_, hr.os, hr.tape, hr.output, hr.size, fun k hk e => ?_⟩
  · by_cases hbg : b = g
    · subst hbg; rw [PH.upd_same] at e; cases e; exact ho
    · rw [PH.upd_other _ _ hbg] at e; exact hr.sub b x e
  · have hkg : k ≠ g := by omega
    rw [PH.upd_other _ _ hkg]; exact hr.out k hk e
/-- the strings l, at a slice of them -/
def strsAt (s : PH) (a : Option Addr) (n c : Nat) (l : List ByteArray) : Prop :=
  n = l.length ∧ ((a = none ∧ c = 0 ∧ l = []) ∨ ∃ g cur, a = some ⟨g, 0, none⟩ ∧ s g = some (.cells cur 9 (0, 0)) ∧ cur.toList.take n = l.map Value.string ∧ n ≤ c ∧ cur.size = c)
def ofBytes (l : List UInt8) : ByteArray := ⟨l.toArray⟩
def sortedKeys {V : Type} (f : List (ByteArray × V)) : List ByteArray := ((f.map fun p => p.1.data.toList).mergeSort leB).map ofBytes
theorem c_Keys (mb : Option Nat) (s : PH) : DCalls Tryz.prog 105 #[.map mb] s fun v s' =>
    ∃ r, s r = none ∧ v = .func (.func 116) #[] #[.pointer (some ⟨r, 0, none⟩)] ∧ s' = s.upd r (.cells #[.map mb] 105 (0, 0)) := by
  intro w hw
  refine (callsIn_wide.1 (Tryz.maps_Keys_44 mb w)).mono ?_
  rintro e w' ⟨rfl, rfl⟩
  have hn : s w.heap.size = none := by
    cases e : s w.heap.size with
    | none => rfl
    | some x => have := hw _ x e; simp at this
  refine ⟨_, _, rfl, ?_, _, hn, rfl, rfl⟩
  exact (Rel.new (Rel.start hw) _).2
theorem c_Sorted {V : Type} {ve : V → Value} {s : PH} {r m : Nat} {f : List (ByteArray × V)} (hr : s r = some (.cells #[.map (some m)] 105 (0, 0))) (hm : isMap strKey ve s m f)
    (hk : ∀ p ∈ f, p.1.size ≤ maxLen) (hl : f.length * 16 ≤ 140737488355328) :
    DCalls Tryz.prog 104 #[.func (.func 116) #[] #[.pointer (some ⟨r, 0, none⟩)]] s fun v s' =>
      ∃ a n c, v = .slice a n c ∧ strsAt s' a n c (sortedKeys f) ∧ Fw.Mod [] s s' ∧ (∀ g, a = some ⟨g, 0, none⟩ → s g = none) := by
  intro w hw
  obtain ⟨es, c, h1, h2, h3⟩ := hm
  have hes : es.size = f.length := by simpa using congrArg List.length h2
  have hkey : ∀ x ∈ es.toList, ∃ p ∈ f, x.key = .string p.1 := by
    intro x hx
    have : (x.key, x.val) ∈ f.map (fun p => (strKey.enc p.1, ve p.2)) := by rw [← h2]; exact List.mem_map_of_mem hx
    obtain ⟨p, hp, he⟩ := List.mem_map.1 this
    simp only [Prod.mk.injEq] at he
    exact ⟨p, hp, he.1.symm⟩
  let R : Value → Option (DataW Nat × List MemPlace) := fun _ => some (.nil, [])
  have hko : ∀ k : ByteArray, k.size ≤ maxLen → keyOf Tryz.prog 9 (.string k) = some (.string k.data.toList) := by
    intro k hk
    unfold keyOf
    rw [Tryz.underlying9]
    simp [mapKey, Tryz.underlying9, hk]
  have hrd : ∀ x ∈ es.toList, ∀ k, x.key = .string k → k.size ≤ maxLen → Go.WideElems.rd Tryz.prog 9 R x = some (.string k.data.toList, .nil) := by
    intro x hx k e hk
    unfold Go.WideElems.rd
    rw [e, hko k hk]; (first | done | rfl)
  have hown : w.ownsMap Tryz.prog 9 R m es.size (.map ((es.toList.map (Go.WideElems.rg Tryz.prog 9 R)).foldr DataW.insert [])) := by
    refine ⟨es, c, hw _ _ h1, ⟨?_, h3, ?_⟩, Nat.le_refl _, rfl⟩
    · have : maxLen = 9223372036854775807 := rfl
      omega
    · intro x hx
      obtain ⟨p, hp, e⟩ := hkey x hx
      exact ⟨_, hrd x hx _ e (hk p hp)⟩
  have hkeys : (strKeys (DataW.map ((es.toList.map (Go.WideElems.rg Tryz.prog 9 R)).foldr DataW.insert []))).Perm (f.map fun p => p.1.data.toList) := by
    refine (List.Perm.map _ (Go.WideShapes.sorted_perm _)).trans ?_
    have : es.toList.map (fun e => e.key) = f.map (fun p => Value.string p.1) := by
      have := congrArg (List.map Prod.fst) h2
      rw [List.map_map, List.map_map] at this
      exact this
    have e2 : (es.toList.map (Go.WideElems.rg Tryz.prog 9 R)).map (fun p => strOf p.1) = f.map (fun p => p.1.data.toList) := by
      have e3 : (es.toList.map (Go.WideElems.rg Tryz.prog 9 R)).map (fun p => strOf p.1) = (es.toList.map (fun e => e.key)).map (fun v => match v with | .string k => k.data.toList | _ => []) := by
        rw [List.map_map, List.map_map]
        apply List.map_congr_left
        intro x hx
        obtain ⟨p, hp, e⟩ := hkey x hx
        simp only [Function.comp_apply, Go.WideElems.rg, hrd x hx _ e (hk p hp), e, Option.getD_some, strOf]
      rw [e3, this, List.map_map]
      first | done | rfl
    rw [e2]
  have hsize : Maps.size (DataW.map (H := Nat) ((es.toList.map (Go.WideElems.rg Tryz.prog 9 R)).foldr DataW.insert [])) = f.length := by
    have := hkeys.length_eq
    simpa [strKeys, Maps.size] using this
  have hlt : r < w.heap.size := by
    have := hw _ _ hr
    rcases Nat.lt_or_ge r w.heap.size with q | q
    · exact q
    · simp [Array.getElem?_eq_none q] at this
  have hseq : SeqGives Fence.wide 2 Tryz.prog 116 #[.pointer (some ⟨r, 0, none⟩)] encStr (fun ss => ss.Perm (strKeys (DataW.map ((es.toList.map (Go.WideElems.rg Tryz.prog 9 R)).foldr DataW.insert [])))) (Maps.size (DataW.map (H := Nat) ((es.toList.map (Go.WideElems.rg Tryz.prog 9 R)).foldr DataW.insert []))) w :=
    AnyZ.keys_gives (ρ := Tryz.keys44_ren) { Tryz.keys44 with } Fence.wide _ trivial rfl (by omega) r m es.size _ _ hlt (by
      unfold World.cell?
      rw [show (Addr.mk r 0 none).block = r from rfl, hw _ _ hr]; (first | done | rfl)) hown
  refine (callsIn_wide.1 (AnyZ.sorted_in Tryz.sorted43 Fence.wide 5 trivial trivial trivial trivial rfl (by omega) (Tryz.sorts43 _) (enters_of Tryz.func115 (by kernel_rfl) rfl) 116 #[.pointer (some ⟨r, 0, none⟩)] trivial (enters_of Tryz.func116 (by kernel_rfl) rfl) _ _ ?_ ?_ _ hseq)).mono ?_
  · rw [hsize]; have : maxLen = 9223372036854775807 := rfl; omega
  · rw [hsize]; exact hl
  rintro e w' ⟨v, ss, rfl, hS, hrow, hnil, hb⟩
  have hsort : (ss.mergeSort fun x y => decide (x ≤ y)) = (f.map fun p => p.1.data.toList).mergeSort leB := mergeSort_of_perm (hS.trans hkeys)
  have hlen : ss.length = (sortedKeys f).length := by
    have := (hS.trans hkeys).length_eq
    simp [sortedKeys, this]
  have henc : List.map encStr (ss.mergeSort fun x y => decide (x ≤ y)) = (sortedKeys f).map Value.string := by
    rw [hsort]; simp [sortedKeys, ofBytes, encStr]
  rw [henc] at hrow
  obtain ⟨_, hrow⟩ := hrow
  rcases hrow with ⟨rfl, h0⟩ | ⟨g, cap, cur, rfl, hbase, hg, hc1, hc2, hc3, hc4⟩
  · refine ⟨_, s, rfl, rel_below hw hb, none, 0, 0, rfl, ⟨by omega, .inl ⟨rfl, rfl, ?_⟩⟩, Mod.refl _ _, by simp⟩
    exact List.length_eq_zero_iff.1 (by omega)
  · obtain ⟨hn, hrel⟩ := rel_below_new hw hb hbase hg
    refine ⟨_, _, rfl, hrel, _, _, _, rfl, ⟨hlen, .inr ⟨g, cur, rfl, PH.upd_same _ _ _, ?_, hc1, by omega⟩⟩, Mod.new hn, ?_⟩
    · rw [Nat.mul_one] at hc4; exact hc4
    · intro g' e; simp only [Option.some.injEq, Addr.mk.injEq] at e; rw [← e.1]; exact hn
end YtcdggocbjnmeaaaGreat
end Go.Proofs
end
section
set_option linter.unusedVariables false
set_option linter.unusedSimpArgs false
set_option maxHeartbeats 1000000
namespace Go.Proofs.YtcdggocbjnmeaaaGreat
open Fw Go
structure DS.Ok (d : DS) : Prop where
  names : ∀ p ∈ d.files, p.1.size ≤ maxLen
  few : d.files.length * 16 ≤ 140737488355328
  file : ∀ p ∈ d.files, 0 ≤ p.2.2 ∧ p.2.2 ≤ p.2.1.size ∧ p.2.1.size ≤ 9223372036854775807
theorem c_Names {s : PH} {b m : Nat} {d : DS} (h : DriveIs s b m d) (hn : ∀ p ∈ d.files, p.1.size ≤ maxLen) (hl : d.files.length * 16 ≤ 140737488355328) :
    DCalls Tryz.prog 81 #[dptr b] s fun v s' => ∃ a n c, v = .slice a n c ∧ strsAt s' a n c (sortedKeys d.files) ∧ Fw.Mod [] s s' ∧ (∀ g, a = some ⟨g, 0, none⟩ → s g = none) := by
  refine ok_Names b _ s ?_
  unfold vc_Names
  have hb := h.blk
  simp [hb]
  refine W.call_of (c_Keys (some m) s) ?_
  rintro _ _ ⟨r, hr, rfl, rfl⟩
  refine ⟨((.func (.func 116) #[] #[.pointer (some ⟨r, 0, none⟩)], ()), ()), rfl, ?_⟩
  refine W.call_of (c_Sorted (V := ByteArray × Int) (ve := fileV) (m := m) (f := d.files) (PH.upd_same _ _ _) (h.mod (Mod.new hr (L := [])) (by simp) (by simp)).map hn hl) ?_
  rintro _ s2 ⟨a, n, c, rfl, h2, m2, h3⟩
  refine ⟨(((a, n, c), ()), ()), rfl, ?_⟩
  refine ⟨a, n, c, rfl, h2, (Mod.new hr).trans m2, fun g hg => ?_⟩
  have := h3 g hg
  by_cases e : g = r
  · subst e; exact hr
  · rwa [PH.upd_other _ _ e] at this
theorem strsAt.cell {s : PH} {a : Option Addr} {n c : Nat} {l : List ByteArray} (h : strsAt s a n c l) {i : Nat} {x : ByteArray} (hx : l[i]? = some x) :
    ∃ g, a = some ⟨g, 0, none⟩ ∧ s.cell? ⟨g, i, none⟩ = some (.string x) := by
  obtain ⟨hn, ⟨rfl, rfl, rfl⟩ | ⟨g, cur, rfl, hg, ht, _, _⟩⟩ := h
  · simp at hx
  · refine ⟨g, rfl, ?_⟩
    have hi : i < n := by
      have := (List.getElem?_eq_some_iff.1 hx).1
      omega
    have : (cur.toList.take n)[i]? = some (.string x) := by rw [ht]; simp [hx]
    rw [List.getElem?_take_of_lt hi, Array.getElem?_toList] at this
    unfold PH.cell?
    show (match s g with | some (.cells c _ _) => if (none : Option Nat).isSome then none else c[i]? | _ => none) = _
    rw [hg]; exact this
theorem strsAt.mod {L : List Nat} {s s' : PH} {a : Option Addr} {n c : Nat} {l : List ByteArray} (h : strsAt s a n c l) (hm : Fw.Mod L s s') (hl : ∀ g, a = some ⟨g, 0, none⟩ → g ∉ L) : strsAt s' a n c l := by
  obtain ⟨hn, h | ⟨g, cur, rfl, hg, r⟩⟩ := h
  · exact ⟨hn, .inl h⟩
  · exact ⟨hn, .inr ⟨g, cur, rfl, hm.at hg (hl g rfl), r⟩⟩
def crashN (f : ByteArray × Int) : Option Int → Int
  | some x => if (if IntKind.i64.wrap (f.1.size - f.2) < x then IntKind.i64.wrap (f.1.size - f.2) else x) > 0 then (if IntKind.i64.wrap (f.1.size - f.2) < x then IntKind.i64.wrap (f.1.size - f.2) else x) else 0
  | none => 0
def crashFile (f : ByteArray × Int) (kp : Option Int) : ByteArray × Int := (f.1.extract 0 (IntKind.i64.wrap (f.2 + crashN f kp)).toNat, IntKind.i64.wrap (f.2 + crashN f kp))
def DS.crashFiles (d : DS) (keep : List Int) : List (ByteArray × (ByteArray × Int)) := (sortedKeys d.files).zipIdx.map fun p => (p.1, crashFile (d.got p.1) keep[p.2]?)
def DS.crash (d : DS) (keep : List Int) : DS := ⟨d.crashFiles keep, false, 0⟩
theorem crashN_range {f : ByteArray × Int} (h : 0 ≤ f.2 ∧ f.2 ≤ f.1.size ∧ f.1.size ≤ 9223372036854775807) (kp : Option Int) : 0 ≤ crashN f kp ∧ f.2 + crashN f kp ≤ f.1.size := by
  cases kp with
  | none => simp only [crashN]; omega
  | some x =>
    have : IntKind.i64.wrap (f.1.size - f.2) = f.1.size - f.2 := wrap_in (by omega) (by omega)
    simp only [crashN, this]
    repeat' split
    all_goals omega
theorem crash_wrap {f : ByteArray × Int} (h : 0 ≤ f.2 ∧ f.2 ≤ f.1.size ∧ f.1.size ≤ 9223372036854775807) (kp : Option Int) : IntKind.i64.wrap (f.2 + crashN f kp) = f.2 + crashN f kp := by
  have := crashN_range h kp
  exact wrap_in (by omega) (by omega)
theorem isMap_nodup {s : PH} {m : Nat} {f : List (ByteArray × (ByteArray × Int))} (h : isMap strKey fileV s m f) : (f.map (·.1)).Nodup := by
  obtain ⟨es, c, h1, h2, h3⟩ := h
  have h4 := h3.2.2
  have : es.toList.map (·.key) = (f.map (·.1)).map Value.string := by
    have := congrArg (List.map Prod.fst) h2
    rw [List.map_map, List.map_map] at this
    rw [List.map_map]; exact this
  rw [this] at h4
  exact (List.pairwise_map.1 h4).imp fun hab e => hab (congrArg _ e)
theorem ofBytes_data (a : ByteArray) : ofBytes a.data.toList = a := by cases a; simp [ofBytes]
theorem sortedKeys_perm {V : Type} (f : List (ByteArray × V)) : (sortedKeys f).Perm (f.map (·.1)) := by
  have h := ((List.mergeSort_perm (f.map fun p => p.1.data.toList) leB)).map ofBytes
  rw [List.map_map] at h
  have e : (f.map (ofBytes ∘ fun p => p.1.data.toList)) = f.map (·.1) := List.map_congr_left fun p _ => ofBytes_data p.1
  rw [e] at h
  exact h
theorem mem_lookup {f : List (ByteArray × (ByteArray × Int))} {k : ByteArray} (h : k ∈ f.map (·.1)) : ∃ v, f.lookup k = some v ∧ (k, v) ∈ f := by
  induction f with
  | nil => simp at h
  | cons p f ih =>
    obtain ⟨a, b⟩ := p
    by_cases e : k = a
    · subst e; exact ⟨b, by simp, by simp⟩
    · obtain ⟨v, h1, h2⟩ := ih (by simpa [e] using h)
      have e' : (k == a) = false := by simpa using e
      exact ⟨v, by simp [List.lookup_cons, e', h1], by simp [h2]⟩
theorem aset_new {V : Type} (f : List (ByteArray × V)) (k : ByteArray) (v : V) (h : k ∉ f.map (·.1)) : aset f k v = f ++ [(k, v)] := by
  induction f with
  | nil => rfl
  | cons p f ih =>
    obtain ⟨a, b⟩ := p
    simp at h
    have : ¬ k = a := h.1
    simp [aset, this, ih (by simpa using h.2)]
theorem DS.crashFiles_step (d : DS) (keep : List Int) (hn : (d.files.map (·.1)).Nodup) {i : Nat} {nm : ByteArray} (hi : (sortedKeys d.files)[i]? = some nm) :
    aset ((d.crashFiles keep).take i) nm (crashFile (d.got nm) keep[i]?) = (d.crashFiles keep).take (i + 1) := by
  have hnd : (sortedKeys d.files).Nodup := (sortedKeys_perm d.files).nodup_iff.2 hn
  have hlt := (List.getElem?_eq_some_iff.1 hi).1
  have hei := (List.getElem?_eq_some_iff.1 hi).2
  have hc : (d.crashFiles keep)[i]? = some (nm, crashFile (d.got nm) keep[i]?) := by
    simp [DS.crashFiles, hi]
  rw [aset_new]
  · rw [List.take_add_one, hc]; (first | done | rfl)
  · intro hm
    have e : ((d.crashFiles keep).take i).map (·.1) = (sortedKeys d.files).take i := by
      rw [List.map_take]
      congr 1
      simp only [DS.crashFiles, List.map_map]
      have : (sortedKeys d.files).zipIdx.map Prod.fst = sortedKeys d.files := by simp
      exact this
    rw [e] at hm
    obtain ⟨j, hj, he⟩ := List.mem_take_iff_getElem.1 hm
    have hj' : j < i := by omega
    have := (List.nodup_iff_pairwise_ne.1 hnd)
    rw [List.pairwise_iff_getElem] at this
    exact this j i (by omega) hlt hj' (he.trans hei.symm)
theorem c_Crash {s : PH} {b m : Nat} {d : DS} (h : DriveIs s b m d) (hok : d.Ok) {k : Option Addr} {n c : Nat} {keep : List Int} (hkeep : intsAt s k n keep) :
    DCalls Tryz.prog 56 #[dptr b, .slice k n c] s fun v s' => ∃ nb nm, v = dptr nb ∧ DriveIs s' nb nm (d.crash keep) ∧ DriveIs s' b m { d with down := true } ∧ Fw.Mod [b] s s' ∧ s nb = none ∧ s nm = none := by
  refine ok_Crash b k n c _ s ?_
  unfold vc_Crash
  have hb := h.blk
  simp only [RP_ite, Option.isNone_some, W.br_false, RP_call]
  refine W.call_of (c_New s) ?_
  rintro _ s1 ⟨nb, nm, rfl, hN, m1, hnb, hnm⟩
  refine ⟨((some ⟨nb, 0, none⟩, ()), ()), rfl, ?_⟩
  have h1 := h.mod m1 (by simp) (by simp)
  refine W.call_of (c_Names h1 hok.names hok.few) ?_
  rintro _ s2 ⟨a1, n2, c2, rfl, hS, m2, hfr⟩
  refine ⟨(((a1, n2, c2), ()), ()), rfl, ?_⟩
  have hN2 := hN.mod m2 (by simp) (by simp)
  have h2 := h1.mod m2 (by simp) (by simp)
  have hgnm : ∀ g, a1 = some ⟨g, 0, none⟩ → g ≠ nm ∧ g ≠ nb := fun g hg =>
    ⟨fun e => by subst e; exact hN.map.known (hfr g hg), fun e => by subst e; have := hfr g hg; rw [hN.blk] at this; cases this⟩
  have hlen : n2 = (sortedKeys d.files).length := hS.1
  have hbnm : b ≠ nm := ne_of_known hb hnm
  have hmnm : m ≠ nm := fun e => by subst e; exact h.map.known hnm
  have hnodup := isMap_nodup h.map
  have hnl : (sortedKeys d.files).length < 9223372036854775807 := by
    have := (sortedKeys_perm d.files).length_eq
    have := hok.few
    simp at this ⊢
    simp_all
    omega
  simp only [RP_loop]
  refine ⟨fun x s' => ∃ i : Nat, i ≤ (sortedKeys d.files).length ∧ x = ((some ⟨nb, 0, none⟩, ()), ((a1, n2, c2), ()), ((n2 : Int), ()), ((i : Int), ()), ()) ∧ strsAt s' a1 n2 c2 (sortedKeys d.files) ∧ DriveIs s' b m d ∧
      DriveIs s' nb nm ⟨(d.crashFiles keep).take i, false, 0⟩ ∧ Fw.Mod [] s s', fun x _ => (sortedKeys d.files).length - x.2.2.2.1.1.toNat, ?_, ?_⟩
  · exact ⟨0, Nat.zero_le _, rfl, hS, h2, hN2, m1.trans m2⟩
  rintro _ s3 ⟨i, hi, rfl, hS3, h3, hN3, m3⟩
  simp only [RP_ite, W.br_iff]
  refine ⟨fun hlt => ?_, fun hge => ?_⟩
  · have hlt : i < n2 := by simpa using hlt
    have hlt' : i < (sortedKeys d.files).length := by omega
    obtain ⟨x, hx⟩ : ∃ x, (sortedKeys d.files)[i]? = some x := ⟨_, List.getElem?_eq_getElem hlt'⟩
    obtain ⟨g, rfl, hg⟩ := hS3.cell hx
    have hb3 := h3.blk
    simp only [RP_guard, W.guard_iff, RP_unSome, W.unSome_some]
    refine ⟨(⟨by omega, by omega⟩ : (0 : Int) ≤ (i : Int) ∧ (i : Int) < (n2 : Int)), ?_⟩
    refine ld_one (x := x) (by simpa [add_mk, CT.val] using hg) ?_
    simp [hb3]
    refine look_file h3.map x ?_
    have hxk : x ∈ d.files.map (·.1) := (sortedKeys_perm d.files).mem_iff.1 (List.mem_of_getElem? hx)
    obtain ⟨f, hf1, hf2⟩ := mem_lookup hxk
    have hfok : 0 ≤ f.2 ∧ f.2 ≤ f.1.size ∧ f.1.size ≤ 9223372036854775807 := hok.file _ hf2
    have hgot : d.got x = f := by simp [DS.got, hf1]
    simp only [hf1, Option.getD_some, Option.isSome_some]
    have hnb3 := hN3.blk
    have hcr := crashN_range hfok keep[i]?
    have hcw := crash_wrap hfok keep[i]?
    have hstep : ∀ (t : ByteArray) (q : Int), (t, q) = crashFile f keep[i]? → W.mset TypeDesc.string (some nm) (.string x) (.agg #[.string t, .int .i64 q]) (fun s' => (∃ i' : Nat, i' ≤ (sortedKeys d.files).length ∧ IntKind.i64.wrap ((i : Int) + 1) = (i' : Int) ∧
        strsAt s' (some ⟨g, 0, none⟩) n2 c2 (sortedKeys d.files) ∧ DriveIs s' b m d ∧ DriveIs s' nb nm ⟨(d.crashFiles keep).take i', false, 0⟩ ∧ Fw.Mod [] s s') ∧ (sortedKeys d.files).length - (IntKind.i64.wrap ((i : Int) + 1)).toNat < (sortedKeys d.files).length - i) s3 := by
      intro t q htq
      refine mset_file hN3 x _ _ ?_
      intro s5 h5 m5
      have hw : IntKind.i64.wrap ((i : Int) + 1) = ((i + 1 : Nat) : Int) := by rw [wrap_in (by omega) (by omega)]; simp
      refine ⟨⟨i + 1, by omega, by rw [hw], hS3.mod m5 (by simpa using (hgnm g rfl).1), h3.mod m5 (by simpa using hbnm) (by simpa using hmnm), ?_, m3.fresh m5 (by simpa using hnm)⟩, ?_⟩
      · have := d.crashFiles_step keep hnodup hx
        rw [hgot, ← htq] at this
        rw [← this]; exact h5
      · rw [hw, Int.toNat_natCast]; omega
    have hkl := hkeep.1
    simp only [RP_ite, W.br_iff, decide_eq_true_eq, decide_eq_false_iff_not, RP_guard, W.guard_iff, RP_unSome, W.unSome_some, RP_ld, RP_mset]
    refine ⟨fun hc => ?_, fun hc => ?_⟩
    · have hc : i < n := by omega
      obtain ⟨y, hy⟩ : ∃ y, keep[i]? = some y := ⟨_, List.getElem?_eq_getElem (by omega)⟩
      obtain ⟨ka, rfl, hka⟩ := (hkeep.mono m3).2 i y hy
      rw [hy] at hcr hcw
      simp only [crashN] at hcr hcw
      refine ⟨by omega, ?_⟩
      simp only [W.unSome_some, Nat.mul_one, Int.toNat_natCast]
      refine ld_one (c := .int .i64) (x := y) hka ?_
      simp [hnb3]
      refine ⟨⟨by rw [hcw]; exact Int.le_trans hfok.1 (by omega), by rw [hcw]; exact hcr.2⟩, hstep _ _ ?_⟩
      simp only [hy, crashFile, crashN, gt_iff_lt]
    · have e : keep[i]? = none := List.getElem?_eq_none (by omega)
      rw [e] at hcr hcw
      simp only [crashN] at hcr hcw
      simp [hnb3]
      have h0 : f.2 + 0 = f.2 := by omega
      rw [h0] at hcw hcr
      refine ⟨⟨by rw [hcw]; exact hfok.1, by rw [hcw]; exact hfok.2.1⟩, hstep _ _ ?_⟩
      simp only [e, crashFile, crashN, Int.add_zero]
  · have hge : i = n2 := by simp at hge; omega
    have hfull : (d.crashFiles keep).take i = d.crashFiles keep := List.take_of_length_le (by simp [DS.crashFiles]; omega)
    rw [hfull] at hN3
    simp [h3.blk]
    have hbN : nb ≠ b := (ne_of_known hb hnb).symm
    have hm9 : Fw.Mod [b] s (s3.upd b (.cells #[.map (some m), .bool true, .int .i64 d.armed] 107 (0, 0))) := (m3.mono (by simp)).updLater (.inl (by simp))
    refine ⟨nb, rfl, nm, ?_, h3.upd true d.armed, hm9, hnb, hnm⟩
    exact hN3.mod (L := [b]) (Mod.upd (by simp)) (by simpa using hbN) (by simpa using hbnm.symm)
end Go.Proofs.YtcdggocbjnmeaaaGreat
end
section
set_option linter.unusedVariables false
set_option linter.unusedSimpArgs false
set_option maxHeartbeats 1000000
attribute [-simp] Fw.W.ld_iff Fw.W.st_iff
namespace Go.Proofs.YtcdggocbjnmeaaaGreat
open Fw Go
def DS.Names (d : DS) : Prop := d.files.length ≤ 1000000 ∧ ∀ p ∈ d.files, p.1.size ≤ 281474976710656
end Go.Proofs.YtcdggocbjnmeaaaGreat
end
section
set_option linter.unusedVariables false
set_option linter.unusedSimpArgs false
set_option maxHeartbeats 1000000
attribute [-simp] Fw.W.ld_iff Fw.W.st_iff
namespace Go.Proofs.YtcdggocbjnmeaaaGreat
open Fw Go
end Go.Proofs.YtcdggocbjnmeaaaGreat
end
section
set_option linter.unusedVariables false
set_option linter.unusedSimpArgs false
set_option maxHeartbeats 1000000
attribute [-simp] Fw.W.ld_iff Fw.W.st_iff
namespace Go.Proofs.YtcdggocbjnmeaaaGreat
open Fw Go
end Go.Proofs.YtcdggocbjnmeaaaGreat
end
section
set_option linter.unusedVariables false
set_option linter.unusedSimpArgs false
set_option maxHeartbeats 1000000
namespace Go.Proofs.YtcdggocbjnmeaaaGreat
open Fw Go
def DS.opens (d : DS) (nm : ByteArray) : (List ByteArray × Int) × DS :=
  if (d.read nm).2 ≠ 0 then (([], (d.read nm).2), d)
  else if (scanB (d.read nm).1).2 < (d.read nm).1.size then
    (if (d.swap nm ((d.read nm).1.extract 0 (scanB (d.read nm).1).2)).1 ≠ 0 then (([], (d.swap nm ((d.read nm).1.extract 0 (scanB (d.read nm).1).2)).1), (d.swap nm ((d.read nm).1.extract 0 (scanB (d.read nm).1).2)).2)
     else (((scanB (d.read nm).1).1, 0), (d.swap nm ((d.read nm).1.extract 0 (scanB (d.read nm).1).2)).2))
  else (((scanB (d.read nm).1).1, 0), d)
def DS.puts (d : DS) (nm : ByteArray) (l : List ByteArray) : Int × DS :=
  if (allB l).2 ≠ 0 ∨ l.length = 0 then ((allB l).2, d)
  else if (d.append nm (allB l).1).1 ≠ 0 then d.append nm (allB l).1
  else (d.append nm (allB l).1).2.sync nm
def DS.rewrites (d : DS) (nm : ByteArray) (l : List ByteArray) : Int × DS :=
  if (allB l).2 ≠ 0 then ((allB l).2, d) else d.swap nm (allB l).1
end Go.Proofs.YtcdggocbjnmeaaaGreat
end
