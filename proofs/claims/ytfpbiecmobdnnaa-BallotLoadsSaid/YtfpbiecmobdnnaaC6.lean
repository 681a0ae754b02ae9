/-
  The ballot: how a node was fed.
  Conditions: none; it proves no statement by itself.
-/
import Derived.Test.YtfpbiecmobdnnaaC5
set_option linter.unusedVariables false
set_option linter.unusedSimpArgs false
set_option maxHeartbeats 1000000
namespace Go.Proofs.Ytfpbiecmobdnnaa
open Fw Go
attribute [-simp] Fw.W.ld_iff Fw.W.st_iff

def mx (a b : Int) : Int := if b > a then b else a
def mn (a b : Int) : Int := if b < a then b else a
/-- a leader's rows -/
structure BS.Ldr (B : BS) : Prop where
  nlen : B.next.length = B.size.toNat
  mlen : B.mat.length = B.size.toNat
  nr : ∀ (i : Nat) x, B.next[i]? = some x → 0 ≤ x ∧ x ≤ B.lst + 1
  mr : ∀ (i : Nat) x, B.mat[i]? = some x → 0 ≤ x ∧ x ≤ B.lst
theorem BS.Ldr.fed {B : BS} (h : B.Ldr) : B.Fed := ⟨h.nlen, fun i nx hn => by have := (h.nr i nx hn).2; omega⟩
def BS.nx (B : BS) (f : Nat) : Int := (B.next[f]?).getD 0
def BS.mt (B : BS) (f : Nat) : Int := (B.mat[f]?).getD 0
/-- it was not fed -/
def BS.unfed (B : BS) (f : Nat) (i : Int) : BS := { B with next := B.next.set f (mx (B.mt f + 1) (mn (B.nx f - 1) (i + 1))) }
/-- it has them up to there -/
def BS.fedTo (B : BS) (f : Nat) (i : Int) : BS := { B with mat := B.mat.set f (mx (B.mt f) (mn i B.lst)), next := B.next.set f (mx (B.mt f) (mn i B.lst) + 1) }
def BS.heard (B : BS) (M : Msg) : BS × List Msg :=
  if B.role ≠ 2 then (B, []) else
  let f := M.from_.toNat
  if M.good = false then (B.unfed f M.index, [(B.unfed f M.index).feedM M.from_ ((B.unfed f M.index).nx f)])
  else
    let R := (B.fedTo f M.index).settled
    if R.1.mt f > B.mt f ∧ R.1.nx f ≤ R.1.lst then (R.1, R.2 ++ [R.1.feedM M.from_ (R.1.nx f)]) else R

theorem BS.Ldr.unfed {B : BS} (h : B.Ldr) {f : Nat} (hf : f < B.size.toNat) (i : Int) : (B.unfed f i).Ldr := by
  refine ⟨by show (B.next.set _ _).length = _; rw [List.length_set]; exact h.nlen, h.mlen, fun j x hx => ?_, h.mr⟩
  have hx : (B.next.set f (mx (B.mt f + 1) (mn (B.nx f - 1) (i + 1))))[j]? = some x := hx
  show 0 ≤ x ∧ x ≤ B.lst + 1
  rw [List.getElem?_set] at hx
  split at hx
  · split at hx
    · cases hx
      have h1 : B.mat[f]? = some (B.mt f) := by unfold BS.mt; rw [List.getElem?_eq_getElem (by rw [h.mlen]; exact hf)]; rfl
      have h2 : B.next[f]? = some (B.nx f) := by unfold BS.nx; rw [List.getElem?_eq_getElem (by rw [h.nlen]; exact hf)]; rfl
      have g1 := h.mr _ _ h1
      have g2 := h.nr _ _ h2
      unfold mx mn
      repeat' split
      all_goals omega
    · cases hx
  · exact h.nr j x hx
theorem BS.Ldr.fedTo {B : BS} (h : B.Ldr) {f : Nat} (hf : f < B.size.toNat) (i : Int) (hl : 0 ≤ B.lst) : (B.fedTo f i).Ldr := by
  have h1 : B.mat[f]? = some (B.mt f) := by unfold BS.mt; rw [List.getElem?_eq_getElem (by rw [h.mlen]; exact hf)]; rfl
  have g1 := h.mr _ _ h1
  have hb : 0 ≤ mx (B.mt f) (mn i B.lst) ∧ mx (B.mt f) (mn i B.lst) ≤ B.lst := by
    unfold mx mn
    repeat' split
    all_goals omega
  refine ⟨by show (B.next.set _ _).length = _; rw [List.length_set]; exact h.nlen, by show (B.mat.set _ _).length = _; rw [List.length_set]; exact h.mlen, fun j x hx => ?_, fun j x hx => ?_⟩
  · have hx : (B.next.set f (mx (B.mt f) (mn i B.lst) + 1))[j]? = some x := hx
    show 0 ≤ x ∧ x ≤ B.lst + 1
    rw [List.getElem?_set] at hx
    split at hx
    · split at hx
      · cases hx; omega
      · cases hx
    · exact h.nr j x hx
  · have hx : (B.mat.set f (mx (B.mt f) (mn i B.lst)))[j]? = some x := hx
    show 0 ≤ x ∧ x ≤ B.lst
    rw [List.getElem?_set] at hx
    split at hx
    · split at hx
      · cases hx; omega
      · cases hx
    · exact h.mr j x hx

section
variable {s : PH} {b : Nat} {l v n m : Tri} {B : BS}
/-- one message alone -/
theorem op_one {s0 s2 s3 s4 : PH} {B2 : BS} {M2 : Msg} {t' : Tri} {r : Nat} (h2 : Bal s2 b l v n m B2) {L : List Nat} (st : Step L (bL b l v n m) s0 s2) (m3 : Fw.Mod [] s2 s3) (hrow : rowE entE s3 39 t'.1 t'.2.1 t'.2.2 M2.list) (hf : ∀ y ∈ Fw.blk t'.1, s2 y = none)
    (hr : s3 r = none) (m4 : Fw.Mod [] s3 s4) (k4 : s4 r = some (.cells (msgCells M2 t').toArray 32 (0, 0))) : OpPost (B2, [M2]) b L s0 (.slice (some ⟨r, 0, none⟩) 1 1) s4 := by
  have m24 := m3.trans m4
  refine ⟨(some ⟨r, 0, none⟩, 1, 1), [(M2, t')], l, v, n, m, rfl, h2.new m24, st.trans ⟨m24.mono (by simp), fun x hx => .inl hx⟩, ⟨row_one k4 rfl, fun p hp => by simp at hp; subst hp; exact hrow.mod m4 (by simp)⟩, rfl, ?_⟩
  intro y hy
  have hy2 : s2 y = none := by
    simp [mF, Fw.blk] at hy
    rcases hy with rfl | hy
    · exact m3.none hr (by simp)
    · exact hf y (by simpa [Fw.blk] using hy)
  refine ⟨?_, fun hx => h2.known y hx hy2⟩
  by_cases hl : y ∈ L
  · exact .inl hl
  · exact .inr (st.mod.none hy2 hl)
/-- a message behind others -/
theorem push_msg2 {s1 s2 : PH} {t t' : Tri} {ps : List (Msg × Tri)} {M : Msg} (Fr : Nat → Prop) (hFr : ∀ g, s1 g = none → Fr g) (h : Msgs s1 t ps) (hf : ∀ y ∈ mF t ps, Fr y) (hrow : rowE entE s2 39 t'.1 t'.2.1 t'.2.2 M.list) (m2 : Fw.Mod [] s1 s2) (hf' : ∀ y ∈ Fw.blk t'.1, s1 y = none) (hc : t.2.1 ≤ 1000)
    {K : Option Addr → Nat → Nat → W.T} (hK : ∀ a n c s', Msgs s' (a, n, c) (ps ++ [(M, t')]) → Fw.Mod (Fw.blk t.1) s1 s' → (∀ y ∈ mF (a, n, c) (ps ++ [(M, t')]), Fr y) → K a n c s') :
    W.nw (.cells (msgCells M t').toArray 32 (0, 0)) (fun r => W.app 32 10 104 zeroMsg t.1 t.2.1 t.2.2 (.sl (some ⟨r, 0, none⟩) 1) K) s2 := by
  refine W.nw_of fun r s3 hr m3 k3 => ?_
  have m23 := m2.trans m3
  have hms : Msgs s3 (some ⟨r, 0, none⟩, 1, 1) [(M, t')] := ⟨row_one k3 rfl, fun p hp => by simp at hp; subst hp; exact hrow.mod m3 (by simp)⟩
  have hd : ∀ y ∈ mF (some ⟨r, 0, none⟩, 1, 1) [(M, t')], s1 y = none := by
    intro y hy
    simp [mF, Fw.blk] at hy
    rcases hy with rfl | hy
    · exact m2.none hr (by simp)
    · exact hf' y (by simpa [Fw.blk] using hy)
  exact app_msgs Fr (fun g hg => hFr g (m23.none hg (by simp))) (h.mod m23 (by simp)) hms hf (fun y hy => hFr y (hd y hy)) (fun y hy hy' => (h.known y (by simp [mF, hy'])) (hd y hy)) h.apart hc (by show 1 ≤ 1000; omega)
    fun a n c s' g1 g2 g3 => hK a n c s' g1 ((m23.mono (by simp)).trans g3) g2
theorem c_heard (h : Bal s b l v n m B) (hok : B.Ok) (hL : B.role = 2 → B.Ldr) (hlc : B.commit ≤ B.lst) (M : Msg) (t : Tri) (hf0 : 0 ≤ M.from_) (hf1 : M.from_ < B.size) (hi : -1 ≤ M.index ∧ M.index ≤ FAR) :
    DCalls Try.prog 50 #[bptr b, msgV M t] s (OpPost (B.heard M) b (bL b l v n m) s) := by
  refine ok_heard b M.kind M.from_ M.to M.term M.index M.prev M.commit M.good t.1 t.2.1 t.2.2 M.snap _ s ?_
  unfold vc_heard
  simp only [RP_nw]
  refine W.nw_of fun r s1 hr m1 k1 => ?_
  have h1 := h.new m1
  have hb1 := h1.cell
  have hbr : b ≠ r := ne_of_known h.cell hr
  have st1 : Step (bL b l v n m) (bL b l v n m) s s1 := ⟨m1.mono (by simp), fun x hx => .inl hx⟩
  have hs := hok.small
  obtain ⟨q1, q2, q3⟩ := id hs
  have hnl := num_lst hs hok.base
  unfold Num at hnl
  unfold FAR at hi
  simp [W.ld_at hb1, W.ld_at k1, W.br_iff, -W.nw_iff]
  refine ⟨fun hrole => ?_, fun hrole => ?_⟩
  · have : B.heard M = (B, []) := by unfold BS.heard; rw [if_pos hrole]
    rw [this]; exact OpPost.noMsgs h1 st1
  have hL := hL hrole
  obtain ⟨f, hf⟩ : ∃ f : Nat, M.from_ = f := ⟨M.from_.toNat, by omega⟩
  have hfs : f < B.size.toNat := by omega
  have hnx : B.next[f]? = some (B.nx f) := by unfold BS.nx; rw [List.getElem?_eq_getElem (by rw [hL.nlen]; exact hfs)]; rfl
  have hmt : B.mat[f]? = some (B.mt f) := by unfold BS.mt; rw [List.getElem?_eq_getElem (by rw [hL.mlen]; exact hfs)]; rfl
  have gn := hL.nr _ _ hnx
  have gm := hL.mr _ _ hmt
  have hnn := h1.next.len
  have hmn := h1.mat.len
  obtain ⟨g, hg, hgm, hhas, hst⟩ := h1.getNext hnx
  obtain ⟨g2, hg2, hgm2, hhas2, hst2⟩ := h1.getMat hmt
  have hn1 := hL.nlen
  have hm1 := hL.mlen
  refine ⟨fun hgood => ?_, fun hgood => ?_⟩
  · rw [hf]
    refine ⟨by omega, ?_⟩
    rw [hg2]
    simp only [W.unSome_some, add_mk, Nat.zero_add, Int.toNat_natCast]
    refine ld_has_z hhas2 (cs := [.int .i64]) (y := (B.mt f, ())) rfl ?_
    simp [W.ld_at hb1, -W.nw_iff]
    refine ⟨by omega, ?_⟩
    rw [hg]
    simp only [W.unSome_some, add_mk, Nat.zero_add]
    refine ld_has_z hhas (cs := [.int .i64]) (y := (B.nx f, ())) rfl ?_
    simp [W.ld_at k1, -W.nw_iff]
    refine ⟨by omega, ?_⟩
    have e1 : IntKind.i64.wrap (M.index + 1) = M.index + 1 := wrap_in (by omega) (by omega)
    have e2 : IntKind.i64.wrap (B.nx f - 1) = B.nx f - 1 := wrap_in (by omega) (by omega)
    have e3 : IntKind.i64.wrap (B.mt f + 1) = B.mt f + 1 := wrap_in (by omega) (by omega)
    rw [e1, e2, e3]
    have e4 : (if B.mt f + 1 < (if M.index + 1 < B.nx f - 1 then M.index + 1 else B.nx f - 1) then (if M.index + 1 < B.nx f - 1 then M.index + 1 else B.nx f - 1) else B.mt f + 1) = mx (B.mt f + 1) (mn (B.nx f - 1) (M.index + 1)) := by unfold mx mn; rfl
    rw [e4]
    refine hst _ _ fun s2 h2 m2 => ?_
    have h2 : Bal s2 b l v n m (B.unfed f M.index) := h2
    have hL2 := hL.unfed hfs M.index
    have st2 : Step (bL b l v n m) (bL b l v n m) s s2 := st1.trans ⟨m2.mono (by simpa using hgm), fun x hx => .inl hx⟩
    have hnx2 : (B.unfed f M.index).next[f]? = some ((B.unfed f M.index).nx f) := by unfold BS.nx; rw [List.getElem?_eq_getElem (by rw [hL2.nlen]; exact hfs)]; rfl
    have hh : B.heard M = (B.unfed f M.index, [(B.unfed f M.index).feedM M.from_ ((B.unfed f M.index).nx f)]) := by
      unfold BS.heard
      rw [if_neg (by simp [hrole])]
      simp only [hgood, if_true, hf, Int.toNat_natCast]
    rw [hh, hf]
    have hs2 : (B.unfed f M.index).Small := ⟨q1, q2, q3⟩
    have hbb : (B.unfed f M.index).base ≤ 4611686016279904256 := hok.base
    generalize B.unfed f M.index = B2 at h2 hL2 hnx2 hs2 hbb
    refine W.call_of (c_feed h2 hs2 hbb hnx2 (hL2.fed.rng f _ hnx2)) ?_
    rintro _ s3 ⟨t', rfl, hrow, m3, hf'⟩
    generalize B2.feedM f (B2.nx f) = M2 at hrow
    refine ⟨((M2.kind, M2.from_, M2.to, M2.term, M2.index, M2.prev, M2.commit, M2.good, t', M2.snap, ()), ()), rfl, ?_⟩
    refine W.nw_of fun r35 s4 hr4 m4 k4 => ?_
    exact op_one h2 st2 m3 hrow hf' hr4 m4 k4
  · rw [hf]
    refine ⟨by omega, ?_⟩
    rw [hg2]
    simp only [W.unSome_some, add_mk, Nat.zero_add, Int.toNat_natCast]
    refine ld_has_z hhas2 (cs := [.int .i64]) (y := (B.mt f, ())) rfl ?_
    simp [W.ld_at hb1, W.ld_at k1, -W.nw_iff]
    refine W.callQ_of ((B.lst, ()), ()) (c_last h1 hs) rfl ?_
    simp [W.ld_at hb1, W.ld_at k1, -W.nw_iff]
    refine ⟨by omega, ?_⟩
    rw [hg2]
    have e4 : (if B.mt f < (if B.lst < M.index then B.lst else M.index) then (if B.lst < M.index then B.lst else M.index) else B.mt f) = mx (B.mt f) (mn M.index B.lst) := by unfold mx mn; rfl
    simp only [W.unSome_some, add_mk, Nat.zero_add, e4]
    refine hst2 _ _ fun s2 h2 m2 => ?_
    have hb2 := h2.cell
    obtain ⟨g3, hg3, hgm3, hhas3, hst3⟩ := h2.getNext (f := f) (x := B.nx f) hnx
    obtain ⟨g4, hg4, hgm4, hhas4, hst4⟩ := h2.getMat (f := f) (x := mx (B.mt f) (mn M.index B.lst)) (by show (B.mat.set f _)[f]? = _; rw [List.getElem?_set_self (by omega)])
    simp [W.ld_at hb2, -W.nw_iff]
    refine ⟨by omega, ?_⟩
    rw [hg4]
    simp only [W.unSome_some, add_mk, Nat.zero_add]
    refine ld_has_z hhas4 (cs := [.int .i64]) (y := (mx (B.mt f) (mn M.index B.lst), ())) rfl ?_
    simp only [W.guard_iff]
    refine ⟨by omega, ?_⟩
    rw [hg3]
    have hb5 : 0 ≤ mx (B.mt f) (mn M.index B.lst) ∧ mx (B.mt f) (mn M.index B.lst) ≤ B.lst := by
      unfold mx mn
      repeat' split
      all_goals omega
    have e5 : IntKind.i64.wrap (mx (B.mt f) (mn M.index B.lst) + 1) = mx (B.mt f) (mn M.index B.lst) + 1 := wrap_in (by omega) (by omega)
    simp only [W.unSome_some, add_mk, Nat.zero_add, e5]
    refine hst3 _ _ fun s3 h3 m3 => ?_
    have h3 : Bal s3 b l v n m (B.fedTo f M.index) := h3
    have hL3 := hL.fedTo hfs M.index (by omega)
    have hh : B.heard M = (if (B.fedTo f M.index).settled.1.mt f > B.mt f ∧ (B.fedTo f M.index).settled.1.nx f ≤ (B.fedTo f M.index).settled.1.lst then ((B.fedTo f M.index).settled.1, (B.fedTo f M.index).settled.2 ++ [(B.fedTo f M.index).settled.1.feedM M.from_ ((B.fedTo f M.index).settled.1.nx f)]) else (B.fedTo f M.index).settled) := by
      unfold BS.heard
      rw [if_neg (by simp [hrole])]
      simp only [hgood, hf, Int.toNat_natCast, Bool.true_eq_false, if_false]
    rw [hh, hf]
    have hok3 : (B.fedTo f M.index).Ok := ⟨⟨q1, q2, q3⟩, hok.base, hok.size, hok.id, hok.com⟩
    have hlc3 : (B.fedTo f M.index).commit ≤ (B.fedTo f M.index).lst := hlc
    have hsz3 : (B.fedTo f M.index).size = B.size := rfl
    have st3 : Step (bL b l v n m) (bL b l v n m) s s3 := (st1.trans ⟨m2.mono (by simpa using hgm2), fun x hx => .inl hx⟩).trans ⟨m3.mono (by simpa using hgm3), fun x hx => .inl hx⟩
    generalize B.fedTo f M.index = B3 at h3 hL3 hok3 hlc3 hsz3
    refine W.call_of (c_settle h3 hok3 hL3.fed hL3.mlen hlc3) ?_
    rintro _ s4 ⟨t4, ps4, rfl, hms4, hps4, h4, m4, hf4⟩
    refine ⟨((t4, ()), ()), rfl, ?_⟩
    have hset : B3.settled.1.next = B3.next ∧ B3.settled.1.mat = B3.mat ∧ B3.settled.1.base = B3.base ∧ B3.settled.1.log = B3.log := by
      unfold BS.settled; split <;> exact ⟨rfl, rfl, rfl, rfl⟩
    have hlen4 := settled_len B3
    generalize hR : B3.settled = R at h4 hset hps4 hlen4
    obtain ⟨e6, e7, e8, e9⟩ := hset
    have hb4 := h4.cell
    have st4 : Step (bL b l v n m) (bL b l v n m) s s4 := st3.trans ⟨m4.mono (by simp [bL]), fun x hx => .inl hx⟩
    have hmt4 : R.1.mat[f]? = some (R.1.mt f) := by unfold BS.mt; rw [e7, List.getElem?_eq_getElem (by rw [hL3.mlen, hsz3]; exact hfs)]; rfl
    have hnx4 : R.1.next[f]? = some (R.1.nx f) := by unfold BS.nx; rw [e6, List.getElem?_eq_getElem (by rw [hL3.nlen, hsz3]; exact hfs)]; rfl
    have hl4 : R.1.lst = B3.lst := by unfold BS.lst; rw [e8, e9]
    have hs4 : R.1.Small := ⟨by rw [e8]; exact hok3.small.base0, by rw [e8]; exact hok3.small.base1, by rw [e9]; exact hok3.small.log1⟩
    have hnn4 := h4.next.len
    have hmn4 := h4.mat.len
    have hm4l := hL3.mlen
    have hn4l := hL3.nlen
    rw [e7] at hmn4
    rw [e6] at hnn4
    obtain ⟨g5, hg5, hgm5, hhas5, _⟩ := h4.getMat hmt4
    obtain ⟨g6, hg6, hgm6, hhas6, _⟩ := h4.getNext hnx4
    have htl : t4.2.1 ≤ 5 := by
      have a1 := hms4.row.len
      have a2 := congrArg List.length hps4
      simp only [List.length_map] at a2
      have := hok3.size.2
      omega
    -- the messages are new
    have hnew : ∀ y, (s3 y = none ∨ s4 y = none) → (y ∈ bL b l v n m ∨ s y = none) ∧ y ∉ bL b l v n m := by
      intro y hy
      have hn : y ∉ bL b l v n m := fun hx => by
        rcases hy with hy | hy
        · exact h3.known y hx hy
        · exact h4.known y hx hy
      refine ⟨.inr ?_, hn⟩
      rcases hy with hy | hy
      · exact st3.mod.none hy hn
      · exact st4.mod.none hy hn
    have stop : OpPost R b (bL b l v n m) s t4.v s4 := ⟨t4, ps4, l, v, n, m, rfl, h4, st4, hms4, hps4, fun y hy => hnew y (.inl (hf4 y hy))⟩
    simp [W.ld_at hb4, -W.nw_iff]
    refine ⟨by omega, ?_⟩
    rw [hg5]
    simp only [W.unSome_some, add_mk, Nat.zero_add]
    refine ld_has_z hhas5 (cs := [.int .i64]) (y := (R.1.mt f, ())) rfl ?_
    simp [W.ld_at hb4, W.br_iff, -W.nw_iff]
    refine ⟨fun hgt => ⟨by omega, ?_⟩, fun hle => ?_⟩
    · rw [hg6]
      simp only [W.unSome_some, add_mk, Nat.zero_add]
      refine ld_has_z hhas6 (cs := [.int .i64]) (y := (R.1.nx f, ())) rfl ?_
      refine W.callQ_of ((R.1.lst, ()), ()) (c_last h4 hs4) rfl ?_
      simp [W.br_iff, -W.nw_iff]
      refine ⟨fun hle => ?_, fun hgt2 => ?_⟩
      · rw [if_pos ⟨hgt, hle⟩]
        refine W.call_of (c_feed h4 hs4 (by rw [e8]; exact hok3.base) hnx4 (by omega)) ?_
        rintro _ s5 ⟨t', rfl, hrow, m5, hf'⟩
        generalize R.1.feedM f (R.1.nx f) = M2 at hrow
        refine ⟨((M2.kind, M2.from_, M2.to, M2.term, M2.index, M2.prev, M2.commit, M2.good, t', M2.snap, ()), ()), rfl, ?_⟩
        refine push_msg2 (M := M2) (fun y => (y ∈ bL b l v n m ∨ s y = none) ∧ y ∉ bL b l v n m) (fun g hg => hnew g (.inr hg)) hms4 (fun y hy => hnew y (.inl (hf4 y hy))) hrow m5 hf' (by omega) ?_
        intro a' n' c' s6 k1 k2 k3
        have hdis : ∀ x ∈ bL b l v n m, x ∉ Fw.blk t4.1 := fun x hx hx' => (hnew x (.inl (hf4 x (by simp [mF, hx'])))).2 hx
        refine ⟨(a', n', c'), ps4 ++ [(M2, t')], l, v, n, m, rfl, h4.mod k2 hdis, ?_, k1, by rw [List.map_append, hps4]; rfl, k3⟩
        refine ⟨fun x g1 g2 => ?_, fun x hx => .inl hx⟩
        rw [k2 x ?_ ?_, st4.mod x g1 g2]
        · rw [st4.mod x g1 g2]; exact g1
        · intro hx'
          rcases (hnew x (.inl (hf4 x (by simp [mF, hx'])))).1 with a | a
          · exact g2 a
          · exact g1 a
      · rw [if_neg (by intro hc; omega)]
        exact stop
    · rw [if_neg (by intro hc; omega)]
      exact stop
end
end Go.Proofs.Ytfpbiecmobdnnaa
