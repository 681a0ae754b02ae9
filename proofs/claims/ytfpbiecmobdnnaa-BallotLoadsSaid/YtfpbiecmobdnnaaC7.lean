/-
  The ballot: a snapshot came; entries came.
  Conditions: none; it proves no statement by itself.
-/
import Derived.Test.YtfpbiecmobdnnaaC6
set_option linter.unusedVariables false
set_option linter.unusedSimpArgs false
set_option maxHeartbeats 1000000
namespace Go.Proofs.Ytfpbiecmobdnnaa
open Fw Go
attribute [-simp] Fw.W.ld_iff Fw.W.st_iff

section
variable {s : PH} {b : Nat} {l v n m : Tri} {B : BS}
theorem op_msgs {s0 s2 s3 : PH} {B2 : BS} {L : List Nat} {ms : List Msg} {x : Value} (h2 : Bal s2 b l v n m B2) (st : Step L (bL b l v n m) s0 s2) (hp : MsgsPost ms s2 x s3) : OpPost (B2, ms) b L s0 x s3 := by
  obtain ⟨t, ps, rfl, hms, hps, m3, hf⟩ := hp
  refine ⟨t, ps, l, v, n, m, rfl, h2.new m3, st.trans ⟨m3.mono (by simp), fun x hx => .inl hx⟩, hms, hps, fun y hy => ⟨?_, fun hx => h2.known y hx (hf y hy)⟩⟩
  by_cases hl : y ∈ L
  · exact .inl hl
  · exact .inr (st.mod.none (hf y hy) hl)
def BS.toldM (B : BS) (to : Int) (good : Bool) (i : Int) : Msg := { B.msg 4 to with good := good, index := i }
def BS.given (B : BS) (M : Msg) : BS × List Msg :=
  if B.role = 2 then (B, []) else
  if M.index ≤ B.commit then ({ B with role := 0, lead := M.from_ }, [B.toldM M.from_ true M.index]) else
  ({ ({ B with role := 0, lead := M.from_ }.rebase M.index M.prev M.snap (if B.termAt M.index = (M.prev, true) then B.log.drop (M.index - B.base).toNat else [])) with commit := M.index }, [B.toldM M.from_ true M.index])
theorem termAt_le {B : BS} {i : Int} (h : (B.termAt i).2 = true) (hb : B.base ≤ i) : i ≤ B.lst := by
  unfold BS.termAt at h
  split at h
  · rename_i e; unfold BS.lst; omega
  · by_cases hl : B.lst < i
    · rw [BS.entry_out (.inr hl)] at h; cases h
    · omega
def GivJ (B2 : BS) (b : Nat) (v n m : Tri) (rest : List Ent) (r : Nat) (c : Array Value) (s1 : PH) (z : MDen [(false, [.addr]), (false, [.slice])]) (s' : PH) : Prop :=
  ∃ t : Tri, z = ((Addr.mk r 0 none, ()), (t, ()), ()) ∧ rowE entE s' 39 t.1 t.2.1 t.2.2 rest ∧ (∀ y ∈ Fw.blk t.1, s1 y = none) ∧ Fw.Mod [] s1 s'
theorem c_given (h : Bal s b l v n m B) (hok : B.Ok) (hlc : B.commit ≤ B.lst) (M : Msg) (t : Tri) (hi : -1 ≤ M.index ∧ M.index ≤ FAR) :
    DCalls Try.prog 51 #[bptr b, msgV M t] s (OpPost (B.given M) b (bL b l v n m) s) := by
  refine ok_given b M.kind M.from_ M.to M.term M.index M.prev M.commit M.good t.1 t.2.1 t.2.2 M.snap _ s ?_
  unfold vc_given
  simp only [RP_nw]
  refine W.nw_of fun r s1 hr m1 k1 => ?_
  have h1 := h.new m1
  have hb1 := h1.cell
  have hbr : b ≠ r := ne_of_known h.cell hr
  have hs := hok.small
  obtain ⟨q1, q2, q3⟩ := id hs
  have hcb := hok.com
  unfold FAR at hi
  have st1 : Step (bL b l v n m) (bL b l v n m) s s1 := ⟨m1.mono (by simp), fun x hx => .inl hx⟩
  have k1' : ∀ o, (s1.upd b o) r = some (.cells (msgCells M t).toArray 32 (0, 0)) := fun o => upd_at k1 hbr.symm o
  simp [W.ld_at hb1, W.ld_at k1, W.br_iff, W.st_at hb1, fun o => W.ld_at (k1' o), fun o => W.still_at (k1' o)]
  refine ⟨fun hrole => ?_, fun hrole => ?_⟩
  · have : B.given M = (B, []) := by unfold BS.given; rw [if_pos hrole]
    rw [this]; exact OpPost.noMsgs h1 st1
  have hB2 : Bal (s1.upd b (.cells ({ B with role := 0, lead := M.from_ }.cells l v n m) 67 (0, 0))) b l v n m { B with role := 0, lead := M.from_ } := h1.lay
  have st2 : Step (bL b l v n m) (bL b l v n m) s (s1.upd b (.cells ({ B with role := 0, lead := M.from_ }.cells l v n m) 67 (0, 0))) := st1.trans ⟨Mod.upd (by simp [bL]), fun x hx => .inl hx⟩
  have k2 := k1' (.cells ({ B with role := 0, lead := M.from_ }.cells l v n m) 67 (0, 0))
  generalize hs2 : s1.upd b (.cells ({ B with role := 0, lead := M.from_ }.cells l v n m) 67 (0, 0)) = s2 at hB2 st2 k2
  have hs2' : { B with role := 0, lead := M.from_ }.Small := ⟨q1, q2, q3⟩
  refine ⟨fun hle => ?_, fun hgt => ?_⟩
  · have : B.given M = ({ B with role := 0, lead := M.from_ }, [B.toldM M.from_ true M.index]) := by unfold BS.given; rw [if_neg hrole, if_pos hle]
    rw [this]
    refine W.call_of (c_told hB2 M.from_ true M.index) ?_
    intro x s3 hp
    obtain ⟨t3, ps, rfl, q⟩ := hp
    refine ⟨((t3, ()), ()), rfl, ?_⟩
    exact op_msgs hB2 st2 ⟨t3, ps, rfl, q⟩
  have hg : B.given M = ({ ({ B with role := 0, lead := M.from_ }.rebase M.index M.prev M.snap (if B.termAt M.index = (M.prev, true) then B.log.drop (M.index - B.base).toNat else [])) with commit := M.index }, [B.toldM M.from_ true M.index]) := by
    unfold BS.given; rw [if_neg hrole, if_neg (by omega)]
  rw [hg]
  refine W.join_gen (GivJ { B with role := 0, lead := M.from_ } b v n m (if B.termAt M.index = (M.prev, true) then B.log.drop (M.index - B.base).toNat else []) r (msgCells M t).toArray s2) ?_ ?_
  · rintro _ s3 ⟨t3, rfl, hrow, hf3, m3⟩
    have h3 := hB2.new m3
    have k3 := m3.at k2 (by simp)
    simp [W.ld_at k3]
    refine W.call_of (c_rebase h3 M.index M.prev M.snap hrow) ?_
    rintro _ s4 ⟨rfl, h4, m4⟩
    refine ⟨(), rfl, ?_⟩
    have k4 := m4.at k3 (by simpa using hbr.symm)
    have hb4 := h4.cell
    simp [W.ld_at k4, W.st_at hb4, fun o => W.ld_at (upd_at k4 hbr.symm o)]
    have h5 : Bal (s4.upd b (.cells ({ ({ B with role := 0, lead := M.from_ }.rebase M.index M.prev M.snap (if B.termAt M.index = (M.prev, true) then B.log.drop (M.index - B.base).toNat else [])) with commit := M.index }.cells (t3.1, t3.2.1, t3.2.2) v n m) 67 (0, 0))) b (t3.1, t3.2.1, t3.2.2) v n m
        { ({ B with role := 0, lead := M.from_ }.rebase M.index M.prev M.snap (if B.termAt M.index = (M.prev, true) then B.log.drop (M.index - B.base).toNat else [])) with commit := M.index } := h4.lay
    have st5 : Step (bL b l v n m) (bL b (t3.1, t3.2.1, t3.2.2) v n m) s (s4.upd b (.cells ({ ({ B with role := 0, lead := M.from_ }.rebase M.index M.prev M.snap (if B.termAt M.index = (M.prev, true) then B.log.drop (M.index - B.base).toNat else [])) with commit := M.index }.cells (t3.1, t3.2.1, t3.2.2) v n m) 67 (0, 0))) := by
      refine st2.trans ⟨(((m3.mono (by simp)).trans (m4.mono (by simp [bL]))).updLater (.inl (by simp [bL]))), ?_⟩
      intro y hy
      simp only [bL, List.mem_cons, List.mem_append] at hy ⊢
      rcases hy with hy | hy | hy
      · exact .inl (.inl hy)
      · exact .inr (hf3 y hy)
      · exact .inl (.inr (.inr hy))
    refine W.call_of (c_told h5 M.from_ true M.index) ?_
    intro x s6 hp
    obtain ⟨t6, ps, rfl, q⟩ := hp
    refine ⟨((t6, ()), ()), rfl, ?_⟩
    exact op_msgs h5 st5 ⟨t6, ps, rfl, q⟩
  · intro J hJ
    simp [W.ld_at k2]
    refine W.call_of (c_term hB2 hs2' (i := M.index) (by unfold Num; omega)) ?_
    rintro _ s3 ⟨rfl, m3⟩
    have hte : ({ B with role := 0, lead := M.from_ } : BS).termAt M.index = B.termAt M.index := rfl
    rw [hte]
    refine ⟨(((B.termAt M.index).1, ()), ((B.termAt M.index).2, ()), ()), rfl, ?_⟩
    have k3 := m3.at k2 (by simp)
    have h3 := hB2.new m3
    have hb3 := h3.cell
    have hnone : B.termAt M.index ≠ (M.prev, true) → J ((Addr.mk r 0 none, ()), ((none, 0, 0), ()), ()) s3 := by
      intro hne
      exact hJ _ _ ⟨noTri, rfl, by rw [if_neg hne]; exact rowE.nil, by simp [Fw.blk], m3⟩
    simp [W.ld_at k3, W.ld_at hb3, W.br_iff]
    refine ⟨fun hok2 => ⟨fun hpe => ?_, fun hpn => ?_⟩, fun hno => ?_⟩
    · have hlle := termAt_le hok2 (by omega)
      have hlst : B.lst = B.base + B.log.length := rfl
      obtain ⟨k, hk⟩ : ∃ k : Nat, (M.index - B.base).toNat = k := ⟨_, rfl⟩
      have hw : IntKind.i64.wrap (M.index - B.base) = (k : Int) := by rw [wrap_in (by omega) (by omega)]; omega
      have hll := h3.log.len
      have hlc2 := h3.log.le
      have hll : l.2.1 = B.log.length := hll
      simp [hw]
      refine ⟨⟨by omega, by omega⟩, ?_⟩
      have hsrc := h3.log.src (i := k) (m := l.2.1 - k) (by omega)
      rw [List.take_of_length_le (by rw [List.length_drop, hll]; exact Nat.le_refl _)] at hsrc
      refine W.call_of (c_Clone (ys := B.log.drop k) hsrc (by rw [List.length_drop, hll]) (by omega)) ?_
      rintro _ s4 ⟨t4, rfl, _, hrow4, m4, hf4⟩
      refine ⟨((t4, ()), ()), rfl, ?_⟩
      refine hJ _ _ ⟨t4, rfl, ?_, fun y hy => m3.none (hf4 y hy) (by simp), m3.trans m4⟩
      rw [if_pos (Prod.ext hpe hok2), hk]; exact hrow4
    · exact hnone (by intro e; rw [e] at hpn; exact hpn rfl)
    · exact hnone (by intro e; rw [e] at hno; cases hno)
end
end Go.Proofs.Ytfpbiecmobdnnaa
