/-
  The ballot: entries go into a snapshot; what has changed.
  Conditions: none; it proves no statement by itself.
-/
import Derived.Test.YtfpbiecmobdnnaaP1
set_option linter.unusedVariables false
set_option linter.unusedSimpArgs false
set_option maxHeartbeats 1000000
namespace Go.Proofs.Ytfpbiecmobdnnaa
open Fw Go
attribute [-simp] Fw.W.ld_iff Fw.W.st_iff

section
variable {s : PH} {b : Nat} {l v n m : Tri} {B : BS}
/-- the log from a place on, copied -/
theorem clone_log {K : MDen [(false, [.slice])] → W.T} (h : Bal s b l v n m B) (hs : B.Small) {k : Nat} (hk : k ≤ B.log.length) (hK : ∀ (t : Tri) s', rowE entE s' 39 t.1 t.2.1 t.2.2 (B.log.drop k) → Fw.Mod [] s s' → (∀ g ∈ Fw.blk t.1, s g = none) → K ((t, ()), ()) s') :
    W.call Try.prog 38 #[.slice (if l.2.2 = k then l.1 else Option.map (fun x => x.add (k * 4)) l.1) (l.2.1 - k) (l.2.2 - k)] (false, [(false, [.slice])]) K s := by
  have hll : l.2.1 = B.log.length := h.log.len
  have hlc2 := h.log.le
  obtain ⟨q1, q2, q3⟩ := hs
  have hsrc := h.log.src (i := k) (m := l.2.1 - k) (by omega)
  rw [List.take_of_length_le (by rw [List.length_drop, hll]; exact Nat.le_refl _)] at hsrc
  refine W.call_of (c_Clone (ys := B.log.drop k) hsrc (by rw [List.length_drop, hll]) (by omega)) ?_
  rintro _ s4 ⟨t4, rfl, _, hrow4, m4, hf4⟩
  exact ⟨((t4, ()), ()), rfl, hK t4 s4 hrow4 m4 hf4⟩
def BS.cut (B : BS) (i : Int) (sn : ByteArray) : BS := if i ≤ B.base ∨ i > B.commit then B else B.rebase i (B.termAt i).1 sn (B.log.drop (i - B.base).toNat)
def BS.cuts (B : BS) (i : Int) : Bool := !decide (i ≤ B.base ∨ i > B.commit)
def CutPost (B : BS) (i : Int) (sn : ByteArray) (b : Nat) (l v n m : Tri) (s : PH) (x : Value) (s' : PH) : Prop := ∃ l' : Tri, x = .bool (B.cuts i) ∧ Bal s' b l' v n m (B.cut i sn) ∧ Step (bL b l v n m) (bL b l' v n m) s s'
theorem c_Cut (h : Bal s b l v n m B) (hs : B.Small) (hbs : B.base ≤ 4611686016279904256) (hlc : B.commit ≤ B.lst) (i : Int) (sn : ByteArray) : DCalls Try.prog 30 #[bptr b, .int .i64 i, .string sn] s (CutPost B i sn b l v n m s) := by
  refine ok_Cut b i sn _ s ?_
  unfold vc_Cut
  have hb := h.cell
  have hnl := num_lst hs hbs
  obtain ⟨q1, q2, q3⟩ := id hs
  have hd := lst_def B
  unfold Num at hnl
  have no : (i ≤ B.base ∨ i > B.commit) → CutPost B i sn b l v n m s (.bool false) s := fun hc => ⟨l, by unfold BS.cuts; rw [decide_eq_true hc]; rfl, by unfold BS.cut; rw [if_pos hc]; exact h, Step.refl _ _⟩
  simp only [RP_join]
  refine W.join_gen (fun z s' => s' = s ∧ z = () ∧ ¬ (i ≤ B.base ∨ i > B.commit)) ?_ ?_
  · rintro _ s ⟨rfl, rfl, hc⟩
    obtain ⟨k, hk⟩ : ∃ k : Nat, (i - B.base).toNat = k := ⟨_, rfl⟩
    have hw : IntKind.i64.wrap (i - B.base) = (k : Int) := by rw [wrap_in (by omega) (by omega)]; omega
    have hll : l.2.1 = B.log.length := h.log.len
    have hlc2 := h.log.le
    refine W.call_of (c_term h hs (i := i) (by unfold Num; omega)) ?_
    rintro _ s2 ⟨rfl, m2⟩
    refine ⟨(((B.termAt i).1, ()), ((B.termAt i).2, ()), ()), rfl, ?_⟩
    have h2 := h.new m2
    have hb2 := h2.cell
    simp [W.ld_at hb2, hw]
    refine ⟨⟨by omega, by omega⟩, ?_⟩
    refine clone_log h2 hs (k := k) (by omega) ?_
    intro t s3 hrow m3 hf
    have h3 := h2.new m3
    refine W.call_of (c_rebase h3 i (B.termAt i).1 sn hrow) ?_
    rintro _ s4 ⟨rfl, h4, m4⟩
    refine ⟨(), rfl, (t.1, t.2.1, t.2.2), by unfold BS.cuts; rw [decide_eq_false hc]; rfl, by unfold BS.cut; rw [if_neg hc, hk]; exact h4, ?_⟩
    have m23 := m2.trans m3
    refine ⟨(m23.mono (by simp)).trans (m4.mono (by simp [bL])), fun z hz => ?_⟩
    simp only [bL, List.mem_cons, List.mem_append] at hz ⊢
    rcases hz with hz | hz | hz
    · exact .inl (.inl hz)
    · exact .inr (m2.none (hf z hz) (by simp))
    · exact .inl (.inr (.inr hz))
  · intro J hJ
    simp [W.ld_at hb, W.br_iff]
    refine ⟨fun h1 => no (.inl h1), fun h1 => ⟨fun h2 => no (.inr h2), fun h2 => hJ _ _ ⟨rfl, rfl, by omega⟩⟩⟩

/-! ## what has changed -/
structure Dl where
  term : Int
  vote : Int
  whole : Bool
  base : Int
  baseTerm : Int
  snap : ByteArray
  from_ : Int
  list : List Ent
abbrev dlCells (D : Dl) (t : Tri) : List Value := [.int .i64 D.term, .int .i64 D.vote, .bool D.whole, .int .i64 D.base, .int .i64 D.baseTerm, .string D.snap, .int .i64 D.from_, .slice t.1 t.2.1 t.2.2]
abbrev dlV (D : Dl) (t : Tri) : Value := .agg #[.int .i64 D.term, .int .i64 D.vote, .bool D.whole, .int .i64 D.base, .int .i64 D.baseTerm, .string D.snap, .int .i64 D.from_, .slice t.1 t.2.1 t.2.2]
def BS.deltaOf (B : BS) : Dl := if B.whole = true then ⟨B.term, B.vote, true, B.base, B.baseTerm, B.snap, B.base + 1, B.log⟩ else ⟨B.term, B.vote, false, 0, 0, ⟨#[]⟩, B.from_, B.log.drop (B.from_ - B.base - 1).toNat⟩
def BS.cleaned (B : BS) : BS := { B with touched := false, whole := false, from_ := B.lst + 1 }
def DeltaPost (B : BS) (b : Nat) (l v n m : Tri) (s : PH) (x : Value) (s' : PH) : Prop :=
  (B.touched = false ∧ x = .tuple #[noDelta, .bool false] ∧ Bal s' b l v n m B ∧ Fw.Mod [] s s') ∨
  (B.touched = true ∧ ∃ t : Tri, x = .tuple #[dlV B.deltaOf t, .bool true] ∧ rowE entE s' 39 t.1 t.2.1 t.2.2 B.deltaOf.list ∧ Bal s' b l v n m B.cleaned ∧ Fw.Mod [b] s s' ∧ ∀ y ∈ Fw.blk t.1, s y = none)
def DelJ (B : BS) (r q : Nat) (s : PH) (z : MDen [(false, [.addr]), (false, [.addr])]) (s' : PH) : Prop :=
  z = ((Addr.mk r 0 none, ()), (Addr.mk q 0 none, ()), ()) ∧ s' q = some (.cells (dlCells B.deltaOf noTri).toArray 53 (0, 0)) ∧ Fw.Mod [] s s'
theorem c_Delta (h : Bal s b l v n m B) (hs : B.Small) (hbs : B.base ≤ 4611686016279904256) (hf : B.whole = false → B.base < B.from_ ∧ B.from_ ≤ B.lst + 1) : DCalls Try.prog 17 #[bptr b] s (DeltaPost B b l v n m s) := by
  refine ok_Delta b _ s ?_
  unfold vc_Delta
  have hb := h.cell
  have hnl := num_lst hs hbs
  obtain ⟨q1, q2, q3⟩ := id hs
  have hd := lst_def B
  unfold Num at hnl
  simp only [RP_nw]
  refine W.nw_of fun r s1 hr m1 k1 => ?_
  have h1 := h.new m1
  have hb1 := h1.cell
  simp only [RP_join]
  refine W.join_gen (fun z s' => s' = s1 ∧ z = ((Addr.mk r 0 none, ()), ()) ∧ B.touched = true) ?_ ?_
  · rintro _ s1 ⟨rfl, rfl, ht⟩
    simp [W.ld_at hb1, -W.nw_iff]
    refine W.nw_of fun q s2 hq m2 k2 => ?_
    have k1' := m2.at k1 (by simp)
    have hb2 := m2.at hb1 (by simp)
    have hrq : r ≠ q := ne_of_known k1 hq
    have hbq : b ≠ q := ne_of_known hb1 hq
    have hbr : b ≠ r := ne_of_known hb hr
    simp [W.st_at k2]
    have m3 : Fw.Mod [] s1 (s2.upd q (.cells #[.int .i64 B.term, .int .i64 B.vote, .bool false, .int .i64 0, .int .i64 0, .string ⟨#[]⟩, .int .i64 B.from_, .slice none 0 0] 53 (0, 0))) := m2.updLater (.inr hq)
    have k3 := PH.upd_same s2 q (.cells #[.int .i64 B.term, .int .i64 B.vote, .bool false, .int .i64 0, .int .i64 0, .string ⟨#[]⟩, .int .i64 B.from_, .slice none 0 0] 53 (0, 0))
    generalize s2.upd q (.cells #[.int .i64 B.term, .int .i64 B.vote, .bool false, .int .i64 0, .int .i64 0, .string ⟨#[]⟩, .int .i64 B.from_, .slice none 0 0] 53 (0, 0)) = s3 at m3 k3 ⊢
    have hb3 := m3.at hb1 (by simp)
    refine W.join_gen (DelJ B r q s1) ?_ ?_
    · rintro _ s4 ⟨rfl, k4, m4⟩
      have h4 := h1.new m4
      have hb4 := h4.cell
      obtain ⟨k, hk, hkl, hw⟩ : ∃ k : Nat, B.deltaOf.list = B.log.drop k ∧ k ≤ B.log.length ∧ IntKind.i64.wrap (IntKind.i64.wrap (B.deltaOf.from_ - B.base) - 1) = (k : Int) := by
        unfold BS.deltaOf
        split
        · exact ⟨0, by simp, Nat.zero_le _, by dsimp only; rw [wrap_in (n := B.base + 1 - B.base) (by omega) (by omega), wrap_in (by omega) (by omega)]; simp; omega⟩
        · rename_i hwf
          have := hf (by simpa using hwf)
          refine ⟨_, rfl, by omega, ?_⟩
          dsimp only
          rw [wrap_in (n := B.from_ - B.base) (by omega) (by omega), wrap_in (by omega) (by omega)]; omega
      have hll : l.2.1 = B.log.length := h4.log.len
      have hlc2 := h4.log.le
      simp [W.ld_at hb4, W.ld_at k4, hw]
      refine ⟨⟨by omega, by omega⟩, ?_⟩
      refine clone_log h4 hs hkl ?_
      intro t s5 hrow m5 hft
      rw [← hk] at hrow
      have h5 := h4.new m5
      have k5 := m5.at k4 (by simp)
      simp [W.st_at k5]
      have hft1 : ∀ g ∈ Fw.blk t.1, s1 g = none := fun g hg => m4.none (hft g hg) (by simp)
      have hft0 : ∀ g ∈ Fw.blk t.1, s g = none := fun g hg => m1.none (hft1 g hg) (by simp)
      have hqt : q ∉ Fw.blk t.1 := row_ne2 hrow k5 (by decide)
      have m6 : Fw.Mod [] s1 (s5.upd q (.cells (dlCells B.deltaOf t).toArray 53 (0, 0))) := (m4.trans m5).updLater (.inr hq)
      have k6 : (s5.upd q (.cells (dlCells B.deltaOf t).toArray 53 (0, 0))) q = some (.cells (dlCells B.deltaOf t).toArray 53 (0, 0)) := PH.upd_same _ _ _
      have hrow6 : rowE entE (s5.upd q (.cells (dlCells B.deltaOf t).toArray 53 (0, 0))) 39 t.1 t.2.1 t.2.2 B.deltaOf.list := hrow.mod (L := [q]) (Mod.upd (by simp)) fun x hx => by simp; rintro rfl; exact hqt hx
      have hgo : ∀ s6, Fw.Mod [] s1 s6 → s6 q = some (.cells (dlCells B.deltaOf t).toArray 53 (0, 0)) → rowE entE s6 39 t.1 t.2.1 t.2.2 B.deltaOf.list →
          W.call Try.prog 23 #[bptr b] (true, []) (fun x => W.ld [.int .i64, .int .i64, .bool, .int .i64, .int .i64, .str, .int .i64, .slice] ⟨q, 0, none⟩ fun x =>
            W.st ⟨r, 0, none⟩ [.int .i64 x.1, .int .i64 x.2.1, .bool x.2.2.1, .int .i64 x.2.2.2.1, .int .i64 x.2.2.2.2.1, .string x.2.2.2.2.2.1, .int .i64 x.2.2.2.2.2.2.1, .slice x.2.2.2.2.2.2.2.1.1 x.2.2.2.2.2.2.2.1.2.1 x.2.2.2.2.2.2.2.1.2.2]
            (W.ld [.int .i64, .int .i64, .bool, .int .i64, .int .i64, .str, .int .i64, .slice] ⟨r, 0, none⟩ fun x =>
              W.ret (DeltaPost B b l v n m s) (.tuple #[.agg #[.int .i64 x.1, .int .i64 x.2.1, .bool x.2.2.1, .int .i64 x.2.2.2.1, .int .i64 x.2.2.2.2.1, .string x.2.2.2.2.2.1, .int .i64 x.2.2.2.2.2.2.1, .slice x.2.2.2.2.2.2.2.1.1 x.2.2.2.2.2.2.2.1.2.1 x.2.2.2.2.2.2.2.1.2.2], .bool true]))) s6 := by
        intro s6 m6 k6 hrow6
        have h6 := h1.new m6
        refine W.call_of (c_clean h6 hs) ?_
        rintro _ s7 ⟨rfl, h7, m7⟩
        refine ⟨(), rfl, ?_⟩
        have k7 := m7.at k6 (by simpa using hbq.symm)
        have kr7 := m7.at (m6.at k1 (by simp)) (by simpa using hbr.symm)
        have hrow7 := hrow6.mod m7 fun x hx => by simp; rintro rfl; have := hft0 _ hx; rw [hb] at this; cases this
        have hrt : r ∉ Fw.blk t.1 := row_ne2 hrow7 kr7 (by decide)
        simp [W.ld_at k7, W.st_at kr7]
        refine .inr ⟨ht, t, rfl, hrow7.mod (L := [r]) (Mod.upd (by simp)) fun x hx => by simp; rintro rfl; exact hrt hx, ?_, ?_, hft0⟩
        · exact Bal.mod (M := [r]) h7 (Mod.upd (by simp)) fun x hx => by simp; rintro rfl; exact h.known _ hx hr
        · exact (((m1.trans m6).mono (by simp)).trans m7).updLater (.inr hr)
      exact hgo _ m6 k6 hrow6
    · intro J hJ
      have hmod : ∀ o, Fw.Mod [] s1 (s3.upd q o) := fun o => m3.updLater (.inr hq)
      simp [W.ld_at hb3, W.br_iff, W.st_at k3, fun o => W.still_at (upd_at hb3 hbq o), fun o => W.ld_at (upd_at hb3 hbq o)]
      have hwb : IntKind.i64.wrap (B.base + 1) = B.base + 1 := wrap_in (by omega) (by omega)
      rw [hwb]
      refine ⟨fun hw => hJ _ _ ⟨rfl, ?_, hmod _⟩, fun hw => hJ _ _ ⟨rfl, ?_, m3⟩⟩
      · rw [PH.upd_same]; unfold BS.deltaOf; rw [if_pos hw]
      · rw [k3]; unfold BS.deltaOf; rw [if_neg (by rw [hw]; simp)]
  · intro J hJ
    simp [W.ld_at hb1, W.br_iff, W.st_at k1]
    refine ⟨fun hf => .inl ⟨hf, rfl, ?_, m1.updLater (.inr hr)⟩, fun ht => hJ _ _ ⟨rfl, rfl, ht⟩⟩
    exact h.new (m1.updLater (.inr hr))
end
end Go.Proofs.Ytfpbiecmobdnnaa
