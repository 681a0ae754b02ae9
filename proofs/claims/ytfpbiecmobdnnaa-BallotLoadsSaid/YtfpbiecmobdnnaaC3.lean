/-
  The ballot's messages: what they are in memory, and the functions that make them.
  Conditions: none; it proves no statement by itself.
-/
import Derived.Test.YtfpbiecmobdnnaaC2
set_option linter.unusedVariables false
set_option linter.unusedSimpArgs false
set_option maxHeartbeats 1000000
namespace Go.Proofs.Ytfpbiecmobdnnaa
open Fw Go
attribute [-simp] Fw.W.ld_iff Fw.W.st_iff

structure Msg where
  kind : Int
  from_ : Int
  to : Int
  term : Int
  index : Int := 0
  prev : Int := 0
  commit : Int := 0
  good : Bool := false
  list : List Ent := []
  snap : ByteArray := ⟨#[]⟩
abbrev msgCells (M : Msg) (t : Tri) : List Value :=
  [.int .i64 M.kind, .int .i64 M.from_, .int .i64 M.to, .int .i64 M.term, .int .i64 M.index, .int .i64 M.prev, .int .i64 M.commit, .bool M.good, .slice t.1 t.2.1 t.2.2, .string M.snap]
abbrev msgV (M : Msg) (t : Tri) : Value :=
  .agg #[.int .i64 M.kind, .int .i64 M.from_, .int .i64 M.to, .int .i64 M.term, .int .i64 M.index, .int .i64 M.prev, .int .i64 M.commit, .bool M.good, .slice t.1 t.2.1 t.2.2, .string M.snap]
def rmE : Enc (Msg × Tri) where
  sz := 10
  f p := msgCells p.1 p.2
  len _ := rfl
  one p v hv := by simp at hv; rcases hv with rfl | rfl | rfl | rfl | rfl | rfl | rfl | rfl | rfl | rfl <;> rfl
  pos := by omega
/-- the blocks of messages -/
def mF (t : Tri) (ps : List (Msg × Tri)) : List Nat := Fw.blk t.1 ++ ps.flatMap fun p => Fw.blk p.2.1
/-- MESSAGES IN MEMORY -/
structure Msgs (s : PH) (t : Tri) (ps : List (Msg × Tri)) : Prop where
  row : rowE rmE s 32 t.1 t.2.1 t.2.2 ps
  lists : ∀ p ∈ ps, rowE entE s 39 p.2.1 p.2.2.1 p.2.2.2 p.1.list
theorem Msgs.known {s : PH} {t : Tri} {ps : List (Msg × Tri)} (h : Msgs s t ps) : ∀ x ∈ mF t ps, s x ≠ none := by
  intro x hx
  simp only [mF, List.mem_append, List.mem_flatMap] at hx
  rcases hx with hx | ⟨p, hp, hx⟩
  · exact h.row.known x hx
  · exact (h.lists p hp).known x hx
theorem Msgs.mod {s s' : PH} {t : Tri} {ps : List (Msg × Tri)} {M : List Nat} (h : Msgs s t ps) (hm : Fw.Mod M s s') (hd : ∀ x ∈ mF t ps, x ∉ M) : Msgs s' t ps := by
  simp only [mF, List.mem_append, List.mem_flatMap] at hd
  exact ⟨h.row.mod hm fun x hx => hd x (.inl hx), fun p hp => (h.lists p hp).mod hm fun x hx => hd x (.inr ⟨p, hp, hx⟩)⟩
theorem Msgs.nil (s : PH) : Msgs s noTri [] := ⟨rowE.nil, by simp⟩

section
variable {s : PH} {b : Nat} {l v n m : Tri} {B : BS}
def BS.msg (B : BS) (kind to : Int) : Msg := { kind := kind, from_ := B.id, to := to, term := B.term }
def ValPost (x0 : Value) (s : PH) (x : Value) (s' : PH) : Prop := x = x0 ∧ Fw.Mod [] s s'
theorem c_msg (h : Bal s b l v n m B) (kind to : Int) : DCalls Try.prog 45 #[bptr b, .int .i64 kind, .int .i64 to] s (ValPost (msgV (B.msg kind to) noTri) s) := by
  refine ok_msg b kind to _ s ?_
  have hb := h.cell
  unfold vc_msg
  simp only [RP_nw]
  refine W.nw_of fun r s1 hr m1 k1 => ?_
  have hb1 := m1.at hb (by simp)
  simp [W.ld_at hb1, W.st_at k1]
  exact ⟨rfl, m1.updLater (.inr hr)⟩

def BS.askM (B : BS) (to : Int) : Msg := { B.msg 1 to with index := B.lst, prev := (B.termAt B.lst).1 }
theorem num_lst {B : BS} (hs : B.Small) (hb : B.base ≤ 4611686016279904256) : Num B.lst := by
  obtain ⟨h1, h2, h3⟩ := hs
  unfold BS.lst Num; omega
theorem c_ask (h : Bal s b l v n m B) (hs : B.Small) (hbs : B.base ≤ 4611686016279904256) (to : Int) : DCalls Try.prog 42 #[bptr b, .int .i64 to] s (ValPost (msgV (B.askM to) noTri) s) := by
  refine ok_ask b to _ s ?_
  unfold vc_ask
  simp only [RP_nw]
  refine W.nw_of fun r s1 hr m1 k1 => ?_
  simp only [RP_call]
  refine W.call_of (c_msg (h.new m1) 1 to) ?_
  rintro _ s2 ⟨rfl, m2⟩
  refine ⟨((1, B.id, to, B.term, 0, 0, 0, false, (none, 0, 0), ⟨#[]⟩, ()), ()), rfl, ?_⟩
  have m12 := m1.trans m2
  have k2 := m2.at k1 (by simp)
  refine W.nw_of fun r13 s3 hr3 m3 k3 => ?_
  have m13 := m12.trans m3
  have k2' := m3.at k2 (by simp)
  have hne : r ≠ r13 := ne_of_known k2 hr3
  simp [W.st_at k3]
  have hB : ∀ o, Bal (s3.upd r13 o) b l v n m B := fun o => (h.new m12).new (m3.updLater (.inr hr3))
  refine W.call_of (c_last (hB _) hs) ?_
  rintro _ _ ⟨rfl, rfl⟩
  refine ⟨((B.lst, ()), ()), rfl, ?_⟩
  simp
  have m3' : Fw.Mod [] s2 (s3.upd r13 (.cells #[.int .i64 1, .int .i64 B.id, .int .i64 to, .int .i64 B.term, .int .i64 B.lst, .int .i64 0, .int .i64 0, .bool false, .slice none 0 0, .string ⟨#[]⟩] 32 (0, 0))) := m3.updLater (.inr hr3)
  have k3' := PH.upd_same s3 r13 (.cells #[.int .i64 1, .int .i64 B.id, .int .i64 to, .int .i64 B.term, .int .i64 B.lst, .int .i64 0, .int .i64 0, .bool false, .slice none 0 0, .string ⟨#[]⟩] 32 (0, 0))
  have k2'' := upd_at k2' hne (.cells #[.int .i64 1, .int .i64 B.id, .int .i64 to, .int .i64 B.term, .int .i64 B.lst, .int .i64 0, .int .i64 0, .bool false, .slice none 0 0, .string ⟨#[]⟩] 32 (0, 0))
  generalize s3.upd r13 (.cells #[.int .i64 1, .int .i64 B.id, .int .i64 to, .int .i64 B.term, .int .i64 B.lst, .int .i64 0, .int .i64 0, .bool false, .slice none 0 0, .string ⟨#[]⟩] 32 (0, 0)) = s4 at m3' k3' k2''
  refine W.call_of (c_term ((h.new m12).new m3') hs (num_lst hs hbs)) ?_
  rintro _ s5 ⟨rfl, m5⟩
  refine ⟨(((B.termAt B.lst).1, ()), ((B.termAt B.lst).2, ()), ()), rfl, ?_⟩
  have k5 := m5.at k3' (by simp)
  have k6 := m5.at k2'' (by simp)
  simp [W.st_at k5, fun o => W.st_at (upd_at k6 hne o)]
  refine ⟨rfl, ?_⟩
  have hrs : s r = none := hr
  have hr13 : s r13 = none := m12.none hr3 (by simp)
  exact ((((m12.trans m3').trans m5).updLater (.inr hr13)).updLater (.inr hrs))

def MsgsPost (ms : List Msg) (s : PH) (x : Value) (s' : PH) : Prop := ∃ t ps, x = Tri.v t ∧ Msgs s' t ps ∧ ps.map (·.1) = ms ∧ Fw.Mod [] s s' ∧ ∀ y ∈ mF t ps, s y = none
theorem c_told (h : Bal s b l v n m B) (to : Int) (good : Bool) (i : Int) : DCalls Try.prog 46 #[bptr b, .int .i64 to, .bool good, .int .i64 i] s (MsgsPost [{ B.msg 4 to with good := good, index := i }] s) := by
  refine ok_told b to good i _ s ?_
  unfold vc_told
  simp only [RP_call]
  refine W.call_of (c_msg h 4 to) ?_
  rintro _ s2 ⟨rfl, m2⟩
  refine ⟨((4, B.id, to, B.term, 0, 0, 0, false, (none, 0, 0), ⟨#[]⟩, ()), ()), rfl, ?_⟩
  simp only [RP_nw]
  refine W.nw_of fun r s3 hr m3 k3 => ?_
  simp [W.st_at k3, -W.nw_iff]
  refine W.nw_of fun r2 s4 hr4 m4 k4 => ?_
  have m3' := m3.updLater (.inr hr) (o := .cells #[.int .i64 4, .int .i64 B.id, .int .i64 to, .int .i64 B.term, .int .i64 i, .int .i64 0, .int .i64 0, .bool good, .slice none 0 0, .string ⟨#[]⟩] 32 (0, 0))
  refine ⟨(some ⟨r2, 0, none⟩, 1, 1), [({ B.msg 4 to with good := good, index := i }, noTri)], rfl, ⟨row_one k4 rfl, ?_⟩, rfl, (m2.trans m3').trans m4, ?_⟩
  · intro p hp; simp at hp; subst hp; exact rowE.nil
  · intro y hy
    simp [mF, Fw.blk] at hy
    subst hy
    exact m2.none (m3'.none hr4 (by simp)) (by simp)

def BS.feedM (B : BS) (to nx : Int) : Msg :=
  if nx ≤ B.base then { B.msg 5 to with index := B.base, prev := B.baseTerm, snap := B.snap }
  else { B.msg 3 to with index := nx - 1, commit := B.commit, prev := (B.termAt (nx - 1)).1, list := (B.log.drop (nx - B.base - 1).toNat).take 8 }
def FeedPost (M : Msg) (s : PH) (x : Value) (s' : PH) : Prop := ∃ t : Tri, x = msgV M t ∧ rowE entE s' 39 t.1 t.2.1 t.2.2 M.list ∧ Fw.Mod [] s s' ∧ ∀ y ∈ Fw.blk t.1, s y = none
theorem c_feed (h : Bal s b l v n m B) (hs : B.Small) (hbs : B.base ≤ 4611686016279904256) {to : Nat} {nx : Int} (hn : B.next[to]? = some nx) (hx : nx ≤ B.base ∨ B.base < nx ∧ nx ≤ B.lst + 1) : DCalls Try.prog 52 #[bptr b, .int .i64 to] s (FeedPost (B.feedM to nx) s) := by
  refine ok_feed b to _ s ?_
  unfold vc_feed
  simp only [RP_nw]
  refine W.nw_of fun r s1 hr m1 k1 => ?_
  have hB1 := h.new m1
  have hb1 := hB1.cell
  have hnl := h.next.len
  have hlt := (List.getElem?_eq_some_iff.1 hn).1
  obtain ⟨g, hg, hhas⟩ := hB1.next.at hn
  simp [W.ld_at hb1, -W.nw_iff]
  refine ⟨by omega, ?_⟩
  rw [hg]
  simp only [W.unSome_some, add_mk, Nat.zero_add]
  have hhas : s1.has ⟨g, to, none⟩ [.int .i64 nx] := by
    have : to * intE.sz = to := Nat.mul_one _
    rw [this] at hhas; exact hhas
  refine ld_has_z hhas (cs := [.int .i64]) (y := (nx, ())) rfl ?_
  simp [W.ld_at hb1, W.br_iff, -W.nw_iff]
  refine ⟨fun h1 => ?_, fun h1 => ?_⟩
  · refine W.call_of (c_msg hB1 5 to) ?_
    rintro _ s2 ⟨rfl, m2⟩
    refine ⟨((5, B.id, to, B.term, 0, 0, 0, false, (none, 0, 0), ⟨#[]⟩, ()), ()), rfl, ?_⟩
    refine W.nw_of fun r21 s3 hr3 m3 k3 => ?_
    have hb3 := ((hB1.new m2).new m3).cell
    have k1' := (m2.trans m3).at k1 (by simp)
    have hne : r ≠ r21 := ne_of_known (m2.at k1 (by simp)) hr3
    have hbr : b ≠ r21 := ne_of_known (hB1.new m2).cell hr3
    simp [W.st_at k3, fun o => W.ld_at (upd_at hb3 hbr o), fun o => W.still_at (upd_at hb3 hbr o), fun o => W.st_at (upd_at k1' hne o)]
    refine ⟨noTri, ?_, ?_, ?_, by simp [Fw.blk]⟩
    · simp [BS.feedM, h1, BS.msg]
    · simp only [BS.feedM, if_pos h1]; exact rowE.nil
    · exact (((m1.trans m2).trans m3).updLater (.inr ((m1.trans m2).none hr3 (by simp)))).updLater (.inr hr)
  · have h1' : ¬ nx ≤ B.base := by omega
    obtain ⟨hx1, hx2⟩ := hx.resolve_left h1'
    refine W.call_of (c_msg hB1 3 to) ?_
    rintro _ s2 ⟨rfl, m2⟩
    refine ⟨((3, B.id, to, B.term, 0, 0, 0, false, (none, 0, 0), ⟨#[]⟩, ()), ()), rfl, ?_⟩
    refine W.nw_of fun r64 s3 hr3 m3 k3 => ?_
    have hb3 := ((hB1.new m2).new m3).cell
    have k1' := (m2.trans m3).at k1 (by simp)
    have hne : r ≠ r64 := ne_of_known (m2.at k1 (by simp)) hr3
    have hbr : b ≠ r64 := ne_of_known (hB1.new m2).cell hr3
    obtain ⟨q1, q2, q3⟩ := id hs
    have hlst : B.lst = B.base + B.log.length := rfl
    have hw1 : IntKind.i64.wrap (nx - 1) = nx - 1 := wrap_in (by omega) (by omega)
    simp [W.st_at k3, fun o => W.ld_at (upd_at hb3 hbr o), fun o => W.still_at (upd_at hb3 hbr o), hw1]
    have m4 : Fw.Mod [] s2 (s3.upd r64 (.cells #[.int .i64 3, .int .i64 B.id, .int .i64 to, .int .i64 B.term, .int .i64 (nx - 1), .int .i64 0, .int .i64 B.commit, .bool false, .slice none 0 0, .string ⟨#[]⟩] 32 (0, 0))) := m3.updLater (.inr hr3)
    have k4 := PH.upd_same s3 r64 (.cells #[.int .i64 3, .int .i64 B.id, .int .i64 to, .int .i64 B.term, .int .i64 (nx - 1), .int .i64 0, .int .i64 B.commit, .bool false, .slice none 0 0, .string ⟨#[]⟩] 32 (0, 0))
    have k1'' := upd_at k1' hne (.cells #[.int .i64 3, .int .i64 B.id, .int .i64 to, .int .i64 B.term, .int .i64 (nx - 1), .int .i64 0, .int .i64 B.commit, .bool false, .slice none 0 0, .string ⟨#[]⟩] 32 (0, 0))
    generalize s3.upd r64 (.cells #[.int .i64 3, .int .i64 B.id, .int .i64 to, .int .i64 B.term, .int .i64 (nx - 1), .int .i64 0, .int .i64 B.commit, .bool false, .slice none 0 0, .string ⟨#[]⟩] 32 (0, 0)) = s4 at m4 k4 k1''
    refine W.call_of (c_term ((hB1.new m2).new m4) hs (by unfold Num; omega)) ?_
    rintro _ s5 ⟨rfl, m5⟩
    refine ⟨(((B.termAt (nx - 1)).1, ()), ((B.termAt (nx - 1)).2, ()), ()), rfl, ?_⟩
    have hB5 := ((hB1.new m2).new m4).new m5
    have hb5 := hB5.cell
    have k5 := m5.at k4 (by simp)
    have k6 := m5.at k1'' (by simp)
    obtain ⟨k, hk⟩ : ∃ k : Nat, (nx - B.base - 1).toNat = k := ⟨_, rfl⟩
    have hw2 : IntKind.i64.wrap (IntKind.i64.wrap (nx - B.base) - 1) = (k : Int) := by
      rw [wrap_in (n := nx - B.base) (by omega) (by omega), wrap_in (by omega) (by omega)]; omega
    have hll := hB5.log.len
    have hlc := hB5.log.le
    simp [W.st_at k5, fun o => W.ld_at (upd_at hb5 hbr o), hw2]
    have m6 : ∀ o, Fw.Mod [] s (s5.upd r64 o) := fun o => (((m1.trans m2).trans m4).trans m5).updLater (.inr ((m1.trans m2).none hr3 (by simp)))
    have hmn : (if (8 : Int) < ((l.2.1 - k : Nat) : Int) then (8 : Int) else ((l.2.1 - k : Nat) : Int)).toNat = min 8 (l.2.1 - k) := by split <;> omega
    refine ⟨⟨by omega, by omega⟩, ⟨by split <;> omega, by split <;> omega⟩, ?_⟩
    rw [hmn]
    have hB6 : ∀ o, Bal (s5.upd r64 o) b l v n m B := fun o => h.new (m6 o)
    refine W.call_of (c_Clone (ys := (B.log.drop k).take (min 8 (l.2.1 - k))) ((hB6 _).log.src (i := k) (m := min 8 (l.2.1 - k)) (by omega)) (by simp; omega) (by omega)) ?_
    rintro _ s7 ⟨t, rfl, ht, hrow, m7, hfr⟩
    refine ⟨((t, ()), ()), rfl, ?_⟩
    have k7 := m7.at (PH.upd_same _ _ _) (by simp)
    have k8 := m7.at (upd_at k6 hne _) (by simp)
    simp [W.st_at k7, fun o => W.st_at (upd_at k8 hne o)]
    have hr64 : s r64 = none := (m1.trans m2).none hr3 (by simp)
    have m8 := (((m6 _).trans m7).updLater (b := r64) (.inr hr64) (o := .cells #[.int .i64 3, .int .i64 B.id, .int .i64 to, .int .i64 B.term, .int .i64 (nx - 1), .int .i64 (B.termAt (nx - 1)).1, .int .i64 B.commit, .bool false, t.v, .string ⟨#[]⟩] 32 (0, 0))).updLater (b := r) (.inr hr) (o := .cells #[.int .i64 3, .int .i64 B.id, .int .i64 to, .int .i64 B.term, .int .i64 (nx - 1), .int .i64 (B.termAt (nx - 1)).1, .int .i64 B.commit, .bool false, t.v, .string ⟨#[]⟩] 32 (0, 0))
    refine ⟨t, ?_, ?_, m8, fun y hy => (m6 _).none (hfr y hy) (by simp)⟩
    · simp [BS.feedM, h1', BS.msg]
    · have e : (B.feedM to nx).list = (B.log.drop k).take (min 8 (l.2.1 - k)) := by
        simp only [BS.feedM, if_neg h1', hk]
        rw [hll]
        by_cases h8 : 8 ≤ B.log.length - k
        · rw [Nat.min_eq_left h8]
        · rw [Nat.min_eq_right (by omega), List.take_of_length_le (by simp; omega), List.take_of_length_le (by simp)]
      rw [e]
      have hm9 : Fw.Mod [r64, r] s7 ((s7.upd r64 (.cells #[.int .i64 3, .int .i64 B.id, .int .i64 to, .int .i64 B.term, .int .i64 (nx - 1), .int .i64 (B.termAt (nx - 1)).1, .int .i64 B.commit, .bool false, t.v, .string ⟨#[]⟩] 32 (0, 0))).upd r (.cells #[.int .i64 3, .int .i64 B.id, .int .i64 to, .int .i64 B.term, .int .i64 (nx - 1), .int .i64 (B.termAt (nx - 1)).1, .int .i64 B.commit, .bool false, t.v, .string ⟨#[]⟩] 32 (0, 0))) :=
        ((Mod.refl _ _).updLater (.inl (by simp))).updLater (.inl (by simp))
      refine hrow.mod hm9 fun y hy => ?_
      have h3 := hfr y hy
      simp
      constructor
      · rintro rfl; rw [PH.upd_same] at h3; cases h3
      · rintro rfl; rw [upd_at k6 hne] at h3; cases h3

abbrev zeroMsg : List Value := [.int .i64 0, .int .i64 0, .int .i64 0, .int .i64 0, .int .i64 0, .int .i64 0, .int .i64 0, .bool false, .slice none 0 0, .string ⟨#[]⟩]
/-- messages behind messages -/
theorem app_msgs {s1 : PH} {t t' : Tri} {ps qs : List (Msg × Tri)} (Fr : Nat → Prop) (hFr : ∀ g, s1 g = none → Fr g) (h : Msgs s1 t ps) (h' : Msgs s1 t' qs) (hf : ∀ y ∈ mF t ps, Fr y) (hf' : ∀ y ∈ mF t' qs, Fr y) (hd : ∀ y ∈ mF t' qs, y ∉ Fw.blk t.1) (hd' : ∀ p ∈ ps, ∀ y ∈ Fw.blk p.2.1, y ∉ Fw.blk t.1) (hc : t.2.1 ≤ 1000) (hc' : t'.2.1 ≤ 1000)
    {K : Option Addr → Nat → Nat → W.T} (hK : ∀ a n c s', Msgs s' (a, n, c) (ps ++ qs) → (∀ y ∈ mF (a, n, c) (ps ++ qs), Fr y) → Fw.Mod (Fw.blk t.1) s1 s' → K a n c s') :
    W.app 32 10 104 zeroMsg t.1 t.2.1 t.2.2 (.sl t'.1 t'.2.1) K s1 := by
  have hmax : maxLen = 9223372036854775807 := rfl
  refine app_rowE (E := rmE) (k := t'.2.1) (ys := qs) h.row rfl h'.row.src0 rfl h'.row.len.symm (by omega) (by omega) ?_
  intro a c s' hr hm'
  have hM : Fw.Mod (Fw.blk t.1) s1 s' := by
    rcases hm' with ⟨_, m⟩ | ⟨g, _, _, m⟩
    · exact m
    · exact m.mono (by simp)
  refine hK a _ c s' ⟨hr, ?_⟩ ?_ hM
  · intro p hp
    rcases List.mem_append.1 hp with hp | hp
    · exact (h.lists p hp).mod hM fun y hy => hd' p hp y hy
    · exact (h'.lists p hp).mod hM fun y hy => hd y (by simp only [mF, List.mem_append, List.mem_flatMap]; exact .inr ⟨p, hp, hy⟩)
  · intro y hy
    simp only [mF, List.mem_append, List.mem_flatMap] at hy
    rcases hy with hy | ⟨p, hp, hy⟩
    · rcases hm' with ⟨rfl, m⟩ | ⟨g, rfl, hg, m⟩
      · exact hf y (by simp [mF, hy])
      · simp [Fw.blk] at hy; subst hy; exact hFr _ hg
    · rcases hp with hp | hp
      · exact hf y (by simp only [mF, List.mem_append, List.mem_flatMap]; exact .inr ⟨p, hp, hy⟩)
      · exact hf' y (by simp only [mF, List.mem_append, List.mem_flatMap]; exact .inr ⟨p, hp, hy⟩)
theorem Msgs.apart {s : PH} {t : Tri} {ps : List (Msg × Tri)} (h : Msgs s t ps) : ∀ p ∈ ps, ∀ y ∈ Fw.blk p.2.1, y ∉ Fw.blk t.1 := fun p hp y hy => row_ne3 h.row (h.lists p hp) (by decide) y hy
theorem push_msg {s s1 s2 : PH} {t t' : Tri} {ps : List (Msg × Tri)} {M : Msg} (h : Msgs s1 t ps) (hm : Fw.Mod [] s s1) (hf : ∀ y ∈ mF t ps, s y = none) (hrow : rowE entE s2 39 t'.1 t'.2.1 t'.2.2 M.list) (m2 : Fw.Mod [] s1 s2) (hf' : ∀ y ∈ Fw.blk t'.1, s1 y = none) (hc : t.2.1 ≤ 1000)
    {K : Option Addr → Nat → Nat → W.T} (hK : ∀ a n c s', Msgs s' (a, n, c) (ps ++ [(M, t')]) → Fw.Mod [] s s' → (∀ y ∈ mF (a, n, c) (ps ++ [(M, t')]), s y = none) → K a n c s') :
    W.nw (.cells (msgCells M t').toArray 32 (0, 0)) (fun r => W.app 32 10 104 zeroMsg t.1 t.2.1 t.2.2 (.sl (some ⟨r, 0, none⟩) 1) K) s2 := by
  refine W.nw_of fun r s3 hr m3 k3 => ?_
  have m23 := m2.trans m3
  have hms : Msgs s3 (some ⟨r, 0, none⟩, 1, 1) [(M, t')] := ⟨row_one k3 rfl, fun p hp => by simp at hp; subst hp; exact hrow.mod m3 (by simp)⟩
  have hrs1 : s1 r = none := m2.none hr (by simp)
  have hd : ∀ y ∈ mF (some ⟨r, 0, none⟩, 1, 1) [(M, t')], s1 y = none := by
    intro y hy
    simp [mF, Fw.blk] at hy
    rcases hy with rfl | hy
    · exact hrs1
    · exact hf' y (by simpa [Fw.blk] using hy)
  have hm3 := hm.trans m23
  exact app_msgs (fun y => s y = none) (fun g hg => hm3.none hg (by simp)) (h.mod m23 (by simp)) hms hf (fun y hy => hm.none (hd y hy) (by simp)) (fun y hy hy' => (h.known y (by simp [mF, hy'])) (hd y hy)) h.apart hc (by show 1 ≤ 1000; omega)
    fun a n c s' g1 g2 g3 => hK a n c s' g1 (hm3.fresh g3 fun y hy => .inr (hf y (by simp [mF, hy]))) g2

/-- messages to each other node, of those below k -/
def BS.others (B : BS) (f : Nat → Msg) (k : Nat) : List Msg := ((List.range k).filter fun (i : Nat) => !((i : Int) == B.id)).map f
theorem BS.others_succ (B : BS) (f : Nat → Msg) (k : Nat) : B.others f (k + 1) = if (k : Int) = B.id then B.others f k else B.others f k ++ [f k] := by
  unfold BS.others
  rw [List.range_succ, List.filter_append]
  by_cases h : (k : Int) = B.id
  · simp [h]
  · have : (!((k : Int) == B.id)) = true := by simpa using h
    simp [h]
theorem BS.others_len (B : BS) (f : Nat → Msg) (k : Nat) : (B.others f k).length ≤ k := by
  unfold BS.others
  rw [List.length_map]
  exact Nat.le_trans (List.length_filter_le _ _) (by simp)
abbrev BS.feeds (B : BS) : List Msg := B.others (fun to => B.feedM to ((B.next[to]?).getD 0)) B.size.toNat
abbrev BS.asks (B : BS) : List Msg := B.others (fun to => B.askM to) B.size.toNat
structure BS.Fed (B : BS) : Prop where
  len : B.next.length = B.size.toNat
  rng : ∀ (i : Nat) nx, B.next[i]? = some nx → nx ≤ B.base ∨ B.base < nx ∧ nx ≤ B.lst + 1
def OthersZ (B : BS) (f : Nat → Msg) (s : PH) (z : MDen [(false, [.slice]), (false, [.int .i64]), (false, [.int .i64])]) (s' : PH) : Prop :=
  ∃ (k : Nat) (t : Tri) (ps : List (Msg × Tri)), z = ((t, ()), (B.size, ()), ((k : Int), ()), ()) ∧ (k : Int) ≤ B.size ∧ Msgs s' t ps ∧ ps.map (·.1) = B.others f k ∧ Fw.Mod [] s s' ∧ ∀ y ∈ mF t ps, s y = none
theorem c_othersFeed (h : Bal s b l v n m B) (hs : B.Small) (hbs : B.base ≤ 4611686016279904256) (hz : 0 ≤ B.size ∧ B.size ≤ 5) (hF : B.Fed) :
    DCalls Try.prog 41 #[bptr b, .func (.func 52) #[bptr b] #[]] s (MsgsPost B.feeds s) := by
  refine ok_othersFeed b _ s ?_
  unfold vc_othersFeed
  have hb := h.cell
  simp [W.ld_at hb, -W.nw_iff]
  refine ⟨OthersZ B (fun to => B.feedM to ((B.next[to]?).getD 0)) s, fun z _ => B.size.toNat - z.2.2.1.1.toNat, ⟨0, noTri, [], rfl, hz.1, Msgs.nil s, rfl, Mod.refl _ _, by simp [mF, Fw.blk]⟩, ?_⟩
  rintro _ s1 ⟨k, t, ps, rfl, hk, hms, hps, m1, hf⟩
  have hb1 := (h.new m1).cell
  have htl : t.2.1 = ps.length := hms.row.len
  have hpl : ps.length ≤ k := by
    have := B.others_len (fun to => B.feedM to ((B.next[to]?).getD 0)) k
    rw [← hps] at this; simpa using this
  have hw : IntKind.i64.wrap ((k : Int) + 1) = ((k + 1 : Nat) : Int) := by rw [wrap_in (by omega) (by omega)]; simp
  simp [W.br_iff, W.ld_at hb1, -W.nw_iff]
  refine ⟨fun hlt => ⟨fun hne => ?_, fun he => ?_⟩, fun hge => ?_⟩
  · obtain ⟨nx, hnx⟩ : ∃ nx, B.next[k]? = some nx := ⟨_, List.getElem?_eq_getElem (by rw [hF.len]; omega)⟩
    refine W.call_of (c_feed (h.new m1) hs hbs hnx (hF.rng k nx hnx)) ?_
    rintro _ s2 ⟨t', rfl, hrow, m2, hf'⟩
    have hM : B.feedM k ((B.next[k]?).getD 0) = B.feedM k nx := by rw [hnx]; rfl
    generalize B.feedM k nx = M at hrow hM
    refine ⟨((M.kind, M.from_, M.to, M.term, M.index, M.prev, M.commit, M.good, t', M.snap, ()), ()), rfl, ?_⟩
    refine push_msg (M := M) (t' := t') hms m1 hf hrow m2 hf' (by omega) ?_
    intro a' n' c' s' g1 g2 g3
    refine ⟨⟨k + 1, (a', n', c'), _, by rw [hw], by omega, g1, ?_, g2, g3⟩, by simp only [hw, Int.toNat_natCast]; omega⟩
    rw [List.map_append, hps, B.others_succ, if_neg hne]
    simp [hM]
  · rw [hw]
    refine ⟨⟨k + 1, t, ps, rfl, by omega, hms, ?_, m1, hf⟩, by simp only [Int.toNat_natCast]; omega⟩
    rw [B.others_succ, if_pos he, hps]
  · refine ⟨t, ps, rfl, hms, ?_, m1, hf⟩
    rw [hps]
    have : B.size.toNat = k := by omega
    show _ = B.others _ B.size.toNat
    rw [this]
theorem c_othersAsk (h : Bal s b l v n m B) (hs : B.Small) (hbs : B.base ≤ 4611686016279904256) (hz : 0 ≤ B.size ∧ B.size ≤ 5) :
    DCalls Try.prog 41 #[bptr b, .func (.func 42) #[bptr b] #[]] s (MsgsPost B.asks s) := by
  refine ok_othersAsk b _ s ?_
  unfold vc_othersAsk
  have hb := h.cell
  simp [W.ld_at hb, -W.nw_iff]
  refine ⟨OthersZ B (fun to => B.askM to) s, fun z _ => B.size.toNat - z.2.2.1.1.toNat, ⟨0, noTri, [], rfl, hz.1, Msgs.nil s, rfl, Mod.refl _ _, by simp [mF, Fw.blk]⟩, ?_⟩
  rintro _ s1 ⟨k, t, ps, rfl, hk, hms, hps, m1, hf⟩
  have hb1 := (h.new m1).cell
  have htl : t.2.1 = ps.length := hms.row.len
  have hpl : ps.length ≤ k := by
    have := B.others_len (fun to => B.askM to) k
    rw [← hps] at this; simpa using this
  have hw : IntKind.i64.wrap ((k : Int) + 1) = ((k + 1 : Nat) : Int) := by rw [wrap_in (by omega) (by omega)]; simp
  simp [W.br_iff, W.ld_at hb1, -W.nw_iff]
  refine ⟨fun hlt => ⟨fun hne => ?_, fun he => ?_⟩, fun hge => ?_⟩
  · refine W.call_of (c_ask (h.new m1) hs hbs k) ?_
    rintro _ s2 ⟨rfl, m2⟩
    generalize hM : B.askM k = M
    refine ⟨((M.kind, M.from_, M.to, M.term, M.index, M.prev, M.commit, M.good, noTri, M.snap, ()), ()), rfl, ?_⟩
    have hl : M.list = [] := by rw [← hM]; rfl
    refine push_msg (M := M) (t' := noTri) hms m1 hf (by rw [hl]; exact rowE.nil) m2 (by simp [Fw.blk]) (by omega) ?_
    intro a' n' c' s' g1 g2 g3
    refine ⟨⟨k + 1, (a', n', c'), _, by rw [hw], by omega, g1, ?_, g2, g3⟩, by simp only [hw, Int.toNat_natCast]; omega⟩
    rw [List.map_append, hps, B.others_succ, if_neg hne]
    simp [hM]
  · rw [hw]
    refine ⟨⟨k + 1, t, ps, rfl, by omega, hms, ?_, m1, hf⟩, by simp only [Int.toNat_natCast]; omega⟩
    rw [B.others_succ, if_pos he, hps]
  · refine ⟨t, ps, rfl, hms, ?_, m1, hf⟩
    rw [hps]
    have : B.size.toNat = k := by omega
    show _ = B.others _ B.size.toNat
    rw [this]
end
end Go.Proofs.Ytfpbiecmobdnnaa
