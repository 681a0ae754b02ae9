/-
  The ballot: loading of deltas, by the program and by the document.
  Conditions: none; it proves no statement by itself.
-/
import Derived.Test.YtfpbiecmobdnnaaC17
import Derived.Test.YtfpbiecmobdnnaaVc7
set_option linter.unusedVariables false
set_option linter.unusedSimpArgs false
set_option maxHeartbeats 1000000
set_option maxRecDepth 100000
namespace Go.Proofs.Ytfpbiecmobdnnaa
open Fw Go
attribute [-simp] Fw.W.ld_iff Fw.W.st_iff

theorem far2 : (2 * FAR : Int) = 2199023255552 := rfl
theorem lay_n1 {B : BS} {D : Dl} (h : D.term < 0 ∨ D.term > 2199023255552 ∨ D.vote < -1 ∨ D.vote ≥ B.size) : B.lay D = none := by
  unfold BS.lay; rw [far2, if_pos h]
theorem lay_n2 {B : BS} {D : Dl} (hw : D.whole = true) (h : D.base < 0 ∨ D.base > 2199023255552 ∨ D.baseTerm < 0 ∨ D.baseTerm > 2199023255552) : B.lay D = none := by
  unfold BS.lay; rw [far2, if_pos hw, if_pos h]; split <;> rfl
theorem lay_n3 {B : BS} {D : Dl} (hw : D.whole = false) (h : D.from_ ≤ B.base ∨ D.from_ > B.lst + 1) : B.lay D = none := by
  unfold BS.lay; rw [if_neg (show ¬ D.whole = true by rw [hw]; simp), if_pos h]; split <;> rfl
def BS.layW (B : BS) (D : Dl) : BS := { B with base := D.base, baseTerm := D.baseTerm, snap := D.snap, log := D.list, term := D.term, vote := D.vote }
def BS.layL (B : BS) (D : Dl) : BS := { B with log := B.log.take (D.from_ - B.base - 1).toNat ++ D.list, term := D.term, vote := D.vote }
theorem lay_w {B : BS} {D : Dl} (h1 : ¬ (D.term < 0 ∨ D.term > 2199023255552 ∨ D.vote < -1 ∨ D.vote ≥ B.size)) (hw : D.whole = true) (h : ¬ (D.base < 0 ∨ D.base > 2199023255552 ∨ D.baseTerm < 0 ∨ D.baseTerm > 2199023255552)) : B.lay D = some (B.layW D) := by
  unfold BS.lay; rw [far2, if_neg h1, if_pos hw, if_neg h]; rfl
theorem lay_l {B : BS} {D : Dl} (h1 : ¬ (D.term < 0 ∨ D.term > 2199023255552 ∨ D.vote < -1 ∨ D.vote ≥ B.size)) (hw : D.whole = false) (h : ¬ (D.from_ ≤ B.base ∨ D.from_ > B.lst + 1)) : B.lay D = some (B.layL D) := by
  unfold BS.lay; rw [far2, if_neg h1, if_neg (show ¬ D.whole = true by rw [hw]; simp), if_neg h]; rfl

def dtot (ls : List Dl) : Nat := (ls.map fun D => D.list.length).sum
theorem dtot_take {ls : List Dl} {k : Nat} {D : Dl} (h : ls[k]? = some D) : dtot (ls.take (k + 1)) = dtot (ls.take k) + D.list.length := by
  unfold dtot
  rw [List.take_add_one, h]; simp
theorem dtot_take_le (ls : List Dl) (k : Nat) : dtot (ls.take k) ≤ dtot ls := by
  have := congrArg dtot (List.take_append_drop k ls)
  unfold dtot at this ⊢
  rw [List.map_append, List.sum_append] at this
  omega
theorem dtot_mem {ls : List Dl} {k : Nat} {D : Dl} (h : ls[k]? = some D) : D.list.length ≤ dtot ls := by
  have h1 := dtot_take h
  have h2 := dtot_take_le ls (k + 1)
  omega
theorem drop_at {α : Type} {ls : List α} {k : Nat} {D : α} (h : ls[k]? = some D) : ls.drop k = D :: ls.drop (k + 1) := by
  have hlt := (List.getElem?_eq_some_iff.1 h).1
  have := (List.getElem?_eq_some_iff.1 h).2
  rw [List.drop_eq_getElem_cons hlt, this]
/-- what holds of a ballot that is being loaded -/
structure BS.Lds (B : BS) (id size : Int) (ls : List Dl) (k : Nat) : Prop where
  eq : B.lays (ls.drop k) = (newBS id size).lays ls
  sz : B.size = size
  b0 : 0 ≤ B.base
  b1 : B.base ≤ 2199023255552
  len : B.log.length ≤ dtot (ls.take k)
  rows : B.votes = [] ∧ B.next = [] ∧ B.mat = []
  flags : B.touched = false ∧ B.whole = false
theorem BS.Lds.small {B : BS} {id size : Int} {ls : List Dl} {k : Nat} (h : B.Lds id size ls k) (ht : dtot ls ≤ 1000000) : B.Small := by
  have h1 := dtot_take_le ls k
  have h2 := h.len
  have h3 := h.b1
  exact ⟨h.b0, by omega, by omega⟩
theorem BS.Lds.start (id size : Int) (ls : List Dl) : (newBS id size).Lds id size ls 0 := ⟨rfl, rfl, Int.le_refl _, by show (0 : Int) ≤ _; omega, Nat.zero_le _, ⟨rfl, rfl, rfl⟩, rfl, rfl⟩
theorem BS.Lds.step {B B' : BS} {id size : Int} {ls : List Dl} {k : Nat} {D : Dl} (h : B.Lds id size ls k) (hD : ls[k]? = some D) (hl : B.lay D = some B') : B'.Lds id size ls (k + 1) := by
  have h1 := h.eq
  rw [drop_at hD] at h1
  simp only [BS.lays, hl] at h1
  have h2 := dtot_take hD
  have h3 := h.len
  unfold BS.lay at hl
  split at hl
  · cases hl
  · split at hl
    · split at hl
      · cases hl
      · rename_i hc
        have hF : FAR = 1099511627776 := rfl
        cases hl
        exact ⟨h1, h.sz, by show 0 ≤ D.base; omega, by show D.base ≤ _; omega, by show D.list.length ≤ _; omega, h.rows, h.flags⟩
    · split at hl
      · cases hl
      · cases hl
        refine ⟨h1, h.sz, h.b0, h.b1, ?_, h.rows, h.flags⟩
        show (B.log.take _ ++ D.list).length ≤ _
        rw [List.length_append, List.length_take]; omega
theorem BS.Lds.bad {B : BS} {id size : Int} {ls : List Dl} {k : Nat} {D : Dl} (h : B.Lds id size ls k) (hD : ls[k]? = some D) (hl : B.lay D = none) : BS.loaded id size ls = none := by
  have h1 := h.eq
  rw [drop_at hD] at h1
  simp only [BS.lays, hl] at h1
  unfold BS.loaded; rw [← h1]; rfl
theorem BS.Lds.done {B : BS} {id size : Int} {ls : List Dl} {k : Nat} (h : B.Lds id size ls k) (hk : ls.length ≤ k) : BS.loaded id size ls = some { B with commit := B.base, touched := false, whole := false, from_ := B.lst + 1 } := by
  have h1 := h.eq
  rw [List.drop_eq_nil_of_le hk] at h1
  unfold BS.loaded; rw [← h1]; rfl

theorem dl_at {s : PH} {a : Option Addr} {n : Nat} {ls : List Dl} (h : elems rdDl s a n ls) {i : Nat} {D : Dl} (hD : ls[i]? = some D) :
    ∃ ad t, a = some ad ∧ s.has (ad.add (i * 8)) (dlCells D t) ∧ DlIs s D t := by
  obtain ⟨ad, cs, h1, h2, h3⟩ := h.2 i D hD
  obtain ⟨t, rfl, h4⟩ := rdDl_is h2
  exact ⟨ad, t, h1, h3, h4⟩

section
variable {s : PH} {a : Option Addr} {an ac : Nat} {ls : List Dl} {id size : Int}
def LoadPost (id size : Int) (ls : List Dl) (s : PH) (x : Value) (s' : PH) : Prop :=
  Fw.Mod [] s s' ∧ ((okNew id size ∧ ∃ B, BS.loaded id size ls = some B ∧ ∃ b l, x = .tuple #[bptr b, .int .i64 0] ∧ Bal s' b l noTri noTri noTri B ∧ ∀ y ∈ bL b l noTri noTri noTri, s y = none) ∨
  (okNew id size ∧ BS.loaded id size ls = none ∧ x = .tuple #[.pointer none, .int .i64 100]) ∨ (¬ okNew id size ∧ x = .tuple #[.pointer none, .int .i64 1]))
def LdI (id size : Int) (ls : List Dl) (a : Option Addr) (an ac : Nat) (s0 : PH) (k b : Nat) (l : Tri) (B : BS) (s' : PH) : Prop :=
  Bal s' b l noTri noTri noTri B ∧ Fw.Mod [] s0 s' ∧ (∀ y ∈ bL b l noTri noTri noTri, s0 y = none) ∧ k ≤ an ∧ B.Lds id size ls k
def LdZ (id size : Int) (ls : List Dl) (a : Option Addr) (an ac : Nat) (s0 : PH) (z : MDen [(false, [.ptr]), (false, [.slice]), (false, [.int .i64]), (false, [.int .i64])]) (s' : PH) : Prop :=
  ∃ (k b : Nat) (l : Tri) (B : BS), z = ((some ⟨b, 0, none⟩, ()), ((a, an, ac), ()), ((an : Int), ()), ((k : Int), ()), ()) ∧ LdI id size ls a an ac s0 k b l B s'
theorem c_Load (h : elems rdDl s a an ls) (hn : an ≤ 140737488355328) (ht : dtot ls ≤ 1000000) : DCalls Try.prog 21 #[.int .i64 id, .int .i64 size, .slice a an ac] s (LoadPost id size ls s) := by
  refine ok_Load2 id size a an ac _ s ?_
  unfold vc_Load2
  simp only [RP_call]
  refine W.call_of (c_New id size s) ?_
  rintro _ s1 (⟨hok, b, rfl, hB, m1, hb⟩ | ⟨hok, rfl, rfl⟩)
  rotate_left
  · refine ⟨((none, ()), (1, ()), ()), rfl, ?_⟩
    simp
    exact ⟨Mod.refl _ _, .inr (.inr ⟨hok, rfl⟩)⟩
  refine ⟨((some ⟨b, 0, none⟩, ()), (0, ()), ()), rfl, ?_⟩
  simp
  have hlen := h.1
  refine ⟨LdZ id size ls a an ac s, fun z _ => an - z.2.2.2.1.1.toNat, ⟨0, b, noTri, _, rfl, hB, m1, by simp [bL, Fw.blk, hb], Nat.zero_le _, BS.Lds.start id size ls⟩, ?_⟩
  rintro _ s2 ⟨k, b, l, B, rfl, hB, m2, hf, hk, hL⟩
  have hsm := hL.small ht
  obtain ⟨q1, q2, q3⟩ := _root_.id hsm
  have hd := lst_def B
  have hwk : IntKind.i64.wrap ((k : Int) + 1) = ((k + 1 : Nat) : Int) := by rw [wrap_in (by omega) (by omega)]; simp
  have hb2 := hB.cell
  simp [W.br_iff]
  refine ⟨fun hlt => ⟨hlt, ?_⟩, fun hge => ?_⟩
  · obtain ⟨D, hD⟩ : ∃ D, ls[k]? = some D := ⟨_, List.getElem?_eq_getElem (by omega)⟩
    obtain ⟨ad, t, rfl, hhas, hI⟩ := dl_at (h.mono m2.le) hD
    have hroom := hI.room
    have hvl := hI.view.len
    have hDl := dtot_mem hD
    have hsz := hL.sz
    simp only [W.unSome_some]
    refine ld_has_z hhas (y := (D.term, D.vote, D.whole, D.base, D.baseTerm, D.snap, D.from_, t, ())) rfl ?_
    refine W.join_gen (fun z s' => s' = s2 ∧ ∃ c : Bool, z = ((some ⟨b, 0, none⟩, ()), (D.term, D.vote, D.whole, D.base, D.baseTerm, D.snap, D.from_, t, ()), ((some ad, an, ac), ()), ((an : Int), ()), ((k : Int), ()), (c, ()), ()) ∧
      (c = true → B.lay D = none) ∧ (c = false → ∃ B', B.lay D = some B' ∧ (D.whole = true → B' = B.layW D) ∧ (D.whole = false → B' = B.layL D ∧ B.base < D.from_ ∧ D.from_ ≤ B.lst + 1))) ?_ ?_
    · rintro _ s2 ⟨rfl, c, rfl, hc1, hc2⟩
      simp only [W.br_iff]
      refine ⟨fun hc => ?_, fun hc => ?_⟩
      · exact ⟨m2, .inr (.inl ⟨hok, hL.bad hD (hc1 hc), rfl⟩)⟩
      · obtain ⟨B', hlay, hw1, hw2⟩ := hc2 hc
        have hL' := hL.step hD hlay
        refine ⟨fun hw => ?_, fun hw => ?_⟩
        · have hB' := hw1 hw
          subst hB'
          refine W.call_of (c_Clone hI.view.src hI.view.len.symm (show t.2.1 ≤ 1073741824 by rw [hvl]; omega)) ?_
          rintro _ s3 ⟨t3, rfl, ht3, hrow, m3, hf3⟩
          refine ⟨((t3, ()), ()), rfl, ?_⟩
          have hB3 := hB.new m3
          have hb3 := hB3.cell
          have hft : ∀ g ∈ Fw.blk t3.1, s g = none := fun g hg => m2.none (hf3 g hg) (by simp)
          simp [W.st_at hb3, hwk]
          refine ⟨⟨k + 1, b, t3, _, by simp, balOf (B' := B.layW D) (l' := t3) hb3 hrow hB3.votes hB3.next hB3.mat hB3.nm, (m2.trans m3).updLater (.inr (hf b (by simp [bL]))), ?_, hlt, hL'⟩, by omega⟩
          intro y hy
          simp only [bL, List.mem_cons, List.mem_append] at hy
          rcases hy with rfl | hy | hy
          · exact hf y (by simp [bL])
          · exact hft y hy
          · simp [Fw.blk] at hy
        · obtain ⟨hB', hfr1, hfr2⟩ := hw2 hw
          subst hB'
          obtain ⟨j, hj⟩ : ∃ j : Nat, (D.from_ - B.base - 1).toNat = j := ⟨_, rfl⟩
          have hw1 : IntKind.i64.wrap (IntKind.i64.wrap (D.from_ - B.base) - 1) = (j : Int) := by
            rw [wrap_in (n := D.from_ - B.base) (by omega) (by omega), wrap_in (by omega) (by omega)]; omega
          have hll := hB.log.len
          have hlc := hB.log.le
          have hmx := hB.log.max
          simp [W.ld_at hb2, hw1]
          refine ⟨by omega, ?_⟩
          have hrow := hB.log.shrink (m := j) (c' := j) (by omega) (Nat.le_refl _) (by omega)
          have hadr : (if l.1 = none then none else l.1) = l.1 := by split <;> simp_all
          rw [hadr] at hrow
          have hmax : maxLen = 9223372036854775807 := rfl
          refine app_rowE (E := entE) (k := t.2.1) (ys := D.list) hrow rfl hI.view.src rfl hI.view.len.symm (by omega) (by omega) ?_
          intro a' c' s3 hrow3 hm3
          have hbl : b ∉ Fw.blk l.1 := hB.ne.1
          have hM : ∃ M, Fw.Mod M s2 s3 ∧ (∀ x ∈ M, x ∈ Fw.blk l.1) ∧ ∀ x ∈ Fw.blk a', s x = none := by
            rcases hm3 with ⟨rfl, m'⟩ | ⟨g, rfl, hg, m'⟩
            · exact ⟨_, m', fun x hx => hx, fun x hx => hf x (by simp [bL, hx])⟩
            · exact ⟨[], m', by simp, by simp [Fw.blk]; exact m2.none hg (by simp)⟩
          obtain ⟨M, m3, hMl, hnew⟩ := hM
          have hb3 := m3.at hb2 fun hx => hbl (hMl _ hx)
          simp [W.st_at hb3, hwk]
          have hBr := balOf (B' := B.layL D) (l' := (a', j + t.2.1, c')) (v' := noTri) (n' := noTri) (m' := noTri) hb3 (by unfold BS.layL; rw [hj]; exact hrow3) (by rw [show (B.layL D).votes = [] from hL.rows.1]; exact rowE.nil) (by rw [show (B.layL D).next = [] from hL.rows.2.1]; exact rowE.nil)
            (by rw [show (B.layL D).mat = [] from hL.rows.2.2]; exact rowE.nil) (by simp [Fw.blk])
          refine ⟨⟨k + 1, b, (a', j + t.2.1, c'), _, by simp, hBr, ?_, ?_, hlt, hL'⟩, by omega⟩
          · exact (m2.fresh m3 fun x hx => .inr (hf x (by simp [bL, hMl x hx]))).updLater (.inr (hf b (by simp [bL])))
          · intro y hy
            simp only [bL, List.mem_cons, List.mem_append] at hy
            rcases hy with rfl | hy | hy
            · exact hf y (by simp [bL])
            · exact hnew y hy
            · simp [Fw.blk] at hy
    · intro J hJ
      have bad : ∀ c : Bool, c = true → B.lay D = none → J ((some ⟨b, 0, none⟩, ()), (D.term, D.vote, D.whole, D.base, D.baseTerm, D.snap, D.from_, t, ()), ((some ad, an, ac), ()), ((an : Int), ()), ((k : Int), ()), (c, ()), ()) s2 := fun c hc hl =>
        hJ _ _ ⟨rfl, c, rfl, fun _ => hl, fun e => by rw [hc] at e; cases e⟩
      refine W.join_gen (fun z s' => s' = s2 ∧ ∃ c : Bool, z = ((some ⟨b, 0, none⟩, ()), (D.term, D.vote, D.whole, D.base, D.baseTerm, D.snap, D.from_, t, ()), ((some ad, an, ac), ()), ((an : Int), ()), ((k : Int), ()), (c, ()), ()) ∧
        (c = true ↔ (D.term < 0 ∨ D.term > 2199023255552 ∨ D.vote < -1 ∨ D.vote ≥ B.size))) ?_ ?_
      · rintro _ s2 ⟨rfl, c, rfl, hc⟩
        simp only [W.br_iff]
        refine ⟨fun h1 => bad true rfl (lay_n1 (hc.1 h1)), fun h1 => ?_⟩
        have h1' : ¬ (D.term < 0 ∨ D.term > 2199023255552 ∨ D.vote < -1 ∨ D.vote ≥ B.size) := fun e => by have := hc.2 e; rw [h1] at this; cases this
        have last : D.whole = false → W.unSome (some (Addr.mk b 0 none)) (fun p => W.ld [.int .i64] ((p.add 2).add 4) fun x => W.br (decide (D.from_ ≤ x.1)) (J ((some ⟨b, 0, none⟩, ()), (D.term, D.vote, D.whole, D.base, D.baseTerm, D.snap, D.from_, t, ()), ((some ad, an, ac), ()), ((an : Int), ()), ((k : Int), ()), (true, ()), ()))
            (W.callQ Try.prog 26 #[.pointer (some ⟨b, 0, none⟩)] (false, [(false, [.int .i64])]) fun y => J ((some ⟨b, 0, none⟩, ()), (D.term, D.vote, D.whole, D.base, D.baseTerm, D.snap, D.from_, t, ()), ((some ad, an, ac), ()), ((an : Int), ()), ((k : Int), ()), (decide (D.from_ > IntKind.i64.wrap (y.1.1 + 1)), ()), ()))) s2 := by
          intro hw
          simp [W.ld_at hb2, W.br_iff]
          refine ⟨fun h2 => bad _ rfl (lay_n3 hw (.inl h2)), fun h2 => ?_⟩
          refine W.callQ_of ((B.lst, ()), ()) (c_last hB hsm) rfl ?_
          have hwl : IntKind.i64.wrap (B.lst + 1) = B.lst + 1 := wrap_in (by omega) (by omega)
          simp only [hwl]
          refine hJ _ _ ⟨rfl, _, rfl, fun h3 => lay_n3 hw (.inr (by simpa using h3)), fun h3 => ⟨_, lay_l h1' hw (by simp at h3; omega), fun e => (by rw [hw] at e; cases e), fun _ => ⟨rfl, by omega, by simp at h3; omega⟩⟩⟩
        refine ⟨fun hw => ?_, fun hw => ?_⟩
        · simp only [decide_eq_true_eq, decide_eq_false_iff_not]
          refine ⟨fun h2 => bad _ rfl (lay_n2 hw (.inl h2)), fun h2 => ⟨fun h3 => bad _ rfl (lay_n2 hw (.inr (.inl h3))), fun h3 => ⟨fun h4 => bad _ rfl (lay_n2 hw (.inr (.inr (.inl h4)))), fun h4 => ⟨fun h5 => bad _ rfl (lay_n2 hw (.inr (.inr (.inr h5)))), fun h5 => ⟨fun h6 => ?_, fun h6 => ?_⟩⟩⟩⟩⟩
          · rw [hw] at h6; cases h6
          · refine hJ _ _ ⟨rfl, _, rfl, (fun e => by cases e), fun _ => ⟨_, lay_w h1' hw (by omega), fun _ => rfl, fun e => by rw [hw] at e; cases e⟩⟩
        · have hw : D.whole = false := hw
          refine ⟨fun _ => last hw, fun h2 => ?_⟩
          rw [hw] at h2; cases h2
      · intro K hK
        simp [W.br_iff]
        refine ⟨fun h1 => hK _ _ ⟨rfl, _, rfl, by simp [h1]⟩, fun h1 => ⟨fun h2 => hK _ _ ⟨rfl, _, rfl, by simp; omega⟩, fun h2 => ⟨fun h3 => hK _ _ ⟨rfl, _, rfl, by simp; omega⟩, fun h3 => hK _ _ ⟨rfl, _, rfl, by simp; omega⟩⟩⟩⟩
  · simp [W.ld_at hb2, W.st_at hb2]
    have hB2 : Bal (s2.upd b (.cells ({ B with commit := B.base }.cells l noTri noTri noTri) 67 (0, 0))) b l noTri noTri noTri { B with commit := B.base } := hB.lay
    refine W.call_of (c_clean hB2 ⟨q1, q2, q3⟩) ?_
    rintro _ s3 ⟨rfl, hB3, m3⟩
    refine ⟨(), rfl, ?_⟩
    have hb0 := hf b (by simp [bL])
    exact ⟨(m2.updLater (.inr hb0)).fresh m3 (by simp [hb0]), .inl ⟨hok, _, hL.done (by omega), b, l, rfl, hB3, hf⟩⟩

/-! ## the document's -/
theorem copy_new {K : Option Addr → Nat → Nat → W.T} {xs : List Ent} {src : Src} {k : Nat} (hs : srcIs s 4 src (xs.flatMap entE.f)) (hk : src.len = k) (hn : xs.length = k) (hl : k ≤ 1073741824)
    (hK : ∀ a' c' s', rowE entE s' 39 a' k c' xs → Fw.Mod [] s s' → (∀ y ∈ Fw.blk a', s y = none) → K a' k c' s') :
    W.nw (.cells #[] 39 (0, 0)) (fun r => W.app 39 4 40 [.int .i64 0, .int .i64 0, .int .i64 0, .string ⟨#[]⟩] (some ⟨r, 0, none⟩) 0 0 src K) s := by
  refine W.nw_of fun r s1 hr m1 k1 => ?_
  have hmax : maxLen = 9223372036854775807 := rfl
  have hsrc : srcIs s1 4 src (xs.flatMap entE.f) := by
    cases src with
    | sl a m => cases a with
      | none => exact hs
      | some a => exact ⟨hs.1, hs.2.mono m1.le⟩
    | str b => exact hs
  have hnil : rowE entE s1 39 (some ⟨r, 0, none⟩) 0 0 ([] : List Ent) := ⟨rfl, Nat.le_refl _, Nat.zero_le _, .inr ⟨r, _, rfl, k1, by simp, by simp⟩⟩
  refine app_rowE (E := entE) (k := k) (ys := xs) hnil rfl hsrc hk hn (by omega) (by omega) ?_
  intro a' c' s2 hrow hm
  simp only [List.nil_append, Nat.zero_add] at hrow ⊢
  rcases hm with ⟨rfl, hm⟩ | ⟨g, rfl, hg, hm⟩
  · exact hK _ _ _ hrow (m1.fresh hm (by simp [Fw.blk, hr])) (by simp [Fw.blk, hr])
  · exact hK _ _ _ hrow (m1.trans hm) (by simp [Fw.blk]; exact m1.none hg (by simp))
def rLoadPost (id size : Int) (ls : List Dl) (s : PH) (x : Value) (s' : PH) : Prop :=
  Fw.Mod [] s s' ∧ ((okNew id size ∧ ∃ B, BS.loaded id size ls = some B ∧ ∃ r l, x = .tuple #[bptr r, .int .i64 0] ∧ Ref s' r l noTri [] B noRS ∧ ∀ y ∈ rL r l noTri [], s y = none) ∨
  (okNew id size ∧ BS.loaded id size ls = none ∧ x = .tuple #[.pointer none, .int .i64 100]) ∨ (¬ okNew id size ∧ x = .tuple #[.pointer none, .int .i64 1]))
def RdI (id size : Int) (ls : List Dl) (an : Nat) (s0 : PH) (k r : Nat) (l : Tri) (B : BS) (s' : PH) : Prop :=
  Ref s' r l noTri [] B noRS ∧ Fw.Mod [] s0 s' ∧ (∀ y ∈ rL r l noTri [], s0 y = none) ∧ k ≤ an ∧ B.Lds id size ls k
def RdZ (id size : Int) (ls : List Dl) (an : Nat) (s0 : PH) (z : MDen [(false, [.ptr]), (false, [.int .i64])]) (s' : PH) : Prop :=
  ∃ (k r : Nat) (l : Tri) (B : BS), z = ((some ⟨r, 0, none⟩, ()), ((k : Int), ()), ()) ∧ RdI id size ls an s0 k r l B s'
theorem c_rLoad (h : elems rdDl s a an ls) (hn : an ≤ 140737488355328) (ht : dtot ls ≤ 1000000) : DCalls Try.prog 22 #[.int .i64 id, .int .i64 size, .slice a an ac] s (rLoadPost id size ls s) := by
  refine ok_rLoad2 id size a an ac _ s ?_
  unfold vc_rLoad2
  simp only [RP_call]
  refine W.call_of (c_rNew id size s) ?_
  rintro _ s1 (⟨hok, r, rfl, hB, m1, hr⟩ | ⟨hok, rfl, rfl⟩)
  rotate_left
  · refine ⟨((none, ()), (false, ()), ()), rfl, ?_⟩
    simp
    exact ⟨Mod.refl _ _, .inr (.inr ⟨hok, rfl⟩)⟩
  refine ⟨((some ⟨r, 0, none⟩, ()), (true, ()), ()), rfl, ?_⟩
  simp [-W.nw_iff]
  have hlen := h.1
  refine ⟨RdZ id size ls an s, fun z _ => an - z.2.1.1.toNat, ⟨0, r, noTri, _, rfl, hB, m1, by simp [rL, mF, Fw.blk, hr], Nat.zero_le _, BS.Lds.start id size ls⟩, ?_⟩
  rintro _ s2 ⟨k, r, l, B, rfl, hB, m2, hf, hk, hL⟩
  have hsm := hL.small ht
  obtain ⟨q1, q2, q3⟩ := _root_.id hsm
  have hd := lst_def B
  have hwk : IntKind.i64.wrap ((k : Int) + 1) = ((k + 1 : Nat) : Int) := by rw [wrap_in (by omega) (by omega)]; simp
  have hb2 := hB.cell
  have hr0 := hf r (by simp [rL])
  simp [W.br_iff, -W.nw_iff]
  refine ⟨fun hlt => ⟨hlt, ?_⟩, fun hge => ?_⟩
  · obtain ⟨D, hD⟩ : ∃ D, ls[k]? = some D := ⟨_, List.getElem?_eq_getElem (by omega)⟩
    obtain ⟨ad, t, rfl, hhas, hI⟩ := dl_at h hD
    have hroom := hI.room
    have hvl := hI.view.len
    have hDl := dtot_mem hD
    have hsz := hL.sz
    simp only [W.unSome_some]
    refine ld_has_z (hhas.mono m2.le) (y := (D.term, D.vote, D.whole, D.base, D.baseTerm, D.snap, D.from_, t, ())) rfl ?_
    have bad : B.lay D = none → rLoadPost id size ls s (.tuple #[.pointer none, .int .i64 100]) s2 := fun hl => ⟨m2, .inr (.inl ⟨hok, hL.bad hD hl, rfl⟩)⟩
    refine W.join_gen (fun z s' => s' = s2 ∧ z = ((some ⟨r, 0, none⟩, ()), ((k : Int), ()), (D.term, D.vote, D.whole, D.base, D.baseTerm, D.snap, D.from_, t, ()), ()) ∧ ¬ (D.term < 0 ∨ D.term > 2199023255552 ∨ D.vote < -1 ∨ D.vote ≥ B.size)) ?_ ?_
    · rintro _ s2 ⟨rfl, rfl, hc1⟩
      simp only [W.br_iff]
      refine ⟨fun hw => ?_, fun hw => ?_⟩
      · have hw : D.whole = true := hw
        refine W.join_gen (fun z s' => s' = s2 ∧ z = ((some ⟨r, 0, none⟩, ()), ((k : Int), ()), (D.term, D.vote, D.whole, D.base, D.baseTerm, D.snap, D.from_, t, ()), ()) ∧ ¬ (D.base < 0 ∨ D.base > 2199023255552 ∨ D.baseTerm < 0 ∨ D.baseTerm > 2199023255552)) ?_ ?_
        · rintro _ s2 ⟨rfl, rfl, hc2⟩
          have hlay := lay_w hc1 hw hc2
          have hL' := hL.step hD hlay
          simp [W.st_at hb2, -W.nw_iff]
          generalize hs3 : s2.upd r (.cells _ 78 (0, 0)) = s3
          have k3 : s3 r = some (.cells (refCells { B with base := D.base, baseTerm := D.baseTerm, snap := D.snap } noRS l noTri) 78 (0, 0)) := by rw [← hs3, PH.upd_same]
          have m3 : Fw.Mod [] s s3 := by rw [← hs3]; exact m2.updLater (.inr hr0)
          refine copy_new (k := t.2.1) (hI.view.mono m3.le).src rfl hvl.symm (show t.2.1 ≤ 1073741824 by rw [hvl]; omega) ?_
          intro a' c' s4 hrow m4 hf4
          have k4 := m4.at k3 (by simp)
          simp [W.st_at k4, hwk]
          refine ⟨⟨k + 1, r, (a', t.2.1, c'), _, by simp, refOf (B' := B.layW D) (X' := noRS) (l' := (a', t.2.1, c')) (o' := noTri) (ps' := []) k4 hrow (Msgs.nil _) (by simp), (m3.trans m4).updLater (.inr hr0), ?_, hlt, hL'⟩, by omega⟩
          intro y hy
          simp [rL, mF, Fw.blk] at hy
          rcases hy with rfl | hy
          · exact hr0
          · exact m3.none (hf4 y (by simpa [Fw.blk] using hy)) (by simp)
        · intro J hJ
          simp only [W.br_iff, decide_eq_true_eq, decide_eq_false_iff_not]
          exact ⟨fun h2 => bad (lay_n2 hw (.inl h2)), fun h2 => ⟨fun h3 => bad (lay_n2 hw (.inr (.inl h3))), fun h3 => ⟨fun h4 => bad (lay_n2 hw (.inr (.inr (.inl h4)))), fun h4 => ⟨fun h5 => bad (lay_n2 hw (.inr (.inr (.inr h5)))), fun h5 => hJ _ _ ⟨rfl, rfl, by omega⟩⟩⟩⟩⟩
      · have hw : D.whole = false := hw
        have hwb : IntKind.i64.wrap (B.base + 1) = B.base + 1 := wrap_in (by omega) (by omega)
        have hwl : IntKind.i64.wrap (B.lst + 1) = B.lst + 1 := wrap_in (by omega) (by omega)
        refine W.join_gen (fun z s' => s' = s2 ∧ z = ((some ⟨r, 0, none⟩, ()), ((k : Int), ()), (D.term, D.vote, D.whole, D.base, D.baseTerm, D.snap, D.from_, t, ()), ()) ∧ ¬ (D.from_ ≤ B.base ∨ D.from_ > B.lst + 1)) ?_ ?_
        · rintro _ s2 ⟨rfl, rfl, hc2⟩
          have hlay := lay_l hc1 hw hc2
          have hL' := hL.step hD hlay
          obtain ⟨j, hj⟩ : ∃ j : Nat, (D.from_ - B.base - 1).toNat = j := ⟨_, rfl⟩
          have hw1 : IntKind.i64.wrap (IntKind.i64.wrap (D.from_ - B.base) - 1) = (j : Int) := by
            rw [wrap_in (n := D.from_ - B.base) (by omega) (by omega), wrap_in (by omega) (by omega)]; omega
          have hll := hB.log.len
          have hlc := hB.log.le
          have hmax : maxLen = 9223372036854775807 := rfl
          simp [W.ld_at hb2, hw1, -W.nw_iff]
          refine ⟨by omega, ?_⟩
          refine copy_new (k := j) (hB.log.src_take (m := j) (by omega)) rfl (by rw [List.length_take]; omega) (by omega) ?_
          intro a' c' s3 hrow m3 hf3
          have m23 := m2.trans m3
          refine app_rowE (E := entE) (k := t.2.1) (ys := D.list) hrow rfl (hI.view.mono m23.le).src rfl hvl.symm (by omega) (by omega) ?_
          intro a2 c2 s4 hrow4 hm4
          have hfa : ∀ y ∈ Fw.blk a', s y = none := fun y hy => m2.none (hf3 y hy) (by simp)
          have hM : Fw.Mod (Fw.blk a') s3 s4 ∧ ∀ y ∈ Fw.blk a2, s y = none := by
            rcases hm4 with ⟨rfl, m'⟩ | ⟨g, rfl, hg, m'⟩
            · exact ⟨m', hfa⟩
            · exact ⟨m'.mono (by simp), by simp [Fw.blk]; exact m23.none hg (by simp)⟩
          obtain ⟨m4, hfa2⟩ := hM
          have k3 := m3.at hb2 (by simp)
          have hra : r ∉ Fw.blk a' := fun hx => by have := hf3 r hx; rw [hb2] at this; cases this
          have k4 := m4.at k3 hra
          simp [W.st_at k4, hwk]
          refine ⟨⟨k + 1, r, (a2, j + t.2.1, c2), _, by simp, refOf (B' := B.layL D) (X' := noRS) (l' := (a2, j + t.2.1, c2)) (o' := noTri) (ps' := []) k4 (by unfold BS.layL; rw [hj]; exact hrow4) (Msgs.nil _) (by simp), (m23.fresh m4 fun y hy => .inr (hfa y hy)).updLater (.inr hr0), ?_, hlt, hL'⟩, by omega⟩
          intro y hy
          simp [rL, mF, Fw.blk] at hy
          rcases hy with rfl | hy
          · exact hr0
          · exact hfa2 y (by simpa [Fw.blk] using hy)
        · intro J hJ
          simp [W.ld_at hb2, W.br_iff, hwb]
          refine ⟨fun h2 => bad (lay_n3 hw (.inl (by omega))), fun h2 => ?_⟩
          refine W.call_of (c_rLast hB hsm) ?_
          rintro _ _ ⟨rfl, rfl⟩
          refine ⟨((B.lst, ()), ()), rfl, ?_⟩
          simp [W.br_iff, hwl]
          exact ⟨fun h3 => bad (lay_n3 hw (.inr (by omega))), fun h3 => hJ _ _ ⟨rfl, rfl, by omega⟩⟩
    · intro J hJ
      simp only [W.br_iff, decide_eq_true_eq, decide_eq_false_iff_not]
      have := hsz
      exact ⟨fun h1 => bad (lay_n1 (.inl h1)), fun h1 => ⟨fun h2 => bad (lay_n1 (.inr (.inl h2))), fun h2 => ⟨fun h3 => bad (lay_n1 (.inr (.inr (.inl h3)))), fun h3 => ⟨fun h4 => bad (lay_n1 (.inr (.inr (.inr (by omega))))), fun h4 => hJ _ _ ⟨rfl, rfl, by omega⟩⟩⟩⟩⟩
  · simp [W.ld_at hb2, W.st_at hb2]
    have hB2 : Ref (s2.upd r (.cells (refCells { B with commit := B.base } noRS l noTri) 78 (0, 0))) r l noTri [] { B with commit := B.base } noRS := hB.lay
    refine W.call_of (c_rLast hB2 ⟨q1, q2, q3⟩) ?_
    rintro _ _ ⟨rfl, rfl⟩
    refine ⟨((B.lst, ()), ()), rfl, ?_⟩
    have hwl : IntKind.i64.wrap (B.lst + 1) = B.lst + 1 := wrap_in (by omega) (by omega)
    simp [W.st_at hB2.cell, hwl]
    refine ⟨m2.updLater (.inr hr0), .inl ⟨hok, _, hL.done (by omega), r, l, rfl, ?_, hf⟩⟩
    refine hB.lay (B' := { B with commit := B.base, touched := false, whole := false, from_ := B.lst + 1 }) (X' := noRS) rfl ?_
    rw [hL.flags.1, hL.flags.2]
end
end Go.Proofs.Ytfpbiecmobdnnaa
