/-
  The ballot, plainly: what holds in it stays so.
  Conditions: none; it proves no statement by itself.
-/
import Derived.Test.YtfpbiecmobdnnaaC12
set_option linter.unusedVariables false
set_option linter.unusedSimpArgs false
set_option maxHeartbeats 1000000
namespace Go.Proofs.Ytfpbiecmobdnnaa
open Fw Go

theorem best_in (B : BS) : ∀ (d : Nat) (i : Int), B.best d = some i → B.commit < i ∧ i ≤ B.commit + d
  | 0, i, h => by cases h
  | d + 1, i, h => by
    simp only [BS.best] at h
    split at h
    · simp only [Option.some.injEq] at h; subst h; push_cast; omega
    · have := best_in B d i h; push_cast; omega
theorem settled_com (B : BS) (h : B.commit ≤ B.lst) : ∃ c, B.settled.1 = { B with commit := c } ∧ B.commit ≤ c ∧ c ≤ B.lst := by
  unfold BS.settled
  split
  · rename_i i hi
    have := best_in B _ i hi
    exact ⟨i, rfl, by omega, by omega⟩
  · exact ⟨B.commit, rfl, Int.le_refl _, h⟩

/-- what holds in a ballot, with bounds that grow with the calls -/
structure BS.Inv (B : BS) (z : Int) : Prop where
  run : B.Run
  len : (B.log.length : Int) ≤ z
  far : B.lst ≤ 2 * FAR + z
  term : 0 ≤ B.term ∧ B.term ≤ 2 * FAR + z
  vote : -1 ≤ B.vote
theorem BS.Inv.mono {B : BS} {z z' : Int} (h : B.Inv z) (hz : z ≤ z') : B.Inv z' :=
  ⟨h.run, by have := h.len; omega, by have := h.far; omega, by have := h.term; omega, h.vote⟩
theorem lst_def (B : BS) : B.lst = B.base + B.log.length := rfl
/-- numbers that suit -/
theorem BS.Ok.of {B : BS} (h1 : 0 ≤ B.base) (h2 : B.lst ≤ 8000000000000) (h3 : B.log.length ≤ 1000000) (h4 : 1 ≤ B.size ∧ B.size ≤ 5) (h5 : 0 ≤ B.id ∧ B.id < B.size) (h6 : B.base ≤ B.commit) : B.Ok := by
  have := lst_def B
  exact ⟨⟨h1, by omega, by omega⟩, by omega, h4, h5, h6⟩
theorem Inv.com {B : BS} {z c : Int} (h : B.Inv z) (h1 : B.commit ≤ c) (h2 : c ≤ B.lst) : ({ B with commit := c } : BS).Inv z := by
  have hk := h.run.ok
  exact ⟨⟨⟨⟨hk.small.base0, hk.small.base1, hk.small.log1⟩, hk.base, hk.size, hk.id, by have := hk.com; show B.base ≤ c; omega⟩, h2, h.run.vt, fun hr => ⟨(h.run.ld hr).nlen, (h.run.ld hr).mlen, (h.run.ld hr).nr, (h.run.ld hr).mr⟩⟩, h.len, h.far, h.term, h.vote⟩
theorem Inv.settled {B : BS} {z : Int} (h : B.Inv z) : B.settled.1.Inv z := by
  obtain ⟨c, hc, h1, h2⟩ := settled_com B h.run.lc
  rw [hc]; exact Inv.com h h1 h2
theorem set_len {B : BS} {i : Int} (h1 : B.base < i) (h2 : i ≤ B.lst + 1) (ys : List Ent) : ((B.set i ys).log.length : Int) = i - B.base - 1 + ys.length := by
  have := lst_def B
  unfold BS.set
  simp only [List.length_append, List.length_take]
  omega
theorem set_lst {B : BS} {i : Int} (h1 : B.base < i) (h2 : i ≤ B.lst + 1) (ys : List Ent) : (B.set i ys).lst = i - 1 + ys.length := by
  have h := set_len h1 h2 ys
  have e : (B.set i ys).lst = B.base + ((B.set i ys).log.length : Int) := rfl
  omega
theorem Inv.set {B : BS} {z : Int} (h : B.Inv z) {i : Int} (h1 : B.commit < i) (h2 : i ≤ B.lst + 1) {ys : List Ent} (hz : z + ys.length ≤ 1000000) (hr : B.role = 2 → i = B.lst + 1) : (B.set i ys).Inv (z + ys.length) := by
  have hk := h.run.ok
  have hb := hk.com
  have hlen := h.len
  have hfar := h.far
  have hF : FAR = 1099511627776 := rfl
  have g1 := set_len (B := B) (i := i) (by omega) h2 ys
  have g2 := set_lst (B := B) (i := i) (by omega) h2 ys
  have hd := lst_def B
  have hb0 := hk.small.base0
  refine ⟨⟨BS.Ok.of hk.small.base0 (by omega) (by omega) hk.size hk.id hk.com, by rw [g2]; show B.commit ≤ _; omega, h.run.vt, fun hr2 => ?_⟩, by omega, by omega, by have := h.term; show 0 ≤ B.term ∧ B.term ≤ _; omega, h.vote⟩
  have hL := h.run.ld hr2
  have := hr hr2
  exact ⟨hL.nlen, hL.mlen, fun j x hx => by have := hL.nr j x hx; rw [g2]; omega, fun j x hx => by have := hL.mr j x hx; rw [g2]; omega⟩
theorem Inv.lead2 {B : BS} {z : Int} (h : B.Inv z) : B.lead2.Inv z := by
  have hk := h.run.ok
  have hlc := h.run.lc
  have hb := hk.com
  have hb0 := hk.small.base0
  refine ⟨⟨⟨⟨hk.small.base0, hk.small.base1, hk.small.log1⟩, hk.base, hk.size, hk.id, hk.com⟩, hlc, fun e => absurd e (by show ¬ (2 : Int) = 1; omega), fun _ => ⟨List.length_replicate, List.length_replicate, fun j x hx => ?_, fun j x hx => ?_⟩⟩, h.len, h.far, h.term, h.vote⟩
  · have hx : (List.replicate B.size.toNat (B.lst + 1))[j]? = some x := hx
    rw [List.getElem?_replicate] at hx
    split at hx
    · cases hx; show 0 ≤ B.lst + 1 ∧ B.lst + 1 ≤ B.lst + 1; omega
    · cases hx
  · have hx : (List.replicate B.size.toNat (0 : Int))[j]? = some x := hx
    rw [List.getElem?_replicate] at hx
    split at hx
    · cases hx; show (0 : Int) ≤ 0 ∧ 0 ≤ B.lst; omega
    · cases hx
theorem Inv.counted {B : BS} {z : Int} (h : B.Inv z) (hz : z + 1 ≤ 1000000) : B.counted.1.Inv (z + 1) := by
  unfold BS.counted
  split
  · exact h.mono (by omega)
  · have hlc := h.run.lc
    exact Inv.settled (Inv.set (ys := [{ noEnt with term := B.term }]) (Inv.lead2 h) (by show B.commit < B.lst + 1; omega) (Int.le_refl _) hz fun _ => rfl)
theorem Inv.stood {B : BS} {z : Int} (h : B.Inv z) : B.stood.Inv (z + 1) := by
  have hk := h.run.ok
  have hid := hk.id
  refine ⟨⟨⟨⟨hk.small.base0, hk.small.base1, hk.small.log1⟩, hk.base, hk.size, hk.id, hk.com⟩, h.run.lc, fun _ => ?_, fun e => absurd e (by show ¬ (1 : Int) = 2; omega)⟩, by have := h.len; show (B.log.length : Int) ≤ _; omega, by have := h.far; show B.lst ≤ _; omega, ?_, ?_⟩
  · show (List.set _ _ _).length = B.size.toNat; simp
  · have := h.term; show 0 ≤ B.term + 1 ∧ B.term + 1 ≤ _; omega
  · show -1 ≤ B.id; omega
theorem Inv.timeout {B : BS} {z : Int} (h : B.Inv z) (hz : z + 2 ≤ 1000000) : B.timeout.1.Inv (z + 2) := by
  unfold BS.timeout
  split
  · exact h.mono (by omega)
  · have := Inv.counted (Inv.stood h) (by omega)
    exact this.mono (by omega)
theorem Inv.propose {B : BS} {z : Int} (h : B.Inv z) (hz : z + 1 ≤ 1000000) (at_ born : Int) (text : ByteArray) : (B.propose at_ born text).2.1.Inv (z + 1) := by
  unfold BS.propose
  split
  · have hlc := h.run.lc
    exact Inv.settled (Inv.set (ys := [⟨B.term, at_, born, text⟩]) h (by omega) (Int.le_refl _) hz fun _ => rfl)
  · exact h.mono (by omega)
theorem Inv.turned {B : BS} {z : Int} (h : B.Inv z) {t : Int} (ht : 0 ≤ t ∧ t ≤ FAR) (hz : 0 ≤ z) : (B.turned t (-1) 0).Inv z := by
  have hk := h.run.ok
  have hF : FAR = 1099511627776 := rfl
  exact ⟨⟨⟨⟨hk.small.base0, hk.small.base1, hk.small.log1⟩, hk.base, hk.size, hk.id, hk.com⟩, h.run.lc, fun e => absurd e (by show ¬ (0 : Int) = 1; omega), fun e => absurd e (by show ¬ (0 : Int) = 2; omega)⟩, h.len, h.far, by show 0 ≤ t ∧ t ≤ _; omega, by show (-1 : Int) ≤ -1; omega⟩
theorem Inv.asked {B : BS} {z : Int} (h : B.Inv z) (M : Msg) (hf : 0 ≤ M.from_) : (B.asked M).1.Inv z := by
  unfold BS.asked
  split
  · have hk := h.run.ok
    exact ⟨⟨⟨⟨hk.small.base0, hk.small.base1, hk.small.log1⟩, hk.base, hk.size, hk.id, hk.com⟩, h.run.lc, h.run.vt, fun hr => ⟨(h.run.ld hr).nlen, (h.run.ld hr).mlen, (h.run.ld hr).nr, (h.run.ld hr).mr⟩⟩, h.len, h.far, h.term, by show -1 ≤ M.from_; omega⟩
  · exact h
theorem Inv.voted {B : BS} {z : Int} (h : B.Inv z) (M : Msg) (hz : z + 1 ≤ 1000000) : (B.voted M).1.Inv (z + 1) := by
  unfold BS.voted
  split
  · exact h.mono (by omega)
  · have hk := h.run.ok
    refine Inv.counted ⟨⟨⟨⟨hk.small.base0, hk.small.base1, hk.small.log1⟩, hk.base, hk.size, hk.id, hk.com⟩, h.run.lc, fun hr => ?_, fun hr => ⟨(h.run.ld hr).nlen, (h.run.ld hr).mlen, (h.run.ld hr).nr, (h.run.ld hr).mr⟩⟩, h.len, h.far, h.term, h.vote⟩ hz
    show (List.set _ _ _).length = _
    rw [List.length_set]; exact h.run.vt hr
theorem Inv.follows {B : BS} {z : Int} (h : B.Inv z) (f : Int) : ({ B with role := 0, lead := f } : BS).Inv z := by
  have hk := h.run.ok
  exact ⟨⟨⟨⟨hk.small.base0, hk.small.base1, hk.small.log1⟩, hk.base, hk.size, hk.id, hk.com⟩, h.run.lc, fun e => absurd e (by show ¬ (0 : Int) = 1; omega), fun e => absurd e (by show ¬ (0 : Int) = 2; omega)⟩, h.len, h.far, h.term, h.vote⟩
theorem merge_in {B : BS} {z : Int} (hr : B.role ≠ 2) (h : B.Inv z) : ∀ (xs : List Ent) (i : Int), z + xs.length ≤ 1000000 → B.commit ≤ i → i ≤ B.lst → (B.merge i xs).Inv (z + xs.length) ∧ i + xs.length ≤ (B.merge i xs).lst
  | [], i, hz, h1, h2 => by simp only [BS.merge]; exact ⟨by simpa using h, by simpa using h2⟩
  | e :: r, i, hz, h1, h2 => by
    have hb := h.run.ok.com
    simp only [List.length_cons] at hz
    push_cast at hz
    simp only [BS.merge]
    split
    · rename_i ht
      have hl : i + 1 ≤ B.lst := termAt_le (by rw [ht]) (by omega)
      have := merge_in hr h r (i + 1) (by omega) (by omega) hl
      refine ⟨this.1.mono (by simp only [List.length_cons]; push_cast; omega), ?_⟩
      have h3 := this.2
      simp only [List.length_cons]; push_cast; omega
    · refine ⟨Inv.set h (by omega) (by omega) (by simp only [List.length_cons]; push_cast; omega) (fun e => absurd e hr), ?_⟩
      rw [set_lst (by omega) (by omega)]; omega
theorem Inv.fed {B : BS} {z : Int} (h : B.Inv z) (M : Msg) (hz : z + M.list.length ≤ 1000000) : (B.fed M).1.Inv (z + M.list.length) := by
  unfold BS.fed
  split
  · exact h.mono (by omega)
  · have hF := Inv.follows h M.from_
    dsimp only
    split
    · exact hF.mono (by omega)
    · split
      · exact hF.mono (by omega)
      · rename_i hne hc
        have hlc := h.run.lc
        have hb := h.run.ok.com
        have hr0 : ({ B with role := 0, lead := M.from_ } : BS).role ≠ 2 := by show ¬ (0 : Int) = 2; omega
        split
        · rename_i hlt
          have hdl : ((M.list.drop (B.commit - M.index).toNat).length : Int) = M.index + M.list.length - B.commit := by rw [List.length_drop]; omega
          have hm := merge_in hr0 hF (M.list.drop (B.commit - M.index).toNat) B.commit (by omega) (Int.le_refl _) hlc
          obtain ⟨g1, g2, g3, g4⟩ := merge_same { B with role := 0, lead := M.from_ } (M.list.drop (B.commit - M.index).toNat) B.commit
          have g3 : (BS.merge { B with role := 0, lead := M.from_ } B.commit (M.list.drop (B.commit - M.index).toNat)).commit = B.commit := g3
          refine BS.Inv.mono (Inv.com hm.1 ?_ ?_) (by omega)
          · rw [g3]; unfold mx; split <;> omega
          · rw [g3]; have := hm.2; unfold mx mn; repeat' split
            all_goals omega
        · rename_i hge
          have hyes : B.termAt M.index = (M.prev, true) := by
            by_cases e : B.termAt M.index = (M.prev, true)
            · exact e
            · exact absurd ⟨hge, e⟩ hc
          have hil : M.index ≤ B.lst := termAt_le (by rw [hyes]) (by omega)
          have hm := merge_in hr0 hF M.list M.index hz (by show B.commit ≤ _; omega) hil
          obtain ⟨g1, g2, g3, g4⟩ := merge_same { B with role := 0, lead := M.from_ } M.list M.index
          have g3 : (BS.merge { B with role := 0, lead := M.from_ } M.index M.list).commit = B.commit := g3
          refine Inv.com hm.1 ?_ ?_
          · rw [g3]; unfold mx; split <;> omega
          · rw [g3]; have := hm.2; unfold mx mn; repeat' split
            all_goals omega
theorem Inv.ldr {B : BS} {z : Int} (h : B.Inv z) {N Mt : List Int} (hl : ({ B with next := N, mat := Mt } : BS).Ldr) (hr : B.role = 2) : ({ B with next := N, mat := Mt } : BS).Inv z := by
  have hk := h.run.ok
  exact ⟨⟨⟨⟨hk.small.base0, hk.small.base1, hk.small.log1⟩, hk.base, hk.size, hk.id, hk.com⟩, h.run.lc, fun e => absurd (e.symm.trans hr) (by decide), fun _ => hl⟩, h.len, h.far, h.term, h.vote⟩
theorem Inv.heard {B : BS} {z : Int} (h : B.Inv z) (M : Msg) (hf : M.from_.toNat < B.size.toNat) : (B.heard M).1.Inv z := by
  unfold BS.heard
  split
  · exact h
  · rename_i hr
    have hr : B.role = 2 := by omega
    have hL := h.run.ld hr
    have hl0 : 0 ≤ B.lst := by have := h.run.ok.small.base0; have := lst_def B; omega
    dsimp only
    split
    · exact Inv.ldr h (hL.unfed hf M.index) hr
    · have h2 : (B.fedTo M.from_.toNat M.index).Inv z := Inv.ldr h (hL.fedTo hf M.index hl0) hr
      split
      · exact Inv.settled h2
      · exact Inv.settled h2
theorem rebase_lst {B : BS} {i : Int} (h1 : B.base ≤ i) (h2 : i ≤ B.lst) (t : Int) (sn : ByteArray) : (B.rebase i t sn (B.log.drop (i - B.base).toNat)).lst = B.lst := by
  have e : (B.rebase i t sn (B.log.drop (i - B.base).toNat)).lst = i + ((B.log.drop (i - B.base).toNat).length : Int) := rfl
  have := lst_def B
  rw [e, List.length_drop]; omega
theorem Inv.cut {B : BS} {z : Int} (h : B.Inv z) {i : Int} (h1 : B.base < i) (h2 : i ≤ B.commit) (hz : z ≤ 1000000) (t : Int) (sn : ByteArray) : (B.rebase i t sn (B.log.drop (i - B.base).toNat)).Inv z := by
  have hk := h.run.ok
  have hlc := h.run.lc
  have hb0 := hk.small.base0
  have hF : FAR = 1099511627776 := rfl
  have g := rebase_lst (B := B) (i := i) (by omega) (by omega) t sn
  have hlen : (((B.rebase i t sn (B.log.drop (i - B.base).toNat)).log.length : Nat) : Int) ≤ z := by
    have := h.len
    show ((B.log.drop _).length : Int) ≤ z
    rw [List.length_drop]; omega
  have hfar := h.far
  refine ⟨⟨BS.Ok.of (by show 0 ≤ i; omega) (by omega) (by omega) hk.size hk.id h2, by rw [g]; exact hlc, h.run.vt, fun hr => ?_⟩, hlen, by omega, h.term, h.vote⟩
  have hL := h.run.ld hr
  exact ⟨hL.nlen, hL.mlen, fun j x hx => by rw [g]; exact hL.nr j x hx, fun j x hx => by rw [g]; exact hL.mr j x hx⟩
theorem Inv.given {B : BS} {z : Int} (h : B.Inv z) (M : Msg) (hi : M.index ≤ FAR) (hz : 0 ≤ z ∧ z ≤ 1000000) : (B.given M).1.Inv z := by
  have hF : FAR = 1099511627776 := rfl
  unfold BS.given
  split
  · exact h
  · split
    · exact Inv.follows h M.from_
    · rename_i hr hgt
      have hk := h.run.ok
      have hb0 := hk.small.base0
      have hbc := hk.com
      have hlen := h.len
      have hfar := h.far
      have key : ∀ rest : List Ent, (rest.length : Int) ≤ z → M.index + rest.length ≤ 2 * FAR + z → ({ ({ B with role := 0, lead := M.from_ }.rebase M.index M.prev M.snap rest) with commit := M.index } : BS).Inv z := by
        intro rest h1 h2
        have e : ({ ({ B with role := 0, lead := M.from_ }.rebase M.index M.prev M.snap rest) with commit := M.index } : BS).lst = M.index + rest.length := rfl
        exact ⟨⟨BS.Ok.of (by show 0 ≤ M.index; omega) (by rw [e]; omega) (by show rest.length ≤ _; omega) hk.size hk.id (Int.le_refl _), by rw [e]; show M.index ≤ _; omega, fun e => absurd e (by show ¬ (0 : Int) = 1; omega), fun e => absurd e (by show ¬ (0 : Int) = 2; omega)⟩, h1, by rw [e]; exact h2, h.term, h.vote⟩
      split
      · rename_i ht
        have hil : M.index ≤ B.lst := termAt_le (by rw [ht]) (by omega)
        have hd := lst_def B
        refine key _ ?_ ?_ <;> · rw [List.length_drop]; omega
      · exact key [] (by simp; omega) (by simp; omega)
theorem Inv.take {B : BS} {z : Int} (h : B.Inv z) (M : Msg) (hz : 0 ≤ z ∧ z + (1 + M.list.length) ≤ 1000000) : (B.take M).1.Inv (z + (1 + M.list.length)) := by
  unfold BS.take
  split
  · exact h.mono (by omega)
  · rename_i hst
    have hst : M.strange B.id B.size = false := by simpa using hst
    unfold Msg.strange at hst
    simp only [Bool.or_eq_false_iff, decide_eq_false_iff_not] at hst
    obtain ⟨f1, f2, f3, f4, f5, f6, f7, f8, f9, f10, ⟨f11, f12⟩, f13, f14⟩ := hst
    have hF : FAR = 1099511627776 := rfl
    have hs : (B.seen M).Inv z ∧ (B.seen M).size = B.size := by
      unfold BS.seen
      split
      · exact ⟨Inv.turned h (by omega) hz.1, rfl⟩
      · exact ⟨h, rfl⟩
    obtain ⟨hs, hsz⟩ := hs
    split
    · exact hs.mono (by omega)
    · unfold BS.does
      split
      · exact (Inv.asked hs M (by omega)).mono (by omega)
      · split
        · exact (Inv.voted hs M (by omega)).mono (by omega)
        · split
          · exact (Inv.fed hs M (by omega)).mono (by omega)
          · split
            · exact (Inv.heard hs M (by rw [hsz]; omega)).mono (by omega)
            · exact (Inv.given hs M (by omega) ⟨hz.1, by omega⟩).mono (by omega)
theorem Inv.new {id size : Int} (h : okNew id size) : (newBS id size).Inv 0 := by
  obtain ⟨h1, h2, h3, h4⟩ := h
  have hF : FAR = 1099511627776 := rfl
  have e : (newBS id size).lst = 0 := rfl
  exact ⟨⟨BS.Ok.of (by show (0 : Int) ≤ 0; omega) (by rw [e]; omega) (by show 0 ≤ _; omega) ⟨h1, h2⟩ ⟨h3, h4⟩ (by show (0 : Int) ≤ 0; omega), by rw [e]; show (0 : Int) ≤ 0; omega, fun e => absurd e (by show ¬ (0 : Int) = 1; omega), fun e => absurd e (by show ¬ (0 : Int) = 2; omega)⟩, by show (0 : Int) ≤ 0; omega, by rw [e]; omega, by show (0 : Int) ≤ 0 ∧ (0 : Int) ≤ _; omega, by show (-1 : Int) ≤ -1; omega⟩
end Go.Proofs.Ytfpbiecmobdnnaa
