/-
  Part 26 for the law: lemmas.
  Conditions: none.
-/
import Derived.Test.YtcdggocbjnmeaaaGreatGroupHoldsK25
set_option maxHeartbeats 4000000
set_option maxRecDepth 100000
set_option linter.unusedVariables false
set_option linter.unusedSimpArgs false
set_option linter.unusedSectionVars false
namespace Go.Proofs.YtcdggocbjnmeaaaGreat
open Fw Go Go.IntKind
section
theorem best_in (B : BS) : ∀ (d : Nat) (i : Int), B.best d = some i → B.commit < i ∧ i ≤ B.commit + d
 | 0, i, h => by cases h
 | d + 1, i, h => by
  simp only [BS.best] at h
  split at h
  ·simp only [Option.some.injEq] at h; subst h; push_cast; omega
  ·have := best_in B d i h; push_cast; omega
theorem settled_com (B : BS) (h : B.commit ≤ B.lst) : ∃ c, B.settled.1 = { B with commit := c } ∧ B.commit ≤ c ∧ c ≤ B.lst := by
 unfold BS.settled
 split
 ·rename_i i hi
  have := best_in B _ i hi
  exact ⟨i, rfl, by omega, by omega⟩
 ·exact ⟨B.commit, rfl, Int.le_refl _, h⟩
structure BS.Inv (B : BS) (z : Int) : Prop where
 run : B.Run
 len : (B.log.length : Int) ≤ z
 far : B.lst ≤ 2 * FAR + z
 term : 0 ≤ B.term ∧ B.term ≤ 2 * FAR + z
 vote : -1 ≤ B.vote
theorem BS.Inv.mono {B : BS} {z z' : Int} (h : B.Inv z) (hz : z ≤ z') : B.Inv z' :=
 ⟨h.run, by have := h.len; omega, by have := h.far; omega, by have := h.term; omega, h.vote⟩
theorem lst_def (B : BS) : B.lst = B.base + B.log.length := rfl
theorem BS.Ok.of {B : BS} (h1 : 0 ≤ B.base) (h2 : B.lst ≤ 8000000000000) (h3 : B.log.length ≤ 1000000) (h4 : 1 ≤ B.size ∧ B.size ≤ 5) (h5 : 0 ≤ B.id ∧ B.id < B.size) (h6 : B.base ≤ B.commit) : B.Ok := by
 have := lst_def B
 exact ⟨⟨h1, by omega, by omega⟩, by omega, h4, h5, h6⟩
theorem Inv.com {B : BS} {z c : Int} (h : B.Inv z) (h1 : B.commit ≤ c) (h2 : c ≤ B.lst) : ({ B with commit := c } : BS).Inv z := by
 have hk := h.run.ok
 exact ⟨⟨⟨⟨hk.small.base0, hk.small.base1, hk.small.log1⟩, hk.base, hk.size, hk.id, by have := hk.com; show B.base ≤ c; omega⟩, h2, h.run.vt, fun hr => ⟨(h.run.ld hr).nlen, (h.run.ld hr).mlen, (h.run.ld hr).nr, (h.run.ld hr).mr⟩⟩, h.len, h.far, h.term, h.vote⟩
theorem Inv.settled {B : BS} {z : Int} (h : B.Inv z) : B.settled.1.Inv z := by
 obtain ⟨c, hc, h1, h2⟩ := settled_com B h.run.lc
 rw [hc]; exact Inv.com h h1 h2
theorem set_len {B : BS} {i : Int} (h1 : B.base < i) (h2 : i ≤ B.lst + 1) (ys : List Ent) : ((B.set i ys).log.length : Int) = i - B.base - 1 + ys.length := by
 have := lst_def B
 unfold BS.set
 simp only [List.length_append, List.length_take]
 omega
theorem set_lst {B : BS} {i : Int} (h1 : B.base < i) (h2 : i ≤ B.lst + 1) (ys : List Ent) : (B.set i ys).lst = i - 1 + ys.length := by
 have h := set_len h1 h2 ys
 have e : (B.set i ys).lst = B.base + ((B.set i ys).log.length : Int) := rfl
 omega
theorem Inv.set {B : BS} {z : Int} (h : B.Inv z) {i : Int} (h1 : B.commit < i) (h2 : i ≤ B.lst + 1) {ys : List Ent} (hz : z + ys.length ≤ 1000000) (hr : B.role = 2 → i = B.lst + 1) : (B.set i ys).Inv (z + ys.length) := by
 have hk := h.run.ok
 have hb := hk.com
 have hlen := h.len
 have hfar := h.far
 have hF : FAR = 1099511627776 := rfl
 have g1 := set_len (B := B) (i := i) (by omega) h2 ys
 have g2 := set_lst (B := B) (i := i) (by omega) h2 ys
 have hd := lst_def B
 have hb0 := hk.small.base0
 refine ⟨⟨BS.Ok.of hk.small.base0 (by omega) (by omega) hk.size hk.id hk.com, by rw [g2]; show B.commit ≤ _; omega, h.run.vt, fun hr2 => ?_⟩, by omega, by omega, by have := h.term; show 0 ≤ B.term ∧ B.term ≤ _; omega, h.vote⟩
 have hL := h.run.ld hr2
 have := hr hr2
 exact ⟨hL.nlen, hL.mlen, fun j x hx => by have := hL.nr j x hx; rw [g2]; omega, fun j x hx => by have := hL.mr j x hx; rw [g2]; omega⟩
theorem Inv.lead2 {B : BS} {z : Int} (h : B.Inv z) : B.lead2.Inv z := by
 have hk := h.run.ok
 have hlc := h.run.lc
 have hb := hk.com
 have hb0 := hk.small.base0
 refine ⟨⟨⟨⟨hk.small.base0, hk.small.base1, hk.small.log1⟩, hk.base, hk.size, hk.id, hk.com⟩, hlc, fun e => absurd e (by show ¬ (2 : Int) = 1; omega), fun _ => ⟨List.length_replicate, List.length_replicate, fun j x hx => ?_, fun j x hx => ?_⟩⟩, h.len, h.far, h.term, h.vote⟩
 ·have hx : (List.replicate B.size.toNat (B.lst + 1))[j]? = some x := hx
  rw [List.getElem?_replicate] at hx
  split at hx
  ·cases hx; show 0 ≤ B.lst + 1 ∧ B.lst + 1 ≤ B.lst + 1; omega
  ·cases hx
 ·have hx : (List.replicate B.size.toNat (0 : Int))[j]? = some x := hx
  rw [List.getElem?_replicate] at hx
  split at hx
  ·cases hx; show (0 : Int) ≤ 0 ∧ 0 ≤ B.lst; omega
  ·cases hx
theorem Inv.counted {B : BS} {z : Int} (h : B.Inv z) (hz : z + 1 ≤ 1000000) : B.counted.1.Inv (z + 1) := by
 unfold BS.counted
 split
 ·exact h.mono (by omega)
 ·have hlc := h.run.lc
  exact Inv.settled (Inv.set (ys := [{ noEnt with term := B.term }]) (Inv.lead2 h) (by show B.commit < B.lst + 1; omega) (Int.le_refl _) hz fun _ => rfl)
theorem Inv.stood {B : BS} {z : Int} (h : B.Inv z) : B.stood.Inv (z + 1) := by
 have hk := h.run.ok
 have hid := hk.id
 refine ⟨⟨⟨⟨hk.small.base0, hk.small.base1, hk.small.log1⟩, hk.base, hk.size, hk.id, hk.com⟩, h.run.lc, fun _ => ?_, fun e => absurd e (by show ¬ (1 : Int) = 2; omega)⟩, by have := h.len; show (B.log.length : Int) ≤ _; omega, by have := h.far; show B.lst ≤ _; omega, ?_, ?_⟩
 ·show (List.set _ _ _).length = B.size.toNat; simp
 ·have := h.term; show 0 ≤ B.term + 1 ∧ B.term + 1 ≤ _; omega
 ·show -1 ≤ B.id; omega
theorem Inv.timeout {B : BS} {z : Int} (h : B.Inv z) (hz : z + 2 ≤ 1000000) : B.timeout.1.Inv (z + 2) := by
 unfold BS.timeout
 split
 ·exact h.mono (by omega)
 ·have := Inv.counted (Inv.stood h) (by omega)
  exact this.mono (by omega)
theorem Inv.propose {B : BS} {z : Int} (h : B.Inv z) (hz : z + 1 ≤ 1000000) (at_ born : Int) (text : ByteArray) : (B.propose at_ born text).2.1.Inv (z + 1) := by
 unfold BS.propose
 split
 ·have hlc := h.run.lc
  exact Inv.settled (Inv.set (ys := [⟨B.term, at_, born, text⟩]) h (by omega) (Int.le_refl _) hz fun _ => rfl)
 ·exact h.mono (by omega)
theorem Inv.turned {B : BS} {z : Int} (h : B.Inv z) {t : Int} (ht : 0 ≤ t ∧ t ≤ FAR) (hz : 0 ≤ z) : (B.turned t (-1) 0).Inv z := by
 have hk := h.run.ok
 have hF : FAR = 1099511627776 := rfl
 exact ⟨⟨⟨⟨hk.small.base0, hk.small.base1, hk.small.log1⟩, hk.base, hk.size, hk.id, hk.com⟩, h.run.lc, fun e => absurd e (by show ¬ (0 : Int) = 1; omega), fun e => absurd e (by show ¬ (0 : Int) = 2; omega)⟩, h.len, h.far, by show 0 ≤ t ∧ t ≤ _; omega, by show (-1 : Int) ≤ -1; omega⟩
theorem Inv.asked {B : BS} {z : Int} (h : B.Inv z) (M : Msg) (hf : 0 ≤ M.from_) : (B.asked M).1.Inv z := by
 unfold BS.asked
 split
 ·have hk := h.run.ok
  exact ⟨⟨⟨⟨hk.small.base0, hk.small.base1, hk.small.log1⟩, hk.base, hk.size, hk.id, hk.com⟩, h.run.lc, h.run.vt, fun hr => ⟨(h.run.ld hr).nlen, (h.run.ld hr).mlen, (h.run.ld hr).nr, (h.run.ld hr).mr⟩⟩, h.len, h.far, h.term, by show -1 ≤ M.from_; omega⟩
 ·exact h
theorem Inv.voted {B : BS} {z : Int} (h : B.Inv z) (M : Msg) (hz : z + 1 ≤ 1000000) : (B.voted M).1.Inv (z + 1) := by
 unfold BS.voted
 split
 ·exact h.mono (by omega)
 ·have hk := h.run.ok
  refine Inv.counted ⟨⟨⟨⟨hk.small.base0, hk.small.base1, hk.small.log1⟩, hk.base, hk.size, hk.id, hk.com⟩, h.run.lc, fun hr => ?_, fun hr => ⟨(h.run.ld hr).nlen, (h.run.ld hr).mlen, (h.run.ld hr).nr, (h.run.ld hr).mr⟩⟩, h.len, h.far, h.term, h.vote⟩ hz
  show (List.set _ _ _).length = _
  rw [List.length_set]; exact h.run.vt hr
theorem Inv.follows {B : BS} {z : Int} (h : B.Inv z) (f : Int) : ({ B with role := 0, lead := f } : BS).Inv z := by
 have hk := h.run.ok
 exact ⟨⟨⟨⟨hk.small.base0, hk.small.base1, hk.small.log1⟩, hk.base, hk.size, hk.id, hk.com⟩, h.run.lc, fun e => absurd e (by show ¬ (0 : Int) = 1; omega), fun e => absurd e (by show ¬ (0 : Int) = 2; omega)⟩, h.len, h.far, h.term, h.vote⟩
theorem merge_in {B : BS} {z : Int} (hr : B.role ≠ 2) (h : B.Inv z) : ∀ (xs : List Ent) (i : Int), z + xs.length ≤ 1000000 → B.commit ≤ i → i ≤ B.lst → (B.merge i xs).Inv (z + xs.length) ∧ i + xs.length ≤ (B.merge i xs).lst
 | [], i, hz, h1, h2 => by simp only [BS.merge]; exact ⟨by simpa using h, by simpa using h2⟩
 | e :: r, i, hz, h1, h2 => by
  have hb := h.run.ok.com
  simp only [List.length_cons] at hz
  push_cast at hz
  simp only [BS.merge]
  split
  ·rename_i ht
   have hl : i + 1 ≤ B.lst := termAt_le (by rw [ht]) (by omega)
   have := merge_in hr h r (i + 1) (by omega) (by omega) hl
   refine ⟨this.1.mono (by simp only [List.length_cons]; push_cast; omega), ?_⟩
   have h3 := this.2
   simp only [List.length_cons]; push_cast; omega
  ·refine ⟨Inv.set h (by omega) (by omega) (by simp only [List.length_cons]; push_cast; omega) (fun e => absurd e hr), ?_⟩
   rw [set_lst (by omega) (by omega)]; omega
theorem Inv.fed {B : BS} {z : Int} (h : B.Inv z) (M : Msg) (hz : z + M.list.length ≤ 1000000) : (B.fed M).1.Inv (z + M.list.length) := by
 unfold BS.fed
 split
 ·exact h.mono (by omega)
 ·have hF := Inv.follows h M.from_
  dsimp only
  split
  ·exact hF.mono (by omega)
  ·split
   ·exact hF.mono (by omega)
   ·rename_i hne hc
    have hlc := h.run.lc
    have hb := h.run.ok.com
    have hr0 : ({ B with role := 0, lead := M.from_ } : BS).role ≠ 2 := by show ¬ (0 : Int) = 2; omega
    split
    ·rename_i hlt
     have hdl : ((M.list.drop (B.commit - M.index).toNat).length : Int) = M.index + M.list.length - B.commit := by rw [List.length_drop]; omega
     have hm := merge_in hr0 hF (M.list.drop (B.commit - M.index).toNat) B.commit (by omega) (Int.le_refl _) hlc
     obtain ⟨g1, g2, g3, g4⟩ := merge_same { B with role := 0, lead := M.from_ } (M.list.drop (B.commit - M.index).toNat) B.commit
     have g3 : (BS.merge { B with role := 0, lead := M.from_ } B.commit (M.list.drop (B.commit - M.index).toNat)).commit = B.commit := g3
     refine BS.Inv.mono (Inv.com hm.1 ?_ ?_) (by omega)
     ·rw [g3]; unfold mx; split <;> omega
     ·rw [g3]; have := hm.2; unfold mx mn; repeat' split
      all_goals omega
    ·rename_i hge
     have hyes : B.termAt M.index = (M.prev, true) := by
      by_cases e : B.termAt M.index = (M.prev, true)
      ·exact e
      ·exact absurd ⟨hge, e⟩ hc
     have hil : M.index ≤ B.lst := termAt_le (by rw [hyes]) (by omega)
     have hm := merge_in hr0 hF M.list M.index hz (by show B.commit ≤ _; omega) hil
     obtain ⟨g1, g2, g3, g4⟩ := merge_same { B with role := 0, lead := M.from_ } M.list M.index
     have g3 : (BS.merge { B with role := 0, lead := M.from_ } M.index M.list).commit = B.commit := g3
     refine Inv.com hm.1 ?_ ?_
     ·rw [g3]; unfold mx; split <;> omega
     ·rw [g3]; have := hm.2; unfold mx mn; repeat' split
      all_goals omega
theorem Inv.ldr {B : BS} {z : Int} (h : B.Inv z) {N Mt : List Int} (hl : ({ B with next := N, mat := Mt } : BS).Ldr) (hr : B.role = 2) : ({ B with next := N, mat := Mt } : BS).Inv z := by
 have hk := h.run.ok
 exact ⟨⟨⟨⟨hk.small.base0, hk.small.base1, hk.small.log1⟩, hk.base, hk.size, hk.id, hk.com⟩, h.run.lc, fun e => absurd (e.symm.trans hr) (by decide), fun _ => hl⟩, h.len, h.far, h.term, h.vote⟩
theorem Inv.heard {B : BS} {z : Int} (h : B.Inv z) (M : Msg) (hf : M.from_.toNat < B.size.toNat) : (B.heard M).1.Inv z := by
 unfold BS.heard
 split
 ·exact h
 ·rename_i hr
  have hr : B.role = 2 := by omega
  have hL := h.run.ld hr
  have hl0 : 0 ≤ B.lst := by have := h.run.ok.small.base0; have := lst_def B; omega
  dsimp only
  split
  ·exact Inv.ldr h (hL.unfed hf M.index) hr
  ·have h2 : (B.fedTo M.from_.toNat M.index).Inv z := Inv.ldr h (hL.fedTo hf M.index hl0) hr
   split
   ·exact Inv.settled h2
   ·exact Inv.settled h2
theorem rebase_lst {B : BS} {i : Int} (h1 : B.base ≤ i) (h2 : i ≤ B.lst) (t : Int) (sn : ByteArray) : (B.rebase i t sn (B.log.drop (i - B.base).toNat)).lst = B.lst := by
 have e : (B.rebase i t sn (B.log.drop (i - B.base).toNat)).lst = i + ((B.log.drop (i - B.base).toNat).length : Int) := rfl
 have := lst_def B
 rw [e, List.length_drop]; omega
theorem Inv.cut {B : BS} {z : Int} (h : B.Inv z) {i : Int} (h1 : B.base < i) (h2 : i ≤ B.commit) (hz : z ≤ 1000000) (t : Int) (sn : ByteArray) : (B.rebase i t sn (B.log.drop (i - B.base).toNat)).Inv z := by
 have hk := h.run.ok
 have hlc := h.run.lc
 have hb0 := hk.small.base0
 have hF : FAR = 1099511627776 := rfl
 have g := rebase_lst (B := B) (i := i) (by omega) (by omega) t sn
 have hlen : (((B.rebase i t sn (B.log.drop (i - B.base).toNat)).log.length : Nat) : Int) ≤ z := by
  have := h.len
  show ((B.log.drop _).length : Int) ≤ z
  rw [List.length_drop]; omega
 have hfar := h.far
 refine ⟨⟨BS.Ok.of (by show 0 ≤ i; omega) (by omega) (by omega) hk.size hk.id h2, by rw [g]; exact hlc, h.run.vt, fun hr => ?_⟩, hlen, by omega, h.term, h.vote⟩
 have hL := h.run.ld hr
 exact ⟨hL.nlen, hL.mlen, fun j x hx => by rw [g]; exact hL.nr j x hx, fun j x hx => by rw [g]; exact hL.mr j x hx⟩
theorem Inv.given {B : BS} {z : Int} (h : B.Inv z) (M : Msg) (hi : M.index ≤ FAR) (hz : 0 ≤ z ∧ z ≤ 1000000) : (B.given M).1.Inv z := by
 have hF : FAR = 1099511627776 := rfl
 unfold BS.given
 split
 ·exact h
 ·split
  ·exact Inv.follows h M.from_
  ·rename_i hr hgt
   have hk := h.run.ok
   have hb0 := hk.small.base0
   have hbc := hk.com
   have hlen := h.len
   have hfar := h.far
   have key : ∀ rest : List Ent, (rest.length : Int) ≤ z → M.index + rest.length ≤ 2 * FAR + z → ({ ({ B with role := 0, lead := M.from_ }.rebase M.index M.prev M.snap rest) with commit := M.index } : BS).Inv z := by
    intro rest h1 h2
    have e : ({ ({ B with role := 0, lead := M.from_ }.rebase M.index M.prev M.snap rest) with commit := M.index } : BS).lst = M.index + rest.length := rfl
    exact ⟨⟨BS.Ok.of (by show 0 ≤ M.index; omega) (by rw [e]; omega) (by show rest.length ≤ _; omega) hk.size hk.id (Int.le_refl _), by rw [e]; show M.index ≤ _; omega, fun e => absurd e (by show ¬ (0 : Int) = 1; omega), fun e => absurd e (by show ¬ (0 : Int) = 2; omega)⟩, h1, by rw [e]; exact h2, h.term, h.vote⟩
   split
   ·rename_i ht
    have hil : M.index ≤ B.lst := termAt_le (by rw [ht]) (by omega)
    have hd := lst_def B
    refine key _ ?_ ?_ <;> · rw [List.length_drop]; omega
   ·exact key [] (by simp; omega) (by simp; omega)
theorem Inv.take {B : BS} {z : Int} (h : B.Inv z) (M : Msg) (hz : 0 ≤ z ∧ z + (1 + M.list.length) ≤ 1000000) : (B.take M).1.Inv (z + (1 + M.list.length)) := by
 unfold BS.take
 split
 ·exact h.mono (by omega)
 ·rename_i hst
  have hst : M.strange B.id B.size = false := by simpa using hst
  unfold Msg.strange at hst
  simp only [Bool.or_eq_false_iff, decide_eq_false_iff_not] at hst
  obtain ⟨f1, f2, f3, f4, f5, f6, f7, f8, f9, f10, ⟨f11, f12⟩, f13, f14⟩ := hst
  have hF : FAR = 1099511627776 := rfl
  have hs : (B.seen M).Inv z ∧ (B.seen M).size = B.size := by
   unfold BS.seen
   split
   ·exact ⟨Inv.turned h (by omega) hz.1, rfl⟩
   ·exact ⟨h, rfl⟩
  obtain ⟨hs, hsz⟩ := hs
  split
  ·exact hs.mono (by omega)
  ·unfold BS.does
   split
   ·exact (Inv.asked hs M (by omega)).mono (by omega)
   ·split
    ·exact (Inv.voted hs M (by omega)).mono (by omega)
    ·split
     ·exact (Inv.fed hs M (by omega)).mono (by omega)
     ·split
      ·exact (Inv.heard hs M (by rw [hsz]; omega)).mono (by omega)
      ·exact (Inv.given hs M (by omega) ⟨hz.1, by omega⟩).mono (by omega)
end
section
attribute [-simp] Fw.W.ld_iff Fw.W.st_iff
section
variable {s : PH} {b : Nat} {l v n m : Tri} {B : BS}
theorem clone_log {K : MDen [(false, [.slice])] → W.T} (h : Bal s b l v n m B) (hs : B.Small) {k : Nat} (hk : k ≤ B.log.length) (hK : ∀ (t : Tri) s', rowE entE s' 43 t.1 t.2.1 t.2.2 (B.log.drop k) → Fw.Mod [] s s' → (∀ g ∈ Fw.blk t.1, s g = none) → K ((t, ()), ()) s') :
  W.call Tryz.prog 79 #[.slice (if l.2.2 = k then l.1 else Option.map (fun x => x.add (k * 4)) l.1) (l.2.1 - k) (l.2.2 - k)] (false, [(false, [.slice])]) K s := by
 have hll : l.2.1 = B.log.length := h.log.len
 have hlc2 := h.log.le
 obtain ⟨q1, q2, q3⟩ := hs
 have hsrc := h.log.src (i := k) (m := l.2.1 - k) (by omega)
 rw [List.take_of_length_le (by rw [List.length_drop, hll]; exact Nat.le_refl _)] at hsrc
 refine W.call_of (c_Clone (ys := B.log.drop k) hsrc (by rw [List.length_drop, hll]) (by omega)) ?_
 rintro _ s4 ⟨t4, rfl, _, hrow4, m4, hf4⟩
 exact ⟨((t4, ()), ()), rfl, hK t4 s4 hrow4 m4 hf4⟩
def BS.cut (B : BS) (i : Int) (sn : ByteArray) : BS := if i ≤ B.base ∨ i > B.commit then B else B.rebase i (B.termAt i).1 sn (B.log.drop (i - B.base).toNat)
def BS.cuts (B : BS) (i : Int) : Bool := !decide (i ≤ B.base ∨ i > B.commit)
def CutPost (B : BS) (i : Int) (sn : ByteArray) (b : Nat) (l v n m : Tri) (s : PH) (x : Value) (s' : PH) : Prop := ∃ l' : Tri, x = .bool (B.cuts i) ∧ Bal s' b l' v n m (B.cut i sn) ∧ Step (bL b l v n m) (bL b l' v n m) s s'
theorem c_Cut (h : Bal s b l v n m B) (hs : B.Small) (hbs : B.base ≤ 4611686016279904256) (hlc : B.commit ≤ B.lst) (i : Int) (sn : ByteArray) : DCalls Tryz.prog 52 #[bptr b, .int .i64 i, .string sn] s (CutPost B i sn b l v n m s) := by
 refine ok_Cut b i sn _ s ?_
 unfold vc_Cut
 have hb := h.cell
 have hnl := num_lst hs hbs
 obtain ⟨q1, q2, q3⟩ := id hs
 have hd := lst_def B
 unfold Num at hnl
 have no : (i ≤ B.base ∨ i > B.commit) → CutPost B i sn b l v n m s (.bool false) s := fun hc => ⟨l, by unfold BS.cuts; rw [decide_eq_true hc]; (first | done | rfl), by unfold BS.cut; rw [if_pos hc]; exact h, Step.refl _ _⟩
 simp only [RP_join]
 refine W.join_gen (fun z s' => s' = s ∧ z = () ∧ ¬ (i ≤ B.base ∨ i > B.commit)) ?_ ?_
 ·rintro _ s ⟨rfl, rfl, hc⟩
  obtain ⟨k, hk⟩ : ∃ k : Nat, (i - B.base).toNat = k := ⟨_, rfl⟩
  have hw : i64.wrap (i - B.base) = (k : Int) := by rw [wrap_in (by omega) (by omega)]; omega
  have hll : l.2.1 = B.log.length := h.log.len
  have hlc2 := h.log.le
  refine W.call_of (c_term h hs (i := i) (by unfold Num; omega)) ?_
  rintro _ s2 ⟨rfl, m2⟩
  refine ⟨(((B.termAt i).1, ()), ((B.termAt i).2, ()), ()), rfl, ?_⟩
  have h2 := h.new m2
  have hb2 := h2.cell
  simp [W.ld_at hb2, hw]
  refine ⟨⟨by omega, by omega⟩, ?_⟩
  refine clone_log h2 hs (k := k) (by omega) ?_
  intro t s3 hrow m3 hf
  have h3 := h2.new m3
  refine W.call_of (c_rebase h3 i (B.termAt i).1 sn hrow) ?_
  rintro _ s4 ⟨rfl, h4, m4⟩
  refine ⟨(), rfl, (t.1, t.2.1, t.2.2), by unfold BS.cuts; rw [decide_eq_false hc]; (first | done | rfl), by unfold BS.cut; rw [if_neg hc, hk]; exact h4, ?_⟩
  have m23 := m2.trans m3
  refine ⟨(m23.mono (by simp)).trans (m4.mono (by simp [bL])), fun z hz => ?_⟩
  simp only [bL, List.mem_cons, List.mem_append] at hz ⊢
  rcases hz with hz | hz | hz
  ·exact .inl (.inl hz)
  ·exact .inr (m2.none (hf z hz) (by simp))
  ·exact .inl (.inr (.inr hz))
 ·intro J hJ
  simp [W.ld_at hb, W.br_iff]
  refine ⟨fun h1 => no (.inl h1), fun h1 => ⟨fun h2 => no (.inr h2), fun h2 => hJ _ _ ⟨rfl, rfl, by omega⟩⟩⟩
structure Dl where
 term : Int
 vote : Int
 whole : Bool
 base : Int
 baseTerm : Int
 snap : ByteArray
 from_ : Int
 list : List Ent
abbrev dlCells (D : Dl) (t : Tri) : List Value := [.int .i64 D.term, .int .i64 D.vote, .bool D.whole, .int .i64 D.base, .int .i64 D.baseTerm, .string D.snap, .int .i64 D.from_, .slice t.1 t.2.1 t.2.2]
abbrev dlV (D : Dl) (t : Tri) : Value := .agg #[.int .i64 D.term, .int .i64 D.vote, .bool D.whole, .int .i64 D.base, .int .i64 D.baseTerm, .string D.snap, .int .i64 D.from_, .slice t.1 t.2.1 t.2.2]
def BS.deltaOf (B : BS) : Dl := if B.whole = true then ⟨B.term, B.vote, true, B.base, B.baseTerm, B.snap, B.base + 1, B.log⟩ else ⟨B.term, B.vote, false, 0, 0, ⟨#[]⟩, B.from_, B.log.drop (B.from_ - B.base - 1).toNat⟩
def BS.cleaned (B : BS) : BS := { B with touched := false, whole := false, from_ := B.lst + 1 }
def DeltaPost (B : BS) (b : Nat) (l v n m : Tri) (s : PH) (x : Value) (s' : PH) : Prop :=
 (B.touched = false ∧ x = .tuple #[noDelta, .bool false] ∧ Bal s' b l v n m B ∧ Fw.Mod [] s s') ∨
 (B.touched = true ∧ ∃ t : Tri, x = .tuple #[dlV B.deltaOf t, .bool true] ∧ rowE entE s' 43 t.1 t.2.1 t.2.2 B.deltaOf.list ∧ Bal s' b l v n m B.cleaned ∧ Fw.Mod [b] s s' ∧ ∀ y ∈ Fw.blk t.1, s y = none)
def DelJ (B : BS) (r q : Nat) (s : PH) (z : MDen [(false, [.addr]), (false, [.addr])]) (s' : PH) : Prop :=
 z = ((Addr.mk r 0 none, ()), (Addr.mk q 0 none, ()), ()) ∧ s' q = some (.cells (dlCells B.deltaOf noTri).toArray 113 (0, 0)) ∧ Fw.Mod [] s s'
theorem c_Delta (h : Bal s b l v n m B) (hs : B.Small) (hbs : B.base ≤ 4611686016279904256) (hf : B.whole = false → B.base < B.from_ ∧ B.from_ ≤ B.lst + 1) : DCalls Tryz.prog 62 #[bptr b] s (DeltaPost B b l v n m s) := by
 refine ok_Delta b _ s ?_
 unfold vc_Delta
 have hb := h.cell
 have hnl := num_lst hs hbs
 obtain ⟨q1, q2, q3⟩ := id hs
 have hd := lst_def B
 unfold Num at hnl
 simp only [RP_nw]
 refine W.nw_of fun r s1 hr m1 k1 => ?_
 have h1 := h.new m1
 have hb1 := h1.cell
 simp only [RP_join]
 refine W.join_gen (fun z s' => s' = s1 ∧ z = ((Addr.mk r 0 none, ()), ()) ∧ B.touched = true) ?_ ?_
 ·rintro _ s1 ⟨rfl, rfl, ht⟩
  simp [W.ld_at hb1, -W.nw_iff]
  refine W.nw_of fun q s2 hq m2 k2 => ?_
  have k1' := m2.at k1 (by simp)
  have hb2 := m2.at hb1 (by simp)
  have hrq : r ≠ q := ne_of_known k1 hq
  have hbq : b ≠ q := ne_of_known hb1 hq
  have hbr : b ≠ r := ne_of_known hb hr
  simp [W.st_at k2]
  have m3 : Fw.Mod [] s1 (s2.upd q (.cells #[.int .i64 B.term, .int .i64 B.vote, .bool false, .int .i64 0, .int .i64 0, .string ⟨#[]⟩, .int .i64 B.from_, .slice none 0 0] 113 (0, 0))) := m2.updLater (.inr hq)
  have k3 := PH.upd_same s2 q (.cells #[.int .i64 B.term, .int .i64 B.vote, .bool false, .int .i64 0, .int .i64 0, .string ⟨#[]⟩, .int .i64 B.from_, .slice none 0 0] 113 (0, 0))
  generalize s2.upd q (.cells #[.int .i64 B.term, .int .i64 B.vote, .bool false, .int .i64 0, .int .i64 0, .string ⟨#[]⟩, .int .i64 B.from_, .slice none 0 0] 113 (0, 0)) = s3 at m3 k3 ⊢
  have hb3 := m3.at hb1 (by simp)
  refine W.join_gen (DelJ B r q s1) ?_ ?_
  ·rintro _ s4 ⟨rfl, k4, m4⟩
   have h4 := h1.new m4
   have hb4 := h4.cell
   obtain ⟨k, hk, hkl, hw⟩ : ∃ k : Nat, B.deltaOf.list = B.log.drop k ∧ k ≤ B.log.length ∧ i64.wrap (i64.wrap (B.deltaOf.from_ - B.base) - 1) = (k : Int) := by
    unfold BS.deltaOf
    split
    ·exact ⟨0, by simp, Nat.zero_le _, by dsimp only; rw [wrap_in (n := B.base + 1 - B.base) (by omega) (by omega), wrap_in (by omega) (by omega)]; simp; omega⟩
    ·rename_i hwf
     have := hf (by simpa using hwf)
     refine ⟨_, rfl, by omega, ?_⟩
     dsimp only
     rw [wrap_in (n := B.from_ - B.base) (by omega) (by omega), wrap_in (by omega) (by omega)]; omega
   have hll : l.2.1 = B.log.length := h4.log.len
   have hlc2 := h4.log.le
   simp [W.ld_at hb4, W.ld_at k4, hw]
   refine ⟨⟨by omega, by omega⟩, ?_⟩
   refine clone_log h4 hs hkl ?_
   intro t s5 hrow m5 hft
   rw [← hk] at hrow
   have h5 := h4.new m5
   have k5 := m5.at k4 (by simp)
   simp [W.st_at k5]
   have hft1 : ∀ g ∈ Fw.blk t.1, s1 g = none := fun g hg => m4.none (hft g hg) (by simp)
   have hft0 : ∀ g ∈ Fw.blk t.1, s g = none := fun g hg => m1.none (hft1 g hg) (by simp)
   have hqt : q ∉ Fw.blk t.1 := row_ne2 hrow k5 (by decide)
   have m6 : Fw.Mod [] s1 (s5.upd q (.cells (dlCells B.deltaOf t).toArray 113 (0, 0))) := (m4.trans m5).updLater (.inr hq)
   have k6 : (s5.upd q (.cells (dlCells B.deltaOf t).toArray 113 (0, 0))) q = some (.cells (dlCells B.deltaOf t).toArray 113 (0, 0)) := PH.upd_same _ _ _
   have hrow6 : rowE entE (s5.upd q (.cells (dlCells B.deltaOf t).toArray 113 (0, 0))) 43 t.1 t.2.1 t.2.2 B.deltaOf.list := hrow.mod (L := [q]) (Mod.upd (by simp)) fun x hx => by simp; rintro rfl; exact hqt hx
   have hgo : ∀ s6, Fw.Mod [] s1 s6 → s6 q = some (.cells (dlCells B.deltaOf t).toArray 113 (0, 0)) → rowE entE s6 43 t.1 t.2.1 t.2.2 B.deltaOf.list →
     W.call Tryz.prog 87 #[bptr b] (true, []) (fun x => W.ld [.int .i64, .int .i64, .bool, .int .i64, .int .i64, .str, .int .i64, .slice] ⟨q, 0, none⟩ fun x =>
      W.st ⟨r, 0, none⟩ [.int .i64 x.1, .int .i64 x.2.1, .bool x.2.2.1, .int .i64 x.2.2.2.1, .int .i64 x.2.2.2.2.1, .string x.2.2.2.2.2.1, .int .i64 x.2.2.2.2.2.2.1, .slice x.2.2.2.2.2.2.2.1.1 x.2.2.2.2.2.2.2.1.2.1 x.2.2.2.2.2.2.2.1.2.2]
      (W.ld [.int .i64, .int .i64, .bool, .int .i64, .int .i64, .str, .int .i64, .slice] ⟨r, 0, none⟩ fun x =>
       W.ret (DeltaPost B b l v n m s) (.tuple #[.agg #[.int .i64 x.1, .int .i64 x.2.1, .bool x.2.2.1, .int .i64 x.2.2.2.1, .int .i64 x.2.2.2.2.1, .string x.2.2.2.2.2.1, .int .i64 x.2.2.2.2.2.2.1, .slice x.2.2.2.2.2.2.2.1.1 x.2.2.2.2.2.2.2.1.2.1 x.2.2.2.2.2.2.2.1.2.2], .bool true]))) s6 := by
    intro s6 m6 k6 hrow6
    have h6 := h1.new m6
    refine W.call_of (c_clean h6 hs) ?_
    rintro _ s7 ⟨rfl, h7, m7⟩
    refine ⟨(), rfl, ?_⟩
    have k7 := m7.at k6 (by simpa using hbq.symm)
    have kr7 := m7.at (m6.at k1 (by simp)) (by simpa using hbr.symm)
    have hrow7 := hrow6.mod m7 fun x hx => by simp; rintro rfl; have := hft0 _ hx; rw [hb] at this; cases this
    have hrt : r ∉ Fw.blk t.1 := row_ne2 hrow7 kr7 (by decide)
    simp [W.ld_at k7, W.st_at kr7]
    refine .inr ⟨ht, t, rfl, hrow7.mod (L := [r]) (Mod.upd (by simp)) fun x hx => by simp; rintro rfl; exact hrt hx, ?_, ?_, hft0⟩
    ·exact Bal.mod (M := [r]) h7 (Mod.upd (by simp)) fun x hx => by simp; rintro rfl; exact h.known _ hx hr
    ·exact (((m1.trans m6).mono (by simp)).trans m7).updLater (.inr hr)
   exact hgo _ m6 k6 hrow6
  ·intro J hJ
   have hmod : ∀ o, Fw.Mod [] s1 (s3.upd q o) := fun o => m3.updLater (.inr hq)
   simp [W.ld_at hb3, W.br_iff, W.st_at k3, fun o => W.still_at (upd_at hb3 hbq o), fun o => W.ld_at (upd_at hb3 hbq o)]
   have hwb : i64.wrap (B.base + 1) = B.base + 1 := wrap_in (by omega) (by omega)
   rw [hwb]
   refine ⟨fun hw => hJ _ _ ⟨rfl, ?_, hmod _⟩, fun hw => hJ _ _ ⟨rfl, ?_, m3⟩⟩
   ·rw [PH.upd_same]; unfold BS.deltaOf; rw [if_pos hw]
   ·rw [k3]; unfold BS.deltaOf; rw [if_neg (by rw [hw]; simp)]
 ·intro J hJ
  simp [W.ld_at hb1, W.br_iff, W.st_at k1]
  refine ⟨fun hf => .inl ⟨hf, rfl, ?_, m1.updLater (.inr hr)⟩, fun ht => hJ _ _ ⟨rfl, rfl, ht⟩⟩
  exact h.new (m1.updLater (.inr hr))
end
end
section
attribute [-simp] Fw.W.ld_iff Fw.W.st_iff
abbrev msgA (M : Msg) (t : Tri) : Array Value :=
 #[.int .i64 M.kind, .int .i64 M.from_, .int .i64 M.to, .int .i64 M.term, .int .i64 M.index, .int .i64 M.prev, .int .i64 M.commit, .bool M.good, .slice t.1 t.2.1 t.2.2, .string M.snap]
abbrev dlA (D : Dl) (t : Tri) : Array Value := #[.int .i64 D.term, .int .i64 D.vote, .bool D.whole, .int .i64 D.base, .int .i64 D.baseTerm, .string D.snap, .int .i64 D.from_, .slice t.1 t.2.1 t.2.2]
def Msg.nums (M : Msg) : List Int := [M.kind, M.from_, M.to, M.term, M.index, M.prev, M.commit]
structure Msg.I (M : Msg) : Prop where
 nums : ∀ x ∈ M.nums, I64 x
 list : ∀ x ∈ M.list, x.I
 len : M.list.length ≤ 1099511627776
def encM (M : Msg) : List UInt8 := M.nums.flatMap encN ++ (encB M.good ++ (encL M.list ++ encT M.snap))
structure Dl.I (D : Dl) : Prop where
 nums : I64 D.term ∧ I64 D.vote ∧ I64 D.base ∧ I64 D.baseTerm ∧ I64 D.from_
 list : ∀ x ∈ D.list, x.I
 len : D.list.length ≤ 1099511627776
def encD (D : Dl) : List UInt8 := [D.term, D.vote].flatMap encN ++ (encB D.whole ++ ([D.base, D.baseTerm].flatMap encN ++ (encT D.snap ++ ([D.from_].flatMap encN ++ encL D.list))))
def PieceQ (c pb : Nat) (rd : Bool) (g : List Nat) (bs' : List UInt8) (O : Tri → Obj) (t0 : Tri) (l : List Ent) (s : PH) (y : Value) (s' : PH) : Prop :=
 y = .tuple #[] ∧ ∃ (t : Tri) (g' : List Nat), Cod s' c rd g' bs' ∧ (∀ x ∈ g', x ∈ g ∨ s x = none) ∧ Fw.Mod (c :: pb :: g) s s' ∧ s' pb = some (O t) ∧ rowE entE s' 43 t.1 t.2.1 t.2.2 l ∧
  (rd = false → t = t0) ∧ (rd = true → ∀ x ∈ Fw.blk t.1, s x = none ∨ x ∈ g)
theorem ptr_one {pb off : Nat} : ∀ i, i < 1 → (#[Value.pointer (some ⟨pb, off, none⟩)] : Array Value)[i]? = some (.pointer (some ⟨pb, off + i, none⟩)) := by
 intro i hi
 have : i = 0 := by omega
 subst this; (first | done | rfl)
theorem c_wmsg {s : PH} {c pb : Nat} {rd : Bool} {g : List Nat} {bs bs' : List UInt8} {e : TypeId} {M old : Msg} {t0 : Tri} (h : Cod s c rd g bs) (hp : s pb = some (.cells (msgA old t0) e (0, 0))) (hne : pb ≠ c) (hpg : pb ∉ g)
  (hw : rd = false → old = M ∧ rowE entE s 43 t0.1 t0.2.1 t0.2.2 M.list ∧ ∀ x ∈ Fw.blk t0.1, x ≠ c ∧ x ≠ pb ∧ x ∉ g) (hrd : rd = true → t0 = noTri) (hI : M.I) (ha : Adv rd (encM M) bs bs') (hl : bs'.length ≤ 1099511627776) :
  DCalls Tryz.prog 89 #[cptr c, .pointer (some ⟨pb, 0, none⟩)] s (PieceQ c pb rd g bs' (fun t => .cells (msgA M t) e (0, 0)) t0 M.list s) := by
 refine ok_wmsg c ⟨pb, 0, none⟩ _ s ?_
 unfold vc_wmsg
 obtain ⟨b1, a1, ha, l1⟩ := ha.split h.lenB hl
 simp only [RP_unSome, W.unSome_some, add_mk, Nat.zero_add, RP_nw]
 refine W.nw_of fun r s1 hr m1 k1 => ?_
 have hp1 := m1.at hp (by simp)
 simp only [RP_call]
 refine W.call_of (c_wnums (pb := pb) (off := 0) (xs := M.nums) (old := old.nums) (h.new m1) hp1 hne hpg k1 (by rintro rfl; exact h.c_known hr) (fun hx => h.g_known r hx hr) (ne_of_known' hp hr) ?_ ?_ rfl (by simp [Msg.nums]) (fun e => by rw [(hw e).1]) hI.nums a1 l1) ?_
 ·intro i hi
  match i, hi with
  | 0, _ => rfl
  | 1, _ => rfl
  | 2, _ => rfl
  | 3, _ => rfl
  | 4, _ => rfl
  | 5, _ => rfl
  | 6, _ => rfl
  | i + 7, hi => simp [Msg.nums] at hi; omega
 ·intro i x hx
  match i, hx with
  | 0, hx => simp [Msg.nums] at hx; simp [hx]
  | 1, hx => simp [Msg.nums] at hx; simp [hx]
  | 2, hx => simp [Msg.nums] at hx; simp [hx]
  | 3, hx => simp [Msg.nums] at hx; simp [hx]
  | 4, hx => simp [Msg.nums] at hx; simp [hx]
  | 5, hx => simp [Msg.nums] at hx; simp [hx]
  | 6, hx => simp [Msg.nums] at hx; simp [hx]
  | i + 7, hx => simp [Msg.nums] at hx
 rintro _ s2 ⟨rfl, w2⟩
 refine ⟨(), rfl, ?_⟩
 obtain ⟨g2, hC2, hg2, m2, k2, hpg2⟩ := w2.ok (by rw [hp1]; simp) hpg
 have k2' : s2 pb = some (.cells (msgA { M with good := old.good, list := old.list, snap := old.snap } t0) e (0, 0)) := k2
 have m02 : Fw.Mod (c :: pb :: g) s s2 := (m1.mono (by simp) : Fw.Mod (c :: pb :: g) s s1).trans m2
 have hg02 : ∀ x ∈ g2, x ∈ g ∨ s x = none := fun x hx => (hg2 x hx).imp_right fun h => m1.none h (by simp)
 obtain ⟨b2, a2, ha, l2⟩ := ha.split hC2.lenB hl
 simp only [W.unSome_some, add_mk, Nat.zero_add]
 refine W.call_of (c_wflag (pb := pb) (off := 7) (b := M.good) (y := old.good) hC2 k2' hne hpg2 rfl (fun e => by rw [(hw e).1]) a2 l2) ?_
 rintro _ s3 ⟨rfl, w3⟩
 refine ⟨(), rfl, ?_⟩
 have w3 := went_trans hg02 m02 (Mod.refl _ _) (by rw [k2']; simp) w3
 obtain ⟨g3, hC3, hg3, m3, k3, hpg3⟩ := w3.ok (by rw [hp]; simp) hpg
 have k3' : s3 pb = some (.cells (msgA { M with list := old.list, snap := old.snap } t0) e (0, 0)) := k3
 obtain ⟨b3, a3, ha, l3⟩ := ha.split hC3.lenB hl
 simp only [W.unSome_some, add_mk, Nat.zero_add]
 refine W.call_of (c_witems (pb := pb) (off := 8) (t0 := t0) (l := M.list) hC3 k3' hne hpg3 rfl (fun e => ?_) hrd hI.list a3 l3 hI.len) ?_
 ·obtain ⟨_, hrow, hap⟩ := hw e
  refine ⟨hrow.mod m3 fun x hx => ?_, fun x hx => ⟨(hap x hx).1, (hap x hx).2.1, fun hg => (hg3 x hg).elim (hap x hx).2.2 (hrow.known x hx)⟩⟩
  simp; exact ⟨(hap x hx).1, (hap x hx).2.1, (hap x hx).2.2⟩
 rintro _ s4 ⟨rfl, t, g4, hC4, hg4, m4, k4, hrow4, ht1, ht2, hapg⟩
 refine ⟨(), rfl, ?_⟩
 have k4' : s4 pb = some (.cells (msgA { M with snap := old.snap } t) e (0, 0)) := k4
 have hpg4 : pb ∉ g4 := fun hx => (hg4 pb hx).elim hpg3 (by rw [k3']; simp)
 have hfr : rd = true → ∀ x ∈ Fw.blk t.1, s x = none ∨ x ∈ g := fun e x hx => by
  rcases ht2 e x hx with h' | h'
  ·by_cases hxL : x ∈ c :: pb :: g
   ·rcases List.mem_cons.1 hxL with rfl | hxL
    ·exact absurd h' hC3.c_known
    rcases List.mem_cons.1 hxL with rfl | hxL
    ·rw [k3'] at h'; cases h'
    ·exact .inr hxL
   ·exact .inl (m3.none h' hxL)
  ·exact (hg3 x h').symm
 have hapt : ∀ x ∈ Fw.blk t.1, x ≠ c ∧ x ≠ pb := fun x hx => by
  cases hrdv : rd with
  | true =>
   have := hfr hrdv x hx
   refine ⟨?_, ?_⟩
   ·rintro rfl; exact this.elim h.c_known h.c_ng
   ·rintro rfl; exact this.elim (by rw [hp]; simp) hpg
  | false =>
   have e := ht1 hrdv
   subst e
   exact ⟨((hw hrdv).2.2 x hx).1, ((hw hrdv).2.2 x hx).2.1⟩
 simp only [W.unSome_some, add_mk, Nat.zero_add]
 refine W.nw_of fun q s5 hq m5 k5 => ?_
 have hp5 := m5.at k4' (by simp)
 refine W.call_of (c_wtexts (pb := pb) (off := 9) (t := M.snap) (y := old.snap) (hC4.new m5) hp5 hne hpg4 k5 (by rintro rfl; exact hC4.c_known hq) (fun hx => hC4.g_known q hx hq) (ne_of_known' k4' hq) rfl rfl (fun e => by rw [(hw e).1]) ha hl) ?_
 rintro _ s6 ⟨rfl, w6⟩
 refine ⟨(), rfl, ?_⟩
 have m04 : Fw.Mod (c :: pb :: g) s s4 := by
  refine m3.fresh m4 fun y hy => ?_
  rcases List.mem_cons.1 hy with rfl | hy
  ·exact .inl (by simp)
  rcases List.mem_cons.1 hy with rfl | hy
  ·exact .inl (by simp)
  ·exact (hg3 y hy).imp (fun h => by simp [h]) _root_.id
 have hg04 : ∀ x ∈ g4, x ∈ g ∨ s x = none := fun x hx => by
  rcases hg4 x hx with h' | h'
  ·exact hg3 x h'
  ·by_cases hxL : x ∈ c :: pb :: g
   ·rcases List.mem_cons.1 hxL with rfl | hxL
    ·exact absurd hx hC4.c_ng
    rcases List.mem_cons.1 hxL with rfl | hxL
    ·exact absurd hx hpg4
    ·exact .inl hxL
   ·exact .inr (m3.none h' hxL)
 have hrow6 : rowE entE s6 43 t.1 t.2.1 t.2.2 M.list := by
  obtain ⟨g6, _, _, m6, _⟩ := w6
  exact (hrow4.mod m5 (by simp)).mod m6 (by intro x hx; simp; exact ⟨(hapt x hx).1, (hapt x hx).2, hapg x hx⟩)
 obtain ⟨g6, hC6, hg6, m6, k6⟩ := went_trans hg04 m04 m5 (by rw [hp5]; simp) w6
 exact ⟨rfl, t, g6, hC6, hg6, m6, k6, hrow6, ht1, hfr⟩
end
section
attribute [-simp] Fw.W.ld_iff Fw.W.st_iff
theorem c_wdelta {s : PH} {c pb : Nat} {rd : Bool} {g : List Nat} {bs bs' : List UInt8} {e : TypeId} {D old : Dl} {t0 : Tri} (h : Cod s c rd g bs) (hp : s pb = some (.cells (dlA old t0) e (0, 0))) (hne : pb ≠ c) (hpg : pb ∉ g)
  (hw : rd = false → old = D ∧ rowE entE s 43 t0.1 t0.2.1 t0.2.2 D.list ∧ ∀ x ∈ Fw.blk t0.1, x ≠ c ∧ x ≠ pb ∧ x ∉ g) (hrd : rd = true → t0 = noTri) (hI : D.I) (ha : Adv rd (encD D) bs bs') (hl : bs'.length ≤ 1099511627776) :
  DCalls Tryz.prog 85 #[cptr c, .pointer (some ⟨pb, 0, none⟩)] s (PieceQ c pb rd g bs' (fun t => .cells (dlA D t) e (0, 0)) t0 D.list s) := by
 refine ok_wdelta c ⟨pb, 0, none⟩ _ s ?_
 unfold vc_wdelta
 obtain ⟨i1, i2, i3, i4, i5⟩ := hI.nums
 obtain ⟨b1, a1, ha, l1⟩ := ha.split h.lenB hl
 simp only [RP_unSome, W.unSome_some, add_mk, Nat.zero_add, RP_nw]
 refine W.nw_of fun r s1 hr m1 k1 => ?_
 have hp1 := m1.at hp (by simp)
 simp only [RP_call]
 refine W.call_of (c_wnums (pb := pb) (off := 0) (xs := [D.term, D.vote]) (old := [old.term, old.vote]) (h.new m1) hp1 hne hpg k1 (by rintro rfl; exact h.c_known hr) (fun hx => h.g_known r hx hr) (ne_of_known' hp hr) ?_ ?_ rfl (by simp) (fun e => by rw [(hw e).1]) (by intro y hy; simp at hy; rcases hy with rfl | rfl <;> assumption) a1 l1) ?_
 ·intro i hi
  match i, hi with
  | 0, _ => rfl
  | 1, _ => rfl
  | i + 2, hi => simp at hi; omega
 ·intro i x hx
  match i, hx with
  | 0, hx => simp at hx; simp [hx]
  | 1, hx => simp at hx; simp [hx]
  | i + 2, hx => simp at hx
 rintro _ s2 ⟨rfl, w2⟩
 refine ⟨(), rfl, ?_⟩
 obtain ⟨g2, hC2, hg2, m2, k2, hpg2⟩ := w2.ok (by rw [hp1]; simp) hpg
 have k2' : s2 pb = some (.cells (dlA { old with term := D.term, vote := D.vote } t0) e (0, 0)) := k2
 have m02 : Fw.Mod (c :: pb :: g) s s2 := (m1.mono (by simp) : Fw.Mod (c :: pb :: g) s s1).trans m2
 have hg02 : ∀ x ∈ g2, x ∈ g ∨ s x = none := fun x hx => (hg2 x hx).imp_right fun h => m1.none h (by simp)
 obtain ⟨b2, a2, ha, l2⟩ := ha.split hC2.lenB hl
 simp only [W.unSome_some, add_mk, Nat.zero_add]
 refine W.call_of (c_wflag (pb := pb) (off := 2) (b := D.whole) (y := old.whole) hC2 k2' hne hpg2 rfl (fun e => by rw [(hw e).1]) a2 l2) ?_
 rintro _ s3 ⟨rfl, w3⟩
 refine ⟨(), rfl, ?_⟩
 have w3 := went_trans hg02 m02 (Mod.refl _ _) (by rw [k2']; simp) w3
 obtain ⟨g3, hC3, hg3, m3, k3, hpg3⟩ := w3.ok (by rw [hp]; simp) hpg
 have k3' : s3 pb = some (.cells (dlA { old with term := D.term, vote := D.vote, whole := D.whole } t0) e (0, 0)) := k3
 obtain ⟨b3, a3, ha, l3⟩ := ha.split hC3.lenB hl
 simp only [W.unSome_some, add_mk, Nat.zero_add]
 refine W.nw_of fun r4 s4 hr4 m4 k4 => ?_
 have hp4 := m4.at k3' (by simp)
 refine W.call_of (c_wnums (pb := pb) (off := 3) (xs := [D.base, D.baseTerm]) (old := [old.base, old.baseTerm]) (hC3.new m4) hp4 hne hpg3 k4 (by rintro rfl; exact hC3.c_known hr4) (fun hx => hC3.g_known r4 hx hr4) (ne_of_known' k3' hr4) ?_ ?_ rfl (by simp) (fun e => by rw [(hw e).1]) (by intro y hy; simp at hy; rcases hy with rfl | rfl <;> assumption) a3 l3) ?_
 ·intro i hi
  match i, hi with
  | 0, _ => rfl
  | 1, _ => rfl
  | i + 2, hi => simp at hi; omega
 ·intro i x hx
  match i, hx with
  | 0, hx => simp at hx; simp [hx]
  | 1, hx => simp at hx; simp [hx]
  | i + 2, hx => simp at hx
 rintro _ s5 ⟨rfl, w5⟩
 refine ⟨(), rfl, ?_⟩
 have w5 := went_trans hg3 m3 m4 (by rw [hp4]; simp) w5
 obtain ⟨g5, hC5, hg5, m5, k5, hpg5⟩ := w5.ok (by rw [hp]; simp) hpg
 have k5' : s5 pb = some (.cells (dlA { old with term := D.term, vote := D.vote, whole := D.whole, base := D.base, baseTerm := D.baseTerm } t0) e (0, 0)) := k5
 obtain ⟨b5, a5, ha, l5⟩ := ha.split hC5.lenB hl
 simp only [W.unSome_some, add_mk, Nat.zero_add]
 refine W.nw_of fun q s6 hq m6 k6 => ?_
 have hp6 := m6.at k5' (by simp)
 refine W.call_of (c_wtexts (pb := pb) (off := 5) (t := D.snap) (y := old.snap) (hC5.new m6) hp6 hne hpg5 k6 (by rintro rfl; exact hC5.c_known hq) (fun hx => hC5.g_known q hx hq) (ne_of_known' k5' hq) rfl rfl (fun e => by rw [(hw e).1]) a5 l5) ?_
 rintro _ s7 ⟨rfl, w7⟩
 refine ⟨(), rfl, ?_⟩
 have w7 := went_trans hg5 m5 m6 (by rw [hp6]; simp) w7
 obtain ⟨g7, hC7, hg7, m7, k7, hpg7⟩ := w7.ok (by rw [hp]; simp) hpg
 have k7' : s7 pb = some (.cells (dlA { D with from_ := old.from_, list := old.list } t0) e (0, 0)) := k7
 obtain ⟨b7, a7, ha, l7⟩ := ha.split hC7.lenB hl
 simp only [W.unSome_some, add_mk, Nat.zero_add]
 refine W.nw_of fun r8 s8 hr8 m8 k8 => ?_
 have hp8 := m8.at k7' (by simp)
 refine W.call_of (c_wnums (pb := pb) (off := 6) (xs := [D.from_]) (old := [old.from_]) (hC7.new m8) hp8 hne hpg7 k8 (by rintro rfl; exact hC7.c_known hr8) (fun hx => hC7.g_known r8 hx hr8) (ne_of_known' k7' hr8) (fun i hi => ptr_one i (by simpa using hi)) ?_ rfl (by simp) (fun e => by rw [(hw e).1]) (by intro y hy; simp at hy; subst hy; assumption) a7 l7) ?_
 ·intro i x hx
  match i, hx with
  | 0, hx => simp at hx; simp [hx]
  | i + 1, hx => simp at hx
 rintro _ s9 ⟨rfl, w9⟩
 refine ⟨(), rfl, ?_⟩
 have w9 := went_trans hg7 m7 m8 (by rw [hp8]; simp) w9
 obtain ⟨g9, hC9, hg9, m9, k9, hpg9⟩ := w9.ok (by rw [hp]; simp) hpg
 have k9' : s9 pb = some (.cells (dlA { D with list := old.list } t0) e (0, 0)) := k9
 simp only [W.unSome_some, add_mk, Nat.zero_add]
 refine W.call_of (c_witems (pb := pb) (off := 7) (t0 := t0) (l := D.list) hC9 k9' hne hpg9 rfl (fun e => ?_) hrd hI.list ha hl hI.len) ?_
 ·obtain ⟨_, hrow, hap⟩ := hw e
  refine ⟨hrow.mod m9 fun x hx => ?_, fun x hx => ⟨(hap x hx).1, (hap x hx).2.1, fun hg => (hg9 x hg).elim (hap x hx).2.2 (hrow.known x hx)⟩⟩
  simp; exact ⟨(hap x hx).1, (hap x hx).2.1, (hap x hx).2.2⟩
 rintro _ s4 ⟨rfl, t, g4, hC4, hg4, m4, k4, hrow4, ht1, ht2, hapg⟩
 refine ⟨(), rfl, rfl, t, g4, hC4, ?_, ?_, k4, hrow4, ht1, fun e x hx => ?_⟩
 ·intro x hx
  have hpg4 : pb ∉ g4 := fun hx => (hg4 pb hx).elim hpg9 (by rw [k9']; simp)
  rcases hg4 x hx with h' | h'
  ·exact hg9 x h'
  ·by_cases hxL : x ∈ c :: pb :: g
   ·rcases List.mem_cons.1 hxL with rfl | hxL
    ·exact absurd hx hC4.c_ng
    rcases List.mem_cons.1 hxL with rfl | hxL
    ·exact absurd hx hpg4
    ·exact .inl hxL
   ·exact .inr (m9.none h' hxL)
 ·refine m9.fresh m4 fun y hy => ?_
  rcases List.mem_cons.1 hy with rfl | hy
  ·exact .inl (by simp)
  rcases List.mem_cons.1 hy with rfl | hy
  ·exact .inl (by simp)
  ·exact (hg9 y hy).imp (fun h => by simp [h]) _root_.id
 ·rcases ht2 e x hx with h' | h'
  ·by_cases hxL : x ∈ c :: pb :: g
   ·rcases List.mem_cons.1 hxL with rfl | hxL
    ·exact absurd h' hC9.c_known
    rcases List.mem_cons.1 hxL with rfl | hxL
    ·rw [k9'] at h'; cases h'
    ·exact .inr hxL
   ·exact .inl (m9.none h' hxL)
  ·exact (hg9 x h').symm
theorem out_text {s : PH} {c : Nat} {g : List Nat} {bs : List UInt8} (h : Cod s c false g bs) : ∃ a n cp, s c = some (codO a n cp false) ∧ W.b2sOk s n (ofL bs) a := by
 obtain ⟨a, n, cp, hI⟩ := h
 refine ⟨a, n, cp, hI.cell, ?_⟩
 obtain ⟨hrow, _⟩ := hI.wrs rfl
 have hlen := hrow.len
 rcases hrow.shape with ⟨rfl, h0, _⟩ | ⟨g, rfl⟩
 ·have : bs = [] := List.length_eq_zero_iff.1 (by omega)
  subst this; (first | done | rfl)
 ·refine ⟨by rw [ofL_size, hlen], ?_⟩
  have := hrow.src0
  have hb : bytesOf (ofL bs) = bs.flatMap u8E.f := by rw [flat_u8]; (first | done | rfl)
  rw [hb]; exact this.2
theorem new_cod {s : PH} {r : Nat} (k : s r = some (codO none 0 0 false)) : Cod s r false [] [] :=
 ⟨none, 0, 0, k, by simp, by simp, fun e => (by cases e), fun _ => ⟨rowE.nil, by simp [Fw.blk]⟩, by simp⟩
theorem c_wputM {s : PH} {M : Msg} {t : Tri} (hrow : rowE entE s 43 t.1 t.2.1 t.2.2 M.list) (hI : M.I) (hl : (encM M).length ≤ 1099511627776) :
  DCalls Tryz.prog 102 #[msgV M t, .func (.func 89) #[] #[]] s fun y s' => y = .string (ofL (encM M)) ∧ s' = s := by
 refine DCalls.quiet (ok_wputM M.kind M.from_ M.to M.term M.index M.prev M.commit M.good t.1 t.2.1 t.2.2 M.snap _ s ?_)
 unfold vc_wputM
 simp only [RP_nw]
 refine W.nw_of fun r s1 hr m1 k1 => ?_
 refine W.nw_of fun q s2 hq m2 k2 => ?_
 have hC := new_cod k2
 have hk2 := m2.at k1 (by simp)
 have m12 := m1.trans m2
 have hqs : s q = none := m1.none hq (by simp)
 simp only [RP_call]
 refine W.call_of (c_wmsg (M := M) (old := M) (t0 := t) hC hk2 (ne_of_known k1 hq) (by simp) (fun _ => ⟨rfl, hrow.mod m12 (by simp), fun x hx => ⟨?_, ?_, by simp⟩⟩) (fun e => by cases e) hI (bs' := encM M) (by simp [Adv]) hl) ?_
 ·rintro rfl; exact hrow.known x hx hqs
 ·rintro rfl; exact hrow.known x hx hr
 rintro _ s3 ⟨rfl, t', g', hC3, hg3, m3, k3, _, _, _⟩
 refine ⟨(), rfl, ?_⟩
 obtain ⟨a, n, cp, hc, hb⟩ := out_text hC3
 simp only [RP_unSome, W.unSome_some, add_mk, Nat.zero_add, RP_ld]
 refine ld_blk (c := .slice) (x := (a, n, cp)) hc rfl ?_
 simp only [RP_b2s]
 exact ⟨_, hb, rfl, m12.fresh m3 (by simp [hr, hqs])⟩
theorem c_wputD {s : PH} {D : Dl} {t : Tri} (hrow : rowE entE s 43 t.1 t.2.1 t.2.2 D.list) (hI : D.I) (hl : (encD D).length ≤ 1099511627776) :
  DCalls Tryz.prog 101 #[dlV D t, .func (.func 85) #[] #[]] s fun y s' => y = .string (ofL (encD D)) ∧ s' = s := by
 refine DCalls.quiet (ok_wputD D.term D.vote D.whole D.base D.baseTerm D.snap D.from_ t.1 t.2.1 t.2.2 _ s ?_)
 unfold vc_wputD
 simp only [RP_nw]
 refine W.nw_of fun r s1 hr m1 k1 => ?_
 refine W.nw_of fun q s2 hq m2 k2 => ?_
 have hC := new_cod k2
 have hk2 := m2.at k1 (by simp)
 have m12 := m1.trans m2
 have hqs : s q = none := m1.none hq (by simp)
 simp only [RP_call]
 refine W.call_of (c_wdelta (D := D) (old := D) (t0 := t) hC hk2 (ne_of_known k1 hq) (by simp) (fun _ => ⟨rfl, hrow.mod m12 (by simp), fun x hx => ⟨?_, ?_, by simp⟩⟩) (fun e => by cases e) hI (bs' := encD D) (by simp [Adv]) hl) ?_
 ·rintro rfl; exact hrow.known x hx hqs
 ·rintro rfl; exact hrow.known x hx hr
 rintro _ s3 ⟨rfl, t', g', hC3, hg3, m3, k3, _, _, _⟩
 refine ⟨(), rfl, ?_⟩
 obtain ⟨a, n, cp, hc, hb⟩ := out_text hC3
 simp only [RP_unSome, W.unSome_some, add_mk, Nat.zero_add, RP_ld]
 refine ld_blk (c := .slice) (x := (a, n, cp)) hc rfl ?_
 simp only [RP_b2s]
 exact ⟨_, hb, rfl, m12.fresh m3 (by simp [hr, hqs])⟩
theorem c_PutMsg {s : PH} {M : Msg} {t : Tri} (hrow : rowE entE s 43 t.1 t.2.1 t.2.2 M.list) (hI : M.I) (hl : (encM M).length ≤ 1099511627776) :
  DCalls Tryz.prog 67 #[msgV M t] s fun y s' => y = .string (ofL (encM M)) ∧ s' = s := by
 refine ok_PutMsg M.kind M.from_ M.to M.term M.index M.prev M.commit M.good t.1 t.2.1 t.2.2 M.snap _ s ?_
 unfold vc_PutMsg
 simp only [RP_call]
 refine W.call_of (c_wputM hrow hI hl) ?_
 rintro _ s ⟨rfl, rfl⟩
 exact ⟨((ofL (encM M), ()), ()), rfl, rfl, rfl⟩
theorem c_PutDelta {s : PH} {D : Dl} {t : Tri} (hrow : rowE entE s 43 t.1 t.2.1 t.2.2 D.list) (hI : D.I) (hl : (encD D).length ≤ 1099511627776) :
  DCalls Tryz.prog 65 #[dlV D t] s fun y s' => y = .string (ofL (encD D)) ∧ s' = s := by
 refine ok_PutDelta D.term D.vote D.whole D.base D.baseTerm D.snap D.from_ t.1 t.2.1 t.2.2 _ s ?_
 unfold vc_PutDelta
 simp only [RP_call]
 refine W.call_of (c_wputD hrow hI hl) ?_
 rintro _ s ⟨rfl, rfl⟩
 exact ⟨((ofL (encD D), ()), ()), rfl, rfl, rfl⟩
theorem read_cod {s : PH} {q r : Nat} {t : ByteArray} {n : Nat} {f : Nat × Nat} (k : s r = some (.cells (W.bytesRow t n) 5 f)) (kq : s q = some (codO (some ⟨r, 0, none⟩) t.size n true)) (hne : q ≠ r) (hn : t.size ≤ n) (hl : t.size ≤ 1099511627776) : Cod s q true [r] (toL t) := by
 refine ⟨some ⟨r, 0, none⟩, t.size, n, kq, by simp; exact hne, by rw [toL_len]; exact hl, fun _ => ⟨⟨(toL_len t).symm, fun i x hx => ⟨_, rfl, by simp, ?_⟩⟩, hn⟩, fun e => (by cases e), by simp [k]⟩
 rw [add_mk, Nat.zero_add]
 unfold PH.cell?
 dsimp only
 rw [k]
 have hlt := (List.getElem?_eq_some_iff.1 hx).1
 show (W.bytesRow t n)[i]? = _
 unfold W.bytesRow
 have hsz : i < (t.data.map fun b => Value.int .u8 b.toNat).size := by rw [Array.size_map, ← Array.length_toList]; exact hlt
 rw [Array.getElem?_append_left hsz, Array.getElem?_map]
 have : t.data[i]? = some x := by rw [← Array.getElem?_toList]; exact hx
 rw [this]; (first | done | rfl)
def GetMQ (M : Msg) (s : PH) (y : Value) (s' : PH) : Prop := ∃ t : Tri, y = .tuple #[msgV M t, .int .i64 0] ∧ rowE entE s' 43 t.1 t.2.1 t.2.2 M.list ∧ (∀ x ∈ Fw.blk t.1, s x = none) ∧ Fw.Mod [] s s'
def GetDQ (D : Dl) (s : PH) (y : Value) (s' : PH) : Prop := ∃ t : Tri, y = .tuple #[dlV D t, .int .i64 0] ∧ rowE entE s' 43 t.1 t.2.1 t.2.2 D.list ∧ (∀ x ∈ Fw.blk t.1, s x = none) ∧ Fw.Mod [] s s'
theorem c_wgetM {s : PH} {M : Msg} (hI : M.I) (hl : (encM M).length ≤ 1099511627776) : DCalls Tryz.prog 88 #[.string (ofL (encM M)), .func (.func 89) #[] #[]] s (GetMQ M s) := by
 refine ok_wgetM (ofL (encM M)) _ s ?_
 unfold vc_wgetM
 have hmax : maxLen = 9223372036854775807 := rfl
 have hsz : (ofL (encM M)).size ≤ 1099511627776 := by rw [ofL_size]; exact hl
 simp only [RP_s2b]
 refine ⟨by omega, fun r n hr hn1 hn2 => ?_⟩
 obtain ⟨s1, hs1⟩ : ∃ s1, s.upd r (.cells (W.bytesRow (ofL (encM M)) n) 5 (n, n + 1)) = s1 := ⟨_, rfl⟩
 have m1 : Fw.Mod [] s s1 := by rw [← hs1]; exact Mod.new hr
 have k1 : s1 r = some (.cells (W.bytesRow (ofL (encM M)) n) 5 (n, n + 1)) := by rw [← hs1]; exact PH.upd_same _ _ _
 rw [hs1]
 simp only [RP_nw]
 refine W.nw_of fun q s2 hq m2 k2 => ?_
 refine W.nw_of fun p s3 hp m3 k3 => ?_
 have hqr : q ≠ r := ne_of_known' k1 hq
 have hC : Cod s3 q true [r] (encM M) := by
  have := read_cod (m3.at (m2.at k1 (by simp)) (by simp)) (m3.at k2 (by simp)) hqr hn1 hsz
  rwa [toL_ofL] at this
 have hpr : p ≠ r := ne_of_known' (m2.at k1 (by simp)) hp
 have m13 := (m1.trans m2).trans m3
 have hqs : s q = none := m1.none hq (by simp)
 have hps : s p = none := (m1.trans m2).none hp (by simp)
 simp only [RP_call]
 refine W.call_of (c_wmsg (M := M) (old := ⟨0, 0, 0, 0, 0, 0, 0, false, [], ⟨#[]⟩⟩) (t0 := noTri) hC k3 (ne_of_known' k2 hp) (by simp; exact hpr) (fun e => by cases e) (fun _ => rfl) hI (bs' := []) (by simp [Adv]) (by simp)) ?_
 rintro _ s4 ⟨rfl, t, g', hC4, hg4, m4, k4, hrow4, _, hfr⟩
 refine ⟨(), rfl, ?_⟩
 have m04 : Fw.Mod [] s s4 := m13.fresh m4 (by simp [hqs, hps, hr])
 have hfr' : ∀ x ∈ Fw.blk t.1, s x = none := fun x hx => (hfr rfl x hx).elim (fun h => m13.none h (by simp)) (fun h => by simp at h; subst h; exact hr)
 obtain ⟨a, k, cp, hCI⟩ := id hC4
 have hc4 := hCI.cell
 have hk0 : k = 0 := (hCI.rds rfl).1.1
 subst hk0
 simp only [RP_unSome, W.unSome_some, add_mk, Nat.zero_add, RP_ld]
 refine ld_blk (c := .bool) (x := false) hc4 rfl ?_
 simp only [RP_ite, W.br_false, W.unSome_some, add_mk, Nat.zero_add]
 refine ld_blk (c := .slice) (x := (a, 0, cp)) hc4 rfl ?_
 have hn0 : ¬ (((0 : Nat) : Int) > 0) := by omega
 simp only [decide_eq_false hn0, W.br_false]
 have hh : s4.has ⟨p, 0, none⟩ (msgCells M t) := has_block k4
 refine ⟨(M.kind, M.from_, M.to, M.term, M.index, M.prev, M.commit, M.good, t, M.snap, ()), hh, ?_⟩
 refine W.call_of (c_wputM hrow4 hI hl) ?_
 rintro _ s4 ⟨rfl, rfl⟩
 refine ⟨((ofL (encM M), ()), ()), rfl, ?_⟩
 have hbe : (!(ofL (encM M)).toList == (ofL (encM M)).toList) = false := by simp
 simp only [hbe, W.br_false]
 refine ⟨(M.kind, M.from_, M.to, M.term, M.index, M.prev, M.commit, M.good, t, M.snap, ()), hh, ?_⟩
 exact ⟨t, rfl, hrow4, hfr', m04⟩
theorem c_wgetD {s : PH} {D : Dl} (hI : D.I) (hl : (encD D).length ≤ 1099511627776) : DCalls Tryz.prog 84 #[.string (ofL (encD D)), .func (.func 85) #[] #[]] s (GetDQ D s) := by
 refine ok_wgetD (ofL (encD D)) _ s ?_
 unfold vc_wgetD
 have hmax : maxLen = 9223372036854775807 := rfl
 have hsz : (ofL (encD D)).size ≤ 1099511627776 := by rw [ofL_size]; exact hl
 simp only [RP_s2b]
 refine ⟨by omega, fun r n hr hn1 hn2 => ?_⟩
 obtain ⟨s1, hs1⟩ : ∃ s1, s.upd r (.cells (W.bytesRow (ofL (encD D)) n) 5 (n, n + 1)) = s1 := ⟨_, rfl⟩
 have m1 : Fw.Mod [] s s1 := by rw [← hs1]; exact Mod.new hr
 have k1 : s1 r = some (.cells (W.bytesRow (ofL (encD D)) n) 5 (n, n + 1)) := by rw [← hs1]; exact PH.upd_same _ _ _
 rw [hs1]
 simp only [RP_nw]
 refine W.nw_of fun q s2 hq m2 k2 => ?_
 refine W.nw_of fun p s3 hp m3 k3 => ?_
 have hqr : q ≠ r := ne_of_known' k1 hq
 have hC : Cod s3 q true [r] (encD D) := by
  have := read_cod (m3.at (m2.at k1 (by simp)) (by simp)) (m3.at k2 (by simp)) hqr hn1 hsz
  rwa [toL_ofL] at this
 have hpr : p ≠ r := ne_of_known' (m2.at k1 (by simp)) hp
 have m13 := (m1.trans m2).trans m3
 have hqs : s q = none := m1.none hq (by simp)
 have hps : s p = none := (m1.trans m2).none hp (by simp)
 simp only [RP_call]
 refine W.call_of (c_wdelta (D := D) (old := ⟨0, 0, false, 0, 0, ⟨#[]⟩, 0, []⟩) (t0 := noTri) hC k3 (ne_of_known' k2 hp) (by simp; exact hpr) (fun e => by cases e) (fun _ => rfl) hI (bs' := []) (by simp [Adv]) (by simp)) ?_
 rintro _ s4 ⟨rfl, t, g', hC4, hg4, m4, k4, hrow4, _, hfr⟩
 refine ⟨(), rfl, ?_⟩
 have m04 : Fw.Mod [] s s4 := m13.fresh m4 (by simp [hqs, hps, hr])
 have hfr' : ∀ x ∈ Fw.blk t.1, s x = none := fun x hx => (hfr rfl x hx).elim (fun h => m13.none h (by simp)) (fun h => by simp at h; subst h; exact hr)
 obtain ⟨a, k, cp, hCI⟩ := id hC4
 have hc4 := hCI.cell
 have hk0 : k = 0 := (hCI.rds rfl).1.1
 subst hk0
 simp only [RP_unSome, W.unSome_some, add_mk, Nat.zero_add, RP_ld]
 refine ld_blk (c := .bool) (x := false) hc4 rfl ?_
 simp only [RP_ite, W.br_false, W.unSome_some, add_mk, Nat.zero_add]
 refine ld_blk (c := .slice) (x := (a, 0, cp)) hc4 rfl ?_
 have hn0 : ¬ (((0 : Nat) : Int) > 0) := by omega
 simp only [decide_eq_false hn0, W.br_false]
 have hh : s4.has ⟨p, 0, none⟩ (dlCells D t) := has_block k4
 refine ⟨(D.term, D.vote, D.whole, D.base, D.baseTerm, D.snap, D.from_, t, ()), hh, ?_⟩
 refine W.call_of (c_wputD hrow4 hI hl) ?_
 rintro _ s4 ⟨rfl, rfl⟩
 refine ⟨((ofL (encD D), ()), ()), rfl, ?_⟩
 have hbe : (!(ofL (encD D)).toList == (ofL (encD D)).toList) = false := by simp
 simp only [hbe, W.br_false]
 refine ⟨(D.term, D.vote, D.whole, D.base, D.baseTerm, D.snap, D.from_, t, ()), hh, ?_⟩
 exact ⟨t, rfl, hrow4, hfr', m04⟩
theorem c_GetMsg {s : PH} {M : Msg} (hI : M.I) (hl : (encM M).length ≤ 1099511627776) : DCalls Tryz.prog 60 #[.string (ofL (encM M))] s (GetMQ M s) := by
 refine ok_GetMsg (ofL (encM M)) _ s ?_
 unfold vc_GetMsg
 simp only [RP_call]
 refine W.call_of (c_wgetM hI hl) ?_
 rintro _ s1 ⟨t, rfl, h⟩
 exact ⟨((M.kind, M.from_, M.to, M.term, M.index, M.prev, M.commit, M.good, t, M.snap, ()), (0, ()), ()), rfl, t, rfl, h⟩
theorem c_GetDelta {s : PH} {D : Dl} (hI : D.I) (hl : (encD D).length ≤ 1099511627776) : DCalls Tryz.prog 58 #[.string (ofL (encD D))] s (GetDQ D s) := by
 refine ok_GetDelta (ofL (encD D)) _ s ?_
 unfold vc_GetDelta
 simp only [RP_call]
 refine W.call_of (c_wgetD hI hl) ?_
 rintro _ s1 ⟨t, rfl, h⟩
 exact ⟨((D.term, D.vote, D.whole, D.base, D.baseTerm, D.snap, D.from_, t, ()), (0, ()), ()), rfl, t, rfl, h⟩
end
section
attribute [-simp] Fw.W.ld_iff Fw.W.st_iff
def BS.did (B : BS) (o : OpD) : BS × List Msg × Int :=
 if o.kind = 1 then (B.timeout.1, B.timeout.2, 0) else
 if o.kind = 2 then (B, if B.role = 2 then B.feeds else [], 0) else
 if o.kind = 3 then ((B.propose o.a o.b o.text).2.1, (B.propose o.a o.b o.text).2.2, (B.propose o.a o.b o.text).1) else
 if o.kind = 4 then ((B.take o.M).1, (B.take o.M).2, 0) else
 if o.kind = 5 then (B.cut o.a o.text, [], if B.cuts o.a = true then 1 else 0) else (B, [], 0)
section
variable {s : PH} {b : Nat} {l v n m : Tri} {B : BS}
end
end
section
attribute [-simp] Fw.W.ld_iff Fw.W.st_iff
end
section
structure DlIs (s : PH) (D : Dl) (t : Tri) : Prop where
 view : View s t.1 t.2.1 t.2.2 D.list
 room : t.2.1 * 40 ≤ 140737488355328
def BS.lay (B : BS) (D : Dl) : Option BS :=
 if D.term < 0 ∨ D.term > 2 * FAR ∨ D.vote < -1 ∨ D.vote ≥ B.size then none else
 if D.whole = true then
  if D.base < 0 ∨ D.base > 2 * FAR ∨ D.baseTerm < 0 ∨ D.baseTerm > 2 * FAR then none else some { B with base := D.base, baseTerm := D.baseTerm, snap := D.snap, log := D.list, term := D.term, vote := D.vote }
 else if D.from_ ≤ B.base ∨ D.from_ > B.lst + 1 then none else some { B with log := B.log.take (D.from_ - B.base - 1).toNat ++ D.list, term := D.term, vote := D.vote }
def BS.lays : BS → List Dl → Option BS
 | B, [] => some B
 | B, D :: l => match B.lay D with
  | some B' => B'.lays l
  | none => none
def BS.loaded (id size : Int) (l : List Dl) : Option BS := ((newBS id size).lays l).map fun B => { B with commit := B.base, touched := false, whole := false, from_ := B.lst + 1 }
end
section
attribute [-simp] Fw.W.ld_iff Fw.W.st_iff
theorem far2 : (2 * FAR : Int) = 2199023255552 := rfl
theorem lay_n1 {B : BS} {D : Dl} (h : D.term < 0 ∨ D.term > 2199023255552 ∨ D.vote < -1 ∨ D.vote ≥ B.size) : B.lay D = none := by
 unfold BS.lay; rw [far2, if_pos h]
theorem lay_n2 {B : BS} {D : Dl} (hw : D.whole = true) (h : D.base < 0 ∨ D.base > 2199023255552 ∨ D.baseTerm < 0 ∨ D.baseTerm > 2199023255552) : B.lay D = none := by
 unfold BS.lay; rw [far2, if_pos hw, if_pos h]; split <;> rfl
theorem lay_n3 {B : BS} {D : Dl} (hw : D.whole = false) (h : D.from_ ≤ B.base ∨ D.from_ > B.lst + 1) : B.lay D = none := by
 unfold BS.lay; rw [if_neg (show ¬ D.whole = true by rw [hw]; simp), if_pos h]; split <;> rfl
def BS.layW (B : BS) (D : Dl) : BS := { B with base := D.base, baseTerm := D.baseTerm, snap := D.snap, log := D.list, term := D.term, vote := D.vote }
def BS.layL (B : BS) (D : Dl) : BS := { B with log := B.log.take (D.from_ - B.base - 1).toNat ++ D.list, term := D.term, vote := D.vote }
theorem lay_w {B : BS} {D : Dl} (h1 : ¬ (D.term < 0 ∨ D.term > 2199023255552 ∨ D.vote < -1 ∨ D.vote ≥ B.size)) (hw : D.whole = true) (h : ¬ (D.base < 0 ∨ D.base > 2199023255552 ∨ D.baseTerm < 0 ∨ D.baseTerm > 2199023255552)) : B.lay D = some (B.layW D) := by
 unfold BS.lay; rw [far2, if_neg h1, if_pos hw, if_neg h]; (first | done | rfl)
theorem lay_l {B : BS} {D : Dl} (h1 : ¬ (D.term < 0 ∨ D.term > 2199023255552 ∨ D.vote < -1 ∨ D.vote ≥ B.size)) (hw : D.whole = false) (h : ¬ (D.from_ ≤ B.base ∨ D.from_ > B.lst + 1)) : B.lay D = some (B.layL D) := by
 unfold BS.lay; rw [far2, if_neg h1, if_neg (show ¬ D.whole = true by rw [hw]; simp), if_neg h]; (first | done | rfl)
def dtot (ls : List Dl) : Nat := (ls.map fun D => D.list.length).sum
theorem dtot_take {ls : List Dl} {k : Nat} {D : Dl} (h : ls[k]? = some D) : dtot (ls.take (k + 1)) = dtot (ls.take k) + D.list.length := by
 unfold dtot
 rw [List.take_add_one, h]; simp
theorem dtot_take_le (ls : List Dl) (k : Nat) : dtot (ls.take k) ≤ dtot ls := by
 have := congrArg dtot (List.take_append_drop k ls)
 unfold dtot at this ⊢
 rw [List.map_append, List.sum_append] at this
 omega
theorem dtot_mem {ls : List Dl} {k : Nat} {D : Dl} (h : ls[k]? = some D) : D.list.length ≤ dtot ls := by
 have h1 := dtot_take h
 have h2 := dtot_take_le ls (k + 1)
 omega
theorem drop_at {α : Type} {ls : List α} {k : Nat} {D : α} (h : ls[k]? = some D) : ls.drop k = D :: ls.drop (k + 1) := by
 have hlt := (List.getElem?_eq_some_iff.1 h).1
 have := (List.getElem?_eq_some_iff.1 h).2
 rw [List.drop_eq_getElem_cons hlt, this]
structure BS.Lds (B : BS) (id size : Int) (ls : List Dl) (k : Nat) : Prop where
 eq : B.lays (ls.drop k) = (newBS id size).lays ls
 sz : B.size = size
 b0 : 0 ≤ B.base
 b1 : B.base ≤ 2199023255552
 len : B.log.length ≤ dtot (ls.take k)
 rows : B.votes = [] ∧ B.next = [] ∧ B.mat = []
 flags : B.touched = false ∧ B.whole = false
theorem BS.Lds.small {B : BS} {id size : Int} {ls : List Dl} {k : Nat} (h : B.Lds id size ls k) (ht : dtot ls ≤ 1000000) : B.Small := by
 have h1 := dtot_take_le ls k
 have h2 := h.len
 have h3 := h.b1
 exact ⟨h.b0, by omega, by omega⟩
theorem BS.Lds.start (id size : Int) (ls : List Dl) : (newBS id size).Lds id size ls 0 := ⟨rfl, rfl, Int.le_refl _, by show (0 : Int) ≤ _; omega, Nat.zero_le _, ⟨rfl, rfl, rfl⟩, rfl, rfl⟩
theorem BS.Lds.step {B B' : BS} {id size : Int} {ls : List Dl} {k : Nat} {D : Dl} (h : B.Lds id size ls k) (hD : ls[k]? = some D) (hl : B.lay D = some B') : B'.Lds id size ls (k + 1) := by
 have h1 := h.eq
 rw [drop_at hD] at h1
 simp only [BS.lays, hl] at h1
 have h2 := dtot_take hD
 have h3 := h.len
 unfold BS.lay at hl
 split at hl
 ·cases hl
 ·split at hl
  ·split at hl
   ·cases hl
   ·rename_i hc
    have hF : FAR = 1099511627776 := rfl
    cases hl
    exact ⟨h1, h.sz, by show 0 ≤ D.base; omega, by show D.base ≤ _; omega, by show D.list.length ≤ _; omega, h.rows, h.flags⟩
  ·split at hl
   ·cases hl
   ·cases hl
    refine ⟨h1, h.sz, h.b0, h.b1, ?_, h.rows, h.flags⟩
    show (B.log.take _ ++ D.list).length ≤ _
    rw [List.length_append, List.length_take]; omega
theorem BS.Lds.bad {B : BS} {id size : Int} {ls : List Dl} {k : Nat} {D : Dl} (h : B.Lds id size ls k) (hD : ls[k]? = some D) (hl : B.lay D = none) : BS.loaded id size ls = none := by
 have h1 := h.eq
 rw [drop_at hD] at h1
 simp only [BS.lays, hl] at h1
 unfold BS.loaded; rw [← h1]; (first | done | rfl)
theorem BS.Lds.done {B : BS} {id size : Int} {ls : List Dl} {k : Nat} (h : B.Lds id size ls k) (hk : ls.length ≤ k) : BS.loaded id size ls = some { B with commit := B.base, touched := false, whole := false, from_ := B.lst + 1 } := by
 have h1 := h.eq
 rw [List.drop_eq_nil_of_le hk] at h1
 unfold BS.loaded; rw [← h1]; (first | done | rfl)
def DlsAt (s : PH) (a : Option Addr) (n : Nat) (ls : List Dl) : Prop := n = ls.length ∧ ∀ (i : Nat) D, ls[i]? = some D → ∃ ad t, a = some ad ∧ s.has (ad.add (i * 8)) (dlCells D t) ∧ DlIs s D t
theorem DlsAt.mono {s s' : PH} {a : Option Addr} {n : Nat} {ls : List Dl} (h : DlsAt s a n ls) (hm : s.le s') : DlsAt s' a n ls :=
 ⟨h.1, fun i D hD => by obtain ⟨ad, t, h1, h2, h3⟩ := h.2 i D hD; exact ⟨ad, t, h1, h2.mono hm, ⟨h3.view.mono hm, h3.room⟩⟩⟩
theorem dl_at {s : PH} {a : Option Addr} {n : Nat} {ls : List Dl} (h : DlsAt s a n ls) {i : Nat} {D : Dl} (hD : ls[i]? = some D) :
  ∃ ad t, a = some ad ∧ s.has (ad.add (i * 8)) (dlCells D t) ∧ DlIs s D t := h.2 i D hD
section
variable {s : PH} {a : Option Addr} {an ac : Nat} {ls : List Dl} {id size : Int}
def LoadPost (id size : Int) (ls : List Dl) (s : PH) (x : Value) (s' : PH) : Prop :=
 Fw.Mod [] s s' ∧ ((okNew id size ∧ ∃ B, BS.loaded id size ls = some B ∧ ∃ b l, x = .tuple #[bptr b, .int .i64 0] ∧ Bal s' b l noTri noTri noTri B ∧ ∀ y ∈ bL b l noTri noTri noTri, s y = none) ∨
 (okNew id size ∧ BS.loaded id size ls = none ∧ x = .tuple #[.pointer none, .int .i64 100]) ∨ (¬ okNew id size ∧ x = .tuple #[.pointer none, .int .i64 1]))
def LdI (id size : Int) (ls : List Dl) (a : Option Addr) (an ac : Nat) (s0 : PH) (k b : Nat) (l : Tri) (B : BS) (s' : PH) : Prop :=
 Bal s' b l noTri noTri noTri B ∧ Fw.Mod [] s0 s' ∧ (∀ y ∈ bL b l noTri noTri noTri, s0 y = none) ∧ k ≤ an ∧ B.Lds id size ls k
def LdZ (id size : Int) (ls : List Dl) (a : Option Addr) (an ac : Nat) (s0 : PH) (z : MDen [(false, [.ptr]), (false, [.slice]), (false, [.int .i64]), (false, [.int .i64])]) (s' : PH) : Prop :=
 ∃ (k b : Nat) (l : Tri) (B : BS), z = ((some ⟨b, 0, none⟩, ()), ((a, an, ac), ()), ((an : Int), ()), ((k : Int), ()), ()) ∧ LdI id size ls a an ac s0 k b l B s'
theorem c_Load (h : DlsAt s a an ls) (hn : an ≤ 140737488355328) (ht : dtot ls ≤ 1000000) : DCalls Tryz.prog 59 #[.int .i64 id, .int .i64 size, .slice a an ac] s (LoadPost id size ls s) := by
 refine ok_Load2 id size a an ac _ s ?_
 unfold vc_Load2
 simp only [RP_call]
 refine W.call_of (c_bNew id size s) ?_
 rintro _ s1 (⟨hok, b, rfl, hB, m1, hb⟩ | ⟨hok, rfl, rfl⟩)
 rotate_left
 ·refine ⟨((none, ()), (1, ()), ()), rfl, ?_⟩
  simp
  exact ⟨Mod.refl _ _, .inr (.inr ⟨hok, rfl⟩)⟩
 refine ⟨((some ⟨b, 0, none⟩, ()), (0, ()), ()), rfl, ?_⟩
 simp
 have hlen := h.1
 refine ⟨LdZ id size ls a an ac s, fun z _ => an - z.2.2.2.1.1.toNat, ⟨0, b, noTri, _, rfl, hB, m1, by simp [bL, Fw.blk, hb], Nat.zero_le _, BS.Lds.start id size ls⟩, ?_⟩
 rintro _ s2 ⟨k, b, l, B, rfl, hB, m2, hf, hk, hL⟩
 have hsm := hL.small ht
 obtain ⟨q1, q2, q3⟩ := _root_.id hsm
 have hd := lst_def B
 have hwk : i64.wrap ((k : Int) + 1) = ((k + 1 : Nat) : Int) := by rw [wrap_in (by omega) (by omega)]; simp
 have hb2 := hB.cell
 simp [W.br_iff]
 refine ⟨fun hlt => ⟨hlt, ?_⟩, fun hge => ?_⟩
 ·obtain ⟨D, hD⟩ : ∃ D, ls[k]? = some D := ⟨_, List.getElem?_eq_getElem (by omega)⟩
  obtain ⟨ad, t, rfl, hhas, hI⟩ := dl_at (h.mono m2.le) hD
  have hroom := hI.room
  have hvl := hI.view.len
  have hDl := dtot_mem hD
  have hsz := hL.sz
  simp only [W.unSome_some]
  refine ld_has_z hhas (y := (D.term, D.vote, D.whole, D.base, D.baseTerm, D.snap, D.from_, t, ())) rfl ?_
  refine W.join_gen (fun z s' => s' = s2 ∧ ∃ c : Bool, z = ((some ⟨b, 0, none⟩, ()), (D.term, D.vote, D.whole, D.base, D.baseTerm, D.snap, D.from_, t, ()), ((some ad, an, ac), ()), ((an : Int), ()), ((k : Int), ()), (c, ()), ()) ∧
   (c = true → B.lay D = none) ∧ (c = false → ∃ B', B.lay D = some B' ∧ (D.whole = true → B' = B.layW D) ∧ (D.whole = false → B' = B.layL D ∧ B.base < D.from_ ∧ D.from_ ≤ B.lst + 1))) ?_ ?_
  ·rintro _ s2 ⟨rfl, c, rfl, hc1, hc2⟩
   simp only [W.br_iff]
   refine ⟨fun hc => ?_, fun hc => ?_⟩
   ·exact ⟨m2, .inr (.inl ⟨hok, hL.bad hD (hc1 hc), rfl⟩)⟩
   ·obtain ⟨B', hlay, hw1, hw2⟩ := hc2 hc
    have hL' := hL.step hD hlay
    refine ⟨fun hw => ?_, fun hw => ?_⟩
    ·have hB' := hw1 hw
     subst hB'
     refine W.call_of (c_Clone hI.view.src hI.view.len.symm (show t.2.1 ≤ 1073741824 by rw [hvl]; omega)) ?_
     rintro _ s3 ⟨t3, rfl, ht3, hrow, m3, hf3⟩
     refine ⟨((t3, ()), ()), rfl, ?_⟩
     have hB3 := hB.new m3
     have hb3 := hB3.cell
     have hft : ∀ g ∈ Fw.blk t3.1, s g = none := fun g hg => m2.none (hf3 g hg) (by simp)
     simp [W.st_at hb3, hwk]
     refine ⟨⟨k + 1, b, t3, _, by simp, balOf (B' := B.layW D) (l' := t3) hb3 hrow hB3.votes hB3.next hB3.mat hB3.nm, (m2.trans m3).updLater (.inr (hf b (by simp [bL]))), ?_, hlt, hL'⟩, by omega⟩
     intro y hy
     simp only [bL, List.mem_cons, List.mem_append] at hy
     rcases hy with rfl | hy | hy
     ·exact hf y (by simp [bL])
     ·exact hft y hy
     ·simp [Fw.blk] at hy
    ·obtain ⟨hB', hfr1, hfr2⟩ := hw2 hw
     subst hB'
     obtain ⟨j, hj⟩ : ∃ j : Nat, (D.from_ - B.base - 1).toNat = j := ⟨_, rfl⟩
     have hw1 : i64.wrap (i64.wrap (D.from_ - B.base) - 1) = (j : Int) := by
      rw [wrap_in (n := D.from_ - B.base) (by omega) (by omega), wrap_in (by omega) (by omega)]; omega
     have hll := hB.log.len
     have hlc := hB.log.le
     have hmx := hB.log.max
     simp [W.ld_at hb2, hw1]
     refine ⟨by omega, ?_⟩
     have hrow := hB.log.shrink (m := j) (c' := j) (by omega) (Nat.le_refl _) (by omega)
     have hadr : (if l.1 = none then none else l.1) = l.1 := by split <;> simp_all
     rw [hadr] at hrow
     have hmax : maxLen = 9223372036854775807 := rfl
     refine app_rowE (E := entE) (k := t.2.1) (ys := D.list) hrow rfl hI.view.src rfl hI.view.len.symm (by omega) (by omega) ?_
     intro a' c' s3 hrow3 hm3
     have hbl : b ∉ Fw.blk l.1 := hB.ne.1
     have hM : ∃ M, Fw.Mod M s2 s3 ∧ (∀ x ∈ M, x ∈ Fw.blk l.1) ∧ ∀ x ∈ Fw.blk a', s x = none := by
      rcases hm3 with ⟨rfl, m'⟩ | ⟨g, rfl, hg, m'⟩
      ·exact ⟨_, m', fun x hx => hx, fun x hx => hf x (by simp [bL, hx])⟩
      ·exact ⟨[], m', by simp, by simp [Fw.blk]; exact m2.none hg (by simp)⟩
     obtain ⟨M, m3, hMl, hnew⟩ := hM
     have hb3 := m3.at hb2 fun hx => hbl (hMl _ hx)
     simp [W.st_at hb3, hwk]
     have hBr := balOf (B' := B.layL D) (l' := (a', j + t.2.1, c')) (v' := noTri) (n' := noTri) (m' := noTri) hb3 (by unfold BS.layL; rw [hj]; exact hrow3) (by rw [show (B.layL D).votes = [] from hL.rows.1]; exact rowE.nil) (by rw [show (B.layL D).next = [] from hL.rows.2.1]; exact rowE.nil)
      (by rw [show (B.layL D).mat = [] from hL.rows.2.2]; exact rowE.nil) (by simp [Fw.blk])
     refine ⟨⟨k + 1, b, (a', j + t.2.1, c'), _, by simp, hBr, ?_, ?_, hlt, hL'⟩, by omega⟩
     ·exact (m2.fresh m3 fun x hx => .inr (hf x (by simp [bL, hMl x hx]))).updLater (.inr (hf b (by simp [bL])))
     ·intro y hy
      simp only [bL, List.mem_cons, List.mem_append] at hy
      rcases hy with rfl | hy | hy
      ·exact hf y (by simp [bL])
      ·exact hnew y hy
      ·simp [Fw.blk] at hy
  ·intro J hJ
   have bad : ∀ c : Bool, c = true → B.lay D = none → J ((some ⟨b, 0, none⟩, ()), (D.term, D.vote, D.whole, D.base, D.baseTerm, D.snap, D.from_, t, ()), ((some ad, an, ac), ()), ((an : Int), ()), ((k : Int), ()), (c, ()), ()) s2 := fun c hc hl =>
    hJ _ _ ⟨rfl, c, rfl, fun _ => hl, fun e => by rw [hc] at e; cases e⟩
   refine W.join_gen (fun z s' => s' = s2 ∧ ∃ c : Bool, z = ((some ⟨b, 0, none⟩, ()), (D.term, D.vote, D.whole, D.base, D.baseTerm, D.snap, D.from_, t, ()), ((some ad, an, ac), ()), ((an : Int), ()), ((k : Int), ()), (c, ()), ()) ∧
    (c = true ↔ (D.term < 0 ∨ D.term > 2199023255552 ∨ D.vote < -1 ∨ D.vote ≥ B.size))) ?_ ?_
   ·rintro _ s2 ⟨rfl, c, rfl, hc⟩
    simp only [W.br_iff]
    refine ⟨fun h1 => bad true rfl (lay_n1 (hc.1 h1)), fun h1 => ?_⟩
    have h1' : ¬ (D.term < 0 ∨ D.term > 2199023255552 ∨ D.vote < -1 ∨ D.vote ≥ B.size) := fun e => by have := hc.2 e; rw [h1] at this; cases this
    have last : D.whole = false → W.unSome (some (Addr.mk b 0 none)) (fun p => W.ld [.int .i64] ((p.add 2).add 4) fun x => W.br (decide (D.from_ ≤ x.1)) (J ((some ⟨b, 0, none⟩, ()), (D.term, D.vote, D.whole, D.base, D.baseTerm, D.snap, D.from_, t, ()), ((some ad, an, ac), ()), ((an : Int), ()), ((k : Int), ()), (true, ()), ()))
      (W.callQ Tryz.prog 55 #[.pointer (some ⟨b, 0, none⟩)] (false, [(false, [.int .i64])]) fun y => J ((some ⟨b, 0, none⟩, ()), (D.term, D.vote, D.whole, D.base, D.baseTerm, D.snap, D.from_, t, ()), ((some ad, an, ac), ()), ((an : Int), ()), ((k : Int), ()), (decide (D.from_ > i64.wrap (y.1.1 + 1)), ()), ()))) s2 := by
     intro hw
     simp [W.ld_at hb2, W.br_iff]
     refine ⟨fun h2 => bad _ rfl (lay_n3 hw (.inl h2)), fun h2 => ?_⟩
     refine W.callQ_of ((B.lst, ()), ()) (c_last hB hsm) rfl ?_
     have hwl : i64.wrap (B.lst + 1) = B.lst + 1 := wrap_in (by omega) (by omega)
     simp only [hwl]
     refine hJ _ _ ⟨rfl, _, rfl, fun h3 => lay_n3 hw (.inr (by simpa using h3)), fun h3 => ⟨_, lay_l h1' hw (by simp at h3; omega), fun e => (by rw [hw] at e; cases e), fun _ => ⟨rfl, by omega, by simp at h3; omega⟩⟩⟩
    refine ⟨fun hw => ?_, fun hw => ?_⟩
    ·simp only [decide_eq_true_eq, decide_eq_false_iff_not]
     refine ⟨fun h2 => bad _ rfl (lay_n2 hw (.inl h2)), fun h2 => ⟨fun h3 => bad _ rfl (lay_n2 hw (.inr (.inl h3))), fun h3 => ⟨fun h4 => bad _ rfl (lay_n2 hw (.inr (.inr (.inl h4)))), fun h4 => ⟨fun h5 => bad _ rfl (lay_n2 hw (.inr (.inr (.inr h5)))), fun h5 => ⟨fun h6 => ?_, fun h6 => ?_⟩⟩⟩⟩⟩
     ·rw [hw] at h6; cases h6
     ·refine hJ _ _ ⟨rfl, _, rfl, (fun e => by cases e), fun _ => ⟨_, lay_w h1' hw (by omega), fun _ => rfl, fun e => by rw [hw] at e; cases e⟩⟩
    ·have hw : D.whole = false := hw
     refine ⟨fun _ => last hw, fun h2 => ?_⟩
     rw [hw] at h2; cases h2
   ·intro K hK
    simp [W.br_iff]
    refine ⟨fun h1 => hK _ _ ⟨rfl, _, rfl, by simp [h1]⟩, fun h1 => ⟨fun h2 => hK _ _ ⟨rfl, _, rfl, by simp; omega⟩, fun h2 => ⟨fun h3 => hK _ _ ⟨rfl, _, rfl, by simp; omega⟩, fun h3 => hK _ _ ⟨rfl, _, rfl, by simp; omega⟩⟩⟩⟩
 ·simp [W.ld_at hb2, W.st_at hb2]
  have hB2 : Bal (s2.upd b (.cells ({ B with commit := B.base }.cells l noTri noTri noTri) 101 (0, 0))) b l noTri noTri noTri { B with commit := B.base } := hB.lay
  refine W.call_of (c_clean hB2 ⟨q1, q2, q3⟩) ?_
  rintro _ s3 ⟨rfl, hB3, m3⟩
  refine ⟨(), rfl, ?_⟩
  have hb0 := hf b (by simp [bL])
  exact ⟨(m2.updLater (.inr hb0)).fresh m3 (by simp [hb0]), .inl ⟨hok, _, hL.done (by omega), b, l, rfl, hB3, hf⟩⟩
end
end
section
theorem merge_cons (B : BS) (i : Int) (e : Ent) (xs : List Ent) : B.merge i (e :: xs) = if B.termAt (i + 1) = (e.term, true) then B.merge (i + 1) xs else B.set (i + 1) (e :: xs) := rfl
def BS.Fr (B : BS) : Prop := B.whole = false → B.base < B.from_ ∧ B.from_ ≤ B.lst + 1
theorem BS.Fr.same {B B' : BS} (h : B.Fr) (h1 : B'.base = B.base) (h2 : B'.log = B.log) (h3 : B'.from_ = B.from_) (h4 : B'.whole = B.whole) : B'.Fr := by
 intro hw
 rw [h4] at hw
 have := h hw
 have e : B'.lst = B.lst := by unfold BS.lst; rw [h1, h2]
 rw [h1, h3, e]; exact this
theorem BS.Fr.set {B : BS} (h : B.Fr) {i : Int} (h1 : B.base < i) (h2 : i ≤ B.lst + 1) (ys : List Ent) : (B.set i ys).Fr := by
 intro hw
 have hh := h hw
 have e := set_lst h1 h2 ys
 rw [e]
 show B.base < (if i < B.from_ then i else B.from_) ∧ (if i < B.from_ then i else B.from_) ≤ i - 1 + ys.length + 1
 split <;> omega
theorem BS.Fr.settled {B : BS} (h : B.Fr) (hlc : B.commit ≤ B.lst) : B.settled.1.Fr := by
 obtain ⟨c, hc, _⟩ := settled_com B hlc
 rw [hc]; exact h.same rfl rfl rfl rfl
theorem BS.Fr.counted {B : BS} (h : B.Fr) {z : Int} (hI : B.Inv z) : B.counted.1.Fr := by
 unfold BS.counted
 split
 ·exact h
 ·have hb := hI.run.ok.com
  have hlc := hI.run.lc
  have h2 : B.lead2.Fr := h.same rfl rfl rfl rfl
  have hl : B.lead2.lst = B.lst := rfl
  have h3 := h2.set (i := B.lst + 1) (by show B.base < _; omega) (by rw [hl]; omega) [{ noEnt with term := B.term }]
  refine h3.settled ?_
  rw [set_lst (B := B.lead2) (by show B.base < _; omega) (by rw [hl]; omega)]
  show B.commit ≤ _
  simp; omega
theorem BS.Fr.merge {B : BS} (h : B.Fr) : ∀ (xs : List Ent) (i : Int), B.base ≤ i → i ≤ B.lst → (B.merge i xs).Fr
 | [], _, _, _ => h
 | e :: xs, i, h1, h2 => by
  rw [merge_cons]
  split
  ·rename_i ht
   exact BS.Fr.merge h xs (i + 1) (by omega) (termAt_le (by rw [ht]) (by omega))
  ·exact h.set (by omega) (by omega) _
theorem BS.Fr.fed {B : BS} (h : B.Fr) {z : Int} (hI : B.Inv z) (M : Msg) : (B.fed M).1.Fr := by
 have hb := hI.run.ok.com
 have hlc := hI.run.lc
 have hC : ({ B with role := 0, lead := M.from_ } : BS).Fr := h.same rfl rfl rfl rfl
 unfold BS.fed
 split
 ·exact h
 ·dsimp only
  split
  ·exact hC
  ·split
   ·exact hC
   ·rename_i hc
    split
    ·exact (BS.Fr.merge hC _ B.commit hb hlc).same rfl rfl rfl rfl
    ·rename_i hge
     have hyes : B.termAt M.index = (M.prev, true) := by
      by_cases e : B.termAt M.index = (M.prev, true)
      ·exact e
      ·exact absurd ⟨hge, e⟩ hc
     have hil : M.index ≤ B.lst := termAt_le (by rw [hyes]) (by omega)
     exact (BS.Fr.merge hC _ M.index (by show B.base ≤ _; omega) hil).same rfl rfl rfl rfl
theorem BS.Fr.whole {B : BS} (h : B.whole = true) : B.Fr := fun e => by rw [h] at e; cases e
theorem BS.Fr.given {B : BS} (h : B.Fr) (M : Msg) : (B.given M).1.Fr := by
 unfold BS.given
 split
 ·exact h
 ·split
  ·exact h.same rfl rfl rfl rfl
  ·exact BS.Fr.whole rfl
theorem BS.Fr.asked {B : BS} (h : B.Fr) (M : Msg) : (B.asked M).1.Fr := by
 unfold BS.asked
 dsimp only
 split
 ·exact h.same rfl rfl rfl rfl
 ·exact h
theorem BS.Fr.voted {B : BS} (h : B.Fr) {z : Int} (hI : B.Inv z) (M : Msg) : (B.voted M).1.Fr := by
 unfold BS.voted
 split
 ·exact h
 ·have hb := hI.run.ok.com
  have hlc := hI.run.lc
  have h1 : ({ B with votes := B.votes.set M.from_.toNat true } : BS).Fr := h.same rfl rfl rfl rfl
  unfold BS.counted
  split
  ·exact h1
  ·have h2 : ({ B with votes := B.votes.set M.from_.toNat true } : BS).lead2.Fr := h1.same rfl rfl rfl rfl
   have hl : ({ B with votes := B.votes.set M.from_.toNat true } : BS).lead2.lst = B.lst := rfl
   have hl2 : ({ B with votes := B.votes.set M.from_.toNat true } : BS).lst = B.lst := rfl
   rw [hl2]
   have h3 := h2.set (i := B.lst + 1) (by show B.base < _; omega) (by rw [hl]; omega) [{ noEnt with term := B.term }]
   refine h3.settled ?_
   rw [set_lst (B := ({ B with votes := B.votes.set M.from_.toNat true } : BS).lead2) (by show B.base < _; omega) (by rw [hl]; omega)]
   show B.commit ≤ _
   simp; omega
theorem BS.Fr.heard {B : BS} (h : B.Fr) {z : Int} (hI : B.Inv z) (M : Msg) : (B.heard M).1.Fr := by
 have hlc := hI.run.lc
 unfold BS.heard
 split
 ·exact h
 ·dsimp only
  split
  ·exact h.same rfl rfl rfl rfl
  ·have h1 : (B.fedTo M.from_.toNat M.index).Fr := h.same rfl rfl rfl rfl
   have h2 := h1.settled hlc
   split
   ·exact h2
   ·exact h2
theorem BS.Fr.take {B : BS} (h : B.Fr) {z : Int} (hI : B.Inv z) (M : Msg) (hz : 0 ≤ z) : (B.take M).1.Fr := by
 unfold BS.take
 split
 ·exact h
 ·rename_i hst
  have hs : (B.seen M).Fr := by
   unfold BS.seen; split
   ·exact h.same rfl rfl rfl rfl
   ·exact h
  have hsI : (B.seen M).Inv z := by
   have hst : M.strange B.id B.size = false := by simpa using hst
   unfold Msg.strange at hst
   simp only [Bool.or_eq_false_iff, decide_eq_false_iff_not] at hst
   obtain ⟨f1, f2, f3, f4, f5, f6, f7, f8, f9, f10, ⟨f11, f12⟩, f13, f14⟩ := hst
   unfold BS.seen; split
   ·exact Inv.turned hI ⟨by omega, by omega⟩ hz
   ·exact hI
  split
  ·exact hs
  ·unfold BS.does
   split
   ·exact hs.asked M
   ·split
    ·exact hs.voted hsI M
    ·split
     ·exact hs.fed hsI M
     ·split
      ·exact hs.heard hsI M
      ·exact hs.given M
theorem BS.Fr.did {B : BS} (h : B.Fr) {z : Int} (hI : B.Inv z) (o : OpD) (hz : 0 ≤ z) : (B.did o).1.Fr := by
 have hb := hI.run.ok.com
 have hlc := hI.run.lc
 unfold BS.did
 split
 ·unfold BS.timeout
  split
  ·exact h
  ·have h1 : B.stood.Fr := h.same rfl rfl rfl rfl
   exact h1.counted (Inv.stood hI)
 split
 ·exact h
 split
 ·unfold BS.propose
  split
  ·have h1 : (B.proposed o.a o.b o.text).Fr := h.set (by omega) (Int.le_refl _) _
   refine h1.settled ?_
   have : (B.proposed o.a o.b o.text).lst = B.lst + 1 - 1 + ([(⟨B.term, o.a, o.b, o.text⟩ : Ent)].length : Int) := set_lst (by omega) (Int.le_refl _) _
   rw [this]
   show B.commit ≤ _
   simp; omega
  ·exact h
 split
 ·exact h.take hI o.M hz
 split
 ·unfold BS.cut
  split
  ·exact h
  ·exact BS.Fr.whole rfl
 ·exact h
theorem BS.Fr.cleaned {B : BS} (hs : B.base ≤ B.lst) : B.cleaned.Fr := fun _ => by
 show B.base < B.lst + 1 ∧ B.lst + 1 ≤ B.lst + 1
 omega
theorem Inv.cleaned {B : BS} {z : Int} (h : B.Inv z) : B.cleaned.Inv z := by
 have hk := h.run.ok
 exact ⟨⟨⟨⟨hk.small.base0, hk.small.base1, hk.small.log1⟩, hk.base, hk.size, hk.id, hk.com⟩, h.run.lc, h.run.vt, fun hr => ⟨(h.run.ld hr).nlen, (h.run.ld hr).mlen, (h.run.ld hr).nr, (h.run.ld hr).mr⟩⟩, h.len, h.far, h.term, h.vote⟩
end
section
open Fw.W
def vc_New {W : Type} (π : Prims W) : W :=
 π.nw (Obj.map #[] (0 : Nat)) fun r0 =>
 π.nw (Obj.cells #[(.map (some r0)), (.bool false), (.int .i64 0)] (107 : Nat) (0, 0)) fun r1 =>
 π.ret (.pointer (some (Addr.mk r1 0 none)))
def ann_New : Ann := {}
def la_New : LA := {}
theorem eq_New {W : Type} (π : Prims W) : bodyE π Tryz.prog la_New ann_New 4 Tryz.f37 (bodyOf Tryz.f37) [] [] = vc_New π := by kernel_rfl
theorem ok_New (R : RT) (s : PH) (h : vc_New (RP Tryz.prog R) s) : DCalls Tryz.prog 37 (List.map AV.val []).toArray s R :=
 callsE (c := bodyOf Tryz.f37) la_New mo Tryz.func37 rfl (by kernel_rfl) Tryz.ntmps37 rfl (by kernel_rfl) (eq_New ..) h
def vc_begin {W : Type} (π : Prims W) (b : Nat) : W :=
 π.ite ((some (Addr.mk b 0 none)).isNone) (
  π.ret (.tuple #[(.bool false), (.int .i64 2)])
 ) (
  π.unSome (some (Addr.mk b 0 none)) fun p0 =>
  π.ld [.bool] (p0.add 1) fun ((b1 : Bool), _) =>
  π.ite (b1) (
   π.ret (.tuple #[(.bool false), (.int .i64 50)])
  ) (
   π.unSome (some (Addr.mk b 0 none)) fun p2 =>
   π.ld [.int .i64] (p2.add 2) fun ((x3 : Int), _) =>
   π.ite (decide (x3 > 0)) (
    π.unSome (some (Addr.mk b 0 none)) fun p4 =>
    π.ld [.int .i64] (p4.add 2) fun ((x5 : Int), _) =>
    π.unSome (some (Addr.mk b 0 none)) fun p6 =>
    π.st (p6.add 2) [(.int .i64 (i64.wrap (x5 - 1)))] <|
    π.unSome (some (Addr.mk b 0 none)) fun p7 =>
    π.ld [.int .i64] (p7.add 2) fun ((x8 : Int), _) =>
    π.unSome (some (Addr.mk b 0 none)) fun p9 =>
    π.st (p9.add 1) [(.bool (x8 == 0))] <|
    π.unSome (some (Addr.mk b 0 none)) fun p10 =>
    π.ld [.bool] (p10.add 1) fun ((b11 : Bool), _) =>
    π.ite (b11) (
     π.ret (.tuple #[(.bool true), (.int .i64 50)])
    ) (
     π.ret (.tuple #[(.bool false), (.int .i64 0)])
    )
   ) (
    π.unSome (some (Addr.mk b 0 none)) fun p12 =>
    π.ld [.bool] (p12.add 1) fun ((b13 : Bool), _) =>
    π.ite (b13) (
     π.ret (.tuple #[(.bool true), (.int .i64 50)])
    ) (
     π.ret (.tuple #[(.bool false), (.int .i64 0)])
    )
   )
  )
 )
def ann_begin : Ann := {}
def la_begin : LA := {}
theorem eq_begin {W : Type} (π : Prims W) (b : Nat) : bodyE π Tryz.prog la_begin ann_begin 36 Tryz.f106 (bodyOf Tryz.f106) [.v (.pointer (some ⟨b, 0, none⟩))] [] = vc_begin π b := by kernel_rfl
theorem ok_begin (b : Nat) (R : RT) (s : PH) (h : vc_begin (RP Tryz.prog R) b s) : DCalls Tryz.prog 106 (List.map AV.val [.v (.pointer (some ⟨b, 0, none⟩))]).toArray s R :=
 callsE (c := bodyOf Tryz.f106) la_begin mo Tryz.func106 rfl (by kernel_rfl) Tryz.ntmps106 rfl (by kernel_rfl) (eq_begin ..) h
def vc_Append {W : Type} (π : Prims W) (b : Nat) (nm dt : ByteArray) : W :=
 π.call 106 #[(.pointer (some (Addr.mk b 0 none)))] (true, [(false, [.bool]), (false, [.int .i64])]) fun (((b0 : Bool), _), ((x1 : Int), _), _) =>
 π.join [(false, [.int .i64]), (false, [.bool])] (fun J2 =>
  π.ite (x1 == 0) (
   J2 ((x1, ()), (true, ()), ())
  ) (
   J2 ((x1, ()), (b0, ()), ())
  )
 ) (fun (((x3 : Int), _), ((b4 : Bool), _), _) =>
  π.ite (b4) (
   π.unSome (some (Addr.mk b 0 none)) fun p5 =>
   π.ld [.map] (p5.add 0) fun ((m6 : Option Nat), _) =>
   π.look (TypeDesc.string) (m6) (.string nm) (.agg #[(.string ⟨#[]⟩), (.int .i64 0)]) (true, [.str, .int .i64]) fun ((t8 : ByteArray), (x9 : Int), _) b7 =>
   π.guard ((↑(t8.size + dt.size) : Int) ≤ 9223372036854775807) <|
   π.unSome (some (Addr.mk b 0 none)) fun p10 =>
   π.ld [.map] (p10.add 0) fun ((m11 : Option Nat), _) =>
   π.mset (TypeDesc.string) (m11) (.string nm) (.agg #[(.string (t8 ++ dt)), (.int .i64 x9)]) <|
   π.ret (.int .i64 x3)
  ) (
   π.ret (.int .i64 x3)
  )
 )
def ann_Append : Ann := { draws := [(5, { A := [0, 1, 2, 3, 4, 5] })], join := [(3, [(8, 51), (19, 4)])],  }
def la_Append : LA := { ptr := [(9, 9, 0), (26, 9, 0), (30, 9, 0)], ty := [(9, 144)] }
theorem eq_Append {W : Type} (π : Prims W) (b : Nat) (nm dt : ByteArray) : bodyE π Tryz.prog la_Append ann_Append 38 Tryz.f99 (bodyOf Tryz.f99) [.v (.pointer (some ⟨b, 0, none⟩)), .v (.string nm), .v (.string dt)] [] = vc_Append π b nm dt := by kernel_rfl
theorem ok_Append (b : Nat) (nm dt : ByteArray) (R : RT) (s : PH) (h : vc_Append (RP Tryz.prog R) b nm dt s) : DCalls Tryz.prog 99 (List.map AV.val [.v (.pointer (some ⟨b, 0, none⟩)), .v (.string nm), .v (.string dt)]).toArray s R :=
 callsE (c := bodyOf Tryz.f99) la_Append mo Tryz.func99 rfl (by kernel_rfl) Tryz.ntmps99 rfl (by kernel_rfl) (eq_Append ..) h
def vc_Sync {W : Type} (π : Prims W) (b : Nat) (nm : ByteArray) : W :=
 π.call 106 #[(.pointer (some (Addr.mk b 0 none)))] (true, [(false, [.bool]), (false, [.int .i64])]) fun (((b0 : Bool), _), ((x1 : Int), _), _) =>
 π.ite (x1 != 0) (
  π.ret (.int .i64 x1)
 ) (
  π.unSome (some (Addr.mk b 0 none)) fun p2 =>
  π.ld [.map] (p2.add 0) fun ((m3 : Option Nat), _) =>
  π.look (TypeDesc.string) (m3) (.string nm) (.agg #[(.string ⟨#[]⟩), (.int .i64 0)]) (true, [.str, .int .i64]) fun ((t5 : ByteArray), (x6 : Int), _) b4 =>
  π.ite (b4) (
   π.unSome (some (Addr.mk b 0 none)) fun p7 =>
   π.ld [.map] (p7.add 0) fun ((m8 : Option Nat), _) =>
   π.mset (TypeDesc.string) (m8) (.string nm) (.agg #[(.string t5), (.int .i64 ((↑t5.size : Int)))]) <|
   π.ret (.int .i64 0)
  ) (
   π.ret (.int .i64 0)
  )
 )
def ann_Sync : Ann := { draws := [(7, { A := [0, 1, 2, 3, 4, 5] })],  }
def la_Sync : LA := { ptr := [(7, 7, 0), (27, 7, 0), (30, 7, 1)], ty := [(7, 144)] }
theorem eq_Sync {W : Type} (π : Prims W) (b : Nat) (nm : ByteArray) : bodyE π Tryz.prog la_Sync ann_Sync 37 Tryz.f100 (bodyOf Tryz.f100) [.v (.pointer (some ⟨b, 0, none⟩)), .v (.string nm)] [] = vc_Sync π b nm := by kernel_rfl
theorem ok_Sync (b : Nat) (nm : ByteArray) (R : RT) (s : PH) (h : vc_Sync (RP Tryz.prog R) b nm s) : DCalls Tryz.prog 100 (List.map AV.val [.v (.pointer (some ⟨b, 0, none⟩)), .v (.string nm)]).toArray s R :=
 callsE (c := bodyOf Tryz.f100) la_Sync mo Tryz.func100 rfl (by kernel_rfl) Tryz.ntmps100 rfl (by kernel_rfl) (eq_Sync ..) h
def vc_Swap {W : Type} (π : Prims W) (b : Nat) (nm dt : ByteArray) : W :=
 π.call 106 #[(.pointer (some (Addr.mk b 0 none)))] (true, [(false, [.bool]), (false, [.int .i64])]) fun (((b0 : Bool), _), ((x1 : Int), _), _) =>
 π.ite (x1 == 0) (
  π.unSome (some (Addr.mk b 0 none)) fun p2 =>
  π.ld [.map] (p2.add 0) fun ((m3 : Option Nat), _) =>
  π.mset (TypeDesc.string) (m3) (.string nm) (.agg #[(.string dt), (.int .i64 ((↑dt.size : Int)))]) <|
  π.ret (.int .i64 x1)
 ) (
  π.ret (.int .i64 x1)
 )
def ann_Swap : Ann := {}
def la_Swap : LA := {}
theorem eq_Swap {W : Type} (π : Prims W) (b : Nat) (nm dt : ByteArray) : bodyE π Tryz.prog la_Swap ann_Swap 26 Tryz.f83 (bodyOf Tryz.f83) [.v (.pointer (some ⟨b, 0, none⟩)), .v (.string nm), .v (.string dt)] [] = vc_Swap π b nm dt := by kernel_rfl
theorem ok_Swap (b : Nat) (nm dt : ByteArray) (R : RT) (s : PH) (h : vc_Swap (RP Tryz.prog R) b nm dt s) : DCalls Tryz.prog 83 (List.map AV.val [.v (.pointer (some ⟨b, 0, none⟩)), .v (.string nm), .v (.string dt)]).toArray s R :=
 callsE (c := bodyOf Tryz.f83) la_Swap mo Tryz.func83 rfl (by kernel_rfl) Tryz.ntmps83 rfl (by kernel_rfl) (eq_Swap ..) h
def vc_Read {W : Type} (π : Prims W) (b : Nat) (nm : ByteArray) : W :=
 π.ite ((some (Addr.mk b 0 none)).isNone) (
  π.ret (.tuple #[(.string ⟨#[]⟩), (.int .i64 2)])
 ) (
  π.unSome (some (Addr.mk b 0 none)) fun p0 =>
  π.ld [.bool] (p0.add 1) fun ((b1 : Bool), _) =>
  π.ite (b1) (
   π.ret (.tuple #[(.string ⟨#[]⟩), (.int .i64 50)])
  ) (
   π.unSome (some (Addr.mk b 0 none)) fun p2 =>
   π.ld [.map] (p2.add 0) fun ((m3 : Option Nat), _) =>
   π.look (TypeDesc.string) (m3) (.string nm) (.agg #[(.string ⟨#[]⟩), (.int .i64 0)]) (true, [.str, .int .i64]) fun ((t5 : ByteArray), (x6 : Int), _) b4 =>
   π.ret (.tuple #[(.string t5), (.int .i64 0)])
  )
 )
def ann_Read : Ann := {}
def la_Read : LA := {}
theorem eq_Read {W : Type} (π : Prims W) (b : Nat) (nm : ByteArray) : bodyE π Tryz.prog la_Read ann_Read 21 Tryz.f82 (bodyOf Tryz.f82) [.v (.pointer (some ⟨b, 0, none⟩)), .v (.string nm)] [] = vc_Read π b nm := by kernel_rfl
theorem ok_Read (b : Nat) (nm : ByteArray) (R : RT) (s : PH) (h : vc_Read (RP Tryz.prog R) b nm s) : DCalls Tryz.prog 82 (List.map AV.val [.v (.pointer (some ⟨b, 0, none⟩)), .v (.string nm)]).toArray s R :=
 callsE (c := bodyOf Tryz.f82) la_Read mo Tryz.func82 rfl (by kernel_rfl) Tryz.ntmps82 rfl (by kernel_rfl) (eq_Read ..) h
def vc_Arm {W : Type} (π : Prims W) (b : Nat) (n : Int) : W :=
 π.ite (!(some (Addr.mk b 0 none)).isNone) (
  π.unSome (some (Addr.mk b 0 none)) fun p0 =>
  π.ld [.bool] (p0.add 1) fun ((b1 : Bool), _) =>
  π.ite (!b1) (
   π.unSome (some (Addr.mk b 0 none)) fun p2 =>
   π.st (p2.add 2) [(.int .i64 (if n > 0 then n else (0 : Int)))] <|
   π.ret (.tuple #[])
  ) (
   π.ret (.tuple #[])
  )
 ) (
  π.ret (.tuple #[])
 )
def ann_Arm : Ann := {}
def la_Arm : LA := {}
theorem eq_Arm {W : Type} (π : Prims W) (b : Nat) (n : Int) : bodyE π Tryz.prog la_Arm ann_Arm 18 Tryz.f50 (bodyOf Tryz.f50) [.v (.pointer (some ⟨b, 0, none⟩)), .v (.int .i64 n)] [] = vc_Arm π b n := by kernel_rfl
theorem ok_Arm (b : Nat) (n : Int) (R : RT) (s : PH) (h : vc_Arm (RP Tryz.prog R) b n s) : DCalls Tryz.prog 50 (List.map AV.val [.v (.pointer (some ⟨b, 0, none⟩)), .v (.int .i64 n)]).toArray s R :=
 callsE (c := bodyOf Tryz.f50) la_Arm mo Tryz.func50 rfl (by kernel_rfl) Tryz.ntmps50 rfl (by kernel_rfl) (eq_Arm ..) h
def vc_Crash {W : Type} (π : Prims W) (b : Nat) (k : Option Addr) (n c : Nat) : W :=
 π.ite ((some (Addr.mk b 0 none)).isNone) (
  π.ret (.pointer none)
 ) (
  π.call 37 #[] (false, [(false, [.ptr])]) fun ((p0, _), _) =>
  π.call 81 #[(.pointer (some (Addr.mk b 0 none)))] (false, [(false, [.slice])]) fun ((((a1 : Option Addr), (n2 : Nat), (c3 : Nat)), _), _) =>
  π.loop [(false, [.ptr]), (false, [.slice]), (false, [.int .i64]), (false, [.int .i64])] ((p0, ()), ((a1, n2, c3), ()), ((↑n2 : Int), ()), ((0 : Int), ()), ()) fun ((p5, _), (((a6 : Option Addr), (n7 : Nat), (c8 : Nat)), _), ((x9 : Int), _), ((x10 : Int), _), _) again4 =>
   π.ite (decide (x10 < x9)) (
    π.guard (0 ≤ x10 ∧ x10 < (↑n7 : Int)) <|
    π.unSome (a6) fun p11 =>
    π.ld [.str] (p11.add (x10.toNat * 1)) fun ((t12 : ByteArray), _) =>
    π.unSome (some (Addr.mk b 0 none)) fun p13 =>
    π.ld [.map] (p13.add 0) fun ((m14 : Option Nat), _) =>
    π.look (TypeDesc.string) (m14) (.string t12) (.agg #[(.string ⟨#[]⟩), (.int .i64 0)]) (true, [.str, .int .i64]) fun ((t16 : ByteArray), (x17 : Int), _) b15 =>
    π.ite (decide (x10 < (↑n : Int))) (
     π.guard (0 ≤ x10 ∧ x10 < (↑n : Int)) <|
     π.unSome (k) fun p18 =>
     π.ld [.int .i64] (p18.add (x10.toNat * 1)) fun ((x19 : Int), _) =>
     π.unSome (p5) fun p20 =>
     π.ld [.map] (p20.add 0) fun ((m21 : Option Nat), _) =>
     π.guard ((0 : Int) ≤ 0 ∧ 0 ≤ i64.wrap (x17 + if (if i64.wrap ((↑t16.size : Int) - x17) < x19 then i64.wrap ((↑t16.size : Int) - x17) else x19) > 0 then if i64.wrap ((↑t16.size : Int) - x17) < x19 then i64.wrap ((↑t16.size : Int) - x17) else x19 else (0 : Int)) ∧ i64.wrap (x17 + if (if i64.wrap ((↑t16.size : Int) - x17) < x19 then i64.wrap ((↑t16.size : Int) - x17) else x19) > 0 then if i64.wrap ((↑t16.size : Int) - x17) < x19 then i64.wrap ((↑t16.size : Int) - x17) else x19 else (0 : Int)) ≤ (↑t16.size : Int)) <|
     π.mset (TypeDesc.string) (m21) (.string t12) (.agg #[(.string (t16.extract (0 : Nat) (i64.wrap (x17 + if (if i64.wrap ((↑t16.size : Int) - x17) < x19 then i64.wrap ((↑t16.size : Int) - x17) else x19) > 0 then if i64.wrap ((↑t16.size : Int) - x17) < x19 then i64.wrap ((↑t16.size : Int) - x17) else x19 else (0 : Int))).toNat)), (.int .i64 (i64.wrap (x17 + if (if i64.wrap ((↑t16.size : Int) - x17) < x19 then i64.wrap ((↑t16.size : Int) - x17) else x19) > 0 then if i64.wrap ((↑t16.size : Int) - x17) < x19 then i64.wrap ((↑t16.size : Int) - x17) else x19 else (0 : Int))))]) <|
     again4 ((p5, ()), ((a6, n7, c8), ()), (x9, ()), (i64.wrap (x10 + 1), ()), ())
    ) (
     π.unSome (p5) fun p22 =>
     π.ld [.map] (p22.add 0) fun ((m23 : Option Nat), _) =>
     π.guard ((0 : Int) ≤ 0 ∧ 0 ≤ i64.wrap (x17 + 0) ∧ i64.wrap (x17 + 0) ≤ (↑t16.size : Int)) <|
     π.mset (TypeDesc.string) (m23) (.string t12) (.agg #[(.string (t16.extract (0 : Nat) (i64.wrap (x17 + 0)).toNat)), (.int .i64 (i64.wrap (x17 + 0)))]) <|
     again4 ((p5, ()), ((a6, n7, c8), ()), (x9, ()), (i64.wrap (x10 + 1), ()), ())
    )
   ) (
    π.unSome (some (Addr.mk b 0 none)) fun p24 =>
    π.st (p24.add 1) [(.bool true)] <|
    π.ret (.pointer (p5))
   )
 )
def ann_Crash : Ann := { draws := [(10, { A := [0, 1, 2, 3, 4, 5, 6, 7, 8, 9, 10, 11, 12] }), (11, { A := [0, 1, 2, 3, 4, 5, 6, 7, 8, 9, 10, 11, 12, 13, 14, 15, 16] })], loop := [(5, [(5, 70), (14, 28), (15, 3), (16, 3)])] }
def la_Crash : LA := { ptr := [(8, 8, 0), (35, 8, 0), (38, 8, 1), (48, 8, 0), (50, 8, 1), (55, 8, 1)], ty := [(8, 144)] }
theorem eq_Crash {W : Type} (π : Prims W) (b : Nat) (k : Option Addr) (n c : Nat) : bodyE π Tryz.prog la_Crash ann_Crash 65 Tryz.f56 (bodyOf Tryz.f56) [.v (.pointer (some ⟨b, 0, none⟩)), .v (.slice k n c)] [] = vc_Crash π b k n c := by kernel_rfl
theorem ok_Crash (b : Nat) (k : Option Addr) (n c : Nat) (R : RT) (s : PH) (h : vc_Crash (RP Tryz.prog R) b k n c s) : DCalls Tryz.prog 56 (List.map AV.val [.v (.pointer (some ⟨b, 0, none⟩)), .v (.slice k n c)]).toArray s R :=
 callsE (c := bodyOf Tryz.f56) la_Crash mo Tryz.func56 rfl (by kernel_rfl) Tryz.ntmps56 rfl (by kernel_rfl) (eq_Crash ..) h
def vc_Names {W : Type} (π : Prims W) (b : Nat) : W :=
 π.ite ((some (Addr.mk b 0 none)).isNone) (
  π.ret (.slice none 0 0)
 ) (
  π.unSome (some (Addr.mk b 0 none)) fun p0 =>
  π.ld [.map] (p0.add 0) fun ((m1 : Option Nat), _) =>
  π.call 105 #[(.map (m1))] (false, [(false, [.raw])]) fun (((v2 : Value), _), _) =>
  π.call 104 #[v2] (false, [(false, [.slice])]) fun ((((a3 : Option Addr), (n4 : Nat), (c5 : Nat)), _), _) =>
  π.ret (.slice a3 n4 c5)
 )
def ann_Names : Ann := {}
def la_Names : LA := {}
theorem eq_Names {W : Type} (π : Prims W) (b : Nat) : bodyE π Tryz.prog la_Names ann_Names 11 Tryz.f81 (bodyOf Tryz.f81) [.v (.pointer (some ⟨b, 0, none⟩))] [] = vc_Names π b := by kernel_rfl
theorem ok_Names (b : Nat) (R : RT) (s : PH) (h : vc_Names (RP Tryz.prog R) b s) : DCalls Tryz.prog 81 (List.map AV.val [.v (.pointer (some ⟨b, 0, none⟩))]).toArray s R :=
 callsE (c := bodyOf Tryz.f81) la_Names mo Tryz.func81 rfl (by kernel_rfl) Tryz.ntmps81 rfl (by kernel_rfl) (eq_Names ..) h
end
section
structure DS where
 files : List (ByteArray × (ByteArray × Int))
 down : Bool
 armed : Int
def fileV (p : ByteArray × Int) : Value := .agg #[.string p.1, .int .i64 p.2]
def dptr (b : Nat) : Value := .pointer (some ⟨b, 0, none⟩)
structure DriveIs (s : PH) (b m : Nat) (d : DS) : Prop where
 blk : s b = some (.cells #[.map (some m), .bool d.down, .int .i64 d.armed] 107 (0, 0))
 map : isMap strKey fileV s m d.files
def DS.begin (d : DS) : (Bool × Int) × DS :=
 if d.down then ((false, 50), d)
 else if d.armed > 0 then
  let a := i64.wrap (d.armed - 1)
  ((a == 0, if a == 0 then 50 else 0), { d with armed := a, down := a == 0 })
 else ((false, 0), d)
theorem DriveIs.ne {s : PH} {b m : Nat} {d : DS} (h : DriveIs s b m d) : b ≠ m := by
 rintro rfl
 obtain ⟨es, c, h1, _⟩ := h.map
 rw [h.blk] at h1; cases h1
theorem c_New (s : PH) : DCalls Tryz.prog 37 #[] s fun v s' => ∃ b m, v = dptr b ∧ DriveIs s' b m ⟨[], false, 0⟩ ∧ Mod [] s s' ∧ s b = none ∧ s m = none := by
 refine ok_New _ s ?_
 unfold vc_New
 simp only [RP_nw, RP_ret, W.nw_iff, W.ret_iff]
 intro m hm b hb
 have hne : b ≠ m := by rintro rfl; simp at hb
 have hb' : s b = none := by rwa [PH.upd_other _ _ hne] at hb
 exact ⟨b, m, rfl, ⟨PH.upd_same _ _ _, isMap.other isMap.new hne.symm⟩, (Mod.new hm).updLater (.inr hb'), hb', hm⟩
theorem DriveIs.upd {s : PH} {b m : Nat} {d : DS} (h : DriveIs s b m d) (x : Bool) (n : Int) : DriveIs (s.upd b (.cells #[.map (some m), .bool x, .int .i64 n] 107 (0, 0))) b m { d with down := x, armed := n } :=
 ⟨PH.upd_same _ _ _, h.map.other h.ne.symm⟩
theorem DriveIs.mod {L : List Nat} {s s' : PH} {b m : Nat} {d : DS} (h : DriveIs s b m d) (hm : Fw.Mod L s s') (hb : b ∉ L) (hl : m ∉ L) : DriveIs s' b m d :=
 ⟨hm.at h.blk hb, h.map.mod hm hl⟩
theorem c_begin {s : PH} {b m : Nat} {d : DS} (h : DriveIs s b m d) : DCalls Tryz.prog 106 #[dptr b] s fun v s' =>
  v = .tuple #[.bool d.begin.1.1, .int .i64 d.begin.1.2] ∧ DriveIs s' b m d.begin.2 ∧ Fw.Mod [b] s s' := by
 have hb := h.blk
 refine ok_begin b _ s ?_
 unfold vc_begin
 simp [W.br_iff, hb, DS.begin]
 refine ⟨fun hd => ?_, fun hd => ⟨fun ha => ⟨fun h0 => ?_, fun h0 => ?_⟩, fun ha => ?_⟩⟩
 ·simp [hd, h, Mod.refl]
 ·have := h.upd true 0
  simp [hd, ha, h0, this, Mod.upd]
 ·have := h.upd false (i64.wrap (d.armed - 1))
  have h1 : (i64.wrap (d.armed - 1) == 0) = false := by simpa using h0
  simp [hd, ha, h0, h1, this, Mod.upd]
 ·have : ¬ 0 < d.armed := by omega
  simp [hd, this, h, Mod.refl]
def DS.got (d : DS) (nm : ByteArray) : ByteArray × Int := (d.files.lookup nm).getD (⟨#[]⟩, 0)
def DS.append (d : DS) (nm dt : ByteArray) : Int × DS :=
 let (r, d') := d.begin
 if r.2 == 0 || r.1 then (r.2, { d' with files := aset d'.files nm ((d'.got nm).1 ++ dt, (d'.got nm).2) }) else (r.2, d')
def DS.sync (d : DS) (nm : ByteArray) : Int × DS :=
 let (r, d') := d.begin
 if r.2 == 0 then match d'.files.lookup nm with
  | some f => (0, { d' with files := aset d'.files nm (f.1, f.1.size) })
  | none => (0, d')
 else (r.2, d')
def DS.swap (d : DS) (nm dt : ByteArray) : Int × DS :=
 let (r, d') := d.begin
 if r.2 == 0 then (0, { d' with files := aset d'.files nm (dt, dt.size) }) else (r.2, d')
theorem look_file {s : PH} {m : Nat} {f : List (ByteArray × (ByteArray × Int))} (hm : isMap strKey fileV s m f) (nm : ByteArray) {k : Den [CT.str, CT.int .i64] → Bool → W.T}
  (hk : k (((f.lookup nm).getD (⟨#[]⟩, 0)).1, ((f.lookup nm).getD (⟨#[]⟩, 0)).2, ()) (f.lookup nm).isSome s) :
  W.look .string (some m) (.string nm) (.agg #[.string ⟨#[]⟩, .int .i64 0]) (true, [.str, .int .i64]) k s := by
 refine look_of (ke := strKey) (key := nm) hm ?_
 cases e : f.lookup nm with
 | none => rw [e] at hk; exact ⟨_, rfl, hk⟩
 | some v => rw [e] at hk; exact ⟨_, rfl, hk⟩
theorem mset_file {s : PH} {b m : Nat} {d : DS} (h : DriveIs s b m d) (nm t : ByteArray) (n : Int) {k : W.T}
  (hk : ∀ s', DriveIs s' b m { d with files := aset d.files nm (t, n) } → Fw.Mod [m] s s' → k s') :
  W.mset .string (some m) (.string nm) (.agg #[.string t, .int .i64 n]) k s :=
 mset_of (ke := strKey) (ve := fileV) (v := (t, n)) (key := nm) h.map fun o ho => hk _ ⟨by rw [PH.upd_other _ _ h.ne]; exact h.blk, ho⟩ (Mod.upd (by simp))
theorem DS.begin_got (d : DS) (nm : ByteArray) : d.begin.2.got nm = d.got nm := by
 unfold DS.got DS.begin; split
 ·rfl
 ·split <;> rfl
theorem c_Append {s : PH} {b m : Nat} {d : DS} (h : DriveIs s b m d) (nm dt : ByteArray) (hsz : (d.got nm).1.size + dt.size ≤ 9223372036854775807) : DCalls Tryz.prog 99 #[dptr b, .string nm, .string dt] s fun v s' =>
  v = .int .i64 (d.append nm dt).1 ∧ DriveIs s' b m (d.append nm dt).2 ∧ Fw.Mod [b, m] s s' := by
 refine ok_Append b nm dt _ s ?_
 unfold vc_Append
 simp only [RP_call]
 refine W.call_of (c_begin h) ?_
 rintro _ s1 ⟨rfl, h1, m1⟩
 refine ⟨((d.begin.1.1, ()), (d.begin.1.2, ()), ()), rfl, ?_⟩
 have m1' := m1.mono (L' := [b, m]) (by simp)
 have hb := h1.blk
 simp only [RP_join]
 refine W.join_gen (fun x s' => s' = s1 ∧ x.1.1 = d.begin.1.2 ∧ x.2.1.1 = (d.begin.1.2 == 0 || d.begin.1.1)) ?_ ?_
 ·rintro ⟨⟨x, _⟩, ⟨c, _⟩, _⟩ s' ⟨rfl, rfl, rfl⟩
  simp only [RP_ite, W.br_iff]
  refine ⟨fun hc => ?_, fun hc => ?_⟩
  ·simp [hb]
   refine look_file h1.map nm ?_
   have hg := d.begin_got nm
   rw [← hg] at hsz
   unfold DS.got at hsz
   simp [hb]
   refine ⟨by omega, ?_⟩
   refine mset_file h1 nm _ _ ?_
   intro s2 hs2 hm
   have m2 := m1'.trans (hm.mono (L' := [b, m]) (by simp))
   simp only [RP_ret, W.ret_iff, DS.append, hc, if_true, true_and]
   exact ⟨hs2, m2⟩
  ·simp [DS.append, hc, h1, m1']
 ·intro K3 hK3
  simp only [RP_ite, W.br_iff]
  refine ⟨fun hc => hK3 _ _ ?_, fun hc => hK3 _ _ ?_⟩ <;> simp [hc]
theorem c_Sync {s : PH} {b m : Nat} {d : DS} (h : DriveIs s b m d) (nm : ByteArray) : DCalls Tryz.prog 100 #[dptr b, .string nm] s fun v s' =>
  v = .int .i64 (d.sync nm).1 ∧ DriveIs s' b m (d.sync nm).2 ∧ Fw.Mod [b, m] s s' := by
 refine ok_Sync b nm _ s ?_
 unfold vc_Sync
 simp only [RP_call]
 refine W.call_of (c_begin h) ?_
 rintro _ s1 ⟨rfl, h1, m1⟩
 refine ⟨((d.begin.1.1, ()), (d.begin.1.2, ()), ()), rfl, ?_⟩
 have m1' := m1.mono (L' := [b, m]) (by simp)
 have hb := h1.blk
 simp [W.br_iff, hb]
 refine ⟨fun h0 => ?_, fun h0 => look_file h1.map nm ?_⟩
 ·simp [DS.sync, h0, h1, m1']
 cases e : d.begin.2.files.lookup nm with
 | none =>
  simp only [Option.isSome_none, W.br_false, Option.getD_none]
  simp [DS.sync, h0, e, m1', h1]
 | some f =>
  simp only [Option.isSome_some, W.br_true, Option.getD_some]
  simp [hb]
  refine mset_file h1 nm _ _ ?_
  intro s' hs' hm
  simp [DS.sync, h0, e, hs', (m1'.trans (hm.mono (by simp)))]
theorem c_Swap {s : PH} {b m : Nat} {d : DS} (h : DriveIs s b m d) (nm dt : ByteArray) : DCalls Tryz.prog 83 #[dptr b, .string nm, .string dt] s fun v s' =>
  v = .int .i64 (d.swap nm dt).1 ∧ DriveIs s' b m (d.swap nm dt).2 ∧ Fw.Mod [b, m] s s' := by
 refine ok_Swap b nm dt _ s ?_
 unfold vc_Swap
 simp only [RP_call]
 refine W.call_of (c_begin h) ?_
 rintro _ s1 ⟨rfl, h1, m1⟩
 refine ⟨((d.begin.1.1, ()), (d.begin.1.2, ()), ()), rfl, ?_⟩
 have m1' := m1.mono (L' := [b, m]) (by simp)
 have hb := h1.blk
 simp [W.br_iff, hb]
 refine ⟨fun h0 => mset_file h1 nm _ _ ?_, fun h0 => ?_⟩
 ·intro s' hs' hm
  simp [DS.swap, h0, hs', m1'.trans (hm.mono (by simp))]
 ·simp [DS.swap, h0, h1, m1']
def DS.read (d : DS) (nm : ByteArray) : ByteArray × Int := if d.down then (⟨#[]⟩, 50) else ((d.got nm).1, 0)
theorem c_Read {s : PH} {b m : Nat} {d : DS} (h : DriveIs s b m d) (nm : ByteArray) : DCalls Tryz.prog 82 #[dptr b, .string nm] s fun v s' =>
  v = .tuple #[.string (d.read nm).1, .int .i64 (d.read nm).2] ∧ s' = s := by
 refine ok_Read b nm _ s ?_
 unfold vc_Read
 have hb := h.blk
 simp [W.br_iff, hb]
 refine ⟨fun h0 => ?_, fun h0 => look_file h.map nm ?_⟩
 ·simp [DS.read, h0]
 ·simp [DS.read, DS.got, h0]
def DS.arm (d : DS) (n : Int) : DS := if d.down then d else { d with armed := if n > 0 then n else 0 }
theorem c_Arm {s : PH} {b m : Nat} {d : DS} (h : DriveIs s b m d) (n : Int) : DCalls Tryz.prog 50 #[dptr b, .int .i64 n] s fun v s' =>
  v = .tuple #[] ∧ DriveIs s' b m (d.arm n) ∧ Fw.Mod [b] s s' := by
 refine ok_Arm b n _ s ?_
 unfold vc_Arm
 have hb := h.blk
 simp [W.br_iff, hb]
 refine ⟨fun h0 => ?_, fun h0 => ?_⟩
 ·have := h.upd false (if 0 < n then n else 0)
  simp [DS.arm, h0, this, Mod.upd]
 ·simp [DS.arm, h0, h, Mod.refl]
end
end Go.Proofs.YtcdggocbjnmeaaaGreat
section
namespace Go.Proofs
open Go.RowKit Go.Maps Go.Sort Go.Shelf
def Tryz.keys44_ren : Go.Shelf.Ren := ⟨fun | 7 => 105 | 10 => 116 | n => n, fun | 23 => 105 | 26 => 9 | 3 => 144 | 28 => 168 | 0 => 0 | 27 => 167 | 33 => 190 | 4 => 4 | n => n, fun | n => n⟩
theorem Tryz.keys44 : Go.Proofs.SlLaysZ.n7 Tryz.prog Tryz.keys44_ren := {
 mixed := by kernel_rfl
 f7 := ⟨Tryz.f105.name, by decide, Tryz.func105.trans (congrArg some (by kernel_rfl))⟩
 f10 := ⟨Tryz.f116.name, by decide, Tryz.func116.trans (congrArg some (by kernel_rfl))⟩
 t0 := Tryz.underlying0
 a0 := Tryz.isAgg0
 z0 := Tryz.sizeOf0
 v0 := Tryz.zeroValue0
 t4 := Tryz.underlying4
 a4 := Tryz.isAgg4
 z4 := Tryz.sizeOf4
 v4 := Tryz.zeroValue4
 t23 := Tryz.underlying105
 a23 := Tryz.isAgg105
 z23 := Tryz.sizeOf105
 v23 := Tryz.zeroValue105
 t26 := Tryz.underlying9
 a26 := Tryz.isAgg9
 z26 := Tryz.sizeOf9
 v26 := Tryz.zeroValue9
 t27 := Tryz.underlying167
 a27 := Tryz.isAgg167
 z27 := Tryz.sizeOf167
 v27 := Tryz.zeroValue167
 t28 := Tryz.underlying168
 a28 := Tryz.isAgg168
 z28 := Tryz.sizeOf168
 v28 := Tryz.zeroValue168
 t33 := Tryz.underlying190
 a33 := Tryz.isAgg190
 z33 := Tryz.sizeOf190
 v33 := Tryz.zeroValue190 }
def Tryz.sorted43_ren : Go.Shelf.Ren := ⟨fun | 6 => 104 | 8 => 114 | 9 => 115 | 11 => 120 | 13 => 122 | 12 => 121 | 23 => 133 | 24 => 134 | 14 => 124 | 15 => 125 | 16 => 126 | 17 => 127 | 18 => 128 | 19 => 129 | 20 => 130 | 21 => 131 | 22 => 132 | 25 => 135 | 26 => 136 | 27 => 137 | 28 => 138 | 29 => 139 | 30 => 140 | 31 => 141 | n => n, fun | 26 => 9 | 28 => 168 | 24 => 28 | 0 => 0 | 3 => 3 | 37 => 56 | 48 => 133 | 50 => 198 | 4 => 4 | 40 => 207 | 39 => 206 | 45 => 40 | 5 => 5 | 9 => 9 | 51 => 215 | 55 => 176 | 57 => 220 | 58 => 221 | 33 => 190 | n => n, fun | n => n⟩
theorem Tryz.sorted43 : Go.Proofs.SlLaysZ.n6 Tryz.prog Tryz.sorted43_ren := {
 mixed := by kernel_rfl
 f6 := ⟨Tryz.f104.name, by decide, Tryz.func104.trans (congrArg some (by kernel_rfl))⟩
 f8 := ⟨Tryz.f114.name, by decide, Tryz.func114.trans (congrArg some (by kernel_rfl))⟩
 f11 := ⟨Tryz.f120.name, by decide, Tryz.func120.trans (congrArg some (by kernel_rfl))⟩
 t0 := Tryz.underlying0
 a0 := Tryz.isAgg0
 z0 := Tryz.sizeOf0
 v0 := Tryz.zeroValue0
 t24 := Tryz.underlying28
 a24 := Tryz.isAgg28
 z24 := Tryz.sizeOf28
 v24 := Tryz.zeroValue28
 t26 := Tryz.underlying9
 a26 := Tryz.isAgg9
 z26 := Tryz.sizeOf9
 v26 := Tryz.zeroValue9
 t28 := Tryz.underlying168
 a28 := Tryz.isAgg168
 z28 := Tryz.sizeOf168
 v28 := Tryz.zeroValue168
 i26 := by kernel_rfl }
def Tryz.sort49_ren : Go.Shelf.Ren := ⟨fun | 6 => 115 | 8 => 122 | 9 => 121 | 19 => 133 | 20 => 134 | 21 => 124 | 22 => 125 | 23 => 126 | 24 => 127 | 25 => 128 | 26 => 129 | 27 => 130 | 28 => 131 | 29 => 132 | 36 => 135 | 31 => 136 | 32 => 137 | 37 => 138 | 38 => 139 | 39 => 140 | 41 => 141 | n => n, fun | 27 => 28 | 29 => 9 | 3 => 3 | 32 => 56 | 26 => 28 | 0 => 0 | 44 => 133 | 46 => 198 | 4 => 4 | 36 => 207 | 35 => 206 | 41 => 40 | 5 => 5 | 9 => 9 | 53 => 215 | 57 => 176 | 63 => 220 | 64 => 221 | n => n, fun | n => n⟩
theorem Tryz.sort49 : Go.Proofs.SlLaysM.n6 Tryz.prog Tryz.sort49_ren := {
 mixed := by kernel_rfl
 f6 := ⟨Tryz.f115.name, by decide, Tryz.func115.trans (congrArg some (by kernel_rfl))⟩
 f8 := Tryz.func122.trans (congrArg some (by kernel_rfl))
 f9 := ⟨Tryz.f121.name, by decide, Tryz.func121.trans (congrArg some (by kernel_rfl))⟩
 f19 := Tryz.func133.trans (congrArg some (by kernel_rfl))
 f20 := Tryz.func134.trans (congrArg some (by kernel_rfl))
 f21 := ⟨Tryz.f124.name, by decide, Tryz.func124.trans (congrArg some (by kernel_rfl))⟩
 f22 := ⟨Tryz.f125.name, by decide, Tryz.func125.trans (congrArg some (by kernel_rfl))⟩
 f23 := ⟨Tryz.f126.name, by decide, Tryz.func126.trans (congrArg some (by kernel_rfl))⟩
 f24 := ⟨Tryz.f127.name, by decide, Tryz.func127.trans (congrArg some (by kernel_rfl))⟩
 f25 := ⟨Tryz.f128.name, by decide, Tryz.func128.trans (congrArg some (by kernel_rfl))⟩
 f26 := ⟨Tryz.f129.name, by decide, Tryz.func129.trans (congrArg some (by kernel_rfl))⟩
 f27 := ⟨Tryz.f130.name, by decide, Tryz.func130.trans (congrArg some (by kernel_rfl))⟩
 f28 := ⟨Tryz.f131.name, by decide, Tryz.func131.trans (congrArg some (by kernel_rfl))⟩
 f29 := ⟨Tryz.f132.name, by decide, Tryz.func132.trans (congrArg some (by kernel_rfl))⟩
 f31 := Tryz.func136.trans (congrArg some (by kernel_rfl))
 f32 := Tryz.func137.trans (congrArg some (by kernel_rfl))
 f36 := ⟨Tryz.f135.name, by decide, Tryz.func135.trans (congrArg some (by kernel_rfl))⟩
 f37 := ⟨Tryz.f138.name, by decide, Tryz.func138.trans (congrArg some (by kernel_rfl))⟩
 f38 := ⟨Tryz.f139.name, by decide, Tryz.func139.trans (congrArg some (by kernel_rfl))⟩
 f39 := ⟨Tryz.f140.name, by decide, Tryz.func140.trans (congrArg some (by kernel_rfl))⟩
 f41 := ⟨Tryz.f141.name, by decide, Tryz.func141.trans (congrArg some (by kernel_rfl))⟩
 t0 := Tryz.underlying0
 a0 := Tryz.isAgg0
 z0 := Tryz.sizeOf0
 v0 := Tryz.zeroValue0
 t3 := Tryz.underlying3
 a3 := Tryz.isAgg3
 z3 := Tryz.sizeOf3
 v3 := Tryz.zeroValue3
 t4 := Tryz.underlying4
 a4 := Tryz.isAgg4
 z4 := Tryz.sizeOf4
 v4 := Tryz.zeroValue4
 t5 := Tryz.underlying5
 a5 := Tryz.isAgg5
 z5 := Tryz.sizeOf5
 v5 := Tryz.zeroValue5
 t9 := Tryz.underlying9
 a9 := Tryz.isAgg9
 z9 := Tryz.sizeOf9
 v9 := Tryz.zeroValue9
 t26 := Tryz.underlying28
 a26 := Tryz.isAgg28
 z26 := Tryz.sizeOf28
 v26 := Tryz.zeroValue28
 t27 := Tryz.underlying28
 a27 := Tryz.isAgg28
 z27 := Tryz.sizeOf28
 v27 := Tryz.zeroValue28
 t29 := Tryz.underlying9
 a29 := Tryz.isAgg9
 z29 := Tryz.sizeOf9
 v29 := Tryz.zeroValue9
 t32 := Tryz.underlying56
 a32 := Tryz.isAgg56
 z32 := Tryz.sizeOf56
 v32 := Tryz.zeroValue56
 t35 := Tryz.underlying206
 a35 := Tryz.isAgg206
 z35 := Tryz.sizeOf206
 v35 := Tryz.zeroValue206
 t36 := Tryz.underlying207
 a36 := Tryz.isAgg207
 z36 := Tryz.sizeOf207
 v36 := Tryz.zeroValue207
 t41 := Tryz.underlying40
 a41 := Tryz.isAgg40
 z41 := Tryz.sizeOf40
 v41 := Tryz.zeroValue40
 t44 := Tryz.underlying133
 a44 := Tryz.isAgg133
 z44 := Tryz.sizeOf133
 v44 := Tryz.zeroValue133
 t46 := Tryz.underlying198
 a46 := Tryz.isAgg198
 z46 := Tryz.sizeOf198
 v46 := Tryz.zeroValue198
 t53 := Tryz.underlying215
 a53 := Tryz.isAgg215
 z53 := Tryz.sizeOf215
 v53 := Tryz.zeroValue215
 t57 := Tryz.underlying176
 a57 := Tryz.isAgg176
 z57 := Tryz.sizeOf176
 v57 := Tryz.zeroValue176
 t63 := Tryz.underlying220
 a63 := Tryz.isAgg220
 z63 := Tryz.sizeOf220
 v63 := Tryz.zeroValue220
 t64 := Tryz.underlying221
 a64 := Tryz.isAgg221
 z64 := Tryz.sizeOf221
 v64 := Tryz.zeroValue221 }
theorem Tryz.sorts43 (m : Nat) : AnyZ.SortsIn Tryz.prog Tryz.sorted43_ren Fence.wide m :=
 ⟨fun blk off cap ss W hH hblk hsz => callsIn_wide.2 (AnyM.slices_Sort_string Tryz.sort49 blk off cap ss W hH hblk hsz),
  fun p cap W => callsIn_wide.2 (AnyM.slices_Sort_string_none Tryz.sort49 p cap W)⟩
theorem Tryz.maps_Keys_44 (mb : Option Nat) (W : World) : CallsIn Fence.wide 5 Tryz.prog 105 #[.map mb] W fun e w' => e = .returned (.func (.func 116) #[] #[.pointer (some ⟨W.heap.size, 0, none⟩)]) ∧ w' = W.alloc (.cells #[.map mb] 105) :=
 AnyZ.keys_in Tryz.keys44 Fence.wide 5 trivial rfl mb W
namespace YtcdggocbjnmeaaaGreat
open Fw
theorem rel_below {w w' : World} {s : PH} (hs : Sub s w) (hb : RowKit.Below w.heap.size w w') : Rel w s s w' :=
 ⟨fun b o e => by
  have h := hs b o e
  rcases Nat.lt_or_ge b w.heap.size with q | q
  ·rw [hb.block b q]; exact h
  ·simp [Array.getElem?_eq_none q] at h,
hb.os, hb.tape, hb.output, hb.size, fun k hk e => ⟨e, hb.block k hk⟩⟩
theorem rel_below_new {w w' : World} {s : PH} (hs : Sub s w) (hb : RowKit.Below w.heap.size w w') {g : Nat} {o : Obj} (hg : w.heap.size ≤ g) (ho : w'.heap[g]? = some o) : s g = none ∧ Rel w s (s.upd g o) w' := by
 have hn : s g = none := by
  cases e : s g with
  | none => rfl
  | some x => have := hs g x e; simp [Array.getElem?_eq_none hg] at this
 have hr := rel_below hs hb
 refine ⟨hn, fun b x e => ?_, hr.os, hr.tape, hr.output, hr.size, fun k hk e => ?_⟩
 ·by_cases hbg : b = g
  ·subst hbg; rw [PH.upd_same] at e; cases e; exact ho
  ·rw [PH.upd_other _ _ hbg] at e; exact hr.sub b x e
 ·have hkg : k ≠ g := by omega
  rw [PH.upd_other _ _ hkg]; exact hr.out k hk e
def strsAt (s : PH) (a : Option Addr) (n c : Nat) (l : List ByteArray) : Prop :=
 n = l.length ∧ ((a = none ∧ c = 0 ∧ l = []) ∨ ∃ g cur, a = some ⟨g, 0, none⟩ ∧ s g = some (.cells cur 9 (0, 0)) ∧ cur.toList.take n = l.map Value.string ∧ n ≤ c ∧ cur.size = c)
def ofBytes (l : List UInt8) : ByteArray := ⟨l.toArray⟩
def sortedKeys {V : Type} (f : List (ByteArray × V)) : List ByteArray := ((f.map fun p => p.1.data.toList).mergeSort leB).map ofBytes
theorem c_Keys (mb : Option Nat) (s : PH) : DCalls Tryz.prog 105 #[.map mb] s fun v s' =>
  ∃ r, s r = none ∧ v = .func (.func 116) #[] #[.pointer (some ⟨r, 0, none⟩)] ∧ s' = s.upd r (.cells #[.map mb] 105 (0, 0)) := by
 intro w hw
 refine (callsIn_wide.1 (Tryz.maps_Keys_44 mb w)).mono ?_
 rintro e w' ⟨rfl, rfl⟩
 have hn : s w.heap.size = none := by
  cases e : s w.heap.size with
  | none => rfl
  | some x => have := hw _ x e; simp at this
 refine ⟨_, _, rfl, ?_, _, hn, rfl, rfl⟩
 exact (Rel.new (Rel.start hw) _).2
theorem c_Sorted {V : Type} {ve : V → Value} {s : PH} {r m : Nat} {f : List (ByteArray × V)} (hr : s r = some (.cells #[.map (some m)] 105 (0, 0))) (hm : isMap strKey ve s m f)
  (hk : ∀ p ∈ f, p.1.size ≤ maxLen) (hl : f.length * 16 ≤ 140737488355328) :
  DCalls Tryz.prog 104 #[.func (.func 116) #[] #[.pointer (some ⟨r, 0, none⟩)]] s fun v s' =>
   ∃ a n c, v = .slice a n c ∧ strsAt s' a n c (sortedKeys f) ∧ Fw.Mod [] s s' ∧ (∀ g, a = some ⟨g, 0, none⟩ → s g = none) := by
 intro w hw
 obtain ⟨es, c, h1, h2, h3⟩ := hm
 have hes : es.size = f.length := by simpa using congrArg List.length h2
 have hkey : ∀ x ∈ es.toList, ∃ p ∈ f, x.key = .string p.1 := by
  intro x hx
  have : (x.key, x.val) ∈ f.map (fun p => (strKey.enc p.1, ve p.2)) := by rw [← h2]; exact List.mem_map_of_mem hx
  obtain ⟨p, hp, he⟩ := List.mem_map.1 this
  simp only [Prod.mk.injEq] at he
  exact ⟨p, hp, he.1.symm⟩
 let R : Value → Option (DataW Nat × List MemPlace) := fun _ => some (.nil, [])
 have hko : ∀ k : ByteArray, k.size ≤ maxLen → keyOf Tryz.prog 9 (.string k) = some (.string k.data.toList) := by
  intro k hk
  unfold keyOf
  rw [Tryz.underlying9]
  simp [mapKey, Tryz.underlying9, hk]
 have hrd : ∀ x ∈ es.toList, ∀ k, x.key = .string k → k.size ≤ maxLen → Go.WideElems.rd Tryz.prog 9 R x = some (.string k.data.toList, .nil) := by
  intro x hx k e hk
  unfold Go.WideElems.rd
  rw [e, hko k hk]; (first | done | rfl)
 have hown : w.ownsMap Tryz.prog 9 R m es.size (.map ((es.toList.map (Go.WideElems.rg Tryz.prog 9 R)).foldr DataW.insert [])) := by
  refine ⟨es, c, hw _ _ h1, ⟨?_, h3, ?_⟩, Nat.le_refl _, rfl⟩
  ·have : maxLen = 9223372036854775807 := rfl
   omega
  ·intro x hx
   obtain ⟨p, hp, e⟩ := hkey x hx
   exact ⟨_, hrd x hx _ e (hk p hp)⟩
 have hkeys : (strKeys (DataW.map ((es.toList.map (Go.WideElems.rg Tryz.prog 9 R)).foldr DataW.insert []))).Perm (f.map fun p => p.1.data.toList) := by
  refine (List.Perm.map _ (Go.WideShapes.sorted_perm _)).trans ?_
  have : es.toList.map (fun e => e.key) = f.map (fun p => Value.string p.1) := by
   have := congrArg (List.map Prod.fst) h2
   rw [List.map_map, List.map_map] at this
   exact this
  have e2 : (es.toList.map (Go.WideElems.rg Tryz.prog 9 R)).map (fun p => strOf p.1) = f.map (fun p => p.1.data.toList) := by
   have e3 : (es.toList.map (Go.WideElems.rg Tryz.prog 9 R)).map (fun p => strOf p.1) = (es.toList.map (fun e => e.key)).map (fun v => match v with | .string k => k.data.toList | _ => []) := by
    rw [List.map_map, List.map_map]
    apply List.map_congr_left
    intro x hx
    obtain ⟨p, hp, e⟩ := hkey x hx
    simp only [Function.comp_apply, Go.WideElems.rg, hrd x hx _ e (hk p hp), e, Option.getD_some, strOf]
   rw [e3, this, List.map_map]
   first | done | rfl
  rw [e2]
 have hsize : Maps.size (DataW.map (H := Nat) ((es.toList.map (Go.WideElems.rg Tryz.prog 9 R)).foldr DataW.insert [])) = f.length := by
  have := hkeys.length_eq
  simpa [strKeys, Maps.size] using this
 have hlt : r < w.heap.size := by
  have := hw _ _ hr
  rcases Nat.lt_or_ge r w.heap.size with q | q
  ·exact q
  ·simp [Array.getElem?_eq_none q] at this
 have hseq : SeqGives Fence.wide 2 Tryz.prog 116 #[.pointer (some ⟨r, 0, none⟩)] encStr (fun ss => ss.Perm (strKeys (DataW.map ((es.toList.map (Go.WideElems.rg Tryz.prog 9 R)).foldr DataW.insert [])))) (Maps.size (DataW.map (H := Nat) ((es.toList.map (Go.WideElems.rg Tryz.prog 9 R)).foldr DataW.insert []))) w :=
  AnyZ.keys_gives (ρ := Tryz.keys44_ren) { Tryz.keys44 with } Fence.wide _ trivial rfl (by omega) r m es.size _ _ hlt (by
   unfold World.cell?
   rw [show (Addr.mk r 0 none).block = r from rfl, hw _ _ hr]; (first | done | rfl)) hown
 refine (callsIn_wide.1 (AnyZ.sorted_in Tryz.sorted43 Fence.wide 5 trivial trivial trivial trivial rfl (by omega) (Tryz.sorts43 _) (enters_of Tryz.func115 (by kernel_rfl) rfl) 116 #[.pointer (some ⟨r, 0, none⟩)] trivial (enters_of Tryz.func116 (by kernel_rfl) rfl) _ _ ?_ ?_ _ hseq)).mono ?_
 ·rw [hsize]; have : maxLen = 9223372036854775807 := rfl; omega
 ·rw [hsize]; exact hl
 rintro e w' ⟨v, ss, rfl, hS, hrow, hnil, hb⟩
 have hsort : (ss.mergeSort fun x y => decide (x ≤ y)) = (f.map fun p => p.1.data.toList).mergeSort leB := mergeSort_of_perm (hS.trans hkeys)
 have hlen : ss.length = (sortedKeys f).length := by
  have := (hS.trans hkeys).length_eq
  simp [sortedKeys, this]
 have henc : List.map encStr (ss.mergeSort fun x y => decide (x ≤ y)) = (sortedKeys f).map Value.string := by
  rw [hsort]; simp [sortedKeys, ofBytes, encStr]
 rw [henc] at hrow
 obtain ⟨_, hrow⟩ := hrow
 rcases hrow with ⟨rfl, h0⟩ | ⟨g, cap, cur, rfl, hbase, hg, hc1, hc2, hc3, hc4⟩
 ·refine ⟨_, s, rfl, rel_below hw hb, none, 0, 0, rfl, ⟨by omega, .inl ⟨rfl, rfl, ?_⟩⟩, Mod.refl _ _, by simp⟩
  exact List.length_eq_zero_iff.1 (by omega)
 ·obtain ⟨hn, hrel⟩ := rel_below_new hw hb hbase hg
  refine ⟨_, _, rfl, hrel, _, _, _, rfl, ⟨hlen, .inr ⟨g, cur, rfl, PH.upd_same _ _ _, ?_, hc1, by omega⟩⟩, Mod.new hn, ?_⟩
  ·rw [Nat.mul_one] at hc4; exact hc4
  ·intro g' e; simp only [Option.some.injEq, Addr.mk.injEq] at e; rw [← e.1]; exact hn
end YtcdggocbjnmeaaaGreat
end Go.Proofs
end
namespace Go.Proofs.YtcdggocbjnmeaaaGreat
open Fw Go Go.IntKind
section
structure DS.Ok (d : DS) : Prop where
 names : ∀ p ∈ d.files, p.1.size ≤ maxLen
 few : d.files.length * 16 ≤ 140737488355328
 file : ∀ p ∈ d.files, 0 ≤ p.2.2 ∧ p.2.2 ≤ p.2.1.size ∧ p.2.1.size ≤ 9223372036854775807
theorem c_Names {s : PH} {b m : Nat} {d : DS} (h : DriveIs s b m d) (hn : ∀ p ∈ d.files, p.1.size ≤ maxLen) (hl : d.files.length * 16 ≤ 140737488355328) :
  DCalls Tryz.prog 81 #[dptr b] s fun v s' => ∃ a n c, v = .slice a n c ∧ strsAt s' a n c (sortedKeys d.files) ∧ Fw.Mod [] s s' ∧ (∀ g, a = some ⟨g, 0, none⟩ → s g = none) := by
 refine ok_Names b _ s ?_
 unfold vc_Names
 have hb := h.blk
 simp [hb]
 refine W.call_of (c_Keys (some m) s) ?_
 rintro _ _ ⟨r, hr, rfl, rfl⟩
 refine ⟨((.func (.func 116) #[] #[.pointer (some ⟨r, 0, none⟩)], ()), ()), rfl, ?_⟩
 refine W.call_of (c_Sorted (V := ByteArray × Int) (ve := fileV) (m := m) (f := d.files) (PH.upd_same _ _ _) (h.mod (Mod.new hr (L := [])) (by simp) (by simp)).map hn hl) ?_
 rintro _ s2 ⟨a, n, c, rfl, h2, m2, h3⟩
 refine ⟨(((a, n, c), ()), ()), rfl, ?_⟩
 refine ⟨a, n, c, rfl, h2, (Mod.new hr).trans m2, fun g hg => ?_⟩
 have := h3 g hg
 by_cases e : g = r
 ·subst e; exact hr
 ·rwa [PH.upd_other _ _ e] at this
theorem strsAt.cell {s : PH} {a : Option Addr} {n c : Nat} {l : List ByteArray} (h : strsAt s a n c l) {i : Nat} {x : ByteArray} (hx : l[i]? = some x) :
  ∃ g, a = some ⟨g, 0, none⟩ ∧ s.cell? ⟨g, i, none⟩ = some (.string x) := by
 obtain ⟨hn, ⟨rfl, rfl, rfl⟩ | ⟨g, cur, rfl, hg, ht, _, _⟩⟩ := h
 ·simp at hx
 ·refine ⟨g, rfl, ?_⟩
  have hi : i < n := by
   have := (List.getElem?_eq_some_iff.1 hx).1
   omega
  have : (cur.toList.take n)[i]? = some (.string x) := by rw [ht]; simp [hx]
  rw [List.getElem?_take_of_lt hi, Array.getElem?_toList] at this
  unfold PH.cell?
  show (match s g with | some (.cells c _ _) => if (none : Option Nat).isSome then none else c[i]? | _ => none) = _
  rw [hg]; exact this
theorem strsAt.mod {L : List Nat} {s s' : PH} {a : Option Addr} {n c : Nat} {l : List ByteArray} (h : strsAt s a n c l) (hm : Fw.Mod L s s') (hl : ∀ g, a = some ⟨g, 0, none⟩ → g ∉ L) : strsAt s' a n c l := by
 obtain ⟨hn, h | ⟨g, cur, rfl, hg, r⟩⟩ := h
 ·exact ⟨hn, .inl h⟩
 ·exact ⟨hn, .inr ⟨g, cur, rfl, hm.at hg (hl g rfl), r⟩⟩
def crashN (f : ByteArray × Int) : Option Int → Int
 | some x => if (if i64.wrap (f.1.size - f.2) < x then i64.wrap (f.1.size - f.2) else x) > 0 then (if i64.wrap (f.1.size - f.2) < x then i64.wrap (f.1.size - f.2) else x) else 0
 | none => 0
def crashFile (f : ByteArray × Int) (kp : Option Int) : ByteArray × Int := (f.1.extract 0 (i64.wrap (f.2 + crashN f kp)).toNat, i64.wrap (f.2 + crashN f kp))
def DS.crashFiles (d : DS) (keep : List Int) : List (ByteArray × (ByteArray × Int)) := (sortedKeys d.files).zipIdx.map fun p => (p.1, crashFile (d.got p.1) keep[p.2]?)
def DS.crash (d : DS) (keep : List Int) : DS := ⟨d.crashFiles keep, false, 0⟩
theorem crashN_range {f : ByteArray × Int} (h : 0 ≤ f.2 ∧ f.2 ≤ f.1.size ∧ f.1.size ≤ 9223372036854775807) (kp : Option Int) : 0 ≤ crashN f kp ∧ f.2 + crashN f kp ≤ f.1.size := by
 cases kp with
 | none => simp only [crashN]; omega
 | some x =>
  have : i64.wrap (f.1.size - f.2) = f.1.size - f.2 := wrap_in (by omega) (by omega)
  simp only [crashN, this]
  repeat' split
  all_goals omega
theorem crash_wrap {f : ByteArray × Int} (h : 0 ≤ f.2 ∧ f.2 ≤ f.1.size ∧ f.1.size ≤ 9223372036854775807) (kp : Option Int) : i64.wrap (f.2 + crashN f kp) = f.2 + crashN f kp := by
 have := crashN_range h kp
 exact wrap_in (by omega) (by omega)
theorem isMap_nodup {s : PH} {m : Nat} {f : List (ByteArray × (ByteArray × Int))} (h : isMap strKey fileV s m f) : (f.map (·.1)).Nodup := by
 obtain ⟨es, c, h1, h2, h3⟩ := h
 have h4 := h3.2.2
 have : es.toList.map (·.key) = (f.map (·.1)).map Value.string := by
  have := congrArg (List.map Prod.fst) h2
  rw [List.map_map, List.map_map] at this
  rw [List.map_map]; exact this
 rw [this] at h4
 exact (List.pairwise_map.1 h4).imp fun hab e => hab (congrArg _ e)
theorem ofBytes_data (a : ByteArray) : ofBytes a.data.toList = a := by cases a; simp [ofBytes]
theorem sortedKeys_perm {V : Type} (f : List (ByteArray × V)) : (sortedKeys f).Perm (f.map (·.1)) := by
 have h := ((List.mergeSort_perm (f.map fun p => p.1.data.toList) leB)).map ofBytes
 rw [List.map_map] at h
 have e : (f.map (ofBytes ∘ fun p => p.1.data.toList)) = f.map (·.1) := List.map_congr_left fun p _ => ofBytes_data p.1
 rw [e] at h
 exact h
theorem mem_lookup {f : List (ByteArray × (ByteArray × Int))} {k : ByteArray} (h : k ∈ f.map (·.1)) : ∃ v, f.lookup k = some v ∧ (k, v) ∈ f := by
 induction f with
 | nil => simp at h
 | cons p f ih =>
  obtain ⟨a, b⟩ := p
  by_cases e : k = a
  ·subst e; exact ⟨b, by simp, by simp⟩
  ·obtain ⟨v, h1, h2⟩ := ih (by simpa [e] using h)
   have e' : (k == a) = false := by simpa using e
   exact ⟨v, by simp [List.lookup_cons, e', h1], by simp [h2]⟩
theorem aset_new {V : Type} (f : List (ByteArray × V)) (k : ByteArray) (v : V) (h : k ∉ f.map (·.1)) : aset f k v = f ++ [(k, v)] := by
 induction f with
 | nil => rfl
 | cons p f ih =>
  obtain ⟨a, b⟩ := p
  simp at h
  have : ¬ k = a := h.1
  simp [aset, this, ih (by simpa using h.2)]
theorem DS.crashFiles_step (d : DS) (keep : List Int) (hn : (d.files.map (·.1)).Nodup) {i : Nat} {nm : ByteArray} (hi : (sortedKeys d.files)[i]? = some nm) :
  aset ((d.crashFiles keep).take i) nm (crashFile (d.got nm) keep[i]?) = (d.crashFiles keep).take (i + 1) := by
 have hnd : (sortedKeys d.files).Nodup := (sortedKeys_perm d.files).nodup_iff.2 hn
 have hlt := (List.getElem?_eq_some_iff.1 hi).1
 have hei := (List.getElem?_eq_some_iff.1 hi).2
 have hc : (d.crashFiles keep)[i]? = some (nm, crashFile (d.got nm) keep[i]?) := by
  simp [DS.crashFiles, hi]
 rw [aset_new]
 ·rw [List.take_add_one, hc]; (first | done | rfl)
 ·intro hm
  have e : ((d.crashFiles keep).take i).map (·.1) = (sortedKeys d.files).take i := by
   rw [List.map_take]
   congr 1
   simp only [DS.crashFiles, List.map_map]
   have : (sortedKeys d.files).zipIdx.map Prod.fst = sortedKeys d.files := by simp
   exact this
  rw [e] at hm
  obtain ⟨j, hj, he⟩ := List.mem_take_iff_getElem.1 hm
  have hj' : j < i := by omega
  have := (List.nodup_iff_pairwise_ne.1 hnd)
  rw [List.pairwise_iff_getElem] at this
  exact this j i (by omega) hlt hj' (he.trans hei.symm)
theorem c_Crash {s : PH} {b m : Nat} {d : DS} (h : DriveIs s b m d) (hok : d.Ok) {k : Option Addr} {n c : Nat} {keep : List Int} (hkeep : intsAt s k n keep) :
  DCalls Tryz.prog 56 #[dptr b, .slice k n c] s fun v s' => ∃ nb nm, v = dptr nb ∧ DriveIs s' nb nm (d.crash keep) ∧ DriveIs s' b m { d with down := true } ∧ Fw.Mod [b] s s' ∧ s nb = none ∧ s nm = none := by
 refine ok_Crash b k n c _ s ?_
 unfold vc_Crash
 have hb := h.blk
 simp only [RP_ite, Option.isNone_some, W.br_false, RP_call]
 refine W.call_of (c_New s) ?_
 rintro _ s1 ⟨nb, nm, rfl, hN, m1, hnb, hnm⟩
 refine ⟨((some ⟨nb, 0, none⟩, ()), ()), rfl, ?_⟩
 have h1 := h.mod m1 (by simp) (by simp)
 refine W.call_of (c_Names h1 hok.names hok.few) ?_
 rintro _ s2 ⟨a1, n2, c2, rfl, hS, m2, hfr⟩
 refine ⟨(((a1, n2, c2), ()), ()), rfl, ?_⟩
 have hN2 := hN.mod m2 (by simp) (by simp)
 have h2 := h1.mod m2 (by simp) (by simp)
 have hgnm : ∀ g, a1 = some ⟨g, 0, none⟩ → g ≠ nm ∧ g ≠ nb := fun g hg =>
  ⟨fun e => by subst e; exact hN.map.known (hfr g hg), fun e => by subst e; have := hfr g hg; rw [hN.blk] at this; cases this⟩
 have hlen : n2 = (sortedKeys d.files).length := hS.1
 have hbnm : b ≠ nm := ne_of_known hb hnm
 have hmnm : m ≠ nm := fun e => by subst e; exact h.map.known hnm
 have hnodup := isMap_nodup h.map
 have hnl : (sortedKeys d.files).length < 9223372036854775807 := by
  have := (sortedKeys_perm d.files).length_eq
  have := hok.few
  simp at this ⊢
  simp_all
  omega
 simp only [RP_loop]
 refine ⟨fun x s' => ∃ i : Nat, i ≤ (sortedKeys d.files).length ∧ x = ((some ⟨nb, 0, none⟩, ()), ((a1, n2, c2), ()), ((n2 : Int), ()), ((i : Int), ()), ()) ∧ strsAt s' a1 n2 c2 (sortedKeys d.files) ∧ DriveIs s' b m d ∧
   DriveIs s' nb nm ⟨(d.crashFiles keep).take i, false, 0⟩ ∧ Fw.Mod [] s s', fun x _ => (sortedKeys d.files).length - x.2.2.2.1.1.toNat, ?_, ?_⟩
 ·exact ⟨0, Nat.zero_le _, rfl, hS, h2, hN2, m1.trans m2⟩
 rintro _ s3 ⟨i, hi, rfl, hS3, h3, hN3, m3⟩
 simp only [RP_ite, W.br_iff]
 refine ⟨fun hlt => ?_, fun hge => ?_⟩
 ·have hlt : i < n2 := by simpa using hlt
  have hlt' : i < (sortedKeys d.files).length := by omega
  obtain ⟨x, hx⟩ : ∃ x, (sortedKeys d.files)[i]? = some x := ⟨_, List.getElem?_eq_getElem hlt'⟩
  obtain ⟨g, rfl, hg⟩ := hS3.cell hx
  have hb3 := h3.blk
  simp only [RP_guard, W.guard_iff, RP_unSome, W.unSome_some]
  refine ⟨(⟨by omega, by omega⟩ : (0 : Int) ≤ (i : Int) ∧ (i : Int) < (n2 : Int)), ?_⟩
  refine ld_one (x := x) (by simpa [add_mk, CT.val] using hg) ?_
  simp [hb3]
  refine look_file h3.map x ?_
  have hxk : x ∈ d.files.map (·.1) := (sortedKeys_perm d.files).mem_iff.1 (List.mem_of_getElem? hx)
  obtain ⟨f, hf1, hf2⟩ := mem_lookup hxk
  have hfok : 0 ≤ f.2 ∧ f.2 ≤ f.1.size ∧ f.1.size ≤ 9223372036854775807 := hok.file _ hf2
  have hgot : d.got x = f := by simp [DS.got, hf1]
  simp only [hf1, Option.getD_some, Option.isSome_some]
  have hnb3 := hN3.blk
  have hcr := crashN_range hfok keep[i]?
  have hcw := crash_wrap hfok keep[i]?
  have hstep : ∀ (t : ByteArray) (q : Int), (t, q) = crashFile f keep[i]? → W.mset TypeDesc.string (some nm) (.string x) (.agg #[.string t, .int .i64 q]) (fun s' => (∃ i' : Nat, i' ≤ (sortedKeys d.files).length ∧ i64.wrap ((i : Int) + 1) = (i' : Int) ∧
    strsAt s' (some ⟨g, 0, none⟩) n2 c2 (sortedKeys d.files) ∧ DriveIs s' b m d ∧ DriveIs s' nb nm ⟨(d.crashFiles keep).take i', false, 0⟩ ∧ Fw.Mod [] s s') ∧ (sortedKeys d.files).length - (i64.wrap ((i : Int) + 1)).toNat < (sortedKeys d.files).length - i) s3 := by
   intro t q htq
   refine mset_file hN3 x _ _ ?_
   intro s5 h5 m5
   have hw : i64.wrap ((i : Int) + 1) = ((i + 1 : Nat) : Int) := by rw [wrap_in (by omega) (by omega)]; simp
   refine ⟨⟨i + 1, by omega, by rw [hw], hS3.mod m5 (by simpa using (hgnm g rfl).1), h3.mod m5 (by simpa using hbnm) (by simpa using hmnm), ?_, m3.fresh m5 (by simpa using hnm)⟩, ?_⟩
   ·have := d.crashFiles_step keep hnodup hx
    rw [hgot, ← htq] at this
    rw [← this]; exact h5
   ·rw [hw, Int.toNat_natCast]; omega
  have hkl := hkeep.1
  simp only [RP_ite, W.br_iff, decide_eq_true_eq, decide_eq_false_iff_not, RP_guard, W.guard_iff, RP_unSome, W.unSome_some, RP_ld, RP_mset]
  refine ⟨fun hc => ?_, fun hc => ?_⟩
  ·have hc : i < n := by omega
   obtain ⟨y, hy⟩ : ∃ y, keep[i]? = some y := ⟨_, List.getElem?_eq_getElem (by omega)⟩
   obtain ⟨ka, rfl, hka⟩ := (hkeep.mono m3).2 i y hy
   rw [hy] at hcr hcw
   simp only [crashN] at hcr hcw
   refine ⟨by omega, ?_⟩
   simp only [W.unSome_some, Nat.mul_one, Int.toNat_natCast]
   refine ld_one (c := .int .i64) (x := y) hka ?_
   simp [hnb3]
   refine ⟨⟨by rw [hcw]; exact Int.le_trans hfok.1 (by omega), by rw [hcw]; exact hcr.2⟩, hstep _ _ ?_⟩
   simp only [hy, crashFile, crashN, gt_iff_lt]
  ·have e : keep[i]? = none := List.getElem?_eq_none (by omega)
   rw [e] at hcr hcw
   simp only [crashN] at hcr hcw
   simp [hnb3]
   have h0 : f.2 + 0 = f.2 := by omega
   rw [h0] at hcw hcr
   refine ⟨⟨by rw [hcw]; exact hfok.1, by rw [hcw]; exact hfok.2.1⟩, hstep _ _ ?_⟩
   simp only [e, crashFile, crashN, Int.add_zero]
 ·have hge : i = n2 := by simp at hge; omega
  have hfull : (d.crashFiles keep).take i = d.crashFiles keep := List.take_of_length_le (by simp [DS.crashFiles]; omega)
  rw [hfull] at hN3
  simp [h3.blk]
  have hbN : nb ≠ b := (ne_of_known hb hnb).symm
  have hm9 : Fw.Mod [b] s (s3.upd b (.cells #[.map (some m), .bool true, .int .i64 d.armed] 107 (0, 0))) := (m3.mono (by simp)).updLater (.inl (by simp))
  refine ⟨nb, rfl, nm, ?_, h3.upd true d.armed, hm9, hnb, hnm⟩
  exact hN3.mod (L := [b]) (Mod.upd (by simp)) (by simpa using hbN) (by simpa using hbnm.symm)
end
section
attribute [-simp] Fw.W.ld_iff Fw.W.st_iff
def stL : List UInt8 → List UInt8 → Int
 | [], [] => 0
 | [], _ :: _ => -1
 | _ :: _, [] => 1
 | a :: x, b :: y => if a.toNat < b.toNat then -1 else if b.toNat < a.toNat then 1 else stL x y
def stB (x y : ByteArray) : Int := stL x.data.toList y.data.toList
def posOf (F : List (ByteArray × (ByteArray × Int))) (nm : ByteArray) : Nat := F.findIdx fun p => decide (0 ≤ stB p.1 nm)
def foundAt (F : List (ByteArray × (ByteArray × Int))) (nm : ByteArray) : Bool := match F[posOf F nm]? with | some p => stB p.1 nm == 0 | none => false
def mkF (F : List (ByteArray × (ByteArray × Int))) (nm : ByteArray) : List (ByteArray × (ByteArray × Int)) :=
 if foundAt F nm then F else F.take (posOf F nm) ++ [(nm, (⟨#[]⟩, 0))] ++ F.drop (posOf F nm)
theorem posOf_le (F : List (ByteArray × (ByteArray × Int))) (nm : ByteArray) : posOf F nm ≤ F.length := List.findIdx_le_length
end
section
attribute [-simp] Fw.W.ld_iff Fw.W.st_iff
def DS.rbegin (d : DS) : (Int × Bool) × DS :=
 if d.down then ((50, false), d) else if d.armed == 1 then ((50, true), { d with down := true })
 else if d.armed > 0 then ((0, false), { d with armed := i64.wrap (d.armed - 1) }) else ((0, false), d)
def DS.rappend (d : DS) (nm dt : ByteArray) : Int × DS :=
 let (r, d') := d.rbegin
 if r.1 == 0 || r.2 then (r.1, { d' with files := (mkF d'.files nm).modify (posOf d'.files nm) fun f => (f.1, (f.2.1 ++ dt, f.2.2)) }) else (r.1, d')
def DS.rsync (d : DS) (nm : ByteArray) : Int × DS :=
 let (r, d') := d.rbegin
 if r.1 == 0 && foundAt d'.files nm then (r.1, { d' with files := d'.files.modify (posOf d'.files nm) fun f => (f.1, (f.2.1, (f.2.1.size : Int))) }) else (r.1, d')
def DS.rswap (d : DS) (nm dt : ByteArray) : Int × DS :=
 let (r, d') := d.rbegin
 if r.1 == 0 then (r.1, { d' with files := (mkF d'.files nm).modify (posOf d'.files nm) fun f => (f.1, (dt, (dt.size : Int))) }) else (r.1, d')
def DS.rread (d : DS) (nm : ByteArray) : ByteArray × Int :=
 if d.down then (⟨#[]⟩, 50) else match d.files[posOf d.files nm]? with
  | some f => if stB f.1 nm == 0 then (f.2.1, 0) else (⟨#[]⟩, 0)
  | none => (⟨#[]⟩, 0)
theorem modify_set {α : Type} {l : List α} {i : Nat} {x : α} (h : l[i]? = some x) (f : α → α) : l.modify i f = l.set i (f x) := by
 apply List.ext_getElem?
 intro j
 by_cases e : i = j
 ·subst e
  have hi := (List.getElem?_eq_some_iff.1 h).1
  have he := (List.getElem?_eq_some_iff.1 h).2
  simp [hi, he]
 ·rw [List.getElem?_modify_ne _ _ e, List.getElem?_set_ne e]
def DS.rarm (d : DS) (n : Int) : DS := if d.down then d else { d with armed := if n > 0 then n else 0 }
def DS.rcrash (d : DS) (keep : List Int) : DS := ⟨d.files.zipIdx.map fun p => (p.1.1, crashFile p.1.2 keep[p.2]?), false, 0⟩
end
section
attribute [-simp] Fw.W.ld_iff Fw.W.st_iff
theorem stL_eq : ∀ {x y : List UInt8}, stL x y = 0 ↔ x = y
 | [], [] => by simp [stL]
 | [], b :: y => by simp [stL]
 | a :: x, [] => by simp [stL]
 | a :: x, b :: y => by
  simp only [stL]
  by_cases h : a.toNat < b.toNat
  ·rw [if_pos h]; simp; intro e; subst e; omega
  ·rw [if_neg h]
   by_cases g : b.toNat < a.toNat
   ·rw [if_pos g]; simp; intro e; subst e; omega
   ·rw [if_neg g, stL_eq]
    have : a = b := UInt8.toNat_inj.1 (by omega)
    simp [this]
theorem stL_lt : ∀ {x y : List UInt8}, stL x y < 0 ↔ x < y
 | [], [] => by simp [stL]
 | [], b :: y => by simp [stL]
 | a :: x, [] => by simp [stL]
 | a :: x, b :: y => by
  simp only [stL, List.cons_lt_cons_iff]
  have hab : a < b ↔ a.toNat < b.toNat := UInt8.lt_iff_toNat_lt
  by_cases h : a.toNat < b.toNat
  ·rw [if_pos h]; simp [hab, h]
  ·rw [if_neg h]
   by_cases g : b.toNat < a.toNat
   ·rw [if_pos g]; simp [hab, h]
    intro e; subst e; omega
   ·rw [if_neg g, stL_lt]
    have : a = b := UInt8.toNat_inj.1 (by omega)
    simp [hab, h, this]
theorem data_inj {x y : ByteArray} (h : x.data.toList = y.data.toList) : x = y := by
 obtain ⟨⟨x⟩⟩ := x; obtain ⟨⟨y⟩⟩ := y; simpa using h
theorem stB_eq {x y : ByteArray} : stB x y = 0 ↔ x = y := by
 unfold stB; rw [stL_eq]; exact ⟨data_inj, fun h => by rw [h]⟩
def ltB (x y : ByteArray) : Prop := x.data.toList < y.data.toList
theorem stB_lt {x y : ByteArray} : stB x y < 0 ↔ ltB x y := stL_lt
theorem ltB_trans {x y z : ByteArray} (h : ltB x y) (k : ltB y z) : ltB x z := List.lt_trans h k
theorem ltB_irrefl (x : ByteArray) : ¬ ltB x x := List.lt_irrefl _
theorem stL_neg : ∀ (x y : List UInt8), stL y x = - stL x y
 | [], [] => rfl
 | [], b :: y => rfl
 | a :: x, [] => rfl
 | a :: x, b :: y => by
  simp only [stL]
  by_cases h : a.toNat < b.toNat
  ·rw [if_pos h, if_neg (by omega), if_pos h]; (first | done | rfl)
  ·by_cases g : b.toNat < a.toNat
   ·rw [if_pos g, if_neg h, if_pos g]
   ·rw [if_neg g, if_neg h, if_neg h, if_neg g]; exact stL_neg x y
theorem ltB_tri {x y : ByteArray} (h : ¬ ltB x y) (k : x ≠ y) : ltB y x := by
 rw [← stB_lt] at h ⊢
 have h1 : stB x y ≠ 0 := fun e => k (stB_eq.1 e)
 have h2 : stB y x = - stB x y := stL_neg _ _
 omega
abbrev Fs := List (ByteArray × (ByteArray × Int))
def Rising (F : Fs) : Prop := F.Pairwise fun p q => ltB p.1 q.1
theorem Rising.nodup {F : Fs} (h : Rising F) : (F.map (·.1)).Nodup := by
 rw [List.nodup_iff_pairwise_ne, List.pairwise_map]
 exact List.Pairwise.imp (S := fun p q => p.1 ≠ q.1) (by intro a b hab e; exact ltB_irrefl b.1 (by rwa [e] at hab)) h
theorem pos_spec {F : Fs} (h : Rising F) (nm : ByteArray) : ∃ A B, F = A ++ B ∧ A.length = posOf F nm ∧ (∀ p ∈ A, ltB p.1 nm) ∧
  ((∃ f B', B = (nm, f) :: B' ∧ foundAt F nm = true ∧ ∀ p ∈ B', ltB nm p.1) ∨ (foundAt F nm = false ∧ ∀ p ∈ B, ltB nm p.1)) := by
 have hpl := posOf_le F nm
 refine ⟨F.take (posOf F nm), F.drop (posOf F nm), (List.take_append_drop _ _).symm, by simp; omega, ?_, ?_⟩
 ·intro p hp
  obtain ⟨j, hj, he⟩ := List.mem_take_iff_getElem.1 hp
  have := List.not_of_lt_findIdx (p := fun p => decide (0 ≤ stB p.1 nm)) (xs := F) (i := j) (by unfold posOf at hj; omega)
  rw [he] at this
  rw [← stB_lt]; simpa using this
 ·have hdrop : ∀ (p : _) (B' : Fs), F.drop (posOf F nm) = p :: B' → F[posOf F nm]? = some p ∧ 0 ≤ stB p.1 nm ∧ ∀ q ∈ B', ltB p.1 q.1 := by
   intro p B' e
   have h1 : F[posOf F nm]? = some p := by rw [← List.head?_drop, e]; (first | done | rfl)
   refine ⟨h1, ?_, ?_⟩
   ·have hlt := (List.getElem?_eq_some_iff.1 h1).1
    have := List.findIdx_getElem (p := fun p : ByteArray × (ByteArray × Int) => decide (0 ≤ stB p.1 nm)) (xs := F) (w := hlt)
    have e2 := (List.getElem?_eq_some_iff.1 h1).2
    have : decide (0 ≤ stB F[posOf F nm].1 nm) = true := this
    rw [e2] at this; simpa using this
   ·have : Rising (F.drop (posOf F nm)) := List.Pairwise.sublist (List.drop_sublist _ _) h
    rw [e] at this
    exact (List.pairwise_cons.1 this).1
  cases hB : F.drop (posOf F nm) with
  | nil =>
   right
   have h1 : F[posOf F nm]? = none := by rw [← List.head?_drop, hB]; (first | done | rfl)
   exact ⟨by unfold foundAt; rw [h1], by simp⟩
  | cons p B' =>
   obtain ⟨h1, h2, h3⟩ := hdrop p B' hB
   by_cases e : p.1 = nm
   ·left
    refine ⟨p.2, B', by rw [← e], by unfold foundAt; rw [h1]; simp [stB_eq, e], by rw [← e]; exact h3⟩
   ·right
    refine ⟨by unfold foundAt; rw [h1]; simp [stB_eq, e], ?_⟩
    have h4 : ltB nm p.1 := ltB_tri (by rw [← stB_lt]; omega) e
    intro q hq
    rcases List.mem_cons.1 hq with rfl | hq
    ·exact h4
    ·exact ltB_trans h4 (h3 q hq)
theorem lookup_none_of {F : Fs} {nm : ByteArray} (h : ∀ p ∈ F, p.1 ≠ nm) : F.lookup nm = none := by
 rw [List.lookup_eq_none_iff]
 intro p hp
 simpa using fun e => h p hp e.symm
theorem lookup_mid {A B : Fs} {nm : ByteArray} {f : ByteArray × Int} (h : ∀ p ∈ A, p.1 ≠ nm) : (A ++ (nm, f) :: B).lookup nm = some f := by
 rw [List.lookup_append, lookup_none_of h]; simp
theorem lookup_perm {F G : Fs} (h : F.Perm G) (hn : (F.map (·.1)).Nodup) (nm : ByteArray) : F.lookup nm = G.lookup nm := by
 induction h with
 | nil => rfl
 | cons x _ ih =>
  obtain ⟨a, b⟩ := x
  simp only [List.map_cons, List.nodup_cons] at hn
  simp only [List.lookup_cons]
  rw [ih hn.2]
 | swap x y l =>
  obtain ⟨a, b⟩ := x; obtain ⟨c, d⟩ := y
  simp only [List.map_cons, List.nodup_cons, List.mem_cons, not_or] at hn
  simp only [List.lookup_cons]
  by_cases h1 : nm == a <;> by_cases h2 : nm == c
  ·have e1 := eq_of_beq h1; have e2 := eq_of_beq h2
   exact absurd (e2.symm.trans e1) hn.1.1
  ·simp [h1, h2]
  ·simp [h1, h2]
  ·simp [h1, h2]
 | trans h1 h2 ih1 ih2 => exact (ih1 hn).trans (ih2 ((h1.map _).nodup_iff.1 hn))
theorem aset_perm {F G : Fs} (h : F.Perm G) (hn : (F.map (·.1)).Nodup) (k : ByteArray) (v : ByteArray × Int) : (aset F k v).Perm (aset G k v) := by
 have key : ∀ {F : Fs}, (F.map (·.1)).Nodup → (aset F k v).Perm ((k, v) :: F.filter fun p => !(k == p.1)) := by
  intro F
  induction F with
  | nil => intro _; simp [aset]
  | cons p F ih =>
   intro hn
   obtain ⟨a, b⟩ := p
   simp only [List.map_cons, List.nodup_cons] at hn
   simp only [aset]
   by_cases e : k == a
   ·rw [if_pos e]
    have e' := eq_of_beq e
    subst e'
    simp only [List.filter_cons, beq_self_eq_true, Bool.not_true, Bool.false_eq_true, if_false]
    rw [List.filter_eq_self.2]
    intro q hq
    have : q.1 ≠ k := fun e => hn.1 (by rw [← e]; exact List.mem_map_of_mem hq)
    simpa using Ne.symm this
   ·rw [if_neg e]
    simp only [List.filter_cons, e, Bool.not_false, if_true]
    exact ((ih hn.2).cons _).trans (List.Perm.swap _ _ _)
 exact (key hn).trans (((h.filter _).cons _).trans (key ((h.map _).nodup_iff.1 hn)).symm)
theorem aset_mid {A B : Fs} {nm : ByteArray} {f g : ByteArray × Int} (h : ∀ p ∈ A, p.1 ≠ nm) : aset (A ++ (nm, f) :: B) nm g = A ++ (nm, g) :: B := by
 induction A with
 | nil => simp [aset]
 | cons p A ih =>
  obtain ⟨a, b⟩ := p
  have h1 : ¬ (nm == a) = true := by simpa using fun e => h (a, b) (by simp) e.symm
  simp only [List.cons_append, aset, if_neg h1]
  rw [ih fun p hp => h p (by simp [hp])]
theorem aset_new' {F : Fs} {nm : ByteArray} {g : ByteArray × Int} (h : ∀ p ∈ F, p.1 ≠ nm) : aset F nm g = F ++ [(nm, g)] :=
 aset_new F nm g (by intro hm; obtain ⟨p, hp, e⟩ := List.mem_map.1 hm; exact h p hp e)
def gotF (F : Fs) (nm : ByteArray) : ByteArray × Int := (F.lookup nm).getD (⟨#[]⟩, 0)
theorem mk_modify {F : Fs} (h : Rising F) (nm : ByteArray) (u : ByteArray × Int → ByteArray × Int) :
  Rising ((mkF F nm).modify (posOf F nm) fun f => (f.1, u f.2)) ∧ ((mkF F nm).modify (posOf F nm) fun f => (f.1, u f.2)).Perm (aset F nm (u (gotF F nm))) ∧
   (foundAt F nm = true → mkF F nm = F) := by
 obtain ⟨A, B, hF, hA, hlt, hB⟩ := pos_spec h nm
 have hne : ∀ p ∈ A, p.1 ≠ nm := fun p hp e => ltB_irrefl nm (by have := hlt p hp; rw [e] at this; exact this)
 have hmod : ∀ (x : ByteArray × (ByteArray × Int)) (R : Fs), (A ++ x :: R).modify (posOf F nm) (fun f => (f.1, u f.2)) = A ++ (x.1, u x.2) :: R := by
  intro x R
  rw [modify_set (x := x) (by rw [← hA, List.getElem?_append_right (Nat.le_refl _)]; simp), List.set_append_right _ _ (by omega)]
  simp [hA]
 have hF' : Rising (A ++ B) := by rw [← hF]; exact h
 rcases hB with ⟨f, B', rfl, hfo, hB'⟩ | ⟨hfo, hB'⟩
 ·have hmk : mkF F nm = F := by simp [mkF, hfo]
  rw [hmk]
  have e : F.modify (posOf F nm) (fun f => (f.1, u f.2)) = A ++ (nm, u f) :: B' := by
   conv => lhs; arg 1; rw [hF]
   exact hmod _ _
  have hg : gotF F nm = f := by unfold gotF; rw [hF, lookup_mid hne]; (first | done | rfl)
  refine ⟨?_, ?_, fun _ => rfl⟩
  ·rw [e]
   unfold Rising at hF' ⊢
   rw [List.pairwise_append, List.pairwise_cons] at hF' ⊢
   refine ⟨hF'.1, ⟨fun q hq => hB' q hq, hF'.2.1.2⟩, fun p hp q hq => ?_⟩
   rcases List.mem_cons.1 hq with rfl | hq
   ·exact hlt p hp
   ·exact hF'.2.2 p hp q (by simp [hq])
  ·rw [e, hg]
   conv => rhs; rw [hF, aset_mid hne]
 ·have hmk : mkF F nm = A ++ (nm, (⟨#[]⟩, 0)) :: B := by
   have h1 : F.take A.length = A := by rw [hF]; simp
   have h2 : F.drop A.length = B := by rw [hF]; simp
   rw [hA] at h1 h2
   simp [mkF, hfo, h1, h2]
  have hall : ∀ p ∈ F, p.1 ≠ nm := by
   intro p hp
   rw [hF] at hp
   rcases List.mem_append.1 hp with hp | hp
   ·exact hne p hp
   ·exact fun e => ltB_irrefl nm (by have := hB' p hp; rw [e] at this; exact this)
  have hg : gotF F nm = (⟨#[]⟩, 0) := by unfold gotF; rw [lookup_none_of hall]; (first | done | rfl)
  rw [hmk, hmod]
  refine ⟨?_, ?_, fun h => by rw [hfo] at h; cases h⟩
  ·unfold Rising at hF' ⊢
   rw [List.pairwise_append] at hF' ⊢
   rw [List.pairwise_cons]
   refine ⟨hF'.1, ⟨fun q hq => hB' q hq, hF'.2.1⟩, fun p hp q hq => ?_⟩
   rcases List.mem_cons.1 hq with rfl | hq
   ·exact hlt p hp
   ·exact ltB_trans (hlt p hp) (hB' q hq)
  ·rw [hg, aset_new' hall, hF]
   exact (List.perm_middle.trans (List.perm_append_comm (l₁ := [(nm, u (⟨#[]⟩, 0))]) (l₂ := A ++ B)))
structure Sim (d e : DS) (B : Nat) : Prop where
 down : d.down = e.down
 armed : d.down = false → d.armed = e.armed ∧ 0 ≤ d.armed ∧ d.armed ≤ 9223372036854775807
 perm : e.files.Perm d.files
 rise : Rising e.files
 few : d.files.length ≤ B
 file : ∀ p ∈ d.files, p.1.size ≤ 281474976710656 ∧ 0 ≤ p.2.2 ∧ p.2.2 ≤ p.2.1.size ∧ p.2.1.size ≤ B
theorem Sim.lookup {d e : DS} {B : Nat} (h : Sim d e B) (nm : ByteArray) : e.files.lookup nm = d.files.lookup nm := lookup_perm h.perm h.rise.nodup nm
theorem Sim.names {d e : DS} {B : Nat} (h : Sim d e B) : sortedKeys d.files = e.files.map (·.1) := by
 have h1 : ((e.files.map fun p => p.1.data.toList).mergeSort leB) = e.files.map fun p => p.1.data.toList := by
  refine List.mergeSort_of_pairwise ?_
  rw [List.pairwise_map]
  exact h.rise.imp fun hab => by simpa [leB] using List.le_of_lt hab
 have h2 := mergeSort_of_perm (h.perm.map fun p => p.1.data.toList)
 unfold sortedKeys
 rw [← h2, h1, List.map_map]
 exact List.map_congr_left fun p _ => ofBytes_data p.1
theorem Sim.mono {d e : DS} {B C : Nat} (h : Sim d e B) (hb : B ≤ C) : Sim d e C :=
 ⟨h.down, h.armed, h.perm, h.rise, Nat.le_trans h.few hb, fun p hp => by obtain ⟨h1, h2, h3, h4⟩ := h.file p hp; exact ⟨by omega, h2, h3, by omega⟩⟩
theorem Sim.begin {d e : DS} {B : Nat} (h : Sim d e B) : d.begin.1.2 = e.rbegin.1.1 ∧ d.begin.1.1 = e.rbegin.1.2 ∧ Sim d.begin.2 e.rbegin.2 B ∧ d.begin.2.files = d.files ∧ (d.begin.1.2 = 0 ∨ d.begin.1.2 = 50) := by
 unfold DS.begin DS.rbegin
 rw [← h.down]
 cases hd : d.down with
 | true => simp [h]
 | false =>
  obtain ⟨ha, h0, h1⟩ := h.armed hd
  rw [← ha]
  by_cases hp : d.armed > 0
  ·have hw : i64.wrap (d.armed - 1) = d.armed - 1 := wrap_in (by omega) (by omega)
   by_cases h2 : d.armed = 1
   ·have e1 : (i64.wrap (d.armed - 1) == 0) = true := by rw [hw, h2]; (first | done | rfl)
    have e2 : (d.armed == 1) = true := by simp [h2]
    simp only [hp, e1, e2, if_true, Bool.false_eq_true, if_false]
    exact ⟨by first | rfl | trivial, by first | rfl | trivial, ⟨rfl, (fun h => by cases h), h.perm, h.rise, h.few, h.file⟩, by first | rfl | trivial, .inr (by first | rfl | trivial)⟩
   ·have h3 : (d.armed == 1) = false := by simpa using h2
    have h4 : ¬ d.armed - 1 = 0 := by omega
    have h5 : (d.armed - 1 == 0) = false := by simpa using h4
    simp only [hp, hw, h3, h4, h5, if_true, if_false, Bool.false_eq_true]
    refine ⟨by first | rfl | trivial, by first | rfl | trivial, ⟨?_, ?_, h.perm, h.rise, h.few, h.file⟩, by first | rfl | trivial, .inl (by first | rfl | trivial)⟩
    ·rfl
    ·intro _; exact ⟨rfl, by show 0 ≤ d.armed - 1; omega, by show d.armed - 1 ≤ _; omega⟩
  ·have h2 : (d.armed == 1) = false := by simp; omega
   simp [hp, h2, h]
theorem aset_length_le (F : Fs) (k : ByteArray) (v : ByteArray × Int) : (aset F k v).length ≤ F.length + 1 := by
 induction F with
 | nil => simp [aset]
 | cons p F ih =>
  obtain ⟨a, b⟩ := p
  simp only [aset]
  split
  ·simp
  ·simp; omega
theorem mem_aset {F : Fs} {k : ByteArray} {v : ByteArray × Int} {p : ByteArray × (ByteArray × Int)} (h : p ∈ aset F k v) : p = (k, v) ∨ p ∈ F := by
 induction F with
 | nil => simp [aset] at h; exact .inl h
 | cons q F ih =>
  obtain ⟨a, b⟩ := q
  simp only [aset] at h
  split at h
  ·rcases List.mem_cons.1 h with rfl | h
   ·exact .inl rfl
   ·exact .inr (by simp [h])
  ·rcases List.mem_cons.1 h with rfl | h
   ·exact .inr (by simp)
   ·exact (ih h).imp_right fun h => by simp [h]
theorem Sim.got {d e : DS} {B : Nat} (h : Sim d e B) (nm : ByteArray) : gotF e.files nm = d.got nm ∧ 0 ≤ (d.got nm).2 ∧ (d.got nm).2 ≤ (d.got nm).1.size ∧ (d.got nm).1.size ≤ B := by
 refine ⟨by unfold gotF DS.got; rw [h.lookup], ?_⟩
 unfold DS.got
 cases hl : d.files.lookup nm with
 | none => exact ⟨Int.le_refl _, Int.le_refl _, Nat.zero_le _⟩
 | some f =>
  have : (nm, f) ∈ d.files := by
   obtain ⟨l1, l2, h1, _⟩ := List.lookup_eq_some_iff.1 hl
   rw [h1]; simp
  obtain ⟨_, h2, h3, h4⟩ := h.file _ this
  exact ⟨h2, h3, h4⟩
theorem Sim.set {d e : DS} {B C : Nat} (h : Sim d e B) (nm : ByteArray) (u : ByteArray × Int → ByteArray × Int) (hc : B + 1 ≤ C) (hnm : nm.size ≤ 281474976710656)
  (hu : 0 ≤ (u (d.got nm)).2 ∧ (u (d.got nm)).2 ≤ (u (d.got nm)).1.size ∧ (u (d.got nm)).1.size ≤ C) :
  Sim { d with files := aset d.files nm (u (d.got nm)) } { e with files := (mkF e.files nm).modify (posOf e.files nm) fun f => (f.1, u f.2) } C := by
 obtain ⟨h1, h2, h3⟩ := mk_modify h.rise nm u
 rw [(h.got nm).1] at h2
 refine ⟨h.down, h.armed, h2.trans (aset_perm h.perm h.rise.nodup nm _), h1, ?_, ?_⟩
 ·have := aset_length_le d.files nm (u (d.got nm)); have := h.few; simp; omega
 ·intro p hp
  rcases mem_aset hp with rfl | hp
  ·exact ⟨hnm, hu⟩
  ·obtain ⟨g1, g2, g3, g4⟩ := h.file p hp
   exact ⟨by omega, g2, g3, by omega⟩
theorem Sim.append {d e : DS} {B C : Nat} (h : Sim d e B) (nm dt : ByteArray) (hc : B + 1 + dt.size ≤ C) (hn : nm.size ≤ 281474976710656) : (d.append nm dt).1 = (e.rappend nm dt).1 ∧ Sim (d.append nm dt).2 (e.rappend nm dt).2 C := by
 obtain ⟨h1, h2, h3, h4, _⟩ := h.begin
 unfold DS.append DS.rappend
 dsimp only
 rw [← h1, ← h2]
 obtain ⟨g1, g2, g3, g4⟩ := h3.got nm
 split
 ·refine ⟨rfl, ?_⟩
  exact h3.set nm (fun f => (f.1 ++ dt, f.2)) (by omega) (by omega) ⟨g2, by simp [ByteArray.size_append]; omega, by simp [ByteArray.size_append]; omega⟩
 ·exact ⟨rfl, h3.mono (by omega)⟩
theorem Sim.swap {d e : DS} {B C : Nat} (h : Sim d e B) (nm dt : ByteArray) (hc : B + 1 ≤ C) (hdt : dt.size ≤ C) (hn : nm.size ≤ 281474976710656) : (d.swap nm dt).1 = (e.rswap nm dt).1 ∧ Sim (d.swap nm dt).2 (e.rswap nm dt).2 C := by
 obtain ⟨h1, h2, h3, h4, _⟩ := h.begin
 unfold DS.swap DS.rswap
 dsimp only
 rw [← h1]
 split
 ·rename_i h0
  refine ⟨(by simpa using h0 : d.begin.1.2 = 0).symm, ?_⟩
  exact h3.set nm (fun f => (dt, (dt.size : Int))) (by omega) (by omega) ⟨by simp, by simp, by simp; omega⟩
 ·exact ⟨rfl, h3.mono (by omega)⟩
theorem Sim.found {d e : DS} {B : Nat} (h : Sim d e B) (nm : ByteArray) : foundAt e.files nm = (d.files.lookup nm).isSome ∧ ∀ f, d.files.lookup nm = some f → e.files[posOf e.files nm]? = some (nm, f) := by
 obtain ⟨A, R, hF, hA, hlt, hB⟩ := pos_spec h.rise nm
 have hne : ∀ p ∈ A, p.1 ≠ nm := fun p hp e => ltB_irrefl nm (by have := hlt p hp; rw [e] at this; exact this)
 rw [← h.lookup]
 rcases hB with ⟨f, B', rfl, hfo, hB'⟩ | ⟨hfo, hB'⟩
 ·have hl : e.files.lookup nm = some f := by rw [hF, lookup_mid hne]
  rw [hfo, hl]
  refine ⟨rfl, fun f' e' => ?_⟩
  cases e'
  rw [← hA]; conv => lhs; arg 1; rw [hF]
  simp
 ·have hall : ∀ p ∈ e.files, p.1 ≠ nm := by
   intro p hp
   rw [hF] at hp
   rcases List.mem_append.1 hp with hp | hp
   ·exact hne p hp
   ·exact fun e => ltB_irrefl nm (by have := hB' p hp; rw [e] at this; exact this)
  rw [hfo, lookup_none_of hall]
  exact ⟨rfl, fun f e => by cases e⟩
theorem Sim.sync {d e : DS} {B C : Nat} (h : Sim d e B) (nm : ByteArray) (hc : B + 1 ≤ C) (hn : nm.size ≤ 281474976710656) : (d.sync nm).1 = (e.rsync nm).1 ∧ Sim (d.sync nm).2 (e.rsync nm).2 C := by
 obtain ⟨h1, h2, h3, h4, _⟩ := h.begin
 obtain ⟨f1, f2⟩ := h3.found nm
 unfold DS.sync DS.rsync
 dsimp only
 rw [← h1, f1]
 by_cases h0 : d.begin.1.2 = 0
 ·simp only [h0, beq_self_eq_true, if_true, Bool.true_and]
  cases hl : d.begin.2.files.lookup nm with
  | none => simp; exact h3.mono (by omega)
  | some f =>
   simp only [Option.isSome_some, if_true, true_and]
   have hg : d.begin.2.got nm = f := by simp [DS.got, hl]
   have hmk := (mk_modify h3.rise nm id).2.2 (by rw [f1, hl]; (first | done | rfl))
   have := h3.set (C := C) nm (fun f => (f.1, (f.1.size : Int))) (by omega) (by omega) (by
    obtain ⟨_, g2, g3, g4⟩ := h3.got nm
    exact ⟨by simp, by simp, by simp; omega⟩)
   rw [hmk, hg] at this
   exact this
 ·have h0' : (d.begin.1.2 == 0) = false := by simpa using h0
  simp only [h0', Bool.false_and, Bool.false_eq_true, if_false, true_and]
  exact h3.mono (by omega)
theorem Sim.read {d e : DS} {B : Nat} (h : Sim d e B) (nm : ByteArray) : d.read nm = e.rread nm := by
 obtain ⟨f1, f2⟩ := h.found nm
 unfold DS.read DS.rread
 rw [← h.down]
 split
 ·rfl
 ·unfold DS.got
  cases hl : d.files.lookup nm with
  | some f =>
   rw [f2 f hl]
   have : stB nm nm = 0 := stB_eq.2 rfl
   simp [this]
  | none =>
   rw [hl] at f1
   unfold foundAt at f1
   split
   ·rename_i p hp
    rw [hp] at f1
    simp at f1
    simp [f1]
   ·rfl
theorem Sim.arm {d e : DS} {B : Nat} (h : Sim d e B) (n : Int) (hn : n ≤ 9223372036854775807) : Sim (d.arm n) (e.rarm n) B := by
 unfold DS.arm DS.rarm
 rw [← h.down]
 split
 ·exact h
 ·refine ⟨rfl, fun _ => ⟨rfl, ?_, ?_⟩, h.perm, h.rise, h.few, h.file⟩ <;> (show _ ≤ _; dsimp only; split <;> omega)
theorem Sim.crash {d e : DS} {B : Nat} (h : Sim d e B) (hB : B ≤ 1000000000) (keep : List Int) : Sim (d.crash keep) (e.rcrash keep) B := by
 have hfiles : (d.crash keep).files = (e.rcrash keep).files := by
  show d.crashFiles keep = _
  unfold DS.crashFiles DS.rcrash
  rw [h.names, List.zipIdx_map, List.map_map]
  apply List.map_congr_left
  rintro ⟨⟨nm, f⟩, i⟩ hp
  have hm : (nm, f) ∈ e.files := by
   have := List.mem_zipIdx' hp
   rw [this.2]; exact List.getElem_mem _
  have : d.got nm = f := by
   unfold DS.got
   rw [← h.lookup]
   obtain ⟨A, R, hAR⟩ := List.append_of_mem hm
   have hn := h.rise.nodup
   rw [hAR] at hn ⊢
   rw [lookup_mid]
   ·rfl
   ·intro p hp e
    simp only [List.map_append, List.map_cons] at hn
    have := (List.nodup_append.1 hn).2.2 p.1 (List.mem_map_of_mem hp) nm (by simp)
    exact this e
  simp [this]
 have hkeys : ((e.rcrash keep).files.map (·.1)) = e.files.map (·.1) := by
  unfold DS.rcrash
  rw [List.map_map]
  have : e.files.zipIdx.map (·.1.1) = (e.files.zipIdx.map (·.1)).map (·.1) := by rw [List.map_map]; (first | done | rfl)
  show e.files.zipIdx.map (fun p => p.1.1) = _
  rw [this]; simp
 refine ⟨rfl, fun _ => ⟨rfl, Int.le_refl _, by show (0 : Int) ≤ _; omega⟩, by rw [hfiles], ?_, ?_, ?_⟩
 ·have := h.rise
  have key : ∀ G : Fs, Rising G ↔ (G.map (·.1)).Pairwise ltB := fun G => by unfold Rising; rw [List.pairwise_map]
  rw [key] at this ⊢
  rw [hkeys]; exact this
 ·rw [hfiles]
  have := h.perm.length_eq
  have := h.few
  simp [DS.rcrash]; omega
 ·rw [hfiles]
  intro p hp
  unfold DS.rcrash at hp
  simp only [List.mem_map] at hp
  obtain ⟨⟨⟨nm, f⟩, i⟩, hp, rfl⟩ := hp
  have hm : (nm, f) ∈ e.files := by rw [(List.mem_zipIdx' hp).2]; exact List.getElem_mem _
  obtain ⟨g1, g2, g3, g4⟩ := h.file _ (h.perm.mem_iff.1 hm)
  have h1 : 0 ≤ f.2 ∧ f.2 ≤ f.1.size ∧ f.1.size ≤ 9223372036854775807 := ⟨g2, g3, by simp at g4; omega⟩
  have h2 := crashN_range h1 keep[i]?
  have h3 := crash_wrap h1 keep[i]?
  simp only [crashFile, h3, ByteArray.size_extract]
  simp at g1 g2 g3 g4
  exact ⟨g1, by omega, by omega, by omega⟩
end
section
def DS.opens (d : DS) (nm : ByteArray) : (List ByteArray × Int) × DS :=
 if (d.read nm).2 ≠ 0 then (([], (d.read nm).2), d)
 else if (scanB (d.read nm).1).2 < (d.read nm).1.size then
  (if (d.swap nm ((d.read nm).1.extract 0 (scanB (d.read nm).1).2)).1 ≠ 0 then (([], (d.swap nm ((d.read nm).1.extract 0 (scanB (d.read nm).1).2)).1), (d.swap nm ((d.read nm).1.extract 0 (scanB (d.read nm).1).2)).2)
   else (((scanB (d.read nm).1).1, 0), (d.swap nm ((d.read nm).1.extract 0 (scanB (d.read nm).1).2)).2))
 else (((scanB (d.read nm).1).1, 0), d)
def DS.puts (d : DS) (nm : ByteArray) (l : List ByteArray) : Int × DS :=
 if (allB l).2 ≠ 0 ∨ l.length = 0 then ((allB l).2, d)
 else if (d.append nm (allB l).1).1 ≠ 0 then d.append nm (allB l).1
 else (d.append nm (allB l).1).2.sync nm
def DS.rewrites (d : DS) (nm : ByteArray) (l : List ByteArray) : Int × DS :=
 if (allB l).2 ≠ 0 then ((allB l).2, d) else d.swap nm (allB l).1
def DS.ropens (d : DS) (nm : ByteArray) : (List ByteArray × Int) × DS :=
 if (d.rread nm).2 ≠ 0 then (([], (d.rread nm).2), d)
 else if (scanB (d.rread nm).1).2 < (d.rread nm).1.size then
  (if (d.rswap nm ((d.rread nm).1.extract 0 (scanB (d.rread nm).1).2)).1 ≠ 0 then (([], (d.rswap nm ((d.rread nm).1.extract 0 (scanB (d.rread nm).1).2)).1), (d.rswap nm ((d.rread nm).1.extract 0 (scanB (d.rread nm).1).2)).2)
   else (((scanB (d.rread nm).1).1, 0), (d.rswap nm ((d.rread nm).1.extract 0 (scanB (d.rread nm).1).2)).2))
 else (((scanB (d.rread nm).1).1, 0), d)
def DS.rputs (d : DS) (nm : ByteArray) (l : List ByteArray) : Int × DS :=
 if (allB l).2 ≠ 0 ∨ l.length = 0 then ((allB l).2, d)
 else if (d.rappend nm (allB l).1).1 ≠ 0 then d.rappend nm (allB l).1
 else (d.rappend nm (allB l).1).2.rsync nm
def DS.rrewrites (d : DS) (nm : ByteArray) (l : List ByteArray) : Int × DS :=
 if (allB l).2 ≠ 0 then ((allB l).2, d) else d.rswap nm (allB l).1
theorem Sim.read_size {d e : DS} {B : Nat} (h : Sim d e B) (nm : ByteArray) : (d.read nm).1.size ≤ B := by
 unfold DS.read
 split
 ·exact Nat.zero_le _
 ·exact (h.got nm).2.2.2
theorem Sim.opens {d e : DS} {B C : Nat} (h : Sim d e B) (nm : ByteArray) (hc : B + 1 ≤ C) (hn : nm.size ≤ 281474976710656) : (d.opens nm).1 = (e.ropens nm).1 ∧ Sim (d.opens nm).2 (e.ropens nm).2 C := by
 have hr := h.read nm
 have hz := h.read_size nm
 unfold DS.opens DS.ropens
 rw [← hr]
 split
 ·exact ⟨rfl, h.mono (by omega)⟩
 split
 ·have hs := h.swap nm ((d.read nm).1.extract 0 (scanB (d.read nm).1).2) (C := C) hc (by rw [ByteArray.size_extract]; omega) hn
  rw [← hs.1]
  split
  ·exact ⟨rfl, hs.2⟩
  ·exact ⟨rfl, hs.2⟩
 ·exact ⟨rfl, h.mono (by omega)⟩
theorem Sim.puts {d e : DS} {B C : Nat} (h : Sim d e B) (nm : ByteArray) (l : List ByteArray) (hc : B + 2 + (recsB l).size ≤ C) (hn : nm.size ≤ 281474976710656) : (d.puts nm l).1 = (e.rputs nm l).1 ∧ Sim (d.puts nm l).2 (e.rputs nm l).2 C := by
 unfold DS.puts DS.rputs
 split
 ·exact ⟨rfl, h.mono (by omega)⟩
 rename_i hb
 have hall : (allB l).1 = recsB l := by
  unfold allB at hb ⊢
  split
  ·rename_i hbig; rw [if_pos hbig] at hb; simp at hb
  ·rfl
 have ha := h.append nm (allB l).1 (C := C - 1) (by rw [hall]; omega) hn
 rw [← ha.1]
 split
 ·exact ⟨ha.1, ha.2.mono (by omega)⟩
 ·exact ha.2.sync nm (by omega) hn
theorem Sim.rewrites {d e : DS} {B C : Nat} (h : Sim d e B) (nm : ByteArray) (l : List ByteArray) (hc : B + 2 + (recsB l).size ≤ C) (hn : nm.size ≤ 281474976710656) : (d.rewrites nm l).1 = (e.rrewrites nm l).1 ∧ Sim (d.rewrites nm l).2 (e.rrewrites nm l).2 C := by
 unfold DS.rewrites DS.rrewrites
 split
 ·exact ⟨rfl, h.mono (by omega)⟩
 rename_i hb
 have hall : (allB l).1 = recsB l := by
  unfold allB at hb ⊢
  split
  ·rename_i hbig; rw [if_pos hbig] at hb; simp at hb
  ·rfl
 exact h.swap nm (allB l).1 (by omega) (by rw [hall]; omega) hn
end
section
structure Kept (d : DS) (nm : ByteArray) (put : List ByteArray) (sure : Nat) : Prop where
 le : sure ≤ put.length
 small : bigB put = false
 data : ∃ m, sure ≤ m ∧ m ≤ put.length ∧ (d.got nm).1 = recsB (put.take m)
 safe : ((recsB (put.take sure)).size : Int) ≤ (d.got nm).2 ∧ (d.got nm).2 ≤ (d.got nm).1.size
 up : d.down = false → put.length = sure
theorem recsB_app (a b : List ByteArray) : recsB (a ++ b) = recsB a ++ recsB b := by
 apply toL_inj
 unfold recsB
 rw [toL_append, toL_ofL, toL_ofL, toL_ofL, List.map_append]
 simp [Strip.recs]
theorem bigB_app {a b : List ByteArray} : bigB (a ++ b) = (bigB a || bigB b) := by unfold bigB; rw [List.any_append]
theorem bigB_take {a : List ByteArray} (h : bigB a = false) (k : Nat) : bigB (a.take k) = false := by
 unfold bigB at h ⊢
 simp only [List.any_eq_false] at h ⊢
 exact fun x hx => h x (List.mem_of_mem_take hx)
theorem got_aset (d : DS) (nm : ByteArray) (v : ByteArray × Int) : (DS.mk (aset d.files nm v) d.down d.armed).got nm = v := by
 unfold DS.got
 dsimp only
 rw [lookup_aset]; simp
theorem begin_cases (d : DS) (ha : 0 ≤ d.armed) (hm : d.armed ≤ 9223372036854775807) : (d.down = true ∧ d.begin = ((false, 50), d)) ∨ (d.down = false ∧ ((∃ a, 0 ≤ a ∧ a ≤ 9223372036854775807 ∧ d.begin = ((false, 0), ⟨d.files, false, a⟩)) ∨ d.begin = ((true, 50), ⟨d.files, true, 0⟩))) := by
 unfold DS.begin
 cases hd : d.down with
 | true => left; exact ⟨rfl, by simp⟩
 | false =>
  right
  refine ⟨rfl, ?_⟩
  by_cases h1 : d.armed > 0
  ·have hw : i64.wrap (d.armed - 1) = d.armed - 1 := wrap_in (by omega) (by omega)
   by_cases h2 : d.armed = 1
   ·right
    have h0 : i64.wrap 0 = 0 := wrap_in (by omega) (by omega)
    simp [h2, hw, h0]
   ·left
    have h3 : (d.armed - 1 == 0) = false := by simp; omega
    refine ⟨d.armed - 1, by omega, by omega, ?_⟩
    simp only [h1, if_true, hw, h3, Bool.false_eq_true, if_false]
  ·left
   refine ⟨d.armed, ha, hm, ?_⟩
   simp only [h1, if_false, Bool.false_eq_true]
   cases d; simp_all
section
variable {d : DS} {nm : ByteArray} {put : List ByteArray} {sure : Nat}
theorem Kept.file (h : Kept d nm put sure) (hs : put.length = sure) : (d.got nm).1 = recsB put ∧ ((recsB put).size : Int) ≤ (d.got nm).2 := by
 obtain ⟨m, h1, h2, h3⟩ := h.data
 have e : put.take m = put := List.take_of_length_le (by omega)
 have e2 : put.take sure = put := List.take_of_length_le (by omega)
 have := h.safe.1
 rw [e2] at this
 rw [e] at h3
 exact ⟨h3, this⟩
theorem Kept.more (h : Kept d nm put sure) (hd : d.down = true) {l : List ByteArray} (hl : bigB l = false) (hs : put.length = sure) : Kept d nm (put ++ l) sure := by
 obtain ⟨h1, h2⟩ := h.file hs
 have e : (put ++ l).take sure = put := by rw [← hs, List.take_left]
 refine ⟨by rw [List.length_append]; omega, by rw [bigB_app, h.small, hl]; (first | done | rfl), ⟨sure, Nat.le_refl _, by rw [List.length_append]; omega, by rw [e]; exact h1⟩, ⟨by rw [e]; exact h2, h.safe.2⟩, fun e => by rw [hd] at e; cases e⟩
theorem Kept.puts (h : Kept d nm put sure) (ha : 0 ≤ d.armed ∧ d.armed ≤ 9223372036854775807) (l : List ByteArray) (hl : bigB l = false) (hne : l.length ≠ 0) :
  ((d.puts nm l).1 = 0 ∧ (d.puts nm l).2.down = false ∧ Kept (d.puts nm l).2 nm (put ++ l) (put ++ l).length ∧ 0 ≤ (d.puts nm l).2.armed ∧ (d.puts nm l).2.armed ≤ 9223372036854775807) ∨
  ((d.puts nm l).1 = 50 ∧ (d.puts nm l).2.down = true ∧ 0 ≤ (d.puts nm l).2.armed ∧ (d.puts nm l).2.armed ≤ 9223372036854775807 ∧
    (put.length = sure → Kept (d.puts nm l).2 nm (put ++ l) sure) ∧ (put.length ≠ sure → Kept (d.puts nm l).2 nm put sure)) := by
 have hall : allB l = (recsB l, 0) := by unfold allB; rw [if_neg (by rw [hl]; simp)]
 unfold DS.puts
 rw [hall, if_neg (by simp; exact fun e => hne (by simp [e]))]
 dsimp only
 rcases begin_cases d ha.1 ha.2 with ⟨hd, hb⟩ | ⟨hd, ⟨a, a0, a1, hb⟩ | hb⟩
 ·have e : d.append nm (recsB l) = (50, d) := by unfold DS.append; rw [hb]; (first | done | rfl)
  rw [e, if_pos (by simp)]
  exact .inr ⟨rfl, hd, ha.1, ha.2, fun hs => h.more hd hl hs, fun _ => h⟩
 ·have hs := h.up hd
  obtain ⟨f1, f2⟩ := h.file hs
  have e : d.append nm (recsB l) = (0, ⟨aset d.files nm (recsB put ++ recsB l, (d.got nm).2), false, a⟩) := by
   unfold DS.append; rw [hb]
   simp only [beq_self_eq_true, Bool.true_or, if_true]
   have : (DS.mk d.files false a).got nm = d.got nm := rfl
   rw [this, f1]
  rw [e, if_neg (by simp)]
  dsimp only
  have hg := got_aset ⟨d.files, false, a⟩ nm (recsB put ++ recsB l, (d.got nm).2)
  dsimp only at hg
  have hr : recsB (put ++ l) = recsB put ++ recsB l := recsB_app _ _
  have hbig : bigB (put ++ l) = false := by rw [bigB_app, h.small, hl]; (first | done | rfl)
  rcases begin_cases ⟨aset d.files nm (recsB put ++ recsB l, (d.got nm).2), false, a⟩ a0 a1 with ⟨hd2, _⟩ | ⟨_, ⟨a2, b0, b1, hb2⟩ | hb2⟩
  ·cases hd2
  ·left
   have e2 : (DS.mk (aset d.files nm (recsB put ++ recsB l, (d.got nm).2)) false a).sync nm = (0, ⟨aset (aset d.files nm (recsB put ++ recsB l, (d.got nm).2)) nm (recsB put ++ recsB l, ((recsB put ++ recsB l).size : Int)), false, a2⟩) := by
    unfold DS.sync; rw [hb2]
    simp only [beq_self_eq_true, if_true]
    rw [lookup_aset]; simp
   rw [e2]
   refine ⟨rfl, rfl, ⟨Nat.le_refl _, hbig, ⟨(put ++ l).length, Nat.le_refl _, Nat.le_refl _, ?_⟩, ⟨?_, ?_⟩, fun _ => rfl⟩, b0, b1⟩
   ·rw [List.take_length, hr, got_aset ⟨aset d.files nm (recsB put ++ recsB l, (d.got nm).2), false, a2⟩]
   ·rw [List.take_length, hr, got_aset ⟨aset d.files nm (recsB put ++ recsB l, (d.got nm).2), false, a2⟩]; exact Int.le_refl _
   ·rw [got_aset ⟨aset d.files nm (recsB put ++ recsB l, (d.got nm).2), false, a2⟩]; exact Int.le_refl _
  ·right
   have e2 : (DS.mk (aset d.files nm (recsB put ++ recsB l, (d.got nm).2)) false a).sync nm = (50, ⟨aset d.files nm (recsB put ++ recsB l, (d.got nm).2), true, 0⟩) := by
    unfold DS.sync; rw [hb2]; (first | done | rfl)
   rw [e2]
   refine ⟨rfl, rfl, by simp, by simp, fun _ => ?_, fun e => absurd hs e⟩
   have hg2 : (DS.mk (aset d.files nm (recsB put ++ recsB l, (d.got nm).2)) true 0).got nm = (recsB put ++ recsB l, (d.got nm).2) := hg
   have et : (put ++ l).take sure = put := by rw [← hs, List.take_left]
   refine ⟨by rw [List.length_append]; omega, hbig, ⟨(put ++ l).length, by rw [List.length_append]; omega, Nat.le_refl _, ?_⟩, ⟨?_, ?_⟩, fun e => by cases e⟩
   ·rw [hg2, List.take_length, hr]
   ·rw [hg2, et]; exact f2
   ·rw [hg2]
    have := h.safe.2
    rw [f1] at this
    dsimp only
    rw [ByteArray.size_append]; omega
 ·right
  have hs := h.up hd
  obtain ⟨f1, f2⟩ := h.file hs
  have e : d.append nm (recsB l) = (50, ⟨aset d.files nm (recsB put ++ recsB l, (d.got nm).2), true, 0⟩) := by
   unfold DS.append; rw [hb]
   simp only [Bool.or_true, if_true]
   have : (DS.mk d.files true 0).got nm = d.got nm := rfl
   rw [this, f1]
  rw [e, if_pos (by simp)]
  have hg2 : (DS.mk (aset d.files nm (recsB put ++ recsB l, (d.got nm).2)) true 0).got nm = (recsB put ++ recsB l, (d.got nm).2) := got_aset ⟨d.files, true, 0⟩ nm _
  have hr : recsB (put ++ l) = recsB put ++ recsB l := recsB_app _ _
  have hbig : bigB (put ++ l) = false := by rw [bigB_app, h.small, hl]; (first | done | rfl)
  have et : (put ++ l).take sure = put := by rw [← hs, List.take_left]
  refine ⟨rfl, rfl, by simp, by simp, fun _ => ?_, fun e => absurd hs e⟩
  refine ⟨by rw [List.length_append]; omega, hbig, ⟨(put ++ l).length, by rw [List.length_append]; omega, Nat.le_refl _, ?_⟩, ⟨?_, ?_⟩, fun e => by cases e⟩
  ·rw [hg2, List.take_length, hr]
  ·rw [hg2, et]; exact f2
  ·rw [hg2]
   have := h.safe.2
   rw [f1] at this
   dsimp only
   rw [ByteArray.size_append]; omega
theorem Kept.rewrites (h : Kept d nm put sure) (ha : 0 ≤ d.armed ∧ d.armed ≤ 9223372036854775807) (l : List ByteArray) :
  (0 ≤ (d.rewrites nm l).2.armed ∧ (d.rewrites nm l).2.armed ≤ 9223372036854775807) ∧ ((d.rewrites nm l).1 = 0 → Kept (d.rewrites nm l).2 nm l l.length) ∧ ((d.rewrites nm l).1 ≠ 0 → Kept (d.rewrites nm l).2 nm put sure) := by
 unfold DS.rewrites
 cases hl : bigB l with
 | true =>
  have hall : allB l = (⟨#[]⟩, 30) := by unfold allB; rw [if_pos hl]
  rw [hall, if_pos (by simp)]
  exact ⟨ha, fun e => by simp at e, fun _ => h⟩
 | false =>
  have hall : allB l = (recsB l, 0) := by unfold allB; rw [if_neg (by rw [hl]; simp)]
  rw [hall, if_neg (by simp)]
  dsimp only
  rcases begin_cases d ha.1 ha.2 with ⟨hd, hb⟩ | ⟨hd, ⟨a, a0, a1, hb⟩ | hb⟩
  ·have e : d.swap nm (recsB l) = (50, d) := by unfold DS.swap; rw [hb]; (first | done | rfl)
   rw [e]
   exact ⟨ha, fun e => by simp at e, fun _ => h⟩
  ·have e : d.swap nm (recsB l) = (0, ⟨aset d.files nm (recsB l, ((recsB l).size : Int)), false, a⟩) := by unfold DS.swap; rw [hb]; (first | done | rfl)
   rw [e]
   refine ⟨⟨a0, a1⟩, fun _ => ?_, fun e => absurd rfl e⟩
   have hg := got_aset ⟨d.files, false, a⟩ nm (recsB l, ((recsB l).size : Int))
   refine ⟨Nat.le_refl _, hl, ⟨l.length, Nat.le_refl _, Nat.le_refl _, by rw [List.take_length]; rw [hg]⟩, ⟨by rw [List.take_length]; rw [hg]; exact Int.le_refl _, by rw [hg]; exact Int.le_refl _⟩, fun _ => rfl⟩
  ·have e : d.swap nm (recsB l) = (50, ⟨d.files, true, 0⟩) := by unfold DS.swap; rw [hb]; (first | done | rfl)
   rw [e]
   refine ⟨⟨by simp, by simp⟩, fun e => by simp at e, fun _ => ?_⟩
   exact ⟨h.le, h.small, h.data, h.safe, fun e => by cases e⟩
end
end
section
theorem lookup_zip (F : ByteArray → Nat → ByteArray × Int) (nm : ByteArray) : ∀ (l : List ByteArray) (k : Nat), nm ∈ l → ∃ i, ((l.zipIdx k).map fun p => (p.1, F p.1 p.2)).lookup nm = some (F nm i)
 | [], _, h => by simp at h
 | x :: l, k, h => by
  by_cases e : nm = x
  ·subst e; exact ⟨k, by simp⟩
  ·have e' : (nm == x) = false := by simpa using e
   obtain ⟨i, hi⟩ := lookup_zip F nm l (k + 1) (by simpa [e] using h)
   exact ⟨i, by simp [List.zipIdx_cons, List.lookup_cons, e', hi]⟩
theorem lookup_zip_none (F : ByteArray → Nat → ByteArray × Int) (nm : ByteArray) : ∀ (l : List ByteArray) (k : Nat), nm ∉ l → ((l.zipIdx k).map fun p => (p.1, F p.1 p.2)).lookup nm = none
 | [], _, h => by simp
 | x :: l, k, h => by
  simp only [List.mem_cons, not_or] at h
  have e' : (nm == x) = false := by simpa using h.1
  simp [List.zipIdx_cons, List.lookup_cons, e', lookup_zip_none F nm l (k + 1) h.2]
theorem lookup_mem {F : List (ByteArray × (ByteArray × Int))} {nm : ByteArray} {f : ByteArray × Int} (h : F.lookup nm = some f) : nm ∈ F.map (·.1) := by
 induction F with
 | nil => simp at h
 | cons p l ih =>
  obtain ⟨a, b⟩ := p
  by_cases e : nm = a
  ·simp [e]
  ·have e' : (nm == a) = false := by simpa using e
   simp only [List.lookup_cons, e'] at h
   exact List.mem_cons_of_mem _ (ih h)
theorem crash_got {d : DS} (hok : d.Ok) (nm : ByteArray) (keep : List Int) : ∃ q : Nat, (d.crash keep).got nm = ((d.got nm).1.extract 0 q, (q : Int)) ∧ (d.got nm).2 ≤ q ∧ q ≤ (d.got nm).1.size := by
 cases hl : d.files.lookup nm with
 | none =>
  have hg : d.got nm = (⟨#[]⟩, 0) := by unfold DS.got; rw [hl]; (first | done | rfl)
  have hm : nm ∉ sortedKeys d.files := by
   intro hm
   have := (sortedKeys_perm d.files).mem_iff.1 hm
   obtain ⟨v, h1, _⟩ := mem_lookup this
   rw [hl] at h1; cases h1
  refine ⟨0, ?_, by rw [hg]; exact Int.le_refl _, Nat.zero_le _⟩
  rw [hg]
  have := lookup_zip_none (fun nm i => crashFile (d.got nm) keep[i]?) nm (sortedKeys d.files) 0 hm
  unfold DS.got
  show ((d.crashFiles keep).lookup nm).getD _ = _
  unfold DS.crashFiles
  rw [this]; (first | done | rfl)
 | some f =>
  have hg : d.got nm = f := by unfold DS.got; rw [hl]; (first | done | rfl)
  have hm := lookup_mem hl
  have hm2 : nm ∈ sortedKeys d.files := (sortedKeys_perm d.files).mem_iff.2 hm
  obtain ⟨i, hi⟩ := lookup_zip (fun nm i => crashFile (d.got nm) keep[i]?) nm _ 0 hm2
  rw [hg] at hi ⊢
  obtain ⟨v, h1, h2⟩ := mem_lookup hm
  rw [hl] at h1
  have h1 := Option.some.inj h1
  subst h1
  have hf := hok.file _ h2
  dsimp only at hf
  have hr := crashN_range hf keep[i]?
  have hw := crash_wrap hf keep[i]?
  refine ⟨(f.2 + crashN f keep[i]?).toNat, ?_, by omega, by omega⟩
  have e : ((f.2 + crashN f keep[i]?).toNat : Int) = f.2 + crashN f keep[i]? := by omega
  unfold DS.got
  show ((d.crashFiles keep).lookup nm).getD _ = _
  unfold DS.crashFiles
  rw [hi]
  show crashFile f keep[i]? = _
  unfold crashFile
  rw [hw, e]
theorem Kept.crash {d : DS} {nm : ByteArray} {put : List ByteArray} {sure : Nat} (h : Kept d nm put sure) (hok : d.Ok) (keep : List Int) :
  ∃ k, sure ≤ k ∧ k ≤ put.length ∧ ((d.crash keep).opens nm).1 = (put.take k, 0) ∧ Kept ((d.crash keep).opens nm).2 nm (put.take k) k ∧ ((d.crash keep).opens nm).2.armed = 0 := by
 obtain ⟨q, hq, hq1, hq2⟩ := crash_got hok nm keep
 obtain ⟨m, hm1, hm2, hm3⟩ := h.data
 rw [hm3] at hq hq2
 have hsmall := bigB_take h.small m
 obtain ⟨k, hk1, hk2, hk3⟩ := scanB_cut hsmall q
 have hkm : k ≤ m := by rw [List.length_take] at hk1; omega
 have htt : ∀ j, j ≤ m → (put.take m).take j = put.take j := fun j hj => by rw [List.take_take, Nat.min_eq_left hj]
 have hks : sure ≤ k := by
  refine hk3 sure ?_ (by rw [List.length_take]; omega)
  rw [htt sure hm1]
  have := h.safe.1
  omega
 rw [htt k hkm] at hk2
 have hkl : (put.take k).length = k := by rw [List.length_take]; omega
 have hqz : ((recsB (put.take m)).extract 0 q).size = q := by rw [ByteArray.size_extract]; omega
 have hspec := scanB_spec ((recsB (put.take m)).extract 0 q)
 have hle := scanB_le ((recsB (put.take m)).extract 0 q)
 rw [hk2, hqz] at hle
 rw [hk2] at hspec
 dsimp only at hspec hle
 obtain ⟨t, ht⟩ : ∃ t, (recsB (put.take m)).extract 0 q = t := ⟨_, rfl⟩
 rw [ht] at hq hk2 hspec hqz
 have hr : (d.crash keep).read nm = (t, 0) := by
  unfold DS.read
  have : (d.crash keep).down = false := rfl
  rw [this, if_neg (by simp), hq]
 refine ⟨k, hks, by omega, ?_⟩
 have hsm2 := bigB_take h.small k
 by_cases hc : (recsB (put.take k)).size < q
 ·have hsw : (d.crash keep).swap nm (recsB (put.take k)) = (0, ⟨aset (d.crash keep).files nm (recsB (put.take k), ((recsB (put.take k)).size : Int)), false, 0⟩) := by
   unfold DS.swap DS.begin
   have : (d.crash keep).down = false := rfl
   have : (d.crash keep).armed = 0 := rfl
   simp only [DS.crash]
   simp
  have ho : (d.crash keep).opens nm = ((put.take k, 0), ⟨aset (d.crash keep).files nm (recsB (put.take k), ((recsB (put.take k)).size : Int)), false, 0⟩) := by
   unfold DS.opens
   rw [hr, if_neg (by simp)]
   dsimp only
   rw [hk2]
   dsimp only
   rw [if_pos (by rw [hqz]; exact hc), hspec, hsw, if_neg (by simp)]
  rw [ho]
  have hg := got_aset (d.crash keep) nm (recsB (put.take k), ((recsB (put.take k)).size : Int))
  have hg2 : (DS.mk (aset (d.crash keep).files nm (recsB (put.take k), ((recsB (put.take k)).size : Int))) false 0).got nm = (recsB (put.take k), ((recsB (put.take k)).size : Int)) := hg
  have htk : (put.take k).take k = put.take k := List.take_of_length_le (by omega)
  refine ⟨rfl, ⟨by omega, hsm2, ⟨k, Nat.le_refl _, by omega, by rw [hg2, htk]⟩, ⟨by rw [hg2, htk]; exact Int.le_refl _, by rw [hg2]; exact Int.le_refl _⟩, fun _ => hkl⟩, rfl⟩
 ·have hqe : (recsB (put.take k)).size = q := by omega
  have hte : t = recsB (put.take k) := by
   rw [← hspec, hqe, ← hqz, ByteArray.extract_zero_size]
  have ho : (d.crash keep).opens nm = ((put.take k, 0), d.crash keep) := by
   unfold DS.opens
   rw [hr, if_neg (by simp)]
   dsimp only
   rw [hk2]
   dsimp only
   rw [if_neg (by rw [hqz]; exact hc)]
  rw [ho]
  have htk : (put.take k).take k = put.take k := List.take_of_length_le (by omega)
  refine ⟨rfl, ⟨by omega, hsm2, ⟨k, Nat.le_refl _, by omega, by dsimp only; rw [hq, hte, htk]⟩, ⟨by dsimp only; rw [hq, htk]; dsimp only; omega, by dsimp only; rw [hq]; dsimp only; rw [hqz]; exact Int.le_refl _⟩, fun _ => hkl⟩, rfl⟩
end
section
section
variable {d : DS} {nm : ByteArray} {put : List ByteArray} {sure : Nat}
theorem arm_armed (n : Int) (hn : n ≤ 9223372036854775807) (ha : 0 ≤ d.armed ∧ d.armed ≤ 9223372036854775807) : 0 ≤ (d.arm n).armed ∧ (d.arm n).armed ≤ 9223372036854775807 := by
 unfold DS.arm
 split
 ·exact ha
 ·dsimp only; split <;> omega
theorem arm_files (n : Int) : (d.arm n).files = d.files ∧ (d.arm n).down = d.down := by
 unfold DS.arm; split <;> exact ⟨rfl, rfl⟩
theorem Kept.arm (h : Kept d nm put sure) (n : Int) : Kept (d.arm n) nm put sure := by
 obtain ⟨e1, e2⟩ := arm_files (d := d) n
 have eg : (d.arm n).got nm = d.got nm := by unfold DS.got; rw [e1]
 exact ⟨h.le, h.small, by rw [eg]; exact h.data, by rw [eg]; exact h.safe, by rw [e2]; exact h.up⟩
theorem Kept.start : Kept ⟨[], false, 0⟩ nm [] 0 := ⟨Nat.le_refl _, rfl, ⟨0, Nat.le_refl _, Nat.le_refl _, rfl⟩, ⟨Int.le_refl _, Int.le_refl _⟩, fun _ => rfl⟩
theorem Sim.start : Sim ⟨[], false, 0⟩ ⟨[], false, 0⟩ 0 := ⟨rfl, fun _ => ⟨rfl, Int.le_refl _, by show (0 : Int) ≤ _; omega⟩, .refl _, .nil, Nat.le_refl _, fun p hp => by simp at hp⟩
end
end
section
attribute [-simp] Fw.W.ld_iff Fw.W.st_iff
end
section
attribute [-simp] Fw.W.ld_iff Fw.W.st_iff
theorem recsB_one (t : ByteArray) : recsB [t] = recB t := by
 apply toL_inj; unfold recsB recB; rw [toL_ofL, toL_ofL]; simp [Strip.recs]
theorem recsB_snoc {l : List ByteArray} {i : Nat} {x : ByteArray} (h : l[i]? = some x) : recsB (l.take (i + 1)) = recsB (l.take i) ++ recB x := by
 rw [List.take_add_one, h, ← recsB_one]
 exact recsB_app _ _
theorem recsB_nil : recsB [] = ⟨#[]⟩ := rfl
theorem recsB_take_le (l : List ByteArray) (i : Nat) : (recsB (l.take i)).size ≤ (recsB l).size := by
 have : recsB l = recsB (l.take i) ++ recsB (l.drop i) := by rw [← recsB_app, List.take_append_drop]
 rw [this, ByteArray.size_append]; omega
theorem bigB_at {l : List ByteArray} {i : Nat} {x : ByteArray} (h : l[i]? = some x) (hx : 65536 < x.size) : bigB l = true := by
 unfold bigB; rw [List.any_eq_true]; exact ⟨x, List.mem_of_getElem? h, decide_eq_true hx⟩
theorem bigB_snoc {l : List ByteArray} {i : Nat} {x : ByteArray} (h : l[i]? = some x) (hb : bigB (l.take i) = false) (hx : ¬ 65536 < x.size) : bigB (l.take (i + 1)) = false := by
 rw [List.take_add_one, h, bigB_app, hb]
 simp [bigB, hx]
theorem c_records {s : PH} {x : Nat} {a : Option Addr} {n c : Nat} {l : List ByteArray} (h : elems (Rd.enc strE) s a n l) (hl : l.length ≤ 1099511627776) (hz : (recsB l).size ≤ 4611686018427387904) :
  DCalls Tryz.prog 98 #[dptr x, .slice a n c] s fun y s' => y = .tuple #[.string (allB l).1, .int .i64 (allB l).2] ∧ s' = s := by
 refine ok_records x a n c _ s ?_
 unfold vc_records
 have hn : n = l.length := h.1
 simp only [RP_ite, Option.isNone_some, W.br_false, RP_ret, RP_guard, RP_loop, RP_unSome, RP_ld, RP_call]
 refine ⟨fun z s' => ∃ i : Nat, z = ((recsB (l.take i), ()), ((a, n, c), ()), ((n : Int), ()), ((i : Int), ()), ()) ∧ i ≤ n ∧ bigB (l.take i) = false ∧ s' = s, fun z _ => n - z.2.2.2.1.1.toNat, ⟨0, by rw [List.take_zero, recsB_nil]; (first | done | rfl), Nat.zero_le _, rfl, rfl⟩, ?_⟩
 rintro _ s ⟨i, rfl, hi, hb, rfl⟩
 refine (W.br_iff _ _ _ _).2 ⟨fun hlt => ?_, fun hge => ?_⟩
 ·have hlt : (i : Int) < (n : Int) := of_decide_eq_true hlt
  obtain ⟨t, ht⟩ : ∃ t, l[i]? = some t := ⟨_, List.getElem?_eq_getElem (by omega)⟩
  obtain ⟨ad, rfl, hh⟩ := h.at_enc ht
  dsimp only
  refine (W.guard_iff _ _ _).2 ⟨by omega, ?_⟩
  simp only [W.unSome_some, Int.toNat_natCast]
  refine ld_has_z hh (cs := [.str]) (y := (t, ())) rfl ?_
  refine W.call_of (c_Put t s) ?_
  rintro _ _ ⟨rfl, rfl⟩
  refine ⟨(((putE t).1, ()), ((putE t).2, ()), ()), rfl, ?_⟩
  refine (W.br_iff _ _ _ _).2 ⟨fun e => ?_, fun e => ?_⟩
  ·have e : ((putE t).2 != 0) = true := e
   have hbig : 65536 < t.size := by
    unfold putE at e; split at e
    ·assumption
    ·simp at e
   have h1 : putE t = (⟨#[]⟩, 30) := by unfold putE; rw [if_pos hbig]
   have h2 : allB l = (⟨#[]⟩, 30) := by unfold allB; rw [if_pos (bigB_at ht hbig)]
   rw [h1, h2]; exact ⟨rfl, rfl⟩
  ·have e : ((putE t).2 != 0) = false := e
   have hbig : ¬ 65536 < t.size := by
    intro hb2; unfold putE at e; rw [if_pos hb2] at e; simp at e
   have h1 : putE t = (recB t, 0) := by unfold putE; rw [if_neg hbig]
   rw [h1]
   have hs := recsB_snoc ht
   have hle := recsB_take_le l (i + 1)
   refine (W.guard_iff _ _ _).2 ⟨?_, ?_⟩
   ·rw [← ByteArray.size_append, ← hs]; omega
   dsimp only
   rw [← hs, wrap_succ (k := i) (by omega)]
   exact ⟨⟨i + 1, rfl, by omega, bigB_snoc ht hb hbig, rfl⟩, by simp only [Int.toNat_natCast]; omega⟩
 ·have hge : ¬ (i : Int) < (n : Int) := of_decide_eq_false hge
  rw [List.take_of_length_le (by omega)] at hb ⊢
  have h2 : allB l = (recsB l, 0) := by unfold allB; rw [if_neg (by rw [hb]; simp)]
  rw [h2]; exact ⟨rfl, rfl⟩
def DiaryIs (s : PH) (x b : Nat) (nm : ByteArray) : Prop := s x = some (.cells #[.pointer (some ⟨b, 0, none⟩), .string nm] 147 (0, 0))
structure Opened (s : PH) (r : List ByteArray × Int) (D : Nat → PH → Prop) (y : Value) (s' : PH) : Prop where
 ex : ∃ px a c, y = .tuple #[.pointer px, .slice a r.1.length c, .int .i64 r.2] ∧ rowE strE s' 9 a r.1.length c r.1 ∧ (∀ g ∈ Fw.blk a, s g = none) ∧ ((r.2 = 0 ∧ ∃ x, px = some ⟨x, 0, none⟩ ∧ D x s' ∧ s x = none) ∨ (r.2 ≠ 0 ∧ px = none))
theorem DriveIs.known {s : PH} {b m : Nat} {d : DS} (h : DriveIs s b m d) : s b ≠ none ∧ s m ≠ none := ⟨by rw [h.blk]; simp, h.map.known⟩
theorem c_Open {s : PH} {b m : Nat} {d : DS} (h : DriveIs s b m d) (nm : ByteArray) (hz : (d.read nm).1.size ≤ 1099511627776) : DCalls Tryz.prog 57 #[dptr b, .string nm] s fun y s' =>
  Opened s (d.opens nm).1 (fun x s' => DiaryIs s' x b nm) y s' ∧ DriveIs s' b m (d.opens nm).2 ∧ Fw.Mod [b, m] s s' := by
 refine ok_Open b nm _ s ?_
 unfold vc_Open
 obtain ⟨O, ho⟩ : ∃ O, d.opens nm = O := ⟨_, rfl⟩
 rw [ho]
 unfold DS.opens at ho
 obtain ⟨R, hR⟩ : ∃ R : Value → PH → Prop, (fun y s' => Opened s O.1 (fun x s' => DiaryIs s' x b nm) y s' ∧ DriveIs s' b m O.2 ∧ Fw.Mod [b, m] s s') = R := ⟨_, rfl⟩
 rw [hR]
 simp only [RP_ite, RP_ret, RP_guard, RP_call, RP_nw]
 obtain ⟨t, e, hte⟩ : ∃ t e, d.read nm = (t, e) := ⟨_, _, rfl⟩
 have hrd := c_Read h nm
 rw [hte] at hrd hz ho
 dsimp only at hz ho
 refine W.call_of hrd ?_
 rintro _ s ⟨rfl, rfl⟩
 refine ⟨((t, ()), (e, ()), ()), rfl, ?_⟩
 refine (W.br_iff _ _ _ _).2 ⟨fun e1 => ?_, fun e1 => ?_⟩
 ·have e1 : (e != 0) = true := e1
  have e1 : e ≠ 0 := by simpa using e1
  rw [if_pos e1] at ho
  rw [← hR]
  refine ⟨⟨none, none, 0, ?_, ?_, by simp [Fw.blk], .inr ?_⟩, ?_, Mod.refl _ _⟩
  ·rw [← ho]; (first | done | rfl)
  ·rw [← ho]; exact rowE.nil
  ·rw [← ho]; exact ⟨e1, rfl⟩
  ·rw [← ho]; exact h
 have e1 : (e != 0) = false := e1
 have e1 : e = 0 := by simpa using e1
 subst e1
 rw [if_neg (by simp)] at ho
 obtain ⟨l, k, hlk⟩ : ∃ l k, scanB t = (l, k) := ⟨_, _, rfl⟩
 have hsc := c_Scan t hz s
 have hkt := scanB_le t
 unfold ScanIs at hsc
 rw [hlk] at hsc ho hkt
 dsimp only at hsc ho hkt
 refine W.call_of hsc ?_
 rintro _ s1 ⟨a, c, rfl, hrow, hf, m1⟩
 refine ⟨(((a, l.length, c), ()), ((k : Int), ()), ()), rfl, ?_⟩
 have h1 := h.mod m1 (by simp) (by simp)
 refine (W.br_iff _ _ _ _).2 ⟨fun e2 => ?_, fun e2 => ?_⟩
 ·have e2 : (k : Int) < (t.size : Int) := of_decide_eq_true e2
  rw [if_pos (by omega)] at ho
  dsimp only
  refine (W.guard_iff _ _ _).2 ⟨by omega, ?_⟩
  simp only [Int.toNat_natCast]
  obtain ⟨f, d', hd'⟩ : ∃ f d', d.swap nm (t.extract 0 k) = (f, d') := ⟨_, _, rfl⟩
  have hsw := c_Swap h1 nm (t.extract 0 k)
  rw [hd'] at hsw ho
  dsimp only at hsw ho
  refine W.call_of hsw ?_
  rintro _ s2 ⟨rfl, h2, m2⟩
  refine ⟨((f, ()), ()), rfl, ?_⟩
  have m12 : Fw.Mod [b, m] s s2 := (m1.mono (by simp)).trans m2
  refine (W.br_iff _ _ _ _).2 ⟨fun e3 => ?_, fun e3 => ?_⟩
  ·have e3 : (f != 0) = true := e3
   have e3 : f ≠ 0 := by simpa using e3
   rw [if_pos e3] at ho
   rw [← hR]
   refine ⟨⟨none, none, 0, ?_, ?_, by simp [Fw.blk], .inr ?_⟩, ?_, m12⟩
   ·rw [← ho]; (first | done | rfl)
   ·rw [← ho]; exact rowE.nil
   ·rw [← ho]; exact ⟨e3, rfl⟩
   ·rw [← ho]; exact h2
  ·have e3 : (f != 0) = false := e3
   have e3 : f = 0 := by simpa using e3
   subst e3
   rw [if_neg (by simp)] at ho
   refine W.nw_of fun x s3 hx m3 k3 => ?_
   have hdis : ∀ g ∈ Fw.blk a, g ∉ [b, m] := by
    intro g hg hg2
    have := hf g hg
    simp at hg2
    rcases hg2 with rfl | rfl
    ·exact h.known.1 this
    ·exact h.known.2 this
   rw [← hR]
   refine ⟨⟨some ⟨x, 0, none⟩, a, c, ?_, ?_, hf, .inl ⟨?_, x, rfl, k3, ?_⟩⟩, ?_, m12.trans (m3.mono (by simp))⟩
   ·rw [← ho]
   ·rw [← ho]; exact (hrow.mod m2 hdis).mod m3 (by simp)
   ·rw [← ho]
   ·have hxn : x ≠ b ∧ x ≠ m := ⟨fun e => by subst e; exact h2.known.1 hx, fun e => by subst e; exact h2.known.2 hx⟩
    exact m12.none hx (by simp [hxn.1, hxn.2])
   ·rw [← ho]; exact h2.mod m3 (by simp) (by simp)
 ·have e2 : ¬ (k : Int) < (t.size : Int) := of_decide_eq_false e2
  rw [if_neg (by omega)] at ho
  refine W.nw_of fun x s3 hx m3 k3 => ?_
  rw [← hR]
  refine ⟨⟨some ⟨x, 0, none⟩, a, c, ?_, ?_, hf, .inl ⟨?_, x, rfl, k3, ?_⟩⟩, ?_, (m1.trans m3).mono (by simp)⟩
  ·rw [← ho]
  ·rw [← ho]; exact hrow.mod m3 (by simp)
  ·rw [← ho]
  ·exact m1.none hx (by simp)
  ·rw [← ho]; exact h1.mod m3 (by simp) (by simp)
theorem DiaryIs.mod {L : List Nat} {s s' : PH} {x b : Nat} {nm : ByteArray} (h : DiaryIs s x b nm) (m : Fw.Mod L s s') (hx : x ∉ L) : DiaryIs s' x b nm := m.at h hx
theorem DiaryIs.off {s : PH} {x b m : Nat} {nm : ByteArray} {d : DS} (h : DiaryIs s x b nm) (hd : DriveIs s b m d) : x ∉ [b, m] := by
 intro hx
 simp at hx
 rcases hx with rfl | rfl
 ·have := hd.blk; unfold DiaryIs at h; rw [h] at this; cases this
 ·obtain ⟨es, c, h1, _⟩ := hd.map; unfold DiaryIs at h; rw [h] at h1; cases h1
theorem c_dAppend {s : PH} {x b m : Nat} {d : DS} {nm : ByteArray} (hx : DiaryIs s x b nm) (h : DriveIs s b m d) {a : Option Addr} {n c : Nat} {l : List ByteArray} (hl : elems (Rd.enc strE) s a n l) (hll : l.length ≤ 1099511627776) (hz : (d.got nm).1.size + (recsB l).size ≤ 4611686018427387904) :
  DCalls Tryz.prog 63 #[dptr x, .slice a n c] s fun y s' => y = .int .i64 (d.puts nm l).1 ∧ DriveIs s' b m (d.puts nm l).2 ∧ Fw.Mod [b, m] s s' := by
 refine ok_dAppend x a n c _ s ?_
 unfold vc_dAppend
 have hn : n = l.length := hl.1
 obtain ⟨O, ho⟩ : ∃ O, d.puts nm l = O := ⟨_, rfl⟩
 rw [ho]
 unfold DS.puts at ho
 obtain ⟨R, hR⟩ : ∃ R : Value → PH → Prop, (fun y s' => y = .int .i64 O.1 ∧ DriveIs s' b m O.2 ∧ Fw.Mod [b, m] s s') = R := ⟨_, rfl⟩
 rw [hR]
 simp only [RP_ite, RP_ret, RP_guard, RP_call, RP_nw, RP_join, RP_unSome, RP_ld]
 refine W.call_of (c_records (x := x) (c := c) hl hll (by omega)) ?_
 rintro _ s ⟨rfl, rfl⟩
 refine ⟨(((allB l).1, ()), ((allB l).2, ()), ()), rfl, ?_⟩
 have hall : (allB l).2 = 0 → (allB l).1 = recsB l := by
  intro e; unfold allB at e ⊢
  split
  ·rename_i hb; rw [if_pos hb] at e; simp at e
  ·rfl
 obtain ⟨t, e, hte⟩ : ∃ t e, allB l = (t, e) := ⟨_, _, rfl⟩
 rw [hte] at ho hall ⊢
 dsimp only at ho hall
 refine W.join_gen (fun z s'' => z = ((t, ()), ()) ∧ s'' = s ∧ ¬ (e ≠ 0 ∨ l.length = 0)) ?_ ?_
 rotate_left
 ·intro J hJ
  have hfin : (e ≠ 0 ∨ l.length = 0) → R (.int .i64 e) s := by
   intro hc
   rw [if_pos hc] at ho
   rw [← hR, ← ho]
   exact ⟨rfl, h, Mod.refl _ _⟩
  refine (W.br_iff _ _ _ _).2 ⟨fun e1 => hfin (.inl (by simpa using e1)), fun e1 => (W.br_iff _ _ _ _).2 ⟨fun e2 => hfin (.inr ?_), fun e2 => hJ _ _ ⟨rfl, rfl, ?_⟩⟩⟩
  ·have e2 : (((n : Nat) : Int) == 0) = true := e2
   have : ((n : Nat) : Int) = 0 := eq_of_beq e2
   omega
  ·have e1 : (e != 0) = false := e1
   have e2 : (((n : Nat) : Int) == 0) = false := e2
   have h1 : e = 0 := by simpa using e1
   have h2 : ((n : Nat) : Int) ≠ 0 := by simpa using e2
   omega
 rintro _ s2 ⟨rfl, rfl, hc⟩
 rw [if_neg hc] at ho
 have he0 : e = 0 := by omega
 have ht := hall he0
 subst ht
 have hb := hx
 unfold DiaryIs at hb
 simp only [W.unSome_some, add_mk, Nat.zero_add]
 rw [W.ld_at hb]
 refine ⟨(some ⟨b, 0, none⟩, ()), rfl, ?_⟩
 simp only [W.unSome_some, add_mk, Nat.zero_add]
 rw [W.ld_at hb]
 refine ⟨(nm, ()), rfl, ?_⟩
 refine W.call_of (c_Append h nm (recsB l) (by omega)) ?_
 rintro _ s3 ⟨rfl, h3, m3⟩
 obtain ⟨f, d', hd'⟩ : ∃ f d', d.append nm (recsB l) = (f, d') := ⟨_, _, rfl⟩
 rw [hd'] at h3 ho ⊢
 dsimp only at h3 ho ⊢
 refine ⟨((f, ()), ()), rfl, ?_⟩
 refine (W.br_iff _ _ _ _).2 ⟨fun e1 => ?_, fun e1 => ?_⟩
 ·have e1 : (f != 0) = true := e1
  rw [if_pos (by simpa using e1)] at ho
  rw [← hR, ← ho]
  exact ⟨rfl, h3, m3⟩
 ·have e1 : (f != 0) = false := e1
  rw [if_neg (by simpa using e1)] at ho
  have hb3 := hx.mod m3 (hx.off h)
  unfold DiaryIs at hb3
  simp only [W.unSome_some, add_mk, Nat.zero_add]
  rw [W.ld_at hb3]
  refine ⟨(some ⟨b, 0, none⟩, ()), rfl, ?_⟩
  simp only [W.unSome_some, add_mk, Nat.zero_add]
  rw [W.ld_at hb3]
  refine ⟨(nm, ()), rfl, ?_⟩
  refine W.call_of (c_Sync h3 nm) ?_
  rintro _ s4 ⟨rfl, h4, m4⟩
  refine ⟨(((d'.sync nm).1, ()), ()), rfl, ?_⟩
  rw [← hR, ← ho]
  exact ⟨rfl, h4, m3.trans m4⟩
theorem c_dRewrite {s : PH} {x b m : Nat} {d : DS} {nm : ByteArray} (hx : DiaryIs s x b nm) (h : DriveIs s b m d) {a : Option Addr} {n c : Nat} {l : List ByteArray} (hl : elems (Rd.enc strE) s a n l) (hll : l.length ≤ 1099511627776) (hz : (recsB l).size ≤ 4611686018427387904) :
  DCalls Tryz.prog 64 #[dptr x, .slice a n c] s fun y s' => y = .int .i64 (d.rewrites nm l).1 ∧ DriveIs s' b m (d.rewrites nm l).2 ∧ Fw.Mod [b, m] s s' := by
 refine ok_dRewrite x a n c _ s ?_
 unfold vc_dRewrite
 obtain ⟨O, ho⟩ : ∃ O, d.rewrites nm l = O := ⟨_, rfl⟩
 rw [ho]
 unfold DS.rewrites at ho
 obtain ⟨R, hR⟩ : ∃ R : Value → PH → Prop, (fun y s' => y = .int .i64 O.1 ∧ DriveIs s' b m O.2 ∧ Fw.Mod [b, m] s s') = R := ⟨_, rfl⟩
 rw [hR]
 simp only [RP_ite, RP_ret, RP_guard, RP_call, RP_nw, RP_join, RP_unSome, RP_ld]
 refine W.call_of (c_records (x := x) (c := c) hl hll hz) ?_
 rintro _ s ⟨rfl, rfl⟩
 refine ⟨(((allB l).1, ()), ((allB l).2, ()), ()), rfl, ?_⟩
 obtain ⟨t, e, hte⟩ : ∃ t e, allB l = (t, e) := ⟨_, _, rfl⟩
 rw [hte] at ho ⊢
 dsimp only at ho
 refine (W.br_iff _ _ _ _).2 ⟨fun e1 => ?_, fun e1 => ?_⟩
 ·have e1 : (e != 0) = true := e1
  rw [if_pos (by simpa using e1)] at ho
  rw [← hR, ← ho]
  exact ⟨rfl, h, Mod.refl _ _⟩
 ·have e1 : (e != 0) = false := e1
  rw [if_neg (by simpa using e1)] at ho
  have hb := hx
  unfold DiaryIs at hb
  simp only [W.unSome_some, add_mk, Nat.zero_add]
  rw [W.ld_at hb]
  refine ⟨(some ⟨b, 0, none⟩, ()), rfl, ?_⟩
  simp only [W.unSome_some, add_mk, Nat.zero_add]
  rw [W.ld_at hb]
  refine ⟨(nm, ()), rfl, ?_⟩
  refine W.call_of (c_Swap h nm t) ?_
  rintro _ s3 ⟨rfl, h3, m3⟩
  refine ⟨(((d.swap nm t).1, ()), ()), rfl, ?_⟩
  rw [← hR, ← ho]
  exact ⟨rfl, h3, m3⟩
end
section
def LOG : ByteArray := ⟨#[108, 111, 103]⟩
def encDB (D : Dl) : ByteArray := ofL (encD D)
def encMB (M : Msg) : ByteArray := ofL (encM M)
def BS.texts (B : BS) : List ByteArray := (scanB B.snap).1 ++ ((B.log.take (B.commit - B.base).toNat).map (·.text)).filter fun t => t.size != 0
def snapOf (ts : List ByteArray) : ByteArray := ts.foldl (fun a t => a ++ (putE t).1) ⟨#[]⟩
structure Nd where
 b : Option BS
 d : DS
 put : List Dl
def Nd.keeps (N : Nd) (D : Dl) : Int × DS := if D.whole = true then N.d.rewrites LOG [encDB D] else N.d.puts LOG [encDB D]
def Nd.okd (N : Nd) (B : BS) : Bool := !B.touched || (N.keeps B.deltaOf).1 == 0
def Nd.saved (N : Nd) (B : BS) : Nd :=
 if B.touched = true then
  if (N.keeps B.deltaOf).1 = 0 then ⟨some B.cleaned, (N.keeps B.deltaOf).2, if B.deltaOf.whole = true then [B.deltaOf] else N.put ++ [B.deltaOf]⟩
  else ⟨none, (N.keeps B.deltaOf).2, if (N.keeps B.deltaOf).1 = 50 ∧ B.deltaOf.whole = false then N.put ++ [B.deltaOf] else N.put⟩
 else ⟨some B, N.d, N.put⟩
def Nd.start (N : Nd) (i size keep : Int) : Nd :=
 if ((N.d.crash [keep]).opens LOG).1.2 ≠ 0 then ⟨N.b, ((N.d.crash [keep]).opens LOG).2, N.put⟩
 else ⟨BS.loaded i size (N.put.take ((N.d.crash [keep]).opens LOG).1.1.length), ((N.d.crash [keep]).opens LOG).2, N.put.take ((N.d.crash [keep]).opens LOG).1.1.length⟩
structure Grp where
 nodes : List Nd
 bag : List Msg
 acts : Int
def Grp.done (G : Grp) (i : Nat) (N : Nd) (R : BS × List Msg) : Grp := { G with nodes := G.nodes.set i (N.saved R.1), bag := if N.okd R.1 = true then G.bag ++ R.2 else G.bag }
def Grp.op (G : Grp) (i : Nat) (f : BS → BS × List Msg) : Grp :=
 match G.nodes[i]? with
 | some N => (match N.b with
  | some B => G.done i N (f B)
  | none => G)
 | none => G
def plc (a n : Int) : Int := if n = 0 then -1 else (i64.wrap (a.tmod n + n)).tmod n
def BS.beat (B : BS) : BS × List Msg := (B, if B.role = 2 then B.feeds else [])
def BS.cutAll (B : BS) : BS × List Msg := (B.cut B.commit (snapOf B.texts), [])
def Grp.ndSet (G : Grp) (i : Nat) (f : Nd → Nd) : Grp :=
 match G.nodes[i]? with
 | some N => { G with nodes := G.nodes.set i (f N) }
 | none => G
def Grp.deliver (G : Grp) (m : Msg) : Grp := G.op m.to.toNat (·.take m)
def Grp.tick (G : Grp) : Grp := { G with acts := G.acts + 1 }
def Grp.does (G : Grp) (k a b : Int) (t : ByteArray) : Grp :=
 if k = 1 then (match G.bag[(plc a G.bag.length).toNat]? with | some m => ({ G with bag := G.bag.eraseIdx (plc a G.bag.length).toNat } : Grp).deliver m | none => G)
 else if k = 2 then (match G.bag[(plc a G.bag.length).toNat]? with | some m => G.deliver m | none => G)
 else if k = 3 then { G with bag := G.bag.eraseIdx (plc a G.bag.length).toNat }
 else if k = 4 then G.op (plc a G.nodes.length).toNat BS.timeout
 else if k = 5 then G.op (plc a G.nodes.length).toNat BS.beat
 else if k = 6 then (if 1 ≤ t.size ∧ t.size ≤ 256 then G.op (plc a G.nodes.length).toNat (fun B => (B.propose 0 G.acts t).2) else G)
 else if k = 7 then G.ndSet (plc a G.nodes.length).toNat (fun N => { N with b := none })
 else if k = 8 then G.ndSet (plc a G.nodes.length).toNat (fun N => if N.b.isSome = true then N else N.start (plc a G.nodes.length) G.nodes.length b)
 else if k = 9 then G.ndSet (plc a G.nodes.length).toNat (fun N => if N.b.isSome = true then { N with d := N.d.arm b } else N)
 else if k = 10 then G.op (plc a G.nodes.length).toNat BS.cutAll
 else G
def Grp.act (G : Grp) (k a b : Int) (t : ByteArray) : Grp := G.tick.does k a b t
def Nd.none : Nd := ⟨.none, ⟨[], false, 0⟩, []⟩
def Grp.new (n : Nat) : Grp := ⟨(List.range n).map fun (i : Nat) => Nd.none.start i n 0, [], 0⟩
def Grp.all : Nat → Grp → Bool × Grp
 | 0, G => (G.bag.isEmpty, G)
 | f + 1, G => if G.bag.isEmpty = true then (true, G) else Grp.all f (G.act 1 0 0 ⟨#[]⟩)
def Grp.txt (G : Grp) (i : Nat) : List ByteArray := match G.nodes[i]? with | some N => (match N.b with | some B => B.texts | .none => []) | .none => []
def awA : Grp := (Grp.new 3).act 4 0 0 ⟨#[]⟩
def awB : Bool × Grp := awA.all 100
def awC : Grp := awB.2.act 6 0 0 ⟨#[120]⟩
def awD : Bool × Grp := awC.all 100
def roleAt (G : Grp) (i : Nat) : Option Int := match G.nodes[i]? with | some N => N.b.map (·.role) | .none => .none
def awOk : Bool := awB.1 && roleAt awB.2 0 == some 2 && awD.1 && awD.2.txt 1 == [⟨#[120]⟩] && awD.2.txt 2 == [⟨#[120]⟩]
end
section
def cnt : Nat → (Nat → Bool) → Nat
 | 0, _ => 0
 | n + 1, p => cnt n p + (if p n = true then 1 else 0)
def Maj (n : Nat) (p : Nat → Bool) : Prop := n < 2 * cnt n p
theorem cnt_mono {p q : Nat → Bool} : ∀ {n : Nat}, (∀ i, i < n → p i = true → q i = true) → cnt n p ≤ cnt n q
 | 0, _ => Nat.le_refl _
 | n + 1, h => by
  have h1 := cnt_mono (n := n) fun i hi => h i (by omega)
  have h2 := h n (by omega)
  simp only [cnt]
  by_cases hp : p n = true
  ·rw [if_pos hp, if_pos (h2 hp)]; omega
  ·rw [if_neg hp]; omega
theorem Maj.mono {n : Nat} {p q : Nat → Bool} (h : Maj n p) (k : ∀ i, i < n → p i = true → q i = true) : Maj n q := by
 have := cnt_mono k
 unfold Maj at *; omega
theorem cnt_two {p q : Nat → Bool} : ∀ {n : Nat}, (∀ i, i < n → p i = true → q i = true → False) → cnt n p + cnt n q ≤ n
 | 0, _ => Nat.le_refl _
 | n + 1, h => by
  have h1 := cnt_two (n := n) fun i hi => h i (by omega)
  have h2 := h n (by omega)
  simp only [cnt]
  by_cases hp : p n = true
  ·by_cases hq : q n = true
   ·exact (h2 hp hq).elim
   ·rw [if_pos hp, if_neg hq]; omega
  ·by_cases hq : q n = true
   ·rw [if_neg hp, if_pos hq]; omega
   ·rw [if_neg hp, if_neg hq]; omega
theorem Maj.meet {n : Nat} {p q : Nat → Bool} (h : Maj n p) (k : Maj n q) : ∃ i, i < n ∧ p i = true ∧ q i = true := by
 apply Classical.byContradiction
 intro hn
 have := cnt_two (n := n) (p := p) (q := q) fun i hi h1 h2 => hn ⟨i, hi, h1, h2⟩
 unfold Maj at *; omega
def tm (F : List Ent) : Nat → Int
 | 0 => 0
 | k + 1 => match F[k]? with
  | some e => e.term
  | none => 0
structure Pre (k : Nat) (F G : List Ent) : Prop where
 l : k ≤ F.length
 r : k ≤ G.length
 e : F.take k = G.take k
theorem Pre.symm {k : Nat} {F G : List Ent} (h : Pre k F G) : Pre k G F := ⟨h.r, h.l, h.e.symm⟩
theorem Pre.trans {k : Nat} {F G H : List Ent} (h : Pre k F G) (g : Pre k G H) : Pre k F H := ⟨h.l, g.r, h.e.trans g.e⟩
theorem Pre.le {k j : Nat} {F G : List Ent} (h : Pre k F G) (hj : j ≤ k) : Pre j F G :=
 ⟨Nat.le_trans hj h.l, Nat.le_trans hj h.r, by
  have := congrArg (List.take j) h.e
  rwa [List.take_take, List.take_take, Nat.min_eq_left hj] at this⟩
theorem Pre.refl {k : Nat} {F : List Ent} (h : k ≤ F.length) : Pre k F F := ⟨h, h, rfl⟩
theorem Pre.get {k j : Nat} {F G : List Ent} (h : Pre k F G) (hj : j < k) : F[j]? = G[j]? := by
 have := congrArg (fun l => l[j]?) h.e
 simp only [List.getElem?_take_of_lt hj] at this
 exact this
theorem Pre.tm {k j : Nat} {F G : List Ent} (h : Pre k F G) (hj : j ≤ k) : tm F j = tm G j := by
 cases j with
 | zero => rfl
 | succ j => simp only [Go.Proofs.YtcdggocbjnmeaaaGreat.tm]; rw [h.get (by omega)]
theorem Pre.ext {k : Nat} {F L L' : List Ent} (h : Pre k F L) (g : L <+: L') : Pre k F L' := by
 obtain ⟨t, rfl⟩ := g
 refine ⟨h.l, by rw [List.length_append]; have := h.r; omega, ?_⟩
 rw [h.e, List.take_append_of_le_length h.r]
theorem pre_of {F L : List Ent} (g : F <+: L) {k : Nat} (hk : k ≤ F.length) : Pre k F L := (Pre.refl hk).ext g
theorem tm_ext {L L' : List Ent} (g : L <+: L') {k : Nat} (hk : k ≤ L.length) : tm L' k = tm L k := ((pre_of g hk).tm (Nat.le_refl _)).symm
theorem tm_get {F : List Ent} {k : Nat} (hk : 0 < k) (hl : k ≤ F.length) : ∃ e, F[k - 1]? = some e ∧ tm F k = e.term := by
 obtain ⟨e, he⟩ : ∃ e, F[k - 1]? = some e := ⟨_, List.getElem?_eq_getElem (by omega)⟩
 refine ⟨e, he, ?_⟩
 cases k with
 | zero => omega
 | succ k => simp only [tm, Nat.add_sub_cancel] at he ⊢; rw [he]
structure Gh where
 ct : Nat → Int
 vt : Int → Nat → Option Nat
 cd : Int → Nat → Option (List Ent)
 ldr : Int → Option Nat
 LL : Int → List Ent
 ak : Int → Nat → Nat
def Gh.cho (gh : Gh) (n : Nat) (T : Int) (k : Nat) : Prop := Maj n fun v => decide (k ≤ gh.ak T v ∨ gh.ct v ≤ T)
def EntOk (A : Nat) (e : Ent) : Prop := e.text.size ≤ 256 ∧ e.at_ = 0 ∧ 0 ≤ e.born ∧ e.born ≤ A
def LogOk (gh : Gh) (T : Int) (F : List Ent) : Prop := ∀ k e, F[k]? = some e → 1 ≤ e.term ∧ e.term ≤ T ∧ gh.ldr e.term ≠ none ∧ Pre (k + 1) F (gh.LL e.term)
structure Com (gh : Gh) (n : Nat) (T : Int) (k : Nat) : Prop where
 ld : gh.ldr T ≠ none
 pos : 0 < k
 le : k ≤ (gh.LL T).length
 tm : tm (gh.LL T) k = T
 maj : Maj n fun v => decide (k ≤ gh.ak T v)
theorem Com.cho {gh : Gh} {n : Nat} {T : Int} {k : Nat} (h : Com gh n T k) : gh.cho n T k := h.maj.mono fun i _ hp => by
 simp only [decide_eq_true_eq] at hp ⊢; exact .inl hp
def ComOk (gh : Gh) (n : Nat) (T : Int) (F : List Ent) (c : Nat) : Prop := c = 0 ∨ ∃ T0 k0, T0 ≤ T ∧ Com gh n T0 k0 ∧ c ≤ k0 ∧ Pre c F (gh.LL T0)
structure GhOk (gh : Gh) (n A : Nat) : Prop where
 won : ∀ T i, gh.ldr T = some i → i < n ∧ Maj n fun v => decide (gh.vt T v = some i)
 vct : ∀ T v c, gh.vt T v = some c → T ≤ gh.ct v
 ll : ∀ T, gh.ldr T ≠ none → LogOk gh T (gh.LL T) ∧ (gh.LL T).length ≤ A ∧ ∀ e ∈ gh.LL T, EntOk A e
 lc : ∀ T T' k, T < T' → gh.ldr T ≠ none → gh.ldr T' ≠ none → 0 < k → k ≤ (gh.LL T).length → tm (gh.LL T) k = T → gh.cho n T k → Pre k (gh.LL T) (gh.LL T')
 akb : ∀ T v, 0 < gh.ak T v → gh.ldr T ≠ none ∧ gh.ak T v ≤ (gh.LL T).length ∧ T ≤ gh.ct v
 vi : ∀ T' v c, gh.vt T' v = some c → gh.ldr T' = none → ∃ C, gh.cd T' c = some C ∧ ∀ T k, T < T' → 0 < k → k ≤ gh.ak T v → tm (gh.LL T) k = T → gh.cho n T k → Pre k (gh.LL T) C
 cdo : ∀ T c C, gh.cd T c = some C → LogOk gh (T - 1) C
 ctb : ∀ v, gh.ct v ≤ FAR + A
section
variable {gh : Gh} {n A : Nat}
theorem LogOk.sorted {T : Int} {F : List Ent} (h : LogOk gh T F) (hg : GhOk gh n A) {j k : Nat} (h0 : 0 < j) (hjk : j ≤ k) (hk : k ≤ F.length) : tm F j ≤ tm F k := by
 obtain ⟨e, he, et⟩ := tm_get (F := F) (k := k) (by omega) hk
 obtain ⟨a1, a2, a3, a4⟩ := h _ _ he
 rw [show k - 1 + 1 = k by omega] at a4
 rw [a4.tm hjk, et]
 obtain ⟨e', he', et'⟩ := tm_get (F := gh.LL e.term) (k := j) h0 (by have := a4.r; omega)
 rw [et']
 exact ((hg.ll _ a3).1 _ _ he').2.1
theorem LogOk.bound {T : Int} {F : List Ent} (h : LogOk gh T F) {k : Nat} (h0 : 0 < k) (hk : k ≤ F.length) : 1 ≤ tm F k ∧ tm F k ≤ T ∧ gh.ldr (tm F k) ≠ none ∧ Pre k F (gh.LL (tm F k)) := by
 obtain ⟨e, he, et⟩ := tm_get h0 hk
 have := h _ _ he
 rw [show k - 1 + 1 = k by omega] at this
 rw [et]; exact this
theorem LogOk.same {T T' : Int} {F G : List Ent} (h : LogOk gh T F) (g : LogOk gh T' G) {k : Nat} (hF : k ≤ F.length) (hG : k ≤ G.length) (ht : tm F k = tm G k) : Pre k F G := by
 by_cases h0 : k = 0
 ·subst h0; exact ⟨Nat.zero_le _, Nat.zero_le _, by simp⟩
 ·have a := (h.bound (by omega) hF).2.2.2
  have b := (g.bound (by omega) hG).2.2.2
  rw [ht] at a
  exact a.trans b.symm
theorem as_new (hg : GhOk gh n A) {Tv Tc T : Int} {F C : List Ent} (hF : LogOk gh Tv F) (hC : LogOk gh Tc C) {k : Nat} (h0 : 0 < k) (hp : Pre k (gh.LL T) F) (ht : tm (gh.LL T) k = T) (hl : gh.ldr T ≠ none) (hc : gh.cho n T k)
  (hn : tm F F.length < tm C C.length ∨ tm C C.length = tm F F.length ∧ F.length ≤ C.length) : Pre k (gh.LL T) C := by
 have e1 : tm F k = T := by rw [← hp.tm (Nat.le_refl _)]; exact ht
 have hFl : k ≤ F.length := hp.r
 have s1 : T ≤ tm F F.length := by rw [← e1]; exact hF.sorted hg h0 hFl (Nat.le_refl _)
 have hT1 : 1 ≤ T := by rw [← e1]; exact (hF.bound h0 hFl).1
 have hC0 : 0 < C.length := by
  rcases Nat.eq_zero_or_pos C.length with h | h
  ·rw [h, show tm C 0 = 0 from rfl] at hn; omega
  ·exact h
 obtain ⟨b1, b2, b3, b4⟩ := hC.bound hC0 (Nat.le_refl _)
 rcases hn with hn | ⟨hn, hlen⟩
 ·have hlc := hg.lc T (tm C C.length) k (by omega) hl b3 h0 hp.l ht hc
  by_cases hk : k ≤ C.length
  ·exact hlc.trans (b4.le hk).symm
  ·exfalso
   have hp2 : Pre C.length (gh.LL T) (gh.LL (tm C C.length)) := hlc.le (by omega)
   have h3 := ((hg.ll T hl).1.bound hC0 (by have := hp2.l; omega)).2.1
   rw [hp2.tm (Nat.le_refl _), ← b4.tm (Nat.le_refl _)] at h3
   omega
 ·have f4 := (hF.bound (by omega) (Nat.le_refl _)).2.2.2
  rw [← hn] at f4
  exact hp.trans ((f4.le hFl).trans (b4.le (by omega)).symm)
theorem Com.two (hg : GhOk gh n A) {T T' : Int} {k k' : Nat} (h : Com gh n T k) (h' : Com gh n T' k') (hle : k ≤ k') : Pre k (gh.LL T) (gh.LL T') := by
 rcases Int.lt_trichotomy T T' with q | q | q
 ·exact hg.lc T T' k q h.ld h'.ld h.pos h.le h.tm h.cho
 ·subst q; exact Pre.refl h.le
 ·exact ((hg.lc T' T k' q h'.ld h.ld h'.pos h'.le h'.tm h'.cho).le hle).symm
theorem Com.in_later (hg : GhOk gh n A) {T T' : Int} {k : Nat} (h : Com gh n T k) (hl : gh.ldr T' ≠ none) (hle : T ≤ T') : Pre k (gh.LL T) (gh.LL T') := by
 rcases Int.lt_or_eq_of_le hle with q | q
 ·exact hg.lc T T' k q h.ld hl h.pos h.le h.tm h.cho
 ·subst q; exact Pre.refl h.le
theorem ComOk.leader (hg : GhOk gh n A) {T : Int} {F : List Ent} {c : Nat} (h : ComOk gh n T F c) (hc : c ≤ F.length) (hl : gh.ldr T ≠ none) : Pre c F (gh.LL T) := by
 rcases h with rfl | ⟨T0, k0, h1, h2, h3, h4⟩
 ·exact ⟨Nat.zero_le _, Nat.zero_le _, by simp⟩
 ·exact h4.trans ((h2.in_later hg hl h1).le h3)
end
end
section
structure Stp (i : Nat) (g h : Gh) : Prop where
 ct : ∀ j, g.ct j ≤ h.ct j
 vt : ∀ T j c, g.vt T j = some c → h.vt T j = some c
 cd : ∀ T j C, g.cd T j = some C → h.cd T j = some C
 ld : ∀ T, h.ldr T = g.ldr T ∨ g.ldr T = none ∧ h.ldr T = some i
 ll : ∀ T, g.ldr T ≠ none → g.LL T <+: h.LL T
 ak : ∀ T j, g.ak T j ≤ h.ak T j
 akc : ∀ T j, h.ak T j = g.ak T j ∨ g.ct j ≤ T
 oth : ∀ j, j ≠ i → h.ct j = g.ct j ∧ ∀ T, h.vt T j = g.vt T j ∧ h.cd T j = g.cd T j ∧ h.ak T j = g.ak T j
 lls : ∀ T, h.LL T = g.LL T ∨ h.ldr T = some i
section
variable {i n A : Nat} {g h k' : Gh}
theorem Stp.refl (i : Nat) (g : Gh) : Stp i g g :=
 ⟨fun _ => Int.le_refl _, fun _ _ _ h => h, fun _ _ _ h => h, fun _ => .inl rfl, fun _ _ => List.prefix_refl _, fun _ _ => Nat.le_refl _, fun _ _ => .inl rfl, fun _ _ => ⟨rfl, fun _ => ⟨rfl, rfl, rfl⟩⟩, fun _ => .inl rfl⟩
theorem Stp.ldn (s : Stp i g h) {T : Int} (hl : g.ldr T ≠ none) : h.ldr T = g.ldr T := by
 rcases s.ld T with e | ⟨e, _⟩
 ·exact e
 ·exact absurd e hl
theorem Stp.ldk (s : Stp i g h) {T : Int} (hl : g.ldr T ≠ none) : h.ldr T ≠ none := by rw [s.ldn hl]; exact hl
theorem Stp.trans (s : Stp i g h) (t : Stp i h k') : Stp i g k' := by
 refine ⟨fun j => Int.le_trans (s.ct j) (t.ct j), fun T j c e => t.vt T j c (s.vt T j c e), fun T j c e => t.cd T j c (s.cd T j c e), fun T => ?_, fun T hl => (s.ll T hl).trans (t.ll T (s.ldk hl)), fun T j => Nat.le_trans (s.ak T j) (t.ak T j), fun T j => ?_, fun j hj => ?_, fun T => ?_⟩
 ·rcases t.ld T with e | ⟨e, e'⟩
  ·rw [e]; exact s.ld T
  ·rcases s.ld T with a | ⟨a, a'⟩
   ·exact .inr ⟨by rw [← a]; exact e, e'⟩
   ·rw [a'] at e; cases e
 ·rcases t.akc T j with e | e
  ·rw [e]; exact s.akc T j
  ·exact .inr (Int.le_trans (s.ct j) e)
 ·obtain ⟨a1, a2⟩ := s.oth j hj
  obtain ⟨b1, b2⟩ := t.oth j hj
  exact ⟨b1.trans a1, fun T => ⟨(b2 T).1.trans (a2 T).1, (b2 T).2.1.trans (a2 T).2.1, (b2 T).2.2.trans (a2 T).2.2⟩⟩
 ·rcases t.lls T with e | e
  ·rcases s.lls T with a | a
   ·exact .inl (e.trans a)
   ·exact .inr (by rw [t.ldn (by rw [a]; simp)]; exact a)
  ·exact .inr e
theorem Stp.cho (s : Stp i g h) {T : Int} {k : Nat} (hc : h.cho n T k) : g.cho n T k := hc.mono fun v _ hp => by
 simp only [decide_eq_true_eq] at hp ⊢
 rcases s.akc T v with e | e
 ·rw [e] at hp
  rcases hp with hp | hp
  ·exact .inl hp
  ·exact .inr (Int.le_trans (s.ct v) hp)
 ·exact .inr e
theorem Stp.tm (s : Stp i g h) {T : Int} (hl : g.ldr T ≠ none) {k : Nat} (hk : k ≤ (g.LL T).length) : tm (h.LL T) k = tm (g.LL T) k := tm_ext (s.ll T hl) hk
theorem LogOk.stp (s : Stp i g h) {T : Int} {F : List Ent} (hF : LogOk g T F) : LogOk h T F := fun k e he => by
 obtain ⟨a1, a2, a3, a4⟩ := hF k e he
 exact ⟨a1, a2, s.ldk a3, a4.ext (s.ll _ a3)⟩
theorem LogOk.mono {T T' : Int} {F : List Ent} (hF : LogOk g T F) (hT : T ≤ T') : LogOk g T' F := fun k e he => by
 obtain ⟨a1, a2, a3, a4⟩ := hF k e he
 exact ⟨a1, Int.le_trans a2 hT, a3, a4⟩
theorem Com.stp (s : Stp i g h) {T : Int} {k : Nat} (hc : Com g n T k) : Com h n T k :=
 ⟨s.ldk hc.ld, hc.pos, Nat.le_trans hc.le (s.ll T hc.ld).length_le, by rw [s.tm hc.ld hc.le]; exact hc.tm, hc.maj.mono fun v _ hp => by simp only [decide_eq_true_eq] at hp ⊢; exact Nat.le_trans hp (s.ak T v)⟩
theorem ComOk.stp (s : Stp i g h) {T : Int} {F : List Ent} {c : Nat} (hc : ComOk g n T F c) : ComOk h n T F c := by
 rcases hc with e | ⟨T0, k0, h1, h2, h3, h4⟩
 ·exact .inl e
 ·exact .inr ⟨T0, k0, h1, h2.stp s, h3, h4.ext (s.ll _ h2.ld)⟩
theorem ComOk.mono {T T' : Int} {F F' : List Ent} {c c' : Nat} (hc : ComOk g n T F c) (hT : T ≤ T') (hle : c' ≤ c) (hp : Pre c' F' F) : ComOk g n T' F' c' := by
 rcases hc with e | ⟨T0, k0, h1, h2, h3, h4⟩
 ·exact .inl (by omega)
 ·exact .inr ⟨T0, k0, Int.le_trans h1 hT, h2, Nat.le_trans hle h3, hp.trans (h4.le hle)⟩
theorem ComOk.later {T T' : Int} {F : List Ent} {c : Nat} (hc : ComOk g n T F c) (hT : T ≤ T') : ComOk g n T' F c := by
 rcases hc with e | ⟨T0, k0, h1, h2, h3, h4⟩
 ·exact .inl e
 ·exact .inr ⟨T0, k0, Int.le_trans h1 hT, h2, h3, h4⟩
theorem GhOk.mono {A' : Nat} (hg : GhOk g n A) (hA : A ≤ A') : GhOk g n A' :=
 ⟨hg.won, hg.vct, fun T hl => ⟨(hg.ll T hl).1, by have := (hg.ll T hl).2.1; omega, fun e he => by
  obtain ⟨e1, e2, e3, e4⟩ := (hg.ll T hl).2.2 e he
  exact ⟨e1, e2, e3, by omega⟩⟩, hg.lc, hg.akb, hg.vi, hg.cdo, fun v => by have := hg.ctb v; omega⟩
def Gh.turn (g : Gh) (i : Nat) (T : Int) : Gh := { g with ct := fun v => if v = i then T else g.ct v }
theorem turn_stp {T : Int} (hT : g.ct i ≤ T) : Stp i g (g.turn i T) := by
 refine { Stp.refl i g with ct := fun j => ?_, oth := fun j hj => ⟨?_, fun _ => ⟨rfl, rfl, rfl⟩⟩ }
 ·show g.ct j ≤ if j = i then T else g.ct j
  split
  ·rename_i e; rw [e]; exact hT
  ·exact Int.le_refl _
 ·show (if j = i then T else g.ct j) = g.ct j
  rw [if_neg hj]
theorem turn_ok (hg : GhOk g n A) {T : Int} (hT : g.ct i ≤ T) (hT2 : T ≤ FAR + A) : GhOk (g.turn i T) n A := by
 have s := turn_stp (i := i) hT
 exact ⟨hg.won, fun T' v c e => Int.le_trans (hg.vct T' v c e) (s.ct v), fun T' hl => ⟨((hg.ll T' hl).1).stp s, (hg.ll T' hl).2⟩, fun T1 T2 k h1 h2 h3 h4 h5 h6 h7 => hg.lc T1 T2 k h1 h2 h3 h4 h5 h6 (s.cho h7),
  fun T' v h0 => ⟨(hg.akb T' v h0).1, (hg.akb T' v h0).2.1, Int.le_trans (hg.akb T' v h0).2.2 (s.ct v)⟩,
  fun T' v c e hl => by obtain ⟨C, c1, c2⟩ := hg.vi T' v c e hl; exact ⟨C, c1, fun T0 k a1 a2 a3 a4 a5 => c2 T0 k a1 a2 a3 a4 (s.cho a5)⟩, fun T' c C e => (hg.cdo T' c C e).stp s, fun v => by
   show (if v = i then T else g.ct v) ≤ _
   split
   ·exact hT2
   ·exact hg.ctb v⟩
def Gh.cand (g : Gh) (i : Nat) (T : Int) (F : List Ent) : Gh := { g with cd := fun T' v => if T' = T ∧ v = i then some F else g.cd T' v }
theorem cand_stp {T : Int} {F : List Ent} (hn : g.cd T i = none) : Stp i g (g.cand i T F) := by
 refine { Stp.refl i g with cd := fun T' j C e => ?_, oth := fun j hj => ⟨rfl, fun T' => ⟨rfl, ?_, rfl⟩⟩ }
 ·show (if T' = T ∧ j = i then some F else g.cd T' j) = some C
  rw [if_neg, e]
  rintro ⟨rfl, rfl⟩; rw [hn] at e; cases e
 ·show (if T' = T ∧ j = i then some F else g.cd T' j) = g.cd T' j
  rw [if_neg]; rintro ⟨_, e⟩; exact hj e
theorem cand_ok (hg : GhOk g n A) {T : Int} {F : List Ent} (hn : g.cd T i = none) (hF : LogOk g (T - 1) F) : GhOk (g.cand i T F) n A := by
 have s := cand_stp (F := F) hn
 refine ⟨hg.won, hg.vct, hg.ll, hg.lc, hg.akb, fun T' v c e hl => ?_, fun T' c C e => ?_, hg.ctb⟩
 ·obtain ⟨C, c1, c2⟩ := hg.vi T' v c e hl
  exact ⟨C, s.cd T' c C c1, c2⟩
 ·have e : (if T' = T ∧ c = i then some F else g.cd T' c) = some C := e
  by_cases hc : T' = T ∧ c = i
  ·rw [if_pos hc] at e
   cases e; obtain ⟨rfl, rfl⟩ := hc
   exact hF.stp s
  ·rw [if_neg hc] at e; exact (hg.cdo T' c C e).stp s
def Gh.grant (g : Gh) (i : Nat) (T : Int) (c : Nat) : Gh := { g with vt := fun T' v => if T' = T ∧ v = i then some c else g.vt T' v }
theorem grant_stp {T : Int} {c : Nat} (hn : g.vt T i = none ∨ g.vt T i = some c) : Stp i g (g.grant i T c) := by
 refine { Stp.refl i g with vt := fun T' j C e => ?_, oth := fun j hj => ⟨rfl, fun T' => ⟨?_, rfl, rfl⟩⟩ }
 ·show (if T' = T ∧ j = i then some c else g.vt T' j) = some C
  by_cases h : T' = T ∧ j = i
  ·rw [if_pos h]; obtain ⟨rfl, rfl⟩ := h
   rcases hn with hn | hn <;> rw [hn] at e <;> cases e
   first | done | rfl
  ·rw [if_neg h]; exact e
 ·show (if T' = T ∧ j = i then some c else g.vt T' j) = g.vt T' j
  rw [if_neg]; rintro ⟨_, e⟩; exact hj e
theorem grant_ok (hg : GhOk g n A) {T : Int} {c : Nat} (hn : g.vt T i = none ∨ g.vt T i = some c) (hc : T ≤ g.ct i) {C : List Ent} (hC : g.cd T c = some C)
  (hp : ∀ T0 k, T0 < T → 0 < k → k ≤ g.ak T0 i → tm (g.LL T0) k = T0 → g.cho n T0 k → Pre k (g.LL T0) C) : GhOk (g.grant i T c) n A := by
 have s := grant_stp hn
 refine ⟨fun T' l hl => ⟨(hg.won T' l hl).1, (hg.won T' l hl).2.mono fun v _ hv => ?_⟩, fun T' v x e => ?_, hg.ll, hg.lc, hg.akb, fun T' v x e hl => ?_, hg.cdo, hg.ctb⟩
 ·simp only [decide_eq_true_eq] at hv ⊢
  exact s.vt _ _ _ hv
 ·have e : (if T' = T ∧ v = i then some c else g.vt T' v) = some x := e
  by_cases h : T' = T ∧ v = i
  ·obtain ⟨rfl, rfl⟩ := h; exact hc
  ·rw [if_neg h] at e; exact hg.vct T' v x e
 ·have e : (if T' = T ∧ v = i then some c else g.vt T' v) = some x := e
  by_cases h : T' = T ∧ v = i
  ·rw [if_pos h] at e; cases e; obtain ⟨rfl, rfl⟩ := h
   exact ⟨C, hC, hp⟩
  ·rw [if_neg h] at e; exact hg.vi T' v x e hl
def Gh.ack (g : Gh) (i : Nat) (T : Int) (k : Nat) : Gh := { g with ak := fun T' v => if T' = T ∧ v = i then max (g.ak T v) k else g.ak T' v }
theorem ack_at {T : Int} {k : Nat} : (g.ack i T k).ak T i = max (g.ak T i) k := if_pos ⟨rfl, rfl⟩
theorem ack_stp {T : Int} {k : Nat} (hc : g.ct i ≤ T) : Stp i g (g.ack i T k) := by
 refine { Stp.refl i g with ak := fun T' j => ?_, akc := fun T' j => ?_, oth := fun j hj => ⟨rfl, fun T' => ⟨rfl, rfl, ?_⟩⟩ }
 ·show _ ≤ if T' = T ∧ j = i then max (g.ak T j) k else g.ak T' j
  split
  ·rename_i h; rw [h.1]; exact Nat.le_max_left _ _
  ·exact Nat.le_refl _
 ·by_cases h : T' = T ∧ j = i
  ·obtain ⟨rfl, rfl⟩ := h; exact .inr hc
  ·exact .inl (if_neg h)
 ·exact if_neg fun h => hj h.2
theorem ack_ok (hg : GhOk g n A) {T : Int} {k : Nat} (hc : g.ct i = T) (hl : g.ldr T ≠ none) (hk : k ≤ (g.LL T).length) : GhOk (g.ack i T k) n A := by
 have s := ack_stp (k := k) (Int.le_of_eq hc)
 refine ⟨hg.won, hg.vct, hg.ll, fun T1 T2 k h1 h2 h3 h4 h5 h6 h7 => hg.lc T1 T2 k h1 h2 h3 h4 h5 h6 (s.cho h7), fun T' v h0 => ?_, fun T' v c e hn => ?_, hg.cdo, hg.ctb⟩
 ·by_cases h : T' = T ∧ v = i
  ·obtain ⟨rfl, rfl⟩ := h
   refine ⟨hl, ?_, Int.le_of_eq hc.symm⟩
   rw [ack_at]
   have : g.ak T' v ≤ (g.LL T').length := by
    rcases Nat.eq_zero_or_pos (g.ak T' v) with z | z
    ·omega
    ·exact (hg.akb T' v z).2.1
   show max _ _ ≤ (g.LL T').length
   omega
  ·have e : (g.ack i T k).ak T' v = g.ak T' v := if_neg h
   rw [e] at h0 ⊢; exact hg.akb T' v h0
 ·obtain ⟨C, c1, c2⟩ := hg.vi T' v c e hn
  refine ⟨C, c1, fun T0 j a1 a2 a3 a4 a5 => ?_⟩
  by_cases h : T0 = T ∧ v = i
  ·obtain ⟨rfl, rfl⟩ := h
   have := hg.vct T' v c e
   omega
  ·have e : (g.ack i T k).ak T0 v = g.ak T0 v := if_neg h
   rw [e] at a3
   exact c2 T0 j a1 a2 a3 a4 (s.cho a5)
def Gh.grow (g : Gh) (i : Nat) (T : Int) (L : List Ent) : Gh :=
 { g with ldr := fun T' => if T' = T then some i else g.ldr T', LL := fun T' => if T' = T then L else g.LL T', ak := fun T' v => if T' = T ∧ v = i then L.length else g.ak T' v }
theorem grow_ll {T : Int} {L : List Ent} : (g.grow i T L).LL T = L := if_pos rfl
theorem grow_ld {T : Int} {L : List Ent} : (g.grow i T L).ldr T = some i := if_pos rfl
theorem grow_ak {T : Int} {L : List Ent} : (g.grow i T L).ak T i = L.length := if_pos ⟨rfl, rfl⟩
theorem ak_le (hg : GhOk g n A) {T : Int} {v : Nat} {L : List Ent} (hld : g.ldr T = none ∨ g.ldr T = some i ∧ g.LL T = L) : g.ak T v ≤ L.length := by
 rcases Nat.eq_zero_or_pos (g.ak T v) with z | z
 ·omega
 ·obtain ⟨a, b, _⟩ := hg.akb T v z
  rcases hld with h | ⟨_, h⟩
  ·exact absurd h a
  ·rw [← h]; exact b
theorem grow_stp (hg : GhOk g n A) {T : Int} {L : List Ent} {e : Ent} (hc : g.ct i = T) (hld : g.ldr T = none ∨ g.ldr T = some i ∧ g.LL T = L) : Stp i g (g.grow i T (L ++ [e])) := by
 refine ⟨fun _ => Int.le_refl _, fun _ _ _ h => h, fun _ _ _ h => h, fun T' => ?_, fun T' hl => ?_, fun T' j => ?_, fun T' j => ?_, fun j hj => ⟨rfl, fun T' => ⟨rfl, rfl, if_neg fun h => hj h.2⟩⟩, fun T' => ?_⟩
 ·by_cases h : T' = T
  ·subst h
   rcases hld with h | ⟨h, _⟩
   ·exact .inr ⟨h, if_pos rfl⟩
   ·exact .inl (by rw [h]; exact if_pos rfl)
  ·exact .inl (if_neg h)
 ·by_cases h : T' = T
  ·subst h
   rcases hld with h | ⟨_, h⟩
   ·exact absurd h hl
   ·rw [grow_ll, h]; exact List.prefix_append _ _
  ·rw [show (g.grow i T (L ++ [e])).LL T' = g.LL T' from if_neg h]; exact List.prefix_refl _
 ·by_cases h : T' = T ∧ j = i
  ·obtain ⟨rfl, rfl⟩ := h
   have := ak_le (v := j) hg hld
   rw [grow_ak, List.length_append]; omega
  ·rw [show (g.grow i T (L ++ [e])).ak T' j = g.ak T' j from if_neg h]; exact Nat.le_refl _
 ·by_cases h : T' = T ∧ j = i
  ·obtain ⟨rfl, rfl⟩ := h; exact .inr (Int.le_of_eq hc)
  ·exact .inl (if_neg h)
 ·by_cases h : T' = T
  ·subst h; exact .inr (if_pos rfl)
  ·exact .inl (if_neg h)
theorem tm_app {L : List Ent} {e : Ent} {k : Nat} (hk : k ≤ L.length) : tm (L ++ [e]) k = tm L k := tm_ext (List.prefix_append _ _) hk
theorem grow_ok (hg : GhOk g n A) {T : Int} {L : List Ent} {e : Ent} (hc : g.ct i = T) (hld : g.ldr T = none ∨ g.ldr T = some i ∧ g.LL T = L) (hw : i < n ∧ Maj n fun v => decide (g.vt T v = some i)) (hT : 1 ≤ T) (he : e.term = T) (hL : LogOk g T L)
  (hpre : ∀ T0 k, T0 < T → g.ldr T0 ≠ none → 0 < k → k ≤ (g.LL T0).length → tm (g.LL T0) k = T0 → g.cho n T0 k → Pre k (g.LL T0) L) (hold : g.ldr T = none → ∀ k, 0 < k → k ≤ L.length → tm L k ≠ T)
  (hA : L.length + 1 ≤ A) (hE : ∀ x ∈ L, EntOk A x) (hE2 : EntOk A e) : GhOk (g.grow i T (L ++ [e])) n A := by
 have s := grow_stp (e := e) hg hc hld
 have hll : ∀ T', T' ≠ T → (g.grow i T (L ++ [e])).LL T' = g.LL T' := fun T' h => if_neg h
 have hlr : ∀ T', T' ≠ T → (g.grow i T (L ++ [e])).ldr T' = g.ldr T' := fun T' h => if_neg h
 have hak : ∀ T' v, ¬ (T' = T ∧ v = i) → (g.grow i T (L ++ [e])).ak T' v = g.ak T' v := fun T' v h => if_neg h
 have hLL : (L ++ [e]).length = L.length + 1 := by simp
 refine ⟨fun T' l hl => ?_, hg.vct, fun T' hl => ?_, fun T1 T2 k h1 h2 h3 h4 h5 h6 h7 => ?_, fun T' v h0 => ?_, fun T' v c ev hn => ?_, fun T' c C ec => (hg.cdo T' c C ec).stp s, hg.ctb⟩
 ·by_cases h : T' = T
  ·subst h
   rw [grow_ld] at hl; cases hl
   exact hw
  ·rw [hlr T' h] at hl; exact hg.won T' l hl
 ·by_cases h : T' = T
  ·subst h
   rw [grow_ll]
   refine ⟨fun k x hx => ?_, by rw [hLL]; exact hA, fun x hx => ?_⟩
   ·by_cases hk : k < L.length
    ·rw [List.getElem?_append_left hk] at hx
     obtain ⟨a1, a2, a3, a4⟩ := hL.stp s k x hx
     refine ⟨a1, a2, a3, Pre.symm ((a4.symm).ext (List.prefix_append _ _))⟩
    ·have hk2 : k < (L ++ [e]).length := (List.getElem?_eq_some_iff.1 hx).1
     have hk3 : k = L.length := by omega
     subst hk3
     rw [List.getElem?_append_right (Nat.le_refl _), Nat.sub_self] at hx
     have hx : some e = some x := hx
     cases hx
     rw [he]
     exact ⟨hT, Int.le_refl _, by rw [grow_ld]; simp, by rw [grow_ll]; exact Pre.refl (by omega)⟩
   ·rcases List.mem_append.1 hx with hx | hx
    ·exact hE x hx
    ·rw [List.mem_singleton] at hx; subst hx; exact hE2
  ·rw [hlr T' h] at hl
   rw [hll T' h]
   exact ⟨((hg.ll T' hl).1).stp s, (hg.ll T' hl).2⟩
 ·have hcho := s.cho h7
  by_cases e2 : T2 = T
  ·have e1 : T1 ≠ T := by omega
   rw [hll T1 e1] at h5 h6 ⊢
   rw [hlr T1 e1] at h2
   rw [e2, grow_ll]
   rw [e2] at h1
   exact (hpre T1 k h1 h2 h4 h5 h6 hcho).ext (List.prefix_append _ _)
  ·rw [hlr T2 e2] at h3
   rw [hll T2 e2]
   by_cases e1 : T1 = T
   ·subst e1
    rw [grow_ll] at h5 h6 ⊢
    by_cases hk : k ≤ L.length
    ·rw [tm_app hk] at h6
     rcases hld with h | ⟨h, h'⟩
     ·exact absurd h6 (hold h k h4 hk)
     ·subst h'
      exact Pre.symm ((Pre.symm (hg.lc T1 T2 k h1 (by rw [h]; simp) h3 h4 hk h6 hcho)).ext (List.prefix_append _ _))
    ·exfalso
     obtain ⟨l, hl⟩ := Option.ne_none_iff_exists'.1 h3
     obtain ⟨v, v1, v2, v3⟩ := Maj.meet h7 (hg.won T2 l hl).2
     simp only [decide_eq_true_eq] at v2 v3
     have hv := hg.vct T2 v l v3
     have : g.ct v ≤ T1 := by
      rcases v2 with v2 | v2
      ·by_cases hvi : v = i
       ·subst hvi; omega
       ·rw [hak T1 v (fun h => hvi h.2)] at v2
        have := ak_le (v := v) hg hld
        omega
      ·exact v2
     omega
   ·rw [hll T1 e1] at h5 h6 ⊢
    rw [hlr T1 e1] at h2
    exact hg.lc T1 T2 k h1 h2 h3 h4 h5 h6 hcho
 ·by_cases h : T' = T
  ·subst h
   rw [grow_ll, grow_ld]
   refine ⟨by simp, ?_, ?_⟩
   ·by_cases hv : v = i
    ·subst hv; rw [grow_ak]; exact Nat.le_refl _
    ·rw [hak T' v (fun h => hv h.2)]
     have := ak_le (v := v) hg hld
     omega
   ·by_cases hv : v = i
    ·subst hv; exact Int.le_of_eq hc.symm
    ·rw [hak T' v (fun h => hv h.2)] at h0
     exact (hg.akb T' v h0).2.2
  ·rw [hak T' v (fun h' => h h'.1)] at h0 ⊢
   rw [hll T' h, hlr T' h]
   exact hg.akb T' v h0
 ·have hT' : T' ≠ T := by rintro rfl; rw [grow_ld] at hn; cases hn
  rw [hlr T' hT'] at hn
  obtain ⟨C, c1, c2⟩ := hg.vi T' v c ev hn
  refine ⟨C, c1, fun T0 j a1 a2 a3 a4 a5 => ?_⟩
  by_cases h : T0 = T ∧ v = i
  ·obtain ⟨rfl, rfl⟩ := h
   have := hg.vct T' v c ev
   omega
  ·rw [hak T0 v h] at a3
   have b := hg.akb T0 v (by omega)
   rw [s.tm b.1 (by omega)] at a4
   exact (c2 T0 j a1 a2 a3 a4 (s.cho a5)).symm.ext (s.ll T0 b.1) |>.symm
end
end
end Go.Proofs.YtcdggocbjnmeaaaGreat
