/-
  Diaries, plainly: what is kept over losses of power.
  Conditions: none; it proves no statement by itself.
-/
import Derived.Test.YtcdggocbjnmeaaaDP1
set_option linter.unusedVariables false
set_option linter.unusedSimpArgs false
set_option maxHeartbeats 1000000
namespace Go.Proofs.Ytcdggocbjnmeaaa
open Fw Go

/-- what a diary's file holds: what was put up to 'sure', and then nothing, or the rest of it -/
structure Kept (d : DS) (nm : ByteArray) (put : List ByteArray) (sure : Nat) : Prop where
  le : sure ≤ put.length
  small : bigB put = false
  data : ∃ m, sure ≤ m ∧ m ≤ put.length ∧ (d.got nm).1 = recsB (put.take m)
  safe : ((recsB (put.take sure)).size : Int) ≤ (d.got nm).2 ∧ (d.got nm).2 ≤ (d.got nm).1.size
  up : d.down = false → put.length = sure
theorem recsB_app (a b : List ByteArray) : recsB (a ++ b) = recsB a ++ recsB b := by
  apply toL_inj
  unfold recsB
  rw [toL_append, toL_ofL, toL_ofL, toL_ofL, List.map_append]
  simp [Strip.recs]
theorem bigB_app {a b : List ByteArray} : bigB (a ++ b) = (bigB a || bigB b) := by unfold bigB; rw [List.any_append]
theorem bigB_take {a : List ByteArray} (h : bigB a = false) (k : Nat) : bigB (a.take k) = false := by
  unfold bigB at h ⊢
  simp only [List.any_eq_false] at h ⊢
  exact fun x hx => h x (List.mem_of_mem_take hx)
theorem got_aset (d : DS) (nm : ByteArray) (v : ByteArray × Int) : (DS.mk (aset d.files nm v) d.down d.armed).got nm = v := by
  unfold DS.got
  dsimp only
  rw [lookup_aset]; simp
theorem begin_cases (d : DS) (ha : 0 ≤ d.armed) (hm : d.armed ≤ 9223372036854775807) : (d.down = true ∧ d.begin = ((false, 50), d)) ∨ (d.down = false ∧ ((∃ a, 0 ≤ a ∧ a ≤ 9223372036854775807 ∧ d.begin = ((false, 0), ⟨d.files, false, a⟩)) ∨ d.begin = ((true, 50), ⟨d.files, true, 0⟩))) := by
  unfold DS.begin
  cases hd : d.down with
  | true => left; exact ⟨rfl, by simp⟩
  | false =>
    right
    refine ⟨rfl, ?_⟩
    by_cases h1 : d.armed > 0
    · have hw : IntKind.i64.wrap (d.armed - 1) = d.armed - 1 := wrap_in (by omega) (by omega)
      by_cases h2 : d.armed = 1
      · right
        have h0 : IntKind.i64.wrap 0 = 0 := wrap_in (by omega) (by omega)
        simp [h2, hw, h0]
      · left
        have h3 : (d.armed - 1 == 0) = false := by simp; omega
        refine ⟨d.armed - 1, by omega, by omega, ?_⟩
        simp only [h1, if_true, hw, h3, Bool.false_eq_true, if_false]
    · left
      refine ⟨d.armed, ha, hm, ?_⟩
      simp only [h1, if_false, Bool.false_eq_true]
      cases d; simp_all
section
variable {d : DS} {nm : ByteArray} {put : List ByteArray} {sure : Nat}
theorem Kept.file (h : Kept d nm put sure) (hs : put.length = sure) : (d.got nm).1 = recsB put ∧ ((recsB put).size : Int) ≤ (d.got nm).2 := by
  obtain ⟨m, h1, h2, h3⟩ := h.data
  have e : put.take m = put := List.take_of_length_le (by omega)
  have e2 : put.take sure = put := List.take_of_length_le (by omega)
  have := h.safe.1
  rw [e2] at this
  rw [e] at h3
  exact ⟨h3, this⟩
/-- what was not answered OK may be there or not -/
theorem Kept.more (h : Kept d nm put sure) (hd : d.down = true) {l : List ByteArray} (hl : bigB l = false) (hs : put.length = sure) : Kept d nm (put ++ l) sure := by
  obtain ⟨h1, h2⟩ := h.file hs
  have e : (put ++ l).take sure = put := by rw [← hs, List.take_left]
  refine ⟨by rw [List.length_append]; omega, by rw [bigB_app, h.small, hl]; rfl, ⟨sure, Nat.le_refl _, by rw [List.length_append]; omega, by rw [e]; exact h1⟩, ⟨by rw [e]; exact h2, h.safe.2⟩, fun e => by rw [hd] at e; cases e⟩
theorem got_down (files : List (ByteArray × (ByteArray × Int))) (a b : Bool) (m n : Int) (nm : ByteArray) : (DS.mk files a m).got nm = (DS.mk files b n).got nm := rfl
/-- an append -/
theorem Kept.puts (h : Kept d nm put sure) (ha : 0 ≤ d.armed ∧ d.armed ≤ 9223372036854775807) (l : List ByteArray) (hl : bigB l = false) (hne : l.length ≠ 0) :
    ((d.puts nm l).1 = 0 ∧ (d.puts nm l).2.down = false ∧ Kept (d.puts nm l).2 nm (put ++ l) (put ++ l).length ∧ 0 ≤ (d.puts nm l).2.armed ∧ (d.puts nm l).2.armed ≤ 9223372036854775807) ∨
    ((d.puts nm l).1 = 50 ∧ (d.puts nm l).2.down = true ∧ 0 ≤ (d.puts nm l).2.armed ∧ (d.puts nm l).2.armed ≤ 9223372036854775807 ∧
      (put.length = sure → Kept (d.puts nm l).2 nm (put ++ l) sure) ∧ (put.length ≠ sure → Kept (d.puts nm l).2 nm put sure)) := by
  have hall : allB l = (recsB l, 0) := by unfold allB; rw [if_neg (by rw [hl]; simp)]
  unfold DS.puts
  rw [hall, if_neg (by simp; exact fun e => hne (by simp [e]))]
  dsimp only
  rcases begin_cases d ha.1 ha.2 with ⟨hd, hb⟩ | ⟨hd, ⟨a, a0, a1, hb⟩ | hb⟩
  · have e : d.append nm (recsB l) = (50, d) := by unfold DS.append; rw [hb]; rfl
    rw [e, if_pos (by simp)]
    exact .inr ⟨rfl, hd, ha.1, ha.2, fun hs => h.more hd hl hs, fun _ => h⟩
  · have hs := h.up hd
    obtain ⟨f1, f2⟩ := h.file hs
    have e : d.append nm (recsB l) = (0, ⟨aset d.files nm (recsB put ++ recsB l, (d.got nm).2), false, a⟩) := by
      unfold DS.append; rw [hb]
      simp only [beq_self_eq_true, Bool.true_or, if_true]
      have : (DS.mk d.files false a).got nm = d.got nm := rfl
      rw [this, f1]
    rw [e, if_neg (by simp)]
    dsimp only
    have hg := got_aset ⟨d.files, false, a⟩ nm (recsB put ++ recsB l, (d.got nm).2)
    dsimp only at hg
    have hr : recsB (put ++ l) = recsB put ++ recsB l := recsB_app _ _
    have hbig : bigB (put ++ l) = false := by rw [bigB_app, h.small, hl]; rfl
    rcases begin_cases ⟨aset d.files nm (recsB put ++ recsB l, (d.got nm).2), false, a⟩ a0 a1 with ⟨hd2, _⟩ | ⟨_, ⟨a2, b0, b1, hb2⟩ | hb2⟩
    · cases hd2
    · left
      have e2 : (DS.mk (aset d.files nm (recsB put ++ recsB l, (d.got nm).2)) false a).sync nm = (0, ⟨aset (aset d.files nm (recsB put ++ recsB l, (d.got nm).2)) nm (recsB put ++ recsB l, ((recsB put ++ recsB l).size : Int)), false, a2⟩) := by
        unfold DS.sync; rw [hb2]
        simp only [beq_self_eq_true, if_true]
        rw [lookup_aset]; simp
      rw [e2]
      refine ⟨rfl, rfl, ⟨Nat.le_refl _, hbig, ⟨(put ++ l).length, Nat.le_refl _, Nat.le_refl _, ?_⟩, ⟨?_, ?_⟩, fun _ => rfl⟩, b0, b1⟩
      · rw [List.take_length, hr, got_aset ⟨aset d.files nm (recsB put ++ recsB l, (d.got nm).2), false, a2⟩]
      · rw [List.take_length, hr, got_aset ⟨aset d.files nm (recsB put ++ recsB l, (d.got nm).2), false, a2⟩]; exact Int.le_refl _
      · rw [got_aset ⟨aset d.files nm (recsB put ++ recsB l, (d.got nm).2), false, a2⟩]; exact Int.le_refl _
    · right
      have e2 : (DS.mk (aset d.files nm (recsB put ++ recsB l, (d.got nm).2)) false a).sync nm = (50, ⟨aset d.files nm (recsB put ++ recsB l, (d.got nm).2), true, 0⟩) := by
        unfold DS.sync; rw [hb2]; rfl
      rw [e2]
      refine ⟨rfl, rfl, by simp, by simp, fun _ => ?_, fun e => absurd hs e⟩
      have hg2 : (DS.mk (aset d.files nm (recsB put ++ recsB l, (d.got nm).2)) true 0).got nm = (recsB put ++ recsB l, (d.got nm).2) := hg
      have et : (put ++ l).take sure = put := by rw [← hs, List.take_left]
      refine ⟨by rw [List.length_append]; omega, hbig, ⟨(put ++ l).length, by rw [List.length_append]; omega, Nat.le_refl _, ?_⟩, ⟨?_, ?_⟩, fun e => by cases e⟩
      · rw [hg2, List.take_length, hr]
      · rw [hg2, et]; exact f2
      · rw [hg2]
        have := h.safe.2
        rw [f1] at this
        dsimp only
        rw [ByteArray.size_append]; omega
  · right
    have hs := h.up hd
    obtain ⟨f1, f2⟩ := h.file hs
    have e : d.append nm (recsB l) = (50, ⟨aset d.files nm (recsB put ++ recsB l, (d.got nm).2), true, 0⟩) := by
      unfold DS.append; rw [hb]
      simp only [Bool.or_true, if_true]
      have : (DS.mk d.files true 0).got nm = d.got nm := rfl
      rw [this, f1]
    rw [e, if_pos (by simp)]
    have hg2 : (DS.mk (aset d.files nm (recsB put ++ recsB l, (d.got nm).2)) true 0).got nm = (recsB put ++ recsB l, (d.got nm).2) := got_aset ⟨d.files, true, 0⟩ nm _
    have hr : recsB (put ++ l) = recsB put ++ recsB l := recsB_app _ _
    have hbig : bigB (put ++ l) = false := by rw [bigB_app, h.small, hl]; rfl
    have et : (put ++ l).take sure = put := by rw [← hs, List.take_left]
    refine ⟨rfl, rfl, by simp, by simp, fun _ => ?_, fun e => absurd hs e⟩
    refine ⟨by rw [List.length_append]; omega, hbig, ⟨(put ++ l).length, by rw [List.length_append]; omega, Nat.le_refl _, ?_⟩, ⟨?_, ?_⟩, fun e => by cases e⟩
    · rw [hg2, List.take_length, hr]
    · rw [hg2, et]; exact f2
    · rw [hg2]
      have := h.safe.2
      rw [f1] at this
      dsimp only
      rw [ByteArray.size_append]; omega
/-- a rewrite -/
theorem Kept.rewrites (h : Kept d nm put sure) (ha : 0 ≤ d.armed ∧ d.armed ≤ 9223372036854775807) (l : List ByteArray) :
    (0 ≤ (d.rewrites nm l).2.armed ∧ (d.rewrites nm l).2.armed ≤ 9223372036854775807) ∧ ((d.rewrites nm l).1 = 0 → Kept (d.rewrites nm l).2 nm l l.length) ∧ ((d.rewrites nm l).1 ≠ 0 → Kept (d.rewrites nm l).2 nm put sure) := by
  unfold DS.rewrites
  cases hl : bigB l with
  | true =>
    have hall : allB l = (⟨#[]⟩, 30) := by unfold allB; rw [if_pos hl]
    rw [hall, if_pos (by simp)]
    exact ⟨ha, fun e => by simp at e, fun _ => h⟩
  | false =>
    have hall : allB l = (recsB l, 0) := by unfold allB; rw [if_neg (by rw [hl]; simp)]
    rw [hall, if_neg (by simp)]
    dsimp only
    rcases begin_cases d ha.1 ha.2 with ⟨hd, hb⟩ | ⟨hd, ⟨a, a0, a1, hb⟩ | hb⟩
    · have e : d.swap nm (recsB l) = (50, d) := by unfold DS.swap; rw [hb]; rfl
      rw [e]
      exact ⟨ha, fun e => by simp at e, fun _ => h⟩
    · have e : d.swap nm (recsB l) = (0, ⟨aset d.files nm (recsB l, ((recsB l).size : Int)), false, a⟩) := by unfold DS.swap; rw [hb]; rfl
      rw [e]
      refine ⟨⟨a0, a1⟩, fun _ => ?_, fun e => absurd rfl e⟩
      have hg := got_aset ⟨d.files, false, a⟩ nm (recsB l, ((recsB l).size : Int))
      refine ⟨Nat.le_refl _, hl, ⟨l.length, Nat.le_refl _, Nat.le_refl _, by rw [List.take_length]; rw [hg]⟩, ⟨by rw [List.take_length]; rw [hg]; exact Int.le_refl _, by rw [hg]; exact Int.le_refl _⟩, fun _ => rfl⟩
    · have e : d.swap nm (recsB l) = (50, ⟨d.files, true, 0⟩) := by unfold DS.swap; rw [hb]; rfl
      rw [e]
      refine ⟨⟨by simp, by simp⟩, fun e => by simp at e, fun _ => ?_⟩
      exact ⟨h.le, h.small, h.data, h.safe, fun e => by cases e⟩
end
end Go.Proofs.Ytcdggocbjnmeaaa
