/-
  Diaries, plainly: one call of a script, and what is kept then.
  Conditions: none; it proves no statement by itself.
-/
import Derived.Test.YtcdggocbjnmeaaaDP3
set_option linter.unusedVariables false
set_option linter.unusedSimpArgs false
set_option maxHeartbeats 1000000
namespace Go.Proofs.Ytcdggocbjnmeaaa
open Fw Go

theorem allB_ok {l : List ByteArray} (h : bigB l = false) : allB l = (recsB l, 0) := by unfold allB; rw [if_neg (by rw [h]; simp)]
theorem allB_big {l : List ByteArray} (h : bigB l = true) : allB l = (⟨#[]⟩, 30) := by unfold allB; rw [if_pos h]
theorem puts_big {d : DS} {nm : ByteArray} {l : List ByteArray} (h : bigB l = true) : d.puts nm l = (30, d) := by
  unfold DS.puts; rw [allB_big h, if_pos (by simp)]
theorem puts_none {d : DS} {nm : ByteArray} {l : List ByteArray} (h : bigB l = false) (hl : l.length = 0) : d.puts nm l = (0, d) := by
  unfold DS.puts; rw [allB_ok h, if_pos (.inr hl)]
section
variable {d : DS} {nm : ByteArray} {put : List ByteArray} {sure : Nat}
theorem Kept.append (h : Kept d nm put sure) (ha : 0 ≤ d.armed ∧ d.armed ≤ 9223372036854775807) (l : List ByteArray) (hl : bigB l = false) :
    ((d.puts nm l).1 = 0 ∨ (d.puts nm l).1 = 50) ∧ (0 ≤ (d.puts nm l).2.armed ∧ (d.puts nm l).2.armed ≤ 9223372036854775807) ∧
    ((d.puts nm l).2.down = false → Kept (d.puts nm l).2 nm (put ++ l) (put ++ l).length) ∧
    ((d.puts nm l).2.down = true → put.length = sure → Kept (d.puts nm l).2 nm (put ++ l) sure) ∧
    ((d.puts nm l).2.down = true → put.length ≠ sure → Kept (d.puts nm l).2 nm put sure) := by
  by_cases h0 : l.length = 0
  · have e : l = [] := List.length_eq_zero_iff.1 h0
    rw [puts_none hl h0]
    dsimp only
    subst e
    rw [List.append_nil]
    refine ⟨.inl rfl, ha, fun hd => ?_, fun _ _ => h, fun _ _ => h⟩
    have := h.up hd
    rw [this]; exact h
  · rcases h.puts ha l hl h0 with ⟨h1, h2, h3, h4, h5⟩ | ⟨h1, h2, h3, h4, h5, h6⟩
    · exact ⟨.inl h1, ⟨h4, h5⟩, fun _ => h3, fun e => (by rw [h2] at e; cases e), fun e => (by rw [h2] at e; cases e)⟩
    · exact ⟨.inr h1, ⟨h3, h4⟩, fun e => (by rw [h2] at e; cases e), fun _ => h5, fun _ => h6⟩
theorem arm_armed (n : Int) (hn : n ≤ 9223372036854775807) (ha : 0 ≤ d.armed ∧ d.armed ≤ 9223372036854775807) : 0 ≤ (d.arm n).armed ∧ (d.arm n).armed ≤ 9223372036854775807 := by
  unfold DS.arm
  split
  · exact ha
  · dsimp only; split <;> omega
theorem arm_files (n : Int) : (d.arm n).files = d.files ∧ (d.arm n).down = d.down := by
  unfold DS.arm; split <;> exact ⟨rfl, rfl⟩
theorem Kept.arm (h : Kept d nm put sure) (n : Int) : Kept (d.arm n) nm put sure := by
  obtain ⟨e1, e2⟩ := arm_files (d := d) n
  have eg : (d.arm n).got nm = d.got nm := by unfold DS.got; rw [e1]
  exact ⟨h.le, h.small, by rw [eg]; exact h.data, by rw [eg]; exact h.safe, by rw [e2]; exact h.up⟩
theorem Kept.start : Kept ⟨[], false, 0⟩ nm [] 0 := ⟨Nat.le_refl _, rfl, ⟨0, Nat.le_refl _, Nat.le_refl _, rfl⟩, ⟨Int.le_refl _, Int.le_refl _⟩, fun _ => rfl⟩
theorem Sim.start : Sim ⟨[], false, 0⟩ ⟨[], false, 0⟩ 0 := ⟨rfl, fun _ => ⟨rfl, Int.le_refl _, by show (0 : Int) ≤ _; omega⟩, .refl _, .nil, Nat.le_refl _, fun p hp => by simp at hp⟩
end
end Go.Proofs.Ytcdggocbjnmeaaa
