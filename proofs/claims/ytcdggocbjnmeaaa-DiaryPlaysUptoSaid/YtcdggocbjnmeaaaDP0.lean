/-
  Bytes as lists; records of payloads, as strings.
  Conditions: none; it proves no statement by itself.
-/
import Derived.Test.YtcdggocbjnmeaaaFwP
import Derived.Test.YtcdggocbjnmeaaaStripP
set_option linter.unusedVariables false
set_option linter.unusedSimpArgs false
set_option maxHeartbeats 1000000
namespace Go.Proofs.Ytcdggocbjnmeaaa
open Fw Go

abbrev toL (s : ByteArray) : List UInt8 := s.data.toList
def ofL (l : List UInt8) : ByteArray := ⟨l.toArray⟩
theorem ofL_toL (s : ByteArray) : ofL (toL s) = s := by cases s; simp [ofL]
theorem toL_ofL (l : List UInt8) : toL (ofL l) = l := by simp [toL, ofL]
theorem toL_len (s : ByteArray) : (toL s).length = s.size := by rw [Array.length_toList]; rfl
theorem ofL_size (l : List UInt8) : (ofL l).size = l.length := by rw [← toL_len, toL_ofL]
theorem toL_append (a b : ByteArray) : toL (a ++ b) = toL a ++ toL b := by simp [toL]
theorem toL_extract (s : ByteArray) (i j : Nat) : toL (s.extract i j) = (toL s).extract i j := by simp [toL]
theorem toL_take (s : ByteArray) (j : Nat) : toL (s.extract 0 j) = (toL s).take j := by rw [toL_extract]; simp
theorem toL_inj {a b : ByteArray} (h : toL a = toL b) : a = b := by rw [← ofL_toL a, ← ofL_toL b, h]
def scanB (s : ByteArray) : List ByteArray × Nat := ((Strip.scan (toL s)).1.map ofL, (Strip.scan (toL s)).2)
def bigB (l : List ByteArray) : Bool := l.any fun p => decide (65536 < p.size)
def recsB (l : List ByteArray) : ByteArray := ofL (Strip.recs (l.map toL))
/-- the records of payloads, or what is wrong with them -/
def allB (l : List ByteArray) : ByteArray × Int := if bigB l = true then (⟨#[]⟩, 30) else (recsB l, 0)
theorem scanB_le (s : ByteArray) : (scanB s).2 ≤ s.size := by
  have := (Strip.scan_spec ((toL s).length + 1) (toL s) (by omega)).2.2
  rw [toL_len] at this
  exact this
theorem recs_len_le (l : List ByteArray) : (recsB l).size = (l.map fun p => 8 + p.size).sum := by
  unfold recsB
  rw [ofL_size]
  induction l with
  | nil => rfl
  | cons p l ih =>
    simp only [List.map_cons, List.sum_cons, Strip.recs, List.flatMap_cons, List.length_append, Strip.rec_len]
    rw [toL_len]
    unfold Strip.recs at ih
    rw [ih]
theorem not_big {l : List ByteArray} (h : bigB l = false) : ∀ p ∈ l.map toL, p.length ≤ 65536 := by
  intro p hp
  obtain ⟨q, hq, rfl⟩ := List.mem_map.1 hp
  unfold bigB at h
  simp only [List.any_eq_false, decide_eq_true_eq] at h
  have := h q hq
  rw [toL_len]; omega
theorem scanB_small (s : ByteArray) : bigB (scanB s).1 = false := by
  unfold bigB
  simp only [List.any_eq_false, decide_eq_true_eq]
  intro q hq
  unfold scanB at hq
  obtain ⟨p, hp, rfl⟩ := List.mem_map.1 hq
  have := (Strip.scan_spec ((toL s).length + 1) (toL s) (by omega)).1 p hp
  rw [ofL_size]; omega
/-- what is scanned is of records -/
theorem scanB_spec (s : ByteArray) : s.extract 0 (scanB s).2 = recsB (scanB s).1 := by
  apply toL_inj
  rw [toL_take]
  unfold recsB scanB
  rw [toL_ofL, List.map_map]
  have : (toL ∘ ofL : List UInt8 → List UInt8) = id := by funext l; exact toL_ofL l
  rw [this, List.map_id]
  exact (Strip.scan_spec ((toL s).length + 1) (toL s) (by omega)).2.1
theorem scanB_recs {l : List ByteArray} (h : bigB l = false) : scanB (recsB l) = (l, (recsB l).size) := by
  have h1 := Strip.scan_recs (not_big h) []
  rw [List.append_nil, Strip.scan_nil] at h1
  unfold scanB
  have e : toL (recsB l) = Strip.recs (l.map toL) := by unfold recsB; rw [toL_ofL]
  rw [e, h1]
  simp only [List.append_nil, Nat.add_zero, List.map_map]
  have : (ofL ∘ toL : ByteArray → ByteArray) = id := by funext s; exact ofL_toL s
  rw [this, List.map_id, ← toL_len, e]
theorem scanB_cut {l : List ByteArray} (h : bigB l = false) (q : Nat) : ∃ k, k ≤ l.length ∧ scanB ((recsB l).extract 0 q) = (l.take k, (recsB (l.take k)).size) ∧ ∀ j, (recsB (l.take j)).size ≤ q → j ≤ l.length → j ≤ k := by
  obtain ⟨k, k1, k2, _, k4⟩ := Strip.scan_cut (l.map toL) q (not_big h)
  have e : toL (recsB l) = Strip.recs (l.map toL) := by unfold recsB; rw [toL_ofL]
  have e2 : ∀ j, (recsB (l.take j)).size = (Strip.recs ((l.map toL).take j)).length := fun j => by unfold recsB; rw [ofL_size, List.map_take]
  refine ⟨k, by simpa using k1, ?_, fun j hj hl => k4 j (by rw [← e2]; exact hj) (by simpa using hl)⟩
  unfold scanB
  rw [toL_take, e, k2]
  have : (ofL ∘ toL : ByteArray → ByteArray) = id := by funext s; exact ofL_toL s
  rw [← List.map_take, List.map_map, this, List.map_id, e2, List.map_take]
end Go.Proofs.Ytcdggocbjnmeaaa
