/-
  Diaries, plainly: what they do; the document's does the same.
  Conditions: none; it proves no statement by itself.
-/
import Derived.Test.YtcdggocbjnmeaaaDC7
import Derived.Test.YtcdggocbjnmeaaaDP0
set_option linter.unusedVariables false
set_option linter.unusedSimpArgs false
set_option maxHeartbeats 1000000
namespace Go.Proofs.Ytcdggocbjnmeaaa
open Fw Go

/-! ## what diaries do -/
def DS.opens (d : DS) (nm : ByteArray) : (List ByteArray × Int) × DS :=
  if (d.read nm).2 ≠ 0 then (([], (d.read nm).2), d)
  else if (scanB (d.read nm).1).2 < (d.read nm).1.size then
    (if (d.swap nm ((d.read nm).1.extract 0 (scanB (d.read nm).1).2)).1 ≠ 0 then (([], (d.swap nm ((d.read nm).1.extract 0 (scanB (d.read nm).1).2)).1), (d.swap nm ((d.read nm).1.extract 0 (scanB (d.read nm).1).2)).2)
     else (((scanB (d.read nm).1).1, 0), (d.swap nm ((d.read nm).1.extract 0 (scanB (d.read nm).1).2)).2))
  else (((scanB (d.read nm).1).1, 0), d)
def DS.puts (d : DS) (nm : ByteArray) (l : List ByteArray) : Int × DS :=
  if (allB l).2 ≠ 0 ∨ l.length = 0 then ((allB l).2, d)
  else if (d.append nm (allB l).1).1 ≠ 0 then d.append nm (allB l).1
  else (d.append nm (allB l).1).2.sync nm
def DS.rewrites (d : DS) (nm : ByteArray) (l : List ByteArray) : Int × DS :=
  if (allB l).2 ≠ 0 then ((allB l).2, d) else d.swap nm (allB l).1
def DS.ropens (d : DS) (nm : ByteArray) : (List ByteArray × Int) × DS :=
  if (d.rread nm).2 ≠ 0 then (([], (d.rread nm).2), d)
  else if (scanB (d.rread nm).1).2 < (d.rread nm).1.size then
    (if (d.rswap nm ((d.rread nm).1.extract 0 (scanB (d.rread nm).1).2)).1 ≠ 0 then (([], (d.rswap nm ((d.rread nm).1.extract 0 (scanB (d.rread nm).1).2)).1), (d.rswap nm ((d.rread nm).1.extract 0 (scanB (d.rread nm).1).2)).2)
     else (((scanB (d.rread nm).1).1, 0), (d.rswap nm ((d.rread nm).1.extract 0 (scanB (d.rread nm).1).2)).2))
  else (((scanB (d.rread nm).1).1, 0), d)
def DS.rputs (d : DS) (nm : ByteArray) (l : List ByteArray) : Int × DS :=
  if (allB l).2 ≠ 0 ∨ l.length = 0 then ((allB l).2, d)
  else if (d.rappend nm (allB l).1).1 ≠ 0 then d.rappend nm (allB l).1
  else (d.rappend nm (allB l).1).2.rsync nm
def DS.rrewrites (d : DS) (nm : ByteArray) (l : List ByteArray) : Int × DS :=
  if (allB l).2 ≠ 0 then ((allB l).2, d) else d.rswap nm (allB l).1
theorem Sim.read_size {d e : DS} {B : Nat} (h : Sim d e B) (nm : ByteArray) : (d.read nm).1.size ≤ B := by
  unfold DS.read
  split
  · exact Nat.zero_le _
  · exact (h.got nm).2.2.2
theorem Sim.opens {d e : DS} {B C : Nat} (h : Sim d e B) (nm : ByteArray) (hc : B + 1 ≤ C) (hn : nm.size ≤ 281474976710656) : (d.opens nm).1 = (e.ropens nm).1 ∧ Sim (d.opens nm).2 (e.ropens nm).2 C := by
  have hr := h.read nm
  have hz := h.read_size nm
  unfold DS.opens DS.ropens
  rw [← hr]
  split
  · exact ⟨rfl, h.mono (by omega)⟩
  split
  · have hs := h.swap nm ((d.read nm).1.extract 0 (scanB (d.read nm).1).2) (C := C) hc (by rw [ByteArray.size_extract]; omega) hn
    rw [← hs.1]
    split
    · exact ⟨rfl, hs.2⟩
    · exact ⟨rfl, hs.2⟩
  · exact ⟨rfl, h.mono (by omega)⟩
theorem Sim.puts {d e : DS} {B C : Nat} (h : Sim d e B) (nm : ByteArray) (l : List ByteArray) (hc : B + 2 + (recsB l).size ≤ C) (hn : nm.size ≤ 281474976710656) : (d.puts nm l).1 = (e.rputs nm l).1 ∧ Sim (d.puts nm l).2 (e.rputs nm l).2 C := by
  unfold DS.puts DS.rputs
  split
  · exact ⟨rfl, h.mono (by omega)⟩
  rename_i hb
  have hall : (allB l).1 = recsB l := by
    unfold allB at hb ⊢
    split
    · rename_i hbig; rw [if_pos hbig] at hb; simp at hb
    · rfl
  have ha := h.append nm (allB l).1 (C := C - 1) (by rw [hall]; omega) hn
  rw [← ha.1]
  split
  · exact ⟨ha.1, ha.2.mono (by omega)⟩
  · exact ha.2.sync nm (by omega) hn
theorem Sim.rewrites {d e : DS} {B C : Nat} (h : Sim d e B) (nm : ByteArray) (l : List ByteArray) (hc : B + 2 + (recsB l).size ≤ C) (hn : nm.size ≤ 281474976710656) : (d.rewrites nm l).1 = (e.rrewrites nm l).1 ∧ Sim (d.rewrites nm l).2 (e.rrewrites nm l).2 C := by
  unfold DS.rewrites DS.rrewrites
  split
  · exact ⟨rfl, h.mono (by omega)⟩
  rename_i hb
  have hall : (allB l).1 = recsB l := by
    unfold allB at hb ⊢
    split
    · rename_i hbig; rw [if_pos hbig] at hb; simp at hb
    · rfl
  exact h.swap nm (allB l).1 (by omega) (by rw [hall]; omega) hn
end Go.Proofs.Ytcdggocbjnmeaaa
