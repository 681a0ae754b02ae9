/-
  Records, one behind the other, plainly: their sums, what is scanned of bytes, what is left of them when they are cut off.
  Conditions: none; it proves no statement by itself.
-/
set_option linter.unusedVariables false
set_option linter.unusedSimpArgs false
namespace Strip
abbrev Bs := List UInt8
def crcBit (x : Nat) : Nat := if x % 2 = 1 then (x / 2) ^^^ 3988292384 else x / 2
def crcBits : Nat → Nat → Nat
  | 0, x => x
  | n + 1, x => crcBits n (crcBit x)
def crcByte (x : Nat) (b : UInt8) : Nat := crcBits 8 (x ^^^ b.toNat)
def crc (l : Bs) : Nat := l.foldl crcByte 4294967295 ^^^ 4294967295
def be4 (n : Nat) : Bs := [UInt8.ofNat (n / 16777216), UInt8.ofNat (n / 65536), UInt8.ofNat (n / 256), UInt8.ofNat n]
def le4 (n : Nat) : Bs := [UInt8.ofNat n, UInt8.ofNat (n / 256), UInt8.ofNat (n / 65536), UInt8.ofNat (n / 16777216)]
def hd (p : Bs) : Bs := be4 p.length ++ le4 (crc (be4 p.length ++ p))
def rec1 (p : Bs) : Bs := hd p ++ p
def dec : Bs → Nat
  | a :: b :: c :: d :: _ => ((a.toNat * 256 + b.toNat) * 256 + c.toNat) * 256 + d.toNat
  | _ => 0
theorem hd_len (p : Bs) : (hd p).length = 8 := rfl
theorem rec_len (p : Bs) : (rec1 p).length = 8 + p.length := by simp [rec1, hd_len]
theorem dec_be4 {n : Nat} (h : n < 4294967296) (x : Bs) : dec (be4 n ++ x) = n := by
  simp only [be4, dec, List.cons_append, List.nil_append, UInt8.toNat_ofNat']
  omega
theorem dec_rec {p : Bs} (h : p.length ≤ 65536) (x : Bs) : dec (rec1 p ++ x) = p.length := by
  unfold rec1 hd
  rw [List.append_assoc, List.append_assoc]
  exact dec_be4 (by omega) _
def first (l : Bs) : Option Bs :=
  if l.length < 8 then none else if 65536 < dec l ∨ l.length < 8 + dec l then none else if rec1 ((l.drop 8).take (dec l)) = l.take (8 + dec l) then some ((l.drop 8).take (dec l)) else none
theorem first_rec {p : Bs} (h : p.length ≤ 65536) (x : Bs) : first (rec1 p ++ x) = some p := by
  have hl := rec_len p
  have e : ((rec1 p ++ x).drop 8).take p.length = p := by
    unfold rec1
    rw [List.append_assoc, List.drop_append_of_le_length (by rw [hd_len]; exact Nat.le_refl _), List.drop_of_length_le (by rw [hd_len]; exact Nat.le_refl _), List.nil_append, List.take_append_of_le_length (Nat.le_refl _), List.take_length]
  unfold first
  rw [dec_rec h, if_neg (by rw [List.length_append]; omega), if_neg (by rw [List.length_append]; omega), e, if_pos]
  rw [List.take_append_of_le_length (by omega), List.take_of_length_le (by omega)]
theorem first_some {l p : Bs} (h : first l = some p) : p.length ≤ 65536 ∧ ∃ x, l = rec1 p ++ x := by
  unfold first at h
  split at h
  · cases h
  split at h
  · cases h
  rename_i h1 h2
  split at h
  · rename_i h3
    have h := Option.some.inj h
    subst h
    refine ⟨by rw [List.length_take]; omega, l.drop (8 + dec l), ?_⟩
    rw [h3, List.take_append_drop]
  · cases h
/-- a record that is cut off is none -/
theorem first_cut {p : Bs} (h : p.length ≤ 65536) {q : Nat} (hq : q < 8 + p.length) (x : Bs) : first ((rec1 p ++ x).take q) = none := by
  unfold first
  by_cases h8 : q < 8
  · rw [if_pos (by rw [List.length_take]; omega)]
  · have hl := rec_len p
    have e : dec ((rec1 p ++ x).take q) = p.length := by
      obtain ⟨k, rfl⟩ : ∃ k, q = 8 + k := ⟨q - 8, by omega⟩
      have : (rec1 p ++ x).take (8 + k) = be4 p.length ++ (le4 (crc (be4 p.length ++ p)) ++ (p ++ x).take k) := by
        unfold rec1
        rw [List.append_assoc, List.take_append, hd_len, Nat.add_sub_cancel_left, List.take_of_length_le (by rw [hd_len]; omega)]
        unfold hd
        rw [List.append_assoc]
      rw [this]
      exact dec_be4 (by omega) _
    rw [e]
    by_cases hn : ((rec1 p ++ x).take q).length < 8
    · rw [if_pos hn]
    · rw [if_neg hn, if_pos (.inr (by rw [List.length_take]; omega))]
def scanF : Nat → Bs → List Bs × Nat
  | 0, _ => ([], 0)
  | f + 1, l => match first l with
    | none => ([], 0)
    | some p => (p :: (scanF f (l.drop (8 + p.length))).1, 8 + p.length + (scanF f (l.drop (8 + p.length))).2)
def scan (l : Bs) : List Bs × Nat := scanF (l.length + 1) l
theorem scanF_eq : ∀ (f g : Nat) (l : Bs), l.length < f → l.length < g → scanF f l = scanF g l
  | 0, _, l, h, _ => by omega
  | _, 0, l, _, h => by omega
  | f + 1, g + 1, l, h1, h2 => by
    unfold scanF
    cases hf : first l with
    | none => rfl
    | some p =>
      obtain ⟨_, x, rfl⟩ := first_some hf
      have hl := rec_len p
      dsimp only
      rw [List.length_append] at h1 h2
      have hd : ((rec1 p ++ x).drop (8 + p.length)).length = x.length := by rw [List.length_drop, List.length_append]; omega
      rw [scanF_eq f g _ (by omega) (by omega)]
theorem scan_none {l : Bs} (h : first l = none) : scan l = ([], 0) := by unfold scan scanF; rw [h]
theorem scan_some {l p : Bs} (h : first l = some p) : scan l = (p :: (scan (l.drop (8 + p.length))).1, 8 + p.length + (scan (l.drop (8 + p.length))).2) := by
  have e : scan l = match first l with
    | none => ([], 0)
    | some p => (p :: (scanF l.length (l.drop (8 + p.length))).1, 8 + p.length + (scanF l.length (l.drop (8 + p.length))).2) := rfl
  rw [e, h]
  obtain ⟨_, x, rfl⟩ := first_some h
  have hl := rec_len p
  have hd : ((rec1 p ++ x).drop (8 + p.length)).length = x.length := by rw [List.length_drop, List.length_append]; omega
  dsimp only
  rw [scanF_eq (rec1 p ++ x).length (((rec1 p ++ x).drop (8 + p.length)).length + 1) _ (by rw [hd, List.length_append]; omega) (by omega)]
  rfl
def recs (ps : List Bs) : Bs := ps.flatMap rec1
theorem scan_rec {p : Bs} (h : p.length ≤ 65536) (x : Bs) : scan (rec1 p ++ x) = (p :: (scan x).1, 8 + p.length + (scan x).2) := by
  rw [scan_some (first_rec h x)]
  have : (rec1 p ++ x).drop (8 + p.length) = x := by rw [← rec_len, List.drop_left]
  rw [this]
theorem scan_nil : scan [] = ([], 0) := scan_none (by unfold first; simp)
theorem scan_recs {ps : List Bs} (h : ∀ p ∈ ps, p.length ≤ 65536) (x : Bs) : scan (recs ps ++ x) = (ps ++ (scan x).1, (recs ps).length + (scan x).2) := by
  induction ps with
  | nil => simp [recs]
  | cons p ps ih =>
    have e : recs (p :: ps) ++ x = rec1 p ++ (recs ps ++ x) := by simp [recs]
    rw [e, scan_rec (h p (by simp)), ih (fun q hq => h q (by simp [hq]))]
    have : (recs (p :: ps)).length = 8 + p.length + (recs ps).length := by simp [recs, rec_len]
    rw [this]
    simp [Nat.add_assoc]
/-- what is scanned is of records, and what is behind is none -/
theorem scan_spec : ∀ (f : Nat) (l : Bs), l.length < f → (∀ p ∈ (scan l).1, p.length ≤ 65536) ∧ l.take (scan l).2 = recs (scan l).1 ∧ (scan l).2 ≤ l.length
  | 0, l, h => by omega
  | f + 1, l, h => by
    cases hf : first l with
    | none => rw [scan_none hf]; simp [recs]
    | some p =>
      rw [scan_some hf]
      obtain ⟨h1, x, rfl⟩ := first_some hf
      have hl := rec_len p
      have hd : (rec1 p ++ x).drop (8 + p.length) = x := by rw [← rec_len, List.drop_left]
      rw [hd]
      rw [List.length_append] at h
      obtain ⟨i1, i2, i3⟩ := scan_spec f x (by omega)
      refine ⟨?_, ?_, ?_⟩
      · intro q hq
        simp only [List.mem_cons] at hq
        rcases hq with rfl | hq
        · exact h1
        · exact i1 q hq
      · dsimp only
        rw [List.take_append, hl, List.take_of_length_le (by omega), Nat.add_sub_cancel_left, i2]
        simp [recs]
      · simp only [List.length_append]; omega
theorem scan_cut : ∀ (ps : List Bs) (q : Nat), (∀ p ∈ ps, p.length ≤ 65536) → ∃ k, k ≤ ps.length ∧ scan ((recs ps).take q) = (ps.take k, (recs (ps.take k)).length) ∧ (recs (ps.take k)).length ≤ q ∧ ∀ j, (recs (ps.take j)).length ≤ q → j ≤ ps.length → j ≤ k
  | [], q, _ => ⟨0, Nat.le_refl _, by simp [recs, scan_nil], by simp [recs], by simp⟩
  | p :: ps, q, h => by
    have hp := h p (by simp)
    have e : recs (p :: ps) = rec1 p ++ recs ps := by simp [recs]
    have hl := rec_len p
    by_cases hq : q < 8 + p.length
    · refine ⟨0, Nat.zero_le _, ?_, by simp [recs], ?_⟩
      · rw [e, scan_none (first_cut hp hq _)]; simp [recs]
      · intro j hj hjl
        cases j with
        | zero => exact Nat.le_refl _
        | succ j =>
          have : (recs ((p :: ps).take (j + 1))).length = 8 + p.length + (recs (ps.take j)).length := by simp [recs, rec_len]
          omega
    · obtain ⟨k, k1, k2, k3, k4⟩ := scan_cut ps (q - (8 + p.length)) (fun x hx => h x (by simp [hx]))
      have hlen : ∀ j, (recs ((p :: ps).take (j + 1))).length = 8 + p.length + (recs (ps.take j)).length := fun j => by simp [recs, rec_len]
      refine ⟨k + 1, by simp; omega, ?_, ?_, ?_⟩
      · rw [e, List.take_append, List.take_of_length_le (by omega), hl, scan_rec hp, k2, hlen]
        simp
      · rw [hlen]; omega
      · intro j hj hjl
        cases j with
        | zero => omega
        | succ j =>
          rw [hlen] at hj
          have := k4 j (by omega) (by simpa using hjl)
          omega
end Strip
