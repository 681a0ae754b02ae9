/-
  Diaries, plainly: what is found behind a loss of power.
  Conditions: none; it proves no statement by itself.
-/
import Derived.Test.YtcdggocbjnmeaaaDP2
set_option linter.unusedVariables false
set_option linter.unusedSimpArgs false
set_option maxHeartbeats 1000000
namespace Go.Proofs.Ytcdggocbjnmeaaa
open Fw Go

theorem lookup_zip (F : ByteArray → Nat → ByteArray × Int) (nm : ByteArray) : ∀ (l : List ByteArray) (k : Nat), nm ∈ l → ∃ i, ((l.zipIdx k).map fun p => (p.1, F p.1 p.2)).lookup nm = some (F nm i)
  | [], _, h => by simp at h
  | x :: l, k, h => by
    by_cases e : nm = x
    · subst e; exact ⟨k, by simp⟩
    · have e' : (nm == x) = false := by simpa using e
      obtain ⟨i, hi⟩ := lookup_zip F nm l (k + 1) (by simpa [e] using h)
      exact ⟨i, by simp [List.zipIdx_cons, List.lookup_cons, e', hi]⟩
theorem lookup_zip_none (F : ByteArray → Nat → ByteArray × Int) (nm : ByteArray) : ∀ (l : List ByteArray) (k : Nat), nm ∉ l → ((l.zipIdx k).map fun p => (p.1, F p.1 p.2)).lookup nm = none
  | [], _, h => by simp
  | x :: l, k, h => by
    simp only [List.mem_cons, not_or] at h
    have e' : (nm == x) = false := by simpa using h.1
    simp [List.zipIdx_cons, List.lookup_cons, e', lookup_zip_none F nm l (k + 1) h.2]
theorem lookup_mem {F : List (ByteArray × (ByteArray × Int))} {nm : ByteArray} {f : ByteArray × Int} (h : F.lookup nm = some f) : nm ∈ F.map (·.1) := by
  induction F with
  | nil => simp at h
  | cons p l ih =>
    obtain ⟨a, b⟩ := p
    by_cases e : nm = a
    · simp [e]
    · have e' : (nm == a) = false := by simpa using e
      simp only [List.lookup_cons, e'] at h
      exact List.mem_cons_of_mem _ (ih h)
/-- what is left of a file: at least what is safe of it -/
theorem crash_got {d : DS} (hok : d.Ok) (nm : ByteArray) (keep : List Int) : ∃ q : Nat, (d.crash keep).got nm = ((d.got nm).1.extract 0 q, (q : Int)) ∧ (d.got nm).2 ≤ q ∧ q ≤ (d.got nm).1.size := by
  cases hl : d.files.lookup nm with
  | none =>
    have hg : d.got nm = (⟨#[]⟩, 0) := by unfold DS.got; rw [hl]; rfl
    have hm : nm ∉ sortedKeys d.files := by
      intro hm
      have := (sortedKeys_perm d.files).mem_iff.1 hm
      obtain ⟨v, h1, _⟩ := mem_lookup this
      rw [hl] at h1; cases h1
    refine ⟨0, ?_, by rw [hg]; exact Int.le_refl _, Nat.zero_le _⟩
    rw [hg]
    have := lookup_zip_none (fun nm i => crashFile (d.got nm) keep[i]?) nm (sortedKeys d.files) 0 hm
    unfold DS.got
    show ((d.crashFiles keep).lookup nm).getD _ = _
    unfold DS.crashFiles
    rw [this]; rfl
  | some f =>
    have hg : d.got nm = f := by unfold DS.got; rw [hl]; rfl
    have hm := lookup_mem hl
    have hm2 : nm ∈ sortedKeys d.files := (sortedKeys_perm d.files).mem_iff.2 hm
    obtain ⟨i, hi⟩ := lookup_zip (fun nm i => crashFile (d.got nm) keep[i]?) nm _ 0 hm2
    rw [hg] at hi ⊢
    obtain ⟨v, h1, h2⟩ := mem_lookup hm
    rw [hl] at h1
    have h1 := Option.some.inj h1
    subst h1
    have hf := hok.file _ h2
    dsimp only at hf
    have hr := crashN_range hf keep[i]?
    have hw := crash_wrap hf keep[i]?
    refine ⟨(f.2 + crashN f keep[i]?).toNat, ?_, by omega, by omega⟩
    have e : ((f.2 + crashN f keep[i]?).toNat : Int) = f.2 + crashN f keep[i]? := by omega
    unfold DS.got
    show ((d.crashFiles keep).lookup nm).getD _ = _
    unfold DS.crashFiles
    rw [hi]
    show crashFile f keep[i]? = _
    unfold crashFile
    rw [hw, e]
theorem Kept.crash {d : DS} {nm : ByteArray} {put : List ByteArray} {sure : Nat} (h : Kept d nm put sure) (hok : d.Ok) (keep : List Int) :
    ∃ k, sure ≤ k ∧ k ≤ put.length ∧ ((d.crash keep).opens nm).1 = (put.take k, 0) ∧ Kept ((d.crash keep).opens nm).2 nm (put.take k) k ∧ ((d.crash keep).opens nm).2.armed = 0 := by
  obtain ⟨q, hq, hq1, hq2⟩ := crash_got hok nm keep
  obtain ⟨m, hm1, hm2, hm3⟩ := h.data
  rw [hm3] at hq hq2
  have hsmall := bigB_take h.small m
  obtain ⟨k, hk1, hk2, hk3⟩ := scanB_cut hsmall q
  have hkm : k ≤ m := by rw [List.length_take] at hk1; omega
  have htt : ∀ j, j ≤ m → (put.take m).take j = put.take j := fun j hj => by rw [List.take_take, Nat.min_eq_left hj]
  have hks : sure ≤ k := by
    refine hk3 sure ?_ (by rw [List.length_take]; omega)
    rw [htt sure hm1]
    have := h.safe.1
    omega
  rw [htt k hkm] at hk2
  have hkl : (put.take k).length = k := by rw [List.length_take]; omega
  have hqz : ((recsB (put.take m)).extract 0 q).size = q := by rw [ByteArray.size_extract]; omega
  have hspec := scanB_spec ((recsB (put.take m)).extract 0 q)
  have hle := scanB_le ((recsB (put.take m)).extract 0 q)
  rw [hk2, hqz] at hle
  rw [hk2] at hspec
  dsimp only at hspec hle
  obtain ⟨t, ht⟩ : ∃ t, (recsB (put.take m)).extract 0 q = t := ⟨_, rfl⟩
  rw [ht] at hq hk2 hspec hqz
  have hr : (d.crash keep).read nm = (t, 0) := by
    unfold DS.read
    have : (d.crash keep).down = false := rfl
    rw [this, if_neg (by simp), hq]
  refine ⟨k, hks, by omega, ?_⟩
  have hsm2 := bigB_take h.small k
  by_cases hc : (recsB (put.take k)).size < q
  · have hsw : (d.crash keep).swap nm (recsB (put.take k)) = (0, ⟨aset (d.crash keep).files nm (recsB (put.take k), ((recsB (put.take k)).size : Int)), false, 0⟩) := by
      unfold DS.swap DS.begin
      have : (d.crash keep).down = false := rfl
      have : (d.crash keep).armed = 0 := rfl
      simp only [DS.crash]
      simp
    have ho : (d.crash keep).opens nm = ((put.take k, 0), ⟨aset (d.crash keep).files nm (recsB (put.take k), ((recsB (put.take k)).size : Int)), false, 0⟩) := by
      unfold DS.opens
      rw [hr, if_neg (by simp)]
      dsimp only
      rw [hk2]
      dsimp only
      rw [if_pos (by rw [hqz]; exact hc), hspec, hsw, if_neg (by simp)]
    rw [ho]
    have hg := got_aset (d.crash keep) nm (recsB (put.take k), ((recsB (put.take k)).size : Int))
    have hg2 : (DS.mk (aset (d.crash keep).files nm (recsB (put.take k), ((recsB (put.take k)).size : Int))) false 0).got nm = (recsB (put.take k), ((recsB (put.take k)).size : Int)) := hg
    have htk : (put.take k).take k = put.take k := List.take_of_length_le (by omega)
    refine ⟨rfl, ⟨by omega, hsm2, ⟨k, Nat.le_refl _, by omega, by rw [hg2, htk]⟩, ⟨by rw [hg2, htk]; exact Int.le_refl _, by rw [hg2]; exact Int.le_refl _⟩, fun _ => hkl⟩, rfl⟩
  · have hqe : (recsB (put.take k)).size = q := by omega
    have hte : t = recsB (put.take k) := by
      rw [← hspec, hqe, ← hqz, ByteArray.extract_zero_size]
    have ho : (d.crash keep).opens nm = ((put.take k, 0), d.crash keep) := by
      unfold DS.opens
      rw [hr, if_neg (by simp)]
      dsimp only
      rw [hk2]
      dsimp only
      rw [if_neg (by rw [hqz]; exact hc)]
    rw [ho]
    have htk : (put.take k).take k = put.take k := List.take_of_length_le (by omega)
    refine ⟨rfl, ⟨by omega, hsm2, ⟨k, Nat.le_refl _, by omega, by dsimp only; rw [hq, hte, htk]⟩, ⟨by dsimp only; rw [hq, htk]; dsimp only; omega, by dsimp only; rw [hq]; dsimp only; rw [hqz]; exact Int.le_refl _⟩, fun _ => hkl⟩, rfl⟩
end Go.Proofs.Ytcdggocbjnmeaaa
