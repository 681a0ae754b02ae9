/-
  Part 5 for the law: texts of this session's own, those parts that the claim needs, one behind the other.
  Conditions: none; it proves no statement by itself.
-/
import Derived.Test.YtcdggocbjnmeaaaGreatGroupNilK4
set_option linter.unusedVariables false
set_option linter.unusedSectionVars false
set_option linter.unusedSimpArgs false
section
set_option linter.unusedVariables false
set_option linter.unusedSimpArgs false
set_option maxHeartbeats 1000000
namespace Go.Proofs.YtcdggocbjnmeaaaGreat
open Fw Go
/-- what a diary's file holds: what was put up to 'sure', and then nothing, or the rest of it -/
structure Kept (d : DS) (nm : ByteArray) (put : List ByteArray) (sure : Nat) : Prop where
  le : sure ≤ put.length
  small : bigB put = false
  data : ∃ m, sure ≤ m ∧ m ≤ put.length ∧ (d.got nm).1 = recsB (put.take m)
  safe : ((recsB (put.take sure)).size : Int) ≤ (d.got nm).2 ∧ (d.got nm).2 ≤ (d.got nm).1.size
  up : d.down = false → put.length = sure
theorem recsB_app (a b : List ByteArray) : recsB (a ++ b) = recsB a ++ recsB b := by
  apply toL_inj
  unfold recsB
  rw [toL_append, toL_ofL, toL_ofL, toL_ofL, List.map_append]
  simp [Strip.recs]
theorem bigB_app {a b : List ByteArray} : bigB (a ++ b) = (bigB a || bigB b) := by unfold bigB; rw [List.any_append]
theorem bigB_take {a : List ByteArray} (h : bigB a = false) (k : Nat) : bigB (a.take k) = false := by
  unfold bigB at h ⊢
  simp only [List.any_eq_false] at h ⊢
  exact fun x hx => h x (List.mem_of_mem_take hx)
theorem got_aset (d : DS) (nm : ByteArray) (v : ByteArray × Int) : (DS.mk (aset d.files nm v) d.down d.armed).got nm = v := by
  unfold DS.got
  dsimp only
  rw [lookup_aset]; simp
theorem begin_cases (d : DS) (ha : 0 ≤ d.armed) (hm : d.armed ≤ 9223372036854775807) : (d.down = true ∧ d.begin = ((false, 50), d)) ∨ (d.down = false ∧ ((∃ a, 0 ≤ a ∧ a ≤ 9223372036854775807 ∧ d.begin = ((false, 0), ⟨d.files, false, a⟩)) ∨ d.begin = ((true, 50), ⟨d.files, true, 0⟩))) := by
  unfold DS.begin
  cases hd : d.down with
  | true => left; exact ⟨rfl, by simp⟩
  | false =>
    right
    refine ⟨rfl, ?_⟩
    by_cases h1 : d.armed > 0
    · have hw : IntKind.i64.wrap (d.armed - 1) = d.armed - 1 := wrap_in (by omega) (by omega)
      by_cases h2 : d.armed = 1
      · right
        have h0 : IntKind.i64.wrap 0 = 0 := wrap_in (by omega) (by omega)
        simp [h2, hw, h0]
      · left
        have h3 : (d.armed - 1 == 0) = false := by simp; omega
        refine ⟨d.armed - 1, by omega, by omega, ?_⟩
        simp only [h1, if_true, hw, h3, Bool.false_eq_true, if_false]
    · left
      refine ⟨d.armed, ha, hm, ?_⟩
      simp only [h1, if_false, Bool.false_eq_true]
      cases d; simp_all
section
variable {d : DS} {nm : ByteArray} {put : List ByteArray} {sure : Nat}
theorem Kept.file (h : Kept d nm put sure) (hs : put.length = sure) : (d.got nm).1 = recsB put ∧ ((recsB put).size : Int) ≤ (d.got nm).2 := by
  obtain ⟨m, h1, h2, h3⟩ := h.data
  have e : put.take m = put := List.take_of_length_le (by omega)
  have e2 : put.take sure = put := List.take_of_length_le (by omega)
  have := h.safe.1
  rw [e2] at this
  rw [e] at h3
  exact ⟨h3, this⟩
/-- what was not answered OK may be there or not -/
theorem Kept.more (h : Kept d nm put sure) (hd : d.down = true) {l : List ByteArray} (hl : bigB l = false) (hs : put.length = sure) : Kept d nm (put ++ l) sure := by
  obtain ⟨h1, h2⟩ := h.file hs
  have e : (put ++ l).take sure = put := by rw [← hs, List.take_left]
  refine ⟨by rw [List.length_append]; omega, by rw [bigB_app, h.small, hl]; (first | done | rfl), ⟨sure, Nat.le_refl _, by rw [List.length_append]; omega, by rw [e]; exact h1⟩, ⟨by rw [e]; exact h2, h.safe.2⟩, fun e => by rw [hd] at e; cases e⟩
/-- an append -/
theorem Kept.puts (h : Kept d nm put sure) (ha : 0 ≤ d.armed ∧ d.armed ≤ 9223372036854775807) (l : List ByteArray) (hl : bigB l = false) (hne : l.length ≠ 0) :
    ((d.puts nm l).1 = 0 ∧ (d.puts nm l).2.down = false ∧ Kept (d.puts nm l).2 nm (put ++ l) (put ++ l).length ∧ 0 ≤ (d.puts nm l).2.armed ∧ (d.puts nm l).2.armed ≤ 9223372036854775807) ∨
    ((d.puts nm l).1 = 50 ∧ (d.puts nm l).2.down = true ∧ 0 ≤ (d.puts nm l).2.armed ∧ (d.puts nm l).2.armed ≤ 9223372036854775807 ∧
      (put.length = sure → Kept (d.puts nm l).2 nm (put ++ l) sure) ∧ (put.length ≠ sure → Kept (d.puts nm l).2 nm put sure)) := by
  have hall : allB l = (recsB l, 0) := by unfold allB; rw [if_neg (by rw [hl]; simp)]
  unfold DS.puts
  rw [hall, if_neg (by simp; exact fun e => hne (by simp [e]))]
  dsimp only
  rcases begin_cases d ha.1 ha.2 with ⟨hd, hb⟩ | ⟨hd, ⟨a, a0, a1, hb⟩ | hb⟩
  · have e : d.append nm (recsB l) = (50, d) := by unfold DS.append; rw [hb]; (first | done | rfl)
    rw [e, if_pos (by simp)]
    exact .inr ⟨rfl, hd, ha.1, ha.2, fun hs => h.more hd hl hs, fun _ => h⟩
  · have hs := h.up hd
    obtain ⟨f1, f2⟩ := h.file hs
    have e : d.append nm (recsB l) = (0, ⟨aset d.files nm (recsB put ++ recsB l, (d.got nm).2), false, a⟩) := by
      unfold DS.append; rw [hb]
      simp only [beq_self_eq_true, Bool.true_or, if_true]
      have : (DS.mk d.files false a).got nm = d.got nm := rfl
      rw [this, f1]
    rw [e, if_neg (by simp)]
    dsimp only
    have hg := got_aset ⟨d.files, false, a⟩ nm (recsB put ++ recsB l, (d.got nm).2)
    dsimp only at hg
    have hr : recsB (put ++ l) = recsB put ++ recsB l := recsB_app _ _
    have hbig : bigB (put ++ l) = false := by rw [bigB_app, h.small, hl]; (first | done | rfl)
    rcases begin_cases ⟨aset d.files nm (recsB put ++ recsB l, (d.got nm).2), false, a⟩ a0 a1 with ⟨hd2, _⟩ | ⟨_, ⟨a2, b0, b1, hb2⟩ | hb2⟩
    · cases hd2
    · left
      have e2 : (DS.mk (aset d.files nm (recsB put ++ recsB l, (d.got nm).2)) false a).sync nm = (0, ⟨aset (aset d.files nm (recsB put ++ recsB l, (d.got nm).2)) nm (recsB put ++ recsB l, ((recsB put ++ recsB l).size : Int)), false, a2⟩) := by
        unfold DS.sync; rw [hb2]
        simp only [beq_self_eq_true, if_true]
        rw [lookup_aset]; simp
      rw [e2]
      refine ⟨rfl, rfl, ⟨Nat.le_refl _, hbig, ⟨(put ++ l).length, Nat.le_refl _, Nat.le_refl _, ?_⟩, ⟨?_, ?_⟩, fun _ => rfl⟩, b0, b1⟩
      · rw [List.take_length, hr, got_aset ⟨aset d.files nm (recsB put ++ recsB l, (d.got nm).2), false, a2⟩]
      · rw [List.take_length, hr, got_aset ⟨aset d.files nm (recsB put ++ recsB l, (d.got nm).2), false, a2⟩]; exact Int.le_refl _
      · rw [got_aset ⟨aset d.files nm (recsB put ++ recsB l, (d.got nm).2), false, a2⟩]; exact Int.le_refl _
    · right
      have e2 : (DS.mk (aset d.files nm (recsB put ++ recsB l, (d.got nm).2)) false a).sync nm = (50, ⟨aset d.files nm (recsB put ++ recsB l, (d.got nm).2), true, 0⟩) := by
        unfold DS.sync; rw [hb2]; (first | done | rfl)
      rw [e2]
      refine ⟨rfl, rfl, by simp, by simp, fun _ => ?_, fun e => absurd hs e⟩
      have hg2 : (DS.mk (aset d.files nm (recsB put ++ recsB l, (d.got nm).2)) true 0).got nm = (recsB put ++ recsB l, (d.got nm).2) := hg
      have et : (put ++ l).take sure = put := by rw [← hs, List.take_left]
      refine ⟨by rw [List.length_append]; omega, hbig, ⟨(put ++ l).length, by rw [List.length_append]; omega, Nat.le_refl _, ?_⟩, ⟨?_, ?_⟩, fun e => by cases e⟩
      · rw [hg2, List.take_length, hr]
      · rw [hg2, et]; exact f2
      · rw [hg2]
        have := h.safe.2
        rw [f1] at this
        dsimp only
        rw [ByteArray.size_append]; omega
  · right
    have hs := h.up hd
    obtain ⟨f1, f2⟩ := h.file hs
    have e : d.append nm (recsB l) = (50, ⟨aset d.files nm (recsB put ++ recsB l, (d.got nm).2), true, 0⟩) := by
      unfold DS.append; rw [hb]
      simp only [Bool.or_true, if_true]
      have : (DS.mk d.files true 0).got nm = d.got nm := rfl
      rw [this, f1]
    rw [e, if_pos (by simp)]
    have hg2 : (DS.mk (aset d.files nm (recsB put ++ recsB l, (d.got nm).2)) true 0).got nm = (recsB put ++ recsB l, (d.got nm).2) := got_aset ⟨d.files, true, 0⟩ nm _
    have hr : recsB (put ++ l) = recsB put ++ recsB l := recsB_app _ _
    have hbig : bigB (put ++ l) = false := by rw [bigB_app, h.small, hl]; (first | done | rfl)
    have et : (put ++ l).take sure = put := by rw [← hs, List.take_left]
    refine ⟨rfl, rfl, by simp, by simp, fun _ => ?_, fun e => absurd hs e⟩
    refine ⟨by rw [List.length_append]; omega, hbig, ⟨(put ++ l).length, by rw [List.length_append]; omega, Nat.le_refl _, ?_⟩, ⟨?_, ?_⟩, fun e => by cases e⟩
    · rw [hg2, List.take_length, hr]
    · rw [hg2, et]; exact f2
    · rw [hg2]
      have := h.safe.2
      rw [f1] at this
      dsimp only
      rw [ByteArray.size_append]; omega
/-- a rewrite -/
theorem Kept.rewrites (h : Kept d nm put sure) (ha : 0 ≤ d.armed ∧ d.armed ≤ 9223372036854775807) (l : List ByteArray) :
    (0 ≤ (d.rewrites nm l).2.armed ∧ (d.rewrites nm l).2.armed ≤ 9223372036854775807) ∧ ((d.rewrites nm l).1 = 0 → Kept (d.rewrites nm l).2 nm l l.length) ∧ ((d.rewrites nm l).1 ≠ 0 → Kept (d.rewrites nm l).2 nm put sure) := by
  unfold DS.rewrites
  cases hl : bigB l with
  | true =>
    have hall : allB l = (⟨#[]⟩, 30) := by unfold allB; rw [if_pos hl]
    rw [hall, if_pos (by simp)]
    exact ⟨ha, fun e => by simp at e, fun _ => h⟩
  | false =>
    have hall : allB l = (recsB l, 0) := by unfold allB; rw [if_neg (by rw [hl]; simp)]
    rw [hall, if_neg (by simp)]
    dsimp only
    rcases begin_cases d ha.1 ha.2 with ⟨hd, hb⟩ | ⟨hd, ⟨a, a0, a1, hb⟩ | hb⟩
    · have e : d.swap nm (recsB l) = (50, d) := by unfold DS.swap; rw [hb]; (first | done | rfl)
      rw [e]
      exact ⟨ha, fun e => by simp at e, fun _ => h⟩
    · have e : d.swap nm (recsB l) = (0, ⟨aset d.files nm (recsB l, ((recsB l).size : Int)), false, a⟩) := by unfold DS.swap; rw [hb]; (first | done | rfl)
      rw [e]
      refine ⟨⟨a0, a1⟩, fun _ => ?_, fun e => absurd rfl e⟩
      have hg := got_aset ⟨d.files, false, a⟩ nm (recsB l, ((recsB l).size : Int))
      refine ⟨Nat.le_refl _, hl, ⟨l.length, Nat.le_refl _, Nat.le_refl _, by rw [List.take_length]; rw [hg]⟩, ⟨by rw [List.take_length]; rw [hg]; exact Int.le_refl _, by rw [hg]; exact Int.le_refl _⟩, fun _ => rfl⟩
    · have e : d.swap nm (recsB l) = (50, ⟨d.files, true, 0⟩) := by unfold DS.swap; rw [hb]; (first | done | rfl)
      rw [e]
      refine ⟨⟨by simp, by simp⟩, fun e => by simp at e, fun _ => ?_⟩
      exact ⟨h.le, h.small, h.data, h.safe, fun e => by cases e⟩
end
end Go.Proofs.YtcdggocbjnmeaaaGreat
end
section
set_option linter.unusedVariables false
set_option linter.unusedSimpArgs false
set_option maxHeartbeats 1000000
namespace Go.Proofs.YtcdggocbjnmeaaaGreat
open Fw Go
theorem lookup_zip (F : ByteArray → Nat → ByteArray × Int) (nm : ByteArray) : ∀ (l : List ByteArray) (k : Nat), nm ∈ l → ∃ i, ((l.zipIdx k).map fun p => (p.1, F p.1 p.2)).lookup nm = some (F nm i)
  | [], _, h => by simp at h
  | x :: l, k, h => by
    by_cases e : nm = x
    · subst e; exact ⟨k, by simp⟩
    · have e' : (nm == x) = false := by simpa using e
      obtain ⟨i, hi⟩ := lookup_zip F nm l (k + 1) (by simpa [e] using h)
      exact ⟨i, by simp [List.zipIdx_cons, List.lookup_cons, e', hi]⟩
theorem lookup_zip_none (F : ByteArray → Nat → ByteArray × Int) (nm : ByteArray) : ∀ (l : List ByteArray) (k : Nat), nm ∉ l → ((l.zipIdx k).map fun p => (p.1, F p.1 p.2)).lookup nm = none
  | [], _, h => by simp
  | x :: l, k, h => by
    simp only [List.mem_cons, not_or] at h
    have e' : (nm == x) = false := by simpa using h.1
    simp [List.zipIdx_cons, List.lookup_cons, e', lookup_zip_none F nm l (k + 1) h.2]
theorem lookup_mem {F : List (ByteArray × (ByteArray × Int))} {nm : ByteArray} {f : ByteArray × Int} (h : F.lookup nm = some f) : nm ∈ F.map (·.1) := by
  induction F with
  | nil => simp at h
  | cons p l ih =>
    obtain ⟨a, b⟩ := p
    by_cases e : nm = a
    · simp [e]
    · have e' : (nm == a) = false := by simpa using e
      simp only [List.lookup_cons, e'] at h
      exact List.mem_cons_of_mem _ (ih h)
/-- what is left of a file: at least what is safe of it -/
theorem crash_got {d : DS} (hok : d.Ok) (nm : ByteArray) (keep : List Int) : ∃ q : Nat, (d.crash keep).got nm = ((d.got nm).1.extract 0 q, (q : Int)) ∧ (d.got nm).2 ≤ q ∧ q ≤ (d.got nm).1.size := by
  cases hl : d.files.lookup nm with
  | none =>
    have hg : d.got nm = (⟨#[]⟩, 0) := by unfold DS.got; rw [hl]; (first | done | rfl)
    have hm : nm ∉ sortedKeys d.files := by
      intro hm
      have := (sortedKeys_perm d.files).mem_iff.1 hm
      obtain ⟨v, h1, _⟩ := mem_lookup this
      rw [hl] at h1; cases h1
    refine ⟨0, ?_, by rw [hg]; exact Int.le_refl _, Nat.zero_le _⟩
    rw [hg]
    have := lookup_zip_none (fun nm i => crashFile (d.got nm) keep[i]?) nm (sortedKeys d.files) 0 hm
    unfold DS.got
    show ((d.crashFiles keep).lookup nm).getD _ = _
    unfold DS.crashFiles
    rw [this]; (first | done | rfl)
  | some f =>
    have hg : d.got nm = f := by unfold DS.got; rw [hl]; (first | done | rfl)
    have hm := lookup_mem hl
    have hm2 : nm ∈ sortedKeys d.files := (sortedKeys_perm d.files).mem_iff.2 hm
    obtain ⟨i, hi⟩ := lookup_zip (fun nm i => crashFile (d.got nm) keep[i]?) nm _ 0 hm2
    rw [hg] at hi ⊢
    obtain ⟨v, h1, h2⟩ := mem_lookup hm
    rw [hl] at h1
    have h1 := Option.some.inj h1
    subst h1
    have hf := hok.file _ h2
    dsimp only at hf
    have hr := crashN_range hf keep[i]?
    have hw := crash_wrap hf keep[i]?
    refine ⟨(f.2 + crashN f keep[i]?).toNat, ?_, by omega, by omega⟩
    have e : ((f.2 + crashN f keep[i]?).toNat : Int) = f.2 + crashN f keep[i]? := by omega
    unfold DS.got
    show ((d.crashFiles keep).lookup nm).getD _ = _
    unfold DS.crashFiles
    rw [hi]
    show crashFile f keep[i]? = _
    unfold crashFile
    rw [hw, e]
theorem Kept.crash {d : DS} {nm : ByteArray} {put : List ByteArray} {sure : Nat} (h : Kept d nm put sure) (hok : d.Ok) (keep : List Int) :
    ∃ k, sure ≤ k ∧ k ≤ put.length ∧ ((d.crash keep).opens nm).1 = (put.take k, 0) ∧ Kept ((d.crash keep).opens nm).2 nm (put.take k) k ∧ ((d.crash keep).opens nm).2.armed = 0 := by
  obtain ⟨q, hq, hq1, hq2⟩ := crash_got hok nm keep
  obtain ⟨m, hm1, hm2, hm3⟩ := h.data
  rw [hm3] at hq hq2
  have hsmall := bigB_take h.small m
  obtain ⟨k, hk1, hk2, hk3⟩ := scanB_cut hsmall q
  have hkm : k ≤ m := by rw [List.length_take] at hk1; omega
  have htt : ∀ j, j ≤ m → (put.take m).take j = put.take j := fun j hj => by rw [List.take_take, Nat.min_eq_left hj]
  have hks : sure ≤ k := by
    refine hk3 sure ?_ (by rw [List.length_take]; omega)
    rw [htt sure hm1]
    have := h.safe.1
    omega
  rw [htt k hkm] at hk2
  have hkl : (put.take k).length = k := by rw [List.length_take]; omega
  have hqz : ((recsB (put.take m)).extract 0 q).size = q := by rw [ByteArray.size_extract]; omega
  have hspec := scanB_spec ((recsB (put.take m)).extract 0 q)
  have hle := scanB_le ((recsB (put.take m)).extract 0 q)
  rw [hk2, hqz] at hle
  rw [hk2] at hspec
  dsimp only at hspec hle
  obtain ⟨t, ht⟩ : ∃ t, (recsB (put.take m)).extract 0 q = t := ⟨_, rfl⟩
  rw [ht] at hq hk2 hspec hqz
  have hr : (d.crash keep).read nm = (t, 0) := by
    unfold DS.read
    have : (d.crash keep).down = false := rfl
    rw [this, if_neg (by simp), hq]
  refine ⟨k, hks, by omega, ?_⟩
  have hsm2 := bigB_take h.small k
  by_cases hc : (recsB (put.take k)).size < q
  · have hsw : (d.crash keep).swap nm (recsB (put.take k)) = (0, ⟨aset (d.crash keep).files nm (recsB (put.take k), ((recsB (put.take k)).size : Int)), false, 0⟩) := by
      unfold DS.swap DS.begin
      have : (d.crash keep).down = false := rfl
      have : (d.crash keep).armed = 0 := rfl
      simp only [DS.crash]
      simp
    have ho : (d.crash keep).opens nm = ((put.take k, 0), ⟨aset (d.crash keep).files nm (recsB (put.take k), ((recsB (put.take k)).size : Int)), false, 0⟩) := by
      unfold DS.opens
      rw [hr, if_neg (by simp)]
      dsimp only
      rw [hk2]
      dsimp only
      rw [if_pos (by rw [hqz]; exact hc), hspec, hsw, if_neg (by simp)]
    rw [ho]
    have hg := got_aset (d.crash keep) nm (recsB (put.take k), ((recsB (put.take k)).size : Int))
    have hg2 : (DS.mk (aset (d.crash keep).files nm (recsB (put.take k), ((recsB (put.take k)).size : Int))) false 0).got nm = (recsB (put.take k), ((recsB (put.take k)).size : Int)) := hg
    have htk : (put.take k).take k = put.take k := List.take_of_length_le (by omega)
    refine ⟨rfl, ⟨by omega, hsm2, ⟨k, Nat.le_refl _, by omega, by rw [hg2, htk]⟩, ⟨by rw [hg2, htk]; exact Int.le_refl _, by rw [hg2]; exact Int.le_refl _⟩, fun _ => hkl⟩, rfl⟩
  · have hqe : (recsB (put.take k)).size = q := by omega
    have hte : t = recsB (put.take k) := by
      rw [← hspec, hqe, ← hqz, ByteArray.extract_zero_size]
    have ho : (d.crash keep).opens nm = ((put.take k, 0), d.crash keep) := by
      unfold DS.opens
      rw [hr, if_neg (by simp)]
      dsimp only
      rw [hk2]
      dsimp only
      rw [if_neg (by rw [hqz]; exact hc)]
    rw [ho]
    have htk : (put.take k).take k = put.take k := List.take_of_length_le (by omega)
    refine ⟨rfl, ⟨by omega, hsm2, ⟨k, Nat.le_refl _, by omega, by dsimp only; rw [hq, hte, htk]⟩, ⟨by dsimp only; rw [hq, htk]; dsimp only; omega, by dsimp only; rw [hq]; dsimp only; rw [hqz]; exact Int.le_refl _⟩, fun _ => hkl⟩, rfl⟩
end Go.Proofs.YtcdggocbjnmeaaaGreat
end
section
set_option linter.unusedVariables false
set_option linter.unusedSimpArgs false
set_option maxHeartbeats 1000000
namespace Go.Proofs.YtcdggocbjnmeaaaGreat
open Fw Go
theorem allB_ok {l : List ByteArray} (h : bigB l = false) : allB l = (recsB l, 0) := by unfold allB; rw [if_neg (by rw [h]; simp)]
theorem puts_none {d : DS} {nm : ByteArray} {l : List ByteArray} (h : bigB l = false) (hl : l.length = 0) : d.puts nm l = (0, d) := by
  unfold DS.puts; rw [allB_ok h, if_pos (.inr hl)]
section
variable {d : DS} {nm : ByteArray} {put : List ByteArray} {sure : Nat}
theorem Kept.append (h : Kept d nm put sure) (ha : 0 ≤ d.armed ∧ d.armed ≤ 9223372036854775807) (l : List ByteArray) (hl : bigB l = false) :
    ((d.puts nm l).1 = 0 ∨ (d.puts nm l).1 = 50) ∧ (0 ≤ (d.puts nm l).2.armed ∧ (d.puts nm l).2.armed ≤ 9223372036854775807) ∧
    ((d.puts nm l).2.down = false → Kept (d.puts nm l).2 nm (put ++ l) (put ++ l).length) ∧
    ((d.puts nm l).2.down = true → put.length = sure → Kept (d.puts nm l).2 nm (put ++ l) sure) ∧
    ((d.puts nm l).2.down = true → put.length ≠ sure → Kept (d.puts nm l).2 nm put sure) := by
  by_cases h0 : l.length = 0
  · have e : l = [] := List.length_eq_zero_iff.1 h0
    rw [puts_none hl h0]
    dsimp only
    subst e
    rw [List.append_nil]
    refine ⟨.inl rfl, ha, fun hd => ?_, fun _ _ => h, fun _ _ => h⟩
    have := h.up hd
    rw [this]; exact h
  · rcases h.puts ha l hl h0 with ⟨h1, h2, h3, h4, h5⟩ | ⟨h1, h2, h3, h4, h5, h6⟩
    · exact ⟨.inl h1, ⟨h4, h5⟩, fun _ => h3, fun e => (by rw [h2] at e; cases e), fun e => (by rw [h2] at e; cases e)⟩
    · exact ⟨.inr h1, ⟨h3, h4⟩, fun e => (by rw [h2] at e; cases e), fun _ => h5, fun _ => h6⟩
theorem arm_files (n : Int) : (d.arm n).files = d.files ∧ (d.arm n).down = d.down := by
  unfold DS.arm; split <;> exact ⟨rfl, rfl⟩
theorem Kept.arm (h : Kept d nm put sure) (n : Int) : Kept (d.arm n) nm put sure := by
  obtain ⟨e1, e2⟩ := arm_files (d := d) n
  have eg : (d.arm n).got nm = d.got nm := by unfold DS.got; rw [e1]
  exact ⟨h.le, h.small, by rw [eg]; exact h.data, by rw [eg]; exact h.safe, by rw [e2]; exact h.up⟩
theorem Kept.start : Kept ⟨[], false, 0⟩ nm [] 0 := ⟨Nat.le_refl _, rfl, ⟨0, Nat.le_refl _, Nat.le_refl _, rfl⟩, ⟨Int.le_refl _, Int.le_refl _⟩, fun _ => rfl⟩
end
end Go.Proofs.YtcdggocbjnmeaaaGreat
end
section
set_option linter.unusedVariables false
set_option linter.unusedSimpArgs false
set_option maxHeartbeats 1000000
namespace Go.Proofs.YtcdggocbjnmeaaaGreat
open Fw Go
attribute [-simp] Fw.W.ld_iff Fw.W.st_iff
end Go.Proofs.YtcdggocbjnmeaaaGreat
end
section
set_option linter.unusedVariables false
set_option linter.unusedSimpArgs false
set_option maxHeartbeats 1000000
namespace Go.Proofs.YtcdggocbjnmeaaaGreat
open Fw Go
attribute [-simp] Fw.W.ld_iff Fw.W.st_iff
theorem recsB_one (t : ByteArray) : recsB [t] = recB t := by
  apply toL_inj; unfold recsB recB; rw [toL_ofL, toL_ofL]; simp [Strip.recs]
theorem recsB_snoc {l : List ByteArray} {i : Nat} {x : ByteArray} (h : l[i]? = some x) : recsB (l.take (i + 1)) = recsB (l.take i) ++ recB x := by
  rw [List.take_add_one, h, ← recsB_one]
  exact recsB_app _ _
theorem recsB_nil : recsB [] = ⟨#[]⟩ := rfl
theorem recsB_take_le (l : List ByteArray) (i : Nat) : (recsB (l.take i)).size ≤ (recsB l).size := by
  have : recsB l = recsB (l.take i) ++ recsB (l.drop i) := by rw [← recsB_app, List.take_append_drop]
  rw [this, ByteArray.size_append]; omega
theorem bigB_at {l : List ByteArray} {i : Nat} {x : ByteArray} (h : l[i]? = some x) (hx : 65536 < x.size) : bigB l = true := by
  unfold bigB; rw [List.any_eq_true]; exact ⟨x, List.mem_of_getElem? h, decide_eq_true hx⟩
theorem bigB_snoc {l : List ByteArray} {i : Nat} {x : ByteArray} (h : l[i]? = some x) (hb : bigB (l.take i) = false) (hx : ¬ 65536 < x.size) : bigB (l.take (i + 1)) = false := by
  rw [List.take_add_one, h, bigB_app, hb]
  simp [bigB, hx]
theorem c_records {s : PH} {x : Nat} {a : Option Addr} {n c : Nat} {l : List ByteArray} (h : elems (Rd.enc strE) s a n l) (hl : l.length ≤ 1099511627776) (hz : (recsB l).size ≤ 4611686018427387904) :
    DCalls Tryz.prog 98 #[dptr x, .slice a n c] s fun y s' => y = .tuple #[.string (allB l).1, .int .i64 (allB l).2] ∧ s' = s := by
  refine ok_records x a n c _ s ?_
  unfold vc_records
  have hn : n = l.length := h.1
  simp only [RP_ite, Option.isNone_some, W.br_false, RP_ret, RP_guard, RP_loop, RP_unSome, RP_ld, RP_call]
  refine ⟨fun z s' => ∃ i : Nat, z = ((recsB (l.take i), ()), ((a, n, c), ()), ((n : Int), ()), ((i : Int), ()), ()) ∧ i ≤ n ∧ bigB (l.take i) = false ∧ s' = s, fun z _ => n - z.2.2.2.1.1.toNat, ⟨0, by rw [List.take_zero, recsB_nil]; (first | done | rfl), Nat.zero_le _, rfl, rfl⟩, ?_⟩
  rintro _ s ⟨i, rfl, hi, hb, rfl⟩
  refine (W.br_iff _ _ _ _).2 ⟨fun hlt => ?_, fun hge => ?_⟩
  · have hlt : (i : Int) < (n : Int) := of_decide_eq_true hlt
    obtain ⟨t, ht⟩ : ∃ t, l[i]? = some t := ⟨_, List.getElem?_eq_getElem (by omega)⟩
    obtain ⟨ad, rfl, hh⟩ := h.at_enc ht
    dsimp only
    refine (W.guard_iff _ _ _).2 ⟨by omega, ?_⟩
    simp only [W.unSome_some, Int.toNat_natCast]
    refine ld_has_z hh (cs := [.str]) (y := (t, ())) rfl ?_
    refine W.call_of (c_Put t s) ?_
    rintro _ _ ⟨rfl, rfl⟩
    refine ⟨(((putE t).1, ()), ((putE t).2, ()), ()), rfl, ?_⟩
    refine (W.br_iff _ _ _ _).2 ⟨fun e => ?_, fun e => ?_⟩
    · have e : ((putE t).2 != 0) = true := e
      have hbig : 65536 < t.size := by
        unfold putE at e; split at e
        · assumption
        · simp at e
      have h1 : putE t = (⟨#[]⟩, 30) := by unfold putE; rw [if_pos hbig]
      have h2 : allB l = (⟨#[]⟩, 30) := by unfold allB; rw [if_pos (bigB_at ht hbig)]
      rw [h1, h2]; exact ⟨rfl, rfl⟩
    · have e : ((putE t).2 != 0) = false := e
      have hbig : ¬ 65536 < t.size := by
        intro hb2; unfold putE at e; rw [if_pos hb2] at e; simp at e
      have h1 : putE t = (recB t, 0) := by unfold putE; rw [if_neg hbig]
      rw [h1]
      have hs := recsB_snoc ht
      have hle := recsB_take_le l (i + 1)
      refine (W.guard_iff _ _ _).2 ⟨?_, ?_⟩
      · rw [← ByteArray.size_append, ← hs]; omega
      dsimp only
      rw [← hs, wrap_succ (k := i) (by omega)]
      exact ⟨⟨i + 1, rfl, by omega, bigB_snoc ht hb hbig, rfl⟩, by simp only [Int.toNat_natCast]; omega⟩
  · have hge : ¬ (i : Int) < (n : Int) := of_decide_eq_false hge
    rw [List.take_of_length_le (by omega)] at hb ⊢
    have h2 : allB l = (recsB l, 0) := by unfold allB; rw [if_neg (by rw [hb]; simp)]
    rw [h2]; exact ⟨rfl, rfl⟩
def DiaryIs (s : PH) (x b : Nat) (nm : ByteArray) : Prop := s x = some (.cells #[.pointer (some ⟨b, 0, none⟩), .string nm] 147 (0, 0))
/-- what an opening hands out -/
structure Opened (s : PH) (r : List ByteArray × Int) (D : Nat → PH → Prop) (y : Value) (s' : PH) : Prop where
  ex : ∃ px a c, y = .tuple #[.pointer px, .slice a r.1.length c, .int .i64 r.2] ∧ rowE strE s' 9 a r.1.length c r.1 ∧ (∀ g ∈ Fw.blk a, s g = none) ∧ ((r.2 = 0 ∧ ∃ x, px = some ⟨x, 0, none⟩ ∧ D x s' ∧ s x = none) ∨ (r.2 ≠ 0 ∧ px = none))
theorem DriveIs.known {s : PH} {b m : Nat} {d : DS} (h : DriveIs s b m d) : s b ≠ none ∧ s m ≠ none := ⟨by rw [h.blk]; simp, h.map.known⟩
theorem c_Open {s : PH} {b m : Nat} {d : DS} (h : DriveIs s b m d) (nm : ByteArray) (hz : (d.read nm).1.size ≤ 1099511627776) : DCalls Tryz.prog 57 #[dptr b, .string nm] s fun y s' =>
    Opened s (d.opens nm).1 (fun x s' => DiaryIs s' x b nm) y s' ∧ DriveIs s' b m (d.opens nm).2 ∧ Fw.Mod [b, m] s s' := by
  refine ok_Open b nm _ s ?_
  unfold vc_Open
  obtain ⟨O, ho⟩ : ∃ O, d.opens nm = O := ⟨_, rfl⟩
  rw [ho]
  unfold DS.opens at ho
  obtain ⟨R, hR⟩ : ∃ R : Value → PH → Prop, (fun y s' => Opened s O.1 (fun x s' => DiaryIs s' x b nm) y s' ∧ DriveIs s' b m O.2 ∧ Fw.Mod [b, m] s s') = R := ⟨_, rfl⟩
  rw [hR]
  simp only [RP_ite, RP_ret, RP_guard, RP_call, RP_nw]
  obtain ⟨t, e, hte⟩ : ∃ t e, d.read nm = (t, e) := ⟨_, _, rfl⟩
  have hrd := c_Read h nm
  rw [hte] at hrd hz ho
  dsimp only at hz ho
  refine W.call_of hrd ?_
  rintro _ s ⟨rfl, rfl⟩
  refine ⟨((t, ()), (e, ()), ()), rfl, ?_⟩
  refine (W.br_iff _ _ _ _).2 ⟨fun e1 => ?_, fun e1 => ?_⟩
  · have e1 : (e != 0) = true := e1
    have e1 : e ≠ 0 := by simpa using e1
    rw [if_pos e1] at ho
    rw [← hR]
    refine ⟨⟨none, none, 0, ?_, ?_, by simp [Fw.blk], .inr ?_⟩, ?_, Mod.refl _ _⟩
    · rw [← ho]; (first | done | rfl)
    · rw [← ho]; exact rowE.nil
    · rw [← ho]; exact ⟨e1, rfl⟩
    · rw [← ho]; exact h
  have e1 : (e != 0) = false := e1
  have e1 : e = 0 := by simpa using e1
  subst e1
  rw [if_neg (by simp)] at ho
  obtain ⟨l, k, hlk⟩ : ∃ l k, scanB t = (l, k) := ⟨_, _, rfl⟩
  have hsc := c_Scan t hz s
  have hkt := scanB_le t
  unfold ScanIs at hsc
  rw [hlk] at hsc ho hkt
  dsimp only at hsc ho hkt
  refine W.call_of hsc ?_
  rintro _ s1 ⟨a, c, rfl, hrow, hf, m1⟩
  refine ⟨(((a, l.length, c), ()), ((k : Int), ()), ()), rfl, ?_⟩
  have h1 := h.mod m1 (by simp) (by simp)
  refine (W.br_iff _ _ _ _).2 ⟨fun e2 => ?_, fun e2 => ?_⟩
  · have e2 : (k : Int) < (t.size : Int) := of_decide_eq_true e2
    rw [if_pos (by omega)] at ho
    dsimp only
    refine (W.guard_iff _ _ _).2 ⟨by omega, ?_⟩
    simp only [Int.toNat_natCast]
    obtain ⟨f, d', hd'⟩ : ∃ f d', d.swap nm (t.extract 0 k) = (f, d') := ⟨_, _, rfl⟩
    have hsw := c_Swap h1 nm (t.extract 0 k)
    rw [hd'] at hsw ho
    dsimp only at hsw ho
    refine W.call_of hsw ?_
    rintro _ s2 ⟨rfl, h2, m2⟩
    refine ⟨((f, ()), ()), rfl, ?_⟩
    have m12 : Fw.Mod [b, m] s s2 := (m1.mono (by simp)).trans m2
    refine (W.br_iff _ _ _ _).2 ⟨fun e3 => ?_, fun e3 => ?_⟩
    · have e3 : (f != 0) = true := e3
      have e3 : f ≠ 0 := by simpa using e3
      rw [if_pos e3] at ho
      rw [← hR]
      refine ⟨⟨none, none, 0, ?_, ?_, by simp [Fw.blk], .inr ?_⟩, ?_, m12⟩
      · rw [← ho]; (first | done | rfl)
      · rw [← ho]; exact rowE.nil
      · rw [← ho]; exact ⟨e3, rfl⟩
      · rw [← ho]; exact h2
    · have e3 : (f != 0) = false := e3
      have e3 : f = 0 := by simpa using e3
      subst e3
      rw [if_neg (by simp)] at ho
      refine W.nw_of fun x s3 hx m3 k3 => ?_
      have hdis : ∀ g ∈ Fw.blk a, g ∉ [b, m] := by
        intro g hg hg2
        have := hf g hg
        simp at hg2
        rcases hg2 with rfl | rfl
        · exact h.known.1 this
        · exact h.known.2 this
      rw [← hR]
      refine ⟨⟨some ⟨x, 0, none⟩, a, c, ?_, ?_, hf, .inl ⟨?_, x, rfl, k3, ?_⟩⟩, ?_, m12.trans (m3.mono (by simp))⟩
      · rw [← ho]
      · rw [← ho]; exact (hrow.mod m2 hdis).mod m3 (by simp)
      · rw [← ho]
      · have hxn : x ≠ b ∧ x ≠ m := ⟨fun e => by subst e; exact h2.known.1 hx, fun e => by subst e; exact h2.known.2 hx⟩
        exact m12.none hx (by simp [hxn.1, hxn.2])
      · rw [← ho]; exact h2.mod m3 (by simp) (by simp)
  · have e2 : ¬ (k : Int) < (t.size : Int) := of_decide_eq_false e2
    rw [if_neg (by omega)] at ho
    refine W.nw_of fun x s3 hx m3 k3 => ?_
    rw [← hR]
    refine ⟨⟨some ⟨x, 0, none⟩, a, c, ?_, ?_, hf, .inl ⟨?_, x, rfl, k3, ?_⟩⟩, ?_, (m1.trans m3).mono (by simp)⟩
    · rw [← ho]
    · rw [← ho]; exact hrow.mod m3 (by simp)
    · rw [← ho]
    · exact m1.none hx (by simp)
    · rw [← ho]; exact h1.mod m3 (by simp) (by simp)
theorem DiaryIs.mod {L : List Nat} {s s' : PH} {x b : Nat} {nm : ByteArray} (h : DiaryIs s x b nm) (m : Fw.Mod L s s') (hx : x ∉ L) : DiaryIs s' x b nm := m.at h hx
theorem DiaryIs.off {s : PH} {x b m : Nat} {nm : ByteArray} {d : DS} (h : DiaryIs s x b nm) (hd : DriveIs s b m d) : x ∉ [b, m] := by
  intro hx
  simp at hx
  rcases hx with rfl | rfl
  · have := hd.blk; unfold DiaryIs at h; rw [h] at this; cases this
  · obtain ⟨es, c, h1, _⟩ := hd.map; unfold DiaryIs at h; rw [h] at h1; cases h1
theorem c_dAppend {s : PH} {x b m : Nat} {d : DS} {nm : ByteArray} (hx : DiaryIs s x b nm) (h : DriveIs s b m d) {a : Option Addr} {n c : Nat} {l : List ByteArray} (hl : elems (Rd.enc strE) s a n l) (hll : l.length ≤ 1099511627776) (hz : (d.got nm).1.size + (recsB l).size ≤ 4611686018427387904) :
    DCalls Tryz.prog 63 #[dptr x, .slice a n c] s fun y s' => y = .int .i64 (d.puts nm l).1 ∧ DriveIs s' b m (d.puts nm l).2 ∧ Fw.Mod [b, m] s s' := by
  refine ok_dAppend x a n c _ s ?_
  unfold vc_dAppend
  have hn : n = l.length := hl.1
  obtain ⟨O, ho⟩ : ∃ O, d.puts nm l = O := ⟨_, rfl⟩
  rw [ho]
  unfold DS.puts at ho
  obtain ⟨R, hR⟩ : ∃ R : Value → PH → Prop, (fun y s' => y = .int .i64 O.1 ∧ DriveIs s' b m O.2 ∧ Fw.Mod [b, m] s s') = R := ⟨_, rfl⟩
  rw [hR]
  simp only [RP_ite, RP_ret, RP_guard, RP_call, RP_nw, RP_join, RP_unSome, RP_ld]
  refine W.call_of (c_records (x := x) (c := c) hl hll (by omega)) ?_
  rintro _ s ⟨rfl, rfl⟩
  refine ⟨(((allB l).1, ()), ((allB l).2, ()), ()), rfl, ?_⟩
  have hall : (allB l).2 = 0 → (allB l).1 = recsB l := by
    intro e; unfold allB at e ⊢
    split
    · rename_i hb; rw [if_pos hb] at e; simp at e
    · rfl
  obtain ⟨t, e, hte⟩ : ∃ t e, allB l = (t, e) := ⟨_, _, rfl⟩
  rw [hte] at ho hall ⊢
  dsimp only at ho hall
  refine W.join_gen (fun z s'' => z = ((t, ()), ()) ∧ s'' = s ∧ ¬ (e ≠ 0 ∨ l.length = 0)) ?_ ?_
  rotate_left
  · intro J hJ
    have hfin : (e ≠ 0 ∨ l.length = 0) → R (.int .i64 e) s := by
      intro hc
      rw [if_pos hc] at ho
      rw [← hR, ← ho]
      exact ⟨rfl, h, Mod.refl _ _⟩
    refine (W.br_iff _ _ _ _).2 ⟨fun e1 => hfin (.inl (by simpa using e1)), fun e1 => (W.br_iff _ _ _ _).2 ⟨fun e2 => hfin (.inr ?_), fun e2 => hJ _ _ ⟨rfl, rfl, ?_⟩⟩⟩
    · have e2 : (((n : Nat) : Int) == 0) = true := e2
      have : ((n : Nat) : Int) = 0 := eq_of_beq e2
      omega
    · have e1 : (e != 0) = false := e1
      have e2 : (((n : Nat) : Int) == 0) = false := e2
      have h1 : e = 0 := by simpa using e1
      have h2 : ((n : Nat) : Int) ≠ 0 := by simpa using e2
      omega
  rintro _ s2 ⟨rfl, rfl, hc⟩
  rw [if_neg hc] at ho
  have he0 : e = 0 := by omega
  have ht := hall he0
  subst ht
  have hb := hx
  unfold DiaryIs at hb
  simp only [W.unSome_some, add_mk, Nat.zero_add]
  rw [W.ld_at hb]
  refine ⟨(some ⟨b, 0, none⟩, ()), rfl, ?_⟩
  simp only [W.unSome_some, add_mk, Nat.zero_add]
  rw [W.ld_at hb]
  refine ⟨(nm, ()), rfl, ?_⟩
  refine W.call_of (c_Append h nm (recsB l) (by omega)) ?_
  rintro _ s3 ⟨rfl, h3, m3⟩
  obtain ⟨f, d', hd'⟩ : ∃ f d', d.append nm (recsB l) = (f, d') := ⟨_, _, rfl⟩
  rw [hd'] at h3 ho ⊢
  dsimp only at h3 ho ⊢
  refine ⟨((f, ()), ()), rfl, ?_⟩
  refine (W.br_iff _ _ _ _).2 ⟨fun e1 => ?_, fun e1 => ?_⟩
  · have e1 : (f != 0) = true := e1
    rw [if_pos (by simpa using e1)] at ho
    rw [← hR, ← ho]
    exact ⟨rfl, h3, m3⟩
  · have e1 : (f != 0) = false := e1
    rw [if_neg (by simpa using e1)] at ho
    have hb3 := hx.mod m3 (hx.off h)
    unfold DiaryIs at hb3
    simp only [W.unSome_some, add_mk, Nat.zero_add]
    rw [W.ld_at hb3]
    refine ⟨(some ⟨b, 0, none⟩, ()), rfl, ?_⟩
    simp only [W.unSome_some, add_mk, Nat.zero_add]
    rw [W.ld_at hb3]
    refine ⟨(nm, ()), rfl, ?_⟩
    refine W.call_of (c_Sync h3 nm) ?_
    rintro _ s4 ⟨rfl, h4, m4⟩
    refine ⟨(((d'.sync nm).1, ()), ()), rfl, ?_⟩
    rw [← hR, ← ho]
    exact ⟨rfl, h4, m3.trans m4⟩
theorem c_dRewrite {s : PH} {x b m : Nat} {d : DS} {nm : ByteArray} (hx : DiaryIs s x b nm) (h : DriveIs s b m d) {a : Option Addr} {n c : Nat} {l : List ByteArray} (hl : elems (Rd.enc strE) s a n l) (hll : l.length ≤ 1099511627776) (hz : (recsB l).size ≤ 4611686018427387904) :
    DCalls Tryz.prog 64 #[dptr x, .slice a n c] s fun y s' => y = .int .i64 (d.rewrites nm l).1 ∧ DriveIs s' b m (d.rewrites nm l).2 ∧ Fw.Mod [b, m] s s' := by
  refine ok_dRewrite x a n c _ s ?_
  unfold vc_dRewrite
  obtain ⟨O, ho⟩ : ∃ O, d.rewrites nm l = O := ⟨_, rfl⟩
  rw [ho]
  unfold DS.rewrites at ho
  obtain ⟨R, hR⟩ : ∃ R : Value → PH → Prop, (fun y s' => y = .int .i64 O.1 ∧ DriveIs s' b m O.2 ∧ Fw.Mod [b, m] s s') = R := ⟨_, rfl⟩
  rw [hR]
  simp only [RP_ite, RP_ret, RP_guard, RP_call, RP_nw, RP_join, RP_unSome, RP_ld]
  refine W.call_of (c_records (x := x) (c := c) hl hll hz) ?_
  rintro _ s ⟨rfl, rfl⟩
  refine ⟨(((allB l).1, ()), ((allB l).2, ()), ()), rfl, ?_⟩
  obtain ⟨t, e, hte⟩ : ∃ t e, allB l = (t, e) := ⟨_, _, rfl⟩
  rw [hte] at ho ⊢
  dsimp only at ho
  refine (W.br_iff _ _ _ _).2 ⟨fun e1 => ?_, fun e1 => ?_⟩
  · have e1 : (e != 0) = true := e1
    rw [if_pos (by simpa using e1)] at ho
    rw [← hR, ← ho]
    exact ⟨rfl, h, Mod.refl _ _⟩
  · have e1 : (e != 0) = false := e1
    rw [if_neg (by simpa using e1)] at ho
    have hb := hx
    unfold DiaryIs at hb
    simp only [W.unSome_some, add_mk, Nat.zero_add]
    rw [W.ld_at hb]
    refine ⟨(some ⟨b, 0, none⟩, ()), rfl, ?_⟩
    simp only [W.unSome_some, add_mk, Nat.zero_add]
    rw [W.ld_at hb]
    refine ⟨(nm, ()), rfl, ?_⟩
    refine W.call_of (c_Swap h nm t) ?_
    rintro _ s3 ⟨rfl, h3, m3⟩
    refine ⟨(((d.swap nm t).1, ()), ()), rfl, ?_⟩
    rw [← hR, ← ho]
    exact ⟨rfl, h3, m3⟩
end Go.Proofs.YtcdggocbjnmeaaaGreat
end
section
set_option linter.unusedVariables false
set_option linter.unusedSimpArgs false
set_option maxHeartbeats 1000000
set_option maxRecDepth 100000
namespace Go.Proofs.YtcdggocbjnmeaaaGreat
open Fw Go
def LOG : ByteArray := ⟨#[108, 111, 103]⟩
def encDB (D : Dl) : ByteArray := ofL (encD D)
def encMB (M : Msg) : ByteArray := ofL (encM M)
/-- what is committed at a ballot -/
def BS.texts (B : BS) : List ByteArray := (scanB B.snap).1 ++ ((B.log.take (B.commit - B.base).toNat).map (·.text)).filter fun t => t.size != 0
def snapOf (ts : List ByteArray) : ByteArray := ts.foldl (fun a t => a ++ (putE t).1) ⟨#[]⟩
/-- a node: its ballot, its drive, the changes that were put there -/
structure Nd where
  b : Option BS
  d : DS
  put : List Dl
def Nd.keeps (N : Nd) (D : Dl) : Int × DS := if D.whole = true then N.d.rewrites LOG [encDB D] else N.d.puts LOG [encDB D]
def Nd.okd (N : Nd) (B : BS) : Bool := !B.touched || (N.keeps B.deltaOf).1 == 0
/-- its ballot is B now: what has changed is kept, or the power goes -/
def Nd.saved (N : Nd) (B : BS) : Nd :=
  if B.touched = true then
    if (N.keeps B.deltaOf).1 = 0 then ⟨some B.cleaned, (N.keeps B.deltaOf).2, if B.deltaOf.whole = true then [B.deltaOf] else N.put ++ [B.deltaOf]⟩
    else ⟨none, (N.keeps B.deltaOf).2, if (N.keeps B.deltaOf).1 = 50 ∧ B.deltaOf.whole = false then N.put ++ [B.deltaOf] else N.put⟩
  else ⟨some B, N.d, N.put⟩
def Nd.start (N : Nd) (i size keep : Int) : Nd :=
  if ((N.d.crash [keep]).opens LOG).1.2 ≠ 0 then ⟨N.b, ((N.d.crash [keep]).opens LOG).2, N.put⟩
  else ⟨BS.loaded i size (N.put.take ((N.d.crash [keep]).opens LOG).1.1.length), ((N.d.crash [keep]).opens LOG).2, N.put.take ((N.d.crash [keep]).opens LOG).1.1.length⟩
structure Grp where
  nodes : List Nd
  bag : List Msg
  acts : Int
def Grp.done (G : Grp) (i : Nat) (N : Nd) (R : BS × List Msg) : Grp := { G with nodes := G.nodes.set i (N.saved R.1), bag := if N.okd R.1 = true then G.bag ++ R.2 else G.bag }
/-- an up node does something -/
def Grp.op (G : Grp) (i : Nat) (f : BS → BS × List Msg) : Grp :=
  match G.nodes[i]? with
  | some N => (match N.b with
    | some B => G.done i N (f B)
    | none => G)
  | none => G
def plc (a n : Int) : Int := if n = 0 then -1 else (IntKind.i64.wrap (a.tmod n + n)).tmod n
def BS.beat (B : BS) : BS × List Msg := (B, if B.role = 2 then B.feeds else [])
def BS.cutAll (B : BS) : BS × List Msg := (B.cut B.commit (snapOf B.texts), [])
def Grp.ndSet (G : Grp) (i : Nat) (f : Nd → Nd) : Grp :=
  match G.nodes[i]? with
  | some N => { G with nodes := G.nodes.set i (f N) }
  | none => G
def Grp.deliver (G : Grp) (m : Msg) : Grp := G.op m.to.toNat (·.take m)
def Grp.tick (G : Grp) : Grp := { G with acts := G.acts + 1 }
def Grp.does (G : Grp) (k a b : Int) (t : ByteArray) : Grp :=
  if k = 1 then (match G.bag[(plc a G.bag.length).toNat]? with | some m => ({ G with bag := G.bag.eraseIdx (plc a G.bag.length).toNat } : Grp).deliver m | none => G)
  else if k = 2 then (match G.bag[(plc a G.bag.length).toNat]? with | some m => G.deliver m | none => G)
  else if k = 3 then { G with bag := G.bag.eraseIdx (plc a G.bag.length).toNat }
  else if k = 4 then G.op (plc a G.nodes.length).toNat BS.timeout
  else if k = 5 then G.op (plc a G.nodes.length).toNat BS.beat
  else if k = 6 then (if 1 ≤ t.size ∧ t.size ≤ 256 then G.op (plc a G.nodes.length).toNat (fun B => (B.propose 0 G.acts t).2) else G)
  else if k = 7 then G.ndSet (plc a G.nodes.length).toNat (fun N => { N with b := none })
  else if k = 8 then G.ndSet (plc a G.nodes.length).toNat (fun N => if N.b.isSome = true then N else N.start (plc a G.nodes.length) G.nodes.length b)
  else if k = 9 then G.ndSet (plc a G.nodes.length).toNat (fun N => if N.b.isSome = true then { N with d := N.d.arm b } else N)
  else if k = 10 then G.op (plc a G.nodes.length).toNat BS.cutAll
  else G
def Grp.act (G : Grp) (k a b : Int) (t : ByteArray) : Grp := G.tick.does k a b t
def Nd.none : Nd := ⟨.none, ⟨[], false, 0⟩, []⟩
def Grp.new (n : Nat) : Grp := ⟨(List.range n).map fun (i : Nat) => Nd.none.start i n 0, [], 0⟩
def Grp.all : Nat → Grp → Bool × Grp
  | 0, G => (G.bag.isEmpty, G)
  | f + 1, G => if G.bag.isEmpty = true then (true, G) else Grp.all f (G.act 1 0 0 ⟨#[]⟩)
def Grp.txt (G : Grp) (i : Nat) : List ByteArray := match G.nodes[i]? with | some N => (match N.b with | some B => B.texts | .none => []) | .none => []
def awA : Grp := (Grp.new 3).act 4 0 0 ⟨#[]⟩
def awB : Bool × Grp := awA.all 100
def awC : Grp := awB.2.act 6 0 0 ⟨#[120]⟩
def awD : Bool × Grp := awC.all 100
def roleAt (G : Grp) (i : Nat) : Option Int := match G.nodes[i]? with | some N => N.b.map (·.role) | .none => .none
def awOk : Bool := awB.1 && roleAt awB.2 0 == some 2 && awD.1 && awD.2.txt 1 == [⟨#[120]⟩] && awD.2.txt 2 == [⟨#[120]⟩]
end Go.Proofs.YtcdggocbjnmeaaaGreat
end
section
set_option linter.unusedVariables false
set_option maxHeartbeats 1000000
namespace Go.Proofs.YtcdggocbjnmeaaaGreat
open Fw Fw.W Go
/-- lintel/post.New -/
def vc_pNew {W : Type} (π : Prims W) : W :=
  π.nw (Obj.cells #[(Value.slice (none) ((0 : Nat)) ((0 : Nat)))] (104 : Nat) ((0 : Nat), (0 : Nat))) fun r0 =>
  π.ret (Value.pointer (some (Addr.mk r0 (0 : Nat) none)))
def ann_pNew : Ann := { draws := [], join := [], loop := [] }
def la_pNew : LA := { ptr := [], ty := [] }
set_option maxRecDepth 100000 in
theorem eq_pNew {W : Type} (π : Prims W) : bodyL π Tryz.prog la_pNew ann_pNew (mkFr (maskA [] [] 0) 3) Tryz.f36 (bodyOf Tryz.f36) (mkFr (List.map some []) 3) = vc_pNew π := by kernel_rfl
theorem ok_pNew (R : Value → PH → Prop) (s : PH) (h : vc_pNew (RP Tryz.prog R) s) : DCalls Tryz.prog 36 (List.map AV.val []).toArray s R :=
  calls_vcL (c := bodyOf Tryz.f36) (ann := ann_pNew) la_pNew (by kernel_rfl) Tryz.func36 rfl (by kernel_rfl) [] [] (by rw [Tryz.ntmps36]; exact Nat.le_of_ble_eq_true rfl) (by kernel_rfl) (by rw [show Tryz.f36.ntmps = 3 from Tryz.ntmps36, eq_pNew]; exact h)
/-- (*lintel/post.Post).Send -/
def vc_pSend {W : Type} (π : Prims W) (p : Nat) (lf lt : Int) (lx : ByteArray) : W :=
  π.ite (!(some (Addr.mk p (0 : Nat) none)).isNone) (
    π.unSome (some (Addr.mk p (0 : Nat) none)) fun p0 =>
    π.ld [.slice] (p0.add (0 : Nat)) fun (((a1 : Option Addr), (n2 : Nat), (c3 : Nat)), _) =>
    π.nw (Obj.cells #[(Value.int (IntKind.i64) (lf)), (Value.int (IntKind.i64) (lt)), (Value.string (lx))] (78 : Nat) ((0 : Nat), (0 : Nat))) fun r4 =>
    π.app (78 : Nat) (3 : Nat) (32 : Nat) [(Value.int (IntKind.i64) ((0 : Int))), (Value.int (IntKind.i64) ((0 : Int))), (Value.string (ByteArray.mk #[]))] (a1) (n2) (c3) (Src.sl (some (Addr.mk r4 (0 : Nat) none)) (1 : Nat)) fun a5 n6 c7 =>
    π.unSome (some (Addr.mk p (0 : Nat) none)) fun p8 =>
    π.st (p8.add (0 : Nat)) [(Value.slice (a5) (n6) (c7))] <|
    π.ret (Value.tuple #[])
  ) (
    π.ret (Value.tuple #[])
  )
def ann_pSend : Ann := { draws := [(2, { A := [0, 1, 2, 3, 4, 5], eag := [8, 9] })], join := [], loop := [] }
def la_pSend : LA := { ptr := [(3, 3, 0)], ty := [(3, 78)] }
set_option maxRecDepth 100000 in
theorem eq_pSend {W : Type} (π : Prims W) (p : Nat) (lf lt : Int) (lx : ByteArray) : bodyL π Tryz.prog la_pSend ann_pSend (mkFr (maskA [] [.v (.pointer (some ⟨p, 0, none⟩)), .v (.agg #[.int .i64 lf, .int .i64 lt, .string lx])] 0) 16) Tryz.f66 (bodyOf Tryz.f66) (mkFr (List.map some [.v (.pointer (some ⟨p, 0, none⟩)), .v (.agg #[.int .i64 lf, .int .i64 lt, .string lx])]) 16) = vc_pSend π p lf lt lx := by kernel_rfl
theorem ok_pSend (p : Nat) (lf lt : Int) (lx : ByteArray) (R : Value → PH → Prop) (s : PH) (h : vc_pSend (RP Tryz.prog R) p lf lt lx s) : DCalls Tryz.prog 66 (List.map AV.val [.v (.pointer (some ⟨p, 0, none⟩)), .v (.agg #[.int .i64 lf, .int .i64 lt, .string lx])]).toArray s R :=
  calls_vcL (c := bodyOf Tryz.f66) (ann := ann_pSend) la_pSend (by kernel_rfl) Tryz.func66 rfl (by kernel_rfl) [.v (.pointer (some ⟨p, 0, none⟩)), .v (.agg #[.int .i64 lf, .int .i64 lt, .string lx])] [] (by rw [Tryz.ntmps66]; exact Nat.le_of_ble_eq_true rfl) (by kernel_rfl) (by rw [show Tryz.f66.ntmps = 16 from Tryz.ntmps66, eq_pSend]; exact h)
/-- (*lintel/post.Post).Len -/
def vc_pLen {W : Type} (π : Prims W) (p : Nat) : W :=
  π.ite ((some (Addr.mk p (0 : Nat) none)).isNone) (
    π.ret (Value.int (IntKind.i64) ((0 : Int)))
  ) (
    π.unSome (some (Addr.mk p (0 : Nat) none)) fun p0 =>
    π.ld [.slice] (p0.add (0 : Nat)) fun (((a1 : Option Addr), (n2 : Nat), (c3 : Nat)), _) =>
    π.ret (Value.int (IntKind.i64) ((↑n2 : Int)))
  )
def ann_pLen : Ann := { draws := [], join := [], loop := [] }
def la_pLen : LA := { ptr := [], ty := [] }
set_option maxRecDepth 100000 in
theorem eq_pLen {W : Type} (π : Prims W) (p : Nat) : bodyL π Tryz.prog la_pLen ann_pLen (mkFr (maskA [] [.v (.pointer (some ⟨p, 0, none⟩))] 0) 10) Tryz.f39 (bodyOf Tryz.f39) (mkFr (List.map some [.v (.pointer (some ⟨p, 0, none⟩))]) 10) = vc_pLen π p := by kernel_rfl
theorem ok_pLen (p : Nat) (R : Value → PH → Prop) (s : PH) (h : vc_pLen (RP Tryz.prog R) p s) : DCalls Tryz.prog 39 (List.map AV.val [.v (.pointer (some ⟨p, 0, none⟩))]).toArray s R :=
  calls_vcL (c := bodyOf Tryz.f39) (ann := ann_pLen) la_pLen (by kernel_rfl) Tryz.func39 rfl (by kernel_rfl) [.v (.pointer (some ⟨p, 0, none⟩))] [] (by rw [Tryz.ntmps39]; exact Nat.le_of_ble_eq_true rfl) (by kernel_rfl) (by rw [show Tryz.f39.ntmps = 10 from Tryz.ntmps39, eq_pLen]; exact h)
/-- (*lintel/post.Post).Take -/
def vc_pTake {W : Type} (π : Prims W) (p : Nat) (i : Int) : W :=
  π.call (43 : Nat) #[(Value.pointer (some (Addr.mk p (0 : Nat) none))), (Value.int (IntKind.i64) (i))] (true, [(true, [.int .i64, .int .i64, .str]), (false, [.bool])]) fun (((x0 : Int), (x1 : Int), (t2 : ByteArray), _), ((b3 : Bool), _), _) =>
  π.ite (b3) (
    π.unSome (some (Addr.mk p (0 : Nat) none)) fun p4 =>
    π.ld [.slice] (p4.add (0 : Nat)) fun (((a5 : Option Addr), (n6 : Nat), (c7 : Nat)), _) =>
    π.guard ((0 : Int) ≤ i ∧ i ≤ (↑n6 : Int) ∧ (↑n6 : Int) ≤ (↑c7 : Int)) <|
    π.unSome (some (Addr.mk p (0 : Nat) none)) fun p8 =>
    π.ld [.slice] (p8.add (0 : Nat)) fun (((a9 : Option Addr), (n10 : Nat), (c11 : Nat)), _) =>
    π.guard ((0 : Int) ≤ IntKind.i64.wrap (i + (1 : Int)) ∧ IntKind.i64.wrap (i + (1 : Int)) ≤ (↑n10 : Int) ∧ (↑n10 : Int) ≤ (↑c11 : Int)) <|
    π.cpy (3 : Nat) (if c7 = i.toNat then a5 else Option.map (fun x => x.add (i.toNat * (3 : Nat))) a5) ((↑n6 : Int).toNat - i.toNat) (if c11 = (IntKind.i64.wrap (i + (1 : Int))).toNat then a9 else Option.map (fun x => x.add ((IntKind.i64.wrap (i + (1 : Int))).toNat * (3 : Nat))) a9) ((↑n10 : Int).toNat - (IntKind.i64.wrap (i + (1 : Int))).toNat) fun n12 =>
    π.unSome (some (Addr.mk p (0 : Nat) none)) fun p13 =>
    π.ld [.slice] (p13.add (0 : Nat)) fun (((a14 : Option Addr), (n15 : Nat), (c16 : Nat)), _) =>
    π.unSome (some (Addr.mk p (0 : Nat) none)) fun p17 =>
    π.ld [.slice] (p17.add (0 : Nat)) fun (((a18 : Option Addr), (n19 : Nat), (c20 : Nat)), _) =>
    π.guard ((0 : Int) ≤ (0 : Int) ∧ (0 : Int) ≤ IntKind.i64.wrap ((↑n19 : Int) - (1 : Int)) ∧ IntKind.i64.wrap ((↑n19 : Int) - (1 : Int)) ≤ (↑c16 : Int)) <|
    π.unSome (some (Addr.mk p (0 : Nat) none)) fun p21 =>
    π.st (p21.add (0 : Nat)) [(Value.slice (if c16 = (0 : Nat) then a14 else Option.map (fun x => x.add (0 : Nat)) a14) ((IntKind.i64.wrap ((↑n19 : Int) - (1 : Int))).toNat - (0 : Nat)) (c16 - (0 : Nat)))] <|
    π.ret (Value.tuple #[(Value.agg #[(Value.int (IntKind.i64) (x0)), (Value.int (IntKind.i64) (x1)), (Value.string (t2))]), (Value.bool (b3))])
  ) (
    π.ret (Value.tuple #[(Value.agg #[(Value.int (IntKind.i64) (x0)), (Value.int (IntKind.i64) (x1)), (Value.string (t2))]), (Value.bool (b3))])
  )
def ann_pTake : Ann := { draws := [(3, { A := [0, 1, 2, 3, 4, 5, 6, 7, 8, 9, 10, 11, 12] }), (4, { A := [0, 1, 2, 3, 4, 5, 6, 7, 8, 9, 10, 11, 12, 13] })], join := [], loop := [] }
def la_pTake : LA := { ptr := [(4, 4, 0), (6, 6, 0)], ty := [(4, 78), (6, 78)] }
set_option maxRecDepth 100000 in
theorem eq_pTake {W : Type} (π : Prims W) (p : Nat) (i : Int) : bodyL π Tryz.prog la_pTake ann_pTake (mkFr (maskA [] [.v (.pointer (some ⟨p, 0, none⟩)), .v (.int .i64 i)] 0) 45) Tryz.f41 (bodyOf Tryz.f41) (mkFr (List.map some [.v (.pointer (some ⟨p, 0, none⟩)), .v (.int .i64 i)]) 45) = vc_pTake π p i := by kernel_rfl
theorem ok_pTake (p : Nat) (i : Int) (R : Value → PH → Prop) (s : PH) (h : vc_pTake (RP Tryz.prog R) p i s) : DCalls Tryz.prog 41 (List.map AV.val [.v (.pointer (some ⟨p, 0, none⟩)), .v (.int .i64 i)]).toArray s R :=
  calls_vcL (c := bodyOf Tryz.f41) (ann := ann_pTake) la_pTake (by kernel_rfl) Tryz.func41 rfl (by kernel_rfl) [.v (.pointer (some ⟨p, 0, none⟩)), .v (.int .i64 i)] [] (by rw [Tryz.ntmps41]; exact Nat.le_of_ble_eq_true rfl) (by kernel_rfl) (by rw [show Tryz.f41.ntmps = 45 from Tryz.ntmps41, eq_pTake]; exact h)
/-- (*lintel/post.Post).Copy -/
def vc_pCopy {W : Type} (π : Prims W) (p : Nat) (i : Int) : W :=
  π.ite (decide (i < (0 : Int))) (
    π.ret (Value.tuple #[(Value.agg #[(Value.int (IntKind.i64) ((0 : Int))), (Value.int (IntKind.i64) ((0 : Int))), (Value.string (ByteArray.mk #[]))]), (Value.bool (false))])
  ) (
    π.call (39 : Nat) #[(Value.pointer (some (Addr.mk p (0 : Nat) none)))] (false, [(false, [.int .i64])]) fun (((x0 : Int), _), _) =>
    π.ite (decide (i ≥ x0)) (
      π.ret (Value.tuple #[(Value.agg #[(Value.int (IntKind.i64) ((0 : Int))), (Value.int (IntKind.i64) ((0 : Int))), (Value.string (ByteArray.mk #[]))]), (Value.bool (false))])
    ) (
      π.unSome (some (Addr.mk p (0 : Nat) none)) fun p1 =>
      π.ld [.slice] (p1.add (0 : Nat)) fun (((a2 : Option Addr), (n3 : Nat), (c4 : Nat)), _) =>
      π.guard ((0 : Int) ≤ i ∧ i < (↑n3 : Int)) <|
      π.unSome (a2) fun p5 =>
      π.ld [.int .i64, .int .i64, .str] (p5.add (i.toNat * (3 : Nat))) fun ((x6 : Int), (x7 : Int), (t8 : ByteArray), _) =>
      π.ret (Value.tuple #[(Value.agg #[(Value.int (IntKind.i64) (x6)), (Value.int (IntKind.i64) (x7)), (Value.string (t8))]), (Value.bool (true))])
    )
  )
def ann_pCopy : Ann := { draws := [], join := [], loop := [] }
def la_pCopy : LA := { ptr := [(4, 4, 0)], ty := [(4, 78)] }
set_option maxRecDepth 100000 in
theorem eq_pCopy {W : Type} (π : Prims W) (p : Nat) (i : Int) : bodyL π Tryz.prog la_pCopy ann_pCopy (mkFr (maskA [] [.v (.pointer (some ⟨p, 0, none⟩)), .v (.int .i64 i)] 0) 22) Tryz.f43 (bodyOf Tryz.f43) (mkFr (List.map some [.v (.pointer (some ⟨p, 0, none⟩)), .v (.int .i64 i)]) 22) = vc_pCopy π p i := by kernel_rfl
theorem ok_pCopy (p : Nat) (i : Int) (R : Value → PH → Prop) (s : PH) (h : vc_pCopy (RP Tryz.prog R) p i s) : DCalls Tryz.prog 43 (List.map AV.val [.v (.pointer (some ⟨p, 0, none⟩)), .v (.int .i64 i)]).toArray s R :=
  calls_vcL (c := bodyOf Tryz.f43) (ann := ann_pCopy) la_pCopy (by kernel_rfl) Tryz.func43 rfl (by kernel_rfl) [.v (.pointer (some ⟨p, 0, none⟩)), .v (.int .i64 i)] [] (by rw [Tryz.ntmps43]; exact Nat.le_of_ble_eq_true rfl) (by kernel_rfl) (by rw [show Tryz.f43.ntmps = 22 from Tryz.ntmps43, eq_pCopy]; exact h)
/-- (*lintel/post.Post).Lose -/
def vc_pLose {W : Type} (π : Prims W) (p : Nat) (i : Int) : W :=
  π.call (41 : Nat) #[(Value.pointer (some (Addr.mk p (0 : Nat) none))), (Value.int (IntKind.i64) (i))] (true, [(true, [.int .i64, .int .i64, .str]), (false, [.bool])]) fun (((x0 : Int), (x1 : Int), (t2 : ByteArray), _), ((b3 : Bool), _), _) =>
  π.ret (Value.bool (b3))
def ann_pLose : Ann := { draws := [], join := [], loop := [] }
def la_pLose : LA := { ptr := [(5, 5, 0)], ty := [(5, 78)] }
set_option maxRecDepth 100000 in
theorem eq_pLose {W : Type} (π : Prims W) (p : Nat) (i : Int) : bodyL π Tryz.prog la_pLose ann_pLose (mkFr (maskA [] [.v (.pointer (some ⟨p, 0, none⟩)), .v (.int .i64 i)] 0) 14) Tryz.f44 (bodyOf Tryz.f44) (mkFr (List.map some [.v (.pointer (some ⟨p, 0, none⟩)), .v (.int .i64 i)]) 14) = vc_pLose π p i := by kernel_rfl
theorem ok_pLose (p : Nat) (i : Int) (R : Value → PH → Prop) (s : PH) (h : vc_pLose (RP Tryz.prog R) p i s) : DCalls Tryz.prog 44 (List.map AV.val [.v (.pointer (some ⟨p, 0, none⟩)), .v (.int .i64 i)]).toArray s R :=
  calls_vcL (c := bodyOf Tryz.f44) (ann := ann_pLose) la_pLose (by kernel_rfl) Tryz.func44 rfl (by kernel_rfl) [.v (.pointer (some ⟨p, 0, none⟩)), .v (.int .i64 i)] [] (by rw [Tryz.ntmps44]; exact Nat.le_of_ble_eq_true rfl) (by kernel_rfl) (by rw [show Tryz.f44.ntmps = 14 from Tryz.ntmps44, eq_pLose]; exact h)
/-- lintel/group.New -/
def vc_gNew {W : Type} (π : Prims W) (size : Int) : W :=
  π.join [] (fun J0 =>
    π.ite (decide (size < (1 : Int))) (
      π.ret (Value.tuple #[(Value.pointer (none)), (Value.int (IntKind.i64) ((1 : Int)))])
    ) (
      π.ite (decide (size > (5 : Int))) (
        π.ret (Value.tuple #[(Value.pointer (none)), (Value.int (IntKind.i64) ((1 : Int)))])
      ) (
        J0 (())
      )
    )
  ) (fun (_) =>
    π.join [(false, [.ptr])] (fun J1 =>
      π.both (
        π.mksl (74 : Nat) (3 : Nat) (24 : Nat) [(Value.pointer (none)), (Value.pointer (none)), (Value.pointer (none))] (size) (size) fun r2 =>
        π.call (36 : Nat) #[] (false, [(false, [.ptr])]) fun ((p3, _), _) =>
        π.nw (Obj.cells #[(Value.slice (some (Addr.mk r2 (0 : Nat) none)) (size.toNat) (size.toNat)), (Value.pointer (p3)), (Value.int (IntKind.i64) ((0 : Int)))] (61 : Nat) ((0 : Nat), (0 : Nat))) fun r4 =>
        J1 ((some (Addr.mk r4 (0 : Nat) none), ()), ())
      ) (
        π.call (36 : Nat) #[] (false, [(false, [.ptr])]) fun ((p5, _), _) =>
        π.mksl (74 : Nat) (3 : Nat) (24 : Nat) [(Value.pointer (none)), (Value.pointer (none)), (Value.pointer (none))] (size) (size) fun r6 =>
        π.nw (Obj.cells #[(Value.slice (some (Addr.mk r6 (0 : Nat) none)) (size.toNat) (size.toNat)), (Value.pointer (p5)), (Value.int (IntKind.i64) ((0 : Int)))] (61 : Nat) ((0 : Nat), (0 : Nat))) fun r7 =>
        J1 ((some (Addr.mk r7 (0 : Nat) none), ()), ())
      )
    ) (fun ((p8, _), _) =>
      π.unSome (p8) fun p9 =>
      π.ld [.slice] (p9.add (0 : Nat)) fun (((a10 : Option Addr), (n11 : Nat), (c12 : Nat)), _) =>
      π.loop [(false, [.ptr]), (false, [.int .i64]), (false, [.int .i64])] ((p8, ()), ((↑n11 : Int), ()), ((0 : Int), ()), ()) fun ((p14, _), ((x15 : Int), _), ((x16 : Int), _), _) again13 =>
        π.ite (decide (x16 < x15)) (
          π.unSome (p14) fun p17 =>
          π.ld [.slice] (p17.add (0 : Nat)) fun (((a18 : Option Addr), (n19 : Nat), (c20 : Nat)), _) =>
          π.call (37 : Nat) #[] (false, [(false, [.ptr])]) fun ((p21, _), _) =>
          π.still [.slice] (p17.add (0 : Nat)) ((a18, n19, c20), ()) <|
          π.guard ((0 : Int) ≤ x16 ∧ x16 < (↑n19 : Int)) <|
          π.unSome (a18) fun p22 =>
          π.st ((p22.add (x16.toNat * (3 : Nat))).add (1 : Nat)) [(Value.pointer (p21))] <|
          π.call (38 : Nat) #[(Value.pointer (p14)), (Value.int (IntKind.i64) (x16)), (Value.int (IntKind.i64) ((0 : Int)))] (true, []) fun (_) =>
          again13 ((p14, ()), (x15, ()), (IntKind.i64.wrap (x16 + (1 : Int)), ()), ())
        ) (
          π.ret (Value.tuple #[(Value.pointer (p14)), (Value.int (IntKind.i64) ((0 : Int)))])
        )
    )
  )
def ann_gNew : Ann := { draws := [(3, { A := [0], eag := [3, 5] }), (7, { A := [0, 1, 2, 3, 4], chkL := [(5, [3])], eag := [6, 7] })], join := [(3, []), (4, [(4, 23)])], loop := [(5, [(4, 23), (21, 3), (22, 3)])] }
def la_gNew : LA := { ptr := [], ty := [] }
set_option maxRecDepth 100000 in
theorem eq_gNew {W : Type} (π : Prims W) (size : Int) : bodyL π Tryz.prog la_gNew ann_gNew (mkFr (maskA [] [.v (.int .i64 size)] 0) 38) Tryz.f18 (bodyOf Tryz.f18) (mkFr (List.map some [.v (.int .i64 size)]) 38) = vc_gNew π size := by kernel_rfl
theorem ok_gNew (size : Int) (R : Value → PH → Prop) (s : PH) (h : vc_gNew (RP Tryz.prog R) size s) : DCalls Tryz.prog 18 (List.map AV.val [.v (.int .i64 size)]).toArray s R :=
  calls_vcL (c := bodyOf Tryz.f18) (ann := ann_gNew) la_gNew (by kernel_rfl) Tryz.func18 rfl (by kernel_rfl) [.v (.int .i64 size)] [] (by rw [Tryz.ntmps18]; exact Nat.le_of_ble_eq_true rfl) (by kernel_rfl) (by rw [show Tryz.f18.ntmps = 38 from Tryz.ntmps18, eq_gNew]; exact h)
/-- (*lintel/group.Group).start -/
def vc_gstart {W : Type} (π : Prims W) (g : Nat) (i keep : Int) : W :=
  π.unSome (some (Addr.mk g (0 : Nat) none)) fun p0 =>
  π.ld [.slice] (p0.add (0 : Nat)) fun (((a1 : Option Addr), (n2 : Nat), (c3 : Nat)), _) =>
  π.guard ((0 : Int) ≤ i ∧ i < (↑n2 : Int)) <|
  π.unSome (a1) fun p4 =>
  π.unSome (some (p4.add (i.toNat * (3 : Nat)))) fun p5 =>
  π.ld [.ptr] (p5.add (1 : Nat)) fun (p6, _) =>
  π.nw (Obj.cells #[(Value.int (IntKind.i64) (keep))] (3 : Nat) ((0 : Nat), (0 : Nat))) fun r7 =>
  π.call (56 : Nat) #[(Value.pointer (p6)), (Value.slice (some (Addr.mk r7 (0 : Nat) none)) ((1 : Nat)) ((1 : Nat)))] (false, [(false, [.ptr])]) fun ((p8, _), _) =>
  π.unSome (some (p4.add (i.toNat * (3 : Nat)))) fun p9 =>
  π.st (p9.add (1 : Nat)) [(Value.pointer (p8))] <|
  π.unSome (some (p4.add (i.toNat * (3 : Nat)))) fun p10 =>
  π.ld [.ptr] (p10.add (1 : Nat)) fun (p11, _) =>
  π.call (57 : Nat) #[(Value.pointer (p11)), (Value.string (ByteArray.mk #[(108 : UInt8), (111 : UInt8), (103 : UInt8)]))] (true, [(false, [.ptr]), (false, [.slice]), (false, [.int .i64])]) fun ((p12, _), (((a13 : Option Addr), (n14 : Nat), (c15 : Nat)), _), ((x16 : Int), _), _) =>
  π.ite (x16 != (0 : Int)) (
    π.ret (Value.tuple #[])
  ) (
    π.loop [(false, [.ptr]), (false, [.ptr]), (false, [.slice]), (false, [.slice]), (false, [.int .i64]), (false, [.int .i64])] ((some (p4.add (i.toNat * (3 : Nat))), ()), (p12, ()), ((none, (0 : Nat), (0 : Nat)), ()), ((a13, n14, c15), ()), ((↑n14 : Int), ()), ((0 : Int), ()), ()) fun ((p18, _), (p19, _), (((a20 : Option Addr), (n21 : Nat), (c22 : Nat)), _), (((a23 : Option Addr), (n24 : Nat), (c25 : Nat)), _), ((x26 : Int), _), ((x27 : Int), _), _) again17 =>
      π.ite (decide (x27 < x26)) (
        π.guard ((0 : Int) ≤ x27 ∧ x27 < (↑n24 : Int)) <|
        π.unSome (a23) fun p28 =>
        π.ld [.str] (p28.add (x27.toNat * (1 : Nat))) fun ((t29 : ByteArray), _) =>
        π.call (58 : Nat) #[(Value.string (t29))] (true, [(true, [.int .i64, .int .i64, .bool, .int .i64, .int .i64, .str, .int .i64, .slice]), (false, [.int .i64])]) fun (((x30 : Int), (x31 : Int), (b32 : Bool), (x33 : Int), (x34 : Int), (t35 : ByteArray), (x36 : Int), ((a37 : Option Addr), (n38 : Nat), (c39 : Nat)), _), ((x40 : Int), _), _) =>
        π.nw (Obj.cells #[(Value.int (IntKind.i64) (x30)), (Value.int (IntKind.i64) (x31)), (Value.bool (b32)), (Value.int (IntKind.i64) (x33)), (Value.int (IntKind.i64) (x34)), (Value.string (t35)), (Value.int (IntKind.i64) (x36)), (Value.slice (a37) (n38) (c39))] (113 : Nat) ((0 : Nat), (0 : Nat))) fun r41 =>
        π.app (113 : Nat) (8 : Nat) (88 : Nat) [(Value.int (IntKind.i64) ((0 : Int))), (Value.int (IntKind.i64) ((0 : Int))), (Value.bool (false)), (Value.int (IntKind.i64) ((0 : Int))), (Value.int (IntKind.i64) ((0 : Int))), (Value.string (ByteArray.mk #[])), (Value.int (IntKind.i64) ((0 : Int))), (Value.slice (none) ((0 : Nat)) ((0 : Nat)))] (a20) (n21) (c22) (Src.sl (some (Addr.mk r41 (0 : Nat) none)) (1 : Nat)) fun a42 n43 c44 =>
        again17 ((p18, ()), (p19, ()), ((a42, n43, c44), ()), ((a23, n24, c25), ()), (x26, ()), (IntKind.i64.wrap (x27 + (1 : Int)), ()), ())
      ) (
        π.unSome (p18) fun p45 =>
        π.st (p45.add (2 : Nat)) [(Value.pointer (p19))] <|
        π.unSome (some (Addr.mk g (0 : Nat) none)) fun p46 =>
        π.ld [.slice] (p46.add (0 : Nat)) fun (((a47 : Option Addr), (n48 : Nat), (c49 : Nat)), _) =>
        π.call (59 : Nat) #[(Value.int (IntKind.i64) (i)), (Value.int (IntKind.i64) ((↑n48 : Int))), (Value.slice (a20) (n21) (c22))] (true, [(false, [.ptr]), (false, [.int .i64])]) fun ((p50, _), ((x51 : Int), _), _) =>
        π.unSome (p18) fun p52 =>
        π.st (p52.add (0 : Nat)) [(Value.pointer (p50))] <|
        π.ret (Value.tuple #[])
      )
  )
def ann_gstart : Ann := { draws := [], join := [], loop := [(6, [(6, 83), (7, 72), (10, 111), (42, 28), (43, 3), (44, 3)])] }
def la_gstart : LA := { ptr := [(13, 13, 0)], ty := [(13, 113)] }
set_option maxRecDepth 100000 in
theorem eq_gstart {W : Type} (π : Prims W) (g : Nat) (i keep : Int) : bodyL π Tryz.prog la_gstart ann_gstart (mkFr (maskA [] [.v (.pointer (some ⟨g, 0, none⟩)), .v (.int .i64 i), .v (.int .i64 keep)] 0) 76) Tryz.f38 (bodyOf Tryz.f38) (mkFr (List.map some [.v (.pointer (some ⟨g, 0, none⟩)), .v (.int .i64 i), .v (.int .i64 keep)]) 76) = vc_gstart π g i keep := by kernel_rfl
theorem ok_gstart (g : Nat) (i keep : Int) (R : Value → PH → Prop) (s : PH) (h : vc_gstart (RP Tryz.prog R) g i keep s) : DCalls Tryz.prog 38 (List.map AV.val [.v (.pointer (some ⟨g, 0, none⟩)), .v (.int .i64 i), .v (.int .i64 keep)]).toArray s R :=
  calls_vcL (c := bodyOf Tryz.f38) (ann := ann_gstart) la_gstart (by kernel_rfl) Tryz.func38 rfl (by kernel_rfl) [.v (.pointer (some ⟨g, 0, none⟩)), .v (.int .i64 i), .v (.int .i64 keep)] [] (by rw [Tryz.ntmps38]; exact Nat.le_of_ble_eq_true rfl) (by kernel_rfl) (by rw [show Tryz.f38.ntmps = 76 from Tryz.ntmps38, eq_gstart]; exact h)
/-- lintel/group.place -/
def vc_place {W : Type} (π : Prims W) (a n : Int) : W :=
  π.ite (n == (0 : Int)) (
    π.ret (Value.int (IntKind.i64) ((-1 : Int)))
  ) (
    π.guard (n ≠ (0 : Int)) <|
    π.guard (n ≠ (0 : Int)) <|
    π.ret (Value.int (IntKind.i64) (if false = true then IntKind.i64.wrap ((IntKind.i64.wrap ((if false = true then IntKind.i64.wrap (a.tdiv n) else a.tmod n) + n)).tdiv n) else (IntKind.i64.wrap ((if false = true then IntKind.i64.wrap (a.tdiv n) else a.tmod n) + n)).tmod n))
  )
def ann_place : Ann := { draws := [], join := [], loop := [] }
def la_place : LA := { ptr := [], ty := [] }
set_option maxRecDepth 100000 in
theorem eq_place {W : Type} (π : Prims W) (a n : Int) : bodyL π Tryz.prog la_place ann_place (mkFr (maskA [] [.v (.int .i64 a), .v (.int .i64 n)] 0) 14) Tryz.f42 (bodyOf Tryz.f42) (mkFr (List.map some [.v (.int .i64 a), .v (.int .i64 n)]) 14) = vc_place π a n := by kernel_rfl
theorem ok_place (a n : Int) (R : Value → PH → Prop) (s : PH) (h : vc_place (RP Tryz.prog R) a n s) : DCalls Tryz.prog 42 (List.map AV.val [.v (.int .i64 a), .v (.int .i64 n)]).toArray s R :=
  calls_vcL (c := bodyOf Tryz.f42) (ann := ann_place) la_place (by kernel_rfl) Tryz.func42 rfl (by kernel_rfl) [.v (.int .i64 a), .v (.int .i64 n)] [] (by rw [Tryz.ntmps42]; exact Nat.le_of_ble_eq_true rfl) (by kernel_rfl) (by rw [show Tryz.f42.ntmps = 14 from Tryz.ntmps42, eq_place]; exact h)
/-- (*lintel/group.Group).Do -/
def vc_gDo {W : Type} (π : Prims W) (g : Nat) (ak aa ab : Int) (at_ : ByteArray) : W :=
  π.ite ((some (Addr.mk g (0 : Nat) none)).isNone) (
    π.ret (Value.tuple #[])
  ) (
    π.unSome (some (Addr.mk g (0 : Nat) none)) fun p0 =>
    π.ld [.int .i64] (p0.add (2 : Nat)) fun ((x1 : Int), _) =>
    π.unSome (some (Addr.mk g (0 : Nat) none)) fun p2 =>
    π.st (p2.add (2 : Nat)) [(Value.int (IntKind.i64) (IntKind.i64.wrap (x1 + (1 : Int))))] <|
    π.nw (Obj.cells #[(Value.nilFunc ), (Value.nilFunc ), (Value.nilFunc ), (Value.nilFunc ), (Value.nilFunc ), (Value.nilFunc ), (Value.nilFunc ), (Value.nilFunc ), (Value.nilFunc ), (Value.nilFunc )] (63 : Nat) ((0 : Nat), (0 : Nat))) fun r3 =>
    π.st (Addr.mk r3 (0 : Nat) none) [(Value.func (Fn.func (22 : Nat)) #[] #[]), (Value.func (Fn.func (23 : Nat)) #[] #[]), (Value.func (Fn.func (24 : Nat)) #[] #[]), (Value.func (Fn.func (25 : Nat)) #[] #[]), (Value.func (Fn.func (26 : Nat)) #[] #[]), (Value.func (Fn.func (27 : Nat)) #[] #[]), (Value.func (Fn.func (28 : Nat)) #[] #[]), (Value.func (Fn.func (29 : Nat)) #[] #[]), (Value.func (Fn.func (30 : Nat)) #[] #[]), (Value.func (Fn.func (31 : Nat)) #[] #[])] <|
    π.join [(true, [.int .i64, .int .i64, .int .i64, .str]), (false, [.addr]), (false, [.bool])] (fun J4 =>
      π.ite (decide (ak ≥ (1 : Int))) (
        J4 ((ak, aa, ab, at_, ()), (Addr.mk r3 (0 : Nat) none, ()), (decide (ak ≤ (10 : Int)), ()), ())
      ) (
        J4 ((ak, aa, ab, at_, ()), (Addr.mk r3 (0 : Nat) none, ()), (false, ()), ())
      )
    ) (fun (((x5 : Int), (x6 : Int), (x7 : Int), (t8 : ByteArray), _), (p9, _), ((b10 : Bool), _), _) =>
      π.ite (b10) (
        π.guard ((0 : Int) ≤ IntKind.i64.wrap (x5 - (1 : Int)) ∧ IntKind.i64.wrap (x5 - (1 : Int)) < (10 : Int)) <|
        π.ld [.raw] (p9.add ((IntKind.i64.wrap (x5 - (1 : Int))).toNat * (1 : Nat))) fun ((v11 : Value), _) =>
        π.callV v11 #[(Value.pointer (some (Addr.mk g (0 : Nat) none))), (Value.agg #[(Value.int (IntKind.i64) (x5)), (Value.int (IntKind.i64) (x6)), (Value.int (IntKind.i64) (x7)), (Value.string (t8))])] (true, []) fun (_) =>
        π.ret (Value.tuple #[])
      ) (
        π.ret (Value.tuple #[])
      )
    )
  )
def ann_gDo : Ann := { draws := [(5, { A := [0, 1, 2, 3, 4, 5, 6] })], join := [(5, [(3, 30), (4, 1000000), (22, 4)])], loop := [] }
def la_gDo : LA := { ptr := [(3, 3, 0), (15, 3, 0), (19, 3, 0), (23, 3, 0)], ty := [(3, 30)] }
set_option maxRecDepth 100000 in
theorem eq_gDo {W : Type} (π : Prims W) (g : Nat) (ak aa ab : Int) (at_ : ByteArray) : bodyL π Tryz.prog la_gDo ann_gDo (mkFr (maskA [] [.v (.pointer (some ⟨g, 0, none⟩)), .v (.agg #[.int .i64 ak, .int .i64 aa, .int .i64 ab, .string at_])] 0) 31) Tryz.f11 (bodyOf Tryz.f11) (mkFr (List.map some [.v (.pointer (some ⟨g, 0, none⟩)), .v (.agg #[.int .i64 ak, .int .i64 aa, .int .i64 ab, .string at_])]) 31) = vc_gDo π g ak aa ab at_ := by kernel_rfl
theorem ok_gDo (g : Nat) (ak aa ab : Int) (at_ : ByteArray) (R : Value → PH → Prop) (s : PH) (h : vc_gDo (RP Tryz.prog R) g ak aa ab at_ s) : DCalls Tryz.prog 11 (List.map AV.val [.v (.pointer (some ⟨g, 0, none⟩)), .v (.agg #[.int .i64 ak, .int .i64 aa, .int .i64 ab, .string at_])]).toArray s R :=
  calls_vcL (c := bodyOf Tryz.f11) (ann := ann_gDo) la_gDo (by kernel_rfl) Tryz.func11 rfl (by kernel_rfl) [.v (.pointer (some ⟨g, 0, none⟩)), .v (.agg #[.int .i64 ak, .int .i64 aa, .int .i64 ab, .string at_])] [] (by rw [Tryz.ntmps11]; exact Nat.le_of_ble_eq_true rfl) (by kernel_rfl) (by rw [show Tryz.f11.ntmps = 31 from Tryz.ntmps11, eq_gDo]; exact h)
/-- (*lintel/group.Group).Do -/
def vc_gDoNil {W : Type} (π : Prims W) (ak aa ab : Int) (at_ : ByteArray) : W :=
  π.ite (true) (
    π.ret (Value.tuple #[])
  ) (
    π.unSome (none) fun p0 =>
    π.ld [.int .i64] (p0.add (2 : Nat)) fun ((x1 : Int), _) =>
    π.unSome (none) fun p2 =>
    π.st (p2.add (2 : Nat)) [(Value.int (IntKind.i64) (IntKind.i64.wrap (x1 + (1 : Int))))] <|
    π.nw (Obj.cells #[(Value.nilFunc ), (Value.nilFunc ), (Value.nilFunc ), (Value.nilFunc ), (Value.nilFunc ), (Value.nilFunc ), (Value.nilFunc ), (Value.nilFunc ), (Value.nilFunc ), (Value.nilFunc )] (63 : Nat) ((0 : Nat), (0 : Nat))) fun r3 =>
    π.st (Addr.mk r3 (0 : Nat) none) [(Value.func (Fn.func (22 : Nat)) #[] #[]), (Value.func (Fn.func (23 : Nat)) #[] #[]), (Value.func (Fn.func (24 : Nat)) #[] #[]), (Value.func (Fn.func (25 : Nat)) #[] #[]), (Value.func (Fn.func (26 : Nat)) #[] #[]), (Value.func (Fn.func (27 : Nat)) #[] #[]), (Value.func (Fn.func (28 : Nat)) #[] #[]), (Value.func (Fn.func (29 : Nat)) #[] #[]), (Value.func (Fn.func (30 : Nat)) #[] #[]), (Value.func (Fn.func (31 : Nat)) #[] #[])] <|
    π.join [(true, [.int .i64, .int .i64, .int .i64, .str]), (false, [.addr]), (false, [.bool])] (fun J4 =>
      π.ite (decide (ak ≥ (1 : Int))) (
        J4 ((ak, aa, ab, at_, ()), (Addr.mk r3 (0 : Nat) none, ()), (decide (ak ≤ (10 : Int)), ()), ())
      ) (
        J4 ((ak, aa, ab, at_, ()), (Addr.mk r3 (0 : Nat) none, ()), (false, ()), ())
      )
    ) (fun (((x5 : Int), (x6 : Int), (x7 : Int), (t8 : ByteArray), _), (p9, _), ((b10 : Bool), _), _) =>
      π.ite (b10) (
        π.guard ((0 : Int) ≤ IntKind.i64.wrap (x5 - (1 : Int)) ∧ IntKind.i64.wrap (x5 - (1 : Int)) < (10 : Int)) <|
        π.ld [.raw] (p9.add ((IntKind.i64.wrap (x5 - (1 : Int))).toNat * (1 : Nat))) fun ((v11 : Value), _) =>
        π.callV v11 #[(Value.pointer (none)), (Value.agg #[(Value.int (IntKind.i64) (x5)), (Value.int (IntKind.i64) (x6)), (Value.int (IntKind.i64) (x7)), (Value.string (t8))])] (true, []) fun (_) =>
        π.ret (Value.tuple #[])
      ) (
        π.ret (Value.tuple #[])
      )
    )
  )
def ann_gDoNil : Ann := { draws := [(5, { A := [0, 1, 2, 3, 4, 5, 6] })], join := [(5, [(3, 30), (4, 1000000), (22, 4)])], loop := [] }
def la_gDoNil : LA := { ptr := [(3, 3, 0), (15, 3, 0), (19, 3, 0), (23, 3, 0)], ty := [(3, 30)] }
set_option maxRecDepth 100000 in
theorem eq_gDoNil {W : Type} (π : Prims W) (ak aa ab : Int) (at_ : ByteArray) : bodyL π Tryz.prog la_gDoNil ann_gDoNil (mkFr (maskA [] [.v (.pointer none), .v (.agg #[.int .i64 ak, .int .i64 aa, .int .i64 ab, .string at_])] 0) 31) Tryz.f11 (bodyOf Tryz.f11) (mkFr (List.map some [.v (.pointer none), .v (.agg #[.int .i64 ak, .int .i64 aa, .int .i64 ab, .string at_])]) 31) = vc_gDoNil π ak aa ab at_ := by kernel_rfl
theorem ok_gDoNil (ak aa ab : Int) (at_ : ByteArray) (R : Value → PH → Prop) (s : PH) (h : vc_gDoNil (RP Tryz.prog R) ak aa ab at_ s) : DCalls Tryz.prog 11 (List.map AV.val [.v (.pointer none), .v (.agg #[.int .i64 ak, .int .i64 aa, .int .i64 ab, .string at_])]).toArray s R :=
  calls_vcL (c := bodyOf Tryz.f11) (ann := ann_gDoNil) la_gDoNil (by kernel_rfl) Tryz.func11 rfl (by kernel_rfl) [.v (.pointer none), .v (.agg #[.int .i64 ak, .int .i64 aa, .int .i64 ab, .string at_])] [] (by rw [Tryz.ntmps11]; exact Nat.le_of_ble_eq_true rfl) (by kernel_rfl) (by rw [show Tryz.f11.ntmps = 31 from Tryz.ntmps11, eq_gDoNil]; exact h)
/-- (*lintel/group.Group).node -/
def vc_gnode {W : Type} (π : Prims W) (g : Nat) (ak aa ab : Int) (at_ : ByteArray) : W :=
  π.unSome (some (Addr.mk g (0 : Nat) none)) fun p0 =>
  π.ld [.slice] (p0.add (0 : Nat)) fun (((a1 : Option Addr), (n2 : Nat), (c3 : Nat)), _) =>
  π.unSome (some (Addr.mk g (0 : Nat) none)) fun p4 =>
  π.ld [.slice] (p4.add (0 : Nat)) fun (((a5 : Option Addr), (n6 : Nat), (c7 : Nat)), _) =>
  π.callQ (42 : Nat) #[(Value.int (IntKind.i64) (aa)), (Value.int (IntKind.i64) ((↑n6 : Int)))] (false, [(false, [.int .i64])]) fun (((x8 : Int), _), _) =>
  π.guard ((0 : Int) ≤ x8 ∧ x8 < (↑n2 : Int)) <|
  π.unSome (a1) fun p9 =>
  π.unSome (some (p9.add (x8.toNat * (3 : Nat)))) fun p10 =>
  π.ld [.ptr] (p10.add (0 : Nat)) fun (p11, _) =>
  π.ite (p11.isNone) (
    π.ret (Value.pointer (none))
  ) (
    π.ret (Value.pointer (some (p9.add (x8.toNat * (3 : Nat)))))
  )
def ann_gnode : Ann := { draws := [(1, { A := [0, 1, 2, 3, 4, 5, 6, 7, 8, 9, 10, 11, 12, 13], quiet := [11] })], join := [], loop := [] }
def la_gnode : LA := { ptr := [(3, 3, 0), (10, 3, 1)], ty := [(3, 30)] }
set_option maxRecDepth 100000 in
theorem eq_gnode {W : Type} (π : Prims W) (g : Nat) (ak aa ab : Int) (at_ : ByteArray) : bodyL π Tryz.prog la_gnode ann_gnode (mkFr (maskA [] [.v (.pointer (some ⟨g, 0, none⟩)), .v (.agg #[.int .i64 ak, .int .i64 aa, .int .i64 ab, .string at_])] 0) 25) Tryz.f45 (bodyOf Tryz.f45) (mkFr (List.map some [.v (.pointer (some ⟨g, 0, none⟩)), .v (.agg #[.int .i64 ak, .int .i64 aa, .int .i64 ab, .string at_])]) 25) = vc_gnode π g ak aa ab at_ := by kernel_rfl
theorem ok_gnode (g : Nat) (ak aa ab : Int) (at_ : ByteArray) (R : Value → PH → Prop) (s : PH) (h : vc_gnode (RP Tryz.prog R) g ak aa ab at_ s) : DCalls Tryz.prog 45 (List.map AV.val [.v (.pointer (some ⟨g, 0, none⟩)), .v (.agg #[.int .i64 ak, .int .i64 aa, .int .i64 ab, .string at_])]).toArray s R :=
  calls_vcL (c := bodyOf Tryz.f45) (ann := ann_gnode) la_gnode (by kernel_rfl) Tryz.func45 rfl (by kernel_rfl) [.v (.pointer (some ⟨g, 0, none⟩)), .v (.agg #[.int .i64 ak, .int .i64 aa, .int .i64 ab, .string at_])] [] (by rw [Tryz.ntmps45]; exact Nat.le_of_ble_eq_true rfl) (by kernel_rfl) (by rw [show Tryz.f45.ntmps = 25 from Tryz.ntmps45, eq_gnode]; exact h)
/-- (*lintel/group.Group).done -/
def vc_gdone {W : Type} (π : Prims W) (g : Nat) (p : Addr) (o : Option Addr) (on oc : Nat) : W :=
  π.join [] (fun J0 =>
    π.unSome (some p) fun p1 =>
    π.ld [.ptr] (p1.add (0 : Nat)) fun (p2, _) =>
    π.call (62 : Nat) #[(Value.pointer (p2))] (true, [(true, [.int .i64, .int .i64, .bool, .int .i64, .int .i64, .str, .int .i64, .slice]), (false, [.bool])]) fun (((x3 : Int), (x4 : Int), (b5 : Bool), (x6 : Int), (x7 : Int), (t8 : ByteArray), (x9 : Int), ((a10 : Option Addr), (n11 : Nat), (c12 : Nat)), _), ((b13 : Bool), _), _) =>
    π.ite (b13) (
      π.unSome (some p) fun p14 =>
      π.ld [.ptr] (p14.add (2 : Nat)) fun (p15, _) =>
      π.join [(true, [.int .i64, .int .i64, .bool, .int .i64, .int .i64, .str, .int .i64, .slice]), (false, [.raw])] (fun J16 =>
        π.ite (b5) (
          π.unSome (some p) fun p17 =>
          π.ld [.ptr] (p17.add (2 : Nat)) fun (p18, _) =>
          J16 ((x3, x4, b5, x6, x7, t8, x9, (a10, n11, c12), ()), ((Value.func (Fn.func (64 : Nat)) #[(Value.pointer (p18))] #[]), ()), ())
        ) (
          J16 ((x3, x4, b5, x6, x7, t8, x9, (a10, n11, c12), ()), ((Value.func (Fn.func (63 : Nat)) #[(Value.pointer (p15))] #[]), ()), ())
        )
      ) (fun (((x19 : Int), (x20 : Int), (b21 : Bool), (x22 : Int), (x23 : Int), (t24 : ByteArray), (x25 : Int), ((a26 : Option Addr), (n27 : Nat), (c28 : Nat)), _), ((v29 : Value), _), _) =>
        π.call (65 : Nat) #[(Value.agg #[(Value.int (IntKind.i64) (x19)), (Value.int (IntKind.i64) (x20)), (Value.bool (b21)), (Value.int (IntKind.i64) (x22)), (Value.int (IntKind.i64) (x23)), (Value.string (t24)), (Value.int (IntKind.i64) (x25)), (Value.slice (a26) (n27) (c28))])] (false, [(false, [.str])]) fun (((t30 : ByteArray), _), _) =>
        π.nw (Obj.cells #[(Value.string (t30))] (9 : Nat) ((0 : Nat), (0 : Nat))) fun r31 =>
        π.callV v29 #[(Value.slice (some (Addr.mk r31 (0 : Nat) none)) ((1 : Nat)) ((1 : Nat)))] (false, [(false, [.int .i64])]) fun (((x32 : Int), _), _) =>
        π.ite (x32 != (0 : Int)) (
          π.unSome (some p) fun p33 =>
          π.st (p33.add (0 : Nat)) [(Value.pointer (none))] <|
          π.ret (Value.tuple #[])
        ) (
          J0 (())
        )
      )
    ) (
      J0 (())
    )
  ) (fun (_) =>
    π.loop [(false, [.slice]), (false, [.int .i64]), (false, [.int .i64])] (((o, on, oc), ()), ((↑on : Int), ()), ((0 : Int), ()), ()) fun ((((a35 : Option Addr), (n36 : Nat), (c37 : Nat)), _), ((x38 : Int), _), ((x39 : Int), _), _) again34 =>
      π.ite (decide (x39 < x38)) (
        π.guard ((0 : Int) ≤ x39 ∧ x39 < (↑n36 : Int)) <|
        π.unSome (a35) fun p40 =>
        π.ld [.int .i64, .int .i64, .int .i64, .int .i64, .int .i64, .int .i64, .int .i64, .bool, .slice, .str] (p40.add (x39.toNat * (10 : Nat))) fun ((x41 : Int), (x42 : Int), (x43 : Int), (x44 : Int), (x45 : Int), (x46 : Int), (x47 : Int), (b48 : Bool), ((a49 : Option Addr), (n50 : Nat), (c51 : Nat)), (t52 : ByteArray), _) =>
        π.unSome (some (Addr.mk g (0 : Nat) none)) fun p53 =>
        π.ld [.ptr] (p53.add (1 : Nat)) fun (p54, _) =>
        π.call (67 : Nat) #[(Value.agg #[(Value.int (IntKind.i64) (x41)), (Value.int (IntKind.i64) (x42)), (Value.int (IntKind.i64) (x43)), (Value.int (IntKind.i64) (x44)), (Value.int (IntKind.i64) (x45)), (Value.int (IntKind.i64) (x46)), (Value.int (IntKind.i64) (x47)), (Value.bool (b48)), (Value.slice (a49) (n50) (c51)), (Value.string (t52))])] (false, [(false, [.str])]) fun (((t55 : ByteArray), _), _) =>
        π.still [.ptr] (p53.add (1 : Nat)) (p54, ()) <|
        π.call (66 : Nat) #[(Value.pointer (p54)), (Value.agg #[(Value.int (IntKind.i64) (x42)), (Value.int (IntKind.i64) (x43)), (Value.string (t55))])] (true, []) fun (_) =>
        again34 (((a35, n36, c37), ()), (x38, ()), (IntKind.i64.wrap (x39 + (1 : Int)), ()), ())
      ) (
        π.ret (Value.tuple #[])
      )
  )
def ann_gdone : Ann := { draws := [(10, { A := [0, 1, 2, 3, 4, 5, 6, 7, 8], chkL := [(9, [3, 5, 7])], eag := [10] })], join := [(5, [(6, 113), (8, 125)]), (7, [])], loop := [(8, [(41, 86), (42, 3), (43, 3)])] }
def la_gdone : LA := { ptr := [(6, 6, 0), (10, 10, 0), (25, 6, 2), (51, 10, 1), (53, 10, 2)], ty := [(6, 113), (10, 119)] }
set_option maxRecDepth 100000 in
theorem eq_gdone {W : Type} (π : Prims W) (g : Nat) (p : Addr) (o : Option Addr) (on oc : Nat) : bodyL π Tryz.prog la_gdone ann_gdone (mkFr (maskA [] [.v (.pointer (some ⟨g, 0, none⟩)), .v (.pointer (some p)), .v (.slice o on oc)] 0) 60) Tryz.f46 (bodyOf Tryz.f46) (mkFr (List.map some [.v (.pointer (some ⟨g, 0, none⟩)), .v (.pointer (some p)), .v (.slice o on oc)]) 60) = vc_gdone π g p o on oc := by kernel_rfl
theorem ok_gdone (g : Nat) (p : Addr) (o : Option Addr) (on oc : Nat) (R : Value → PH → Prop) (s : PH) (h : vc_gdone (RP Tryz.prog R) g p o on oc s) : DCalls Tryz.prog 46 (List.map AV.val [.v (.pointer (some ⟨g, 0, none⟩)), .v (.pointer (some p)), .v (.slice o on oc)]).toArray s R :=
  calls_vcL (c := bodyOf Tryz.f46) (ann := ann_gdone) la_gdone (by kernel_rfl) Tryz.func46 rfl (by kernel_rfl) [.v (.pointer (some ⟨g, 0, none⟩)), .v (.pointer (some p)), .v (.slice o on oc)] [] (by rw [Tryz.ntmps46]; exact Nat.le_of_ble_eq_true rfl) (by kernel_rfl) (by rw [show Tryz.f46.ntmps = 60 from Tryz.ntmps46, eq_gdone]; exact h)
/-- (*lintel/group.Group).deliver -/
def vc_gdeliver {W : Type} (π : Prims W) (g : Nat) (lf lt : Int) (lx : ByteArray) (ok : Bool) : W :=
  π.unSome (some (Addr.mk g (0 : Nat) none)) fun p0 =>
  π.ld [.slice] (p0.add (0 : Nat)) fun (((a1 : Option Addr), (n2 : Nat), (c3 : Nat)), _) =>
  π.guard ((0 : Int) ≤ lt ∧ lt < (↑n2 : Int)) <|
  π.unSome (a1) fun p4 =>
  π.join [(true, [.int .i64, .int .i64, .str]), (false, [.ptr]), (false, [.bool])] (fun J5 =>
    π.ite (ok) (
      π.unSome (some (p4.add (lt.toNat * (3 : Nat)))) fun p6 =>
      π.ld [.ptr] (p6.add (0 : Nat)) fun (p7, _) =>
      J5 ((lf, lt, lx, ()), (some (p4.add (lt.toNat * (3 : Nat))), ()), (!p7.isNone, ()), ())
    ) (
      J5 ((lf, lt, lx, ()), (some (p4.add (lt.toNat * (3 : Nat))), ()), (false, ()), ())
    )
  ) (fun (((x8 : Int), (x9 : Int), (t10 : ByteArray), _), (p11, _), ((b12 : Bool), _), _) =>
    π.ite (b12) (
      π.call (60 : Nat) #[(Value.string (t10))] (true, [(true, [.int .i64, .int .i64, .int .i64, .int .i64, .int .i64, .int .i64, .int .i64, .bool, .slice, .str]), (false, [.int .i64])]) fun (((x13 : Int), (x14 : Int), (x15 : Int), (x16 : Int), (x17 : Int), (x18 : Int), (x19 : Int), (b20 : Bool), ((a21 : Option Addr), (n22 : Nat), (c23 : Nat)), (t24 : ByteArray), _), ((x25 : Int), _), _) =>
      π.unSome (p11) fun p26 =>
      π.ld [.ptr] (p26.add (0 : Nat)) fun (p27, _) =>
      π.call (61 : Nat) #[(Value.pointer (p27)), (Value.agg #[(Value.int (IntKind.i64) (x13)), (Value.int (IntKind.i64) (x14)), (Value.int (IntKind.i64) (x15)), (Value.int (IntKind.i64) (x16)), (Value.int (IntKind.i64) (x17)), (Value.int (IntKind.i64) (x18)), (Value.int (IntKind.i64) (x19)), (Value.bool (b20)), (Value.slice (a21) (n22) (c23)), (Value.string (t24))])] (false, [(false, [.slice])]) fun ((((a28 : Option Addr), (n29 : Nat), (c30 : Nat)), _), _) =>
      π.call (46 : Nat) #[(Value.pointer (some (Addr.mk g (0 : Nat) none))), (Value.pointer (p11)), (Value.slice (a28) (n29) (c30))] (true, []) fun (_) =>
      π.ret (Value.tuple #[])
    ) (
      π.ret (Value.tuple #[])
    )
  )
def ann_gdeliver : Ann := { draws := [(1, { A := [0, 1, 2, 3, 4, 5, 6, 7] }), (4, { A := [0, 1, 2, 3, 4, 5, 6] })], join := [(3, [(4, 78), (6, 83), (23, 4)])], loop := [] }
def la_gdeliver : LA := { ptr := [(4, 4, 0), (7, 7, 0), (13, 4, 1), (25, 4, 2)], ty := [(4, 78), (7, 119)] }
set_option maxRecDepth 100000 in
theorem eq_gdeliver {W : Type} (π : Prims W) (g : Nat) (lf lt : Int) (lx : ByteArray) (ok : Bool) : bodyL π Tryz.prog la_gdeliver ann_gdeliver (mkFr (maskA [] [.v (.pointer (some ⟨g, 0, none⟩)), .v (.agg #[.int .i64 lf, .int .i64 lt, .string lx]), .v (.bool ok)] 0) 39) Tryz.f40 (bodyOf Tryz.f40) (mkFr (List.map some [.v (.pointer (some ⟨g, 0, none⟩)), .v (.agg #[.int .i64 lf, .int .i64 lt, .string lx]), .v (.bool ok)]) 39) = vc_gdeliver π g lf lt lx ok := by kernel_rfl
theorem ok_gdeliver (g : Nat) (lf lt : Int) (lx : ByteArray) (ok : Bool) (R : Value → PH → Prop) (s : PH) (h : vc_gdeliver (RP Tryz.prog R) g lf lt lx ok s) : DCalls Tryz.prog 40 (List.map AV.val [.v (.pointer (some ⟨g, 0, none⟩)), .v (.agg #[.int .i64 lf, .int .i64 lt, .string lx]), .v (.bool ok)]).toArray s R :=
  calls_vcL (c := bodyOf Tryz.f40) (ann := ann_gdeliver) la_gdeliver (by kernel_rfl) Tryz.func40 rfl (by kernel_rfl) [.v (.pointer (some ⟨g, 0, none⟩)), .v (.agg #[.int .i64 lf, .int .i64 lt, .string lx]), .v (.bool ok)] [] (by rw [Tryz.ntmps40]; exact Nat.le_of_ble_eq_true rfl) (by kernel_rfl) (by rw [show Tryz.f40.ntmps = 39 from Tryz.ntmps40, eq_gdeliver]; exact h)
/-- (*lintel/group.Group).take -/
def vc_gtake {W : Type} (π : Prims W) (g : Nat) (ak aa ab : Int) (at_ : ByteArray) : W :=
  π.unSome (some (Addr.mk g (0 : Nat) none)) fun p0 =>
  π.ld [.ptr] (p0.add (1 : Nat)) fun (p1, _) =>
  π.unSome (some (Addr.mk g (0 : Nat) none)) fun p2 =>
  π.ld [.ptr] (p2.add (1 : Nat)) fun (p3, _) =>
  π.callQ (39 : Nat) #[(Value.pointer (p3))] (false, [(false, [.int .i64])]) fun (((x4 : Int), _), _) =>
  π.callQ (42 : Nat) #[(Value.int (IntKind.i64) (aa)), (Value.int (IntKind.i64) (x4))] (false, [(false, [.int .i64])]) fun (((x5 : Int), _), _) =>
  π.call (41 : Nat) #[(Value.pointer (p1)), (Value.int (IntKind.i64) (x5))] (true, [(true, [.int .i64, .int .i64, .str]), (false, [.bool])]) fun (((x6 : Int), (x7 : Int), (t8 : ByteArray), _), ((b9 : Bool), _), _) =>
  π.call (40 : Nat) #[(Value.pointer (some (Addr.mk g (0 : Nat) none))), (Value.agg #[(Value.int (IntKind.i64) (x6)), (Value.int (IntKind.i64) (x7)), (Value.string (t8))]), (Value.bool (b9))] (true, []) fun (_) =>
  π.ret (Value.tuple #[])
def ann_gtake : Ann := { draws := [(1, { A := [0, 1, 2, 3, 4, 5, 6, 7, 8, 9, 10, 11, 12], quiet := [11, 12], eag := [14, 15] })], join := [], loop := [] }
def la_gtake : LA := { ptr := [(3, 3, 0), (9, 3, 1)], ty := [(3, 30)] }
set_option maxRecDepth 100000 in
theorem eq_gtake {W : Type} (π : Prims W) (g : Nat) (ak aa ab : Int) (at_ : ByteArray) : bodyL π Tryz.prog la_gtake ann_gtake (mkFr (maskA [] [.v (.pointer (some ⟨g, 0, none⟩)), .v (.agg #[.int .i64 ak, .int .i64 aa, .int .i64 ab, .string at_])] 0) 21) Tryz.f22 (bodyOf Tryz.f22) (mkFr (List.map some [.v (.pointer (some ⟨g, 0, none⟩)), .v (.agg #[.int .i64 ak, .int .i64 aa, .int .i64 ab, .string at_])]) 21) = vc_gtake π g ak aa ab at_ := by kernel_rfl
theorem ok_gtake (g : Nat) (ak aa ab : Int) (at_ : ByteArray) (R : Value → PH → Prop) (s : PH) (h : vc_gtake (RP Tryz.prog R) g ak aa ab at_ s) : DCalls Tryz.prog 22 (List.map AV.val [.v (.pointer (some ⟨g, 0, none⟩)), .v (.agg #[.int .i64 ak, .int .i64 aa, .int .i64 ab, .string at_])]).toArray s R :=
  calls_vcL (c := bodyOf Tryz.f22) (ann := ann_gtake) la_gtake (by kernel_rfl) Tryz.func22 rfl (by kernel_rfl) [.v (.pointer (some ⟨g, 0, none⟩)), .v (.agg #[.int .i64 ak, .int .i64 aa, .int .i64 ab, .string at_])] [] (by rw [Tryz.ntmps22]; exact Nat.le_of_ble_eq_true rfl) (by kernel_rfl) (by rw [show Tryz.f22.ntmps = 21 from Tryz.ntmps22, eq_gtake]; exact h)
/-- (*lintel/group.Group).copy -/
def vc_gcopy {W : Type} (π : Prims W) (g : Nat) (ak aa ab : Int) (at_ : ByteArray) : W :=
  π.unSome (some (Addr.mk g (0 : Nat) none)) fun p0 =>
  π.ld [.ptr] (p0.add (1 : Nat)) fun (p1, _) =>
  π.unSome (some (Addr.mk g (0 : Nat) none)) fun p2 =>
  π.ld [.ptr] (p2.add (1 : Nat)) fun (p3, _) =>
  π.callQ (39 : Nat) #[(Value.pointer (p3))] (false, [(false, [.int .i64])]) fun (((x4 : Int), _), _) =>
  π.callQ (42 : Nat) #[(Value.int (IntKind.i64) (aa)), (Value.int (IntKind.i64) (x4))] (false, [(false, [.int .i64])]) fun (((x5 : Int), _), _) =>
  π.call (43 : Nat) #[(Value.pointer (p1)), (Value.int (IntKind.i64) (x5))] (true, [(true, [.int .i64, .int .i64, .str]), (false, [.bool])]) fun (((x6 : Int), (x7 : Int), (t8 : ByteArray), _), ((b9 : Bool), _), _) =>
  π.call (40 : Nat) #[(Value.pointer (some (Addr.mk g (0 : Nat) none))), (Value.agg #[(Value.int (IntKind.i64) (x6)), (Value.int (IntKind.i64) (x7)), (Value.string (t8))]), (Value.bool (b9))] (true, []) fun (_) =>
  π.ret (Value.tuple #[])
def ann_gcopy : Ann := { draws := [(1, { A := [0, 1, 2, 3, 4, 5, 6, 7, 8, 9, 10, 11, 12], quiet := [11, 12], eag := [14, 15] })], join := [], loop := [] }
def la_gcopy : LA := { ptr := [(3, 3, 0), (9, 3, 1)], ty := [(3, 30)] }
set_option maxRecDepth 100000 in
theorem eq_gcopy {W : Type} (π : Prims W) (g : Nat) (ak aa ab : Int) (at_ : ByteArray) : bodyL π Tryz.prog la_gcopy ann_gcopy (mkFr (maskA [] [.v (.pointer (some ⟨g, 0, none⟩)), .v (.agg #[.int .i64 ak, .int .i64 aa, .int .i64 ab, .string at_])] 0) 21) Tryz.f23 (bodyOf Tryz.f23) (mkFr (List.map some [.v (.pointer (some ⟨g, 0, none⟩)), .v (.agg #[.int .i64 ak, .int .i64 aa, .int .i64 ab, .string at_])]) 21) = vc_gcopy π g ak aa ab at_ := by kernel_rfl
theorem ok_gcopy (g : Nat) (ak aa ab : Int) (at_ : ByteArray) (R : Value → PH → Prop) (s : PH) (h : vc_gcopy (RP Tryz.prog R) g ak aa ab at_ s) : DCalls Tryz.prog 23 (List.map AV.val [.v (.pointer (some ⟨g, 0, none⟩)), .v (.agg #[.int .i64 ak, .int .i64 aa, .int .i64 ab, .string at_])]).toArray s R :=
  calls_vcL (c := bodyOf Tryz.f23) (ann := ann_gcopy) la_gcopy (by kernel_rfl) Tryz.func23 rfl (by kernel_rfl) [.v (.pointer (some ⟨g, 0, none⟩)), .v (.agg #[.int .i64 ak, .int .i64 aa, .int .i64 ab, .string at_])] [] (by rw [Tryz.ntmps23]; exact Nat.le_of_ble_eq_true rfl) (by kernel_rfl) (by rw [show Tryz.f23.ntmps = 21 from Tryz.ntmps23, eq_gcopy]; exact h)
/-- (*lintel/group.Group).lose -/
def vc_glose {W : Type} (π : Prims W) (g : Nat) (ak aa ab : Int) (at_ : ByteArray) : W :=
  π.unSome (some (Addr.mk g (0 : Nat) none)) fun p0 =>
  π.ld [.ptr] (p0.add (1 : Nat)) fun (p1, _) =>
  π.unSome (some (Addr.mk g (0 : Nat) none)) fun p2 =>
  π.ld [.ptr] (p2.add (1 : Nat)) fun (p3, _) =>
  π.callQ (39 : Nat) #[(Value.pointer (p3))] (false, [(false, [.int .i64])]) fun (((x4 : Int), _), _) =>
  π.callQ (42 : Nat) #[(Value.int (IntKind.i64) (aa)), (Value.int (IntKind.i64) (x4))] (false, [(false, [.int .i64])]) fun (((x5 : Int), _), _) =>
  π.call (44 : Nat) #[(Value.pointer (p1)), (Value.int (IntKind.i64) (x5))] (false, [(false, [.bool])]) fun (((b6 : Bool), _), _) =>
  π.ret (Value.tuple #[])
def ann_glose : Ann := { draws := [(1, { A := [0, 1, 2, 3, 4, 5, 6, 7, 8, 9, 10, 11], quiet := [10, 11] })], join := [], loop := [] }
def la_glose : LA := { ptr := [(3, 3, 0), (8, 3, 1)], ty := [(3, 30)] }
set_option maxRecDepth 100000 in
theorem eq_glose {W : Type} (π : Prims W) (g : Nat) (ak aa ab : Int) (at_ : ByteArray) : bodyL π Tryz.prog la_glose ann_glose (mkFr (maskA [] [.v (.pointer (some ⟨g, 0, none⟩)), .v (.agg #[.int .i64 ak, .int .i64 aa, .int .i64 ab, .string at_])] 0) 17) Tryz.f24 (bodyOf Tryz.f24) (mkFr (List.map some [.v (.pointer (some ⟨g, 0, none⟩)), .v (.agg #[.int .i64 ak, .int .i64 aa, .int .i64 ab, .string at_])]) 17) = vc_glose π g ak aa ab at_ := by kernel_rfl
theorem ok_glose (g : Nat) (ak aa ab : Int) (at_ : ByteArray) (R : Value → PH → Prop) (s : PH) (h : vc_glose (RP Tryz.prog R) g ak aa ab at_ s) : DCalls Tryz.prog 24 (List.map AV.val [.v (.pointer (some ⟨g, 0, none⟩)), .v (.agg #[.int .i64 ak, .int .i64 aa, .int .i64 ab, .string at_])]).toArray s R :=
  calls_vcL (c := bodyOf Tryz.f24) (ann := ann_glose) la_glose (by kernel_rfl) Tryz.func24 rfl (by kernel_rfl) [.v (.pointer (some ⟨g, 0, none⟩)), .v (.agg #[.int .i64 ak, .int .i64 aa, .int .i64 ab, .string at_])] [] (by rw [Tryz.ntmps24]; exact Nat.le_of_ble_eq_true rfl) (by kernel_rfl) (by rw [show Tryz.f24.ntmps = 17 from Tryz.ntmps24, eq_glose]; exact h)
/-- (*lintel/group.Group).timeout -/
def vc_gtimeout {W : Type} (π : Prims W) (g : Nat) (ak aa ab : Int) (at_ : ByteArray) : W :=
  π.call (45 : Nat) #[(Value.pointer (some (Addr.mk g (0 : Nat) none))), (Value.agg #[(Value.int (IntKind.i64) (ak)), (Value.int (IntKind.i64) (aa)), (Value.int (IntKind.i64) (ab)), (Value.string (at_))])] (false, [(false, [.ptr])]) fun ((p0, _), _) =>
  π.ite (!p0.isNone) (
    π.unSome (p0) fun p1 =>
    π.ld [.ptr] (p1.add (0 : Nat)) fun (p2, _) =>
    π.call (47 : Nat) #[(Value.pointer (p2))] (false, [(false, [.slice])]) fun ((((a3 : Option Addr), (n4 : Nat), (c5 : Nat)), _), _) =>
    π.call (46 : Nat) #[(Value.pointer (some (Addr.mk g (0 : Nat) none))), (Value.pointer (p0)), (Value.slice (a3) (n4) (c5))] (true, []) fun (_) =>
    π.ret (Value.tuple #[])
  ) (
    π.ret (Value.tuple #[])
  )
def ann_gtimeout : Ann := { draws := [], join := [], loop := [] }
def la_gtimeout : LA := { ptr := [(3, 3, 0)], ty := [(3, 30)] }
set_option maxRecDepth 100000 in
theorem eq_gtimeout {W : Type} (π : Prims W) (g : Nat) (ak aa ab : Int) (at_ : ByteArray) : bodyL π Tryz.prog la_gtimeout ann_gtimeout (mkFr (maskA [] [.v (.pointer (some ⟨g, 0, none⟩)), .v (.agg #[.int .i64 ak, .int .i64 aa, .int .i64 ab, .string at_])] 0) 18) Tryz.f25 (bodyOf Tryz.f25) (mkFr (List.map some [.v (.pointer (some ⟨g, 0, none⟩)), .v (.agg #[.int .i64 ak, .int .i64 aa, .int .i64 ab, .string at_])]) 18) = vc_gtimeout π g ak aa ab at_ := by kernel_rfl
theorem ok_gtimeout (g : Nat) (ak aa ab : Int) (at_ : ByteArray) (R : Value → PH → Prop) (s : PH) (h : vc_gtimeout (RP Tryz.prog R) g ak aa ab at_ s) : DCalls Tryz.prog 25 (List.map AV.val [.v (.pointer (some ⟨g, 0, none⟩)), .v (.agg #[.int .i64 ak, .int .i64 aa, .int .i64 ab, .string at_])]).toArray s R :=
  calls_vcL (c := bodyOf Tryz.f25) (ann := ann_gtimeout) la_gtimeout (by kernel_rfl) Tryz.func25 rfl (by kernel_rfl) [.v (.pointer (some ⟨g, 0, none⟩)), .v (.agg #[.int .i64 ak, .int .i64 aa, .int .i64 ab, .string at_])] [] (by rw [Tryz.ntmps25]; exact Nat.le_of_ble_eq_true rfl) (by kernel_rfl) (by rw [show Tryz.f25.ntmps = 18 from Tryz.ntmps25, eq_gtimeout]; exact h)
/-- (*lintel/group.Group).beat -/
def vc_gbeat {W : Type} (π : Prims W) (g : Nat) (ak aa ab : Int) (at_ : ByteArray) : W :=
  π.call (45 : Nat) #[(Value.pointer (some (Addr.mk g (0 : Nat) none))), (Value.agg #[(Value.int (IntKind.i64) (ak)), (Value.int (IntKind.i64) (aa)), (Value.int (IntKind.i64) (ab)), (Value.string (at_))])] (false, [(false, [.ptr])]) fun ((p0, _), _) =>
  π.ite (!p0.isNone) (
    π.unSome (p0) fun p1 =>
    π.ld [.ptr] (p1.add (0 : Nat)) fun (p2, _) =>
    π.call (48 : Nat) #[(Value.pointer (p2))] (false, [(false, [.slice])]) fun ((((a3 : Option Addr), (n4 : Nat), (c5 : Nat)), _), _) =>
    π.call (46 : Nat) #[(Value.pointer (some (Addr.mk g (0 : Nat) none))), (Value.pointer (p0)), (Value.slice (a3) (n4) (c5))] (true, []) fun (_) =>
    π.ret (Value.tuple #[])
  ) (
    π.ret (Value.tuple #[])
  )
def ann_gbeat : Ann := { draws := [], join := [], loop := [] }
def la_gbeat : LA := { ptr := [(3, 3, 0)], ty := [(3, 30)] }
set_option maxRecDepth 100000 in
theorem eq_gbeat {W : Type} (π : Prims W) (g : Nat) (ak aa ab : Int) (at_ : ByteArray) : bodyL π Tryz.prog la_gbeat ann_gbeat (mkFr (maskA [] [.v (.pointer (some ⟨g, 0, none⟩)), .v (.agg #[.int .i64 ak, .int .i64 aa, .int .i64 ab, .string at_])] 0) 18) Tryz.f26 (bodyOf Tryz.f26) (mkFr (List.map some [.v (.pointer (some ⟨g, 0, none⟩)), .v (.agg #[.int .i64 ak, .int .i64 aa, .int .i64 ab, .string at_])]) 18) = vc_gbeat π g ak aa ab at_ := by kernel_rfl
theorem ok_gbeat (g : Nat) (ak aa ab : Int) (at_ : ByteArray) (R : Value → PH → Prop) (s : PH) (h : vc_gbeat (RP Tryz.prog R) g ak aa ab at_ s) : DCalls Tryz.prog 26 (List.map AV.val [.v (.pointer (some ⟨g, 0, none⟩)), .v (.agg #[.int .i64 ak, .int .i64 aa, .int .i64 ab, .string at_])]).toArray s R :=
  calls_vcL (c := bodyOf Tryz.f26) (ann := ann_gbeat) la_gbeat (by kernel_rfl) Tryz.func26 rfl (by kernel_rfl) [.v (.pointer (some ⟨g, 0, none⟩)), .v (.agg #[.int .i64 ak, .int .i64 aa, .int .i64 ab, .string at_])] [] (by rw [Tryz.ntmps26]; exact Nat.le_of_ble_eq_true rfl) (by kernel_rfl) (by rw [show Tryz.f26.ntmps = 18 from Tryz.ntmps26, eq_gbeat]; exact h)
/-- (*lintel/group.Group).propose -/
def vc_gpropose {W : Type} (π : Prims W) (g : Nat) (ak aa ab : Int) (at_ : ByteArray) : W :=
  π.call (45 : Nat) #[(Value.pointer (some (Addr.mk g (0 : Nat) none))), (Value.agg #[(Value.int (IntKind.i64) (ak)), (Value.int (IntKind.i64) (aa)), (Value.int (IntKind.i64) (ab)), (Value.string (at_))])] (false, [(false, [.ptr])]) fun ((p0, _), _) =>
  π.join [(true, [.int .i64, .int .i64, .int .i64, .str]), (false, [.ptr]), (false, [.bool])] (fun J1 =>
    π.ite (!p0.isNone) (
      π.ite (decide ((↑at_.size : Int) ≥ (1 : Int))) (
        J1 ((ak, aa, ab, at_, ()), (p0, ()), (decide ((↑at_.size : Int) ≤ (256 : Int)), ()), ())
      ) (
        J1 ((ak, aa, ab, at_, ()), (p0, ()), (false, ()), ())
      )
    ) (
      J1 ((ak, aa, ab, at_, ()), (p0, ()), (false, ()), ())
    )
  ) (fun (((x2 : Int), (x3 : Int), (x4 : Int), (t5 : ByteArray), _), (p6, _), ((b7 : Bool), _), _) =>
    π.ite (b7) (
      π.unSome (p6) fun p8 =>
      π.ld [.ptr] (p8.add (0 : Nat)) fun (p9, _) =>
      π.unSome (some (Addr.mk g (0 : Nat) none)) fun p10 =>
      π.ld [.int .i64] (p10.add (2 : Nat)) fun ((x11 : Int), _) =>
      π.call (49 : Nat) #[(Value.pointer (p9)), (Value.int (IntKind.i64) ((0 : Int))), (Value.int (IntKind.i64) (x11)), (Value.string (t5))] (true, [(false, [.int .i64]), (false, [.slice])]) fun (((x12 : Int), _), (((a13 : Option Addr), (n14 : Nat), (c15 : Nat)), _), _) =>
      π.call (46 : Nat) #[(Value.pointer (some (Addr.mk g (0 : Nat) none))), (Value.pointer (p6)), (Value.slice (a13) (n14) (c15))] (true, []) fun (_) =>
      π.ret (Value.tuple #[])
    ) (
      π.ret (Value.tuple #[])
    )
  )
def ann_gpropose : Ann := { draws := [(3, { A := [0, 1, 2, 3, 4, 5, 6, 7, 8, 9], eag := [11, 12, 13, 14, 15] })], join := [(3, [(3, 30), (4, 83), (23, 4)])], loop := [] }
def la_gpropose : LA := { ptr := [(3, 3, 0), (13, 3, 3), (19, 3, 3), (33, 3, 3)], ty := [(3, 30)] }
set_option maxRecDepth 100000 in
theorem eq_gpropose {W : Type} (π : Prims W) (g : Nat) (ak aa ab : Int) (at_ : ByteArray) : bodyL π Tryz.prog la_gpropose ann_gpropose (mkFr (maskA [] [.v (.pointer (some ⟨g, 0, none⟩)), .v (.agg #[.int .i64 ak, .int .i64 aa, .int .i64 ab, .string at_])] 0) 42) Tryz.f27 (bodyOf Tryz.f27) (mkFr (List.map some [.v (.pointer (some ⟨g, 0, none⟩)), .v (.agg #[.int .i64 ak, .int .i64 aa, .int .i64 ab, .string at_])]) 42) = vc_gpropose π g ak aa ab at_ := by kernel_rfl
theorem ok_gpropose (g : Nat) (ak aa ab : Int) (at_ : ByteArray) (R : Value → PH → Prop) (s : PH) (h : vc_gpropose (RP Tryz.prog R) g ak aa ab at_ s) : DCalls Tryz.prog 27 (List.map AV.val [.v (.pointer (some ⟨g, 0, none⟩)), .v (.agg #[.int .i64 ak, .int .i64 aa, .int .i64 ab, .string at_])]).toArray s R :=
  calls_vcL (c := bodyOf Tryz.f27) (ann := ann_gpropose) la_gpropose (by kernel_rfl) Tryz.func27 rfl (by kernel_rfl) [.v (.pointer (some ⟨g, 0, none⟩)), .v (.agg #[.int .i64 ak, .int .i64 aa, .int .i64 ab, .string at_])] [] (by rw [Tryz.ntmps27]; exact Nat.le_of_ble_eq_true rfl) (by kernel_rfl) (by rw [show Tryz.f27.ntmps = 42 from Tryz.ntmps27, eq_gpropose]; exact h)
/-- (*lintel/group.Group).crash -/
def vc_gcrash {W : Type} (π : Prims W) (g : Nat) (ak aa ab : Int) (at_ : ByteArray) : W :=
  π.call (45 : Nat) #[(Value.pointer (some (Addr.mk g (0 : Nat) none))), (Value.agg #[(Value.int (IntKind.i64) (ak)), (Value.int (IntKind.i64) (aa)), (Value.int (IntKind.i64) (ab)), (Value.string (at_))])] (false, [(false, [.ptr])]) fun ((p0, _), _) =>
  π.ite (!p0.isNone) (
    π.unSome (p0) fun p1 =>
    π.st (p1.add (0 : Nat)) [(Value.pointer (none))] <|
    π.ret (Value.tuple #[])
  ) (
    π.ret (Value.tuple #[])
  )
def ann_gcrash : Ann := { draws := [], join := [], loop := [] }
def la_gcrash : LA := { ptr := [(3, 3, 0)], ty := [(3, 30)] }
set_option maxRecDepth 100000 in
theorem eq_gcrash {W : Type} (π : Prims W) (g : Nat) (ak aa ab : Int) (at_ : ByteArray) : bodyL π Tryz.prog la_gcrash ann_gcrash (mkFr (maskA [] [.v (.pointer (some ⟨g, 0, none⟩)), .v (.agg #[.int .i64 ak, .int .i64 aa, .int .i64 ab, .string at_])] 0) 13) Tryz.f28 (bodyOf Tryz.f28) (mkFr (List.map some [.v (.pointer (some ⟨g, 0, none⟩)), .v (.agg #[.int .i64 ak, .int .i64 aa, .int .i64 ab, .string at_])]) 13) = vc_gcrash π g ak aa ab at_ := by kernel_rfl
theorem ok_gcrash (g : Nat) (ak aa ab : Int) (at_ : ByteArray) (R : Value → PH → Prop) (s : PH) (h : vc_gcrash (RP Tryz.prog R) g ak aa ab at_ s) : DCalls Tryz.prog 28 (List.map AV.val [.v (.pointer (some ⟨g, 0, none⟩)), .v (.agg #[.int .i64 ak, .int .i64 aa, .int .i64 ab, .string at_])]).toArray s R :=
  calls_vcL (c := bodyOf Tryz.f28) (ann := ann_gcrash) la_gcrash (by kernel_rfl) Tryz.func28 rfl (by kernel_rfl) [.v (.pointer (some ⟨g, 0, none⟩)), .v (.agg #[.int .i64 ak, .int .i64 aa, .int .i64 ab, .string at_])] [] (by rw [Tryz.ntmps28]; exact Nat.le_of_ble_eq_true rfl) (by kernel_rfl) (by rw [show Tryz.f28.ntmps = 13 from Tryz.ntmps28, eq_gcrash]; exact h)
/-- (*lintel/group.Group).restart -/
def vc_grestart {W : Type} (π : Prims W) (g : Nat) (ak aa ab : Int) (at_ : ByteArray) : W :=
  π.call (45 : Nat) #[(Value.pointer (some (Addr.mk g (0 : Nat) none))), (Value.agg #[(Value.int (IntKind.i64) (ak)), (Value.int (IntKind.i64) (aa)), (Value.int (IntKind.i64) (ab)), (Value.string (at_))])] (false, [(false, [.ptr])]) fun ((p0, _), _) =>
  π.ite (p0.isNone) (
    π.unSome (some (Addr.mk g (0 : Nat) none)) fun p1 =>
    π.ld [.slice] (p1.add (0 : Nat)) fun (((a2 : Option Addr), (n3 : Nat), (c4 : Nat)), _) =>
    π.callQ (42 : Nat) #[(Value.int (IntKind.i64) (aa)), (Value.int (IntKind.i64) ((↑n3 : Int)))] (false, [(false, [.int .i64])]) fun (((x5 : Int), _), _) =>
    π.call (38 : Nat) #[(Value.pointer (some (Addr.mk g (0 : Nat) none))), (Value.int (IntKind.i64) (x5)), (Value.int (IntKind.i64) (ab))] (true, []) fun (_) =>
    π.ret (Value.tuple #[])
  ) (
    π.ret (Value.tuple #[])
  )
def ann_grestart : Ann := { draws := [(2, { A := [0, 1, 2, 3, 4, 5, 6, 7, 8, 9, 10], quiet := [8] })], join := [], loop := [] }
def la_grestart : LA := { ptr := [(3, 3, 0), (9, 3, 1), (17, 3, 2)], ty := [(3, 30)] }
set_option maxRecDepth 100000 in
theorem eq_grestart {W : Type} (π : Prims W) (g : Nat) (ak aa ab : Int) (at_ : ByteArray) : bodyL π Tryz.prog la_grestart ann_grestart (mkFr (maskA [] [.v (.pointer (some ⟨g, 0, none⟩)), .v (.agg #[.int .i64 ak, .int .i64 aa, .int .i64 ab, .string at_])] 0) 20) Tryz.f29 (bodyOf Tryz.f29) (mkFr (List.map some [.v (.pointer (some ⟨g, 0, none⟩)), .v (.agg #[.int .i64 ak, .int .i64 aa, .int .i64 ab, .string at_])]) 20) = vc_grestart π g ak aa ab at_ := by kernel_rfl
theorem ok_grestart (g : Nat) (ak aa ab : Int) (at_ : ByteArray) (R : Value → PH → Prop) (s : PH) (h : vc_grestart (RP Tryz.prog R) g ak aa ab at_ s) : DCalls Tryz.prog 29 (List.map AV.val [.v (.pointer (some ⟨g, 0, none⟩)), .v (.agg #[.int .i64 ak, .int .i64 aa, .int .i64 ab, .string at_])]).toArray s R :=
  calls_vcL (c := bodyOf Tryz.f29) (ann := ann_grestart) la_grestart (by kernel_rfl) Tryz.func29 rfl (by kernel_rfl) [.v (.pointer (some ⟨g, 0, none⟩)), .v (.agg #[.int .i64 ak, .int .i64 aa, .int .i64 ab, .string at_])] [] (by rw [Tryz.ntmps29]; exact Nat.le_of_ble_eq_true rfl) (by kernel_rfl) (by rw [show Tryz.f29.ntmps = 20 from Tryz.ntmps29, eq_grestart]; exact h)
/-- (*lintel/group.Group).arm -/
def vc_garm {W : Type} (π : Prims W) (g : Nat) (ak aa ab : Int) (at_ : ByteArray) : W :=
  π.call (45 : Nat) #[(Value.pointer (some (Addr.mk g (0 : Nat) none))), (Value.agg #[(Value.int (IntKind.i64) (ak)), (Value.int (IntKind.i64) (aa)), (Value.int (IntKind.i64) (ab)), (Value.string (at_))])] (false, [(false, [.ptr])]) fun ((p0, _), _) =>
  π.ite (!p0.isNone) (
    π.unSome (p0) fun p1 =>
    π.ld [.ptr] (p1.add (1 : Nat)) fun (p2, _) =>
    π.call (50 : Nat) #[(Value.pointer (p2)), (Value.int (IntKind.i64) (ab))] (true, []) fun (_) =>
    π.ret (Value.tuple #[])
  ) (
    π.ret (Value.tuple #[])
  )
def ann_garm : Ann := { draws := [(3, { A := [0, 1, 2, 3, 4, 5] })], join := [], loop := [] }
def la_garm : LA := { ptr := [(3, 3, 0), (14, 3, 2)], ty := [(3, 30)] }
set_option maxRecDepth 100000 in
theorem eq_garm {W : Type} (π : Prims W) (g : Nat) (ak aa ab : Int) (at_ : ByteArray) : bodyL π Tryz.prog la_garm ann_garm (mkFr (maskA [] [.v (.pointer (some ⟨g, 0, none⟩)), .v (.agg #[.int .i64 ak, .int .i64 aa, .int .i64 ab, .string at_])] 0) 17) Tryz.f30 (bodyOf Tryz.f30) (mkFr (List.map some [.v (.pointer (some ⟨g, 0, none⟩)), .v (.agg #[.int .i64 ak, .int .i64 aa, .int .i64 ab, .string at_])]) 17) = vc_garm π g ak aa ab at_ := by kernel_rfl
theorem ok_garm (g : Nat) (ak aa ab : Int) (at_ : ByteArray) (R : Value → PH → Prop) (s : PH) (h : vc_garm (RP Tryz.prog R) g ak aa ab at_ s) : DCalls Tryz.prog 30 (List.map AV.val [.v (.pointer (some ⟨g, 0, none⟩)), .v (.agg #[.int .i64 ak, .int .i64 aa, .int .i64 ab, .string at_])]).toArray s R :=
  calls_vcL (c := bodyOf Tryz.f30) (ann := ann_garm) la_garm (by kernel_rfl) Tryz.func30 rfl (by kernel_rfl) [.v (.pointer (some ⟨g, 0, none⟩)), .v (.agg #[.int .i64 ak, .int .i64 aa, .int .i64 ab, .string at_])] [] (by rw [Tryz.ntmps30]; exact Nat.le_of_ble_eq_true rfl) (by kernel_rfl) (by rw [show Tryz.f30.ntmps = 17 from Tryz.ntmps30, eq_garm]; exact h)
/-- (*lintel/group.Group).cut -/
def vc_gcut {W : Type} (π : Prims W) (g : Nat) (ak aa ab : Int) (at_ : ByteArray) : W :=
  π.call (45 : Nat) #[(Value.pointer (some (Addr.mk g (0 : Nat) none))), (Value.agg #[(Value.int (IntKind.i64) (ak)), (Value.int (IntKind.i64) (aa)), (Value.int (IntKind.i64) (ab)), (Value.string (at_))])] (false, [(false, [.ptr])]) fun ((p0, _), _) =>
  π.ite (p0.isNone) (
    π.ret (Value.tuple #[])
  ) (
    π.unSome (p0) fun p1 =>
    π.ld [.ptr] (p1.add (0 : Nat)) fun (p2, _) =>
    π.call (33 : Nat) #[(Value.pointer (p2))] (false, [(false, [.slice])]) fun ((((a3 : Option Addr), (n4 : Nat), (c5 : Nat)), _), _) =>
    π.loop [(false, [.ptr]), (false, [.str]), (false, [.slice]), (false, [.int .i64]), (false, [.int .i64])] ((p0, ()), (ByteArray.mk #[], ()), ((a3, n4, c5), ()), ((↑n4 : Int), ()), ((0 : Int), ()), ()) fun ((p7, _), ((t8 : ByteArray), _), (((a9 : Option Addr), (n10 : Nat), (c11 : Nat)), _), ((x12 : Int), _), ((x13 : Int), _), _) again6 =>
      π.ite (decide (x13 < x12)) (
        π.guard ((0 : Int) ≤ x13 ∧ x13 < (↑n10 : Int)) <|
        π.unSome (a9) fun p14 =>
        π.ld [.str] (p14.add (x13.toNat * (1 : Nat))) fun ((t15 : ByteArray), _) =>
        π.call (51 : Nat) #[(Value.string (t15))] (true, [(false, [.str]), (false, [.int .i64])]) fun (((t16 : ByteArray), _), ((x17 : Int), _), _) =>
        π.guard ((↑(t8.size + t16.size) : Int) ≤ (9223372036854775807 : Int)) <|
        again6 ((p7, ()), (t8 ++ t16, ()), ((a9, n10, c11), ()), (x12, ()), (IntKind.i64.wrap (x13 + (1 : Int)), ()), ())
      ) (
        π.unSome (p7) fun p18 =>
        π.ld [.ptr] (p18.add (0 : Nat)) fun (p19, _) =>
        π.unSome (p7) fun p20 =>
        π.ld [.ptr] (p20.add (0 : Nat)) fun (p21, _) =>
        π.call (34 : Nat) #[(Value.pointer (p21))] (false, [(true, [.int .i64, .int .i64, .int .i64, .int .i64, .int .i64, .int .i64, .int .i64])]) fun (((x22 : Int), (x23 : Int), (x24 : Int), (x25 : Int), (x26 : Int), (x27 : Int), (x28 : Int), _), _) =>
        π.still [.ptr] (p18.add (0 : Nat)) (p19, ()) <|
        π.call (52 : Nat) #[(Value.pointer (p19)), (Value.int (IntKind.i64) (x28)), (Value.string (t8))] (false, [(false, [.bool])]) fun (((b29 : Bool), _), _) =>
        π.call (46 : Nat) #[(Value.pointer (some (Addr.mk g (0 : Nat) none))), (Value.pointer (p7)), (Value.slice (none) ((0 : Nat)) ((0 : Nat)))] (true, []) fun (_) =>
        π.ret (Value.tuple #[])
      )
  )
def ann_gcut : Ann := { draws := [(10, { A := [0, 1, 2, 3, 4, 5, 6, 7, 10], chkL := [(8, [3])], eag := [9] })], join := [], loop := [(5, [(4, 83), (5, 9), (19, 28), (20, 3), (21, 3)])] }
def la_gcut : LA := { ptr := [(3, 3, 0)], ty := [(3, 30)] }
set_option maxRecDepth 100000 in
theorem eq_gcut {W : Type} (π : Prims W) (g : Nat) (ak aa ab : Int) (at_ : ByteArray) : bodyL π Tryz.prog la_gcut ann_gcut (mkFr (maskA [] [.v (.pointer (some ⟨g, 0, none⟩)), .v (.agg #[.int .i64 ak, .int .i64 aa, .int .i64 ab, .string at_])] 0) 49) Tryz.f31 (bodyOf Tryz.f31) (mkFr (List.map some [.v (.pointer (some ⟨g, 0, none⟩)), .v (.agg #[.int .i64 ak, .int .i64 aa, .int .i64 ab, .string at_])]) 49) = vc_gcut π g ak aa ab at_ := by kernel_rfl
theorem ok_gcut (g : Nat) (ak aa ab : Int) (at_ : ByteArray) (R : Value → PH → Prop) (s : PH) (h : vc_gcut (RP Tryz.prog R) g ak aa ab at_ s) : DCalls Tryz.prog 31 (List.map AV.val [.v (.pointer (some ⟨g, 0, none⟩)), .v (.agg #[.int .i64 ak, .int .i64 aa, .int .i64 ab, .string at_])]).toArray s R :=
  calls_vcL (c := bodyOf Tryz.f31) (ann := ann_gcut) la_gcut (by kernel_rfl) Tryz.func31 rfl (by kernel_rfl) [.v (.pointer (some ⟨g, 0, none⟩)), .v (.agg #[.int .i64 ak, .int .i64 aa, .int .i64 ab, .string at_])] [] (by rw [Tryz.ntmps31]; exact Nat.le_of_ble_eq_true rfl) (by kernel_rfl) (by rw [show Tryz.f31.ntmps = 49 from Tryz.ntmps31, eq_gcut]; exact h)
/-- lintel/group.texts -/
def vc_gtexts {W : Type} (π : Prims W) (b : Nat) : W :=
  π.call (54 : Nat) #[(Value.pointer (some (Addr.mk b (0 : Nat) none)))] (false, [(false, [.str])]) fun (((t0 : ByteArray), _), _) =>
  π.call (53 : Nat) #[(Value.string (t0))] (true, [(false, [.slice]), (false, [.int .i64])]) fun ((((a1 : Option Addr), (n2 : Nat), (c3 : Nat)), _), ((x4 : Int), _), _) =>
  π.call (34 : Nat) #[(Value.pointer (some (Addr.mk b (0 : Nat) none)))] (false, [(true, [.int .i64, .int .i64, .int .i64, .int .i64, .int .i64, .int .i64, .int .i64])]) fun (((x5 : Int), (x6 : Int), (x7 : Int), (x8 : Int), (x9 : Int), (x10 : Int), (x11 : Int), _), _) =>
  π.loop [(false, [.slice]), (true, [.int .i64, .int .i64, .int .i64, .int .i64, .int .i64, .int .i64, .int .i64]), (false, [.int .i64])] (((a1, n2, c3), ()), (x5, x6, x7, x8, x9, x10, x11, ()), (IntKind.i64.wrap (x9 + (1 : Int)), ()), ()) fun ((((a13 : Option Addr), (n14 : Nat), (c15 : Nat)), _), ((x16 : Int), (x17 : Int), (x18 : Int), (x19 : Int), (x20 : Int), (x21 : Int), (x22 : Int), _), ((x23 : Int), _), _) again12 =>
    π.ite (decide (x23 ≤ x22)) (
      π.call (35 : Nat) #[(Value.pointer (some (Addr.mk b (0 : Nat) none))), (Value.int (IntKind.i64) (x23))] (true, [(true, [.int .i64, .int .i64, .int .i64, .str]), (false, [.bool])]) fun (((x24 : Int), (x25 : Int), (x26 : Int), (t27 : ByteArray), _), ((b28 : Bool), _), _) =>
      π.ite (!t27.toList == (ByteArray.mk #[]).toList) (
        π.nw (Obj.cells #[(Value.string (t27))] (9 : Nat) ((0 : Nat), (0 : Nat))) fun r29 =>
        π.app (9 : Nat) (1 : Nat) (16 : Nat) [(Value.string (ByteArray.mk #[]))] (a13) (n14) (c15) (Src.sl (some (Addr.mk r29 (0 : Nat) none)) (1 : Nat)) fun a30 n31 c32 =>
        again12 (((a30, n31, c32), ()), (x16, x17, x18, x19, x20, x21, x22, ()), (IntKind.i64.wrap (x23 + (1 : Int)), ()), ())
      ) (
        again12 (((a13, n14, c15), ()), (x16, x17, x18, x19, x20, x21, x22, ()), (IntKind.i64.wrap (x23 + (1 : Int)), ()), ())
      )
    ) (
      π.ret (Value.slice (a13) (n14) (c15))
    )
def ann_gtexts : Ann := { draws := [], join := [], loop := [(4, [(3, 28), (5, 37), (6, 3)])] }
def la_gtexts : LA := { ptr := [(5, 5, 0), (7, 7, 0), (17, 5, 4), (21, 5, 6), (32, 7, 3), (36, 7, 3)], ty := [(5, 37), (7, 43)] }
set_option maxRecDepth 100000 in
theorem eq_gtexts {W : Type} (π : Prims W) (b : Nat) : bodyL π Tryz.prog la_gtexts ann_gtexts (mkFr (maskA [] [.v (.pointer (some ⟨b, 0, none⟩))] 0) 41) Tryz.f33 (bodyOf Tryz.f33) (mkFr (List.map some [.v (.pointer (some ⟨b, 0, none⟩))]) 41) = vc_gtexts π b := by kernel_rfl
theorem ok_gtexts (b : Nat) (R : Value → PH → Prop) (s : PH) (h : vc_gtexts (RP Tryz.prog R) b s) : DCalls Tryz.prog 33 (List.map AV.val [.v (.pointer (some ⟨b, 0, none⟩))]).toArray s R :=
  calls_vcL (c := bodyOf Tryz.f33) (ann := ann_gtexts) la_gtexts (by kernel_rfl) Tryz.func33 rfl (by kernel_rfl) [.v (.pointer (some ⟨b, 0, none⟩))] [] (by rw [Tryz.ntmps33]; exact Nat.le_of_ble_eq_true rfl) (by kernel_rfl) (by rw [show Tryz.f33.ntmps = 41 from Tryz.ntmps33, eq_gtexts]; exact h)
/-- (*lintel/group.Group).Letters -/
def vc_gLetters {W : Type} (π : Prims W) (g : Nat) : W :=
  π.ite ((some (Addr.mk g (0 : Nat) none)).isNone) (
    π.ret (Value.int (IntKind.i64) ((0 : Int)))
  ) (
    π.unSome (some (Addr.mk g (0 : Nat) none)) fun p0 =>
    π.ld [.ptr] (p0.add (1 : Nat)) fun (p1, _) =>
    π.call (39 : Nat) #[(Value.pointer (p1))] (false, [(false, [.int .i64])]) fun (((x2 : Int), _), _) =>
    π.ret (Value.int (IntKind.i64) (x2))
  )
def ann_gLetters : Ann := { draws := [], join := [], loop := [] }
def la_gLetters : LA := { ptr := [], ty := [] }
set_option maxRecDepth 100000 in
theorem eq_gLetters {W : Type} (π : Prims W) (g : Nat) : bodyL π Tryz.prog la_gLetters ann_gLetters (mkFr (maskA [] [.v (.pointer (some ⟨g, 0, none⟩))] 0) 10) Tryz.f19 (bodyOf Tryz.f19) (mkFr (List.map some [.v (.pointer (some ⟨g, 0, none⟩))]) 10) = vc_gLetters π g := by kernel_rfl
theorem ok_gLetters (g : Nat) (R : Value → PH → Prop) (s : PH) (h : vc_gLetters (RP Tryz.prog R) g s) : DCalls Tryz.prog 19 (List.map AV.val [.v (.pointer (some ⟨g, 0, none⟩))]).toArray s R :=
  calls_vcL (c := bodyOf Tryz.f19) (ann := ann_gLetters) la_gLetters (by kernel_rfl) Tryz.func19 rfl (by kernel_rfl) [.v (.pointer (some ⟨g, 0, none⟩))] [] (by rw [Tryz.ntmps19]; exact Nat.le_of_ble_eq_true rfl) (by kernel_rfl) (by rw [show Tryz.f19.ntmps = 10 from Tryz.ntmps19, eq_gLetters]; exact h)
/-- (*lintel/group.Group).Letters -/
def vc_gLettersNil {W : Type} (π : Prims W) : W :=
  π.ite (true) (
    π.ret (Value.int (IntKind.i64) ((0 : Int)))
  ) (
    π.unSome (none) fun p0 =>
    π.ld [.ptr] (p0.add (1 : Nat)) fun (p1, _) =>
    π.call (39 : Nat) #[(Value.pointer (p1))] (false, [(false, [.int .i64])]) fun (((x2 : Int), _), _) =>
    π.ret (Value.int (IntKind.i64) (x2))
  )
def ann_gLettersNil : Ann := { draws := [], join := [], loop := [] }
def la_gLettersNil : LA := { ptr := [], ty := [] }
set_option maxRecDepth 100000 in
theorem eq_gLettersNil {W : Type} (π : Prims W) : bodyL π Tryz.prog la_gLettersNil ann_gLettersNil (mkFr (maskA [] [.v (.pointer none)] 0) 10) Tryz.f19 (bodyOf Tryz.f19) (mkFr (List.map some [.v (.pointer none)]) 10) = vc_gLettersNil π := by kernel_rfl
theorem ok_gLettersNil (R : Value → PH → Prop) (s : PH) (h : vc_gLettersNil (RP Tryz.prog R) s) : DCalls Tryz.prog 19 (List.map AV.val [.v (.pointer none)]).toArray s R :=
  calls_vcL (c := bodyOf Tryz.f19) (ann := ann_gLettersNil) la_gLettersNil (by kernel_rfl) Tryz.func19 rfl (by kernel_rfl) [.v (.pointer none)] [] (by rw [Tryz.ntmps19]; exact Nat.le_of_ble_eq_true rfl) (by kernel_rfl) (by rw [show Tryz.f19.ntmps = 10 from Tryz.ntmps19, eq_gLettersNil]; exact h)
/-- (*lintel/group.Group).at -/
def vc_gat {W : Type} (π : Prims W) (g : Nat) (n : Int) : W :=
  π.ite ((some (Addr.mk g (0 : Nat) none)).isNone) (
    π.ret (Value.pointer (none))
  ) (
    π.ite (decide (n < (0 : Int))) (
      π.ret (Value.pointer (none))
    ) (
      π.unSome (some (Addr.mk g (0 : Nat) none)) fun p0 =>
      π.ld [.slice] (p0.add (0 : Nat)) fun (((a1 : Option Addr), (n2 : Nat), (c3 : Nat)), _) =>
      π.ite (decide (n ≥ (↑n2 : Int))) (
        π.ret (Value.pointer (none))
      ) (
        π.unSome (some (Addr.mk g (0 : Nat) none)) fun p4 =>
        π.ld [.slice] (p4.add (0 : Nat)) fun (((a5 : Option Addr), (n6 : Nat), (c7 : Nat)), _) =>
        π.guard ((0 : Int) ≤ n ∧ n < (↑n6 : Int)) <|
        π.unSome (a5) fun p8 =>
        π.ld [.ptr] ((p8.add (n.toNat * (3 : Nat))).add (0 : Nat)) fun (p9, _) =>
        π.ret (Value.pointer (p9))
      )
    )
  )
def ann_gat : Ann := { draws := [], join := [], loop := [] }
def la_gat : LA := { ptr := [], ty := [] }
set_option maxRecDepth 100000 in
theorem eq_gat {W : Type} (π : Prims W) (g : Nat) (n : Int) : bodyL π Tryz.prog la_gat ann_gat (mkFr (maskA [] [.v (.pointer (some ⟨g, 0, none⟩)), .v (.int .i64 n)] 0) 28) Tryz.f32 (bodyOf Tryz.f32) (mkFr (List.map some [.v (.pointer (some ⟨g, 0, none⟩)), .v (.int .i64 n)]) 28) = vc_gat π g n := by kernel_rfl
theorem ok_gat (g : Nat) (n : Int) (R : Value → PH → Prop) (s : PH) (h : vc_gat (RP Tryz.prog R) g n s) : DCalls Tryz.prog 32 (List.map AV.val [.v (.pointer (some ⟨g, 0, none⟩)), .v (.int .i64 n)]).toArray s R :=
  calls_vcL (c := bodyOf Tryz.f32) (ann := ann_gat) la_gat (by kernel_rfl) Tryz.func32 rfl (by kernel_rfl) [.v (.pointer (some ⟨g, 0, none⟩)), .v (.int .i64 n)] [] (by rw [Tryz.ntmps32]; exact Nat.le_of_ble_eq_true rfl) (by kernel_rfl) (by rw [show Tryz.f32.ntmps = 28 from Tryz.ntmps32, eq_gat]; exact h)
/-- (*lintel/group.Group).at -/
def vc_gatNil {W : Type} (π : Prims W) (n : Int) : W :=
  π.ite (true) (
    π.ret (Value.pointer (none))
  ) (
    π.ite (decide (n < (0 : Int))) (
      π.ret (Value.pointer (none))
    ) (
      π.unSome (none) fun p0 =>
      π.ld [.slice] (p0.add (0 : Nat)) fun (((a1 : Option Addr), (n2 : Nat), (c3 : Nat)), _) =>
      π.ite (decide (n ≥ (↑n2 : Int))) (
        π.ret (Value.pointer (none))
      ) (
        π.unSome (none) fun p4 =>
        π.ld [.slice] (p4.add (0 : Nat)) fun (((a5 : Option Addr), (n6 : Nat), (c7 : Nat)), _) =>
        π.guard ((0 : Int) ≤ n ∧ n < (↑n6 : Int)) <|
        π.unSome (a5) fun p8 =>
        π.ld [.ptr] ((p8.add (n.toNat * (3 : Nat))).add (0 : Nat)) fun (p9, _) =>
        π.ret (Value.pointer (p9))
      )
    )
  )
def ann_gatNil : Ann := { draws := [], join := [], loop := [] }
def la_gatNil : LA := { ptr := [], ty := [] }
set_option maxRecDepth 100000 in
theorem eq_gatNil {W : Type} (π : Prims W) (n : Int) : bodyL π Tryz.prog la_gatNil ann_gatNil (mkFr (maskA [] [.v (.pointer none), .v (.int .i64 n)] 0) 28) Tryz.f32 (bodyOf Tryz.f32) (mkFr (List.map some [.v (.pointer none), .v (.int .i64 n)]) 28) = vc_gatNil π n := by kernel_rfl
theorem ok_gatNil (n : Int) (R : Value → PH → Prop) (s : PH) (h : vc_gatNil (RP Tryz.prog R) n s) : DCalls Tryz.prog 32 (List.map AV.val [.v (.pointer none), .v (.int .i64 n)]).toArray s R :=
  calls_vcL (c := bodyOf Tryz.f32) (ann := ann_gatNil) la_gatNil (by kernel_rfl) Tryz.func32 rfl (by kernel_rfl) [.v (.pointer none), .v (.int .i64 n)] [] (by rw [Tryz.ntmps32]; exact Nat.le_of_ble_eq_true rfl) (by kernel_rfl) (by rw [show Tryz.f32.ntmps = 28 from Tryz.ntmps32, eq_gatNil]; exact h)
/-- (*lintel/group.Group).Stand -/
def vc_gStand {W : Type} (π : Prims W) (g : Nat) (n : Int) : W :=
  π.call (32 : Nat) #[(Value.pointer (some (Addr.mk g (0 : Nat) none))), (Value.int (IntKind.i64) (n))] (false, [(false, [.ptr])]) fun ((p0, _), _) =>
  π.call (34 : Nat) #[(Value.pointer (p0))] (false, [(true, [.int .i64, .int .i64, .int .i64, .int .i64, .int .i64, .int .i64, .int .i64])]) fun (((x1 : Int), (x2 : Int), (x3 : Int), (x4 : Int), (x5 : Int), (x6 : Int), (x7 : Int), _), _) =>
  π.ret (Value.tuple #[(Value.agg #[(Value.int (IntKind.i64) (x1)), (Value.int (IntKind.i64) (x2)), (Value.int (IntKind.i64) (x3)), (Value.int (IntKind.i64) (x4)), (Value.int (IntKind.i64) (x5)), (Value.int (IntKind.i64) (x6)), (Value.int (IntKind.i64) (x7))]), (Value.bool (!p0.isNone))])
def ann_gStand : Ann := { draws := [], join := [], loop := [] }
def la_gStand : LA := { ptr := [(4, 4, 0)], ty := [(4, 37)] }
set_option maxRecDepth 100000 in
theorem eq_gStand {W : Type} (π : Prims W) (g : Nat) (n : Int) : bodyL π Tryz.prog la_gStand ann_gStand (mkFr (maskA [] [.v (.pointer (some ⟨g, 0, none⟩)), .v (.int .i64 n)] 0) 14) Tryz.f14 (bodyOf Tryz.f14) (mkFr (List.map some [.v (.pointer (some ⟨g, 0, none⟩)), .v (.int .i64 n)]) 14) = vc_gStand π g n := by kernel_rfl
theorem ok_gStand (g : Nat) (n : Int) (R : Value → PH → Prop) (s : PH) (h : vc_gStand (RP Tryz.prog R) g n s) : DCalls Tryz.prog 14 (List.map AV.val [.v (.pointer (some ⟨g, 0, none⟩)), .v (.int .i64 n)]).toArray s R :=
  calls_vcL (c := bodyOf Tryz.f14) (ann := ann_gStand) la_gStand (by kernel_rfl) Tryz.func14 rfl (by kernel_rfl) [.v (.pointer (some ⟨g, 0, none⟩)), .v (.int .i64 n)] [] (by rw [Tryz.ntmps14]; exact Nat.le_of_ble_eq_true rfl) (by kernel_rfl) (by rw [show Tryz.f14.ntmps = 14 from Tryz.ntmps14, eq_gStand]; exact h)
/-- (*lintel/group.Group).Stand -/
def vc_gStandNil {W : Type} (π : Prims W) (n : Int) : W :=
  π.call (32 : Nat) #[(Value.pointer (none)), (Value.int (IntKind.i64) (n))] (false, [(false, [.ptr])]) fun ((p0, _), _) =>
  π.call (34 : Nat) #[(Value.pointer (p0))] (false, [(true, [.int .i64, .int .i64, .int .i64, .int .i64, .int .i64, .int .i64, .int .i64])]) fun (((x1 : Int), (x2 : Int), (x3 : Int), (x4 : Int), (x5 : Int), (x6 : Int), (x7 : Int), _), _) =>
  π.ret (Value.tuple #[(Value.agg #[(Value.int (IntKind.i64) (x1)), (Value.int (IntKind.i64) (x2)), (Value.int (IntKind.i64) (x3)), (Value.int (IntKind.i64) (x4)), (Value.int (IntKind.i64) (x5)), (Value.int (IntKind.i64) (x6)), (Value.int (IntKind.i64) (x7))]), (Value.bool (!p0.isNone))])
def ann_gStandNil : Ann := { draws := [], join := [], loop := [] }
def la_gStandNil : LA := { ptr := [(4, 4, 0)], ty := [(4, 37)] }
set_option maxRecDepth 100000 in
theorem eq_gStandNil {W : Type} (π : Prims W) (n : Int) : bodyL π Tryz.prog la_gStandNil ann_gStandNil (mkFr (maskA [] [.v (.pointer none), .v (.int .i64 n)] 0) 14) Tryz.f14 (bodyOf Tryz.f14) (mkFr (List.map some [.v (.pointer none), .v (.int .i64 n)]) 14) = vc_gStandNil π n := by kernel_rfl
theorem ok_gStandNil (n : Int) (R : Value → PH → Prop) (s : PH) (h : vc_gStandNil (RP Tryz.prog R) n s) : DCalls Tryz.prog 14 (List.map AV.val [.v (.pointer none), .v (.int .i64 n)]).toArray s R :=
  calls_vcL (c := bodyOf Tryz.f14) (ann := ann_gStandNil) la_gStandNil (by kernel_rfl) Tryz.func14 rfl (by kernel_rfl) [.v (.pointer none), .v (.int .i64 n)] [] (by rw [Tryz.ntmps14]; exact Nat.le_of_ble_eq_true rfl) (by kernel_rfl) (by rw [show Tryz.f14.ntmps = 14 from Tryz.ntmps14, eq_gStandNil]; exact h)
/-- (*lintel/group.Group).Entry -/
def vc_gEntryNil {W : Type} (π : Prims W) (n i : Int) : W :=
  π.call (32 : Nat) #[(Value.pointer (none)), (Value.int (IntKind.i64) (n))] (false, [(false, [.ptr])]) fun ((p0, _), _) =>
  π.call (35 : Nat) #[(Value.pointer (p0)), (Value.int (IntKind.i64) (i))] (true, [(true, [.int .i64, .int .i64, .int .i64, .str]), (false, [.bool])]) fun (((x1 : Int), (x2 : Int), (x3 : Int), (t4 : ByteArray), _), ((b5 : Bool), _), _) =>
  π.ret (Value.tuple #[(Value.agg #[(Value.int (IntKind.i64) (x1)), (Value.int (IntKind.i64) (x2)), (Value.int (IntKind.i64) (x3)), (Value.string (t4))]), (Value.bool (b5))])
def ann_gEntryNil : Ann := { draws := [], join := [], loop := [] }
def la_gEntryNil : LA := { ptr := [(6, 6, 0)], ty := [(6, 43)] }
set_option maxRecDepth 100000 in
theorem eq_gEntryNil {W : Type} (π : Prims W) (n i : Int) : bodyL π Tryz.prog la_gEntryNil ann_gEntryNil (mkFr (maskA [] [.v (.pointer none), .v (.int .i64 n), .v (.int .i64 i)] 0) 15) Tryz.f15 (bodyOf Tryz.f15) (mkFr (List.map some [.v (.pointer none), .v (.int .i64 n), .v (.int .i64 i)]) 15) = vc_gEntryNil π n i := by kernel_rfl
theorem ok_gEntryNil (n i : Int) (R : Value → PH → Prop) (s : PH) (h : vc_gEntryNil (RP Tryz.prog R) n i s) : DCalls Tryz.prog 15 (List.map AV.val [.v (.pointer none), .v (.int .i64 n), .v (.int .i64 i)]).toArray s R :=
  calls_vcL (c := bodyOf Tryz.f15) (ann := ann_gEntryNil) la_gEntryNil (by kernel_rfl) Tryz.func15 rfl (by kernel_rfl) [.v (.pointer none), .v (.int .i64 n), .v (.int .i64 i)] [] (by rw [Tryz.ntmps15]; exact Nat.le_of_ble_eq_true rfl) (by kernel_rfl) (by rw [show Tryz.f15.ntmps = 15 from Tryz.ntmps15, eq_gEntryNil]; exact h)
/-- (*lintel/group.Group).Texts -/
def vc_gTexts {W : Type} (π : Prims W) (g : Nat) (n : Int) : W :=
  π.call (32 : Nat) #[(Value.pointer (some (Addr.mk g (0 : Nat) none))), (Value.int (IntKind.i64) (n))] (false, [(false, [.ptr])]) fun ((p0, _), _) =>
  π.ite (p0.isNone) (
    π.ret (Value.slice (none) ((0 : Nat)) ((0 : Nat)))
  ) (
    π.call (33 : Nat) #[(Value.pointer (p0))] (false, [(false, [.slice])]) fun ((((a1 : Option Addr), (n2 : Nat), (c3 : Nat)), _), _) =>
    π.ret (Value.slice (a1) (n2) (c3))
  )
def ann_gTexts : Ann := { draws := [], join := [], loop := [] }
def la_gTexts : LA := { ptr := [], ty := [] }
set_option maxRecDepth 100000 in
theorem eq_gTexts {W : Type} (π : Prims W) (g : Nat) (n : Int) : bodyL π Tryz.prog la_gTexts ann_gTexts (mkFr (maskA [] [.v (.pointer (some ⟨g, 0, none⟩)), .v (.int .i64 n)] 0) 13) Tryz.f12 (bodyOf Tryz.f12) (mkFr (List.map some [.v (.pointer (some ⟨g, 0, none⟩)), .v (.int .i64 n)]) 13) = vc_gTexts π g n := by kernel_rfl
theorem ok_gTexts (g : Nat) (n : Int) (R : Value → PH → Prop) (s : PH) (h : vc_gTexts (RP Tryz.prog R) g n s) : DCalls Tryz.prog 12 (List.map AV.val [.v (.pointer (some ⟨g, 0, none⟩)), .v (.int .i64 n)]).toArray s R :=
  calls_vcL (c := bodyOf Tryz.f12) (ann := ann_gTexts) la_gTexts (by kernel_rfl) Tryz.func12 rfl (by kernel_rfl) [.v (.pointer (some ⟨g, 0, none⟩)), .v (.int .i64 n)] [] (by rw [Tryz.ntmps12]; exact Nat.le_of_ble_eq_true rfl) (by kernel_rfl) (by rw [show Tryz.f12.ntmps = 13 from Tryz.ntmps12, eq_gTexts]; exact h)
/-- (*lintel/group.Group).Texts -/
def vc_gTextsNil {W : Type} (π : Prims W) (n : Int) : W :=
  π.call (32 : Nat) #[(Value.pointer (none)), (Value.int (IntKind.i64) (n))] (false, [(false, [.ptr])]) fun ((p0, _), _) =>
  π.ite (p0.isNone) (
    π.ret (Value.slice (none) ((0 : Nat)) ((0 : Nat)))
  ) (
    π.call (33 : Nat) #[(Value.pointer (p0))] (false, [(false, [.slice])]) fun ((((a1 : Option Addr), (n2 : Nat), (c3 : Nat)), _), _) =>
    π.ret (Value.slice (a1) (n2) (c3))
  )
def ann_gTextsNil : Ann := { draws := [], join := [], loop := [] }
def la_gTextsNil : LA := { ptr := [], ty := [] }
set_option maxRecDepth 100000 in
theorem eq_gTextsNil {W : Type} (π : Prims W) (n : Int) : bodyL π Tryz.prog la_gTextsNil ann_gTextsNil (mkFr (maskA [] [.v (.pointer none), .v (.int .i64 n)] 0) 13) Tryz.f12 (bodyOf Tryz.f12) (mkFr (List.map some [.v (.pointer none), .v (.int .i64 n)]) 13) = vc_gTextsNil π n := by kernel_rfl
theorem ok_gTextsNil (n : Int) (R : Value → PH → Prop) (s : PH) (h : vc_gTextsNil (RP Tryz.prog R) n s) : DCalls Tryz.prog 12 (List.map AV.val [.v (.pointer none), .v (.int .i64 n)]).toArray s R :=
  calls_vcL (c := bodyOf Tryz.f12) (ann := ann_gTextsNil) la_gTextsNil (by kernel_rfl) Tryz.func12 rfl (by kernel_rfl) [.v (.pointer none), .v (.int .i64 n)] [] (by rw [Tryz.ntmps12]; exact Nat.le_of_ble_eq_true rfl) (by kernel_rfl) (by rw [show Tryz.f12.ntmps = 13 from Tryz.ntmps12, eq_gTextsNil]; exact h)
/-- lintel/lintellaw11.all -/
def vc_lall {W : Type} (π : Prims W) (g : Nat) (most : Int) : W :=
  π.loop [(false, [.int .i64]), (false, [.int .i64])] ((most, ()), ((0 : Int), ()), ()) fun (((x1 : Int), _), ((x2 : Int), _), _) again0 =>
    π.ite (decide (x2 < x1)) (
      π.call (19 : Nat) #[(Value.pointer (some (Addr.mk g (0 : Nat) none)))] (false, [(false, [.int .i64])]) fun (((x3 : Int), _), _) =>
      π.ite (x3 == (0 : Int)) (
        π.ret (Value.bool (true))
      ) (
        π.call (11 : Nat) #[(Value.pointer (some (Addr.mk g (0 : Nat) none))), (Value.agg #[(Value.int (IntKind.i64) ((1 : Int))), (Value.int (IntKind.i64) ((0 : Int))), (Value.int (IntKind.i64) ((0 : Int))), (Value.string (ByteArray.mk #[]))])] (true, []) fun (_) =>
        again0 ((x1, ()), (IntKind.i64.wrap (x2 + (1 : Int)), ()), ())
      )
    ) (
      π.call (19 : Nat) #[(Value.pointer (some (Addr.mk g (0 : Nat) none)))] (false, [(false, [.int .i64])]) fun (((x4 : Int), _), _) =>
      π.ret (Value.bool (x4 == (0 : Int)))
    )
def ann_lall : Ann := { draws := [], join := [], loop := [(2, [(5, 3), (6, 3)])] }
def la_lall : LA := { ptr := [], ty := [] }
set_option maxRecDepth 100000 in
theorem eq_lall {W : Type} (π : Prims W) (g : Nat) (most : Int) : bodyL π Tryz.prog la_lall ann_lall (mkFr (maskA [] [.v (.pointer (some ⟨g, 0, none⟩)), .v (.int .i64 most)] 0) 18) Tryz.f20 (bodyOf Tryz.f20) (mkFr (List.map some [.v (.pointer (some ⟨g, 0, none⟩)), .v (.int .i64 most)]) 18) = vc_lall π g most := by kernel_rfl
theorem ok_lall (g : Nat) (most : Int) (R : Value → PH → Prop) (s : PH) (h : vc_lall (RP Tryz.prog R) g most s) : DCalls Tryz.prog 20 (List.map AV.val [.v (.pointer (some ⟨g, 0, none⟩)), .v (.int .i64 most)]).toArray s R :=
  calls_vcL (c := bodyOf Tryz.f20) (ann := ann_lall) la_lall (by kernel_rfl) Tryz.func20 rfl (by kernel_rfl) [.v (.pointer (some ⟨g, 0, none⟩)), .v (.int .i64 most)] [] (by rw [Tryz.ntmps20]; exact Nat.le_of_ble_eq_true rfl) (by kernel_rfl) (by rw [show Tryz.f20.ntmps = 18 from Tryz.ntmps20, eq_lall]; exact h)
/-- lintel/lintellaw11.awake -/
def vc_lawake {W : Type} (π : Prims W) : W :=
  π.call (18 : Nat) #[(Value.int (IntKind.i64) ((3 : Int)))] (true, [(false, [.ptr]), (false, [.int .i64])]) fun ((p0, _), ((x1 : Int), _), _) =>
  π.call (11 : Nat) #[(Value.pointer (p0)), (Value.agg #[(Value.int (IntKind.i64) ((4 : Int))), (Value.int (IntKind.i64) ((0 : Int))), (Value.int (IntKind.i64) ((0 : Int))), (Value.string (ByteArray.mk #[]))])] (true, []) fun (_) =>
  π.call (20 : Nat) #[(Value.pointer (p0)), (Value.int (IntKind.i64) ((100 : Int)))] (false, [(false, [.bool])]) fun (((b2 : Bool), _), _) =>
  π.call (14 : Nat) #[(Value.pointer (p0)), (Value.int (IntKind.i64) ((0 : Int)))] (true, [(true, [.int .i64, .int .i64, .int .i64, .int .i64, .int .i64, .int .i64, .int .i64]), (false, [.bool])]) fun (((x3 : Int), (x4 : Int), (x5 : Int), (x6 : Int), (x7 : Int), (x8 : Int), (x9 : Int), _), ((b10 : Bool), _), _) =>
  π.call (11 : Nat) #[(Value.pointer (p0)), (Value.agg #[(Value.int (IntKind.i64) ((6 : Int))), (Value.int (IntKind.i64) ((0 : Int))), (Value.int (IntKind.i64) ((0 : Int))), (Value.string (ByteArray.mk #[(120 : UInt8)]))])] (true, []) fun (_) =>
  π.join [(false, [.ptr]), (false, [.int .i64]), (false, [.bool]), (true, [.int .i64, .int .i64, .int .i64, .int .i64, .int .i64, .int .i64, .int .i64]), (false, [.bool])] (fun J11 =>
    π.ite (b2) (
      π.call (20 : Nat) #[(Value.pointer (p0)), (Value.int (IntKind.i64) ((100 : Int)))] (false, [(false, [.bool])]) fun (((b12 : Bool), _), _) =>
      J11 ((p0, ()), (x1, ()), (b12, ()), (x3, x4, x5, x6, x7, x8, x9, ()), (b10, ()), ())
    ) (
      J11 ((p0, ()), (x1, ()), (false, ()), (x3, x4, x5, x6, x7, x8, x9, ()), (b10, ()), ())
    )
  ) (fun ((p13, _), ((x14 : Int), _), ((b15 : Bool), _), ((x16 : Int), (x17 : Int), (x18 : Int), (x19 : Int), (x20 : Int), (x21 : Int), (x22 : Int), _), ((b23 : Bool), _), _) =>
    π.ite (x14 == (0 : Int)) (
      π.ite (b15) (
        π.ite (b23) (
          π.ite (x18 == (2 : Int)) (
            π.call (12 : Nat) #[(Value.pointer (p13)), (Value.int (IntKind.i64) ((1 : Int)))] (false, [(false, [.slice])]) fun ((((a24 : Option Addr), (n25 : Nat), (c26 : Nat)), _), _) =>
            π.nw (Obj.cells #[(Value.string (ByteArray.mk #[(120 : UInt8)]))] (9 : Nat) ((0 : Nat), (0 : Nat))) fun r27 =>
            π.call (21 : Nat) #[(Value.slice (a24) (n25) (c26)), (Value.slice (some (Addr.mk r27 (0 : Nat) none)) ((1 : Nat)) ((1 : Nat)))] (false, [(false, [.bool])]) fun (((b28 : Bool), _), _) =>
            π.ite (b28) (
              π.call (12 : Nat) #[(Value.pointer (p13)), (Value.int (IntKind.i64) ((2 : Int)))] (false, [(false, [.slice])]) fun ((((a29 : Option Addr), (n30 : Nat), (c31 : Nat)), _), _) =>
              π.nw (Obj.cells #[(Value.string (ByteArray.mk #[(120 : UInt8)]))] (9 : Nat) ((0 : Nat), (0 : Nat))) fun r32 =>
              π.call (21 : Nat) #[(Value.slice (a29) (n30) (c31)), (Value.slice (some (Addr.mk r32 (0 : Nat) none)) ((1 : Nat)) ((1 : Nat)))] (false, [(false, [.bool])]) fun (((b33 : Bool), _), _) =>
              π.ret (Value.bool (b33))
            ) (
              π.ret (Value.bool (false))
            )
          ) (
            π.ret (Value.bool (false))
          )
        ) (
          π.ret (Value.bool (false))
        )
      ) (
        π.ret (Value.bool (false))
      )
    ) (
      π.ret (Value.bool (false))
    )
  )
def ann_lawake : Ann := { draws := [], join := [(7, [(1, 23), (2, 51), (3, 4), (4, 37), (5, 4)])], loop := [] }
def la_lawake : LA := { ptr := [(4, 4, 0), (37, 4, 2)], ty := [(4, 37)] }
set_option maxRecDepth 100000 in
theorem eq_lawake {W : Type} (π : Prims W) : bodyL π Tryz.prog la_lawake ann_lawake (mkFr (maskA [] [] 0) 53) Tryz.f9 (bodyOf Tryz.f9) (mkFr (List.map some []) 53) = vc_lawake π := by kernel_rfl
theorem ok_lawake (R : Value → PH → Prop) (s : PH) (h : vc_lawake (RP Tryz.prog R) s) : DCalls Tryz.prog 9 (List.map AV.val []).toArray s R :=
  calls_vcL (c := bodyOf Tryz.f9) (ann := ann_lawake) la_lawake (by kernel_rfl) Tryz.func9 rfl (by kernel_rfl) [] [] (by rw [Tryz.ntmps9]; exact Nat.le_of_ble_eq_true rfl) (by kernel_rfl) (by rw [show Tryz.f9.ntmps = 53 from Tryz.ntmps9, eq_lawake]; exact h)
/-- lintel/lintellaw11.GroupNil -/
def vc_GroupNil {W : Type} (π : Prims W) (size : Int) (ak aa ab : Int) (at_ : ByteArray) : W :=
  π.call (11 : Nat) #[(Value.pointer (none)), (Value.agg #[(Value.int (IntKind.i64) (ak)), (Value.int (IntKind.i64) (aa)), (Value.int (IntKind.i64) (ab)), (Value.string (at_))])] (true, []) fun (_) =>
  π.call (14 : Nat) #[(Value.pointer (none)), (Value.int (IntKind.i64) (aa))] (true, [(true, [.int .i64, .int .i64, .int .i64, .int .i64, .int .i64, .int .i64, .int .i64]), (false, [.bool])]) fun (((x0 : Int), (x1 : Int), (x2 : Int), (x3 : Int), (x4 : Int), (x5 : Int), (x6 : Int), _), ((b7 : Bool), _), _) =>
  π.call (15 : Nat) #[(Value.pointer (none)), (Value.int (IntKind.i64) (aa)), (Value.int (IntKind.i64) (ab))] (true, [(true, [.int .i64, .int .i64, .int .i64, .str]), (false, [.bool])]) fun (((x8 : Int), (x9 : Int), (x10 : Int), (t11 : ByteArray), _), ((b12 : Bool), _), _) =>
  π.call (18 : Nat) #[(Value.int (IntKind.i64) (size))] (true, [(false, [.ptr]), (false, [.int .i64])]) fun ((p13, _), ((x14 : Int), _), _) =>
  π.call (9 : Nat) #[] (false, [(false, [.bool])]) fun (((b15 : Bool), _), _) =>
  π.ite (b15) (
    π.call (19 : Nat) #[(Value.pointer (none))] (false, [(false, [.int .i64])]) fun (((x16 : Int), _), _) =>
    π.ite (x16 == (0 : Int)) (
      π.ite (x0 == (0 : Int) && (x1 == (0 : Int) && (x2 == (0 : Int) && (x3 == (0 : Int) && (x4 == (0 : Int) && (x5 == (0 : Int) && (x6 == (0 : Int) && true))))))) (
        π.ite (!b7) (
          π.ite (!b12) (
            π.call (12 : Nat) #[(Value.pointer (none)), (Value.int (IntKind.i64) (aa))] (false, [(false, [.slice])]) fun ((((a17 : Option Addr), (n18 : Nat), (c19 : Nat)), _), _) =>
            π.ite ((↑n18 : Int) == (0 : Int)) (
              π.ite (decide (size ≥ (1 : Int))) (
                π.ite (decide (size ≤ (5 : Int)) == (x14 == (0 : Int))) (
                  π.ret (Value.bool (p13.isNone == (x14 == (1 : Int))))
                ) (
                  π.ret (Value.bool (false))
                )
              ) (
                π.ite (false == (x14 == (0 : Int))) (
                  π.ret (Value.bool (p13.isNone == (x14 == (1 : Int))))
                ) (
                  π.ret (Value.bool (false))
                )
              )
            ) (
              π.ret (Value.bool (false))
            )
          ) (
            π.ret (Value.bool (false))
          )
        ) (
          π.ret (Value.bool (false))
        )
      ) (
        π.ret (Value.bool (false))
      )
    ) (
      π.ret (Value.bool (false))
    )
  ) (
    π.ret (Value.bool (false))
  )
def ann_GroupNil : Ann := { draws := [], join := [], loop := [] }
def la_GroupNil : LA := { ptr := [(3, 3, 0), (6, 6, 0), (8, 8, 0), (17, 3, 1), (24, 3, 1), (26, 3, 2), (57, 3, 1)], ty := [(3, 30), (6, 37), (8, 43)] }
set_option maxRecDepth 100000 in
theorem eq_GroupNil {W : Type} (π : Prims W) (size : Int) (ak aa ab : Int) (at_ : ByteArray) : bodyL π Tryz.prog la_GroupNil ann_GroupNil (mkFr (maskA [] [.v (.int .i64 size), .v (.agg #[.int .i64 ak, .int .i64 aa, .int .i64 ab, .string at_])] 0) 81) Tryz.f7 (bodyOf Tryz.f7) (mkFr (List.map some [.v (.int .i64 size), .v (.agg #[.int .i64 ak, .int .i64 aa, .int .i64 ab, .string at_])]) 81) = vc_GroupNil π size ak aa ab at_ := by kernel_rfl
theorem ok_GroupNil (size : Int) (ak aa ab : Int) (at_ : ByteArray) (R : Value → PH → Prop) (s : PH) (h : vc_GroupNil (RP Tryz.prog R) size ak aa ab at_ s) : DCalls Tryz.prog 7 (List.map AV.val [.v (.int .i64 size), .v (.agg #[.int .i64 ak, .int .i64 aa, .int .i64 ab, .string at_])]).toArray s R :=
  calls_vcL (c := bodyOf Tryz.f7) (ann := ann_GroupNil) la_GroupNil (by kernel_rfl) Tryz.func7 rfl (by kernel_rfl) [.v (.int .i64 size), .v (.agg #[.int .i64 ak, .int .i64 aa, .int .i64 ab, .string at_])] [] (by rw [Tryz.ntmps7]; exact Nat.le_of_ble_eq_true rfl) (by kernel_rfl) (by rw [show Tryz.f7.ntmps = 81 from Tryz.ntmps7, eq_GroupNil]; exact h)
end Go.Proofs.YtcdggocbjnmeaaaGreat
end
section
set_option linter.unusedVariables false
set_option linter.unusedSimpArgs false
set_option maxHeartbeats 1000000
set_option maxRecDepth 100000
namespace Go.Proofs.YtcdggocbjnmeaaaGreat
open Fw Go
attribute [-simp] Fw.W.ld_iff Fw.W.st_iff
def letE : Enc Msg where
  sz := 3
  f m := [.int .i64 m.from_, .int .i64 m.to, .string (encMB m)]
  len _ := rfl
  one p v hv := by simp at hv; rcases hv with rfl | rfl | rfl <;> rfl
  pos := by omega
abbrev letV (m : Msg) : Value := .agg #[.int .i64 m.from_, .int .i64 m.to, .string (encMB m)]
abbrev noLet : Value := .agg #[.int .i64 0, .int .i64 0, .string ⟨#[]⟩]
structure PostIs (s : PH) (p : Nat) (t : Tri) (bag : List Msg) : Prop where
  cell : s p = some (.cells #[.slice t.1 t.2.1 t.2.2] 104 (0, 0))
  row : rowE letE s 78 t.1 t.2.1 t.2.2 bag
theorem PostIs.mod {s s' : PH} {p : Nat} {t : Tri} {bag : List Msg} {L : List Nat} (h : PostIs s p t bag) (hm : Fw.Mod L s s') (hp : p ∉ L) (ht : ∀ x ∈ Fw.blk t.1, x ∉ L) : PostIs s' p t bag := ⟨hm.at h.cell hp, h.row.mod hm ht⟩
theorem PostIs.ne {s : PH} {p : Nat} {t : Tri} {bag : List Msg} (h : PostIs s p t bag) : p ∉ Fw.blk t.1 := row_ne2 h.row h.cell (by decide)
theorem c_pNew (s : PH) : DCalls Tryz.prog 36 #[] s fun y s' => ∃ p, y = .pointer (some ⟨p, 0, none⟩) ∧ PostIs s' p noTri [] ∧ Fw.Mod [] s s' ∧ s p = none := by
  refine ok_pNew _ s ?_
  unfold vc_pNew
  simp only [RP_nw]
  refine W.nw_of fun r s1 hr m1 k1 => ?_
  exact ⟨r, rfl, ⟨k1, rowE.nil⟩, m1, hr⟩
section
variable {s : PH} {p : Nat} {t : Tri} {bag : List Msg}
def SendQ (p : Nat) (t : Tri) (bag : List Msg) (s : PH) (y : Value) (s' : PH) : Prop := y = .tuple #[] ∧ ∃ t' : Tri, PostIs s' p t' bag ∧ Fw.Mod (p :: Fw.blk t.1) s s' ∧ ∀ x ∈ Fw.blk t'.1, x ∈ Fw.blk t.1 ∨ s x = none
theorem c_pSend (h : PostIs s p t bag) (m : Msg) (hl : bag.length ≤ 1073741824) : DCalls Tryz.prog 66 #[.pointer (some ⟨p, 0, none⟩), letV m] s (SendQ p t (bag ++ [m]) s) := by
  refine ok_pSend p m.from_ m.to (encMB m) _ s ?_
  unfold vc_pSend
  simp only [RP_ite, Option.isNone_some, Bool.not_false, W.br_true, RP_unSome, W.unSome_some, add_mk, Nat.zero_add, RP_ld]
  refine ld_blk (c := .slice) (x := t) h.cell rfl ?_
  simp only [RP_nw, RP_app]
  refine W.nw_of fun r s1 hr m1 k1 => ?_
  have hmax : maxLen = 9223372036854775807 := rfl
  have hn := h.row.len
  have hp1 := m1.at h.cell (by simp)
  have hpt := h.ne
  refine app_rowE (E := letE) (k := 1) (ys := [m]) (h.row.mod m1 (by simp)) rfl (src_has (E := letE) (has_block k1) rfl) rfl rfl (by show t.2.1 + 1 ≤ maxLen; omega) (by show (t.2.1 + 1) * 32 ≤ 140737488355328; omega) ?_
  intro a' c' s2 hrow hm
  have m2 : Fw.Mod (Fw.blk t.1) s1 s2 ∧ ∀ x ∈ Fw.blk a', x ∈ Fw.blk t.1 ∨ s1 x = none := by
    rcases hm with ⟨rfl, hm⟩ | ⟨g, rfl, hg, hm⟩
    · exact ⟨hm, fun x hx => .inl hx⟩
    · exact ⟨hm.mono (by simp), by intro x hx; simp [Fw.blk] at hx; subst hx; exact .inr hg⟩
  obtain ⟨m2, hf2⟩ := m2
  have hp2 := m2.at hp1 hpt
  simp only [W.unSome_some, add_mk, Nat.zero_add, RP_st]
  refine st_blk (v := .slice t.1 t.2.1 t.2.2) hp2 rfl rfl ?_
  have hpa : p ∉ Fw.blk a' := fun hx => (hf2 p hx).elim hpt (by rw [hp1]; simp)
  refine ⟨rfl, (a', t.2.1 + 1, c'), ⟨PH.upd_same _ _ _, ?_⟩, ?_, fun x hx => ?_⟩
  · exact hrow.mod (Mod.upd (L := [p]) (by simp)) (by intro x hx; simp; rintro rfl; exact hpa hx)
  · refine Mod.updLater ?_ (.inl (by simp))
    exact (m1.mono (by simp) : Fw.Mod (p :: Fw.blk t.1) s s1).trans (m2.mono (by simp; intro x hx; exact .inr hx))
  · exact (hf2 x hx).imp_right fun h' => m1.none h' (by simp)
theorem c_pLen (h : PostIs s p t bag) : DCalls Tryz.prog 39 #[.pointer (some ⟨p, 0, none⟩)] s fun y s' => y = .int .i64 (bag.length : Int) ∧ s' = s := by
  refine ok_pLen p _ s ?_
  unfold vc_pLen
  simp only [RP_ite, Option.isNone_some, W.br_false, RP_unSome, W.unSome_some, add_mk, Nat.zero_add, RP_ld]
  refine ld_blk (c := .slice) (x := t) h.cell rfl ?_
  exact ⟨by rw [← h.row.len], rfl⟩
/-- a place among the letters -/
def At (bag : List Msg) (i : Int) : Prop := i = -1 ∧ bag = [] ∨ 0 ≤ i ∧ i.toNat < bag.length
def optLet : Option Msg → Value
  | some m => letV m
  | none => noLet
theorem c_pCopy (h : PostIs s p t bag) {i : Int} (hi : At bag i) : DCalls Tryz.prog 43 #[.pointer (some ⟨p, 0, none⟩), .int .i64 i] s fun y s' => y = .tuple #[optLet bag[i.toNat]?, .bool bag[i.toNat]?.isSome] ∧ s' = s := by
  refine ok_pCopy p i _ s ?_
  unfold vc_pCopy
  simp only [RP_ite, W.br_iff, decide_eq_true_eq, decide_eq_false_iff_not, RP_call]
  refine ⟨fun hn => ?_, fun hn => ?_⟩
  · rcases hi with ⟨rfl, rfl⟩ | ⟨h0, _⟩
    · exact ⟨rfl, rfl⟩
    · omega
  · rcases hi with ⟨rfl, rfl⟩ | ⟨h0, h1⟩
    · omega
    refine W.call_of (c_pLen h) ?_
    rintro _ s ⟨rfl, rfl⟩
    refine ⟨((bag.length, ()), ()), rfl, ?_⟩
    have hlt : ¬ (i ≥ (bag.length : Int)) := by omega
    simp only [decide_eq_false hlt, W.br_false, RP_unSome, W.unSome_some, add_mk, Nat.zero_add, RP_ld]
    refine ld_blk (c := .slice) (x := t) h.cell rfl ?_
    obtain ⟨m, hm⟩ : ∃ m, bag[i.toNat]? = some m := ⟨_, List.getElem?_eq_getElem h1⟩
    obtain ⟨q, hq, hh⟩ := h.row.at hm
    have hn := h.row.len
    simp only [RP_guard, W.guard_iff, hq, W.unSome_some, add_mk, Nat.zero_add]
    refine ⟨⟨h0, by show i < (t.2.1 : Int); omega⟩, (m.from_, m.to, encMB m, ()), hh, ?_⟩
    rw [hm]
    exact ⟨rfl, rfl⟩
theorem setL_take : ∀ (l : List Value) (cc : Array Value) (i : Nat), i + l.length ≤ cc.size → (setL cc i l).toList.take (i + l.length) = cc.toList.take i ++ l
  | [], cc, i, _ => by simp [setL]
  | x :: l, cc, i, hi => by
    simp only [List.length_cons] at hi ⊢
    have := setL_take l (cc.setIfInBounds i x) (i + 1) (by simp; omega)
    simp only [setL]
    rw [show i + (l.length + 1) = i + 1 + l.length by omega, this]
    have hlt : i < cc.size := by omega
    rw [Array.toList_setIfInBounds, List.take_add_one, List.getElem?_set_self (by simpa using hlt), List.take_set_of_le (Nat.le_refl _)]
    simp
def TakeQ (p : Nat) (t : Tri) (bag : List Msg) (i : Int) (s : PH) (y : Value) (s' : PH) : Prop := y = .tuple #[optLet bag[i.toNat]?, .bool bag[i.toNat]?.isSome] ∧ ∃ t' : Tri, PostIs s' p t' (bag.eraseIdx i.toNat) ∧ Fw.Mod (p :: Fw.blk t.1) s s' ∧ ∀ x ∈ Fw.blk t'.1, x ∈ Fw.blk t.1
theorem c_pTake (h : PostIs s p t bag) {i : Int} (hi : At bag i) (hl : bag.length ≤ 1073741824) : DCalls Tryz.prog 41 #[.pointer (some ⟨p, 0, none⟩), .int .i64 i] s (TakeQ p t bag i s) := by
  refine ok_pTake p i _ s ?_
  unfold vc_pTake
  simp only [RP_call]
  refine W.call_of (c_pCopy h hi) ?_
  rintro _ s ⟨rfl, rfl⟩
  rcases hi with ⟨rfl, rfl⟩ | ⟨h0, h1⟩
  · refine ⟨((0, 0, ⟨#[]⟩, ()), (false, ()), ()), rfl, ?_⟩
    simp only [RP_ite, W.br_false]
    exact ⟨rfl, t, h, Mod.refl _ _, fun x hx => hx⟩
  obtain ⟨m, hm⟩ : ∃ m, bag[i.toNat]? = some m := ⟨_, List.getElem?_eq_getElem h1⟩
  rw [hm]
  refine ⟨((m.from_, m.to, encMB m, ()), (true, ()), ()), rfl, ?_⟩
  obtain ⟨q, hq, _⟩ := h.row.at hm
  have hn := h.row.len
  have hle := h.row.le
  obtain ⟨k, rfl⟩ : ∃ k : Nat, i = (k : Int) := ⟨i.toNat, by omega⟩
  simp only [Int.toNat_natCast] at h1 hm
  obtain ⟨ta, tn, tc⟩ := t
  simp only at hq hn hle
  subst hq
  have hpc := h.cell
  simp only at hpc
  obtain ⟨r1, r2, r3, r4 | ⟨q', cur, r4, hqc, hsz, htake⟩⟩ := h.row
  · cases r4.1
  cases r4
  simp only at hqc hsz htake r1 r2 r3
  have hpq : p ≠ q := fun e => h.ne (by rw [e]; simp [Fw.blk])
  simp only [RP_ite, W.br_true, RP_unSome, W.unSome_some, add_mk, Nat.zero_add, RP_ld]
  refine ld_blk (c := .slice) (x := (some ⟨q, 0, none⟩, tn, tc)) hpc rfl ?_
  simp only [RP_guard, W.guard_iff, Int.toNat_natCast, W.unSome_some, add_mk, Nat.zero_add]
  refine ⟨⟨by omega, by omega, by omega⟩, ?_⟩
  refine ld_blk (c := .slice) (x := (some ⟨q, 0, none⟩, tn, tc)) hpc rfl ?_
  have hw : IntKind.i64.wrap ((k : Int) + 1) = ((k + 1 : Nat) : Int) := wrap_succ (by omega)
  simp only [hw, Int.toNat_natCast]
  refine ⟨⟨by omega, by omega, by omega⟩, ?_⟩
  have hck : tc ≠ k := by omega
  rw [if_neg hck]
  have hmin : Nat.min (tn - (k + 1)) (tn - k) = tn - (k + 1) := Nat.min_eq_left (by omega)
  have hsrc := h.row.src (i := k + 1) (m := tn - (k + 1)) (by show k + 1 + (tn - (k + 1)) ≤ tn; omega)
  have hnews : (bag.drop (k + 1)).take (tn - (k + 1)) = bag.drop (k + 1) := List.take_of_length_le (by rw [List.length_drop, hn]; exact Nat.le_refl _)
  rw [hnews] at hsrc
  have hnl : ((bag.drop (k + 1)).flatMap letE.f).length = (tn - (k + 1)) * 3 := by
    rw [flat_len, List.length_drop, hn]; (first | done | rfl)
  have er : bag.eraseIdx k = bag.take k ++ bag.drop (k + 1) := List.eraseIdx_eq_take_drop_succ bag k
  -- what is there afterwards
  have key : ∀ cur', cur'.size = cur.size → cur'.toList.take ((tn - 1) * 3) = (bag.eraseIdx k).flatMap letE.f → ∀ s1, s1 p = s p → s1 q = some (.cells cur' 78 (0, 0)) → Fw.Mod [q] s s1 →
      TakeQ p (some ⟨q, 0, none⟩, tn, tc) bag (k : Int) s (.tuple #[optLet (some m), .bool true]) (s1.upd p (.cells #[.slice (some ⟨q, 0, none⟩) (tn - 1) tc] 104 (0, 0))) := by
    intro cur' hcs hct s1 hp1 hq1 m1
    have hlen : (bag.eraseIdx k).length = tn - 1 := by rw [List.length_eraseIdx_of_lt h1]; omega
    refine ⟨by rw [Int.toNat_natCast, hm]; (first | done | rfl), (some ⟨q, 0, none⟩, tn - 1, tc), ⟨PH.upd_same _ _ _, ?_, ?_, ?_, .inr ⟨q, cur', rfl, ?_, ?_, ?_⟩⟩, ?_, fun x hx => hx⟩
    · rw [Int.toNat_natCast, flat_len, hlen]
    · show tn - 1 ≤ tc; omega
    · exact r3
    · rw [PH.upd_other _ _ hpq.symm]; exact hq1
    · rw [hcs]; exact hsz
    · rw [Int.toNat_natCast]; exact hct
    · exact Mod.updLater (m1.mono (by simp [Fw.blk])) (.inl (by simp))
  simp only [RP_cpy]
  refine ⟨(bag.drop (k + 1)).flatMap letE.f, by rw [hmin]; exact hsrc, flat_one _, ?_⟩
  rw [hmin]
  show W.cpyK _ _ _ _ (Option.map (fun x => Addr.add x (k * 3)) (some ⟨q, 0, none⟩))
  simp only [Option.map_some, add_mk, Nat.zero_add, W.cpyK]
  have hbsz : k * 3 + (tn - (k + 1)) * 3 ≤ cur.size := by
    have : tc * 3 ≤ cur.size := hsz
    omega
  refine ⟨?_, ?_⟩
  · by_cases hz : 0 < ((bag.drop (k + 1)).flatMap letE.f).length
    · exact (open_iff hqc hz).2 ⟨rfl, by rw [hnl]; exact hbsz, .inl (Nat.zero_le _)⟩
    · intro j hj; omega
  have hfin : ∀ s1 : PH, s1 p = s p → (∀ R : Value → PH → Prop, R (.tuple #[letV m, .bool true]) (s1.upd p (.cells #[.slice (some ⟨q, 0, none⟩) (tn - 1) tc] 104 (0, 0))) →
      W.unSome (some ⟨p, 0, none⟩) (fun p13 => W.ld [.slice] (p13.add 0) fun x => W.unSome (some ⟨p, 0, none⟩) fun p17 => W.ld [.slice] (p17.add 0) fun y => W.guard ((0 : Int) ≤ 0 ∧ 0 ≤ IntKind.i64.wrap ((y.1.2.1 : Int) - 1) ∧ IntKind.i64.wrap ((y.1.2.1 : Int) - 1) ≤ (x.1.2.2 : Int)) <|
        W.unSome (some ⟨p, 0, none⟩) fun p21 => W.st (p21.add 0) [.slice (if x.1.2.2 = 0 then x.1.1 else Option.map (fun z => z.add 0) x.1.1) ((IntKind.i64.wrap ((y.1.2.1 : Int) - 1)).toNat - 0) (x.1.2.2 - 0)] <| W.ret R (.tuple #[letV m, .bool true])) s1) := by
    intro s1 hs1 R hR
    have hp1 : s1 p = some (.cells #[.slice (some ⟨q, 0, none⟩) tn tc] 104 (0, 0)) := by rw [hs1]; exact hpc
    simp only [W.unSome_some, add_mk, Nat.zero_add]
    refine ld_blk (c := .slice) (x := (some ⟨q, 0, none⟩, tn, tc)) hp1 rfl ?_
    simp only [W.unSome_some, add_mk, Nat.zero_add]
    refine ld_blk (c := .slice) (x := (some ⟨q, 0, none⟩, tn, tc)) hp1 rfl ?_
    have hw1 : IntKind.i64.wrap ((tn : Int) - 1) = ((tn - 1 : Nat) : Int) := by rw [wrap_in (by omega) (by omega)]; omega
    simp only [hw1, W.guard_iff, Int.toNat_natCast, Nat.sub_zero, W.unSome_some, add_mk, Nat.zero_add]
    refine ⟨⟨by omega, by omega, by omega⟩, ?_⟩
    refine st_blk (v := .slice (some ⟨q, 0, none⟩) tn tc) hp1 rfl rfl ?_
    have hif : (if tc = 0 then (some ⟨q, 0, none⟩ : Option Addr) else Option.map (fun (z : Addr) => z.add 0) (some ⟨q, 0, none⟩)) = some ⟨q, 0, none⟩ := by
      split
      · rfl
      · simp
    rw [hif]
    exact hR
  cases hne : (bag.drop (k + 1)).flatMap letE.f with
  | nil =>
    refine hfin _ rfl _ ?_
    have htn : tn = k + 1 := by rw [hne] at hnl; simp at hnl; omega
    refine key cur rfl ?_ s rfl hqc (Mod.refl _ _)
    have : cur.toList.take ((tn - 1) * 3) = ((cur.toList.take (tn * letE.sz)).take (k * letE.sz)) := by
      rw [List.take_take]; congr 1; show (tn - 1) * 3 = min (k * 3) (tn * 3); omega
    rw [this, htake, flat_take, er, List.flatMap_append, hne, List.append_nil]
  | cons v vs =>
    rw [PH.stores_eq (e := 78) (f := (0, 0)) rfl (v :: vs) 0 cur s hqc (by simp)]
    refine hfin _ (PH.upd_other _ _ hpq) _ ?_
    rw [← hne]
    refine key (setL cur (k * 3) ((bag.drop (k + 1)).flatMap letE.f)) (setL_size _ _ _) ?_ _ (PH.upd_other _ _ hpq) (PH.upd_same _ _ _) (Mod.upd (by simp))
    have h2 := setL_take ((bag.drop (k + 1)).flatMap letE.f) cur (k * 3) (by rw [hnl]; exact hbsz)
    rw [hnl] at h2
    rw [show (tn - 1) * 3 = k * 3 + (tn - (k + 1)) * 3 by omega, h2, er, List.flatMap_append]
    congr 1
    have : cur.toList.take (k * 3) = ((cur.toList.take (tn * letE.sz)).take (k * letE.sz)) := by
      rw [List.take_take]; congr 1; show k * 3 = min (k * 3) (tn * 3); omega
    rw [this, htake, flat_take]
theorem c_pLose (h : PostIs s p t bag) {i : Int} (hi : At bag i) (hl : bag.length ≤ 1073741824) : DCalls Tryz.prog 44 #[.pointer (some ⟨p, 0, none⟩), .int .i64 i] s fun y s' => ∃ b, y = .bool b ∧ TakeQ p t bag i s (.tuple #[optLet bag[i.toNat]?, .bool bag[i.toNat]?.isSome]) s' := by
  refine ok_pLose p i _ s ?_
  unfold vc_pLose
  simp only [RP_call]
  refine W.call_of (c_pTake h hi hl) ?_
  rintro y s1 ⟨rfl, h1⟩
  cases hm : bag[i.toNat]? with
  | none => exact ⟨((0, 0, ⟨#[]⟩, ()), (false, ()), ()), rfl, _, rfl, by rw [hm], h1⟩
  | some m => exact ⟨((m.from_, m.to, encMB m, ()), (true, ()), ()), rfl, _, rfl, by rw [hm], h1⟩
end
end Go.Proofs.YtcdggocbjnmeaaaGreat
end
section
set_option linter.unusedVariables false
set_option linter.unusedSimpArgs false
set_option maxHeartbeats 1000000
set_option maxRecDepth 100000
namespace Go.Proofs.YtcdggocbjnmeaaaGreat
open Fw Go
attribute [-simp] Fw.W.ld_iff Fw.W.st_iff
/-- where a node lies -/
structure Mem where
  bp : Option Nat
  l : Tri
  v : Tri
  n : Tri
  m : Tri
  d : Nat
  dm : Nat
  xp : Option Addr
def memE : Enc Mem where
  sz := 3
  f q := [.pointer (q.bp.map fun b => ⟨b, 0, none⟩), .pointer (some ⟨q.d, 0, none⟩), .pointer q.xp]
  len _ := rfl
  one p v hv := by simp at hv; rcases hv with rfl | rfl | rfl <;> rfl
  pos := by omega
def Mem.F (q : Mem) : List Nat := match q.bp with
  | some b => bL b q.l q.v q.n q.m ++ (Fw.blk q.xp ++ [q.d, q.dm])
  | none => [q.d, q.dm]
structure NdIs (s : PH) (q : Mem) (N : Nd) : Prop where
  drive : DriveIs s q.d q.dm N.d
  down : N.b = none → q.bp = none
  up : ∀ B, N.b = some B → ∃ b x, q.bp = some b ∧ Bal s b q.l q.v q.n q.m B ∧ q.xp = some ⟨x, 0, none⟩ ∧ DiaryIs s x q.d LOG
/-- a block of another kind than the group's own -/
def Oth (s : PH) (x : Nat) : Prop := ∀ c e f, s x = some (.cells c e f) → e ≠ 61 ∧ e ≠ 74 ∧ e ≠ 104 ∧ e ≠ 78
theorem oth_of {s : PH} {x : Nat} {c : Array Value} {e : TypeId} {f : Nat × Nat} (h : s x = some (.cells c e f)) (he : e ≠ 61 ∧ e ≠ 74 ∧ e ≠ 104 ∧ e ≠ 78) : Oth s x := by
  intro c' e' f' h'; rw [h] at h'; cases h'; exact he
theorem oth_row {α : Type} {E : Enc α} {s : PH} {e : TypeId} {a : Option Addr} {n c : Nat} {xs : List α} (h : rowE E s e a n c xs) (he : e ≠ 61 ∧ e ≠ 74 ∧ e ≠ 104 ∧ e ≠ 78) : ∀ x ∈ Fw.blk a, Oth s x := by
  intro x hx
  rcases h.shape with ⟨rfl, _⟩ | ⟨g', rfl⟩
  · simp [Fw.blk] at hx
  · simp [Fw.blk] at hx; subst hx
    obtain ⟨cur, hc⟩ := h.ty rfl
    exact oth_of hc he
theorem NdIs.known {s : PH} {q : Mem} {N : Nd} (h : NdIs s q N) : ∀ x ∈ q.F, s x ≠ none := by
  intro x hx
  unfold Mem.F at hx
  cases hb : N.b with
  | none =>
    rw [h.down hb] at hx
    simp only [List.mem_cons, List.not_mem_nil, or_false] at hx
    rcases hx with rfl | rfl
    · exact h.drive.known.1
    · exact h.drive.known.2
  | some B =>
    obtain ⟨b, y, h1, h2, h3, h4⟩ := h.up B hb
    rw [h1] at hx
    simp only [h3, Fw.blk, List.mem_append, List.mem_cons, List.not_mem_nil, or_false] at hx
    rcases hx with hx | rfl | rfl | rfl
    · exact h2.known x hx
    · unfold DiaryIs at h4; rw [h4]; simp
    · exact h.drive.known.1
    · exact h.drive.known.2
theorem NdIs.oth {s : PH} {q : Mem} {N : Nd} (h : NdIs s q N) : ∀ x ∈ q.F, Oth s x := by
  have hd : Oth s q.d := oth_of h.drive.blk (by decide)
  have hm : Oth s q.dm := by
    obtain ⟨es, c, h1, _⟩ := h.drive.map
    intro c' e' f' h'; rw [h1] at h'; cases h'
  intro x hx
  unfold Mem.F at hx
  cases hb : N.b with
  | none =>
    rw [h.down hb] at hx
    simp only [List.mem_cons, List.not_mem_nil, or_false] at hx
    rcases hx with rfl | rfl
    · exact hd
    · exact hm
  | some B =>
    obtain ⟨b, y, h1, h2, h3, h4⟩ := h.up B hb
    rw [h1] at hx
    simp only [h3, Fw.blk, bL, List.mem_append, List.mem_cons, List.not_mem_nil, or_false] at hx
    rcases hx with (rfl | hx | hx | hx | hx) | rfl | rfl | rfl
    · exact oth_of h2.cell (by decide)
    · exact oth_row h2.log (by decide) x hx
    · exact oth_row h2.votes (by decide) x hx
    · exact oth_row h2.next (by decide) x hx
    · exact oth_row h2.mat (by decide) x hx
    · exact oth_of h4 (by decide)
    · exact hd
    · exact hm
theorem NdIs.mod {s s' : PH} {q : Mem} {N : Nd} {L : List Nat} (h : NdIs s q N) (hm : Fw.Mod L s s') (hd : ∀ x ∈ q.F, x ∉ L) : NdIs s' q N := by
  have hdd : q.d ∈ q.F := by unfold Mem.F; split <;> simp
  have hdm : q.dm ∈ q.F := by unfold Mem.F; split <;> simp
  refine ⟨⟨hm.at h.drive.blk (hd _ hdd), h.drive.map.mod hm (hd _ hdm)⟩, h.down, fun B hB => ?_⟩
  obtain ⟨b, y, h1, h2, h3, h4⟩ := h.up B hB
  refine ⟨b, y, h1, h2.mod hm fun x hx => hd x (by unfold Mem.F; rw [h1]; simp [hx]), h3, hm.at h4 (hd y (by unfold Mem.F; rw [h1, h3]; simp [Fw.blk]))⟩
structure GrpIs (s : PH) (g na p : Nat) (ms : List Mem) (t : Tri) (G : Grp) : Prop where
  cell : s g = some (.cells #[.slice (some ⟨na, 0, none⟩) ms.length ms.length, .pointer (some ⟨p, 0, none⟩), .int .i64 G.acts] 61 (0, 0))
  arr : s na = some (.cells (ms.flatMap memE.f).toArray 74 (0, 0))
  post : PostIs s p t G.bag
  len : ms.length = G.nodes.length
  few : ms.length ≤ 5
  nds : ∀ (i : Nat) q N, ms[i]? = some q → G.nodes[i]? = some N → NdIs s q N
  apart : ∀ (i j : Nat) q r, ms[i]? = some q → ms[j]? = some r → i ≠ j → ∀ x ∈ q.F, x ∉ r.F
def GF (g na p : Nat) (ms : List Mem) (t : Tri) : List Nat := g :: na :: p :: (Fw.blk t.1 ++ ms.flatMap Mem.F)
section
variable {s s' : PH} {g na p : Nat} {ms : List Mem} {t : Tri} {G : Grp}
theorem GrpIs.node (h : GrpIs s g na p ms t G) {i : Nat} {q : Mem} (hq : ms[i]? = some q) : ∃ N, G.nodes[i]? = some N := by
  have := (List.getElem?_eq_some_iff.1 hq).1
  exact ⟨_, List.getElem?_eq_getElem (by rw [← h.len]; exact this)⟩
theorem GrpIs.mem (h : GrpIs s g na p ms t G) {i : Nat} {N : Nd} (hN : G.nodes[i]? = some N) : ∃ q, ms[i]? = some q := by
  have := (List.getElem?_eq_some_iff.1 hN).1
  exact ⟨_, List.getElem?_eq_getElem (by rw [h.len]; exact this)⟩
theorem GrpIs.oth (h : GrpIs s g na p ms t G) : ∀ q ∈ ms, ∀ x ∈ q.F, x ≠ g ∧ x ≠ na ∧ x ≠ p ∧ x ∉ Fw.blk t.1 := by
  intro q hq x hx
  obtain ⟨i, hi⟩ := List.mem_iff_getElem?.1 hq
  obtain ⟨N, hN⟩ := h.node hi
  have ho := (h.nds i q N hi hN).oth x hx
  refine ⟨?_, ?_, ?_, ?_⟩
  · rintro rfl; exact (ho _ _ _ h.cell).1 rfl
  · rintro rfl; exact (ho _ _ _ h.arr).2.1 rfl
  · rintro rfl; exact (ho _ _ _ h.post.cell).2.2.1 rfl
  · intro hxt
    rcases h.post.row.shape with ⟨e, _⟩ | ⟨g', e⟩
    · rw [e] at hxt; simp [Fw.blk] at hxt
    · obtain ⟨cur, hc⟩ := h.post.row.ty e
      rw [e] at hxt; simp [Fw.blk] at hxt; subst hxt
      exact (ho _ _ _ hc).2.2.2 rfl
theorem GrpIs.known (h : GrpIs s g na p ms t G) : ∀ x ∈ GF g na p ms t, s x ≠ none := by
  intro x hx
  simp only [GF, List.mem_cons, List.mem_append, List.mem_flatMap] at hx
  rcases hx with rfl | rfl | rfl | hx | ⟨q, hq, hx⟩
  · rw [h.cell]; simp
  · rw [h.arr]; simp
  · rw [h.post.cell]; simp
  · exact h.post.row.known x hx
  · obtain ⟨i, hi⟩ := List.mem_iff_getElem?.1 hq
    obtain ⟨N, hN⟩ := h.node hi
    exact (h.nds i q N hi hN).known x hx
theorem GrpIs.ne (h : GrpIs s g na p ms t G) : g ≠ na ∧ g ≠ p ∧ na ≠ p ∧ g ∉ Fw.blk t.1 ∧ na ∉ Fw.blk t.1 ∧ p ∉ Fw.blk t.1 := by
  refine ⟨?_, ?_, ?_, row_ne2 h.post.row h.cell (by decide), row_ne2 h.post.row h.arr (by decide), row_ne2 h.post.row h.post.cell (by decide)⟩
  · rintro rfl; have h1 := h.cell; rw [h.arr] at h1; exact absurd (Obj.cells.inj (Option.some.inj h1)).2.1 (by decide)
  · rintro rfl; have h1 := h.cell; rw [h.post.cell] at h1; exact absurd (Obj.cells.inj (Option.some.inj h1)).2.1 (by decide)
  · rintro rfl; have h1 := h.arr; rw [h.post.cell] at h1; exact absurd (Obj.cells.inj (Option.some.inj h1)).2.1 (by decide)
theorem GrpIs.mod {L : List Nat} (h : GrpIs s g na p ms t G) (hm : Fw.Mod L s s') (hd : ∀ x ∈ GF g na p ms t, x ∉ L) : GrpIs s' g na p ms t G := by
  simp only [GF, List.mem_cons, List.mem_append, List.mem_flatMap] at hd
  refine ⟨hm.at h.cell (hd g (.inl rfl)), hm.at h.arr (hd na (.inr (.inl rfl))), h.post.mod hm (hd p (.inr (.inr (.inl rfl)))) fun x hx => hd x (.inr (.inr (.inr (.inl hx)))), h.len, h.few, fun i q N hq hN => ?_, h.apart⟩
  exact (h.nds i q N hq hN).mod hm fun x hx => hd x (.inr (.inr (.inr (.inr ⟨q, List.mem_of_getElem? hq, hx⟩))))
theorem GrpIs.new (h : GrpIs s g na p ms t G) (hm : Fw.Mod [] s s') : GrpIs s' g na p ms t G := h.mod hm (by simp)
theorem GF_mem {i : Nat} {q : Mem} (hq : ms[i]? = some q) {x : Nat} (hx : x ∈ q.F) : x ∈ GF g na p ms t := by
  simp only [GF, List.mem_cons, List.mem_append, List.mem_flatMap]
  exact .inr (.inr (.inr (.inr ⟨q, List.mem_of_getElem? hq, hx⟩)))
/-- one node's work -/
theorem GrpIs.upd (h : GrpIs s g na p ms t G) {i : Nat} {q q' : Mem} {N N' : Nd} (hq : ms[i]? = some q) (hN : G.nodes[i]? = some N) (hm : Fw.Mod (na :: q.F) s s') (ha : s' na = some (.cells ((ms.set i q').flatMap memE.f).toArray 74 (0, 0)))
    (hn : NdIs s' q' N') (hf : ∀ x ∈ q'.F, x ∈ q.F ∨ s x = none) : GrpIs s' g na p (ms.set i q') t { G with nodes := G.nodes.set i N' } ∧ Step (GF g na p ms t) (GF g na p (ms.set i q') t) s s' := by
  have hi := (List.getElem?_eq_some_iff.1 hq).1
  have ho := h.oth q (List.mem_of_getElem? hq)
  have hne := h.ne
  have hgm : g ∉ na :: q.F := by simp; exact ⟨hne.1, fun hx => (ho g hx).1 rfl⟩
  have hpm : p ∉ na :: q.F := by simp; exact ⟨fun e => hne.2.2.1 e.symm, fun hx => (ho p hx).2.2.1 rfl⟩
  have htm : ∀ x ∈ Fw.blk t.1, x ∉ na :: q.F := by
    intro x hx; simp
    exact ⟨by rintro rfl; exact hne.2.2.2.2.1 hx, fun hxq => (ho x hxq).2.2.2 hx⟩
  refine ⟨⟨by rw [List.length_set]; exact hm.at h.cell hgm, ha, h.post.mod hm hpm htm, by simp [h.len], by rw [List.length_set]; exact h.few, fun j r M hr hM => ?_, fun j k r u hr hu hjk x hx => ?_⟩, ⟨?_, ?_⟩⟩
  · by_cases hij : i = j
    · subst hij
      rw [List.getElem?_set_self hi] at hr
      have hM : (G.nodes.set i N')[i]? = some M := hM
      rw [List.getElem?_set_self (by rw [← h.len]; exact hi)] at hM
      cases hr; cases hM; exact hn
    · rw [List.getElem?_set_ne hij] at hr
      have hM : (G.nodes.set i N')[j]? = some M := hM
      rw [List.getElem?_set_ne hij] at hM
      refine (h.nds j r M hr hM).mod hm fun x hx => ?_
      simp
      exact ⟨(h.oth r (List.mem_of_getElem? hr) x hx).2.1, fun hxq => h.apart i j q r hq hr hij x hxq hx⟩
  · have hknown : ∀ (j : Nat) (r : Mem), ms[j]? = some r → ∀ x ∈ r.F, s x ≠ none := fun j r hr x hx => h.known x (GF_mem hr hx)
    by_cases hij : i = j
    · subst hij
      rw [List.getElem?_set_self hi] at hr
      cases hr
      rw [List.getElem?_set_ne hjk] at hu
      intro hxu
      rcases hf x hx with h1 | h1
      · exact h.apart i k q u hq hu hjk x h1 hxu
      · exact hknown k u hu x hxu h1
    · rw [List.getElem?_set_ne hij] at hr
      by_cases hik : i = k
      · subst hik
        rw [List.getElem?_set_self hi] at hu
        cases hu
        intro hxu
        rcases hf x hxu with h1 | h1
        · exact h.apart i j q r hq hr hij x h1 hx
        · exact hknown j r hr x hx h1
      · rw [List.getElem?_set_ne hik] at hu
        exact h.apart j k r u hr hu hjk x hx
  · refine hm.mono fun x hx => ?_
    rcases List.mem_cons.1 hx with rfl | hx
    · simp [GF]
    · exact GF_mem hq hx
  · intro x hx
    simp only [GF, List.mem_cons, List.mem_append, List.mem_flatMap] at hx
    rcases hx with rfl | rfl | rfl | hx | ⟨r, hr, hx⟩
    · exact .inl (by simp [GF])
    · exact .inl (by simp [GF])
    · exact .inl (by simp [GF])
    · exact .inl (by simp [GF, hx])
    · rcases List.mem_or_eq_of_mem_set hr with hr | rfl
      · obtain ⟨j, hj⟩ := List.mem_iff_getElem?.1 hr
        exact .inl (GF_mem hj hx)
      · exact (hf x hx).imp_left fun h1 => GF_mem hq h1
theorem flat_set_same {i : Nat} {q q' : Mem} (hq : ms[i]? = some q) (he : memE.f q' = memE.f q) : (ms.set i q').flatMap memE.f = ms.flatMap memE.f := by
  induction ms generalizing i with
  | nil => rfl
  | cons r ms ih =>
    cases i with
    | zero => simp at hq; subst hq; simp [he]
    | succ i => simp only [List.set_cons_succ, List.flatMap_cons]; rw [ih (by simpa using hq)]
theorem mem_get {i k : Nat} {q : Mem} (hq : ms[i]? = some q) {v : Value} (hk : k < 3) (hv : (memE.f q)[k]? = some v) : ((ms.flatMap memE.f).toArray)[i * 3 + k]? = some v := by
  obtain ⟨l, r, e, hl, _, _⟩ := flat_at (E := memE) hq
  have hl : l.length = i * 3 := hl
  have h3 : (memE.f q).length = 3 := rfl
  rw [List.getElem?_toArray, e, List.append_assoc, List.getElem?_append_right (by omega), hl, Nat.add_sub_cancel_left, List.getElem?_append_left (by omega)]
  exact hv
theorem mem_set {i k : Nat} {q q' : Mem} (hq : ms[i]? = some q) {v : Value} (he : memE.f q' = (memE.f q).set k v) (hk : k < 3) : (ms.flatMap memE.f).toArray.setIfInBounds (i * 3 + k) v = ((ms.set i q').flatMap memE.f).toArray := by
  rw [List.setIfInBounds_toArray]
  congr 1
  induction ms generalizing i with
  | nil => simp at hq
  | cons r ms ih =>
    have h3 : (memE.f r).length = 3 := rfl
    cases i with
    | zero =>
      simp at hq; subst hq
      simp only [List.set_cons_zero, List.flatMap_cons, he, Nat.zero_mul, Nat.zero_add]
      rw [List.set_append_left _ _ (by omega)]
    | succ i =>
      simp only [List.set_cons_succ, List.flatMap_cons]
      rw [List.set_append_right _ _ (by omega), ← ih (by simpa using hq)]
      congr 2
      omega
end
theorem callV_bound {P : Program} {g : FuncId} {bnd args : Array Value} {r : Bool × List Shape} {k : MDen r.2 → W.T} {s : PH} {fn : Func} (hfn : P.funcs[g]? = some fn) (hb : fn.body.isSome = true) (hn : (fn.name == "runtime.NumGoroutine") = false) {Q : Value → PH → Prop}
    (h : DCalls P g (bnd ++ args) s Q) (hk : ∀ v s', Q v s' → ∃ x, mkRes r x = v ∧ k x s') : W.callV P (.func (.func g) bnd #[]) args r k s := by
  refine ⟨g, bnd, #[], rfl, ⟨fn, hfn, hb, hn⟩, ?_⟩
  have : bnd ++ args ++ #[] = bnd ++ args := by simp
  rw [this]; exact h.mono hk
end Go.Proofs.YtcdggocbjnmeaaaGreat
end
section
set_option linter.unusedVariables false
set_option linter.unusedSimpArgs false
set_option maxHeartbeats 1000000
set_option maxRecDepth 100000
namespace Go.Proofs.YtcdggocbjnmeaaaGreat
open Fw Go
attribute [-simp] Fw.W.ld_iff Fw.W.st_iff
structure BS.Fit (B : BS) : Prop where
  run : B.Run
  fr : B.Fr
  term : Num B.term
  vote : I64 B.vote
  bt : I64 B.baseTerm
  ents : ∀ e ∈ B.log, e.I ∧ e.text.size ≤ 65536
  len : B.log.length ≤ 1000000
  snap : B.snap.size ≤ 1073741824
structure Msg.Fit (M : Msg) : Prop where
  I : M.I
  ents : ∀ e ∈ M.list, e.text.size ≤ 65536
  len : M.list.length ≤ 1000000
  snap : M.snap.size ≤ 1073741824
theorem encE_len (e : Ent) : (encE e).length ≤ 40 + e.text.size := by
  unfold encE encT
  have h1 := encN_len e.term
  have h2 := encN_len e.at_
  have h3 := encN_len e.born
  have h4 := encN_len (e.text.size : Int)
  simp only [List.flatMap_cons, List.flatMap_nil, List.length_append, List.length_nil, toL_len]
  omega
theorem encL_len {l : List Ent} (h : ∀ e ∈ l, e.text.size ≤ 65536) : (encL l).length ≤ 10 + l.length * 65576 := by
  unfold encL
  have h1 := encN_len (l.length : Int)
  have : (l.flatMap encE).length ≤ l.length * 65576 := by
    clear h1
    induction l with
    | nil => simp
    | cons e l ih =>
      have h2 := encE_len e
      have h3 := h e (by simp)
      have h4 := ih (fun x hx => h x (by simp [hx]))
      simp only [List.flatMap_cons, List.length_append, List.length_cons]
      omega
  rw [List.length_append]; omega
theorem encB_len (b : Bool) : (encB b).length ≤ 10 := encN_len _
theorem encT_len (t : ByteArray) : (encT t).length ≤ 10 + t.size := by
  unfold encT
  have := encN_len (t.size : Int)
  rw [List.length_append, toL_len]; omega
theorem Msg.Fit.enc {M : Msg} (h : M.Fit) : (encM M).length ≤ 1099511627776 := by
  have h1 := encL_len h.ents
  have h2 := encB_len M.good
  have h3 := encT_len M.snap
  have h4 := h.snap
  have h5 := h.len
  have n1 := encN_len M.kind
  have n2 := encN_len M.from_
  have n3 := encN_len M.to
  have n4 := encN_len M.term
  have n5 := encN_len M.index
  have n6 := encN_len M.prev
  have n7 := encN_len M.commit
  unfold encM Msg.nums
  simp only [List.flatMap_cons, List.flatMap_nil, List.length_append, List.length_nil]
  omega
theorem BS.Fit.delta {B : BS} (h : B.Fit) : B.deltaOf.I ∧ (encD B.deltaOf).length ≤ 1099511627776 := by
  have ht := h.term
  have hr := h.run.ok
  have hb0 := hr.small.base0
  have hb1 := hr.base
  have hlst := lst_def B
  have hlen := h.len
  unfold Num at ht
  have hI : B.deltaOf.I := by
    unfold BS.deltaOf
    split
    · refine ⟨⟨by unfold I64; dsimp only; omega, h.vote, by unfold I64; dsimp only; omega, h.bt, by unfold I64; dsimp only; omega⟩, fun e he => (h.ents e he).1, by dsimp only; omega⟩
    · rename_i hw
      have := h.fr (by simpa using hw)
      refine ⟨⟨by unfold I64; dsimp only; omega, h.vote, by unfold I64; dsimp only; omega, by unfold I64; dsimp only; omega, by unfold I64; dsimp only; omega⟩, fun e he => (h.ents e (List.mem_of_mem_drop he)).1, by dsimp only; rw [List.length_drop]; omega⟩
  refine ⟨hI, ?_⟩
  have hl : (encL B.deltaOf.list).length ≤ 10 + B.deltaOf.list.length * 65576 := by
    refine encL_len fun e he => ?_
    unfold BS.deltaOf at he
    split at he
    · exact (h.ents e he).2
    · exact (h.ents e (List.mem_of_mem_drop he)).2
  have hll : B.deltaOf.list.length ≤ 1000000 := by
    unfold BS.deltaOf
    split
    · exact h.len
    · dsimp only; rw [List.length_drop]; omega
  have hsn : B.deltaOf.snap.size ≤ 1073741824 := by
    unfold BS.deltaOf
    split
    · exact h.snap
    · exact Nat.zero_le _
  have n1 := encN_len B.deltaOf.term
  have n2 := encN_len B.deltaOf.vote
  have n3 := encN_len B.deltaOf.base
  have n4 := encN_len B.deltaOf.baseTerm
  have n5 := encN_len B.deltaOf.from_
  have h2 := encB_len B.deltaOf.whole
  have h3 := encT_len B.deltaOf.snap
  unfold encD
  simp only [List.flatMap_cons, List.flatMap_nil, List.length_append, List.length_nil]
  omega
theorem set_same_l {α : Type} {l : List α} {i : Nat} {x : α} (h : l[i]? = some x) : l.set i x = l := by
  apply List.ext_getElem?
  intro j
  by_cases hij : i = j
  · subst hij
    rw [List.getElem?_set_self (List.getElem?_eq_some_iff.1 h).1, h]
  · rw [List.getElem?_set_ne hij]
abbrev gptr (g : Nat) : Value := .pointer (some ⟨g, 0, none⟩)
def GrpQ (g na p : Nat) (ms : List Mem) (t : Tri) (G' : Grp) (s : PH) (y : Value) (s' : PH) : Prop := y = .tuple #[] ∧ ∃ ms' t', GrpIs s' g na p ms' t' G' ∧ Step (GF g na p ms t) (GF g na p ms' t') s s'
theorem elems_one {s : PH} {r : Nat} {x : ByteArray} {e : TypeId} {f : Nat × Nat} (h : s r = some (.cells #[.string x] e f)) : elems (Rd.enc strE) s (some ⟨r, 0, none⟩) 1 [x] :=
  ⟨rfl, fun i y hy => by
    cases i with
    | zero =>
      simp at hy; subst hy
      refine ⟨_, [.string x], rfl, rfl, ?_⟩
      simp only [Nat.zero_mul, add_zero]
      exact has_block h
    | succ i => simp at hy⟩
theorem recs_one (x : ByteArray) : (recsB [x]).size = 8 + x.size := by rw [recs_len_le]; (first | done | rfl)
/-- what is kept by the diary -/
theorem c_keep {s : PH} {x b m : Nat} {d : DS} {put : List Dl} {B0 : Option BS} {D : Dl} {r : Nat} {e : TypeId} {f : Nat × Nat} {R : Bool × List Shape} {K : MDen R.2 → W.T} (hx : DiaryIs s x b LOG) (h : DriveIs s b m d) (hr : s r = some (.cells #[.string (encDB D)] e f)) (hl : (encD D).length ≤ 1099511627776) (hd : (d.got LOG).1.size ≤ 1099511627776)
    (hK : ∀ y s', y = .int .i64 (Nd.keeps ⟨B0, d, put⟩ D).1 → DriveIs s' b m (Nd.keeps ⟨B0, d, put⟩ D).2 → Fw.Mod [b, m] s s' → ∃ z, mkRes R z = y ∧ K z s') :
    W.callV Tryz.prog (if D.whole = true then .func (.func 64) #[.pointer (some ⟨x, 0, none⟩)] #[] else .func (.func 63) #[.pointer (some ⟨x, 0, none⟩)] #[]) #[.slice (some ⟨r, 0, none⟩) 1 1] R K s := by
  have hel := elems_one hr
  have hsz : (encDB D).size = (encD D).length := ofL_size _
  by_cases hw : D.whole = true
  · rw [if_pos hw]
    refine callV_bound (fn := _) rfl rfl rfl (c_dRewrite hx h hel (by simp) (by rw [recs_one]; omega)) ?_
    rintro y s' ⟨hy, h1, h2⟩
    have e : Nd.keeps ⟨B0, d, put⟩ D = d.rewrites LOG [encDB D] := by unfold Nd.keeps; rw [if_pos hw]
    exact hK y s' (by rw [e]; exact hy) (by rw [e]; exact h1) h2
  · rw [if_neg hw]
    refine callV_bound (fn := _) rfl rfl rfl (c_dAppend hx h hel (by simp) (by rw [recs_one]; omega)) ?_
    rintro y s' ⟨hy, h1, h2⟩
    have e : Nd.keeps ⟨B0, d, put⟩ D = d.puts LOG [encDB D] := by unfold Nd.keeps; rw [if_neg hw]
    exact hK y s' (by rw [e]; exact hy) (by rw [e]; exact h1) h2
end Go.Proofs.YtcdggocbjnmeaaaGreat
end
section
set_option linter.unusedVariables false
set_option linter.unusedSimpArgs false
set_option maxHeartbeats 2000000
set_option maxRecDepth 100000
namespace Go.Proofs.YtcdggocbjnmeaaaGreat
open Fw Go
attribute [-simp] Fw.W.ld_iff Fw.W.st_iff
theorem NdIs.of_bal {s : PH} {q : Mem} {B : BS} {d : DS} {put : List Dl} (h : NdIs s q ⟨some B, d, put⟩) : ∃ b x, q.bp = some b ∧ Bal s b q.l q.v q.n q.m B ∧ q.xp = some ⟨x, 0, none⟩ ∧ DiaryIs s x q.d LOG ∧ DriveIs s q.d q.dm d := by
  obtain ⟨b, x, h1, h2, h3, h4⟩ := h.up B rfl
  exact ⟨b, x, h1, h2, h3, h4, h.drive⟩
/-- blocks of a node's parts are different from each other -/
theorem bal_drive {s : PH} {b d dm : Nat} {l v n m : Tri} {B : BS} {D : DS} (h : Bal s b l v n m B) (hd : DriveIs s d dm D) : ∀ x ∈ bL b l v n m, x ≠ d ∧ x ≠ dm := by
  obtain ⟨es, c, hm, _⟩ := hd.map
  have hr : ∀ {α : Type} {E : Enc α} {e : TypeId} {a : Option Addr} {k c : Nat} {xs : List α}, rowE E s e a k c xs → e ≠ 107 → ∀ x ∈ Fw.blk a, x ≠ d ∧ x ≠ dm := by
    intro α E e a k c xs h he x hx
    refine ⟨?_, ?_⟩
    · rintro rfl; exact row_ne2 h hd.blk he hx
    · rintro rfl
      rcases h.shape with ⟨rfl, _⟩ | ⟨g', rfl⟩
      · simp [Fw.blk] at hx
      · simp [Fw.blk] at hx; subst hx
        obtain ⟨cur, hc⟩ := h.ty rfl
        rw [hm] at hc; cases hc
  intro x hx
  simp only [bL, List.mem_cons, List.mem_append] at hx
  rcases hx with rfl | hx | hx | hx | hx
  · refine ⟨?_, ?_⟩
    · rintro rfl; have h1 := h.cell; rw [hd.blk] at h1; exact absurd (Obj.cells.inj (Option.some.inj h1)).2.1 (by decide)
    · rintro rfl; have h1 := h.cell; rw [hm] at h1; cases h1
  · exact hr h.log (by decide) x hx
  · exact hr h.votes (by decide) x hx
  · exact hr h.next (by decide) x hx
  · exact hr h.mat (by decide) x hx
def SavJ (g na p : Nat) (ms : List Mem) (t : Tri) (G1 : Grp) (ot : Tri) (ps : List (Msg × Tri)) (s0 s' : PH) : Prop := ∃ ms', GrpIs s' g na p ms' t G1 ∧ Step (GF g na p ms t) (GF g na p ms' t) s0 s' ∧ Msgs s' ot ps
def SendZ (g na p : Nat) (ms : List Mem) (t : Tri) (G1 : Grp) (ot : Tri) (ps : List (Msg × Tri)) (s0 : PH) (z : MDen [(false, [.slice]), (false, [.int .i64]), (false, [.int .i64])]) (s' : PH) : Prop :=
  ∃ (k : Nat) (ms' : List Mem) (t' : Tri), z = ((ot, ()), ((ot.2.1 : Int), ()), ((k : Int), ()), ()) ∧ k ≤ ps.length ∧ GrpIs s' g na p ms' t' { G1 with bag := G1.bag ++ (ps.take k).map (·.1) } ∧ Step (GF g na p ms t) (GF g na p ms' t') s0 s' ∧ Msgs s' ot ps
section
variable {s : PH} {g na p : Nat} {ms : List Mem} {t : Tri} {G : Grp}
/-- letters are sent -/
theorem GrpIs.sent {s' : PH} (h : GrpIs s g na p ms t G) {bag : List Msg} {t' : Tri} (hp : PostIs s' p t' bag) (hm : Fw.Mod (p :: Fw.blk t.1) s s') (hf : ∀ x ∈ Fw.blk t'.1, x ∈ Fw.blk t.1 ∨ s x = none) : GrpIs s' g na p ms t' { G with bag := bag } ∧ Step (GF g na p ms t) (GF g na p ms t') s s' := by
  have hne := h.ne
  refine ⟨⟨hm.at h.cell (by simp; exact ⟨hne.2.1, hne.2.2.2.1⟩), hm.at h.arr (by simp; exact ⟨hne.2.2.1, hne.2.2.2.2.1⟩), hp, h.len, h.few, fun i q N hq hN => (h.nds i q N hq hN).mod hm fun x hx => ?_, h.apart⟩, ⟨hm.mono fun x hx => ?_, fun x hx => ?_⟩⟩
  · have ho := h.oth q (List.mem_of_getElem? hq) x hx
    simp; exact ⟨ho.2.2.1, ho.2.2.2⟩
  · rcases List.mem_cons.1 hx with rfl | hx
    · simp [GF]
    · simp [GF, hx]
  · simp only [GF, List.mem_cons, List.mem_append] at hx ⊢
    rcases hx with rfl | rfl | rfl | hx | hx
    · exact .inl (.inl rfl)
    · exact .inl (.inr (.inl rfl))
    · exact .inl (.inr (.inr (.inl rfl)))
    · exact (hf x hx).imp_left fun h => .inr (.inr (.inr (.inl h)))
    · exact .inl (.inr (.inr (.inr (.inr hx))))
theorem c_gdone (h : GrpIs s g na p ms t G) {i : Nat} {B : BS} {d : DS} {put : List Dl} (hN : G.nodes[i]? = some ⟨some B, d, put⟩) (hf : B.Fit) (hd : (d.got LOG).1.size ≤ 1099511627776) {ot : Tri} {ps : List (Msg × Tri)} (ho : Msgs s ot ps) (hoa : ∀ y ∈ mF ot ps, y ∉ GF g na p ms t) (hof : ∀ q ∈ ps, q.1.Fit)
    (hb : G.bag.length + ps.length ≤ 1073741824) :
    DCalls Tryz.prog 46 #[gptr g, .pointer (some ⟨na, i * 3, none⟩), ot.v] s (GrpQ g na p ms t (G.done i ⟨some B, d, put⟩ (B, ps.map (·.1))) s) := by
  refine ok_gdone g ⟨na, i * 3, none⟩ ot.1 ot.2.1 ot.2.2 _ s ?_
  unfold vc_gdone
  obtain ⟨R, hR⟩ : ∃ R : Value → PH → Prop, GrpQ g na p ms t (G.done i ⟨some B, d, put⟩ (B, ps.map (·.1))) s = R := ⟨_, rfl⟩
  obtain ⟨q, hq⟩ := h.mem hN
  have hnd := h.nds i q _ hq hN
  obtain ⟨b, x, e1, hB, e2, hx, hdr⟩ := hnd.of_bal
  have hi : i < ms.length := (List.getElem?_eq_some_iff.1 hq).1
  have hqF : q.F = bL b q.l q.v q.n q.m ++ (Fw.blk q.xp ++ [q.d, q.dm]) := by unfold Mem.F; rw [e1]
  have hok := hf.run.ok
  obtain ⟨N', hN'⟩ : ∃ N', Nd.saved ⟨some B, d, put⟩ B = N' := ⟨_, rfl⟩
  obtain ⟨G1, hG1⟩ : ∃ G1 : Grp, ({ G with nodes := G.nodes.set i N' } : Grp) = G1 := ⟨_, rfl⟩
  have hoth := h.oth q (List.mem_of_getElem? hq)
  rw [hR]
  simp only [RP_join]
  refine W.join_gen (fun z s' => Nd.okd ⟨some B, d, put⟩ B = true ∧ SavJ g na p ms t G1 ot ps s s') ?_ ?_
  · -- the letters
    rintro _ s1 ⟨hokd, ms1, h1, st1, ho1⟩
    have hout : GrpQ g na p ms t { G1 with bag := G1.bag ++ ps.map (·.1) } s = R := by
      rw [← hR]
      unfold Grp.done
      rw [if_pos hokd, hN']
      dsimp only
      rw [← hG1]
    have hoa1 : ∀ y ∈ mF ot ps, y ∉ GF g na p ms1 t := st1.apart hoa ho.known
    have hbag : G1.bag = G.bag := by rw [← hG1]
    simp only [RP_loop]
    refine ⟨SendZ g na p ms t G1 ot ps s, fun z _ => ((ps.length : Int) - z.2.2.1.1).toNat, ⟨0, ms1, t, rfl, Nat.zero_le _, by simpa using h1, st1, ho1⟩, ?_⟩
    rintro _ s2 ⟨k, ms2, t2, rfl, hk, h2, st2, ho2⟩
    have hlen : ot.2.1 = ps.length := ho2.row.len
    simp only [RP_ite, W.br_iff, decide_eq_true_eq, decide_eq_false_iff_not]
    refine ⟨fun hlt => ?_, fun hge => ?_⟩
    · have hlt : k < ps.length := by omega
      obtain ⟨⟨M, mt⟩, hM⟩ : ∃ x, ps[k]? = some x := ⟨_, List.getElem?_eq_getElem hlt⟩
      obtain ⟨q', hq', hh⟩ := ho2.row.at hM
      have hfit := hof _ (List.mem_of_getElem? hM)
      have hMr := ho2.lists _ (List.mem_of_getElem? hM)
      have hc2 := h2.cell
      simp only [RP_guard, W.guard_iff, Int.toNat_natCast, hq', RP_unSome, W.unSome_some, add_mk, Nat.zero_add, RP_ld]
      refine ⟨by show (0 : Int) ≤ (k : Int) ∧ (k : Int) < (ot.2.1 : Int); omega, (M.kind, M.from_, M.to, M.term, M.index, M.prev, M.commit, M.good, mt, M.snap, ()), hh, ?_⟩
      simp only [W.unSome_some, add_mk, Nat.zero_add]
      refine ld_blk (c := .ptr) (x := some ⟨p, 0, none⟩) hc2 rfl ?_
      simp only [RP_call]
      refine W.call_of (c_PutMsg (M := M) (t := mt) hMr hfit.I hfit.enc) ?_
      rintro _ s2 ⟨rfl, rfl⟩
      refine ⟨((encMB M, ()), ()), rfl, ?_⟩
      simp only [RP_still]
      refine (W.still_at hc2 _ _ _ _ _).2 ⟨rfl, ?_⟩
      refine W.call_of (c_pSend h2.post M (by simp only [List.length_append, List.length_map, List.length_take]; rw [hbag]; omega)) ?_
      rintro _ s3 ⟨rfl, t3, hp3, m3, hf3⟩
      refine ⟨(), rfl, ?_⟩
      obtain ⟨h3, st3⟩ := h2.sent hp3 m3 hf3
      have hap2 : ∀ y ∈ mF ot ps, y ∉ GF g na p ms2 t2 := st2.apart hoa ho.known
      have ho3 : Msgs s3 ot ps := ho2.mod m3 fun y hy => by
        have := hap2 y hy
        simp only [GF, List.mem_cons, List.mem_append, not_or] at this
        simp; exact ⟨this.2.2.1, this.2.2.2.1⟩
      refine ⟨⟨k + 1, ms2, t3, by rw [wrap_succ (by omega), ← hq'], hlt, ?_, st2.trans st3, ho3⟩, ?_⟩
      · rw [List.take_add_one, hM]
        simpa [List.append_assoc] using h3
      · rw [wrap_succ (by omega)]
        show ((ps.length : Int) - ((k + 1 : Nat) : Int)).toNat < ((ps.length : Int) - ((k : Nat) : Int)).toNat
        omega
    · have hkk : k = ps.length := by omega
      subst hkk
      rw [List.take_length] at h2
      simp only [RP_ret, W.ret_iff]
      rw [← hout]
      exact ⟨rfl, ms2, t2, h2, st2⟩
  · -- what has changed
    intro J hJ
    have harr := h.arr
    simp only [RP_unSome, W.unSome_some, add_mk, RP_ld]
    refine ld_blk (c := .ptr) (x := some ⟨b, 0, none⟩) harr (mem_get hq (by omega) (by show some _ = some _; rw [e1]; (first | done | rfl))) ?_
    simp only [RP_call]
    refine W.call_of (c_Delta hB hok.small hok.base hf.fr) ?_
    rintro y s1 (⟨htch, rfl, hB1, m1⟩ | ⟨htch, dt, rfl, hrow, hB1, m1, hfr⟩)
    · refine ⟨((0, 0, false, 0, 0, ⟨#[]⟩, 0, noTri, ()), (false, ()), ()), rfl, ?_⟩
      simp only [RP_ite, W.br_false]
      refine hJ _ _ ⟨by unfold Nd.okd; rw [htch]; (first | done | rfl), ms, ?_, ⟨m1.mono (by simp), fun x hx => .inl hx⟩, ho.mod m1 (by simp)⟩
      have hNN : N' = ⟨some B, d, put⟩ := by rw [← hN']; unfold Nd.saved; rw [if_neg (by rw [htch]; simp)]
      rw [← hG1, hNN, set_same_l hN]
      exact h.new m1
    · refine ⟨((B.deltaOf.term, B.deltaOf.vote, B.deltaOf.whole, B.deltaOf.base, B.deltaOf.baseTerm, B.deltaOf.snap, B.deltaOf.from_, dt, ()), (true, ()), ()), rfl, ?_⟩
      obtain ⟨hDI, hDl⟩ := hf.delta
      have hbq : b ∈ q.F := by rw [hqF]; simp [bL]
      have hnab : na ≠ b := fun e => (hoth b hbq).2.1 e.symm
      have harr1 := m1.at harr (by simp; exact hnab)
      have hxb : x ≠ b := by rintro rfl; have h1 := hB.cell; unfold DiaryIs at hx; rw [hx] at h1; exact absurd (Obj.cells.inj (Option.some.inj h1)).2.1 (by decide)
      have hx1 : DiaryIs s1 x q.d LOG := m1.at hx (by simp; exact hxb)
      have hbd := bal_drive hB hdr
      have hdr1 : DriveIs s1 q.d q.dm d := ⟨m1.at hdr.blk (by simp; exact fun e => (hbd b bL_self).1 e.symm), hdr.map.mod m1 (by simp; exact fun e => (hbd b bL_self).2 e.symm)⟩
      have hgx : (memE.f q)[2]? = some (.pointer (some ⟨x, 0, none⟩)) := by show some _ = some _; rw [e2]
      simp only [RP_ite, W.br_true, W.unSome_some, add_mk]
      refine ld_blk (c := .ptr) (x := some ⟨x, 0, none⟩) harr1 (mem_get hq (by omega) hgx) ?_
      simp only [RP_join]
      refine W.join_gen (fun z s' => z = ((B.deltaOf.term, B.deltaOf.vote, B.deltaOf.whole, B.deltaOf.base, B.deltaOf.baseTerm, B.deltaOf.snap, B.deltaOf.from_, dt, ()),
        ((if B.deltaOf.whole = true then .func (.func 64) #[.pointer (some ⟨x, 0, none⟩)] #[] else .func (.func 63) #[.pointer (some ⟨x, 0, none⟩)] #[]), ()), ()) ∧ s' = s1) ?_ ?_
      · rintro _ s1 ⟨rfl, rfl⟩
        refine W.call_of (c_PutDelta (D := B.deltaOf) (t := dt) hrow hDI hDl) ?_
        rintro _ s1 ⟨rfl, rfl⟩
        refine ⟨((encDB B.deltaOf, ()), ()), rfl, ?_⟩
        simp only [RP_nw]
        refine W.nw_of fun r s2 hr m2 k2 => ?_
        have hx2 : DiaryIs s2 x q.d LOG := m2.at hx1 (by simp)
        have hdr2 : DriveIs s2 q.d q.dm d := ⟨m2.at hdr1.blk (by simp), hdr1.map.mod m2 (by simp)⟩
        simp only [RP_callV]
        refine c_keep (B0 := some B) (put := put) hx2 hdr2 k2 hDl hd ?_
        intro y s3 hy hdr3 m3
        refine ⟨(((Nd.keeps ⟨some B, d, put⟩ B.deltaOf).1, ()), ()), hy.symm, ?_⟩
        -- the heap then
        have m13 : Fw.Mod [q.d, q.dm] s1 s3 := (m2.mono (by simp) : Fw.Mod [q.d, q.dm] s1 s2).trans m3
        have m03 : Fw.Mod (na :: q.F) s s3 := by
          refine Mod.trans (m1.mono ?_) (m13.mono ?_)
          · intro y hy; simp at hy; subst hy; exact List.mem_cons_of_mem _ hbq
          · intro y hy
            rw [hqF]
            simp at hy ⊢
            rcases hy with rfl | rfl <;> simp
        have hdF : q.d ∈ q.F := by rw [hqF]; simp
        have hdmF : q.dm ∈ q.F := by rw [hqF]; simp
        have harr3 := m13.at harr1 (by simp; exact ⟨fun e => (hoth _ hdF).2.1 e.symm, fun e => (hoth _ hdmF).2.1 e.symm⟩)
        have hB3 : Bal s3 b q.l q.v q.n q.m B.cleaned := hB1.mod m13 fun y hy => by simp; exact hbd y hy
        have hxd : x ≠ q.d ∧ x ≠ q.dm := by
          constructor
          · rintro rfl; have h1 := hdr.blk; unfold DiaryIs at hx; rw [hx] at h1; exact absurd (Obj.cells.inj (Option.some.inj h1)).2.1 (by decide)
          · intro e; obtain ⟨es, c, h1, _⟩ := hdr.map; unfold DiaryIs at hx; rw [← e, hx] at h1; cases h1
        have hx3 : DiaryIs s3 x q.d LOG := m13.at hx1 (by simp; exact hxd)
        by_cases hr0 : (Nd.keeps ⟨some B, d, put⟩ B.deltaOf).1 = 0
        · have hbne : ((Nd.keeps ⟨some B, d, put⟩ B.deltaOf).1 != 0) = false := by simp [hr0]
          simp only [hbne, W.br_false]
          have hNN : N' = ⟨some B.cleaned, (Nd.keeps ⟨some B, d, put⟩ B.deltaOf).2, if B.deltaOf.whole = true then [B.deltaOf] else put ++ [B.deltaOf]⟩ := by
            rw [← hN']; unfold Nd.saved; rw [if_pos htch, if_pos hr0]
          have hn3 : NdIs s3 q N' := by
            rw [hNN]
            refine ⟨hdr3, fun e => (by cases e), fun B' e => ?_⟩
            cases e
            exact ⟨b, x, e1, hB3, e2, hx3⟩
          obtain ⟨u1, u2⟩ := h.upd hq hN m03 (by rw [set_same_l hq]; exact harr3) hn3 (fun y hy => .inl hy)
          refine hJ _ _ ⟨by unfold Nd.okd; rw [hr0]; simp, ms, ?_, ?_, ?_⟩
          · rw [← hG1]
            rwa [set_same_l hq] at u1
          · rwa [set_same_l hq] at u2
          · exact ho.mod m03 fun y hy hyn => hoa y hy (by
              rcases List.mem_cons.1 hyn with rfl | hyn
              · simp [GF]
              · exact GF_mem hq hyn)
        · have hbne : ((Nd.keeps ⟨some B, d, put⟩ B.deltaOf).1 != 0) = true := by simp [hr0]
          simp only [hbne, W.br_true, W.unSome_some, add_mk, RP_st]
          refine st_blk harr3 (mem_get hq (by omega) (k := 0) rfl) rfl ?_
          rw [mem_set (q' := { q with bp := none }) hq rfl (by omega)]
          have hNN : N' = ⟨none, (Nd.keeps ⟨some B, d, put⟩ B.deltaOf).2, if (Nd.keeps ⟨some B, d, put⟩ B.deltaOf).1 = 50 ∧ B.deltaOf.whole = false then put ++ [B.deltaOf] else put⟩ := by
            rw [← hN']; unfold Nd.saved; rw [if_pos htch, if_neg hr0]
          have m34 : ∀ o, Fw.Mod [na] s3 (s3.upd na o) := fun o => Mod.upd (by simp)
          have hn4 : ∀ o, NdIs (s3.upd na o) { q with bp := none } N' := by
            intro o
            rw [hNN]
            refine ⟨⟨(m34 o).at hdr3.blk (by simp; exact (hoth _ hdF).2.1), hdr3.map.mod (m34 o) (by simp; exact (hoth _ hdmF).2.1)⟩, fun _ => rfl, fun B' e => by cases e⟩
          obtain ⟨u1, u2⟩ := h.upd hq hN (q' := { q with bp := none }) (Mod.updLater m03 (.inl (by simp))) (PH.upd_same _ _ _) (hn4 _) (fun y hy => .inl (by
            have hy : y ∈ [q.d, q.dm] := hy
            rw [hqF]; simp at hy ⊢
            rcases hy with rfl | rfl <;> simp))
          simp only [RP_ret, W.ret_iff]
          rw [← hR]
          refine ⟨rfl, _, t, ?_, u2⟩
          unfold Grp.done
          rw [if_neg (by unfold Nd.okd; rw [htch]; simp [hr0]), hN']
          exact u1
      · intro J2 hJ2
        have hw : (B.deltaOf.term, B.deltaOf.vote, B.deltaOf.whole, B.deltaOf.base, B.deltaOf.baseTerm, B.deltaOf.snap, B.deltaOf.from_, dt, ()).2.2.1 = B.deltaOf.whole := rfl
        simp only [W.br_iff]
        refine ⟨fun hwt => ?_, fun hwf => ?_⟩
        · simp only [W.unSome_some, add_mk]
          refine ld_blk (c := .ptr) (x := some ⟨x, 0, none⟩) harr1 (mem_get hq (by omega) hgx) ?_
          exact hJ2 _ _ ⟨by rw [if_pos hwt], rfl⟩
        · exact hJ2 _ _ ⟨by rw [if_neg (by rw [hwf]; simp)], rfl⟩
end
end Go.Proofs.YtcdggocbjnmeaaaGreat
end
section
set_option linter.unusedVariables false
set_option linter.unusedSimpArgs false
set_option maxHeartbeats 2000000
set_option maxRecDepth 100000
namespace Go.Proofs.YtcdggocbjnmeaaaGreat
open Fw Go
attribute [-simp] Fw.W.ld_iff Fw.W.st_iff
theorem bal_diary {s : PH} {b x : Nat} {l v n m : Tri} {B : BS} {y : Nat} {nm : ByteArray} (h : Bal s b l v n m B) (hx : DiaryIs s x y nm) : x ∉ bL b l v n m := by
  unfold DiaryIs at hx
  intro hm
  simp only [bL, List.mem_cons, List.mem_append] at hm
  rcases hm with rfl | hm | hm | hm | hm
  · have h1 := h.cell; rw [hx] at h1; exact absurd (Obj.cells.inj (Option.some.inj h1)).2.1 (by decide)
  · exact row_ne2 h.log hx (by decide) hm
  · exact row_ne2 h.votes hx (by decide) hm
  · exact row_ne2 h.next hx (by decide) hm
  · exact row_ne2 h.mat hx (by decide) hm
section
variable {s s1 : PH} {g na p : Nat} {ms : List Mem} {t : Tri} {G : Grp}
theorem GrpQ.trans {ms1 : List Mem} {t1 : Tri} {G' : Grp} {y : Value} {s' : PH} (hs : Step (GF g na p ms t) (GF g na p ms1 t1) s s1) (h : GrpQ g na p ms1 t1 G' s1 y s') : GrpQ g na p ms t G' s y s' := by
  obtain ⟨rfl, ms', t', h1, h2⟩ := h
  exact ⟨rfl, ms', t', h1, hs.trans h2⟩
theorem after_op (h : GrpIs s g na p ms t G) {i : Nat} {q : Mem} {B : BS} {d : DS} {put : List Dl} (hq : ms[i]? = some q) (hN : G.nodes[i]? = some ⟨some B, d, put⟩) {b : Nat} (e1 : q.bp = some b) {R : BS × List Msg} {x : Value} (ho : OpPost R b (bL b q.l q.v q.n q.m) s x s1) :
    ∃ ot ps ms1, x = Tri.v ot ∧ GrpIs s1 g na p ms1 t { G with nodes := G.nodes.set i ⟨some R.1, d, put⟩ } ∧ Step (GF g na p ms t) (GF g na p ms1 t) s s1 ∧ Msgs s1 ot ps ∧ ps.map (·.1) = R.2 ∧ ∀ y ∈ mF ot ps, y ∉ GF g na p ms1 t := by
  obtain ⟨ot, ps, l', v', n', m', rfl, hB', st, hms, hps, hap⟩ := ho
  obtain ⟨b0, xx, e1', hB, e2, hx, hdr⟩ := (h.nds i q _ hq hN).of_bal
  rw [e1] at e1'; cases e1'
  have hoth := h.oth q (List.mem_of_getElem? hq)
  have hqF : q.F = bL b q.l q.v q.n q.m ++ (Fw.blk q.xp ++ [q.d, q.dm]) := by unfold Mem.F; rw [e1]
  obtain ⟨q', hq'⟩ : ∃ q' : Mem, ({ q with l := l', v := v', n := n', m := m' } : Mem) = q' := ⟨_, rfl⟩
  have hqF' : q'.F = bL b l' v' n' m' ++ (Fw.blk q.xp ++ [q.d, q.dm]) := by rw [← hq']; unfold Mem.F; dsimp only; rw [e1]
  have hbd := bal_drive hB hdr
  have hxn := bal_diary hB hx
  have hdn : q.d ∉ bL b q.l q.v q.n q.m := fun hy => (hbd _ hy).1 rfl
  have hdmn : q.dm ∉ bL b q.l q.v q.n q.m := fun hy => (hbd _ hy).2 rfl
  have hna : na ∉ bL b q.l q.v q.n q.m := fun hy => (hoth na (by rw [hqF]; simp [hy])).2.1 rfl
  have hdr1 : DriveIs s1 q.d q.dm d := ⟨st.mod.at hdr.blk hdn, hdr.map.mod st.mod hdmn⟩
  have hx1 : DiaryIs s1 xx q.d LOG := st.mod.at hx hxn
  have hnd : NdIs s1 q' ⟨some R.1, d, put⟩ := by
    rw [← hq']
    refine ⟨hdr1, fun e => (by cases e), fun B' e => ?_⟩
    cases e
    exact ⟨b, xx, e1, hB', e2, hx1⟩
  have hf : ∀ y ∈ q'.F, y ∈ q.F ∨ s y = none := by
    intro y hy
    rw [hqF'] at hy
    rw [hqF]
    rcases List.mem_append.1 hy with hy | hy
    · exact (st.new y hy).imp_left fun h => by simp [h]
    · exact .inl (by simp only [List.mem_append]; exact .inr (List.mem_append.1 hy))
  have m01 : Fw.Mod (na :: q.F) s s1 := st.mod.mono fun y hy => by rw [hqF]; simp [hy]
  obtain ⟨u1, u2⟩ := h.upd hq hN m01 (by rw [flat_set_same hq (by rw [← hq']; (first | done | rfl))]; exact st.mod.at h.arr hna) hnd hf
  refine ⟨ot, ps, ms.set i q', rfl, u1, u2, hms, hps, fun y hy hyG => ?_⟩
  obtain ⟨h1, h2⟩ := hap y hy
  have hyF : y ∈ q.F ∨ s y = none := h1.imp_left fun h => by rw [hqF]; simp [h]
  have hkn : ∀ z, s z ≠ none → z ∉ q.F → y ≠ z := by
    rintro z hz hzn rfl
    rcases hyF with h | h
    · exact hzn h
    · exact hz h
  simp only [GF, List.mem_cons, List.mem_append, List.mem_flatMap] at hyG
  rcases hyG with rfl | rfl | rfl | hyG | ⟨r, hr, hyG⟩
  · exact hkn y (by rw [h.cell]; simp) (fun hh => (hoth y hh).1 rfl) rfl
  · exact hkn y (by rw [h.arr]; simp) (fun hh => (hoth y hh).2.1 rfl) rfl
  · exact hkn y (by rw [h.post.cell]; simp) (fun hh => (hoth y hh).2.2.1 rfl) rfl
  · exact hkn y (h.post.row.known y hyG) (fun hh => (hoth y hh).2.2.2 hyG) rfl
  · obtain ⟨j, hj⟩ := List.mem_iff_getElem?.1 hr
    by_cases hij : i = j
    · subst hij
      rw [List.getElem?_set_self (List.getElem?_eq_some_iff.1 hq).1] at hj
      cases hj
      rw [hqF', e2] at hyG
      simp only [Fw.blk, List.mem_append, List.mem_cons, List.not_mem_nil, or_false] at hyG
      rcases hyG with hyG | rfl | rfl | rfl
      · exact h2 hyG
      · rcases h1 with h1 | h1
        · exact hxn h1
        · unfold DiaryIs at hx; rw [hx] at h1; cases h1
      · exact h1.elim hdn hdr.known.1
      · exact h1.elim hdmn hdr.known.2
    · rw [List.getElem?_set_ne hij] at hj
      obtain ⟨M, hM⟩ := h.node hj
      rcases hyF with hh | hh
      · exact h.apart i j q r hq hj hij y hh hyG
      · exact (h.nds j r M hj hM).known y hyG hh
/-- what comes of an operation -/
structure RFit (k : Nat) (R : BS × List Msg) : Prop where
  b : R.1.Fit
  out : ∀ M ∈ R.2, M.Fit ∧ 0 ≤ M.to ∧ M.to < k
  len : R.2.length ≤ 20
/-- what suits a group -/
structure Grp.Fit (G : Grp) : Prop where
  nds : ∀ (i : Nat) N, G.nodes[i]? = some N → (N.d.got LOG).1.size ≤ 1099511627776 ∧ N.d.Ok ∧ ∀ B, N.b = some B → B.Fit
  disk : ∀ (i : Nat) N, G.nodes[i]? = some N → (∃ sure, Kept N.d LOG (N.put.map encDB) sure) ∧ (∀ D ∈ N.put, D.I ∧ (encD D).length ≤ 1099511627776) ∧ dtot N.put ≤ 1000000 ∧ N.put.length ≤ 1000000
  bag : ∀ m ∈ G.bag, m.Fit ∧ 0 ≤ m.to ∧ m.to < G.nodes.length
  len : G.bag.length ≤ 1000000
  sz : 1 ≤ G.nodes.length ∧ G.nodes.length ≤ 5
  acts : Num G.acts
/-- the operation, then done -/
theorem c_opdone (h : GrpIs s g na p ms t G) (hfit : G.Fit) {i : Nat} {q : Mem} {B : BS} {d : DS} {put : List Dl} (hq : ms[i]? = some q) (hN : G.nodes[i]? = some ⟨some B, d, put⟩) {b : Nat} (e1 : q.bp = some b) {R : BS × List Msg} (hR : RFit G.nodes.length R) {x : Value} (ho : OpPost R b (bL b q.l q.v q.n q.m) s x s1) :
    DCalls Tryz.prog 46 #[gptr g, .pointer (some ⟨na, i * 3, none⟩), x] s1 (GrpQ g na p ms t (G.done i ⟨some B, d, put⟩ R) s) := by
  obtain ⟨ot, ps, ms1, rfl, h1, st, hms, hps, hap⟩ := after_op h hq hN e1 ho
  have hi := (List.getElem?_eq_some_iff.1 hN).1
  have hN1 : ({ G with nodes := G.nodes.set i ⟨some R.1, d, put⟩ } : Grp).nodes[i]? = some ⟨some R.1, d, put⟩ := List.getElem?_set_self hi
  have hd := (hfit.nds i _ hN).1
  have hpl : ps.length = R.2.length := by rw [← hps, List.length_map]
  refine (c_gdone h1 hN1 hR.b hd hms hap (fun z hz => (hR.out z.1 (by rw [← hps]; exact List.mem_map_of_mem hz)).1) (by have := hfit.len; have := hR.len; show G.bag.length + _ ≤ _; omega)).mono ?_
  intro y s' hQ
  have e : ({ G with nodes := G.nodes.set i ⟨some R.1, d, put⟩ } : Grp).done i ⟨some R.1, d, put⟩ (R.1, ps.map (·.1)) = G.done i ⟨some B, d, put⟩ R := by
    rw [hps]
    unfold Grp.done
    dsimp only
    rw [List.set_set]
    first | done | rfl
  rw [e] at hQ
  exact hQ.trans st
end
end Go.Proofs.YtcdggocbjnmeaaaGreat
end
section
set_option linter.unusedVariables false
set_option linter.unusedSimpArgs false
set_option maxHeartbeats 2000000
set_option maxRecDepth 100000
namespace Go.Proofs.YtcdggocbjnmeaaaGreat
open Fw Go
attribute [-simp] Fw.W.ld_iff Fw.W.st_iff
theorem c_place (a n : Int) (s : PH) : DCalls Tryz.prog 42 #[.int .i64 a, .int .i64 n] s fun y s' => y = .int .i64 (plc a n) ∧ s' = s := by
  refine ok_place a n _ s ?_
  unfold vc_place
  simp only [RP_ite, W.br_iff, RP_guard, W.guard_iff, RP_ret, W.ret_iff]
  refine ⟨fun h => ?_, fun h => ?_⟩
  · have h : n = 0 := by simpa using h
    unfold plc; rw [if_pos h]; exact ⟨rfl, trivial⟩
  · have h : n ≠ 0 := by simpa using h
    unfold plc; rw [if_neg h]
    exact ⟨h, h, by simp, trivial⟩
theorem plc_range (a : Int) {n : Nat} (h0 : 0 < n) (h1 : n ≤ 1000000000) : 0 ≤ plc a n ∧ plc a n < n := by
  unfold plc
  rw [if_neg (by omega)]
  have h2 := Int.tmod_lt_of_pos a (b := (n : Int)) (by omega)
  have h3 : -(n : Int) < a.tmod n := by
    have := Int.lt_tmod_of_pos a (b := (n : Int)) (by omega); omega
  rw [wrap_in (by omega) (by omega)]
  have h4 : 0 ≤ a.tmod n + n := by omega
  rw [Int.tmod_eq_emod_of_nonneg h4]
  exact ⟨Int.emod_nonneg _ (by omega), Int.emod_lt_of_pos _ (by omega)⟩
theorem plc_At (a : Int) {bag : List Msg} (h : bag.length ≤ 1000000000) : At bag (plc a bag.length) := by
  by_cases h0 : bag.length = 0
  · left
    have hb : bag = [] := List.length_eq_zero_iff.1 h0
    subst hb
    exact ⟨rfl, rfl⟩
  · right
    have := plc_range a (n := bag.length) (by omega) h
    exact ⟨this.1, by omega⟩
section
variable {s s1 : PH} {g na p : Nat} {ms : List Mem} {t : Tri} {G : Grp}
abbrev Grp.pl (G : Grp) (a : Int) : Nat := (plc a G.nodes.length).toNat
theorem Grp.Fit.at_ (hf : G.Fit) (a : Int) : ∃ N, G.nodes[G.pl a]? = some N := by
  have := plc_range a (n := G.nodes.length) (by have := hf.sz; omega) (by have := hf.sz; omega)
  exact ⟨_, List.getElem?_eq_getElem (by show (plc a G.nodes.length).toNat < _; omega)⟩
theorem op_some {i : Nat} {N : Nd} {B : BS} {f : BS → BS × List Msg} (hN : G.nodes[i]? = some N) (hB : N.b = some B) : G.op i f = G.done i N (f B) := by
  unfold Grp.op; rw [hN]; dsimp only; rw [hB]
theorem op_down {i : Nat} {N : Nd} {f : BS → BS × List Msg} (hN : G.nodes[i]? = some N) (hB : N.b = none) : G.op i f = G := by
  unfold Grp.op; rw [hN]; dsimp only; rw [hB]
theorem GrpQ.refl (h : GrpIs s g na p ms t G) : GrpQ g na p ms t G s (.tuple #[]) s := ⟨rfl, ms, t, h, Step.refl _ _⟩
abbrev actV (k a b : Int) (x : ByteArray) : Value := .agg #[.int .i64 k, .int .i64 a, .int .i64 b, .string x]
theorem c_gnode (h : GrpIs s g na p ms t G) (hf : G.Fit) (k a b : Int) (x : ByteArray) {N : Nd} (hN : G.nodes[G.pl a]? = some N) : DCalls Tryz.prog 45 #[gptr g, actV k a b x] s fun y s' => y = .pointer (if N.b.isSome = true then some ⟨na, G.pl a * 3, none⟩ else none) ∧ s' = s := by
  refine ok_gnode g k a b x _ s ?_
  unfold vc_gnode
  obtain ⟨q, hq⟩ := h.mem hN
  have hnd := h.nds _ q _ hq hN
  have hr := plc_range a (n := G.nodes.length) (by have := hf.sz; omega) (by have := hf.sz; omega)
  have hlen := h.len
  have hc := h.cell
  simp only [RP_unSome, W.unSome_some, add_mk, Nat.zero_add, RP_ld]
  refine ld_blk (c := .slice) (x := (some ⟨na, 0, none⟩, ms.length, ms.length)) hc rfl ?_
  simp only [W.unSome_some, add_mk, Nat.zero_add]
  refine ld_blk (c := .slice) (x := (some ⟨na, 0, none⟩, ms.length, ms.length)) hc rfl ?_
  simp only [RP_callQ]
  refine W.callQ_of ((plc a ms.length, ()), ()) (c_place a ms.length s) rfl ?_
  rw [hlen]
  simp only [RP_guard, W.guard_iff, W.unSome_some, add_mk, Nat.zero_add]
  refine ⟨⟨hr.1, hr.2⟩, ?_⟩
  cases hB : N.b with
  | none =>
    refine ld_blk (c := .ptr) (x := none) h.arr (mem_get hq (k := 0) (by omega) (by show some _ = some _; rw [hnd.down hB]; (first | done | rfl))) ?_
    simp only [RP_ite, Option.isNone_none, W.br_true]
    exact ⟨rfl, rfl⟩
  | some B =>
    obtain ⟨b', y, e1, _⟩ := hnd.up B hB
    refine ld_blk (c := .ptr) (x := some ⟨b', 0, none⟩) h.arr (mem_get hq (k := 0) (by omega) (by show some _ = some _; rw [e1]; (first | done | rfl))) ?_
    simp only [RP_ite, Option.isNone_some, W.br_false]
    exact ⟨rfl, rfl⟩
/-- a node that is up: its ballot's place -/
theorem up_at (h : GrpIs s g na p ms t G) {i : Nat} {N : Nd} {B : BS} (hN : G.nodes[i]? = some N) (hB : N.b = some B) : ∃ q b, ms[i]? = some q ∧ q.bp = some b ∧ Bal s b q.l q.v q.n q.m B ∧ N = ⟨some B, N.d, N.put⟩ ∧ ((ms.flatMap memE.f).toArray)[i * 3 + 0]? = some (.pointer (some ⟨b, 0, none⟩)) := by
  obtain ⟨q, hq⟩ := h.mem hN
  obtain ⟨b, x, e1, e2, _⟩ := (h.nds i q _ hq hN).up B hB
  exact ⟨q, b, hq, e1, e2, by cases N; simp at hB; simp [hB], mem_get hq (by omega) (by show some _ = some _; rw [e1]; (first | done | rfl))⟩
theorem c_node_up (h : GrpIs s g na p ms t G) (hf : G.Fit) (k a b : Int) (x : ByteArray) {N : Nd} {B : BS} (hN : G.nodes[G.pl a]? = some N) (hB : N.b = some B) : DCalls Tryz.prog 45 #[gptr g, actV k a b x] s fun y s' => y = .pointer (some ⟨na, G.pl a * 3, none⟩) ∧ s' = s := by
  refine (c_gnode h hf k a b x hN).mono ?_
  rintro y s' ⟨h1, h2⟩
  rw [hB] at h1; exact ⟨h1, h2⟩
theorem c_node_down (h : GrpIs s g na p ms t G) (hf : G.Fit) (k a b : Int) (x : ByteArray) {N : Nd} (hN : G.nodes[G.pl a]? = some N) (hB : N.b = none) : DCalls Tryz.prog 45 #[gptr g, actV k a b x] s fun y s' => y = .pointer none ∧ s' = s := by
  refine (c_gnode h hf k a b x hN).mono ?_
  rintro y s' ⟨h1, h2⟩
  rw [hB] at h1; exact ⟨h1, h2⟩
theorem c_gtimeout (h : GrpIs s g na p ms t G) (hf : G.Fit) (k a b : Int) (x : ByteArray) (hp : ∀ N B, G.nodes[G.pl a]? = some N → N.b = some B → RFit G.nodes.length B.timeout) :
    DCalls Tryz.prog 25 #[gptr g, actV k a b x] s (GrpQ g na p ms t (G.op (G.pl a) BS.timeout) s) := by
  refine ok_gtimeout g k a b x _ s ?_
  unfold vc_gtimeout
  obtain ⟨N, hN⟩ := hf.at_ a
  simp only [RP_call]
  cases hB : N.b with
  | none =>
    refine W.call_of (c_node_down h hf k a b x hN hB) ?_
    rintro _ s ⟨rfl, rfl⟩
    refine ⟨((none, ()), ()), rfl, ?_⟩
    simp only [RP_ite, Option.isNone_none, Bool.not_true, W.br_false]
    rw [op_down hN hB]; exact GrpQ.refl h
  | some B =>
    refine W.call_of (c_node_up h hf k a b x hN hB) ?_
    rintro _ s ⟨rfl, rfl⟩
    refine ⟨((some ⟨na, G.pl a * 3, none⟩, ()), ()), rfl, ?_⟩
    obtain ⟨q, b', hq, e1, hBal, eN, hget⟩ := up_at h hN hB
    simp only [RP_ite, Option.isNone_some, Bool.not_false, W.br_true, RP_unSome, W.unSome_some, add_mk, RP_ld]
    refine ld_blk (c := .ptr) (x := some ⟨b', 0, none⟩) h.arr hget ?_
    have hfB := (hf.nds _ N hN).2.2 B hB
    refine W.call_of (c_Timeout hBal hfB.run.ok hfB.run.lc (by have := hfB.len; omega) hfB.term) ?_
    intro y s1 ho
    rw [eN] at hN
    obtain ⟨ot, ps, l', v', n', m', e, _⟩ := id ho
    refine ⟨((ot, ()), ()), e.symm, ?_⟩
    rw [e] at ho
    refine W.call_of (c_opdone h hf hq hN e1 (hp _ B hN rfl) ho) ?_
    rintro y2 s2 ⟨rfl, hQ2⟩
    refine ⟨(), rfl, ?_⟩
    rw [op_some hN rfl]
    exact ⟨rfl, hQ2⟩
theorem c_gbeat (h : GrpIs s g na p ms t G) (hf : G.Fit) (k a b : Int) (x : ByteArray) (hp : ∀ N B, G.nodes[G.pl a]? = some N → N.b = some B → RFit G.nodes.length B.beat) :
    DCalls Tryz.prog 26 #[gptr g, actV k a b x] s (GrpQ g na p ms t (G.op (G.pl a) BS.beat) s) := by
  refine ok_gbeat g k a b x _ s ?_
  unfold vc_gbeat
  obtain ⟨N, hN⟩ := hf.at_ a
  simp only [RP_call]
  cases hB : N.b with
  | none =>
    refine W.call_of (c_node_down h hf k a b x hN hB) ?_
    rintro _ s ⟨rfl, rfl⟩
    refine ⟨((none, ()), ()), rfl, ?_⟩
    simp only [RP_ite, Option.isNone_none, Bool.not_true, W.br_false]
    rw [op_down hN hB]; exact GrpQ.refl h
  | some B =>
    refine W.call_of (c_node_up h hf k a b x hN hB) ?_
    rintro _ s ⟨rfl, rfl⟩
    refine ⟨((some ⟨na, G.pl a * 3, none⟩, ()), ()), rfl, ?_⟩
    obtain ⟨q, b', hq, e1, hBal, eN, hget⟩ := up_at h hN hB
    simp only [RP_ite, Option.isNone_some, Bool.not_false, W.br_true, RP_unSome, W.unSome_some, add_mk, RP_ld]
    refine ld_blk (c := .ptr) (x := some ⟨b', 0, none⟩) h.arr hget ?_
    have hfB := (hf.nds _ N hN).2.2 B hB
    refine W.call_of (c_Beat hBal hfB.run.ok fun e => (hfB.run.ld e).fed) ?_
    intro y s1 ho
    rw [eN] at hN
    obtain ⟨ot, ps, l', v', n', m', e, _⟩ := id ho
    refine ⟨((ot, ()), ()), e.symm, ?_⟩
    rw [e] at ho
    refine W.call_of (c_opdone h hf hq hN e1 (hp _ B hN rfl) ho) ?_
    rintro y2 s2 ⟨rfl, hQ2⟩
    refine ⟨(), rfl, ?_⟩
    rw [op_some hN rfl]
    exact ⟨rfl, hQ2⟩
theorem c_gpropose (h : GrpIs s g na p ms t G) (hf : G.Fit) (k a b : Int) (x : ByteArray) (hp : 1 ≤ x.size ∧ x.size ≤ 256 → ∀ N B, G.nodes[G.pl a]? = some N → N.b = some B → RFit G.nodes.length (B.propose 0 G.acts x).2) :
    DCalls Tryz.prog 27 #[gptr g, actV k a b x] s (GrpQ g na p ms t (if 1 ≤ x.size ∧ x.size ≤ 256 then G.op (G.pl a) (fun B => (B.propose 0 G.acts x).2) else G) s) := by
  refine ok_gpropose g k a b x _ s ?_
  unfold vc_gpropose
  obtain ⟨N, hN⟩ := hf.at_ a
  obtain ⟨R, hR⟩ : ∃ R : Value → PH → Prop, GrpQ g na p ms t (if 1 ≤ x.size ∧ x.size ≤ 256 then G.op (G.pl a) (fun B => (B.propose 0 G.acts x).2) else G) s = R := ⟨_, rfl⟩
  rw [hR]
  have stay : (1 ≤ x.size ∧ x.size ≤ 256 → N.b = none) → R (.tuple #[]) s := by
    intro hno
    rw [← hR]
    split
    · rename_i hc
      rw [op_down hN (hno hc)]; exact GrpQ.refl h
    · exact GrpQ.refl h
  simp only [RP_call]
  cases hB : N.b with
  | none =>
    refine W.call_of (c_node_down h hf k a b x hN hB) ?_
    rintro _ s' ⟨rfl, rfl⟩
    refine ⟨((none, ()), ()), rfl, ?_⟩
    simp only [RP_join, RP_ite, Option.isNone_none, Bool.not_true, W.br_false, W.join_iff, RP_ret, W.ret_iff]
    exact stay fun _ => hB
  | some B =>
    refine W.call_of (c_node_up h hf k a b x hN hB) ?_
    rintro _ s' ⟨rfl, rfl⟩
    refine ⟨((some ⟨na, G.pl a * 3, none⟩, ()), ()), rfl, ?_⟩
    simp only [RP_join]
    refine W.join_gen (fun z s1 => z = ((k, a, b, x, ()), (some ⟨na, G.pl a * 3, none⟩, ()), (decide (1 ≤ x.size ∧ x.size ≤ 256), ()), ()) ∧ s1 = s') ?_ ?_
    · rintro _ s' ⟨rfl, rfl⟩
      simp only [RP_ite, W.br_iff, decide_eq_true_eq, decide_eq_false_iff_not]
      refine ⟨fun hc => ?_, fun hc => stay fun e => absurd e hc⟩
      obtain ⟨q, b', hq, e1, hBal, eN, hget⟩ := up_at h hN hB
      simp only [RP_unSome, W.unSome_some, add_mk, RP_ld]
      refine ld_blk (c := .ptr) (x := some ⟨b', 0, none⟩) h.arr hget ?_
      simp only [W.unSome_some, add_mk, Nat.zero_add]
      refine ld_blk (c := .int .i64) (x := G.acts) h.cell rfl ?_
      have hfB := (hf.nds _ N hN).2.2 B hB
      refine W.call_of (c_Propose hBal hfB.run.ok hfB.run.ld hfB.run.lc (by have := hfB.len; omega) 0 G.acts x) ?_
      rintro _ s1 ⟨y, rfl, ho⟩
      rw [eN] at hN
      obtain ⟨ot, ps, l', v', n', m', e, _⟩ := id ho
      subst e
      refine ⟨(((B.propose 0 G.acts x).1, ()), (ot, ()), ()), rfl, ?_⟩
      refine W.call_of (c_opdone h hf hq hN e1 (hp hc _ B hN rfl) ho) ?_
      rintro y2 s2 ⟨rfl, hQ2⟩
      refine ⟨(), rfl, ?_⟩
      rw [← hR, if_pos hc, op_some hN rfl]
      exact ⟨rfl, hQ2⟩
    · intro J hJ
      simp only [RP_ite, Option.isNone_some, Bool.not_false, W.br_true]
      simp only [W.br_iff, decide_eq_true_eq, decide_eq_false_iff_not]
      refine ⟨fun h1 => hJ _ _ ⟨?_, rfl⟩, fun h1 => hJ _ _ ⟨?_, rfl⟩⟩
      · have e : decide ((x.size : Int) ≤ 256) = decide (1 ≤ x.size ∧ x.size ≤ 256) := by
          have h1 : 1 ≤ x.size := by omega
          simp only [decide_eq_decide]; omega
        rw [e]
      · have e : false = decide (1 ≤ x.size ∧ x.size ≤ 256) := by
          symm; rw [decide_eq_false_iff_not]; omega
        rw [e]
theorem ndSet_some {i : Nat} {N : Nd} {f : Nd → Nd} (hN : G.nodes[i]? = some N) : G.ndSet i f = { G with nodes := G.nodes.set i (f N) } := by
  unfold Grp.ndSet; rw [hN]
theorem GrpIs.same {N : Nd} {i : Nat} (hN : G.nodes[i]? = some N) : ({ G with nodes := G.nodes.set i N } : Grp) = G := by
  rw [set_same_l hN]
theorem c_gcrash (h : GrpIs s g na p ms t G) (hf : G.Fit) (k a b : Int) (x : ByteArray) :
    DCalls Tryz.prog 28 #[gptr g, actV k a b x] s (GrpQ g na p ms t (G.ndSet (G.pl a) fun N => { N with b := none }) s) := by
  refine ok_gcrash g k a b x _ s ?_
  unfold vc_gcrash
  obtain ⟨N, hN⟩ := hf.at_ a
  rw [ndSet_some hN]
  simp only [RP_call]
  cases hB : N.b with
  | none =>
    refine W.call_of (c_node_down h hf k a b x hN hB) ?_
    rintro _ s ⟨rfl, rfl⟩
    refine ⟨((none, ()), ()), rfl, ?_⟩
    simp only [RP_ite, Option.isNone_none, Bool.not_true, W.br_false]
    have e : ({ N with b := none } : Nd) = N := by cases N; simp at hB; simp [hB]
    rw [e, GrpIs.same hN]; exact GrpQ.refl h
  | some B =>
    refine W.call_of (c_node_up h hf k a b x hN hB) ?_
    rintro _ s ⟨rfl, rfl⟩
    refine ⟨((some ⟨na, G.pl a * 3, none⟩, ()), ()), rfl, ?_⟩
    obtain ⟨q, b', hq, e1, hBal, eN, hget⟩ := up_at h hN hB
    simp only [RP_ite, Option.isNone_some, Bool.not_false, W.br_true, RP_unSome, W.unSome_some, add_mk, RP_st]
    refine st_blk h.arr hget rfl ?_
    rw [mem_set (q' := { q with bp := none }) hq rfl (by omega)]
    have hnd := h.nds _ q _ hq hN
    have hoth := h.oth q (List.mem_of_getElem? hq)
    have hqF : q.F = bL b' q.l q.v q.n q.m ++ (Fw.blk q.xp ++ [q.d, q.dm]) := by unfold Mem.F; rw [e1]
    have m1 : ∀ o, Fw.Mod [na] s (s.upd na o) := fun o => Mod.upd (by simp)
    have hn1 : ∀ o, NdIs (s.upd na o) { q with bp := none } { N with b := none } := fun o =>
      ⟨⟨(m1 o).at hnd.drive.blk (by simp; exact (hoth _ (by rw [hqF]; simp)).2.1), hnd.drive.map.mod (m1 o) (by simp; exact (hoth _ (by rw [hqF]; simp)).2.1)⟩, fun _ => rfl, fun B' e => by cases e⟩
    obtain ⟨u1, u2⟩ := h.upd hq hN (q' := { q with bp := none }) ((m1 _).mono (by simp)) (PH.upd_same _ _ _) (hn1 _) (fun y hy => .inl (by
      have hy : y ∈ [q.d, q.dm] := hy
      rw [hqF]; simp at hy ⊢
      rcases hy with rfl | rfl <;> simp))
    exact ⟨rfl, _, t, u1, u2⟩
theorem c_garm (h : GrpIs s g na p ms t G) (hf : G.Fit) (k a b : Int) (x : ByteArray) :
    DCalls Tryz.prog 30 #[gptr g, actV k a b x] s (GrpQ g na p ms t (G.ndSet (G.pl a) fun N => if N.b.isSome = true then { N with d := N.d.arm b } else N) s) := by
  refine ok_garm g k a b x _ s ?_
  unfold vc_garm
  obtain ⟨N, hN⟩ := hf.at_ a
  rw [ndSet_some hN]
  simp only [RP_call]
  cases hB : N.b with
  | none =>
    refine W.call_of (c_node_down h hf k a b x hN hB) ?_
    rintro _ s ⟨rfl, rfl⟩
    refine ⟨((none, ()), ()), rfl, ?_⟩
    simp only [RP_ite, Option.isNone_none, Bool.not_true, W.br_false]
    simp only [Option.isSome_none, Bool.false_eq_true, if_false]
    rw [GrpIs.same hN]; exact GrpQ.refl h
  | some B =>
    refine W.call_of (c_node_up h hf k a b x hN hB) ?_
    rintro _ s ⟨rfl, rfl⟩
    refine ⟨((some ⟨na, G.pl a * 3, none⟩, ()), ()), rfl, ?_⟩
    obtain ⟨q, b', hq, e1, hBal, eN, hget⟩ := up_at h hN hB
    have hnd := h.nds _ q _ hq hN
    obtain ⟨b0, xx, e1', _, e2, hx⟩ := hnd.up B hB
    rw [e1] at e1'; cases e1'
    have hoth := h.oth q (List.mem_of_getElem? hq)
    have hqF : q.F = bL b' q.l q.v q.n q.m ++ (Fw.blk q.xp ++ [q.d, q.dm]) := by unfold Mem.F; rw [e1]
    simp only [RP_ite, Option.isNone_some, Bool.not_false, W.br_true, RP_unSome, W.unSome_some, add_mk, RP_ld]
    refine ld_blk (c := .ptr) (x := some ⟨q.d, 0, none⟩) h.arr (mem_get hq (k := 1) (by omega) rfl) ?_
    refine W.call_of (c_Arm hnd.drive b) ?_
    rintro _ s1 ⟨rfl, hd1, m1⟩
    refine ⟨(), rfl, ?_⟩
    have hdF : q.d ∈ q.F := by rw [hqF]; simp
    have hn1 : NdIs s1 q { N with d := N.d.arm b } := by
      refine ⟨hd1, fun e => hnd.down e, fun B' e => ?_⟩
      have e : N.b = some B' := e
      rw [hB] at e; cases e
      refine ⟨b', xx, e1, hBal.mod m1 fun y hy => by simp; exact (bal_drive hBal hnd.drive y hy).1, e2, ?_⟩
      refine (show s1 xx = _ from m1.at hx ?_)
      simp
      rintro rfl
      have h1 := hnd.drive.blk
      unfold DiaryIs at hx; rw [hx] at h1; exact absurd (Obj.cells.inj (Option.some.inj h1)).2.1 (by decide)
    obtain ⟨u1, u2⟩ := h.upd hq hN (q' := q) (m1.mono (by simp; exact .inr hdF)) (by rw [set_same_l hq]; exact m1.at h.arr (by simp; exact fun e => (hoth _ hdF).2.1 e.symm)) hn1 (fun y hy => .inl hy)
    rw [if_pos (by simp)]
    rw [hB] at u1
    exact ⟨rfl, _, t, u1, u2⟩
/-- a letter comes -/
theorem c_gdeliver (h : GrpIs s g na p ms t G) (hf : G.Fit) {M : Msg} (hM : M.Fit ∧ 0 ≤ M.to ∧ M.to < G.nodes.length) (hp : ∀ N B, G.nodes[M.to.toNat]? = some N → N.b = some B → RFit G.nodes.length (B.take M)) :
    DCalls Tryz.prog 40 #[gptr g, letV M, .bool true] s (GrpQ g na p ms t (G.deliver M) s) := by
  refine ok_gdeliver g M.from_ M.to (encMB M) true _ s ?_
  unfold vc_gdeliver
  obtain ⟨hMf, ht0, ht1⟩ := hM
  have hc := h.cell
  have hlen := h.len
  obtain ⟨N, hN⟩ : ∃ N, G.nodes[M.to.toNat]? = some N := ⟨_, List.getElem?_eq_getElem (by omega)⟩
  simp only [RP_unSome, W.unSome_some, add_mk, Nat.zero_add, RP_ld]
  refine ld_blk (c := .slice) (x := (some ⟨na, 0, none⟩, ms.length, ms.length)) hc rfl ?_
  simp only [RP_guard, W.guard_iff, W.unSome_some, add_mk, Nat.zero_add]
  refine ⟨⟨ht0, by omega⟩, ?_⟩
  have eG : G.deliver M = G.op M.to.toNat (·.take M) := rfl
  rw [eG]
  cases hB : N.b with
  | none =>
    obtain ⟨q, hq⟩ := h.mem hN
    have hnd := h.nds _ q _ hq hN
    rw [op_down hN hB]
    simp only [RP_join, RP_ite, W.br_true, W.join_iff, W.unSome_some, add_mk]
    refine ld_blk (c := .ptr) (x := none) h.arr (mem_get hq (k := 0) (by omega) (by show some _ = some _; rw [hnd.down hB]; (first | done | rfl))) ?_
    simp only [Option.isNone_none, Bool.not_true, W.br_false]
    exact GrpQ.refl h
  | some B =>
    obtain ⟨q, b', hq, e1, hBal, eN, hget⟩ := up_at h hN hB
    have hfB := (hf.nds _ N hN).2.2 B hB
    rw [eN] at hN
    simp only [RP_join, RP_ite, W.br_true, W.join_iff, W.unSome_some, add_mk]
    refine ld_blk (c := .ptr) (x := some ⟨b', 0, none⟩) h.arr hget ?_
    simp only [Option.isNone_some, Bool.not_false, W.br_true, RP_call]
    refine W.call_of (c_GetMsg hMf.I hMf.enc) ?_
    rintro _ s1 ⟨mt, rfl, hrow, hfr, m1⟩
    refine ⟨((M.kind, M.from_, M.to, M.term, M.index, M.prev, M.commit, M.good, mt, M.snap, ()), (0, ()), ()), rfl, ?_⟩
    have h1 := h.new m1
    have hBal1 := hBal.new m1
    simp only [W.unSome_some, add_mk]
    refine ld_blk (c := .ptr) (x := some ⟨b', 0, none⟩) h1.arr hget ?_
    refine W.call_of (c_Take hBal1 hfB.run (by have := hfB.len; omega) M mt hrow hMf.len) ?_
    intro y s2 ho
    obtain ⟨ot, ps, l', v', n', m', e, _⟩ := id ho
    subst e
    refine ⟨((ot, ()), ()), rfl, ?_⟩
    refine W.call_of (c_opdone h1 hf hq hN e1 (hp _ B hN rfl) ho) ?_
    rintro y2 s3 hQ
    obtain ⟨e, hQ2⟩ := id hQ
    subst e
    refine ⟨(), rfl, ?_⟩
    rw [op_some hN rfl]
    exact hQ.trans ⟨m1.mono (by simp), fun z hz => .inl hz⟩
theorem c_gnoletter (h : GrpIs s g na p ms t G) (hf : G.Fit) : DCalls Tryz.prog 40 #[gptr g, noLet, .bool false] s (GrpQ g na p ms t G s) := by
  refine ok_gdeliver g 0 0 ⟨#[]⟩ false _ s ?_
  unfold vc_gdeliver
  have hc := h.cell
  have hlen := h.len
  have := hf.sz
  simp only [RP_unSome, W.unSome_some, add_mk, Nat.zero_add, RP_ld]
  refine ld_blk (c := .slice) (x := (some ⟨na, 0, none⟩, ms.length, ms.length)) hc rfl ?_
  simp only [RP_guard, W.guard_iff, W.unSome_some, add_mk, Nat.zero_add]
  refine ⟨⟨by omega, by show (0 : Int) < (ms.length : Int); omega⟩, ?_⟩
  simp only [RP_join, RP_ite, W.br_false, W.join_iff, RP_ret, W.ret_iff]
  exact GrpQ.refl h
/-- the place among the letters that an act names -/
theorem bag_at (h : GrpIs s g na p ms t G) (hf : G.Fit) (a : Int) : At G.bag (plc a G.bag.length) := plc_At a (by have := hf.len; omega)
theorem c_gcopy (h : GrpIs s g na p ms t G) (hf : G.Fit) (k a b : Int) (x : ByteArray) (hp : ∀ M, G.bag[(plc a G.bag.length).toNat]? = some M → ∀ N B, G.nodes[M.to.toNat]? = some N → N.b = some B → RFit G.nodes.length (B.take M)) :
    DCalls Tryz.prog 23 #[gptr g, actV k a b x] s (GrpQ g na p ms t (match G.bag[(plc a G.bag.length).toNat]? with | some m => G.deliver m | none => G) s) := by
  refine ok_gcopy g k a b x _ s ?_
  unfold vc_gcopy
  have hc := h.cell
  simp only [RP_unSome, W.unSome_some, add_mk, Nat.zero_add, RP_ld]
  refine ld_blk (c := .ptr) (x := some ⟨p, 0, none⟩) hc rfl ?_
  simp only [W.unSome_some, add_mk, Nat.zero_add]
  refine ld_blk (c := .ptr) (x := some ⟨p, 0, none⟩) hc rfl ?_
  simp only [RP_callQ]
  refine W.callQ_of (((G.bag.length : Int), ()), ()) (c_pLen h.post) rfl ?_
  refine W.callQ_of ((plc a G.bag.length, ()), ()) (c_place a G.bag.length s) rfl ?_
  simp only [RP_call]
  refine W.call_of (c_pCopy h.post (bag_at h hf a)) ?_
  rintro _ s ⟨rfl, rfl⟩
  cases hM : G.bag[(plc a G.bag.length).toNat]? with
  | none =>
    refine ⟨((0, 0, ⟨#[]⟩, ()), (false, ()), ()), rfl, ?_⟩
    refine W.call_of (c_gnoletter h hf) ?_
    rintro y s1 ⟨rfl, hQ⟩
    exact ⟨(), rfl, rfl, hQ⟩
  | some M =>
    refine ⟨((M.from_, M.to, encMB M, ()), (true, ()), ()), rfl, ?_⟩
    refine W.call_of (c_gdeliver h hf (hf.bag M (List.mem_of_getElem? hM)) (hp M hM)) ?_
    rintro y s1 ⟨rfl, hQ⟩
    exact ⟨(), rfl, rfl, hQ⟩
theorem Grp.Fit.less (hf : G.Fit) (i : Nat) : ({ G with bag := G.bag.eraseIdx i } : Grp).Fit :=
  ⟨hf.nds, hf.disk, fun m hm => hf.bag m (List.mem_of_mem_eraseIdx hm), by
    show (G.bag.eraseIdx i).length ≤ 1000000
    have := hf.len
    have := List.length_eraseIdx_le G.bag i
    omega, hf.sz, hf.acts⟩
theorem c_gtake (h : GrpIs s g na p ms t G) (hf : G.Fit) (k a b : Int) (x : ByteArray) (hp : ∀ M, G.bag[(plc a G.bag.length).toNat]? = some M → ∀ N B, G.nodes[M.to.toNat]? = some N → N.b = some B → RFit G.nodes.length (B.take M)) :
    DCalls Tryz.prog 22 #[gptr g, actV k a b x] s (GrpQ g na p ms t (match G.bag[(plc a G.bag.length).toNat]? with | some m => ({ G with bag := G.bag.eraseIdx (plc a G.bag.length).toNat } : Grp).deliver m | none => G) s) := by
  refine ok_gtake g k a b x _ s ?_
  unfold vc_gtake
  have hc := h.cell
  simp only [RP_unSome, W.unSome_some, add_mk, Nat.zero_add, RP_ld]
  refine ld_blk (c := .ptr) (x := some ⟨p, 0, none⟩) hc rfl ?_
  simp only [W.unSome_some, add_mk, Nat.zero_add]
  refine ld_blk (c := .ptr) (x := some ⟨p, 0, none⟩) hc rfl ?_
  simp only [RP_callQ]
  refine W.callQ_of (((G.bag.length : Int), ()), ()) (c_pLen h.post) rfl ?_
  refine W.callQ_of ((plc a G.bag.length, ()), ()) (c_place a G.bag.length s) rfl ?_
  simp only [RP_call]
  refine W.call_of (c_pTake h.post (bag_at h hf a) (by have := hf.len; omega)) ?_
  rintro _ s1 ⟨rfl, t1, hp1, m1, hf1⟩
  obtain ⟨h1, st1⟩ := h.sent hp1 m1 fun z hz => .inl (hf1 z hz)
  cases hM : G.bag[(plc a G.bag.length).toNat]? with
  | none =>
    refine ⟨((0, 0, ⟨#[]⟩, ()), (false, ()), ()), rfl, ?_⟩
    have e : G.bag.eraseIdx (plc a G.bag.length).toNat = G.bag := List.eraseIdx_of_length_le (by rw [List.getElem?_eq_none_iff] at hM; exact hM)
    rw [e] at h1
    refine W.call_of (c_gnoletter h1 hf) ?_
    rintro y s2 hQ
    obtain ⟨e2, _⟩ := id hQ
    subst e2
    exact ⟨(), rfl, hQ.trans st1⟩
  | some M =>
    refine ⟨((M.from_, M.to, encMB M, ()), (true, ()), ()), rfl, ?_⟩
    refine W.call_of (c_gdeliver h1 (hf.less _) (hf.bag M (List.mem_of_getElem? hM)) (hp M hM)) ?_
    rintro y s2 hQ
    obtain ⟨e2, _⟩ := id hQ
    subst e2
    exact ⟨(), rfl, hQ.trans st1⟩
theorem c_glose (h : GrpIs s g na p ms t G) (hf : G.Fit) (k a b : Int) (x : ByteArray) :
    DCalls Tryz.prog 24 #[gptr g, actV k a b x] s (GrpQ g na p ms t { G with bag := G.bag.eraseIdx (plc a G.bag.length).toNat } s) := by
  refine ok_glose g k a b x _ s ?_
  unfold vc_glose
  have hc := h.cell
  simp only [RP_unSome, W.unSome_some, add_mk, Nat.zero_add, RP_ld]
  refine ld_blk (c := .ptr) (x := some ⟨p, 0, none⟩) hc rfl ?_
  simp only [W.unSome_some, add_mk, Nat.zero_add]
  refine ld_blk (c := .ptr) (x := some ⟨p, 0, none⟩) hc rfl ?_
  simp only [RP_callQ]
  refine W.callQ_of (((G.bag.length : Int), ()), ()) (c_pLen h.post) rfl ?_
  refine W.callQ_of ((plc a G.bag.length, ()), ()) (c_place a G.bag.length s) rfl ?_
  simp only [RP_call]
  refine W.call_of (c_pLose h.post (bag_at h hf a) (by have := hf.len; omega)) ?_
  rintro _ s1 ⟨bb, rfl, _, t1, hp1, m1, hf1⟩
  obtain ⟨h1, st1⟩ := h.sent hp1 m1 fun z hz => .inl (hf1 z hz)
  exact ⟨((bb, ()), ()), rfl, rfl, ms, t1, h1, st1⟩
end
end Go.Proofs.YtcdggocbjnmeaaaGreat
end
section
set_option linter.unusedVariables false
set_option linter.unusedSimpArgs false
set_option maxHeartbeats 2000000
set_option maxRecDepth 100000
namespace Go.Proofs.YtcdggocbjnmeaaaGreat
open Fw Go
attribute [-simp] Fw.W.ld_iff Fw.W.st_iff
theorem scan_few (s : ByteArray) : (scanB s).1.length ≤ s.size := by
  have h := scanB_spec s
  have h2 := congrArg ByteArray.size h
  rw [recs_len_le, ByteArray.size_extract] at h2
  have h3 : (scanB s).1.length ≤ ((scanB s).1.map fun p => 8 + p.size).sum := by
    generalize (scanB s).1 = l
    induction l with
    | nil => simp
    | cons p l ih => simp only [List.length_cons, List.map_cons, List.sum_cons]; omega
  omega
theorem scan_small (s : ByteArray) : ∀ p ∈ (scanB s).1, p.size ≤ 65536 := by
  intro p hp
  have := scanB_small s
  unfold bigB at this
  simp only [List.any_eq_false, decide_eq_true_eq] at this
  have := this p hp
  omega
theorem BS.Fit.texts {B : BS} (h : B.Fit) : B.texts.length ≤ 1100000000 ∧ ∀ p ∈ B.texts, p.size ≤ 65536 := by
  unfold BS.texts
  have h1 := scan_few B.snap
  have h2 := h.snap
  have h3 := h.len
  constructor
  · have h4 := List.length_filter_le (fun t : ByteArray => t.size != 0) ((B.log.take (B.commit - B.base).toNat).map (·.text))
    rw [List.length_map, List.length_take] at h4
    rw [List.length_append]; omega
  · intro p hp
    rcases List.mem_append.1 hp with hp | hp
    · exact scan_small _ p hp
    · have hp := (List.mem_filter.1 hp).1
      obtain ⟨e, he, rfl⟩ := List.mem_map.1 hp
      exact (h.ents e (List.mem_of_mem_take he)).2
theorem entry_at {B : BS} {k : Nat} (hk : B.base + 1 + k ≤ B.lst) : B.entry (B.base + 1 + k) = B.log[k]? := by
  unfold BS.entry
  rw [if_neg (by omega)]
  congr 1
  omega
def TxZ (B : BS) (s0 : PH) (z : MDen [(false, [.slice]), (true, [.int .i64, .int .i64, .int .i64, .int .i64, .int .i64, .int .i64, .int .i64]), (false, [.int .i64])]) (s' : PH) : Prop :=
  ∃ (k : Nat) (tt : Tri), z = ((tt, ()), (B.term, B.vote, B.role, B.lead, B.base, B.lst, B.commit, ()), (B.base + 1 + (k : Int), ()), ()) ∧ (k : Int) ≤ B.commit - B.base ∧
    rowE strE s' 9 tt.1 tt.2.1 tt.2.2 ((scanB B.snap).1 ++ ((B.log.take k).map (·.text)).filter fun t => t.size != 0) ∧ (∀ x ∈ Fw.blk tt.1, s0 x = none) ∧ Fw.Mod [] s0 s'
def TextsQ (B : BS) (s : PH) (y : Value) (s' : PH) : Prop := ∃ tt : Tri, y = tt.v ∧ rowE strE s' 9 tt.1 tt.2.1 tt.2.2 B.texts ∧ (∀ x ∈ Fw.blk tt.1, s x = none) ∧ Fw.Mod [] s s'
theorem c_gtexts {s : PH} {b : Nat} {l v n m : Tri} {B : BS} (h : Bal s b l v n m B) (hf : B.Fit) : DCalls Tryz.prog 33 #[.pointer (some ⟨b, 0, none⟩)] s (TextsQ B s) := by
  refine ok_gtexts b _ s ?_
  unfold vc_gtexts
  have hok := hf.run.ok
  have hlc := hf.run.lc
  have hb0 := hok.small.base0
  have hb1 := hok.base
  have hlst := lst_def B
  have hlen := hf.len
  have hsnap := hf.snap
  have hcom := hok.com
  simp only [RP_call]
  refine W.call_of (c_Snap h) ?_
  rintro _ s ⟨rfl, rfl⟩
  refine ⟨((B.snap, ()), ()), rfl, ?_⟩
  refine W.call_of (c_Scan B.snap (by omega) s) ?_
  rintro _ s1 ⟨a, c, rfl, hrow, hfr, m1⟩
  refine ⟨(((a, (scanB B.snap).1.length, c), ()), (((scanB B.snap).2 : Int), ()), ()), rfl, ?_⟩
  refine W.call_of (c_Stand (h.new m1) hok.small) ?_
  rintro _ s2 ⟨rfl, m2⟩
  refine ⟨((B.term, B.vote, B.role, B.lead, B.base, B.lst, B.commit, ()), ()), rfl, ?_⟩
  have hw : IntKind.i64.wrap (B.base + 1) = B.base + 1 := wrap_in (by omega) (by omega)
  simp only [hw, RP_loop]
  refine ⟨TxZ B s, fun z _ => (B.commit + 1 - z.2.2.1.1).toNat, ⟨0, (a, (scanB B.snap).1.length, c), by simp, by show ((0 : Nat) : Int) ≤ _; omega, ?_, hfr, m1.trans m2⟩, ?_⟩
  · simpa using hrow.mod m2 (by simp)
  rintro _ s3 ⟨k, tt, rfl, hk, hrow3, hf3, m3⟩
  simp only [RP_ite, W.br_iff, decide_eq_true_eq, decide_eq_false_iff_not]
  have hcomm : B.base + 1 + (k : Int) ≤ B.commit ∨ (k : Int) = B.commit - B.base := by omega
  refine ⟨fun hle => ?_, fun hge => ?_⟩
  · have hle : B.base + 1 + (k : Int) ≤ B.commit := hle
    refine W.call_of (c_Entry (h.new m3) hok.small (i := B.base + 1 + k) (by unfold Num; omega)) ?_
    rintro _ s4 ⟨rfl, m4⟩
    have hkl : k < B.log.length := by omega
    obtain ⟨e, he⟩ : ∃ e, B.log[k]? = some e := ⟨_, List.getElem?_eq_getElem hkl⟩
    rw [entry_at (by omega), he]
    refine ⟨((e.term, e.at_, e.born, e.text, ()), (true, ()), ()), rfl, ?_⟩
    have hrow4 := hrow3.mod m4 (by simp)
    have hnext : IntKind.i64.wrap (B.base + 1 + (k : Int) + 1) = B.base + 1 + ((k + 1 : Nat) : Int) := by rw [wrap_in (by omega) (by omega)]; omega
    have htake : (B.log.take (k + 1)).map (·.text) = (B.log.take k).map (·.text) ++ [e.text] := by rw [List.take_add_one, he]; simp
    have hmu : (B.commit + 1 - (B.base + 1 + ((k + 1 : Nat) : Int))).toNat < (B.commit + 1 - (B.base + 1 + (k : Int))).toNat := by omega
    by_cases hz : e.text.size = 0
    · have ht : e.text = ⟨#[]⟩ := by
        apply toL_inj
        have : (toL e.text).length = 0 := by rw [toL_len]; exact hz
        rw [List.length_eq_zero_iff.1 this]
      have hbe : (!e.text.toList == (ByteArray.mk #[]).toList) = false := by rw [ht]; simp
      simp only [hbe, W.br_false, hnext]
      refine ⟨⟨k + 1, tt, rfl, by omega, ?_, hf3, m3.trans m4⟩, hmu⟩
      rw [htake, List.filter_append]
      simpa [hz] using hrow4
    · have hbe : (!e.text.toList == (ByteArray.mk #[]).toList) = true := by
        rw [toList_beq, decide_eq_false (fun e' => hz (by rw [e']; (first | done | rfl)))]; (first | done | rfl)
      simp only [hbe, W.br_true, hnext, RP_nw, RP_app]
      have hll : ((scanB B.snap).1 ++ ((B.log.take k).map (·.text)).filter fun t => t.size != 0).length ≤ 1099511627776 := by
        have h1 := scan_few B.snap
        have h4 := List.length_filter_le (fun t : ByteArray => t.size != 0) ((B.log.take k).map (·.text))
        rw [List.length_map, List.length_take] at h4
        rw [List.length_append]; omega
      refine growS (s0 := s) (x := e.text) hrow4 hf3 (m3.trans m4) hll ?_
      intro a' c' s5 hrow5 hf5 m5
      refine ⟨⟨k + 1, (a', tt.2.1 + 1, c'), rfl, by omega, ?_, hf5, m5⟩, hmu⟩
      rw [htake, List.filter_append, ← List.append_assoc]
      have : [e.text].filter (fun t => t.size != 0) = [e.text] := by simp [hz]
      rw [this]; exact hrow5
  · have hkk : (k : Int) = B.commit - B.base := by
      have hge : ¬ (B.base + 1 + (k : Int) ≤ B.commit) := hge
      omega
    have e : (B.commit - B.base).toNat = k := by omega
    refine ⟨tt, rfl, ?_, hf3, m3⟩
    unfold BS.texts
    rw [e]; exact hrow3
theorem foldl_take {α β : Type} (f : β → α → β) (b : β) {l : List α} {k : Nat} {x : α} (h : l[k]? = some x) : (l.take (k + 1)).foldl f b = f ((l.take k).foldl f b) x := by
  rw [List.take_add_one, h, List.foldl_append]; (first | done | rfl)
theorem snapOf_size : ∀ (ts : List ByteArray) (a : ByteArray), (∀ p ∈ ts, p.size ≤ 65536) → (ts.foldl (fun a t => a ++ (putE t).1) a).size ≤ a.size + ts.length * 65544
  | [], a, _ => by simp
  | t :: ts, a, h => by
    have h1 := snapOf_size ts (a ++ (putE t).1) fun p hp => h p (by simp [hp])
    have h2 := h t (by simp)
    have h3 : (putE t).1.size ≤ 65544 := by
      unfold putE
      split
      · exact Nat.zero_le _
      · show (recB t).size ≤ _
        rw [recB_size]; omega
    rw [ByteArray.size_append] at h1
    simp only [List.foldl_cons, List.length_cons]
    omega
section
variable {s s1 : PH} {g na p : Nat} {ms : List Mem} {t : Tri} {G : Grp}
def CutZ (g na p : Nat) (ms : List Mem) (t : Tri) (G : Grp) (ad : Addr) (B : BS) (tt : Tri) (s0 : PH) (z : MDen [(false, [.ptr]), (false, [.str]), (false, [.slice]), (false, [.int .i64]), (false, [.int .i64])]) (s' : PH) : Prop :=
  ∃ (k : Nat), z = ((some ad, ()), (snapOf (B.texts.take k), ()), (tt, ()), ((tt.2.1 : Int), ()), ((k : Int), ()), ()) ∧ k ≤ tt.2.1 ∧ s' = s0
theorem c_gcut (h : GrpIs s g na p ms t G) (hf : G.Fit) (k a b : Int) (x : ByteArray) (hp : ∀ N B, G.nodes[G.pl a]? = some N → N.b = some B → RFit G.nodes.length B.cutAll) :
    DCalls Tryz.prog 31 #[gptr g, actV k a b x] s (GrpQ g na p ms t (G.op (G.pl a) BS.cutAll) s) := by
  refine ok_gcut g k a b x _ s ?_
  unfold vc_gcut
  obtain ⟨N, hN⟩ := hf.at_ a
  simp only [RP_call]
  cases hB : N.b with
  | none =>
    refine W.call_of (c_node_down h hf k a b x hN hB) ?_
    rintro _ s ⟨rfl, rfl⟩
    refine ⟨((none, ()), ()), rfl, ?_⟩
    simp only [RP_ite, Option.isNone_none, W.br_true]
    rw [op_down hN hB]; exact GrpQ.refl h
  | some B =>
    refine W.call_of (c_node_up h hf k a b x hN hB) ?_
    rintro _ s ⟨rfl, rfl⟩
    refine ⟨((some ⟨na, G.pl a * 3, none⟩, ()), ()), rfl, ?_⟩
    obtain ⟨q, b', hq, e1, hBal, eN, hget⟩ := up_at h hN hB
    have hfB := (hf.nds _ N hN).2.2 B hB
    obtain ⟨htl, htz⟩ := hfB.texts
    simp only [RP_ite, Option.isNone_some, W.br_false, RP_unSome, W.unSome_some, add_mk, RP_ld]
    refine ld_blk (c := .ptr) (x := some ⟨b', 0, none⟩) h.arr hget ?_
    refine W.call_of (c_gtexts hBal hfB) ?_
    rintro _ s1 ⟨tt, rfl, hrow, hfr, m1⟩
    refine ⟨((tt, ()), ()), rfl, ?_⟩
    have h1 := h.new m1
    have hBal1 := hBal.new m1
    have htn : tt.2.1 = B.texts.length := hrow.len
    simp only [RP_loop]
    refine ⟨CutZ g na p ms t G ⟨na, G.pl a * 3, none⟩ B tt s1, fun z _ => ((tt.2.1 : Int) - z.2.2.2.2.1.1).toNat, ⟨0, rfl, Nat.zero_le _, rfl⟩, ?_⟩
    rintro _ s1 ⟨i, rfl, hi, rfl⟩
    have hsz : (snapOf (B.texts.take i)).size ≤ 1100000000 * 65544 := by
      have := snapOf_size (B.texts.take i) ⟨#[]⟩ fun p hp => htz p (List.mem_of_mem_take hp)
      have h2 : (B.texts.take i).length ≤ 1100000000 := by rw [List.length_take]; omega
      have h0 : (ByteArray.mk #[]).size = 0 := rfl
      rw [h0] at this
      unfold snapOf
      have h3 : (B.texts.take i).length * 65544 ≤ 1100000000 * 65544 := Nat.mul_le_mul_right _ h2
      omega
    simp only [W.br_iff, decide_eq_true_eq, decide_eq_false_iff_not]
    refine ⟨fun hlt => ?_, fun hge => ?_⟩
    · have hlt : i < tt.2.1 := by omega
      obtain ⟨y, hy⟩ : ∃ y, B.texts[i]? = some y := ⟨_, List.getElem?_eq_getElem (by omega)⟩
      obtain ⟨q', hq', hh⟩ := hrow.at hy
      have hyz := htz y (List.mem_of_getElem? hy)
      simp only [RP_guard, W.guard_iff, Int.toNat_natCast, hq', W.unSome_some, add_mk, Nat.zero_add]
      refine ⟨by show (0 : Int) ≤ (i : Int) ∧ (i : Int) < (tt.2.1 : Int); omega, (y, ()), hh, ?_⟩
      refine W.call_of (c_Put y s1) ?_
      rintro _ s1 ⟨rfl, rfl⟩
      refine ⟨(((putE y).1, ()), ((putE y).2, ()), ()), rfl, ?_⟩
      have h3 : (putE y).1.size ≤ 65544 := by
        unfold putE
        split
        · exact Nat.zero_le _
        · show (recB y).size ≤ _
          rw [recB_size]; omega
      refine ⟨by show (((snapOf (B.texts.take i)).size + (putE y).1.size : Nat) : Int) ≤ 9223372036854775807; omega, ⟨⟨i + 1, ?_, hlt, rfl⟩, ?_⟩⟩
      · rw [wrap_succ (by omega), ← hq']
        have : snapOf (B.texts.take (i + 1)) = snapOf (B.texts.take i) ++ (putE y).1 := foldl_take _ _ hy
        rw [this]
      · rw [wrap_succ (by omega)]
        show ((tt.2.1 : Int) - ((i + 1 : Nat) : Int)).toNat < ((tt.2.1 : Int) - ((i : Nat) : Int)).toNat
        omega
    · have hii : i = B.texts.length := by omega
      subst hii
      rw [List.take_length] at hsz ⊢
      simp only [W.unSome_some, add_mk]
      refine ld_blk (c := .ptr) (x := some ⟨b', 0, none⟩) h1.arr hget ?_
      simp only [W.unSome_some, add_mk]
      refine ld_blk (c := .ptr) (x := some ⟨b', 0, none⟩) h1.arr hget ?_
      refine W.call_of (c_Stand hBal1 hfB.run.ok.small) ?_
      rintro _ s2 ⟨rfl, m2⟩
      refine ⟨((B.term, B.vote, B.role, B.lead, B.base, B.lst, B.commit, ()), ()), rfl, ?_⟩
      have h2 := h1.new m2
      simp only [RP_still]
      refine (W.still_iff _ _ _ _ _ _).2 ⟨has_one ?_, ?_⟩
      · unfold PH.cell?; dsimp only; rw [h2.arr]; exact hget
      refine W.call_of (c_Cut (hBal1.new m2) hfB.run.ok.small hfB.run.ok.base hfB.run.lc B.commit (snapOf B.texts)) ?_
      rintro _ s3 ⟨l', rfl, hB3, st3⟩
      refine ⟨((B.cuts B.commit, ()), ()), rfl, ?_⟩
      rw [eN] at hN
      have ho : OpPost B.cutAll b' (bL b' q.l q.v q.n q.m) s2 (Tri.v noTri) s3 := ⟨noTri, [], l', q.v, q.n, q.m, rfl, hB3, st3, Msgs.nil _, rfl, by simp [mF, Fw.blk]⟩
      refine W.call_of (c_opdone h2 hf hq hN e1 (hp _ B hN rfl) ho) ?_
      rintro y s4 hQ
      obtain ⟨e, _⟩ := id hQ
      subst e
      refine ⟨(), rfl, ?_⟩
      rw [op_some hN rfl]
      exact hQ.trans ⟨(m1.trans m2).mono (by simp), fun z hz => .inl hz⟩
end
end Go.Proofs.YtcdggocbjnmeaaaGreat
end
