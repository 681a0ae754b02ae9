/-
  The ballot, plainly: what is committed stays.
  Conditions: none; it proves no statement by itself.
-/
import Derived.Test.YtfpbiecmobdnnaaC14
set_option linter.unusedVariables false
set_option linter.unusedSimpArgs false
set_option maxHeartbeats 1000000
namespace Go.Proofs.Ytfpbiecmobdnnaa
open Fw Go

theorem mx_le (a b : Int) : a ≤ mx a b := by unfold mx; split <;> omega
theorem entry_same {B B' : BS} (h1 : B'.base = B.base) (h2 : B'.log = B.log) (i : Int) : B'.entry i = B.entry i := by
  unfold BS.entry BS.lst; rw [h1, h2]
theorem entry_set {B : BS} {j : Int} (h1 : B.base < j) (h2 : j ≤ B.lst + 1) (ys : List Ent) {i : Int} (hi : i < j) : (B.set j ys).entry i = B.entry i := by
  have hl := set_lst h1 h2 ys
  have hd := lst_def B
  by_cases hb : i ≤ B.base
  · rw [BS.entry_out (B := B) (.inl hb), BS.entry_out (B := B.set j ys) (.inl hb)]
  · have e1 : (B.set j ys).entry i = (B.set j ys).log[(i - B.base - 1).toNat]? := by
      unfold BS.entry; rw [if_neg (by rw [hl]; show ¬ (i ≤ B.base ∨ _); omega)]; rfl
    have e2 : B.entry i = B.log[(i - B.base - 1).toNat]? := by unfold BS.entry; rw [if_neg (by omega)]
    rw [e1, e2]
    show (B.log.take (j - B.base - 1).toNat ++ ys)[(i - B.base - 1).toNat]? = _
    rw [List.getElem?_append_left (by rw [List.length_take]; omega), List.getElem?_take_of_lt (by omega)]
theorem entry_rebase {B : BS} {k : Int} (h1 : B.base ≤ k) (h2 : k ≤ B.lst) (t : Int) (sn : ByteArray) {i : Int} (hi : k < i) : (B.rebase k t sn (B.log.drop (k - B.base).toNat)).entry i = B.entry i := by
  have hl := rebase_lst h1 h2 t sn
  have hd := lst_def B
  by_cases hb : B.lst < i
  · rw [BS.entry_out (B := B) (.inr hb), BS.entry_out (B := B.rebase k t sn (B.log.drop (k - B.base).toNat)) (.inr (by rw [hl]; exact hb))]
  · have e1 : (B.rebase k t sn (B.log.drop (k - B.base).toNat)).entry i = (B.log.drop (k - B.base).toNat)[(i - k - 1).toNat]? := by
      unfold BS.entry; rw [if_neg (by rw [hl]; show ¬ (i ≤ k ∨ _); omega)]; rfl
    have e2 : B.entry i = B.log[(i - B.base - 1).toNat]? := by unfold BS.entry; rw [if_neg (by omega)]
    rw [e1, e2, List.getElem?_drop]
    congr 1; omega
structure Keeps (B B' : BS) : Prop where
  base : B.base ≤ B'.base
  com : B.commit ≤ B'.commit
  ent : ∀ i, B'.base < i → i ≤ B.commit → B'.entry i = B.entry i
  led : B.role = 2 → B'.role = 2 → ∀ i, B'.base < i → i ≤ B.lst → B'.entry i = B.entry i
theorem Keeps.log {B B' : BS} (h1 : B'.base = B.base) (h2 : B'.log = B.log) (h3 : B.commit ≤ B'.commit) : Keeps B B' :=
  ⟨by omega, h3, fun i _ _ => entry_same h1 h2 i, fun _ _ i _ _ => entry_same h1 h2 i⟩
theorem Keeps.refl (B : BS) : Keeps B B := Keeps.log rfl rfl (Int.le_refl _)
/-- from one that has the same log and commit -/
theorem Keeps.from_ {B B1 B2 : BS} (h1 : B1.base = B.base) (h2 : B1.log = B.log) (h3 : B1.commit = B.commit) (hr : B.role = 2 → B1.role = 2 ∨ B2.role ≠ 2) (h : Keeps B1 B2) : Keeps B B2 := by
  have hl : B1.lst = B.lst := by unfold BS.lst; rw [h1, h2]
  refine ⟨by have := h.base; omega, by have := h.com; omega, fun i g1 g2 => (h.ent i g1 (by omega)).trans (entry_same h1 h2 i), fun r1 r2 i g1 g2 => ?_⟩
  rcases hr r1 with hr | hr
  · exact (h.led hr r2 i g1 (by omega)).trans (entry_same h1 h2 i)
  · exact absurd r2 hr
/-- to one that has the same log, and no less commit -/
theorem Keeps.to_ {B B1 B2 : BS} (h : Keeps B B1) (h1 : B2.base = B1.base) (h2 : B2.log = B1.log) (h3 : B1.commit ≤ B2.commit) (hr : B2.role = 2 → B1.role = 2) : Keeps B B2 :=
  ⟨by have := h.base; omega, by have := h.com; omega, fun i g1 g2 => (entry_same h1 h2 i).trans (h.ent i (by omega) g2), fun r1 r2 i g1 g2 => (entry_same h1 h2 i).trans (h.led r1 (hr r2) i (by omega) g2)⟩
theorem Keeps.set {B : BS} {j : Int} (hb : B.base ≤ B.commit) (h1 : B.commit < j) (h2 : j ≤ B.lst + 1) (hr : B.role = 2 → j = B.lst + 1) (ys : List Ent) : Keeps B (B.set j ys) :=
  ⟨Int.le_refl _, Int.le_refl _, fun i _ g2 => entry_set (by omega) h2 ys (by omega), fun r1 _ i _ g2 => entry_set (by omega) h2 ys (by have := hr r1; omega)⟩
theorem Keeps.settled {B B1 : BS} (h : Keeps B B1) (hlc : B1.commit ≤ B1.lst) : Keeps B B1.settled.1 := by
  obtain ⟨c, hc, g1, g2⟩ := settled_com B1 hlc
  rw [hc]; exact h.to_ rfl rfl g1 fun e => e
theorem Keeps.counted {B : BS} {z : Int} (h : B.Inv z) (hz : z + 1 ≤ 1000000) (hr : B.role ≠ 2) : Keeps B B.counted.1 := by
  unfold BS.counted
  split
  · exact Keeps.refl B
  · have hlc := h.run.lc
    have hb := h.run.ok.com
    have hI : (B.lead2.set (B.lst + 1) [{ noEnt with term := B.term }]).Inv (z + 1) := Inv.set (ys := [{ noEnt with term := B.term }]) (Inv.lead2 h) (by show B.commit < B.lst + 1; omega) (Int.le_refl _) hz fun _ => rfl
    refine Keeps.settled ?_ hI.run.lc
    refine Keeps.from_ (B1 := B.lead2) rfl rfl rfl (fun e => absurd e hr) ?_
    exact Keeps.set (B := B.lead2) hb (by show B.commit < B.lst + 1; omega) (Int.le_refl _) (fun _ => rfl) _
theorem Keeps.timeout {B : BS} {z : Int} (h : B.Inv z) (hz : z + 2 ≤ 1000000) : Keeps B B.timeout.1 := by
  unfold BS.timeout
  split
  · exact Keeps.refl B
  · rename_i hr
    exact Keeps.from_ (B1 := B.stood) rfl rfl rfl (fun e => absurd e hr) (Keeps.counted (Inv.stood h) (by omega) (by show ¬ (1 : Int) = 2; omega))
theorem Keeps.propose {B : BS} {z : Int} (h : B.Inv z) (hz : z + 1 ≤ 1000000) (at_ born : Int) (text : ByteArray) : Keeps B (B.propose at_ born text).2.1 := by
  unfold BS.propose
  split
  · have hlc := h.run.lc
    have hI : (B.proposed at_ born text).Inv (z + 1) := Inv.set (ys := [⟨B.term, at_, born, text⟩]) h (by omega) (Int.le_refl _) hz fun _ => rfl
    exact Keeps.settled (Keeps.set h.run.ok.com (by omega) (Int.le_refl _) (fun _ => rfl) _) hI.run.lc
  · exact Keeps.refl B
theorem Keeps.merge {B : BS} (hr : B.role ≠ 2) (hb : B.base ≤ B.commit) : ∀ (xs : List Ent) (i : Int), B.commit ≤ i → i ≤ B.lst → Keeps B (B.merge i xs)
  | [], i, h1, h2 => Keeps.refl B
  | e :: r, i, h1, h2 => by
    simp only [BS.merge]
    split
    · rename_i ht
      exact Keeps.merge hr hb r (i + 1) (by omega) (termAt_le (by rw [ht]) (by omega))
    · exact Keeps.set hb (by omega) (by omega) (fun e => absurd e hr) _
theorem merge_role {B : BS} : ∀ (xs : List Ent) (i : Int), (B.merge i xs).role = B.role
  | [], i => rfl
  | e :: r, i => by
    simp only [BS.merge]
    split
    · exact merge_role r (i + 1)
    · rfl
theorem Keeps.fed {B : BS} {z : Int} (h : B.Inv z) (M : Msg) : Keeps B (B.fed M).1 := by
  have hlc := h.run.lc
  have hb := h.run.ok.com
  have hfl : Keeps B { B with role := 0, lead := M.from_ } := Keeps.log rfl rfl (Int.le_refl _)
  unfold BS.fed
  split
  · exact Keeps.refl B
  · rename_i hr
    dsimp only
    split
    · exact hfl
    · split
      · exact hfl
      · rename_i hne hc
        have hr0 : ({ B with role := 0, lead := M.from_ } : BS).role ≠ 2 := by show ¬ (0 : Int) = 2; omega
        have go : ∀ (xs : List Ent) (i : Int), B.commit ≤ i → i ≤ B.lst → Keeps B { ({ B with role := 0, lead := M.from_ }.merge i xs) with commit := mx ({ B with role := 0, lead := M.from_ }.merge i xs).commit (mn M.commit (M.index + M.list.length)) } := by
          intro xs i h1 h2
          have hk : Keeps B ({ B with role := 0, lead := M.from_ }.merge i xs) := Keeps.from_ (B1 := { B with role := 0, lead := M.from_ }) rfl rfl rfl (fun e => absurd e hr) (Keeps.merge hr0 hb xs i h1 h2)
          exact hk.to_ rfl rfl (mx_le _ _) fun e => e
        split
        · exact go _ _ (Int.le_refl _) hlc
        · rename_i hge
          have hyes : B.termAt M.index = (M.prev, true) := by
            by_cases e : B.termAt M.index = (M.prev, true)
            · exact e
            · exact absurd ⟨hge, e⟩ hc
          exact go _ _ (by omega) (termAt_le (by rw [hyes]) (by omega))
theorem Keeps.given {B : BS} {z : Int} (h : B.Inv z) (M : Msg) : Keeps B (B.given M).1 := by
  have hlc := h.run.lc
  have hb := h.run.ok.com
  unfold BS.given
  split
  · exact Keeps.refl B
  · rename_i hr
    split
    · exact Keeps.log rfl rfl (Int.le_refl _)
    · rename_i hgt
      exact ⟨by show B.base ≤ M.index; omega, by show B.commit ≤ M.index; omega, fun i g1 g2 => by have g1 : M.index < i := g1; omega, fun r1 => absurd r1 hr⟩
theorem Keeps.cut {B : BS} {z : Int} (h : B.Inv z) (i : Int) (sn : ByteArray) : Keeps B (B.cut i sn) := by
  have hlc := h.run.lc
  unfold BS.cut
  split
  · exact Keeps.refl B
  · rename_i hc
    exact ⟨by show B.base ≤ i; omega, Int.le_refl _, fun j g1 _ => entry_rebase (by omega) (by omega) _ _ g1, fun _ _ j g1 _ => entry_rebase (by omega) (by omega) _ _ g1⟩
theorem Keeps.heard {B : BS} {z : Int} (h : B.Inv z) (M : Msg) : Keeps B (B.heard M).1 := by
  unfold BS.heard
  split
  · exact Keeps.refl B
  · rename_i hr
    have hr : B.role = 2 := by omega
    dsimp only
    split
    · exact Keeps.log rfl rfl (Int.le_refl _)
    · have hk : Keeps B (B.fedTo M.from_.toNat M.index).settled.1 := Keeps.settled (Keeps.log rfl rfl (Int.le_refl _)) h.run.lc
      split <;> exact hk
theorem Keeps.asked (B : BS) (M : Msg) : Keeps B (B.asked M).1 := by
  unfold BS.asked
  split
  · exact Keeps.log rfl rfl (Int.le_refl _)
  · exact Keeps.refl B
theorem Keeps.voted {B : BS} {z : Int} (h : B.Inv z) (M : Msg) (hz : z + 1 ≤ 1000000) : Keeps B (B.voted M).1 := by
  unfold BS.voted
  split
  · exact Keeps.refl B
  · rename_i hr
    have hk := h.run.ok
    have hr1 : B.role = 1 := by
      by_cases e : B.role = 1
      · exact e
      · exact absurd (.inl e) hr
    refine Keeps.from_ (B1 := { B with votes := B.votes.set M.from_.toNat true }) rfl rfl rfl (fun e => by omega) (Keeps.counted (z := z) ⟨⟨⟨⟨hk.small.base0, hk.small.base1, hk.small.log1⟩, hk.base, hk.size, hk.id, hk.com⟩, h.run.lc, fun hr => ?_, fun hr => ⟨(h.run.ld hr).nlen, (h.run.ld hr).mlen, (h.run.ld hr).nr, (h.run.ld hr).mr⟩⟩, h.len, h.far, h.term, h.vote⟩ hz (by show B.role ≠ 2; omega))
    show (List.set _ _ _).length = _
    rw [List.length_set]; exact h.run.vt hr
theorem does_role {B : BS} (h : B.role = 0) (M : Msg) : (B.does M).1.role ≠ 2 := by
  unfold BS.does
  split
  · unfold BS.asked; split <;> (show ¬ B.role = 2; omega)
  · split
    · unfold BS.voted; rw [if_pos (.inl (by omega))]; show ¬ B.role = 2; omega
    · split
      · unfold BS.fed; rw [if_neg (by omega)]
        dsimp only
        split
        · show ¬ (0 : Int) = 2; omega
        · split
          · show ¬ (0 : Int) = 2; omega
          · split
            · have := merge_role (B := { B with role := 0, lead := M.from_ }) (M.list.drop (B.commit - M.index).toNat) B.commit
              dsimp only at this ⊢
              omega
            · have := merge_role (B := { B with role := 0, lead := M.from_ }) M.list M.index
              dsimp only at this ⊢
              omega
      · split
        · unfold BS.heard; rw [if_pos (by omega)]; show ¬ B.role = 2; omega
        · unfold BS.given; rw [if_neg (by omega)]
          split
          · show ¬ (0 : Int) = 2; omega
          · show ¬ (0 : Int) = 2; omega
theorem Keeps.does {B : BS} {z : Int} (h : B.Inv z) (M : Msg) (hz : z + 1 ≤ 1000000) : Keeps B (B.does M).1 := by
  unfold BS.does
  split
  · exact Keeps.asked B M
  · split
    · exact Keeps.voted h M hz
    · split
      · exact Keeps.fed h M
      · split
        · exact Keeps.heard h M
        · exact Keeps.given h M
theorem Keeps.take {B : BS} {z : Int} (h : B.Inv z) (M : Msg) (hz : 0 ≤ z ∧ z + 1 ≤ 1000000) : Keeps B (B.take M).1 := by
  unfold BS.take
  split
  · exact Keeps.refl B
  · rename_i hst
    have hst : M.strange B.id B.size = false := by simpa using hst
    unfold Msg.strange at hst
    simp only [Bool.or_eq_false_iff, decide_eq_false_iff_not] at hst
    obtain ⟨f1, f2, f3, f4, f5, f6, f7, f8, f9⟩ := hst
    by_cases ht : M.term > B.term
    · have hs : B.seen M = B.turned M.term (-1) 0 := by unfold BS.seen; rw [if_pos ht]
      rw [hs]
      split
      · exact Keeps.log rfl rfl (Int.le_refl _)
      · refine Keeps.from_ (B1 := B.turned M.term (-1) 0) rfl rfl rfl (fun _ => .inr (does_role rfl M)) ?_
        exact Keeps.does (Inv.turned h (by omega) hz.1) M hz.2
    · have hs : B.seen M = B := by unfold BS.seen; rw [if_neg ht]
      rw [hs]
      split
      · exact Keeps.refl B
      · exact Keeps.does h M hz.2
theorem Keeps.did {B : BS} {z : Int} (h : B.Inv z) (o : OpD) (hz : 0 ≤ z ∧ z ≤ 900000) : Keeps B (B.did o).1 := by
  unfold BS.did
  split
  · exact Keeps.timeout h (by omega)
  · split
    · exact Keeps.refl B
    · split
      · exact Keeps.propose h (by omega) o.a o.b o.text
      · split
        · exact Keeps.take h o.M (by omega)
        · split
          · exact Keeps.cut h o.a o.text
          · exact Keeps.refl B
end Go.Proofs.Ytfpbiecmobdnnaa
