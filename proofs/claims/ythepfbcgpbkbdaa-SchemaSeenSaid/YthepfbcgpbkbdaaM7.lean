/-
  Schemas: the document's Right; the program's Table.
  Conditions: none; it proves no statement by itself.
-/
import Derived.Test.YthepfbcgpbkbdaaM6
import Derived.Test.YthepfbcgpbkbdaaVs3
set_option linter.unusedVariables false
set_option linter.unusedSimpArgs false
set_option maxHeartbeats 2000000
set_option maxRecDepth 100000
namespace Go.Proofs.Ythepfbcgpbkbdaa
open Fw Go
attribute [-simp] Fw.W.ld_iff Fw.W.st_iff

theorem callq {P : Program} {f : FuncId} {args : Array Value} {r : Bool × List Shape} {k : MDen r.2 → W.T} {s : PH} {v0 : Value} (x : MDen r.2) (h : DCalls P f args s fun v s' => v = v0 ∧ s' = s) (hx : mkRes r x = v0) (hk : k x s) : W.call P f args r k s :=
  W.call_of h (by rintro v s' ⟨rfl, rfl⟩; exact ⟨x, hx, hk⟩)
/-- a list of ids that grows -/
structure Ids (s0 s : PH) (a : Option Addr) (n c : Nat) (l : List Int) : Prop where
  row : rowE intE s 3 a n c l
  fr : ∀ g ∈ Fw.blk a, s0 g = none
  md : Fw.Mod [] s0 s
theorem Ids.nil (s : PH) : Ids s s none 0 0 [] := ⟨⟨by simp, Nat.le_refl _, Nat.zero_le _, .inl ⟨rfl, rfl, rfl⟩⟩, by simp [Fw.blk], Mod.refl _ _⟩
theorem Ids.push {s0 s : PH} {a : Option Addr} {n c : Nat} {l : List Int} {x : Int} {K : Option Addr → Nat → Nat → W.T} (h : Ids s0 s a n c l) (hl : l.length ≤ 4294967296)
    (hK : ∀ a' c' s', Ids s0 s' a' (n + 1) c' (l ++ [x]) → K a' (n + 1) c' s') : W.nw (.cells #[.int .i64 x] 3 (0, 0)) (fun r => W.app 3 1 8 [.int .i64 0] a n c (Src.sl (some ⟨r, 0, none⟩) 1) K) s := by
  refine W.nw_of fun r s1 hr m1 k1 => ?_
  have hmax : maxLen = 9223372036854775807 := rfl
  have hn : n = l.length := h.row.len
  have hrow := h.row.mod m1 (by simp)
  refine app_rowE hrow rfl (ys := [x]) (k := 1) ⟨rfl, ?_⟩ rfl rfl (by omega) (by omega) ?_
  · refine has_one ?_
    have := has_block k1 0 (.int .i64 x) (by simp)
    rwa [add_mk, Nat.zero_add] at this
  · intro a' c' s' h' hm
    refine hK a' c' s' ⟨h', ?_, ?_⟩
    · rcases hm with ⟨rfl, _⟩ | ⟨g, rfl, hg, _⟩
      · exact h.fr
      · intro g' hg'
        have : g' = g := by simpa [Fw.blk] using hg'
        subst this
        exact (h.md.trans m1).none hg (by simp)
    · rcases hm with ⟨rfl, hm⟩ | ⟨g, rfl, hg, hm⟩
      · exact (h.md.trans m1).fresh hm fun g hg => .inr (h.fr g hg)
      · exact (h.md.trans m1).trans hm

theorem allI_no {α : Type} {p : Nat → α → Bool} {xs : List α} {i : Nat} {x : α} (h : xs[i]? = some x) (e : p i x = false) : allI p xs = false :=
  upTo_no (k := i) (by rw [condI_at h]; exact e) (List.getElem?_eq_some_iff.1 h).1
theorem allI_iff {α : Type} {p : Nat → α → Bool} {xs : List α} : allI p xs = true ↔ ∀ i x, xs[i]? = some x → p i x = true := by
  unfold allI; rw [upTo_iff]
  constructor
  · intro h i x hx; have := h i (List.getElem?_eq_some_iff.1 hx).1; rwa [condI_at hx] at this
  · intro h i hi
    obtain ⟨x, hx⟩ : ∃ x, xs[i]? = some x := ⟨_, List.getElem?_eq_getElem hi⟩
    rw [condI_at hx]; exact h i x hx
theorem allI_and {α : Type} {p q : Nat → α → Bool} {xs : List α} (h : allI (fun i x => p i x && q i x) xs = true) : allI p xs = true ∧ allI q xs = true := by
  rw [allI_iff] at h
  exact ⟨allI_iff.2 fun i x hx => by have := h i x hx; simp only [Bool.and_eq_true] at this; exact this.1, allI_iff.2 fun i x hx => by have := h i x hx; simp only [Bool.and_eq_true] at this; exact this.2⟩
theorem right_iff {S : Sch} : right S = true ↔ headB S = true ∧ S.tabs.length ≤ 6 ∧ allI (nameT S.tabs) S.tabs = true ∧ allI (fun _ T => tabB S T) S.tabs = true ∧ runIds S.last (S.tabs.flatMap idsOf) [] = true := by
  unfold right namesB
  simp only [Bool.and_eq_true, decide_eq_true_eq]
  constructor
  · rintro ⟨a, ⟨_, b, c⟩, d, e⟩; exact ⟨a, by omega, c, d, e⟩
  · rintro ⟨a, b, c, d, e⟩; exact ⟨a, ⟨by omega, by omega, c⟩, d, e⟩
theorem tabB_iff {S : Sch} {T : Tab} : tabB S T = true ↔ 1 ≤ T.cols.length ∧ T.cols.length ≤ 8 ∧ T.idxs.length ≤ 8 ∧ T.keys.length ≤ 8 ∧ allI (nameC T.cols) T.cols = true ∧ allI (nameX T.idxs) T.idxs = true ∧ allI (nameF T.keys) T.keys = true ∧
    first3 T = true ∧ allI colB T.cols = true ∧ allI (idxB T) T.idxs = true ∧ allI (keyB S T) T.keys = true := by
  unfold tabB namesB
  simp only [Bool.and_eq_true, decide_eq_true_eq]
  constructor
  · rintro ⟨⟨a, b, c⟩, ⟨d, e, f⟩, ⟨g, h, i⟩, j, k, l, m⟩; exact ⟨by omega, by omega, by omega, by omega, c, f, i, j, k, l, m⟩
  · rintro ⟨a, b, c, d, e, f, g, h, i, j, k⟩; exact ⟨⟨by omega, by omega, e⟩, ⟨by omega, by omega, f⟩, ⟨by omega, by omega, g⟩, h, i, j, k⟩
theorem right_no {S : Sch} (h : ¬ right S = true) : right S = false := by cases e : right S with
  | false => rfl
  | true => exact absurd e h
theorem no_tab {S : Sch} {k : Nat} {T : Tab} (h : S.tabs[k]? = some T) (e : ¬ (nameT S.tabs k T = true ∧ tabB S T = true)) : right S = false :=
  right_no fun r => e ⟨allI_iff.1 (right_iff.1 r).2.2.1 k T h, allI_iff.1 (right_iff.1 r).2.2.2.1 k T h⟩
theorem no_col {S : Sch} {T : Tab} {j : Nat} {x : Col} (hx : T.cols[j]? = some x) (e : ¬ (nameC T.cols j x = true ∧ colB j x = true)) : ¬ tabB S T = true := fun r => by
  obtain ⟨_, _, _, _, a, _, _, _, b, _, _⟩ := tabB_iff.1 r
  exact e ⟨allI_iff.1 a j x hx, allI_iff.1 b j x hx⟩
theorem no_idx {S : Sch} {T : Tab} {j : Nat} {x : Idx} (hx : T.idxs[j]? = some x) (e : ¬ (nameX T.idxs j x = true ∧ idxB T j x = true)) : ¬ tabB S T = true := fun r => by
  obtain ⟨_, _, _, _, _, a, _, _, _, b, _⟩ := tabB_iff.1 r
  exact e ⟨allI_iff.1 a j x hx, allI_iff.1 b j x hx⟩
theorem no_key {S : Sch} {T : Tab} {j : Nat} {x : For} (hx : T.keys[j]? = some x) (e : ¬ (nameF T.keys j x = true ∧ keyB S T j x = true)) : ¬ tabB S T = true := fun r => by
  obtain ⟨_, _, _, _, _, _, a, _, _, _, b⟩ := tabB_iff.1 r
  exact e ⟨allI_iff.1 a j x hx, allI_iff.1 b j x hx⟩
theorem runIds_pre {last : Int} {l : List Int} {k : Nat} (h : runIds last l [] = true) : runIds last (l.take k) [] = true := by
  rw [← List.take_append_drop k l, runIds_app] at h
  simp only [Bool.and_eq_true] at h
  exact h.1
theorem up_succ {α : Type} {p : Nat → α → Bool} {xs : List α} {k : Nat} {x : α} (h : upTo (condI p xs) k = true) (hx : xs[k]? = some x) (hp : p k x = true) : upTo (condI p xs) (k + 1) = true := by
  rw [upTo_succ, h, condI_at hx, hp]; rfl
end Go.Proofs.Ythepfbcgpbkbdaa
