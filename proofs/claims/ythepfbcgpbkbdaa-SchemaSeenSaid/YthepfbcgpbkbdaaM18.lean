/-
  Schemas: what a change makes is small.
  Conditions: none; it proves no statement by itself.
-/
import Derived.Test.YthepfbcgpbkbdaaM17
set_option linter.unusedVariables false
set_option linter.unusedSimpArgs false
set_option maxHeartbeats 1000000
set_option maxRecDepth 100000
namespace Go.Proofs.Ythepfbcgpbkbdaa
open Fw Go

theorem named_sm {t : ByteArray} (h : named t = true) : t.size ≤ 281474976710656 := by
  unfold named at h
  simp only [Bool.and_eq_true, decide_eq_true_eq] at h
  omega
theorem valOk_sm {v : Val} (h : valOk v = true) : v.s.size ≤ 281474976710656 := by
  unfold valOk at h
  split at h
  · simp only [Bool.and_eq_true, decide_eq_true_eq] at h
    rw [h.2]; exact Nat.zero_le _
  · split at h
    · simp only [decide_eq_true_eq] at h
      rw [h]; exact Nat.zero_le _
    · split at h
      · simp only [Bool.and_eq_true, decide_eq_true_eq] at h
        omega
      · cases h
theorem fits_sm {v : Val} {k : Int} (h : fits v k = true) : v.s.size ≤ 281474976710656 := by
  unfold fits at h
  simp only [Bool.and_eq_true] at h
  exact valOk_sm h.1
theorem fresh_sm {t : ByteArray} {n : Int} (h : ¬ (freshE t n ≠ 0)) : t.size ≤ 281474976710656 := by
  refine named_sm ?_
  cases hn : named t
  · exact absurd (by unfold freshE; rw [if_pos hn]; decide) h
  · rfl
theorem placed_mem {α : Type} {l : List α} {k : Nat} {st : Int} {x' y : α} (h : y ∈ placed l k st x') : y ∈ l ∨ y = x' := by
  unfold placed at h
  split at h
  · exact .inl (List.mem_of_mem_eraseIdx h)
  · exact List.mem_or_eq_of_mem_set h
theorem placed_le {α : Type} {l : List α} {k : Nat} {st : Int} {x' : α} : (placed l k st x').length ≤ l.length := placed_len
theorem sum_le {α : Type} {f : α → Nat} {b : Nat} : ∀ (l : List α), (∀ x ∈ l, f x ≤ b) → (l.map f).sum ≤ l.length * b
  | [], _ => by simp
  | x :: l, h => by
    have h1 := h x (by simp)
    have h2 := sum_le l fun y hy => h y (by simp [hy])
    simp only [List.map_cons, List.sum_cons, List.length_cons, Nat.succ_mul]
    omega
theorem sm_of {S : Sch} (h : ∀ T ∈ S.tabs, T.Sm ∧ T.cost ≤ 28) (hl : S.tabs.length ≤ 10) : S.Sm := by
  refine ⟨fun T hT => (h T hT).1, ?_⟩
  have := sum_le (f := Tab.cost) (b := 28) S.tabs fun T hT => (h T hT).2
  unfold Sch.cost
  omega
theorem right_sm {S : Sch} (h : right S = true) : ∀ T ∈ S.tabs, T.Sm ∧ T.cost ≤ 25 ∧ T.cols.length ≤ 8 ∧ T.idxs.length ≤ 8 ∧ T.keys.length ≤ 8 := by
  obtain ⟨a, b, c, d, e⟩ := right_iff.1 h
  intro T hT
  obtain ⟨i, hi⟩ := List.mem_iff_getElem?.1 hT
  obtain ⟨l1, l2, l3, l4, n1, n2, n3, _, c1, _, _⟩ := tabB_iff.1 (allI_iff.1 d i T hi)
  have hn := allI_iff.1 c i T hi
  unfold nameT at hn
  simp only [Bool.and_eq_true] at hn
  refine ⟨⟨named_sm hn.1, fun x hx => ?_, fun x hx => ?_, fun x hx => ?_⟩, by unfold Tab.cost; omega, l2, l3, l4⟩
  · obtain ⟨j, hj⟩ := List.mem_iff_getElem?.1 hx
    have g1 := allI_iff.1 n1 j x hj
    have g2 := allI_iff.1 c1 j x hj
    unfold nameC at g1
    unfold colB at g2
    simp only [Bool.and_eq_true] at g1 g2
    exact ⟨named_sm g1.1, fits_sm g2.2.2⟩
  · obtain ⟨j, hj⟩ := List.mem_iff_getElem?.1 hx
    have g1 := allI_iff.1 n2 j x hj
    unfold nameX at g1
    simp only [Bool.and_eq_true] at g1
    exact named_sm g1.1
  · obtain ⟨j, hj⟩ := List.mem_iff_getElem?.1 hx
    have g1 := allI_iff.1 n3 j x hj
    unfold nameF at g1
    simp only [Bool.and_eq_true] at g1
    exact named_sm g1.1
theorem mkCols_sm : ∀ (l : List Col) (n : Int), (∀ c ∈ l, c.name.size ≤ 281474976710656) → ∀ c ∈ mkCols n l, c.Sm
  | [], n, _ => by simp [mkCols]
  | d :: l, n, h => by
    intro c hc
    simp only [mkCols, List.mem_cons] at hc
    rcases hc with rfl | hc
    · exact ⟨h d (by simp), Nat.zero_le _⟩
    · exact mkCols_sm l _ (fun x hx => h x (by simp [hx])) c hc
def Res.SmOk (r : Res) : Prop := ∀ S', r = .ok S' → S'.Sm
theorem smo_ite {c : Prop} [Decidable c] {a b : Res} (ha : c → a.SmOk) (hb : ¬ c → b.SmOk) : Res.SmOk (if c then a else b) := by
  by_cases h : c
  · rw [if_pos h]; exact ha h
  · rw [if_neg h]; exact hb h
theorem smo_e {e : Int} : Res.SmOk (.error e) := fun S' h' => by cases h'
theorem smo_o {S : Sch} (h : S.Sm) : Res.SmOk (.ok S) := fun e' h' => by cases h'; exact h
theorem set_sm {S : Sch} {v l : Int} {i : Nat} {T T' : Tab} (h : ∀ T ∈ S.tabs, T.Sm ∧ T.cost ≤ 25 ∧ T.cols.length ≤ 8 ∧ T.idxs.length ≤ 8 ∧ T.keys.length ≤ 8) (hl : S.tabs.length ≤ 6) (h1 : T'.Sm) (h2 : T'.cost ≤ 28) : Sch.Sm ⟨v, l, S.tabs.set i T'⟩ := by
  refine sm_of (fun U hU => ?_) (by simp; omega)
  rcases List.mem_or_eq_of_mem_set hU with hU | rfl
  · obtain ⟨a, b, _⟩ := h U hU; exact ⟨a, by omega⟩
  · exact ⟨h1, h2⟩
theorem turn1_sm {S : Sch} {D : Ddl} {st : Int} (h : ∀ T ∈ S.tabs, T.Sm ∧ T.cost ≤ 25 ∧ T.cols.length ≤ 8 ∧ T.idxs.length ≤ 8 ∧ T.keys.length ≤ 8) (hl : S.tabs.length ≤ 6) : (turn1 S D st).SmOk := by
  unfold turn1
  refine smo_ite (fun _ => ?_) fun _ => smo_ite (fun _ => smo_e) fun _ => ?_
  · unfold createTurn
    refine smo_ite (fun _ => smo_e) fun hn => smo_ite (fun _ => smo_e) fun _ => smo_ite (fun _ => smo_e) fun h8 => smo_ite (fun _ => smo_e) fun _ => smo_ite (fun _ => smo_e) fun _ => smo_o ?_
    have hn : (named D.table && D.cols.all fun c => named c.name) = true := by
      cases e : (named D.table && D.cols.all fun c => named c.name)
      · exact absurd e hn
      · rfl
    simp only [Bool.and_eq_true, List.all_eq_true] at hn
    simp only [Bool.or_eq_true, decide_eq_true_eq] at h8
    refine sm_of (fun U hU => ?_) (by simp; omega)
    rcases List.mem_append.1 hU with hU | hU
    · obtain ⟨a, b, _⟩ := h U hU; exact ⟨a, by omega⟩
    · have : U = ⟨S.last + 1, D.table, mkCols (S.last + 2) D.cols, [], []⟩ := by simpa using hU
      subst this
      refine ⟨⟨named_sm hn.1, mkCols_sm _ _ fun c hc => named_sm (hn.2 c hc), by simp, by simp⟩, ?_⟩
      unfold Tab.cost
      simp only [mkCols_len, List.length_nil]
      omega
  split
  · exact smo_e
  rename_i T hT
  obtain ⟨hTs, hTc, c8, x8, k8⟩ := h T (List.mem_of_getElem? hT)
  refine smo_ite (fun _ => ?_) fun _ => smo_ite (fun _ => ?_) fun _ => ?_
  · unfold colTurn
    refine smo_ite (fun _ => smo_ite (fun _ => smo_e) fun hf => smo_ite (fun _ => smo_e) fun hk => smo_ite (fun _ => smo_e) fun _ => smo_o ?_) fun _ => smo_ite (fun _ => smo_e) fun _ => ?_
    · have hk : (typed D.type && fits D.dflt D.type) = true := by
        cases e : (typed D.type && fits D.dflt D.type)
        · exact absurd e hk
        · rfl
      simp only [Bool.and_eq_true] at hk
      refine set_sm (T := T) h hl ⟨hTs.name, fun x hx => ?_, hTs.idxs, hTs.keys⟩ (by unfold Tab.cost; simp only [List.length_append, List.length_singleton]; omega)
      rcases List.mem_append.1 hx with hx | hx
      · exact hTs.cols x hx
      · have : x = ⟨S.last + 1, D.column, D.type, st, D.dflt⟩ := by simpa using hx
        subst this
        exact ⟨fresh_sm hf, fits_sm hk.2⟩
    · split
      · exact smo_e
      rename_i x hx
      refine smo_ite (fun _ => smo_e) fun _ => smo_ite (fun _ => smo_e) fun _ => smo_o ?_
      have hp := placed_le (l := T.cols) (k := (colAt T D.column).toNat) (st := st) (x' := x.put st)
      refine set_sm (T := T) h hl ⟨hTs.name, fun y hy => ?_, hTs.idxs, hTs.keys⟩ (by unfold Tab.cost; dsimp only; omega)
      rcases placed_mem hy with hy | rfl
      · exact hTs.cols y hy
      · exact hTs.cols x (List.mem_of_getElem? hx)
  · unfold idxTurn
    refine smo_ite (fun _ => smo_ite (fun _ => smo_e) fun hf => smo_ite (fun _ => smo_e) fun hk => smo_ite (fun _ => smo_e) fun _ => ?_) fun _ => smo_ite (fun _ => smo_e) fun _ => ?_
    · split
      · exact smo_e
      rename_i c hc
      refine smo_o (set_sm (T := T) h hl ⟨hTs.name, hTs.cols, fun x hx => ?_, hTs.keys⟩ (by unfold Tab.cost; simp only [List.length_append, List.length_singleton]; omega))
      rcases List.mem_append.1 hx with hx | hx
      · exact hTs.idxs x hx
      · have : x = ⟨S.last + 1, D.name, c.id, D.unique, st⟩ := by simpa using hx
        subst this
        exact fresh_sm hf
    · split
      · exact smo_e
      rename_i x hx
      refine smo_ite (fun _ => smo_e) fun _ => smo_o ?_
      have hp := placed_le (l := T.idxs) (k := (idxAt T D.name).toNat) (st := st) (x' := x.put st)
      refine set_sm (T := T) h hl ⟨hTs.name, hTs.cols, fun y hy => ?_, hTs.keys⟩ (by unfold Tab.cost; dsimp only; omega)
      rcases placed_mem hy with hy | rfl
      · exact hTs.idxs y hy
      · exact hTs.idxs x (List.mem_of_getElem? hx)
  · unfold keyTurn
    refine smo_ite (fun _ => smo_ite (fun _ => smo_e) fun hf => smo_ite (fun _ => smo_e) fun hk => smo_ite (fun _ => smo_e) fun _ => ?_) fun _ => smo_ite (fun _ => smo_e) fun _ => ?_
    · split
      · rename_i c P hc hP
        split
        · exact smo_e
        · refine smo_ite (fun _ => smo_e) fun _ => smo_ite (fun _ => smo_e) fun _ => smo_o (set_sm (T := T) h hl ⟨hTs.name, hTs.cols, hTs.idxs, fun x hx => ?_⟩ (by unfold Tab.cost; simp only [List.length_append, List.length_singleton]; omega))
          rcases List.mem_append.1 hx with hx | hx
          · exact hTs.keys x hx
          · have : x = ⟨S.last + 1, D.name, c.id, P.id, st⟩ := by simpa using hx
            subst this
            exact fresh_sm hf
      · exact smo_e
    · split
      · exact smo_e
      rename_i x hx
      refine smo_ite (fun _ => smo_e) fun _ => smo_o ?_
      have hp := placed_le (l := T.keys) (k := (keyAt T D.name).toNat) (st := st) (x' := x.put st)
      refine set_sm (T := T) h hl ⟨hTs.name, hTs.cols, hTs.idxs, fun y hy => ?_⟩ (by unfold Tab.cost; dsimp only; omega)
      rcases placed_mem hy with hy | rfl
      · exact hTs.keys y hy
      · exact hTs.keys x (List.mem_of_getElem? hx)
theorem no_sm : noSch.Sm := ⟨by simp, by simp [Sch.cost]⟩
theorem turn_sm (S : Sch) (D : Ddl) (st : Int) : (S.turn D st).1.Sm := by
  unfold Sch.turn
  by_cases hr : (right S && (decide (0 ≤ st) && decide (st ≤ 3))) = false
  · rw [if_pos hr]; exact no_sm
  rw [if_neg hr]
  have hr : right S = true := by
    cases e : right S
    · rw [e] at hr; exact absurd rfl hr
    · rfl
  split
  · exact no_sm
  · have := turn1_sm (S := { S with version := S.version + 1 }) (D := D) (st := st) (fun T hT => right_sm hr T hT) (right_iff.1 hr).2.1
    cases e : turn1 { S with version := S.version + 1 } D st with
    | error e => exact no_sm
    | ok S' => exact this S' e
theorem Sch.Sm.few {S : Sch} (h : S.Sm) : S.tabs.length ≤ 4294967296 ∧ ∀ T ∈ S.tabs, T.Few := by
  have hc := h.cost
  unfold Sch.cost at hc
  have key : ∀ l : List Tab, l.length ≤ (l.map Tab.cost).sum ∧ ∀ T ∈ l, T.cost ≤ (l.map Tab.cost).sum := by
    intro l
    induction l with
    | nil => simp
    | cons a l ih =>
      simp only [List.map_cons, List.sum_cons, List.length_cons]
      have ha : 1 ≤ a.cost := by unfold Tab.cost; omega
      refine ⟨by have := ih.1; omega, fun T hT => ?_⟩
      rcases List.mem_cons.1 hT with rfl | hT
      · omega
      · have := ih.2 T hT; omega
  obtain ⟨k1, k2⟩ := key S.tabs
  refine ⟨by omega, fun T hT => ?_⟩
  have := k2 T hT
  have hT2 : T.cost = 1 + T.cols.length + T.idxs.length + T.keys.length := rfl
  exact ⟨by omega, by omega, by omega⟩
theorem Has.sm {s : PH} {t : Tri} {ps : List TabP} {S : Sch} (h : Has s t ps) (he : S.tabs = ps.map (·.T)) (hs : S.Sm) : SchIs s t S ps := h.is he hs.few.1 hs.few.2
end Go.Proofs.Ythepfbcgpbkbdaa
