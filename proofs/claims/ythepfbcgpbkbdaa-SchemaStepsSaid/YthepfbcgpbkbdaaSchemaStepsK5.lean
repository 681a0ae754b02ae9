/-
  Part 5 for the law: texts of this session's own, those parts that the claim needs, one behind the other.
  Conditions: none; it proves no statement by itself.
-/
import Derived.Test.YthepfbcgpbkbdaaSchemaStepsK4
set_option linter.unusedVariables false
set_option linter.unusedSectionVars false
set_option linter.unusedSimpArgs false
section
set_option linter.unusedVariables false
set_option linter.unusedSimpArgs false
set_option maxHeartbeats 1000000
set_option maxRecDepth 100000
namespace Go.Proofs.Ythepfbcgpbkbdaa
open Fw Go
theorem turn_ok {S S' : Sch} {D : Ddl} {st : Int} (h : S.turn D st = (S', 0)) : right S = true ∧ 0 ≤ st ∧ st ≤ 3 ∧ 1 ≤ D.kind ∧ D.kind ≤ 7 ∧ turn1 { S with version := S.version + 1 } D st = .ok S' := by
  unfold Sch.turn at h
  by_cases hr : (right S && (decide (0 ≤ st) && decide (st ≤ 3))) = false
  · rw [if_pos hr] at h
    have : (100 : Int) = 0 := congrArg Prod.snd h
    omega
  rw [if_neg hr] at h
  by_cases hk : D.kind < 1 ∨ 7 < D.kind
  · rw [if_pos hk] at h
    have : (1 : Int) = 0 := congrArg Prod.snd h
    omega
  rw [if_neg hk] at h
  have hr : (right S && (decide (0 ≤ st) && decide (st ≤ 3))) = true := by
    cases e : (right S && (decide (0 ≤ st) && decide (st ≤ 3)))
    · exact absurd e hr
    · rfl
  simp only [Bool.and_eq_true, decide_eq_true_eq] at hr
  cases e : turn1 { S with version := S.version + 1 } D st with
  | error n =>
    rw [e] at h
    have := congrArg Prod.snd h
    exact absurd this (turn1_err _ _ _ n e)
  | ok S2 =>
    rw [e] at h
    have := congrArg Prod.fst h
    subst this
    exact ⟨hr.1, hr.2.1, hr.2.2, by omega, by omega, rfl⟩
def Res.All (P : Sch → Prop) (r : Res) : Prop := ∀ S', r = .ok S' → P S'
theorem all_ite {P : Sch → Prop} {c : Prop} [Decidable c] {a b : Res} (ha : c → a.All P) (hb : ¬ c → b.All P) : Res.All P (if c then a else b) := by
  by_cases h : c
  · rw [if_pos h]; exact ha h
  · rw [if_neg h]; exact hb h
theorem all_e {P : Sch → Prop} {e : Int} : Res.All P (.error e) := fun S' h' => by cases h'
theorem all_o {P : Sch → Prop} {S : Sch} (h : P S) : Res.All P (.ok S) := fun e' h' => by cases h'; exact h
theorem seek_cons {α : Type} (p : α → Bool) (x : α) (l : List α) (n : Nat) : seek p (x :: l) n = if p x = true then (n : Int) else seek p l (n + 1) := rfl
theorem seek_set {α : Type} {p : α → Bool} {x x' : α} (hp : p x' = p x) : ∀ (l : List α) (i n : Nat), l[i]? = some x → seek p (l.set i x') n = seek p l n
  | [], i, n, h => by simp at h
  | y :: l, 0, n, h => by
    simp at h; subst h
    rw [List.set_cons_zero, seek_cons, seek_cons, hp]
  | y :: l, i + 1, n, h => by
    rw [List.set_cons_succ, seek_cons, seek_cons, seek_set hp l i (n + 1) (by simpa using h)]
/-- what was not there is found behind, once it is put there -/
theorem seek_snoc {α : Type} {p : α → Bool} {x : α} (hx : p x = true) : ∀ (l : List α) (n : Nat), seek p l n = -1 → seek p (l ++ [x]) n = ((n + l.length : Nat) : Int)
  | [], n, _ => by rw [List.nil_append, seek_cons, if_pos hx]; simp
  | y :: l, n, h => by
    rw [seek_cons] at h
    by_cases hy : p y = true
    · rw [if_pos hy] at h; omega
    · rw [if_neg hy] at h
      rw [List.cons_append, seek_cons, if_neg hy, seek_snoc hx l (n + 1) h]
      simp only [List.length_cons]; omega
theorem tabAt_set {S : Sch} {v l : Int} {i : Nat} {T T' : Tab} (hT : S.tabs[i]? = some T) (hn : T'.name = T.name) (name : ByteArray) : tabAt ⟨v, l, S.tabs.set i T'⟩ name = tabAt S name := by
  unfold tabAt
  exact seek_set (p := fun T : Tab => decide (T.name = name)) (by rw [hn]) S.tabs i 0 hT
/-- the table of a change, after it -/
theorem stateOf_set {S : Sch} {D : Ddl} {v l : Int} {i : Nat} {T T' : Tab} (h1 : D.kind ≠ 1) (hi : tabAt S D.table = (i : Int)) (hT : S.tabs[i]? = some T) (hn : T'.name = T.name) :
    stateOf ⟨v, l, S.tabs.set i T'⟩ D = if D.kind = 4 ∨ D.kind = 5 then stC T' D.column else if D.kind = 2 ∨ D.kind = 3 then stX T' D.name else stF T' D.name := by
  have hil := (List.getElem?_eq_some_iff.1 hT).1
  unfold stateOf
  rw [if_neg h1, tabAt_set hT hn, hi, if_neg (by omega)]
  simp only [Int.toNat_natCast, List.getElem?_set_self hil]
theorem stC_app {T : Tab} {name : ByteArray} {x : Col} (h : colAt T name < 0) (hx : x.name = name) : stC { T with cols := T.cols ++ [x] } name = x.state := by
  have h1 : seek (fun c : Col => decide (c.name = name)) T.cols 0 = -1 := by
    rcases seek_cases (fun c : Col => decide (c.name = name)) T.cols with ⟨e, _⟩ | ⟨j, y, e, _⟩
    · exact e
    · have : colAt T name = (j : Int) := e
      omega
  have h2 : colAt { T with cols := T.cols ++ [x] } name = (T.cols.length : Int) := by
    have := seek_snoc (p := fun c : Col => decide (c.name = name)) (x := x) (decide_eq_true hx) T.cols 0 h1
    rw [Nat.zero_add] at this
    exact this
  unfold stC
  rw [h2, if_neg (by omega)]
  simp
theorem stC_set {T : Tab} {name : ByteArray} {j : Nat} {x x' : Col} (h : colAt T name = (j : Int)) (hx : T.cols[j]? = some x) (hn : x'.name = x.name) : stC { T with cols := T.cols.set j x' } name = x'.state := by
  have hj := (List.getElem?_eq_some_iff.1 hx).1
  have h2 : colAt { T with cols := T.cols.set j x' } name = (j : Int) := by
    rw [← h]
    exact seek_set (p := fun c : Col => decide (c.name = name)) (by rw [hn]) T.cols j 0 hx
  unfold stC
  rw [h2, if_neg (by omega)]
  simp only [Int.toNat_natCast, List.getElem?_set_self hj]
theorem stX_app {T : Tab} {name : ByteArray} {x : Idx} (h : idxAt T name < 0) (hx : x.name = name) : stX { T with idxs := T.idxs ++ [x] } name = x.state := by
  have h1 : seek (fun c : Idx => decide (c.name = name)) T.idxs 0 = -1 := by
    rcases seek_cases (fun c : Idx => decide (c.name = name)) T.idxs with ⟨e, _⟩ | ⟨j, y, e, _⟩
    · exact e
    · have : idxAt T name = (j : Int) := e
      omega
  have h2 : idxAt { T with idxs := T.idxs ++ [x] } name = (T.idxs.length : Int) := by
    have := seek_snoc (p := fun c : Idx => decide (c.name = name)) (x := x) (decide_eq_true hx) T.idxs 0 h1
    rw [Nat.zero_add] at this
    exact this
  unfold stX
  rw [h2, if_neg (by omega)]
  simp
theorem stX_set {T : Tab} {name : ByteArray} {j : Nat} {x x' : Idx} (h : idxAt T name = (j : Int)) (hx : T.idxs[j]? = some x) (hn : x'.name = x.name) : stX { T with idxs := T.idxs.set j x' } name = x'.state := by
  have hj := (List.getElem?_eq_some_iff.1 hx).1
  have h2 : idxAt { T with idxs := T.idxs.set j x' } name = (j : Int) := by
    rw [← h]
    exact seek_set (p := fun c : Idx => decide (c.name = name)) (by rw [hn]) T.idxs j 0 hx
  unfold stX
  rw [h2, if_neg (by omega)]
  simp only [Int.toNat_natCast, List.getElem?_set_self hj]
theorem stF_app {T : Tab} {name : ByteArray} {x : For} (h : keyAt T name < 0) (hx : x.name = name) : stF { T with keys := T.keys ++ [x] } name = x.state := by
  have h1 : seek (fun c : For => decide (c.name = name)) T.keys 0 = -1 := by
    rcases seek_cases (fun c : For => decide (c.name = name)) T.keys with ⟨e, _⟩ | ⟨j, y, e, _⟩
    · exact e
    · have : keyAt T name = (j : Int) := e
      omega
  have h2 : keyAt { T with keys := T.keys ++ [x] } name = (T.keys.length : Int) := by
    have := seek_snoc (p := fun c : For => decide (c.name = name)) (x := x) (decide_eq_true hx) T.keys 0 h1
    rw [Nat.zero_add] at this
    exact this
  unfold stF
  rw [h2, if_neg (by omega)]
  simp
theorem stF_set {T : Tab} {name : ByteArray} {j : Nat} {x x' : For} (h : keyAt T name = (j : Int)) (hx : T.keys[j]? = some x) (hn : x'.name = x.name) : stF { T with keys := T.keys.set j x' } name = x'.state := by
  have hj := (List.getElem?_eq_some_iff.1 hx).1
  have h2 : keyAt { T with keys := T.keys.set j x' } name = (j : Int) := by
    rw [← h]
    exact seek_set (p := fun c : For => decide (c.name = name)) (by rw [hn]) T.keys j 0 hx
  unfold stF
  rw [h2, if_neg (by omega)]
  simp only [Int.toNat_natCast, List.getElem?_set_self hj]
/-- names are there once -/
def Once {α : Type} (f : α → ByteArray) (l : List α) : Prop := ∀ (i j : Nat) (x y : α), l[i]? = some x → l[j]? = some y → f x = f y → i = j
theorem once_of {α : Type} {f : α → ByteArray} {l : List α} (h : ∀ (i : Nat) (x : α), l[i]? = some x → seek (fun y : α => decide (f y = f x)) l 0 = (i : Int)) : Once f l := by
  intro i j x y hx hy e
  have h1 := h i x hx
  have h2 := h j y hy
  rw [e] at h1
  rw [h1] at h2
  omega
theorem once_erase {α : Type} {f : α → ByteArray} {l : List α} (h : Once f l) {j : Nat} {x : α} (hx : l[j]? = some x) : seek (fun y : α => decide (f y = f x)) (l.eraseIdx j) 0 = -1 := by
  rcases seek_cases (fun y : α => decide (f y = f x)) (l.eraseIdx j) with ⟨e, _⟩ | ⟨k, y, _, hy, hp, _⟩
  · exact e
  · rw [List.getElem?_eraseIdx] at hy
    have hp : f y = f x := of_decide_eq_true hp
    split at hy
    · have := h k j y x hy hx hp
      omega
    · have := h (k + 1) j y x hy hx hp
      omega
theorem stC_erase {T : Tab} {name : ByteArray} {j : Nat} {x : Col} (ho : Once Col.name T.cols) (hx : T.cols[j]? = some x) (hn : x.name = name) : stC { T with cols := T.cols.eraseIdx j } name = 0 := by
  have h2 : colAt { T with cols := T.cols.eraseIdx j } name = -1 := by
    have := once_erase ho hx
    rw [hn] at this
    exact this
  unfold stC
  rw [h2, if_pos (by omega)]
theorem stX_erase {T : Tab} {name : ByteArray} {j : Nat} {x : Idx} (ho : Once Idx.name T.idxs) (hx : T.idxs[j]? = some x) (hn : x.name = name) : stX { T with idxs := T.idxs.eraseIdx j } name = 0 := by
  have h2 : idxAt { T with idxs := T.idxs.eraseIdx j } name = -1 := by
    have := once_erase ho hx
    rw [hn] at this
    exact this
  unfold stX
  rw [h2, if_pos (by omega)]
theorem stF_erase {T : Tab} {name : ByteArray} {j : Nat} {x : For} (ho : Once For.name T.keys) (hx : T.keys[j]? = some x) (hn : x.name = name) : stF { T with keys := T.keys.eraseIdx j } name = 0 := by
  have h2 : keyAt { T with keys := T.keys.eraseIdx j } name = -1 := by
    have := once_erase ho hx
    rw [hn] at this
    exact this
  unfold stF
  rw [h2, if_pos (by omega)]
theorem stC_placed {T : Tab} {name : ByteArray} {j : Nat} {x : Col} {st : Int} (ho : Once Col.name T.cols) (h : colAt T name = (j : Int)) (hx : T.cols[j]? = some x) (hn : x.name = name) : stC { T with cols := placed T.cols j st (x.put st) } name = st := by
  unfold placed
  by_cases h0 : st = 0
  · rw [if_pos h0, h0]; exact stC_erase ho hx hn
  · rw [if_neg h0]; exact stC_set h hx rfl
theorem stX_placed {T : Tab} {name : ByteArray} {j : Nat} {x : Idx} {st : Int} (ho : Once Idx.name T.idxs) (h : idxAt T name = (j : Int)) (hx : T.idxs[j]? = some x) (hn : x.name = name) : stX { T with idxs := placed T.idxs j st (x.put st) } name = st := by
  unfold placed
  by_cases h0 : st = 0
  · rw [if_pos h0, h0]; exact stX_erase ho hx hn
  · rw [if_neg h0]; exact stX_set h hx rfl
theorem stF_placed {T : Tab} {name : ByteArray} {j : Nat} {x : For} {st : Int} (ho : Once For.name T.keys) (h : keyAt T name = (j : Int)) (hx : T.keys[j]? = some x) (hn : x.name = name) : stF { T with keys := placed T.keys j st (x.put st) } name = st := by
  unfold placed
  by_cases h0 : st = 0
  · rw [if_pos h0, h0]; exact stF_erase ho hx hn
  · rw [if_neg h0]; exact stF_set h hx rfl
end Go.Proofs.Ythepfbcgpbkbdaa
end
section
set_option linter.unusedVariables false
set_option linter.unusedSimpArgs false
set_option maxHeartbeats 1000000
set_option maxRecDepth 100000
namespace Go.Proofs.Ythepfbcgpbkbdaa
open Fw Go
/-- names that may be, each there once -/
def NamesOk {α : Type} (f : α → ByteArray) (l : List α) : Prop := (∀ x ∈ l, named (f x) = true) ∧ (l.map f).Nodup
theorem nod_once {α β : Type} [DecidableEq β] {f : α → β} {l : List α} : (l.map f).Nodup ↔ ∀ (i : Nat) (x : α), l[i]? = some x → seek (fun y : α => decide (f y = f x)) l 0 = (i : Int) := by
  constructor
  · intro h i x hx
    rcases seek_cases (fun y : α => decide (f y = f x)) l with ⟨_, e⟩ | ⟨j, y, e, hy, hp, hmin⟩
    · have := e x (List.mem_of_getElem? hx)
      simp at this
    · rw [e]
      have hp : f y = f x := of_decide_eq_true hp
      obtain ⟨hi1, hi2⟩ := List.getElem?_eq_some_iff.1 hx
      obtain ⟨hj1, hj2⟩ := List.getElem?_eq_some_iff.1 hy
      have := (List.getElem_inj (i := j) (j := i) (h₀ := by simpa using hj1) (h₁ := by simpa using hi1) h).1 (by simp only [List.getElem_map, hi2, hj2, hp])
      omega
  · intro h
    rw [List.Nodup, List.pairwise_iff_getElem]
    intro i j hi hj hij e
    simp only [List.getElem_map] at e
    simp only [List.length_map] at hi hj
    have h1 := h i l[i] (by simp)
    have h2 := h j l[j] (by simp)
    rw [e] at h1
    rw [h1] at h2
    omega
theorem namesC_iff {l : List Col} : allI (nameC l) l = true ↔ NamesOk Col.name l := by
  rw [allI_iff]
  unfold NamesOk
  rw [nod_once]
  constructor
  · intro h
    refine ⟨fun x hx => ?_, fun i x hx => ?_⟩
    · obtain ⟨i, hi⟩ := List.mem_iff_getElem?.1 hx
      have := h i x hi
      unfold nameC at this
      simp only [Bool.and_eq_true, decide_eq_true_eq] at this
      exact this.1
    · have := h i x hx
      unfold nameC at this
      simp only [Bool.and_eq_true, decide_eq_true_eq] at this
      exact this.2
  · rintro ⟨h1, h2⟩ i x hx
    unfold nameC
    simp only [Bool.and_eq_true, decide_eq_true_eq]
    exact ⟨h1 x (List.mem_of_getElem? hx), h2 i x hx⟩
theorem namesX_iff {l : List Idx} : allI (nameX l) l = true ↔ NamesOk Idx.name l := by
  rw [allI_iff]
  unfold NamesOk
  rw [nod_once]
  constructor
  · intro h
    refine ⟨fun x hx => ?_, fun i x hx => ?_⟩
    · obtain ⟨i, hi⟩ := List.mem_iff_getElem?.1 hx
      have := h i x hi
      unfold nameX at this
      simp only [Bool.and_eq_true, decide_eq_true_eq] at this
      exact this.1
    · have := h i x hx
      unfold nameX at this
      simp only [Bool.and_eq_true, decide_eq_true_eq] at this
      exact this.2
  · rintro ⟨h1, h2⟩ i x hx
    unfold nameX
    simp only [Bool.and_eq_true, decide_eq_true_eq]
    exact ⟨h1 x (List.mem_of_getElem? hx), h2 i x hx⟩
theorem namesF_iff {l : List For} : allI (nameF l) l = true ↔ NamesOk For.name l := by
  rw [allI_iff]
  unfold NamesOk
  rw [nod_once]
  constructor
  · intro h
    refine ⟨fun x hx => ?_, fun i x hx => ?_⟩
    · obtain ⟨i, hi⟩ := List.mem_iff_getElem?.1 hx
      have := h i x hi
      unfold nameF at this
      simp only [Bool.and_eq_true, decide_eq_true_eq] at this
      exact this.1
    · have := h i x hx
      unfold nameF at this
      simp only [Bool.and_eq_true, decide_eq_true_eq] at this
      exact this.2
  · rintro ⟨h1, h2⟩ i x hx
    unfold nameF
    simp only [Bool.and_eq_true, decide_eq_true_eq]
    exact ⟨h1 x (List.mem_of_getElem? hx), h2 i x hx⟩
theorem namesT_iff {l : List Tab} : allI (nameT l) l = true ↔ NamesOk Tab.name l := by
  rw [allI_iff]
  unfold NamesOk
  rw [nod_once]
  constructor
  · intro h
    refine ⟨fun x hx => ?_, fun i x hx => ?_⟩
    · obtain ⟨i, hi⟩ := List.mem_iff_getElem?.1 hx
      have := h i x hi
      unfold nameT at this
      simp only [Bool.and_eq_true, decide_eq_true_eq] at this
      exact this.1
    · have := h i x hx
      unfold nameT at this
      simp only [Bool.and_eq_true, decide_eq_true_eq] at this
      exact this.2
  · rintro ⟨h1, h2⟩ i x hx
    unfold nameT
    simp only [Bool.and_eq_true, decide_eq_true_eq]
    exact ⟨h1 x (List.mem_of_getElem? hx), h2 i x hx⟩
theorem runIds_iff (last : Int) : ∀ (l seen : List Int), runIds last l seen = true ↔ (∀ n ∈ l, 1 ≤ n ∧ n ≤ last ∧ n ∉ seen) ∧ l.Nodup
  | [], seen => by simp [runIds]
  | n :: l, seen => by
    simp only [runIds, Bool.and_eq_true, decide_eq_true_eq, Bool.not_eq_true', decide_eq_false_iff_not, runIds_iff last l, List.nodup_cons, List.mem_cons]
    constructor
    · rintro ⟨⟨a, b⟩, c, d, e⟩
      refine ⟨?_, fun hn => (d n hn).2.2 (.inl rfl), e⟩
      rintro m (rfl | hm)
      · exact ⟨a, b, c⟩
      · exact ⟨(d m hm).1, (d m hm).2.1, fun h => (d m hm).2.2 (.inr h)⟩
    · rintro ⟨a, b, c⟩
      refine ⟨⟨(a n (.inl rfl)).1, (a n (.inl rfl)).2.1⟩, (a n (.inl rfl)).2.2, fun m hm => ⟨(a m (.inr hm)).1, (a m (.inr hm)).2.1, ?_⟩, c⟩
      rintro (rfl | h)
      · exact b hm
      · exact (a m (.inr hm)).2.2 h
/-- the kind of a table's first column -/
def hk (T : Tab) : Option Int := T.cols.head?.map (·.kind)
def StOk (n : Int) : Prop := 1 ≤ n ∧ n ≤ 3
theorem stateB_iff {n : Int} : stateB n = true ↔ StOk n := by unfold stateB StOk; simp
structure ColOk (c : Col) : Prop where
  st : StOk c.state
  ty : typed c.kind = true
  fi : fits c.dflt c.kind = true
def KeyOk (tabs : List Tab) (T : Tab) (x : For) : Prop := StOk x.state ∧ ∃ c ∈ T.cols, c.id = x.column ∧ ∃ P ∈ tabs, P.id = x.parent ∧ hk P = some c.kind
structure TabOk (tabs : List Tab) (T : Tab) : Prop where
  c1 : 1 ≤ T.cols.length
  c8 : T.cols.length ≤ 8
  x8 : T.idxs.length ≤ 8
  k8 : T.keys.length ≤ 8
  nc : NamesOk Col.name T.cols
  nx : NamesOk Idx.name T.idxs
  nk : NamesOk For.name T.keys
  first : ∀ c, T.cols.head? = some c → c.state = 3
  cs : ∀ c ∈ T.cols, ColOk c
  xs : ∀ x ∈ T.idxs, StOk x.state ∧ ∃ c ∈ T.cols, c.id = x.column
  ks : ∀ x ∈ T.keys, KeyOk tabs T x
structure SchOk (S : Sch) : Prop where
  v0 : 0 ≤ S.version
  v1 : S.version ≤ 1125899906842624
  l0 : 0 ≤ S.last
  l1 : S.last ≤ 1125899906842624
  few : S.tabs.length ≤ 6
  nt : NamesOk Tab.name S.tabs
  ts : ∀ T ∈ S.tabs, TabOk S.tabs T
  ids : ∀ n ∈ S.tabs.flatMap idsOf, 1 ≤ n ∧ n ≤ S.last
  nod : (S.tabs.flatMap idsOf).Nodup
theorem nod_of_flat {α : Type} {f : Tab → List Int} {l : List Tab} (h : (l.flatMap f).Nodup) {T : Tab} (hT : T ∈ l) : (f T).Nodup := by
  obtain ⟨a, b, rfl⟩ := List.append_of_mem hT
  simp only [List.flatMap_append, List.flatMap_cons, List.nodup_append] at h
  exact h.2.1.1
theorem ids_inj {tabs : List Tab} (h : (tabs.flatMap idsOf).Nodup) {T : Tab} (hT : T ∈ tabs) : (T.cols.map (·.id)).Nodup := by
  have := nod_of_flat (α := Nat) h hT
  unfold idsOf at this
  simp only [List.nodup_cons, List.nodup_append] at this
  exact this.2.1
theorem tabs_inj {tabs : List Tab} (h : (tabs.flatMap idsOf).Nodup) : (tabs.map (·.id)).Nodup := by
  refine List.Nodup.sublist ?_ h
  clear h
  induction tabs with
  | nil => simp
  | cons T l ih =>
    simp only [List.map_cons, List.flatMap_cons]
    unfold idsOf
    simp only [List.cons_append]
    refine List.Sublist.cons_cons _ ?_
    exact List.Sublist.trans ih (List.sublist_append_right _ _)
theorem at_id {α : Type} {f : α → Int} {l : List α} (h : (l.map f).Nodup) {x : α} (hx : x ∈ l) : ∃ i : Nat, seek (fun y : α => decide (f y = f x)) l 0 = (i : Int) ∧ l[i]? = some x := by
  obtain ⟨i, hi⟩ := List.mem_iff_getElem?.1 hx
  exact ⟨i, nod_once.1 h i x hi, hi⟩
theorem keyB_ok {S : Sch} {T : Tab} {i : Nat} {x : For} (hn : (S.tabs.flatMap idsOf).Nodup) (hT : T ∈ S.tabs) : keyB S T i x = true ↔ KeyOk S.tabs T x := by
  unfold keyB KeyOk
  simp only [Bool.and_eq_true, decide_eq_true_eq, stateB_iff]
  constructor
  · rintro ⟨a, b, c, d⟩
    refine ⟨a, ?_⟩
    unfold colOf at b
    unfold tabOf at c
    obtain ⟨j, y, hj, hy, hp, _⟩ := (seek_cases (fun y : Col => decide (y.id = x.column)) T.cols).resolve_left (fun e => by have := e.1; omega)
    obtain ⟨k, P, hk', hP, hpp, _⟩ := (seek_cases (fun y : Tab => decide (y.id = x.parent)) S.tabs).resolve_left (fun e => by have := e.1; omega)
    refine ⟨y, List.mem_of_getElem? hy, of_decide_eq_true hp, P, List.mem_of_getElem? hP, of_decide_eq_true hpp, ?_⟩
    unfold parB tabOf colOf at d
    rw [hj, hk'] at d
    simp only [Int.toNat_natCast, hP, hy] at d
    unfold hk
    split at d
    · rename_i c0 r e
      rw [e]
      simp only [List.head?_cons, Option.map_some]
      rw [of_decide_eq_true d]
    · cases d
  · rintro ⟨a, c, hc, e1, P, hP, e2, hh⟩
    obtain ⟨j, hj, hjc⟩ := at_id (f := fun c : Col => c.id) (ids_inj hn hT) hc
    obtain ⟨k, hk', hkP⟩ := at_id (f := fun c : Tab => c.id) (tabs_inj hn) hP
    rw [e1] at hj
    rw [e2] at hk'
    have h1 : colOf T x.column = (j : Int) := hj
    have h2 : tabOf S x.parent = (k : Int) := hk'
    refine ⟨a, by omega, by omega, ?_⟩
    unfold parB
    rw [h1, h2]
    simp only [Int.toNat_natCast, hjc, hkP]
    unfold hk at hh
    cases e : P.cols with
    | nil => rw [e] at hh; cases hh
    | cons c0 r =>
      rw [e] at hh
      simp only [List.head?_cons, Option.map_some, Option.some.injEq] at hh
      simp [hh]
theorem idxB_ok {T : Tab} {i : Nat} {x : Idx} : idxB T i x = true ↔ StOk x.state ∧ ∃ c ∈ T.cols, c.id = x.column := by
  unfold idxB
  simp only [Bool.and_eq_true, decide_eq_true_eq, stateB_iff]
  unfold colOf
  rcases seek_cases (fun y : Col => decide (y.id = x.column)) T.cols with ⟨e, h⟩ | ⟨j, y, e, hy, hp, _⟩
  · rw [e]
    constructor
    · rintro ⟨_, b⟩; omega
    · rintro ⟨_, c, hc, e2⟩
      have := h c hc
      simp [e2] at this
  · rw [e]
    constructor
    · rintro ⟨a, _⟩; exact ⟨a, y, List.mem_of_getElem? hy, of_decide_eq_true hp⟩
    · rintro ⟨a, _⟩; exact ⟨a, by omega⟩
theorem colB_ok {i : Nat} {c : Col} : colB i c = true ↔ ColOk c := by
  unfold colB
  simp only [Bool.and_eq_true, stateB_iff]
  exact ⟨fun ⟨a, b, c⟩ => ⟨a, b, c⟩, fun h => ⟨h.st, h.ty, h.fi⟩⟩
theorem allI_mem {α : Type} {p : Nat → α → Bool} {Q : α → Prop} {xs : List α} (h : ∀ i, ∀ x ∈ xs, (p i x = true ↔ Q x)) : allI p xs = true ↔ ∀ x ∈ xs, Q x := by
  rw [allI_iff]
  constructor
  · intro g x hx
    obtain ⟨i, hi⟩ := List.mem_iff_getElem?.1 hx
    exact (h i x hx).1 (g i x hi)
  · intro g i x hi
    exact (h i x (List.mem_of_getElem? hi)).2 (g x (List.mem_of_getElem? hi))
theorem tabB_ok {S : Sch} {T : Tab} (hn : (S.tabs.flatMap idsOf).Nodup) (hT : T ∈ S.tabs) : tabB S T = true ↔ TabOk S.tabs T := by
  rw [tabB_iff, namesC_iff, namesX_iff, namesF_iff, allI_mem (Q := ColOk) (fun i x _ => colB_ok), allI_mem (Q := fun x : Idx => StOk x.state ∧ ∃ c ∈ T.cols, c.id = x.column) (fun i x _ => idxB_ok), allI_mem (Q := KeyOk S.tabs T) (fun i x _ => keyB_ok hn hT)]
  have hf : 1 ≤ T.cols.length → (first3 T = true ↔ ∀ c, T.cols.head? = some c → c.state = 3) := by
    intro h1
    unfold first3
    cases e : T.cols with
    | nil => rw [e] at h1; simp at h1
    | cons c r => simp
  constructor
  · rintro ⟨a, b, c, d, e, f, g, h, i, j, k⟩
    exact ⟨a, b, c, d, e, f, g, (hf a).1 h, i, j, k⟩
  · rintro ⟨a, b, c, d, e, f, g, h, i, j, k⟩
    exact ⟨a, b, c, d, e, f, g, (hf a).2 h, i, j, k⟩
theorem right_ok {S : Sch} : right S = true ↔ SchOk S := by
  rw [right_iff, namesT_iff, runIds_iff]
  have h0 : headB S = true ↔ 0 ≤ S.version ∧ S.version ≤ 1125899906842624 ∧ 0 ≤ S.last ∧ S.last ≤ 1125899906842624 := by
    unfold headB; simp only [Bool.and_eq_true, decide_eq_true_eq]
  rw [h0]
  constructor
  · rintro ⟨⟨a, b, c, d⟩, e, f, g, h, i⟩
    refine ⟨a, b, c, d, e, f, (allI_mem (p := fun _ T => tabB S T) (Q := TabOk S.tabs) (xs := S.tabs) (fun _ T hT => tabB_ok i hT)).1 g, fun n hn => ⟨(h n hn).1, (h n hn).2.1⟩, i⟩
  · rintro ⟨a, b, c, d, e, f, g, h, i⟩
    exact ⟨⟨a, b, c, d⟩, e, f, (allI_mem (p := fun _ T => tabB S T) (Q := TabOk S.tabs) (xs := S.tabs) (fun _ T hT => tabB_ok i hT)).2 g, fun n hn => ⟨(h n hn).1, (h n hn).2, by simp⟩, i⟩
end Go.Proofs.Ythepfbcgpbkbdaa
end
section
set_option linter.unusedVariables false
set_option linter.unusedSimpArgs false
set_option maxHeartbeats 1000000
set_option maxRecDepth 100000
namespace Go.Proofs.Ythepfbcgpbkbdaa
open Fw Go
theorem split_get {α : Type} {l : List α} {i : Nat} {x : α} (h : l[i]? = some x) : ∃ a b, l = a ++ x :: b ∧ a.length = i := by
  have hi := (List.getElem?_eq_some_iff.1 h).1
  exact ⟨l.take i, l.drop (i + 1), by rw [← drop_some h, List.take_append_drop], by simp; omega⟩
theorem set_mid {α : Type} (a b : List α) (x y : α) : (a ++ x :: b).set a.length y = a ++ y :: b := by simp
theorem KeyOk.put {a b : List Tab} {T T' U : Tab} {x : For} (h : KeyOk (a ++ T :: b) U x) (hid : T'.id = T.id) (hh : hk T' = hk T) : KeyOk (a ++ T' :: b) U x := by
  obtain ⟨h1, c, hc, e1, P, hP, e2, e3⟩ := h
  refine ⟨h1, c, hc, e1, ?_⟩
  simp only [List.mem_append, List.mem_cons] at hP
  rcases hP with hP | rfl | hP
  · exact ⟨P, by simp [hP], e2, e3⟩
  · exact ⟨T', by simp, by rw [hid, e2], by rw [hh, e3]⟩
  · exact ⟨P, by simp [hP], e2, e3⟩
theorem TabOk.put {a b : List Tab} {T T' U : Tab} (h : TabOk (a ++ T :: b) U) (hid : T'.id = T.id) (hh : hk T' = hk T) : TabOk (a ++ T' :: b) U :=
  { h with ks := fun x hx => (h.ks x hx).put hid hh }
theorem ok_put {S : Sch} (h : SchOk S) {a b : List Tab} {T T' : Tab} (e : S.tabs = a ++ T :: b) {v l : Int} (hv0 : 0 ≤ v) (hv1 : v ≤ 1125899906842624) (hl : S.last ≤ l) (hl1 : l ≤ 1125899906842624) (hid : T'.id = T.id) (hn : T'.name = T.name) (hh : hk T' = hk T)
    (hT : TabOk (a ++ T' :: b) T') (hi : ∀ n ∈ idsOf T', n ∈ idsOf T ∨ (S.last < n ∧ n ≤ l)) (hd : (idsOf T').Nodup) : SchOk ⟨v, l, a ++ T' :: b⟩ := by
  have ids := h.ids
  have nod := h.nod
  have nt := h.nt
  have ts := h.ts
  have l0 := h.l0
  have few := h.few
  rw [e] at ids nod nt ts few
  refine ⟨hv0, hv1, by show 0 ≤ l; omega, hl1, by simpa using few, ⟨?_, ?_⟩, ?_, ?_, ?_⟩
  · intro x hx
    simp only [List.mem_append, List.mem_cons] at hx
    rcases hx with hx | rfl | hx
    · exact nt.1 x (by simp [hx])
    · rw [hn]; exact nt.1 T (by simp)
    · exact nt.1 x (by simp [hx])
  · have := nt.2
    simp only [List.map_append, List.map_cons] at this ⊢
    rw [hn]; exact this
  · intro U hU
    simp only [List.mem_append, List.mem_cons] at hU
    rcases hU with hU | rfl | hU
    · exact (ts U (by simp [hU])).put hid hh
    · exact hT
    · exact (ts U (by simp [hU])).put hid hh
  · intro n hn
    simp only [List.flatMap_append, List.flatMap_cons, List.mem_append] at hn ids
    rcases hn with hn | hn | hn
    · have := ids n (.inl hn); exact ⟨this.1, by show n ≤ l; omega⟩
    · rcases hi n hn with hn | hn
      · have := ids n (.inr (.inl hn)); exact ⟨this.1, by show n ≤ l; omega⟩
      · exact ⟨by omega, hn.2⟩
    · have := ids n (.inr (.inr hn)); exact ⟨this.1, by show n ≤ l; omega⟩
  · simp only [List.flatMap_append, List.flatMap_cons, List.mem_append, List.nodup_append] at ids nod ⊢
    obtain ⟨n1, ⟨n2, n3, n4⟩, n5⟩ := nod
    refine ⟨n1, ⟨hd, n3, ?_⟩, ?_⟩
    · intro x hx y hy
      rcases hi x hx with hx | hx
      · exact n4 x hx y hy
      · have := ids y (.inr (.inr hy)); omega
    · intro x hx y hy
      rcases hy with hy | hy
      · rcases hi y hy with hy | hy
        · exact n5 x hx y (.inl hy)
        · have := ids x (.inl hx); omega
      · exact n5 x hx y (.inr hy)
theorem nod_ids {S : Sch} (h : SchOk S) {T : Tab} (hT : T ∈ S.tabs) : (idsOf T).Nodup ∧ ∀ n ∈ idsOf T, n ≤ S.last :=
  ⟨nod_of_flat (α := Nat) h.nod hT, fun n hn => (h.ids n (List.mem_flatMap.2 ⟨T, hT, hn⟩)).2⟩
section
variable {S : Sch} (h : SchOk S) {a b : List Tab} {T : Tab} (e : S.tabs = a ++ T :: b) {v l : Int} (hv0 : 0 ≤ v) (hv1 : v ≤ 1125899906842624) (hl : S.last ≤ l) (hl1 : l ≤ 1125899906842624)
include h e hv0 hv1 hl hl1
theorem ok_cols {cs : List Col} (h8 : cs.length ≤ 8) (nc : NamesOk Col.name cs) (hd : cs.head? = T.cols.head?) (hc : ∀ c ∈ cs, ColOk c) (keep : ∀ c ∈ T.cols, ((∃ x ∈ T.idxs, x.column = c.id) ∨ (∃ x ∈ T.keys, x.column = c.id)) → ∃ c' ∈ cs, c'.id = c.id ∧ c'.kind = c.kind)
    (hi : ∀ n ∈ cs.map (·.id), n ∈ T.cols.map (·.id) ∨ (S.last < n ∧ n ≤ l)) (hn : (cs.map (·.id)).Nodup) : SchOk ⟨v, l, a ++ { T with cols := cs } :: b⟩ := by
  have hT : T ∈ S.tabs := by rw [e]; simp
  have ht := h.ts T hT
  rw [e] at ht
  have hh : hk { T with cols := cs } = hk T := by unfold hk; dsimp only; rw [hd]
  obtain ⟨n1, n2⟩ := nod_ids h hT
  refine ok_put h e (T' := { T with cols := cs }) hv0 hv1 hl hl1 rfl rfl hh ?_ ?_ ?_
  · have ht' := ht.put (T' := { T with cols := cs }) rfl hh
    refine ⟨?_, h8, ht.x8, ht.k8, nc, ht.nx, ht.nk, ?_, hc, ?_, ?_⟩
    · have := ht.c1
      dsimp only
      cases cs with
      | nil =>
        cases e2 : T.cols with
        | nil => rw [e2] at this; simp at this
        | cons c r => rw [e2] at hd; simp at hd
      | cons c r => simp
    · intro c hcc; dsimp only at hcc; rw [hd] at hcc; exact ht.first c hcc
    · intro x hx
      obtain ⟨h1, c, hc1, e1⟩ := ht.xs x hx
      obtain ⟨c', hc', e2, _⟩ := keep c hc1 (.inl ⟨x, hx, e1.symm⟩)
      exact ⟨h1, c', hc', by rw [e2, e1]⟩
    · intro x hx
      obtain ⟨h1, c, hc1, e1, P, hP, e2, e3⟩ := ht'.ks x hx
      obtain ⟨c', hc', e4, e5⟩ := keep c hc1 (.inr ⟨x, hx, e1.symm⟩)
      exact ⟨h1, c', hc', by rw [e4, e1], P, hP, e2, by rw [e3, e5]⟩
  · intro n hnn
    unfold idsOf at hnn ⊢
    simp only [List.mem_cons, List.mem_append] at hnn ⊢
    rcases hnn with hnn | hnn | hnn
    · exact .inl (.inl hnn)
    · rcases hi n hnn with g | g
      · exact .inl (.inr (.inl g))
      · exact .inr g
    · exact .inl (.inr (.inr hnn))
  · unfold idsOf at n1 n2 ⊢
    simp only [List.mem_cons, List.mem_append] at n2
    simp only [List.nodup_cons, List.nodup_append, List.mem_append] at n1 ⊢
    obtain ⟨m1, m2, ⟨m3, m4, m5⟩, m6⟩ := n1
    refine ⟨?_, hn, ⟨m3, m4, m5⟩, ?_⟩
    · rintro (g | g)
      · rcases hi _ g with g | g
        · exact m1 (.inl g)
        · have := n2 T.id (.inl rfl); omega
      · exact m1 (.inr g)
    · intro x hx y hy
      rcases hi x hx with g | g
      · exact m6 x g y hy
      · have := n2 y (.inr (.inr hy)); omega
theorem ok_idxs {xs : List Idx} (h8 : xs.length ≤ 8) (nx : NamesOk Idx.name xs) (hx : ∀ x ∈ xs, StOk x.state ∧ ∃ c ∈ T.cols, c.id = x.column)
    (hi : ∀ n ∈ xs.map (·.id), n ∈ T.idxs.map (·.id) ∨ (S.last < n ∧ n ≤ l)) (hn : (xs.map (·.id)).Nodup) : SchOk ⟨v, l, a ++ { T with idxs := xs } :: b⟩ := by
  have hT : T ∈ S.tabs := by rw [e]; simp
  have ht := h.ts T hT
  rw [e] at ht
  obtain ⟨n1, n2⟩ := nod_ids h hT
  refine ok_put h e (T' := { T with idxs := xs }) hv0 hv1 hl hl1 rfl rfl rfl ?_ ?_ ?_
  · have ht' := ht.put (T' := { T with idxs := xs }) rfl rfl
    exact ⟨ht.c1, ht.c8, h8, ht.k8, ht.nc, nx, ht.nk, ht.first, ht.cs, hx, ht'.ks⟩
  · intro n hnn
    unfold idsOf at hnn ⊢
    simp only [List.mem_cons, List.mem_append] at hnn ⊢
    rcases hnn with hnn | hnn | hnn | hnn
    · exact .inl (.inl hnn)
    · exact .inl (.inr (.inl hnn))
    · rcases hi n hnn with g | g
      · exact .inl (.inr (.inr (.inl g)))
      · exact .inr g
    · exact .inl (.inr (.inr (.inr hnn)))
  · unfold idsOf at n1 n2 ⊢
    simp only [List.mem_cons, List.mem_append] at n2
    simp only [List.nodup_cons, List.nodup_append, List.mem_append] at n1 ⊢
    obtain ⟨m1, m2, ⟨m3, m4, m5⟩, m6⟩ := n1
    refine ⟨?_, m2, ⟨hn, m4, ?_⟩, ?_⟩
    · rintro (g | g | g)
      · exact m1 (.inl g)
      · rcases hi _ g with g | g
        · exact m1 (.inr (.inl g))
        · have := n2 T.id (.inl rfl); omega
      · exact m1 (.inr (.inr g))
    · intro x hx y hy
      rcases hi x hx with g | g
      · exact m5 x g y hy
      · have := n2 y (.inr (.inr (.inr hy))); omega
    · intro x hx y hy
      rcases hy with hy | hy
      · rcases hi y hy with g | g
        · exact m6 x hx y (.inl g)
        · have := n2 x (.inr (.inl hx)); omega
      · exact m6 x hx y (.inr hy)
theorem ok_keys {xs : List For} (h8 : xs.length ≤ 8) (nx : NamesOk For.name xs) (hx : ∀ x ∈ xs, KeyOk S.tabs T x)
    (hi : ∀ n ∈ xs.map (·.id), n ∈ T.keys.map (·.id) ∨ (S.last < n ∧ n ≤ l)) (hn : (xs.map (·.id)).Nodup) : SchOk ⟨v, l, a ++ { T with keys := xs } :: b⟩ := by
  have hT : T ∈ S.tabs := by rw [e]; simp
  have ht := h.ts T hT
  rw [e] at ht hx
  obtain ⟨n1, n2⟩ := nod_ids h hT
  refine ok_put h e (T' := { T with keys := xs }) hv0 hv1 hl hl1 rfl rfl rfl ?_ ?_ ?_
  · refine ⟨ht.c1, ht.c8, ht.x8, h8, ht.nc, ht.nx, nx, ht.first, ht.cs, ht.xs, fun x hxx => ?_⟩
    have := (hx x hxx).put (T' := { T with keys := xs }) rfl rfl
    exact this
  · intro n hnn
    unfold idsOf at hnn ⊢
    simp only [List.mem_cons, List.mem_append] at hnn ⊢
    rcases hnn with hnn | hnn | hnn | hnn
    · exact .inl (.inl hnn)
    · exact .inl (.inr (.inl hnn))
    · exact .inl (.inr (.inr (.inl hnn)))
    · rcases hi n hnn with g | g
      · exact .inl (.inr (.inr (.inr g)))
      · exact .inr g
  · unfold idsOf at n1 n2 ⊢
    simp only [List.mem_cons, List.mem_append] at n2
    simp only [List.nodup_cons, List.nodup_append, List.mem_append] at n1 ⊢
    obtain ⟨m1, m2, ⟨m3, m4, m5⟩, m6⟩ := n1
    refine ⟨?_, m2, ⟨m3, hn, ?_⟩, ?_⟩
    · rintro (g | g | g)
      · exact m1 (.inl g)
      · exact m1 (.inr (.inl g))
      · rcases hi _ g with g | g
        · exact m1 (.inr (.inr g))
        · have := n2 T.id (.inl rfl); omega
    · intro x hx y hy
      rcases hi y hy with g | g
      · exact m5 x hx y g
      · have := n2 x (.inr (.inr (.inl hx))); omega
    · intro x hx y hy
      rcases hy with hy | hy
      · exact m6 x hx y (.inl hy)
      · rcases hi y hy with g | g
        · exact m6 x hx y (.inr g)
        · have := n2 x (.inr (.inl hx)); omega
end
theorem placed_in {α : Type} {l : List α} {j : Nat} {st : Int} {x' y : α} (h : y ∈ placed l j st x') : y ∈ l ∨ (st ≠ 0 ∧ y = x') := by
  unfold placed at h
  split at h
  · exact .inl (List.mem_of_mem_eraseIdx h)
  · rename_i h0
    rcases List.mem_or_eq_of_mem_set h with h | h
    · exact .inl h
    · exact .inr ⟨h0, h⟩
theorem set_same {α : Type} : ∀ {l : List α} {j : Nat} {x : α}, l[j]? = some x → l.set j x = l
  | [], _, _, h => by simp at h
  | y :: l, 0, x, h => by simp at h; simp [h]
  | y :: l, j + 1, x, h => by simp only [List.set_cons_succ]; rw [set_same (by simpa using h)]
theorem placed_sub {α β : Type} {f : α → β} {l : List α} {j : Nat} {st : Int} {x x' : α} (hx : l[j]? = some x) (hf : f x' = f x) : ((placed l j st x').map f).Sublist (l.map f) := by
  unfold placed
  split
  · exact (List.eraseIdx_sublist l j).map f
  · rw [List.map_set, hf, set_same (by rw [List.getElem?_map, hx]; (first | done | rfl))]
    exact List.Sublist.refl _
theorem placed_head {α : Type} {l : List α} {j : Nat} {st : Int} {x' : α} (hj : j ≠ 0) : (placed l j st x').head? = l.head? := by
  unfold placed
  obtain ⟨k, rfl⟩ : ∃ k, j = k + 1 := ⟨j - 1, by omega⟩
  split <;> cases l <;> simp
theorem placed_keep {α β : Type} {g : α → β} {l : List α} {j : Nat} {st : Int} {x x' c : α} (hx : l[j]? = some x) (hg : g x' = g x) (hc : c ∈ l) (h0 : st = 0 → g c ≠ g x) : ∃ c' ∈ placed l j st x', g c' = g c := by
  obtain ⟨k, hk⟩ := List.mem_iff_getElem?.1 hc
  have hj := (List.getElem?_eq_some_iff.1 hx).1
  unfold placed
  by_cases hs : st = 0
  · rw [if_pos hs]
    have hne : k ≠ j := by
      rintro rfl
      rw [hk] at hx
      cases hx
      exact h0 hs rfl
    exact ⟨c, List.mem_eraseIdx_iff_getElem?.2 ⟨k, hne, hk⟩, rfl⟩
  · rw [if_neg hs]
    by_cases hne : k = j
    · subst hne
      rw [hk] at hx
      cases hx
      exact ⟨x', List.mem_of_getElem? (List.getElem?_set_self hj), hg⟩
    · exact ⟨c, List.mem_of_getElem? (by rw [List.getElem?_set_ne (Ne.symm hne)]; exact hk), rfl⟩
theorem NamesOk.placed {α : Type} {f : α → ByteArray} {l : List α} {j : Nat} {st : Int} {x x' : α} (h : NamesOk f l) (hx : l[j]? = some x) (hf : f x' = f x) : NamesOk f (placed l j st x') := by
  refine ⟨fun y hy => ?_, List.Nodup.sublist (placed_sub hx hf) h.2⟩
  rcases placed_in hy with hy | ⟨_, rfl⟩
  · exact h.1 y hy
  · rw [hf]; exact h.1 x (List.mem_of_getElem? hx)
theorem NamesOk.app {α : Type} {f : α → ByteArray} {l : List α} {x : α} (h : NamesOk f l) (hn : named (f x) = true) (hx : ∀ y ∈ l, f y ≠ f x) : NamesOk f (l ++ [x]) := by
  refine ⟨fun y hy => ?_, ?_⟩
  · rcases List.mem_append.1 hy with hy | hy
    · exact h.1 y hy
    · have : y = x := by simpa using hy
      subst this; exact hn
  · rw [List.map_append, List.nodup_append]
    refine ⟨h.2, by simp, ?_⟩
    intro u hu w hw
    obtain ⟨y, hy, rfl⟩ := List.mem_map.1 hu
    have : w = f x := by simpa using hw
    subst this
    exact hx y hy
theorem no_name {α : Type} {f : α → ByteArray} {l : List α} {name : ByteArray} (h : seek (fun y : α => decide (f y = name)) l 0 < 0) : ∀ y ∈ l, f y ≠ name := by
  rcases seek_cases (fun y : α => decide (f y = name)) l with ⟨_, e⟩ | ⟨j, y, e, _⟩
  · intro y hy; have := e y hy; simpa using this
  · omega
theorem fresh_ok {name : ByteArray} {n : Int} (h : freshE name n = 0) : named name = true ∧ n < 8 := by
  unfold freshE at h
  split at h
  · omega
  · rename_i h1
    split at h
    · omega
    · refine ⟨?_, by omega⟩
      cases e : named name
      · exact absurd e h1
      · rfl
end Go.Proofs.Ythepfbcgpbkbdaa
end
section
set_option linter.unusedVariables false
set_option linter.unusedSimpArgs false
set_option maxHeartbeats 1000000
set_option maxRecDepth 100000
namespace Go.Proofs.Ythepfbcgpbkbdaa
open Fw Go
inductive Did (S : Sch) (D : Ddl) (st : Int) : Sch → Prop
  | create (h1 : D.kind = 1) (hn : named D.table = true) (hc : ∀ c ∈ D.cols, named c.name = true) (ht : tabAt S D.table < 0) (hd : dbl D.cols = false) (h6 : S.tabs.length < 6) (c1 : 1 ≤ D.cols.length) (c8 : D.cols.length ≤ 8)
      (ty : ∀ c ∈ D.cols, typed c.kind = true) (s3 : st = 3) : Did S D st ⟨S.version, S.last + 1 + D.cols.length, S.tabs ++ [⟨S.last + 1, D.table, mkCols (S.last + 2) D.cols, [], []⟩]⟩
  | colAdd (i : Nat) (T : Tab) (kd : D.kind = 4) (hi : tabAt S D.table = (i : Int)) (hT : S.tabs[i]? = some T) (ha : colAt T D.column < 0) (hf : freshE D.column T.cols.length = 0) (ty : typed D.type = true) (fi : fits D.dflt D.type = true) (s0 : st ≠ 0) :
      Did S D st ⟨S.version, S.last + 1, S.tabs.set i { T with cols := T.cols ++ [⟨S.last + 1, D.column, D.type, st, D.dflt⟩] }⟩
  | colPut (i : Nat) (T : Tab) (j : Nat) (x : Col) (kd : D.kind = 4 ∨ D.kind = 5) (hi : tabAt S D.table = (i : Int)) (hT : S.tabs[i]? = some T) (hj : colAt T D.column = (j : Int)) (hx : T.cols[j]? = some x) (hn : x.name = D.column)
      (h4 : D.kind = 4 → x.state ≠ 3) (h5 : D.kind = 5 → used T j x = false) : Did S D st ⟨S.version, S.last, S.tabs.set i { T with cols := placed T.cols j st (x.put st) }⟩
  | idxAdd (i : Nat) (T : Tab) (c : Col) (kd : D.kind = 2) (hi : tabAt S D.table = (i : Int)) (hT : S.tabs[i]? = some T) (ha : idxAt T D.name < 0) (hf : freshE D.name T.idxs.length = 0) (hc : c ∈ T.cols) (s0 : st ≠ 0) :
      Did S D st ⟨S.version, S.last + 1, S.tabs.set i { T with idxs := T.idxs ++ [⟨S.last + 1, D.name, c.id, D.unique, st⟩] }⟩
  | idxPut (i : Nat) (T : Tab) (j : Nat) (x : Idx) (kd : D.kind = 2 ∨ D.kind = 3) (hi : tabAt S D.table = (i : Int)) (hT : S.tabs[i]? = some T) (hj : idxAt T D.name = (j : Int)) (hx : T.idxs[j]? = some x) (hn : x.name = D.name)
      (h4 : D.kind = 2 → x.state ≠ 3) : Did S D st ⟨S.version, S.last, S.tabs.set i { T with idxs := placed T.idxs j st (x.put st) }⟩
  | keyAdd (i : Nat) (T : Tab) (c : Col) (P : Tab) (kd : D.kind = 6) (hi : tabAt S D.table = (i : Int)) (hT : S.tabs[i]? = some T) (ha : keyAt T D.name < 0) (hf : freshE D.name T.keys.length = 0) (hc : c ∈ T.cols) (hP : P ∈ S.tabs) (hh : hk P = some c.kind) (s0 : st ≠ 0) :
      Did S D st ⟨S.version, S.last + 1, S.tabs.set i { T with keys := T.keys ++ [⟨S.last + 1, D.name, c.id, P.id, st⟩] }⟩
  | keyPut (i : Nat) (T : Tab) (j : Nat) (x : For) (kd : D.kind = 6 ∨ D.kind = 7) (hi : tabAt S D.table = (i : Int)) (hT : S.tabs[i]? = some T) (hj : keyAt T D.name = (j : Int)) (hx : T.keys[j]? = some x) (hn : x.name = D.name)
      (h4 : D.kind = 6 → x.state ≠ 3) : Did S D st ⟨S.version, S.last, S.tabs.set i { T with keys := placed T.keys j st (x.put st) }⟩
/-- nothing needs the column that a change names -/
def Free (S : Sch) (D : Ddl) : Prop := ∀ (i : Nat) (T : Tab) (j : Nat) (x : Col), tabAt S D.table = (i : Int) → S.tabs[i]? = some T → colAt T D.column = (j : Int) → T.cols[j]? = some x → (∀ y ∈ T.idxs, y.column ≠ x.id) ∧ (∀ y ∈ T.keys, y.column ≠ x.id)
theorem bool_no {b : Bool} (h : ¬ b = false) : b = true := by cases b <;> simp_all
theorem bool_no' {b : Bool} (h : ¬ b = true) : b = false := by cases b <;> simp_all
theorem neg_one_or {α : Type} (p : α → Bool) (l : List α) (h : ¬ seek p l 0 < 0) : ∃ (j : Nat) (x : α), seek p l 0 = (j : Int) ∧ l[j]? = some x ∧ p x = true := by
  obtain ⟨j, x, hj, hx, hp, _⟩ := (seek_cases p l).resolve_left (fun e => by have := e.1; omega)
  exact ⟨j, x, hj, hx, hp⟩
theorem turn1_did {S : Sch} {D : Ddl} {st : Int} (hk1 : 1 ≤ D.kind) (hk7 : D.kind ≤ 7) : (turn1 S D st).All (Did S D st) := by
  unfold turn1
  refine all_ite (fun h1 => ?_) fun h1 => all_ite (fun _ => all_e) fun ht => ?_
  · unfold createTurn
    refine all_ite (fun _ => all_e) fun hn => all_ite (fun _ => all_e) fun hd => all_ite (fun _ => all_e) fun h8 => all_ite (fun _ => all_e) fun hty => all_ite (fun _ => all_e) fun h3 => all_o ?_
    have hn := bool_no hn
    have hty := bool_no hty
    have hd := bool_no' hd
    have h8 := bool_no' h8
    simp only [Bool.and_eq_true, List.all_eq_true] at hn hty
    simp only [Bool.or_eq_false_iff, decide_eq_false_iff_not] at hd h8
    exact .create h1 hn.1 hn.2 (by omega) hd.2 (by omega) (by omega) (by omega) hty (by omega)
  obtain ⟨i, T, hi, hT, _⟩ := neg_one_or (fun T : Tab => decide (T.name = D.table)) S.tabs (by unfold tabAt at ht; exact ht)
  have hi : tabAt S D.table = (i : Int) := hi
  rw [hi]
  simp only [Int.toNat_natCast, hT]
  refine all_ite (fun h4 => ?_) fun h4 => all_ite (fun h2 => ?_) fun h2 => ?_
  · unfold colTurn
    refine all_ite (fun ha => all_ite (fun _ => all_e) fun hf => all_ite (fun _ => all_e) fun hk => all_ite (fun _ => all_e) fun h0 => all_o ?_) fun _ => all_ite (fun _ => all_e) fun hc => ?_
    · have hk := bool_no hk
      simp only [Bool.and_eq_true] at hk
      exact .colAdd i T ha.1 hi hT ha.2 (by simpa using hf) hk.1 hk.2 h0
    · obtain ⟨j, x, hj, hx, hp⟩ := neg_one_or (fun c : Col => decide (c.name = D.column)) T.cols (by unfold colAt at hc; exact hc)
      have hj : colAt T D.column = (j : Int) := hj
      rw [hj]
      simp only [Int.toNat_natCast, hx]
      refine all_ite (fun _ => all_e) fun h3 => all_ite (fun _ => all_e) fun h5 => all_o ?_
      exact .colPut i T j x h4 hi hT hj hx (of_decide_eq_true hp) (fun e e3 => h3 ⟨e, e3⟩) (fun e => bool_no' fun e3 => h5 ⟨e, e3⟩)
  · unfold idxTurn
    refine all_ite (fun ha => all_ite (fun _ => all_e) fun hf => all_ite (fun _ => all_e) fun hp => all_ite (fun _ => all_e) fun h0 => ?_) fun _ => all_ite (fun _ => all_e) fun hc => ?_
    · split
      · exact all_e
      · rename_i c hc
        exact all_o (.idxAdd i T c ha.1 hi hT ha.2 (by simpa using hf) (List.mem_of_getElem? hc) h0)
    · obtain ⟨j, x, hj, hx, hp⟩ := neg_one_or (fun c : Idx => decide (c.name = D.name)) T.idxs (by unfold idxAt at hc; exact hc)
      have hj : idxAt T D.name = (j : Int) := hj
      rw [hj]
      simp only [Int.toNat_natCast, hx]
      refine all_ite (fun _ => all_e) fun h3 => all_o ?_
      exact .idxPut i T j x h2 hi hT hj hx (of_decide_eq_true hp) (fun e e3 => h3 ⟨e, e3⟩)
  · unfold keyTurn
    refine all_ite (fun ha => all_ite (fun _ => all_e) fun hf => all_ite (fun _ => all_e) fun hp => all_ite (fun _ => all_e) fun hp2 => ?_) fun _ => all_ite (fun _ => all_e) fun hc => ?_
    · split
      · rename_i c P hc hP
        split
        · exact all_e
        · rename_i c0 r hc0
          refine all_ite (fun _ => all_e) fun hkk => all_ite (fun _ => all_e) fun h0 => all_o ?_
          refine .keyAdd i T c P ha.1 hi hT ha.2 (by simpa using hf) (List.mem_of_getElem? hc) (List.mem_of_getElem? hP) ?_ h0
          unfold hk
          rw [hc0]
          simp only [List.head?_cons, Option.map_some, Option.some.injEq]
          have : ¬ c.kind ≠ c0.kind := hkk
          exact (Classical.not_not.1 this).symm
      · exact all_e
    · obtain ⟨j, x, hj, hx, hp⟩ := neg_one_or (fun c : For => decide (c.name = D.name)) T.keys (by unfold keyAt at hc; exact hc)
      have hj : keyAt T D.name = (j : Int) := hj
      rw [hj]
      simp only [Int.toNat_natCast, hx]
      refine all_ite (fun _ => all_e) fun h3 => all_o ?_
      exact .keyPut i T j x (by omega) hi hT hj hx (of_decide_eq_true hp) (fun e e3 => h3 ⟨e, e3⟩)
theorem mkCols_names : ∀ (l : List Col) (n : Int), (mkCols n l).map Col.name = l.map Col.name
  | [], n => rfl
  | c :: l, n => by simp [mkCols, mkCols_names l]
theorem mkCols_ids : ∀ (l : List Col) (n : Int), ∀ m ∈ (mkCols n l).map (·.id), n ≤ m ∧ m < n + l.length
  | [], n => by simp [mkCols]
  | c :: l, n => by
    intro m hm
    simp only [mkCols, List.map_cons, List.mem_cons] at hm
    simp only [List.length_cons]
    rcases hm with rfl | hm
    · omega
    · have := mkCols_ids l (n + 1) m hm; omega
theorem mkCols_nod : ∀ (l : List Col) (n : Int), ((mkCols n l).map (·.id)).Nodup
  | [], n => by simp [mkCols]
  | c :: l, n => by
    simp only [mkCols, List.map_cons, List.nodup_cons]
    refine ⟨fun hm => ?_, mkCols_nod l _⟩
    have := mkCols_ids l (n + 1) n hm
    omega
theorem mkCols_mem : ∀ (l : List Col) (n : Int), ∀ c ∈ mkCols n l, c.state = 3 ∧ c.dflt = ⟨0, 0, ⟨#[]⟩⟩ ∧ ∃ d ∈ l, c.name = d.name ∧ c.kind = d.kind
  | [], n => by simp [mkCols]
  | d :: l, n => by
    intro c hc
    simp only [mkCols, List.mem_cons] at hc
    rcases hc with rfl | hc
    · exact ⟨rfl, rfl, d, by simp, rfl, rfl⟩
    · obtain ⟨a, b, d', hd, e⟩ := mkCols_mem l (n + 1) c hc
      exact ⟨a, b, d', by simp [hd], e⟩
theorem dbl_nod {l : List Col} (h : dbl l = false) : (l.map Col.name).Nodup := by
  rw [nod_once]
  unfold dbl at h
  simp only [Bool.not_eq_false'] at h
  rw [upTo_iff] at h
  intro i x hx
  have := h i (List.getElem?_eq_some_iff.1 hx).1
  rw [condI_at hx] at this
  exact of_decide_eq_true this
theorem fits_none {k : Int} : fits ⟨0, 0, ⟨#[]⟩⟩ k = true := by
  unfold fits valOk; simp
theorem did_ok {S S' : Sch} {D : Ddl} {st : Int} (h : SchOk S) (hl : S.last + 9 ≤ 1125899906842624) (h0 : 0 ≤ st) (h3 : st ≤ 3)
    (free : D.kind = 4 → st = 0 → Free S D)
    (hd : Did S D st S') : SchOk S' := by
  have hl0 := h.l0
  have hl1 := h.l1
  cases hd with
  | create h1 hn hc ht hdb h6 c1 c8 ty s3 =>
    have hT : TabOk (S.tabs ++ [⟨S.last + 1, D.table, mkCols (S.last + 2) D.cols, [], []⟩]) ⟨S.last + 1, D.table, mkCols (S.last + 2) D.cols, [], []⟩ := by
      refine ⟨by dsimp only; rw [mkCols_len]; exact c1, by dsimp only; rw [mkCols_len]; exact c8, by simp, by simp, ⟨?_, ?_⟩, ⟨by simp, by simp⟩, ⟨by simp, by simp⟩, ?_, ?_, by simp, by simp⟩
      · intro c hcc
        obtain ⟨_, _, d, hd, e, _⟩ := mkCols_mem _ _ c hcc
        rw [e]; exact hc d hd
      · dsimp only; rw [mkCols_names]; exact dbl_nod hdb
      · intro c hcc
        exact (mkCols_mem _ _ c (List.mem_of_mem_head? (by simpa using hcc))).1
      · intro c hcc
        obtain ⟨e1, e2, d, hd, _, e⟩ := mkCols_mem _ _ c hcc
        exact ⟨by rw [e1]; exact ⟨by omega, by omega⟩, by rw [e]; exact ty d hd, by rw [e2]; exact fits_none⟩
    refine ⟨h.v0, h.v1, by dsimp only; omega, by dsimp only; omega, by simp; omega, ?_, ?_, ?_, ?_⟩
    · exact h.nt.app hn (no_name ht)
    · intro U hU
      rcases List.mem_append.1 hU with hU | hU
      · have hu := h.ts U hU
        exact { hu with ks := fun x hx => by
                          obtain ⟨a, c, hc, e, P, hP, r⟩ := hu.ks x hx
                          exact ⟨a, c, hc, e, P, List.mem_append.2 (.inl hP), r⟩ }
      · have : U = ⟨S.last + 1, D.table, mkCols (S.last + 2) D.cols, [], []⟩ := by simpa using hU
        rw [this]; exact hT
    · intro n hn
      simp only [List.flatMap_append, List.flatMap_cons, List.flatMap_nil, List.append_nil, List.mem_append, idsOf, List.map_nil, List.mem_cons] at hn
      rcases hn with hn | rfl | hn
      · have := h.ids n hn; exact ⟨this.1, by dsimp only; omega⟩
      · exact ⟨by omega, by dsimp only; omega⟩
      · have := mkCols_ids _ _ n hn
        exact ⟨by omega, by dsimp only; omega⟩
    · simp only [List.flatMap_append, List.flatMap_cons, List.flatMap_nil, List.append_nil, idsOf, List.map_nil]
      rw [List.nodup_append]
      refine ⟨h.nod, ?_, ?_⟩
      · rw [List.nodup_cons]
        refine ⟨fun hm => ?_, mkCols_nod _ _⟩
        have := mkCols_ids _ _ _ hm; omega
      · intro x hx y hy
        have h1 := (h.ids x hx).2
        rcases List.mem_cons.1 hy with rfl | hy
        · omega
        · have := mkCols_ids _ _ y hy; omega
  | colAdd i T hk hi hT ha hf ty fi s0 =>
    obtain ⟨a, b, e, rfl⟩ := split_get hT
    have ht := h.ts T (List.mem_of_getElem? hT)
    rw [e, set_mid]
    obtain ⟨f1, f2⟩ := fresh_ok hf
    obtain ⟨n1, n2⟩ := nod_ids h (List.mem_of_getElem? hT)
    have hcid : ∀ c ∈ T.cols, c.id ≤ S.last := fun c hc => n2 c.id (by unfold idsOf; simp only [List.mem_cons, List.mem_append]; exact .inr (.inl (List.mem_map_of_mem (f := fun c : Col => c.id) hc)))
    refine ok_cols h e h.v0 h.v1 (by omega) (by omega) (by simp; omega) (ht.nc.app f1 (no_name ha)) ?_ ?_ ?_ ?_ ?_
    · have := ht.c1
      cases e2 : T.cols with
      | nil => rw [e2] at this; simp at this
      | cons c r => simp
    · intro c hc
      rcases List.mem_append.1 hc with hc | hc
      · exact ht.cs c hc
      · have : c = ⟨S.last + 1, D.column, D.type, st, D.dflt⟩ := by simpa using hc
        subst this
        exact ⟨⟨by dsimp only; omega, h3⟩, ty, fi⟩
    · intro c hc _
      exact ⟨c, List.mem_append.2 (.inl hc), rfl, rfl⟩
    · intro n hn
      simp only [List.map_append, List.mem_append, List.map_cons, List.map_nil, List.mem_singleton] at hn
      rcases hn with hn | rfl
      · exact .inl hn
      · exact .inr ⟨by omega, by omega⟩
    · rw [List.map_append, List.nodup_append]
      refine ⟨ids_inj h.nod (List.mem_of_getElem? hT), by simp, ?_⟩
      intro x hx y hy
      obtain ⟨c, hc, rfl⟩ := List.mem_map.1 hx
      have := hcid c hc
      have : y = S.last + 1 := by simpa using hy
      omega
  | colPut i T j x hk hi hT hj hx hn h4 h5 =>
    have ht := h.ts T (List.mem_of_getElem? hT)
    have hj0 : j ≠ 0 := by
      rintro rfl
      rcases hk with hk | hk
      · refine h4 hk (ht.first x ?_)
        rw [List.head?_eq_getElem?]; exact hx
      · have := h5 hk
        unfold used at this
        simp at this
    have hfree : st = 0 → (∀ y ∈ T.idxs, y.column ≠ x.id) ∧ (∀ y ∈ T.keys, y.column ≠ x.id) := by
      intro hs
      rcases hk with hk | hk
      · exact free hk hs i T j x hi hT hj hx
      · have := h5 hk
        unfold used at this
        simp only [Bool.or_eq_false_iff, List.any_eq_false, decide_eq_true_eq] at this
        exact ⟨fun y hy => this.2.1 y hy, fun y hy => this.2.2 y hy⟩
    obtain ⟨a, b, e, rfl⟩ := split_get hT
    rw [e, set_mid]
    refine ok_cols h e h.v0 h.v1 (by omega) (by omega) (Nat.le_trans placed_le ht.c8) (ht.nc.placed hx rfl) (placed_head hj0) ?_ ?_ ?_ ?_
    · intro c hc
      rcases placed_in hc with hc | ⟨hs, rfl⟩
      · exact ht.cs c hc
      · have := ht.cs x (List.mem_of_getElem? hx)
        exact ⟨⟨by unfold Col.put; dsimp only; omega, h3⟩, this.ty, this.fi⟩
    · intro c hc huse
      obtain ⟨c', hc', e'⟩ := placed_keep (g := fun c : Col => (c.id, c.kind)) (st := st) (x' := x.put st) hx rfl hc (fun hs hcx => by
        have hci : c.id = x.id := congrArg Prod.fst hcx
        rcases huse with ⟨y, hy, ey⟩ | ⟨y, hy, ey⟩
        · exact (hfree hs).1 y hy (by rw [ey, hci])
        · exact (hfree hs).2 y hy (by rw [ey, hci]))
      exact ⟨c', hc', congrArg Prod.fst e', congrArg Prod.snd e'⟩
    · intro n hnn
      exact .inl ((placed_sub (f := fun c : Col => c.id) (x' := x.put st) hx rfl).subset hnn)
    · exact List.Nodup.sublist (placed_sub (f := fun c : Col => c.id) (x' := x.put st) hx rfl) (ids_inj h.nod (List.mem_of_getElem? hT))
  | idxAdd i T c hk hi hT ha hf hc s0 =>
    obtain ⟨a, b, e, rfl⟩ := split_get hT
    have ht := h.ts T (List.mem_of_getElem? hT)
    rw [e, set_mid]
    obtain ⟨f1, f2⟩ := fresh_ok hf
    obtain ⟨n1, n2⟩ := nod_ids h (List.mem_of_getElem? hT)
    have hcid : ∀ c ∈ T.idxs, c.id ≤ S.last := fun c hc => n2 c.id (by unfold idsOf; simp only [List.mem_cons, List.mem_append]; exact .inr (.inr (.inl (List.mem_map_of_mem (f := fun c : Idx => c.id) hc))))
    refine ok_idxs h e h.v0 h.v1 (by omega) (by omega) (by simp; omega) (ht.nx.app f1 (no_name ha)) ?_ ?_ ?_
    · intro y hy
      rcases List.mem_append.1 hy with hy | hy
      · exact ht.xs y hy
      · have : y = ⟨S.last + 1, D.name, c.id, D.unique, st⟩ := by simpa using hy
        subst this
        exact ⟨⟨by dsimp only; omega, h3⟩, c, hc, rfl⟩
    · intro n hn
      simp only [List.map_append, List.mem_append, List.map_cons, List.map_nil, List.mem_singleton] at hn
      rcases hn with hn | rfl
      · exact .inl hn
      · exact .inr ⟨by omega, by omega⟩
    · rw [List.map_append, List.nodup_append]
      unfold idsOf at n1
      simp only [List.nodup_cons, List.nodup_append] at n1
      refine ⟨n1.2.2.1.1, by simp, ?_⟩
      intro x hx y hy
      obtain ⟨c, hc, rfl⟩ := List.mem_map.1 hx
      have := hcid c hc
      have : y = S.last + 1 := by simpa using hy
      omega
  | idxPut i T j x hk hi hT hj hx hn h4 =>
    have ht := h.ts T (List.mem_of_getElem? hT)
    obtain ⟨n1, n2⟩ := nod_ids h (List.mem_of_getElem? hT)
    obtain ⟨a, b, e, rfl⟩ := split_get hT
    rw [e, set_mid]
    refine ok_idxs h e h.v0 h.v1 (by omega) (by omega) (Nat.le_trans placed_le ht.x8) (ht.nx.placed hx rfl) ?_ ?_ ?_
    · intro y hy
      rcases placed_in hy with hy | ⟨hs, rfl⟩
      · exact ht.xs y hy
      · have := ht.xs x (List.mem_of_getElem? hx)
        exact ⟨⟨by unfold Idx.put; dsimp only; omega, h3⟩, this.2⟩
    · intro n hnn
      exact .inl ((placed_sub (f := fun c : Idx => c.id) (x' := x.put st) hx rfl).subset hnn)
    · unfold idsOf at n1
      simp only [List.nodup_cons, List.nodup_append] at n1
      exact List.Nodup.sublist (placed_sub (f := fun c : Idx => c.id) (x' := x.put st) hx rfl) n1.2.2.1.1
  | keyAdd i T c P hk hi hT ha hf hc hP hh s0 =>
    obtain ⟨a, b, e, rfl⟩ := split_get hT
    have ht := h.ts T (List.mem_of_getElem? hT)
    rw [e, set_mid]
    obtain ⟨f1, f2⟩ := fresh_ok hf
    obtain ⟨n1, n2⟩ := nod_ids h (List.mem_of_getElem? hT)
    have hcid : ∀ c ∈ T.keys, c.id ≤ S.last := fun c hc => n2 c.id (by unfold idsOf; simp only [List.mem_cons, List.mem_append]; exact .inr (.inr (.inr (List.mem_map_of_mem (f := fun c : For => c.id) hc))))
    refine ok_keys h e h.v0 h.v1 (by omega) (by omega) (by simp; omega) (ht.nk.app f1 (no_name ha)) ?_ ?_ ?_
    · intro y hy
      rcases List.mem_append.1 hy with hy | hy
      · exact ht.ks y hy
      · have : y = ⟨S.last + 1, D.name, c.id, P.id, st⟩ := by simpa using hy
        subst this
        exact ⟨⟨by dsimp only; omega, h3⟩, c, hc, rfl, P, hP, rfl, hh⟩
    · intro n hn
      simp only [List.map_append, List.mem_append, List.map_cons, List.map_nil, List.mem_singleton] at hn
      rcases hn with hn | rfl
      · exact .inl hn
      · exact .inr ⟨by omega, by omega⟩
    · rw [List.map_append, List.nodup_append]
      unfold idsOf at n1
      simp only [List.nodup_cons, List.nodup_append] at n1
      refine ⟨n1.2.2.1.2.1, by simp, ?_⟩
      intro x hx y hy
      obtain ⟨c, hc, rfl⟩ := List.mem_map.1 hx
      have := hcid c hc
      have : y = S.last + 1 := by simpa using hy
      omega
  | keyPut i T j x hk hi hT hj hx hn h4 =>
    have ht := h.ts T (List.mem_of_getElem? hT)
    obtain ⟨n1, n2⟩ := nod_ids h (List.mem_of_getElem? hT)
    obtain ⟨a, b, e, rfl⟩ := split_get hT
    rw [e, set_mid]
    refine ok_keys h e h.v0 h.v1 (by omega) (by omega) (Nat.le_trans placed_le ht.k8) (ht.nk.placed hx rfl) ?_ ?_ ?_
    · intro y hy
      rcases placed_in hy with hy | ⟨hs, rfl⟩
      · exact ht.ks y hy
      · have := ht.ks x (List.mem_of_getElem? hx)
        exact ⟨⟨by unfold For.put; dsimp only; omega, h3⟩, this.2⟩
    · intro n hnn
      exact .inl ((placed_sub (f := fun c : For => c.id) (x' := x.put st) hx rfl).subset hnn)
    · unfold idsOf at n1
      simp only [List.nodup_cons, List.nodup_append] at n1
      exact List.Nodup.sublist (placed_sub (f := fun c : For => c.id) (x' := x.put st) hx rfl) n1.2.2.1.2.1
end Go.Proofs.Ythepfbcgpbkbdaa
end
section
set_option linter.unusedVariables false
set_option linter.unusedSimpArgs false
set_option maxHeartbeats 1000000
set_option maxRecDepth 100000
namespace Go.Proofs.Ythepfbcgpbkbdaa
open Fw Go
theorem names_once {α : Type} {f : α → ByteArray} {l : List α} (h : NamesOk f l) : Once f l := once_of fun i x hx => nod_once.1 h.2 i x hx
theorem at_name {S : Sch} {name : ByteArray} {i : Nat} {T : Tab} (hi : tabAt S name = (i : Int)) (hT : S.tabs[i]? = some T) : T.name = name := by
  rcases seek_cases (fun T : Tab => decide (T.name = name)) S.tabs with ⟨e, _⟩ | ⟨j, y, e, hy, hp, _⟩
  · have : tabAt S name = -1 := e
    omega
  · have e : tabAt S name = (j : Int) := e
    have : j = i := by omega
    subst this
    rw [hT] at hy
    cases hy
    exact of_decide_eq_true hp
theorem tabAt_app {S : Sch} {v l : Int} {T : Tab} {name : ByteArray} (h : tabAt S name < 0) (hn : T.name = name) : tabAt ⟨v, l, S.tabs ++ [T]⟩ name = (S.tabs.length : Int) := by
  have h1 : seek (fun c : Tab => decide (c.name = name)) S.tabs 0 = -1 := by
    rcases seek_cases (fun c : Tab => decide (c.name = name)) S.tabs with ⟨e, _⟩ | ⟨j, y, e, _⟩
    · exact e
    · have : tabAt S name = (j : Int) := e
      omega
  have := seek_snoc (p := fun c : Tab => decide (c.name = name)) (x := T) (decide_eq_true hn) S.tabs 0 h1
  rw [Nat.zero_add] at this
  exact this
theorem did_state {S S' : Sch} {D : Ddl} {st : Int} (h : SchOk S) (hd : Did S D st S') : stateOf S' D = st := by
  cases hd with
  | create h1 hn hc ht hdb h6 c1 c8 ty s3 =>
    unfold stateOf
    rw [if_pos h1, tabAt_app ht rfl, if_neg (by omega), s3]
  | colAdd i T kd hi hT ha hf ty fi s0 =>
    refine (stateOf_set (T := T) (by omega) hi hT (by rfl)).trans ?_
    rw [if_pos (by omega)]
    exact stC_app ha rfl
  | colPut i T j x kd hi hT hj hx hn h4 h5 =>
    refine (stateOf_set (T := T) (by omega) hi hT (by rfl)).trans ?_
    rw [if_pos (by omega)]
    exact stC_placed (names_once (h.ts T (List.mem_of_getElem? hT)).nc) hj hx hn
  | idxAdd i T c kd hi hT ha hf hc s0 =>
    refine (stateOf_set (T := T) (by omega) hi hT (by rfl)).trans ?_
    rw [if_neg (by omega), if_pos (by omega)]
    exact stX_app ha rfl
  | idxPut i T j x kd hi hT hj hx hn h4 =>
    refine (stateOf_set (T := T) (by omega) hi hT (by rfl)).trans ?_
    rw [if_neg (by omega), if_pos (by omega)]
    exact stX_placed (names_once (h.ts T (List.mem_of_getElem? hT)).nx) hj hx hn
  | keyAdd i T c P kd hi hT ha hf hc hP hh s0 =>
    refine (stateOf_set (T := T) (by omega) hi hT (by rfl)).trans ?_
    rw [if_neg (by omega), if_neg (by omega)]
    exact stF_app ha rfl
  | keyPut i T j x kd hi hT hj hx hn h4 =>
    refine (stateOf_set (T := T) (by omega) hi hT (by rfl)).trans ?_
    rw [if_neg (by omega), if_neg (by omega)]
    exact stF_placed (names_once (h.ts T (List.mem_of_getElem? hT)).nk) hj hx hn
def er {α : Type} (p : α → Bool) (l : List α) : List α := if 0 ≤ seek p l 0 then l.eraseIdx (seek p l 0).toNat else l
theorem er_none {α : Type} {p : α → Bool} {l : List α} (h : seek p l 0 < 0) : er p l = l := by unfold er; rw [if_neg (by omega)]
theorem er_app {α : Type} {p : α → Bool} {l : List α} {x : α} (h : seek p l 0 < 0) (hx : p x = true) : er p (l ++ [x]) = er p l := by
  have h1 : seek p l 0 = -1 := by
    rcases seek_cases p l with ⟨e, _⟩ | ⟨j, y, e, _⟩
    · exact e
    · omega
  have h2 := seek_snoc hx l 0 h1
  rw [er_none h]
  unfold er
  rw [h2, if_pos (by omega)]
  simp
  rw [List.eraseIdx_append_of_length_le (by omega)]
  simp
theorem er_placed {α : Type} {f : α → ByteArray} {name : ByteArray} {l : List α} {j : Nat} {st : Int} {x x' : α} (ho : Once f l) (hj : seek (fun y : α => decide (f y = name)) l 0 = (j : Int)) (hx : l[j]? = some x) (hn : f x = name) (hf : f x' = f x) :
    er (fun y : α => decide (f y = name)) (placed l j st x') = er (fun y : α => decide (f y = name)) l := by
  have h0 : er (fun y : α => decide (f y = name)) l = l.eraseIdx j := by
    unfold er; rw [hj, if_pos (by omega)]; simp
  rw [h0]
  unfold placed
  by_cases hs : st = 0
  · rw [if_pos hs]
    have := once_erase ho hx
    rw [hn] at this
    exact er_none (by omega)
  · rw [if_neg hs]
    unfold er
    rw [seek_set (p := fun y : α => decide (f y = name)) (by rw [hf]) l j 0 hx, hj, if_pos (by omega)]
    simp only [Int.toNat_natCast]
    rw [List.eraseIdx_set_eq]
theorem withoutT_eq (T : Tab) (D : Ddl) : withoutT T D = { T with cols := if D.kind = 4 ∨ D.kind = 5 then er (fun c : Col => decide (c.name = D.column)) T.cols else T.cols
                                                                  idxs := if D.kind = 2 ∨ D.kind = 3 then er (fun c : Idx => decide (c.name = D.name)) T.idxs else T.idxs
                                                                  keys := if 6 ≤ D.kind then er (fun c : For => decide (c.name = D.name)) T.keys else T.keys } := by
  unfold withoutT er colAt idxAt keyAt
  congr 1
  · by_cases h : D.kind = 4 ∨ D.kind = 5 <;> simp [h]
  · by_cases h : D.kind = 2 ∨ D.kind = 3 <;> simp [h]
  · by_cases h : 6 ≤ D.kind <;> simp [h]
theorem without_set {S : Sch} {D : Ddl} {v l : Int} {i : Nat} {T T' : Tab} (h1 : D.kind ≠ 1) (hi : tabAt S D.table = (i : Int)) (hT : S.tabs[i]? = some T) (hn : T'.name = T.name) (hw : withoutT T' D = withoutT T D) : Sch.without ⟨v, l, S.tabs.set i T'⟩ D = S.without D := by
  have hTn := at_name hi hT
  obtain ⟨a, b, e, rfl⟩ := split_get hT
  unfold Sch.without
  dsimp only
  rw [e, set_mid]
  simp only [List.flatMap_append, List.flatMap_cons]
  have : outOf D T' = outOf D T := by
    unfold outOf
    rw [hn, hTn, if_neg (fun e => e rfl), if_neg h1, if_neg (fun e => e rfl), if_neg h1, hw]
  rw [this]
theorem did_without {S S' : Sch} {D : Ddl} {st : Int} (h : SchOk S) (hd : Did S D st S') : S'.without D = S.without D := by
  cases hd with
  | create h1 hn hc ht hdb h6 c1 c8 ty s3 =>
    unfold Sch.without
    dsimp only
    simp only [List.flatMap_append, List.flatMap_cons, List.flatMap_nil, List.append_nil]
    have : outOf D ⟨S.last + 1, D.table, mkCols (S.last + 2) D.cols, [], []⟩ = [] := by
      unfold outOf
      rw [if_neg (by simp), if_pos h1]
    rw [this, List.append_nil]
  | colAdd i T kd hi hT ha hf ty fi s0 =>
    refine without_set (by omega) hi hT (by rfl) ?_
    rw [withoutT_eq, withoutT_eq]
    dsimp only
    rw [if_pos (c := D.kind = 4 ∨ D.kind = 5) (by omega), er_app ha (by simp), if_pos (c := D.kind = 4 ∨ D.kind = 5) (by omega)]
  | colPut i T j x kd hi hT hj hx hn h4 h5 =>
    refine without_set (by omega) hi hT (by rfl) ?_
    rw [withoutT_eq, withoutT_eq]
    dsimp only
    rw [if_pos (c := D.kind = 4 ∨ D.kind = 5) (by omega), er_placed (f := Col.name) (x' := x.put st) (names_once (h.ts T (List.mem_of_getElem? hT)).nc) hj hx hn rfl, if_pos (c := D.kind = 4 ∨ D.kind = 5) (by omega)]
  | idxAdd i T c kd hi hT ha hf hc s0 =>
    refine without_set (by omega) hi hT (by rfl) ?_
    rw [withoutT_eq, withoutT_eq]
    dsimp only
    rw [if_pos (c := D.kind = 2 ∨ D.kind = 3) (by omega), er_app ha (by simp), if_pos (c := D.kind = 2 ∨ D.kind = 3) (by omega)]
  | idxPut i T j x kd hi hT hj hx hn h4 =>
    refine without_set (by omega) hi hT (by rfl) ?_
    rw [withoutT_eq, withoutT_eq]
    dsimp only
    rw [if_pos (c := D.kind = 2 ∨ D.kind = 3) (by omega), er_placed (f := Idx.name) (x' := x.put st) (names_once (h.ts T (List.mem_of_getElem? hT)).nx) hj hx hn rfl, if_pos (c := D.kind = 2 ∨ D.kind = 3) (by omega)]
  | keyAdd i T c P kd hi hT ha hf hc hP hh s0 =>
    refine without_set (by omega) hi hT (by rfl) ?_
    rw [withoutT_eq, withoutT_eq]
    dsimp only
    rw [if_pos (c := 6 ≤ D.kind) (by omega), er_app ha (by simp), if_pos (c := 6 ≤ D.kind) (by omega)]
  | keyPut i T j x kd hi hT hj hx hn h4 =>
    refine without_set (by omega) hi hT (by rfl) ?_
    rw [withoutT_eq, withoutT_eq]
    dsimp only
    rw [if_pos (c := 6 ≤ D.kind) (by omega), er_placed (f := For.name) (x' := x.put st) (names_once (h.ts T (List.mem_of_getElem? hT)).nk) hj hx hn rfl, if_pos (c := 6 ≤ D.kind) (by omega)]
structure Ready (S : Sch) (D : Ddl) : Prop where
  tab : ∃ (i : Nat) (T : Tab), tabAt S D.table = (i : Int) ∧ S.tabs[i]? = some T ∧ (D.kind = 4 ∨ D.kind = 5 → ∃ (j : Nat) (x : Col), colAt T D.column = (j : Int) ∧ T.cols[j]? = some x ∧ j ≠ 0) ∧
    (D.kind = 2 ∨ D.kind = 3 → ∃ (j : Nat) (x : Idx), idxAt T D.name = (j : Int) ∧ T.idxs[j]? = some x) ∧ (D.kind = 6 ∨ D.kind = 7 → ∃ (j : Nat) (x : For), keyAt T D.name = (j : Int) ∧ T.keys[j]? = some x)
  free : D.kind = 4 ∨ D.kind = 5 → Free S D
theorem set_at {S : Sch} {D : Ddl} {v l : Int} {i : Nat} {T T' : Tab} (hi : tabAt S D.table = (i : Int)) (hT : S.tabs[i]? = some T) (hn : T'.name = T.name) :
    tabAt ⟨v, l, S.tabs.set i T'⟩ D.table = (i : Int) ∧ (Sch.mk v l (S.tabs.set i T')).tabs[i]? = some T' := by
  have hil := (List.getElem?_eq_some_iff.1 hT).1
  exact ⟨by rw [tabAt_set hT hn, hi], by dsimp only; rw [List.getElem?_set_self hil]⟩
theorem free_set {S : Sch} {D : Ddl} {v l : Int} {i j : Nat} {T T' : Tab} {x : Col} (hi : tabAt S D.table = (i : Int)) (hT : S.tabs[i]? = some T) (hn : T'.name = T.name) (hj : colAt T' D.column = (j : Int)) (hx : T'.cols[j]? = some x)
    (hf : (∀ y ∈ T'.idxs, y.column ≠ x.id) ∧ (∀ y ∈ T'.keys, y.column ≠ x.id)) : Free ⟨v, l, S.tabs.set i T'⟩ D := by
  obtain ⟨g1, g2⟩ := set_at (v := v) (l := l) hi hT hn
  intro i' U j' x' hi' hU hj' hx'
  have : i' = i := by omega
  subst this
  rw [g2] at hU
  cases hU
  have : j' = j := by omega
  subst this
  rw [hx] at hx'
  cases hx'
  exact hf
theorem did_ready {S S' : Sch} {D : Ddl} {st : Int} (h : SchOk S) (h1 : D.kind ≠ 1) (h0 : st ≠ 0) (free : D.kind = 4 → Free S D) (hd : Did S D st S') : Ready S' D := by
  cases hd with
  | create k1 hn hc ht hdb h6 c1 c8 ty s3 => exact absurd k1 h1
  | colAdd i T kd hi hT ha hf ty fi s0 =>
    have ht := h.ts T (List.mem_of_getElem? hT)
    obtain ⟨n1, n2⟩ := nod_ids h (List.mem_of_getElem? hT)
    have hcid : ∀ c ∈ T.cols, c.id ≤ S.last := fun c hc => n2 c.id (by unfold idsOf; simp only [List.mem_cons, List.mem_append]; exact .inr (.inl (List.mem_map_of_mem (f := fun c : Col => c.id) hc)))
    have hs : seek (fun c : Col => decide (c.name = D.column)) T.cols 0 = -1 := by
      rcases seek_cases (fun c : Col => decide (c.name = D.column)) T.cols with ⟨e, _⟩ | ⟨j, y, e, _⟩
      · exact e
      · have : colAt T D.column = (j : Int) := e
        omega
    have hj : colAt { T with cols := T.cols ++ [⟨S.last + 1, D.column, D.type, st, D.dflt⟩] } D.column = (T.cols.length : Int) := by
      have := seek_snoc (p := fun c : Col => decide (c.name = D.column)) (x := ⟨S.last + 1, D.column, D.type, st, D.dflt⟩) (by simp) T.cols 0 hs
      rw [Nat.zero_add] at this
      exact this
    have hx : ({ T with cols := T.cols ++ [⟨S.last + 1, D.column, D.type, st, D.dflt⟩] } : Tab).cols[T.cols.length]? = some ⟨S.last + 1, D.column, D.type, st, D.dflt⟩ := by simp
    obtain ⟨g1, g2⟩ := set_at (v := S.version) (l := S.last + 1) (T' := { T with cols := T.cols ++ [⟨S.last + 1, D.column, D.type, st, D.dflt⟩] }) hi hT rfl
    refine ⟨⟨i, _, g1, g2, fun _ => ⟨_, _, hj, hx, by have := ht.c1; omega⟩, fun e => by omega, fun e => by omega⟩, fun _ => ?_⟩
    refine free_set hi hT rfl hj hx ⟨fun y hy e => ?_, fun y hy e => ?_⟩
    · obtain ⟨_, c, hc, e2⟩ := ht.xs y hy
      have := hcid c hc
      dsimp only at e
      omega
    · obtain ⟨_, c, hc, e2, _⟩ := ht.ks y hy
      have := hcid c hc
      dsimp only at e
      omega
  | colPut i T j x kd hi hT hj hx hn h4 h5 =>
    have ht := h.ts T (List.mem_of_getElem? hT)
    have hjl := (List.getElem?_eq_some_iff.1 hx).1
    have hj0 : j ≠ 0 := by
      rintro rfl
      rcases kd with kd | kd
      · refine h4 kd (ht.first x ?_)
        rw [List.head?_eq_getElem?]; exact hx
      · have := h5 kd
        unfold used at this
        simp at this
    have hfree : (∀ y ∈ T.idxs, y.column ≠ x.id) ∧ (∀ y ∈ T.keys, y.column ≠ x.id) := by
      rcases kd with kd | kd
      · exact free kd i T j x hi hT hj hx
      · have := h5 kd
        unfold used at this
        simp only [Bool.or_eq_false_iff, List.any_eq_false, decide_eq_true_eq] at this
        exact ⟨fun y hy => this.2.1 y hy, fun y hy => this.2.2 y hy⟩
    have hp : placed T.cols j st (x.put st) = T.cols.set j (x.put st) := by unfold placed; rw [if_neg h0]
    rw [hp]
    have hj' : colAt { T with cols := T.cols.set j (x.put st) } D.column = (j : Int) := by
      rw [← hj]
      exact seek_set (p := fun c : Col => decide (c.name = D.column)) (x := x) (x' := x.put st) rfl T.cols j 0 hx
    have hx' : ({ T with cols := T.cols.set j (x.put st) } : Tab).cols[j]? = some (x.put st) := List.getElem?_set_self hjl
    obtain ⟨g1, g2⟩ := set_at (v := S.version) (l := S.last) (T' := { T with cols := T.cols.set j (x.put st) }) hi hT rfl
    exact ⟨⟨i, _, g1, g2, fun _ => ⟨_, _, hj', hx', hj0⟩, fun e => by omega, fun e => by omega⟩, fun _ => free_set hi hT rfl hj' hx' hfree⟩
  | idxAdd i T c kd hi hT ha hf hc s0 =>
    have hs : seek (fun c : Idx => decide (c.name = D.name)) T.idxs 0 = -1 := by
      rcases seek_cases (fun c : Idx => decide (c.name = D.name)) T.idxs with ⟨e, _⟩ | ⟨j, y, e, _⟩
      · exact e
      · have : idxAt T D.name = (j : Int) := e
        omega
    have hj : idxAt { T with idxs := T.idxs ++ [⟨S.last + 1, D.name, c.id, D.unique, st⟩] } D.name = (T.idxs.length : Int) := by
      have := seek_snoc (p := fun c : Idx => decide (c.name = D.name)) (x := ⟨S.last + 1, D.name, c.id, D.unique, st⟩) (by simp) T.idxs 0 hs
      rw [Nat.zero_add] at this
      exact this
    obtain ⟨g1, g2⟩ := set_at (v := S.version) (l := S.last + 1) (T' := { T with idxs := T.idxs ++ [⟨S.last + 1, D.name, c.id, D.unique, st⟩] }) hi hT rfl
    exact ⟨⟨i, _, g1, g2, fun e => by omega, fun _ => ⟨_, ⟨S.last + 1, D.name, c.id, D.unique, st⟩, hj, by simp⟩, fun e => by omega⟩, fun e => by omega⟩
  | idxPut i T j x kd hi hT hj hx hn h4 =>
    have hjl := (List.getElem?_eq_some_iff.1 hx).1
    have hp : placed T.idxs j st (x.put st) = T.idxs.set j (x.put st) := by unfold placed; rw [if_neg h0]
    rw [hp]
    have hj' : idxAt { T with idxs := T.idxs.set j (x.put st) } D.name = (j : Int) := by
      rw [← hj]
      exact seek_set (p := fun c : Idx => decide (c.name = D.name)) (x := x) (x' := x.put st) rfl T.idxs j 0 hx
    obtain ⟨g1, g2⟩ := set_at (v := S.version) (l := S.last) (T' := { T with idxs := T.idxs.set j (x.put st) }) hi hT rfl
    exact ⟨⟨i, _, g1, g2, fun e => by omega, fun _ => ⟨_, _, hj', List.getElem?_set_self hjl⟩, fun e => by omega⟩, fun e => by omega⟩
  | keyAdd i T c P kd hi hT ha hf hc hP hh s0 =>
    have hs : seek (fun c : For => decide (c.name = D.name)) T.keys 0 = -1 := by
      rcases seek_cases (fun c : For => decide (c.name = D.name)) T.keys with ⟨e, _⟩ | ⟨j, y, e, _⟩
      · exact e
      · have : keyAt T D.name = (j : Int) := e
        omega
    have hj : keyAt { T with keys := T.keys ++ [⟨S.last + 1, D.name, c.id, P.id, st⟩] } D.name = (T.keys.length : Int) := by
      have := seek_snoc (p := fun c : For => decide (c.name = D.name)) (x := ⟨S.last + 1, D.name, c.id, P.id, st⟩) (by simp) T.keys 0 hs
      rw [Nat.zero_add] at this
      exact this
    obtain ⟨g1, g2⟩ := set_at (v := S.version) (l := S.last + 1) (T' := { T with keys := T.keys ++ [⟨S.last + 1, D.name, c.id, P.id, st⟩] }) hi hT rfl
    exact ⟨⟨i, _, g1, g2, fun e => by omega, fun e => by omega, fun _ => ⟨_, ⟨S.last + 1, D.name, c.id, P.id, st⟩, hj, by simp⟩⟩, fun e => by omega⟩
  | keyPut i T j x kd hi hT hj hx hn h4 =>
    have hjl := (List.getElem?_eq_some_iff.1 hx).1
    have hp : placed T.keys j st (x.put st) = T.keys.set j (x.put st) := by unfold placed; rw [if_neg h0]
    rw [hp]
    have hj' : keyAt { T with keys := T.keys.set j (x.put st) } D.name = (j : Int) := by
      rw [← hj]
      exact seek_set (p := fun c : For => decide (c.name = D.name)) (x := x) (x' := x.put st) rfl T.keys j 0 hx
    obtain ⟨g1, g2⟩ := set_at (v := S.version) (l := S.last) (T' := { T with keys := T.keys.set j (x.put st) }) hi hT rfl
    exact ⟨⟨i, _, g1, g2, fun e => by omega, fun e => by omega, fun _ => ⟨_, _, hj', List.getElem?_set_self hjl⟩⟩, fun e => by omega⟩
theorem did_vl {S S' : Sch} {D : Ddl} {st : Int} (hd : Did S D st S') : S'.version = S.version ∧ S.last ≤ S'.last ∧ S'.last ≤ S.last + 9 := by
  cases hd with
  | create h1 hn hc ht hdb h6 c1 c8 ty s3 => exact ⟨rfl, by dsimp only; omega, by dsimp only; omega⟩
  | colAdd => exact ⟨rfl, by dsimp only; omega, by dsimp only; omega⟩
  | colPut => exact ⟨rfl, by dsimp only; omega, by dsimp only; omega⟩
  | idxAdd => exact ⟨rfl, by dsimp only; omega, by dsimp only; omega⟩
  | idxPut => exact ⟨rfl, by dsimp only; omega, by dsimp only; omega⟩
  | keyAdd => exact ⟨rfl, by dsimp only; omega, by dsimp only; omega⟩
  | keyPut => exact ⟨rfl, by dsimp only; omega, by dsimp only; omega⟩
structure Stepped (S : Sch) (D : Ddl) (st : Int) (S' : Sch) : Prop where
  ok : SchOk S'
  ver : S'.version = S.version + 1
  last : S'.last ≤ S.last + 9
  state : stateOf S' D = st
  rest : S'.without D = S.without D
  ready : D.kind ≠ 1 → st ≠ 0 → Ready S' D
theorem turn_step {S S' : Sch} {D : Ddl} {st : Int} (hv : S.version + 1 ≤ 1125899906842624) (hl : S.last + 9 ≤ 1125899906842624) (free : D.kind = 4 → Free S D) (h : S.turn D st = (S', 0)) : Stepped S D st S' := by
  obtain ⟨hr, h0, h3, k1, k7, ht⟩ := turn_ok h
  have hS := right_ok.1 hr
  have hS1 : SchOk { S with version := S.version + 1 } := ⟨by have := hS.v0; dsimp only; omega, hv, hS.l0, hS.l1, hS.few, hS.nt, hS.ts, hS.ids, hS.nod⟩
  have hd := turn1_did k1 k7 S' ht
  have fr : D.kind = 4 → Free { S with version := S.version + 1 } D := free
  obtain ⟨g1, _, g3⟩ := did_vl hd
  have hw : S'.without D = S.without D := (did_without hS1 hd).trans (by rfl)
  exact ⟨did_ok hS1 hl h0 h3 (fun e _ => fr e) hd, g1, g3, did_state hS1 hd, hw, fun e1 e0 => did_ready hS1 e1 e0 fr hd⟩
theorem turn_goes {S : Sch} {D : Ddl} {st : Int} (h : SchOk S) (r : Ready S D) (k2 : 2 ≤ D.kind) (k7 : D.kind ≤ 7) (h0 : 0 ≤ st) (h3 : st ≤ 3) (hs : D.kind = 2 ∨ D.kind = 4 ∨ D.kind = 6 → stateOf S D ≠ 3) : ∃ S', S.turn D st = (S', 0) := by
  obtain ⟨⟨i, T, hi, hT, hc, hx, hk⟩, hf⟩ := r
  have hr := right_ok.2 h
  unfold Sch.turn
  rw [if_neg (by rw [hr]; simp; omega), if_neg (by omega)]
  have hi1 : tabAt { S with version := S.version + 1 } D.table = (i : Int) := hi
  have hst : stateOf S D = if D.kind = 4 ∨ D.kind = 5 then stC T D.column else if D.kind = 2 ∨ D.kind = 3 then stX T D.name else stF T D.name := by
    unfold stateOf
    rw [if_neg (by omega), hi, if_neg (by omega)]
    simp only [Int.toNat_natCast, hT]
  have key : ∃ S', turn1 { S with version := S.version + 1 } D st = .ok S' := by
    unfold turn1
    rw [if_neg (by omega), hi1, if_neg (by omega)]
    simp only [Int.toNat_natCast, hT]
    by_cases h4 : D.kind = 4 ∨ D.kind = 5
    · rw [if_pos h4]
      obtain ⟨j, x, hj, hxx, hj0⟩ := hc h4
      rw [if_pos h4] at hst
      unfold colTurn
      rw [if_neg (by omega), hj, if_neg (by omega)]
      simp only [Int.toNat_natCast, hxx]
      have e : stC T D.column = x.state := by
        unfold stC
        rw [hj, if_neg (by omega)]
        simp only [Int.toNat_natCast, hxx]
      have hu : used T j x = false := by
        obtain ⟨f1, f2⟩ := hf h4 i T j x hi hT hj hxx
        unfold used
        simp only [Bool.or_eq_false_iff, List.any_eq_false, decide_eq_true_eq]
        refine ⟨?_, fun y hy => f1 y hy, fun y hy => f2 y hy⟩
        simp; omega
      rw [if_neg (by rintro ⟨e4, e3⟩; exact hs (by omega) (by rw [hst, e, e3])), if_neg (by rw [hu]; simp)]
      exact ⟨_, rfl⟩
    rw [if_neg h4]
    rw [if_neg h4] at hst
    by_cases h2 : D.kind = 2 ∨ D.kind = 3
    · rw [if_pos h2]
      rw [if_pos h2] at hst
      obtain ⟨j, x, hj, hxx⟩ := hx h2
      unfold idxTurn
      rw [if_neg (by omega), hj, if_neg (by omega)]
      simp only [Int.toNat_natCast, hxx]
      have e : stX T D.name = x.state := by
        unfold stX
        rw [hj, if_neg (by omega)]
        simp only [Int.toNat_natCast, hxx]
      rw [if_neg (by rintro ⟨e4, e3⟩; exact hs (by omega) (by rw [hst, e, e3]))]
      exact ⟨_, rfl⟩
    rw [if_neg h2]
    rw [if_neg h2] at hst
    obtain ⟨j, x, hj, hxx⟩ := hk (by omega)
    unfold keyTurn
    rw [if_neg (by omega), hj, if_neg (by omega)]
    simp only [Int.toNat_natCast, hxx]
    have e : stF T D.name = x.state := by
      unfold stF
      rw [hj, if_neg (by omega)]
      simp only [Int.toNat_natCast, hxx]
    rw [if_neg (by rintro ⟨e4, e3⟩; exact hs (by omega) (by rw [hst, e, e3]))]
    exact ⟨_, rfl⟩
  obtain ⟨S', hS'⟩ := key
  rw [hS']
  exact ⟨S', rfl⟩
/-- what is not there is free -/
theorem free_none {S : Sch} {D : Ddl} (h : SchOk S) (hk : D.kind = 4 ∨ D.kind = 5) (hs : stateOf S D = 0) : Free S D := by
  intro i T j x hi hT hj hx
  exfalso
  have ht := h.ts T (List.mem_of_getElem? hT)
  have := (ht.cs x (List.mem_of_getElem? hx)).st.1
  unfold stateOf at hs
  rw [if_neg (by omega), hi, if_neg (by omega)] at hs
  simp only [Int.toNat_natCast, hT] at hs
  rw [if_pos hk] at hs
  unfold stC at hs
  rw [hj, if_neg (by omega)] at hs
  simp only [Int.toNat_natCast, hx] at hs
  omega
end Go.Proofs.Ythepfbcgpbkbdaa
end
section
set_option linter.unusedVariables false
set_option linter.unusedSimpArgs false
set_option maxHeartbeats 1000000
set_option maxRecDepth 100000
namespace Go.Proofs.Ythepfbcgpbkbdaa
open Fw Go
theorem state_range {S : Sch} {D : Ddl} (h : SchOk S) : 0 ≤ stateOf S D ∧ stateOf S D ≤ 3 := by
  unfold stateOf
  split
  · split <;> omega
  split
  · omega
  split
  · omega
  rename_i T hT
  have ht := h.ts T (List.mem_of_getElem? hT)
  split
  · unfold stC
    split
    · omega
    split
    · rename_i x hx
      have := (ht.cs x (List.mem_of_getElem? hx)).st
      unfold StOk at this; omega
    · omega
  split
  · unfold stX
    split
    · omega
    split
    · rename_i x hx
      have := (ht.xs x (List.mem_of_getElem? hx)).1
      unfold StOk at this; omega
    · omega
  · unfold stF
    split
    · omega
    split
    · rename_i x hx
      have := (ht.ks x (List.mem_of_getElem? hx)).1
      unfold StOk at this; omega
    · omega
/-- one step is as it should be -/
structure Link (S0 : Sch) (D : Ddl) (A B : Sch) : Prop where
  a0 : SchOk A
  b0 : SchOk B
  near : 2 ≤ D.kind → D.kind ≤ 5 → stateOf B D - stateOf A D ≤ 1 ∧ stateOf A D - stateOf B D ≤ 1
  v0 : A.version ≤ B.version
  v1 : B.version ≤ A.version + 1
  rest : B.without D = S0.without D
def Chain (S0 : Sch) (D : Ddl) : Sch → List Sch → Prop
  | _, [] => True
  | A, B :: l => Link S0 D A B ∧ Chain S0 D B l
theorem Chain.at {S0 : Sch} {D : Ddl} : ∀ {l : List Sch} {A X Y : Sch} {i : Nat}, Chain S0 D A l → (A :: l)[i]? = some X → (A :: l)[i + 1]? = some Y → Link S0 D X Y
  | [], A, X, Y, i, _, _, hy => by simp at hy
  | B :: l, A, X, Y, 0, h, hx, hy => by
    simp at hx hy
    subst hx hy
    exact h.1
  | B :: l, A, X, Y, i + 1, h, hx, hy => Chain.at (l := l) (A := B) (i := i) h.2 (by simpa using hx) (by simpa using hy)
def Legal (kind : Int) : Int → List (Int × Int) → Prop
  | _, [] => True
  | st, m :: ms => if m.1 = 1 ∨ m.1 = 2 then (st ≠ 0 ∧ 0 ≤ m.2 ∧ m.2 ≤ 3 ∧ (kind = 2 ∨ kind = 4 ∨ kind = 6 → st ≠ 3) ∧ (kind ≤ 5 → m.2 - st ≤ 1 ∧ st - m.2 ≤ 1)) ∧ Legal kind m.2 ms else Legal kind st ms
instance : ∀ (kind st : Int) (ms : List (Int × Int)), Decidable (Legal kind st ms)
  | _, _, [] => isTrue trivial
  | kind, st, m :: ms => by
    unfold Legal
    have := instDecidableLegal kind m.2 ms
    have := instDecidableLegal kind st ms
    infer_instance
def lastSt : Int → List (Int × Int) → Int
  | st, [] => st
  | st, m :: ms => if m.1 = 1 ∨ m.1 = 2 then lastSt m.2 ms else lastSt st ms
/-- where a walk comes to -/
structure Ends (S0 : Sch) (D : Ddl) (S : Sch) (st : Int) (ms : List (Int × Int)) (E : Sch) : Prop where
  len : (walk D S ms).1.length = ms.length
  last : (S :: (walk D S ms).1)[ms.length]? = some E
  ok : SchOk E
  state : stateOf E D = lastSt st ms
  rest : E.without D = S0.without D
  ready : lastSt st ms ≠ 0 → Ready E D
  ver : E.version ≤ S.version + ms.length
  lst : E.last ≤ S.last + 9 * ms.length
theorem follow {S0 : Sch} {D : Ddl} (k2 : 2 ≤ D.kind) (k7 : D.kind ≤ 7) : ∀ (ms : List (Int × Int)) (S : Sch) (st : Int), SchOk S → (st ≠ 0 → Ready S D) → stateOf S D = st → S.version + ms.length ≤ 1125899906842624 → S.last + 9 * ms.length ≤ 1125899906842624 → S.without D = S0.without D → Legal D.kind st ms →
    (walk D S ms).2 = true ∧ Chain S0 D S (walk D S ms).1 ∧ ∃ E, Ends S0 D S st ms E
  | [], S, st, h, r, hs, hv, hl, hw, _ => ⟨rfl, trivial, S, rfl, rfl, h, hs, hw, r, by simp, by simp⟩
  | m :: ms, S, st, h, r, hs, hv, hl, hw, hg => by
    simp only [List.length_cons] at hv hl
    rw [walk_cons]
    by_cases hm : m.1 = 1 ∨ m.1 = 2
    · unfold Legal at hg
      rw [if_pos hm] at hg
      obtain ⟨⟨g0, g1, g2, g3, g4⟩, g5⟩ := hg
      obtain ⟨S', hS'⟩ := turn_goes h (r g0) k2 k7 g1 g2 (fun e => by rw [hs]; exact g3 e)
      have hmv : moved D S m = (S', 0) := by unfold moved; rw [if_pos hm, hS']
      have hst := turn_step (by omega) (by omega) (fun e => (r g0).free (by omega)) hS'
      have v1 := hst.ver
      have l1 := hst.last
      obtain ⟨i1, i2, E, hE⟩ := follow k2 k7 ms S' m.2 hst.ok (fun e => hst.ready (by omega) e) hst.state (by omega) (by omega) (hst.rest.trans hw) g5
      rw [hmv, if_neg (by simp)]
      dsimp only
      refine ⟨i1, ⟨⟨h, hst.ok, fun _ e5 => ?_, by omega, by omega, hst.rest.trans hw⟩, i2⟩, E, ?_⟩
      · rw [hst.state, hs]; exact g4 e5
      · have hls : lastSt st (m :: ms) = lastSt m.2 ms := by
          show (if m.1 = 1 ∨ m.1 = 2 then lastSt m.2 ms else lastSt st ms) = _
          rw [if_pos hm]
        have hwk : (walk D S (m :: ms)).1 = S' :: (walk D S' ms).1 := by rw [walk_cons, hmv, if_neg (by simp)]
        refine ⟨by rw [hwk, List.length_cons, List.length_cons, hE.len], by rw [hwk, List.length_cons, List.getElem?_cons_succ]; exact hE.last, hE.ok, by rw [hls]; exact hE.state, hE.rest, by rw [hls]; exact hE.ready, ?_, ?_⟩
        · have := hE.ver; simp only [List.length_cons]; omega
        · have := hE.lst; simp only [List.length_cons]; omega
    · unfold Legal at hg
      rw [if_neg hm] at hg
      have hmv : moved D S m = (S, 0) := by unfold moved; rw [if_neg hm]
      obtain ⟨i1, i2, E, hE⟩ := follow k2 k7 ms S st h r hs (by omega) (by omega) hw hg
      rw [hmv, if_neg (by simp)]
      dsimp only
      refine ⟨i1, ⟨⟨h, h, fun _ _ => by omega, by omega, by omega, hw⟩, i2⟩, E, ?_⟩
      have hls : lastSt st (m :: ms) = lastSt st ms := by
        show (if m.1 = 1 ∨ m.1 = 2 then lastSt m.2 ms else lastSt st ms) = _
        rw [if_neg hm]
      have hwk : (walk D S (m :: ms)).1 = S :: (walk D S ms).1 := by rw [walk_cons, hmv, if_neg (by simp)]
      refine ⟨by rw [hwk, List.length_cons, List.length_cons, hE.len], by rw [hwk, List.length_cons, List.getElem?_cons_succ]; exact hE.last, hE.ok, by rw [hls]; exact hE.state, hE.rest, by rw [hls]; exact hE.ready, ?_, ?_⟩
      · have := hE.ver; simp only [List.length_cons]; omega
      · have := hE.lst; simp only [List.length_cons]; omega
/-- a walk whose first move is a turn: refused at once, or it goes on to its end -/
theorem start {S : Sch} {D : Ddl} {st : Int} {m : Int × Int} {ms : List (Int × Int)} (hm : m.1 = 1 ∨ m.1 = 2) (h : SchOk S) (hs : stateOf S D = st) (hv : S.version ≤ 562949953421312) (hl : S.last ≤ 562949953421312) (hn : ms.length ≤ 10)
    (fr : D.kind = 4 → Free S D) (near : 2 ≤ D.kind → D.kind ≤ 5 → m.2 - st ≤ 1 ∧ st - m.2 ≤ 1) (k1 : 1 ≤ D.kind) (k7 : D.kind ≤ 7) (k0 : D.kind = 1 → ms = []) (hg : Legal D.kind m.2 ms) :
    walk D S (m :: ms) = ([], false) ∨ ((walk D S (m :: ms)).2 = true ∧ Chain S D S (walk D S (m :: ms)).1 ∧ ∃ E, (walk D S (m :: ms)).1.length = (m :: ms).length ∧ (S :: (walk D S (m :: ms)).1)[(m :: ms).length]? = some E ∧ SchOk E ∧ stateOf E D = lastSt m.2 ms ∧ E.without D = S.without D ∧
      (D.kind ≠ 1 → lastSt m.2 ms ≠ 0 → Ready E D) ∧ E.version ≤ S.version + (m :: ms).length ∧ E.last ≤ S.last + 9 * (m :: ms).length) := by
  rw [walk_cons]
  by_cases he : (moved D S m).2 ≠ 0
  · exact .inl (if_pos he)
  · rw [if_neg he]
    right
    have hmv : moved D S m = S.turn D m.2 := by unfold moved; rw [if_pos hm]
    rw [hmv] at he ⊢
    obtain ⟨S', e, hS'⟩ : ∃ S' e, S.turn D m.2 = (S', e) := ⟨_, _, rfl⟩
    rw [hS'] at he ⊢
    have he : e = 0 := by simpa using he
    subst he
    have hst := turn_step (by omega) (by omega) fr hS'
    have v1 := hst.ver
    have l1 := hst.last
    dsimp only
    have link : Link S D S S' := ⟨h, hst.ok, fun a b => by rw [hst.state, hs]; exact near a b, by omega, by omega, hst.rest⟩
    by_cases hk : D.kind = 1
    · have := k0 hk
      subst this
      refine ⟨rfl, ⟨link, trivial⟩, S', rfl, rfl, hst.ok, hst.state, hst.rest, fun e => absurd hk e, by simp; omega, by simp; omega⟩
    · obtain ⟨i1, i2, E, hE⟩ := follow (S0 := S) (by omega) k7 ms S' m.2 hst.ok (fun e => hst.ready hk e) hst.state (by omega) (by omega) hst.rest hg
      refine ⟨i1, ⟨link, i2⟩, E, by rw [List.length_cons, List.length_cons, hE.len], by rw [List.length_cons, List.getElem?_cons_succ]; exact hE.last, hE.ok, hE.state, hE.rest, fun _ => hE.ready, ?_, ?_⟩
      · have := hE.ver; simp only [List.length_cons]; omega
      · have := hE.lst; simp only [List.length_cons]; omega
def addB (k : Int) : Bool := decide (k = 1 ∨ k = 2 ∨ k = 4 ∨ k = 6)
theorem steps_plain {S : Sch} {D : Ddl} (h : SchOk S) (hv : S.version ≤ 562949953421312) (hl : S.last ≤ 562949953421312) (hb : (addB D.kind = true → stateOf S D = 0) ∧ (addB D.kind = false → stateOf S D = 3)) :
    (pathL D.kind false = [] ∧ (D.kind < 1 ∨ 7 < D.kind)) ∨ walk D S (pairs (pathL D.kind false)) = ([], false) ∨ ((walk D S (pairs (pathL D.kind false))).2 = true ∧ (walk D S (pairs (pathL D.kind false))).1.length = (pairs (pathL D.kind false)).length ∧ Chain S D S (walk D S (pairs (pathL D.kind false))).1 ∧
      ∃ E, (S :: (walk D S (pairs (pathL D.kind false))).1)[(pairs (pathL D.kind false)).length]? = some E ∧ (addB D.kind = true → stateOf E D = 3) ∧ (addB D.kind = false → stateOf E D = 0)) := by
  have main : ∀ (m : Int × Int) (ms : List (Int × Int)) (st : Int), pairs (pathL D.kind false) = m :: ms → (m.1 = 1 ∨ m.1 = 2) → stateOf S D = st → ms.length ≤ 10 → (D.kind = 4 → st = 0) → (2 ≤ D.kind → D.kind ≤ 5 → m.2 - st ≤ 1 ∧ st - m.2 ≤ 1) → 1 ≤ D.kind → D.kind ≤ 7 → (D.kind = 1 → ms = []) → Legal D.kind m.2 ms →
      ((addB D.kind = true → lastSt m.2 ms = 3) ∧ (addB D.kind = false → lastSt m.2 ms = 0)) → walk D S (pairs (pathL D.kind false)) = ([], false) ∨ ((walk D S (pairs (pathL D.kind false))).2 = true ∧ (walk D S (pairs (pathL D.kind false))).1.length = (pairs (pathL D.kind false)).length ∧ Chain S D S (walk D S (pairs (pathL D.kind false))).1 ∧
      ∃ E, (S :: (walk D S (pairs (pathL D.kind false))).1)[(pairs (pathL D.kind false)).length]? = some E ∧ (addB D.kind = true → stateOf E D = 3) ∧ (addB D.kind = false → stateOf E D = 0)) := by
    intro m ms st hp hm hs hn h4 near k1 k7 k0 hg hlast
    rw [hp]
    rcases start hm h hs hv hl hn (fun e => free_none h (by omega) (by rw [hs]; exact h4 e)) near k1 k7 k0 hg with e | ⟨e1, e2, E, e3, e4, e5, e6, e7, _⟩
    · exact .inl e
    · exact .inr ⟨e1, e3, e2, E, e4, fun a => by rw [e6]; exact hlast.1 a, fun a => by rw [e6]; exact hlast.2 a⟩
  by_cases h1 : D.kind = 1
  · refine .inr (main (1, 3) [] 0 (by rw [h1]; (first | done | rfl)) (by simp) (hb.1 (by rw [h1]; (first | done | rfl))) (by simp) (by omega) (by omega) (by omega) (by omega) (by simp) trivial ?_)
    rw [h1]; decide
  by_cases h2 : D.kind = 2
  · refine .inr (main (1, 1) [(1, 2), (3, 0), (4, 0), (1, 3)] 0 (by rw [h2]; (first | done | rfl)) (by simp) (hb.1 (by rw [h2]; (first | done | rfl))) (by simp) (by omega) (by simp) (by omega) (by omega) (by omega) (by rw [h2]; decide) ?_)
    rw [h2]; decide
  by_cases h3 : D.kind = 3
  · refine .inr (main (1, 2) [(1, 1), (3, 0), (5, 0), (1, 0)] 3 (by rw [h3]; (first | done | rfl)) (by simp) (hb.2 (by rw [h3]; (first | done | rfl))) (by simp) (by omega) (by simp) (by omega) (by omega) (by omega) (by rw [h3]; decide) ?_)
    rw [h3]; decide
  by_cases h4 : D.kind = 4
  · refine .inr (main (1, 1) [(1, 2), (3, 0), (4, 0), (2, 3)] 0 (by rw [h4]; (first | done | rfl)) (by simp) (hb.1 (by rw [h4]; (first | done | rfl))) (by simp) (by omega) (by simp) (by omega) (by omega) (by omega) (by rw [h4]; decide) ?_)
    rw [h4]; decide
  by_cases h5 : D.kind = 5
  · refine .inr (main (2, 2) [(1, 1), (1, 0)] 3 (by rw [h5]; (first | done | rfl)) (by simp) (hb.2 (by rw [h5]; (first | done | rfl))) (by simp) (by omega) (by simp) (by omega) (by omega) (by omega) (by rw [h5]; decide) ?_)
    rw [h5]; decide
  by_cases h6 : D.kind = 6
  · refine .inr (main (1, 2) [(3, 0), (4, 0), (1, 3)] 0 (by rw [h6]; (first | done | rfl)) (by simp) (hb.1 (by rw [h6]; (first | done | rfl))) (by simp) (by omega) (by omega) (by omega) (by omega) (by omega) (by rw [h6]; decide) ?_)
    rw [h6]; decide
  by_cases h7 : D.kind = 7
  · refine .inr (main (1, 0) [] 3 (by rw [h7]; (first | done | rfl)) (by simp) (hb.2 (by rw [h7]; (first | done | rfl))) (by simp) (by omega) (by omega) (by omega) (by omega) (by simp) trivial ?_)
    rw [h7]; decide
  · left
    refine ⟨?_, by omega⟩
    unfold pathL
    rw [if_neg (by simp), if_neg h1, if_neg h2, if_neg h3, if_neg h4, if_neg h5, if_neg h6, if_neg h7]
theorem without_sm {S : Sch} (h : SchOk S) (D : Ddl) : (S.without D).Sm := by
  have hs := right_sm (right_ok.2 h)
  have one : ∀ (l : List Tab), (l.flatMap (outOf D)).length ≤ l.length := by
    intro l
    induction l with
    | nil => simp
    | cons T l ih =>
      rw [List.flatMap_cons, List.length_append, List.length_cons]
      have : (outOf D T).length ≤ 1 := by unfold outOf; repeat' split
                                          all_goals simp
      omega
  refine sm_of (fun U hU => ?_) ?_
  · obtain ⟨T, hT, hU⟩ := List.mem_flatMap.1 hU
    obtain ⟨a, b, _⟩ := hs T hT
    unfold outOf at hU
    split at hU
    · have : U = T := by simpa using hU
      subst this
      exact ⟨a, by omega⟩
    split at hU
    · simp at hU
    have : U = withoutT T D := by simpa using hU
    subst this
    unfold withoutT
    refine ⟨⟨a.name, fun c hc => a.cols c ?_, fun c hc => a.idxs c ?_, fun c hc => a.keys c ?_⟩, ?_⟩
    · dsimp only at hc; split at hc
      · exact List.mem_of_mem_eraseIdx hc
      · exact hc
    · dsimp only at hc; split at hc
      · exact List.mem_of_mem_eraseIdx hc
      · exact hc
    · dsimp only at hc; split at hc
      · exact List.mem_of_mem_eraseIdx hc
      · exact hc
    · have le : ∀ {α : Type} (l : List α) (c : Prop) [Decidable c] (k : Nat), (if c then l.eraseIdx k else l).length ≤ l.length := by
        intro α l c _ k
        split
        · exact (List.eraseIdx_sublist l k).length_le
        · exact Nat.le_refl _
      unfold Tab.cost at b ⊢
      dsimp only
      have l1 := le T.cols ((D.kind = 4 ∨ D.kind = 5) ∧ 0 ≤ colAt T D.column) (colAt T D.column).toNat
      have l2 := le T.idxs ((D.kind = 2 ∨ D.kind = 3) ∧ 0 ≤ idxAt T D.name) (idxAt T D.name).toNat
      have l3 := le T.keys (6 ≤ D.kind ∧ 0 ≤ keyAt T D.name) (keyAt T D.name).toNat
      omega
  · have h1 := one S.tabs
    have h2 := h.few
    show (S.tabs.flatMap (outOf D)).length ≤ 10
    omega
end Go.Proofs.Ythepfbcgpbkbdaa
end
section
set_option linter.unusedVariables false
set_option linter.unusedSimpArgs false
set_option maxHeartbeats 1000000
set_option maxRecDepth 100000
namespace Go.Proofs.Ythepfbcgpbkbdaa
open Fw Go
attribute [-simp] Fw.W.ld_iff Fw.W.st_iff
theorem wrap_pred {k : Nat} (h : k < 4611686018427387904) : IntKind.i64.wrap (((k + 1 : Nat) : Int) - 1) = (k : Int) := by
  rw [wrap_in (by omega) (by omega)]; omega
theorem path_len (k : Int) (b : Bool) : (pairs (pathL k b)).length ≤ 10 := by
  have : (pathL k b).length ≤ 10 := by
    unfold pathL
    repeat' split
    all_goals decide
  have := pairs_len (pathL k b)
  omega
theorem pair_nil {k : Int} {b : Bool} (h : (pairs (pathL k b)).length = 0) : pathL k b = [] := by
  unfold pathL at h ⊢
  repeat' split
  all_goals first | rfl | (exfalso; revert h; simp_all [pairs])
/-- a schema of the list is read -/
theorem sch_ld {s : PH} {a : Option Addr} {n c : Nat} {l : List SchP} (hr : rowE schE s 24 a n c l) {i : Nat} {q : SchP} (hq : l[i]? = some q) {K : Den [.int .i64, .int .i64, .slice] → W.T} (hK : K (q.S.version, q.S.last, q.t, ()) s) :
    (0 ≤ (i : Int) ∧ (i : Int) < (n : Int)) ∧ W.unSome a (fun p => W.ld [.int .i64, .int .i64, .slice] (p.add (i * 3)) K) s := by
  have hi := (List.getElem?_eq_some_iff.1 hq).1
  have hn := hr.len
  obtain ⟨g, rfl, hh⟩ := hr.at hq
  refine ⟨by omega, ?_⟩
  simp only [W.unSome_some, add_mk, Nat.zero_add]
  exact ld_has_z hh (y := (q.S.version, q.S.last, q.t, ())) rfl hK
theorem ver_ld {s : PH} {a : Option Addr} {n c : Nat} {l : List SchP} (hr : rowE schE s 24 a n c l) {i : Nat} {q : SchP} (hq : l[i]? = some q) {K : Den [.int .i64] → W.T} (hK : K (q.S.version, ()) s) :
    (0 ≤ (i : Int) ∧ (i : Int) < (n : Int)) ∧ W.unSome a (fun p => W.ld [.int .i64] ((p.add (i * 3)).add 0) K) s := by
  have hi := (List.getElem?_eq_some_iff.1 hq).1
  have hn := hr.len
  obtain ⟨g, rfl, hh⟩ := hr.at hq
  refine ⟨by omega, ?_⟩
  simp only [W.unSome_some, add_mk, Nat.zero_add, Nat.add_zero]
  exact ld_has_z hh (y := (q.S.version, ())) rfl hK
theorem law_SchemaSteps {s : PH} {t : Tri} {S : Sch} {ps : List TabP} (h : SchB s t S ps) (hsm : ∀ T ∈ S.tabs, T.Sm) (D : Ddl) {u : Tri} (hu : SlB colE s u D.cols) :
    DCalls Try.prog 7 #[schV S t, ddlV D u] s fun y s' => y = .bool true ∧ Fw.Mod [] s s' := by
  obtain ⟨ta, tn, tc⟩ := t
  obtain ⟨ua, un, uc⟩ := u
  refine ok_SchemaSteps S.version S.last ta tn tc D.kind D.table D.name D.column D.parent D.unique D.type D.dflt.kind D.dflt.n D.dflt.s ua un uc _ s ?_
  unfold vc_SchemaSteps
  obtain ⟨R, hR⟩ : ∃ R : Value → PH → Prop, (fun y s' => y = .bool true ∧ Fw.Mod [] s s') = R := ⟨_, rfl⟩
  have hret : ∀ {b : Bool} {s' : PH}, b = true → Fw.Mod [] s s' → R (.bool b) s' := fun e m => by rw [← hR]; exact ⟨by rw [e], m⟩
  rw [hR]
  simp only [RP_join, RP_ite, RP_call, RP_callQ, RP_ret, RP_nw, RP_app, RP_st, RP_ld, RP_unSome, RP_guard, RP_loop, RP_still, W.unSome_some]
  obtain ⟨sv, hsv⟩ : ∃ z : Den [.int .i64, .int .i64, .slice], z = (S.version, S.last, (ta, tn, tc), ()) := ⟨_, rfl⟩
  obtain ⟨dv, hdv⟩ : ∃ z : Den [.int .i64, .str, .str, .str, .str, .bool, .int .i64, .int .i64, .int .i64, .str, .slice], z = (D.kind, D.table, D.name, D.column, D.parent, D.unique, D.type, D.dflt.kind, D.dflt.n, D.dflt.s, (ua, un, uc), ()) := ⟨_, rfl⟩
  refine W.join_gen (fun z s' => z = (sv, dv, ()) ∧ s' = s ∧ S.tabs.length + D.cols.length + wsum S.tabs ≤ 300 ∧ right S = true ∧ S.version ≤ 562949953421312 ∧ S.last ≤ 562949953421312) ?_ ?_
  rotate_left
  · intro J hJ
    refine callq ((true, ()), ()) (c_awake s) rfl ?_
    refine (W.br_iff _ _ _ _).2 ⟨fun e => (by cases e), fun _ => ?_⟩
    refine W.call_of (c_great h D (u := (ua, un, uc)) hu) ?_
    rintro _ s' ⟨⟨b, rfl, hb⟩, rfl⟩
    refine ⟨((b, ()), ()), rfl, ?_⟩
    refine (W.br_iff _ _ _ _).2 ⟨fun _ => ?_, fun e => ?_⟩
    · exact callq ((true, ()), ()) (c_awake _) rfl (hret rfl (Mod.refl _ _))
    have hg := hb e
    have hS := h.is (by omega)
    have hck := c_Check hS
    obtain ⟨er, her⟩ : ∃ e, errS S = e := ⟨_, rfl⟩
    rw [her] at hck
    refine callq ((er, ()), ()) hck rfl ?_
    refine (W.br_iff _ _ _ _).2 ⟨fun _ => ?_, fun e => ?_⟩
    · exact callq ((true, ()), ()) (c_awake _) rfl (hret rfl (Mod.refl _ _))
    have hr : right S = true := by
      have e : (er != 0) = false := e
      rw [← her] at e
      unfold errS at e
      by_cases hr : right S = true
      · exact hr
      · rw [if_neg hr] at e; simp at e
    refine (W.br_iff _ _ _ _).2 ⟨fun _ => ?_, fun e1 => ?_⟩
    · exact callq ((true, ()), ()) (c_awake _) rfl (hret rfl (Mod.refl _ _))
    refine (W.br_iff _ _ _ _).2 ⟨fun _ => ?_, fun e2 => ?_⟩
    · exact callq ((true, ()), ()) (c_awake _) rfl (hret rfl (Mod.refl _ _))
    have e1 := of_decide_eq_false e1
    have e2 := of_decide_eq_false e2
    exact hJ _ _ ⟨by rw [hsv, hdv], rfl, hg, hr, by omega, by omega⟩
  rintro _ s0 ⟨rfl, rfl, hg, hr, hv, hl⟩
  subst hsv hdv
  have hS := h.is (by omega)
  have hok := right_ok.1 hr
  have hU := hu.few (by omega)
  refine W.join_gen (fun z s' => z = ((S.version, S.last, (ta, tn, tc), ()), (D.kind, D.table, D.name, D.column, D.parent, D.unique, D.type, D.dflt.kind, D.dflt.n, D.dflt.s, (ua, un, uc), ()), (addB D.kind, ()), ()) ∧ s' = s0) ?_ ?_
  rotate_left
  · intro J hJ
    refine (W.br_iff _ _ _ _).2 ⟨fun h1 => hJ _ _ ⟨?_, rfl⟩, fun h1 => (W.br_iff _ _ _ _).2 ⟨fun h2 => hJ _ _ ⟨?_, rfl⟩, fun h2 => (W.br_iff _ _ _ _).2 ⟨fun h3 => hJ _ _ ⟨?_, rfl⟩, fun h3 => hJ _ _ ⟨?_, rfl⟩⟩⟩⟩
    · have h1 : D.kind = 1 := by simpa using h1
      have : addB D.kind = true := by rw [h1]; (first | done | rfl)
      rw [this]
    · have h2 : D.kind = 2 := by simpa using h2
      have : addB D.kind = true := by rw [h2]; (first | done | rfl)
      rw [this]
    · have h3 : D.kind = 4 := by simpa using h3
      have : addB D.kind = true := by rw [h3]; (first | done | rfl)
      rw [this]
    · have h1 : D.kind ≠ 1 := by simpa using h1
      have h2 : D.kind ≠ 2 := by simpa using h2
      have h3 : D.kind ≠ 4 := by simpa using h3
      have : (D.kind == 6) = addB D.kind := by unfold addB; rw [beq_dec]; simp [h1, h2, h3]
      dsimp only
      rw [this]
  rintro _ s1 ⟨rfl, rfl⟩
  refine W.join_gen (fun z s' => z = ((S.version, S.last, (ta, tn, tc), ()), (D.kind, D.table, D.name, D.column, D.parent, D.unique, D.type, D.dflt.kind, D.dflt.n, D.dflt.s, (ua, un, uc), ()), (addB D.kind, ()), ()) ∧ s' = s1 ∧ ((addB D.kind = true → stateOf S D = 0) ∧ (addB D.kind = false → stateOf S D = 3))) ?_ ?_
  rotate_left
  · intro J hJ
    refine callq ((stateOf S D, ()), ()) (c_rState hS D (ua, un, uc)) rfl ?_
    refine (W.br_iff _ _ _ _).2 ⟨fun ha => ?_, fun ha => ?_⟩
    · have ha : addB D.kind = true := ha
      refine (W.br_iff _ _ _ _).2 ⟨fun _ => hret rfl (Mod.refl _ _), fun h0 => ?_⟩
      have h0 : (stateOf S D != 0) = false := h0
      refine (W.br_iff _ _ _ _).2 ⟨fun e => ?_, fun _ => hJ _ _ ⟨rfl, rfl, fun _ => by simpa using h0, fun e => by rw [ha] at e; cases e⟩⟩
      have e : (!addB D.kind) = true := e
      rw [ha] at e; cases e
    · have ha : addB D.kind = false := ha
      refine (W.br_iff _ _ _ _).2 ⟨fun _ => ?_, fun e => ?_⟩
      · refine (W.br_iff _ _ _ _).2 ⟨fun _ => hret rfl (Mod.refl _ _), fun h0 => ?_⟩
        have h0 : (stateOf S D != 3) = false := h0
        exact hJ _ _ ⟨rfl, rfl, fun e => by (rw [ha] at e; cases e), fun _ => by simpa using h0⟩
      · have e : (!addB D.kind) = false := e
        rw [ha] at e; cases e
  rintro _ s2 ⟨rfl, rfl, hbeg⟩
  have hplain := steps_plain hok hv hl hbeg
  refine W.call_of (c_Path D (ua, un, uc) false s2) ?_
  rintro _ s3 ⟨⟨pa, pn, pc⟩, rfl, hp, m3⟩
  refine ⟨(((pa, pn, pc), ()), ()), rfl, ?_⟩
  have hpn : pn = (pairs (pathL D.kind false)).length := hp.len
  have hpl := path_len D.kind false
  refine W.call_of (c_walked (hS.mono m3.le) D (u := (ua, un, uc)) (hU.mono m3.le) (by omega) (mt := (pa, pn, pc)) (elems.of_row hp) (by omega)) ?_
  rintro _ s4 ⟨⟨la, ln, lc⟩, l, rfl, hrow, hlS, hall, m4⟩
  have hln : ln = l.length := hrow.len
  have hlw : l.length = (walk D S (pairs (pathL D.kind false))).1.length + 1 := by
    have := congrArg List.length hlS
    simpa using this
  refine ⟨(((la, ln, lc), ()), ((walk D S (pairs (pathL D.kind false))).2, ()), ()), rfl, ?_⟩
  have m34 := m3.trans m4
  have hgt : ∀ (i : Nat) (q : SchP), l[i]? = some q → (S :: (walk D S (pairs (pathL D.kind false))).1)[i]? = some q.S := by
    intro i q hq
    rw [← hlS, List.getElem?_map, hq]; (first | done | rfl)
  refine (W.br_iff _ _ _ _).2 ⟨fun hno => ?_, fun hyes => ?_⟩
  · have hno : (!(walk D S (pairs (pathL D.kind false))).2) = true := hno
    refine hret ?_ m34
    rcases hplain with ⟨e, _⟩ | e | ⟨e, _⟩
    · rw [e] at hno; simp [pairs, walk] at hno
    · rw [e] at hlw
      dsimp only
      rw [hln, hlw]; (first | done | rfl)
    · rw [e] at hno; cases hno
  have hyes : (!(walk D S (pairs (pathL D.kind false))).2) = false := hyes
  refine (W.br_iff _ _ _ _).2 ⟨fun h0 => ?_, fun h0 => ?_⟩
  · have h0 : pn = 0 := by
      have h0 : (((pn : Nat) : Int) == 0) = true := h0
      have : ((pn : Nat) : Int) = 0 := by simpa using h0
      omega
    have hk : D.kind < 1 ∨ 7 < D.kind := by
      rcases hplain with ⟨_, e⟩ | e | ⟨e, e2, _, E, _, e3, e4⟩
      · exact e
      · rw [e] at hyes; cases hyes
      · have := pair_nil (k := D.kind) (b := false) (by omega)
        unfold pathL at this
        by_cases h1 : D.kind = 1
        · simp [h1] at this
        by_cases h2 : D.kind = 2
        · simp [h2] at this
        by_cases h3 : D.kind = 3
        · simp [h3] at this
        by_cases h4 : D.kind = 4
        · simp [h4] at this
        by_cases h5 : D.kind = 5
        · simp [h5] at this
        by_cases h6 : D.kind = 6
        · simp [h6] at this
        by_cases h7 : D.kind = 7
        · simp [h7] at this
        omega
    refine (W.br_iff _ _ _ _).2 ⟨fun _ => hret rfl m34, fun hk1 => hret ?_ m34⟩
    have hk1 : ¬ D.kind < 1 := of_decide_eq_false hk1
    show decide (D.kind > 7) = true
    exact decide_eq_true (by omega)
  have h0 : pn ≠ 0 := by
    rintro rfl
    have h0 : (((0 : Nat) : Int) == 0) = false := h0
    simp at h0
  obtain ⟨hlen, hchain, E, hE, he3, he0⟩ : (walk D S (pairs (pathL D.kind false))).1.length = (pairs (pathL D.kind false)).length ∧ Chain S D S (walk D S (pairs (pathL D.kind false))).1 ∧
      ∃ E, (S :: (walk D S (pairs (pathL D.kind false))).1)[(pairs (pathL D.kind false)).length]? = some E ∧ (addB D.kind = true → stateOf E D = 3) ∧ (addB D.kind = false → stateOf E D = 0) := by
    rcases hplain with ⟨e, _⟩ | e | ⟨_, e1, e2, e3⟩
    · rw [e] at hpn; exact absurd hpn h0
    · rw [e] at hyes; cases hyes
    · exact ⟨e1, e2, e3⟩
  refine ⟨fun z s' => ∃ k : Nat, z = ((S.version, S.last, (ta, tn, tc), ()), (D.kind, D.table, D.name, D.column, D.parent, D.unique, D.type, D.dflt.kind, D.dflt.n, D.dflt.s, (ua, un, uc), ()), (addB D.kind, ()), ((la, ln, lc), ()), (((k + 1 : Nat) : Int), ()), ()) ∧ k + 1 ≤ ln ∧ Fw.Mod [] s4 s',
    fun z _ => ln - z.2.2.2.2.1.1.toNat, ⟨0, rfl, by omega, Mod.refl _ _⟩, ?_⟩
  rintro _ s5 ⟨k, rfl, hk, m5⟩
  have hrow5 := hrow.mod m5 (by simp)
  have m05 := m34.trans m5
  have hn10 : ln ≤ 11 := by omega
  dsimp only
  rw [wrap_pred (k := k) (by omega)]
  refine (W.br_iff _ _ _ _).2 ⟨fun hlt => ?_, fun hge => ?_⟩
  · have hlt : k + 1 < ln := by have := of_decide_eq_true hlt; omega
    obtain ⟨qa, hqa⟩ : ∃ q, l[k]? = some q := ⟨_, List.getElem?_eq_getElem (by omega)⟩
    obtain ⟨qb, hqb⟩ : ∃ q, l[k + 1]? = some q := ⟨_, List.getElem?_eq_getElem (by omega)⟩
    have link := hchain.at (hgt k qa hqa) (hgt (k + 1) qb hqb)
    obtain ⟨pa', hpa⟩ := hall qa (List.mem_of_getElem? hqa)
    obtain ⟨pb', hpb⟩ := hall qb (List.mem_of_getElem? hqb)
    have hpa := hpa.mono m5.le
    have hpb := hpb.mono m5.le
    obtain ⟨r1, r2⟩ := state_range (D := D) link.a0
    obtain ⟨r3, r4⟩ := state_range (D := D) link.b0
    have v0 := link.v0
    have v1 := link.v1
    have w0 := link.a0.v0
    have w1 := link.a0.v1
    have hver : IntKind.i64.wrap (qa.S.version + 1) = qa.S.version + 1 := wrap_in (by omega) (by omega)
    have d1 : IntKind.i64.wrap (stateOf qb.S D - stateOf qa.S D) = stateOf qb.S D - stateOf qa.S D := wrap_in (by omega) (by omega)
    have d2 : IntKind.i64.wrap (stateOf qa.S D - stateOf qb.S D) = stateOf qa.S D - stateOf qb.S D := wrap_in (by omega) (by omega)
    simp only [Int.toNat_natCast, W.guard_iff]
    have hra := right_ok.2 link.a0
    have hrb := right_ok.2 link.b0
    refine sch_ld hrow5 hqa ?_
    refine W.callQ_of ((stateOf qa.S D, ()), ()) (c_rState hpa D (ua, un, uc)) rfl ?_
    refine sch_ld hrow5 hqb ?_
    refine W.callQ_of ((stateOf qb.S D, ()), ()) (c_rState hpb D (ua, un, uc)) rfl ?_
    refine W.join_gen (fun z s' => z = ((S.version, S.last, (ta, tn, tc), ()), (D.kind, D.table, D.name, D.column, D.parent, D.unique, D.type, D.dflt.kind, D.dflt.n, D.dflt.s, (ua, un, uc), ()), (addB D.kind, ()), ((la, ln, lc), ()), (((k + 1 : Nat) : Int), ()), ()) ∧ s' = s5) ?_ ?_
    rotate_left
    · intro J hJ
      have tail : J ((S.version, S.last, (ta, tn, tc), ()), (D.kind, D.table, D.name, D.column, D.parent, D.unique, D.type, D.dflt.kind, D.dflt.n, D.dflt.s, (ua, un, uc), ()), (addB D.kind, ()), ((la, ln, lc), ()), (((k + 1 : Nat) : Int), ()), ()) s5 := hJ _ _ ⟨rfl, rfl⟩
      dsimp only
      rw [d1, d2]
      have rest : ∀ (G : W.T), G s5 → (0 ≤ ((k + 1 : Nat) : Int) ∧ ((k + 1 : Nat) : Int) < (ln : Int)) ∧ W.unSome la (fun p => W.ld [.int .i64, .int .i64, .slice] (p.add ((k + 1) * 3)) fun x => W.callQ Try.prog 19 #[.agg #[.int .i64 x.1, .int .i64 x.2.1, .slice x.2.2.1.1 x.2.2.1.2.1 x.2.2.1.2.2]] (false, [(false, [.bool])]) fun y =>
          W.br (!y.1.1) (W.ret R (.bool false)) (W.guard (0 ≤ ((k + 1 : Nat) : Int) ∧ ((k + 1 : Nat) : Int) < (ln : Int)) (W.unSome la fun p => W.ld [.int .i64] ((p.add ((k + 1) * 3)).add 0) fun x => W.guard (0 ≤ (k : Int) ∧ (k : Int) < (ln : Int)) (W.unSome la fun p => W.ld [.int .i64] ((p.add (k * 3)).add 0) fun y =>
            W.br (decide (x.1 < y.1)) (W.ret R (.bool false)) (W.guard (0 ≤ ((k + 1 : Nat) : Int) ∧ ((k + 1 : Nat) : Int) < (ln : Int)) (W.unSome la fun p => W.ld [.int .i64] ((p.add ((k + 1) * 3)).add 0) fun x => W.guard (0 ≤ (k : Int) ∧ (k : Int) < (ln : Int)) (W.unSome la fun p => W.ld [.int .i64] ((p.add (k * 3)).add 0) fun y =>
              W.br (decide (x.1 > IntKind.i64.wrap (y.1 + 1))) (W.ret R (.bool false)) G))))))) s5 := by
        intro G hG
        refine sch_ld hrow5 hqb ?_
        refine W.callQ_of ((true, ()), ()) ((c_rRight hpb).mono fun v s' hh => by rw [hrb] at hh; exact hh) rfl ?_
        refine (W.br_iff _ _ _ _).2 ⟨fun e => (by cases e), fun _ => ?_⟩
        refine (W.guard_iff _ _ _).2 (ver_ld hrow5 hqb ?_)
        refine (W.guard_iff _ _ _).2 (ver_ld hrow5 hqa ?_)
        refine (W.br_iff _ _ _ _).2 ⟨fun e => ?_, fun _ => ?_⟩
        · have e : qb.S.version < qa.S.version := of_decide_eq_true e
          omega
        refine (W.guard_iff _ _ _).2 (ver_ld hrow5 hqb ?_)
        refine (W.guard_iff _ _ _).2 (ver_ld hrow5 hqa ?_)
        dsimp only
        rw [hver]
        refine (W.br_iff _ _ _ _).2 ⟨fun e => ?_, fun _ => hG⟩
        have e : qb.S.version > qa.S.version + 1 := of_decide_eq_true e
        omega
      refine (W.br_iff _ _ _ _).2 ⟨fun k2 => ?_, fun k2 => ?_⟩
      · have k2 : D.kind ≥ 2 := of_decide_eq_true k2
        refine (W.br_iff _ _ _ _).2 ⟨fun k5 => ?_, fun k5 => ?_⟩
        · have k5 : D.kind ≤ 5 := of_decide_eq_true k5
          have near := link.near k2 k5
          refine (W.br_iff _ _ _ _).2 ⟨fun e => ?_, fun _ => ?_⟩
          · have e : stateOf qb.S D - stateOf qa.S D > 1 := of_decide_eq_true e
            omega
          refine (W.br_iff _ _ _ _).2 ⟨fun e => ?_, fun _ => ?_⟩
          · have e : stateOf qa.S D - stateOf qb.S D > 1 := of_decide_eq_true e
            omega
          exact rest _ tail
        · exact rest _ tail
      · exact rest _ tail
    rintro _ s6 ⟨rfl, rfl⟩
    dsimp only
    refine (W.guard_iff _ _ _).2 ?_
    rw [Int.toNat_natCast]
    refine sch_ld hrow5 hqb ?_
    refine W.call_of (c_rWithout hpb D (ua, un, uc)) ?_
    rintro _ s7 ⟨t1, ps1, rfl, hW1, m7⟩
    refine ⟨((0, 0, t1, ()), ()), rfl, ?_⟩
    refine W.call_of (c_rWithout ((hS.mono (m05.trans m7).le)) D (ua, un, uc)) ?_
    rintro _ s8 ⟨t2, ps2, rfl, hW2, m8⟩
    refine ⟨((0, 0, t2, ()), ()), rfl, ?_⟩
    have hsame := c_same (hW1.mono m8.le) hW2 (without_sm link.b0 D) (without_sm hok D)
    rw [decide_eq_true (by rw [link.rest])] at hsame
    refine callq ((true, ()), ()) hsame rfl ?_
    refine (W.br_iff _ _ _ _).2 ⟨fun e => (by cases e), fun _ => ?_⟩
    rw [wrap_succ (k := k + 1) (by omega)]
    exact ⟨⟨k + 1, rfl, by omega, (m5.trans m7).trans m8⟩, by simp only [Int.toNat_natCast]; omega⟩
  · have hge : k + 1 = ln := by have := of_decide_eq_false hge; omega
    obtain ⟨qa, hqa⟩ : ∃ q, l[k]? = some q := ⟨_, List.getElem?_eq_getElem (by omega)⟩
    have hqE : qa.S = E := by
      have h1 := hgt k qa hqa
      have : k = (pairs (pathL D.kind false)).length := by omega
      rw [this, hE] at h1
      exact (Option.some.inj h1).symm
    obtain ⟨pa', hpa⟩ := hall qa (List.mem_of_getElem? hqa)
    have hpa := hpa.mono m5.le
    have hw : IntKind.i64.wrap (((ln : Nat) : Int) - 1) = (k : Int) := by rw [← hge]; exact wrap_pred (by omega)
    rw [hw]
    simp only [Int.toNat_natCast, W.guard_iff]
    refine sch_ld hrow5 hqa ?_
    rw [← hqE] at he3 he0
    refine W.callQ_of ((stateOf qa.S D, ()), ()) (c_rState hpa D (ua, un, uc)) rfl ?_
    refine (W.br_iff _ _ _ _).2 ⟨fun ha => ?_, fun ha => ?_⟩
    · refine (W.br_iff _ _ _ _).2 ⟨fun _ => hret rfl m05, fun e => ?_⟩
      have e : (stateOf qa.S D == 3) = false := e
      rw [he3 ha] at e; simp at e
    · refine (W.br_iff _ _ _ _).2 ⟨fun _ => hret ?_ m05, fun e => ?_⟩
      · dsimp only
        rw [he0 ha]; (first | done | rfl)
      · have e : (!addB D.kind) = false := e
        have ha : addB D.kind = false := ha
        rw [ha] at e; cases e
theorem c_SchemaSteps {s : PH} {cs ds : Array Value} {S : Sch} {D : Ddl} (h : rdSch.is s cs.toList S) (k : rdDdl.is s ds.toList D) : DCalls Try.prog 7 #[.agg cs, .agg ds] s fun y s' => y = .bool true ∧ Fw.Mod [] s s' := by
  obtain ⟨t, ps, e, hB, hsm⟩ := rdSch_is h
  obtain ⟨u, e2, hU⟩ := rdDdl_is k
  rw [agg_arr e, agg_arr e2]
  exact law_SchemaSteps hB hsm D hU
end Go.Proofs.Ythepfbcgpbkbdaa
end
