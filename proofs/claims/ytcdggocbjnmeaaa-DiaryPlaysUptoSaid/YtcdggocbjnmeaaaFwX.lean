/-
  The framework, part X: how much an argument holds ('bulk'), beside what it reads as.
  Conditions: none; a library text, it proves no statement by itself.
-/
import Derived.Test.YtcdggocbjnmeaaaFwO
import Derived.Test.YtcdggocbjnmeaaaRows
set_option linter.unusedVariables false
set_option linter.unusedSectionVars false
set_option linter.unusedSimpArgs false
namespace Fw
open Go
open Go.ChangeShapes Go.WideShapes Go.ChangeAt Go.RowKit Go.Deep
open Go.Proofs.Ytcdggocbjnmeaaa.Rows (uptoBulk uptoBulkAll)

def OpensM {α : Type} (P : Program) (t : TypeId) (R : Rd α) (μ : α → Nat) : Prop :=
  P.cellsOf t = R.sz ∧ ∀ {H : Type} (enc : TypeId × Value → H) (W : World) (fuel : Nat) (cs : List Value) (x : DataW H × List MemPlace),
    DataW.trod enc P W 0 (fun _ => true) true fuel t cs = some x → (x.1.weights P t).all (· ≤ reachBytes) = true → ∃ v, R.is (whole W) cs v ∧ μ v ≤ uptoBulk x.1

section
variable {P : Program} {t : TypeId}
theorem openm_int {k : IntKind} (ht : P.underlying t = some (.int k)) (hc : P.cellsOf t = 1) : OpensM P t (Rd.int k) fun _ => 1 := by
  refine ⟨hc, ?_⟩
  intro H enc W fuel cs x h hw
  obtain ⟨n, rfl, rfl, hn⟩ := DataW.trod_int ht h
  exact ⟨n, ⟨rfl, hn⟩, by simp [uptoBulk]⟩
theorem openm_bool (ht : P.underlying t = some .bool) (hc : P.cellsOf t = 1) : OpensM P t Rd.bool fun _ => 1 := by
  refine ⟨hc, ?_⟩
  intro H enc W fuel cs x h hw
  obtain ⟨n, rfl, rfl⟩ := DataW.trod_bool ht h
  exact ⟨n, rfl, by simp [uptoBulk]⟩
theorem openm_str (ht : P.underlying t = some .string) (hc : P.cellsOf t = 1) : OpensM P t Rd.str fun s => s.size + 1 := by
  refine ⟨hc, ?_⟩
  intro H enc W fuel cs x h hw
  obtain ⟨t, rfl, rfl, hn⟩ := DataW.trod_string ht h
  refine ⟨t, ⟨rfl, by simpa [DataW.weights] using hw⟩, ?_⟩
  simp only [uptoBulk]
  have : t.data.toList.length = t.size := by rw [Array.length_toList]; rfl
  omega
theorem bulk_sum {α H : Type} {μ : α → Nat} {f : Nat → Option α} {D : Nat → DataW H} : ∀ (l : List Nat), (∀ i ∈ l, ∃ z, f i = some z ∧ μ z ≤ uptoBulk (D i)) → ((l.filterMap f).map μ).sum ≤ uptoBulkAll (l.map D)
  | [], _ => by simp
  | i :: l, h => by
    obtain ⟨z, h1, h2⟩ := h i (by simp)
    have ih := bulk_sum (μ := μ) (D := D) l fun j hj => h j (by simp [hj])
    rw [List.filterMap_cons, h1]
    simp only [List.map_cons, List.sum_cons, uptoBulkAll]
    omega
theorem openm_sl {α : Type} {R : Rd α} {μ : α → Nat} {e : TypeId} {bytes : Nat} (he : OpensM P e R μ) (ht : P.underlying t = some (.slice e)) (hc : P.cellsOf t = 1) (hb : P.bytesOf e = bytes) : OpensM P t (R.sl bytes) fun xs => (xs.map μ).sum + 1 := by
  subst hb
  refine ⟨hc, ?_⟩
  intro H enc W fuel cs x h hw
  rcases open_slice ht h with ⟨rfl, rfl⟩ | ⟨a, len, cap, m, n, D, Pl, rfl, _, hl, hm, hmm, rfl, hx⟩
  · exact ⟨[], ⟨none, 0, 0, rfl, Nat.le_refl _, by simp, by simp, rfl, fun i x hx => by simp at hx⟩, by simp [uptoBulk]⟩
  · simp only [if_true] at hmm
    subst hmm
    simp only [DataW.weights, ht, List.all_cons, List.all_append, Bool.and_eq_true, decide_eq_true_eq, List.length_map, List.length_range] at hw
    obtain ⟨w1, w2, w3⟩ := hw
    have hall : ∀ i, i < len → ∃ y : Option α, ∃ z cs', y = some z ∧ R.is (whole W) cs' z ∧ (whole W).has (a.add (i * R.sz)) cs' ∧ μ z ≤ uptoBulk (D i) := by
      intro i hi
      obtain ⟨cs', h1, h2⟩ := hx i (by omega)
      rw [he.1] at h1
      obtain ⟨h3, h4⟩ := has_of_cells h1
      obtain ⟨v, hv, hmu⟩ := he.2 enc W n cs' _ h2 (weightsAll_mem w2 _ (List.mem_map.2 ⟨i, List.mem_range.2 hi, rfl⟩))
      exact ⟨some v, v, cs', rfl, hv, h4, hmu⟩
    obtain ⟨f, hf⟩ := choose_lt (α := Option α) hall
    have hlen : ((List.range len).filterMap f).length = len ∧ ∀ i, i < len → ((List.range len).filterMap f)[i]? = f i := by
      have : (List.range len).map f = ((List.range len).filterMap f).map some := by
        apply List.ext_getElem?
        intro i
        have key : ∀ l : List Nat, (∀ i ∈ l, (f i).isSome = true) → l.map f = (l.filterMap f).map some := by
          intro l
          induction l with
          | nil => intro _; rfl
          | cons x l ih =>
            intro hl
            obtain ⟨y, hy⟩ := Option.isSome_iff_exists.1 (hl x (by simp))
            simp [List.filterMap_cons, hy, ih (fun i hi => hl i (by simp [hi]))]
        rw [key _ fun i hi => by obtain ⟨z, cs', h1, _⟩ := hf i (List.mem_range.1 hi); simp [h1]]
      have h1 := congrArg List.length this
      simp at h1
      refine ⟨h1.symm, fun i hi => ?_⟩
      have h2 := congrArg (fun l => l[i]?) this
      simp only [List.getElem?_map] at h2
      obtain ⟨z, cs', hz, _⟩ := hf i hi
      rw [List.getElem?_range hi] at h2
      simp only [Option.map_some] at h2
      cases hg : ((List.range len).filterMap f)[i]? with
      | none => rw [hg] at h2; simp at h2
      | some y => rw [hg] at h2; simp at h2; exact h2.symm
    refine ⟨(List.range len).filterMap f, ⟨some a, len, _, rfl, hl, hm, ?_, hlen.1.symm, ?_⟩, ?_⟩
    · have : len + (m - len) = m := by omega
      rwa [this] at w1
    · intro i x hx
      have hi : i < len := by have := (List.getElem?_eq_some_iff.1 hx).1; omega
      rw [hlen.2 i hi] at hx
      obtain ⟨z, cs', h1, h2, h3, _⟩ := hf i hi
      rw [h1] at hx; cases hx
      exact ⟨a, cs', rfl, h2, h3⟩
    · have := bulk_sum (μ := μ) (f := f) (D := D) (List.range len) fun i hi => by
        obtain ⟨z, cs', h1, _, _, h4⟩ := hf i (List.mem_range.1 hi)
        exact ⟨z, h1, h4⟩
      simp only [uptoBulk]
      omega
theorem openm_map {α β : Type} {R : Rd α} {μ : α → Nat} {ν : β → Nat} (f : α → β) (h : OpensM P t R μ) (hν : ∀ x, ν (f x) ≤ μ x) : OpensM P t (R.map f) ν :=
  ⟨h.1, fun enc W fuel cs x hx hw => by obtain ⟨v, hv, hm⟩ := h.2 enc W fuel cs x hx hw; exact ⟨f v, ⟨v, rfl, hv⟩, Nat.le_trans (hν v) hm⟩⟩
inductive OpensMFs (P : Program) : Nat → List Field → (α : Type) → Rd α → (α → Nat) → Prop
  | nil (off : Nat) : OpensMFs P off [] Unit Rd.unit fun _ => 0
  | cons {off : Nat} {f : Field} {fs : List Field} {α β : Type} {R : Rd α} {S : Rd β} {μ : α → Nat} {ν : β → Nat} : f.offset = off → OpensM P f.type R μ → OpensMFs P (off + R.sz) fs β S ν → OpensMFs P off (f :: fs) (α × β) (Rd.pair R S) fun x => μ x.1 + ν x.2
theorem openmFs {H : Type} (enc : TypeId × Value → H) (W : World) (fuel : Nat) {off : Nat} {fs : List Field} {α : Type} {R : Rd α} {μ : α → Nat} (h : OpensMFs P off fs α R μ) :
    ∀ (cs : List Value) (xs : List (DataW H × List MemPlace)), cs.length = off + R.sz →
      (fs.mapM fun f => DataW.trod enc P W 0 (fun _ => true) true fuel f.type ((cs.drop f.offset).take (P.cellsOf f.type))) = some xs →
      (DataW.weightsEach P (fs.map (·.type)) (xs.map (·.1))).all (· ≤ reachBytes) = true → ∃ v, R.is (whole W) (cs.drop off) v ∧ μ v ≤ uptoBulkAll (xs.map (·.1)) := by
  induction h with
  | nil off =>
    intro cs xs hl hx hw
    refine ⟨(), ?_, Nat.zero_le _⟩
    simp [Rd.unit] at hl
    simp [Rd.unit, hl]
  | @cons off f fs α β R S μ ν ho hR hS ih =>
    intro cs xs hl hx hw
    rw [List.mapM_cons] at hx
    cases h1 : DataW.trod enc P W 0 (fun _ => true) true fuel f.type ((cs.drop f.offset).take (P.cellsOf f.type)) with
    | none => rw [h1] at hx; cases hx
    | some y =>
      rw [h1] at hx
      cases h2 : (fs.mapM fun f => DataW.trod enc P W 0 (fun _ => true) true fuel f.type ((cs.drop f.offset).take (P.cellsOf f.type))) with
      | none => simp [h2] at hx
      | some ys =>
        simp [h2] at hx
        subst hx
        simp only [List.map_cons, DataW.weightsEach, List.all_append, Bool.and_eq_true] at hw
        simp only [Rd.pair] at hl
        obtain ⟨v, hv, hm1⟩ := hR.2 enc W fuel _ _ h1 hw.1
        obtain ⟨u, hu, hm2⟩ := ih cs ys (by omega) h2 hw.2
        rw [ho, hR.1] at hv
        refine ⟨(v, u), ⟨(cs.drop off).take R.sz, (cs.drop off).drop R.sz, (List.take_append_drop _ _).symm, hv, ?_⟩, ?_⟩
        · rw [List.drop_drop]; exact hu
        · simp only [List.map_cons, uptoBulkAll]; omega
theorem openm_struct {α : Type} {R : Rd α} {μ : α → Nat} {fs : Array Field} (h : OpensMFs P 0 fs.toList α R μ) (ht : P.underlying t = some (.struct fs)) (hc : P.cellsOf t = R.sz) : OpensM P t R fun x => μ x + 1 := by
  refine ⟨hc, ?_⟩
  intro H enc W fuel cs x hx hw
  cases fuel with
  | zero => simp [DataW.trod] at hx
  | succ fuel =>
    unfold DataW.trod at hx
    rw [ht] at hx
    simp only at hx
    split at hx
    · rename_i hl
      simp only [Option.map_eq_some_iff] at hx
      obtain ⟨xs, h1, rfl⟩ := hx
      simp only [DataW.weights, ht] at hw
      obtain ⟨v, hv, hm⟩ := openmFs enc W fuel h cs xs (by rw [hl, hc]; simp) h1 hw
      exact ⟨v, by simpa using hv, by simp only [uptoBulk]; omega⟩
    · cases hx
theorem openm_arg {α : Type} {R : Rd α} {μ : α → Nat} (h : OpensM P t R μ) {H : Type} {enc : TypeId × Value → H} {W : World} {v : Value} {d : DataW H} {ps : List MemPlace} (hd : DataW.Trod enc P W 0 (fun _ => true) true t v d ps)
    (hw : (d.weights P t).all (· ≤ reachBytes) = true) : ∃ x, R.is (whole W) v.cells.toList x ∧ μ x ≤ uptoBulk d := by
  obtain ⟨fuel, hf⟩ := hd
  exact h.2 enc W fuel _ _ hf hw
theorem openm_list {α : Type} {R : Rd α} {μ : α → Nat} {e : TypeId} {bytes : Nat} (he : OpensM P e R μ) (ht : P.underlying t = some (.slice e)) (hc : P.cellsOf t = 1) (hb : P.bytesOf e = bytes) {H : Type} {enc : TypeId × Value → H} {W : World} {base : Nat} {v : Value} {d : DataW H}
    {ps : List MemPlace} (hval : Value.okWide P W .any base t v) (hd : DataW.Trod enc P W 0 (fun _ => true) true t v d ps) (hw : (d.weights P t).all (· ≤ reachBytes) = true) : ∃ a n c xs, v = .slice a n c ∧ elems R (whole W) a n xs ∧ n ≤ c ∧ c * bytes ≤ reachBytes ∧ (xs.map μ).sum ≤ uptoBulk d := by
  obtain ⟨a, n, c, rfl⟩ := okWide_slice ht hval
  obtain ⟨x, ⟨a', n', c', h1, h2, h3, h4, h5⟩, h6⟩ := openm_arg (openm_sl he ht hc hb) hd hw
  simp [Value.cells] at h1
  obtain ⟨rfl, rfl, rfl⟩ := h1
  exact ⟨a, n, c, x, rfl, h5, h2, h4, by omega⟩
end
end Fw
