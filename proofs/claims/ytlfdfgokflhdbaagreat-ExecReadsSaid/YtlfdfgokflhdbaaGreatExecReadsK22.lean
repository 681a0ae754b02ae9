/-
  Part 22 for the law: lemmas.
  Conditions: none.
-/
import Derived.Test.YtlfdfgokflhdbaaGreatExecReadsK21
set_option linter.unusedVariables false
set_option linter.unusedSimpArgs false
set_option linter.unusedSectionVars false
section
namespace Fw
open Go
open Go.ChangeShapes Go.WideShapes Go.ChangeAt Go.RowKit Go.Deep
structure Rd (α : Type) where
 sz : Nat
 is : PH → List Value → α → Prop
 len : ∀ {s cs x}, is s cs x → cs.length = sz
 mono : ∀ {s s' cs x}, s.le s' → is s cs x → is s' cs x
def Rd.int (k : IntKind) : Rd Int where
 sz := 1
 is _ cs n := cs = [.int k n] ∧ (Lit.int k n).wf = true
 len h := by rw [h.1]; (first | done | rfl)
 mono _ h := h
def Rd.bool : Rd Bool where
 sz := 1
 is _ cs b := cs = [.bool b]
 len h := by rw [h]; (first | done | rfl)
 mono _ h := h
def Rd.str : Rd BA where
 sz := 1
 is _ cs t := cs = [.string t] ∧ t.size ≤ reachBytes
 len h := by rw [h.1]; (first | done | rfl)
 mono _ h := h
def Rd.unit : Rd Unit where
 sz := 0
 is _ cs _ := cs = []
 len h := by rw [h]; (first | done | rfl)
 mono _ h := h
def Rd.pair {α β : Type} (R : Rd α) (S : Rd β) : Rd (α × β) where
 sz := R.sz + S.sz
 is s cs x := ∃ c1 c2, cs = c1 ++ c2 ∧ R.is s c1 x.1 ∧ S.is s c2 x.2
 len := by rintro s cs x ⟨c1, c2, rfl, h1, h2⟩; rw [List.length_append, R.len h1, S.len h2]
 mono := by rintro s s' cs x h ⟨c1, c2, rfl, h1, h2⟩; exact ⟨c1, c2, rfl, R.mono h h1, S.mono h h2⟩
def Rd.map {α β : Type} (R : Rd α) (f : α → β) : Rd β where
 sz := R.sz
 is s cs y := ∃ x, y = f x ∧ R.is s cs x
 len := by rintro s cs x ⟨y, _, h⟩; exact R.len h
 mono := by rintro s s' cs x h ⟨y, e, h1⟩; exact ⟨y, e, R.mono h h1⟩
def elems {α : Type} (R : Rd α) (s : PH) (a : OA) (n : Nat) (xs : List α) : Prop :=
 n = xs.length ∧ ∀ i x, xs[i]? = some x → ∃ ad cs, a = some ad ∧ R.is s cs x ∧ s.has (ad.add (i * R.sz)) cs
theorem PH.has.mono {s s' : PH} (h : s.le s') {a : Addr} {vs : List Value} (k : s.has a vs) : s'.has a vs := fun i v hv => h.cell (k i v hv)
theorem elems.mono {α : Type} {R : Rd α} {s s' : PH} {a : OA} {n : Nat} {xs : List α} (h : elems R s a n xs) (hm : s.le s') : elems R s' a n xs :=
 ⟨h.1, fun i x hx => by obtain ⟨ad, cs, h1, h2, h3⟩ := h.2 i x hx; exact ⟨ad, cs, h1, R.mono hm h2, h3.mono hm⟩⟩
def Rd.sl {α : Type} (R : Rd α) (bytes : Nat) : Rd (List α) where
 sz := 1
 is s cs xs := ∃ a n c, cs = [.slice a n c] ∧ n ≤ c ∧ c ≤ maxLen ∧ c * bytes ≤ reachBytes ∧ elems R s a n xs
 len := by rintro s cs x ⟨a, n, c, rfl, _⟩; (first | done | rfl)
 mono := by rintro s s' cs x h ⟨a, n, c, h1, h2, h3, h4, h5⟩; exact ⟨a, n, c, h1, h2, h3, h4, h5.mono h⟩
theorem PH.has.sub {s : PH} {a : Addr} {l1 l2 l3 : List Value} (h : s.has a (l1 ++ l2 ++ l3)) : s.has (a.add l1.length) l2 := by
 intro i v hv;have hi := (List.getElem?_eq_some_iff.1 hv).1;rw [add_add];refine h (l1.length + i) v ?_;rw [List.append_assoc, List.getElem?_append_right (by omega), Nat.add_sub_cancel_left, List.getElem?_append_left hi]; exact hv
def cZ {α : Type} (P : Program) (t : TypeId) (R : Rd α) : Prop :=
 P.cellsOf t = R.sz ∧ ∀ {H : Type} (enc : TypeId × Value → H) (W : World) (fuel : Nat) (cs : List Value) (x : DataW H × List MemPlace),
  DataW.trod enc P W 0 (fun _ => true) true fuel t cs = some x → (x.1.weights P t).all (· ≤ reachBytes) = true → ∃ v, R.is (whole W) cs v
section
variable {P : Program} {t : TypeId}
theorem w4 {k : IntKind} (ht : P.underlying t = some (.int k)) (hc : P.cellsOf t = 1) : cZ P t (Rd.int k) := by
 refine ⟨hc, ?_⟩;intro H enc W fuel cs x h hw;obtain ⟨n, rfl, rfl, hn⟩ := DataW.trod_int ht h;exact ⟨n, rfl, hn⟩
theorem DG (ht : P.underlying t = some .bool) (hc : P.cellsOf t = 1) : cZ P t Rd.bool := by
 refine ⟨hc, ?_⟩;intro H enc W fuel cs x h hw;obtain ⟨n, rfl, rfl⟩ := DataW.trod_bool ht h;exact ⟨n, rfl⟩
theorem Fv (ht : P.underlying t = some .string) (hc : P.cellsOf t = 1) : cZ P t Rd.str := by
 refine ⟨hc, ?_⟩;intro H enc W fuel cs x h hw;obtain ⟨t, rfl, rfl, hn⟩ := DataW.trod_string ht h;exact ⟨t, rfl, by simpa [DataW.weights] using hw⟩
theorem oD {H : Type} {e : TypeId} {p : Nat → Bool} : ∀ {l : List (DataW H)}, (DataW.weightsAll P e l).all p = true → ∀ d ∈ l, (d.weights P e).all p = true
 | [], _, _, h => by simp at h
 | x :: l, h, d, hd => by
  simp only [DataW.weightsAll, List.all_append, Bool.and_eq_true] at h;rcases List.mem_cons.1 hd with rfl | hd
  ·exact h.1
  ·exact oD h.2 d hd
theorem zJ {W : World} {a : Addr} {n : Nat} {cs : List Value} (h : W.cells? 0 a n = some cs) : cs.length = n ∧ (whole W).has a cs := by
 obtain ⟨_, h1, h2⟩ := World.cells?_some h;refine ⟨h1, fun i v hv => ?_⟩;rw [D1, h2 i (by have := (List.getElem?_eq_some_iff.1 hv).1; omega)]; exact hv
theorem kV {α : Type} {R : Rd α} {e : TypeId} {bytes : Nat} (he : cZ P e R) (ht : P.underlying t = some (.slice e)) (hc : P.cellsOf t = 1) (hb : P.bytesOf e = bytes) : cZ P t (R.sl bytes) := by
 subst hb;refine ⟨hc, ?_⟩;intro H enc W fuel cs x h hw;rcases open_slice ht h with ⟨rfl, rfl⟩ | ⟨a, len, cap, m, n, D, Pl, rfl, _, hl, hm, hmm, rfl, hx⟩
 ·exact ⟨[], none, 0, 0, rfl, Nat.le_refl _, by simp, by simp, rfl, fun i x hx => by simp at hx⟩
 ·simp only [if_true] at hmm;subst hmm;simp only [DataW.weights, ht, List.all_cons, List.all_append, Bool.and_eq_true, decide_eq_true_eq, List.length_map, List.length_range] at hw;obtain ⟨w1, w2, w3⟩ := hw
  have hall : ∀ i, i < len → ∃ y : Option α, ∃ z cs', y = some z ∧ R.is (whole W) cs' z ∧ (whole W).has (a.add (i * R.sz)) cs' := by
   intro i hi;obtain ⟨cs', h1, h2⟩ := hx i (by omega);rw [he.1] at h1;obtain ⟨h3, h4⟩ := zJ h1;obtain ⟨v, hv⟩ := he.2 enc W n cs' _ h2 (oD w2 _ (List.mem_map.2 ⟨i, List.mem_range.2 hi, rfl⟩));exact ⟨some v, v, cs', rfl, hv, h4⟩
  obtain ⟨f, hf⟩ := choose_lt (α := Option α) hall
  have hlen : ((List.range len).filterMap f).length = len ∧ ∀ i, i < len → ((List.range len).filterMap f)[i]? = f i := by
   have : (List.range len).map f = ((List.range len).filterMap f).map some := by
    apply List.ext_getElem?;intro i
    have key : ∀ l : List Nat, (∀ i ∈ l, (f i).isSome = true) → l.map f = (l.filterMap f).map some := by
     intro l
     induction l with
     | nil => intro _; (first | done | rfl)
     | cons x l ih =>
      intro hl;obtain ⟨y, hy⟩ := Option.isSome_iff_exists.1 (hl x (by simp));simp [List.filterMap_cons, hy, ih (fun i hi => hl i (by simp [hi]))]
    rw [key _ fun i hi => by obtain ⟨z, cs', h1, _⟩ := hf i (List.mem_range.1 hi); simp [h1]]
   have h1 := congrArg List.length this;simp at h1;refine ⟨h1.symm, fun i hi => ?_⟩;have h2 := congrArg (fun l => l[i]?) this;simp only [List.getElem?_map] at h2;obtain ⟨z, cs', hz, _⟩ := hf i hi;rw [List.getElem?_range hi] at h2;simp only [Option.map_some] at h2
   cases hg : ((List.range len).filterMap f)[i]? with
   | none => rw [hg] at h2; simp at h2
   | some y => rw [hg] at h2; simp at h2; exact h2.symm
  refine ⟨(List.range len).filterMap f, some a, len, _, rfl, hl, hm, ?_, hlen.1.symm, ?_⟩
  ·have : len + (m - len) = m := by omega
   rwa [this] at w1
  ·intro i x hx
   have hi : i < len := by have := (List.getElem?_eq_some_iff.1 hx).1; omega
   rw [hlen.2 i hi] at hx;obtain ⟨z, cs', h1, h2, h3⟩ := hf i hi;rw [h1] at hx; cases hx;exact ⟨a, cs', rfl, h2, h3⟩
theorem gV {α β : Type} {R : Rd α} (f : α → β) (h : cZ P t R) : cZ P t (R.map f) :=
 ⟨h.1, fun enc W fuel cs x hx hw => by obtain ⟨v, hv⟩ := h.2 enc W fuel cs x hx hw; exact ⟨f v, v, rfl, hv⟩⟩
inductive nK (P : Program) : Nat → List Field → (α : Type) → Rd α → Prop
 | nil (off : Nat) : nK P off [] Unit Rd.unit
 | cons {off : Nat} {f : Field} {fs : List Field} {α β : Type} {R : Rd α} {S : Rd β} : f.offset = off → cZ P f.type R → nK P (off + R.sz) fs β S → nK P off (f :: fs) (α × β) (Rd.pair R S)
theorem Js {H : Type} (enc : TypeId × Value → H) (W : World) (fuel : Nat) {off : Nat} {fs : List Field} {α : Type} {R : Rd α} (h : nK P off fs α R) :
  ∀ (cs : List Value) (xs : List (DataW H × List MemPlace)), cs.length = off + R.sz →
   (fs.mapM fun f => DataW.trod enc P W 0 (fun _ => true) true fuel f.type ((cs.drop f.offset).take (P.cellsOf f.type))) = some xs →
   (DataW.weightsEach P (fs.map (·.type)) (xs.map (·.1))).all (· ≤ reachBytes) = true → ∃ v, R.is (whole W) (cs.drop off) v := by
 induction h with
 | nil off =>
  intro cs xs hl hx hw;refine ⟨(), ?_⟩;simp [Rd.unit] at hl;simp [Rd.unit, hl]
 | @cons off f fs α β R S ho hR hS ih =>
  intro cs xs hl hx hw;rw [List.mapM_cons] at hx
  cases h1 : DataW.trod enc P W 0 (fun _ => true) true fuel f.type ((cs.drop f.offset).take (P.cellsOf f.type)) with
  | none => rw [h1] at hx; cases hx
  | some y =>
   rw [h1] at hx
   cases h2 : (fs.mapM fun f => DataW.trod enc P W 0 (fun _ => true) true fuel f.type ((cs.drop f.offset).take (P.cellsOf f.type))) with
   | none => simp [h2] at hx
   | some ys =>
    simp [h2] at hx;subst hx;simp only [List.map_cons, DataW.weightsEach, List.all_append, Bool.and_eq_true] at hw;simp only [Rd.pair] at hl;obtain ⟨v, hv⟩ := hR.2 enc W fuel _ _ h1 hw.1;obtain ⟨u, hu⟩ := ih cs ys (by omega) h2 hw.2;rw [ho, hR.1] at hv;refine ⟨(v, u), (cs.drop off).take R.sz, (cs.drop off).drop R.sz, (List.take_append_drop _ _).symm, hv, ?_⟩;rw [List.drop_drop]; exact hu
theorem fj {α : Type} {R : Rd α} {fs : Array Field} (h : nK P 0 fs.toList α R) (ht : P.underlying t = some (.struct fs)) (hc : P.cellsOf t = R.sz) : cZ P t R := by
 refine ⟨hc, ?_⟩;intro H enc W fuel cs x hx hw
 cases fuel with
 | zero => simp [DataW.trod] at hx
 | succ fuel =>
  unfold DataW.trod at hx;rw [ht] at hx;simp only at hx
  split at hx
  ·rename_i hl
   simp only [Option.map_eq_some_iff] at hx;obtain ⟨xs, h1, rfl⟩ := hx;simp only [DataW.weights, ht] at hw;obtain ⟨v, hv⟩ := Js enc W fuel h cs xs (by rw [hl, hc]; simp) h1 hw;exact ⟨v, by simpa using hv⟩
  ·cases hx
theorem wZ {α : Type} {R : Rd α} (h : cZ P t R) {H : Type} {enc : TypeId × Value → H} {W : World} {v : Value} {d : DataW H} {ps : List MemPlace} (hd : DataW.Trod enc P W 0 (fun _ => true) true t v d ps)
  (hw : (d.weights P t).all (· ≤ reachBytes) = true) : ∃ x, R.is (whole W) v.cells.toList x := by
 obtain ⟨fuel, hf⟩ := hd;exact h.2 enc W fuel _ _ hf hw
theorem qG {α : Type} {R : Rd α} {e : TypeId} {bytes : Nat} (he : cZ P e R) (ht : P.underlying t = some (.slice e)) (hc : P.cellsOf t = 1) (hb : P.bytesOf e = bytes) {H : Type} {enc : TypeId × Value → H} {W : World} {base : Nat} {v : Value} {d : DataW H}
  {ps : List MemPlace} (hval : Value.okWide P W .any base t v) (hd : DataW.Trod enc P W 0 (fun _ => true) true t v d ps) (hw : (d.weights P t).all (· ≤ reachBytes) = true) : ∃ a n c xs, v = .slice a n c ∧ elems R (whole W) a n xs ∧ n ≤ c ∧ c * bytes ≤ reachBytes := by
 obtain ⟨a, n, c, rfl⟩ := okWide_slice ht hval;obtain ⟨x, a', n', c', h1, h2, h3, h4, h5⟩ := wZ (kV he ht hc hb) hd hw;simp [Value.cells] at h1;obtain ⟨rfl, rfl, rfl⟩ := h1;exact ⟨a, n, c, x, rfl, h5, h2, h4⟩
theorem Hv {α : Type} {R : Rd α} {fs : Array Field} (he : cZ P t R) (ht : P.underlying t = some (.struct fs)) {H : Type} {enc : TypeId × Value → H} {W : World} {base : Nat} {v : Value} {d : DataW H}
  {ps : List MemPlace} (hval : Value.okWide P W .any base t v) (hd : DataW.Trod enc P W 0 (fun _ => true) true t v d ps) (hw : (d.weights P t).all (· ≤ reachBytes) = true) : ∃ cs x, v = .agg cs ∧ R.is (whole W) cs.toList x := by
 unfold Value.okWide at hval;rw [ht] at hval;obtain ⟨cs, rfl, _⟩ := hval;obtain ⟨x, hx⟩ := wZ he hd hw;exact ⟨cs, x, rfl, by simpa [Value.cells] using hx⟩
theorem wf_i64 {n : Int} (h : (Lit.int .i64 n).wf = true) : -9223372036854775808 ≤ n ∧ n ≤ 9223372036854775807 := by
 have h1 : IntKind.i64.min = -9223372036854775808 := rfl;have h2 : IntKind.i64.max = 9223372036854775807 := rfl;simp only [Lit.wf, Bool.and_eq_true, decide_eq_true_eq] at h;omega
end
end Fw
end
