/-
  The drive and the document's: they go together (no heap in sight).
  Conditions: none; it proves no statement by itself.
-/
import Derived.Test.YtcdggocbjnmeaaaDC6
set_option linter.unusedVariables false
set_option linter.unusedSimpArgs false
set_option maxHeartbeats 1000000
attribute [-simp] Fw.W.ld_iff Fw.W.st_iff
namespace Go.Proofs.Ytcdggocbjnmeaaa
open Fw Go

/-! ## the order of names -/
theorem stL_eq : ∀ {x y : List UInt8}, stL x y = 0 ↔ x = y
  | [], [] => by simp [stL]
  | [], b :: y => by simp [stL]
  | a :: x, [] => by simp [stL]
  | a :: x, b :: y => by
    simp only [stL]
    by_cases h : a.toNat < b.toNat
    · rw [if_pos h]; simp; intro e; subst e; omega
    · rw [if_neg h]
      by_cases g : b.toNat < a.toNat
      · rw [if_pos g]; simp; intro e; subst e; omega
      · rw [if_neg g, stL_eq]
        have : a = b := UInt8.toNat_inj.1 (by omega)
        simp [this]
theorem stL_lt : ∀ {x y : List UInt8}, stL x y < 0 ↔ x < y
  | [], [] => by simp [stL]
  | [], b :: y => by simp [stL]
  | a :: x, [] => by simp [stL]
  | a :: x, b :: y => by
    simp only [stL, List.cons_lt_cons_iff]
    have hab : a < b ↔ a.toNat < b.toNat := UInt8.lt_iff_toNat_lt
    by_cases h : a.toNat < b.toNat
    · rw [if_pos h]; simp [hab, h]
    · rw [if_neg h]
      by_cases g : b.toNat < a.toNat
      · rw [if_pos g]; simp [hab, h]
        intro e; subst e; omega
      · rw [if_neg g, stL_lt]
        have : a = b := UInt8.toNat_inj.1 (by omega)
        simp [hab, h, this]
theorem data_inj {x y : ByteArray} (h : x.data.toList = y.data.toList) : x = y := by
  obtain ⟨⟨x⟩⟩ := x; obtain ⟨⟨y⟩⟩ := y; simpa using h
theorem stB_eq {x y : ByteArray} : stB x y = 0 ↔ x = y := by
  unfold stB; rw [stL_eq]; exact ⟨data_inj, fun h => by rw [h]⟩
def ltB (x y : ByteArray) : Prop := x.data.toList < y.data.toList
theorem stB_lt {x y : ByteArray} : stB x y < 0 ↔ ltB x y := stL_lt
theorem ltB_trans {x y z : ByteArray} (h : ltB x y) (k : ltB y z) : ltB x z := List.lt_trans h k
theorem ltB_irrefl (x : ByteArray) : ¬ ltB x x := List.lt_irrefl _
theorem stL_neg : ∀ (x y : List UInt8), stL y x = - stL x y
  | [], [] => rfl
  | [], b :: y => rfl
  | a :: x, [] => rfl
  | a :: x, b :: y => by
    simp only [stL]
    by_cases h : a.toNat < b.toNat
    · rw [if_pos h, if_neg (by omega), if_pos h]; rfl
    · by_cases g : b.toNat < a.toNat
      · rw [if_pos g, if_neg h, if_pos g]
      · rw [if_neg g, if_neg h, if_neg h, if_neg g]; exact stL_neg x y
theorem ltB_tri {x y : ByteArray} (h : ¬ ltB x y) (k : x ≠ y) : ltB y x := by
  rw [← stB_lt] at h ⊢
  have h1 : stB x y ≠ 0 := fun e => k (stB_eq.1 e)
  have h2 : stB y x = - stB x y := stL_neg _ _
  omega

abbrev Fs := List (ByteArray × (ByteArray × Int))
def Rising (F : Fs) : Prop := F.Pairwise fun p q => ltB p.1 q.1
theorem Rising.nodup {F : Fs} (h : Rising F) : (F.map (·.1)).Nodup := by
  rw [List.nodup_iff_pairwise_ne, List.pairwise_map]
  exact List.Pairwise.imp (S := fun p q => p.1 ≠ q.1) (by intro a b hab e; exact ltB_irrefl b.1 (by rwa [e] at hab)) h

/-- where a name stands in rising files -/
theorem pos_spec {F : Fs} (h : Rising F) (nm : ByteArray) : ∃ A B, F = A ++ B ∧ A.length = posOf F nm ∧ (∀ p ∈ A, ltB p.1 nm) ∧
    ((∃ f B', B = (nm, f) :: B' ∧ foundAt F nm = true ∧ ∀ p ∈ B', ltB nm p.1) ∨ (foundAt F nm = false ∧ ∀ p ∈ B, ltB nm p.1)) := by
  have hpl := posOf_le F nm
  refine ⟨F.take (posOf F nm), F.drop (posOf F nm), (List.take_append_drop _ _).symm, by simp; omega, ?_, ?_⟩
  · intro p hp
    obtain ⟨j, hj, he⟩ := List.mem_take_iff_getElem.1 hp
    have := List.not_of_lt_findIdx (p := fun p => decide (0 ≤ stB p.1 nm)) (xs := F) (i := j) (by unfold posOf at hj; omega)
    rw [he] at this
    rw [← stB_lt]; simpa using this
  · have hdrop : ∀ (p : _) (B' : Fs), F.drop (posOf F nm) = p :: B' → F[posOf F nm]? = some p ∧ 0 ≤ stB p.1 nm ∧ ∀ q ∈ B', ltB p.1 q.1 := by
      intro p B' e
      have h1 : F[posOf F nm]? = some p := by rw [← List.head?_drop, e]; rfl
      refine ⟨h1, ?_, ?_⟩
      · have hlt := (List.getElem?_eq_some_iff.1 h1).1
        have := List.findIdx_getElem (p := fun p : ByteArray × (ByteArray × Int) => decide (0 ≤ stB p.1 nm)) (xs := F) (w := hlt)
        have e2 := (List.getElem?_eq_some_iff.1 h1).2
        have : decide (0 ≤ stB F[posOf F nm].1 nm) = true := this
        rw [e2] at this; simpa using this
      · have : Rising (F.drop (posOf F nm)) := List.Pairwise.sublist (List.drop_sublist _ _) h
        rw [e] at this
        exact (List.pairwise_cons.1 this).1
    cases hB : F.drop (posOf F nm) with
    | nil =>
      right
      have h1 : F[posOf F nm]? = none := by rw [← List.head?_drop, hB]; rfl
      exact ⟨by unfold foundAt; rw [h1], by simp⟩
    | cons p B' =>
      obtain ⟨h1, h2, h3⟩ := hdrop p B' hB
      by_cases e : p.1 = nm
      · left
        refine ⟨p.2, B', by rw [← e], by unfold foundAt; rw [h1]; simp [stB_eq, e], by rw [← e]; exact h3⟩
      · right
        refine ⟨by unfold foundAt; rw [h1]; simp [stB_eq, e], ?_⟩
        have h4 : ltB nm p.1 := ltB_tri (by rw [← stB_lt]; omega) e
        intro q hq
        rcases List.mem_cons.1 hq with rfl | hq
        · exact h4
        · exact ltB_trans h4 (h3 q hq)

theorem lookup_none_of {F : Fs} {nm : ByteArray} (h : ∀ p ∈ F, p.1 ≠ nm) : F.lookup nm = none := by
  rw [List.lookup_eq_none_iff]
  intro p hp
  simpa using fun e => h p hp e.symm
theorem lookup_mid {A B : Fs} {nm : ByteArray} {f : ByteArray × Int} (h : ∀ p ∈ A, p.1 ≠ nm) : (A ++ (nm, f) :: B).lookup nm = some f := by
  rw [List.lookup_append, lookup_none_of h]; simp
theorem lookup_perm {F G : Fs} (h : F.Perm G) (hn : (F.map (·.1)).Nodup) (nm : ByteArray) : F.lookup nm = G.lookup nm := by
  induction h with
  | nil => rfl
  | cons x _ ih =>
    obtain ⟨a, b⟩ := x
    simp only [List.map_cons, List.nodup_cons] at hn
    simp only [List.lookup_cons]
    rw [ih hn.2]
  | swap x y l =>
    obtain ⟨a, b⟩ := x; obtain ⟨c, d⟩ := y
    simp only [List.map_cons, List.nodup_cons, List.mem_cons, not_or] at hn
    simp only [List.lookup_cons]
    by_cases h1 : nm == a <;> by_cases h2 : nm == c
    · have e1 := eq_of_beq h1; have e2 := eq_of_beq h2
      exact absurd (e2.symm.trans e1) hn.1.1
    · simp [h1, h2]
    · simp [h1, h2]
    · simp [h1, h2]
  | trans h1 h2 ih1 ih2 => exact (ih1 hn).trans (ih2 ((h1.map _).nodup_iff.1 hn))

/-- to lay a name's file anew, in both ways of keeping them -/
theorem aset_perm {F G : Fs} (h : F.Perm G) (hn : (F.map (·.1)).Nodup) (k : ByteArray) (v : ByteArray × Int) : (aset F k v).Perm (aset G k v) := by
  have key : ∀ {F : Fs}, (F.map (·.1)).Nodup → (aset F k v).Perm ((k, v) :: F.filter fun p => !(k == p.1)) := by
    intro F
    induction F with
    | nil => intro _; simp [aset]
    | cons p F ih =>
      intro hn
      obtain ⟨a, b⟩ := p
      simp only [List.map_cons, List.nodup_cons] at hn
      simp only [aset]
      by_cases e : k == a
      · rw [if_pos e]
        have e' := eq_of_beq e
        subst e'
        simp only [List.filter_cons, beq_self_eq_true, Bool.not_true, Bool.false_eq_true, if_false]
        rw [List.filter_eq_self.2]
        intro q hq
        have : q.1 ≠ k := fun e => hn.1 (by rw [← e]; exact List.mem_map_of_mem hq)
        simpa using Ne.symm this
      · rw [if_neg e]
        simp only [List.filter_cons, e, Bool.not_false, if_true]
        exact ((ih hn.2).cons _).trans (List.Perm.swap _ _ _)
  exact (key hn).trans (((h.filter _).cons _).trans (key ((h.map _).nodup_iff.1 hn)).symm)
theorem aset_mid {A B : Fs} {nm : ByteArray} {f g : ByteArray × Int} (h : ∀ p ∈ A, p.1 ≠ nm) : aset (A ++ (nm, f) :: B) nm g = A ++ (nm, g) :: B := by
  induction A with
  | nil => simp [aset]
  | cons p A ih =>
    obtain ⟨a, b⟩ := p
    have h1 : ¬ (nm == a) = true := by simpa using fun e => h (a, b) (by simp) e.symm
    simp only [List.cons_append, aset, if_neg h1]
    rw [ih fun p hp => h p (by simp [hp])]
theorem aset_new' {F : Fs} {nm : ByteArray} {g : ByteArray × Int} (h : ∀ p ∈ F, p.1 ≠ nm) : aset F nm g = F ++ [(nm, g)] :=
  aset_new F nm g (by intro hm; obtain ⟨p, hp, e⟩ := List.mem_map.1 hm; exact h p hp e)

/-- the file of a name, or an empty one -/
def gotF (F : Fs) (nm : ByteArray) : ByteArray × Int := (F.lookup nm).getD (⟨#[]⟩, 0)
theorem mk_modify {F : Fs} (h : Rising F) (nm : ByteArray) (u : ByteArray × Int → ByteArray × Int) :
    Rising ((mkF F nm).modify (posOf F nm) fun f => (f.1, u f.2)) ∧ ((mkF F nm).modify (posOf F nm) fun f => (f.1, u f.2)).Perm (aset F nm (u (gotF F nm))) ∧
      (foundAt F nm = true → mkF F nm = F) := by
  obtain ⟨A, B, hF, hA, hlt, hB⟩ := pos_spec h nm
  have hne : ∀ p ∈ A, p.1 ≠ nm := fun p hp e => ltB_irrefl nm (by have := hlt p hp; rw [e] at this; exact this)
  have hmod : ∀ (x : ByteArray × (ByteArray × Int)) (R : Fs), (A ++ x :: R).modify (posOf F nm) (fun f => (f.1, u f.2)) = A ++ (x.1, u x.2) :: R := by
    intro x R
    rw [modify_set (x := x) (by rw [← hA, List.getElem?_append_right (Nat.le_refl _)]; simp), List.set_append_right _ _ (by omega)]
    simp [hA]
  have hF' : Rising (A ++ B) := by rw [← hF]; exact h
  rcases hB with ⟨f, B', rfl, hfo, hB'⟩ | ⟨hfo, hB'⟩
  · have hmk : mkF F nm = F := by simp [mkF, hfo]
    rw [hmk]
    have e : F.modify (posOf F nm) (fun f => (f.1, u f.2)) = A ++ (nm, u f) :: B' := by
      conv => lhs; arg 1; rw [hF]
      exact hmod _ _
    have hg : gotF F nm = f := by unfold gotF; rw [hF, lookup_mid hne]; rfl
    refine ⟨?_, ?_, fun _ => rfl⟩
    · rw [e]
      unfold Rising at hF' ⊢
      rw [List.pairwise_append, List.pairwise_cons] at hF' ⊢
      refine ⟨hF'.1, ⟨fun q hq => hB' q hq, hF'.2.1.2⟩, fun p hp q hq => ?_⟩
      rcases List.mem_cons.1 hq with rfl | hq
      · exact hlt p hp
      · exact hF'.2.2 p hp q (by simp [hq])
    · rw [e, hg]
      conv => rhs; rw [hF, aset_mid hne]
  · have hmk : mkF F nm = A ++ (nm, (⟨#[]⟩, 0)) :: B := by
      have h1 : F.take A.length = A := by rw [hF]; simp
      have h2 : F.drop A.length = B := by rw [hF]; simp
      rw [hA] at h1 h2
      simp [mkF, hfo, h1, h2]
    have hall : ∀ p ∈ F, p.1 ≠ nm := by
      intro p hp
      rw [hF] at hp
      rcases List.mem_append.1 hp with hp | hp
      · exact hne p hp
      · exact fun e => ltB_irrefl nm (by have := hB' p hp; rw [e] at this; exact this)
    have hg : gotF F nm = (⟨#[]⟩, 0) := by unfold gotF; rw [lookup_none_of hall]; rfl
    rw [hmk, hmod]
    refine ⟨?_, ?_, fun h => by rw [hfo] at h; cases h⟩
    · unfold Rising at hF' ⊢
      rw [List.pairwise_append] at hF' ⊢
      rw [List.pairwise_cons]
      refine ⟨hF'.1, ⟨fun q hq => hB' q hq, hF'.2.1⟩, fun p hp q hq => ?_⟩
      rcases List.mem_cons.1 hq with rfl | hq
      · exact hlt p hp
      · exact ltB_trans (hlt p hp) (hB' q hq)
    · rw [hg, aset_new' hall, hF]
      exact (List.perm_middle.trans (List.perm_append_comm (l₁ := [(nm, u (⟨#[]⟩, 0))]) (l₂ := A ++ B)))

/-! ## both drives -/
structure Sim (d e : DS) (B : Nat) : Prop where
  down : d.down = e.down
  armed : d.down = false → d.armed = e.armed ∧ 0 ≤ d.armed ∧ d.armed ≤ 9223372036854775807
  perm : e.files.Perm d.files
  rise : Rising e.files
  few : d.files.length ≤ B
  file : ∀ p ∈ d.files, p.1.size ≤ 281474976710656 ∧ 0 ≤ p.2.2 ∧ p.2.2 ≤ p.2.1.size ∧ p.2.1.size ≤ B

theorem Sim.lookup {d e : DS} {B : Nat} (h : Sim d e B) (nm : ByteArray) : e.files.lookup nm = d.files.lookup nm := lookup_perm h.perm h.rise.nodup nm
theorem Sim.names {d e : DS} {B : Nat} (h : Sim d e B) : sortedKeys d.files = e.files.map (·.1) := by
  have h1 : ((e.files.map fun p => p.1.data.toList).mergeSort leB) = e.files.map fun p => p.1.data.toList := by
    refine List.mergeSort_of_pairwise ?_
    rw [List.pairwise_map]
    exact h.rise.imp fun hab => by simpa [leB] using List.le_of_lt hab
  have h2 := mergeSort_of_perm (h.perm.map fun p => p.1.data.toList)
  unfold sortedKeys
  rw [← h2, h1, List.map_map]
  exact List.map_congr_left fun p _ => ofBytes_data p.1
theorem Sim.mono {d e : DS} {B C : Nat} (h : Sim d e B) (hb : B ≤ C) : Sim d e C :=
  ⟨h.down, h.armed, h.perm, h.rise, Nat.le_trans h.few hb, fun p hp => by obtain ⟨h1, h2, h3, h4⟩ := h.file p hp; exact ⟨by omega, h2, h3, by omega⟩⟩
theorem Sim.begin {d e : DS} {B : Nat} (h : Sim d e B) : d.begin.1.2 = e.rbegin.1.1 ∧ d.begin.1.1 = e.rbegin.1.2 ∧ Sim d.begin.2 e.rbegin.2 B ∧ d.begin.2.files = d.files ∧ (d.begin.1.2 = 0 ∨ d.begin.1.2 = 50) := by
  unfold DS.begin DS.rbegin
  rw [← h.down]
  cases hd : d.down with
  | true => simp [h]
  | false =>
    obtain ⟨ha, h0, h1⟩ := h.armed hd
    rw [← ha]
    by_cases hp : d.armed > 0
    · have hw : IntKind.i64.wrap (d.armed - 1) = d.armed - 1 := wrap_in (by omega) (by omega)
      by_cases h2 : d.armed = 1
      · have e1 : (IntKind.i64.wrap (d.armed - 1) == 0) = true := by rw [hw, h2]; rfl
        have e2 : (d.armed == 1) = true := by simp [h2]
        simp only [hp, e1, e2, if_true, Bool.false_eq_true, if_false]
        exact ⟨by first | rfl | trivial, by first | rfl | trivial, ⟨rfl, (fun h => by cases h), h.perm, h.rise, h.few, h.file⟩, by first | rfl | trivial, .inr (by first | rfl | trivial)⟩
      · have h3 : (d.armed == 1) = false := by simpa using h2
        have h4 : ¬ d.armed - 1 = 0 := by omega
        have h5 : (d.armed - 1 == 0) = false := by simpa using h4
        simp only [hp, hw, h3, h4, h5, if_true, if_false, Bool.false_eq_true]
        refine ⟨by first | rfl | trivial, by first | rfl | trivial, ⟨?_, ?_, h.perm, h.rise, h.few, h.file⟩, by first | rfl | trivial, .inl (by first | rfl | trivial)⟩
        · rfl
        · intro _; exact ⟨rfl, by show 0 ≤ d.armed - 1; omega, by show d.armed - 1 ≤ _; omega⟩
    · have h2 : (d.armed == 1) = false := by simp; omega
      simp [hp, h2, h]
theorem aset_length_le (F : Fs) (k : ByteArray) (v : ByteArray × Int) : (aset F k v).length ≤ F.length + 1 := by
  induction F with
  | nil => simp [aset]
  | cons p F ih =>
    obtain ⟨a, b⟩ := p
    simp only [aset]
    split
    · simp
    · simp; omega
theorem mem_aset {F : Fs} {k : ByteArray} {v : ByteArray × Int} {p : ByteArray × (ByteArray × Int)} (h : p ∈ aset F k v) : p = (k, v) ∨ p ∈ F := by
  induction F with
  | nil => simp [aset] at h; exact .inl h
  | cons q F ih =>
    obtain ⟨a, b⟩ := q
    simp only [aset] at h
    split at h
    · rcases List.mem_cons.1 h with rfl | h
      · exact .inl rfl
      · exact .inr (by simp [h])
    · rcases List.mem_cons.1 h with rfl | h
      · exact .inr (by simp)
      · exact (ih h).imp_right fun h => by simp [h]
theorem Sim.got {d e : DS} {B : Nat} (h : Sim d e B) (nm : ByteArray) : gotF e.files nm = d.got nm ∧ 0 ≤ (d.got nm).2 ∧ (d.got nm).2 ≤ (d.got nm).1.size ∧ (d.got nm).1.size ≤ B := by
  refine ⟨by unfold gotF DS.got; rw [h.lookup], ?_⟩
  unfold DS.got
  cases hl : d.files.lookup nm with
  | none => exact ⟨Int.le_refl _, Int.le_refl _, Nat.zero_le _⟩
  | some f =>
    have : (nm, f) ∈ d.files := by
      obtain ⟨l1, l2, h1, _⟩ := List.lookup_eq_some_iff.1 hl
      rw [h1]; simp
    obtain ⟨_, h2, h3, h4⟩ := h.file _ this
    exact ⟨h2, h3, h4⟩
/-- a file is laid anew in both -/
theorem Sim.set {d e : DS} {B C : Nat} (h : Sim d e B) (nm : ByteArray) (u : ByteArray × Int → ByteArray × Int) (hc : B + 1 ≤ C) (hnm : nm.size ≤ 281474976710656)
    (hu : 0 ≤ (u (d.got nm)).2 ∧ (u (d.got nm)).2 ≤ (u (d.got nm)).1.size ∧ (u (d.got nm)).1.size ≤ C) :
    Sim { d with files := aset d.files nm (u (d.got nm)) } { e with files := (mkF e.files nm).modify (posOf e.files nm) fun f => (f.1, u f.2) } C := by
  obtain ⟨h1, h2, h3⟩ := mk_modify h.rise nm u
  rw [(h.got nm).1] at h2
  refine ⟨h.down, h.armed, h2.trans (aset_perm h.perm h.rise.nodup nm _), h1, ?_, ?_⟩
  · have := aset_length_le d.files nm (u (d.got nm)); have := h.few; simp; omega
  · intro p hp
    rcases mem_aset hp with rfl | hp
    · exact ⟨hnm, hu⟩
    · obtain ⟨g1, g2, g3, g4⟩ := h.file p hp
      exact ⟨by omega, g2, g3, by omega⟩
theorem Sim.append {d e : DS} {B C : Nat} (h : Sim d e B) (nm dt : ByteArray) (hc : B + 1 + dt.size ≤ C) (hn : nm.size ≤ 281474976710656) : (d.append nm dt).1 = (e.rappend nm dt).1 ∧ Sim (d.append nm dt).2 (e.rappend nm dt).2 C := by
  obtain ⟨h1, h2, h3, h4, _⟩ := h.begin
  unfold DS.append DS.rappend
  dsimp only
  rw [← h1, ← h2]
  obtain ⟨g1, g2, g3, g4⟩ := h3.got nm
  split
  · refine ⟨rfl, ?_⟩
    exact h3.set nm (fun f => (f.1 ++ dt, f.2)) (by omega) (by omega) ⟨g2, by simp [ByteArray.size_append]; omega, by simp [ByteArray.size_append]; omega⟩
  · exact ⟨rfl, h3.mono (by omega)⟩
theorem Sim.swap {d e : DS} {B C : Nat} (h : Sim d e B) (nm dt : ByteArray) (hc : B + 1 ≤ C) (hdt : dt.size ≤ C) (hn : nm.size ≤ 281474976710656) : (d.swap nm dt).1 = (e.rswap nm dt).1 ∧ Sim (d.swap nm dt).2 (e.rswap nm dt).2 C := by
  obtain ⟨h1, h2, h3, h4, _⟩ := h.begin
  unfold DS.swap DS.rswap
  dsimp only
  rw [← h1]
  split
  · rename_i h0
    refine ⟨(by simpa using h0 : d.begin.1.2 = 0).symm, ?_⟩
    exact h3.set nm (fun f => (dt, (dt.size : Int))) (by omega) (by omega) ⟨by simp, by simp, by simp; omega⟩
  · exact ⟨rfl, h3.mono (by omega)⟩
theorem Sim.found {d e : DS} {B : Nat} (h : Sim d e B) (nm : ByteArray) : foundAt e.files nm = (d.files.lookup nm).isSome ∧ ∀ f, d.files.lookup nm = some f → e.files[posOf e.files nm]? = some (nm, f) := by
  obtain ⟨A, R, hF, hA, hlt, hB⟩ := pos_spec h.rise nm
  have hne : ∀ p ∈ A, p.1 ≠ nm := fun p hp e => ltB_irrefl nm (by have := hlt p hp; rw [e] at this; exact this)
  rw [← h.lookup]
  rcases hB with ⟨f, B', rfl, hfo, hB'⟩ | ⟨hfo, hB'⟩
  · have hl : e.files.lookup nm = some f := by rw [hF, lookup_mid hne]
    rw [hfo, hl]
    refine ⟨rfl, fun f' e' => ?_⟩
    cases e'
    rw [← hA]; conv => lhs; arg 1; rw [hF]
    simp
  · have hall : ∀ p ∈ e.files, p.1 ≠ nm := by
      intro p hp
      rw [hF] at hp
      rcases List.mem_append.1 hp with hp | hp
      · exact hne p hp
      · exact fun e => ltB_irrefl nm (by have := hB' p hp; rw [e] at this; exact this)
    rw [hfo, lookup_none_of hall]
    exact ⟨rfl, fun f e => by cases e⟩
theorem Sim.sync {d e : DS} {B C : Nat} (h : Sim d e B) (nm : ByteArray) (hc : B + 1 ≤ C) (hn : nm.size ≤ 281474976710656) : (d.sync nm).1 = (e.rsync nm).1 ∧ Sim (d.sync nm).2 (e.rsync nm).2 C := by
  obtain ⟨h1, h2, h3, h4, _⟩ := h.begin
  obtain ⟨f1, f2⟩ := h3.found nm
  unfold DS.sync DS.rsync
  dsimp only
  rw [← h1, f1]
  by_cases h0 : d.begin.1.2 = 0
  · simp only [h0, beq_self_eq_true, if_true, Bool.true_and]
    cases hl : d.begin.2.files.lookup nm with
    | none => simp; exact h3.mono (by omega)
    | some f =>
      simp only [Option.isSome_some, if_true, true_and]
      have hg : d.begin.2.got nm = f := by simp [DS.got, hl]
      have hmk := (mk_modify h3.rise nm id).2.2 (by rw [f1, hl]; rfl)
      have := h3.set (C := C) nm (fun f => (f.1, (f.1.size : Int))) (by omega) (by omega) (by
        obtain ⟨_, g2, g3, g4⟩ := h3.got nm
        exact ⟨by simp, by simp, by simp; omega⟩)
      rw [hmk, hg] at this
      exact this
  · have h0' : (d.begin.1.2 == 0) = false := by simpa using h0
    simp only [h0', Bool.false_and, Bool.false_eq_true, if_false, true_and]
    exact h3.mono (by omega)
theorem Sim.read {d e : DS} {B : Nat} (h : Sim d e B) (nm : ByteArray) : d.read nm = e.rread nm := by
  obtain ⟨f1, f2⟩ := h.found nm
  unfold DS.read DS.rread
  rw [← h.down]
  split
  · rfl
  · unfold DS.got
    cases hl : d.files.lookup nm with
    | some f =>
      rw [f2 f hl]
      have : stB nm nm = 0 := stB_eq.2 rfl
      simp [this]
    | none =>
      rw [hl] at f1
      unfold foundAt at f1
      split
      · rename_i p hp
        rw [hp] at f1
        simp at f1
        simp [f1]
      · rfl
theorem Sim.arm {d e : DS} {B : Nat} (h : Sim d e B) (n : Int) (hn : n ≤ 9223372036854775807) : Sim (d.arm n) (e.rarm n) B := by
  unfold DS.arm DS.rarm
  rw [← h.down]
  split
  · exact h
  · refine ⟨rfl, fun _ => ⟨rfl, ?_, ?_⟩, h.perm, h.rise, h.few, h.file⟩ <;> (show _ ≤ _; dsimp only; split <;> omega)
theorem Sim.crash {d e : DS} {B : Nat} (h : Sim d e B) (hB : B ≤ 1000000000) (keep : List Int) : Sim (d.crash keep) (e.rcrash keep) B := by
  have hfiles : (d.crash keep).files = (e.rcrash keep).files := by
    show d.crashFiles keep = _
    unfold DS.crashFiles DS.rcrash
    rw [h.names, List.zipIdx_map, List.map_map]
    apply List.map_congr_left
    rintro ⟨⟨nm, f⟩, i⟩ hp
    have hm : (nm, f) ∈ e.files := by
      have := List.mem_zipIdx' hp
      rw [this.2]; exact List.getElem_mem _
    have : d.got nm = f := by
      unfold DS.got
      rw [← h.lookup]
      obtain ⟨A, R, hAR⟩ := List.append_of_mem hm
      have hn := h.rise.nodup
      rw [hAR] at hn ⊢
      rw [lookup_mid]
      · rfl
      · intro p hp e
        simp only [List.map_append, List.map_cons] at hn
        have := (List.nodup_append.1 hn).2.2 p.1 (List.mem_map_of_mem hp) nm (by simp)
        exact this e
    simp [this]
  have hkeys : ((e.rcrash keep).files.map (·.1)) = e.files.map (·.1) := by
    unfold DS.rcrash
    rw [List.map_map]
    have : e.files.zipIdx.map (·.1.1) = (e.files.zipIdx.map (·.1)).map (·.1) := by rw [List.map_map]; rfl
    show e.files.zipIdx.map (fun p => p.1.1) = _
    rw [this]; simp
  refine ⟨rfl, fun _ => ⟨rfl, Int.le_refl _, by show (0 : Int) ≤ _; omega⟩, by rw [hfiles], ?_, ?_, ?_⟩
  · have := h.rise
    have key : ∀ G : Fs, Rising G ↔ (G.map (·.1)).Pairwise ltB := fun G => by unfold Rising; rw [List.pairwise_map]
    rw [key] at this ⊢
    rw [hkeys]; exact this
  · rw [hfiles]
    have := h.perm.length_eq
    have := h.few
    simp [DS.rcrash]; omega
  · rw [hfiles]
    intro p hp
    unfold DS.rcrash at hp
    simp only [List.mem_map] at hp
    obtain ⟨⟨⟨nm, f⟩, i⟩, hp, rfl⟩ := hp
    have hm : (nm, f) ∈ e.files := by rw [(List.mem_zipIdx' hp).2]; exact List.getElem_mem _
    obtain ⟨g1, g2, g3, g4⟩ := h.file _ (h.perm.mem_iff.1 hm)
    have h1 : 0 ≤ f.2 ∧ f.2 ≤ f.1.size ∧ f.1.size ≤ 9223372036854775807 := ⟨g2, g3, by simp at g4; omega⟩
    have h2 := crashN_range h1 keep[i]?
    have h3 := crash_wrap h1 keep[i]?
    simp only [crashFile, h3, ByteArray.size_extract]
    simp at g1 g2 g3 g4
    exact ⟨g1, by omega, by omega, by omega⟩
theorem Sim.ok {d e : DS} {B : Nat} (h : Sim d e B) (hB : B ≤ 1000000) : d.Ok := by
  have hm : maxLen = 9223372036854775807 := rfl
  refine ⟨fun p hp => ?_, ?_, fun p hp => ?_⟩
  · have := (h.file p hp).1; omega
  · have := h.few; omega
  · obtain ⟨g1, g2, g3, g4⟩ := h.file p hp; exact ⟨g2, g3, by omega⟩
theorem Sim.enames {d e : DS} {B : Nat} (h : Sim d e B) (hB : B ≤ 1000000) : e.Names := by
  refine ⟨by rw [h.perm.length_eq]; have := h.few; omega, fun p hp => ?_⟩
  have := (h.file p (h.perm.mem_iff.1 hp)).1; omega
end Go.Proofs.Ytcdggocbjnmeaaa
