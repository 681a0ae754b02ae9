/-
  The framework, part M: a region that draws its order does what its reading says.
  Conditions: none; a library text, it proves no statement by itself.
-/
import Derived.Test.YtdbpockkebabiaaFwL
set_option linter.unusedVariables false
set_option linter.unusedSimpArgs false
namespace Fw
open Go

def ancB (ops : Array Oper) (i x : Nat) : Bool := ((Region.before ops).getD i 0).testBit x
def allB (n : Nat) (f : Nat → Bool) : Bool := (List.range n).all f
theorem allB_iff {n : Nat} {f : Nat → Bool} (h : allB n f = true) : ∀ i, i < n → f i = true := by
  intro i hi
  exact List.all_eq_true.1 h i (List.mem_range.2 hi)
def noT (d : Option Tmp) (l : List Tmp) : Bool := match d with | some d => !l.contains d | none => true
def apartT (d e : Option Tmp) : Bool := match d, e with | some d, some e => d != e | _, _ => true

def pairsOk (ops : Array Oper) : List Nat → Bool
  | [] => true
  | q :: l => (l.all fun q' => noT (dstT ops q') (lookT ops q) && apartT (dstT ops q') (dstT ops q)) && pairsOk ops l

def drawOk (P : Program) (ops : Array Oper) (d : DrawAnn) : Bool :=
  let n := ops.size
  d.A.all (· < n) && pairsOk ops d.A &&
  (allB n fun i => (preds ops i).all (· < i)) &&
  (allB n fun i => allB n fun x => !ancB ops i x || (preds ops i).contains x || (preds ops i).any fun j => ancB ops j x) &&
  (d.A.all fun q => (preds ops q).all fun j => d.A.contains j) &&
  (d.A.all fun q => (clsAt P d.quiet ops q matches .pure | .read) && noT (dstT ops q) (lookT ops q)) &&
  (d.A.all fun q => d.A.all fun q' => q == q' || noT (dstT ops q') (lookT ops q) || ancB ops q q') &&
  (d.A.all fun q => d.A.all fun q' => q == q' || apartT (dstT ops q') (dstT ops q)) &&
  ((restB ops d.A).all fun b => d.A.all fun q => ancB ops b q ||
    (noT (dstT ops b) (lookT ops q) && apartT (dstT ops b) (dstT ops q) && noT (dstT ops q) (lookT ops b) && (clsAt P d.quiet ops q == .pure || clsAt P [] ops b != .eff || (d.chk b).contains q)))

def isLoad (ops : Array Oper) (q : Nat) : Bool := match ops[q]? with | some o => (match o.op with | .load _ _ => true | _ => false) | none => false
/-- which operations of a region are read as quiet ones -/
def okPair (P : Program) (ops : Array Oper) (quiet : List Nat) (b q : Nat) : Bool :=
  ancB ops b q || (noT (dstT ops b) (lookT ops q) && apartT (dstT ops b) (dstT ops q) && noT (dstT ops q) (lookT ops b) && (clsAt P quiet ops q == .pure || clsAt P [] ops b != .eff || isLoad ops q))
def closeA (ops : Array Oper) (l : List Nat) : List Nat := l.foldl (fun acc i => if (preds ops i).all fun j => acc.contains j then acc ++ [i] else acc) []
def firstA (P : Program) (ops : Array Oper) (quiet : List Nat) : List Nat :=
  closeA ops ((List.range ops.size).filter fun i => clsAt P quiet ops i matches .pure | .read)
def pruneA (P : Program) (ops : Array Oper) (quiet : List Nat) : Nat → List Nat → List Nat
  | 0, l => l
  | n + 1, l => let B := restB ops l
    let l' := l.filter fun q => B.all fun b => okPair P ops quiet b q
    if l'.length = l.length then l else pruneA P ops quiet n (closeA ops l')
def drawer (P : Program) (ops : Array Oper) (quiet : List Nat) : Option DrawAnn :=
  let A := pruneA P ops quiet 4 (firstA P ops quiet)
  let d : DrawAnn := { A := A, quiet := quiet, chk := fun b => if clsAt P [] ops b != .eff || clsAt P [] ops b == .pure then [] else A.filter fun q => isLoad ops q && !ancB ops b q }
  if drawOk P ops d then some d else none

theorem noT_iff {d : Option Tmp} {l : List Tmp} (h : noT d l = true) : ∀ t ∈ l, d ≠ some t := by
  intro t ht e
  subst e
  simp [noT] at h
  exact h ht
theorem apartT_iff {d e : Option Tmp} (h : apartT d e = true) : ∀ t, e = some t → d ≠ some t := by
  intro t ht e
  subst ht e
  simp [apartT] at h

section
variable {P : Program} {R : Value → PH → Prop} {w0 : World} {s0 : PH} {Q : Exit → Act → World → Prop} {ops : Array Oper}

/-- a quiet operation's outcome, in terms of what is known behind all of them -/
def Fact (P : Program) (R : Value → PH → Prop) (quiet : List Nat) (ops : Array Oper) (frA : Fr) (s0 : PH) (q : Nat) : Prop :=
  ∃ frq fr1 : Fr, (∀ t ∈ lookT ops q, kv frq t = kv frA t) ∧ (∀ t, dstT ops q = some t → kv fr1 t = kv frA t) ∧
    ∀ s' k', (clsAt P quiet ops q = .pure ∨ s0.le s' ∨ StillF P ops frq fr1 q s') → k' fr1 s' → gopW (RP P R) P frq (quiet.contains q) ops q k' s'

theorem runA {quiet : List Nat} {s0 : PH} {kA : Fr → PH → Prop} : ∀ (A : List Nat) (fr0 : Fr), (∀ q ∈ A, clsAt P quiet ops q = .pure ∨ clsAt P quiet ops q = .read) → (∀ q ∈ A, noT (dstT ops q) (lookT ops q) = true) → pairsOk ops A = true →
    opsW (RP P R) P ops quiet A fr0 kA s0 →
    ∃ frA : Fr, kA frA s0 ∧ frA.length = fr0.length ∧ (∀ t, (∀ q ∈ A, dstT ops q ≠ some t) → kv fr0 t = kv frA t) ∧ ∀ q ∈ A, Fact P R quiet ops frA s0 q := by
  intro A
  induction A with
  | nil => intro fr0 _ _ _ h; exact ⟨fr0, h, rfl, fun _ _ => rfl, by simp⟩
  | cons q l ih =>
    intro fr0 hc hn hp h
    simp only [pairsOk, Bool.and_eq_true] at hp
    obtain ⟨hp1, hp2⟩ := hp
    obtain ⟨fr1, h1, hlen, hkv, hall⟩ := gopW_quiet (hc q (by simp)) h
    obtain ⟨frA, hA, hlenA, hkvA, hF⟩ := ih fr1 (fun x hx => hc x (by simp [hx])) (fun x hx => hn x (by simp [hx])) hp2 h1
    have hl : ∀ q' ∈ l, (∀ t ∈ lookT ops q, dstT ops q' ≠ some t) ∧ (∀ t, dstT ops q = some t → dstT ops q' ≠ some t) := by
      intro q' hq'
      have := List.all_eq_true.1 hp1 q' hq'
      simp only [Bool.and_eq_true] at this
      exact ⟨noT_iff this.1, apartT_iff this.2⟩
    refine ⟨frA, hA, hlenA.trans hlen, ?_, ?_⟩
    · intro t ht
      rw [← hkvA t fun q' hq' => ht q' (by simp [hq'])]
      exact (hkv t (ht q (by simp))).symm
    · intro x hx
      rcases List.mem_cons.1 hx with rfl | hx
      · refine ⟨fr0, fr1, ?_, ?_, fun s' k' hc' e => hall s' k' hc' e⟩
        · intro t ht
          rw [← hkvA t fun q' hq' => (hl q' hq').1 t ht]
          exact (hkv t (noT_iff (hn x (by simp)) t ht)).symm
        · intro t ht
          exact hkvA t fun q' hq' => (hl q' hq').2 t ht
      · exact hF x hx

theorem mem_ready {listed : Array Bool} {i : Nat} (h : i ∈ Region.ready .any ops listed) :
    i < ops.size ∧ listed.getD i true = false ∧ ∀ j ∈ preds ops i, listed.getD j false = true := by
  unfold Region.ready at h
  simp only [List.mem_filter, List.mem_range, Bool.and_eq_true, Bool.not_eq_true'] at h
  obtain ⟨h1, h2, h3⟩ := h
  refine ⟨h1, h2, ?_⟩
  intro j hj
  unfold preds at hj
  cases ho : ops[i]? with
  | none => rw [ho] at hj; simp at hj
  | some o =>
    rw [ho] at hj h3
    simp only [Option.map_some, Option.getD_some] at h3
    simp only [List.mem_map, List.mem_filter] at hj
    obtain ⟨e, ⟨he, hb⟩, rfl⟩ := hj
    rw [Array.all_eq_true_iff_forall_mem] at h3
    have := h3 e (by simpa using he)
    simpa [hb] using this

theorem ready_of {listed : Array Bool} {i : Nat} (h1 : i < ops.size) (h2 : listed.getD i true = false) (h3 : ∀ j ∈ preds ops i, listed.getD j false = true) : i ∈ Region.ready .any ops listed := by
  unfold Region.ready
  simp only [List.mem_filter, List.mem_range, Bool.and_eq_true, Bool.not_eq_true']
  refine ⟨h1, h2, ?_⟩
  have ho : ops[i]? = some ops[i] := by simp [h1]
  rw [ho]
  simp only [Option.map_some, Option.getD_some]
  rw [Array.all_eq_true_iff_forall_mem]
  intro e he
  cases hb : Region.binds .any e with
  | false => simp
  | true =>
    simp only [Bool.not_true, Bool.false_or]
    refine h3 e.on ?_
    unfold preds
    rw [ho]
    exact List.mem_map.2 ⟨e, List.mem_filter.2 ⟨by simpa using he, hb⟩, rfl⟩

def ex (listed : Array Bool) (i : Nat) : Bool := listed.getD i true

theorem ex_set {listed : Array Bool} {i j : Nat} (hi : i < listed.size) : ex (listed.setIfInBounds i true) j = (ex listed j || j == i) := by
  unfold ex
  simp only [Array.getD_eq_getD_getElem?, Array.getElem?_setIfInBounds]
  by_cases h : i = j
  · subst h; simp [hi]
  · have : (j == i) = false := by simpa using fun e : j = i => h e.symm
    simp [h, this]

theorem getD_false_of {listed : Array Bool} {j n : Nat} (hs : listed.size = n) (hj : j < n) : listed.getD j false = ex listed j := by
  unfold ex
  simp only [Array.getD_eq_getD_getElem?]
  rw [Array.getElem?_eq_getElem (by omega)]
  rfl

theorem allW_mem' {l : List (PH → Prop)} {s : PH} (h : allW (RP P R) l s) : ∀ x ∈ l, x s := (allW_mem h).2

theorem treeW_nil {chk : Nat → List Nat} {f : Nat} {fr : Fr} {k : Fr → PH → Prop} {s : PH} (h : treeW (RP P R) P ops chk f [] fr k s) : k fr s := by
  cases f <;> exact h
theorem treeW_step {chk : Nat → List Nat} {f : Nat} {rem : List Nat} {fr : Fr} {k : Fr → PH → Prop} {s : PH} (h : treeW (RP P R) P ops chk f rem fr k s) {i : Nat} (hi : i ∈ rem) (hp : ∀ j ∈ preds ops i, j ∉ rem) :
    ∃ f', gopW (RP P R) P fr false ops i (fun fr' => stillW (RP P R) P ops fr' (chk i) (treeW (RP P R) P ops chk f' (rem.erase i) fr' k)) s := by
  cases f with
  | zero => cases rem with
    | nil => simp at hi
    | cons x l => exact h.elim
  | succ f => cases rem with
    | nil => simp at hi
    | cons x l =>
      refine ⟨f, ?_⟩
      simp only [treeW] at h
      refine allW_mem' h _ (List.mem_map.2 ⟨i, ?_, rfl⟩)
      unfold readyB
      refine List.mem_filter.2 ⟨hi, ?_⟩
      rw [List.all_eq_true]
      intro j hj
      simpa using hp j hj

theorem skips_true {fr : Fr} {o : Oper} (h : skips fr ops o = some true) : SkipAt ops fr o := by
  unfold skips at h
  split at h
  · cases h
  · rename_i j want hg
    split at h
    · rename_i d hd
      split at h
      · rename_i hx
        have hw : want = false := by simpa using h
        exact ⟨j, want, d, _, hg, hd, by simp only [kv, hx]; rfl, by subst hw; intro e; cases e⟩
      · rename_i hx
        have hw : want = true := by simpa using h
        exact ⟨j, want, d, _, hg, hd, by simp only [kv, hx]; rfl, by subst hw; intro e; cases e⟩
      · rename_i hx
        exact ⟨j, want, d, _, hg, hd, by simp only [kv, hx]; rfl, by intro e; cases e⟩
      · cases h
    · cases h
theorem stillOf_spec {fr : Fr} {q : Nat} {r : Option ((cs : List CT) × Addr × Den cs)} (h : stillOf P ops fr q = some r) :
    ∃ o, ops[q]? = some o ∧ ((r = none ∧ SkipAt ops fr o) ∨ ∃ t x a h d y, o.op = .load t x ∧ o.dst = some d ∧ fr.env.ev x = some (.pointer (some a)) ∧ shapeOf P t = some h ∧ (h.1 || h.2.length == 1) = true ∧ kv fr d = some (h.mk y) ∧ r = some ⟨h.2, a, y⟩) := by
  unfold stillOf at h
  split at h
  · rename_i o ho
    refine ⟨o, ho, ?_⟩
    split at h
    · rename_i t x d h1 h2
      split at h
      · rename_i hs
        cases h
        exact .inl ⟨rfl, skips_true hs⟩
      · split at h
        · rename_i a ha
          split at h
          · rename_i hh hsh
            split at h
            · rename_i u hu
              split at h
              · rename_i y hy
                split at h
                · rename_i hp
                  cases h
                  exact .inr ⟨t, x, a, hh, d, y, h1, h2, ha, hsh, hp, by simp only [kv, hu, Shape.unmk_mk hy], rfl⟩
                · cases h
              · cases h
            · cases h
          · cases h
        · cases h
      · cases h
    · cases h
  · cases h
theorem stillW_sound {fr : Fr} {k : PH → Prop} {s : PH} : ∀ (l : List Nat), stillW (RP P R) P ops fr l k s → k s ∧ ∀ q ∈ l, StillF P ops fr fr q s := by
  intro l
  induction l with
  | nil => intro h; exact ⟨h, by simp⟩
  | cons q l ih =>
    intro h
    simp only [stillW, stillLoad] at h
    generalize hG : stillOf P ops fr q = z at h
    match z, hG, h with
    | some (some ⟨cs, a, y⟩), hG, h =>
      obtain ⟨h1, h2⟩ := h
      obtain ⟨h3, h4⟩ := ih h2
      refine ⟨h3, fun x hx => ?_⟩
      rcases List.mem_cons.1 hx with rfl | hx
      · obtain ⟨o, ho, ⟨hr, _⟩ | ⟨t, x, a', h', d, y', g1, g2, g3, g4, g5, g6, g7⟩⟩ := stillOf_spec hG
        · cases hr
        · cases g7
          exact ⟨o, ho, .inr ⟨t, x, _, h', d, _, g1, g2, g3, g4, g5, g6, h1⟩⟩
      · exact h4 x hx
    | some none, hG, h =>
      obtain ⟨h3, h4⟩ := ih h
      refine ⟨h3, fun x hx => ?_⟩
      rcases List.mem_cons.1 hx with rfl | hx
      · obtain ⟨o, ho, ⟨_, hs⟩ | ⟨t, x, a', h', d, y', g1, g2, g3, g4, g5, g6, g7⟩⟩ := stillOf_spec hG
        · exact ⟨o, ho, .inl hs⟩
        · cases g7
      · exact h4 x hx
    | none, hG, h => exact h.elim
theorem StillF.congr {f f' g g' : Fr} {q : Nat} {s : PH} (h : StillF P ops f g q s) (hl : ∀ t ∈ lookT ops q, kv f t = kv f' t) (hd : ∀ t, dstT ops q = some t → kv g t = kv g' t) : StillF P ops f' g' q s := by
  obtain ⟨o, ho, h⟩ := h
  have hlook : lookT ops q = o.looksAt ops := by simp [lookT, ho]
  have hdst : dstT ops q = o.dst := by simp [dstT, ho]
  refine ⟨o, ho, ?_⟩
  rcases h with ⟨j, want, d, v, g1, g2, g3, g4⟩ | ⟨t, x, a, hh, d, y, g1, g2, g3, g4, g5, g6, g7⟩
  · refine .inl ⟨j, want, d, v, g1, g2, ?_, g4⟩
    rw [← hl d ?_]; exact g3
    rw [hlook]
    unfold Oper.looksAt
    refine List.mem_append_right _ ?_
    rw [g1]; simp [g2]
  · refine .inr ⟨t, x, a, hh, d, y, g1, g2, ?_, g4, g5, ?_, g7⟩
    · rw [← ev_congr (fr := f) fun t ht => hl t ?_]; exact g3
      rw [hlook]
      refine mem_looks ?_
      rw [← ht, g1]
      simp [Op.operands]
    · rw [← hd d (by rw [hdst]; exact g2)]; exact g6
theorem StillF.mono {f g : Fr} {q : Nat} {s s' : PH} (h : StillF P ops f g q s) (hle : s.le s') : StillF P ops f g q s' := by
  obtain ⟨o, ho, h | ⟨t, x, a, hh, d, y, g1, g2, g3, g4, g5, g6, g7⟩⟩ := h
  · exact ⟨o, ho, .inl h⟩
  · exact ⟨o, ho, .inr ⟨t, x, a, hh, d, y, g1, g2, g3, g4, g5, g6, has_mono hle g7⟩⟩
theorem orf {b c : Bool} (h : (b || c) = false) : b = false := (Bool.or_eq_false_iff.1 h).1
set_option maxHeartbeats 1000000 in
theorem draw_sound (hm : P.follows .mixedOrders = true) : DrawSound P drawer := by
  intro R w0 s0 pin ops quiet0 d id Q fr0 sS k hok0 hfree hk h a w hf hp hr
  have hok : drawOk P ops d = true := by
    unfold drawer at hok0
    dsimp only at hok0
    split at hok0
    · rename_i hx; have hok0 := Option.some.inj hok0; subst hok0; exact hx
    · cases hok0
  simp only [drawOk, Bool.and_eq_true] at hok
  obtain ⟨⟨⟨⟨⟨⟨⟨⟨c0, c1⟩, c2⟩, c3⟩, c4⟩, c5⟩, c6⟩, c7⟩, c8⟩ := hok
  have c0 := List.all_eq_true.1 c0
  have c4 := List.all_eq_true.1 c4
  have c5 := List.all_eq_true.1 c5
  have c6 := List.all_eq_true.1 c6
  have c7 := List.all_eq_true.1 c7
  have c8 := List.all_eq_true.1 c8
  have hcls : ∀ q ∈ d.A, clsAt P d.quiet ops q = .pure ∨ clsAt P d.quiet ops q = .read := by
    intro q hq
    have := c5 q hq
    simp only [Bool.and_eq_true] at this
    have h1 := this.1
    cases hc : clsAt P d.quiet ops q <;> simp_all
  have hnoself : ∀ q ∈ d.A, noT (dstT ops q) (lookT ops q) = true := by
    intro q hq
    have := c5 q hq
    simp only [Bool.and_eq_true] at this
    exact this.2
  obtain ⟨frA, hA, hlenA, hkvA, hF⟩ := runA d.A fr0 hcls hnoself c1 h
  -- ancestors are listed
  have anc : ∀ (listed : Array Bool), listed.size = ops.size → (∀ i, i < ops.size → ex listed i = true → ∀ j ∈ preds ops i, ex listed j = true) →
      ∀ i, i < ops.size → (∀ j ∈ preds ops i, ex listed j = true) → ∀ x, x < ops.size → ancB ops i x = true → ex listed x = true := by
    intro listed hs hdown i
    induction i using Nat.strongRecOn with
    | _ i ih =>
      intro hi hpi x hx hax
      have := allB_iff (allB_iff c3 i hi) x hx
      simp only [hax, Bool.not_true, Bool.false_or, Bool.or_eq_true] at this
      rcases this with h1 | h1
      · exact hpi x (by simpa using h1)
      · rw [List.any_eq_true] at h1
        obtain ⟨j, hj, hjx⟩ := h1
        have hji : j < i := by have := List.all_eq_true.1 (allB_iff c2 i hi) j hj; simpa using this
        exact ih j hji (by omega) (hdown j (by omega) (hpi j hj)) x hx hjx
  refine wp_region_any hm ?_
  -- the invariant
  have main : ∀ (fuel : Nat) (listed : Array Bool) (fr : Fr) (s : PH) (a : Act) (w : World) (f : Nat), listed.size = ops.size →
      (∀ i, i < ops.size → ex listed i = true → ∀ j ∈ preds ops i, ex listed j = true) →
      ((List.range ops.size).filter fun i => !ex listed i).length ≤ fuel →
      treeW (RP P R) P ops d.chk f ((restB ops d.A).filter fun i => !ex listed i) fr k s →
      (∀ q ∈ d.A, ex listed q = false → ∀ t, (t ∈ lookT ops q ∨ dstT ops q = some t) → kv fr t = kv frA t) →
      a.defers = [] → fr.length ≤ a.tmps.size →
      (∀ t, (∀ q ∈ d.A, ex listed q = false → dstT ops q ≠ some t) → ∀ v, kv fr t = some v → a.tmps[t]? = some v) →
      pin.le a → Rel w0 s0 s w → (∀ q ∈ d.A, ex listed q = false → clsAt P d.quiet ops q = .pure ∨ sS.le s ∨ StillF P ops frA frA q s) →
      wpAny P .any ops Q fuel listed a w := by
    intro fuel
    induction fuel with
    | zero =>
      intro listed fr s a w f hsz hdown hcount htree hkvq hdef hlen hI2 hpin hrel hheap
      have hall : ∀ i, i < ops.size → ex listed i = true := by
        intro i hi
        have hnil := List.eq_nil_of_length_eq_zero (Nat.le_zero.1 hcount)
        rw [List.filter_eq_nil_iff] at hnil
        simpa using hnil i (List.mem_range.2 hi)
      refine ⟨?_, ?_⟩
      · cases hrd : Region.ready .any ops listed with
        | nil => rfl
        | cons x xs =>
          have := mem_ready (ops := ops) (listed := listed) (i := x) (by rw [hrd]; simp)
          have h1 := hall x this.1
          unfold ex at h1
          rw [this.2.1] at h1; cases h1
      · have hrem : (restB ops d.A).filter (fun i => !ex listed i) = [] := by
          rw [List.filter_eq_nil_iff]
          intro i hi
          have : i < ops.size := by
            unfold restB at hi
            exact List.mem_range.1 (List.mem_filter.1 hi).1
          simp [hall i this]
        rw [hrem] at htree
        refine hk _ _ (treeW_nil htree) _ _ ⟨hdef, hlen, ?_⟩ hpin hrel
        intro t x ht
        refine hI2 t ?_ x.val (by simp [kv, ht])
        intro q hq hex
        have := c0 q hq
        simp only [decide_eq_true_eq] at this
        rw [hall q this] at hex; cases hex
    | succ fuel ih =>
      intro listed fr s a w f hsz hdown hcount htree hkvq hdef hlen hI2 hpin hrel hheap
      refine ⟨?_, ?_⟩
      · intro hnil
        have hall : ∀ i, i < ops.size → ex listed i = true := by
          intro i
          induction i using Nat.strongRecOn with
          | _ i ihi =>
            intro hi
            cases hx : ex listed i with
            | true => rfl
            | false =>
              have : i ∈ Region.ready .any ops listed := by
                refine ready_of hi hx ?_
                intro j hj
                have hji : j < i := by have := List.all_eq_true.1 (allB_iff c2 i hi) j hj; simpa using this
                rw [getD_false_of hsz (by omega)]
                exact ihi j hji (by omega)
              rw [hnil] at this; simp at this
        have hrem : (restB ops d.A).filter (fun i => !ex listed i) = [] := by
          rw [List.filter_eq_nil_iff]
          intro i hi
          have : i < ops.size := by
            unfold restB at hi
            exact List.mem_range.1 (List.mem_filter.1 hi).1
          simp [hall i this]
        rw [hrem] at htree
        refine hk _ _ (treeW_nil htree) _ _ ⟨hdef, hlen, ?_⟩ hpin hrel
        intro t x ht
        refine hI2 t ?_ x.val (by simp [kv, ht])
        intro q hq hex
        have := c0 q hq
        simp only [decide_eq_true_eq] at this
        rw [hall q this] at hex; cases hex
      · intro i hi
        obtain ⟨hin, hnl, hpreds⟩ := mem_ready hi
        have hnl' : ex listed i = false := hnl
        have hpl : ∀ j ∈ preds ops i, ex listed j = true := by
          intro j hj
          have hji : j < i := by have := List.all_eq_true.1 (allB_iff c2 i hin) j hj; simpa using this
          rw [← getD_false_of hsz (by omega)]; exact hpreds j hj
        have hanc := anc listed hsz hdown i hin hpl
        have hex' : ∀ j, ex (listed.setIfInBounds i true) j = (ex listed j || j == i) := fun j => ex_set (by omega)
        have hdown' : ∀ x, x < ops.size → ex (listed.setIfInBounds i true) x = true → ∀ j ∈ preds ops x, ex (listed.setIfInBounds i true) j = true := by
          intro x hx hxe j hj
          rw [hex'] at hxe ⊢
          rcases Bool.or_eq_true _ _ ▸ hxe with h1 | h1
          · simp [hdown x hx h1 j hj]
          · simp at h1; subst h1; simp [hpl j hj]
        have hcount' : ((List.range ops.size).filter fun x => !ex (listed.setIfInBounds i true) x).length ≤ fuel := by
          have e : ((List.range ops.size).filter fun x => !ex (listed.setIfInBounds i true) x) = ((List.range ops.size).filter fun x => !ex listed x).erase i := by
            rw [List.Nodup.erase_eq_filter (List.Pairwise.filter _ List.nodup_range), List.filter_filter]
            apply List.filter_congr
            intro x _
            rw [hex']
            cases ex listed x <;> simp [bne]
          rw [e, List.length_erase_of_mem (List.mem_filter.2 ⟨List.mem_range.2 hin, by simp [hnl']⟩)]
          omega
        have sizeput : ∀ (d : Option Tmp) (v : Value), (a.put d v).tmps.size = a.tmps.size := by
          intro d v; cases d <;> simp [Act.put]
        have putne : ∀ (d : Option Tmp) (v : Value) (t : Nat), d ≠ some t → (a.put d v).tmps[t]? = a.tmps[t]? := by
          intro d v t hne
          cases d with
          | none => rfl
          | some d => simp only [Act.put]; exact Array.getElem?_setIfInBounds_ne (by rintro rfl; exact hne rfl)
        have putself : ∀ (d : Nat) (v : Value), d < a.tmps.size → (a.put (some d) v).tmps[d]? = some v := by
          intro d v hd; simp [Act.put, hd]
        have hdefput : ∀ (d : Option Tmp) (v : Value), (a.put d v).defers = [] := by
          intro d v; cases d <;> exact hdef
        have hpinput : ∀ v, pin.le (a.put (dstT ops i) v) := by
          intro v
          have ho : ops[i]? = some ops[i] := by simp [hin]
          have : dstT ops i = ops[i].dst := by simp [dstT, ho]
          rw [this]
          exact hpin.pinned (hfree i _ ho) v
        by_cases hiA : i ∈ d.A
        · -- a quiet one
          obtain ⟨frq, fr1, hlook, hdst, hall⟩ := hF i hiA
          have hcond : clsAt P d.quiet ops i = .pure ∨ sS.le s ∨ StillF P ops frq fr1 i s := by
            rcases hheap i hiA hnl' with h1 | h1 | h1
            · exact .inl h1
            · exact .inr (.inl h1)
            · exact .inr (.inr (h1.congr (fun t ht => (hlook t ht).symm) (fun t ht => (hdst t ht).symm)))
          have hg := hall s (fun fr' s' => fr' = fr1 ∧ s' = s) hcond ⟨rfl, rfl⟩
          refine gopW_on hg ?_ hrel ?_
          · intro t ht v hv
            rw [hlook t ht, ← hkvq i hiA hnl' t (.inl ht)] at hv
            refine hI2 t ?_ v hv
            intro q hq hqe hd
            by_cases e : i = q
            · subst e; exact noT_iff (hnoself i hiA) t ht hd
            · have := List.all_eq_true.1 (c6 i hiA) q hq
              simp only [Bool.or_eq_true, beq_iff_eq, e, false_or] at this
              rcases this with h1 | h1
              · exact noT_iff h1 t ht hd
              · have hql := c0 q hq
                simp only [decide_eq_true_eq] at hql
                have := hanc q hql h1
                rw [hqe] at this; cases this
          · rintro fr' s' w' v ⟨rfl, rfl⟩ _ _ hdv hr'
            refine ih _ fr s' _ w' f (by simp [hsz]) hdown' hcount' ?_ ?_ (hdefput _ _) (by rw [sizeput]; exact hlen) ?_ (hpinput v) hr' ?_
            · have e : ((restB ops d.A).filter fun x => !ex (listed.setIfInBounds i true) x) = ((restB ops d.A).filter fun x => !ex listed x) := by
                apply List.filter_congr
                intro x hx
                rw [hex']
                have : x ≠ i := by
                  rintro rfl
                  unfold restB at hx
                  have := (List.mem_filter.1 hx).2
                  simp at this; exact this hiA
                simp [this]
              rw [e]; exact htree
            · intro q hq hqe t ht
              rw [hex'] at hqe
              exact hkvq q hq (orf hqe) t ht
            · intro t hn u hu
              by_cases e : dstT ops i = some t
              · rw [e]
                have ht := kv_lt hu
                rw [putself t v (by omega)]
                rw [hkvq i hiA hnl' t (.inr e), ← hdst t e] at hu
                rw [hdv t e u hu]
              · rw [putne _ _ _ e]
                refine hI2 t ?_ u hu
                intro q hq hqe
                by_cases e2 : q = i
                · subst e2; exact e
                · exact hn q hq (by rw [hex']; simp [hqe, e2])
            · intro q hq hqe
              rw [hex'] at hqe
              exact hheap q hq (orf hqe)
        · -- one of the others
          have hiB : i ∈ restB ops d.A := by
            unfold restB
            exact List.mem_filter.2 ⟨List.mem_range.2 hin, by simpa using hiA⟩
          have hirem : i ∈ (restB ops d.A).filter fun x => !ex listed x := List.mem_filter.2 ⟨hiB, by simp [hnl']⟩
          obtain ⟨f', hg⟩ := treeW_step htree hirem (fun j hj hjm => by
            have := (List.mem_filter.1 hjm).2
            rw [hpl j hj] at this; simp at this)
          have hunex : ∀ q ∈ d.A, ex listed q = false → noT (dstT ops i) (lookT ops q) = true ∧ apartT (dstT ops i) (dstT ops q) = true ∧ noT (dstT ops q) (lookT ops i) = true ∧ ((clsAt P d.quiet ops q = .pure ∨ clsAt P [] ops i ≠ .eff) ∨ q ∈ d.chk i) := by
            intro q hq hqe
            have hql := c0 q hq
            simp only [decide_eq_true_eq] at hql
            have := List.all_eq_true.1 (c8 i hiB) q hq
            simp only [Bool.or_eq_true, Bool.and_eq_true] at this
            rcases this with h1 | ⟨⟨⟨h1, h2⟩, h3⟩, h4⟩
            · have := hanc q hql h1
              rw [hqe] at this; cases this
            · exact ⟨h1, h2, h3, by simpa using h4⟩
          have erase_eq : ((restB ops d.A).filter fun x => !ex (listed.setIfInBounds i true) x) = ((restB ops d.A).filter fun x => !ex listed x).erase i := by
            have hnd : (restB ops d.A).Nodup := by unfold restB; exact List.Pairwise.filter _ List.nodup_range
            rw [List.Nodup.erase_eq_filter (List.Pairwise.filter _ hnd), List.filter_filter]
            apply List.filter_congr
            intro x _
            rw [hex']
            cases ex listed x <;> simp [bne]
          have hlk : ∀ t ∈ lookT ops i, ∀ v, kv fr t = some v → a.tmps[t]? = some v := by
            intro t ht v hv
            refine hI2 t ?_ v hv
            intro q hq hqe
            exact noT_iff (hunex q hq hqe).2.2.1 t ht
          have fin : ∀ fr' s' w' v, treeW (RP P R) P ops d.chk f' (((restB ops d.A).filter fun x => !ex listed x).erase i) fr' k s' → (clsAt P [] ops i ≠ .eff → s.le s') → (∀ q ∈ d.chk i, StillF P ops fr' fr' q s') → fr'.length = fr.length → (∀ t, dstT ops i ≠ some t → kv fr' t = kv fr t) →
              (∀ d, dstT ops i = some d → ∀ u, kv fr' d = some u → u = v) → Rel w0 s0 s' w' → wpAny P .any ops Q fuel (listed.setIfInBounds i true) (a.put (dstT ops i) v) w' := by
            intro fr' s' w' v ht' hle hst hlen' hkv' hdv hr'
            refine ih _ fr' s' _ w' f' (by simp [hsz]) hdown' hcount' (by rw [erase_eq]; exact ht') ?_ (hdefput _ _) (by rw [sizeput, hlen']; exact hlen) ?_ (hpinput v) hr' ?_
            · intro q hq hqe t ht
              rw [hex'] at hqe
              have hqe' : ex listed q = false := orf hqe
              obtain ⟨u1, u2, u3, u4⟩ := hunex q hq hqe'
              have hne : dstT ops i ≠ some t := by
                rcases ht with ht | ht
                · exact noT_iff u1 t ht
                · exact apartT_iff u2 t ht
              rw [hkv' t hne]
              exact hkvq q hq hqe' t ht
            · intro t hn u hu
              by_cases e : dstT ops i = some t
              · rw [e]
                have ht := kv_lt hu
                rw [putself t v (by omega)]
                rw [hdv t e u hu]
              · rw [putne _ _ _ e]
                rw [hkv' t e] at hu
                refine hI2 t ?_ u hu
                intro q hq hqe
                have e2 : q ≠ i := by rintro rfl; exact hiA hq
                exact hn q hq (by rw [hex']; simp [hqe, e2])
            · intro q hq hqe
              rw [hex'] at hqe
              have hqe' : ex listed q = false := orf hqe
              obtain ⟨u1, u2, u3, u4⟩ := hunex q hq hqe'
              rcases u4 with (h1 | h1) | h1
              · exact .inl h1
              · rcases hheap q hq hqe' with h2 | h2 | h2
                · exact .inl h2
                · exact .inr (.inl (PH.le_trans h2 (hle h1)))
                · exact .inr (.inr (h2.mono (hle h1)))
              · refine .inr (.inr ((hst q h1).congr ?_ ?_))
                · intro t ht
                  rw [hkv' t (noT_iff u1 t ht)]
                  exact hkvq q hq hqe' t (.inl ht)
                · intro t ht
                  rw [hkv' t (apartT_iff u2 t ht)]
                  exact hkvq q hq hqe' t (.inr ht)
          by_cases hal : clsAt P [] ops i ≠ .eff
          · exact gopW_on (gopW_calm hal hg) hlk hrel fun fr' s' w' v ht h1 h2 h3 h4 => fin fr' s' w' v (stillW_sound _ ht.1).1 (fun _ => ht.2) (stillW_sound _ ht.1).2 h1 h2 h3 h4
          · exact gopW_on hg hlk hrel fun fr' s' w' v ht h1 h2 h3 h4 => fin fr' s' w' v (stillW_sound _ ht).1 (fun e => absurd e hal) (stillW_sound _ ht).2 h1 h2 h3 h4
  refine main ops.size (Array.replicate ops.size false) frA sS a _ ops.size (by simp) ?_ ?_ ?_ (fun _ _ _ _ _ => rfl) hf.defers (by rw [hlenA]; exact hf.size) ?_ hp (hr.drew _) (fun _ _ _ => .inr (.inl (PH.le_refl _)))
  · intro i hi he
    simp [ex, hi] at he
  · refine Nat.le_trans (List.length_filter_le _ _) (by simp)
  · have : ((restB ops d.A).filter fun i => !ex (Array.replicate ops.size false) i) = restB ops d.A := by
      rw [List.filter_eq_self]
      intro i hi
      have hi' : i < ops.size := by
        unfold restB at hi
        exact List.mem_range.1 (List.mem_filter.1 hi).1
      simp [ex, hi']
    rw [this]; exact hA
  · intro t hn v hv
    have h1 : ∀ q ∈ d.A, dstT ops q ≠ some t := by
      intro q hq
      have hql := c0 q hq
      simp only [decide_eq_true_eq] at hql
      exact hn q hq (by simp [ex, hql])
    rw [← hkvA t h1] at hv
    unfold kv at hv
    split at hv
    · rename_i x hx
      simp at hv; subst hv
      exact hf.at_ _ _ hx
    · cases hv
end
end Fw
