/-
  Part 13 for the law: lemmas.
  Conditions: none.
-/
import Derived.Test.YtlfdfgokflhdbaaGreatExecSplitsK12
set_option linter.unusedVariables false
set_option linter.unusedSimpArgs false
set_option linter.unusedSectionVars false
section
namespace Fw
open Go
def lB (ops : Array Oper) (i x : Nat) : Bool := ((Region.before ops).getD i 0).testBit x
def BR (n : Nat) (f : Nat → Bool) : Bool := (List.range n).all f
theorem lZ {n : Nat} {f : Nat → Bool} (h : BR n f = true) : ∀ i, i < n → f i = true := by
 intro i hi
 exact List.all_eq_true.1 h i (List.mem_range.2 hi)
def j7 (d : Option Tmp) (l : List Tmp) : Bool := match d with | some d => !l.contains d | none => true
def ig (d e : Option Tmp) : Bool := match d, e with | some d, some e => d != e | _, _ => true
def qQ (ops : Array Oper) : List Nat → Bool
 | [] => true
 | q :: l => (l.all fun q' => j7 (bM ops q') (cU ops q) && ig (bM ops q') (bM ops q)) && qQ ops l
def l6 (P : Program) (ops : Array Oper) (d : iu) : Bool :=
 let n := ops.size
 d.A.all (· < n) && qQ ops d.A &&
 (BR n fun i => (dX ops i).all (· < i)) &&
 (BR n fun i => BR n fun x => !lB ops i x || (dX ops i).contains x || (dX ops i).any fun j => lB ops j x) &&
 (d.A.all fun q => (dX ops q).all fun j => d.A.contains j) &&
 (d.A.all fun q => (cM P d.quiet ops q matches .pure | .read) && j7 (bM ops q) (cU ops q)) &&
 (d.A.all fun q => d.A.all fun q' => q == q' || j7 (bM ops q') (cU ops q) || lB ops q q') &&
 (d.A.all fun q => d.A.all fun q' => q == q' || ig (bM ops q') (bM ops q)) &&
 ((bT ops d.A).all fun b => d.A.all fun q => lB ops b q ||
   (j7 (bM ops b) (cU ops q) && ig (bM ops b) (bM ops q) && j7 (bM ops q) (cU ops b) && (cM P d.quiet ops q == .pure || cM P [] ops b != .eff || (d.ee b).contains q)))
def qG (ops : Array Oper) (i q : Nat) : Bool :=
 q == i || ((j7 (bM ops i) (cU ops q) || lB ops q i) && (j7 (bM ops q) (cU ops i) || lB ops i q) && ig (bM ops i) (bM ops q))
def u7 (ops : Array Oper) (i b : Nat) : Bool :=
 b == i || lB ops b i || lB ops i b || (j7 (bM ops b) (cU ops i) && ig (bM ops b) (bM ops i) && j7 (bM ops i) (cU ops b))
def DQ (P : Program) (ops : Array Oper) (d : iu) (i : Nat) : Bool :=
 decide (i < ops.size) && !d.A.contains i && (cM P d.quiet ops i == .pure) && !d.quiet.contains i && j7 (bM ops i) (cU ops i) &&
 ((d.A ++ d.eag).all fun q => qG ops i q) && ((bT ops d.A).all fun b => u7 ops i b)
def B5 (P : Program) (ops : Array Oper) (d : iu) : Bool := d.eag.all fun i => DQ P ops d i
theorem jI {d : Option Tmp} {l : List Tmp} (h : j7 d l = true) : ∀ t ∈ l, d ≠ some t := by
 intro t ht e
 subst e
 simp [j7] at h
 exact h ht
theorem oh {d e : Option Tmp} (h : ig d e = true) : ∀ t, e = some t → d ≠ some t := by
 intro t ht e
 subst ht e
 simp [ig] at h
section
variable {P : Program} {R : Value → PH → Prop} {w0 : World} {s0 : PH} {Q : Exit → Act → World → Prop} {ops : Array Oper}
def Fact (P : Program) (R : Value → PH → Prop) (quiet : List Nat) (ops : Array Oper) (frA : Fr) (s0 : PH) (q : Nat) : Prop :=
 ∃ frq fr1 : Fr, (∀ t ∈ cU ops q, kv frq t = kv frA t) ∧ (∀ t, bM ops q = some t → kv fr1 t = kv frA t) ∧
  ∀ s' k', (cM P quiet ops q = .pure ∨ s0.le s' ∨ ie P ops frq fr1 q s') → k' fr1 s' → dP (RP P R) P frq (quiet.contains q) ops q k' s'
theorem Kx {quiet : List Nat} {s0 : PH} {kA : Fr → PH → Prop} : ∀ (A : List Nat) (fr0 : Fr), (∀ q ∈ A, cM P quiet ops q = .pure ∨ cM P quiet ops q = .read) → (∀ q ∈ A, j7 (bM ops q) (cU ops q) = true) → qQ ops A = true →
  sE (RP P R) P ops quiet A fr0 kA s0 →
  ∃ frA : Fr, kA frA s0 ∧ frA.length = fr0.length ∧ (∀ t, (∀ q ∈ A, bM ops q ≠ some t) → kv fr0 t = kv frA t) ∧ ∀ q ∈ A, Fact P R quiet ops frA s0 q := by
 intro A
 induction A with
 | nil => intro fr0 _ _ _ h; exact ⟨fr0, h, rfl, fun _ _ => rfl, by simp⟩
 | cons q l ih =>
  intro fr0 hc hn hp h
  simp only [qQ, Bool.and_eq_true] at hp
  obtain ⟨hp1, hp2⟩ := hp
  obtain ⟨fr1, h1, hlen, hkv, hall⟩ := oF (hc q (by simp)) h
  obtain ⟨frA, hA, hlenA, hkvA, hF⟩ := ih fr1 (fun x hx => hc x (by simp [hx])) (fun x hx => hn x (by simp [hx])) hp2 h1
  have hl : ∀ q' ∈ l, (∀ t ∈ cU ops q, bM ops q' ≠ some t) ∧ (∀ t, bM ops q = some t → bM ops q' ≠ some t) := by
   intro q' hq'
   have := List.all_eq_true.1 hp1 q' hq'
   simp only [Bool.and_eq_true] at this
   exact ⟨jI this.1, oh this.2⟩
  refine ⟨frA, hA, hlenA.trans hlen, ?_, ?_⟩
  ·intro t ht
   rw [← hkvA t fun q' hq' => ht q' (by simp [hq'])]
   exact (hkv t (ht q (by simp))).symm
  ·intro x hx
   rcases List.mem_cons.1 hx with rfl | hx
   ·refine ⟨fr0, fr1, ?_, ?_, fun s' k' hc' e => hall s' k' hc' e⟩
    ·intro t ht
     rw [← hkvA t fun q' hq' => (hl q' hq').1 t ht]
     exact (hkv t (jI (hn x (by simp)) t ht)).symm
    ·intro t ht
     exact hkvA t fun q' hq' => (hl q' hq').2 t ht
   ·exact hF x hx
theorem mem_ready {listed : Array Bool} {i : Nat} (h : i ∈ Region.ready .any ops listed) :
  i < ops.size ∧ listed.getD i true = false ∧ ∀ j ∈ dX ops i, listed.getD j false = true := by
 unfold Region.ready at h
 simp only [List.mem_filter, List.mem_range, Bool.and_eq_true, Bool.not_eq_true'] at h
 obtain ⟨h1, h2, h3⟩ := h
 refine ⟨h1, h2, ?_⟩
 intro j hj
 unfold dX at hj
 cases ho : ops[i]? with
 | none => rw [ho] at hj; simp at hj
 | some o =>
  rw [ho] at hj h3
  simp only [Option.map_some, Option.getD_some] at h3
  simp only [List.mem_map, List.mem_filter] at hj
  obtain ⟨e, ⟨he, hb⟩, rfl⟩ := hj
  rw [Array.all_eq_true_iff_forall_mem] at h3
  have := h3 e (by simpa using he)
  simpa [hb] using this
theorem GH {listed : Array Bool} {i : Nat} (h1 : i < ops.size) (h2 : listed.getD i true = false) (h3 : ∀ j ∈ dX ops i, listed.getD j false = true) : i ∈ Region.ready .any ops listed := by
 unfold Region.ready
 simp only [List.mem_filter, List.mem_range, Bool.and_eq_true, Bool.not_eq_true']
 refine ⟨h1, h2, ?_⟩
 have ho : ops[i]? = some ops[i] := by simp [h1]
 rw [ho]
 simp only [Option.map_some, Option.getD_some]
 rw [Array.all_eq_true_iff_forall_mem]
 intro e he
 cases hb : Region.binds .any e with
 | false => simp
 | true =>
  simp only [Bool.not_true, Bool.false_or]
  refine h3 e.on ?_
  unfold dX
  rw [ho]
  exact List.mem_map.2 ⟨e, List.mem_filter.2 ⟨by simpa using he, hb⟩, rfl⟩
def ex (listed : Array Bool) (i : Nat) : Bool := listed.getD i true
theorem Jm {listed : Array Bool} {i j : Nat} (hi : i < listed.size) : ex (listed.setIfInBounds i true) j = (ex listed j || j == i) := by
 unfold ex
 simp only [Array.getD_eq_getD_getElem?, Array.getElem?_setIfInBounds]
 by_cases h : i = j
 ·subst h; simp [hi]
 ·have : (j == i) = false := by simpa using fun e : j = i => h e.symm
  simp [h, this]
theorem oZ {listed : Array Bool} {j n : Nat} (hs : listed.size = n) (hj : j < n) : listed.getD j false = ex listed j := by
 unfold ex
 simp only [Array.getD_eq_getD_getElem?]
 rw [Array.getElem?_eq_getElem (by omega)]
 first | done | rfl
theorem Di {l : List (PH → Prop)} {s : PH} (h : uT (RP P R) l s) : ∀ x ∈ l, x s := (yd h).2
theorem wL {ee : Nat → List Nat} {eag : List Nat} {f : Nat} {fr : Fr} {k : Fr → PH → Prop} {s : PH} (h : fh (RP P R) P ops ee eag f [] fr k s) : k fr s := by
 cases f <;> exact h
theorem C8 {ee : Nat → List Nat} {eag : List Nat} {f : Nat} {rem : List Nat} {fr : Fr} {k : Fr → PH → Prop} {s : PH} (h : fh (RP P R) P ops ee eag f rem fr k s) (hn : (iq ops rem).find? (eag.contains ·) = none) {i : Nat} (hi : i ∈ rem) (hp : ∀ j ∈ dX ops i, j ∉ rem) :
  ∃ f', dP (RP P R) P fr false ops i (fun fr' => nQ (RP P R) P ops fr' (ee i) (fh (RP P R) P ops ee eag f' (rem.erase i) fr' k)) s := by
 cases f with
 | zero => cases rem with
  | nil => simp at hi
  | cons x l => exact h.elim
 | succ f => cases rem with
  | nil => simp at hi
  | cons x l =>
   refine ⟨f, ?_⟩
   simp only [fh, hn] at h
   refine Di h _ (List.mem_map.2 ⟨i, ?_, rfl⟩)
   unfold iq
   refine List.mem_filter.2 ⟨hi, ?_⟩
   rw [List.all_eq_true]
   intro j hj
   simpa using hp j hj
theorem rB {ee : Nat → List Nat} {eag : List Nat} {f : Nat} {rem : List Nat} {fr : Fr} {k : Fr → PH → Prop} {s : PH} (h : fh (RP P R) P ops ee eag f rem fr k s) {i : Nat} (hn : (iq ops rem).find? (eag.contains ·) = some i) :
  ∃ f', f = f' + 1 ∧ i ∈ eag ∧ i ∈ rem ∧ (∀ j ∈ dX ops i, j ∉ rem) ∧ dP (RP P R) P fr false ops i (fun fr' => fh (RP P R) P ops ee eag f' (rem.erase i) fr' k) s := by
 have h1 := List.find?_some hn
 have h2 := List.mem_of_find?_eq_some hn
 unfold iq at h2
 obtain ⟨h3, h4⟩ := List.mem_filter.1 h2
 cases f with
 | zero => cases rem with
  | nil => simp at h3
  | cons x l => exact h.elim
 | succ f => cases rem with
  | nil => simp at h3
  | cons x l =>
   simp only [fh, hn] at h
   refine ⟨f, rfl, by simpa using h1, h3, fun j hj => ?_, h⟩
   have := List.all_eq_true.1 h4 j hj
   simpa using this
theorem C4 {fr : Fr} {o : Oper} (h : dL fr ops o = some true) : sY ops fr o := by
 unfold dL at h
 split at h
 ·cases h
 ·rename_i j want hg
  split at h
  ·rename_i d hd
   split at h
   ·rename_i hx
    have hw : want = false := by simpa using h
    exact ⟨j, want, d, _, hg, hd, by simp only [kv, hx]; (first | done | rfl), by subst hw; intro e; cases e⟩
   ·rename_i hx
    have hw : want = true := by simpa using h
    exact ⟨j, want, d, _, hg, hd, by simp only [kv, hx]; (first | done | rfl), by subst hw; intro e; cases e⟩
   ·rename_i hx
    exact ⟨j, want, d, _, hg, hd, by simp only [kv, hx]; (first | done | rfl), by intro e; cases e⟩
   ·cases h
  ·cases h
theorem qq {fr : Fr} {q : Nat} {r : Option ((cs : List CT) × Addr × Den cs)} (h : gf P ops fr q = some r) :
  ∃ o, ops[q]? = some o ∧ ((r = none ∧ sY ops fr o) ∨ ∃ t x a h d y, o.op = .load t x ∧ o.dst = some d ∧ fr.env.ev x = some (.pointer (some a)) ∧ shapeOf P t = some h ∧ (h.1 || h.2.length == 1) = true ∧ kv fr d = some (h.mk y) ∧ r = some ⟨h.2, a, y⟩) := by
 unfold gf at h
 split at h
 ·rename_i o ho
  refine ⟨o, ho, ?_⟩
  split at h
  ·rename_i t x d h1 h2
   split at h
   ·rename_i hs
    cases h
    exact .inl ⟨rfl, C4 hs⟩
   ·split at h
    ·rename_i a ha
     split at h
     ·rename_i hh hsh
      split at h
      ·rename_i u hu
       split at h
       ·rename_i y hy
        split at h
        ·rename_i hp
         cases h
         exact .inr ⟨t, x, a, hh, d, y, h1, h2, ha, hsh, hp, by simp only [kv, hu, Shape.nS hy], rfl⟩
        ·cases h
       ·cases h
      ·cases h
     ·cases h
    ·cases h
   ·cases h
  ·cases h
 ·cases h
theorem ki {fr : Fr} {k : PH → Prop} {s : PH} : ∀ (l : List Nat), nQ (RP P R) P ops fr l k s → k s ∧ ∀ q ∈ l, ie P ops fr fr q s := by
 intro l
 induction l with
 | nil => intro h; exact ⟨h, by simp⟩
 | cons q l ih =>
  intro h
  simp only [nQ, iT] at h
  generalize hG : gf P ops fr q = z at h
  match z, hG, h with
  | some (some ⟨cs, a, y⟩), hG, h =>
   obtain ⟨h1, h2⟩ := h
   obtain ⟨h3, h4⟩ := ih h2
   refine ⟨h3, fun x hx => ?_⟩
   rcases List.mem_cons.1 hx with rfl | hx
   ·obtain ⟨o, ho, ⟨hr, _⟩ | ⟨t, x, a', h', d, y', g1, g2, g3, g4, g5, g6, g7⟩⟩ := qq hG
    ·cases hr
    ·cases g7
     exact ⟨o, ho, .inr ⟨t, x, _, h', d, _, g1, g2, g3, g4, g5, g6, h1⟩⟩
   ·exact h4 x hx
  | some none, hG, h =>
   obtain ⟨h3, h4⟩ := ih h
   refine ⟨h3, fun x hx => ?_⟩
   rcases List.mem_cons.1 hx with rfl | hx
   ·obtain ⟨o, ho, ⟨_, hs⟩ | ⟨t, x, a', h', d, y', g1, g2, g3, g4, g5, g6, g7⟩⟩ := qq hG
    ·exact ⟨o, ho, .inl hs⟩
    ·cases g7
   ·exact h4 x hx
  | none, hG, h => exact h.elim
theorem ie.congr {f f' g g' : Fr} {q : Nat} {s : PH} (h : ie P ops f g q s) (hl : ∀ t ∈ cU ops q, kv f t = kv f' t) (hd : ∀ t, bM ops q = some t → kv g t = kv g' t) : ie P ops f' g' q s := by
 obtain ⟨o, ho, h⟩ := h
 have hlook : cU ops q = o.looksAt ops := by simp [cU, ho]
 have hdst : bM ops q = o.dst := by simp [bM, ho]
 refine ⟨o, ho, ?_⟩
 rcases h with ⟨j, want, d, v, g1, g2, g3, g4⟩ | ⟨t, x, a, hh, d, y, g1, g2, g3, g4, g5, g6, g7⟩
 ·refine .inl ⟨j, want, d, v, g1, g2, ?_, g4⟩
  rw [← hl d ?_]; exact g3
  rw [hlook]
  unfold Oper.looksAt
  refine List.mem_append_right _ ?_
  rw [g1]; simp [g2]
 ·refine .inr ⟨t, x, a, hh, d, y, g1, g2, ?_, g4, g5, ?_, g7⟩
  ·rw [← yQ (fr := f) fun t ht => hl t ?_]; exact g3
   rw [hlook]
   refine wh ?_
   rw [← ht, g1]
   simp [Op.operands]
  ·rw [← hd d (by rw [hdst]; exact g2)]; exact g6
theorem ie.mono {f g : Fr} {q : Nat} {s s' : PH} (h : ie P ops f g q s) (hle : s.le s') : ie P ops f g q s' := by
 obtain ⟨o, ho, h | ⟨t, x, a, hh, d, y, g1, g2, g3, g4, g5, g6, g7⟩⟩ := h
 ·exact ⟨o, ho, .inl h⟩
 ·exact ⟨o, ho, .inr ⟨t, x, a, hh, d, y, g1, g2, g3, g4, g5, g6, gS hle g7⟩⟩
theorem Hl {b c : Bool} (h : (b || c) = false) : b = false := (Bool.or_eq_false_iff.1 h).1
theorem Fact.congr {quiet : List Nat} {fr fr' : Fr} {sS : PH} {q : Nat} (h : Fact P R quiet ops fr sS q) (hl : ∀ t ∈ cU ops q, kv fr t = kv fr' t) (hd : ∀ t, bM ops q = some t → kv fr t = kv fr' t) : Fact P R quiet ops fr' sS q := by
 obtain ⟨frq, fr1, h1, h2, h3⟩ := h
 exact ⟨frq, fr1, fun t ht => (h1 t ht).trans (hl t ht), fun t ht => (h2 t ht).trans (hd t ht), h3⟩
structure lW (P : Program) (R : Value → PH → Prop) (ops : Array Oper) (d : iu) (sS : PH) (A : List Nat) (listed : Array Bool) (fr : Fr) (s : PH) (a : Act) : Prop where
 sup : ∀ q ∈ d.A, q ∈ A
 sub : ∀ q ∈ A, q ∈ d.A ∨ q ∈ d.eag
 down : ∀ x, x < ops.size → (x ∈ A ∨ ex listed x = true) → ∀ j ∈ dX ops x, j ∈ A ∨ ex listed j = true
 fact : ∀ q ∈ A, ex listed q = false → Fact P R d.quiet ops fr sS q
 heap : ∀ q ∈ A, ex listed q = false → cM P d.quiet ops q = .pure ∨ sS.le s ∨ ie P ops fr fr q s
 slots : ∀ t, (∀ q ∈ A, ex listed q = false → bM ops q ≠ some t) → ∀ v, kv fr t = some v → a.tmps[t]? = some v
theorem EH {A : List Nat} {i : Nat} : bT ops (i :: A) = (bT ops A).filter fun x => x != i := by
 unfold bT
 rw [List.filter_filter]
 apply List.filter_congr
 intro x _
 by_cases h : x = i <;> simp [h, bne]
theorem EG {A : List Nat} {listed : Array Bool} {i : Nat} : ((bT ops (i :: A)).filter fun x => !ex listed x) = ((bT ops A).filter fun x => !ex listed x).erase i := by
 have hnd : (bT ops A).Nodup := by unfold bT; exact List.Pairwise.filter _ List.nodup_range
 rw [EH, List.Nodup.erase_eq_filter (List.Pairwise.filter _ hnd), List.filter_filter, List.filter_filter]
 apply List.filter_congr
 intro x _
 cases ex listed x <;> simp [bne]
section
variable {d : iu} (hok : l6 P ops d = true) (heg : B5 P ops d = true)
include hok
theorem Dk (D : Nat → Prop) (hD : ∀ x, x < ops.size → D x → ∀ j ∈ dX ops x, D j) : ∀ i, i < ops.size → (∀ j ∈ dX ops i, D j) → ∀ x, x < ops.size → lB ops i x = true → D x := by
 simp only [l6, Bool.and_eq_true] at hok
 obtain ⟨⟨⟨⟨⟨⟨⟨⟨c0, c1⟩, c2⟩, c3⟩, c4⟩, c5⟩, c6⟩, c7⟩, c8⟩ := hok
 intro i
 induction i using Nat.strongRecOn with
 | _ i ih =>
  intro hi hpi x hx hax
  have := lZ (lZ c3 i hi) x hx
  simp only [hax, Bool.not_true, Bool.false_or, Bool.or_eq_true] at this
  rcases this with h1 | h1
  ·exact hpi x (by simpa using h1)
  ·rw [List.any_eq_true] at h1
   obtain ⟨j, hj, hjx⟩ := h1
   have hji : j < i := by have := List.all_eq_true.1 (lZ c2 i hi) j hj; simpa using this
   exact ih j hji (by omega) (hD j (by omega) (hpi j hj)) x hx hjx
include heg
theorem pS {i : Nat} (hi : i ∈ d.eag) : i < ops.size ∧ i ∉ d.A ∧ cM P d.quiet ops i = .pure ∧ d.quiet.contains i = false ∧ j7 (bM ops i) (cU ops i) = true ∧ (∀ q, q ∈ d.A ∨ q ∈ d.eag → qG ops i q = true) ∧ (∀ b ∈ bT ops d.A, u7 ops i b = true) := by
 have h := List.all_eq_true.1 heg i hi
 simp only [DQ, Bool.and_eq_true, decide_eq_true_eq, Bool.not_eq_true', beq_iff_eq] at h
 obtain ⟨⟨⟨⟨⟨⟨h1, h2⟩, h3⟩, h4⟩, h5⟩, h6⟩, h7⟩ := h
 refine ⟨h1, by simpa using h2, h3, h4, h5, fun q hq => List.all_eq_true.1 h6 q (by simpa using hq), fun b hb => List.all_eq_true.1 h7 b hb⟩
theorem Gz {q : Nat} (hq : q ∈ d.A ∨ q ∈ d.eag) : q < ops.size ∧ (cM P d.quiet ops q = .pure ∨ cM P d.quiet ops q = .read) ∧ j7 (bM ops q) (cU ops q) = true := by
 rcases hq with hq | hq
 ·simp only [l6, Bool.and_eq_true] at hok
  obtain ⟨⟨⟨⟨⟨⟨⟨⟨c0, c1⟩, c2⟩, c3⟩, c4⟩, c5⟩, c6⟩, c7⟩, c8⟩ := hok
  have h0 := List.all_eq_true.1 c0 q hq
  have h5 := List.all_eq_true.1 c5 q hq
  simp only [Bool.and_eq_true] at h5
  refine ⟨by simpa using h0, ?_, h5.2⟩
  have h1 := h5.1
  cases hc : cM P d.quiet ops q <;> simp_all
 ·obtain ⟨h1, h2, h3, h4, h5, h6, h7⟩ := pS hok heg hq
  exact ⟨h1, .inl h3, h5⟩
theorem Ho {q q' : Nat} (hq : q ∈ d.A ∨ q ∈ d.eag) (hq' : q' ∈ d.A ∨ q' ∈ d.eag) (hne : q ≠ q') : (j7 (bM ops q') (cU ops q) = true ∨ lB ops q q' = true) ∧ ig (bM ops q') (bM ops q) = true := by
 have apart_symm : ∀ {x y : Option Tmp}, ig x y = true → ig y x = true := by
  intro x y h
  cases x <;> cases y <;> simp_all [ig]
  exact fun e => h e.symm
 by_cases h : q' ∈ d.eag
 ·have := (pS hok heg h).2.2.2.2.2.1 q hq
  simp only [qG, Bool.or_eq_true, Bool.and_eq_true, beq_iff_eq, hne, false_or] at this
  exact ⟨this.1.1, this.2⟩
 ·by_cases h' : q ∈ d.eag
  ·have := (pS hok heg h').2.2.2.2.2.1 q' hq'
   simp only [qG, Bool.or_eq_true, Bool.and_eq_true, beq_iff_eq, Ne.symm hne, false_or] at this
   exact ⟨this.1.2, apart_symm this.2⟩
  ·have hqA : q ∈ d.A := hq.resolve_right h'
   have hqA' : q' ∈ d.A := hq'.resolve_right h
   simp only [l6, Bool.and_eq_true] at hok
   obtain ⟨⟨⟨⟨⟨⟨⟨⟨c0, c1⟩, c2⟩, c3⟩, c4⟩, c5⟩, c6⟩, c7⟩, c8⟩ := hok
   have h6 := List.all_eq_true.1 (List.all_eq_true.1 c6 q hqA) q' hqA'
   have h7 := List.all_eq_true.1 (List.all_eq_true.1 c7 q hqA) q' hqA'
   simp only [Bool.or_eq_true, beq_iff_eq, hne, false_or] at h6 h7
   exact ⟨h6, h7⟩
variable {sS s : PH} {A : List Nat} {listed : Array Bool} {fr : Fr} {a : Act}
theorem lW.lt (_h : lW P R ops d sS A listed fr s a) {q : Nat} (hq : q ∈ A) : q < ops.size := (Gz hok heg (_h.sub q hq)).1
theorem lW.Ke (h : lW P R ops d sS A listed fr s a) {i : Nat} (hi : i < ops.size) (hp : ∀ j ∈ dX ops i, j ∈ A ∨ ex listed j = true) {x : Nat} (hx : x < ops.size) (ha : lB ops i x = true) : x ∈ A ∨ ex listed x = true :=
 Dk hok (fun x => x ∈ A ∨ ex listed x = true) h.down i hi hp x hx ha
theorem nJ {b : Nat} : b ∈ ((bT ops A).filter fun i => !ex listed i) ↔ b < ops.size ∧ b ∉ A ∧ ex listed b = false := by
 unfold bT
 simp only [List.mem_filter, List.mem_range, Bool.not_eq_true', and_assoc]
 simp
theorem lW.read {k : Fr → PH → Prop} {f : Nat} (h : lW P R ops d sS A listed fr s a) {i : Nat} (he : i ∈ d.eag) (hi : i ∈ ((bT ops A).filter fun i => !ex listed i)) (hp : ∀ j ∈ dX ops i, j ∉ ((bT ops A).filter fun i => !ex listed i))
  (hpl : ∀ j ∈ dX ops i, j < ops.size) (hg : dP (RP P R) P fr false ops i (fun fr' => fh (RP P R) P ops d.ee d.eag f (((bT ops A).filter fun i => !ex listed i).erase i) fr' k) s) :
  ∃ fr', lW P R ops d sS (i :: A) listed fr' s a ∧ fh (RP P R) P ops d.ee d.eag f ((bT ops (i :: A)).filter fun i => !ex listed i) fr' k s ∧ fr'.length = fr.length := by
 obtain ⟨e1, e2, e3, e4, e5, e6, e7⟩ := pS hok heg he
 obtain ⟨hin, hiA, hil⟩ := (nJ hok heg).1 hi
 have hg : dP (RP P R) P fr (d.quiet.contains i) ops i (fun fr' => fh (RP P R) P ops d.ee d.eag f (((bT ops A).filter fun i => !ex listed i).erase i) fr' k) s := by rw [e4]; exact hg
 obtain ⟨fr1, h1, hlen, hkv, hall⟩ := oF (.inl e3) hg
 have hpd : ∀ j ∈ dX ops i, j ∈ A ∨ ex listed j = true := by
  intro j hj
  have := hp j hj
  rw [nJ hok heg] at this
  by_cases h1 : j ∈ A
  ·exact .inl h1
  ·right
   cases h2 : ex listed j with
   | true => rfl
   | false => exact absurd ⟨hpl j hj, h1, h2⟩ this
 have hold : ∀ q ∈ A, ∀ t, (t ∈ cU ops q ∨ bM ops q = some t) → kv fr t = kv fr1 t := by
  intro q hq t ht
  have hne : q ≠ i := fun e => hiA (e ▸ hq)
  obtain ⟨g1, g2⟩ := Ho hok heg (h.sub q hq) (.inr he) hne
  refine (hkv t ?_).symm
  rcases ht with ht | ht
  ·rcases g1 with g1 | g1
   ·exact jI g1 t ht
   ·have := h.Ke hok heg (h.lt hok heg hq) (fun j hj => h.down q (h.lt hok heg hq) (.inl hq) j hj) hin g1
    rcases this with h3 | h3
    ·exact absurd h3 hiA
    ·rw [hil] at h3; cases h3
  ·exact oh g2 t ht
 refine ⟨fr1, ⟨fun q hq => List.mem_cons_of_mem _ (h.sup q hq), ?_, ?_, ?_, ?_, ?_⟩, by rw [EG]; exact h1, hlen⟩
 ·intro q hq
  rcases List.mem_cons.1 hq with rfl | hq
  ·exact .inr he
  ·exact h.sub q hq
 ·intro x hx hxA j hj
  rcases hxA with hxA | hxA
  ·rcases List.mem_cons.1 hxA with rfl | hxA
   ·exact (hpd j hj).imp_left fun h => List.mem_cons_of_mem _ h
   ·exact (h.down x hx (.inl hxA) j hj).imp_left fun h => List.mem_cons_of_mem _ h
  ·exact (h.down x hx (.inr hxA) j hj).imp_left fun h => List.mem_cons_of_mem _ h
 ·intro q hq hql
  rcases List.mem_cons.1 hq with rfl | hq
  ·refine ⟨fr, fr1, fun t ht => (hkv t (jI e5 t ht)).symm, fun t _ => rfl, ?_⟩
   intro s' k' _ hk'
   exact hall s' k' (.inl e3) hk'
  ·exact (h.fact q hq hql).congr (fun t ht => hold q hq t (.inl ht)) (fun t ht => hold q hq t (.inr ht))
 ·intro q hq hql
  rcases List.mem_cons.1 hq with rfl | hq
  ·exact .inl e3
  ·rcases h.heap q hq hql with h1 | h1 | h1
   ·exact .inl h1
   ·exact .inr (.inl h1)
   ·exact .inr (.inr (h1.congr (fun t ht => hold q hq t (.inl ht)) (fun t ht => hold q hq t (.inr ht))))
 ·intro t ht v hv
  rw [hkv t (ht i (by simp) hil)] at hv
  exact h.slots t (fun q hq hql => ht q (List.mem_cons_of_mem _ hq) hql) v hv
theorem lW.readAll {k : Fr → PH → Prop} (hpl : ∀ i, i < ops.size → ∀ j ∈ dX ops i, j < ops.size) : ∀ (f : Nat) {A : List Nat} {fr : Fr}, lW P R ops d sS A listed fr s a → fh (RP P R) P ops d.ee d.eag f ((bT ops A).filter fun i => !ex listed i) fr k s →
  ∃ f' A' fr', lW P R ops d sS A' listed fr' s a ∧ fh (RP P R) P ops d.ee d.eag f' ((bT ops A').filter fun i => !ex listed i) fr' k s ∧ fr'.length = fr.length ∧
   (iq ops ((bT ops A').filter fun i => !ex listed i)).find? (d.eag.contains ·) = none := by
 intro f
 induction f with
 | zero =>
  intro A fr h ht
  refine ⟨0, A, fr, h, ht, rfl, ?_⟩
  cases hr : (iq ops ((bT ops A).filter fun i => !ex listed i)).find? (d.eag.contains ·) with
  | none => rfl
  | some i => obtain ⟨f', e, _⟩ := rB ht hr; cases e
 | succ f ih =>
  intro A fr h ht
  cases hr : (iq ops ((bT ops A).filter fun i => !ex listed i)).find? (d.eag.contains ·) with
  | none => exact ⟨f + 1, A, fr, h, ht, rfl, hr⟩
  | some i =>
   obtain ⟨f', e, h1, h2, h3, h4⟩ := rB ht hr
   have e : f = f' := by omega
   subst e
   obtain ⟨fr', h5, h6, h7⟩ := h.read hok heg h1 h2 h3 (hpl i ((nJ hok heg).1 h2).1) h4
   obtain ⟨f'', A', fr'', g1, g2, g3, g4⟩ := ih h5 h6
   exact ⟨f'', A', fr'', g1, g2, g3.trans h7, g4⟩
end
set_option maxHeartbeats 1000000 in
theorem B4 (hm : P.follows .mixedOrders = true) {id : Nat} {ops : Array Oper} {d : iu} (hok : l6 P ops d = true) (heg : B5 P ops d = true) : vO P id ops d := by
 intro R w0 s0 pin Q fr0 sS k hfree hk h a w hf hp hr
 have hok' := hok
 simp only [l6, Bool.and_eq_true] at hok'
 obtain ⟨⟨⟨⟨⟨⟨⟨⟨c0, c1⟩, c2⟩, c3⟩, c4⟩, c5⟩, c6⟩, c7⟩, c8⟩ := hok'
 have c4 := List.all_eq_true.1 c4
 have c8 := List.all_eq_true.1 c8
 have hA1 : ∀ q ∈ d.A, q < ops.size ∧ (cM P d.quiet ops q = .pure ∨ cM P d.quiet ops q = .read) ∧ j7 (bM ops q) (cU ops q) = true := fun q hq => Gz hok heg (.inl hq)
 obtain ⟨frA, hA, hlenA, hkvA, hF⟩ := Kx d.A fr0 (fun q hq => (hA1 q hq).2.1) (fun q hq => (hA1 q hq).2.2) c1 h
 have hpl : ∀ i, i < ops.size → ∀ j ∈ dX ops i, j < ops.size := by
  intro i hi j hj
  have := List.all_eq_true.1 (lZ c2 i hi) j hj
  simp only [decide_eq_true_eq] at this; omega
 refine wp_region_any hm ?_
 -- the invariant
 have main : ∀ (fuel : Nat) (listed : Array Bool) (A : List Nat) (fr : Fr) (s : PH) (a : Act) (w : World) (f : Nat), listed.size = ops.size →
   (∀ i, i < ops.size → ex listed i = true → ∀ j ∈ dX ops i, ex listed j = true) →
   ((List.range ops.size).filter fun i => !ex listed i).length ≤ fuel →
   fh (RP P R) P ops d.ee d.eag f ((bT ops A).filter fun i => !ex listed i) fr k s →
   lW P R ops d sS A listed fr s a →
   a.defers = [] → fr.length ≤ a.tmps.size → pin.le a → Rel w0 s0 s w →
   wpAny P .any ops Q fuel listed a w := by
  intro fuel
  induction fuel with
  | zero =>
   intro listed A fr s a w f hsz hdown hcount htree hinv hdef hlen hpin hrel
   have hall : ∀ i, i < ops.size → ex listed i = true := by
    intro i hi
    have hnil := List.eq_nil_of_length_eq_zero (Nat.le_zero.1 hcount)
    rw [List.filter_eq_nil_iff] at hnil
    simpa using hnil i (List.mem_range.2 hi)
   refine ⟨?_, ?_⟩
   ·cases hrd : Region.ready .any ops listed with
    | nil => rfl
    | cons x xs =>
     have := mem_ready (ops := ops) (listed := listed) (i := x) (by rw [hrd]; simp)
     have h1 := hall x this.1
     unfold ex at h1
     rw [this.2.1] at h1; cases h1
   ·have hrem : (bT ops A).filter (fun i => !ex listed i) = [] := by
     rw [List.filter_eq_nil_iff]
     intro i hi
     have : i < ops.size := by
      unfold bT at hi
      exact List.mem_range.1 (List.mem_filter.1 hi).1
     simp [hall i this]
    rw [hrem] at htree
    refine hk _ _ (wL htree) _ _ ⟨hdef, hlen, ?_⟩ hpin hrel
    intro t x ht
    refine hinv.slots t ?_ x.val (by simp [kv, ht])
    intro q hq hex
    rw [hall q (hinv.lt hok heg hq)] at hex; cases hex
  | succ fuel ih =>
   intro listed A0 fr0 s a w f0 hsz hdown hcount htree0 hinv0 hdef hlen0 hpin hrel
   obtain ⟨f, A, fr, hinv, htree, hlenfr, hnone⟩ := hinv0.readAll hok heg hpl f0 htree0
   have hlen : fr.length ≤ a.tmps.size := by rw [hlenfr]; exact hlen0
   refine ⟨?_, ?_⟩
   ·intro hnil
    have hall : ∀ i, i < ops.size → ex listed i = true := by
     intro i
     induction i using Nat.strongRecOn with
     | _ i ihi =>
      intro hi
      cases hx : ex listed i with
      | true => rfl
      | false =>
       have : i ∈ Region.ready .any ops listed := by
        refine GH hi hx ?_
        intro j hj
        have hji : j < i := by have := List.all_eq_true.1 (lZ c2 i hi) j hj; simpa using this
        rw [oZ hsz (by omega)]
        exact ihi j hji (by omega)
       rw [hnil] at this; simp at this
    have hrem : (bT ops A).filter (fun i => !ex listed i) = [] := by
     rw [List.filter_eq_nil_iff]
     intro i hi
     have : i < ops.size := by
      unfold bT at hi
      exact List.mem_range.1 (List.mem_filter.1 hi).1
     simp [hall i this]
    rw [hrem] at htree
    refine hk _ _ (wL htree) _ _ ⟨hdef, hlen, ?_⟩ hpin hrel
    intro t x ht
    refine hinv.slots t ?_ x.val (by simp [kv, ht])
    intro q hq hex
    rw [hall q (hinv.lt hok heg hq)] at hex; cases hex
   ·intro i hi
    obtain ⟨hin, hnl, hpreds⟩ := mem_ready hi
    have hnl' : ex listed i = false := hnl
    have hpl2 : ∀ j ∈ dX ops i, ex listed j = true := by
     intro j hj
     rw [← oZ hsz (hpl i hin j hj)]; exact hpreds j hj
    have hanc : ∀ x, x < ops.size → lB ops i x = true → ex listed x = true := Dk hok (fun x => ex listed x = true) hdown i hin hpl2
    have hex' : ∀ j, ex (listed.setIfInBounds i true) j = (ex listed j || j == i) := fun j => Jm (by omega)
    have hdown' : ∀ x, x < ops.size → ex (listed.setIfInBounds i true) x = true → ∀ j ∈ dX ops x, ex (listed.setIfInBounds i true) j = true := by
     intro x hx hxe j hj
     rw [hex'] at hxe ⊢
     rcases Bool.or_eq_true _ _ ▸ hxe with h1 | h1
     ·simp [hdown x hx h1 j hj]
     ·simp at h1; subst h1; simp [hpl2 j hj]
    have hdownA' : ∀ x, x < ops.size → (x ∈ A ∨ ex (listed.setIfInBounds i true) x = true) → ∀ j ∈ dX ops x, j ∈ A ∨ ex (listed.setIfInBounds i true) j = true := by
     intro x hx hxe j hj
     rcases hxe with h1 | h1
     ·rcases hinv.down x hx (.inl h1) j hj with h2 | h2
      ·exact .inl h2
      ·exact .inr (by rw [hex']; simp [h2])
     ·exact .inr (hdown' x hx h1 j hj)
    have hcount' : ((List.range ops.size).filter fun x => !ex (listed.setIfInBounds i true) x).length ≤ fuel := by
     have e : ((List.range ops.size).filter fun x => !ex (listed.setIfInBounds i true) x) = ((List.range ops.size).filter fun x => !ex listed x).erase i := by
      rw [List.Nodup.erase_eq_filter (List.Pairwise.filter _ List.nodup_range), List.filter_filter]
      apply List.filter_congr
      intro x _
      rw [hex']
      cases ex listed x <;> simp [bne]
     rw [e, List.length_erase_of_mem (List.mem_filter.2 ⟨List.mem_range.2 hin, by simp [hnl']⟩)]
     omega
    have sizeput : ∀ (d : Option Tmp) (v : Value), (a.put d v).tmps.size = a.tmps.size := by
     intro d v; cases d <;> simp [Act.put]
    have putne : ∀ (d : Option Tmp) (v : Value) (t : Nat), d ≠ some t → (a.put d v).tmps[t]? = a.tmps[t]? := by
     intro d v t hne
     cases d with
     | none => rfl
     | some d => simp only [Act.put]; exact Array.getElem?_setIfInBounds_ne (by rintro rfl; exact hne rfl)
    have putself : ∀ (d : Nat) (v : Value), d < a.tmps.size → (a.put (some d) v).tmps[d]? = some v := by
     intro d v hd; simp [Act.put, hd]
    have hdefput : ∀ (d : Option Tmp) (v : Value), (a.put d v).defers = [] := by
     intro d v; cases d <;> exact hdef
    have hpinput : ∀ v, pin.le (a.put (bM ops i) v) := by
     intro v
     have ho : ops[i]? = some ops[i] := by simp [hin]
     have : bM ops i = ops[i].dst := by simp [bM, ho]
     rw [this]
     exact hpin.pinned (hfree i _ ho) v
    by_cases hiA : i ∈ A
    ·-- one that is read already
     obtain ⟨frq, fr1, hlook, hdst, hall⟩ := hinv.fact i hiA hnl'
     have hcond : cM P d.quiet ops i = .pure ∨ sS.le s ∨ ie P ops frq fr1 i s := by
      rcases hinv.heap i hiA hnl' with h1 | h1 | h1
      ·exact .inl h1
      ·exact .inr (.inl h1)
      ·exact .inr (.inr (h1.congr (fun t ht => (hlook t ht).symm) (fun t ht => (hdst t ht).symm)))
     have hg := hall s (fun fr' s' => fr' = fr1 ∧ s' = s) hcond ⟨rfl, rfl⟩
     refine vj hg ?_ hrel ?_
     ·intro t ht v hv
      rw [hlook t ht] at hv
      refine hinv.slots t ?_ v hv
      intro q hq hqe hd
      by_cases e : i = q
      ·subst e; exact jI (Gz hok heg (hinv.sub i hiA)).2.2 t ht hd
      ·rcases (Ho hok heg (hinv.sub i hiA) (hinv.sub q hq) e).1 with h1 | h1
       ·exact jI h1 t ht hd
       ·have := hanc q (hinv.lt hok heg hq) h1
        rw [hqe] at this; cases this
     ·rintro fr' s' w' v ⟨rfl, rfl⟩ _ _ hdv hr'
      refine ih _ A fr s' _ w' f (by simp [hsz]) hdown' hcount' ?_ ?_ (hdefput _ _) (by rw [sizeput]; exact hlen) (hpinput v) hr'
      ·have e : ((bT ops A).filter fun x => !ex (listed.setIfInBounds i true) x) = ((bT ops A).filter fun x => !ex listed x) := by
        apply List.filter_congr
        intro x hx
        rw [hex']
        have : x ≠ i := by
         rintro rfl
         unfold bT at hx
         have := (List.mem_filter.1 hx).2
         simp at this; exact this hiA
        simp [this]
       rw [e]; exact htree
      ·refine ⟨hinv.sup, hinv.sub, hdownA', ?_, ?_, ?_⟩
       ·intro q hq hqe
        rw [hex'] at hqe
        exact hinv.fact q hq (Hl hqe)
       ·intro q hq hqe
        rw [hex'] at hqe
        exact hinv.heap q hq (Hl hqe)
       ·intro t hn u hu
        by_cases e : bM ops i = some t
        ·rw [e]
         have ht := xN hu
         rw [putself t v (by omega)]
         rw [← hdst t e] at hu
         rw [hdv t e u hu]
        ·rw [putne _ _ _ e]
         refine hinv.slots t ?_ u hu
         intro q hq hqe
         by_cases e2 : q = i
         ·subst e2; exact e
         ·exact hn q hq (by rw [hex']; simp [hqe, e2])
    ·-- one of the others
     have hirem : i ∈ (bT ops A).filter fun x => !ex listed x := (nJ hok heg).2 ⟨hin, hiA, hnl'⟩
     have hiB : i ∈ bT ops d.A := by
      unfold bT
      exact List.mem_filter.2 ⟨List.mem_range.2 hin, by simpa using fun h => hiA (hinv.sup i h)⟩
     obtain ⟨f', hg⟩ := C8 htree hnone hirem (fun j hj hjm => by
      have := ((nJ hok heg).1 hjm).2.2
      rw [hpl2 j hj] at this; cases this)
     have hunex : ∀ q ∈ A, ex listed q = false → j7 (bM ops i) (cU ops q) = true ∧ ig (bM ops i) (bM ops q) = true ∧ j7 (bM ops q) (cU ops i) = true ∧ ((cM P d.quiet ops q = .pure ∨ cM P [] ops i ≠ .eff) ∨ q ∈ d.ee i) := by
      intro q hq hqe
      have hql := hinv.lt hok heg hq
      rcases hinv.sub q hq with hqA | hqE
      ·have := List.all_eq_true.1 (c8 i hiB) q hqA
       simp only [Bool.or_eq_true, Bool.and_eq_true] at this
       rcases this with h1 | ⟨⟨⟨h1, h2⟩, h3⟩, h4⟩
       ·have := hanc q hql h1
        rw [hqe] at this; cases this
       ·exact ⟨h1, h2, h3, by simpa using h4⟩
      ·obtain ⟨e1, e2, e3, e4, e5, e6, e7⟩ := pS hok heg hqE
       have := e7 i hiB
       have hne : i ≠ q := fun e => hiA (e ▸ hq)
       simp only [u7, Bool.or_eq_true, Bool.and_eq_true, beq_iff_eq, hne, false_or] at this
       rcases this with (h1 | h1) | ⟨⟨h1, h2⟩, h3⟩
       ·have := hanc q hql h1
        rw [hqe] at this; cases this
       ·have := hinv.Ke hok heg hql (fun j hj => hinv.down q hql (.inl hq) j hj) hin h1
        rcases this with h2 | h2
        ·exact absurd h2 hiA
        ·rw [hnl'] at h2; cases h2
       ·exact ⟨h1, h2, h3, .inl (.inl e3)⟩
     have erase_eq : ((bT ops A).filter fun x => !ex (listed.setIfInBounds i true) x) = ((bT ops A).filter fun x => !ex listed x).erase i := by
      have hnd : (bT ops A).Nodup := by unfold bT; exact List.Pairwise.filter _ List.nodup_range
      rw [List.Nodup.erase_eq_filter (List.Pairwise.filter _ hnd), List.filter_filter]
      apply List.filter_congr
      intro x _
      rw [hex']
      cases ex listed x <;> simp [bne]
     have hlk : ∀ t ∈ cU ops i, ∀ v, kv fr t = some v → a.tmps[t]? = some v := by
      intro t ht v hv
      refine hinv.slots t ?_ v hv
      intro q hq hqe
      exact jI (hunex q hq hqe).2.2.1 t ht
     have fin : ∀ fr' s' w' v, fh (RP P R) P ops d.ee d.eag f' (((bT ops A).filter fun x => !ex listed x).erase i) fr' k s' → (cM P [] ops i ≠ .eff → s.le s') → (∀ q ∈ d.ee i, ie P ops fr' fr' q s') → fr'.length = fr.length → (∀ t, bM ops i ≠ some t → kv fr' t = kv fr t) →
       (∀ d, bM ops i = some d → ∀ u, kv fr' d = some u → u = v) → Rel w0 s0 s' w' → wpAny P .any ops Q fuel (listed.setIfInBounds i true) (a.put (bM ops i) v) w' := by
      intro fr' s' w' v ht' hle hst hlen' hkv' hdv hr'
      have hsame : ∀ q ∈ A, ex listed q = false → ∀ t, (t ∈ cU ops q ∨ bM ops q = some t) → kv fr t = kv fr' t := by
       intro q hq hqe t ht
       obtain ⟨u1, u2, u3, u4⟩ := hunex q hq hqe
       refine (hkv' t ?_).symm
       rcases ht with ht | ht
       ·exact jI u1 t ht
       ·exact oh u2 t ht
      refine ih _ A fr' s' _ w' f' (by simp [hsz]) hdown' hcount' (by rw [erase_eq]; exact ht') ?_ (hdefput _ _) (by rw [sizeput, hlen']; exact hlen) (hpinput v) hr'
      refine ⟨hinv.sup, hinv.sub, hdownA', ?_, ?_, ?_⟩
      ·intro q hq hqe
       rw [hex'] at hqe
       have hqe' : ex listed q = false := Hl hqe
       exact (hinv.fact q hq hqe').congr (fun t ht => hsame q hq hqe' t (.inl ht)) (fun t ht => hsame q hq hqe' t (.inr ht))
      ·intro q hq hqe
       rw [hex'] at hqe
       have hqe' : ex listed q = false := Hl hqe
       obtain ⟨u1, u2, u3, u4⟩ := hunex q hq hqe'
       rcases u4 with (h1 | h1) | h1
       ·exact .inl h1
       ·rcases hinv.heap q hq hqe' with h2 | h2 | h2
        ·exact .inl h2
        ·exact .inr (.inl (PH.le_trans h2 (hle h1)))
        ·exact .inr (.inr ((h2.mono (hle h1)).congr (fun t ht => hsame q hq hqe' t (.inl ht)) (fun t ht => hsame q hq hqe' t (.inr ht))))
       ·exact .inr (.inr (hst q h1))
      ·intro t hn u hu
       by_cases e : bM ops i = some t
       ·rw [e]
        have ht := xN hu
        rw [putself t v (by omega)]
        rw [hdv t e u hu]
       ·rw [putne _ _ _ e]
        rw [hkv' t e] at hu
        refine hinv.slots t ?_ u hu
        intro q hq hqe
        have e2 : q ≠ i := by rintro rfl; exact hiA hq
        exact hn q hq (by rw [hex']; simp [hqe, e2])
     by_cases hal : cM P [] ops i ≠ .eff
     ·exact vj (DV hal hg) hlk hrel fun fr' s' w' v ht h1 h2 h3 h4 => fin fr' s' w' v (ki _ ht.1).1 (fun _ => ht.2) (ki _ ht.1).2 h1 h2 h3 h4
     ·exact vj hg hlk hrel fun fr' s' w' v ht h1 h2 h3 h4 => fin fr' s' w' v (ki _ ht).1 (fun e => absurd e hal) (ki _ ht).2 h1 h2 h3 h4
 have hexn : ∀ i, ex (Array.replicate ops.size false) i = true → ¬ i < ops.size := by
  intro i he hi
  simp [ex, hi] at he
 refine main ops.size (Array.replicate ops.size false) d.A frA sS a _ ops.size (by simp) ?_ ?_ ?_ ?_ hf.defers (by rw [hlenA]; exact hf.size) hp (hr.drew _)
 ·intro i hi he
  exact absurd hi (hexn i he)
 ·refine Nat.le_trans (List.length_filter_le _ _) (by simp)
 ·have : ((bT ops d.A).filter fun i => !ex (Array.replicate ops.size false) i) = bT ops d.A := by
   rw [List.filter_eq_self]
   intro i hi
   have hi' : i < ops.size := by
    unfold bT at hi
    exact List.mem_range.1 (List.mem_filter.1 hi).1
   simp [ex, hi']
  rw [this]; exact hA
 ·refine ⟨fun q hq => hq, fun q hq => .inl hq, ?_, fun q hq _ => hF q hq, fun _ _ _ => .inr (.inl (PH.le_refl _)), ?_⟩
  ·intro x hx hxA j hj
   rcases hxA with hxA | hxA
   ·have := List.all_eq_true.1 (c4 x hxA) j hj
    exact .inl (by simpa using this)
   ·exact absurd hx (hexn x hxA)
  ·intro t hn v hv
   have h1 : ∀ q ∈ d.A, bM ops q ≠ some t := by
    intro q hq
    exact hn q hq (by simp [ex, (hA1 q hq).1])
   rw [← hkvA t h1] at hv
   unfold kv at hv
   split at hv
   ·rename_i x hx
    simp at hv; subst hv
    exact hf.at_ _ _ hx
   ·cases hv
def eI (P : Program) (ann : lH) : Code → Bool
 | .region id ops draw => !draw || (match ann.draws.lookup id with | some d => l6 P ops d && B5 P ops d | none => true)
 | .seq a b => eI P ann a && eI P ann b
 | .cond _ a b => eI P ann a && eI P ann b
 | .block _ a => eI P ann a
 | .loop a => eI P ann a
 | .scope a => eI P ann a
 | _ => true
theorem DO (hm : P.follows .mixedOrders = true) {ann : lH} : ∀ (c : Code), eI P ann c = true → iM P ann c := by
 intro c
 induction c with
 | region id ops draw =>
  intro h hd d hl
  subst hd
  simp only [eI, Bool.not_true, Bool.false_or, hl, Bool.and_eq_true] at h
  exact B4 hm h.1 h.2
 | seq a b iha ihb => intro h; simp only [eI, Bool.and_eq_true] at h; exact ⟨iha h.1, ihb h.2⟩
 | cond c a b iha ihb => intro h; simp only [eI, Bool.and_eq_true] at h; exact ⟨iha h.1, ihb h.2⟩
 | block id a ih => intro h; exact ih h
 | loop a ih => intro h; exact ih h
 | scope a ih => intro h; exact ih h
 | _ => intro h; trivial
end
end Fw
end
