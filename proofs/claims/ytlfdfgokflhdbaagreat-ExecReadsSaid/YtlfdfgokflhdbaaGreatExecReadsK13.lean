/-
  Part 13 for the law: lemmas.
  Conditions: none.
-/
import Derived.Test.YtlfdfgokflhdbaaGreatExecReadsK12
set_option linter.unusedVariables false
set_option linter.unusedSimpArgs false
set_option linter.unusedSectionVars false
section
namespace Fw
open Go
def lO (ops : Array Oper) (i x : Nat) : Bool := ((Region.before ops).getD i 0).testBit x
def CI (n : Nat) (f : Nat → Bool) : Bool := (List.range n).all f
theorem mC {n : Nat} {f : Nat → Bool} (h : CI n f = true) : ∀ i, i < n → f i = true := by
 intro i hi;exact List.all_eq_true.1 h i (List.mem_range.2 hi)
def ki (d : Option Tmp) (l : List Tmp) : Bool := match d with | some d => !l.contains d | none => true
def iy (d e : Option Tmp) : Bool := match d, e with | some d, some e => d != e | _, _ => true
def rD (ops : Array Oper) : List Nat → Bool
 | [] => true
 | q :: l => (l.all fun q' => ki (bQ ops q') (cX ops q) && iy (bQ ops q') (bQ ops q)) && rD ops l
def mE (P : Program) (ops : Array Oper) (d : iC) : Bool :=
 let n := ops.size
 d.A.all (· < n) && rD ops d.A &&
 (CI n fun i => (ef ops i).all (· < i)) &&
 (CI n fun i => CI n fun x => !lO ops i x || (ef ops i).contains x || (ef ops i).any fun j => lO ops j x) &&
 (d.A.all fun q => (ef ops q).all fun j => d.A.contains j) &&
 (d.A.all fun q => (cP P d.quiet ops q matches .pure | .read) && ki (bQ ops q) (cX ops q)) &&
 (d.A.all fun q => d.A.all fun q' => q == q' || ki (bQ ops q') (cX ops q) || lO ops q q') &&
 (d.A.all fun q => d.A.all fun q' => q == q' || iy (bQ ops q') (bQ ops q)) &&
 ((bY ops d.A).all fun b => d.A.all fun q => lO ops b q ||
   (ki (bQ ops b) (cX ops q) && iy (bQ ops b) (bQ ops q) && ki (bQ ops q) (cX ops b) && (cP P d.quiet ops q == .pure || cP P [] ops b != .eff || (d.eB b).contains q)))
def q8 (ops : Array Oper) (i q : Nat) : Bool :=
 q == i || ((ki (bQ ops i) (cX ops q) || lO ops q i) && (ki (bQ ops q) (cX ops i) || lO ops i q) && iy (bQ ops i) (bQ ops q))
def vI (ops : Array Oper) (i b : Nat) : Bool :=
 b == i || lO ops b i || lO ops i b || (ki (bQ ops b) (cX ops i) && iy (bQ ops b) (bQ ops i) && ki (bQ ops i) (cX ops b))
def ED (P : Program) (ops : Array Oper) (d : iC) (i : Nat) : Bool :=
 decide (i < ops.size) && !d.A.contains i && (cP P d.quiet ops i == .pure) && !d.quiet.contains i && ki (bQ ops i) (cX ops i) &&
 ((d.A ++ d.eag).all fun q => q8 ops i q) && ((bY ops d.A).all fun b => vI ops i b)
def CX (P : Program) (ops : Array Oper) (d : iC) : Bool := d.eag.all fun i => ED P ops d i
theorem jQ {d : Option Tmp} {l : List Tmp} (h : ki d l = true) : ∀ t ∈ l, d ≠ some t := by
 intro t ht e;subst e;simp [ki] at h;exact h ht
theorem oL {d e : Option Tmp} (h : iy d e = true) : ∀ t, e = some t → d ≠ some t := by
 intro t ht e;subst ht e;simp [iy] at h
section
variable {P : Program} {R : Value → PH → Prop} {w0 : World} {s0 : PH} {Q : Exit → Act → World → Prop} {ops : Array Oper}
def Fact (P : Program) (R : Value → PH → Prop) (quiet : List Nat) (ops : Array Oper) (frA : Fr) (s0 : PH) (q : Nat) : Prop :=
 ∃ frq fr1 : Fr, (∀ t ∈ cX ops q, kv frq t = kv frA t) ∧ (∀ t, bQ ops q = some t → kv fr1 t = kv frA t) ∧
  ∀ s' k', (cP P quiet ops q = .pure ∨ s0.le s' ∨ iw P ops frq fr1 q s') → k' fr1 s' → dW (RP P R) P frq (quiet.contains q) ops q k' s'
theorem Lj {quiet : List Nat} {s0 : PH} {kA : Fr → PH → Prop} : ∀ (A : List Nat) (fr0 : Fr), (∀ q ∈ A, cP P quiet ops q = .pure ∨ cP P quiet ops q = .read) → (∀ q ∈ A, ki (bQ ops q) (cX ops q) = true) → rD ops A = true →
  tj (RP P R) P ops quiet A fr0 kA s0 →
  ∃ frA : Fr, kA frA s0 ∧ frA.length = fr0.length ∧ (∀ t, (∀ q ∈ A, bQ ops q ≠ some t) → kv fr0 t = kv frA t) ∧ ∀ q ∈ A, Fact P R quiet ops frA s0 q := by
 intro A
 induction A with
 | nil => intro fr0 _ _ _ h; exact ⟨fr0, h, rfl, fun _ _ => rfl, by simp⟩
 | cons q l ih =>
  intro fr0 hc hn hp h;simp only [rD, Bool.and_eq_true] at hp;obtain ⟨hp1, hp2⟩ := hp;obtain ⟨fr1, h1, hlen, hkv, hall⟩ := oZ (hc q (by simp)) h;obtain ⟨frA, hA, hlenA, hkvA, hF⟩ := ih fr1 (fun x hx => hc x (by simp [hx])) (fun x hx => hn x (by simp [hx])) hp2 h1
  have hl : ∀ q' ∈ l, (∀ t ∈ cX ops q, bQ ops q' ≠ some t) ∧ (∀ t, bQ ops q = some t → bQ ops q' ≠ some t) := by
   intro q' hq';have := List.all_eq_true.1 hp1 q' hq';simp only [Bool.and_eq_true] at this;exact ⟨jQ this.1, oL this.2⟩
  refine ⟨frA, hA, hlenA.trans hlen, ?_, ?_⟩
  ·intro t ht;rw [← hkvA t fun q' hq' => ht q' (by simp [hq'])];exact (hkv t (ht q (by simp))).symm
  ·intro x hx;rcases List.mem_cons.1 hx with rfl | hx
   ·refine ⟨fr0, fr1, ?_, ?_, fun s' k' hc' e => hall s' k' hc' e⟩
    ·intro t ht;rw [← hkvA t fun q' hq' => (hl q' hq').1 t ht];exact (hkv t (jQ (hn x (by simp)) t ht)).symm
    ·intro t ht;exact hkvA t fun q' hq' => (hl q' hq').2 t ht
   ·exact hF x hx
theorem mem_ready {listed : Array Bool} {i : Nat} (h : i ∈ Region.ready .any ops listed) :
  i < ops.size ∧ listed.getD i true = false ∧ ∀ j ∈ ef ops i, listed.getD j false = true := by
 unfold Region.ready at h;simp only [List.mem_filter, List.mem_range, Bool.and_eq_true, Bool.not_eq_true'] at h;obtain ⟨h1, h2, h3⟩ := h;refine ⟨h1, h2, ?_⟩;intro j hj;unfold ef at hj
 cases ho : ops[i]? with
 | none => rw [ho] at hj; simp at hj
 | some o =>
  rw [ho] at hj h3;simp only [Option.map_some, Option.getD_some] at h3;simp only [List.mem_map, List.mem_filter] at hj;obtain ⟨e, ⟨he, hb⟩, rfl⟩ := hj;rw [Array.all_eq_true_iff_forall_mem] at h3;have := h3 e (by simpa using he);simpa [hb] using this
theorem HE {listed : Array Bool} {i : Nat} (h1 : i < ops.size) (h2 : listed.getD i true = false) (h3 : ∀ j ∈ ef ops i, listed.getD j false = true) : i ∈ Region.ready .any ops listed := by
 unfold Region.ready;simp only [List.mem_filter, List.mem_range, Bool.and_eq_true, Bool.not_eq_true'];refine ⟨h1, h2, ?_⟩
 have ho : ops[i]? = some ops[i] := by simp [h1]
 rw [ho];simp only [Option.map_some, Option.getD_some];rw [Array.all_eq_true_iff_forall_mem];intro e he
 cases hb : Region.binds .any e with
 | false => simp
 | true =>
  simp only [Bool.not_true, Bool.false_or];refine h3 e.on ?_;unfold ef;rw [ho];exact List.mem_map.2 ⟨e, List.mem_filter.2 ⟨by simpa using he, hb⟩, rfl⟩
def ex (listed : Array Bool) (i : Nat) : Bool := listed.getD i true
theorem Kg {listed : Array Bool} {i j : Nat} (hi : i < listed.size) : ex (listed.setIfInBounds i true) j = (ex listed j || j == i) := by
 unfold ex;simp only [Array.getD_eq_getD_getElem?, Array.getElem?_setIfInBounds]
 by_cases h : i = j
 ·subst h; simp [hi]
 ·have : (j == i) = false := by simpa using fun e : j = i => h e.symm
  simp [h, this]
theorem pQ {listed : Array Bool} {j n : Nat} (hs : listed.size = n) (hj : j < n) : listed.getD j false = ex listed j := by
 unfold ex;simp only [Array.getD_eq_getD_getElem?];rw [Array.getElem?_eq_getElem (by omega)]
 first | done | rfl
theorem D6 {l : List (PH → Prop)} {s : PH} (h : vB (RP P R) l s) : ∀ x ∈ l, x s := (yV h).2
theorem xw {eB : Nat → List Nat} {eag : List Nat} {f : Nat} {fr : Fr} {k : Fr → PH → Prop} {s : PH} (h : fz (RP P R) P ops eB eag f [] fr k s) : k fr s := by
 cases f <;> exact h
theorem DW {eB : Nat → List Nat} {eag : List Nat} {f : Nat} {rem : List Nat} {fr : Fr} {k : Fr → PH → Prop} {s : PH} (h : fz (RP P R) P ops eB eag f rem fr k s) (hn : (iA ops rem).find? (eag.contains ·) = none) {i : Nat} (hi : i ∈ rem) (hp : ∀ j ∈ ef ops i, j ∉ rem) :
  ∃ f', dW (RP P R) P fr false ops i (fun fr' => oh (RP P R) P ops fr' (eB i) (fz (RP P R) P ops eB eag f' (rem.erase i) fr' k)) s := by
 cases f with
 | zero => cases rem with
  | nil => simp at hi
  | cons x l => exact h.elim
 | succ f => cases rem with
  | nil => simp at hi
  | cons x l =>
   refine ⟨f, ?_⟩;simp only [fz, hn] at h;refine D6 h _ (List.mem_map.2 ⟨i, ?_, rfl⟩);unfold iA;refine List.mem_filter.2 ⟨hi, ?_⟩;rw [List.all_eq_true];intro j hj;simpa using hp j hj
theorem rZ {eB : Nat → List Nat} {eag : List Nat} {f : Nat} {rem : List Nat} {fr : Fr} {k : Fr → PH → Prop} {s : PH} (h : fz (RP P R) P ops eB eag f rem fr k s) {i : Nat} (hn : (iA ops rem).find? (eag.contains ·) = some i) :
  ∃ f', f = f' + 1 ∧ i ∈ eag ∧ i ∈ rem ∧ (∀ j ∈ ef ops i, j ∉ rem) ∧ dW (RP P R) P fr false ops i (fun fr' => fz (RP P R) P ops eB eag f' (rem.erase i) fr' k) s := by
 have h1 := List.find?_some hn;have h2 := List.mem_of_find?_eq_some hn;unfold iA at h2;obtain ⟨h3, h4⟩ := List.mem_filter.1 h2
 cases f with
 | zero => cases rem with
  | nil => simp at h3
  | cons x l => exact h.elim
 | succ f => cases rem with
  | nil => simp at h3
  | cons x l =>
   simp only [fz, hn] at h;refine ⟨f, rfl, by simpa using h1, h3, fun j hj => ?_, h⟩;have := List.all_eq_true.1 h4 j hj;simpa using this
theorem DS {fr : Fr} {o : Oper} (h : dS fr ops o = some true) : tL ops fr o := by
 unfold dS at h
 split at h
 ·cases h
 ·rename_i j want hg
  split at h
  ·rename_i d hd
   split at h
   ·rename_i hx
    have hw : want = false := by simpa using h
    exact ⟨j, want, d, _, hg, hd, by simp only [kv, hx]; (first | done | rfl), by subst hw; intro e; cases e⟩
   ·rename_i hx
    have hw : want = true := by simpa using h
    exact ⟨j, want, d, _, hg, hd, by simp only [kv, hx]; (first | done | rfl), by subst hw; intro e; cases e⟩
   ·rename_i hx
    exact ⟨j, want, d, _, hg, hd, by simp only [kv, hx]; (first | done | rfl), by intro e; cases e⟩
   ·cases h
  ·cases h
theorem qR {fr : Fr} {q : Nat} {r : Option ((cs : List CT) × Addr × Den cs)} (h : gm P ops fr q = some r) :
  ∃ o, ops[q]? = some o ∧ ((r = none ∧ tL ops fr o) ∨ ∃ t x a h d y, o.op = .load t x ∧ o.dst = some d ∧ fr.env.ev x = some (.pointer (some a)) ∧ shapeOf P t = some h ∧ (h.1 || h.2.length == 1) = true ∧ kv fr d = some (h.mk y) ∧ r = some ⟨h.2, a, y⟩) := by
 unfold gm at h
 split at h
 ·rename_i o ho
  refine ⟨o, ho, ?_⟩
  split at h
  ·rename_i t x d h1 h2
   split at h
   ·rename_i hs
    cases h;exact .inl ⟨rfl, DS hs⟩
   ·split at h
    ·rename_i a ha
     split at h
     ·rename_i hh hsh
      split at h
      ·rename_i u hu
       split at h
       ·rename_i y hy
        split at h
        ·rename_i hp
         cases h;exact .inr ⟨t, x, a, hh, d, y, h1, h2, ha, hsh, hp, by simp only [kv, hu, Shape.oq hy], rfl⟩
        ·cases h
       ·cases h
      ·cases h
     ·cases h
    ·cases h
   ·cases h
  ·cases h
 ·cases h
theorem kz {fr : Fr} {k : PH → Prop} {s : PH} : ∀ (l : List Nat), oh (RP P R) P ops fr l k s → k s ∧ ∀ q ∈ l, iw P ops fr fr q s := by
 intro l
 induction l with
 | nil => intro h; exact ⟨h, by simp⟩
 | cons q l ih =>
  intro h;simp only [oh, iZ] at h
  generalize hG : gm P ops fr q = z at h
  match z, hG, h with
  | some (some ⟨cs, a, y⟩), hG, h =>
   obtain ⟨h1, h2⟩ := h;obtain ⟨h3, h4⟩ := ih h2;refine ⟨h3, fun x hx => ?_⟩;rcases List.mem_cons.1 hx with rfl | hx
   ·obtain ⟨o, ho, ⟨hr, _⟩ | ⟨t, x, a', h', d, y', g1, g2, g3, g4, g5, g6, g7⟩⟩ := qR hG
    ·cases hr
    ·cases g7;exact ⟨o, ho, .inr ⟨t, x, _, h', d, _, g1, g2, g3, g4, g5, g6, h1⟩⟩
   ·exact h4 x hx
  | some none, hG, h =>
   obtain ⟨h3, h4⟩ := ih h;refine ⟨h3, fun x hx => ?_⟩;rcases List.mem_cons.1 hx with rfl | hx
   ·obtain ⟨o, ho, ⟨_, hs⟩ | ⟨t, x, a', h', d, y', g1, g2, g3, g4, g5, g6, g7⟩⟩ := qR hG
    ·exact ⟨o, ho, .inl hs⟩
    ·cases g7
   ·exact h4 x hx
  | none, hG, h => exact h.elim
theorem iw.congr {f f' g g' : Fr} {q : Nat} {s : PH} (h : iw P ops f g q s) (hl : ∀ t ∈ cX ops q, kv f t = kv f' t) (hd : ∀ t, bQ ops q = some t → kv g t = kv g' t) : iw P ops f' g' q s := by
 obtain ⟨o, ho, h⟩ := h
 have hlook : cX ops q = o.looksAt ops := by simp [cX, ho]
 have hdst : bQ ops q = o.dst := by simp [bQ, ho]
 refine ⟨o, ho, ?_⟩;rcases h with ⟨j, want, d, v, g1, g2, g3, g4⟩ | ⟨t, x, a, hh, d, y, g1, g2, g3, g4, g5, g6, g7⟩
 ·refine .inl ⟨j, want, d, v, g1, g2, ?_, g4⟩;rw [← hl d ?_]; exact g3;rw [hlook];unfold Oper.looksAt;refine List.mem_append_right _ ?_;rw [g1]; simp [g2]
 ·refine .inr ⟨t, x, a, hh, d, y, g1, g2, ?_, g4, g5, ?_, g7⟩
  ·rw [← zz (fr := f) fun t ht => hl t ?_]; exact g3;rw [hlook];refine wU ?_;rw [← ht, g1];simp [Op.operands]
  ·rw [← hd d (by rw [hdst]; exact g2)]; exact g6
theorem iw.mono {f g : Fr} {q : Nat} {s s' : PH} (h : iw P ops f g q s) (hle : s.le s') : iw P ops f g q s' := by
 obtain ⟨o, ho, h | ⟨t, x, a, hh, d, y, g1, g2, g3, g4, g5, g6, g7⟩⟩ := h
 ·exact ⟨o, ho, .inl h⟩
 ·exact ⟨o, ho, .inr ⟨t, x, a, hh, d, y, g1, g2, g3, g4, g5, g6, hY hle g7⟩⟩
theorem Il {b c : Bool} (h : (b || c) = false) : b = false := (Bool.or_eq_false_iff.1 h).1
theorem Fact.congr {quiet : List Nat} {fr fr' : Fr} {sS : PH} {q : Nat} (h : Fact P R quiet ops fr sS q) (hl : ∀ t ∈ cX ops q, kv fr t = kv fr' t) (hd : ∀ t, bQ ops q = some t → kv fr t = kv fr' t) : Fact P R quiet ops fr' sS q := by
 obtain ⟨frq, fr1, h1, h2, h3⟩ := h;exact ⟨frq, fr1, fun t ht => (h1 t ht).trans (hl t ht), fun t ht => (h2 t ht).trans (hd t ht), h3⟩
structure mw (P : Program) (R : Value → PH → Prop) (ops : Array Oper) (d : iC) (sS : PH) (A : List Nat) (listed : Array Bool) (fr : Fr) (s : PH) (a : Act) : Prop where
 sup : ∀ q ∈ d.A, q ∈ A
 sub : ∀ q ∈ A, q ∈ d.A ∨ q ∈ d.eag
 down : ∀ x, x < ops.size → (x ∈ A ∨ ex listed x = true) → ∀ j ∈ ef ops x, j ∈ A ∨ ex listed j = true
 fact : ∀ q ∈ A, ex listed q = false → Fact P R d.quiet ops fr sS q
 heap : ∀ q ∈ A, ex listed q = false → cP P d.quiet ops q = .pure ∨ sS.le s ∨ iw P ops fr fr q s
 slots : ∀ t, (∀ q ∈ A, ex listed q = false → bQ ops q ≠ some t) → ∀ v, kv fr t = some v → a.tmps[t]? = some v
theorem FD {A : List Nat} {i : Nat} : bY ops (i :: A) = (bY ops A).filter fun x => x != i := by
 unfold bY;rw [List.filter_filter];apply List.filter_congr;intro x _
 by_cases h : x = i <;> simp [h, bne]
theorem FC {A : List Nat} {listed : Array Bool} {i : Nat} : ((bY ops (i :: A)).filter fun x => !ex listed x) = ((bY ops A).filter fun x => !ex listed x).erase i := by
 have hnd : (bY ops A).Nodup := by unfold bY; exact List.Pairwise.filter _ List.nodup_range
 rw [FD, List.Nodup.erase_eq_filter (List.Pairwise.filter _ hnd), List.filter_filter, List.filter_filter];apply List.filter_congr;intro x _
 cases ex listed x <;> simp [bne]
section
variable {d : iC} (hok : mE P ops d = true) (heg : CX P ops d = true)
include hok
theorem D8 (D : Nat → Prop) (hD : ∀ x, x < ops.size → D x → ∀ j ∈ ef ops x, D j) : ∀ i, i < ops.size → (∀ j ∈ ef ops i, D j) → ∀ x, x < ops.size → lO ops i x = true → D x := by
 simp only [mE, Bool.and_eq_true] at hok;obtain ⟨⟨⟨⟨⟨⟨⟨⟨c0, c1⟩, c2⟩, c3⟩, c4⟩, c5⟩, c6⟩, c7⟩, c8⟩ := hok;intro i
 induction i using Nat.strongRecOn with
 | _ i ih =>
  intro hi hpi x hx hax;have := mC (mC c3 i hi) x hx;simp only [hax, Bool.not_true, Bool.false_or, Bool.or_eq_true] at this;rcases this with h1 | h1
  ·exact hpi x (by simpa using h1)
  ·rw [List.any_eq_true] at h1;obtain ⟨j, hj, hjx⟩ := h1
   have hji : j < i := by have := List.all_eq_true.1 (mC c2 i hi) j hj; simpa using this
   exact ih j hji (by omega) (hD j (by omega) (hpi j hj)) x hx hjx
include heg
theorem qn {i : Nat} (hi : i ∈ d.eag) : i < ops.size ∧ i ∉ d.A ∧ cP P d.quiet ops i = .pure ∧ d.quiet.contains i = false ∧ ki (bQ ops i) (cX ops i) = true ∧ (∀ q, q ∈ d.A ∨ q ∈ d.eag → q8 ops i q = true) ∧ (∀ b ∈ bY ops d.A, vI ops i b = true) := by
 have h := List.all_eq_true.1 heg i hi;simp only [ED, Bool.and_eq_true, decide_eq_true_eq, Bool.not_eq_true', beq_iff_eq] at h;obtain ⟨⟨⟨⟨⟨⟨h1, h2⟩, h3⟩, h4⟩, h5⟩, h6⟩, h7⟩ := h;refine ⟨h1, by simpa using h2, h3, h4, h5, fun q hq => List.all_eq_true.1 h6 q (by simpa using hq), fun b hb => List.all_eq_true.1 h7 b hb⟩
theorem Hx {q : Nat} (hq : q ∈ d.A ∨ q ∈ d.eag) : q < ops.size ∧ (cP P d.quiet ops q = .pure ∨ cP P d.quiet ops q = .read) ∧ ki (bQ ops q) (cX ops q) = true := by
 rcases hq with hq | hq
 ·simp only [mE, Bool.and_eq_true] at hok;obtain ⟨⟨⟨⟨⟨⟨⟨⟨c0, c1⟩, c2⟩, c3⟩, c4⟩, c5⟩, c6⟩, c7⟩, c8⟩ := hok;have h0 := List.all_eq_true.1 c0 q hq;have h5 := List.all_eq_true.1 c5 q hq;simp only [Bool.and_eq_true] at h5;refine ⟨by simpa using h0, ?_, h5.2⟩;have h1 := h5.1
  cases hc : cP P d.quiet ops q <;> simp_all
 ·obtain ⟨h1, h2, h3, h4, h5, h6, h7⟩ := qn hok heg hq;exact ⟨h1, .inl h3, h5⟩
theorem Im {q q' : Nat} (hq : q ∈ d.A ∨ q ∈ d.eag) (hq' : q' ∈ d.A ∨ q' ∈ d.eag) (hne : q ≠ q') : (ki (bQ ops q') (cX ops q) = true ∨ lO ops q q' = true) ∧ iy (bQ ops q') (bQ ops q) = true := by
 have apart_symm : ∀ {x y : Option Tmp}, iy x y = true → iy y x = true := by
  intro x y h
  cases x <;> cases y <;> simp_all [iy]
  exact fun e => h e.symm
 by_cases h : q' ∈ d.eag
 ·have := (qn hok heg h).2.2.2.2.2.1 q hq;simp only [q8, Bool.or_eq_true, Bool.and_eq_true, beq_iff_eq, hne, false_or] at this;exact ⟨this.1.1, this.2⟩
 ·by_cases h' : q ∈ d.eag
  ·have := (qn hok heg h').2.2.2.2.2.1 q' hq';simp only [q8, Bool.or_eq_true, Bool.and_eq_true, beq_iff_eq, Ne.symm hne, false_or] at this;exact ⟨this.1.2, apart_symm this.2⟩
  ·have hqA : q ∈ d.A := hq.resolve_right h';have hqA' : q' ∈ d.A := hq'.resolve_right h;simp only [mE, Bool.and_eq_true] at hok;obtain ⟨⟨⟨⟨⟨⟨⟨⟨c0, c1⟩, c2⟩, c3⟩, c4⟩, c5⟩, c6⟩, c7⟩, c8⟩ := hok;have h6 := List.all_eq_true.1 (List.all_eq_true.1 c6 q hqA) q' hqA';have h7 := List.all_eq_true.1 (List.all_eq_true.1 c7 q hqA) q' hqA';simp only [Bool.or_eq_true, beq_iff_eq, hne, false_or] at h6 h7;exact ⟨h6, h7⟩
variable {sS s : PH} {A : List Nat} {listed : Array Bool} {fr : Fr} {a : Act}
theorem mw.lt (_h : mw P R ops d sS A listed fr s a) {q : Nat} (hq : q ∈ A) : q < ops.size := (Hx hok heg (_h.sub q hq)).1
theorem mw.K1 (h : mw P R ops d sS A listed fr s a) {i : Nat} (hi : i < ops.size) (hp : ∀ j ∈ ef ops i, j ∈ A ∨ ex listed j = true) {x : Nat} (hx : x < ops.size) (ha : lO ops i x = true) : x ∈ A ∨ ex listed x = true :=
 D8 hok (fun x => x ∈ A ∨ ex listed x = true) h.down i hi hp x hx ha
theorem nX {b : Nat} : b ∈ ((bY ops A).filter fun i => !ex listed i) ↔ b < ops.size ∧ b ∉ A ∧ ex listed b = false := by
 unfold bY;simp only [List.mem_filter, List.mem_range, Bool.not_eq_true', and_assoc];simp
theorem mw.read {k : Fr → PH → Prop} {f : Nat} (h : mw P R ops d sS A listed fr s a) {i : Nat} (he : i ∈ d.eag) (hi : i ∈ ((bY ops A).filter fun i => !ex listed i)) (hp : ∀ j ∈ ef ops i, j ∉ ((bY ops A).filter fun i => !ex listed i))
  (hpl : ∀ j ∈ ef ops i, j < ops.size) (hg : dW (RP P R) P fr false ops i (fun fr' => fz (RP P R) P ops d.eB d.eag f (((bY ops A).filter fun i => !ex listed i).erase i) fr' k) s) :
  ∃ fr', mw P R ops d sS (i :: A) listed fr' s a ∧ fz (RP P R) P ops d.eB d.eag f ((bY ops (i :: A)).filter fun i => !ex listed i) fr' k s ∧ fr'.length = fr.length := by
 obtain ⟨e1, e2, e3, e4, e5, e6, e7⟩ := qn hok heg he;obtain ⟨hin, hiA, hil⟩ := (nX hok heg).1 hi
 have hg : dW (RP P R) P fr (d.quiet.contains i) ops i (fun fr' => fz (RP P R) P ops d.eB d.eag f (((bY ops A).filter fun i => !ex listed i).erase i) fr' k) s := by rw [e4]; exact hg
 obtain ⟨fr1, h1, hlen, hkv, hall⟩ := oZ (.inl e3) hg
 have hpd : ∀ j ∈ ef ops i, j ∈ A ∨ ex listed j = true := by
  intro j hj;have := hp j hj;rw [nX hok heg] at this
  by_cases h1 : j ∈ A
  ·exact .inl h1
  ·right
   cases h2 : ex listed j with
   | true => rfl
   | false => exact absurd ⟨hpl j hj, h1, h2⟩ this
 have hold : ∀ q ∈ A, ∀ t, (t ∈ cX ops q ∨ bQ ops q = some t) → kv fr t = kv fr1 t := by
  intro q hq t ht;have hne : q ≠ i := fun e => hiA (e ▸ hq);obtain ⟨g1, g2⟩ := Im hok heg (h.sub q hq) (.inr he) hne;refine (hkv t ?_).symm;rcases ht with ht | ht
  ·rcases g1 with g1 | g1
   ·exact jQ g1 t ht
   ·have := h.K1 hok heg (h.lt hok heg hq) (fun j hj => h.down q (h.lt hok heg hq) (.inl hq) j hj) hin g1;rcases this with h3 | h3
    ·exact absurd h3 hiA
    ·rw [hil] at h3; cases h3
  ·exact oL g2 t ht
 refine ⟨fr1, ⟨fun q hq => List.mem_cons_of_mem _ (h.sup q hq), ?_, ?_, ?_, ?_, ?_⟩, by rw [FC]; exact h1, hlen⟩
 ·intro q hq;rcases List.mem_cons.1 hq with rfl | hq
  ·exact .inr he
  ·exact h.sub q hq
 ·intro x hx hxA j hj;rcases hxA with hxA | hxA
  ·rcases List.mem_cons.1 hxA with rfl | hxA
   ·exact (hpd j hj).imp_left fun h => List.mem_cons_of_mem _ h
   ·exact (h.down x hx (.inl hxA) j hj).imp_left fun h => List.mem_cons_of_mem _ h
  ·exact (h.down x hx (.inr hxA) j hj).imp_left fun h => List.mem_cons_of_mem _ h
 ·intro q hq hql;rcases List.mem_cons.1 hq with rfl | hq
  ·refine ⟨fr, fr1, fun t ht => (hkv t (jQ e5 t ht)).symm, fun t _ => rfl, ?_⟩;intro s' k' _ hk';exact hall s' k' (.inl e3) hk'
  ·exact (h.fact q hq hql).congr (fun t ht => hold q hq t (.inl ht)) (fun t ht => hold q hq t (.inr ht))
 ·intro q hq hql;rcases List.mem_cons.1 hq with rfl | hq
  ·exact .inl e3
  ·rcases h.heap q hq hql with h1 | h1 | h1
   ·exact .inl h1
   ·exact .inr (.inl h1)
   ·exact .inr (.inr (h1.congr (fun t ht => hold q hq t (.inl ht)) (fun t ht => hold q hq t (.inr ht))))
 ·intro t ht v hv;rw [hkv t (ht i (by simp) hil)] at hv;exact h.slots t (fun q hq hql => ht q (List.mem_cons_of_mem _ hq) hql) v hv
theorem mw.readAll {k : Fr → PH → Prop} (hpl : ∀ i, i < ops.size → ∀ j ∈ ef ops i, j < ops.size) : ∀ (f : Nat) {A : List Nat} {fr : Fr}, mw P R ops d sS A listed fr s a → fz (RP P R) P ops d.eB d.eag f ((bY ops A).filter fun i => !ex listed i) fr k s →
  ∃ f' A' fr', mw P R ops d sS A' listed fr' s a ∧ fz (RP P R) P ops d.eB d.eag f' ((bY ops A').filter fun i => !ex listed i) fr' k s ∧ fr'.length = fr.length ∧
   (iA ops ((bY ops A').filter fun i => !ex listed i)).find? (d.eag.contains ·) = none := by
 intro f
 induction f with
 | zero =>
  intro A fr h ht;refine ⟨0, A, fr, h, ht, rfl, ?_⟩
  cases hr : (iA ops ((bY ops A).filter fun i => !ex listed i)).find? (d.eag.contains ·) with
  | none => rfl
  | some i => obtain ⟨f', e, _⟩ := rZ ht hr; cases e
 | succ f ih =>
  intro A fr h ht
  cases hr : (iA ops ((bY ops A).filter fun i => !ex listed i)).find? (d.eag.contains ·) with
  | none => exact ⟨f + 1, A, fr, h, ht, rfl, hr⟩
  | some i =>
   obtain ⟨f', e, h1, h2, h3, h4⟩ := rZ ht hr
   have e : f = f' := by omega
   subst e;obtain ⟨fr', h5, h6, h7⟩ := h.read hok heg h1 h2 h3 (hpl i ((nX hok heg).1 h2).1) h4;obtain ⟨f'', A', fr'', g1, g2, g3, g4⟩ := ih h5 h6;exact ⟨f'', A', fr'', g1, g2, g3.trans h7, g4⟩
end
set_option maxHeartbeats 1000000 in
theorem CW (hm : P.follows .mixedOrders = true) {id : Nat} {ops : Array Oper} {d : iC} (hok : mE P ops d = true) (heg : CX P ops d = true) : wE P id ops d := by
 intro R w0 s0 pin Q fr0 sS k hfree hk h a w hf hp hr;have hok' := hok;simp only [mE, Bool.and_eq_true] at hok';obtain ⟨⟨⟨⟨⟨⟨⟨⟨c0, c1⟩, c2⟩, c3⟩, c4⟩, c5⟩, c6⟩, c7⟩, c8⟩ := hok';have c4 := List.all_eq_true.1 c4;have c8 := List.all_eq_true.1 c8;have hA1 : ∀ q ∈ d.A, q < ops.size ∧ (cP P d.quiet ops q = .pure ∨ cP P d.quiet ops q = .read) ∧ ki (bQ ops q) (cX ops q) = true := fun q hq => Hx hok heg (.inl hq);obtain ⟨frA, hA, hlenA, hkvA, hF⟩ := Lj d.A fr0 (fun q hq => (hA1 q hq).2.1) (fun q hq => (hA1 q hq).2.2) c1 h
 have hpl : ∀ i, i < ops.size → ∀ j ∈ ef ops i, j < ops.size := by
  intro i hi j hj;have := List.all_eq_true.1 (mC c2 i hi) j hj;simp only [decide_eq_true_eq] at this; omega
 refine wp_region_any hm ?_
 -- the invariant
 have main : ∀ (fuel : Nat) (listed : Array Bool) (A : List Nat) (fr : Fr) (s : PH) (a : Act) (w : World) (f : Nat), listed.size = ops.size →
   (∀ i, i < ops.size → ex listed i = true → ∀ j ∈ ef ops i, ex listed j = true) →
   ((List.range ops.size).filter fun i => !ex listed i).length ≤ fuel →
   fz (RP P R) P ops d.eB d.eag f ((bY ops A).filter fun i => !ex listed i) fr k s →
   mw P R ops d sS A listed fr s a →
   a.defers = [] → fr.length ≤ a.tmps.size → pin.le a → Rel w0 s0 s w →
   wpAny P .any ops Q fuel listed a w := by
  intro fuel
  induction fuel with
  | zero =>
   intro listed A fr s a w f hsz hdown hcount htree hinv hdef hlen hpin hrel
   have hall : ∀ i, i < ops.size → ex listed i = true := by
    intro i hi;have hnil := List.eq_nil_of_length_eq_zero (Nat.le_zero.1 hcount);rw [List.filter_eq_nil_iff] at hnil;simpa using hnil i (List.mem_range.2 hi)
   refine ⟨?_, ?_⟩
   ·cases hrd : Region.ready .any ops listed with
    | nil => rfl
    | cons x xs =>
     have := mem_ready (ops := ops) (listed := listed) (i := x) (by rw [hrd]; simp);have h1 := hall x this.1;unfold ex at h1;rw [this.2.1] at h1; cases h1
   ·have hrem : (bY ops A).filter (fun i => !ex listed i) = [] := by
     rw [List.filter_eq_nil_iff];intro i hi
     have : i < ops.size := by
      unfold bY at hi;exact List.mem_range.1 (List.mem_filter.1 hi).1
     simp [hall i this]
    rw [hrem] at htree;refine hk _ _ (xw htree) _ _ ⟨hdef, hlen, ?_⟩ hpin hrel;intro t x ht;refine hinv.slots t ?_ x.val (by simp [kv, ht]);intro q hq hex;rw [hall q (hinv.lt hok heg hq)] at hex; cases hex
  | succ fuel ih =>
   intro listed A0 fr0 s a w f0 hsz hdown hcount htree0 hinv0 hdef hlen0 hpin hrel;obtain ⟨f, A, fr, hinv, htree, hlenfr, hnone⟩ := hinv0.readAll hok heg hpl f0 htree0
   have hlen : fr.length ≤ a.tmps.size := by rw [hlenfr]; exact hlen0
   refine ⟨?_, ?_⟩
   ·intro hnil
    have hall : ∀ i, i < ops.size → ex listed i = true := by
     intro i
     induction i using Nat.strongRecOn with
     | _ i ihi =>
      intro hi
      cases hx : ex listed i with
      | true => rfl
      | false =>
       have : i ∈ Region.ready .any ops listed := by
        refine HE hi hx ?_;intro j hj
        have hji : j < i := by have := List.all_eq_true.1 (mC c2 i hi) j hj; simpa using this
        rw [pQ hsz (by omega)];exact ihi j hji (by omega)
       rw [hnil] at this; simp at this
    have hrem : (bY ops A).filter (fun i => !ex listed i) = [] := by
     rw [List.filter_eq_nil_iff];intro i hi
     have : i < ops.size := by
      unfold bY at hi;exact List.mem_range.1 (List.mem_filter.1 hi).1
     simp [hall i this]
    rw [hrem] at htree;refine hk _ _ (xw htree) _ _ ⟨hdef, hlen, ?_⟩ hpin hrel;intro t x ht;refine hinv.slots t ?_ x.val (by simp [kv, ht]);intro q hq hex;rw [hall q (hinv.lt hok heg hq)] at hex; cases hex
   ·intro i hi;obtain ⟨hin, hnl, hpreds⟩ := mem_ready hi;have hnl' : ex listed i = false := hnl
    have hpl2 : ∀ j ∈ ef ops i, ex listed j = true := by
     intro j hj;rw [← pQ hsz (hpl i hin j hj)]; exact hpreds j hj
    have hanc : ∀ x, x < ops.size → lO ops i x = true → ex listed x = true := D8 hok (fun x => ex listed x = true) hdown i hin hpl2;have hex' : ∀ j, ex (listed.setIfInBounds i true) j = (ex listed j || j == i) := fun j => Kg (by omega)
    have hdown' : ∀ x, x < ops.size → ex (listed.setIfInBounds i true) x = true → ∀ j ∈ ef ops x, ex (listed.setIfInBounds i true) j = true := by
     intro x hx hxe j hj;rw [hex'] at hxe ⊢;rcases Bool.or_eq_true _ _ ▸ hxe with h1 | h1
     ·simp [hdown x hx h1 j hj]
     ·simp at h1; subst h1; simp [hpl2 j hj]
    have hdownA' : ∀ x, x < ops.size → (x ∈ A ∨ ex (listed.setIfInBounds i true) x = true) → ∀ j ∈ ef ops x, j ∈ A ∨ ex (listed.setIfInBounds i true) j = true := by
     intro x hx hxe j hj;rcases hxe with h1 | h1
     ·rcases hinv.down x hx (.inl h1) j hj with h2 | h2
      ·exact .inl h2
      ·exact .inr (by rw [hex']; simp [h2])
     ·exact .inr (hdown' x hx h1 j hj)
    have hcount' : ((List.range ops.size).filter fun x => !ex (listed.setIfInBounds i true) x).length ≤ fuel := by
     have e : ((List.range ops.size).filter fun x => !ex (listed.setIfInBounds i true) x) = ((List.range ops.size).filter fun x => !ex listed x).erase i := by
      rw [List.Nodup.erase_eq_filter (List.Pairwise.filter _ List.nodup_range), List.filter_filter];apply List.filter_congr;intro x _;rw [hex']
      cases ex listed x <;> simp [bne]
     rw [e, List.length_erase_of_mem (List.mem_filter.2 ⟨List.mem_range.2 hin, by simp [hnl']⟩)];omega
    have sizeput : ∀ (d : Option Tmp) (v : Value), (a.put d v).tmps.size = a.tmps.size := by
     intro d v; cases d <;> simp [Act.put]
    have putne : ∀ (d : Option Tmp) (v : Value) (t : Nat), d ≠ some t → (a.put d v).tmps[t]? = a.tmps[t]? := by
     intro d v t hne
     cases d with
     | none => rfl
     | some d => simp only [Act.put]; exact Array.getElem?_setIfInBounds_ne (by rintro rfl; exact hne rfl)
    have putself : ∀ (d : Nat) (v : Value), d < a.tmps.size → (a.put (some d) v).tmps[d]? = some v := by
     intro d v hd; simp [Act.put, hd]
    have hdefput : ∀ (d : Option Tmp) (v : Value), (a.put d v).defers = [] := by
     intro d v; cases d <;> exact hdef
    have hpinput : ∀ v, pin.le (a.put (bQ ops i) v) := by
     intro v
     have ho : ops[i]? = some ops[i] := by simp [hin]
     have : bQ ops i = ops[i].dst := by simp [bQ, ho]
     rw [this];exact hpin.pinned (hfree i _ ho) v
    by_cases hiA : i ∈ A
    ·-- one that is read already
     obtain ⟨frq, fr1, hlook, hdst, hall⟩ := hinv.fact i hiA hnl'
     have hcond : cP P d.quiet ops i = .pure ∨ sS.le s ∨ iw P ops frq fr1 i s := by
      rcases hinv.heap i hiA hnl' with h1 | h1 | h1
      ·exact .inl h1
      ·exact .inr (.inl h1)
      ·exact .inr (.inr (h1.congr (fun t ht => (hlook t ht).symm) (fun t ht => (hdst t ht).symm)))
     have hg := hall s (fun fr' s' => fr' = fr1 ∧ s' = s) hcond ⟨rfl, rfl⟩;refine vP hg ?_ hrel ?_
     ·intro t ht v hv;rw [hlook t ht] at hv;refine hinv.slots t ?_ v hv;intro q hq hqe hd
      by_cases e : i = q
      ·subst e; exact jQ (Hx hok heg (hinv.sub i hiA)).2.2 t ht hd
      ·rcases (Im hok heg (hinv.sub i hiA) (hinv.sub q hq) e).1 with h1 | h1
       ·exact jQ h1 t ht hd
       ·have := hanc q (hinv.lt hok heg hq) h1;rw [hqe] at this; cases this
     ·rintro fr' s' w' v ⟨rfl, rfl⟩ _ _ hdv hr';refine ih _ A fr s' _ w' f (by simp [hsz]) hdown' hcount' ?_ ?_ (hdefput _ _) (by rw [sizeput]; exact hlen) (hpinput v) hr'
      ·have e : ((bY ops A).filter fun x => !ex (listed.setIfInBounds i true) x) = ((bY ops A).filter fun x => !ex listed x) := by
        apply List.filter_congr;intro x hx;rw [hex']
        have : x ≠ i := by
         rintro rfl;unfold bY at hx;have := (List.mem_filter.1 hx).2;simp at this; exact this hiA
        simp [this]
       rw [e]; exact htree
      ·refine ⟨hinv.sup, hinv.sub, hdownA', ?_, ?_, ?_⟩
       ·intro q hq hqe;rw [hex'] at hqe;exact hinv.fact q hq (Il hqe)
       ·intro q hq hqe;rw [hex'] at hqe;exact hinv.heap q hq (Il hqe)
       ·intro t hn u hu
        by_cases e : bQ ops i = some t
        ·rw [e];have ht := yD hu;rw [putself t v (by omega)];rw [← hdst t e] at hu;rw [hdv t e u hu]
        ·rw [putne _ _ _ e];refine hinv.slots t ?_ u hu;intro q hq hqe
         by_cases e2 : q = i
         ·subst e2; exact e
         ·exact hn q hq (by rw [hex']; simp [hqe, e2])
    ·-- one of the others
     have hirem : i ∈ (bY ops A).filter fun x => !ex listed x := (nX hok heg).2 ⟨hin, hiA, hnl'⟩
     have hiB : i ∈ bY ops d.A := by
      unfold bY;exact List.mem_filter.2 ⟨List.mem_range.2 hin, by simpa using fun h => hiA (hinv.sup i h)⟩
     obtain ⟨f', hg⟩ := DW htree hnone hirem (fun j hj hjm => by
      have := ((nX hok heg).1 hjm).2.2
      rw [hpl2 j hj] at this; cases this)
     have hunex : ∀ q ∈ A, ex listed q = false → ki (bQ ops i) (cX ops q) = true ∧ iy (bQ ops i) (bQ ops q) = true ∧ ki (bQ ops q) (cX ops i) = true ∧ ((cP P d.quiet ops q = .pure ∨ cP P [] ops i ≠ .eff) ∨ q ∈ d.eB i) := by
      intro q hq hqe;have hql := hinv.lt hok heg hq;rcases hinv.sub q hq with hqA | hqE
      ·have := List.all_eq_true.1 (c8 i hiB) q hqA;simp only [Bool.or_eq_true, Bool.and_eq_true] at this;rcases this with h1 | ⟨⟨⟨h1, h2⟩, h3⟩, h4⟩
       ·have := hanc q hql h1;rw [hqe] at this; cases this
       ·exact ⟨h1, h2, h3, by simpa using h4⟩
      ·obtain ⟨e1, e2, e3, e4, e5, e6, e7⟩ := qn hok heg hqE;have := e7 i hiB;have hne : i ≠ q := fun e => hiA (e ▸ hq);simp only [vI, Bool.or_eq_true, Bool.and_eq_true, beq_iff_eq, hne, false_or] at this;rcases this with (h1 | h1) | ⟨⟨h1, h2⟩, h3⟩
       ·have := hanc q hql h1;rw [hqe] at this; cases this
       ·have := hinv.K1 hok heg hql (fun j hj => hinv.down q hql (.inl hq) j hj) hin h1;rcases this with h2 | h2
        ·exact absurd h2 hiA
        ·rw [hnl'] at h2; cases h2
       ·exact ⟨h1, h2, h3, .inl (.inl e3)⟩
     have erase_eq : ((bY ops A).filter fun x => !ex (listed.setIfInBounds i true) x) = ((bY ops A).filter fun x => !ex listed x).erase i := by
      have hnd : (bY ops A).Nodup := by unfold bY; exact List.Pairwise.filter _ List.nodup_range
      rw [List.Nodup.erase_eq_filter (List.Pairwise.filter _ hnd), List.filter_filter];apply List.filter_congr;intro x _;rw [hex']
      cases ex listed x <;> simp [bne]
     have hlk : ∀ t ∈ cX ops i, ∀ v, kv fr t = some v → a.tmps[t]? = some v := by
      intro t ht v hv;refine hinv.slots t ?_ v hv;intro q hq hqe;exact jQ (hunex q hq hqe).2.2.1 t ht
     have fin : ∀ fr' s' w' v, fz (RP P R) P ops d.eB d.eag f' (((bY ops A).filter fun x => !ex listed x).erase i) fr' k s' → (cP P [] ops i ≠ .eff → s.le s') → (∀ q ∈ d.eB i, iw P ops fr' fr' q s') → fr'.length = fr.length → (∀ t, bQ ops i ≠ some t → kv fr' t = kv fr t) →
       (∀ d, bQ ops i = some d → ∀ u, kv fr' d = some u → u = v) → Rel w0 s0 s' w' → wpAny P .any ops Q fuel (listed.setIfInBounds i true) (a.put (bQ ops i) v) w' := by
      intro fr' s' w' v ht' hle hst hlen' hkv' hdv hr'
      have hsame : ∀ q ∈ A, ex listed q = false → ∀ t, (t ∈ cX ops q ∨ bQ ops q = some t) → kv fr t = kv fr' t := by
       intro q hq hqe t ht;obtain ⟨u1, u2, u3, u4⟩ := hunex q hq hqe;refine (hkv' t ?_).symm;rcases ht with ht | ht
       ·exact jQ u1 t ht
       ·exact oL u2 t ht
      refine ih _ A fr' s' _ w' f' (by simp [hsz]) hdown' hcount' (by rw [erase_eq]; exact ht') ?_ (hdefput _ _) (by rw [sizeput, hlen']; exact hlen) (hpinput v) hr';refine ⟨hinv.sup, hinv.sub, hdownA', ?_, ?_, ?_⟩
      ·intro q hq hqe;rw [hex'] at hqe;have hqe' : ex listed q = false := Il hqe;exact (hinv.fact q hq hqe').congr (fun t ht => hsame q hq hqe' t (.inl ht)) (fun t ht => hsame q hq hqe' t (.inr ht))
      ·intro q hq hqe;rw [hex'] at hqe;have hqe' : ex listed q = false := Il hqe;obtain ⟨u1, u2, u3, u4⟩ := hunex q hq hqe';rcases u4 with (h1 | h1) | h1
       ·exact .inl h1
       ·rcases hinv.heap q hq hqe' with h2 | h2 | h2
        ·exact .inl h2
        ·exact .inr (.inl (PH.le_trans h2 (hle h1)))
        ·exact .inr (.inr ((h2.mono (hle h1)).congr (fun t ht => hsame q hq hqe' t (.inl ht)) (fun t ht => hsame q hq hqe' t (.inr ht))))
       ·exact .inr (.inr (hst q h1))
      ·intro t hn u hu
       by_cases e : bQ ops i = some t
       ·rw [e];have ht := yD hu;rw [putself t v (by omega)];rw [hdv t e u hu]
       ·rw [putne _ _ _ e];rw [hkv' t e] at hu;refine hinv.slots t ?_ u hu;intro q hq hqe
        have e2 : q ≠ i := by rintro rfl; exact hiA hq
        exact hn q hq (by rw [hex']; simp [hqe, e2])
     by_cases hal : cP P [] ops i ≠ .eff
     ·exact vP (EK hal hg) hlk hrel fun fr' s' w' v ht h1 h2 h3 h4 => fin fr' s' w' v (kz _ ht.1).1 (fun _ => ht.2) (kz _ ht.1).2 h1 h2 h3 h4
     ·exact vP hg hlk hrel fun fr' s' w' v ht h1 h2 h3 h4 => fin fr' s' w' v (kz _ ht).1 (fun e => absurd e hal) (kz _ ht).2 h1 h2 h3 h4
 have hexn : ∀ i, ex (Array.replicate ops.size false) i = true → ¬ i < ops.size := by
  intro i he hi;simp [ex, hi] at he
 refine main ops.size (Array.replicate ops.size false) d.A frA sS a _ ops.size (by simp) ?_ ?_ ?_ ?_ hf.defers (by rw [hlenA]; exact hf.size) hp (hr.drew _)
 ·intro i hi he;exact absurd hi (hexn i he)
 ·refine Nat.le_trans (List.length_filter_le _ _) (by simp)
 ·have : ((bY ops d.A).filter fun i => !ex (Array.replicate ops.size false) i) = bY ops d.A := by
   rw [List.filter_eq_self];intro i hi
   have hi' : i < ops.size := by
    unfold bY at hi;exact List.mem_range.1 (List.mem_filter.1 hi).1
   simp [ex, hi']
  rw [this]; exact hA
 ·refine ⟨fun q hq => hq, fun q hq => .inl hq, ?_, fun q hq _ => hF q hq, fun _ _ _ => .inr (.inl (PH.le_refl _)), ?_⟩
  ·intro x hx hxA j hj;rcases hxA with hxA | hxA
   ·have := List.all_eq_true.1 (c4 x hxA) j hj;exact .inl (by simpa using this)
   ·exact absurd hx (hexn x hxA)
  ·intro t hn v hv
   have h1 : ∀ q ∈ d.A, bQ ops q ≠ some t := by
    intro q hq;exact hn q hq (by simp [ex, (hA1 q hq).1])
   rw [← hkvA t h1] at hv;unfold kv at hv
   split at hv
   ·rename_i x hx
    simp at hv; subst hv;exact hf.at_ _ _ hx
   ·cases hv
def eS (P : Program) (ann : lU) : Code → Bool
 | .region id ops draw => !draw || (match ann.draws.lookup id with | some d => mE P ops d && CX P ops d | none => true)
 | .seq a b => eS P ann a && eS P ann b
 | .cond _ a b => eS P ann a && eS P ann b
 | .block _ a => eS P ann a
 | .loop a => eS P ann a
 | .scope a => eS P ann a
 | _ => true
theorem EB (hm : P.follows .mixedOrders = true) {ann : lU} : ∀ (c : Code), eS P ann c = true → iS P ann c := by
 intro c
 induction c with
 | region id ops draw =>
  intro h hd d hl;subst hd;simp only [eS, Bool.not_true, Bool.false_or, hl, Bool.and_eq_true] at h;exact CW hm h.1 h.2
 | seq a b iha ihb => intro h; simp only [eS, Bool.and_eq_true] at h; exact ⟨iha h.1, ihb h.2⟩
 | cond c a b iha ihb => intro h; simp only [eS, Bool.and_eq_true] at h; exact ⟨iha h.1, ihb h.2⟩
 | block id a ih => intro h; exact ih h
 | loop a ih => intro h; exact ih h
 | scope a ih => intro h; exact ih h
 | _ => intro h; trivial
end
end Fw
end
