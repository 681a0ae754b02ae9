/-
  Part 15 for the law: lemmas.
  Conditions: none.
-/
import Derived.Test.YtlfdfgokflhdbaaGreatExecReadsK14
set_option linter.unusedVariables false
set_option linter.unusedSimpArgs false
set_option linter.unusedSectionVars false
section
namespace Fw
open Go
open Go.MapKept (Stamped stamped_empty stamped_push stamped_modify)
section
variable (P : Program) (R : Value → PH → Prop)
@[simp] theorem Ln : (RP P R).fail = W.fail := rfl
@[simp] theorem aR : (RP P R).guard = W.guard := rfl
@[simp] theorem aO : (RP P R).ite = W.br := rfl
@[simp] theorem vw : (RP P R).both = W.both := rfl
@[simp] theorem aM : (RP P R).aa = W.aa := rfl
@[simp] theorem bH : (RP P R).ld = W.ld := rfl
@[simp] theorem gX : (RP P R).st = W.st := rfl
@[simp] theorem cj : (RP P R).nw = W.nw := rfl
@[simp] theorem aT : (RP P R).call = W.call P := rfl
@[simp] theorem bS : (RP P R).cy = W.cy P := rfl
@[simp] theorem mz : (RP P R).dR = W.dR P := rfl
@[simp] theorem mj : (RP P R).look = W.look := rfl
@[simp] theorem nL : (RP P R).gN = W.gN := rfl
@[simp] theorem JN : (RP P R).oc = W.oc := rfl
@[simp] theorem JM : (RP P R).nY = W.nY := rfl
@[simp] theorem JJ : (RP P R).nS = W.nS := rfl
@[simp] theorem JK : (RP P R).ext = W.ext := rfl
@[simp] theorem JL : (RP P R).inv = W.inv P := rfl
@[simp] theorem F6 : (RP P R).gv = W.gv P := rfl
@[simp] theorem KH : (RP P R).xt = W.xt P := rfl
@[simp] theorem F7 : (RP P R).iQ = W.iQ P := rfl
@[simp] theorem dg : (RP P R).app = W.app := rfl
@[simp] theorem JI : (RP P R).lV = W.lV := rfl
@[simp] theorem qe : (RP P R).nR = W.nR := rfl
@[simp] theorem Lo : (RP P R).kR = W.kR := rfl
@[simp] theorem tK : (RP P R).jX = W.jX := rfl
@[simp] theorem Lq : (RP P R).od = W.od := rfl
@[simp] theorem aQ : (RP P R).loop = W.loop := rfl
@[simp] theorem cG : (RP P R).join = W.join := rfl
@[simp] theorem mA : (RP P R).still = W.still := rfl
@[simp] theorem aE : (RP P R).ret = W.ret R := rfl
end
@[simp] theorem bf (b o i : Nat) : (Addr.mk b o none).add i = Addr.mk b (o + i) none := by unfold Addr.add; split <;> simp_all
theorem sB {a : Addr} (h : a.spot = none) (i : Nat) : a.add i = Addr.mk a.block (a.off + i) none := by
 obtain ⟨b, o, p⟩ := a; cases h; exact bf b o i
@[simp] theorem add_zero (a : Addr) : a.add 0 = a := by simp [Addr.add]
theorem wL {s : PH} {a : Addr} (h : (s.cell? a).isSome = true) : a.spot = none := by
 unfold PH.cell? at h
 cases hb : s a.block with
 | none => simp [hb] at h
 | some o =>
  rw [hb] at h
  cases o <;> simp only at h <;> try (cases h; done)
  cases hs : a.spot with
  | none => rfl
  | some _ => simp [hs] at h
theorem je {s : PH} {a : Addr} {c : Array Value} {e : TypeId} {f : Nat × Nat} (h : s a.block = some (.cells c e f)) (hs : a.spot = none) (i : Nat) : s.cell? (a.add i) = c[a.off + i]? := by
 rw [sB hs]; unfold PH.cell?; dsimp only; rw [h]; (first | done | rfl)
theorem qx {s : PH} {a : Addr} {c : Array Value} {e : TypeId} {f : Nat × Nat} (h : s a.block = some (.cells c e f)) (hs : a.spot = none) (i : Nat) : s.frozen? (a.add i) = (decide (f.1 ≤ a.off + i) && decide (a.off + i < f.2)) := by
 rw [sB hs]; unfold PH.frozen?; dsimp only; rw [h]
theorem mX {s : PH} {a : Addr} (h : ∀ c e f, s a.block ≠ some (.cells c e f)) : s.cell? a = none := by
 unfold PH.cell?
 cases hb : s a.block with
 | none => rfl
 | some o => cases o <;> first | rfl | exact absurd hb (h _ _ _)
namespace W
@[simp] theorem ay (a : Addr) (k : Addr → T) (s : PH) : aa (some a) k s ↔ k a s := by simp [aa]
@[simp] theorem KF (k : Addr → T) (s : PH) : aa none k s ↔ False := by simp [aa]
@[simp] theorem BM (x y : T) (s : PH) : br true x y s ↔ x s := by simp [br]
@[simp] theorem yY (x y : T) (s : PH) : br false x y s ↔ y s := by simp [br]
theorem af (b : Bool) (x y : T) (s : PH) : br b x y s ↔ (b = true → x s) ∧ (b = false → y s) := by cases b <;> simp [br]
@[simp] theorem aZ (c : Prop) (k : T) (s : PH) : guard c k s ↔ c ∧ k s := Iff.rfl
@[simp] theorem K9 (s : PH) : fail s ↔ False := Iff.rfl
theorem bx {hs : List Shape} {F : (bR hs → T) → T} {K : bR hs → T} {s : PH} (J : bR hs → PH → Prop) (hK : ∀ x s', J x s' → K x s')
  (hF : ∀ K', (∀ x s', J x s' → K' x s') → F K' s) : join hs F K s := hF K hK
theorem FN (c : CT) (cs : List CT) (a : Addr) (x : Den (c :: cs)) (k : T) (s : PH) : still (c :: cs) a x k s ↔ s.has a (vals (c :: cs) x) ∧ k s := Iff.rfl
@[simp] theorem oa (R : Value → PH → Prop) (v : Value) (s : PH) : ret R v s ↔ R v s := Iff.rfl
end W
@[simp] def PH.rd (s : PH) (a : Addr) (n : Nat) : Option (List Value) :=
 match s a.block with
 | some (.cells c _ _) => if a.spot = none ∧ a.off + n ≤ c.size then some ((c.toList.drop a.off).take n) else none
 | _ => none
theorem PH.FB {s : PH} {a : Addr} {n : Nat} {vs : List Value} (h : s.rd a n = some vs) : vs.length = n ∧ s.has a vs := by
 unfold PH.rd at h
 cases hb : s a.block with
 | none => simp [hb] at h
 | some o =>
  rw [hb] at h
  cases o <;> simp only at h <;> try (cases h; done)
  rename_i c e f
  split at h
  ·rename_i hc
   simp only [Option.some.injEq] at h;subst h;refine ⟨by simp; omega, ?_⟩;intro i v hv
   have hi : i < n := by
    have := (List.getElem?_eq_some_iff.1 hv).1;simp at this; omega
   rw [List.getElem?_take_of_lt hi, List.getElem?_drop] at hv;rw [je hb hc.1, ← Array.getElem?_toList]; exact hv
  ·cases h
theorem PH.EL {s : PH} {a : Addr} {v : Value} {vs : List Value} (h : s.has a (v :: vs)) : s.rd a (vs.length + 1) = some (v :: vs) := by
 have h0 := h 0 v rfl;rw [add_zero] at h0;have hsp := wL (by rw [h0]; (first | done | rfl));unfold PH.rd
 cases hb : s a.block with
 | none => rw [mX (by simp [hb])] at h0; cases h0
 | some o =>
  cases o with
  | cells c e f =>
   dsimp only
   have hall : ∀ i w, (v :: vs)[i]? = some w → c[a.off + i]? = some w := by
    intro i w hw;rw [← je hb hsp]; exact h i w hw
   have hlen : a.off + (vs.length + 1) ≤ c.size := by
    have := hall vs.length ((v :: vs)[vs.length]'(by simp)) (by rw [List.getElem?_eq_getElem]);have := (Array.getElem?_eq_some_iff.1 this).1;omega
   rw [if_pos ⟨hsp, hlen⟩]
   congr 1
   apply List.ext_getElem?;intro i;rcases Nat.lt_or_ge i (vs.length + 1) with q | q
   ·rw [List.getElem?_take_of_lt q, List.getElem?_drop, Array.getElem?_toList];have := hall i ((v :: vs)[i]'(by simpa using q)) (by rw [List.getElem?_eq_getElem]);rw [this, List.getElem?_eq_getElem (by simpa using q)]
   ·rw [List.getElem?_eq_none (by simp; omega), List.getElem?_eq_none (by simpa using q)]
  | _ => rw [mX (by simp [hb])] at h0; cases h0
theorem kF : ∀ {cs : List CT} {x : Den cs}, ee cs (vals cs x) = some x := by
 intro cs
 induction cs with
 | nil => intro x; (first | done | rfl)
 | cons c cs ih =>
  intro x
  have : c.kE (c.val x.1) = some x.1 := by cases c <;> simp [CT.kE, CT.val]
  simp [ee, vals, this, ih]
namespace W
@[simp] theorem bC (c : CT) (cs : List CT) (a : Addr) (k : Den (c :: cs) → T) (s : PH) :
  ld (c :: cs) a k s ↔ ∃ x, (s.rd a (cs.length + 1)).bind (ee (c :: cs)) = some x ∧ k x s := by
 unfold ld
 constructor
 ·rintro ⟨x, h1, h2⟩;refine ⟨x, ?_, h2⟩
  have : s.rd a (cs.length + 1) = some (vals (c :: cs) x) := by
   have := PH.EL (v := c.val x.1) (vs := vals cs x.2) h1;rw [lp] at this;exact this
  rw [this];exact kF
 ·rintro ⟨x, h1, h2⟩;refine ⟨x, ?_, h2⟩
  cases hr : s.rd a (cs.length + 1) with
  | none => rw [hr] at h1; simp at h1
  | some vs =>
   rw [hr] at h1;rw [gE h1];exact (PH.FB hr).2
end W
@[simp] def gh : Array Value → Nat → List Value → Array Value
 | c, _, [] => c
 | c, i, v :: vs => gh (c.setIfInBounds i v) (i + 1) vs
theorem eJ : ∀ (vs : List Value) (c : Array Value) (i : Nat), (gh c i vs).size = c.size
 | [], _, _ => rfl
 | v :: vs, c, i => by simp [gh, eJ vs]
@[simp] def zE (f : Nat × Nat) (off n : Nat) : Prop := f.2 ≤ off ∨ off + n ≤ f.1 ∨ f.2 ≤ f.1
theorem PH.jU {a : Addr} {e : TypeId} {f : Nat × Nat} (hsp : a.spot = none) :
  ∀ (vs : List Value) (i : Nat) (c : Array Value) (s : PH), s a.block = some (.cells c e f) → vs ≠ [] → s.fl a i vs = s.aS a.block (.cells (gh c (a.off + i) vs) e f) := by
 intro vs
 induction vs with
 | nil => intro i c s _ h; exact absurd rfl h
 | cons v vs ih =>
  intro i c s h _
  have h1 : s.setCell (a.add i) v = s.aS a.block (.cells (c.setIfInBounds (a.off + i) v) e f) := by
   rw [sB hsp];unfold PH.setCell;dsimp only;rw [h]
   first | done | rfl
  simp only [PH.fl, h1]
  cases vs with
  | nil => rfl
  | cons u us =>
   rw [ih (i + 1) (c.setIfInBounds (a.off + i) v) _ (PH.bB _ _ _) (by simp), PH.wB]
   first | done | rfl
theorem tg {s : PH} {a : Addr} {c : Array Value} {e : TypeId} {f : Nat × Nat} (h : s a.block = some (.cells c e f)) {n : Nat} (hn : 0 < n) :
  s.open_ a n ↔ a.spot = none ∧ a.off + n ≤ c.size ∧ zE f a.off n := by
 unfold PH.open_ zE
 constructor
 ·intro ho;have hsp : a.spot = none := wL (s := s) (by have := (ho 0 hn).1; rwa [add_zero] at this);have hl := (ho (n - 1) (by omega)).1;rw [je h hsp] at hl;simp at hl;refine ⟨hsp, by omega, ?_⟩
  by_cases g1 : f.2 ≤ a.off
  ·exact .inl g1
  by_cases g2 : f.2 ≤ f.1
  ·exact .inr (.inr g2)
  refine .inr (.inl ?_)
  by_cases g3 : f.1 ≤ a.off
  ·have := (ho 0 hn).2;rw [qx h hsp] at this;simp at this; omega
  ·by_cases g4 : a.off + n ≤ f.1
   ·exact g4
   ·have := (ho (f.1 - a.off) (by omega)).2;rw [qx h hsp] at this;simp at this; omega
 ·rintro ⟨hsp, hl, hf⟩ i hi
  constructor
  ·rw [je h hsp]; simp; omega
  ·rw [qx h hsp]; simp; omega
namespace W
@[simp] def stM (a : Addr) (vs : List Value) (k : T) (s : PH) : Option Obj → Prop
 | some (.cells c e f) => a.spot = none ∧ a.off + vs.length ≤ c.size ∧ zE f a.off vs.length ∧ (∀ v ∈ vs, v.oneCell' = true) ∧ k (s.aS a.block (.cells (gh c a.off vs) e f))
 | _ => False
@[simp] theorem bA (a : Addr) (v : Value) (vs : List Value) (k : T) (s : PH) : st a (v :: vs) k s ↔ stM a (v :: vs) k s (s a.block) := by
 unfold st
 cases hb : s a.block with
 | none =>
  simp only [stM, iff_false];rintro ⟨h, _⟩;have := (h 0 (by simp)).1;rw [add_zero, mX (by simp [hb])] at this;cases this
 | some o =>
  cases o with
  | cells c e f =>
   rw [tg hb (by simp)];simp only [stM]
   constructor
   ·rintro ⟨⟨h1, h2, h3⟩, h4, h5⟩;rw [PH.jU h1 _ 0 c s hb (by simp)] at h5;exact ⟨h1, h2, h3, h4, h5⟩
   ·rintro ⟨h1, h2, h3, h4, h5⟩;refine ⟨⟨h1, h2, h3⟩, h4, ?_⟩;rw [PH.jU h1 _ 0 c s hb (by simp)];exact h5
  | _ =>
   simp only [stM, iff_false];rintro ⟨h, _⟩;have := (h 0 (by simp)).1;rw [add_zero, mX (by simp [hb])] at this;cases this
@[simp] theorem Lx (o : Obj) (k : Nat → T) (s : PH) : nw o k s ↔ ∀ b, s b = none → k b (s.aS b o) := Iff.rfl
theorem ak {P : Program} {f : FuncId} {args : Array Value} {r : Bool × List Shape} {k : bR r.2 → T} {s : PH} {Q : Value → PH → Prop} (h : bu P f args s Q)
  (hk : ∀ v s', Q v s' → ∃ x, gx r x = v ∧ k x s') : call P f args r k s := h.mono hk
end W
def Mod (L : List Nat) (s s' : PH) : Prop := ∀ k, s k ≠ none → k ∉ L → s' k = s k
theorem Mod.refl (L : List Nat) (s : PH) : Mod L s s := fun _ _ _ => rfl
theorem Mod.trans {L : List Nat} {s s' s'' : PH} (h : Mod L s s') (k : Mod L s' s'') : Mod L s s'' := fun i h1 h2 => by
 have := h i h1 h2;rw [k i (by rw [this]; exact h1) h2, this]
theorem Mod.mono {L L' : List Nat} {s s' : PH} (h : Mod L s s') (hl : ∀ x ∈ L, x ∈ L') : Mod L' s s' := fun k h1 h2 => h k h1 fun e => h2 (hl k e)
theorem Mod.new {L : List Nat} {s : PH} {b : Nat} {o : Obj} (h : s b = none) : Mod L s (s.aS b o) := fun k h1 _ => by
 rw [PH.bG]; rintro rfl; exact h1 h
theorem Mod.aS {L : List Nat} {s : PH} {b : Nat} {o : Obj} (h : b ∈ L) : Mod L s (s.aS b o) := fun k _ h2 => by
 rw [PH.bG]; rintro rfl; exact h2 h
theorem Mod.bT {L : List Nat} {s s' : PH} {b : Nat} {o : Obj} (h : Mod L s s') (hb : b ∈ L ∨ s b = none) : Mod L s (s'.aS b o) := fun k h1 h2 => by
 have hne : k ≠ b := by
  rintro rfl;rcases hb with hb | hb
  ·exact h2 hb
  ·exact h1 hb
 rw [PH.bG _ _ hne]; exact h k h1 h2
theorem Mod.fresh {L M : List Nat} {s s' s'' : PH} (h : Mod L s s') (k : Mod M s' s'') (hM : ∀ x ∈ M, x ∈ L ∨ s x = none) : Mod L s s'' := fun i h1 h2 => by
 have e := h i h1 h2;rw [k i (by rw [e]; exact h1) (fun hm => (hM i hm).elim h2 h1), e]
theorem Mod.none {L : List Nat} {s s' : PH} (h : Mod L s s') {k : Nat} (e : s' k = none) (hk : k ∉ L) : s k = none := by
 cases hs : s k with
 | none => rfl
 | some o => rw [h k (by simp [hs]) hk, hs] at e; cases e
theorem Mod.at {L : List Nat} {s s' : PH} (h : Mod L s s') {k : Nat} {o : Obj} (e : s k = some o) (hk : k ∉ L) : s' k = some o := by
 rw [h k (by simp [e]) hk, e]
theorem Mod.le {s s' : PH} (h : Mod [] s s') : s.le s' := fun b o e => h.at e (by simp)
theorem Bm {s : PH} {b r : Nat} {o : Obj} (h : s b = some o) (hr : s r = none) : b ≠ r := by
 rintro rfl; rw [h] at hr; cases hr
structure Step (L L' : List Nat) (s s' : PH) : Prop where
 mod : Mod L s s'
 new : ∀ x ∈ L', x ∈ L ∨ s x = none
theorem toList_inj {a b : BA} (h : a.toList = b.toList) : a = b := by
 rw [ByteArray.toList_eq, ByteArray.toList_eq] at h;obtain ⟨⟨a⟩⟩ := a; obtain ⟨⟨b⟩⟩ := b;simpa using h
instance : LawfulBEq BA where
 eq_of_beq {a b} h := by
  have h : ByteArray.beq a b = true := h;unfold ByteArray.beq at h;have h2 : a.data = b.data := eq_of_beq h;cases a; cases b; cases h2; (first | done | rfl)
 rfl {a} := by
  show ByteArray.beq a a = true
  unfold ByteArray.beq;exact beq_self_eq_true _
structure sy (K : Type) [BEq K] [LawfulBEq K] where
 kd : TypeDesc
 enc : K → Value
 same : ∀ a b, Instr.sameNow kd (enc a) (enc b) = some (a == b)
 bits : ∀ a, Instr.sameBits 10000 (enc a) (enc a) = true
 inj : ∀ a b, enc a = enc b → a = b
def iB : sy BA where
 kd := .string
 enc := .string
 same _ _ := rfl
 bits a := by simp [Instr.sameBits]
 inj a b h := by simpa using h
def zK (k : IntKind) : sy Int where
 kd := .int k
 enc := .int k
 same a b := by simp [Instr.sameNow]
 bits a := by simp [Instr.sameBits]
 inj a b h := by simpa using h
section
variable {K V : Type} [BEq K] [LawfulBEq K] (ke : sy K) (ve : V → Value)
def ic (s : PH) (m : Nat) (f : List (K × V)) : Prop :=
 ∃ es c, s m = some (.map es c) ∧ es.toList.map (fun e => (e.key, e.val)) = f.map (fun p => (ke.enc p.1, ve p.2)) ∧ Stamped es c
def dm (f : List (K × V)) (k : K) (v : V) : List (K × V) :=
 match f with
 | [] => [(k, v)]
 | (a, b) :: f => if k == a then (k, v) :: f else (a, b) :: dm f k v
variable {ke ve}
theorem qu (k : K) : ∀ (l : List MapEntry) (f : List (K × V)) (i : Nat), l.map (fun e => (e.key, e.val)) = f.map (fun p => (ke.enc p.1, ve p.2)) →
  (f.lookup k = none ∧ Instr.findNow ke.kd (ke.enc k) l i = some none ∧ (∀ p ∈ f, p.1 ≠ k) ∧ dm f k = fun v => f ++ [(k, v)]) ∨
  (∃ j v, f.lookup k = some v ∧ Instr.findNow ke.kd (ke.enc k) l i = some (some (i + j, ve v)) ∧ j < f.length ∧ f[j]? = some (k, v) ∧ dm f k = fun v => f.set j (k, v)) := by
 intro l
 induction l with
 | nil =>
  intro f i h
  cases f with
  | nil => exact .inl ⟨rfl, rfl, by simp, rfl⟩
  | cons p f => simp at h
 | cons e l ih =>
  intro f i h
  cases f with
  | nil => simp at h
  | cons p f =>
   obtain ⟨a, b⟩ := p;simp only [List.map_cons, List.cons.injEq, Prod.mk.injEq] at h;obtain ⟨⟨h1, h2⟩, h3⟩ := h
   by_cases hk : k = a
   ·subst hk;refine .inr ⟨0, b, by simp, ?_, by simp, rfl, ?_⟩
    ·simp only [Instr.findNow, h1, ke.same, beq_self_eq_true, h2, Nat.add_zero]
    ·funext v; simp [dm]
   ·have hb : (k == a) = false := by simpa using hk
    rcases ih f (i + 1) h3 with ⟨g1, g2, g3, g4⟩ | ⟨j, v, g1, g2, g3, g4, g5⟩
    ·refine .inl ⟨by simp [List.lookup_cons, hb, g1], ?_, ?_, ?_⟩
     ·simp only [Instr.findNow, h1, ke.same, hb]; exact g2
     ·intro p hp;rcases List.mem_cons.1 hp with rfl | hp
      ·exact Ne.symm hk
      ·exact g3 p hp
     ·funext v; simp [dm, hb, g4]
    ·refine .inr ⟨j + 1, v, by simp [List.lookup_cons, hb, g1], ?_, by simpa using g3, by simpa using g4, ?_⟩
     ·simp only [Instr.findNow, h1, ke.same, hb]; rw [g2]; congr 3; omega
     ·funext v; simp [dm, hb, g5]
theorem ic.mod {L : List Nat} {s s' : PH} {m : Nat} {f : List (K × V)} (h : ic ke ve s m f) (hm : Mod L s s') (hl : m ∉ L) : ic ke ve s' m f := by
 obtain ⟨es, c, h, r⟩ := h; exact ⟨es, c, hm.at h hl, r⟩
theorem ic.other {s : PH} {m b : Nat} {o : Obj} {f : List (K × V)} (h : ic ke ve s m f) (hl : m ≠ b) : ic ke ve (s.aS b o) m f := by
 obtain ⟨es, c, h, r⟩ := h; exact ⟨es, c, by rw [PH.bG _ _ hl]; exact h, r⟩
def Ig (zero : Value) (h : Shape) (ve : V → Value) (k : Den h.2 → Bool → W.T) (s : PH) : Option V → Prop
 | some v => ∃ x, h.mk x = ve v ∧ k x true s
 | none => ∃ x, h.mk x = zero ∧ k x false s
theorem vR {s : PH} {m : Nat} {f : List (K × V)} (hm : ic ke ve s m f) {key : K} {zero : Value} {h : Shape} {k : Den h.2 → Bool → W.T}
  (hk : Ig zero h ve k s (f.lookup key)) : W.look ke.kd (some m) (ke.enc key) zero h k s := by
 obtain ⟨es, c, h1, h2, h3⟩ := hm;rcases qu (ke := ke) (ve := ve) key es.toList f 0 h2 with ⟨g1, g2, g3, g4⟩ | ⟨j, v, g1, g2, g3, g4, g5⟩
 ·rw [g1] at hk;exact ⟨es, c, _, h1, g2, hk⟩
 ·rw [g1] at hk;exact ⟨es, c, _, h1, g2, hk⟩
theorem B1 {s : PH} {m : Nat} {f : List (K × V)} (hm : ic ke ve s m f) {key : K} {v : V} {k : W.T}
  (hk : ∀ o, ic ke ve (s.aS m o) m (dm f key v) → k (s.aS m o)) : W.gN ke.kd (some m) (ke.enc key) (ve v) k s := by
 obtain ⟨es, c, h1, h2, h3⟩ := hm;rcases qu (ke := ke) (ve := ve) key es.toList f 0 h2 with ⟨g1, g2, g3, g4⟩ | ⟨j, u, g1, g2, g3, g4, g5⟩
 ·refine ⟨m, es, c, _, rfl, h1, g2, hk _ ⟨_, _, PH.bB _ _ _, ?_, stamped_push h3 ?_⟩⟩
  ·rw [g4]; simp [h2]
  ·intro x hx e
   have : (x.key, x.val) ∈ f.map (fun p => (ke.enc p.1, ve p.2)) := by rw [← h2]; exact List.mem_map_of_mem hx
   obtain ⟨p, hp, he⟩ := List.mem_map.1 this;simp only [Prod.mk.injEq] at he;exact g3 p hp (ke.inj _ _ (he.1.trans e))
 ·have hlen : es.toList.length = f.length := by simpa using congrArg List.length h2
  have hj : j < es.size := by rw [← Array.length_toList]; omega
  have hej : (es[j].key, es[j].val) = (ke.enc key, ve u) := by
   have := congrArg (fun l => l[j]?) h2;simp [g4, hj] at this;exact Prod.ext this.1 this.2
  have hkey : es[j].key = ke.enc key := congrArg Prod.fst hej;refine ⟨m, es, c, _, rfl, h1, g2, ⟨es[j], by simp [hj], ?_⟩, hk _ ⟨_, _, PH.bB _ _ _, ?_, ?_⟩⟩
  ·rw [hkey]; exact ke.bits key
  ·rw [g5];apply List.ext_getElem?;intro i;simp only [Nat.zero_add, Array.toList_modify, List.getElem?_map, List.getElem?_set];have h2i := congrArg (fun l => l[i]?) h2;simp only [List.getElem?_map] at h2i
   by_cases hi : j = i
   ·subst hi;simp [g3, hj]
   ·rw [if_neg hi, List.getElem?_modify_ne _ _ hi];exact h2i
  ·refine stamped_modify h3 _ _ (fun _ _ => rfl) ?_;intro e he hi;simp only [Nat.zero_add] at hi
   have : e = es[j] := by simpa [hj] using hi.symm
   rw [this, hkey]
end
theorem Bk {K V : Type} [BEq K] [LawfulBEq K] (f : List (K × V)) (k k' : K) (v : V) : (dm f k v).lookup k' = if k' == k then some v else f.lookup k' := by
 induction f with
 | nil => simp only [dm, List.lookup_cons]; split <;> simp_all
 | cons p f ih =>
  obtain ⟨a, b⟩ := p;simp only [dm]
  by_cases h : k == a
  ·have : k = a := by simpa using h
   subst this;simp only [beq_self_eq_true, if_true, List.lookup_cons]
   split <;> simp_all
  ·rw [if_neg h];simp only [List.lookup_cons, ih]
   by_cases h2 : k' == a
   ·have : k' = a := by simpa using h2
    subst this
    have : ¬ (k' == k) = true := by
     intro e;have e := eq_of_beq e;subst e;exact h (by simp)
    simp [this]
   ·simp [h2]
theorem bV (a b : BA) : (a.toList == b.toList) = decide (a = b) := by
 by_cases h : a = b
 ·subst h; simp
 ·rw [decide_eq_false h];simp only [beq_eq_false_iff_ne, ne_eq];intro e;exact h (toList_inj e)
theorem cq {n : Int} (h1 : -9223372036854775808 ≤ n) (h2 : n ≤ 9223372036854775807) : IntKind.i64.wrap n = n := by rw [IntKind.wrap_i64]; omega
attribute [simp] ee CT.kE PH.wB Value.oneCell'
end Fw
end
