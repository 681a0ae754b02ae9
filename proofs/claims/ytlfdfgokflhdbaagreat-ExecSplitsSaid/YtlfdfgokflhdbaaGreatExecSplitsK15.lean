/-
  Part 15 for the law: lemmas.
  Conditions: none.
-/
import Derived.Test.YtlfdfgokflhdbaaGreatExecSplitsK14
set_option linter.unusedVariables false
set_option linter.unusedSimpArgs false
set_option linter.unusedSectionVars false
section
namespace Fw
open Go
open Go.MapKept (Stamped stamped_empty stamped_push stamped_modify)
section
variable (P : Program) (R : Value → PH → Prop)
@[simp] theorem KB : (RP P R).fail = W.fail := rfl
@[simp] theorem aP : (RP P R).guard = W.guard := rfl
@[simp] theorem aN : (RP P R).ite = W.br := rfl
@[simp] theorem uQ : (RP P R).both = W.both := rfl
@[simp] theorem aQ : (RP P R).af = W.af := rfl
@[simp] theorem bI : (RP P R).ld = W.ld := rfl
@[simp] theorem gN : (RP P R).st = W.st := rfl
@[simp] theorem bU : (RP P R).nw = W.nw := rfl
@[simp] theorem aU : (RP P R).call = W.call P := rfl
@[simp] theorem bP : (RP P R).cr = W.cr P := rfl
@[simp] theorem lX : (RP P R).dK = W.dK P := rfl
@[simp] theorem lT : (RP P R).look = W.look := rfl
@[simp] theorem nt : (RP P R).gF = W.gF := rfl
@[simp] theorem IZ : (RP P R).nN = W.nN := rfl
@[simp] theorem IY : (RP P R).nK = W.nK := rfl
@[simp] theorem IV : (RP P R).nE = W.nE := rfl
@[simp] theorem IW : (RP P R).ext = W.ext := rfl
@[simp] theorem IX : (RP P R).inv = W.inv P := rfl
@[simp] theorem Fc : (RP P R).gm = W.gm P := rfl
@[simp] theorem JM : (RP P R).xt = W.xt P := rfl
@[simp] theorem Fe : (RP P R).iK = W.iK P := rfl
@[simp] theorem cZ : (RP P R).app = W.app := rfl
@[simp] theorem IU : (RP P R).lI = W.lI := rfl
@[simp] theorem pJ : (RP P R).nD = W.nD := rfl
@[simp] theorem KC : (RP P R).kK = W.kK := rfl
@[simp] theorem sX : (RP P R).jR = W.jR := rfl
@[simp] theorem KE : (RP P R).nO = W.nO := rfl
@[simp] theorem aS : (RP P R).loop = W.loop := rfl
@[simp] theorem cE : (RP P R).join = W.join := rfl
@[simp] theorem lY : (RP P R).still = W.still := rfl
@[simp] theorem aE : (RP P R).ret = W.ret R := rfl
end
@[simp] theorem aY (b o i : Nat) : (Addr.mk b o none).add i = Addr.mk b (o + i) none := by unfold Addr.add; split <;> simp_all
theorem rP {a : Addr} (h : a.spot = none) (i : Nat) : a.add i = Addr.mk a.block (a.off + i) none := by
 obtain ⟨b, o, p⟩ := a; cases h; exact aY b o i
@[simp] theorem add_zero (a : Addr) : a.add 0 = a := by simp [Addr.add]
theorem vT {s : PH} {a : Addr} (h : (s.cell? a).isSome = true) : a.spot = none := by
 unfold PH.cell? at h
 cases hb : s a.block with
 | none => simp [hb] at h
 | some o =>
  rw [hb] at h
  cases o <;> simp only at h <;> try (cases h; done)
  cases hs : a.spot with
  | none => rfl
  | some _ => simp [hs] at h
theorem iW {s : PH} {a : Addr} {c : Array Value} {e : TypeId} {f : Nat × Nat} (h : s a.block = some (.cells c e f)) (hs : a.spot = none) (i : Nat) : s.cell? (a.add i) = c[a.off + i]? := by
 rw [rP hs]; unfold PH.cell?; dsimp only; rw [h]; (first | done | rfl)
theorem qa {s : PH} {a : Addr} {c : Array Value} {e : TypeId} {f : Nat × Nat} (h : s a.block = some (.cells c e f)) (hs : a.spot = none) (i : Nat) : s.frozen? (a.add i) = (decide (f.1 ≤ a.off + i) && decide (a.off + i < f.2)) := by
 rw [rP hs]; unfold PH.frozen?; dsimp only; rw [h]
theorem mI {s : PH} {a : Addr} (h : ∀ c e f, s a.block ≠ some (.cells c e f)) : s.cell? a = none := by
 unfold PH.cell?
 cases hb : s a.block with
 | none => rfl
 | some o => cases o <;> first | rfl | exact absurd hb (h _ _ _)
namespace W
@[simp] theorem az (a : Addr) (k : Addr → T) (s : PH) : af (some a) k s ↔ k a s := by simp [af]
@[simp] theorem JK (k : Addr → T) (s : PH) : af none k s ↔ False := by simp [af]
@[simp] theorem A3 (x y : T) (s : PH) : br true x y s ↔ x s := by simp [br]
@[simp] theorem yg (x y : T) (s : PH) : br false x y s ↔ y s := by simp [br]
theorem aa (b : Bool) (x y : T) (s : PH) : br b x y s ↔ (b = true → x s) ∧ (b = false → y s) := by cases b <;> simp [br]
@[simp] theorem ah (c : Prop) (k : T) (s : PH) : guard c k s ↔ c ∧ k s := Iff.rfl
@[simp] theorem Kl (s : PH) : fail s ↔ False := Iff.rfl
theorem bl {hs : List Shape} {F : (bN hs → T) → T} {K : bN hs → T} {s : PH} (J : bN hs → PH → Prop) (hK : ∀ x s', J x s' → K x s')
  (hF : ∀ K', (∀ x s', J x s' → K' x s') → F K' s) : join hs F K s := hF K hK
theorem EU (c : CT) (cs : List CT) (a : Addr) (x : Den (c :: cs)) (k : T) (s : PH) : still (c :: cs) a x k s ↔ s.has a (vals (c :: cs) x) ∧ k s := Iff.rfl
@[simp] theorem nM (R : Value → PH → Prop) (v : Value) (s : PH) : ret R v s ↔ R v s := Iff.rfl
end W
@[simp] def PH.rd (s : PH) (a : Addr) (n : Nat) : Option (List Value) :=
 match s a.block with
 | some (.cells c _ _) => if a.spot = none ∧ a.off + n ≤ c.size then some ((c.toList.drop a.off).take n) else none
 | _ => none
theorem PH.EF {s : PH} {a : Addr} {n : Nat} {vs : List Value} (h : s.rd a n = some vs) : vs.length = n ∧ s.has a vs := by
 unfold PH.rd at h
 cases hb : s a.block with
 | none => simp [hb] at h
 | some o =>
  rw [hb] at h
  cases o <;> simp only at h <;> try (cases h; done)
  rename_i c e f
  split at h
  ·rename_i hc
   simp only [Option.some.injEq] at h
   subst h
   refine ⟨by simp; omega, ?_⟩
   intro i v hv
   have hi : i < n := by
    have := (List.getElem?_eq_some_iff.1 hv).1
    simp at this; omega
   rw [List.getElem?_take_of_lt hi, List.getElem?_drop] at hv
   rw [iW hb hc.1, ← Array.getElem?_toList]; exact hv
  ·cases h
theorem PH.DW {s : PH} {a : Addr} {v : Value} {vs : List Value} (h : s.has a (v :: vs)) : s.rd a (vs.length + 1) = some (v :: vs) := by
 have h0 := h 0 v rfl
 rw [add_zero] at h0
 have hsp := vT (by rw [h0]; (first | done | rfl))
 unfold PH.rd
 cases hb : s a.block with
 | none => rw [mI (by simp [hb])] at h0; cases h0
 | some o =>
  cases o with
  | cells c e f =>
   dsimp only
   have hall : ∀ i w, (v :: vs)[i]? = some w → c[a.off + i]? = some w := by
    intro i w hw
    rw [← iW hb hsp]; exact h i w hw
   have hlen : a.off + (vs.length + 1) ≤ c.size := by
    have := hall vs.length ((v :: vs)[vs.length]'(by simp)) (by rw [List.getElem?_eq_getElem])
    have := (Array.getElem?_eq_some_iff.1 this).1
    omega
   rw [if_pos ⟨hsp, hlen⟩]
   congr 1
   apply List.ext_getElem?
   intro i
   rcases Nat.lt_or_ge i (vs.length + 1) with q | q
   ·rw [List.getElem?_take_of_lt q, List.getElem?_drop, Array.getElem?_toList]
    have := hall i ((v :: vs)[i]'(by simpa using q)) (by rw [List.getElem?_eq_getElem])
    rw [this, List.getElem?_eq_getElem (by simpa using q)]
   ·rw [List.getElem?_eq_none (by simp; omega), List.getElem?_eq_none (by simpa using q)]
  | _ => rw [mI (by simp [hb])] at h0; cases h0
theorem kz : ∀ {cs : List CT} {x : Den cs}, dW cs (vals cs x) = some x := by
 intro cs
 induction cs with
 | nil => intro x; (first | done | rfl)
 | cons c cs ih =>
  intro x
  have : c.ku (c.val x.1) = some x.1 := by cases c <;> simp [CT.ku, CT.val]
  simp [dW, vals, this, ih]
namespace W
@[simp] theorem bD (c : CT) (cs : List CT) (a : Addr) (k : Den (c :: cs) → T) (s : PH) :
  ld (c :: cs) a k s ↔ ∃ x, (s.rd a (cs.length + 1)).bind (dW (c :: cs)) = some x ∧ k x s := by
 unfold ld
 constructor
 ·rintro ⟨x, h1, h2⟩
  refine ⟨x, ?_, h2⟩
  have : s.rd a (cs.length + 1) = some (vals (c :: cs) x) := by
   have := PH.DW (v := c.val x.1) (vs := vals cs x.2) h1
   rw [kT] at this
   exact this
  rw [this]
  exact kz
 ·rintro ⟨x, h1, h2⟩
  refine ⟨x, ?_, h2⟩
  cases hr : s.rd a (cs.length + 1) with
  | none => rw [hr] at h1; simp at h1
  | some vs =>
   rw [hr] at h1
   rw [gy h1]
   exact (PH.EF hr).2
end W
@[simp] def fZ : Array Value → Nat → List Value → Array Value
 | c, _, [] => c
 | c, i, v :: vs => fZ (c.setIfInBounds i v) (i + 1) vs
theorem eA : ∀ (vs : List Value) (c : Array Value) (i : Nat), (fZ c i vs).size = c.size
 | [], _, _ => rfl
 | v :: vs, c, i => by simp [fZ, eA vs]
@[simp] def yV (f : Nat × Nat) (off n : Nat) : Prop := f.2 ≤ off ∨ off + n ≤ f.1 ∨ f.2 ≤ f.1
theorem PH.jL {a : Addr} {e : TypeId} {f : Nat × Nat} (hsp : a.spot = none) :
  ∀ (vs : List Value) (i : Nat) (c : Array Value) (s : PH), s a.block = some (.cells c e f) → vs ≠ [] → s.eW a i vs = s.aM a.block (.cells (fZ c (a.off + i) vs) e f) := by
 intro vs
 induction vs with
 | nil => intro i c s _ h; exact absurd rfl h
 | cons v vs ih =>
  intro i c s h _
  have h1 : s.setCell (a.add i) v = s.aM a.block (.cells (c.setIfInBounds (a.off + i) v) e f) := by
   rw [rP hsp]
   unfold PH.setCell
   dsimp only
   rw [h]
   first | done | rfl
  simp only [PH.eW, h1]
  cases vs with
  | nil => rfl
  | cons u us =>
   rw [ih (i + 1) (c.setIfInBounds (a.off + i) v) _ (PH.bA _ _ _) (by simp), PH.vL]
   first | done | rfl
theorem sC {s : PH} {a : Addr} {c : Array Value} {e : TypeId} {f : Nat × Nat} (h : s a.block = some (.cells c e f)) {n : Nat} (hn : 0 < n) :
  s.open_ a n ↔ a.spot = none ∧ a.off + n ≤ c.size ∧ yV f a.off n := by
 unfold PH.open_ yV
 constructor
 ·intro ho
  have hsp : a.spot = none := vT (s := s) (by have := (ho 0 hn).1; rwa [add_zero] at this)
  have hl := (ho (n - 1) (by omega)).1
  rw [iW h hsp] at hl
  simp at hl
  refine ⟨hsp, by omega, ?_⟩
  by_cases g1 : f.2 ≤ a.off
  ·exact .inl g1
  by_cases g2 : f.2 ≤ f.1
  ·exact .inr (.inr g2)
  refine .inr (.inl ?_)
  by_cases g3 : f.1 ≤ a.off
  ·have := (ho 0 hn).2
   rw [qa h hsp] at this
   simp at this; omega
  ·by_cases g4 : a.off + n ≤ f.1
   ·exact g4
   ·have := (ho (f.1 - a.off) (by omega)).2
    rw [qa h hsp] at this
    simp at this; omega
 ·rintro ⟨hsp, hl, hf⟩ i hi
  constructor
  ·rw [iW h hsp]; simp; omega
  ·rw [qa h hsp]; simp; omega
namespace W
@[simp] def stM (a : Addr) (vs : List Value) (k : T) (s : PH) : Option Obj → Prop
 | some (.cells c e f) => a.spot = none ∧ a.off + vs.length ≤ c.size ∧ yV f a.off vs.length ∧ (∀ v ∈ vs, v.oneCell' = true) ∧ k (s.aM a.block (.cells (fZ c a.off vs) e f))
 | _ => False
@[simp] theorem bB (a : Addr) (v : Value) (vs : List Value) (k : T) (s : PH) : st a (v :: vs) k s ↔ stM a (v :: vs) k s (s a.block) := by
 unfold st
 cases hb : s a.block with
 | none =>
  simp only [stM, iff_false]
  rintro ⟨h, _⟩
  have := (h 0 (by simp)).1
  rw [add_zero, mI (by simp [hb])] at this
  cases this
 | some o =>
  cases o with
  | cells c e f =>
   rw [sC hb (by simp)]
   simp only [stM]
   constructor
   ·rintro ⟨⟨h1, h2, h3⟩, h4, h5⟩
    rw [PH.jL h1 _ 0 c s hb (by simp)] at h5
    exact ⟨h1, h2, h3, h4, h5⟩
   ·rintro ⟨h1, h2, h3, h4, h5⟩
    refine ⟨⟨h1, h2, h3⟩, h4, ?_⟩
    rw [PH.jL h1 _ 0 c s hb (by simp)]
    exact h5
  | _ =>
   simp only [stM, iff_false]
   rintro ⟨h, _⟩
   have := (h 0 (by simp)).1
   rw [add_zero, mI (by simp [hb])] at this
   cases this
@[simp] theorem KJ (o : Obj) (k : Nat → T) (s : PH) : nw o k s ↔ ∀ b, s b = none → k b (s.aM b o) := Iff.rfl
theorem au {P : Program} {f : FuncId} {args : Array Value} {r : Bool × List Shape} {k : bN r.2 → T} {s : PH} {Q : Value → PH → Prop} (h : bu P f args s Q)
  (hk : ∀ v s', Q v s' → ∃ x, gp r x = v ∧ k x s') : call P f args r k s := h.mono hk
end W
def Mod (L : List Nat) (s s' : PH) : Prop := ∀ k, s k ≠ none → k ∉ L → s' k = s k
theorem Mod.refl (L : List Nat) (s : PH) : Mod L s s := fun _ _ _ => rfl
theorem Mod.trans {L : List Nat} {s s' s'' : PH} (h : Mod L s s') (k : Mod L s' s'') : Mod L s s'' := fun i h1 h2 => by
 have := h i h1 h2
 rw [k i (by rw [this]; exact h1) h2, this]
theorem Mod.mono {L L' : List Nat} {s s' : PH} (h : Mod L s s') (hl : ∀ x ∈ L, x ∈ L') : Mod L' s s' := fun k h1 h2 => h k h1 fun e => h2 (hl k e)
theorem Mod.new {L : List Nat} {s : PH} {b : Nat} {o : Obj} (h : s b = none) : Mod L s (s.aM b o) := fun k h1 _ => by
 rw [PH.bF]; rintro rfl; exact h1 h
theorem Mod.aM {L : List Nat} {s : PH} {b : Nat} {o : Obj} (h : b ∈ L) : Mod L s (s.aM b o) := fun k _ h2 => by
 rw [PH.bF]; rintro rfl; exact h2 h
theorem Mod.bQ {L : List Nat} {s s' : PH} {b : Nat} {o : Obj} (h : Mod L s s') (hb : b ∈ L ∨ s b = none) : Mod L s (s'.aM b o) := fun k h1 h2 => by
 have hne : k ≠ b := by
  rintro rfl
  rcases hb with hb | hb
  ·exact h2 hb
  ·exact h1 hb
 rw [PH.bF _ _ hne]; exact h k h1 h2
theorem Mod.fresh {L M : List Nat} {s s' s'' : PH} (h : Mod L s s') (k : Mod M s' s'') (hM : ∀ x ∈ M, x ∈ L ∨ s x = none) : Mod L s s'' := fun i h1 h2 => by
 have e := h i h1 h2
 rw [k i (by rw [e]; exact h1) (fun hm => (hM i hm).elim h2 h1), e]
theorem Mod.none {L : List Nat} {s s' : PH} (h : Mod L s s') {k : Nat} (e : s' k = none) (hk : k ∉ L) : s k = none := by
 cases hs : s k with
 | none => rfl
 | some o => rw [h k (by simp [hs]) hk, hs] at e; cases e
theorem Mod.at {L : List Nat} {s s' : PH} (h : Mod L s s') {k : Nat} {o : Obj} (e : s k = some o) (hk : k ∉ L) : s' k = some o := by
 rw [h k (by simp [e]) hk, e]
theorem Mod.le {s s' : PH} (h : Mod [] s s') : s.le s' := fun b o e => h.at e (by simp)
theorem AG {s : PH} {b r : Nat} {o : Obj} (h : s b = some o) (hr : s r = none) : b ≠ r := by
 rintro rfl; rw [h] at hr; cases hr
structure Step (L L' : List Nat) (s s' : PH) : Prop where
 mod : Mod L s s'
 new : ∀ x ∈ L', x ∈ L ∨ s x = none
theorem Step.refl (L : List Nat) (s : PH) : Step L L s s := ⟨Mod.refl _ _, fun x hx => .inl hx⟩
theorem Step.trans {L L' L'' : List Nat} {s s' s'' : PH} (h : Step L L' s s') (k : Step L' L'' s' s'') : Step L L'' s s'' :=
 ⟨h.mod.fresh k.mod h.new, fun x hx => by
   rcases k.new x hx with h1 | h1
   ·exact h.new x h1
   ·by_cases hl : x ∈ L
    ·exact .inl hl
    ·exact .inr (h.mod.none h1 hl)⟩
theorem Step.le {L L' M : List Nat} {s s' : PH} (h : Step L L' s s') (hl : ∀ x ∈ L, x ∈ M) : Step M (L' ++ M) s s' :=
 ⟨h.mod.mono hl, fun x hx => by
   rcases List.mem_append.1 hx with h1 | h1
   ·exact (h.new x h1).imp_left (hl x)
   ·exact .inl h1⟩
theorem Step.apart {L L' M : List Nat} {s s' : PH} (h : Step L L' s s') (hd : ∀ x ∈ M, x ∉ L) (hk : ∀ x ∈ M, s x ≠ none) : ∀ x ∈ M, x ∉ L' := fun x hx h1 => by
 rcases h.new x h1 with h2 | h2
 ·exact hd x hx h2
 ·exact hk x hx h2
theorem toList_inj {a b : ByteArray} (h : a.toList = b.toList) : a = b := by
 rw [ByteArray.toList_eq, ByteArray.toList_eq] at h
 obtain ⟨⟨a⟩⟩ := a; obtain ⟨⟨b⟩⟩ := b
 simpa using h
instance : LawfulBEq ByteArray where
 eq_of_beq {a b} h := by
  have h : ByteArray.beq a b = true := h
  unfold ByteArray.beq at h
  have h2 : a.data = b.data := eq_of_beq h
  cases a; cases b; cases h2; (first | done | rfl)
 rfl {a} := by
  show ByteArray.beq a a = true
  unfold ByteArray.beq
  exact beq_self_eq_true _
structure rM (K : Type) [BEq K] [LawfulBEq K] where
 kd : TypeDesc
 enc : K → Value
 same : ∀ a b, Instr.sameNow kd (enc a) (enc b) = some (a == b)
 bits : ∀ a, Instr.sameBits 10000 (enc a) (enc a) = true
 inj : ∀ a b, enc a = enc b → a = b
def ir : rM ByteArray where
 kd := .string
 enc := .string
 same _ _ := rfl
 bits a := by simp [Instr.sameBits]
 inj a b h := by simpa using h
def y4 (k : IntKind) : rM Int where
 kd := .int k
 enc := .int k
 same a b := by simp [Instr.sameNow]
 bits a := by simp [Instr.sameBits]
 inj a b h := by simpa using h
section
variable {K V : Type} [BEq K] [LawfulBEq K] (ke : rM K) (ve : V → Value)
def fH (s : PH) (m : Nat) (f : List (K × V)) : Prop :=
 ∃ es c, s m = some (.map es c) ∧ es.toList.map (fun e => (e.key, e.val)) = f.map (fun p => (ke.enc p.1, ve p.2)) ∧ Stamped es c
def di (f : List (K × V)) (k : K) (v : V) : List (K × V) :=
 match f with
 | [] => [(k, v)]
 | (a, b) :: f => if k == a then (k, v) :: f else (a, b) :: di f k v
variable {ke ve}
theorem pX (k : K) : ∀ (l : List MapEntry) (f : List (K × V)) (i : Nat), l.map (fun e => (e.key, e.val)) = f.map (fun p => (ke.enc p.1, ve p.2)) →
  (f.lookup k = none ∧ Instr.findNow ke.kd (ke.enc k) l i = some none ∧ (∀ p ∈ f, p.1 ≠ k) ∧ di f k = fun v => f ++ [(k, v)]) ∨
  (∃ j v, f.lookup k = some v ∧ Instr.findNow ke.kd (ke.enc k) l i = some (some (i + j, ve v)) ∧ j < f.length ∧ f[j]? = some (k, v) ∧ di f k = fun v => f.set j (k, v)) := by
 intro l
 induction l with
 | nil =>
  intro f i h
  cases f with
  | nil => exact .inl ⟨rfl, rfl, by simp, rfl⟩
  | cons p f => simp at h
 | cons e l ih =>
  intro f i h
  cases f with
  | nil => simp at h
  | cons p f =>
   obtain ⟨a, b⟩ := p
   simp only [List.map_cons, List.cons.injEq, Prod.mk.injEq] at h
   obtain ⟨⟨h1, h2⟩, h3⟩ := h
   by_cases hk : k = a
   ·subst hk
    refine .inr ⟨0, b, by simp, ?_, by simp, rfl, ?_⟩
    ·simp only [Instr.findNow, h1, ke.same, beq_self_eq_true, h2, Nat.add_zero]
    ·funext v; simp [di]
   ·have hb : (k == a) = false := by simpa using hk
    rcases ih f (i + 1) h3 with ⟨g1, g2, g3, g4⟩ | ⟨j, v, g1, g2, g3, g4, g5⟩
    ·refine .inl ⟨by simp [List.lookup_cons, hb, g1], ?_, ?_, ?_⟩
     ·simp only [Instr.findNow, h1, ke.same, hb]; exact g2
     ·intro p hp
      rcases List.mem_cons.1 hp with rfl | hp
      ·exact Ne.symm hk
      ·exact g3 p hp
     ·funext v; simp [di, hb, g4]
    ·refine .inr ⟨j + 1, v, by simp [List.lookup_cons, hb, g1], ?_, by simpa using g3, by simpa using g4, ?_⟩
     ·simp only [Instr.findNow, h1, ke.same, hb]; rw [g2]; congr 3; omega
     ·funext v; simp [di, hb, g5]
theorem fH.new {s : PH} {m : Nat} : fH (V := V) ke ve (s.aM m (.map #[] 0)) m [] := ⟨#[], 0, PH.bA _ _ _, rfl, stamped_empty 0⟩
theorem fH.known {s : PH} {m : Nat} {f : List (K × V)} (h : fH ke ve s m f) : s m ≠ none := by
 obtain ⟨es, c, h, _⟩ := h; simp [h]
theorem fH.mod {L : List Nat} {s s' : PH} {m : Nat} {f : List (K × V)} (h : fH ke ve s m f) (hm : Mod L s s') (hl : m ∉ L) : fH ke ve s' m f := by
 obtain ⟨es, c, h, r⟩ := h; exact ⟨es, c, hm.at h hl, r⟩
theorem fH.other {s : PH} {m b : Nat} {o : Obj} {f : List (K × V)} (h : fH ke ve s m f) (hl : m ≠ b) : fH ke ve (s.aM b o) m f := by
 obtain ⟨es, c, h, r⟩ := h; exact ⟨es, c, by rw [PH.bF _ _ hl]; exact h, r⟩
def Hg (zero : Value) (h : Shape) (ve : V → Value) (k : Den h.2 → Bool → W.T) (s : PH) : Option V → Prop
 | some v => ∃ x, h.mk x = ve v ∧ k x true s
 | none => ∃ x, h.mk x = zero ∧ k x false s
theorem vm {s : PH} {m : Nat} {f : List (K × V)} (hm : fH ke ve s m f) {key : K} {zero : Value} {h : Shape} {k : Den h.2 → Bool → W.T}
  (hk : Hg zero h ve k s (f.lookup key)) : W.look ke.kd (some m) (ke.enc key) zero h k s := by
 obtain ⟨es, c, h1, h2, h3⟩ := hm
 rcases pX (ke := ke) (ve := ve) key es.toList f 0 h2 with ⟨g1, g2, g3, g4⟩ | ⟨j, v, g1, g2, g3, g4, g5⟩
 ·rw [g1] at hk
  exact ⟨es, c, _, h1, g2, hk⟩
 ·rw [g1] at hk
  exact ⟨es, c, _, h1, g2, hk⟩
theorem Bh {s : PH} {m : Nat} {f : List (K × V)} (hm : fH ke ve s m f) {key : K} {v : V} {k : W.T}
  (hk : ∀ o, fH ke ve (s.aM m o) m (di f key v) → k (s.aM m o)) : W.gF ke.kd (some m) (ke.enc key) (ve v) k s := by
 obtain ⟨es, c, h1, h2, h3⟩ := hm
 rcases pX (ke := ke) (ve := ve) key es.toList f 0 h2 with ⟨g1, g2, g3, g4⟩ | ⟨j, u, g1, g2, g3, g4, g5⟩
 ·refine ⟨m, es, c, _, rfl, h1, g2, hk _ ⟨_, _, PH.bA _ _ _, ?_, stamped_push h3 ?_⟩⟩
  ·rw [g4]; simp [h2]
  ·intro x hx e
   have : (x.key, x.val) ∈ f.map (fun p => (ke.enc p.1, ve p.2)) := by rw [← h2]; exact List.mem_map_of_mem hx
   obtain ⟨p, hp, he⟩ := List.mem_map.1 this
   simp only [Prod.mk.injEq] at he
   exact g3 p hp (ke.inj _ _ (he.1.trans e))
 ·have hlen : es.toList.length = f.length := by simpa using congrArg List.length h2
  have hj : j < es.size := by rw [← Array.length_toList]; omega
  have hej : (es[j].key, es[j].val) = (ke.enc key, ve u) := by
   have := congrArg (fun l => l[j]?) h2
   simp [g4, hj] at this
   exact Prod.ext this.1 this.2
  have hkey : es[j].key = ke.enc key := congrArg Prod.fst hej
  refine ⟨m, es, c, _, rfl, h1, g2, ⟨es[j], by simp [hj], ?_⟩, hk _ ⟨_, _, PH.bA _ _ _, ?_, ?_⟩⟩
  ·rw [hkey]; exact ke.bits key
  ·rw [g5]
   apply List.ext_getElem?
   intro i
   simp only [Nat.zero_add, Array.toList_modify, List.getElem?_map, List.getElem?_set]
   have h2i := congrArg (fun l => l[i]?) h2
   simp only [List.getElem?_map] at h2i
   by_cases hi : j = i
   ·subst hi
    simp [g3, hj]
   ·rw [if_neg hi, List.getElem?_modify_ne _ _ hi]
    exact h2i
  ·refine stamped_modify h3 _ _ (fun _ _ => rfl) ?_
   intro e he hi
   simp only [Nat.zero_add] at hi
   have : e = es[j] := by simpa [hj] using hi.symm
   rw [this, hkey]
end
theorem AE {K V : Type} [BEq K] [LawfulBEq K] (f : List (K × V)) (k k' : K) (v : V) : (di f k v).lookup k' = if k' == k then some v else f.lookup k' := by
 induction f with
 | nil => simp only [di, List.lookup_cons]; split <;> simp_all
 | cons p f ih =>
  obtain ⟨a, b⟩ := p
  simp only [di]
  by_cases h : k == a
  ·have : k = a := by simpa using h
   subst this
   simp only [beq_self_eq_true, if_true, List.lookup_cons]
   split <;> simp_all
  ·rw [if_neg h]
   simp only [List.lookup_cons, ih]
   by_cases h2 : k' == a
   ·have : k' = a := by simpa using h2
    subst this
    have : ¬ (k' == k) = true := by
     intro e
     have e := eq_of_beq e
     subst e
     exact h (by simp)
    simp [this]
   ·simp [h2]
theorem bL (a b : ByteArray) : (a.toList == b.toList) = decide (a = b) := by
 by_cases h : a = b
 ·subst h; simp
 ·rw [decide_eq_false h]
  simp only [beq_eq_false_iff_ne, ne_eq]
  intro e
  exact h (toList_inj e)
theorem bW {n : Int} (h1 : -9223372036854775808 ≤ n) (h2 : n ≤ 9223372036854775807) : IntKind.i64.wrap n = n := by rw [IntKind.wrap_i64]; omega
attribute [simp] dW CT.ku PH.vL Value.oneCell'
end Fw
end
