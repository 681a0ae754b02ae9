/-
  Part 15 for the law: lemmas.
  Conditions: none.
-/
import Derived.Test.YtcdggocbjnmeaaaGreatGroupHoldsK14
set_option linter.unusedVariables false
set_option linter.unusedSimpArgs false
set_option linter.unusedSectionVars false
section
namespace Fw
open Go
open Go.MapKept (Stamped stamped_empty stamped_push stamped_modify)
section
variable (P : Program) (R : Value → PH → Prop)
@[simp] theorem RP_fail : (RP P R).fail = W.fail := rfl
@[simp] theorem RP_guard : (RP P R).guard = W.guard := rfl
@[simp] theorem RP_ite : (RP P R).ite = W.br := rfl
@[simp] theorem RP_both : (RP P R).both = W.both := rfl
@[simp] theorem RP_unSome : (RP P R).unSome = W.unSome := rfl
@[simp] theorem RP_ld : (RP P R).ld = W.ld := rfl
@[simp] theorem RP_st : (RP P R).st = W.st := rfl
@[simp] theorem RP_nw : (RP P R).nw = W.nw := rfl
@[simp] theorem RP_call : (RP P R).call = W.call P := rfl
@[simp] theorem RP_callQ : (RP P R).callQ = W.callQ P := rfl
@[simp] theorem RP_callV : (RP P R).callV = W.callV P := rfl
@[simp] theorem RP_look : (RP P R).look = W.look := rfl
@[simp] theorem RP_mset : (RP P R).mset = W.mset := rfl
@[simp] theorem RP_rng : (RP P R).rng = W.rng := rfl
@[simp] theorem RP_nxt : (RP P R).nxt = W.nxt := rfl
@[simp] theorem RP_ent : (RP P R).ent = W.ent := rfl
@[simp] theorem RP_ext : (RP P R).ext = W.ext := rfl
@[simp] theorem RP_app : (RP P R).app = W.app := rfl
@[simp] theorem RP_cpy : (RP P R).cpy = W.cpy := rfl
@[simp] theorem RP_clr : (RP P R).clr = W.clr := rfl
@[simp] theorem RP_mksl : (RP P R).mksl = W.mksl := rfl
@[simp] theorem RP_b2s : (RP P R).b2s = W.b2s := rfl
@[simp] theorem RP_s2b : (RP P R).s2b = W.s2b := rfl
@[simp] theorem RP_loop : (RP P R).loop = W.loop := rfl
@[simp] theorem RP_join : (RP P R).join = W.join := rfl
@[simp] theorem RP_still : (RP P R).still = W.still := rfl
@[simp] theorem RP_ret : (RP P R).ret = W.ret R := rfl
end
@[simp] theorem add_mk (b o i : Nat) : (Addr.mk b o none).add i = Addr.mk b (o + i) none := by unfold Addr.add; split <;> simp_all
theorem add_none {a : Addr} (h : a.spot = none) (i : Nat) : a.add i = Addr.mk a.block (a.off + i) none := by
 obtain ⟨b, o, p⟩ := a; cases h; exact add_mk b o i
@[simp] theorem add_zero (a : Addr) : a.add 0 = a := by simp [Addr.add]
theorem add_block (a : Addr) (i : Nat) : (a.add i).block = a.block := by unfold Addr.add; split <;> rfl
theorem cell_spot {s : PH} {a : Addr} (h : (s.cell? a).isSome = true) : a.spot = none := by
 unfold PH.cell? at h
 cases hb : s a.block with
 | none => simp [hb] at h
 | some o =>
  rw [hb] at h
  cases o <;> simp only at h <;> try (cases h; done)
  cases hs : a.spot with
  | none => rfl
  | some _ => simp [hs] at h
theorem cell_eq {s : PH} {a : Addr} {c : Array Value} {e : TypeId} {f : Nat × Nat} (h : s a.block = some (.cells c e f)) (hs : a.spot = none) (i : Nat) : s.cell? (a.add i) = c[a.off + i]? := by
 rw [add_none hs]; unfold PH.cell?; dsimp only; rw [h]; (first | done | rfl)
theorem frozen_eq {s : PH} {a : Addr} {c : Array Value} {e : TypeId} {f : Nat × Nat} (h : s a.block = some (.cells c e f)) (hs : a.spot = none) (i : Nat) : s.frozen? (a.add i) = (decide (f.1 ≤ a.off + i) && decide (a.off + i < f.2)) := by
 rw [add_none hs]; unfold PH.frozen?; dsimp only; rw [h]
theorem cell_none {s : PH} {a : Addr} (h : ∀ c e f, s a.block ≠ some (.cells c e f)) : s.cell? a = none := by
 unfold PH.cell?
 cases hb : s a.block with
 | none => rfl
 | some o => cases o <;> first | rfl | exact absurd hb (h _ _ _)
namespace W
@[simp] theorem unSome_some (a : Addr) (k : Addr → T) (s : PH) : unSome (some a) k s ↔ k a s := by simp [unSome]
@[simp] theorem unSome_none (k : Addr → T) (s : PH) : unSome none k s ↔ False := by simp [unSome]
@[simp] theorem br_true (x y : T) (s : PH) : br true x y s ↔ x s := by simp [br]
@[simp] theorem br_false (x y : T) (s : PH) : br false x y s ↔ y s := by simp [br]
theorem br_iff (b : Bool) (x y : T) (s : PH) : br b x y s ↔ (b = true → x s) ∧ (b = false → y s) := by cases b <;> simp [br]
@[simp] theorem guard_iff (c : Prop) (k : T) (s : PH) : guard c k s ↔ c ∧ k s := Iff.rfl
@[simp] theorem fail_iff (s : PH) : fail s ↔ False := Iff.rfl
theorem join_iff (hs : List Shape) (F : (MDen hs → T) → T) (K : MDen hs → T) (s : PH) : join hs F K s ↔ F K s := Iff.rfl
theorem join_gen {hs : List Shape} {F : (MDen hs → T) → T} {K : MDen hs → T} {s : PH} (J : MDen hs → PH → Prop) (hK : ∀ x s', J x s' → K x s')
  (hF : ∀ K', (∀ x s', J x s' → K' x s') → F K' s) : join hs F K s := hF K hK
theorem still_iff (c : CT) (cs : List CT) (a : Addr) (x : Den (c :: cs)) (k : T) (s : PH) : still (c :: cs) a x k s ↔ s.has a (vals (c :: cs) x) ∧ k s := Iff.rfl
@[simp] theorem ret_iff (R : Value → PH → Prop) (v : Value) (s : PH) : ret R v s ↔ R v s := Iff.rfl
end W
@[simp] def PH.rd (s : PH) (a : Addr) (n : Nat) : Option (List Value) :=
 match s a.block with
 | some (.cells c _ _) => if a.spot = none ∧ a.off + n ≤ c.size then some ((c.toList.drop a.off).take n) else none
 | _ => none
theorem PH.rd_has {s : PH} {a : Addr} {n : Nat} {vs : List Value} (h : s.rd a n = some vs) : vs.length = n ∧ s.has a vs := by
 unfold PH.rd at h
 cases hb : s a.block with
 | none => simp [hb] at h
 | some o =>
  rw [hb] at h
  cases o <;> simp only at h <;> try (cases h; done)
  rename_i c e f
  split at h
  ·rename_i hc
   simp only [Option.some.injEq] at h
   subst h
   refine ⟨by simp; omega, ?_⟩
   intro i v hv
   have hi : i < n := by
    have := (List.getElem?_eq_some_iff.1 hv).1
    simp at this; omega
   rw [List.getElem?_take_of_lt hi, List.getElem?_drop] at hv
   rw [cell_eq hb hc.1, ← Array.getElem?_toList]; exact hv
  ·cases h
theorem PH.has_rd {s : PH} {a : Addr} {v : Value} {vs : List Value} (h : s.has a (v :: vs)) : s.rd a (vs.length + 1) = some (v :: vs) := by
 have h0 := h 0 v rfl
 rw [add_zero] at h0
 have hsp := cell_spot (by rw [h0]; (first | done | rfl))
 unfold PH.rd
 cases hb : s a.block with
 | none => rw [cell_none (by simp [hb])] at h0; cases h0
 | some o =>
  cases o with
  | cells c e f =>
   dsimp only
   have hall : ∀ i w, (v :: vs)[i]? = some w → c[a.off + i]? = some w := by
    intro i w hw
    rw [← cell_eq hb hsp]; exact h i w hw
   have hlen : a.off + (vs.length + 1) ≤ c.size := by
    have := hall vs.length ((v :: vs)[vs.length]'(by simp)) (by rw [List.getElem?_eq_getElem])
    have := (Array.getElem?_eq_some_iff.1 this).1
    omega
   rw [if_pos ⟨hsp, hlen⟩]
   congr 1
   apply List.ext_getElem?
   intro i
   rcases Nat.lt_or_ge i (vs.length + 1) with q | q
   ·rw [List.getElem?_take_of_lt q, List.getElem?_drop, Array.getElem?_toList]
    have := hall i ((v :: vs)[i]'(by simpa using q)) (by rw [List.getElem?_eq_getElem])
    rw [this, List.getElem?_eq_getElem (by simpa using q)]
   ·rw [List.getElem?_eq_none (by simp; omega), List.getElem?_eq_none (by simpa using q)]
  | _ => rw [cell_none (by simp [hb])] at h0; cases h0
theorem unvals_vals' : ∀ {cs : List CT} {x : Den cs}, unvals cs (vals cs x) = some x := by
 intro cs
 induction cs with
 | nil => intro x; (first | done | rfl)
 | cons c cs ih =>
  intro x
  have : c.unval (c.val x.1) = some x.1 := by cases c <;> simp [CT.unval, CT.val]
  simp [unvals, vals, this, ih]
namespace W
@[simp] theorem ld_iff (c : CT) (cs : List CT) (a : Addr) (k : Den (c :: cs) → T) (s : PH) :
  ld (c :: cs) a k s ↔ ∃ x, (s.rd a (cs.length + 1)).bind (unvals (c :: cs)) = some x ∧ k x s := by
 unfold ld
 constructor
 ·rintro ⟨x, h1, h2⟩
  refine ⟨x, ?_, h2⟩
  have : s.rd a (cs.length + 1) = some (vals (c :: cs) x) := by
   have := PH.has_rd (v := c.val x.1) (vs := vals cs x.2) h1
   rw [length_vals] at this
   exact this
  rw [this]
  exact unvals_vals'
 ·rintro ⟨x, h1, h2⟩
  refine ⟨x, ?_, h2⟩
  cases hr : s.rd a (cs.length + 1) with
  | none => rw [hr] at h1; simp at h1
  | some vs =>
   rw [hr] at h1
   rw [unvals_vals h1]
   exact (PH.rd_has hr).2
end W
@[simp] def setL : Array Value → Nat → List Value → Array Value
 | c, _, [] => c
 | c, i, v :: vs => setL (c.setIfInBounds i v) (i + 1) vs
theorem setL_size : ∀ (vs : List Value) (c : Array Value) (i : Nat), (setL c i vs).size = c.size
 | [], _, _ => rfl
 | v :: vs, c, i => by simp [setL, setL_size vs]
@[simp] def frz (f : Nat × Nat) (off n : Nat) : Prop := f.2 ≤ off ∨ off + n ≤ f.1 ∨ f.2 ≤ f.1
theorem PH.stores_eq {a : Addr} {e : TypeId} {f : Nat × Nat} (hsp : a.spot = none) :
  ∀ (vs : List Value) (i : Nat) (c : Array Value) (s : PH), s a.block = some (.cells c e f) → vs ≠ [] → s.stores a i vs = s.upd a.block (.cells (setL c (a.off + i) vs) e f) := by
 intro vs
 induction vs with
 | nil => intro i c s _ h; exact absurd rfl h
 | cons v vs ih =>
  intro i c s h _
  have h1 : s.setCell (a.add i) v = s.upd a.block (.cells (c.setIfInBounds (a.off + i) v) e f) := by
   rw [add_none hsp]
   unfold PH.setCell
   dsimp only
   rw [h]
   first | done | rfl
  simp only [PH.stores, h1]
  cases vs with
  | nil => rfl
  | cons u us =>
   rw [ih (i + 1) (c.setIfInBounds (a.off + i) v) _ (PH.upd_same _ _ _) (by simp), PH.upd_upd]
   first | done | rfl
theorem open_iff {s : PH} {a : Addr} {c : Array Value} {e : TypeId} {f : Nat × Nat} (h : s a.block = some (.cells c e f)) {n : Nat} (hn : 0 < n) :
  s.open_ a n ↔ a.spot = none ∧ a.off + n ≤ c.size ∧ frz f a.off n := by
 unfold PH.open_ frz
 constructor
 ·intro ho
  have hsp : a.spot = none := cell_spot (s := s) (by have := (ho 0 hn).1; rwa [add_zero] at this)
  have hl := (ho (n - 1) (by omega)).1
  rw [cell_eq h hsp] at hl
  simp at hl
  refine ⟨hsp, by omega, ?_⟩
  by_cases g1 : f.2 ≤ a.off
  ·exact .inl g1
  by_cases g2 : f.2 ≤ f.1
  ·exact .inr (.inr g2)
  refine .inr (.inl ?_)
  by_cases g3 : f.1 ≤ a.off
  ·have := (ho 0 hn).2
   rw [frozen_eq h hsp] at this
   simp at this; omega
  ·by_cases g4 : a.off + n ≤ f.1
   ·exact g4
   ·have := (ho (f.1 - a.off) (by omega)).2
    rw [frozen_eq h hsp] at this
    simp at this; omega
 ·rintro ⟨hsp, hl, hf⟩ i hi
  constructor
  ·rw [cell_eq h hsp]; simp; omega
  ·rw [frozen_eq h hsp]; simp; omega
namespace W
@[simp] def stM (a : Addr) (vs : List Value) (k : T) (s : PH) : Option Obj → Prop
 | some (.cells c e f) => a.spot = none ∧ a.off + vs.length ≤ c.size ∧ frz f a.off vs.length ∧ (∀ v ∈ vs, v.oneCell' = true) ∧ k (s.upd a.block (.cells (setL c a.off vs) e f))
 | _ => False
@[simp] theorem st_iff (a : Addr) (v : Value) (vs : List Value) (k : T) (s : PH) : st a (v :: vs) k s ↔ stM a (v :: vs) k s (s a.block) := by
 unfold st
 cases hb : s a.block with
 | none =>
  simp only [stM, iff_false]
  rintro ⟨h, _⟩
  have := (h 0 (by simp)).1
  rw [add_zero, cell_none (by simp [hb])] at this
  cases this
 | some o =>
  cases o with
  | cells c e f =>
   rw [open_iff hb (by simp)]
   simp only [stM]
   constructor
   ·rintro ⟨⟨h1, h2, h3⟩, h4, h5⟩
    rw [PH.stores_eq h1 _ 0 c s hb (by simp)] at h5
    exact ⟨h1, h2, h3, h4, h5⟩
   ·rintro ⟨h1, h2, h3, h4, h5⟩
    refine ⟨⟨h1, h2, h3⟩, h4, ?_⟩
    rw [PH.stores_eq h1 _ 0 c s hb (by simp)]
    exact h5
  | _ =>
   simp only [stM, iff_false]
   rintro ⟨h, _⟩
   have := (h 0 (by simp)).1
   rw [add_zero, cell_none (by simp [hb])] at this
   cases this
@[simp] theorem nw_iff (o : Obj) (k : Nat → T) (s : PH) : nw o k s ↔ ∀ b, s b = none → k b (s.upd b o) := Iff.rfl
theorem call_of {P : Program} {f : FuncId} {args : Array Value} {r : Bool × List Shape} {k : MDen r.2 → T} {s : PH} {Q : Value → PH → Prop} (h : DCalls P f args s Q)
  (hk : ∀ v s', Q v s' → ∃ x, mkRes r x = v ∧ k x s') : call P f args r k s := h.mono hk
end W
def Mod (L : List Nat) (s s' : PH) : Prop := ∀ k, s k ≠ none → k ∉ L → s' k = s k
theorem Mod.refl (L : List Nat) (s : PH) : Mod L s s := fun _ _ _ => rfl
theorem Mod.trans {L : List Nat} {s s' s'' : PH} (h : Mod L s s') (k : Mod L s' s'') : Mod L s s'' := fun i h1 h2 => by
 have := h i h1 h2
 rw [k i (by rw [this]; exact h1) h2, this]
theorem Mod.mono {L L' : List Nat} {s s' : PH} (h : Mod L s s') (hl : ∀ x ∈ L, x ∈ L') : Mod L' s s' := fun k h1 h2 => h k h1 fun e => h2 (hl k e)
theorem Mod.new {L : List Nat} {s : PH} {b : Nat} {o : Obj} (h : s b = none) : Mod L s (s.upd b o) := fun k h1 _ => by
 rw [PH.upd_other]; rintro rfl; exact h1 h
theorem Mod.upd {L : List Nat} {s : PH} {b : Nat} {o : Obj} (h : b ∈ L) : Mod L s (s.upd b o) := fun k _ h2 => by
 rw [PH.upd_other]; rintro rfl; exact h2 h
theorem Mod.updLater {L : List Nat} {s s' : PH} {b : Nat} {o : Obj} (h : Mod L s s') (hb : b ∈ L ∨ s b = none) : Mod L s (s'.upd b o) := fun k h1 h2 => by
 have hne : k ≠ b := by
  rintro rfl
  rcases hb with hb | hb
  ·exact h2 hb
  ·exact h1 hb
 rw [PH.upd_other _ _ hne]; exact h k h1 h2
theorem Mod.fresh {L M : List Nat} {s s' s'' : PH} (h : Mod L s s') (k : Mod M s' s'') (hM : ∀ x ∈ M, x ∈ L ∨ s x = none) : Mod L s s'' := fun i h1 h2 => by
 have e := h i h1 h2
 rw [k i (by rw [e]; exact h1) (fun hm => (hM i hm).elim h2 h1), e]
theorem Mod.none {L : List Nat} {s s' : PH} (h : Mod L s s') {k : Nat} (e : s' k = none) (hk : k ∉ L) : s k = none := by
 cases hs : s k with
 | none => rfl
 | some o => rw [h k (by simp [hs]) hk, hs] at e; cases e
theorem Mod.at {L : List Nat} {s s' : PH} (h : Mod L s s') {k : Nat} {o : Obj} (e : s k = some o) (hk : k ∉ L) : s' k = some o := by
 rw [h k (by simp [e]) hk, e]
theorem Mod.le {s s' : PH} (h : Mod [] s s') : s.le s' := fun b o e => h.at e (by simp)
theorem ne_of_known {s : PH} {b r : Nat} {o : Obj} (h : s b = some o) (hr : s r = none) : b ≠ r := by
 rintro rfl; rw [h] at hr; cases hr
theorem ne_of_known' {s : PH} {b r : Nat} {o : Obj} (h : s b = some o) (hr : s r = none) : r ≠ b := (ne_of_known h hr).symm
structure Step (L L' : List Nat) (s s' : PH) : Prop where
 mod : Mod L s s'
 new : ∀ x ∈ L', x ∈ L ∨ s x = none
theorem Step.refl (L : List Nat) (s : PH) : Step L L s s := ⟨Mod.refl _ _, fun x hx => .inl hx⟩
theorem Step.trans {L L' L'' : List Nat} {s s' s'' : PH} (h : Step L L' s s') (k : Step L' L'' s' s'') : Step L L'' s s'' :=
 ⟨h.mod.fresh k.mod h.new, fun x hx => by
  rcases k.new x hx with h1 | h1
  ·exact h.new x h1
  ·by_cases hl : x ∈ L
   ·exact .inl hl
   ·exact .inr (h.mod.none h1 hl)⟩
theorem Step.apart {L L' M : List Nat} {s s' : PH} (h : Step L L' s s') (hd : ∀ x ∈ M, x ∉ L) (hk : ∀ x ∈ M, s x ≠ none) : ∀ x ∈ M, x ∉ L' := fun x hx h1 => by
 rcases h.new x h1 with h2 | h2
 ·exact hd x hx h2
 ·exact hk x hx h2
theorem toList_inj {a b : ByteArray} (h : a.toList = b.toList) : a = b := by
 rw [ByteArray.toList_eq, ByteArray.toList_eq] at h
 obtain ⟨⟨a⟩⟩ := a; obtain ⟨⟨b⟩⟩ := b
 simpa using h
instance : LawfulBEq ByteArray where
 eq_of_beq {a b} h := by
  have h : ByteArray.beq a b = true := h
  unfold ByteArray.beq at h
  have h2 : a.data = b.data := eq_of_beq h
  cases a; cases b; cases h2; (first | done | rfl)
 rfl {a} := by
  show ByteArray.beq a a = true
  unfold ByteArray.beq
  exact beq_self_eq_true _
structure KeyE (K : Type) [BEq K] [LawfulBEq K] where
 kd : TypeDesc
 enc : K → Value
 same : ∀ a b, Instr.sameNow kd (enc a) (enc b) = some (a == b)
 bits : ∀ a, Instr.sameBits 10000 (enc a) (enc a) = true
 inj : ∀ a b, enc a = enc b → a = b
def strKey : KeyE ByteArray where
 kd := .string
 enc := .string
 same _ _ := rfl
 bits a := by simp [Instr.sameBits]
 inj a b h := by simpa using h
def intKey (k : IntKind) : KeyE Int where
 kd := .int k
 enc := .int k
 same a b := by simp [Instr.sameNow]
 bits a := by simp [Instr.sameBits]
 inj a b h := by simpa using h
section
variable {K V : Type} [BEq K] [LawfulBEq K] (ke : KeyE K) (ve : V → Value)
def isMap (s : PH) (m : Nat) (f : List (K × V)) : Prop :=
 ∃ es c, s m = some (.map es c) ∧ es.toList.map (fun e => (e.key, e.val)) = f.map (fun p => (ke.enc p.1, ve p.2)) ∧ Stamped es c
def aset (f : List (K × V)) (k : K) (v : V) : List (K × V) :=
 match f with
 | [] => [(k, v)]
 | (a, b) :: f => if k == a then (k, v) :: f else (a, b) :: aset f k v
variable {ke ve}
theorem findNow_list (k : K) : ∀ (l : List MapEntry) (f : List (K × V)) (i : Nat), l.map (fun e => (e.key, e.val)) = f.map (fun p => (ke.enc p.1, ve p.2)) →
  (f.lookup k = none ∧ Instr.findNow ke.kd (ke.enc k) l i = some none ∧ (∀ p ∈ f, p.1 ≠ k) ∧ aset f k = fun v => f ++ [(k, v)]) ∨
  (∃ j v, f.lookup k = some v ∧ Instr.findNow ke.kd (ke.enc k) l i = some (some (i + j, ve v)) ∧ j < f.length ∧ f[j]? = some (k, v) ∧ aset f k = fun v => f.set j (k, v)) := by
 intro l
 induction l with
 | nil =>
  intro f i h
  cases f with
  | nil => exact .inl ⟨rfl, rfl, by simp, rfl⟩
  | cons p f => simp at h
 | cons e l ih =>
  intro f i h
  cases f with
  | nil => simp at h
  | cons p f =>
   obtain ⟨a, b⟩ := p
   simp only [List.map_cons, List.cons.injEq, Prod.mk.injEq] at h
   obtain ⟨⟨h1, h2⟩, h3⟩ := h
   by_cases hk : k = a
   ·subst hk
    refine .inr ⟨0, b, by simp, ?_, by simp, rfl, ?_⟩
    ·simp only [Instr.findNow, h1, ke.same, beq_self_eq_true, h2, Nat.add_zero]
    ·funext v; simp [aset]
   ·have hb : (k == a) = false := by simpa using hk
    rcases ih f (i + 1) h3 with ⟨g1, g2, g3, g4⟩ | ⟨j, v, g1, g2, g3, g4, g5⟩
    ·refine .inl ⟨by simp [List.lookup_cons, hb, g1], ?_, ?_, ?_⟩
     ·simp only [Instr.findNow, h1, ke.same, hb]; exact g2
     ·intro p hp
      rcases List.mem_cons.1 hp with rfl | hp
      ·exact Ne.symm hk
      ·exact g3 p hp
     ·funext v; simp [aset, hb, g4]
    ·refine .inr ⟨j + 1, v, by simp [List.lookup_cons, hb, g1], ?_, by simpa using g3, by simpa using g4, ?_⟩
     ·simp only [Instr.findNow, h1, ke.same, hb]; rw [g2]; congr 3; omega
     ·funext v; simp [aset, hb, g5]
theorem isMap.new {s : PH} {m : Nat} : isMap (V := V) ke ve (s.upd m (.map #[] 0)) m [] := ⟨#[], 0, PH.upd_same _ _ _, rfl, stamped_empty 0⟩
theorem isMap.known {s : PH} {m : Nat} {f : List (K × V)} (h : isMap ke ve s m f) : s m ≠ none := by
 obtain ⟨es, c, h, _⟩ := h; simp [h]
theorem isMap.mod {L : List Nat} {s s' : PH} {m : Nat} {f : List (K × V)} (h : isMap ke ve s m f) (hm : Mod L s s') (hl : m ∉ L) : isMap ke ve s' m f := by
 obtain ⟨es, c, h, r⟩ := h; exact ⟨es, c, hm.at h hl, r⟩
theorem isMap.other {s : PH} {m b : Nat} {o : Obj} {f : List (K × V)} (h : isMap ke ve s m f) (hl : m ≠ b) : isMap ke ve (s.upd b o) m f := by
 obtain ⟨es, c, h, r⟩ := h; exact ⟨es, c, by rw [PH.upd_other _ _ hl]; exact h, r⟩
def lookR (zero : Value) (h : Shape) (ve : V → Value) (k : Den h.2 → Bool → W.T) (s : PH) : Option V → Prop
 | some v => ∃ x, h.mk x = ve v ∧ k x true s
 | none => ∃ x, h.mk x = zero ∧ k x false s
theorem look_of {s : PH} {m : Nat} {f : List (K × V)} (hm : isMap ke ve s m f) {key : K} {zero : Value} {h : Shape} {k : Den h.2 → Bool → W.T}
  (hk : lookR zero h ve k s (f.lookup key)) : W.look ke.kd (some m) (ke.enc key) zero h k s := by
 obtain ⟨es, c, h1, h2, h3⟩ := hm
 rcases findNow_list (ke := ke) (ve := ve) key es.toList f 0 h2 with ⟨g1, g2, g3, g4⟩ | ⟨j, v, g1, g2, g3, g4, g5⟩
 ·rw [g1] at hk
  exact ⟨es, c, _, h1, g2, hk⟩
 ·rw [g1] at hk
  exact ⟨es, c, _, h1, g2, hk⟩
theorem mset_of {s : PH} {m : Nat} {f : List (K × V)} (hm : isMap ke ve s m f) {key : K} {v : V} {k : W.T}
  (hk : ∀ o, isMap ke ve (s.upd m o) m (aset f key v) → k (s.upd m o)) : W.mset ke.kd (some m) (ke.enc key) (ve v) k s := by
 obtain ⟨es, c, h1, h2, h3⟩ := hm
 rcases findNow_list (ke := ke) (ve := ve) key es.toList f 0 h2 with ⟨g1, g2, g3, g4⟩ | ⟨j, u, g1, g2, g3, g4, g5⟩
 ·refine ⟨m, es, c, _, rfl, h1, g2, hk _ ⟨_, _, PH.upd_same _ _ _, ?_, stamped_push h3 ?_⟩⟩
  ·rw [g4]; simp [h2]
  ·intro x hx e
   have : (x.key, x.val) ∈ f.map (fun p => (ke.enc p.1, ve p.2)) := by rw [← h2]; exact List.mem_map_of_mem hx
   obtain ⟨p, hp, he⟩ := List.mem_map.1 this
   simp only [Prod.mk.injEq] at he
   exact g3 p hp (ke.inj _ _ (he.1.trans e))
 ·have hlen : es.toList.length = f.length := by simpa using congrArg List.length h2
  have hj : j < es.size := by rw [← Array.length_toList]; omega
  have hej : (es[j].key, es[j].val) = (ke.enc key, ve u) := by
   have := congrArg (fun l => l[j]?) h2
   simp [g4, hj] at this
   exact Prod.ext this.1 this.2
  have hkey : es[j].key = ke.enc key := congrArg Prod.fst hej
  refine ⟨m, es, c, _, rfl, h1, g2, ⟨es[j], by simp [hj], ?_⟩, hk _ ⟨_, _, PH.upd_same _ _ _, ?_, ?_⟩⟩
  ·rw [hkey]; exact ke.bits key
  ·rw [g5]
   apply List.ext_getElem?
   intro i
   simp only [Nat.zero_add, Array.toList_modify, List.getElem?_map, List.getElem?_set]
   have h2i := congrArg (fun l => l[i]?) h2
   simp only [List.getElem?_map] at h2i
   by_cases hi : j = i
   ·subst hi
    simp [g3, hj]
   ·rw [if_neg hi, List.getElem?_modify_ne _ _ hi]
    exact h2i
  ·refine stamped_modify h3 _ _ (fun _ _ => rfl) ?_
   intro e he hi
   simp only [Nat.zero_add] at hi
   have : e = es[j] := by simpa [hj] using hi.symm
   rw [this, hkey]
end
theorem lookup_aset {K V : Type} [BEq K] [LawfulBEq K] (f : List (K × V)) (k k' : K) (v : V) : (aset f k v).lookup k' = if k' == k then some v else f.lookup k' := by
 induction f with
 | nil => simp only [aset, List.lookup_cons]; split <;> simp_all
 | cons p f ih =>
  obtain ⟨a, b⟩ := p
  simp only [aset]
  by_cases h : k == a
  ·have : k = a := by simpa using h
   subst this
   simp only [beq_self_eq_true, if_true, List.lookup_cons]
   split <;> simp_all
  ·rw [if_neg h]
   simp only [List.lookup_cons, ih]
   by_cases h2 : k' == a
   ·have : k' = a := by simpa using h2
    subst this
    have : ¬ (k' == k) = true := by
     intro e
     have e := eq_of_beq e
     subst e
     exact h (by simp)
    simp [this]
   ·simp [h2]
theorem toList_beq (a b : ByteArray) : (a.toList == b.toList) = decide (a = b) := by
 by_cases h : a = b
 ·subst h; simp
 ·rw [decide_eq_false h]
  simp only [beq_eq_false_iff_ne, ne_eq]
  intro e
  exact h (toList_inj e)
theorem wrap_in {n : Int} (h1 : -9223372036854775808 ≤ n) (h2 : n ≤ 9223372036854775807) : IntKind.i64.wrap n = n := by rw [IntKind.wrap_i64]; omega
def intsAt (s : PH) (k : Option Addr) (n : Nat) (l : List Int) : Prop := n = l.length ∧ ∀ i x, l[i]? = some x → ∃ a, k = some a ∧ s.cell? (a.add i) = some (.int .i64 x)
theorem intsAt.mono {s s' : PH} {k : Option Addr} {n : Nat} {l : List Int} (h : intsAt s k n l) (hm : Mod [] s s') : intsAt s' k n l :=
 ⟨h.1, fun i x hx => by obtain ⟨a, h1, h2⟩ := h.2 i x hx; exact ⟨a, h1, hm.le.cell h2⟩⟩
theorem ld_one {c : CT} {x : c.den} {a : Addr} {k : Den [c] → W.T} {s : PH} (h : s.cell? a = some (c.val x)) (hk : k (x, ()) s) : W.ld [c] a k s := by
 refine ⟨(x, ()), ?_, hk⟩
 intro i v hv
 cases i with
 | zero => simp [vals] at hv; subst hv; rw [add_zero]; exact h
 | succ i => simp [vals] at hv
attribute [simp] unvals CT.unval PH.upd_upd Value.oneCell'
end Fw
end
