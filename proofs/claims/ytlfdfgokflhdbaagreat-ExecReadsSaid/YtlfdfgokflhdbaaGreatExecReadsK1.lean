/-
  Part 1 for the law: lemmas.
  Conditions: none.
-/
import Derived.Orders
import Derived.KernelRfl
import Derived.Laws.AppendOwn
import Derived.Laws.NewBlocks
import Derived.Scope
import Derived.MapKept
import Derived.Laws.Strings
import Derived.Laws.BitsLemmas
import Derived.Below
import Derived.ProofKit
import Derived.OpenShut
import Derived.ChangeSlices
import Derived.SizedLaws
import Derived.Test.YtlfdfgokflhdbaaGreatProg
import Derived.Deep.Slices
import Derived.Sort.Walk0
import Derived.Shelf.SlSortCmp.NoneTotal
import Derived.Ground.SlsfProg
import Derived.Lib.Bytealg
import Derived.Lib.Strings
import Derived.Lib.Walk
import Derived.WalkKit
import Derived.Lib.Overlaps
import Derived.Shelf.SlIter.Nil
import Derived.Shelf.SortM.Plain
import Derived.Shelf.SortM.SortNone
import Derived.Ground.GgzProg
import Derived.Ground.SlgmProg
import Derived.ShutString
import Derived.ChangeOld
set_option linter.unusedVariables false
set_option linter.unusedSimpArgs false
set_option linter.unusedSectionVars false
section
abbrev OA := Option Go.Addr
abbrev BA := ByteArray
namespace Fw
open Go
abbrev PH := Nat → Option Obj
def PH.cell? (s : PH) (a : Addr) : Option Value :=
 match s a.block with
 | some (.cells c _ _) => if a.spot.isSome then none else c[a.off]?
 | _ => none
def PH.frozen? (s : PH) (a : Addr) : Bool :=
 match s a.block with
 | some (.cells _ _ (lo, hi)) => lo ≤ a.off && a.off < hi
 | _ => false
def PH.aS (s : PH) (b : Nat) (o : Obj) : PH := fun k => if k = b then some o else s k
def PH.setCell (s : PH) (a : Addr) (v : Value) : PH :=
 match s a.block with
 | some (.cells c e f) => s.aS a.block (.cells (if a.spot.isSome then c else c.setIfInBounds a.off v) e f)
 | _ => s
def Sub (s : PH) (w : World) : Prop := ∀ b o, s b = some o → w.heap[b]? = some o
def PH.le (s t : PH) : Prop := ∀ b o, s b = some o → t b = some o
theorem PH.le_refl (s : PH) : s.le s := fun _ _ h => h
theorem PH.le_trans {s t u : PH} (h : s.le t) (k : t.le u) : s.le u := fun b o e => k b o (h b o e)
theorem Sub.mono {s t : PH} {w : World} (h : s.le t) (k : Sub t w) : Sub s w := fun b o e => k b o (h b o e)
@[simp] theorem PH.bB (s : PH) (b : Nat) (o : Obj) : s.aS b o b = some o := by simp [PH.aS]
theorem PH.bG (s : PH) {b k : Nat} (o : Obj) (h : k ≠ b) : s.aS b o k = s k := by simp [PH.aS, h]
theorem PH.wB (s : PH) (b : Nat) (o o' : Obj) : (s.aS b o).aS b o' = s.aS b o' := by
 funext k; simp only [PH.aS]; split <;> rfl
theorem PH.zP {s : PH} {b : Nat} {o : Obj} (h : s b = none) : s.le (s.aS b o) := by
 intro k x e;simp only [PH.aS]
 split
 ·rename_i hk; subst hk; simp [h] at e
 ·exact e
theorem Sub.cell {s : PH} {w : World} (h : Sub s w) {a : Addr} {v : Value} (e : s.cell? a = some v) : w.cell? a = some v := by
 unfold PH.cell? at e;unfold World.cell?
 cases hb : s a.block with
 | none => simp [hb] at e
 | some o =>
  rw [h _ _ hb];rw [hb] at e;exact e
theorem PH.le.cell {s t : PH} (h : s.le t) {a : Addr} {v : Value} (e : s.cell? a = some v) : t.cell? a = some v := by
 unfold PH.cell? at e ⊢
 cases hb : s a.block with
 | none => simp [hb] at e
 | some o =>
  rw [h _ _ hb];rw [hb] at e;exact e
structure Rel (w0 : World) (s0 s : PH) (w : World) : Prop where
 sub : Sub s w
 os : w.os = w0.os
 tape : w.tape = w0.tape
 output : w.output = w0.output
 size : w0.heap.size ≤ w.heap.size
 out : ∀ k, k < w0.heap.size → s0 k = none → s k = none ∧ w.heap[k]? = w0.heap[k]?
theorem Rel.start {s : PH} {w : World} (h : Sub s w) : Rel w s s w := ⟨h, rfl, rfl, rfl, Nat.le_refl _, fun _ _ e => ⟨e, rfl⟩⟩
theorem Rel.trans {w0 w1 w2 : World} {s0 s1 s2 : PH} (h : Rel w0 s0 s1 w1) (k : Rel w1 s1 s2 w2) : Rel w0 s0 s2 w2 :=
 ⟨k.sub, k.os.trans h.os, k.tape.trans h.tape, k.output.trans h.output, Nat.le_trans h.size k.size, fun i hi e => by
   obtain ⟨e1, e2⟩ := h.out i hi e;obtain ⟨e3, e4⟩ := k.out i (Nat.lt_of_lt_of_le hi h.size) e1
   exact ⟨e3, e4.trans e2⟩⟩
theorem Rel.drew {w0 w : World} {s0 s : PH} (h : Rel w0 s0 s w) (n : Nat) : Rel w0 s0 s { w with drawn := n } :=
 ⟨h.sub, h.os, h.tape, h.output, h.size, h.out⟩
theorem Rel.new {w0 w : World} {s0 s : PH} (h : Rel w0 s0 s w) (o : Obj) :
  s w.heap.size = none ∧ Rel w0 s0 (s.aS w.heap.size o) { w with heap := w.heap.push o } := by
 have hn : s w.heap.size = none := by
  cases e : s w.heap.size with
  | none => rfl
  | some x => have := h.sub _ _ e; simp at this
 refine ⟨hn, ?_, h.os, h.tape, h.output, ?_, ?_⟩
 ·intro b x e;simp only [PH.aS] at e
  split at e
  ·rename_i hb; subst hb; simp at e; subst e; simp
  ·have := h.sub _ _ e
   show (w.heap.push o)[b]? = some x
   rw [Array.getElem?_push]
   split
   ·rename_i hb _; exact absurd ‹_› hb
   ·exact this
 ·show _ ≤ (w.heap.push o).size
  rw [Array.size_push]; have := h.size; omega
 ·intro k hk e;obtain ⟨e1, e2⟩ := h.out k hk e;have hs := h.size;refine ⟨?_, ?_⟩
  ·simp only [PH.aS]; rw [if_neg (by omega)]; exact e1
  ·show (w.heap.push o)[k]? = _
   rw [Array.getElem?_push, if_neg (by omega)]; exact e2
theorem Rel.set {w0 w : World} {s0 s : PH} (h : Rel w0 s0 s w) {b : Nat} {x : Obj} (hb : s b = some x) (o : Obj) :
  Rel w0 s0 (s.aS b o) { w with heap := w.heap.setIfInBounds b o } := by
 have hlt : b < w.heap.size := by
  have := h.sub _ _ hb;rcases Nat.lt_or_ge b w.heap.size with q | q
  ·exact q
  ·simp [Array.getElem?_eq_none q] at this
 refine ⟨?_, h.os, h.tape, h.output, ?_, ?_⟩
 ·intro c y e;simp only [PH.aS] at e
  show (w.heap.setIfInBounds b o)[c]? = some y
  split at e
  ·rename_i hc; subst hc; simp at e; subst e
   simp [hlt]
  ·rename_i hc
   rw [Array.getElem?_setIfInBounds_ne (Ne.symm hc)]; exact h.sub _ _ e
 ·show _ ≤ (w.heap.setIfInBounds b o).size
  simp; exact h.size
 ·intro k hk e;obtain ⟨e1, e2⟩ := h.out k hk e
  have hne : k ≠ b := by rintro rfl; simp [e1] at hb
  refine ⟨?_, ?_⟩
  ·simp only [PH.aS]; rw [if_neg hne]; exact e1
  ·show (w.heap.setIfInBounds b o)[k]? = _
   rw [Array.getElem?_setIfInBounds_ne (Ne.symm hne)]; exact e2
theorem World.DO {w : World} {a : Addr} {c : Array Value} {e : TypeId} {f : Nat × Nat} (h : w.heap[a.block]? = some (.cells c e f)) (v : Value) :
  w.setCell a v = { w with heap := w.heap.setIfInBounds a.block (.cells (if a.spot.isSome then c else c.setIfInBounds a.off v) e f) } := by
 unfold World.setCell
 congr 1
 apply Array.ext_getElem?;intro i;rw [Array.getElem?_modify, Array.getElem?_setIfInBounds]
 have hlt : a.block < w.heap.size := by
  rcases Nat.lt_or_ge a.block w.heap.size with q | q
  ·exact q
  ·simp [Array.getElem?_eq_none q] at h
 by_cases hi : a.block = i
 ·subst hi
  have hg : w.heap[a.block] = .cells c e f := by simpa [hlt] using h
  simp [hlt, hg]
 ·simp [hi]
theorem Rel.store {w0 w : World} {s0 s : PH} (h : Rel w0 s0 s w) {a : Addr} {u : Value} (hc : s.cell? a = some u) (v : Value) :
  Rel w0 s0 (s.setCell a v) (w.setCell a v) := by
 unfold PH.cell? at hc;unfold PH.setCell
 cases hb : s a.block with
 | none => simp [hb] at hc
 | some o =>
  rw [hb] at hc
  cases o <;> simp at hc
  rename_i c e f
  dsimp only;rw [World.DO (h.sub _ _ hb) v];exact h.set hb _
theorem Sub.frozen {s : PH} {w : World} (h : Sub s w) {a : Addr} {v : Value} (e : s.cell? a = some v) : w.frozen? a = s.frozen? a := by
 unfold PH.cell? at e;unfold World.frozen? PH.frozen?
 cases hb : s a.block with
 | none => simp [hb] at e
 | some o => rw [h _ _ hb]; cases o <;> rfl
def bu (P : Program) (f : FuncId) (args : Array Value) (s : PH) (Q : Value → PH → Prop) : Prop :=
 ∀ w, Sub s w → Calls P f args w fun e w' => ∃ v s', e = .returned v ∧ Rel w s s' w' ∧ Q v s'
theorem bu.mono {P : Program} {f : FuncId} {args : Array Value} {s : PH} {Q Q' : Value → PH → Prop} (h : bu P f args s Q)
  (hq : ∀ v s', Q v s' → Q' v s') : bu P f args s Q' :=
 fun w hw => (h w hw).mono fun _ _ ⟨v, s', he, hr, q⟩ => ⟨v, s', he, hr, hq _ _ q⟩
def PH.or (s t : PH) : PH := fun k => (s k).or (t k)
theorem bu.frame {P : Program} {f : FuncId} {args : Array Value} {s : PH} {Q : Value → PH → Prop} (h : bu P f args s Q)
  (t : PH) (hd : ∀ k, t k ≠ none → s k = none) :
  bu P f args (s.or t) fun v u => ∃ s', u = s'.or t ∧ (∀ k, t k ≠ none → s' k = none) ∧ Q v s' := by
 intro w hw;have hs : Sub s w := fun b o e => hw b o (by simp [PH.or, e]);have ht : Sub t w := fun b o e => hw b o (by simp [PH.or, hd b (by simp [e]), e])
 have hlt : ∀ k, t k ≠ none → k < w.heap.size := by
  intro k hk
  cases e : t k with
  | none => exact absurd e hk
  | some o =>
   have := ht _ _ e;rcases Nat.lt_or_ge k w.heap.size with q | q
   ·exact q
   ·simp [Array.getElem?_eq_none q] at this
 refine (h w hs).mono ?_;rintro e w' ⟨v, s', he, hr, hq⟩;have hdis : ∀ k, t k ≠ none → s' k = none := fun k hk => (hr.out k (hlt k hk) (hd k hk)).1;refine ⟨v, s'.or t, he, ⟨?_, hr.os, hr.tape, hr.output, hr.size, ?_⟩, s', rfl, hdis, hq⟩
 ·intro b o e;simp only [PH.or] at e
  cases hb : s' b with
  | some x => rw [hb] at e; simp at e; subst e; exact hr.sub _ _ hb
  | none =>
   rw [hb] at e; simp at e
   have hk : t b ≠ none := by simp [e]
   rw [(hr.out b (hlt b hk) (hd b hk)).2];exact ht _ _ e
 ·intro k hk e;simp only [PH.or] at e ⊢
  cases hb : s k with
  | some x => simp [hb] at e
  | none =>
   rw [hb] at e; simp at e;obtain ⟨e1, e2⟩ := hr.out k hk hb;exact ⟨by simp [e1, e], e2⟩
def dz {α : Type} (P : Program) : Sem α → Option α
 | .pure a => some a
 | .program k => dz P (k P)
 | .mark _ k => dz P k
 | _ => none
theorem pU {α : Type} {P : Program} : ∀ {e : Sem α} {a : α}, dz P e = some a → ∀ w, e.run P w = .ok a w := by
 intro e
 induction e with
 | pure b => intro a h w; simp [dz] at h; simp [Sem.run, h]
 | program k ih => intro a h w; simp only [dz] at h; simp only [Sem.run]; exact ih _ h w
 | mark m k ih => intro a h w; simp only [dz] at h; simp only [Sem.run]; exact ih h w
 | _ => intro a h; simp [dz] at h
def fk {α : Type} (P : Program) : Sem α → Option (Obj × (Nat → Sem α))
 | .new o k => some (o, k)
 | .program k => fk P (k P)
 | .mark _ k => fk P k
 | _ => none
theorem At {α : Type} {P : Program} : ∀ {e : Sem α} {o : Obj} {k : Nat → Sem α}, fk P e = some (o, k) →
  ∀ w, e.run P w = (k w.heap.size).run P { w with heap := w.heap.push o } := by
 intro e
 induction e with
 | new o' k' => intro o k h w; simp [fk] at h; obtain ⟨rfl, rfl⟩ := h; (first | done | rfl)
 | program k ih => intro o k' h w; simp only [fk] at h; simp only [Sem.run]; exact ih _ h w
 | mark m k ih => intro o k' h w; simp only [fk] at h; simp only [Sem.run]; exact ih h w
 | _ => intro o k h; simp [fk] at h
end Fw
end
