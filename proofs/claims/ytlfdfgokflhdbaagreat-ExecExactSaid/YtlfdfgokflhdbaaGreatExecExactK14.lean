/-
  Part 14 for the law: lemmas.
  Conditions: none.
-/
import Derived.Test.YtlfdfgokflhdbaaGreatExecExactK13
set_option linter.unusedVariables false
set_option linter.unusedSimpArgs false
set_option linter.unusedSectionVars false
section
namespace Fw
open Go
def j0 (l : List (Option AV)) (n : Nat) : Fr := l ++ List.replicate (n - l.length) none
def uA (f : Func) : Code := f.body.getD .skip
def kK (ws : List Nat) : List AV → Nat → List (Option AV)
 | [], _ => []
 | x :: l, i => (if ws.contains i then none else some x) :: kK ws l (i + 1)
theorem nc (ws : List Nat) : ∀ (l : List AV) (i : Nat), (kK ws l i).length = l.length
 | [], _ => rfl
 | x :: l, i => by simp [kK, nc ws l (i + 1)]
theorem uT (ws : List Nat) : ∀ (l : List AV) (i t : Nat) (x : AV), (kK ws l i)[t]? = some (some x) → l[t]? = some x
 | [], _, _, _, h => by simp [kK] at h
 | y :: l, i, 0, x, h => by
  simp only [kK, List.getElem?_cons_zero, Option.some.injEq] at h
  split at h
  ·cases h
  ·simpa using h
 | y :: l, i, t + 1, x, h => by
  simp only [kK, List.getElem?_cons_succ] at h;simpa using uT ws l (i + 1) t x h
theorem tN {l : List (Option AV)} {n t : Nat} {x : AV} (h : (j0 l n)[t]? = some (some x)) : l[t]? = some (some x) := by
 unfold j0 at h;rcases Nat.lt_or_ge t l.length with q | q
 ·rwa [List.getElem?_append_left q] at h
 ·rw [List.getElem?_append_right q, List.getElem?_replicate] at h
  split at h <;> cases h
theorem G0 {P : Program} {ann : mg} (hm : P.follows .mixedOrders = true) {f : FuncId} {fn : Func} {c : Code} {s : PH} {Q : Value → PH → Prop} (hf : P.funcs[f]? = some fn) (hb : fn.body = some c) (hc : fh P ann c = true)
  (args : List AV) (ws : List Nat) (hn : args.length ≤ fn.ntmps)
  (h : IG (RP P Q) P ann (j0 (kK ws args 0) fn.ntmps) fn c (j0 (args.map some) fn.ntmps) s) : bx P f (args.map AV.val).toArray s Q := by
 refine vX (EV hm c hc) hf hb _ _ ?_ ?_ ?_ ?_ h
 ·intro t x e;have := tN e;simp only [List.getElem?_map, Option.map_eq_some_iff, Option.some.injEq] at this;obtain ⟨y, h1, h2⟩ := this;subst h2;simp [h1]
 ·simp [j0]; omega
 ·intro t x e;have := uT ws args 0 t x (tN e);unfold j0
  have hlt : t < args.length := by
   rcases Nat.lt_or_ge t args.length with q | q
   ·exact q
   ·rw [List.getElem?_eq_none q] at this; cases this
  rw [List.getElem?_append_left (by simpa using hlt)];simp [this]
 ·simp [j0, nc]; omega
end Fw
end
