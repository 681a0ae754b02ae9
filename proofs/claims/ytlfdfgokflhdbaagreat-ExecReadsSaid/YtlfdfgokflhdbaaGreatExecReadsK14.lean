/-
  Part 14 for the law: lemmas.
  Conditions: none.
-/
import Derived.Test.YtlfdfgokflhdbaaGreatExecReadsK13
set_option linter.unusedVariables false
set_option linter.unusedSimpArgs false
set_option linter.unusedSectionVars false
section
namespace Fw
open Go
def jL (l : List (Option AV)) (n : Nat) : Fr := l ++ List.replicate (n - l.length) none
def tM (f : Func) : Code := f.body.getD .skip
def j9 (ws : List Nat) : List AV → Nat → List (Option AV)
 | [], _ => []
 | x :: l, i => (if ws.contains i then none else some x) :: j9 ws l (i + 1)
theorem mK (ws : List Nat) : ∀ (l : List AV) (i : Nat), (j9 ws l i).length = l.length
 | [], _ => rfl
 | x :: l, i => by simp [j9, mK ws l (i + 1)]
theorem uv (ws : List Nat) : ∀ (l : List AV) (i t : Nat) (x : AV), (j9 ws l i)[t]? = some (some x) → l[t]? = some x
 | [], _, _, _, h => by simp [j9] at h
 | y :: l, i, 0, x, h => by
  simp only [j9, List.getElem?_cons_zero, Option.some.injEq] at h
  split at h
  ·cases h
  ·simpa using h
 | y :: l, i, t + 1, x, h => by
  simp only [j9, List.getElem?_cons_succ] at h;simpa using uv ws l (i + 1) t x h
theorem sY {l : List (Option AV)} {n t : Nat} {x : AV} (h : (jL l n)[t]? = some (some x)) : l[t]? = some (some x) := by
 unfold jL at h;rcases Nat.lt_or_ge t l.length with q | q
 ·rwa [List.getElem?_append_left q] at h
 ·rw [List.getElem?_append_right q, List.getElem?_replicate] at h
  split at h <;> cases h
theorem Gx {P : Program} {ann : lU} (hm : P.follows .mixedOrders = true) {f : FuncId} {fn : Func} {c : Code} {s : PH} {Q : Value → PH → Prop} (hf : P.funcs[f]? = some fn) (hb : fn.body = some c) (hc : eS P ann c = true)
  (args : List AV) (ws : List Nat) (hn : args.length ≤ fn.ntmps)
  (h : H9 (RP P Q) P ann (jL (j9 ws args 0) fn.ntmps) fn c (jL (args.map some) fn.ntmps) s) : bu P f (args.map AV.val).toArray s Q := by
 refine vG (EB hm c hc) hf hb _ _ ?_ ?_ ?_ ?_ h
 ·intro t x e;have := sY e;simp only [List.getElem?_map, Option.map_eq_some_iff, Option.some.injEq] at this;obtain ⟨y, h1, h2⟩ := this;subst h2;simp [h1]
 ·simp [jL]; omega
 ·intro t x e;have := uv ws args 0 t x (sY e);unfold jL
  have hlt : t < args.length := by
   rcases Nat.lt_or_ge t args.length with q | q
   ·exact q
   ·rw [List.getElem?_eq_none q] at this; cases this
  rw [List.getElem?_append_left (by simpa using hlt)];simp [this]
 ·simp [jL, mK]; omega
end Fw
end
