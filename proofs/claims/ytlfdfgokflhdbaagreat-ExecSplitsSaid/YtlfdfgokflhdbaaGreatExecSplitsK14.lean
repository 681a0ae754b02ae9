/-
  Part 14 for the law: lemmas.
  Conditions: none.
-/
import Derived.Test.YtlfdfgokflhdbaaGreatExecSplitsK13
set_option linter.unusedVariables false
set_option linter.unusedSimpArgs false
set_option linter.unusedSectionVars false
section
namespace Fw
open Go
def jC (l : List (Option AV)) (n : Nat) : Fr := l ++ List.replicate (n - l.length) none
def sZ (f : Func) : Code := f.body.getD .skip
def j4 (ws : List Nat) : List AV → Nat → List (Option AV)
 | [], _ => []
 | x :: l, i => (if ws.contains i then none else some x) :: j4 ws l (i + 1)
theorem mg (ws : List Nat) : ∀ (l : List AV) (i : Nat), (j4 ws l i).length = l.length
 | [], _ => rfl
 | x :: l, i => by simp [j4, mg ws l (i + 1)]
theorem tL (ws : List Nat) : ∀ (l : List AV) (i t : Nat) (x : AV), (j4 ws l i)[t]? = some (some x) → l[t]? = some x
 | [], _, _, _, h => by simp [j4] at h
 | y :: l, i, 0, x, h => by
  simp only [j4, List.getElem?_cons_zero, Option.some.injEq] at h
  split at h
  ·cases h
  ·simpa using h
 | y :: l, i, t + 1, x, h => by
  simp only [j4, List.getElem?_cons_succ] at h
  simpa using tL ws l (i + 1) t x h
theorem sx {l : List (Option AV)} {n t : Nat} {x : AV} (h : (jC l n)[t]? = some (some x)) : l[t]? = some (some x) := by
 unfold jC at h
 rcases Nat.lt_or_ge t l.length with q | q
 ·rwa [List.getElem?_append_left q] at h
 ·rw [List.getElem?_append_right q, List.getElem?_replicate] at h
  split at h <;> cases h
theorem FG {P : Program} {ann : lH} (hm : P.follows .mixedOrders = true) {f : FuncId} {fn : Func} {c : Code} {s : PH} {Q : Value → PH → Prop} (hf : P.funcs[f]? = some fn) (hb : fn.body = some c) (hc : eI P ann c = true)
  (args : List AV) (ws : List Nat) (hn : args.length ≤ fn.ntmps)
  (h : G8 (RP P Q) P ann (jC (j4 ws args 0) fn.ntmps) fn c (jC (args.map some) fn.ntmps) s) : bu P f (args.map AV.val).toArray s Q := by
 refine uY (DO hm c hc) hf hb _ _ ?_ ?_ ?_ ?_ h
 ·intro t x e
  have := sx e
  simp only [List.getElem?_map, Option.map_eq_some_iff, Option.some.injEq] at this
  obtain ⟨y, h1, h2⟩ := this
  subst h2
  simp [h1]
 ·simp [jC]; omega
 ·intro t x e
  have := tL ws args 0 t x (sx e)
  unfold jC
  have hlt : t < args.length := by
   rcases Nat.lt_or_ge t args.length with q | q
   ·exact q
   ·rw [List.getElem?_eq_none q] at this; cases this
  rw [List.getElem?_append_left (by simpa using hlt)]
  simp [this]
 ·simp [jC, mg]; omega
end Fw
end
