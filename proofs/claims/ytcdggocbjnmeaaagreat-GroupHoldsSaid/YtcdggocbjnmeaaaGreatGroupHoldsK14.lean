/-
  Part 14 for the law: lemmas.
  Conditions: none.
-/
import Derived.Test.YtcdggocbjnmeaaaGreatGroupHoldsK13
set_option linter.unusedVariables false
set_option linter.unusedSimpArgs false
set_option linter.unusedSectionVars false
section
namespace Fw
open Go
def mkFr (l : List (Option AV)) (n : Nat) : Fr := l ++ List.replicate (n - l.length) none
def bodyOf (f : Func) : Code := f.body.getD .skip
def maskA (ws : List Nat) : List AV → Nat → List (Option AV)
 | [], _ => []
 | x :: l, i => (if ws.contains i then none else some x) :: maskA ws l (i + 1)
theorem maskA_length (ws : List Nat) : ∀ (l : List AV) (i : Nat), (maskA ws l i).length = l.length
 | [], _ => rfl
 | x :: l, i => by simp [maskA, maskA_length ws l (i + 1)]
theorem maskA_spec (ws : List Nat) : ∀ (l : List AV) (i t : Nat) (x : AV), (maskA ws l i)[t]? = some (some x) → l[t]? = some x
 | [], _, _, _, h => by simp [maskA] at h
 | y :: l, i, 0, x, h => by
  simp only [maskA, List.getElem?_cons_zero, Option.some.injEq] at h
  split at h
  ·cases h
  ·simpa using h
 | y :: l, i, t + 1, x, h => by
  simp only [maskA, List.getElem?_cons_succ] at h
  simpa using maskA_spec ws l (i + 1) t x h
theorem mkFr_get {l : List (Option AV)} {n t : Nat} {x : AV} (h : (mkFr l n)[t]? = some (some x)) : l[t]? = some (some x) := by
 unfold mkFr at h
 rcases Nat.lt_or_ge t l.length with q | q
 ·rwa [List.getElem?_append_left q] at h
 ·rw [List.getElem?_append_right q, List.getElem?_replicate] at h
  split at h <;> cases h
theorem calls_vc {P : Program} {ann : Ann} (hm : P.follows .mixedOrders = true) {f : FuncId} {fn : Func} {c : Code} {s : PH} {Q : Value → PH → Prop} (hf : P.funcs[f]? = some fn) (hb : fn.body = some c) (hc : codeOkB P ann c = true)
  (args : List AV) (ws : List Nat) (hn : args.length ≤ fn.ntmps)
  (h : bodyW (RP P Q) P ann (mkFr (maskA ws args 0) fn.ntmps) fn c (mkFr (args.map some) fn.ntmps) s) : DCalls P f (args.map AV.val).toArray s Q := by
 refine calls_of_bodyW (csound_of hm c hc) hf hb _ _ ?_ ?_ ?_ ?_ h
 ·intro t x e
  have := mkFr_get e
  simp only [List.getElem?_map, Option.map_eq_some_iff, Option.some.injEq] at this
  obtain ⟨y, h1, h2⟩ := this
  subst h2
  simp [h1]
 ·simp [mkFr]; omega
 ·intro t x e
  have := maskA_spec ws args 0 t x (mkFr_get e)
  unfold mkFr
  have hlt : t < args.length := by
   rcases Nat.lt_or_ge t args.length with q | q
   ·exact q
   ·rw [List.getElem?_eq_none q] at this; cases this
  rw [List.getElem?_append_left (by simpa using hlt)]
  simp [this]
 ·simp [mkFr, maskA_length]; omega
end Fw
end
