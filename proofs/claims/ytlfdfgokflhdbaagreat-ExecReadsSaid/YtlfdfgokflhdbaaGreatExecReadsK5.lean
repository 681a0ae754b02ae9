/-
  Part 5 for the law: lemmas.
  Conditions: none.
-/
import Derived.Test.YtlfdfgokflhdbaaGreatExecReadsK4
set_option linter.unusedVariables false
set_option linter.unusedSimpArgs false
set_option linter.unusedSectionVars false
section
namespace Fw
open Go
section
variable {P : Program} {R : Value → PH → Prop} {w0 : World} {s0 : PH} {K : Act → World → Prop} {Q : Exit → Act → World → Prop} {pt : Option AV → PH → Prop}
 {ρ : Env} {o : Oper} {s : PH} {a : Act} {w : World}
theorem Au {t : TypeId} {cs : Array Value} {off : Nat} {v : Value} (hu : (P.underlying t).isSome = true) (h : yF P t cs off = some v) : (part t cs off).run P w = .ok v w := by
 unfold yF at h
 cases hn : dJ P t with
 | none => simp [hn] at h
 | some n =>
  rw [hn] at h;dsimp only at h;unfold part;simp only [Sem.run_bind, uG hu, Result.andThen_ok]
  split at h
  ·rename_i hag
   simp only [Option.some.injEq] at h; subst h;simp [hag, cD hn]
  ·rename_i hag
   simp [hag, h]
theorem vK {d : Nat} {t : TypeId} {x y : Value} {b : Bool} (h : pP P d t x y = some b) : (P.underlying t).isSome = true := by
 cases d with
 | zero => simp [pP] at h
 | succ d =>
  unfold pP at h
  cases hu : P.underlying t with
  | none => rw [hu] at h; simp at h
  | some _ => rfl
theorem zx (P : Program) : ∀ (d : Nat),
  (∀ (n : Nat) (t : TypeId) (x y : Value) (b : Bool) (w : World), d ≤ n → pP P d t x y = some b → (Op.equalIn n t x y).run P w = .ok b w) := by
 intro d
 induction d with
 | zero => intro n t x y b w _ h; simp [pP] at h
 | succ d ih =>
  intro n t x y b w hn h
  obtain ⟨n, rfl⟩ : ∃ m, n = m + 1 := ⟨n - 1, by omega⟩
  unfold pP at h;unfold Op.equalIn
  split at h
  ·rename_i hu
   simp only [Sem.run_bind, aj hu, Result.andThen_ok];simp only [Option.some.injEq] at h; subst h; (first | done | rfl)
  ·rename_i hu
   simp only [Sem.run_bind, aj hu, Result.andThen_ok]
   split at h
   ·rename_i hk; subst hk; simp only [Option.some.injEq] at h; subst h; simp
   ·cases h
  ·rename_i hu
   simp only [Sem.run_bind, aj hu, Result.andThen_ok];simp only [Option.some.injEq] at h; subst h; (first | done | rfl)
  ·rename_i fs xs ys hu
   simp only [Sem.run_bind, aj hu, Result.andThen_ok]
   split at h
   ·cases h
   ·rename_i hst
    simp only [Sem.run_bind, run_program, Result.andThen_ok, hst, if_false, Bool.false_eq_true]
    have key : ∀ (l : List Field) (b : Bool), vJ (pP P d) P xs ys l = some b →
      ∀ w, (do
       let r ← forIn l (none, PUnit.unit) fun (f : Field) (r : Option Bool × PUnit) => (do
        if f.name ≠ "_" then
         if !(← Op.equalIn n f.type (← part f.type xs f.offset) (← part f.type ys f.offset)) then
          return ForInStep.done (some false, PUnit.unit)
         else
          pure PUnit.unit
          return ForInStep.yield (none, PUnit.unit)
        else
         pure PUnit.unit
         return ForInStep.yield (none, PUnit.unit) : Sem (ForInStep (Option Bool × PUnit)))
       match r.1 with
       | none => pure true
       | some a => pure a : Sem Bool).run P w = .ok b w := by
     intro l
     induction l with
     | nil => intro b h w; simp [vJ] at h; subst h; simp
     | cons f l ihl =>
      intro b h w;unfold vJ at h
      split at h
      ·rename_i hne
       split at h
       ·rename_i px py hpx hpy
        split at h
        ·rename_i ba bb hba hbb
         simp only [Option.some.injEq] at h;subst h;have hux := vK hba;have e1 := ih n f.type px py ba w (by omega) hba;have e2 := ihl bb hbb w;simp only [List.forIn_cons, hne, ne_eq, not_false_eq_true, if_true, Sem.run_bind, Au hux hpx, Au hux hpy, Result.andThen_ok, e1]
         cases ba with
         | true => simpa using e2
         | false => simp
        ·cases h
       ·cases h
      ·rename_i hne
       have e2 := ihl b h w;simp only [List.forIn_cons, hne, if_false, Sem.run_bind];simpa using e2
    have e := key fs.toList b h w;rw [← Array.forIn_toList];rw [Sem.run_bind] at e;refine Eq.trans ?_ e
    congr 1
    funext r w'
    cases r.1 <;> rfl
  ·cases h
theorem pO {op : BinOp} {t : TypeId} {x y : Operand} {u v : Value} (h : ∀ us vs, ¬ (u = .agg us ∧ v = .agg vs)) (h2 : ¬ (u = .nilIface ∧ v = .nilIface)) :
  (eqGuard op t x y u v).run P w = .ok () w := by
 unfold eqGuard
 cases op <;> first
  | rfl
  | (cases u <;> cases v <;> first
      | rfl
      | (exact absurd ⟨rfl, rfl⟩ h2)
      | (exact absurd ⟨rfl, rfl⟩ (h _ _)))
theorem rR {op : BinOp} {t : TypeId} {x y : Operand} {us vs : Array Value} (h : P.eqGuardType P.depth t = false) :
  (eqGuard op t x y (.agg us) (.agg vs)).run P w = .ok () w := by
 unfold eqGuard
 cases op <;> first
  | rfl
  | simp [h]
def jH : Value → Value
 | .pointer _ => .pointer none
 | .slice _ _ _ => .slice none 0 0
 | .map _ => .map none
 | v => v
theorem EY {t : TypeId} {v : Value} {b : Bool} (h : zX P t v = some b) : (Op.equal t v (jH v)).run P w = .ok b w := by
 unfold Op.equal Op.maxDepth Op.equalIn;unfold zX at h
 cases v with
 | pointer p =>
  dsimp only at h
  split at h
  ·rename_i hd
   simp only [Option.some.injEq] at h; subst h
   simp only [Sem.run_bind, aj hd, Result.andThen_ok, jH]; cases p <;> rfl
  ·cases h
 | slice p _ _ =>
  dsimp only at h
  split at h
  ·rename_i hd
   simp only [Option.some.injEq] at h; subst h
   simp only [Sem.run_bind, aj hd, Result.andThen_ok, jH]; cases p <;> rfl
  ·cases h
 | map p =>
  dsimp only at h
  split at h
  ·rename_i hd
   simp only [Option.some.injEq] at h; subst h
   simp only [Sem.run_bind, aj hd, Result.andThen_ok, jH]; cases p <;> rfl
  ·cases h
 | _ => simp at h
end
end Fw
end
