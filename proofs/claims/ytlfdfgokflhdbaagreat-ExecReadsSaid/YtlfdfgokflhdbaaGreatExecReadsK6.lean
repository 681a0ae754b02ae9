/-
  Part 6 for the law: lemmas.
  Conditions: none.
-/
import Derived.Test.YtlfdfgokflhdbaaGreatExecReadsK5
set_option linter.unusedVariables false
set_option linter.unusedSimpArgs false
set_option linter.unusedSectionVars false
section
namespace Fw
open Go
section
variable {P : Program} {R : Value → PH → Prop} {w0 : World} {s0 : PH} {K : Act → World → Prop} {Q : Exit → Act → World → Prop} {pt : Option AV → PH → Prop}
 {ρ : Env} {o : Oper} {s : PH} {a : Act} {w : World}
theorem jI {op : BinOp} {t t' : TypeId} {x y : Operand} (ho : o.op = .binOp op t x y t') :
  execOp a.eval o = (do eqGuard op t x y (a.eval x) (a.eval y); pure (.value (← binOp op t (a.eval x) (a.eval y)))) := by
 simp only [execOp, ho, bind_assoc]
theorem GU {y : Operand} {v : Value} (h : gP y v = true) : a.eval y = jH v := by
 unfold gP at h
 split at h <;> first | rfl | cases h
theorem Bo {y : Operand} {v : Value} (h : gP y v = true) : (∀ us vs, ¬ (v = .agg us ∧ jH v = .agg vs)) ∧ ¬ (v = .nilIface ∧ jH v = .nilIface) := by
 unfold gP at h
 split at h <;> first | (cases h; done) | (constructor <;> simp [jH])
theorem ya {t : TypeId} {y : Operand} {v : Value} (h : gP y v = true) : binOp .eql t v (jH v) = (do pure (.bool (← Op.equal t v (jH v)))) := by
 unfold gP at h
 split at h <;> first | rfl | cases h
theorem yb {t : TypeId} {y : Operand} {v : Value} (h : gP y v = true) : binOp .neq t v (jH v) = (do pure (.bool (!(← Op.equal t v (jH v))))) := by
 unfold gP at h
 split at h <;> first | rfl | cases h
theorem CL (hk : kJ w0 s0 K o a pt) {op : BinOp} {t t' : TypeId} {x y : Operand} (ho : o.op = .binOp op t x y t')
  (h : jY (RP P R) P ρ o op t x y (fun x => pt (some x)) s) (hf : ρ.le a) (hr : Rel w0 s0 s w) : o.wp P a w K Q := by
 have hs : ∀ cs b, o.op ≠ .select cs b := by intro cs b e; rw [ho] at e; cases e
 generalize hG : jY (RP P R) P ρ o op t x y (fun x => pt (some x)) = G at h
 have eqs : ∀ (e : op = .eql ∨ op = .neq), (if sZ y then match ρ.ev x with
   | some v => match zX P t v with
    | some b => if gP y v then (fun x => pt (some x)) (.v (lT (jD op) b)) else (RP P R).fail
    | none => (RP P R).fail
   | none => (RP P R).fail
  else match ρ.ev x, ρ.ev y with
  | some (.agg xs), some (.agg ys) =>
   if P.eqGuardType P.depth t then (RP P R).fail else
   match pP P 9 t (.agg xs) (.agg ys) with
   | some b => (fun x => pt (some x)) (.v (lT (jD op) b))
   | none => (RP P R).fail
  | _, _ => dG (RP P R) P ρ o (fun x => pt (some x))) = G → o.wp P a w K Q := by
  intro e hG
  split at hG
  ·split at hG
   ·rename_i v hx
    split at hG
    ·rename_i b hb
     split at hG
     ·rename_i hfit
      subst hG;have h1 := EY (P := P) (w := w) hb;obtain ⟨q1, q2⟩ := Bo hfit;refine cv (v := lT (jD op) b) (w' := w) ?_ (hk.val (x := .v _) h hf hr);rw [jI ho, hf.ev hx, GU hfit];rcases e with rfl | rfl
      ·simp [pO q1 q2, ya hfit, h1, lT, jD]
      ·simp [pO q1 q2, yb hfit, h1, lT, jD]
     ·subst hG; exact h.elim
    ·subst hG; exact h.elim
   ·subst hG; exact h.elim
  ·split at hG
   ·rename_i xs ys hx hy
    split at hG
    ·subst hG; exact h.elim
    ·rename_i hg
     split at hG
     ·rename_i b hb
      subst hG;have h1 : (Op.equal t (.agg xs) (.agg ys)).run P w = .ok b w := zx P 9 Op.maxDepth t _ _ b w (by decide) hb;refine cv (v := lT (jD op) b) (w' := w) ?_ (hk.val (x := .v _) h hf hr);rw [jI ho, hf.ev hx, hf.ev hy]
      have hg' : P.eqGuardType P.depth t = false := by simpa using hg
      rcases e with rfl | rfl
      ·simp [rR hg', binOp, h1, lT, jD]
      ·simp [rR hg', binOp, h1, lT, jD]
     ·subst hG; exact h.elim
   ·subst hG; exact cB hk hs h hf hr
 cases op with
 | add =>
  simp only [jY] at hG
  split at hG
  ·rename_i u v hx hy
   subst hG;obtain ⟨hc, h⟩ := h;refine cv (v := .string (u ++ v)) (w' := w) ?_ (hk.val (x := .v _) h hf hr);rw [jI ho, hf.ev hx, hf.ev hy]
   have : ¬ (((u.size + v.size : Nat) : Int) > IntKind.i64.max) := by omega
   simp only [eqGuard, binOp, Op.stringOp, this, if_false, Sem.run_bind, Sem.run_pure, Result.andThen_ok]
   first | done | rfl
  ·subst hG; exact cB hk hs h hf hr
 | eql => exact eqs (.inl rfl) hG
 | neq => exact eqs (.inr rfl) hG
 | quo =>
  simp only [jY] at hG
  split at hG
  ·rename_i ka u kb v hx hy
   split at hG
   ·rename_i hkk; subst hkk
    split at hG
    ·subst hG; exact cB hk hs h hf hr
    ·subst hG;obtain ⟨hc, h⟩ := h;refine cv (v := .int ka (ka.wrap (u.tdiv v))) (w' := w) ?_ (hk.val (x := .v _) h hf hr);rw [jI ho, hf.ev hx, hf.ev hy];simp [eqGuard, binOp, Op.intDiv, hc]
   ·subst hG; exact h.elim
  ·subst hG; exact h.elim
 | rem =>
  simp only [jY] at hG
  split at hG
  ·rename_i ka u kb v hx hy
   split at hG
   ·rename_i hkk; subst hkk
    split at hG
    ·subst hG; exact cB hk hs h hf hr
    ·subst hG;obtain ⟨hc, h⟩ := h;refine cv (v := .int ka (u.tmod v)) (w' := w) ?_ (hk.val (x := .v _) h hf hr);rw [jI ho, hf.ev hx, hf.ev hy];simp [eqGuard, binOp, Op.intDiv, hc]
   ·subst hG; exact h.elim
  ·subst hG; exact h.elim
 | shl =>
  simp only [jY] at hG
  split at hG
  ·rename_i ka u kb v hx hy
   split at hG
   ·subst hG; exact cB hk hs h hf hr
   ·subst hG;obtain ⟨hc, h⟩ := h;refine cv (v := .int ka (ka.wrap (u * 2 ^ min v.toNat ka.bits))) (w' := w) ?_ (hk.val (x := .v _) h hf hr);rw [jI ho, hf.ev hx, hf.ev hy]
    have : ¬ v < 0 := by omega
    simp [eqGuard, binOp, Op.shift, this]
  ·subst hG; exact h.elim
 | shr =>
  simp only [jY] at hG
  split at hG
  ·rename_i ka u kb v hx hy
   split at hG
   ·subst hG; exact cB hk hs h hf hr
   ·subst hG;obtain ⟨hc, h⟩ := h;refine cv (v := .int ka (u.fdiv (2 ^ min v.toNat ka.bits))) (w' := w) ?_ (hk.val (x := .v _) h hf hr);rw [jI ho, hf.ev hx, hf.ev hy]
    have : ¬ v < 0 := by omega
    simp [eqGuard, binOp, Op.shift, this]
  ·subst hG; exact h.elim
 | _ => subst hG; exact cB hk hs h hf hr
end
end Fw
end
