/-
  Part 6 for the law: lemmas.
  Conditions: none.
-/
import Derived.Test.YtlfdfgokflhdbaaGreatExecExactK5
set_option linter.unusedVariables false
set_option linter.unusedSimpArgs false
set_option linter.unusedSectionVars false
section
namespace Fw
open Go
section
variable {P : Program} {R : Value → PH → Prop} {w0 : World} {s0 : PH} {K : Act → World → Prop} {Q : Exit → Act → World → Prop} {pt : Option AV → PH → Prop}
 {ρ : Env} {o : Oper} {s : PH} {a : Act} {w : World}
theorem jW {op : BinOp} {t t' : TypeId} {x y : Operand} (ho : o.op = .binOp op t x y t') :
  execOp a.eval o = (do eqGuard op t x y (a.eval x) (a.eval y); pure (.value (← binOp op t (a.eval x) (a.eval y)))) := by
 simp only [execOp, ho, bind_assoc]
theorem Hs {y : Operand} {v : Value} (h : gX y v = true) : a.eval y = jV v := by
 unfold gX at h
 split at h <;> first | rfl | cases h
theorem BD {y : Operand} {v : Value} (h : gX y v = true) : (∀ us vs, ¬ (v = .agg us ∧ jV v = .agg vs)) ∧ ¬ (v = .nilIface ∧ jV v = .nilIface) := by
 unfold gX at h
 split at h <;> first | (cases h; done) | (constructor <;> simp [jV])
theorem yA {t : TypeId} {y : Operand} {v : Value} (h : gX y v = true) : binOp .eql t v (jV v) = (do pure (.bool (← Op.equal t v (jV v)))) := by
 unfold gX at h
 split at h <;> first | rfl | cases h
theorem yB {t : TypeId} {y : Operand} {v : Value} (h : gX y v = true) : binOp .neq t v (jV v) = (do pure (.bool (!(← Op.equal t v (jV v))))) := by
 unfold gX at h
 split at h <;> first | rfl | cases h
theorem CZ (hk : k9 w0 s0 K o a pt) {op : BinOp} {t t' : TypeId} {x y : Operand} (ho : o.op = .binOp op t x y t')
  (h : kC (RP P R) P ρ o op t x y (fun x => pt (some x)) s) (hf : ρ.le a) (hr : Rel w0 s0 s w) : o.wp P a w K Q := by
 have hs : ∀ cs b, o.op ≠ .select cs b := by intro cs b e; rw [ho] at e; cases e
 generalize hG : kC (RP P R) P ρ o op t x y (fun x => pt (some x)) = G at h
 have eqs : ∀ (e : op = .eql ∨ op = .neq), (if tO y then match ρ.ev x with
   | some v => match Aj P t v with
    | some b => if gX y v then (fun x => pt (some x)) (.v (mc (jT op) b)) else (RP P R).fail
    | none => (RP P R).fail
   | none => (RP P R).fail
  else match ρ.ev x, ρ.ev y with
  | some (.agg xs), some (.agg ys) =>
   if P.eqGuardType P.depth t then (RP P R).fail else
   match qc P 9 t (.agg xs) (.agg ys) with
   | some b => (fun x => pt (some x)) (.v (mc (jT op) b))
   | none => (RP P R).fail
  | _, _ => dN (RP P R) P ρ o (fun x => pt (some x))) = G → o.wp P a w K Q := by
  intro e hG
  split at hG
  ·split at hG
   ·rename_i v hx
    split at hG
    ·rename_i b hb
     split at hG
     ·rename_i hfit
      subst hG;have h1 := Fg (P := P) (w := w) hb;obtain ⟨q1, q2⟩ := BD hfit;refine cw (v := mc (jT op) b) (w' := w) ?_ (hk.val (x := .v _) h hf hr);rw [jW ho, hf.ev hx, Hs hfit];rcases e with rfl | rfl
      ·simp [qb q1 q2, yA hfit, h1, mc, jT]
      ·simp [qb q1 q2, yB hfit, h1, mc, jT]
     ·subst hG; exact h.elim
    ·subst hG; exact h.elim
   ·subst hG; exact h.elim
  ·split at hG
   ·rename_i xs ys hx hy
    split at hG
    ·subst hG; exact h.elim
    ·rename_i hg
     split at hG
     ·rename_i b hb
      subst hG;have h1 : (Op.equal t (.agg xs) (.agg ys)).run P w = .ok b w := zM P 9 Op.maxDepth t _ _ b w (by decide) hb;refine cw (v := mc (jT op) b) (w' := w) ?_ (hk.val (x := .v _) h hf hr);rw [jW ho, hf.ev hx, hf.ev hy]
      have hg' : P.eqGuardType P.depth t = false := by simpa using hg
      rcases e with rfl | rfl
      ·simp [sF hg', binOp, h1, mc, jT]
      ·simp [sF hg', binOp, h1, mc, jT]
     ·subst hG; exact h.elim
   ·subst hG; exact cB hk hs h hf hr
 cases op with
 | add =>
  simp only [kC] at hG
  split at hG
  ·rename_i u v hx hy
   subst hG;obtain ⟨hc, h⟩ := h;refine cw (v := .string (u ++ v)) (w' := w) ?_ (hk.val (x := .v _) h hf hr);rw [jW ho, hf.ev hx, hf.ev hy]
   have : ¬ (((u.size + v.size : Nat) : Int) > IntKind.i64.max) := by omega
   simp only [eqGuard, binOp, Op.stringOp, this, if_false, Sem.run_bind, Sem.run_pure, Result.andThen_ok]
   first | done | rfl
  ·subst hG; exact cB hk hs h hf hr
 | eql => exact eqs (.inl rfl) hG
 | neq => exact eqs (.inr rfl) hG
 | quo =>
  simp only [kC] at hG
  split at hG
  ·rename_i ka u kb v hx hy
   split at hG
   ·rename_i hkk; subst hkk
    split at hG
    ·subst hG; exact cB hk hs h hf hr
    ·subst hG;obtain ⟨hc, h⟩ := h;refine cw (v := .int ka (ka.wrap (u.tdiv v))) (w' := w) ?_ (hk.val (x := .v _) h hf hr);rw [jW ho, hf.ev hx, hf.ev hy];simp [eqGuard, binOp, Op.intDiv, hc]
   ·subst hG; exact h.elim
  ·subst hG; exact h.elim
 | rem =>
  simp only [kC] at hG
  split at hG
  ·rename_i ka u kb v hx hy
   split at hG
   ·rename_i hkk; subst hkk
    split at hG
    ·subst hG; exact cB hk hs h hf hr
    ·subst hG;obtain ⟨hc, h⟩ := h;refine cw (v := .int ka (u.tmod v)) (w' := w) ?_ (hk.val (x := .v _) h hf hr);rw [jW ho, hf.ev hx, hf.ev hy];simp [eqGuard, binOp, Op.intDiv, hc]
   ·subst hG; exact h.elim
  ·subst hG; exact h.elim
 | shl =>
  simp only [kC] at hG
  split at hG
  ·rename_i ka u kb v hx hy
   split at hG
   ·subst hG; exact cB hk hs h hf hr
   ·subst hG;obtain ⟨hc, h⟩ := h;refine cw (v := .int ka (ka.wrap (u * 2 ^ min v.toNat ka.bits))) (w' := w) ?_ (hk.val (x := .v _) h hf hr);rw [jW ho, hf.ev hx, hf.ev hy]
    have : ¬ v < 0 := by omega
    simp [eqGuard, binOp, Op.shift, this]
  ·subst hG; exact h.elim
 | shr =>
  simp only [kC] at hG
  split at hG
  ·rename_i ka u kb v hx hy
   split at hG
   ·subst hG; exact cB hk hs h hf hr
   ·subst hG;obtain ⟨hc, h⟩ := h;refine cw (v := .int ka (u.fdiv (2 ^ min v.toNat ka.bits))) (w' := w) ?_ (hk.val (x := .v _) h hf hr);rw [jW ho, hf.ev hx, hf.ev hy]
    have : ¬ v < 0 := by omega
    simp [eqGuard, binOp, Op.shift, this]
  ·subst hG; exact h.elim
 | _ => subst hG; exact cB hk hs h hf hr
end
end Fw
end
