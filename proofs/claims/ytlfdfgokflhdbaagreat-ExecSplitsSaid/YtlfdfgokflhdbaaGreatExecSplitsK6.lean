/-
  Part 6 for the law: lemmas.
  Conditions: none.
-/
import Derived.Test.YtlfdfgokflhdbaaGreatExecSplitsK5
set_option linter.unusedVariables false
set_option linter.unusedSimpArgs false
set_option linter.unusedSectionVars false
section
namespace Fw
open Go
section
variable {P : Program} {R : Value → PH → Prop} {w0 : World} {s0 : PH} {K : Act → World → Prop} {Q : Exit → Act → World → Prop} {pt : Option AV → PH → Prop}
 {ρ : Env} {o : Oper} {s : PH} {a : Act} {w : World}
theorem jz {op : BinOp} {t t' : TypeId} {x y : Operand} (ho : o.op = .binOp op t x y t') :
  execOp a.eval o = (do eqGuard op t x y (a.eval x) (a.eval y); pure (.value (← binOp op t (a.eval x) (a.eval y)))) := by
 simp only [execOp, ho, bind_assoc]
theorem F2 {y : Operand} {v : Value} (h : gG y v = true) : a.eval y = jx v := by
 unfold gG at h
 split at h <;> first | rfl | cases h
theorem AI {y : Operand} {v : Value} (h : gG y v = true) : (∀ us vs, ¬ (v = .agg us ∧ jx v = .agg vs)) ∧ ¬ (v = .nilIface ∧ jx v = .nilIface) := by
 unfold gG at h
 split at h <;> first | (cases h; done) | (constructor <;> simp [jx])
theorem xo {t : TypeId} {y : Operand} {v : Value} (h : gG y v = true) : binOp .eql t v (jx v) = (do pure (.bool (← Op.equal t v (jx v)))) := by
 unfold gG at h
 split at h <;> first | rfl | cases h
theorem xp {t : TypeId} {y : Operand} {v : Value} (h : gG y v = true) : binOp .neq t v (jx v) = (do pure (.bool (!(← Op.equal t v (jx v))))) := by
 unfold gG at h
 split at h <;> first | rfl | cases h
theorem BU (hk : kE w0 s0 K o a pt) {op : BinOp} {t t' : TypeId} {x y : Operand} (ho : o.op = .binOp op t x y t')
  (h : jT (RP P R) P ρ o op t x y (fun x => pt (some x)) s) (hf : ρ.le a) (hr : Rel w0 s0 s w) : o.wp P a w K Q := by
 have hs : ∀ cs b, o.op ≠ .select cs b := by intro cs b e; rw [ho] at e; cases e
 generalize hG : jT (RP P R) P ρ o op t x y (fun x => pt (some x)) = G at h
 have eqs : ∀ (e : op = .eql ∨ op = .neq), (if sy y then match ρ.ev x with
   | some v => match zh P t v with
    | some b => if gG y v then (fun x => pt (some x)) (.v (lG (js op) b)) else (RP P R).fail
    | none => (RP P R).fail
   | none => (RP P R).fail
  else match ρ.ev x, ρ.ev y with
  | some (.agg xs), some (.agg ys) =>
   if P.eqGuardType P.depth t then (RP P R).fail else
   match oY P 9 t (.agg xs) (.agg ys) with
   | some b => (fun x => pt (some x)) (.v (lG (js op) b))
   | none => (RP P R).fail
  | _, _ => dB (RP P R) P ρ o (fun x => pt (some x))) = G → o.wp P a w K Q := by
  intro e hG
  split at hG
  ·split at hG
   ·rename_i v hx
    split at hG
    ·rename_i b hb
     split at hG
     ·rename_i hfit
      subst hG
      have h1 := D6 (P := P) (w := w) hb
      obtain ⟨q1, q2⟩ := AI hfit
      refine bY (v := lG (js op) b) (w' := w) ?_ (hk.val (x := .v _) h hf hr)
      rw [jz ho, hf.ev hx, F2 hfit]
      rcases e with rfl | rfl
      ·simp [oX q1 q2, xo hfit, h1, lG, js]
      ·simp [oX q1 q2, xp hfit, h1, lG, js]
     ·subst hG; exact h.elim
    ·subst hG; exact h.elim
   ·subst hG; exact h.elim
  ·split at hG
   ·rename_i xs ys hx hy
    split at hG
    ·subst hG; exact h.elim
    ·rename_i hg
     split at hG
     ·rename_i b hb
      subst hG
      have h1 : (Op.equal t (.agg xs) (.agg ys)).run P w = .ok b w := yO P 9 Op.maxDepth t _ _ b w (by decide) hb
      refine bY (v := lG (js op) b) (w' := w) ?_ (hk.val (x := .v _) h hf hr)
      rw [jz ho, hf.ev hx, hf.ev hy]
      have hg' : P.eqGuardType P.depth t = false := by simpa using hg
      rcases e with rfl | rfl
      ·simp [q7 hg', binOp, h1, lG, js]
      ·simp [q7 hg', binOp, h1, lG, js]
     ·subst hG; exact h.elim
   ·subst hG; exact cw hk hs h hf hr
 cases op with
 | add =>
  simp only [jT] at hG
  split at hG
  ·rename_i u v hx hy
   subst hG
   obtain ⟨hc, h⟩ := h
   refine bY (v := .string (u ++ v)) (w' := w) ?_ (hk.val (x := .v _) h hf hr)
   rw [jz ho, hf.ev hx, hf.ev hy]
   have : ¬ (((u.size + v.size : Nat) : Int) > IntKind.i64.max) := by omega
   simp only [eqGuard, binOp, Op.stringOp, this, if_false, Sem.run_bind, Sem.run_pure, Result.andThen_ok]
   first | done | rfl
  ·subst hG; exact cw hk hs h hf hr
 | eql => exact eqs (.inl rfl) hG
 | neq => exact eqs (.inr rfl) hG
 | quo =>
  simp only [jT] at hG
  split at hG
  ·rename_i ka u kb v hx hy
   split at hG
   ·rename_i hkk; subst hkk
    split at hG
    ·subst hG; exact cw hk hs h hf hr
    ·subst hG
     obtain ⟨hc, h⟩ := h
     refine bY (v := .int ka (ka.wrap (u.tdiv v))) (w' := w) ?_ (hk.val (x := .v _) h hf hr)
     rw [jz ho, hf.ev hx, hf.ev hy]
     simp [eqGuard, binOp, Op.intDiv, hc]
   ·subst hG; exact h.elim
  ·subst hG; exact h.elim
 | rem =>
  simp only [jT] at hG
  split at hG
  ·rename_i ka u kb v hx hy
   split at hG
   ·rename_i hkk; subst hkk
    split at hG
    ·subst hG; exact cw hk hs h hf hr
    ·subst hG
     obtain ⟨hc, h⟩ := h
     refine bY (v := .int ka (u.tmod v)) (w' := w) ?_ (hk.val (x := .v _) h hf hr)
     rw [jz ho, hf.ev hx, hf.ev hy]
     simp [eqGuard, binOp, Op.intDiv, hc]
   ·subst hG; exact h.elim
  ·subst hG; exact h.elim
 | shl =>
  simp only [jT] at hG
  split at hG
  ·rename_i ka u kb v hx hy
   split at hG
   ·subst hG; exact cw hk hs h hf hr
   ·subst hG
    obtain ⟨hc, h⟩ := h
    refine bY (v := .int ka (ka.wrap (u * 2 ^ min v.toNat ka.bits))) (w' := w) ?_ (hk.val (x := .v _) h hf hr)
    rw [jz ho, hf.ev hx, hf.ev hy]
    have : ¬ v < 0 := by omega
    simp [eqGuard, binOp, Op.shift, this]
  ·subst hG; exact h.elim
 | shr =>
  simp only [jT] at hG
  split at hG
  ·rename_i ka u kb v hx hy
   split at hG
   ·subst hG; exact cw hk hs h hf hr
   ·subst hG
    obtain ⟨hc, h⟩ := h
    refine bY (v := .int ka (u.fdiv (2 ^ min v.toNat ka.bits))) (w' := w) ?_ (hk.val (x := .v _) h hf hr)
    rw [jz ho, hf.ev hx, hf.ev hy]
    have : ¬ v < 0 := by omega
    simp [eqGuard, binOp, Op.shift, this]
  ·subst hG; exact h.elim
 | _ => subst hG; exact cw hk hs h hf hr
end
end Fw
end
