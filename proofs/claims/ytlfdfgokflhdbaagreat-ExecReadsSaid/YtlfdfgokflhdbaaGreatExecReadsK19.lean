/-
  Part 19 for the law: lemmas.
  Conditions: none.
-/
import Derived.Test.YtlfdfgokflhdbaaGreatExecReadsK18
set_option linter.unusedVariables false
set_option linter.unusedSimpArgs false
set_option linter.unusedSectionVars false
section
namespace Fw
open Go
structure LA where
 ptr : List (Nat × Nat × Nat) := []
 ty : List (Nat × TypeId) := []
def LA.at_ (la : LA) (t : Nat) : Option (Nat × Nat) := la.ptr.lookup t
def LA.kU (la : LA) : Operand → Bool
 | .tmp t => (la.at_ t).isSome
 | _ => false
def LA.ig (la : LA) : Option Tmp → Bool
 | some d => (la.at_ d).isSome
 | none => false
def LA.free (la : LA) (o : Oper) : Bool := (o.op.operands.toList.all fun x => !la.kU x) && !la.ig o.dst
def known (fr : Fr) (t : Nat) : Option AV := match fr[t]? with | some (some x) => some x | _ => none
def fT (sl : Nat) : List (Nat × Nat × Nat) → Fr → Fr
 | [], fr => fr
 | p :: l, fr => fT sl l (if p.2.1 = sl then fr.set p.1 none else fr)
def vS (P : Program) (t : TypeId) (i : Nat) : Option Nat :=
 match P.underlying t with
 | some (.struct fs) => match fs[i]? with
  | some f => match dJ P f.type with
   | some (_ + 1) => some f.offset
   | _ => none
  | none => none
 | _ => none
inductive LK where
 | other | bad
 | alloc (d : Nat) (t : TypeId)
 | box (d : Nat) (t : TypeId) (y : Operand)
 | ptr (d x sl off : Nat)
 | ld (t : TypeId) (x sl off : Nat)
 | st (t : TypeId) (x sl off : Nat) (y : Operand)
def LA.step (la : LA) (x d : Nat) (fo : Option Nat) : LK :=
 match la.at_ x, la.at_ d, fo with
 | some (sl, off), some (sl', off'), some fo => if sl = sl' ∧ off' = off + fo ∧ d ≠ sl then .ptr d x sl off' else .bad
 | _, _, _ => .bad
def LA.kind (la : LA) (P : Program) (o : Oper) : LK :=
 if la.free o then .other else
 match o.op, o.dst with
 | .alloc t, some d => if la.at_ d = some (d, 0) ∧ la.ty.lookup d = some t then .alloc d t else .bad
 | .box t y, some d => if la.at_ d = some (d, 0) ∧ la.ty.lookup d = some t ∧ la.kU y = false then .box d t y else .bad
 | .nilCheck (.tmp x), some d => la.step x d (some 0)
 | .move (.tmp x), some d => la.step x d (some 0)
 | .assign (.tmp x), some d => la.step x d (some 0)
 | .fieldAddr t (.tmp x) i, some d => la.step x d (vS P t i)
 | .load t (.tmp x), d => match la.at_ x with
  | some (sl, off) => if la.ig d = false ∧ la.at_ sl = some (sl, 0) then .ld t x sl off else .bad
  | none => .bad
 | .store t (.tmp x) y, d => match la.at_ x with
  | some (sl, off) => if la.ig d = false ∧ la.kU y = false ∧ la.at_ sl = some (sl, 0) then .st t x sl off y else .bad
  | none => .bad
 | _, _ => .bad
def GW (h : Shape) : Bool := h.1 || h.2.length == 1
def tF (u : AV) (off n : Nat) : List Value := ((dh u.val).drop off).take n
def Kz (c : List Value) (off : Nat) (vs : List Value) : List Value := c.take off ++ vs ++ c.drop (off + vs.length)
def C6 (b : Bool) (c : List Value) : Option AV :=
 match b, c with
 | true, c => some (.v (.agg c.toArray))
 | false, [v] => if v.oneCell' then some (.v v) else none
 | _, _ => none
section
variable {W : Type} (π : fX W) (P : Program) (la : LA)
def ny (fr : Fr) (d : Option Tmp) (t : TypeId) (x sl off : Nat) (v : AV) (k : Fr → W) : W :=
 match known fr x, known fr sl, dJ P t, (la.ty.lookup sl) with
 | some _, some u, some n, some ty =>
  if (dh v.val).length = n ∧ 0 < n ∧ off + n ≤ (dh u.val).length ∧ ((dh v.val).all (·.oneCell')) = true then
   match C6 (nV P ty) (Kz (dh u.val) off (dh v.val)) with
   | some w => k (Fr.put (fr.set sl (some w)) d none)
   | none => π.fail
  else π.fail
 | _, _, _, _ => π.fail
def jo (fr : Fr) (q : Bool) (o : Oper) (k : Fr → W) : W :=
 match la.kind P o with
 | .other => fP π P fr q o k
 | .bad => π.fail
 | .alloc d t => match ir P t with
  | some z => k (List.set (fT d la.ptr fr) d (some (.v z)))
  | none => π.fail
 | .box d t y => match fr.env.av y with
  | some .t => k (List.set (fT d la.ptr fr) d (some .t))
  | some .f => k (List.set (fT d la.ptr fr) d (some .f))
  | some (.v v) => k (List.set (fT d la.ptr fr) d (some (.v v)))
  | _ => π.fail
 | .ptr d x sl off => match known fr x with
  | some _ => k (fr.set d (some .t))
  | none => π.fail
 | .ld t x sl off => match known fr x, known fr sl, shapeOf P t, la.ty.lookup sl with
  | some _, some u, some h, some _ =>
   if GW h then
    match ee h.2 (tF u off h.2.length) with
    | some y => k (fr.put o.dst (some (h.av y)))
    | none => π.fail
   else π.fail
  | _, _, _, _ => π.fail
 | .st t x sl off y => match fr.env.av y with
  | some .t => ny π P la fr o.dst t x sl off .t k
  | some .f => ny π P la fr o.dst t x sl off .f k
  | some (.v v) => ny π P la fr o.dst t x sl off (.v v) k
  | _ => π.fail
def fM (fr : Fr) (o : Oper) (k : Fr → W) : W :=
 match o.dst with
 | some d => match la.at_ d with
  | some _ => k (fr.set d none)
  | none => k (fr.put (some d) (some (.v undef)))
 | none => k fr
def mG (fr : Fr) (q : Bool) (ops : Array Oper) (i : Nat) (k : Fr → W) : W :=
 match ops[i]? with
 | none => π.fail
 | some o => match o.guard with
  | none => jo π P la fr q o k
  | some (j, want) => match (ops[j]?).bind (·.dst) with
   | some d => match la.at_ d with
    | some _ => π.fail
    | none => match fr[d]? with
     | some (some .t) => if want then jo π P la fr q o k else fM la fr o k
     | some (some .f) => if want then fM la fr o k else jo π P la fr q o k
     | some (some (.v (.bool b))) => π.ite b
       (let fr' : Fr := fr.set d (some .t); if want then jo π P la fr' q o k else fM la fr' o k)
       (let fr' : Fr := fr.set d (some .f); if want then fM la fr' o k else jo π P la fr' q o k)
     | some (some (.v (.tuple _))) => fM la fr o k
     | _ => π.fail
   | none => π.fail
end
structure Sm (la : LA) (ρ : Nat → Nat) (fr' fr : Fr) (t : PH) : Prop where
 len : fr'.length = fr.length
 non : ∀ d, la.at_ d = none → fr'[d]? = fr[d]?
 ptr : ∀ d sl off x, la.at_ d = some (sl, off) → known fr' d = some x → fr[d]? = some (some (.v (.pointer (some ⟨ρ sl, off, none⟩))))
 con : ∀ d x ty, la.at_ d = some (d, 0) → known fr' d = some x → la.ty.lookup d = some ty → t (ρ d) = some (.cells (dh x.val).toArray ty (0, 0))
 own : ∀ d x, la.at_ d = some (d, 0) → known fr' d = some x → t (ρ d) ≠ none
 inj : ∀ d e x y, la.at_ d = some (d, 0) → la.at_ e = some (e, 0) → known fr' d = some x → known fr' e = some y → ρ d = ρ e → d = e
def KS (la : LA) (k' k : Fr → PH → Prop) : Prop := ∀ ρ fr' fr t s, Sm la ρ fr' fr t → fO s t → k' fr' s → k fr (s.or t)
theorem dx {fr : Fr} {d : Nat} {x : Option AV} (h : d < fr.length) : known (fr.set d x) d = x := by
 unfold known; rw [List.getElem?_set_self h]; cases x <;> rfl
theorem aL {fr : Fr} {d e : Nat} {x : Option AV} (h : d ≠ e) : known (fr.set d x) e = known fr e := by
 unfold known; rw [List.getElem?_set_ne h]
theorem gB {fr : Fr} {d : Nat} {x : AV} (h : known fr d = some x) : d < fr.length := by
 unfold known at h
 cases hd : fr[d]? with
 | none => rw [hd] at h; cases h
 | some y => exact (List.getElem?_eq_some_iff.1 hd).1
theorem nj {fr : Fr} {d : Nat} {x : AV} (h : known fr d = some x) : fr[d]? = some (some x) := by
 unfold known at h
 cases hd : fr[d]? with
 | none => rw [hd] at h; cases h
 | some y => cases y <;> rw [hd] at h <;> cases h; (first | done | rfl)
theorem mJ {fr : Fr} {d : Nat} {x : AV} (h : fr[d]? = some (some x)) : known fr d = some x := by unfold known; rw [h]
section
variable {P : Program} {R1 R2 : Value → PH → Prop} {la : LA} {ρ : Nat → Nat} {fr' fr : Fr} {t s : PH}
theorem Sm.set (h : Sm la ρ fr' fr t) {d : Nat} (hd : la.at_ d = none) (x : Option AV) : Sm la ρ (fr'.set d x) (fr.set d x) t := by
 have ne : ∀ {e : Nat} {p : Nat × Nat}, la.at_ e = some p → d ≠ e := by rintro e p he rfl; rw [hd] at he; cases he
 refine ⟨by simp [h.len], ?_, ?_, ?_, ?_, ?_⟩
 ·intro e he;rw [List.getElem?_set, List.getElem?_set, h.len]
  split
  ·rfl
  ·exact h.non e he
 ·intro e sl off y he hy;rw [aL (ne he)] at hy;rw [List.getElem?_set_ne (ne he)]; exact h.ptr e sl off y he hy
 ·intro e y ty he hy ht;rw [aL (ne he)] at hy; exact h.con e y ty he hy ht
 ·intro e y he hy;rw [aL (ne he)] at hy; exact h.own e y he hy
 ·intro e g y z he hg hy hz;rw [aL (ne he)] at hy; rw [aL (ne hg)] at hz; exact h.inj e g y z he hg hy hz
theorem Sm.put (h : Sm la ρ fr' fr t) {d : Option Tmp} (hd : la.ig d = false) (x : Option AV) : Sm la ρ (fr'.put d x) (fr.put d x) t := by
 cases d with
 | none => exact h
 | some d => exact h.set (by simpa [LA.ig] using hd) x
theorem Sm.env (h : Sm la ρ fr' fr t) {x : Operand} (hx : la.kU x = false) : fr'.env x = fr.env x := by
 cases x with
 | tmp d =>
  simp only [Fr.env, Fr.av];rw [h.non d (by simpa [LA.kU] using hx)]
 | _ => rfl
theorem Sm.less (h : Sm la ρ fr' fr t) {g' g : Fr} (hl : g'.length = g.length) (hn : ∀ d, la.at_ d = none → g'[d]? = g[d]?) (hp : ∀ d p x, la.at_ d = some p → known g' d = some x → known fr' d = some x ∧ g[d]? = fr[d]?) : Sm la ρ g' g t := by
 refine ⟨hl, hn, ?_, ?_, ?_, ?_⟩
 ·intro d sl off x hd hx;obtain ⟨h1, h2⟩ := hp d _ x hd hx;rw [h2]; exact h.ptr d sl off x hd h1
 ·intro d x ty hd hx ht; exact h.con d x ty hd (hp d _ x hd hx).1 ht
 ·intro d x hd hx; exact h.own d x hd (hp d _ x hd hx).1
 ·intro d e x y hd he hx hy; exact h.inj d e x y hd he (hp d _ x hd hx).1 (hp e _ y he hy).1
theorem Sm.drop (h : Sm la ρ fr' fr t) {d : Nat} {p : Nat × Nat} (hd : la.at_ d = some p) (x : Option AV) : Sm la ρ (fr'.set d none) (fr.set d x) t := by
 refine h.less (by simp [h.len]) ?_ ?_
 ·intro e he
  have : d ≠ e := by rintro rfl; rw [hd] at he; cases he
  rw [List.getElem?_set_ne this, List.getElem?_set_ne this]; exact h.non e he
 ·intro e p y he hy
  by_cases hde : d = e
  ·subst hde;have hlt := gB hy;rw [List.length_set] at hlt;rw [dx hlt] at hy; cases hy
  ·rw [aL hde] at hy;exact ⟨hy, List.getElem?_set_ne hde⟩
theorem lg (sl : Nat) : ∀ (l : List (Nat × Nat × Nat)) (fr : Fr), (fT sl l fr).length = fr.length ∧ (∀ d x, known (fT sl l fr) d = some x → known fr d = some x ∧ ∀ p ∈ l, p.1 = d → p.2.1 ≠ sl) ∧
  (∀ d, (∀ p ∈ l, p.1 = d → p.2.1 ≠ sl) → (fT sl l fr)[d]? = fr[d]?)
 | [], fr => ⟨rfl, fun d x h => ⟨h, by simp⟩, fun d _ => rfl⟩
 | p :: l, fr => by
  obtain ⟨h1, h2, h3⟩ := lg sl l (if p.2.1 = sl then fr.set p.1 none else fr);refine ⟨?_, ?_, ?_⟩
  ·simp only [fT]; rw [h1]; split <;> simp
  ·intro d x hx;obtain ⟨g1, g2⟩ := h2 d x hx
   by_cases hp : p.2.1 = sl
   ·rw [if_pos hp] at g1
    have hne : p.1 ≠ d := by
     rintro rfl;have hlt := gB g1;rw [List.length_set] at hlt;rw [dx hlt] at g1; cases g1
    rw [aL hne] at g1;refine ⟨g1, fun q hq e => ?_⟩;rcases List.mem_cons.1 hq with rfl | hq
    ·exact absurd e hne
    ·exact g2 q hq e
   ·rw [if_neg hp] at g1;refine ⟨g1, fun q hq e => ?_⟩;rcases List.mem_cons.1 hq with rfl | hq
    ·exact hp
    ·exact g2 q hq e
  ·intro d hd;simp only [fT];rw [h3 d fun q hq e => hd q (List.mem_cons_of_mem _ hq) e]
   split
   ·rename_i hp
    rw [List.getElem?_set_ne];rintro rfl;exact hd p (List.mem_cons_self ..) rfl hp
   ·rfl
theorem uq {l : List (Nat × Nat × Nat)} {d : Nat} {p : Nat × Nat} (h : l.lookup d = some p) : (d, p) ∈ l := by
 induction l with
 | nil => cases h
 | cons q l ih =>
  obtain ⟨a, b⟩ := q;simp only [List.lookup_cons] at h
  split at h
  ·rename_i e
   have e := eq_of_beq e;subst e;have := Option.some.inj h;subst this;exact List.mem_cons_self ..
  ·exact List.mem_cons_of_mem _ (ih h)
theorem GV {l : List (Nat × Nat × Nat)} {d : Nat} (h : l.lookup d = none) (p : Nat × Nat × Nat) (hp : p ∈ l) : p.1 ≠ d := by
 induction l with
 | nil => cases hp
 | cons q l ih =>
  obtain ⟨a, b⟩ := q;simp only [List.lookup_cons] at h
  split at h
  ·cases h
  ·rename_i e
   rcases List.mem_cons.1 hp with rfl | hp
   ·intro e'; subst e'; simp at e
   ·exact ih h hp
theorem D7 {r : Operand → Value} {o : Oper} {ty : TypeId} {z : Value} (ho : o.op = .alloc ty) (hz : ir P ty = some z) :
  ∃ kk, fk P (execOp r o) = some (.cells z.cells ty (0, 0), kk) ∧ ∀ b, dz P (kk b) = some (.value (.pointer (some ⟨b, 0, none⟩))) := by
 unfold ir at hz
 cases hi : P.info? ty with
 | none => rw [hi] at hz; cases hz
 | some i =>
  rw [hi] at hz;have hz : i.zero = some z := hz;unfold execOp;rw [ho];refine ⟨fun b => .pure (.value (.pointer (some ⟨b, 0, none⟩))), ?_, fun b => rfl⟩
  show fk P _ = _
  simp only [Instr.alloc, zeroValue, typeInfo, program, newVar, newRow, newObj, bind, Sem.bind, pure, fk, hi, hz]
theorem Iz {r : Operand → Value} {o : Oper} {ty : TypeId} {y : Operand} (ho : o.op = .box ty y) :
  ∃ kk, fk P (execOp r o) = some (.cells (r y).cells ty (0, 0), kk) ∧ ∀ b, dz P (kk b) = some (.value (.pointer (some ⟨b, 0, none⟩))) := by
 unfold execOp;rw [ho];refine ⟨fun b => .pure (.value (.pointer (some ⟨b, 0, none⟩))), ?_, fun b => rfl⟩
 show fk P _ = _
 simp only [Instr.box, newVar, newRow, newObj, bind, Sem.bind, pure, fk]
theorem EG {r : Operand → Value} {o : Oper} {ty : TypeId} {x : Operand} {i fo : Nat} {a : Addr} (ho : o.op = .fieldAddr ty x i) (hf : vS P ty i = some fo) (hx : r x = .pointer (some a)) :
  dz P (execOp r o) = some (.value (.pointer (some (a.add fo)))) := by
 unfold vS at hf
 cases hu : P.underlying ty with
 | none => rw [hu] at hf; cases hf
 | some d =>
  rw [hu] at hf
  cases d with
  | struct fs =>
   dsimp only at hf
   cases hfs : fs[i]? with
   | none => rw [hfs] at hf; cases hf
   | some f =>
    rw [hfs] at hf;dsimp only at hf;unfold dJ at hf
    cases hi : P.info? f.type with
    | none => rw [hi] at hf; cases hf
    | some inf =>
     rw [hi] at hf;simp only [Option.map_some] at hf
     cases hsz : inf.size with
     | zero => rw [hsz] at hf; cases hf
     | succ n =>
      rw [hsz] at hf;have hf : f.offset = fo := Option.some.inj hf;subst hf;unfold execOp;rw [ho];simp only [Instr.fieldAt, underlying, program, bind, Sem.bind, pure, dz, hu, hfs, hx, Instr.sureAddr, fieldPlace, Go.sizeOf, typeInfo, hi, hsz]
      first | done | rfl
  | _ => cases hf
theorem C4 {o : Oper} (h : la.kind P o = .other) : la.free o = true := by
 unfold LA.kind at h
 split at h
 ·assumption
 ·exfalso
  revert h
  repeat' split
  all_goals first | (intro h; cases h; done) | (unfold LA.step; repeat' split)
  all_goals (intro h; cases h)
theorem um {o : Oper} {d : Nat} {ty : TypeId} (h : la.kind P o = .alloc d ty) : o.op = .alloc ty ∧ o.dst = some d ∧ la.at_ d = some (d, 0) ∧ la.ty.lookup d = some ty := by
 unfold LA.kind at h
 split at h
 ·cases h
 ·split at h
  ·rename_i t' d' h1 h2
   split at h
   ·rename_i hc
    injection h with e1 e2
    subst e1 e2;exact ⟨h1, h2, hc.1, hc.2⟩
   ·cases h
  all_goals exfalso; revert h
  all_goals repeat' split
  all_goals first | (intro h; cases h; done) | (unfold LA.step; repeat' split)
  all_goals (intro h; cases h)
theorem zN {o : Oper} {d : Nat} {ty : TypeId} {y : Operand} (h : la.kind P o = .box d ty y) : o.op = .box ty y ∧ o.dst = some d ∧ la.at_ d = some (d, 0) ∧ la.ty.lookup d = some ty ∧ la.kU y = false := by
 unfold LA.kind at h
 split at h
 ·cases h
 ·split at h
  ·split at h <;> cases h
  ·rename_i t' y' d' h1 h2
   split at h
   ·rename_i hc
    injection h with e1 e2 e3
    subst e1 e2 e3;exact ⟨h1, h2, hc.1, hc.2.1, hc.2.2⟩
   ·cases h
  all_goals exfalso; revert h
  all_goals repeat' split
  all_goals first | (intro h; cases h; done) | (unfold LA.step; repeat' split)
  all_goals (intro h; cases h)
theorem pI {x d : Nat} {fo : Option Nat} {k : LK} {d' x' sl off : Nat} (h : la.step x d fo = .ptr d' x' sl off) : d' = d ∧ x' = x ∧ d ≠ sl ∧ la.at_ d = some (sl, off) ∧ ∃ off0 f, la.at_ x = some (sl, off0) ∧ fo = some f ∧ off = off0 + f := by
 unfold LA.step at h
 split at h
 ·rename_i sl1 off1 sl2 off2 f h1 h2
  split at h
  ·rename_i hc
   obtain ⟨rfl, rfl, hne⟩ := hc
   injection h with e1 e2 e3 e4
   subst e1 e2 e3 e4;exact ⟨rfl, rfl, hne, h2, off1, f, h1, rfl, rfl⟩
  ·cases h
 ·cases h
theorem zO {o : Oper} {d x sl off : Nat} (h : la.kind P o = .ptr d x sl off) : o.dst = some d ∧ d ≠ sl ∧ la.at_ d = some (sl, off) ∧ ∃ off0 f, la.at_ x = some (sl, off0) ∧ off = off0 + f ∧
  ((f = 0 ∧ (o.op = .nilCheck (.tmp x) ∨ o.op = .move (.tmp x) ∨ o.op = .assign (.tmp x))) ∨ ∃ ty i, o.op = .fieldAddr ty (.tmp x) i ∧ vS P ty i = some f) := by
 unfold LA.kind at h
 split at h
 ·cases h
 ·split at h
  ·split at h <;> cases h
  ·split at h <;> cases h
  ·rename_i x' d' h1 h2
   obtain ⟨rfl, rfl, g1, g2, off0, f, g3, g4, g5⟩ := pI (k := .bad) h;cases g4;exact ⟨h2, g1, g2, off0, 0, g3, g5, .inl ⟨rfl, .inl h1⟩⟩
  ·rename_i x' d' h1 h2
   obtain ⟨rfl, rfl, g1, g2, off0, f, g3, g4, g5⟩ := pI (k := .bad) h;cases g4;exact ⟨h2, g1, g2, off0, 0, g3, g5, .inl ⟨rfl, .inr (.inl h1)⟩⟩
  ·rename_i x' d' h1 h2
   obtain ⟨rfl, rfl, g1, g2, off0, f, g3, g4, g5⟩ := pI (k := .bad) h;cases g4;exact ⟨h2, g1, g2, off0, 0, g3, g5, .inl ⟨rfl, .inr (.inr h1)⟩⟩
  ·rename_i ty x' i d' h1 h2
   obtain ⟨rfl, rfl, g1, g2, off0, f, g3, g4, g5⟩ := pI (k := .bad) h;exact ⟨h2, g1, g2, off0, f, g3, g5, .inr ⟨ty, i, h1, g4⟩⟩
  ·split at h
   ·split at h <;> cases h
   ·cases h
  ·split at h
   ·split at h <;> cases h
   ·cases h
  ·cases h
theorem gy {x d : Nat} {fo : Option Nat} : (∃ d' x' sl off, la.step x d fo = .ptr d' x' sl off) ∨ la.step x d fo = .bad := by
 unfold LA.step
 split
 ·split
  ·exact .inl ⟨_, _, _, _, rfl⟩
  ·exact .inr rfl
 ·exact .inr rfl
theorem rz {o : Oper} {ty : TypeId} {x sl off : Nat} (h : la.kind P o = .ld ty x sl off) : o.op = .load ty (.tmp x) ∧ la.ig o.dst = false ∧ la.at_ x = some (sl, off) ∧ la.at_ sl = some (sl, 0) := by
 unfold LA.kind at h
 split at h
 ·cases h
 ·split at h
  ·split at h <;> cases h
  ·split at h <;> cases h
  ·rename_i x' d' _ _; rcases gy (la := la) (x := x') (d := d') (fo := some 0) with ⟨_, _, _, _, e⟩ | e <;> rw [e] at h <;> cases h
  ·rename_i x' d' _ _; rcases gy (la := la) (x := x') (d := d') (fo := some 0) with ⟨_, _, _, _, e⟩ | e <;> rw [e] at h <;> cases h
  ·rename_i x' d' _ _; rcases gy (la := la) (x := x') (d := d') (fo := some 0) with ⟨_, _, _, _, e⟩ | e <;> rw [e] at h <;> cases h
  ·rename_i ty' x' i d' _ _; rcases gy (la := la) (x := x') (d := d') (fo := vS P ty' i) with ⟨_, _, _, _, e⟩ | e <;> rw [e] at h <;> cases h
  ·rename_i ty' x' h1
   split at h
   ·rename_i sl' off' h2
    split at h
    ·rename_i hc
     injection h with e1 e2 e3 e4
     subst e1 e2 e3 e4;exact ⟨h1, hc.1, h2, hc.2⟩
    ·cases h
   ·cases h
  ·split at h
   ·split at h <;> cases h
   ·cases h
  ·cases h
theorem I4 {o : Oper} {ty : TypeId} {x sl off : Nat} {y : Operand} (h : la.kind P o = .st ty x sl off y) : o.op = .store ty (.tmp x) y ∧ la.ig o.dst = false ∧ la.kU y = false ∧ la.at_ x = some (sl, off) ∧ la.at_ sl = some (sl, 0) := by
 unfold LA.kind at h
 split at h
 ·cases h
 ·split at h
  ·split at h <;> cases h
  ·split at h <;> cases h
  ·rename_i x' d' _ _; rcases gy (la := la) (x := x') (d := d') (fo := some 0) with ⟨_, _, _, _, e⟩ | e <;> rw [e] at h <;> cases h
  ·rename_i x' d' _ _; rcases gy (la := la) (x := x') (d := d') (fo := some 0) with ⟨_, _, _, _, e⟩ | e <;> rw [e] at h <;> cases h
  ·rename_i x' d' _ _; rcases gy (la := la) (x := x') (d := d') (fo := some 0) with ⟨_, _, _, _, e⟩ | e <;> rw [e] at h <;> cases h
  ·rename_i ty' x' i d' _ _; rcases gy (la := la) (x := x') (d := d') (fo := vS P ty' i) with ⟨_, _, _, _, e⟩ | e <;> rw [e] at h <;> cases h
  ·split at h
   ·split at h <;> cases h
   ·cases h
  ·rename_i ty' x' y' h1
   split at h
   ·rename_i sl' off' h2
    split at h
    ·rename_i hc
     injection h with e1 e2 e3 e4 e5
     subst e1 e2 e3 e4 e5;exact ⟨h1, hc.1, hc.2.1, h2, hc.2.2⟩
    ·cases h
   ·cases h
  ·cases h
theorem Sm.Kc (h : Sm la ρ fr' fr t) (hd : fO s t) {d : Nat} {x : AV} (h1 : la.at_ d = some (d, 0)) (h2 : known fr' d = some x) : s (ρ d) = none := hd _ (h.own d x h1 h2)
theorem Sm.ev (h : Sm la ρ fr' fr t) {x sl off : Nat} {u : AV} (h1 : la.at_ x = some (sl, off)) (h2 : known fr' x = some u) : fr.env.ev (.tmp x) = some (.pointer (some ⟨ρ sl, off, none⟩)) ∧ fr.env.av (.tmp x) = some (.v (.pointer (some ⟨ρ sl, off, none⟩))) := by
 have := h.ptr x sl off u h1 h2;simp [Fr.env, Env.ev, Env.av, Fr.av, this, AV.val]
theorem wC (h : Sm la ρ fr' fr t) (hd : fO s t) {sl off n : Nat} {u : AV} {ty : TypeId} (h1 : la.at_ sl = some (sl, 0)) (h2 : known fr' sl = some u) (h3 : la.ty.lookup sl = some ty) : (s.or t).has ⟨ρ sl, off, none⟩ (tF u off n) := by
 intro i v hv
 have hi : i < n := by
  have := (List.getElem?_eq_some_iff.1 hv).1;simp [tF] at this; omega
 unfold tF at hv;rw [List.getElem?_take_of_lt hi, List.getElem?_drop] at hv
 have hb : (s.or t) (ρ sl) = some (.cells (dh u.val).toArray ty (0, 0)) := by rw [Kx (h.Kc hd h1 h2)]; exact h.con sl u ty h1 h2 h3
 rw [je (a := ⟨ρ sl, off, none⟩) hb rfl];simpa using hv
theorem C7 {b : Bool} {c : List Value} {w : AV} (h : C6 b c = some w) : dh w.val = c := by
 unfold C6 at h
 split at h
 ·cases h; simp [AV.val, dh]
 ·split at h
  ·rename_i v hv
   cases h;rw [mY]
   show v.cells.toList = _
   rw [pT hv]
  ·cases h
 ·cases h
theorem wv {k' k : Fr → PH → Prop} (hk : KS la k' k) (hm : Sm la ρ fr' fr t) (hd : fO s t) {d : Option Tmp} (hdst : la.ig d = false) {ty : TypeId} {x sl off : Nat} {v : AV} (hx : la.at_ x = some (sl, off)) (hsl : la.at_ sl = some (sl, 0))
  (h : ny (RP P R1) P la fr' d ty x sl off v k' s) : ∃ n, dJ P ty = some n ∧ (dh v.val).length = n ∧ (∃ u, known fr' x = some u) ∧ (RP P R2).st ⟨ρ sl, off, none⟩ (dh v.val) (k (fr.put d none)) (s.or t) := by
 generalize hG : ny (RP P R1) P la fr' d ty x sl off v k' = G at h
 unfold ny at hG
 split at hG
 ·rename_i u0 u n ty' g1 g2 g3 g4
  split at hG
  ·rename_i hc
   obtain ⟨c1, c2, c3, c4⟩ := hc
   split at hG
   ·rename_i w hw
    subst hG;refine ⟨n, g3, c1, ⟨u0, g1⟩, ?_⟩
    have hb : (s.or t) (ρ sl) = some (.cells (dh u.val).toArray ty' (0, 0)) := by rw [Kx (hm.Kc hd hsl g2)]; exact hm.con sl u ty' hsl g2 g4
    have hne : dh v.val ≠ [] := by intro e; rw [e] at c1; simp at c1; omega
    have hone : ∀ y ∈ dh v.val, y.oneCell' = true := List.all_eq_true.1 c4;refine ⟨?_, hone, ?_⟩
    ·rw [tg (a := ⟨ρ sl, off, none⟩) hb (by omega)];refine ⟨rfl, ?_, .inl (Nat.zero_le _)⟩;simp; omega
    ·rw [PH.jU (a := ⟨ρ sl, off, none⟩) (e := ty') (f := (0, 0)) rfl _ 0 (dh u.val).toArray (s.or t) hb hne];have hsn := hm.Kc hd hsl g2
     have hcell : gh (dh u.val).toArray (off + 0) (dh v.val) = (dh w.val).toArray := by
      apply Array.ext';rw [fQ _ _ _ (by simp; omega), C7 hw];simp [Kz]
     show k (fr.put d none) ((s.or t).aS (ρ sl) _)
     rw [hcell, Ae _ hsn];refine hk ρ _ _ _ s (Sm.put ?_ hdst none) ?_ h
     ·refine ⟨by simp [hm.len], ?_, ?_, ?_, ?_, ?_⟩
      ·intro e he
       have : sl ≠ e := by rintro rfl; rw [hsl] at he; cases he
       rw [List.getElem?_set_ne this]; exact hm.non e he
      ·intro e sl' off' y he hy
       by_cases hse : sl = e
       ·subst hse;rw [hsl] at he; cases he;exact hm.ptr sl sl 0 u hsl g2
       ·rw [aL hse] at hy; exact hm.ptr e sl' off' y he hy
      ·intro e y ty2 he hy ht
       by_cases hse : sl = e
       ·subst hse;rw [dx (gB g2)] at hy;cases hy;rw [g4] at ht; cases ht;exact PH.bB _ _ _
       ·rw [aL hse] at hy;rw [PH.bG _ _ (fun e' => hse (hm.inj sl e u y hsl he g2 hy e'.symm))];exact hm.con e y ty2 he hy ht
      ·intro e y he hy
       by_cases hse : sl = e
       ·subst hse; simp
       ·rw [aL hse] at hy;rw [PH.bG _ _ (fun e' => hse (hm.inj sl e u y hsl he g2 hy e'.symm))];exact hm.own e y he hy
      ·intro e g y z he hg hy hz
       have hk1 : ∃ y', known fr' e = some y' := by
        by_cases hse : sl = e
        ·subst hse; exact ⟨_, g2⟩
        ·rw [aL hse] at hy; exact ⟨_, hy⟩
       have hk2 : ∃ y', known fr' g = some y' := by
        by_cases hse : sl = g
        ·subst hse; exact ⟨_, g2⟩
        ·rw [aL hse] at hz; exact ⟨_, hz⟩
       obtain ⟨y', hy'⟩ := hk1;obtain ⟨z', hz'⟩ := hk2;exact hm.inj e g y' z' he hg hy' hz'
     ·intro e he
      by_cases hse : e = ρ sl
      ·subst hse; exact hsn
      ·rw [PH.bG _ _ hse] at he; exact hd e he
   ·subst hG; exact h.elim
  ·subst hG; exact h.elim
 ·subst hG; exact h.elim
theorem B4 {k' k : Fr → PH → Prop} (hk : KS la k' k) (hm : Sm la ρ fr' fr t) (hd : fO s t) {d : Nat} {ty : TypeId} (hat : la.at_ d = some (d, 0)) (hty : la.ty.lookup d = some ty) {z : AV} {c : Array Value} {b : Nat} (hb1 : s b = none) (hb2 : t b = none)
  (hc : c = (dh z.val).toArray) (h : k' (List.set (fT d la.ptr fr') d (some z)) s) : k (fr.put (some d) (some (.v (.pointer (some ⟨b, 0, none⟩))))) (s.or (t.aS b (.cells c ty (0, 0)))) := by
 show k (fr.set d _) _
 obtain ⟨cl1, cl2, cl3⟩ := lg d la.ptr fr';refine hk (fun e => if e = d then b else ρ e) _ _ _ s ?_ ?_ h
 ·have hself : ∀ {e : Nat} {x : AV}, known (List.set (fT d la.ptr fr') d (some z)) e = some x → e ≠ d → known fr' e = some x ∧ ∀ p ∈ la.ptr, p.1 = e → p.2.1 ≠ d := by
   intro e x hx hne;rw [aL (Ne.symm hne)] at hx;exact cl2 e x hx
  refine ⟨by simp [cl1, hm.len], ?_, ?_, ?_, ?_, ?_⟩
  ·intro e he
   have hne : d ≠ e := by rintro rfl; rw [hat] at he; cases he
   rw [List.getElem?_set_ne hne, List.getElem?_set_ne hne, cl3 e fun p hp e' => absurd e' (GV he p hp)];exact hm.non e he
  ·intro e sl off x he hx
   by_cases hed : e = d
   ·subst hed;rw [hat] at he; cases he;have hlt := gB hx;rw [List.length_set, cl1, hm.len] at hlt;rw [List.getElem?_set_self hlt];simp
   ·obtain ⟨g1, g2⟩ := hself hx hed;have hsl : sl ≠ d := g2 (e, sl, off) (uq he) rfl;rw [List.getElem?_set_ne (Ne.symm hed)];simp only [if_neg hsl];exact hm.ptr e sl off x he g1
  ·intro e x ty2 he hx ht
   by_cases hed : e = d
   ·subst hed;have hlt := gB hx;rw [List.length_set] at hlt;rw [dx hlt] at hx;cases hx;rw [hty] at ht; cases ht;simp [hc]
   ·obtain ⟨g1, g2⟩ := hself hx hed;simp only [if_neg hed];rw [PH.bG _ _ (fun e' => hm.own e x he g1 (by rw [e']; exact hb2))];exact hm.con e x ty2 he g1 ht
  ·intro e x he hx
   by_cases hed : e = d
   ·subst hed; simp
   ·obtain ⟨g1, g2⟩ := hself hx hed;simp only [if_neg hed];rw [PH.bG _ _ (fun e' => hm.own e x he g1 (by rw [e']; exact hb2))];exact hm.own e x he g1
  ·intro e g x y he hg hx hy hρ
   by_cases hed : e = d
   ·by_cases hgd : g = d
    ·rw [hed, hgd]
    ·obtain ⟨g1, g2⟩ := hself hy hgd;simp only [if_neg hgd, if_pos hed] at hρ;exact absurd (by rw [← hρ]; exact hb2) (hm.own g y hg g1)
   ·obtain ⟨e1, e2⟩ := hself hx hed
    by_cases hgd : g = d
    ·simp only [if_neg hed, if_pos hgd] at hρ;exact absurd (by rw [hρ]; exact hb2) (hm.own e x he e1)
    ·obtain ⟨g1, g2⟩ := hself hy hgd;simp only [if_neg hed, if_neg hgd] at hρ;exact hm.inj e g x y he hg e1 g1 hρ
 ·intro e he
  by_cases hse : e = b
  ·subst hse; exact hb1
  ·rw [PH.bG _ _ hse] at he; exact hd e he
theorem nZ {k' k : Fr → PH → Prop} (hk : KS la k' k) (hm : Sm la ρ fr' fr t) (hd : fO s t) {q : Bool} {o : Oper} (h : jo (RP P R1) P la fr' q o k' s) : fP (RP P R2) P fr q o k (s.or t) := by
 generalize hG : jo (RP P R1) P la fr' q o k' = G at h
 unfold jo at hG
 split at hG
 ·rename_i hkd
  subst hG;have hf := C4 hkd;unfold LA.free at hf;simp only [Bool.and_eq_true, List.all_eq_true, Bool.not_eq_true'] at hf;unfold fP at h ⊢;rw [wW (ρ' := fr.env) fun x hx => hm.env (hf.1 x hx)] at h;exact wh t _ _ s hd h fun x s' hd' hx => hk ρ _ _ t s' (hm.put hf.2 x) hd' hx
 ·subst hG; exact h.elim
 ·rename_i d ty hkd
  obtain ⟨ho, hdst, hat, hty⟩ := um hkd
  split at hG
  ·rename_i z hz
   subst hG;obtain ⟨kk, hr1, hr2⟩ := D7 (r := fr.env.eX) ho hz;unfold fP gd;rw [ho];dsimp only;unfold kS
   have hkn : fr.env.known o.op.operands.toList = true := by rw [ho]; (first | done | rfl)
   rw [if_pos hkn, hr1];intro b hb;obtain ⟨hb1, hb2⟩ := or_none hb;dsimp only;rw [hr2, Ae _ hb1, hdst];exact B4 hk hm hd hat hty (z := .v z) hb1 hb2 (by simp [AV.val, mY]) h
  ·subst hG; exact h.elim
 ·rename_i d ty y hkd
  obtain ⟨ho, hdst, hat, hty, hy⟩ := zN hkd;have henv : fr.env.av y = fr'.env.av y := (hm.env hy).symm
  have fin : ∀ {u : AV}, fr'.env.av y = some u → k' (List.set (fT d la.ptr fr') d (some u)) s → fP (RP P R2) P fr q o k (s.or t) := by
   intro u hu h;obtain ⟨kk, hr1, hr2⟩ := Iz (P := P) (r := fr.env.eX) ho
   have hrho : fr.env.eX y = u.val := by
    have h2 : fr.env y = some u := henv.trans hu;unfold Env.eX; rw [h2]; (first | done | rfl)
   unfold fP gd;rw [ho];dsimp only;unfold kS
   have hkn : fr.env.known o.op.operands.toList = true := by
    rw [ho];have h2 : fr.env y = some u := henv.trans hu
    have : (fr.env y).isSome = true := by rw [h2]; (first | done | rfl)
    simp [Env.known, Op.operands, this]
   rw [if_pos hkn, hr1];intro b hb;obtain ⟨hb1, hb2⟩ := or_none hb;dsimp only;rw [hr2, Ae _ hb1, hdst, hrho];exact B4 hk hm hd hat hty (z := u) hb1 hb2 (by simp [mY]) h
  split at hG
  ·rename_i hv; subst hG; exact fin hv h
  ·rename_i hv; subst hG; exact fin hv h
  ·rename_i hv; subst hG; exact fin hv h
  ·subst hG; exact h.elim
 ·rename_i d x sl off hkd
  obtain ⟨hdst, hne, hat, off0, f, hx, hoff, hop⟩ := zO hkd
  split at hG
  ·rename_i u hu
   subst hG;obtain ⟨hev, hav⟩ := hm.ev hx hu
   have hfin : ∀ a : Addr, a = ⟨ρ sl, off, none⟩ → k (fr.put o.dst (some (.v (.pointer (some a))))) (s.or t) := by
    rintro _ rfl;rw [hdst];refine hk ρ _ _ t s ?_ hd h;refine ⟨by simp [Fr.put, hm.len], ?_, ?_, ?_, ?_, ?_⟩
    ·intro e he
     have hde : d ≠ e := by rintro rfl; rw [hat] at he; cases he
     show _ = (fr.set d _)[e]?
     rw [List.getElem?_set_ne hde, List.getElem?_set_ne hde]; exact hm.non e he
    ·intro e sl' off' y he hy
     by_cases hde : d = e
     ·subst hde;rw [hat] at he; cases he;have hlt := gB hy;rw [List.length_set, hm.len] at hlt
      show (fr.set d _)[d]? = _
      rw [List.getElem?_set_self hlt]
     ·rw [aL hde] at hy
      show (fr.set d _)[e]? = _
      rw [List.getElem?_set_ne hde]; exact hm.ptr e sl' off' y he hy
    ·intro e y ty2 he hy ht
     have hde : d ≠ e := by rintro rfl; rw [hat] at he; cases he; exact hne rfl
     rw [aL hde] at hy; exact hm.con e y ty2 he hy ht
    ·intro e y he hy
     have hde : d ≠ e := by rintro rfl; rw [hat] at he; cases he; exact hne rfl
     rw [aL hde] at hy; exact hm.own e y he hy
    ·intro e g y z he hg hy hz
     have hde : d ≠ e := by rintro rfl; rw [hat] at he; cases he; exact hne rfl
     have hdg : d ≠ g := by rintro rfl; rw [hat] at hg; cases hg; exact hne rfl
     rw [aL hde] at hy; rw [aL hdg] at hz; exact hm.inj e g y z he hg hy hz
   rcases hop with ⟨rfl, hop⟩ | ⟨ty, i, hop, hf⟩
   ·have hoff : off0 = off := by omega
    subst hoff;unfold fP gd;rcases hop with hop | hop | hop
    ·rw [hop]; dsimp only; rw [hav];exact ⟨_, rfl, hfin _ rfl⟩
    ·rw [hop]; dsimp only; rw [hav]; exact hfin _ rfl
    ·rw [hop]; dsimp only; rw [hav]; exact hfin _ rfl
   ·unfold fP gd;rw [hop];dsimp only;unfold dG
    have hkn : fr.env.known o.op.operands.toList = true := by
     rw [hop]
     have : (fr.env (.tmp x)).isSome = true := by
      have h2 : fr.env (.tmp x) = some (.v (.pointer (some ⟨ρ sl, off0, none⟩))) := hav;rw [h2]; (first | done | rfl)
     simp [Env.known, Op.operands, this]
    have hrho : fr.env.eX (.tmp x) = .pointer (some ⟨ρ sl, off0, none⟩) := by
     have h2 : fr.env (.tmp x) = some (.v (.pointer (some ⟨ρ sl, off0, none⟩))) := hav;unfold Env.eX; rw [h2]; (first | done | rfl)
    rw [if_pos hkn, EG hop hf hrho];dsimp only;rw [HS (by simp [hop])];exact hfin _ (by rw [bf, hoff])
  ·subst hG; exact h.elim
 ·rename_i ty x sl off hkd
  obtain ⟨ho, hdst, hx, hsl⟩ := rz hkd
  split at hG
  ·rename_i u0 u hh ty' g1 g2 g3 g4
   split at hG
   ·split at hG
    ·rename_i y hy
     subst hG;unfold fP gd;rw [ho];dsimp only;rw [(hm.ev hx g1).1];dsimp only;rw [g3];refine ⟨y, ?_, hk ρ _ _ t s (hm.put hdst _) hd h⟩;rw [gE hy];exact wC hm hd hsl g2 g4
    ·subst hG; exact h.elim
   ·subst hG; exact h.elim
  ·subst hG; exact h.elim
 ·rename_i ty x sl off y hkd
  obtain ⟨ho, hdst, hy, hx, hsl⟩ := I4 hkd;have henv : fr.env.av y = fr'.env.av y := (hm.env hy).symm;unfold fP gd;rw [ho];dsimp only
  split at hG
  ·rename_i hv
   subst hG;obtain ⟨n, q1, q2, ⟨u, q3⟩, q4⟩ := wv (R2 := R2) hk hm hd hdst hx hsl h;rw [(hm.ev hx q3).1, henv, hv];dsimp only;rw [q1];dsimp only;rw [if_pos q2];exact q4
  ·rename_i hv
   subst hG;obtain ⟨n, q1, q2, ⟨u, q3⟩, q4⟩ := wv (R2 := R2) hk hm hd hdst hx hsl h;rw [(hm.ev hx q3).1, henv, hv];dsimp only;rw [q1];dsimp only;rw [if_pos q2];exact q4
  ·rename_i v hv
   subst hG;obtain ⟨n, q1, q2, ⟨u, q3⟩, q4⟩ := wv (R2 := R2) hk hm hd hdst hx hsl h;rw [(hm.ev hx q3).1, henv, hv];dsimp only;rw [q1];dsimp only;rw [if_pos q2];exact q4
  ·subst hG; exact h.elim
theorem lM {k' k : Fr → PH → Prop} (hk : KS la k' k) (hm : Sm la ρ fr' fr t) (hd : fO s t) {o : Oper} (h : fM la fr' o k' s) : k (fr.put o.dst (some (.v undef))) (s.or t) := by
 unfold fM at h
 cases hdst : o.dst with
 | none => rw [hdst] at h; exact hk ρ _ _ t s hm hd h
 | some d =>
  rw [hdst] at h;dsimp only at h
  cases hat : la.at_ d with
  | none => rw [hat] at h; exact hk ρ _ _ t s (hm.put (d := some d) (by simp [LA.ig, hat]) _) hd h
  | some p => rw [hat] at h; exact hk ρ _ _ t s (hm.drop hat _) hd h
theorem GH {k' k : Fr → PH → Prop} (hk : KS la k' k) (hm : Sm la ρ fr' fr t) (hd : fO s t) {q : Bool} {ops : Array Oper} {i : Nat} (h : mG (RP P R1) P la fr' q ops i k' s) : dW (RP P R2) P fr q ops i k (s.or t) := by
 generalize hG : mG (RP P R1) P la fr' q ops i k' = G at h
 unfold mG at hG;unfold dW
 split at hG
 ·subst hG; exact h.elim
 ·rename_i o ho
  rw [ho];dsimp only
  split at hG
  ·rename_i hg
   rw [hg];subst hG;exact nZ hk hm hd h
  ·rename_i j want hg
   rw [hg];dsimp only
   split at hG
   ·rename_i d hdj
    rw [hdj];dsimp only
    split at hG
    ·subst hG; exact h.elim
    ·rename_i hat
     have hfr := hm.non d hat
     split at hG
     ·rename_i hv
      rw [← hfr, hv];dsimp only
      cases want with
      | true => subst hG; exact nZ hk hm hd h
      | false => subst hG; exact lM hk hm hd h
     ·rename_i hv
      rw [← hfr, hv];dsimp only
      cases want with
      | true => subst hG; exact lM hk hm hd h
      | false => subst hG; exact nZ hk hm hd h
     ·rename_i b hv
      rw [← hfr, hv];dsimp only;subst hG;have m1 := hm.set hat (some .t);have m2 := hm.set hat (some .f)
      cases b with
      | true =>
       have h : (if want then jo (RP P R1) P la (fr'.set d (some .t)) q o k' else fM la (fr'.set d (some .t)) o k') s := by simpa [RP, W.br] using h
       simp only [aO, W.BM]
       cases want with
       | true => exact nZ hk m1 hd h
       | false => exact lM hk m1 hd h
      | false =>
       have h : (if want then fM la (fr'.set d (some .f)) o k' else jo (RP P R1) P la (fr'.set d (some .f)) q o k') s := by simpa [RP, W.br] using h
       simp only [aO, W.yY]
       cases want with
       | true => exact lM hk m2 hd h
       | false => exact nZ hk m2 hd h
     ·rename_i hv
      rw [← hfr, hv];dsimp only;subst hG;exact lM hk hm hd h
     ·subst hG; exact h.elim
   ·subst hG; exact h.elim
end
end Fw
end
