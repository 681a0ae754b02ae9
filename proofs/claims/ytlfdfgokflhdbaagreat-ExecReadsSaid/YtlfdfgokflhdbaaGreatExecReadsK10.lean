/-
  Part 10 for the law: lemmas.
  Conditions: none.
-/
import Derived.Test.YtlfdfgokflhdbaaGreatExecReadsK9
set_option linter.unusedVariables false
set_option linter.unusedSimpArgs false
set_option linter.unusedSectionVars false
section
namespace Fw
open Go
def Shape.tC : (h : Shape) → Value → Option (Den h.2)
 | (true, cs), .agg vs => ee cs vs.toList
 | (false, [c]), v => ee [c] [v]
 | _, _ => none
theorem Shape.oq {h : Shape} {v : Value} {x : Den h.2} (e : h.tC v = some x) : h.mk x = v := by
 unfold Shape.tC at e
 split at e
 ·have := gE e;simp [Shape.mk, this]
 ·have := gE e;simp [Shape.mk, this]
 ·cases e
abbrev iO := List (Nat × TypeId)
def jS (P : Program) (t : TypeId) : Option Shape := if t = 1000000 then some (false, [.addr]) else shapeOf P t
def fe (P : Program) : iO → Option (List Shape)
 | [] => some []
 | (_, t) :: l => match jS P t, fe P l with
  | some h, some hs => some (h :: hs)
  | _, _ => none
def Fr.pack (fr : Fr) : iO → (hs : List Shape) → Option (bR hs)
 | [], [] => some ()
 | (d, _) :: l, h :: hs => match fr[d]? with
  | some (some x) => match h.tC x.val, fr.pack l hs with
   | some y, some z => some (y, z)
   | _, _ => none
  | _ => none
 | _, _ => none
def Fr.unpack : Fr → iO → (hs : List Shape) → bR hs → Fr
 | pin, (d, _) :: l, h :: hs, x => Fr.unpack (pin.set d (some (h.av x.1))) l hs x.2
 | pin, _, _, _ => pin
theorem Fr.le.unpack {fr : Fr} {a : Act} (hf : fr.le a) : ∀ (l : iO) (hs : List Shape) (x : bR hs) (pin : Fr), pin.le a → fr.pack l hs = some x → (pin.unpack l hs x).le a := by
 intro l
 induction l with
 | nil => intro hs x pin hp e; cases hs <;> simp [Fr.pack] at e; exact hp
 | cons d l ih =>
  obtain ⟨d, t⟩ := d;intro hs x pin hp e
  cases hs with
  | nil => simp [Fr.pack] at e
  | cons h hs =>
   simp only [Fr.pack] at e
   split at e
   ·rename_i u hu
    split at e
    ·rename_i y z hy hz
     have e' := Option.some.inj e;subst e';refine ih hs z (pin.set d (some (h.av y))) ?_ hz;refine hp.yE ?_;rw [Shape.iV, Shape.oq hy];exact hf.at_ _ _ hu
    ·cases e
   ·cases e
structure iC where
 A : List Nat
 quiet : List Nat := []
 chkL : List (Nat × List Nat) := []
 eag : List Nat := []
def iC.eB (d : iC) (b : Nat) : List Nat := (d.chkL.lookup b).getD []
def ef (ops : Array Oper) (i : Nat) : List Nat := match ops[i]? with | some o => (o.after.toList.filter (Region.binds .any)).map (·.on) | none => []
def iA (ops : Array Oper) (rem : List Nat) : List Nat := rem.filter fun i => (ef ops i).all fun j => !rem.contains j
def bY (ops : Array Oper) (A : List Nat) : List Nat := (List.range ops.size).filter fun i => !A.contains i
structure lU where
 draws : List (Nat × iC) := []
 join : List (Nat × iO) := []
 loop : List (Nat × iO) := []
def cC : Code → Option Nat
 | .region id _ _ => some id
 | .seq a b => (cC a).or (cC b)
 | .cond _ a b => (cC a).or (cC b)
 | .block _ b => cC b
 | .loop b => cC b
 | .scope b => cC b
 | _ => none
def Fr.refine (fr : Fr) (c : Operand) (b : AV) : Fr := match c with | .tmp t => fr.set t (some b) | _ => fr
section
variable {W : Type} (π : fX W) (P : Program) (ann : lU) (pin : Fr)
def tj (ops : Array Oper) (quiet : List Nat) : List Nat → Fr → (Fr → W) → W
 | [], fr, k => k fr
 | i :: l, fr, k => dW π P fr (quiet.contains i) ops i fun fr' => tj ops quiet l fr' k
def vB (π : fX W) : List W → W
 | [] => π.fail
 | [x] => x
 | x :: l => π.both x (vB π l)
def dS (fr : Fr) (ops : Array Oper) (o : Oper) : Option Bool :=
 match o.guard with
 | none => some false
 | some (j, want) => match (ops[j]?).bind (·.dst) with
  | some d => match fr[d]? with
   | some (some .t) => some (!want)
   | some (some .f) => some want
   | some (some (.v (.tuple _))) => some true
   | _ => none
  | none => none
def gm (P : Program) (ops : Array Oper) (fr : Fr) (q : Nat) : Option (Option ((cs : List CT) × Addr × Den cs)) :=
 match ops[q]? with
 | some o => match o.op, o.dst with
  | .load t x, some d => match dS fr ops o with
   | some true => some none
   | some false => match fr.env.ev x with
    | some (.pointer (some a)) => match shapeOf P t with
     | some h => match fr[d]? with
      | some (some u) => match h.tC u.val with
       | some y => if h.1 || h.2.length == 1 then some (some ⟨h.2, a, y⟩) else none
       | none => none
      | _ => none
     | none => none
    | _ => none
   | none => none
  | _, _ => none
 | none => none
def iZ (ops : Array Oper) (fr : Fr) (q : Nat) (k : W) : W :=
 match gm P ops fr q with
 | some (some ⟨cs, a, y⟩) => π.still cs a y k
 | some none => k
 | none => π.fail
def oh (ops : Array Oper) (fr : Fr) : List Nat → W → W
 | [], k => k
 | q :: l, k => iZ π P ops fr q (oh ops fr l k)
def fz (ops : Array Oper) (eB : Nat → List Nat) (eag : List Nat) : Nat → List Nat → Fr → (Fr → W) → W
 | 0, rem, fr, k => match rem with | [] => k fr | _ => π.fail
 | f + 1, rem, fr, k => match rem with
  | [] => k fr
  | _ => match (iA ops rem).find? (eag.contains ·) with
   | some i => dW π P fr false ops i fun fr' => fz ops eB eag f (rem.erase i) fr' k
   | none => vB π ((iA ops rem).map fun i => dW π P fr false ops i fun fr' => oh π P ops fr' (eB i) (fz ops eB eag f (rem.erase i) fr' k))
def mu (id : Nat) (ops : Array Oper) (draw : Bool) (fr : Fr) (k : Fr → W) : W :=
 if ops.all fun (o : Oper) => iF pin o.dst then
  if draw then
   match ann.draws.lookup id with
   | some d => tj π P ops d.quiet d.A fr fun fr' => fz π P ops d.eB d.eag ops.size (bY ops d.A) fr' k
   | none => π.fail
  else tj π P ops [] (List.range ops.size) fr k
 else π.fail
def eC : Code → Fr → (Fr → W) → (Nat → Fr → W) → (Fr → W) → W
 | .skip, fr, kn, _, _ => kn fr
 | .region id ops draw, fr, kn, _, _ => mu π P ann pin id ops draw fr kn
 | .seq x y, fr, kn, kx, kr =>
  match (cC y).bind (ann.join.lookup ·) with
  | some l => match fe P l with
   | some hs => π.join hs
     (fun J => eC x fr (fun fr' => match fr'.pack l hs with | some d => J d | none => π.fail) kx kr)
     (fun d => eC y (pin.unpack l hs d) kn kx kr)
   | none => π.fail
  | none => eC x fr (fun fr' => eC y fr' kn kx kr) kx kr
 | .cond c x y, fr, kn, kx, kr =>
  match fr.env.av c with
  | some .t => eC x fr kn kx kr
  | some .f => eC y fr kn kx kr
  | some (.v (.bool b)) => π.ite b (eC x (fr.refine c .t) kn kx kr) (eC y (fr.refine c .f) kn kx kr)
  | _ => π.fail
 | .block id x, fr, kn, kx, kr => eC x fr kn (fun id' fr' => if id' = id then kn fr' else kx id' fr') kr
 | .loop x, fr, kn, kx, kr =>
  match (cC x).bind (ann.loop.lookup ·) with
  | some l => match fe P l with
   | some hs => match fr.pack l hs with
    | some d => π.loop hs d fun d again => eC x (pin.unpack l hs d) (fun fr' => match fr'.pack l hs with | some d' => again d' | none => π.fail) kx kr
    | none => π.fail
   | none => π.fail
  | none => π.fail
 | .scope x, fr, kn, kx, kr => eC x fr kn kx kr
 | .exit id, fr, _, kx, _ => kx id fr
 | .ret, fr, _, _, kr => kr fr
 | _, _, _, _, _ => π.fail
def fB : List ResultVar → Fr → (List Value → W) → W
 | [], _, k => k []
 | .tmp t :: l, fr, k => match fr.env.ev (.tmp t) with
  | some v => fB l fr fun vs => k (v :: vs)
  | none => π.fail
 | .cell c t :: l, fr, k => match fr.env.ev (.tmp c) with
  | some (.pointer (some a)) => match shapeOf P t with
   | some h => π.ld h.2 a fun y => fB l fr fun vs => k (h.mk y :: vs)
   | none => π.fail
  | _ => π.fail
def iG : List Value → Value
 | [v] => v
 | vs => .tuple vs.toArray
def H9 (fn : Func) (c : Code) (fr : Fr) : W :=
 eC π P ann pin c fr (fun fr' => fB π P fn.results.toList fr' fun vs => π.ret (iG vs)) (fun _ _ => π.fail)
  (fun fr' => fB π P fn.results.toList fr' fun vs => π.ret (iG vs))
end
section
variable {P : Program} {R : Value → PH → Prop} {w0 : World} {s0 : PH} {pin : Fr} {ann : lU}
theorem DH {ops : Array Oper} {quiet : List Nat} {Q : Exit → Act → World → Prop} (hfree : ∀ (i : Nat) (o : Oper), ops[i]? = some o → iF pin o.dst = true) : ∀ (l : List Nat) (fr : Fr) (s : PH) (k : Fr → PH → Prop),
  qf w0 s0 pin (Q .normal) k → tj (RP P R) P ops quiet l fr k s → ∀ a w, fr.le a → pin.le a → Rel w0 s0 s w → wpOps P ops Q l a w := by
 intro l
 induction l with
 | nil => intro fr s k hk h a w hf hp hr; exact hk _ _ h _ _ hf hp hr
 | cons i l ih =>
  intro fr s k hk h a w hf hp hr;rw [wpOps_cons];exact CZ (fun fr' s' h' a' w' hf' hp' hr' => ih fr' s' k hk h' a' w' hf' hp' hr') h hf hp (hfree i) hr
theorem Ga {ops : Array Oper} (h : (ops.all fun (o : Oper) => iF pin o.dst) = true) : ∀ (i : Nat) (o : Oper), ops[i]? = some o → iF pin o.dst = true := by
 intro i o ho;rw [Array.all_eq_true_iff_forall_mem] at h;exact h o (Array.mem_of_getElem? ho)
theorem yV {l : List (PH → Prop)} {s : PH} (h : vB (RP P R) l s) : l ≠ [] ∧ ∀ x ∈ l, x s := by
 induction l with
 | nil => exact h.elim
 | cons x l ih =>
  refine ⟨by simp, ?_⟩
  cases l with
  | nil => intro y hy; simp at hy; subst hy; exact h
  | cons z l =>
   obtain ⟨h1, h2⟩ := h;intro y hy;rcases List.mem_cons.1 hy with rfl | hy
   ·exact h1
   ·exact (ih h2).2 y hy
def wE (P : Program) (id : Nat) (ops : Array Oper) (d : iC) : Prop :=
 ∀ (R : Value → PH → Prop) (w0 : World) (s0 : PH) (pin : Fr) (Q : Exit → Act → World → Prop) (fr : Fr) (s : PH) (k : Fr → PH → Prop),
  (∀ (i : Nat) (o : Oper), ops[i]? = some o → iF pin o.dst = true) → qf w0 s0 pin (Q .normal) k →
  tj (RP P R) P ops d.quiet d.A fr (fun fr' => fz (RP P R) P ops d.eB d.eag ops.size (bY ops d.A) fr' k) s →
  ∀ a w, fr.le a → pin.le a → Rel w0 s0 s w → (Code.region id ops true).wp P Q a w
def iS (P : Program) (ann : lU) : Code → Prop
 | .region id ops draw => draw = true → ∀ d, ann.draws.lookup id = some d → wE P id ops d
 | .seq a b => iS P ann a ∧ iS P ann b
 | .cond _ a b => iS P ann a ∧ iS P ann b
 | .block _ a => iS P ann a
 | .loop a => iS P ann a
 | .scope a => iS P ann a
 | _ => True
theorem yz {id : Nat} {ops : Array Oper} {draw : Bool} (hd : iS P ann (.region id ops draw)) {Q : Exit → Act → World → Prop} {k : Fr → PH → Prop} (hk : qf w0 s0 pin (Q .normal) k) :
  qf w0 s0 pin (fun a w => (Code.region id ops draw).wp P Q a w) (fun fr => mu (RP P R) P ann pin id ops draw fr k) := by
 intro fr s h a w hf hp hr
 generalize hG : mu (RP P R) P ann pin id ops draw fr k = G at h
 unfold mu at hG
 split at hG
 ·rename_i hfr
  have hfree := Ga hfr
  split at hG
  ·rename_i hdr; subst hdr
   split at hG
   ·rename_i d hok
    subst hG;exact hd rfl d hok R w0 s0 pin Q fr s k hfree hk h a w hf hp hr
   ·subst hG; exact h.elim
  ·rename_i hdr
   have : draw = false := by simpa using hdr
   subst this;subst hG;exact wp_region (DH hfree _ fr s k hk h a w hf hp hr)
 ·subst hG; exact h.elim
theorem F1 {P : Program} {c : Code} {Q : Exit → Act → World → Prop} (I : Nat → Act → World → Prop)
  (round : ∀ n a w, I n a w → c.wp P (Exit.then (fun a' w' => ∃ m, m < n ∧ I m a' w') Q) a w) : ∀ {n : Nat} {a : Act} {w : World}, I n a w → (Code.loop c).wp P Q a w := by
 intro n a w h0 b k cs
 have key : ∀ n a w, I n a w → ∃ e a' w', Q e a' w' ∧ Arrives P (lone (b.at a (.code c :: .inLoop c :: k)) cs w) b k cs e a' w' := by
  intro n
  induction n using Nat.strongRecOn with
  | _ n ih =>
   intro a w hI;obtain ⟨e, a1, w1, hq, harr⟩ := round n a w hI b (.inLoop c :: k) cs
   cases e with
   | normal =>
    obtain ⟨m, hm, hI1⟩ := hq;obtain ⟨e2, a2, w2, hq2, harr2⟩ := ih m hm a1 w1 hI1;exact ⟨e2, a2, w2, hq2, .of_steps (Steps.trans harr (.one step_inLoop)) harr2⟩
   | exit id => exact ⟨_, a1, w1, hq, .pass (x := .inLoop c) rfl (fun _ _ => .inl (by simp)) harr⟩
   | goto l => exact ⟨_, a1, w1, hq, .pass (x := .inLoop c) rfl (fun _ _ => .inl (by simp)) harr⟩
   | ret => exact ⟨_, a1, w1, hq, .pass (x := .inLoop c) rfl (fun _ _ => .inl (by simp)) harr⟩
   | panic ch => exact ⟨_, a1, w1, hq, .pass (x := .inLoop c) rfl (fun _ _ => .inl (by simp)) harr⟩
   | outgrown => exact ⟨_, a1, w1, hq, .pass (x := .inLoop c) rfl (fun _ _ => .inl (by simp)) harr⟩
 obtain ⟨e, a', w', hq, harr⟩ := key n a w h0;exact ⟨e, a', w', hq, .of_steps (.one step_loop) harr⟩
theorem Fr.le.refine {fr : Fr} {a : Act} (h : fr.le a) {c : Operand} {x : AV} {v : Value} (hc : fr.env.av c = some (.v v)) (hx : x.val = v) : (fr.refine c x).le a := by
 cases c with
 | tmp t =>
  refine h.yE ?_;simp only [Env.av, Fr.env, Fr.av] at hc
  split at hc
  ·rename_i y hy
   simp at hc; subst hc;rw [hx]; exact h.at_ _ _ hy
  ·cases hc
 | _ => exact h
theorem Bf : ∀ (c : Code) (_ : iS P ann c) (kn : Fr → PH → Prop) (kx : Nat → Fr → PH → Prop) (kr : Fr → PH → Prop) (Q : Exit → Act → World → Prop),
  qf w0 s0 pin (Q .normal) kn → (∀ id, qf w0 s0 pin (Q (.exit id)) (kx id)) → qf w0 s0 pin (Q .ret) kr →
  qf w0 s0 pin (fun a w => c.wp P Q a w) (fun fr => eC (RP P R) P ann pin c fr kn kx kr) := by
 intro c
 induction c with
 | skip => intro hd kn kx kr Q h1 h2 h3 fr s h a w hf hp hr; exact wp_skip (h1 _ _ h _ _ hf hp hr)
 | region id ops draw => intro hd kn kx kr Q h1 h2 h3; exact yz hd h1
 | seq x y ihx ihy =>
  intro hd kn kx kr Q h1 h2 h3 fr s h a w hf hp hr;refine wp_seq ?_
  generalize hG : eC (RP P R) P ann pin (.seq x y) fr kn kx kr = G at h
  unfold eC at hG;have hy := ihy hd.2 kn kx kr Q h1 h2 h3
  split at hG
  ·rename_i l hl
   split at hG
   ·rename_i hs hhs
    subst hG;refine ihx hd.1 _ kx kr (Exit.then (y.wp P Q) Q) ?_ h2 h3 fr s h a w hf hp hr;intro fr' s' h' a' w' hf' hp' hr'
    cases hpk : fr'.pack l hs with
    | none => rw [hpk] at h'; exact h'.elim
    | some d =>
     rw [hpk] at h';exact hy _ _ h' _ _ (hf'.unpack _ _ _ _ hp' hpk) hp' hr'
   ·subst hG; exact h.elim
  ·subst hG;exact ihx hd.1 _ kx kr (Exit.then (y.wp P Q) Q) (fun fr' s' h' a' w' hf' hp' hr' => hy _ _ h' _ _ hf' hp' hr') h2 h3 fr s h a w hf hp hr
 | cond c x y ihx ihy =>
  intro hd kn kx kr Q h1 h2 h3 fr s h a w hf hp hr
  generalize hG : eC (RP P R) P ann pin (.cond c x y) fr kn kx kr = G at h
  unfold eC at hG
  split at hG
  ·rename_i hc; subst hG
   exact wp_cond_true (hf.env.av hc) (ihx hd.1 kn kx kr Q h1 h2 h3 _ _ h _ _ hf hp hr)
  ·rename_i hc; subst hG
   exact wp_cond_false (hf.env.av hc) (ihy hd.2 kn kx kr Q h1 h2 h3 _ _ h _ _ hf hp hr)
  ·rename_i b hc; subst hG
   have hcv : a.eval c = .bool b := hf.env.av hc
   cases b with
   | true => exact wp_cond_true hcv (ihx hd.1 kn kx kr Q h1 h2 h3 _ _ (by simpa [RP, W.br] using h) _ _ (hf.refine hc rfl) hp hr)
   | false => exact wp_cond_false hcv (ihy hd.2 kn kx kr Q h1 h2 h3 _ _ (by simpa [RP, W.br] using h) _ _ (hf.refine hc rfl) hp hr)
  ·subst hG; exact h.elim
 | block id x ih =>
  intro hd kn kx kr Q h1 h2 h3 fr s h a w hf hp hr;refine wp_block (ih hd kn _ kr (Exit.inBlock id Q) h1 ?_ h3 fr s h a w hf hp hr);intro id' fr' s' h' a' w' hf' hp' hr';simp only [Exit.inBlock]
  split at h'
  ·rename_i e; rw [if_pos e]; exact h1 _ _ h' _ _ hf' hp' hr'
  ·rename_i e; rw [if_neg e]; exact h2 _ _ _ h' _ _ hf' hp' hr'
 | loop x ih =>
  intro hd kn kx kr Q h1 h2 h3 fr s h a w hf hp hr
  generalize hG : eC (RP P R) P ann pin (.loop x) fr kn kx kr = G at h
  unfold eC at hG
  split at hG
  ·rename_i l hl
   split at hG
   ·rename_i hs hhs
    split at hG
    ·rename_i d0 hpk
     subst hG;obtain ⟨I, μ, h0, hI⟩ := h;refine F1 (fun n a w => ∃ d s, I d s ∧ μ d s = n ∧ (pin.unpack l hs d).le a ∧ pin.le a ∧ Rel w0 s0 s w) ?_ (n := μ d0 s) ⟨d0, s, h0, rfl, hf.unpack _ _ _ _ hp hpk, hp, hr⟩;rintro n a w ⟨d, s, hId, rfl, hf, hp, hr⟩;refine ih hd _ kx kr (Exit.then _ Q) ?_ h2 h3 _ s (hI d s hId) a w hf hp hr;intro fr' s' h' a' w' hf' hp' hr'
     cases hpk' : fr'.pack l hs with
     | none => rw [hpk'] at h'; exact h'.elim
     | some d' =>
      rw [hpk'] at h';exact ⟨μ d' s', h'.2, d', s', h'.1, rfl, hf'.unpack _ _ _ _ hp' hpk', hp', hr'⟩
    ·subst hG; exact h.elim
   ·subst hG; exact h.elim
  ·subst hG; exact h.elim
 | scope x ih =>
  intro hd kn kx kr Q h1 h2 h3 fr s h a w hf hp hr;exact wp_scope_straight (ih hd kn kx kr (Exit.noGoto Q) h1 h2 h3 fr s h a w hf hp hr)
 | exit id => intro hd kn kx kr Q h1 h2 h3 fr s h a w hf hp hr; exact wp_exit (h2 _ _ _ h _ _ hf hp hr)
 | ret => intro hd kn kx kr Q h1 h2 h3 fr s h a w hf hp hr; exact wp_ret (h3 _ _ h _ _ hf hp hr)
 | _ => intro hd kn kx kr Q h1 h2 h3 fr s h a w hf hp hr; exact h.elim
def uD (a : Act) : ResultVar → Sem Value
 | .tmp t => pure (a.tmps.getD t undef)
 | .cell c t => do loadVar t (← asAddr (a.tmps.getD c undef))
theorem wj {rs : List ResultVar} {s : PH} {a : Act} {w : World} : ∀ {fr : Fr} {k : List Value → PH → Prop}, fr.le a → Rel w0 s0 s w → fB (RP P R) P rs fr k s →
  ∃ vs, (rs.mapM (uD a)).run P w = .ok vs w ∧ k vs s ∧ vs.length = rs.length := by
 induction rs with
 | nil => intro fr k hf hr h; exact ⟨[], rfl, h, rfl⟩
 | cons r rs ih =>
  intro fr k hf hr h
  cases r with
  | tmp t =>
   simp only [fB] at h
   cases hv : fr.env.ev (.tmp t) with
   | none => rw [hv] at h; exact h.elim
   | some v =>
    rw [hv] at h;obtain ⟨vs, h1, h2, h3⟩ := ih hf hr h;have e : a.tmps.getD t undef = v := hf.env.ev hv;refine ⟨v :: vs, ?_, h2, by simp [h3]⟩;simp only [List.mapM_cons, uD, Sem.run_bind, Sem.run_pure, Result.andThen_ok, h1, e]
  | cell c t =>
   simp only [fB] at h
   generalize hG : fr.env.ev (.tmp c) = x at h
   split at h
   ·rename_i ad
    cases hsh : shapeOf P t with
    | none => rw [hsh] at h; exact h.elim
    | some hh =>
     rw [hsh] at h;obtain ⟨y, hc, h⟩ := h;obtain ⟨vs, h1, h2, h3⟩ := ih hf hr h;have e : a.tmps.getD c undef = .pointer (some ad) := hf.env.ev hG;refine ⟨hh.mk y :: vs, ?_, h2, by simp [h3]⟩;have hl := pR (P := P) hsh hc hr.sub;simp only [List.mapM_cons, uD, Sem.run_bind, e, asAddr, Sem.run_pure, Result.andThen_ok, hl, h1]
   ·exact h.elim
theorem vG {f : FuncId} {fn : Func} {c : Code} (hd : iS P ann c) {args : Array Value} {s : PH} {Q : Value → PH → Prop} (hf : P.funcs[f]? = some fn) (hb : fn.body = some c)
  (fr0 pin : Fr) (hargs : ∀ (t : Nat) (x : AV), fr0[t]? = some (some x) → args[t]? = some x.val) (hlen : fr0.length ≤ fn.ntmps)
  (hpins : ∀ (t : Nat) (x : AV), pin[t]? = some (some x) → fr0[t]? = some (some x)) (hplen : pin.length ≤ fn.ntmps)
  (h : H9 (RP P Q) P ann pin fn c fr0 s) : bu P f args s Q := by
 intro w hw;refine calls_of_wp hf hb ?_;have hr := Rel.start hw
 have hf0 : fr0.le { tmps := args ++ Array.replicate (fn.ntmps - args.size) undef, defers := [] } := by
  refine ⟨rfl, by simp; omega, ?_⟩;intro t x e;have := hargs t x e
  have hlt : t < args.size := by
   rcases Nat.lt_or_ge t args.size with q | q
   ·exact q
   ·simp [Array.getElem?_eq_none q] at this
  rw [Array.getElem?_append_left hlt]; exact this
 have hpin : pin.le { tmps := args ++ Array.replicate (fn.ntmps - args.size) undef, defers := [] } :=
  ⟨rfl, by simp; omega, fun t x e => hf0.at_ t x (hpins t x e)⟩
 have hend : qf w s pin (fun a w' => a.defers = [] ∧ ∃ v, (results fn a.tmps).run P w' = .ok v w' ∧ ∃ v' s', Ending.returned v = .returned v' ∧ Rel w s s' w' ∧ Q v' s')
   (fun fr' => fB (RP P Q) P fn.results.toList fr' fun vs => (RP P Q).ret (iG vs)) := by
  intro fr' s' h' a' w' hf' hp' hr';obtain ⟨vs, h1, h2, h3⟩ := wj hf' hr' h';refine ⟨hf'.defers, iG vs, ?_, iG vs, s', rfl, hr', h2⟩
  have e : results fn a'.tmps = (do let vs ← List.toArray <$> fn.results.toList.mapM (uD a'); pure (if h : vs.size = 1 then vs[0] else .tuple vs)) := by
   unfold results;rw [Array.mapM_eq_mapM_toList]
   congr 2
  rw [e];simp only [Sem.run_bind, Sem.run_map, h1, Result.andThen_ok, Sem.run_pure]
  congr 1
  match vs with
  | [] => rfl
  | [v] => rfl
  | v :: v' :: vs =>
   simp only [iG];rw [dif_neg (by simp)]
 refine Bf c hd _ _ _ (bodyPost P fn _) hend (fun id fr' s' h' => h'.elim) hend fr0 s h _ _ hf0 hpin hr
end
end Fw
end
