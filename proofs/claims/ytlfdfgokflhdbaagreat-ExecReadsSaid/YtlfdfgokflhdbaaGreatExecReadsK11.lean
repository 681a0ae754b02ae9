/-
  Part 11 for the law: lemmas.
  Conditions: none.
-/
import Derived.Test.YtlfdfgokflhdbaaGreatExecReadsK10
set_option linter.unusedVariables false
set_option linter.unusedSimpArgs false
set_option linter.unusedSectionVars false
section
namespace Fw
open Go
section
variable {W : Type} {π : fX W} {P : Program} {ρ ρ' : Env} {o : Oper}
theorem nE {xs : List Operand} (h : ∀ x ∈ xs, ρ x = ρ' x) : ρ.known xs = ρ'.known xs := by
 unfold Env.known
 induction xs with
 | nil => rfl
 | cons x xs ih => simp only [List.all_cons, h x (by simp), ih fun y hy => h y (by simp [hy])]
theorem eZ (hs : ∀ cs b, o.op ≠ .select cs b) {put : AV → W} (h : ∀ x ∈ o.op.operands.toList, ρ x = ρ' x) : dG π P ρ o put = dG π P ρ' o put := by
 unfold dG
 have he : execOp ρ.eX o = execOp ρ'.eX o := execOp_congr o hs fun x hx => by simp only [Env.eX, h x (by simpa using hx)]
 rw [nE h, he]
theorem l8 (hs : ∀ cs b, o.op ≠ .select cs b) {put : AV → W} (h : ∀ x ∈ o.op.operands.toList, ρ x = ρ' x) : kS π P ρ o put = kS π P ρ' o put := by
 unfold kS
 have he : execOp ρ.eX o = execOp ρ'.eX o := execOp_congr o hs fun x hx => by simp only [Env.eX, h x (by simpa using hx)]
 rw [nE h, he]
theorem mN {x : Option Operand} {d : Int} (h : ∀ y, x = some y → ρ y = ρ' y) : dK ρ x d = dK ρ' x d := by
 cases x with
 | none => rfl
 | some y => simp only [dK, Env.ev, h y rfl]
theorem wW {q : Bool} {pt : Option AV → W} (h : ∀ x ∈ o.op.operands.toList, ρ x = ρ' x) : gd π P ρ q o pt = gd π P ρ' q o pt := by
 unfold gd
 cases ho : o.op with
 | select cs b => rfl
 | go c => rfl
 | defer c => rfl
 | panic x => rfl
 | send a b => rfl
 | recv a b c => rfl
 | ready g => rfl
 | waits g => rfl
 | sliceToArrayPointer a b => rfl
 | makeChan a b => rfl
 | mapEntry a b c => rfl
 | entryStore a b c d => rfl
 | typeAssert a b c d => rfl
 | move x => have := h x (by simp [ho, Op.operands]); simp only [Env.av, this]
 | assign x => have := h x (by simp [ho, Op.operands]); simp only [Env.av, this]
 | pick c x y =>
  have h1 := h c (by simp [ho, Op.operands]); have h2 := h x (by simp [ho, Op.operands]); have h3 := h y (by simp [ho, Op.operands]);simp only [Env.av, h1, h2, h3]
 | load t x => have := h x (by simp [ho, Op.operands]); simp only [Env.ev, this]
 | store t x y =>
  have h1 := h x (by simp [ho, Op.operands]); have h2 := h y (by simp [ho, Op.operands]);simp only [Env.ev, Env.av, h1, h2]
 | nilCheck x => have := h x (by simp [ho, Op.operands]); simp only [Env.av, this]
 | binOp op t x y t' =>
  have h1 := h x (by simp [ho, Op.operands]); have h2 := h y (by simp [ho, Op.operands]);have h3 : ∀ put : AV → W, dG π P ρ o put = dG π P ρ' o put := fun put => eZ (by simp [ho]) h;simp only [jY, Env.ev, h1, h2, h3]
 | unOp op t x =>
  have h1 := h x (by simp [ho, Op.operands]);have h3 : ∀ put : AV → W, dG π P ρ o put = dG π P ρ' o put := fun put => eZ (by simp [ho]) h;simp only [Env.av, h1, h3]
 | alloc _ => exact l8 (by simp [ho]) h
 | box _ _ => exact l8 (by simp [ho]) h
 | buildSlice _ _ _ => exact l8 (by simp [ho]) h
 | makeMap _ _ => exact l8 (by simp [ho]) h
 | indexAddr t x i =>
  have h1 := h x (by simp [ho, Op.operands]); have h2 := h i (by simp [ho, Op.operands]);simp only [Env.ev, h1, h2]
 | index t x i =>
  have h1 := h x (by simp [ho, Op.operands]); have h2 := h i (by simp [ho, Op.operands]);simp only [Env.ev, h1, h2]
 | slice t x lo hi mx =>
  have h1 := h x (by simp [ho, Op.operands]);have h2 : ∀ d, dK ρ lo d = dK ρ' lo d := fun d => mN fun y hy => h y (by simp [ho, Op.operands, hy]);have h3 : ∀ d, dK ρ hi d = dK ρ' hi d := fun d => mN fun y hy => h y (by simp [ho, Op.operands, hy]);have h4 : ∀ d, dK ρ mx d = dK ρ' mx d := fun d => mN fun y hy => h y (by simp [ho, Op.operands, hy]);simp only [jx, Env.ev, h1, h2, h3, h4]
 | lookup t m key ok =>
  have h1 := h m (by simp [ho, Op.operands]); have h2 := h key (by simp [ho, Op.operands]);simp only [Env.ev, h1, h2]
 | mapUpdate t m key x =>
  have h1 := h m (by simp [ho, Op.operands]); have h2 := h key (by simp [ho, Op.operands]); have h3 := h x (by simp [ho, Op.operands]);simp only [Env.ev, h1, h2, h3]
 | insert t m key x =>
  have h1 := h m (by simp [ho, Op.operands]); have h2 := h key (by simp [ho, Op.operands]); have h3 := h x (by simp [ho, Op.operands]);simp only [Env.ev, h1, h2, h3]
 | makeSlice t l c =>
  have h1 := h l (by simp [ho, Op.operands]); have h2 := h c (by simp [ho, Op.operands]);simp only [Env.ev, h1, h2]
 | convert t d x =>
  have h1 := h x (by simp [ho, Op.operands]);have h3 : ∀ put : AV → W, dG π P ρ o put = dG π P ρ' o put := fun put => eZ (by simp [ho]) h;simp only [Env.ev, h1, h3]
 | fieldAddr _ _ _ => exact eZ (by simp [ho]) h
 | field _ _ _ => exact eZ (by simp [ho]) h
 | range t m =>
  have h1 := h m (by simp [ho, Op.operands]);simp only [Env.ev, h1]
 | next it b =>
  have h1 := h it (by simp [ho, Op.operands]);simp only [Env.ev, h1]
 | entry it =>
  have h1 := h it (by simp [ho, Op.operands]);simp only [Env.ev, h1]
 | extract x i =>
  have h1 := h x (by simp [ho, Op.operands]);have h3 : ∀ put : AV → W, dG π P ρ o put = dG π P ρ' o put := fun put => eZ (by simp [ho]) h;simp only [Env.av, h1, h3]
 | build _ _ => exact eZ (by simp [ho]) h
 | makeFunc _ _ _ => exact eZ (by simp [ho]) h
 | makeInterface _ _ => exact eZ (by simp [ho]) h
 | call c =>
  have hops : ∀ x ∈ c.operands.toList, ρ x = ρ' x := fun x hx => h x (by simpa [ho, Op.operands] using hx);have hargs : ∀ x ∈ c.args.toList, ρ x = ρ' x := fun x hx => hops x (by simp only [Call.operands, Array.toList_append, List.mem_append]; exact .inr hx);have h1 := nE hargs
  have h2 : c.args.map ρ.eX = c.args.map ρ'.eX := Array.map_congr_left fun x hx => by simp only [Env.eX, hargs x (by simpa using hx)]
  have h3 : ∀ put : AV → W, dG π P ρ o put = dG π P ρ' o put := fun put => eZ (by simp [ho]) h
  show jB π P ρ q o c _ = jB π P ρ' q o c _
  unfold jB;simp only [h1, h2, h3]
  cases hc : c.callee with
  | value f =>
   have h4 : ρ f = ρ' f := hops f (by simp [Call.operands, hc]);simp only [Env.av, h4]
  | invoke a b =>
   have h4 : ρ a = ρ' a := hops a (by simp [Call.operands, hc]);simp only [Env.ev, h4]
  | builtin b => cases b <;> simp only [h3]
end
inductive KY where
 | pure | read | alloc | eff
 deriving DecidableEq
def cls (P : Program) (q : Bool) (o : Oper) : KY :=
 match o.op with
 | .move _ | .assign _ | .pick _ _ _ | .nilCheck _ | .binOp _ _ _ _ _ | .unOp _ _ _ | .indexAddr _ _ _ | .index _ _ _ | .slice _ _ _ _ _ | .fieldAddr _ _ _ | .field _ _ _ | .extract _ _ | .build _ _ | .makeFunc _ _ _
 | .makeInterface _ _ => .pure
 | .load _ _ | .lookup _ _ _ _ => .read
 | .convert _ d _ => if (toSlice P d).isSome then .alloc else .read
 | .alloc _ | .box _ _ | .buildSlice _ _ _ | .makeMap _ _ | .makeSlice _ _ _ => .alloc
 | .call c => match c.callee with
  | .builtin .len | .builtin .cap | .builtin .min | .builtin .max => .pure
  | .value (.func _) => if q then .read else .eff
  | _ => .eff
 | _ => .eff
abbrev Pt := Option AV → PH → Prop
def Pure (h : Pt → PH → Prop) : Prop := ∀ pt s, h pt s → ∃ x, pt x s ∧ ∀ s' (pt' : Pt), pt' x s' → h pt' s'
def fG (h : Pt → PH → Prop) : Prop := ∀ pt s, h pt s → ∃ x, pt x s ∧ ∀ s' (pt' : Pt), s.le s' → pt' x s' → h pt' s'
theorem Pure.quiet {h : Pt → PH → Prop} (k : Pure h) : fG h := fun pt s e => let ⟨x, h1, h2⟩ := k pt s e; ⟨x, h1, fun s' pt' _ h => h2 s' pt' h⟩
def gW (h : Pt → PH → Prop) : Prop := ∀ pt s, h pt s → h (fun x s' => pt x s' ∧ s.le s') s
section
variable {P : Program} {R : Value → PH → Prop}
theorem Pure.fail : Pure fun _ => (RP P R).fail := fun _ _ h => h.elim
theorem Pure.ext {v : Value} {i : Nat} {hh : Shape} {f : Den hh.2 → Option AV} : Pure fun pt => (RP P R).ext v i hh fun x => pt (f x) :=
 fun pt s ⟨vs, x, h1, h2, e⟩ => ⟨f x, e, fun s' pt' q => ⟨vs, x, h1, h2, q⟩⟩
theorem Pure.put (x : Option AV) : Pure fun pt => pt x := fun pt s h => ⟨x, h, fun _ _ h => h⟩
theorem Pure.guard {c : Prop} {h : Pt → PH → Prop} (k : Pure h) : Pure fun pt => (RP P R).guard c (h pt) :=
 fun pt s ⟨hc, e⟩ => let ⟨x, h1, h2⟩ := k pt s e; ⟨x, h1, fun s' pt' q => ⟨hc, h2 s' pt' q⟩⟩
theorem Pure.aa {p : OA} {h : Addr → Pt → PH → Prop} (k : ∀ a, Pure (h a)) : Pure fun pt => (RP P R).aa p fun a => h a pt :=
 fun pt s ⟨a, ha, e⟩ => let ⟨x, h1, h2⟩ := k a pt s e; ⟨x, h1, fun s' pt' q => ⟨a, ha, h2 s' pt' q⟩⟩
theorem Pure.ite {b : Bool} {h1 h2 : Pt → PH → Prop} (k1 : Pure h1) (k2 : Pure h2) : Pure fun pt => (RP P R).ite b (h1 pt) (h2 pt) := by
 cases b with
 | true => intro pt s e; obtain ⟨x, q1, q2⟩ := k1 pt s (by simpa [RP, W.br] using e); exact ⟨x, q1, fun s' pt' q => by simpa [RP, W.br] using q2 s' pt' q⟩
 | false => intro pt s e; obtain ⟨x, q1, q2⟩ := k2 pt s (by simpa [RP, W.br] using e); exact ⟨x, q1, fun s' pt' q => by simpa [RP, W.br] using q2 s' pt' q⟩
theorem hY {s s' : PH} (h : s.le s') {a : Addr} {vs : List Value} (k : s.has a vs) : s'.has a vs := fun i v e => h.cell (k i v e)
theorem fG.ld {cs : List CT} {a : Addr} {f : Den cs → Option AV} : fG fun pt => (RP P R).ld cs a fun x => pt (f x) :=
 fun pt s ⟨x, hx, e⟩ => ⟨f x, e, fun s' pt' hle q => ⟨x, hY hle hx, q⟩⟩
theorem jg {s s' : PH} (h : s.le s') {m : Option Nat} {es : Array MapEntry} {c : Nat} (k : nq s m es c) : nq s' m es c := by
 cases m with
 | none => exact k
 | some r => exact h _ _ k
theorem fG.look {kd : TypeDesc} {m : Option Nat} {key zero : Value} {hh : Shape} {f : Den hh.2 → Bool → Option AV} : fG fun pt => (RP P R).look kd m key zero hh fun x b => pt (f x b) := by
 rintro pt s ⟨es, c, res, h1, h2, h3⟩
 cases res with
 | none => obtain ⟨x, hx, e⟩ := h3; exact ⟨f x false, e, fun s' pt' hle q => ⟨es, c, none, jg hle h1, h2, x, hx, q⟩⟩
 | some r => obtain ⟨i, v⟩ := r; obtain ⟨x, hx, e⟩ := h3; exact ⟨f x true, e, fun s' pt' hle q => ⟨es, c, some (i, v), jg hle h1, h2, x, hx, q⟩⟩
theorem fG.gv {kt : TypeId} {m : Option Nat} {key zero : Value} {hh : Shape} {f : Den hh.2 → Bool → Option AV} : fG fun pt => (RP P R).gv kt m key zero hh fun x b => pt (f x b) := by
 rintro pt s ⟨es, c, res, h1, h2, h3⟩
 cases res with
 | none => obtain ⟨x, hx, e⟩ := h3; exact ⟨f x false, e, fun s' pt' hle q => ⟨es, c, none, jg hle h1, h2, x, hx, q⟩⟩
 | some r => obtain ⟨i, v⟩ := r; obtain ⟨x, hx, e⟩ := h3; exact ⟨f x true, e, fun s' pt' hle q => ⟨es, c, some (i, v), jg hle h1, h2, x, hx, q⟩⟩
theorem fG.jX {a : OA} {n : Nat} {f : BA → Option AV} : fG fun pt => (RP P R).jX a n fun t => pt (f t) := by
 rintro pt s ⟨bs, h1, e⟩;refine ⟨f bs, e, fun s' pt' hle q => ⟨bs, ?_, q⟩⟩
 cases a with
 | none => exact h1
 | some a => exact ⟨h1.1, hY hle h1.2⟩
theorem GN {s s' : PH} (h : s.le s') : ∃ t : PH, s' = s.or t ∧ ∀ k, t k ≠ none → s k = none := by
 refine ⟨fun k => if (s k).isSome then none else s' k, ?_, ?_⟩
 ·funext k
  simp only [PH.or]
  cases e : s k with
  | none => simp
  | some o => simp [h _ _ e]
 ·intro k hk
  cases e : s k with
  | none => rfl
  | some o => simp [e] at hk
theorem fG.cy {g : FuncId} {args : Array Value} {r : Bool × List Shape} {f : bR r.2 → Option AV} : fG fun pt => (RP P R).cy g args r fun x => pt (f x) := by
 rintro pt s ⟨x, hd, e⟩;refine ⟨f x, e, fun s' pt' hle q => ⟨x, ?_, q⟩⟩;obtain ⟨t, rfl, ht⟩ := GN hle
 exact (hd.frame t ht).mono fun v u ⟨s1, h1, _, h2, h3⟩ => ⟨h2, by rw [h1, h3]⟩
theorem qM {ρ : Env} {o : Oper} : Pure fun pt => dG (RP P R) P ρ o fun x => pt (some x) := by
 unfold dG
 cases ρ.known o.op.operands.toList with
 | false => exact Pure.fail
 | true =>
  simp only [if_true];rcases dz P (execOp ρ.eX o) with _ | nx
  ·exact Pure.fail
  ·cases nx <;> first | exact Pure.put _ | exact Pure.fail
theorem Eb {ρ : Env} {o : Oper} {op : BinOp} {t : TypeId} {x y : Operand} : Pure fun pt => jY (RP P R) P ρ o op t x y fun x => pt (some x) := by
 have hrun := qM (P := P) (R := R) (ρ := ρ) (o := o)
 have eqs : Pure fun pt => if sZ y then match ρ.ev x with
   | some v => match zX P t v with
    | some b => if gP y v then (fun x => pt (some x)) (.v (lT (jD op) b)) else (RP P R).fail
    | none => (RP P R).fail
   | none => (RP P R).fail
  else match ρ.ev x, ρ.ev y with
  | some (.agg xs), some (.agg ys) =>
   if P.eqGuardType P.depth t then (RP P R).fail else
   match pP P 9 t (.agg xs) (.agg ys) with
   | some b => (fun x => pt (some x)) (.v (lT (jD op) b))
   | none => (RP P R).fail
  | _, _ => dG (RP P R) P ρ o (fun x => pt (some x)) := by
  split
  ·split
   ·split
    ·split
     ·exact Pure.put _
     ·exact Pure.fail
    ·exact Pure.fail
   ·exact Pure.fail
  ·split
   ·split
    ·exact Pure.fail
    ·split
     ·exact Pure.put _
     ·exact Pure.fail
   ·exact hrun
 unfold jY
 cases op with
 | add =>
  dsimp only
  split
  ·exact Pure.guard (Pure.put _)
  ·exact hrun
 | quo =>
  dsimp only
  split
  ·split
   ·split
    ·exact hrun
    ·exact Pure.guard (Pure.put _)
   ·exact Pure.fail
  ·exact Pure.fail
 | rem =>
  dsimp only
  split
  ·split
   ·split
    ·exact hrun
    ·exact Pure.guard (Pure.put _)
   ·exact Pure.fail
  ·exact Pure.fail
 | shl =>
  dsimp only
  split
  ·split
   ·exact hrun
   ·exact Pure.guard (Pure.put _)
  ·exact Pure.fail
 | shr =>
  dsimp only
  split
  ·split
   ·exact hrun
   ·exact Pure.guard (Pure.put _)
  ·exact Pure.fail
 | eql => exact eqs
 | neq => exact eqs
 | _ => exact hrun
theorem BD {ρ : Env} {t : TypeId} {x : Operand} {lo hi mx : Option Operand} : Pure fun pt => jx (RP P R) P ρ t x lo hi mx fun x => pt (some x) := by
 unfold jx
 split
 ·split
  ·split
   ·exact Pure.guard (Pure.put _)
   ·exact Pure.fail
  ·exact Pure.fail
 ·split
  ·split
   ·split
    ·split
     ·exact Pure.guard (Pure.put _)
     ·exact Pure.fail
    ·split
     ·exact Pure.guard (Pure.put _)
     ·exact Pure.fail
    ·exact Pure.fail
   ·exact Pure.fail
  ·exact Pure.fail
 ·exact Pure.fail
theorem Ad {ρ : Env} {q : Bool} {o : Oper} (hc : cls P q o = .pure) : Pure fun pt => gd (RP P R) P ρ q o pt := by
 have hrun := qM (P := P) (R := R) (ρ := ρ) (o := o)
 have avp : ∀ x, Pure fun pt => (match ρ.av x with | some u => pt (some u) | none => (RP P R).fail : PH → Prop) := by
  intro x; split
  ·exact Pure.put _
  ·exact Pure.fail
 unfold cls at hc;unfold gd
 cases ho : o.op with
 | move x => exact avp x
 | assign x => exact avp x
 | pick c x y =>
  dsimp only
  split
  ·exact avp x
  ·exact avp y
  ·exact Pure.ite (avp x) (avp y)
  ·exact Pure.fail
 | nilCheck x =>
  dsimp only
  split
  ·exact Pure.aa fun a => Pure.put _
  ·exact Pure.put _
  ·exact Pure.guard (Pure.put _)
  ·exact Pure.fail
 | binOp op t x y t' => exact Eb
 | unOp op t x =>
  dsimp only
  split
  ·exact Pure.put _
  ·exact Pure.put _
  ·exact hrun
 | indexAddr t x i =>
  dsimp only
  split
  ·split
   ·split
    ·exact Pure.guard (Pure.aa fun a => Pure.put _)
    ·exact Pure.fail
   ·exact Pure.fail
  ·split
   ·split
    ·exact Pure.guard (Pure.put _)
    ·exact Pure.fail
   ·exact Pure.fail
  ·exact Pure.fail
 | index t x i =>
  dsimp only
  split
  ·split
   ·exact Pure.guard (Pure.put _)
   ·exact Pure.fail
  ·exact Pure.fail
 | slice t x lo hi mx => exact BD
 | fieldAddr _ _ _ => exact hrun
 | field _ _ _ => exact hrun
 | extract x i =>
  dsimp only
  split
  ·split
   ·exact Pure.ext
   ·exact Pure.fail
  ·exact hrun
 | build _ _ => exact hrun
 | makeFunc _ _ _ => exact hrun
 | makeInterface _ _ => exact hrun
 | call c =>
  rw [ho] at hc;dsimp only at hc ⊢;unfold jB
  split
  ·dsimp only
   cases hcl : c.callee with
   | value f => rw [hcl] at hc; cases f <;> simp at hc; split at hc <;> cases hc
   | invoke _ _ => rw [hcl] at hc; cases hc
   | builtin b => rw [hcl] at hc; cases b <;> first | (cases hc; done) | exact hrun
  ·exact Pure.fail
 | convert _ d _ => rw [ho] at hc; dsimp only at hc; split at hc <;> cases hc
 | _ => rw [ho] at hc; cases hc
theorem Fu {ρ : Env} {q : Bool} {o : Oper} (hc : cls P q o = .pure ∨ cls P q o = .read) : fG fun pt => gd (RP P R) P ρ q o pt := by
 rcases hc with hc | hc
 ·exact (Ad hc).quiet
 have hrun := (qM (P := P) (R := R) (ρ := ρ) (o := o)).quiet;unfold cls at hc;unfold gd
 cases ho : o.op with
 | load t x =>
  dsimp only
  split
  ·split
   ·exact fG.ld
   ·exact Pure.fail.quiet
  ·exact Pure.fail.quiet
 | lookup t m key ok =>
  dsimp only
  split
  ·split
   ·split
    ·split
     ·cases ok with
      | true => exact fG.look (f := fun x b => some (.v (.tuple #[_, .bool b])))
      | false => exact fG.look
     ·cases ok with
      | true => exact fG.gv (f := fun x b => some (.v (.tuple #[_, .bool b])))
      | false => exact fG.gv
    ·exact Pure.fail.quiet
   ·exact Pure.fail.quiet
  ·exact Pure.fail.quiet
 | convert t d x =>
  rw [ho] at hc;dsimp only at hc ⊢
  split
  ·rename_i he
   rw [he] at hc; cases hc
  split
  ·split
   ·split
    ·exact fG.jX
    ·exact Pure.fail.quiet
   ·exact Pure.fail.quiet
  ·exact hrun
 | call c =>
  rw [ho] at hc;dsimp only at hc ⊢;unfold jB
  split
  ·dsimp only
   cases hcl : c.callee with
   | value f =>
    rw [hcl] at hc
    cases q with
    | false => cases f <;> simp at hc
    | true =>
     dsimp only
     split
     ·split
      ·split
       ·split
        ·exact fG.cy
        ·simp only [Bool.not_true, Bool.and_false, Bool.false_eq_true, if_false]; exact Pure.fail.quiet
       ·exact Pure.fail.quiet
      ·exact Pure.fail.quiet
      ·exact Pure.fail.quiet
     ·exact Pure.fail.quiet
   | invoke _ _ => rw [hcl] at hc; cases hc
   | builtin b => rw [hcl] at hc; cases b <;> cases hc
  ·exact Pure.fail.quiet
 | _ => rw [ho] at hc; cases hc
theorem gW.fail : gW fun _ => (RP P R).fail := fun _ _ h => h.elim
theorem gW.kR {e : TypeId} {sz by_ : Nat} {z : List Value} {l c : Int} {f : Nat → Option AV} : gW fun pt => (RP P R).kR e sz by_ z l c fun b => pt (f b) :=
 fun pt s ⟨h0, h1, h2, h3, h4⟩ => ⟨h0, h1, h2, h3, fun b hb => ⟨h4 b hb, PH.zP hb⟩⟩
theorem gW.od {e : TypeId} {bs : BA} {f : Nat → Nat → Option AV} : gW fun pt => (RP P R).od e bs fun b c => pt (f b c) :=
 fun pt s ⟨h0, h1⟩ => ⟨h0, fun b c hb h2 h3 => ⟨h1 b c hb h2 h3, PH.zP hb⟩⟩
theorem Ft {ρ : Env} {q : Bool} {o : Oper} (hc : cls P q o = .alloc) : gW fun pt => gd (RP P R) P ρ q o pt := by
 have hnew : gW fun pt => kS (RP P R) P ρ o fun x => pt (some x) := by
  intro pt s h;unfold kS at h ⊢
  split
  ·rename_i hk
   rw [if_pos hk] at h;rcases hv : fk P (execOp ρ.eX o) with _ | ⟨ob, kk⟩
   ·rw [hv] at h; exact h.elim
   rw [hv] at h;intro b hb;have h' := h b hb;dsimp only at h' ⊢;rcases hv' : dz P (kk b) with _ | nx
   ·rw [hv'] at h'; exact h'.elim
   rw [hv'] at h'
   cases nx <;> first | exact ⟨h', PH.zP hb⟩ | exact h'.elim
  ·rename_i hk
   rw [if_neg hk] at h; exact h.elim
 unfold cls at hc;unfold gd
 cases ho : o.op with
 | alloc _ => exact hnew
 | box _ _ => exact hnew
 | buildSlice _ _ _ => exact hnew
 | makeMap _ _ => exact hnew
 | makeSlice t l c =>
  dsimp only
  split
  ·split
   ·split
    ·split
     ·exact gW.kR
     ·exact gW.fail
    ·exact gW.fail
   ·exact gW.fail
  ·exact gW.fail
 | convert t d x =>
  rw [ho] at hc;dsimp only at hc ⊢
  split
  ·split
   ·exact gW.od
   ·exact gW.fail
  ·rename_i he
   rw [he] at hc; cases hc
 | call c =>
  rw [ho] at hc;dsimp only at hc
  cases hcl : c.callee with
  | value f => rw [hcl] at hc; cases f <;> simp at hc; split at hc <;> cases hc
  | invoke _ _ => rw [hcl] at hc; cases hc
  | builtin b => rw [hcl] at hc; cases b <;> cases hc
 | _ => rw [ho] at hc; cases hc
end
end Fw
end
