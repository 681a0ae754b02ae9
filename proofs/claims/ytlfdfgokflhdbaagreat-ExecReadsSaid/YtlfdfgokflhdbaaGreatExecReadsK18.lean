/-
  Part 18 for the law: lemmas.
  Conditions: none.
-/
import Derived.Test.YtlfdfgokflhdbaaGreatExecReadsK17
set_option linter.unusedVariables false
set_option linter.unusedSimpArgs false
set_option linter.unusedSectionVars false
section
namespace Fw
open Go
def fO (s t : PH) : Prop := ∀ k, t k ≠ none → s k = none
theorem nG {s t : PH} {k : Nat} {o : Obj} (h : s k = some o) : (s.or t) k = some o := by simp [PH.or, h]
theorem Kx {s t : PH} {k : Nat} (h : s k = none) : (s.or t) k = t k := by simp [PH.or, h]
theorem or_none {s t : PH} {k : Nat} (h : (s.or t) k = none) : s k = none ∧ t k = none := by
 simp only [PH.or] at h
 cases hs : s k with
 | none => rw [hs] at h; exact ⟨rfl, by simpa using h⟩
 | some o => rw [hs] at h; simp at h
theorem lZ (s t : PH) : s.le (s.or t) := fun k o h => nG h
theorem jc {s t : PH} {b : Nat} (o : Obj) : (s.or t).aS b o = (s.aS b o).or t := by
 funext k
 simp only [PH.aS, PH.or]
 split <;> simp
theorem Ae {s t : PH} {b : Nat} (o : Obj) (h : s b = none) : (s.or t).aS b o = s.or (t.aS b o) := by
 funext k
 simp only [PH.aS, PH.or]
 split
 ·rename_i e; subst e; simp [h]
 ·rfl
theorem fO.aS {s t : PH} {b : Nat} {o : Obj} (h : fO s t) (hb : t b = none) : fO (s.aS b o) t := by
 intro k hk;rw [PH.bG]
 ·exact h k hk
 ·rintro rfl; exact hk hb
theorem fO.at {s t : PH} (h : fO s t) {k : Nat} {o : Obj} (e : s k = some o) : t k = none := by
 cases ht : t k with
 | none => rfl
 | some x => have := h k (by simp [ht]); rw [e] at this; cases this
def aF (h1 h2 : Pt → PH → Prop) : Prop := ∀ (t : PH) (p1 p2 : Pt) (s : PH), fO s t → h1 p1 s → (∀ x s', fO s' t → p1 x s' → p2 x (s'.or t)) → h2 p2 (s.or t)
section
variable {P : Program} {R1 R2 : Value → PH → Prop}
theorem aF.fail : aF (fun _ => (RP P R1).fail) (fun _ => (RP P R2).fail) := fun _ _ _ _ _ h _ => h.elim
theorem aF.put (x : Option AV) : aF (fun pt => pt x) (fun pt => pt x) := fun _ _ _ s hd h k => k x s hd h
theorem aF.guard {c : Prop} {h1 h2 : Pt → PH → Prop} (k : aF h1 h2) : aF (fun pt => (RP P R1).guard c (h1 pt)) (fun pt => (RP P R2).guard c (h2 pt)) :=
 fun t p1 p2 s hd ⟨hc, e⟩ q => ⟨hc, k t p1 p2 s hd e q⟩
theorem aF.aa {p : OA} {h1 h2 : Addr → Pt → PH → Prop} (k : ∀ a, aF (h1 a) (h2 a)) : aF (fun pt => (RP P R1).aa p fun a => h1 a pt) (fun pt => (RP P R2).aa p fun a => h2 a pt) :=
 fun t p1 p2 s hd ⟨a, ha, e⟩ q => ⟨a, ha, k a t p1 p2 s hd e q⟩
theorem aF.ite {b : Bool} {h1 h2 g1 g2 : Pt → PH → Prop} (k1 : aF h1 h2) (k2 : aF g1 g2) : aF (fun pt => (RP P R1).ite b (h1 pt) (g1 pt)) (fun pt => (RP P R2).ite b (h2 pt) (g2 pt)) := by
 intro t p1 p2 s hd e q
 cases b with
 | true => simpa [RP, W.br] using k1 t p1 p2 s hd (by simpa [RP, W.br] using e) q
 | false => simpa [RP, W.br] using k2 t p1 p2 s hd (by simpa [RP, W.br] using e) q
theorem aF.ld {cs : List CT} {a : Addr} {f : Den cs → Option AV} : aF (fun pt => (RP P R1).ld cs a fun x => pt (f x)) (fun pt => (RP P R2).ld cs a fun x => pt (f x)) :=
 fun t p1 p2 s hd ⟨x, hx, e⟩ q => ⟨x, hY (lZ s t) hx, q _ _ hd e⟩
theorem IV {s t : PH} {a : Addr} (h : (s.cell? a).isSome = true) : (s.or t).cell? a = s.cell? a ∧ (s.or t).frozen? a = s.frozen? a := by
 unfold PH.cell? PH.frozen?
 cases hb : s a.block with
 | none => simp [PH.cell?, hb] at h
 | some o => rw [nG hb]; exact ⟨rfl, rfl⟩
theorem DP {s t : PH} {a : Addr} (h : (s.cell? a).isSome = true) (v : Value) : (s.or t).setCell a v = (s.setCell a v).or t := by
 unfold PH.setCell
 cases hb : s a.block with
 | none => simp [PH.cell?, hb] at h
 | some o =>
  rw [nG hb]
  cases o with
  | cells c e f => exact jc _
  | _ => simp [PH.cell?, hb] at h
theorem BB {s t : PH} (hd : fO s t) {a : Addr} (h : (s.cell? a).isSome = true) (v : Value) : fO (s.setCell a v) t := by
 unfold PH.setCell
 cases hb : s a.block with
 | none => simp [PH.cell?, hb] at h
 | some o =>
  cases o with
  | cells c e f => exact hd.aS (hd.at hb)
  | _ => exact hd
theorem xq : ∀ (vs : List Value) {s t : PH} {a : Addr} (i : Nat), fO s t → (∀ j, j < vs.length → (s.cell? (a.add (i + j))).isSome = true) → (s.or t).fl a i vs = (s.fl a i vs).or t ∧ fO (s.fl a i vs) t
 | [], s, t, a, i, hd, h => ⟨rfl, hd⟩
 | v :: vs, s, t, a, i, hd, h => by
  have h0 := h 0 (by simp);rw [Nat.add_zero] at h0;simp only [PH.fl, DP h0];refine xq vs (i + 1) (BB hd h0 v) fun j hj => ?_;have := h (j + 1) (by simpa using hj);rw [show i + 1 + j = i + (j + 1) by omega]
  cases hc : s.cell? (a.add (i + (j + 1))) with
  | none => rw [hc] at this; cases this
  | some u => exact pV hc
theorem rC {s t : PH} {a : Addr} {n : Nat} (h : s.open_ a n) : (s.or t).open_ a n := fun i hi => by
 obtain ⟨h1, h2⟩ := h i hi;obtain ⟨e1, e2⟩ := IV (t := t) h1;rw [e1, e2]; exact ⟨h1, h2⟩
theorem yM {s t : PH} {a : Addr} {vs : List Value} (hd : fO s t) (h : s.open_ a vs.length) : (s.or t).fl a 0 vs = (s.fl a 0 vs).or t ∧ fO (s.fl a 0 vs) t :=
 xq vs 0 hd fun j hj => by rw [Nat.zero_add]; exact (h j hj).1
theorem aF.st {a : Addr} {vs : List Value} {x : Option AV} : aF (fun pt => (RP P R1).st a vs (pt x)) (fun pt => (RP P R2).st a vs (pt x)) := by
 rintro t p1 p2 s hd ⟨h1, h2, e⟩ q;refine ⟨rC h1, h2, ?_⟩;obtain ⟨e1, e2⟩ := yM hd h1;rw [e1]; exact q _ _ e2 e
theorem aF.nw {o : Obj} {h1 h2 : Nat → Pt → PH → Prop} (k : ∀ b, aF (h1 b) (h2 b)) : aF (fun pt => (RP P R1).nw o fun b => h1 b pt) (fun pt => (RP P R2).nw o fun b => h2 b pt) := by
 intro t p1 p2 s hd e q b hb;obtain ⟨g1, g2⟩ := or_none hb;rw [jc];exact k b t p1 p2 _ (hd.aS g2) (e b g1) q
theorem mZ {g : FuncId} {args : Array Value} {s t : PH} {Q Q' : Value → PH → Prop} (h : bu P g args s Q) (hd : fO s t) (hq : ∀ v s', fO s' t → Q v s' → Q' v (s'.or t)) : bu P g args (s.or t) Q' :=
 (h.frame t hd).mono fun v u ⟨s', h1, h2, h3⟩ => by rw [h1]; exact hq v s' h2 h3
theorem aF.call {g : FuncId} {args : Array Value} {r : Bool × List Shape} {f : bR r.2 → Option AV} : aF (fun pt => (RP P R1).call g args r fun x => pt (f x)) (fun pt => (RP P R2).call g args r fun x => pt (f x)) :=
 fun t p1 p2 s hd e q => mZ (P := P) e hd fun v s' hd' ⟨x, hx, hk⟩ => ⟨x, hx, q _ _ hd' hk⟩
theorem aF.cy {g : FuncId} {args : Array Value} {r : Bool × List Shape} {f : bR r.2 → Option AV} : aF (fun pt => (RP P R1).cy g args r fun x => pt (f x)) (fun pt => (RP P R2).cy g args r fun x => pt (f x)) :=
 fun t p1 p2 s hd ⟨x, hx, e⟩ q => ⟨x, mZ (P := P) hx hd fun v s' hd' ⟨e1, e2⟩ => ⟨e1, by rw [e2]⟩, q _ _ hd e⟩
theorem aF.dR {v : Value} {args : Array Value} {r : Bool × List Shape} {f : bR r.2 → Option AV} : aF (fun pt => (RP P R1).dR v args r fun x => pt (f x)) (fun pt => (RP P R2).dR v args r fun x => pt (f x)) :=
 fun t p1 p2 s hd ⟨g, fi, ca, h1, h2, e⟩ q => ⟨g, fi, ca, h1, h2, mZ (P := P) e hd fun v s' hd' ⟨x, hx, hk⟩ => ⟨x, hx, q _ _ hd' hk⟩⟩
theorem aF.look {kd : TypeDesc} {m : Option Nat} {key zero : Value} {hh : Shape} {f : Den hh.2 → Bool → Option AV} : aF (fun pt => (RP P R1).look kd m key zero hh fun x b => pt (f x b)) (fun pt => (RP P R2).look kd m key zero hh fun x b => pt (f x b)) := by
 rintro t p1 p2 s hd ⟨es, c, res, h1, h2, h3⟩ q;refine ⟨es, c, res, jg (lZ s t) h1, h2, ?_⟩
 cases res with
 | none => obtain ⟨x, hx, e⟩ := h3; exact ⟨x, hx, q _ _ hd e⟩
 | some r => obtain ⟨i, v⟩ := r; obtain ⟨x, hx, e⟩ := h3; exact ⟨x, hx, q _ _ hd e⟩
theorem aF.gv {kt : TypeId} {m : Option Nat} {key zero : Value} {hh : Shape} {f : Den hh.2 → Bool → Option AV} : aF (fun pt => (RP P R1).gv kt m key zero hh fun x b => pt (f x b)) (fun pt => (RP P R2).gv kt m key zero hh fun x b => pt (f x b)) := by
 rintro t p1 p2 s hd ⟨es, c, res, h1, h2, h3⟩ q;refine ⟨es, c, res, jg (lZ s t) h1, h2, ?_⟩
 cases res with
 | none => obtain ⟨x, hx, e⟩ := h3; exact ⟨x, hx, q _ _ hd e⟩
 | some r => obtain ⟨i, v⟩ := r; obtain ⟨x, hx, e⟩ := h3; exact ⟨x, hx, q _ _ hd e⟩
theorem aF.iQ {kt : TypeId} {m : Option Nat} {key val : Value} {x : Option AV} : aF (fun pt => (RP P R1).iQ kt m key val (pt x)) (fun pt => (RP P R2).iQ kt m key val (pt x)) := by
 rintro t p1 p2 s hd ⟨r, es, c, res, h1, h2, h3, h4⟩ q;refine ⟨r, es, c, res, h1, nG h2, h3, ?_⟩;have ht := hd.at h2
 cases res with
 | none =>
  show p2 x _
  rw [jc]; exact q _ _ (hd.aS ht) h4
 | some r' =>
  obtain ⟨i, v⟩ := r';refine ⟨h4.1, ?_⟩
  show p2 x _
  rw [jc]; exact q _ _ (hd.aS ht) h4.2
theorem aF.inv {v : Value} {nm : String} {args : Array Value} {r : Bool × List Shape} {f : bR r.2 → Option AV} : aF (fun pt => (RP P R1).inv v nm args r fun x => pt (f x)) (fun pt => (RP P R2).inv v nm args r fun x => pt (f x)) :=
 fun t p1 p2 s hd ⟨ty, x, g, rc, fn, h1, h2, h3, h4, h5, e⟩ q => ⟨ty, x, g, rc, fn, h1, h2, h3, h4, h5, mZ (P := P) e hd fun v s' hd' ⟨x, hx, hk⟩ => ⟨x, hx, q _ _ hd' hk⟩⟩
theorem aF.xt {g : FuncId} {args : Array Value} {r : Bool × List Shape} {f : bR r.2 → Option AV} : aF (fun pt => (RP P R1).xt g args r fun x => pt (f x)) (fun pt => (RP P R2).xt g args r fun x => pt (f x)) :=
 fun t p1 p2 s hd ⟨x, h1, e⟩ q => ⟨x, fun w hw => h1 w (Sub.mono (lZ s t) hw), q _ _ hd e⟩
theorem aF.gN {kd : TypeDesc} {m : Option Nat} {key val : Value} {x : Option AV} : aF (fun pt => (RP P R1).gN kd m key val (pt x)) (fun pt => (RP P R2).gN kd m key val (pt x)) := by
 rintro t p1 p2 s hd ⟨r, es, c, res, h1, h2, h3, h4⟩ q;refine ⟨r, es, c, res, h1, nG h2, h3, ?_⟩;have ht := hd.at h2
 cases res with
 | none =>
  show p2 x _
  rw [jc]; exact q _ _ (hd.aS ht) h4
 | some r' =>
  obtain ⟨i, v⟩ := r';refine ⟨h4.1, ?_⟩
  show p2 x _
  rw [jc]; exact q _ _ (hd.aS ht) h4.2
theorem aF.oc {m : Option Nat} {f : Nat → Option AV} : aF (fun pt => (RP P R1).oc m fun b => pt (f b)) (fun pt => (RP P R2).oc m fun b => pt (f b)) := by
 rintro t p1 p2 s hd ⟨ob, h1, e⟩ q;refine ⟨ob, ?_, fun b hb => ?_⟩
 ·cases m with
  | none => exact h1
  | some r => obtain ⟨es, c, g1, g2⟩ := h1; exact ⟨es, c, nG g1, g2⟩
 ·obtain ⟨g1, g2⟩ := or_none hb;rw [jc];exact q _ _ (hd.aS g2) (e b g1)
theorem aF.nY {r : Nat} {f : Value → Option AV} : aF (fun pt => (RP P R1).nY r fun v => pt (f v)) (fun pt => (RP P R2).nY r fun v => pt (f v)) := by
 rintro t p1 p2 s hd ⟨m, c, seen, h1, h2⟩ q;refine ⟨m, c, seen, nG h1, ?_⟩;have ht := hd.at h1
 cases m with
 | none => exact q _ _ hd h2
 | some m =>
  obtain ⟨es, g1, g2, g3, g4⟩ := h2;refine ⟨es, nG g1, g2, fun hh => q _ _ hd (g3 hh), fun e he hs => ?_⟩
  show p2 _ _
  rw [jc]; exact q _ _ (hd.aS ht) (g4 e he hs)
theorem aF.nS {r : Nat} {f : Value → Option AV} : aF (fun pt => (RP P R1).nS r fun v => pt (f v)) (fun pt => (RP P R2).nS r fun v => pt (f v)) := by
 rintro t p1 p2 s hd ⟨m, since, seen, c, es, e, h1, h2, h3, h4, h5⟩ q;exact ⟨m, since, seen, c, es, e, nG h1, nG h2, h3, h4, q _ _ hd h5⟩
theorem aF.ext {v : Value} {i : Nat} {hh : Shape} {f : Den hh.2 → Option AV} : aF (fun pt => (RP P R1).ext v i hh fun x => pt (f x)) (fun pt => (RP P R2).ext v i hh fun x => pt (f x)) :=
 fun t p1 p2 s hd ⟨vs, x, h1, h2, e⟩ q => ⟨vs, x, h1, h2, q _ _ hd e⟩
theorem Az {s t : PH} {sz : Nat} {src : Src} {vs : List Value} (h : eF s sz src vs) : eF (s.or t) sz src vs := by
 cases src with
 | sl a m => cases a with
  | none => exact h
  | some a => exact ⟨h.1, hY (lZ s t) h.2⟩
 | str b => exact h
 | zer z l => exact h
theorem aF.app {e : TypeId} {sz bytes : Nat} {z : List Value} {b : OA} {n c : Nat} {src : Src} {f : OA → Nat → Nat → Option AV} :
  aF (fun pt => (RP P R1).app e sz bytes z b n c src fun b' n' c' => pt (f b' n' c')) (fun pt => (RP P R2).app e sz bytes z b n c src fun b' n' c' => pt (f b' n' c')) := by
 rintro t p1 p2 s hd ⟨old, news, h1, h2, h3, h4, h5, h6, h7⟩ q;refine ⟨old, news, Az h1, Az h2, h3, h4, h5, ?_, ?_⟩
 ·intro hle;have := h6 hle
  cases b with
  | none => exact q _ _ hd this
  | some a =>
   obtain ⟨g1, g2⟩ := this;refine ⟨rC g1, ?_⟩;obtain ⟨e1, e2⟩ := yM hd g1;rw [e1]; exact q _ _ e2 g2
 ·intro hlt b' c' hb hc1 hc2;obtain ⟨g1, g2⟩ := or_none hb;rw [jc];exact q _ _ (hd.aS g2) (h7 hlt b' c' g1 hc1 hc2)
theorem aF.lV {sz : Nat} {b : OA} {n : Nat} {b' : OA} {m : Nat} {f : Nat → Option AV} : aF (fun pt => (RP P R1).lV sz b n b' m fun k => pt (f k)) (fun pt => (RP P R2).lV sz b n b' m fun k => pt (f k)) := by
 rintro t p1 p2 s hd ⟨news, h1, h2, h3⟩ q;refine ⟨news, Az h1, h2, ?_⟩
 cases b with
 | none => exact q _ _ hd h3
 | some a =>
  obtain ⟨g1, g2⟩ := h3;refine ⟨rC g1, ?_⟩;obtain ⟨e1, e2⟩ := yM hd g1;rw [e1]; exact q _ _ e2 g2
theorem aF.nR {z : List Value} {b : OA} {n : Nat} {x : Option AV} : aF (fun pt => (RP P R1).nR z b n (pt x)) (fun pt => (RP P R2).nR z b n (pt x)) := by
 rintro t p1 p2 s hd h q
 cases b with
 | none => exact q _ _ hd h
 | some a =>
  obtain ⟨g1, g2, g3⟩ := h;obtain ⟨e1, e2⟩ := yM hd g1;refine ⟨rC g1, g2, ?_⟩;rw [e1]; exact q _ _ e2 g3
theorem aF.kR {e : TypeId} {sz by_ : Nat} {z : List Value} {l c : Int} {f : Nat → Option AV} : aF (fun pt => (RP P R1).kR e sz by_ z l c fun b => pt (f b)) (fun pt => (RP P R2).kR e sz by_ z l c fun b => pt (f b)) := by
 rintro t p1 p2 s hd ⟨h0, h1, h2, h3, h4⟩ q;refine ⟨h0, h1, h2, h3, fun b hb => ?_⟩;obtain ⟨g1, g2⟩ := or_none hb;rw [jc];exact q _ _ (hd.aS g2) (h4 b g1)
theorem aF.od {e : TypeId} {bs : BA} {f : Nat → Nat → Option AV} : aF (fun pt => (RP P R1).od e bs fun b c => pt (f b c)) (fun pt => (RP P R2).od e bs fun b c => pt (f b c)) := by
 rintro t p1 p2 s hd ⟨h0, h1⟩ q;refine ⟨h0, fun b c hb h2 h3 => ?_⟩;obtain ⟨g1, g2⟩ := or_none hb;rw [jc];exact q _ _ (hd.aS g2) (h1 b c g1 h2 h3)
theorem aF.jX {a : OA} {n : Nat} {f : BA → Option AV} : aF (fun pt => (RP P R1).jX a n fun t => pt (f t)) (fun pt => (RP P R2).jX a n fun t => pt (f t)) := by
 rintro t p1 p2 s hd ⟨bs, h1, e⟩ q;refine ⟨bs, ?_, q _ _ hd e⟩
 cases a with
 | none => exact h1
 | some a => exact ⟨h1.1, hY (lZ s t) h1.2⟩
theorem tu {ρ : Env} {o : Oper} : aF (fun pt => dG (RP P R1) P ρ o fun x => pt (some x)) (fun pt => dG (RP P R2) P ρ o fun x => pt (some x)) := by
 unfold dG
 cases ρ.known o.op.operands.toList with
 | false => exact aF.fail
 | true =>
  simp only [if_true];rcases dz P (execOp ρ.eX o) with _ | nx
  ·exact aF.fail
  ·cases nx <;> first | exact aF.put _ | exact aF.fail
theorem GS {ρ : Env} {o : Oper} : aF (fun pt => kS (RP P R1) P ρ o fun x => pt (some x)) (fun pt => kS (RP P R2) P ρ o fun x => pt (some x)) := by
 unfold kS
 cases ρ.known o.op.operands.toList with
 | false => exact aF.fail
 | true =>
  simp only [if_true];rcases fk P (execOp ρ.eX o) with _ | ⟨ob, kk⟩
  ·exact aF.fail
  ·refine aF.nw fun b => ?_;rcases dz P (kk b) with _ | nx
   ·exact aF.fail
   ·cases nx <;> first | exact aF.put _ | exact aF.fail
theorem Gd {ρ : Env} {o : Oper} {op : BinOp} {t : TypeId} {x y : Operand} : aF (fun pt => jY (RP P R1) P ρ o op t x y fun x => pt (some x)) (fun pt => jY (RP P R2) P ρ o op t x y fun x => pt (some x)) := by
 have hrun := tu (P := P) (R1 := R1) (R2 := R2) (ρ := ρ) (o := o);unfold jY;cases op
 all_goals first | exact hrun | skip
 all_goals dsimp only
 all_goals repeat' split
 all_goals first | exact hrun | exact aF.fail | exact aF.put _ | exact aF.guard (aF.put _)
theorem DT {ρ : Env} {t : TypeId} {x : Operand} {lo hi mx : Option Operand} : aF (fun pt => jx (RP P R1) P ρ t x lo hi mx fun x => pt (some x)) (fun pt => jx (RP P R2) P ρ t x lo hi mx fun x => pt (some x)) := by
 unfold jx
 repeat' split
 all_goals first | exact aF.fail | exact aF.guard (aF.put _)
theorem Ex {ρ : Env} {q : Bool} {o : Oper} {c : Call} : aF (fun pt => jB (RP P R1) P ρ q o c fun x => pt (some x)) (fun pt => jB (RP P R2) P ρ q o c fun x => pt (some x)) := by
 have hrun := tu (P := P) (R1 := R1) (R2 := R2) (ρ := ρ) (o := o);unfold jB
 split
 ·dsimp only
  split
  ·repeat' split
   all_goals first | exact aF.fail | exact aF.call | exact aF.cy | exact aF.dR | exact aF.xt
  ·repeat' split
   all_goals first | exact aF.fail | exact aF.inv
  ·split
   ·split
    ·split
     ·split
      ·exact aF.app
      ·exact aF.fail
     ·exact aF.fail
    ·exact aF.fail
   ·exact aF.fail
  ·split
   ·split
    ·split
     ·exact aF.lV
     ·exact aF.fail
    ·exact aF.fail
   ·exact aF.fail
  ·split
   ·split
    ·split
     ·exact aF.nR
     ·exact aF.fail
    ·exact aF.fail
   ·exact aF.fail
  ·exact hrun
  ·exact hrun
  ·exact hrun
  ·exact hrun
  ·exact aF.fail
 ·exact aF.fail
theorem wh {ρ : Env} {q : Bool} {o : Oper} : aF (fun pt => gd (RP P R1) P ρ q o pt) (fun pt => gd (RP P R2) P ρ q o pt) := by
 have hrun := tu (P := P) (R1 := R1) (R2 := R2) (ρ := ρ) (o := o);have hnew := GS (P := P) (R1 := R1) (R2 := R2) (ρ := ρ) (o := o)
 have avp : ∀ x, aF (fun pt => (match ρ.av x with | some u => pt (some u) | none => (RP P R1).fail : PH → Prop)) (fun pt => (match ρ.av x with | some u => pt (some u) | none => (RP P R2).fail : PH → Prop)) := by
  intro x; split
  ·exact aF.put _
  ·exact aF.fail
 unfold gd
 cases ho : o.op with
 | move x => exact avp x
 | assign x => exact avp x
 | pick c x y =>
  dsimp only
  split
  ·exact avp x
  ·exact avp y
  ·exact aF.ite (avp x) (avp y)
  ·exact aF.fail
 | nilCheck x =>
  dsimp only
  split
  ·exact aF.aa fun a => aF.put _
  ·exact aF.put _
  ·exact aF.guard (aF.put _)
  ·exact aF.fail
 | binOp op t x y t' => exact Gd
 | unOp op t x =>
  dsimp only
  repeat' split
  all_goals first | exact aF.put _ | exact hrun
 | load t x =>
  dsimp only
  repeat' split
  all_goals first | exact aF.ld | exact aF.fail
 | store t x y =>
  dsimp only
  repeat' split
  all_goals first | exact aF.fail | exact aF.st | exact aF.guard aF.st
 | indexAddr t x i =>
  dsimp only
  repeat' split
  all_goals first | exact aF.fail | exact aF.guard (aF.aa fun a => aF.put _) | exact aF.guard (aF.put _)
 | index t x i =>
  dsimp only
  repeat' split
  all_goals first | exact aF.fail | exact aF.guard (aF.put _)
 | slice t x lo hi mx => exact DT
 | lookup t m key ok =>
  dsimp only
  repeat' split
  all_goals first | exact aF.fail | exact aF.look (f := fun x b => some (.v (.tuple #[_, .bool b]))) | exact aF.look | exact aF.gv (f := fun x b => some (.v (.tuple #[_, .bool b]))) | exact aF.gv
 | mapUpdate t m key x =>
  dsimp only
  repeat' split
  all_goals first | exact aF.fail | exact aF.gN | exact aF.iQ
 | insert t m key x =>
  dsimp only
  repeat' split
  all_goals first | exact aF.fail | exact aF.gN | exact aF.iQ
 | makeSlice t l c =>
  dsimp only
  repeat' split
  all_goals first | exact aF.fail | exact aF.kR
 | convert t d x =>
  dsimp only
  repeat' split
  all_goals first | exact aF.fail | exact hrun | exact aF.jX | exact aF.od
 | call c => exact Ex
 | alloc _ => exact hnew
 | box _ _ => exact hnew
 | buildSlice _ _ _ => exact hnew
 | makeMap _ _ => exact hnew
 | fieldAddr _ _ _ => exact hrun
 | field _ _ _ => exact hrun
 | range t m =>
  dsimp only
  repeat' split
  all_goals first | exact aF.fail | exact aF.oc
 | next it b =>
  dsimp only
  repeat' split
  all_goals first | exact aF.fail | exact aF.guard aF.nY
 | entry it =>
  dsimp only
  repeat' split
  all_goals first | exact aF.fail | exact aF.guard aF.nS
 | extract x i =>
  dsimp only
  split
  ·split
   ·exact aF.ext
   ·exact aF.fail
  ·exact hrun
 | build _ _ => exact hrun
 | makeFunc _ _ _ => exact hrun
 | makeInterface _ _ => exact hrun
 | _ => exact aF.fail
end
end Fw
end
