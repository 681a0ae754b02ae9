/-
  Part 18 for the law: lemmas.
  Conditions: none.
-/
import Derived.Test.YtlfdfgokflhdbaaGreatExecExactK17
set_option linter.unusedVariables false
set_option linter.unusedSimpArgs false
set_option linter.unusedSectionVars false
section
namespace Fw
open Go
def fX (s t : PH) : Prop := ∀ k, t k ≠ none → s k = none
theorem nY {s t : PH} {k : Nat} {o : Obj} (h : s k = some o) : (s.or t) k = some o := by simp [PH.or, h]
theorem Lb {s t : PH} {k : Nat} (h : s k = none) : (s.or t) k = t k := by simp [PH.or, h]
theorem or_none {s t : PH} {k : Nat} (h : (s.or t) k = none) : s k = none ∧ t k = none := by
 simp only [PH.or] at h
 cases hs : s k with
 | none => rw [hs] at h; exact ⟨rfl, by simpa using h⟩
 | some o => rw [hs] at h; simp at h
theorem mA (s t : PH) : s.le (s.or t) := fun k o h => nY h
theorem ju {s t : PH} {b : Nat} (o : Obj) : (s.or t).aS b o = (s.aS b o).or t := by
 funext k
 simp only [PH.aS, PH.or]
 split <;> simp
theorem Au {s t : PH} {b : Nat} (o : Obj) (h : s b = none) : (s.or t).aS b o = s.or (t.aS b o) := by
 funext k
 simp only [PH.aS, PH.or]
 split
 ·rename_i e; subst e; simp [h]
 ·rfl
theorem fX.aS {s t : PH} {b : Nat} {o : Obj} (h : fX s t) (hb : t b = none) : fX (s.aS b o) t := by
 intro k hk;rw [PH.bJ]
 ·exact h k hk
 ·rintro rfl; exact hk hb
theorem fX.at {s t : PH} (h : fX s t) {k : Nat} {o : Obj} (e : s k = some o) : t k = none := by
 cases ht : t k with
 | none => rfl
 | some x => have := h k (by simp [ht]); rw [e] at this; cases this
def aJ (h1 h2 : Pt → PH → Prop) : Prop := ∀ (t : PH) (p1 p2 : Pt) (s : PH), fX s t → h1 p1 s → (∀ x s', fX s' t → p1 x s' → p2 x (s'.or t)) → h2 p2 (s.or t)
section
variable {P : Program} {R1 R2 : Value → PH → Prop}
theorem aJ.fail : aJ (fun _ => (RP P R1).fail) (fun _ => (RP P R2).fail) := fun _ _ _ _ _ h _ => h.elim
theorem aJ.put (x : Option AV) : aJ (fun pt => pt x) (fun pt => pt x) := fun _ _ _ s hd h k => k x s hd h
theorem aJ.guard {c : Prop} {h1 h2 : Pt → PH → Prop} (k : aJ h1 h2) : aJ (fun pt => (RP P R1).guard c (h1 pt)) (fun pt => (RP P R2).guard c (h2 pt)) :=
 fun t p1 p2 s hd ⟨hc, e⟩ q => ⟨hc, k t p1 p2 s hd e q⟩
theorem aJ.aa {p : OA} {h1 h2 : Addr → Pt → PH → Prop} (k : ∀ a, aJ (h1 a) (h2 a)) : aJ (fun pt => (RP P R1).aa p fun a => h1 a pt) (fun pt => (RP P R2).aa p fun a => h2 a pt) :=
 fun t p1 p2 s hd ⟨a, ha, e⟩ q => ⟨a, ha, k a t p1 p2 s hd e q⟩
theorem aJ.ite {b : Bool} {h1 h2 g1 g2 : Pt → PH → Prop} (k1 : aJ h1 h2) (k2 : aJ g1 g2) : aJ (fun pt => (RP P R1).ite b (h1 pt) (g1 pt)) (fun pt => (RP P R2).ite b (h2 pt) (g2 pt)) := by
 intro t p1 p2 s hd e q
 cases b with
 | true => simpa [RP, W.br] using k1 t p1 p2 s hd (by simpa [RP, W.br] using e) q
 | false => simpa [RP, W.br] using k2 t p1 p2 s hd (by simpa [RP, W.br] using e) q
theorem aJ.ld {cs : List CT} {a : Addr} {f : Den cs → Option AV} : aJ (fun pt => (RP P R1).ld cs a fun x => pt (f x)) (fun pt => (RP P R2).ld cs a fun x => pt (f x)) :=
 fun t p1 p2 s hd ⟨x, hx, e⟩ q => ⟨x, iz (mA s t) hx, q _ _ hd e⟩
theorem Jn {s t : PH} {a : Addr} (h : (s.cell? a).isSome = true) : (s.or t).cell? a = s.cell? a ∧ (s.or t).frozen? a = s.frozen? a := by
 unfold PH.cell? PH.frozen?
 cases hb : s a.block with
 | none => simp [PH.cell?, hb] at h
 | some o => rw [nY hb]; exact ⟨rfl, rfl⟩
theorem D6 {s t : PH} {a : Addr} (h : (s.cell? a).isSome = true) (v : Value) : (s.or t).setCell a v = (s.setCell a v).or t := by
 unfold PH.setCell
 cases hb : s a.block with
 | none => simp [PH.cell?, hb] at h
 | some o =>
  rw [nY hb]
  cases o with
  | cells c e f => exact ju _
  | _ => simp [PH.cell?, hb] at h
theorem BP {s t : PH} (hd : fX s t) {a : Addr} (h : (s.cell? a).isSome = true) (v : Value) : fX (s.setCell a v) t := by
 unfold PH.setCell
 cases hb : s a.block with
 | none => simp [PH.cell?, hb] at h
 | some o =>
  cases o with
  | cells c e f => exact hd.aS (hd.at hb)
  | _ => exact hd
theorem xM : ∀ (vs : List Value) {s t : PH} {a : Addr} (i : Nat), fX s t → (∀ j, j < vs.length → (s.cell? (a.add (i + j))).isSome = true) → (s.or t).fF a i vs = (s.fF a i vs).or t ∧ fX (s.fF a i vs) t
 | [], s, t, a, i, hd, h => ⟨rfl, hd⟩
 | v :: vs, s, t, a, i, hd, h => by
  have h0 := h 0 (by simp);rw [Nat.add_zero] at h0;simp only [PH.fF, D6 h0];refine xM vs (i + 1) (BP hd h0 v) fun j hj => ?_;have := h (j + 1) (by simpa using hj);rw [show i + 1 + j = i + (j + 1) by omega]
  cases hc : s.cell? (a.add (i + (j + 1))) with
  | none => rw [hc] at this; cases this
  | some u => exact qi hc
theorem se {s t : PH} {a : Addr} {n : Nat} (h : s.open_ a n) : (s.or t).open_ a n := fun i hi => by
 obtain ⟨h1, h2⟩ := h i hi;obtain ⟨e1, e2⟩ := Jn (t := t) h1;rw [e1, e2]; exact ⟨h1, h2⟩
theorem y8 {s t : PH} {a : Addr} {vs : List Value} (hd : fX s t) (h : s.open_ a vs.length) : (s.or t).fF a 0 vs = (s.fF a 0 vs).or t ∧ fX (s.fF a 0 vs) t :=
 xM vs 0 hd fun j hj => by rw [Nat.zero_add]; exact (h j hj).1
theorem aJ.st {a : Addr} {vs : List Value} {x : Option AV} : aJ (fun pt => (RP P R1).st a vs (pt x)) (fun pt => (RP P R2).st a vs (pt x)) := by
 rintro t p1 p2 s hd ⟨h1, h2, e⟩ q;refine ⟨se h1, h2, ?_⟩;obtain ⟨e1, e2⟩ := y8 hd h1;rw [e1]; exact q _ _ e2 e
theorem aJ.nw {o : Obj} {h1 h2 : Nat → Pt → PH → Prop} (k : ∀ b, aJ (h1 b) (h2 b)) : aJ (fun pt => (RP P R1).nw o fun b => h1 b pt) (fun pt => (RP P R2).nw o fun b => h2 b pt) := by
 intro t p1 p2 s hd e q b hb;obtain ⟨g1, g2⟩ := or_none hb;rw [ju];exact k b t p1 p2 _ (hd.aS g2) (e b g1) q
theorem nF {g : FuncId} {args : Array Value} {s t : PH} {Q Q' : Value → PH → Prop} (h : bx P g args s Q) (hd : fX s t) (hq : ∀ v s', fX s' t → Q v s' → Q' v (s'.or t)) : bx P g args (s.or t) Q' :=
 (h.frame t hd).mono fun v u ⟨s', h1, h2, h3⟩ => by rw [h1]; exact hq v s' h2 h3
theorem aJ.call {g : FuncId} {args : Array Value} {r : Bool × List Shape} {f : bX r.2 → Option AV} : aJ (fun pt => (RP P R1).call g args r fun x => pt (f x)) (fun pt => (RP P R2).call g args r fun x => pt (f x)) :=
 fun t p1 p2 s hd e q => nF (P := P) e hd fun v s' hd' ⟨x, hx, hk⟩ => ⟨x, hx, q _ _ hd' hk⟩
theorem aJ.bU {g : FuncId} {args : Array Value} {r : Bool × List Shape} {f : bX r.2 → Option AV} : aJ (fun pt => (RP P R1).bU g args r fun x => pt (f x)) (fun pt => (RP P R2).bU g args r fun x => pt (f x)) :=
 fun t p1 p2 s hd ⟨x, hx, e⟩ q => ⟨x, nF (P := P) hx hd fun v s' hd' ⟨e1, e2⟩ => ⟨e1, by rw [e2]⟩, q _ _ hd e⟩
theorem aJ.dW {v : Value} {args : Array Value} {r : Bool × List Shape} {f : bX r.2 → Option AV} : aJ (fun pt => (RP P R1).dW v args r fun x => pt (f x)) (fun pt => (RP P R2).dW v args r fun x => pt (f x)) :=
 fun t p1 p2 s hd ⟨g, fi, ca, h1, h2, e⟩ q => ⟨g, fi, ca, h1, h2, nF (P := P) e hd fun v s' hd' ⟨x, hx, hk⟩ => ⟨x, hx, q _ _ hd' hk⟩⟩
theorem aJ.look {kd : TypeDesc} {m : Option Nat} {key zero : Value} {hh : Shape} {f : Den hh.2 → Bool → Option AV} : aJ (fun pt => (RP P R1).look kd m key zero hh fun x b => pt (f x b)) (fun pt => (RP P R2).look kd m key zero hh fun x b => pt (f x b)) := by
 rintro t p1 p2 s hd ⟨es, c, res, h1, h2, h3⟩ q;refine ⟨es, c, res, jA (mA s t) h1, h2, ?_⟩
 cases res with
 | none => obtain ⟨x, hx, e⟩ := h3; exact ⟨x, hx, q _ _ hd e⟩
 | some r => obtain ⟨i, v⟩ := r; obtain ⟨x, hx, e⟩ := h3; exact ⟨x, hx, q _ _ hd e⟩
theorem aJ.gH {kt : TypeId} {m : Option Nat} {key zero : Value} {hh : Shape} {f : Den hh.2 → Bool → Option AV} : aJ (fun pt => (RP P R1).gH kt m key zero hh fun x b => pt (f x b)) (fun pt => (RP P R2).gH kt m key zero hh fun x b => pt (f x b)) := by
 rintro t p1 p2 s hd ⟨es, c, res, h1, h2, h3⟩ q;refine ⟨es, c, res, jA (mA s t) h1, h2, ?_⟩
 cases res with
 | none => obtain ⟨x, hx, e⟩ := h3; exact ⟨x, hx, q _ _ hd e⟩
 | some r => obtain ⟨i, v⟩ := r; obtain ⟨x, hx, e⟩ := h3; exact ⟨x, hx, q _ _ hd e⟩
theorem aJ.jf {kt : TypeId} {m : Option Nat} {key val : Value} {x : Option AV} : aJ (fun pt => (RP P R1).jf kt m key val (pt x)) (fun pt => (RP P R2).jf kt m key val (pt x)) := by
 rintro t p1 p2 s hd ⟨r, es, c, res, h1, h2, h3, h4⟩ q;refine ⟨r, es, c, res, h1, nY h2, h3, ?_⟩;have ht := hd.at h2
 cases res with
 | none =>
  show p2 x _
  rw [ju]; exact q _ _ (hd.aS ht) h4
 | some r' =>
  obtain ⟨i, v⟩ := r';refine ⟨h4.1, ?_⟩
  show p2 x _
  rw [ju]; exact q _ _ (hd.aS ht) h4.2
theorem aJ.inv {v : Value} {nm : String} {args : Array Value} {r : Bool × List Shape} {f : bX r.2 → Option AV} : aJ (fun pt => (RP P R1).inv v nm args r fun x => pt (f x)) (fun pt => (RP P R2).inv v nm args r fun x => pt (f x)) :=
 fun t p1 p2 s hd ⟨ty, x, g, rc, fn, h1, h2, h3, h4, h5, e⟩ q => ⟨ty, x, g, rc, fn, h1, h2, h3, h4, h5, nF (P := P) e hd fun v s' hd' ⟨x, hx, hk⟩ => ⟨x, hx, q _ _ hd' hk⟩⟩
theorem aJ.xt {g : FuncId} {args : Array Value} {r : Bool × List Shape} {f : bX r.2 → Option AV} : aJ (fun pt => (RP P R1).xt g args r fun x => pt (f x)) (fun pt => (RP P R2).xt g args r fun x => pt (f x)) :=
 fun t p1 p2 s hd ⟨x, h1, e⟩ q => ⟨x, fun w hw => h1 w (Sub.mono (mA s t) hw), q _ _ hd e⟩
theorem aJ.gV {kd : TypeDesc} {m : Option Nat} {key val : Value} {x : Option AV} : aJ (fun pt => (RP P R1).gV kd m key val (pt x)) (fun pt => (RP P R2).gV kd m key val (pt x)) := by
 rintro t p1 p2 s hd ⟨r, es, c, res, h1, h2, h3, h4⟩ q;refine ⟨r, es, c, res, h1, nY h2, h3, ?_⟩;have ht := hd.at h2
 cases res with
 | none =>
  show p2 x _
  rw [ju]; exact q _ _ (hd.aS ht) h4
 | some r' =>
  obtain ⟨i, v⟩ := r';refine ⟨h4.1, ?_⟩
  show p2 x _
  rw [ju]; exact q _ _ (hd.aS ht) h4.2
theorem aJ.oC {m : Option Nat} {f : Nat → Option AV} : aJ (fun pt => (RP P R1).oC m fun b => pt (f b)) (fun pt => (RP P R2).oC m fun b => pt (f b)) := by
 rintro t p1 p2 s hd ⟨ob, h1, e⟩ q;refine ⟨ob, ?_, fun b hb => ?_⟩
 ·cases m with
  | none => exact h1
  | some r => obtain ⟨es, c, g1, g2⟩ := h1; exact ⟨es, c, nY g1, g2⟩
 ·obtain ⟨g1, g2⟩ := or_none hb;rw [ju];exact q _ _ (hd.aS g2) (e b g1)
theorem aJ.oz {r : Nat} {f : Value → Option AV} : aJ (fun pt => (RP P R1).oz r fun v => pt (f v)) (fun pt => (RP P R2).oz r fun v => pt (f v)) := by
 rintro t p1 p2 s hd ⟨m, c, seen, h1, h2⟩ q;refine ⟨m, c, seen, nY h1, ?_⟩;have ht := hd.at h1
 cases m with
 | none => exact q _ _ hd h2
 | some m =>
  obtain ⟨es, g1, g2, g3, g4⟩ := h2;refine ⟨es, nY g1, g2, fun hh => q _ _ hd (g3 hh), fun e he hs => ?_⟩
  show p2 _ _
  rw [ju]; exact q _ _ (hd.aS ht) (g4 e he hs)
theorem aJ.mj {r : Nat} {f : Value → Option AV} : aJ (fun pt => (RP P R1).mj r fun v => pt (f v)) (fun pt => (RP P R2).mj r fun v => pt (f v)) := by
 rintro t p1 p2 s hd ⟨m, since, seen, c, es, e, h1, h2, h3, h4, h5⟩ q;exact ⟨m, since, seen, c, es, e, nY h1, nY h2, h3, h4, q _ _ hd h5⟩
theorem aJ.ext {v : Value} {i : Nat} {hh : Shape} {f : Den hh.2 → Option AV} : aJ (fun pt => (RP P R1).ext v i hh fun x => pt (f x)) (fun pt => (RP P R2).ext v i hh fun x => pt (f x)) :=
 fun t p1 p2 s hd ⟨vs, x, h1, h2, e⟩ q => ⟨vs, x, h1, h2, q _ _ hd e⟩
theorem AQ {s t : PH} {sz : Nat} {src : Src} {vs : List Value} (h : eP s sz src vs) : eP (s.or t) sz src vs := by
 cases src with
 | sl a m => cases a with
  | none => exact h
  | some a => exact ⟨h.1, iz (mA s t) h.2⟩
 | str b => exact h
 | zer z l => exact h
theorem aJ.app {e : TypeId} {sz bytes : Nat} {z : List Value} {b : OA} {n c : Nat} {src : Src} {f : OA → Nat → Nat → Option AV} :
  aJ (fun pt => (RP P R1).app e sz bytes z b n c src fun b' n' c' => pt (f b' n' c')) (fun pt => (RP P R2).app e sz bytes z b n c src fun b' n' c' => pt (f b' n' c')) := by
 rintro t p1 p2 s hd ⟨old, news, h1, h2, h3, h4, h5, h6, h7⟩ q;refine ⟨old, news, AQ h1, AQ h2, h3, h4, h5, ?_, ?_⟩
 ·intro hle;have := h6 hle
  cases b with
  | none => exact q _ _ hd this
  | some a =>
   obtain ⟨g1, g2⟩ := this;refine ⟨se g1, ?_⟩;obtain ⟨e1, e2⟩ := y8 hd g1;rw [e1]; exact q _ _ e2 g2
 ·intro hlt b' c' hb hc1 hc2;obtain ⟨g1, g2⟩ := or_none hb;rw [ju];exact q _ _ (hd.aS g2) (h7 hlt b' c' g1 hc1 hc2)
theorem aJ.mh {sz : Nat} {b : OA} {n : Nat} {b' : OA} {m : Nat} {f : Nat → Option AV} : aJ (fun pt => (RP P R1).mh sz b n b' m fun k => pt (f k)) (fun pt => (RP P R2).mh sz b n b' m fun k => pt (f k)) := by
 rintro t p1 p2 s hd ⟨news, h1, h2, h3⟩ q;refine ⟨news, AQ h1, h2, ?_⟩
 cases b with
 | none => exact q _ _ hd h3
 | some a =>
  obtain ⟨g1, g2⟩ := h3;refine ⟨se g1, ?_⟩;obtain ⟨e1, e2⟩ := y8 hd g1;rw [e1]; exact q _ _ e2 g2
theorem aJ.ot {z : List Value} {b : OA} {n : Nat} {x : Option AV} : aJ (fun pt => (RP P R1).ot z b n (pt x)) (fun pt => (RP P R2).ot z b n (pt x)) := by
 rintro t p1 p2 s hd h q
 cases b with
 | none => exact q _ _ hd h
 | some a =>
  obtain ⟨g1, g2, g3⟩ := h;obtain ⟨e1, e2⟩ := y8 hd g1;refine ⟨se g1, g2, ?_⟩;rw [e1]; exact q _ _ e2 g3
theorem aJ.lu {e : TypeId} {sz by_ : Nat} {z : List Value} {l c : Int} {f : Nat → Option AV} : aJ (fun pt => (RP P R1).lu e sz by_ z l c fun b => pt (f b)) (fun pt => (RP P R2).lu e sz by_ z l c fun b => pt (f b)) := by
 rintro t p1 p2 s hd ⟨h0, h1, h2, h3, h4⟩ q;refine ⟨h0, h1, h2, h3, fun b hb => ?_⟩;obtain ⟨g1, g2⟩ := or_none hb;rw [ju];exact q _ _ (hd.aS g2) (h4 b g1)
theorem aJ.oD {e : TypeId} {bs : BA} {f : Nat → Nat → Option AV} : aJ (fun pt => (RP P R1).oD e bs fun b c => pt (f b c)) (fun pt => (RP P R2).oD e bs fun b c => pt (f b c)) := by
 rintro t p1 p2 s hd ⟨h0, h1⟩ q;refine ⟨h0, fun b c hb h2 h3 => ?_⟩;obtain ⟨g1, g2⟩ := or_none hb;rw [ju];exact q _ _ (hd.aS g2) (h1 b c g1 h2 h3)
theorem aJ.j4 {a : OA} {n : Nat} {f : BA → Option AV} : aJ (fun pt => (RP P R1).j4 a n fun t => pt (f t)) (fun pt => (RP P R2).j4 a n fun t => pt (f t)) := by
 rintro t p1 p2 s hd ⟨bs, h1, e⟩ q;refine ⟨bs, ?_, q _ _ hd e⟩
 cases a with
 | none => exact h1
 | some a => exact ⟨h1.1, iz (mA s t) h1.2⟩
theorem tZ {ρ : Env} {o : Oper} : aJ (fun pt => dN (RP P R1) P ρ o fun x => pt (some x)) (fun pt => dN (RP P R2) P ρ o fun x => pt (some x)) := by
 unfold dN
 cases ρ.known o.op.operands.toList with
 | false => exact aJ.fail
 | true =>
  simp only [if_true];rcases dJ P (execOp ρ.fl o) with _ | nx
  ·exact aJ.fail
  ·cases nx <;> first | exact aJ.put _ | exact aJ.fail
theorem Hr {ρ : Env} {o : Oper} : aJ (fun pt => lz (RP P R1) P ρ o fun x => pt (some x)) (fun pt => lz (RP P R2) P ρ o fun x => pt (some x)) := by
 unfold lz
 cases ρ.known o.op.operands.toList with
 | false => exact aJ.fail
 | true =>
  simp only [if_true];rcases fE P (execOp ρ.fl o) with _ | ⟨ob, kk⟩
  ·exact aJ.fail
  ·refine aJ.nw fun b => ?_;rcases dJ P (kk b) with _ | nx
   ·exact aJ.fail
   ·cases nx <;> first | exact aJ.put _ | exact aJ.fail
theorem GF {ρ : Env} {o : Oper} {op : BinOp} {t : TypeId} {x y : Operand} : aJ (fun pt => kC (RP P R1) P ρ o op t x y fun x => pt (some x)) (fun pt => kC (RP P R2) P ρ o op t x y fun x => pt (some x)) := by
 have hrun := tZ (P := P) (R1 := R1) (R2 := R2) (ρ := ρ) (o := o);unfold kC;cases op
 all_goals first | exact hrun | skip
 all_goals dsimp only
 all_goals repeat' split
 all_goals first | exact hrun | exact aJ.fail | exact aJ.put _ | exact aJ.guard (aJ.put _)
theorem Ea {ρ : Env} {t : TypeId} {x : Operand} {lo hi mx : Option Operand} : aJ (fun pt => jQ (RP P R1) P ρ t x lo hi mx fun x => pt (some x)) (fun pt => jQ (RP P R2) P ρ t x lo hi mx fun x => pt (some x)) := by
 unfold jQ
 repeat' split
 all_goals first | exact aJ.fail | exact aJ.guard (aJ.put _)
theorem ER {ρ : Env} {q : Bool} {o : Oper} {c : Call} : aJ (fun pt => jR (RP P R1) P ρ q o c fun x => pt (some x)) (fun pt => jR (RP P R2) P ρ q o c fun x => pt (some x)) := by
 have hrun := tZ (P := P) (R1 := R1) (R2 := R2) (ρ := ρ) (o := o);unfold jR
 split
 ·dsimp only
  split
  ·repeat' split
   all_goals first | exact aJ.fail | exact aJ.call | exact aJ.bU | exact aJ.dW | exact aJ.xt
  ·repeat' split
   all_goals first | exact aJ.fail | exact aJ.inv
  ·split
   ·split
    ·split
     ·split
      ·exact aJ.app
      ·exact aJ.fail
     ·exact aJ.fail
    ·exact aJ.fail
   ·exact aJ.fail
  ·split
   ·split
    ·split
     ·exact aJ.mh
     ·exact aJ.fail
    ·exact aJ.fail
   ·exact aJ.fail
  ·split
   ·split
    ·split
     ·exact aJ.ot
     ·exact aJ.fail
    ·exact aJ.fail
   ·exact aJ.fail
  ·exact hrun
  ·exact hrun
  ·exact hrun
  ·exact hrun
  ·exact aJ.fail
 ·exact aJ.fail
theorem wK {ρ : Env} {q : Bool} {o : Oper} : aJ (fun pt => gA (RP P R1) P ρ q o pt) (fun pt => gA (RP P R2) P ρ q o pt) := by
 have hrun := tZ (P := P) (R1 := R1) (R2 := R2) (ρ := ρ) (o := o);have hnew := Hr (P := P) (R1 := R1) (R2 := R2) (ρ := ρ) (o := o)
 have avp : ∀ x, aJ (fun pt => (match ρ.av x with | some u => pt (some u) | none => (RP P R1).fail : PH → Prop)) (fun pt => (match ρ.av x with | some u => pt (some u) | none => (RP P R2).fail : PH → Prop)) := by
  intro x; split
  ·exact aJ.put _
  ·exact aJ.fail
 unfold gA
 cases ho : o.op with
 | move x => exact avp x
 | assign x => exact avp x
 | pick c x y =>
  dsimp only
  split
  ·exact avp x
  ·exact avp y
  ·exact aJ.ite (avp x) (avp y)
  ·exact aJ.fail
 | nilCheck x =>
  dsimp only
  split
  ·exact aJ.aa fun a => aJ.put _
  ·exact aJ.put _
  ·exact aJ.guard (aJ.put _)
  ·exact aJ.fail
 | binOp op t x y t' => exact GF
 | unOp op t x =>
  dsimp only
  repeat' split
  all_goals first | exact aJ.put _ | exact hrun
 | load t x =>
  dsimp only
  repeat' split
  all_goals first | exact aJ.ld | exact aJ.fail
 | store t x y =>
  dsimp only
  repeat' split
  all_goals first | exact aJ.fail | exact aJ.st | exact aJ.guard aJ.st
 | indexAddr t x i =>
  dsimp only
  repeat' split
  all_goals first | exact aJ.fail | exact aJ.guard (aJ.aa fun a => aJ.put _) | exact aJ.guard (aJ.put _)
 | index t x i =>
  dsimp only
  repeat' split
  all_goals first | exact aJ.fail | exact aJ.guard (aJ.put _)
 | slice t x lo hi mx => exact Ea
 | lookup t m key ok =>
  dsimp only
  repeat' split
  all_goals first | exact aJ.fail | exact aJ.look (f := fun x b => some (.v (.tuple #[_, .bool b]))) | exact aJ.look | exact aJ.gH (f := fun x b => some (.v (.tuple #[_, .bool b]))) | exact aJ.gH
 | mapUpdate t m key x =>
  dsimp only
  repeat' split
  all_goals first | exact aJ.fail | exact aJ.gV | exact aJ.jf
 | insert t m key x =>
  dsimp only
  repeat' split
  all_goals first | exact aJ.fail | exact aJ.gV | exact aJ.jf
 | makeSlice t l c =>
  dsimp only
  repeat' split
  all_goals first | exact aJ.fail | exact aJ.lu
 | convert t d x =>
  dsimp only
  repeat' split
  all_goals first | exact aJ.fail | exact hrun | exact aJ.j4 | exact aJ.oD
 | call c => exact ER
 | alloc _ => exact hnew
 | box _ _ => exact hnew
 | buildSlice _ _ _ => exact hnew
 | makeMap _ _ => exact hnew
 | fieldAddr _ _ _ => exact hrun
 | field _ _ _ => exact hrun
 | range t m =>
  dsimp only
  repeat' split
  all_goals first | exact aJ.fail | exact aJ.oC
 | next it b =>
  dsimp only
  repeat' split
  all_goals first | exact aJ.fail | exact aJ.guard aJ.oz
 | entry it =>
  dsimp only
  repeat' split
  all_goals first | exact aJ.fail | exact aJ.guard aJ.mj
 | extract x i =>
  dsimp only
  split
  ·split
   ·exact aJ.ext
   ·exact aJ.fail
  ·exact hrun
 | build _ _ => exact hrun
 | makeFunc _ _ _ => exact hrun
 | makeInterface _ _ => exact hrun
 | _ => exact aJ.fail
end
end Fw
end
