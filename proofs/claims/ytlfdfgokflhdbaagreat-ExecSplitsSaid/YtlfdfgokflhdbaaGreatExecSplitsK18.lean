/-
  Part 18 for the law: lemmas.
  Conditions: none.
-/
import Derived.Test.YtlfdfgokflhdbaaGreatExecSplitsK17
set_option linter.unusedVariables false
set_option linter.unusedSimpArgs false
set_option linter.unusedSectionVars false
section
namespace Fw
open Go
def fK (s t : PH) : Prop := ∀ k, t k ≠ none → s k = none
theorem ni {s t : PH} {k : Nat} {o : Obj} (h : s k = some o) : (s.or t) k = some o := by simp [PH.or, h]
theorem JC {s t : PH} {k : Nat} (h : s k = none) : (s.or t) k = t k := by simp [PH.or, h]
theorem or_none {s t : PH} {k : Nat} (h : (s.or t) k = none) : s k = none ∧ t k = none := by
 simp only [PH.or] at h
 cases hs : s k with
 | none => rw [hs] at h; exact ⟨rfl, by simpa using h⟩
 | some o => rw [hs] at h; simp at h
theorem lM (s t : PH) : s.le (s.or t) := fun k o h => ni h
theorem iU {s t : PH} {b : Nat} (o : Obj) : (s.or t).aM b o = (s.aM b o).or t := by
 funext k
 simp only [PH.aM, PH.or]
 split <;> simp
theorem zv {s t : PH} {b : Nat} (o : Obj) (h : s b = none) : (s.or t).aM b o = s.or (t.aM b o) := by
 funext k
 simp only [PH.aM, PH.or]
 split
 ·rename_i e; subst e; simp [h]
 ·rfl
theorem fK.aM {s t : PH} {b : Nat} {o : Obj} (h : fK s t) (hb : t b = none) : fK (s.aM b o) t := by
 intro k hk
 rw [PH.bF]
 ·exact h k hk
 ·rintro rfl; exact hk hb
theorem fK.at {s t : PH} (h : fK s t) {k : Nat} {o : Obj} (e : s k = some o) : t k = none := by
 cases ht : t k with
 | none => rfl
 | some x => have := h k (by simp [ht]); rw [e] at this; cases this
def aD (h1 h2 : Pt → PH → Prop) : Prop := ∀ (t : PH) (p1 p2 : Pt) (s : PH), fK s t → h1 p1 s → (∀ x s', fK s' t → p1 x s' → p2 x (s'.or t)) → h2 p2 (s.or t)
section
variable {P : Program} {R1 R2 : Value → PH → Prop}
theorem aD.fail : aD (fun _ => (RP P R1).fail) (fun _ => (RP P R2).fail) := fun _ _ _ _ _ h _ => h.elim
theorem aD.put (x : Option AV) : aD (fun pt => pt x) (fun pt => pt x) := fun _ _ _ s hd h k => k x s hd h
theorem aD.guard {c : Prop} {h1 h2 : Pt → PH → Prop} (k : aD h1 h2) : aD (fun pt => (RP P R1).guard c (h1 pt)) (fun pt => (RP P R2).guard c (h2 pt)) :=
 fun t p1 p2 s hd ⟨hc, e⟩ q => ⟨hc, k t p1 p2 s hd e q⟩
theorem aD.af {p : Option Addr} {h1 h2 : Addr → Pt → PH → Prop} (k : ∀ a, aD (h1 a) (h2 a)) : aD (fun pt => (RP P R1).af p fun a => h1 a pt) (fun pt => (RP P R2).af p fun a => h2 a pt) :=
 fun t p1 p2 s hd ⟨a, ha, e⟩ q => ⟨a, ha, k a t p1 p2 s hd e q⟩
theorem aD.ite {b : Bool} {h1 h2 g1 g2 : Pt → PH → Prop} (k1 : aD h1 h2) (k2 : aD g1 g2) : aD (fun pt => (RP P R1).ite b (h1 pt) (g1 pt)) (fun pt => (RP P R2).ite b (h2 pt) (g2 pt)) := by
 intro t p1 p2 s hd e q
 cases b with
 | true => simpa [RP, W.br] using k1 t p1 p2 s hd (by simpa [RP, W.br] using e) q
 | false => simpa [RP, W.br] using k2 t p1 p2 s hd (by simpa [RP, W.br] using e) q
theorem aD.ld {cs : List CT} {a : Addr} {f : Den cs → Option AV} : aD (fun pt => (RP P R1).ld cs a fun x => pt (f x)) (fun pt => (RP P R2).ld cs a fun x => pt (f x)) :=
 fun t p1 p2 s hd ⟨x, hx, e⟩ q => ⟨x, gS (lM s t) hx, q _ _ hd e⟩
theorem HV {s t : PH} {a : Addr} (h : (s.cell? a).isSome = true) : (s.or t).cell? a = s.cell? a ∧ (s.or t).frozen? a = s.frozen? a := by
 unfold PH.cell? PH.frozen?
 cases hb : s a.block with
 | none => simp [PH.cell?, hb] at h
 | some o => rw [ni hb]; exact ⟨rfl, rfl⟩
theorem CY {s t : PH} {a : Addr} (h : (s.cell? a).isSome = true) (v : Value) : (s.or t).setCell a v = (s.setCell a v).or t := by
 unfold PH.setCell
 cases hb : s a.block with
 | none => simp [PH.cell?, hb] at h
 | some o =>
  rw [ni hb]
  cases o with
  | cells c e f => exact iU _
  | _ => simp [PH.cell?, hb] at h
theorem AS {s t : PH} (hd : fK s t) {a : Addr} (h : (s.cell? a).isSome = true) (v : Value) : fK (s.setCell a v) t := by
 unfold PH.setCell
 cases hb : s a.block with
 | none => simp [PH.cell?, hb] at h
 | some o =>
  cases o with
  | cells c e f => exact hd.aM (hd.at hb)
  | _ => exact hd
theorem wK : ∀ (vs : List Value) {s t : PH} {a : Addr} (i : Nat), fK s t → (∀ j, j < vs.length → (s.cell? (a.add (i + j))).isSome = true) → (s.or t).eW a i vs = (s.eW a i vs).or t ∧ fK (s.eW a i vs) t
 | [], s, t, a, i, hd, h => ⟨rfl, hd⟩
 | v :: vs, s, t, a, i, hd, h => by
  have h0 := h 0 (by simp)
  rw [Nat.add_zero] at h0
  simp only [PH.eW, CY h0]
  refine wK vs (i + 1) (AS hd h0 v) fun j hj => ?_
  have := h (j + 1) (by simpa using hj)
  rw [show i + 1 + j = i + (j + 1) by omega]
  cases hc : s.cell? (a.add (i + (j + 1))) with
  | none => rw [hc] at this; cases this
  | some u => exact pe hc
theorem qP {s t : PH} {a : Addr} {n : Nat} (h : s.open_ a n) : (s.or t).open_ a n := fun i hi => by
 obtain ⟨h1, h2⟩ := h i hi
 obtain ⟨e1, e2⟩ := HV (t := t) h1
 rw [e1, e2]; exact ⟨h1, h2⟩
theorem xW {s t : PH} {a : Addr} {vs : List Value} (hd : fK s t) (h : s.open_ a vs.length) : (s.or t).eW a 0 vs = (s.eW a 0 vs).or t ∧ fK (s.eW a 0 vs) t :=
 wK vs 0 hd fun j hj => by rw [Nat.zero_add]; exact (h j hj).1
theorem aD.st {a : Addr} {vs : List Value} {x : Option AV} : aD (fun pt => (RP P R1).st a vs (pt x)) (fun pt => (RP P R2).st a vs (pt x)) := by
 rintro t p1 p2 s hd ⟨h1, h2, e⟩ q
 refine ⟨qP h1, h2, ?_⟩
 obtain ⟨e1, e2⟩ := xW hd h1
 rw [e1]; exact q _ _ e2 e
theorem aD.nw {o : Obj} {h1 h2 : Nat → Pt → PH → Prop} (k : ∀ b, aD (h1 b) (h2 b)) : aD (fun pt => (RP P R1).nw o fun b => h1 b pt) (fun pt => (RP P R2).nw o fun b => h2 b pt) := by
 intro t p1 p2 s hd e q b hb
 obtain ⟨g1, g2⟩ := or_none hb
 rw [iU]
 exact k b t p1 p2 _ (hd.aM g2) (e b g1) q
theorem mK {g : FuncId} {args : Array Value} {s t : PH} {Q Q' : Value → PH → Prop} (h : bu P g args s Q) (hd : fK s t) (hq : ∀ v s', fK s' t → Q v s' → Q' v (s'.or t)) : bu P g args (s.or t) Q' :=
 (h.frame t hd).mono fun v u ⟨s', h1, h2, h3⟩ => by rw [h1]; exact hq v s' h2 h3
theorem aD.call {g : FuncId} {args : Array Value} {r : Bool × List Shape} {f : bN r.2 → Option AV} : aD (fun pt => (RP P R1).call g args r fun x => pt (f x)) (fun pt => (RP P R2).call g args r fun x => pt (f x)) :=
 fun t p1 p2 s hd e q => mK (P := P) e hd fun v s' hd' ⟨x, hx, hk⟩ => ⟨x, hx, q _ _ hd' hk⟩
theorem aD.cr {g : FuncId} {args : Array Value} {r : Bool × List Shape} {f : bN r.2 → Option AV} : aD (fun pt => (RP P R1).cr g args r fun x => pt (f x)) (fun pt => (RP P R2).cr g args r fun x => pt (f x)) :=
 fun t p1 p2 s hd ⟨x, hx, e⟩ q => ⟨x, mK (P := P) hx hd fun v s' hd' ⟨e1, e2⟩ => ⟨e1, by rw [e2]⟩, q _ _ hd e⟩
theorem aD.dK {v : Value} {args : Array Value} {r : Bool × List Shape} {f : bN r.2 → Option AV} : aD (fun pt => (RP P R1).dK v args r fun x => pt (f x)) (fun pt => (RP P R2).dK v args r fun x => pt (f x)) :=
 fun t p1 p2 s hd ⟨g, fi, ca, h1, h2, e⟩ q => ⟨g, fi, ca, h1, h2, mK (P := P) e hd fun v s' hd' ⟨x, hx, hk⟩ => ⟨x, hx, q _ _ hd' hk⟩⟩
theorem aD.look {kd : TypeDesc} {m : Option Nat} {key zero : Value} {hh : Shape} {f : Den hh.2 → Bool → Option AV} : aD (fun pt => (RP P R1).look kd m key zero hh fun x b => pt (f x b)) (fun pt => (RP P R2).look kd m key zero hh fun x b => pt (f x b)) := by
 rintro t p1 p2 s hd ⟨es, c, res, h1, h2, h3⟩ q
 refine ⟨es, c, res, iY (lM s t) h1, h2, ?_⟩
 cases res with
 | none => obtain ⟨x, hx, e⟩ := h3; exact ⟨x, hx, q _ _ hd e⟩
 | some r => obtain ⟨i, v⟩ := r; obtain ⟨x, hx, e⟩ := h3; exact ⟨x, hx, q _ _ hd e⟩
theorem aD.gm {kt : TypeId} {m : Option Nat} {key zero : Value} {hh : Shape} {f : Den hh.2 → Bool → Option AV} : aD (fun pt => (RP P R1).gm kt m key zero hh fun x b => pt (f x b)) (fun pt => (RP P R2).gm kt m key zero hh fun x b => pt (f x b)) := by
 rintro t p1 p2 s hd ⟨es, c, res, h1, h2, h3⟩ q
 refine ⟨es, c, res, iY (lM s t) h1, h2, ?_⟩
 cases res with
 | none => obtain ⟨x, hx, e⟩ := h3; exact ⟨x, hx, q _ _ hd e⟩
 | some r => obtain ⟨i, v⟩ := r; obtain ⟨x, hx, e⟩ := h3; exact ⟨x, hx, q _ _ hd e⟩
theorem aD.iK {kt : TypeId} {m : Option Nat} {key val : Value} {x : Option AV} : aD (fun pt => (RP P R1).iK kt m key val (pt x)) (fun pt => (RP P R2).iK kt m key val (pt x)) := by
 rintro t p1 p2 s hd ⟨r, es, c, res, h1, h2, h3, h4⟩ q
 refine ⟨r, es, c, res, h1, ni h2, h3, ?_⟩
 have ht := hd.at h2
 cases res with
 | none =>
  show p2 x _
  rw [iU]; exact q _ _ (hd.aM ht) h4
 | some r' =>
  obtain ⟨i, v⟩ := r'
  refine ⟨h4.1, ?_⟩
  show p2 x _
  rw [iU]; exact q _ _ (hd.aM ht) h4.2
theorem aD.inv {v : Value} {nm : String} {args : Array Value} {r : Bool × List Shape} {f : bN r.2 → Option AV} : aD (fun pt => (RP P R1).inv v nm args r fun x => pt (f x)) (fun pt => (RP P R2).inv v nm args r fun x => pt (f x)) :=
 fun t p1 p2 s hd ⟨ty, x, g, rc, fn, h1, h2, h3, h4, h5, e⟩ q => ⟨ty, x, g, rc, fn, h1, h2, h3, h4, h5, mK (P := P) e hd fun v s' hd' ⟨x, hx, hk⟩ => ⟨x, hx, q _ _ hd' hk⟩⟩
theorem aD.xt {g : FuncId} {args : Array Value} {r : Bool × List Shape} {f : bN r.2 → Option AV} : aD (fun pt => (RP P R1).xt g args r fun x => pt (f x)) (fun pt => (RP P R2).xt g args r fun x => pt (f x)) :=
 fun t p1 p2 s hd ⟨x, h1, e⟩ q => ⟨x, fun w hw => h1 w (Sub.mono (lM s t) hw), q _ _ hd e⟩
theorem aD.gF {kd : TypeDesc} {m : Option Nat} {key val : Value} {x : Option AV} : aD (fun pt => (RP P R1).gF kd m key val (pt x)) (fun pt => (RP P R2).gF kd m key val (pt x)) := by
 rintro t p1 p2 s hd ⟨r, es, c, res, h1, h2, h3, h4⟩ q
 refine ⟨r, es, c, res, h1, ni h2, h3, ?_⟩
 have ht := hd.at h2
 cases res with
 | none =>
  show p2 x _
  rw [iU]; exact q _ _ (hd.aM ht) h4
 | some r' =>
  obtain ⟨i, v⟩ := r'
  refine ⟨h4.1, ?_⟩
  show p2 x _
  rw [iU]; exact q _ _ (hd.aM ht) h4.2
theorem aD.nN {m : Option Nat} {f : Nat → Option AV} : aD (fun pt => (RP P R1).nN m fun b => pt (f b)) (fun pt => (RP P R2).nN m fun b => pt (f b)) := by
 rintro t p1 p2 s hd ⟨ob, h1, e⟩ q
 refine ⟨ob, ?_, fun b hb => ?_⟩
 ·cases m with
  | none => exact h1
  | some r => obtain ⟨es, c, g1, g2⟩ := h1; exact ⟨es, c, ni g1, g2⟩
 ·obtain ⟨g1, g2⟩ := or_none hb
  rw [iU]
  exact q _ _ (hd.aM g2) (e b g1)
theorem aD.nK {r : Nat} {f : Value → Option AV} : aD (fun pt => (RP P R1).nK r fun v => pt (f v)) (fun pt => (RP P R2).nK r fun v => pt (f v)) := by
 rintro t p1 p2 s hd ⟨m, c, seen, h1, h2⟩ q
 refine ⟨m, c, seen, ni h1, ?_⟩
 have ht := hd.at h1
 cases m with
 | none => exact q _ _ hd h2
 | some m =>
  obtain ⟨es, g1, g2, g3, g4⟩ := h2
  refine ⟨es, ni g1, g2, fun hh => q _ _ hd (g3 hh), fun e he hs => ?_⟩
  show p2 _ _
  rw [iU]; exact q _ _ (hd.aM ht) (g4 e he hs)
theorem aD.nE {r : Nat} {f : Value → Option AV} : aD (fun pt => (RP P R1).nE r fun v => pt (f v)) (fun pt => (RP P R2).nE r fun v => pt (f v)) := by
 rintro t p1 p2 s hd ⟨m, since, seen, c, es, e, h1, h2, h3, h4, h5⟩ q
 exact ⟨m, since, seen, c, es, e, ni h1, ni h2, h3, h4, q _ _ hd h5⟩
theorem aD.ext {v : Value} {i : Nat} {hh : Shape} {f : Den hh.2 → Option AV} : aD (fun pt => (RP P R1).ext v i hh fun x => pt (f x)) (fun pt => (RP P R2).ext v i hh fun x => pt (f x)) :=
 fun t p1 p2 s hd ⟨vs, x, h1, h2, e⟩ q => ⟨vs, x, h1, h2, q _ _ hd e⟩
theorem zP {s t : PH} {sz : Nat} {src : Src} {vs : List Value} (h : dM s sz src vs) : dM (s.or t) sz src vs := by
 cases src with
 | sl a m => cases a with
  | none => exact h
  | some a => exact ⟨h.1, gS (lM s t) h.2⟩
 | str b => exact h
 | zer z l => exact h
theorem aD.app {e : TypeId} {sz bytes : Nat} {z : List Value} {b : Option Addr} {n c : Nat} {src : Src} {f : Option Addr → Nat → Nat → Option AV} :
  aD (fun pt => (RP P R1).app e sz bytes z b n c src fun b' n' c' => pt (f b' n' c')) (fun pt => (RP P R2).app e sz bytes z b n c src fun b' n' c' => pt (f b' n' c')) := by
 rintro t p1 p2 s hd ⟨old, news, h1, h2, h3, h4, h5, h6, h7⟩ q
 refine ⟨old, news, zP h1, zP h2, h3, h4, h5, ?_, ?_⟩
 ·intro hle
  have := h6 hle
  cases b with
  | none => exact q _ _ hd this
  | some a =>
   obtain ⟨g1, g2⟩ := this
   refine ⟨qP g1, ?_⟩
   obtain ⟨e1, e2⟩ := xW hd g1
   rw [e1]; exact q _ _ e2 g2
 ·intro hlt b' c' hb hc1 hc2
  obtain ⟨g1, g2⟩ := or_none hb
  rw [iU]
  exact q _ _ (hd.aM g2) (h7 hlt b' c' g1 hc1 hc2)
theorem aD.lI {sz : Nat} {b : Option Addr} {n : Nat} {b' : Option Addr} {m : Nat} {f : Nat → Option AV} : aD (fun pt => (RP P R1).lI sz b n b' m fun k => pt (f k)) (fun pt => (RP P R2).lI sz b n b' m fun k => pt (f k)) := by
 rintro t p1 p2 s hd ⟨news, h1, h2, h3⟩ q
 refine ⟨news, zP h1, h2, ?_⟩
 cases b with
 | none => exact q _ _ hd h3
 | some a =>
  obtain ⟨g1, g2⟩ := h3
  refine ⟨qP g1, ?_⟩
  obtain ⟨e1, e2⟩ := xW hd g1
  rw [e1]; exact q _ _ e2 g2
theorem aD.nD {z : List Value} {b : Option Addr} {n : Nat} {x : Option AV} : aD (fun pt => (RP P R1).nD z b n (pt x)) (fun pt => (RP P R2).nD z b n (pt x)) := by
 rintro t p1 p2 s hd h q
 cases b with
 | none => exact q _ _ hd h
 | some a =>
  obtain ⟨g1, g2, g3⟩ := h
  obtain ⟨e1, e2⟩ := xW hd g1
  refine ⟨qP g1, g2, ?_⟩
  rw [e1]; exact q _ _ e2 g3
theorem aD.kK {e : TypeId} {sz by_ : Nat} {z : List Value} {l c : Int} {f : Nat → Option AV} : aD (fun pt => (RP P R1).kK e sz by_ z l c fun b => pt (f b)) (fun pt => (RP P R2).kK e sz by_ z l c fun b => pt (f b)) := by
 rintro t p1 p2 s hd ⟨h0, h1, h2, h3, h4⟩ q
 refine ⟨h0, h1, h2, h3, fun b hb => ?_⟩
 obtain ⟨g1, g2⟩ := or_none hb
 rw [iU]
 exact q _ _ (hd.aM g2) (h4 b g1)
theorem aD.nO {e : TypeId} {bs : ByteArray} {f : Nat → Nat → Option AV} : aD (fun pt => (RP P R1).nO e bs fun b c => pt (f b c)) (fun pt => (RP P R2).nO e bs fun b c => pt (f b c)) := by
 rintro t p1 p2 s hd ⟨h0, h1⟩ q
 refine ⟨h0, fun b c hb h2 h3 => ?_⟩
 obtain ⟨g1, g2⟩ := or_none hb
 rw [iU]
 exact q _ _ (hd.aM g2) (h1 b c g1 h2 h3)
theorem aD.jR {a : Option Addr} {n : Nat} {f : ByteArray → Option AV} : aD (fun pt => (RP P R1).jR a n fun t => pt (f t)) (fun pt => (RP P R2).jR a n fun t => pt (f t)) := by
 rintro t p1 p2 s hd ⟨bs, h1, e⟩ q
 refine ⟨bs, ?_, q _ _ hd e⟩
 cases a with
 | none => exact h1
 | some a => exact ⟨h1.1, gS (lM s t) h1.2⟩
theorem sJ {ρ : Env} {o : Oper} : aD (fun pt => dB (RP P R1) P ρ o fun x => pt (some x)) (fun pt => dB (RP P R2) P ρ o fun x => pt (some x)) := by
 unfold dB
 cases ρ.known o.op.operands.toList with
 | false => exact aD.fail
 | true =>
  simp only [if_true]
  rcases dr P (execOp ρ.eM o) with _ | nx
  ·exact aD.fail
  ·cases nx <;> first | exact aD.put _ | exact aD.fail
theorem F1 {ρ : Env} {o : Oper} : aD (fun pt => kM (RP P R1) P ρ o fun x => pt (some x)) (fun pt => kM (RP P R2) P ρ o fun x => pt (some x)) := by
 unfold kM
 cases ρ.known o.op.operands.toList with
 | false => exact aD.fail
 | true =>
  simp only [if_true]
  rcases eV P (execOp ρ.eM o) with _ | ⟨ob, kk⟩
  ·exact aD.fail
  ·refine aD.nw fun b => ?_
   rcases dr P (kk b) with _ | nx
   ·exact aD.fail
   ·cases nx <;> first | exact aD.put _ | exact aD.fail
theorem Fl {ρ : Env} {o : Oper} {op : BinOp} {t : TypeId} {x y : Operand} : aD (fun pt => jT (RP P R1) P ρ o op t x y fun x => pt (some x)) (fun pt => jT (RP P R2) P ρ o op t x y fun x => pt (some x)) := by
 have hrun := sJ (P := P) (R1 := R1) (R2 := R2) (ρ := ρ) (o := o)
 unfold jT
 cases op
 all_goals first | exact hrun | skip
 all_goals dsimp only
 all_goals repeat' split
 all_goals first | exact hrun | exact aD.fail | exact aD.put _ | exact aD.guard (aD.put _)
theorem C5 {ρ : Env} {t : TypeId} {x : Operand} {lo hi mx : Option Operand} : aD (fun pt => jo (RP P R1) P ρ t x lo hi mx fun x => pt (some x)) (fun pt => jo (RP P R2) P ρ t x lo hi mx fun x => pt (some x)) := by
 unfold jo
 repeat' split
 all_goals first | exact aD.fail | exact aD.guard (aD.put _)
theorem DK {ρ : Env} {q : Bool} {o : Oper} {c : Call} : aD (fun pt => jq (RP P R1) P ρ q o c fun x => pt (some x)) (fun pt => jq (RP P R2) P ρ q o c fun x => pt (some x)) := by
 have hrun := sJ (P := P) (R1 := R1) (R2 := R2) (ρ := ρ) (o := o)
 unfold jq
 split
 ·dsimp only
  split
  ·repeat' split
   all_goals first | exact aD.fail | exact aD.call | exact aD.cr | exact aD.dK | exact aD.xt
  ·repeat' split
   all_goals first | exact aD.fail | exact aD.inv
  ·split
   ·split
    ·split
     ·split
      ·exact aD.app
      ·exact aD.fail
     ·exact aD.fail
    ·exact aD.fail
   ·exact aD.fail
  ·split
   ·split
    ·split
     ·exact aD.lI
     ·exact aD.fail
    ·exact aD.fail
   ·exact aD.fail
  ·split
   ·split
    ·split
     ·exact aD.nD
     ·exact aD.fail
    ·exact aD.fail
   ·exact aD.fail
  ·exact hrun
  ·exact hrun
  ·exact hrun
  ·exact hrun
  ·exact aD.fail
 ·exact aD.fail
theorem vB {ρ : Env} {q : Bool} {o : Oper} : aD (fun pt => fY (RP P R1) P ρ q o pt) (fun pt => fY (RP P R2) P ρ q o pt) := by
 have hrun := sJ (P := P) (R1 := R1) (R2 := R2) (ρ := ρ) (o := o)
 have hnew := F1 (P := P) (R1 := R1) (R2 := R2) (ρ := ρ) (o := o)
 have avp : ∀ x, aD (fun pt => (match ρ.av x with | some u => pt (some u) | none => (RP P R1).fail : PH → Prop)) (fun pt => (match ρ.av x with | some u => pt (some u) | none => (RP P R2).fail : PH → Prop)) := by
  intro x; split
  ·exact aD.put _
  ·exact aD.fail
 unfold fY
 cases ho : o.op with
 | move x => exact avp x
 | assign x => exact avp x
 | pick c x y =>
  dsimp only
  split
  ·exact avp x
  ·exact avp y
  ·exact aD.ite (avp x) (avp y)
  ·exact aD.fail
 | nilCheck x =>
  dsimp only
  split
  ·exact aD.af fun a => aD.put _
  ·exact aD.put _
  ·exact aD.guard (aD.put _)
  ·exact aD.fail
 | binOp op t x y t' => exact Fl
 | unOp op t x =>
  dsimp only
  repeat' split
  all_goals first | exact aD.put _ | exact hrun
 | load t x =>
  dsimp only
  repeat' split
  all_goals first | exact aD.ld | exact aD.fail
 | store t x y =>
  dsimp only
  repeat' split
  all_goals first | exact aD.fail | exact aD.st | exact aD.guard aD.st
 | indexAddr t x i =>
  dsimp only
  repeat' split
  all_goals first | exact aD.fail | exact aD.guard (aD.af fun a => aD.put _) | exact aD.guard (aD.put _)
 | index t x i =>
  dsimp only
  repeat' split
  all_goals first | exact aD.fail | exact aD.guard (aD.put _)
 | slice t x lo hi mx => exact C5
 | lookup t m key ok =>
  dsimp only
  repeat' split
  all_goals first | exact aD.fail | exact aD.look (f := fun x b => some (.v (.tuple #[_, .bool b]))) | exact aD.look | exact aD.gm (f := fun x b => some (.v (.tuple #[_, .bool b]))) | exact aD.gm
 | mapUpdate t m key x =>
  dsimp only
  repeat' split
  all_goals first | exact aD.fail | exact aD.gF | exact aD.iK
 | insert t m key x =>
  dsimp only
  repeat' split
  all_goals first | exact aD.fail | exact aD.gF | exact aD.iK
 | makeSlice t l c =>
  dsimp only
  repeat' split
  all_goals first | exact aD.fail | exact aD.kK
 | convert t d x =>
  dsimp only
  repeat' split
  all_goals first | exact aD.fail | exact hrun | exact aD.jR | exact aD.nO
 | call c => exact DK
 | alloc _ => exact hnew
 | box _ _ => exact hnew
 | buildSlice _ _ _ => exact hnew
 | makeMap _ _ => exact hnew
 | fieldAddr _ _ _ => exact hrun
 | field _ _ _ => exact hrun
 | range t m =>
  dsimp only
  repeat' split
  all_goals first | exact aD.fail | exact aD.nN
 | next it b =>
  dsimp only
  repeat' split
  all_goals first | exact aD.fail | exact aD.guard aD.nK
 | entry it =>
  dsimp only
  repeat' split
  all_goals first | exact aD.fail | exact aD.guard aD.nE
 | extract x i =>
  dsimp only
  split
  ·split
   ·exact aD.ext
   ·exact aD.fail
  ·exact hrun
 | build _ _ => exact hrun
 | makeFunc _ _ _ => exact hrun
 | makeInterface _ _ => exact hrun
 | _ => exact aD.fail
end
end Fw
end
