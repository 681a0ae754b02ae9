/-
  Part 18 for the law: lemmas.
  Conditions: none.
-/
import Derived.Test.YtcdggocbjnmeaaaGreatGroupHoldsK17
set_option linter.unusedVariables false
set_option linter.unusedSimpArgs false
set_option linter.unusedSectionVars false
section
namespace Fw
open Go
def Dis (s t : PH) : Prop := ∀ k, t k ≠ none → s k = none
theorem or_l {s t : PH} {k : Nat} {o : Obj} (h : s k = some o) : (s.or t) k = some o := by simp [PH.or, h]
theorem or_r {s t : PH} {k : Nat} (h : s k = none) : (s.or t) k = t k := by simp [PH.or, h]
theorem or_none {s t : PH} {k : Nat} (h : (s.or t) k = none) : s k = none ∧ t k = none := by
 simp only [PH.or] at h
 cases hs : s k with
 | none => rw [hs] at h; exact ⟨rfl, by simpa using h⟩
 | some o => rw [hs] at h; simp at h
theorem le_or (s t : PH) : s.le (s.or t) := fun k o h => or_l h
theorem upd_or {s t : PH} {b : Nat} (o : Obj) : (s.or t).upd b o = (s.upd b o).or t := by
 funext k
 simp only [PH.upd, PH.or]
 split <;> simp
theorem or_upd {s t : PH} {b : Nat} (o : Obj) (h : s b = none) : (s.or t).upd b o = s.or (t.upd b o) := by
 funext k
 simp only [PH.upd, PH.or]
 split
 ·rename_i e; subst e; simp [h]
 ·rfl
theorem Dis.upd {s t : PH} {b : Nat} {o : Obj} (h : Dis s t) (hb : t b = none) : Dis (s.upd b o) t := by
 intro k hk
 rw [PH.upd_other]
 ·exact h k hk
 ·rintro rfl; exact hk hb
theorem Dis.at {s t : PH} (h : Dis s t) {k : Nat} {o : Obj} (e : s k = some o) : t k = none := by
 cases ht : t k with
 | none => rfl
 | some x => have := h k (by simp [ht]); rw [e] at this; cases this
def Frm (h1 h2 : Pt → PH → Prop) : Prop := ∀ (t : PH) (p1 p2 : Pt) (s : PH), Dis s t → h1 p1 s → (∀ x s', Dis s' t → p1 x s' → p2 x (s'.or t)) → h2 p2 (s.or t)
section
variable {P : Program} {R1 R2 : Value → PH → Prop}
theorem Frm.fail : Frm (fun _ => (RP P R1).fail) (fun _ => (RP P R2).fail) := fun _ _ _ _ _ h _ => h.elim
theorem Frm.put (x : Option AV) : Frm (fun pt => pt x) (fun pt => pt x) := fun _ _ _ s hd h k => k x s hd h
theorem Frm.guard {c : Prop} {h1 h2 : Pt → PH → Prop} (k : Frm h1 h2) : Frm (fun pt => (RP P R1).guard c (h1 pt)) (fun pt => (RP P R2).guard c (h2 pt)) :=
 fun t p1 p2 s hd ⟨hc, e⟩ q => ⟨hc, k t p1 p2 s hd e q⟩
theorem Frm.unSome {p : Option Addr} {h1 h2 : Addr → Pt → PH → Prop} (k : ∀ a, Frm (h1 a) (h2 a)) : Frm (fun pt => (RP P R1).unSome p fun a => h1 a pt) (fun pt => (RP P R2).unSome p fun a => h2 a pt) :=
 fun t p1 p2 s hd ⟨a, ha, e⟩ q => ⟨a, ha, k a t p1 p2 s hd e q⟩
theorem Frm.ite {b : Bool} {h1 h2 g1 g2 : Pt → PH → Prop} (k1 : Frm h1 h2) (k2 : Frm g1 g2) : Frm (fun pt => (RP P R1).ite b (h1 pt) (g1 pt)) (fun pt => (RP P R2).ite b (h2 pt) (g2 pt)) := by
 intro t p1 p2 s hd e q
 cases b with
 | true => simpa [RP, W.br] using k1 t p1 p2 s hd (by simpa [RP, W.br] using e) q
 | false => simpa [RP, W.br] using k2 t p1 p2 s hd (by simpa [RP, W.br] using e) q
theorem Frm.ld {cs : List CT} {a : Addr} {f : Den cs → Option AV} : Frm (fun pt => (RP P R1).ld cs a fun x => pt (f x)) (fun pt => (RP P R2).ld cs a fun x => pt (f x)) :=
 fun t p1 p2 s hd ⟨x, hx, e⟩ q => ⟨x, has_mono (le_or s t) hx, q _ _ hd e⟩
theorem cell_or {s t : PH} {a : Addr} (h : (s.cell? a).isSome = true) : (s.or t).cell? a = s.cell? a ∧ (s.or t).frozen? a = s.frozen? a := by
 unfold PH.cell? PH.frozen?
 cases hb : s a.block with
 | none => simp [PH.cell?, hb] at h
 | some o => rw [or_l hb]; exact ⟨rfl, rfl⟩
theorem setCell_or {s t : PH} {a : Addr} (h : (s.cell? a).isSome = true) (v : Value) : (s.or t).setCell a v = (s.setCell a v).or t := by
 unfold PH.setCell
 cases hb : s a.block with
 | none => simp [PH.cell?, hb] at h
 | some o =>
  rw [or_l hb]
  cases o with
  | cells c e f => exact upd_or _
  | _ => simp [PH.cell?, hb] at h
theorem setCell_dis {s t : PH} (hd : Dis s t) {a : Addr} (h : (s.cell? a).isSome = true) (v : Value) : Dis (s.setCell a v) t := by
 unfold PH.setCell
 cases hb : s a.block with
 | none => simp [PH.cell?, hb] at h
 | some o =>
  cases o with
  | cells c e f => exact hd.upd (hd.at hb)
  | _ => exact hd
theorem stores_or : ∀ (vs : List Value) {s t : PH} {a : Addr} (i : Nat), Dis s t → (∀ j, j < vs.length → (s.cell? (a.add (i + j))).isSome = true) → (s.or t).stores a i vs = (s.stores a i vs).or t ∧ Dis (s.stores a i vs) t
 | [], s, t, a, i, hd, h => ⟨rfl, hd⟩
 | v :: vs, s, t, a, i, hd, h => by
  have h0 := h 0 (by simp)
  rw [Nat.add_zero] at h0
  simp only [PH.stores, setCell_or h0]
  refine stores_or vs (i + 1) (setCell_dis hd h0 v) fun j hj => ?_
  have := h (j + 1) (by simpa using hj)
  rw [show i + 1 + j = i + (j + 1) by omega]
  cases hc : s.cell? (a.add (i + (j + 1))) with
  | none => rw [hc] at this; cases this
  | some u => exact setCell_cell? hc
theorem open_or {s t : PH} {a : Addr} {n : Nat} (h : s.open_ a n) : (s.or t).open_ a n := fun i hi => by
 obtain ⟨h1, h2⟩ := h i hi
 obtain ⟨e1, e2⟩ := cell_or (t := t) h1
 rw [e1, e2]; exact ⟨h1, h2⟩
theorem st_or {s t : PH} {a : Addr} {vs : List Value} (hd : Dis s t) (h : s.open_ a vs.length) : (s.or t).stores a 0 vs = (s.stores a 0 vs).or t ∧ Dis (s.stores a 0 vs) t :=
 stores_or vs 0 hd fun j hj => by rw [Nat.zero_add]; exact (h j hj).1
theorem Frm.st {a : Addr} {vs : List Value} {x : Option AV} : Frm (fun pt => (RP P R1).st a vs (pt x)) (fun pt => (RP P R2).st a vs (pt x)) := by
 rintro t p1 p2 s hd ⟨h1, h2, e⟩ q
 refine ⟨open_or h1, h2, ?_⟩
 obtain ⟨e1, e2⟩ := st_or hd h1
 rw [e1]; exact q _ _ e2 e
theorem Frm.nw {o : Obj} {h1 h2 : Nat → Pt → PH → Prop} (k : ∀ b, Frm (h1 b) (h2 b)) : Frm (fun pt => (RP P R1).nw o fun b => h1 b pt) (fun pt => (RP P R2).nw o fun b => h2 b pt) := by
 intro t p1 p2 s hd e q b hb
 obtain ⟨g1, g2⟩ := or_none hb
 rw [upd_or]
 exact k b t p1 p2 _ (hd.upd g2) (e b g1) q
theorem dcalls_or {g : FuncId} {args : Array Value} {s t : PH} {Q Q' : Value → PH → Prop} (h : DCalls P g args s Q) (hd : Dis s t) (hq : ∀ v s', Dis s' t → Q v s' → Q' v (s'.or t)) : DCalls P g args (s.or t) Q' :=
 (h.frame t hd).mono fun v u ⟨s', h1, h2, h3⟩ => by rw [h1]; exact hq v s' h2 h3
theorem Frm.call {g : FuncId} {args : Array Value} {r : Bool × List Shape} {f : MDen r.2 → Option AV} : Frm (fun pt => (RP P R1).call g args r fun x => pt (f x)) (fun pt => (RP P R2).call g args r fun x => pt (f x)) :=
 fun t p1 p2 s hd e q => dcalls_or (P := P) e hd fun v s' hd' ⟨x, hx, hk⟩ => ⟨x, hx, q _ _ hd' hk⟩
theorem Frm.callQ {g : FuncId} {args : Array Value} {r : Bool × List Shape} {f : MDen r.2 → Option AV} : Frm (fun pt => (RP P R1).callQ g args r fun x => pt (f x)) (fun pt => (RP P R2).callQ g args r fun x => pt (f x)) :=
 fun t p1 p2 s hd ⟨x, hx, e⟩ q => ⟨x, dcalls_or (P := P) hx hd fun v s' hd' ⟨e1, e2⟩ => ⟨e1, by rw [e2]⟩, q _ _ hd e⟩
theorem Frm.callV {v : Value} {args : Array Value} {r : Bool × List Shape} {f : MDen r.2 → Option AV} : Frm (fun pt => (RP P R1).callV v args r fun x => pt (f x)) (fun pt => (RP P R2).callV v args r fun x => pt (f x)) :=
 fun t p1 p2 s hd ⟨g, fi, ca, h1, h2, e⟩ q => ⟨g, fi, ca, h1, h2, dcalls_or (P := P) e hd fun v s' hd' ⟨x, hx, hk⟩ => ⟨x, hx, q _ _ hd' hk⟩⟩
theorem Frm.look {kd : TypeDesc} {m : Option Nat} {key zero : Value} {hh : Shape} {f : Den hh.2 → Bool → Option AV} : Frm (fun pt => (RP P R1).look kd m key zero hh fun x b => pt (f x b)) (fun pt => (RP P R2).look kd m key zero hh fun x b => pt (f x b)) := by
 rintro t p1 p2 s hd ⟨es, c, res, h1, h2, h3⟩ q
 refine ⟨es, c, res, mapAt_mono (le_or s t) h1, h2, ?_⟩
 cases res with
 | none => obtain ⟨x, hx, e⟩ := h3; exact ⟨x, hx, q _ _ hd e⟩
 | some r => obtain ⟨i, v⟩ := r; obtain ⟨x, hx, e⟩ := h3; exact ⟨x, hx, q _ _ hd e⟩
theorem Frm.mset {kd : TypeDesc} {m : Option Nat} {key val : Value} {x : Option AV} : Frm (fun pt => (RP P R1).mset kd m key val (pt x)) (fun pt => (RP P R2).mset kd m key val (pt x)) := by
 rintro t p1 p2 s hd ⟨r, es, c, res, h1, h2, h3, h4⟩ q
 refine ⟨r, es, c, res, h1, or_l h2, h3, ?_⟩
 have ht := hd.at h2
 cases res with
 | none =>
  show p2 x _
  rw [upd_or]; exact q _ _ (hd.upd ht) h4
 | some r' =>
  obtain ⟨i, v⟩ := r'
  refine ⟨h4.1, ?_⟩
  show p2 x _
  rw [upd_or]; exact q _ _ (hd.upd ht) h4.2
theorem Frm.rng {m : Option Nat} {f : Nat → Option AV} : Frm (fun pt => (RP P R1).rng m fun b => pt (f b)) (fun pt => (RP P R2).rng m fun b => pt (f b)) := by
 rintro t p1 p2 s hd ⟨ob, h1, e⟩ q
 refine ⟨ob, ?_, fun b hb => ?_⟩
 ·cases m with
  | none => exact h1
  | some r => obtain ⟨es, c, g1, g2⟩ := h1; exact ⟨es, c, or_l g1, g2⟩
 ·obtain ⟨g1, g2⟩ := or_none hb
  rw [upd_or]
  exact q _ _ (hd.upd g2) (e b g1)
theorem Frm.nxt {r : Nat} {f : Value → Option AV} : Frm (fun pt => (RP P R1).nxt r fun v => pt (f v)) (fun pt => (RP P R2).nxt r fun v => pt (f v)) := by
 rintro t p1 p2 s hd ⟨m, c, seen, h1, h2⟩ q
 refine ⟨m, c, seen, or_l h1, ?_⟩
 have ht := hd.at h1
 cases m with
 | none => exact q _ _ hd h2
 | some m =>
  obtain ⟨es, g1, g2, g3, g4⟩ := h2
  refine ⟨es, or_l g1, g2, fun hh => q _ _ hd (g3 hh), fun e he hs => ?_⟩
  show p2 _ _
  rw [upd_or]; exact q _ _ (hd.upd ht) (g4 e he hs)
theorem Frm.ent {r : Nat} {f : Value → Option AV} : Frm (fun pt => (RP P R1).ent r fun v => pt (f v)) (fun pt => (RP P R2).ent r fun v => pt (f v)) := by
 rintro t p1 p2 s hd ⟨m, since, seen, c, es, e, h1, h2, h3, h4, h5⟩ q
 exact ⟨m, since, seen, c, es, e, or_l h1, or_l h2, h3, h4, q _ _ hd h5⟩
theorem Frm.ext {v : Value} {i : Nat} {hh : Shape} {f : Den hh.2 → Option AV} : Frm (fun pt => (RP P R1).ext v i hh fun x => pt (f x)) (fun pt => (RP P R2).ext v i hh fun x => pt (f x)) :=
 fun t p1 p2 s hd ⟨vs, x, h1, h2, e⟩ q => ⟨vs, x, h1, h2, q _ _ hd e⟩
theorem src_or {s t : PH} {sz : Nat} {src : Src} {vs : List Value} (h : srcIs s sz src vs) : srcIs (s.or t) sz src vs := by
 cases src with
 | sl a m => cases a with
  | none => exact h
  | some a => exact ⟨h.1, has_mono (le_or s t) h.2⟩
 | str b => exact h
theorem Frm.app {e : TypeId} {sz bytes : Nat} {z : List Value} {b : Option Addr} {n c : Nat} {src : Src} {f : Option Addr → Nat → Nat → Option AV} :
  Frm (fun pt => (RP P R1).app e sz bytes z b n c src fun b' n' c' => pt (f b' n' c')) (fun pt => (RP P R2).app e sz bytes z b n c src fun b' n' c' => pt (f b' n' c')) := by
 rintro t p1 p2 s hd ⟨old, news, h1, h2, h3, h4, h5, h6, h7⟩ q
 refine ⟨old, news, src_or h1, src_or h2, h3, h4, h5, ?_, ?_⟩
 ·intro hle
  have := h6 hle
  cases b with
  | none => exact q _ _ hd this
  | some a =>
   obtain ⟨g1, g2⟩ := this
   refine ⟨open_or g1, ?_⟩
   obtain ⟨e1, e2⟩ := st_or hd g1
   rw [e1]; exact q _ _ e2 g2
 ·intro hlt b' c' hb hc1 hc2
  obtain ⟨g1, g2⟩ := or_none hb
  rw [upd_or]
  exact q _ _ (hd.upd g2) (h7 hlt b' c' g1 hc1 hc2)
theorem Frm.cpy {sz : Nat} {b : Option Addr} {n : Nat} {b' : Option Addr} {m : Nat} {f : Nat → Option AV} : Frm (fun pt => (RP P R1).cpy sz b n b' m fun k => pt (f k)) (fun pt => (RP P R2).cpy sz b n b' m fun k => pt (f k)) := by
 rintro t p1 p2 s hd ⟨news, h1, h2, h3⟩ q
 refine ⟨news, src_or h1, h2, ?_⟩
 cases b with
 | none => exact q _ _ hd h3
 | some a =>
  obtain ⟨g1, g2⟩ := h3
  refine ⟨open_or g1, ?_⟩
  obtain ⟨e1, e2⟩ := st_or hd g1
  rw [e1]; exact q _ _ e2 g2
theorem Frm.clr {z : List Value} {b : Option Addr} {n : Nat} {x : Option AV} : Frm (fun pt => (RP P R1).clr z b n (pt x)) (fun pt => (RP P R2).clr z b n (pt x)) := by
 rintro t p1 p2 s hd h q
 cases b with
 | none => exact q _ _ hd h
 | some a =>
  obtain ⟨g1, g2, g3⟩ := h
  obtain ⟨e1, e2⟩ := st_or hd g1
  refine ⟨open_or g1, g2, ?_⟩
  rw [e1]; exact q _ _ e2 g3
theorem Frm.mksl {e : TypeId} {sz by_ : Nat} {z : List Value} {l c : Int} {f : Nat → Option AV} : Frm (fun pt => (RP P R1).mksl e sz by_ z l c fun b => pt (f b)) (fun pt => (RP P R2).mksl e sz by_ z l c fun b => pt (f b)) := by
 rintro t p1 p2 s hd ⟨h0, h1, h2, h3, h4⟩ q
 refine ⟨h0, h1, h2, h3, fun b hb => ?_⟩
 obtain ⟨g1, g2⟩ := or_none hb
 rw [upd_or]
 exact q _ _ (hd.upd g2) (h4 b g1)
theorem Frm.s2b {e : TypeId} {bs : ByteArray} {f : Nat → Nat → Option AV} : Frm (fun pt => (RP P R1).s2b e bs fun b c => pt (f b c)) (fun pt => (RP P R2).s2b e bs fun b c => pt (f b c)) := by
 rintro t p1 p2 s hd ⟨h0, h1⟩ q
 refine ⟨h0, fun b c hb h2 h3 => ?_⟩
 obtain ⟨g1, g2⟩ := or_none hb
 rw [upd_or]
 exact q _ _ (hd.upd g2) (h1 b c g1 h2 h3)
theorem Frm.b2s {a : Option Addr} {n : Nat} {f : ByteArray → Option AV} : Frm (fun pt => (RP P R1).b2s a n fun t => pt (f t)) (fun pt => (RP P R2).b2s a n fun t => pt (f t)) := by
 rintro t p1 p2 s hd ⟨bs, h1, e⟩ q
 refine ⟨bs, ?_, q _ _ hd e⟩
 cases a with
 | none => exact h1
 | some a => exact ⟨h1.1, has_mono (le_or s t) h1.2⟩
theorem runW_frm {ρ : Env} {o : Oper} : Frm (fun pt => runW (RP P R1) P ρ o fun x => pt (some x)) (fun pt => runW (RP P R2) P ρ o fun x => pt (some x)) := by
 unfold runW
 cases ρ.known o.op.operands.toList with
 | false => exact Frm.fail
 | true =>
  simp only [if_true]
  rcases runPure P (execOp ρ.rho o) with _ | nx
  ·exact Frm.fail
  ·cases nx <;> first | exact Frm.put _ | exact Frm.fail
theorem newW_frm {ρ : Env} {o : Oper} : Frm (fun pt => newW (RP P R1) P ρ o fun x => pt (some x)) (fun pt => newW (RP P R2) P ρ o fun x => pt (some x)) := by
 unfold newW
 cases ρ.known o.op.operands.toList with
 | false => exact Frm.fail
 | true =>
  simp only [if_true]
  rcases runNew P (execOp ρ.rho o) with _ | ⟨ob, kk⟩
  ·exact Frm.fail
  ·refine Frm.nw fun b => ?_
   rcases runPure P (kk b) with _ | nx
   ·exact Frm.fail
   ·cases nx <;> first | exact Frm.put _ | exact Frm.fail
theorem binW_frm {ρ : Env} {o : Oper} {op : BinOp} {t : TypeId} {x y : Operand} : Frm (fun pt => binW (RP P R1) P ρ o op t x y fun x => pt (some x)) (fun pt => binW (RP P R2) P ρ o op t x y fun x => pt (some x)) := by
 have hrun := runW_frm (P := P) (R1 := R1) (R2 := R2) (ρ := ρ) (o := o)
 unfold binW
 cases op
 all_goals first | exact hrun | skip
 all_goals dsimp only
 all_goals repeat' split
 all_goals first | exact hrun | exact Frm.fail | exact Frm.put _ | exact Frm.guard (Frm.put _)
theorem sliceW_frm {ρ : Env} {t : TypeId} {x : Operand} {lo hi mx : Option Operand} : Frm (fun pt => sliceW (RP P R1) P ρ t x lo hi mx fun x => pt (some x)) (fun pt => sliceW (RP P R2) P ρ t x lo hi mx fun x => pt (some x)) := by
 unfold sliceW
 repeat' split
 all_goals first | exact Frm.fail | exact Frm.guard (Frm.put _)
theorem callW_frm {ρ : Env} {q : Bool} {o : Oper} {c : Call} : Frm (fun pt => callW (RP P R1) P ρ q o c fun x => pt (some x)) (fun pt => callW (RP P R2) P ρ q o c fun x => pt (some x)) := by
 have hrun := runW_frm (P := P) (R1 := R1) (R2 := R2) (ρ := ρ) (o := o)
 unfold callW
 split
 ·dsimp only
  split
  ·repeat' split
   all_goals first | exact Frm.fail | exact Frm.call | exact Frm.callQ | exact Frm.callV
  ·split
   ·split
    ·split
     ·split
      ·exact Frm.app
      ·exact Frm.fail
     ·exact Frm.fail
    ·exact Frm.fail
   ·exact Frm.fail
  ·split
   ·split
    ·split
     ·exact Frm.cpy
     ·exact Frm.fail
    ·exact Frm.fail
   ·exact Frm.fail
  ·split
   ·split
    ·split
     ·exact Frm.clr
     ·exact Frm.fail
    ·exact Frm.fail
   ·exact Frm.fail
  ·exact hrun
  ·exact hrun
  ·exact hrun
  ·exact hrun
  ·exact Frm.fail
 ·exact Frm.fail
theorem opV_frm {ρ : Env} {q : Bool} {o : Oper} : Frm (fun pt => opV (RP P R1) P ρ q o pt) (fun pt => opV (RP P R2) P ρ q o pt) := by
 have hrun := runW_frm (P := P) (R1 := R1) (R2 := R2) (ρ := ρ) (o := o)
 have hnew := newW_frm (P := P) (R1 := R1) (R2 := R2) (ρ := ρ) (o := o)
 have avp : ∀ x, Frm (fun pt => (match ρ.av x with | some u => pt (some u) | none => (RP P R1).fail : PH → Prop)) (fun pt => (match ρ.av x with | some u => pt (some u) | none => (RP P R2).fail : PH → Prop)) := by
  intro x; split
  ·exact Frm.put _
  ·exact Frm.fail
 unfold opV
 cases ho : o.op with
 | move x => exact avp x
 | assign x => exact avp x
 | pick c x y =>
  dsimp only
  split
  ·exact avp x
  ·exact avp y
  ·exact Frm.ite (avp x) (avp y)
  ·exact Frm.fail
 | nilCheck x =>
  dsimp only
  split
  ·exact Frm.unSome fun a => Frm.put _
  ·exact Frm.put _
  ·exact Frm.guard (Frm.put _)
  ·exact Frm.fail
 | binOp op t x y t' => exact binW_frm
 | unOp op t x =>
  dsimp only
  repeat' split
  all_goals first | exact Frm.put _ | exact hrun
 | load t x =>
  dsimp only
  repeat' split
  all_goals first | exact Frm.ld | exact Frm.fail
 | store t x y =>
  dsimp only
  repeat' split
  all_goals first | exact Frm.fail | exact Frm.st | exact Frm.guard Frm.st
 | indexAddr t x i =>
  dsimp only
  repeat' split
  all_goals first | exact Frm.fail | exact Frm.guard (Frm.unSome fun a => Frm.put _) | exact Frm.guard (Frm.put _)
 | index t x i =>
  dsimp only
  repeat' split
  all_goals first | exact Frm.fail | exact Frm.guard (Frm.put _)
 | slice t x lo hi mx => exact sliceW_frm
 | lookup t m key ok =>
  dsimp only
  repeat' split
  all_goals first | exact Frm.fail | exact Frm.look (f := fun x b => some (.v (.tuple #[_, .bool b]))) | exact Frm.look
 | mapUpdate t m key x =>
  dsimp only
  repeat' split
  all_goals first | exact Frm.fail | exact Frm.mset
 | insert t m key x =>
  dsimp only
  repeat' split
  all_goals first | exact Frm.fail | exact Frm.mset
 | makeSlice t l c =>
  dsimp only
  repeat' split
  all_goals first | exact Frm.fail | exact Frm.mksl
 | convert t d x =>
  dsimp only
  repeat' split
  all_goals first | exact Frm.fail | exact hrun | exact Frm.b2s | exact Frm.s2b
 | call c => exact callW_frm
 | alloc _ => exact hnew
 | box _ _ => exact hnew
 | buildSlice _ _ _ => exact hnew
 | makeMap _ _ => exact hnew
 | fieldAddr _ _ _ => exact hrun
 | field _ _ _ => exact hrun
 | range t m =>
  dsimp only
  repeat' split
  all_goals first | exact Frm.fail | exact Frm.rng
 | next it b =>
  dsimp only
  repeat' split
  all_goals first | exact Frm.fail | exact Frm.guard Frm.nxt
 | entry it =>
  dsimp only
  repeat' split
  all_goals first | exact Frm.fail | exact Frm.guard Frm.ent
 | extract x i =>
  dsimp only
  split
  ·split
   ·exact Frm.ext
   ·exact Frm.fail
  ·exact hrun
 | build _ _ => exact hrun
 | makeFunc _ _ _ => exact hrun
 | makeInterface _ _ => exact hrun
 | _ => exact Frm.fail
end
end Fw
end
