/-
  Part 4 for the law: lemmas.
  Conditions: none.
-/
import Derived.Test.YtlfdfgokflhdbaaGreatExecReadsK3
set_option linter.unusedVariables false
set_option linter.unusedSimpArgs false
set_option linter.unusedSectionVars false
section
namespace Fw
open Go
def qf (w0 : World) (s0 : PH) (pin : Fr) (K : Act → World → Prop) (k : Fr → PH → Prop) : Prop :=
 ∀ fr s, k fr s → ∀ a w, Fr.le fr a → Fr.le pin a → Rel w0 s0 s w → K a w
def iF (pin : Fr) : Option Tmp → Bool
 | none => true
 | some d => match pin[d]? with | some (some _) => false | _ => true
theorem Fr.le.pinned {pin : Fr} {a : Act} (h : pin.le a) {d : Option Tmp} (hd : iF pin d = true) (v : Value) : pin.le (a.put d v) := by
 cases d with
 | none => exact h
 | some d =>
  have := h.put (some d) (v := v) (x := none) (fun u e => by simp at e)
  have he : pin.put (some d) none = pin := by
   simp only [Fr.put];apply List.ext_getElem?;intro i;rw [List.getElem?_set]
   split
   ·rename_i hi; subst hi
    split
    ·simp only [iF] at hd
     rename_i hlt
     rw [List.getElem?_eq_getElem hlt] at hd ⊢
     cases hx : pin[d] with
     | none => rfl
     | some x => rw [hx] at hd; simp at hd
    ·rename_i hlt; rw [List.getElem?_eq_none (by omega)]
   ·rfl
  rwa [he] at this
def kJ (w0 : World) (s0 : PH) (K : Act → World → Prop) (o : Oper) (a : Act) (pt : Option AV → PH → Prop) : Prop :=
 ∀ x s, pt x s → ∀ w v, Rel w0 s0 s w → (∀ u : AV, x = some u → u.val = v) → K (a.put o.dst v) w
section
variable {P : Program} {R : Value → PH → Prop} {w0 : World} {s0 : PH} {K : Act → World → Prop} {Q : Exit → Act → World → Prop} {pt : Option AV → PH → Prop}
 {ρ : Env} {o : Oper} {s : PH} {a : Act} {w : World}
theorem cv {v : Value} {w' : World} (h : (execOp a.eval o).run P w = .ok (.value v) w') (hk : K (a.put o.dst v) w') : o.wp P a w K Q := by
 unfold Oper.wp; rw [h]; exact hk
theorem oE {w' : World} (h : (execOp a.eval o).run P w = .ok .skip w') (hk : K (a.put o.dst undef) w') : o.wp P a w K Q := by
 unfold Oper.wp; rw [h]; exact hk
theorem kJ.val (hk : kJ w0 s0 K o a pt) {x : AV} (h : pt (some x) s) (_hf : ρ.le a) (hr : Rel w0 s0 s w) : K (a.put o.dst x.val) w :=
 hk _ _ h _ _ hr fun u e => by simp at e; subst e; (first | done | rfl)
theorem kJ.Cc (hk : kJ w0 s0 K o a pt) (h : pt none s) (_hf : ρ.le a) (hr : Rel w0 s0 s w) (v : Value) : K (a.put o.dst v) w :=
 hk _ _ h _ _ hr fun u e => by simp at e
theorem cB (hk : kJ w0 s0 K o a pt) (hs : ∀ cs b, o.op ≠ .select cs b) (h : dG (RP P R) P ρ o (fun x => pt (some x)) s)
  (hf : ρ.le a) (hr : Rel w0 s0 s w) : o.wp P a w K Q := by
 unfold dG at h
 split at h
 ·rename_i hkn
  rcases hv : dz P (execOp ρ.eX o) with _ | nx
  ·rw [hv] at h; exact h.elim
  rw [hv] at h
  cases nx with
  | value v =>
   have he : execOp a.eval o = execOp ρ.eX o := execOp_congr o hs fun x hx => hf.eX hkn x (by simpa using hx);refine cv (v := v) (w' := w) (by rw [he]; exact pU hv w) ?_;have hvv := hk.val (x := rL P o v) h hf hr
   rwa [FV] at hvv
  | _ => exact h.elim
 ·exact h.elim
theorem l9 (hk : kJ w0 s0 K o a pt) (hs : ∀ cs b, o.op ≠ .select cs b) (h : kS (RP P R) P ρ o (fun x => pt (some x)) s)
  (hf : ρ.le a) (hr : Rel w0 s0 s w) : o.wp P a w K Q := by
 unfold kS at h
 split at h
 ·rename_i hkn
  rcases hv : fk P (execOp ρ.eX o) with _ | ⟨ob, kk⟩
  ·rw [hv] at h; exact h.elim
  rw [hv] at h;have he : execOp a.eval o = execOp ρ.eX o := execOp_congr o hs fun x hx => hf.eX hkn x (by simpa using hx);obtain ⟨hn, hr'⟩ := hr.new ob;have h' := h _ hn;dsimp only at h';rcases hv' : dz P (kk w.heap.size) with _ | nx
  ·rw [hv'] at h'; exact h'.elim
  rw [hv'] at h'
  cases nx with
  | value v =>
   refine cv (v := v) (by rw [he, At hv w]; exact pU hv' _) ?_;exact hk.val (x := .v v) h' hf hr'
  | _ => exact h'.elim
 ·exact h.elim
theorem run_loadCellsFrom {vs : List Value} {ad : Addr} (hs : Sub s w) : ∀ (i : Nat) (acc : Array Value), (∀ j v, vs[j]? = some v → s.cell? (ad.add (i + j)) = some v) →
  (loadCellsFrom ad i vs.length acc).run P w = .ok (acc ++ vs.toArray) w := by
 induction vs with
 | nil => intro i acc h; simp [loadCellsFrom]
 | cons v vs ih =>
  intro i acc h;have h0 := hs.cell (h 0 v rfl);simp only [Nat.add_zero] at h0;simp only [List.length_cons, loadCellsFrom, Sem.run_bind, run_load, h0, Result.andThen_ok];rw [ih (i + 1) (acc.push v) (fun j u hj => by have := h (j + 1) u (by simpa using hj); rwa [show i + (j + 1) = i + 1 + j by omega] at this)];simp
theorem run_loadCells {vs : List Value} {ad : Addr} (hs : Sub s w) (h : s.has ad vs) : (loadCells ad vs.length).run P w = .ok vs.toArray w := by
 unfold loadCells;rw [run_loadCellsFrom hs 0 #[] (fun j v hj => by simpa using h j v hj)];simp
theorem run_typeInfo {t : TypeId} {i : TypeInfo} (h : P.info? t = some i) : (typeInfo t).run P w = .ok i w := by
 simp [typeInfo, h]
theorem aj {t : TypeId} {d : TypeDesc} (h : P.underlying t = some d) : (underlying t).run P w = .ok d w := by
 simp [underlying, h]
theorem cD {t : TypeId} {n : Nat} (h : dJ P t = some n) : (Go.sizeOf t).run P w = .ok n w := by
 simp only [dJ, Option.map_eq_some_iff] at h;obtain ⟨i, hi, rfl⟩ := h;simp [Go.sizeOf, run_typeInfo hi]
theorem uG {t : TypeId} (h : (P.underlying t).isSome = true) : (isAgg t).run P w = .ok (nV P t) w := by
 obtain ⟨d, hd⟩ := Option.isSome_iff_exists.1 h;unfold isAgg nV;simp only [Sem.run_bind, aj hd, Result.andThen_ok, hd]
 cases d <;> rfl
theorem cL {t : TypeId} {z : Value} (h : ir P t = some z) : (zeroValue t).run P w = .ok z w := by
 unfold ir at h
 cases hi : P.info? t with
 | none => simp [hi] at h
 | some i => rw [hi] at h; simp at h; simp [zeroValue, run_typeInfo hi, h]
theorem Aw {t : TypeId} {h : Shape} (e : shapeOf P t = some h) :
  (P.underlying t).isSome = true ∧ nV P t = h.1 ∧ dJ P t = some h.2.length ∧ (h.1 = false → h.2.length = 1) := by
 unfold shapeOf at e
 cases hi : P.info? t with
 | none => simp [hi] at e
 | some i =>
  rw [hi] at e;dsimp only at e
  cases hz : i.zero with
  | none => simp [hz] at e
  | some z =>
   rw [hz] at e;dsimp only at e;unfold nV dJ
   cases hu : P.underlying t with
   | none => simp [hu] at e
   | some d =>
    rw [hu] at e
    cases d <;> dsimp only at e <;> first
     | (cases e; done)
     | (split at e
        ·rename_i hsz
         cases e;simp [hi, hsz]
        ·cases e)
theorem pR {t : TypeId} {ad : Addr} {h : Shape} {y : Den h.2} (hh : shapeOf P t = some h) (hc : s.has ad (vals h.2 y)) (hs : Sub s w) : (loadVar t ad).run P w = .ok (h.mk y) w := by
 obtain ⟨h1, h2, h3, h4⟩ := Aw hh;unfold loadVar;simp only [Sem.run_bind, uG h1, Result.andThen_ok, h2];obtain ⟨ag, cs⟩ := h
 cases ag with
 | true =>
  have := run_loadCells (P := P) hs hc;rw [lp] at this;simp only [if_true, Sem.run_bind, cD h3, Result.andThen_ok, this]
  first | done | rfl
 | false =>
  have h5 := h4 rfl;dsimp only at h5 hc y ⊢
  match cs, h5, y, hc with
  | [c], _, y, hc =>
   have := hs.cell (hc 0 (c.val y.1) rfl);simp [Addr.add] at this;simp [this, Shape.mk, vals]
theorem GM {t : TypeId} {x : Operand} {ad : Addr} {h : Shape} {y : Den h.2} (ho : o.op = .load t x) (hx : ρ.ev x = some (.pointer (some ad))) (hh : shapeOf P t = some h)
  (hc : s.has ad (vals h.2 y)) (hf : ρ.le a) (hr : Rel w0 s0 s w) : (execOp a.eval o).run P w = .ok (.value (h.mk y)) w := by
 have hl := pR (P := P) hh hc hr.sub;simp only [execOp, ho];rw [hf.ev hx];simp [Instr.loadAt, Instr.sureAddr, hl]
theorem pT {v : Value} (h : v.oneCell' = true) : v.cells = #[v] := by cases v <;> simp [Value.oneCell'] at h <;> rfl
theorem mY (v : Value) : dh v = v.cells.toList := by cases v <;> rfl
theorem tV {b : Nat} {o : Obj} {ad : Addr} (h : ad.block ≠ b) : (s.aS b o).cell? ad = s.cell? ad := by
 unfold PH.cell?; rw [PH.bG _ _ h]
theorem vH {c : Array Value} {e : TypeId} {f : Nat × Nat} {ad : Addr} : (s.aS ad.block (.cells c e f)).cell? ad = if ad.spot.isSome then none else c[ad.off]? := by
 unfold PH.cell?; rw [PH.bB]
theorem Gy {c : Array Value} {e : TypeId} {f : Nat × Nat} {ad : Addr} (h : s ad.block = some (.cells c e f)) : s.cell? ad = if ad.spot.isSome then none else c[ad.off]? := by
 unfold PH.cell?; rw [h]
theorem pV {ad b : Addr} {u v : Value} (h : s.cell? b = some u) : ((s.setCell ad v).cell? b).isSome = true := by
 unfold PH.setCell
 split
 ·rename_i c e f hb
  by_cases hbl : b.block = ad.block
  ·rw [← hbl] at hb ⊢;rw [Gy hb] at h;rw [vH]
   split at h
   ·cases h
   ·rename_i hsp
    rw [if_neg hsp]
    have : b.off < c.size := by
     rcases Nat.lt_or_ge b.off c.size with q | q
     ·exact q
     ·simp [Array.getElem?_eq_none q] at h
    split <;> simp [this]
  ·rw [tV hbl, h]; (first | done | rfl)
 ·simp [h]
theorem wm {ad b : Addr} {v : Value} : (s.setCell ad v).frozen? b = s.frozen? b := by
 unfold PH.setCell
 split
 ·rename_i c e f hb
  unfold PH.frozen?
  by_cases hbl : b.block = ad.block
  ·rw [hbl, hb]; simp
  ·rw [PH.bG _ _ hbl]
 ·rfl
theorem fW {vs : List Value} {ad : Addr} : ∀ (i : Nat) (s : PH) (w : World), (∀ v ∈ vs, v.oneCell' = true) →
  (∀ j, j < vs.length → (s.cell? (ad.add (i + j))).isSome = true ∧ s.frozen? (ad.add (i + j)) = false) → Rel w0 s0 s w →
  ∃ w', (storeCells ad vs i).run P w = .ok () w' ∧ Rel w0 s0 (s.fl ad i vs) w' := by
 induction vs with
 | nil => intro i s w _ _ hr; exact ⟨w, rfl, hr⟩
 | cons v vs ih =>
  intro i s w h1 hc hr;obtain ⟨hs, hfz⟩ := hc 0 (by simp);simp only [Nat.add_zero] at hs hfz;obtain ⟨u, hu⟩ := Option.isSome_iff_exists.1 hs;have hw := hr.sub.cell hu;have hfw := (hr.sub.frozen hu).trans hfz
  obtain ⟨w', hrun, hr'⟩ := ih (i + 1) (s.setCell (ad.add i) v) (w.setCell (ad.add i) v) (fun x hx => h1 x (by simp [hx]))
   (fun j hj => by
     obtain ⟨q1, q2⟩ := hc (j + 1) (by simpa using hj);rw [show i + (j + 1) = i + 1 + j by omega] at q1 q2;obtain ⟨z, hz⟩ := Option.isSome_iff_exists.1 q1
     exact ⟨pV hz, wm.trans q2⟩) (hr.store hu v)
  refine ⟨w', ?_, hr'⟩;simp only [storeCells, Sem.run_bind, run_store _ _ _ _ _ (h1 v (by simp)), hw, hfw];simpa using hrun
theorem AA {t : TypeId} {x y : Operand} {ad : Addr} {v : Value} {vs : List Value} {n : Nat} (ho : o.op = .store t x y) (hx : ρ.ev x = some (.pointer (some ad))) (hy : a.eval y = v)
  (hvs : v.cells.toList = vs) (hn : dJ P t = some n) (hlen : vs.length = n) (hop : s.open_ ad vs.length) (h1 : ∀ v ∈ vs, v.oneCell' = true) (hf : ρ.le a) (hr : Rel w0 s0 s w) :
  ∃ w', (execOp a.eval o).run P w = .ok .skip w' ∧ Rel w0 s0 (s.fl ad 0 vs) w' := by
 obtain ⟨w', hrun, hr'⟩ := fW (P := P) (ad := ad) 0 s w h1 (fun j hj => by simpa using hop j hj) hr;refine ⟨w', ?_, hr'⟩;simp only [execOp, ho];rw [hf.ev hx, hy]
 have hsz : v.cells.size = n := by rw [← hlen, ← hvs]; simp
 simp [Instr.storeAt, Instr.sureAddr, storeVar, cD hn, hsz, hvs, hrun]
end
end Fw
end
