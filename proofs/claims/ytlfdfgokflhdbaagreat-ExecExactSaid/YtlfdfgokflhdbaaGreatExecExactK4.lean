/-
  Part 4 for the law: lemmas.
  Conditions: none.
-/
import Derived.Test.YtlfdfgokflhdbaaGreatExecExactK3
set_option linter.unusedVariables false
set_option linter.unusedSimpArgs false
set_option linter.unusedSectionVars false
section
namespace Fw
open Go
def qu (w0 : World) (s0 : PH) (pin : Fr) (K : Act → World → Prop) (k : Fr → PH → Prop) : Prop :=
 ∀ fr s, k fr s → ∀ a w, Fr.le fr a → Fr.le pin a → Rel w0 s0 s w → K a w
def iV (pin : Fr) : Option Tmp → Bool
 | none => true
 | some d => match pin[d]? with | some (some _) => false | _ => true
theorem Fr.le.pinned {pin : Fr} {a : Act} (h : pin.le a) {d : Option Tmp} (hd : iV pin d = true) (v : Value) : pin.le (a.put d v) := by
 cases d with
 | none => exact h
 | some d =>
  have := h.put (some d) (v := v) (x := none) (fun u e => by simp at e)
  have he : pin.put (some d) none = pin := by
   simp only [Fr.put];apply List.ext_getElem?;intro i;rw [List.getElem?_set]
   split
   ·rename_i hi; subst hi
    split
    ·simp only [iV] at hd
     rename_i hlt
     rw [List.getElem?_eq_getElem hlt] at hd ⊢
     cases hx : pin[d] with
     | none => rfl
     | some x => rw [hx] at hd; simp at hd
    ·rename_i hlt; rw [List.getElem?_eq_none (by omega)]
   ·rfl
  rwa [he] at this
def k9 (w0 : World) (s0 : PH) (K : Act → World → Prop) (o : Oper) (a : Act) (pt : Option AV → PH → Prop) : Prop :=
 ∀ x s, pt x s → ∀ w v, Rel w0 s0 s w → (∀ u : AV, x = some u → u.val = v) → K (a.put o.dst v) w
section
variable {P : Program} {R : Value → PH → Prop} {w0 : World} {s0 : PH} {K : Act → World → Prop} {Q : Exit → Act → World → Prop} {pt : Option AV → PH → Prop}
 {ρ : Env} {o : Oper} {s : PH} {a : Act} {w : World}
theorem cw {v : Value} {w' : World} (h : (execOp a.eval o).run P w = .ok (.value v) w') (hk : K (a.put o.dst v) w') : o.wp P a w K Q := by
 unfold Oper.wp; rw [h]; exact hk
theorem oT {w' : World} (h : (execOp a.eval o).run P w = .ok .skip w') (hk : K (a.put o.dst undef) w') : o.wp P a w K Q := by
 unfold Oper.wp; rw [h]; exact hk
theorem k9.val (hk : k9 w0 s0 K o a pt) {x : AV} (h : pt (some x) s) (_hf : ρ.le a) (hr : Rel w0 s0 s w) : K (a.put o.dst x.val) w :=
 hk _ _ h _ _ hr fun u e => by simp at e; subst e; (first | done | rfl)
theorem k9.Cq (hk : k9 w0 s0 K o a pt) (h : pt none s) (_hf : ρ.le a) (hr : Rel w0 s0 s w) (v : Value) : K (a.put o.dst v) w :=
 hk _ _ h _ _ hr fun u e => by simp at e
theorem cB (hk : k9 w0 s0 K o a pt) (hs : ∀ cs b, o.op ≠ .select cs b) (h : dN (RP P R) P ρ o (fun x => pt (some x)) s)
  (hf : ρ.le a) (hr : Rel w0 s0 s w) : o.wp P a w K Q := by
 unfold dN at h
 split at h
 ·rename_i hkn
  rcases hv : dJ P (execOp ρ.fl o) with _ | nx
  ·rw [hv] at h; exact h.elim
  rw [hv] at h
  cases nx with
  | value v =>
   have he : execOp a.eval o = execOp ρ.fl o := execOp_congr o hs fun x hx => hf.fl hkn x (by simpa using hx);refine cw (v := v) (w' := w) (by rw [he]; exact qh hv w) ?_;have hvv := hk.val (x := sy P o v) h hf hr
   rwa [Gh] at hvv
  | _ => exact h.elim
 ·exact h.elim
theorem mF (hk : k9 w0 s0 K o a pt) (hs : ∀ cs b, o.op ≠ .select cs b) (h : lz (RP P R) P ρ o (fun x => pt (some x)) s)
  (hf : ρ.le a) (hr : Rel w0 s0 s w) : o.wp P a w K Q := by
 unfold lz at h
 split at h
 ·rename_i hkn
  rcases hv : fE P (execOp ρ.fl o) with _ | ⟨ob, kk⟩
  ·rw [hv] at h; exact h.elim
  rw [hv] at h;have he : execOp a.eval o = execOp ρ.fl o := execOp_congr o hs fun x hx => hf.fl hkn x (by simpa using hx);obtain ⟨hn, hr'⟩ := hr.new ob;have h' := h _ hn;dsimp only at h';rcases hv' : dJ P (kk w.heap.size) with _ | nx
  ·rw [hv'] at h'; exact h'.elim
  rw [hv'] at h'
  cases nx with
  | value v =>
   refine cw (v := v) (by rw [he, AL hv w]; exact qh hv' _) ?_;exact hk.val (x := .v v) h' hf hr'
  | _ => exact h'.elim
 ·exact h.elim
theorem run_loadCellsFrom {vs : List Value} {ad : Addr} (hs : Sub s w) : ∀ (i : Nat) (acc : Array Value), (∀ j v, vs[j]? = some v → s.cell? (ad.add (i + j)) = some v) →
  (loadCellsFrom ad i vs.length acc).run P w = .ok (acc ++ vs.toArray) w := by
 induction vs with
 | nil => intro i acc h; simp [loadCellsFrom]
 | cons v vs ih =>
  intro i acc h;have h0 := hs.cell (h 0 v rfl);simp only [Nat.add_zero] at h0;simp only [List.length_cons, loadCellsFrom, Sem.run_bind, run_load, h0, Result.andThen_ok];rw [ih (i + 1) (acc.push v) (fun j u hj => by have := h (j + 1) u (by simpa using hj); rwa [show i + (j + 1) = i + 1 + j by omega] at this)];simp
theorem run_loadCells {vs : List Value} {ad : Addr} (hs : Sub s w) (h : s.has ad vs) : (loadCells ad vs.length).run P w = .ok vs.toArray w := by
 unfold loadCells;rw [run_loadCellsFrom hs 0 #[] (fun j v hj => by simpa using h j v hj)];simp
theorem run_typeInfo {t : TypeId} {i : TypeInfo} (h : P.info? t = some i) : (typeInfo t).run P w = .ok i w := by
 simp [typeInfo, h]
theorem ak {t : TypeId} {d : TypeDesc} (h : P.underlying t = some d) : (underlying t).run P w = .ok d w := by
 simp [underlying, h]
theorem cD {t : TypeId} {n : Nat} (h : dR P t = some n) : (Go.sizeOf t).run P w = .ok n w := by
 simp only [dR, Option.map_eq_some_iff] at h;obtain ⟨i, hi, rfl⟩ := h;simp [Go.sizeOf, run_typeInfo hi]
theorem u9 {t : TypeId} (h : (P.underlying t).isSome = true) : (isAgg t).run P w = .ok (ow P t) w := by
 obtain ⟨d, hd⟩ := Option.isSome_iff_exists.1 h;unfold isAgg ow;simp only [Sem.run_bind, ak hd, Result.andThen_ok, hd]
 cases d <;> rfl
theorem cQ {t : TypeId} {z : Value} (h : iJ P t = some z) : (zeroValue t).run P w = .ok z w := by
 unfold iJ at h
 cases hi : P.info? t with
 | none => simp [hi] at h
 | some i => rw [hi] at h; simp at h; simp [zeroValue, run_typeInfo hi, h]
theorem AO {t : TypeId} {h : Shape} (e : shapeOf P t = some h) :
  (P.underlying t).isSome = true ∧ ow P t = h.1 ∧ dR P t = some h.2.length ∧ (h.1 = false → h.2.length = 1) := by
 unfold shapeOf at e
 cases hi : P.info? t with
 | none => simp [hi] at e
 | some i =>
  rw [hi] at e;dsimp only at e
  cases hz : i.zero with
  | none => simp [hz] at e
  | some z =>
   rw [hz] at e;dsimp only at e;unfold ow dR
   cases hu : P.underlying t with
   | none => simp [hu] at e
   | some d =>
    rw [hu] at e
    cases d <;> dsimp only at e <;> first
     | (cases e; done)
     | (split at e
        ·rename_i hsz
         cases e;simp [hi, hsz]
        ·cases e)
theorem qe {t : TypeId} {ad : Addr} {h : Shape} {y : Den h.2} (hh : shapeOf P t = some h) (hc : s.has ad (vals h.2 y)) (hs : Sub s w) : (loadVar t ad).run P w = .ok (h.mk y) w := by
 obtain ⟨h1, h2, h3, h4⟩ := AO hh;unfold loadVar;simp only [Sem.run_bind, u9 h1, Result.andThen_ok, h2];obtain ⟨ag, cs⟩ := h
 cases ag with
 | true =>
  have := run_loadCells (P := P) hs hc;rw [lJ] at this;simp only [if_true, Sem.run_bind, cD h3, Result.andThen_ok, this]
  first | done | rfl
 | false =>
  have h5 := h4 rfl;dsimp only at h5 hc y ⊢
  match cs, h5, y, hc with
  | [c], _, y, hc =>
   have := hs.cell (hc 0 (c.val y.1) rfl);simp [Addr.add] at this;simp [this, Shape.mk, vals]
theorem Hi {t : TypeId} {x : Operand} {ad : Addr} {h : Shape} {y : Den h.2} (ho : o.op = .load t x) (hx : ρ.ev x = some (.pointer (some ad))) (hh : shapeOf P t = some h)
  (hc : s.has ad (vals h.2 y)) (hf : ρ.le a) (hr : Rel w0 s0 s w) : (execOp a.eval o).run P w = .ok (.value (h.mk y)) w := by
 have hl := qe (P := P) hh hc hr.sub;simp only [execOp, ho];rw [hf.ev hx];simp [Instr.loadAt, Instr.sureAddr, hl]
theorem qg {v : Value} (h : v.oneCell' = true) : v.cells = #[v] := by cases v <;> simp [Value.oneCell'] at h <;> rfl
theorem nE (v : Value) : dB v = v.cells.toList := by cases v <;> rfl
theorem uI {b : Nat} {o : Obj} {ad : Addr} (h : ad.block ≠ b) : (s.aS b o).cell? ad = s.cell? ad := by
 unfold PH.cell?; rw [PH.bJ _ _ h]
theorem vY {c : Array Value} {e : TypeId} {f : Nat × Nat} {ad : Addr} : (s.aS ad.block (.cells c e f)).cell? ad = if ad.spot.isSome then none else c[ad.off]? := by
 unfold PH.cell?; rw [PH.bE]
theorem G1 {c : Array Value} {e : TypeId} {f : Nat × Nat} {ad : Addr} (h : s ad.block = some (.cells c e f)) : s.cell? ad = if ad.spot.isSome then none else c[ad.off]? := by
 unfold PH.cell?; rw [h]
theorem qi {ad b : Addr} {u v : Value} (h : s.cell? b = some u) : ((s.setCell ad v).cell? b).isSome = true := by
 unfold PH.setCell
 split
 ·rename_i c e f hb
  by_cases hbl : b.block = ad.block
  ·rw [← hbl] at hb ⊢;rw [G1 hb] at h;rw [vY]
   split at h
   ·cases h
   ·rename_i hsp
    rw [if_neg hsp]
    have : b.off < c.size := by
     rcases Nat.lt_or_ge b.off c.size with q | q
     ·exact q
     ·simp [Array.getElem?_eq_none q] at h
    split <;> simp [this]
  ·rw [uI hbl, h]; (first | done | rfl)
 ·simp [h]
theorem wM {ad b : Addr} {v : Value} : (s.setCell ad v).frozen? b = s.frozen? b := by
 unfold PH.setCell
 split
 ·rename_i c e f hb
  unfold PH.frozen?
  by_cases hbl : b.block = ad.block
  ·rw [hbl, hb]; simp
  ·rw [PH.bJ _ _ hbl]
 ·rfl
theorem gq {vs : List Value} {ad : Addr} : ∀ (i : Nat) (s : PH) (w : World), (∀ v ∈ vs, v.oneCell' = true) →
  (∀ j, j < vs.length → (s.cell? (ad.add (i + j))).isSome = true ∧ s.frozen? (ad.add (i + j)) = false) → Rel w0 s0 s w →
  ∃ w', (storeCells ad vs i).run P w = .ok () w' ∧ Rel w0 s0 (s.fF ad i vs) w' := by
 induction vs with
 | nil => intro i s w _ _ hr; exact ⟨w, rfl, hr⟩
 | cons v vs ih =>
  intro i s w h1 hc hr;obtain ⟨hs, hfz⟩ := hc 0 (by simp);simp only [Nat.add_zero] at hs hfz;obtain ⟨u, hu⟩ := Option.isSome_iff_exists.1 hs;have hw := hr.sub.cell hu;have hfw := (hr.sub.frozen hu).trans hfz
  obtain ⟨w', hrun, hr'⟩ := ih (i + 1) (s.setCell (ad.add i) v) (w.setCell (ad.add i) v) (fun x hx => h1 x (by simp [hx]))
   (fun j hj => by
     obtain ⟨q1, q2⟩ := hc (j + 1) (by simpa using hj);rw [show i + (j + 1) = i + 1 + j by omega] at q1 q2;obtain ⟨z, hz⟩ := Option.isSome_iff_exists.1 q1
     exact ⟨qi hz, wM.trans q2⟩) (hr.store hu v)
  refine ⟨w', ?_, hr'⟩;simp only [storeCells, Sem.run_bind, run_store _ _ _ _ _ (h1 v (by simp)), hw, hfw];simpa using hrun
theorem AR {t : TypeId} {x y : Operand} {ad : Addr} {v : Value} {vs : List Value} {n : Nat} (ho : o.op = .store t x y) (hx : ρ.ev x = some (.pointer (some ad))) (hy : a.eval y = v)
  (hvs : v.cells.toList = vs) (hn : dR P t = some n) (hlen : vs.length = n) (hop : s.open_ ad vs.length) (h1 : ∀ v ∈ vs, v.oneCell' = true) (hf : ρ.le a) (hr : Rel w0 s0 s w) :
  ∃ w', (execOp a.eval o).run P w = .ok .skip w' ∧ Rel w0 s0 (s.fF ad 0 vs) w' := by
 obtain ⟨w', hrun, hr'⟩ := gq (P := P) (ad := ad) 0 s w h1 (fun j hj => by simpa using hop j hj) hr;refine ⟨w', ?_, hr'⟩;simp only [execOp, ho];rw [hf.ev hx, hy]
 have hsz : v.cells.size = n := by rw [← hlen, ← hvs]; simp
 simp [Instr.storeAt, Instr.sureAddr, storeVar, cD hn, hsz, hvs, hrun]
end
end Fw
end
