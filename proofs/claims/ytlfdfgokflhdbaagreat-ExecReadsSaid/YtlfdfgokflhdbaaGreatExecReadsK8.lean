/-
  Part 8 for the law: lemmas.
  Conditions: none.
-/
import Derived.Test.YtlfdfgokflhdbaaGreatExecReadsK7
set_option linter.unusedVariables false
set_option linter.unusedSimpArgs false
set_option linter.unusedSectionVars false
section
namespace Fw
open Go
section
variable {P : Program} {R : Value → PH → Prop} {w0 : World} {s0 : PH} {K : Act → World → Prop} {Q : Exit → Act → World → Prop} {pt : Option AV → PH → Prop}
 {ρ : Env} {o : Oper} {s : PH} {a : Act} {w : World}
theorem qN {g : FuncId} {args : Array Value} {fn : Func} (hg : P.funcs[g]? = some fn) (hb : fn.body.isSome = true) (hn : (fn.name == "runtime.NumGoroutine") = false) :
  (callFunc g args).run P w = .ok (.enter g args) w := by
 have hb' : fn.body.isNone = false := by cases h : fn.body <;> simp [h] at hb ⊢
 unfold callFunc;simp only [Sem.run_bind, run_program, Result.andThen_ok, hg, hn, hb', Bool.false_eq_true, if_false, Sem.run_pure]
theorem oQ (hk : kJ w0 s0 K o a pt) {c : Call} {f : Operand} {g : FuncId} {first captured args : Array Value} {fn : Func} {r : Bool × List Shape} (ho : o.op = .call c) (hc : c.callee = .value f)
  (hfv : a.eval f = .func (.func g) first captured) (hargs : c.args.map a.eval = args) (hg : P.funcs[g]? = some fn) (hb : fn.body.isSome = true) (hn : (fn.name == "runtime.NumGoroutine") = false)
  (hf : ρ.le a) (hr : Rel w0 s0 s w)
  (h : bu P g (first ++ args ++ captured) s fun v s' => ∃ x, gx r x = v ∧ pt ((some (jk r x))) s') : o.wp P a w K Q := by
 have hex : (execOp a.eval o).run P w = .ok (.enter g (first ++ args ++ captured)) w := by
  simp only [execOp, ho, resolve, hc, hfv, hargs, Deferred.ofValue];simp only [Sem.run_bind, Sem.run_pure, Result.andThen_ok, invoke];exact qN hg hb hn
 unfold Oper.wp;rw [hex, Oper.upon_enter];refine (h w hr.sub).mono ?_;rintro e w' ⟨v, s', rfl, hr', x, hx, hkx⟩;have := hk.val (x := jk r x) hkx hf (hr.trans hr');rw [qJ, hx] at this;exact this
theorem HX (hk : kJ w0 s0 K o a pt) {c : Call} {f : Operand} {g : FuncId} {first captured args : Array Value} {r : Bool × List Shape} (ho : o.op = .call c) (hc : c.callee = .value f)
  (hfv : a.eval f = .func (.func g) first captured) (hargs : c.args.map a.eval = args) (hf : ρ.le a) (hr : Rel w0 s0 s w)
  (h : W.xt P g (first ++ args ++ captured) r (fun x => pt (some (jk r x))) s) : o.wp P a w K Q := by
 obtain ⟨x, hrun, h⟩ := h
 have hex : (execOp a.eval o).run P w = .ok (.value (gx r x)) w := by
  simp only [execOp, ho, resolve, hc, hfv, hargs, Deferred.ofValue];simp only [Sem.run_bind, Sem.run_pure, Result.andThen_ok, invoke];exact hrun w hr.sub
 refine cv hex ?_;have := hk.val (x := jk r x) h hf hr
 rwa [qJ] at this
theorem EO (hk : kJ w0 s0 K o a pt) {c : Call} {rv : Operand} {nm : String} {v : Value} {args : Array Value} {r : Bool × List Shape} (ho : o.op = .call c) (hc : c.callee = .invoke rv nm)
  (hv : a.eval rv = v) (hargs : c.args.map a.eval = args) (hf : ρ.le a) (hr : Rel w0 s0 s w)
  (h : W.inv P v nm args r (fun x => pt (some (jk r x))) s) : o.wp P a w K Q := by
 obtain ⟨t, x, g, rc, fn, rfl, hm, hg, hb, hn, h⟩ := h
 have hex : (execOp a.eval o).run P w = .ok (.enter g (#[rc] ++ args)) w := by
  have e0 : (#[Value.iface t x] ++ args)[0]? = some (.iface t x) := by rw [Array.getElem?_append_left (show 0 < 1 by omega)]; (first | done | rfl)
  have e1 : (#[Value.iface t x] ++ args).extract 1 (#[Value.iface t x] ++ args).size = args := by
   apply Array.ext';simp
  simp only [execOp, ho, resolve, hc, hv, hargs];simp only [Sem.run_bind, Sem.run_pure, Result.andThen_ok, invoke, e0, e1, callMethod, run_program, hm];exact qN hg hb hn
 unfold Oper.wp;rw [hex, Oper.upon_enter];refine (h w hr.sub).mono ?_;rintro e w' ⟨v, s', rfl, hr', x, hx, hkx⟩;have := hk.val (x := jk r x) hkx hf (hr.trans hr');rw [qJ, hx] at this;exact this
def yR (x : Value) (n : Nat) : Src → Prop
 | .sl b m => (∃ c, x = .slice b m c) ∧ n = m
 | .str t => x = .string t ∧ n = t.size
 | .zer _ _ => False
def HZ (P : Program) (t2 : TypeId) : Src → Prop
 | .sl _ _ => ∃ e2, P.underlying t2 = some (.slice e2)
 | .str _ => P.underlying t2 = some .string
 | .zer _ _ => False
def nM (kk : OA → Nat → Nat → PH → Prop) (s : PH) (b : OA) (off m n c : Nat) (news : List Value) : Prop :=
 match b with
 | none => kk none n c s
 | some a => s.open_ (a.add off) m ∧ kk (some a) n c (s.fl (a.add off) 0 news)
theorem jm {sz n : Nat} {src : Src} {vs : List Value} {x : Value} (hs : Sub s w) (h : eF s sz src vs) (hx : yR x n src) :
  (Builtin.firstCells sz n x).run P w = .ok vs.toArray w := by
 cases src with
 | sl b m =>
  obtain ⟨⟨c, rfl⟩, rfl⟩ := hx
  cases b with
  | none => obtain ⟨h1, h2⟩ := h; subst h1; (first | done | rfl)
  | some b =>
   obtain ⟨h1, h2⟩ := h;have := run_loadCells (P := P) hs h2;rw [h1] at this;simpa [Builtin.firstCells] using this
 | str t =>
  obtain ⟨rfl, rfl⟩ := hx;simp only [eF] at h;subst h;simp only [Builtin.firstCells, Sem.run_pure]
  have : t.extract 0 t.size = t := by
   apply ByteArray.ext;simp [ByteArray.data_extract]
  rw [this]
  congr 1
  apply Array.ext';simp
 | zer z l => exact hx.elim
theorem D9 {t e : TypeId} {t2 ty : TypeId} {ats : Array TypeId} {sz : Nat} {z : Value} {b : OA} {n cp : Nat} {src : Src} {x : Value} {old news : List Value}
  {kk : OA → Nat → Nat → PH → Prop} {w0 : World} {s0 : PH}
  (h1 : ats[0]? = some t) (h2 : ats[1]? = some t2) (hu : P.underlying t = some (.slice e)) (hsz : dJ P e = some sz) (hz : ir P e = some z) (hzs : z.cells.size = sz) (hpos : 0 < sz) (hby : 0 < dY P e)
  (hsv : yR x src.len src) (hst : HZ P t2 src)
  (hr : Rel w0 s0 s w) (hold : eF s sz (.sl b n) old) (hnews : eF s sz src news) (h1c : ∀ v ∈ news, v.oneCell' = true) (hm : n + src.len ≤ maxLen) (hbytes : (n + src.len) * dY P e ≤ 140737488355328)
  (hroom : n + src.len ≤ cp → nM kk s b (n * sz) news.length (n + src.len) cp news)
  (hgrow : cp < n + src.len → ∀ b' c', s b' = none → n + src.len ≤ c' → c' ≤ maxLen →
    kk (some ⟨b', 0, none⟩) (n + src.len) c' (s.aS b' (.cells (old.toArray ++ news.toArray ++ Builtin.zeroCells z.cells (c' - (n + src.len))) e))) :
  ∃ b' n' c' w' s', (Builtin.append_ ats ty #[.slice b n cp, x]).run P w = .ok (.slice b' n' c') w' ∧ Rel w0 s0 s' w' ∧ kk b' n' c' s' := by
 have hlen : (Builtin.lenOf x).run P w = .ok src.len w := by
  cases src with
  | sl _ _ => obtain ⟨⟨c, rfl⟩, _⟩ := hsv; (first | done | rfl)
  | str _ => obtain ⟨rfl, _⟩ := hsv; (first | done | rfl)
  | zer _ _ => exact hsv.elim
 obtain ⟨i, hi, hbi⟩ : ∃ i, P.info? e = some i ∧ i.bytes = dY P e := by
  cases hi : P.info? e with
  | none => simp [dJ, hi] at hsz
  | some i => exact ⟨i, rfl, by simp [dY, hi]⟩
 have hnew : ∀ w1, Sub s w1 → (Builtin.firstCells sz src.len x).run P w1 = .ok news.toArray w1 := fun w1 hs1 => jm hs1 hnews hsv
 obtain ⟨d2, hd2, hd3⟩ : ∃ d2, P.underlying t2 = some d2 ∧ ((∃ e2, d2 = .slice e2) ∨ d2 = .string) := by
  cases src with
  | sl _ _ => obtain ⟨e2, h⟩ := hst; exact ⟨_, h, .inl ⟨_, rfl⟩⟩
  | str _ => exact ⟨_, hst, .inr rfl⟩
  | zer _ _ => exact hst.elim
 generalize src.len = m at *
 clear hsv hst hnews
 by_cases hc : n + m ≤ cp
 ·have h := hroom hc;unfold nM at h
  cases b with
  | none =>
   refine ⟨none, _, _, w, s, ?_, hr, h⟩;simp only [Builtin.append_, h1, h2]
   rcases hd3 with ⟨e2, rfl⟩ | rfl <;> simp [aj hu, aj hd2, cD hsz, hlen, hc, hnew w hr.sub]
  | some ad =>
   obtain ⟨hop, h⟩ := h;obtain ⟨w', hst, hr'⟩ := fW (P := P) (ad := ad.add (n * sz)) 0 s w h1c (fun j hj => by simpa using hop j hj) hr;refine ⟨some ad, _, _, w', _, ?_, hr', h⟩;simp only [Builtin.append_, h1, h2]
   rcases hd3 with ⟨e2, rfl⟩ | rfl <;> simp [aj hu, aj hd2, cD hsz, hlen, hc, hnew w hr.sub, hst]
 ·have hrd := hr.drew (w.drawn + 1);obtain ⟨hn0, hr'⟩ := hrd.new (.cells (old.toArray ++ news.toArray ++ Builtin.zeroCells z.cells (grownCap w (n + m) cp e - (n + m))) e);have h := hgrow (by omega) w.heap.size (grownCap w (n + m) cp e) hn0 (grownCap_ge _ _ _ _) (grownCap_le_maxLen _ _ _ _ hm);have holdr : (Builtin.firstCells sz n (.slice b n cp)).run P w.drew = .ok old.toArray w.drew := jm (w := w.drew) hrd.sub hold ⟨⟨cp, rfl⟩, rfl⟩;have hnew' : (Builtin.firstCells sz m x).run P w.drew = .ok news.toArray w.drew := hnew _ hrd.sub;have hfit := growslice_fits (need := n + m) (bytes := dY P e) (old := cp) (by omega) hbytes
  have hnb : ¬ i.bytes = 0 := by omega
  refine ⟨_, _, _, _, _, ?_, hr', h⟩;simp only [Builtin.append_, h1, h2];rcases hd3 with ⟨e2, rfl⟩ | rfl
  all_goals
   simp [aj hu, aj hd2, cD hsz, hlen, hc, run_typeInfo hi, hnb, hbi, cL hz, Question.forced];rw [if_neg (by omega), if_neg (by omega)];simp only [holdr, hnew', Result.andThen_ok]
   have ea : old.toArray ++ (news.toArray ++ Builtin.zeroCells z.cells (grownCap w (n + m) cp e - (n + m))) = (old ++ news).toArray ++ Builtin.zeroCells z.cells (grownCap w (n + m) cp e - (n + m)) := by apply Array.ext'; simp only [Array.toList_append, List.append_assoc]
   show Result.ok (Value.slice (some ⟨w.heap.size, 0, none⟩) (n + m) (grownCap w (n + m) cp e)) (w.drew.alloc (.cells (old.toArray ++ (news.toArray ++ Builtin.zeroCells z.cells (grownCap w (n + m) cp e - (n + m)))) e)) = _
   rw [ea]
   first | done | rfl
theorem CK {t e : TypeId} {t2 ty : TypeId} {ats : Array TypeId} {sz : Nat} {z : Value} {b : OA} {n cp : Nat} {kd kd' : IntKind} {l : Int} {old : List Value}
  {kk : OA → Nat → Nat → PH → Prop} {w0 : World} {s0 : PH}
  (h1 : ats[0]? = some t) (h2 : ats[1]? = some t2) (hu : P.underlying t = some (.slice e)) (hu2 : P.underlying t2 = some (.int kd)) (hsz : dJ P e = some sz) (hz : ir P e = some z) (hzs : z.cells.size = sz) (hpos : 0 < sz) (hby : 0 < dY P e)
  (h0 : 0 ≤ l) (hl : l ≤ 9223372036854775807)
  (hr : Rel w0 s0 s w) (hold : eF s sz (.sl b n) old) (h1c : ∀ v ∈ (Builtin.zeroCells z.cells l.toNat).toList, v.oneCell' = true) (hm : n + l.toNat ≤ maxLen) (hbytes : (n + l.toNat) * dY P e ≤ 140737488355328)
  (hroom : n + l.toNat ≤ cp → nM kk s b (n * sz) (Builtin.zeroCells z.cells l.toNat).toList.length (n + l.toNat) cp (Builtin.zeroCells z.cells l.toNat).toList)
  (hgrow : cp < n + l.toNat → ∀ b' c', s b' = none → n + l.toNat ≤ c' → c' ≤ maxLen →
    kk (some ⟨b', 0, none⟩) (n + l.toNat) c' (s.aS b' (.cells (old.toArray ++ (Builtin.zeroCells z.cells l.toNat).toList.toArray ++ Builtin.zeroCells z.cells (c' - (n + l.toNat))) e))) :
  ∃ b' n' c' w' s', (Builtin.append_ ats ty #[.slice b n cp, .int kd' l]).run P w = .ok (.slice b' n' c') w' ∧ Rel w0 s0 s' w' ∧ kk b' n' c' s' := by
 obtain ⟨i, hi, hbi⟩ : ∃ i, P.info? e = some i ∧ i.bytes = dY P e := by
  cases hi : P.info? e with
  | none => simp [dJ, hi] at hsz
  | some i => exact ⟨i, rfl, by simp [dY, hi]⟩
 obtain ⟨m, rfl⟩ : ∃ m : Nat, l = (m : Int) := ⟨l.toNat, by omega⟩
 have hw : IntKind.i64.wrap (m : Int) = (m : Int) := by rw [IntKind.wrap_i64]; omega
 rw [Int.toNat_natCast] at *
 have hneg : ¬ ((m : Int) < 0) := by omega
 have hmb : m * dY P e ≤ 140737488355328 := Nat.le_trans (Nat.mul_le_mul_right _ (Nat.le_add_left _ _)) hbytes
 have h48 : ¬ (281474976710656 < (m : Int) * (i.bytes : Int)) := by rw [hbi, ← Int.natCast_mul]; omega
 have h48b : ¬ (281474976710656 < (m : Int) * (dY P e : Int)) := by rw [← hbi]; exact h48
 have hz0 : m * sz = 0 → (Builtin.zeroCells z.cells m).toList = [] := by
  intro hms
  have : m = 0 := by
   rcases Nat.mul_eq_zero.1 hms with h | h
   ·exact h
   ·omega
  subst this;simp [Builtin.zeroCells]
 by_cases hc : n + m ≤ cp
 ·have h := hroom hc;unfold nM at h
  cases b with
  | none =>
   refine ⟨none, _, _, w, s, ?_, hr, h⟩;simp only [Builtin.append_, h1, h2]
   by_cases hms : m * sz = 0 <;> simp [aj hu, aj hu2, cD hsz, run_typeInfo hi, asInt, asIntOf, hw, hneg, h48, hc, hms, cL hz]
  | some ad =>
   obtain ⟨hop, h⟩ := h;obtain ⟨w', hst, hr'⟩ := fW (P := P) (ad := ad.add (n * sz)) 0 s w h1c (fun j hj => by simpa using hop j hj) hr;refine ⟨some ad, _, _, w', _, ?_, hr', h⟩;simp only [Builtin.append_, h1, h2]
   by_cases hms : m * sz = 0
   ·rw [hz0 hms] at hst;simp [aj hu, aj hu2, cD hsz, run_typeInfo hi, asInt, asIntOf, hw, hneg, h48, hc, hms, hst]
   ·simp [aj hu, aj hu2, cD hsz, run_typeInfo hi, asInt, asIntOf, hw, hneg, h48, hc, hms, cL hz, hst]
 ·have hrd := hr.drew (w.drawn + 1);obtain ⟨hn0, hr'⟩ := hrd.new (.cells (old.toArray ++ (Builtin.zeroCells z.cells m).toList.toArray ++ Builtin.zeroCells z.cells (grownCap w (n + m) cp e - (n + m))) e);have h := hgrow (by omega) w.heap.size (grownCap w (n + m) cp e) hn0 (grownCap_ge _ _ _ _) (grownCap_le_maxLen _ _ _ _ hm);have holdr : (Builtin.firstCells sz n (.slice b n cp)).run P w.drew = .ok old.toArray w.drew := jm (w := w.drew) hrd.sub hold ⟨⟨cp, rfl⟩, rfl⟩;have hfit := growslice_fits (need := n + m) (bytes := dY P e) (old := cp) (by omega) hbytes
  have hnb : ¬ i.bytes = 0 := by omega
  have hmx : ¬ ((9223372036854775807 : Int) < (n : Int) + (m : Int)) := by
   have : maxLen = 9223372036854775807 := rfl;omega
  refine ⟨_, _, _, _, _, ?_, hr', h⟩;simp only [Builtin.append_, h1, h2]
  by_cases hms : m * sz = 0
  ·simp [aj hu, aj hu2, cD hsz, run_typeInfo hi, asInt, asIntOf, hw, hneg, h48, hc, hnb, hbi, hmx, hms, cL hz, Question.forced];rw [if_neg h48b, if_neg (by omega)];simp only [holdr, Result.andThen_ok]
   have e0 : Builtin.zeroCells z.cells m = #[] := by apply Array.ext'; simpa using hz0 hms
   rw [e0, Array.empty_append]
   first | done | rfl
  ·simp [aj hu, aj hu2, cD hsz, run_typeInfo hi, asInt, asIntOf, hw, hneg, h48, hc, hnb, hbi, hmx, hms, cL hz, Question.forced];rw [if_neg h48b, if_neg (by omega)];simp only [holdr, Result.andThen_ok]
   first | done | rfl
end
end Fw
end
