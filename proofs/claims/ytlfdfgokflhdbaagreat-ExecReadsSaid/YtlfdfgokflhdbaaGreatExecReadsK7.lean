/-
  Part 7 for the law: lemmas.
  Conditions: none.
-/
import Derived.Test.YtlfdfgokflhdbaaGreatExecReadsK6
set_option linter.unusedVariables false
set_option linter.unusedSimpArgs false
set_option linter.unusedSectionVars false
section
namespace Fw
open Go
section
variable {P : Program} {R : Value → PH → Prop} {w0 : World} {s0 : PH} {K : Act → World → Prop} {Q : Exit → Act → World → Prop} {pt : Option AV → PH → Prop}
 {ρ : Env} {o : Oper} {s : PH} {a : Act} {w : World}
theorem jR {kd : IntKind} {i : Int} {y : Nat} {c : BoundsCode} (h0 : 0 ≤ i) (h : i ≤ y) : (Instr.sliceBound (.int kd i) y c).run P w = .ok i.toNat w := by
 simp [Instr.sliceBound, asIntOf, h0, h]
theorem iE (hf : ρ.le a) {x : Option Operand} {d n : Int} (h : dK ρ x d = some n) :
  (x = none ∧ n = d) ∨ ∃ y kd, x = some y ∧ a.eval y = .int kd n := by
 unfold dK at h
 split at h
 ·simp at h; exact .inl ⟨rfl, h.symm⟩
 ·rename_i y
  split at h
  ·rename_i kd m hy
   simp at h; subst h;exact .inr ⟨y, kd, rfl, hf.ev hy⟩
  ·cases h
theorem pn {isS : Bool} {len cap : Nat} {lo hi mx : Option Operand} {l h m : Int} (hf : ρ.le a)
  (e1 : dK ρ lo 0 = some l) (e2 : dK ρ hi len = some h) (e3 : dK ρ mx cap = some m) (hm : mx.isSome = true → hi.isSome = true)
  (g1 : 0 ≤ l) (g2 : l ≤ h) (g3 : h ≤ m) (g4 : m ≤ cap) :
  (Instr.sliceBounds isS len cap (lo.map a.eval) (hi.map a.eval) (mx.map a.eval)).run P w = .ok (l.toNat, h.toNat, m.toNat) w := by
 have hm2 : ((m.toNat : Nat) : Int) = m := by omega
 have hh2 : ((h.toNat : Nat) : Int) = h := by omega
 unfold Instr.sliceBounds;rcases iE hf e3 with ⟨rfl, rfl⟩ | ⟨y3, k3, rfl, v3⟩
 ·rcases iE hf e2 with ⟨rfl, rfl⟩ | ⟨y2, k2, rfl, v2⟩
  ·rcases iE hf e1 with ⟨rfl, rfl⟩ | ⟨y1, k1, rfl, v1⟩
   ·simp
   ·simp [v1, jR g1 g2]
  ·have b2 := jR (P := P) (w := w) (kd := k2) (c := if isS then .sliceAcap else .sliceAlen) (show 0 ≤ h by omega) (show h ≤ ((cap : Nat) : Int) by omega);rcases iE hf e1 with ⟨rfl, rfl⟩ | ⟨y1, k1, rfl, v1⟩
   ·simp [v2, b2]
   ·have b1 := jR (P := P) (w := w) (kd := k1) (y := h.toNat) (c := .sliceB) g1 (by omega);simp [v1, v2, b2, b1]
 ·obtain ⟨y2, hy2⟩ := Option.isSome_iff_exists.1 (hm rfl);subst hy2;rcases iE hf e2 with ⟨e, _⟩ | ⟨y2', k2, e, v2⟩
  ·cases e
  ·simp at e; subst e;have b3 := jR (P := P) (w := w) (kd := k3) (y := cap) (c := if isS then .slice3Acap else .slice3Alen) (show 0 ≤ m by omega) g4;have b2 := jR (P := P) (w := w) (kd := k2) (y := m.toNat) (c := .slice3B) (show 0 ≤ h by omega) (by omega);rcases iE hf e1 with ⟨rfl, rfl⟩ | ⟨y1, k1, rfl, v1⟩
   ·simp [v2, v3, b3, b2]
   ·have b1 := jR (P := P) (w := w) (kd := k1) (y := h.toNat) (c := .slice3C) g1 (by omega);simp [v1, v2, v3, b3, b2, b1]
theorem pW {t : TypeId} {x : Value} {lo hi mx : Option Value} (h : ∀ n e, P.underlying t ≠ some (.array n e)) (hu : (P.underlying t).isSome = true) :
  (Instr.sliceAt t x lo hi mx).run P w = (Instr.slice t x lo hi mx).run P w := by
 obtain ⟨d, hd⟩ := Option.isSome_iff_exists.1 hu;unfold Instr.sliceAt;simp only [Sem.run_bind, aj hd, Result.andThen_ok]
 cases d <;> first | rfl | exact absurd hd (h _ _)
theorem Ay (hk : kJ w0 s0 K o a pt) {t : TypeId} {x : Operand} {lo hi mx : Option Operand} (ho : o.op = .slice t x lo hi mx)
  (h : jx (RP P R) P ρ t x lo hi mx (fun x => pt (some x)) s) (hf : ρ.le a) (hr : Rel w0 s0 s w) : o.wp P a w K Q := by
 generalize hG : jx (RP P R) P ρ t x lo hi mx (fun x => pt (some x)) = G at h
 have ex : execOp a.eval o = (do pure (.value (← Instr.sliceAt t (a.eval x) (lo.map a.eval) (hi.map a.eval) (mx.map a.eval)))) := by simp only [execOp, ho]
 unfold jx at hG
 split at hG
 ·rename_i st hx
  split at hG
  ·rename_i hu
   split at hG
   ·rename_i l hh e1 e2
    subst hG;obtain ⟨⟨g1, g2, g3⟩, h⟩ := h;have hb := pn (P := P) (w := w) (isS := false) (len := st.size) (cap := st.size) (lo := lo) (hi := hi) (mx := none) (m := st.size) hf e1 e2 rfl (by simp) g1 g2 g3 (by omega);refine cv (v := .string (st.extract l.toNat hh.toNat)) (w' := w) ?_ (hk.val (x := .v _) h hf hr);rw [ex, hf.ev hx, Sem.run_bind, pW (by simp [hu]) (by simp [hu])];simp only [Instr.slice, Sem.run_bind, aj hu, Result.andThen_ok];simp at hb;simp [hb]
   ·subst hG; exact h.elim
  ·subst hG; exact h.elim
 ·rename_i ad len cap hx
  split at hG
  ·rename_i e hu
   split at hG
   ·rename_i sz hsz
    have fin : ∀ (l hh m : Int), (Instr.sliceBounds true len cap (lo.map a.eval) (hi.map a.eval) (mx.map a.eval)).run P w = .ok (l.toNat, hh.toNat, m.toNat) w →
      pt ((some (.v (.slice (if m.toNat = l.toNat then ad else ad.map (·.add (l.toNat * sz))) (hh.toNat - l.toNat) (m.toNat - l.toNat))))) s → o.wp P a w K Q := by
     intro l hh m hb h;refine cv (w' := w) ?_ (hk.val (x := .v _) h hf hr);rw [ex, hf.ev hx, Sem.run_bind, pW (by simp [hu]) (by simp [hu])];simp only [Instr.slice, Sem.run_bind, aj hu, Result.andThen_ok, hb, cD hsz]
     first | done | rfl
    split at hG
    ·split at hG
     ·rename_i l hh e1 e2
      subst hG;obtain ⟨⟨g1, g2, g3⟩, h⟩ := h;have hb := pn (P := P) (w := w) (isS := true) (len := len) (cap := cap) (lo := lo) (hi := hi) (mx := none) (m := cap) hf e1 e2 rfl (by simp) g1 g2 g3 (by omega);exact fin l hh cap hb (by simpa using h)
     ·subst hG; exact h.elim
    ·split at hG
     ·rename_i l hh m e1 e2 e3
      subst hG;obtain ⟨⟨g1, g2, g3, g4⟩, h⟩ := h;exact fin l hh m (pn hf e1 e2 e3 (by simp) g1 g2 g3 g4) h
     ·subst hG; exact h.elim
    ·subst hG; exact h.elim
   ·subst hG; exact h.elim
  ·subst hG; exact h.elim
 ·subst hG; exact h.elim
theorem kN {b : Bool} {t : TypeId} {v : Value} {d : TypeDesc} (hu : P.underlying t = some d) (hd : plainKey d = true) :
  (Instr.checkKey b 10000 t v).run P w = .ok () w := by
 unfold Instr.checkKey;simp only [Sem.run_bind, aj hu, Result.andThen_ok]
 cases d <;> first | (cases hd; done) | rfl
theorem lR {t : TypeId} {key : Value} {d : TypeDesc} {es : List MapEntry} {r : Option (Nat × Value)} (hu : P.underlying t = some d) (h : Instr.findNow d key es 0 = some r) :
  (Instr.findKey t key es).run P w = .ok r w := by
 unfold Instr.findKey;simp only [Sem.run_bind, aj hu, Result.andThen_ok, h]
 first | done | rfl
theorem e9 {b : Nat} {ob : Obj} (hs : Sub s w) (h : s b = some ob) (hc : ∀ c e f, ob ≠ .cells c e f) : (getObj b).run P w = .ok ob w := by
 have := hs _ _ h;unfold getObj
 cases ob <;> first | (exact absurd rfl (hc _ _ _)) | (simp only [Sem.run, this])
theorem jv {b : Nat} {ob ob' : Obj} (hr : Rel w0 s0 s w) (h : s b = some ob) (hc : ∀ c e f, ob ≠ .cells c e f) :
  (setObj b ob').run P w = .ok () { w with heap := w.heap.setIfInBounds b ob' } ∧ Rel w0 s0 (s.aS b ob') { w with heap := w.heap.setIfInBounds b ob' } := by
 refine ⟨?_, hr.set h ob'⟩;have := hr.sub _ _ h;unfold setObj
 cases ob <;> first | (exact absurd rfl (hc _ _ _)) | (simp only [Sem.run, this])
def fD (zero : Value) : Option (Nat × Value) → Value
 | some (_, v) => v
 | none => zero
theorem C8 {t kt e : TypeId} {kd : TypeDesc} {m : Option Nat} {key zero : Value} {ok : Bool} {es : Array MapEntry} {c : Nat} {res : Option (Nat × Value)}
  (hu : P.underlying t = some (.map kt e)) (hkd : P.underlying kt = some kd) (hd : plainKey kd = true) (hz : ir P e = some zero)
  (hs : Sub s w) (hm : nq s m es c) (hf : Instr.findNow kd key es.toList 0 = some res) :
  (Instr.lookup t (.map m) key ok).run P w = .ok (if ok then .tuple #[fD zero res, .bool res.isSome] else fD zero res) w := by
 unfold Instr.lookup;simp only [Sem.run_bind, aj hu, Result.andThen_ok]
 cases m with
 | none =>
  simp only [nq] at hm; subst hm;simp only [Sem.run_bind, Sem.run_pure, Result.andThen_ok, kN hkd hd, lR hkd hf]
  cases res with
  | none => simp only [Sem.run_bind, cL hz, Result.andThen_ok]; cases ok <;> rfl
  | some x => cases x; cases ok <;> rfl
 | some r =>
  have := e9 (P := P) hs hm (by simp);simp only [Sem.run_bind, this, Sem.run_pure, Result.andThen_ok, kN hkd hd, lR hkd hf]
  cases res with
  | none => simp only [Sem.run_bind, cL hz, Result.andThen_ok]; cases ok <;> rfl
  | some x => cases x; cases ok <;> rfl
theorem zM {old new : Value} (h : Instr.sameBits 10000 old new = true) : (Instr.keyThatStays old new).run P w = .ok new w := by
 simp [Instr.keyThatStays, h]
theorem l7 {t kt e : TypeId} {kd : TypeDesc} {r : Nat} {key val : Value} {es : Array MapEntry} {c : Nat} {res : Option (Nat × Value)}
  (hu : P.underlying t = some (.map kt e)) (hkd : P.underlying kt = some kd) (hd : plainKey kd = true)
  (hr : Rel w0 s0 s w) (hm : s r = some (.map es c)) (hf : Instr.findNow kd key es.toList 0 = some res)
  {s' : PH} (h : match res with
   | some (i, _) => (∃ e, es[i]? = some e ∧ Instr.sameBits 10000 e.key key = true) ∧ s' = s.aS r (.map (es.modify i fun e => { e with key := key, val := val }) c)
   | none => s' = s.aS r (.map (es.push { key := key, val := val, born := c }) (c + 1))) :
  ∃ w', (Instr.mapUpdate t (.map (some r)) key val).run P w = .ok () w' ∧ Rel w0 s0 s' w' := by
 have hg := e9 (P := P) hr.sub hm (by simp);unfold Instr.mapUpdate;simp only [Sem.run_bind, aj hu, Result.andThen_ok, hg, kN hkd hd, lR hkd hf]
 cases res with
 | none =>
  dsimp only at h;subst h;obtain ⟨h1, h2⟩ := jv (P := P) (ob' := .map (es.push { key := key, val := val, born := c }) (c + 1)) hr hm (by simp);exact ⟨_, h1, h2⟩
 | some x =>
  obtain ⟨i, v⟩ := x;obtain ⟨⟨e1, he, hsb⟩, h⟩ := h;subst h;obtain ⟨h1, h2⟩ := jv (P := P) (ob' := .map (es.modify i fun e => { e with key := key, val := val }) c) hr hm (by simp);refine ⟨_, ?_, h2⟩;simp only [Sem.run_bind, he, Option.map_some, Option.getD_some, zM hsb, Result.andThen_ok];exact h1
theorem Bj {t kt e : TypeId} {m : Option Nat} {key zero : Value} {ok : Bool} {es : Array MapEntry} {c : Nat} {res : Option (Nat × Value)}
  (hu : P.underlying t = some (.map kt e)) (hz : ir P e = some zero) (hs : Sub s w) (hm : nq s m es c) (hf : W.keyed P kt key es res) :
  (Instr.lookup t (.map m) key ok).run P w = .ok (if ok then .tuple #[fD zero res, .bool res.isSome] else fD zero res) w := by
 unfold Instr.lookup;simp only [Sem.run_bind, aj hu, Result.andThen_ok]
 cases m with
 | none =>
  simp only [nq] at hm; subst hm;simp only [Sem.run_bind, Sem.run_pure, Result.andThen_ok, hf.1, hf.2]
  cases res with
  | none => simp only [Sem.run_bind, cL hz, Result.andThen_ok]; cases ok <;> rfl
  | some x => cases x; cases ok <;> rfl
 | some r =>
  have := e9 (P := P) hs hm (by simp);simp only [Sem.run_bind, this, Sem.run_pure, Result.andThen_ok, hf.1, hf.2]
  cases res with
  | none => simp only [Sem.run_bind, cL hz, Result.andThen_ok]; cases ok <;> rfl
  | some x => cases x; cases ok <;> rfl
theorem lq {t kt e : TypeId} {r : Nat} {key val : Value} {es : Array MapEntry} {c : Nat} {res : Option (Nat × Value)}
  (hu : P.underlying t = some (.map kt e)) (hr : Rel w0 s0 s w) (hm : s r = some (.map es c)) (hf : W.keyed P kt key es res)
  {s' : PH} (h : match res with
   | some (i, _) => (∃ e, es[i]? = some e ∧ Instr.sameBits 10000 e.key key = true) ∧ s' = s.aS r (.map (es.modify i fun e => { e with key := key, val := val }) c)
   | none => s' = s.aS r (.map (es.push { key := key, val := val, born := c }) (c + 1))) :
  ∃ w', (Instr.mapUpdate t (.map (some r)) key val).run P w = .ok () w' ∧ Rel w0 s0 s' w' := by
 have hg := e9 (P := P) hr.sub hm (by simp);unfold Instr.mapUpdate;simp only [Sem.run_bind, aj hu, Result.andThen_ok, hg, hf.1, hf.2]
 cases res with
 | none =>
  dsimp only at h;subst h;obtain ⟨h1, h2⟩ := jv (P := P) (ob' := .map (es.push { key := key, val := val, born := c }) (c + 1)) hr hm (by simp);exact ⟨_, h1, h2⟩
 | some x =>
  obtain ⟨i, v⟩ := x;obtain ⟨⟨e1, he, hsb⟩, h⟩ := h;subst h;obtain ⟨h1, h2⟩ := jv (P := P) (ob' := .map (es.modify i fun e => { e with key := key, val := val }) c) hr hm (by simp);refine ⟨_, ?_, h2⟩;simp only [Sem.run_bind, he, Option.map_some, Option.getD_some, zM hsb, Result.andThen_ok];exact h1
theorem FF {t kt e : TypeId} {m : Option Nat} {ob : Obj} (hu : P.underlying t = some (.map kt e)) (hs : Sub s w) (hm : W.Io s m ob) :
  (Instr.range t (.map m)).run P w = .ok (.pointer (some ⟨w.heap.size, 0, none⟩)) { w with heap := w.heap.push ob } := by
 unfold Instr.range;simp only [Sem.run_bind, aj hu, Result.andThen_ok]
 cases m with
 | none =>
  cases hm
  first | done | rfl
 | some r =>
  obtain ⟨es, c, h1, rfl⟩ := hm;have hg := e9 (P := P) hs h1 (by simp);simp only [Sem.run_bind, hg, Result.andThen_ok]
  first | done | rfl
theorem CU (n : Nat) (w : World) : ∃ k d, (choose (.mapNext n)).run P w = .ok k { w with drawn := d } ∧ (0 < n → k < n) := by
 unfold choose;simp only [Sem.run]
 split
 ·rename_i hf
  exact ⟨0, w.drawn, rfl, fun h => h⟩
 ·exact ⟨_, _, rfl, fun h => Nat.mod_lt _ h⟩
theorem EZ {r c : Nat} {seen : Array Nat} {m : Option Nat} {k : Value → PH → Prop} (hr : Rel w0 s0 s w) (hi : s r = some (.mapIter m c seen c)) (h : W.Kp r c seen k s m) {ad : Addr} (hb : ad.block = r) (ho : ad.off = 0) (ty : TypeId) :
  ∃ v s' w', (Instr.next (.pointer (some ad)) false ty).run P w = .ok v w' ∧ Rel w0 s0 s' w' ∧ k v s' := by
 obtain ⟨b, off, sp⟩ := ad;cases hb; cases ho;have hgi := e9 (P := P) hr.sub hi (by simp);unfold Instr.next;dsimp only at hi hgi ⊢;simp only [Sem.run_bind, hgi, Result.andThen_ok]
 cases m with
 | none => exact ⟨_, s, w, rfl, hr, h⟩
 | some m =>
  obtain ⟨es, h1, h2, h3, h4⟩ := h;have hgm := e9 (P := P) hr.sub h1 (by simp);simp only [Sem.run_bind, hgm, Result.andThen_ok]
  have hdep : (!seen.isEmpty && !es.isEmpty && es.all (·.born ≥ c)) = false := by
   cases he : es.isEmpty with
   | true => simp
   | false =>
    have : es.all (·.born ≥ c) = false := by
     have hne : 0 < es.size := by
      cases es with | mk l => cases l with
      | nil => simp at he
      | cons a l => simp
     have hx := h2 es[0] (Array.getElem_mem hne);rw [Array.all_eq_false];exact ⟨0, hne, by simp; omega⟩
    rw [this]; simp
  have hnew : ((es.filter fun e => !seen.contains e.born).filter (·.born ≥ c)) = #[] := by
   rw [Array.filter_eq_empty_iff];intro e he;have := h2 e (Array.mem_filter.1 he).1;simp; omega
  have hold : ((es.filter fun e => !seen.contains e.born).filter (·.born < c)) = es.filter fun e => !seen.contains e.born := by
   rw [Array.filter_eq_self];intro e he;have := h2 e (Array.mem_filter.1 he).1;simpa using this
  simp only [hdep, Bool.false_eq_true, if_false, hnew, hold, Array.append_empty]
  obtain ⟨L, hL⟩ : ∃ L, es.filter (fun e => !seen.contains e.born) = L := ⟨_, rfl⟩
  rw [hL];obtain ⟨q, d, hq, hlt⟩ := CU (P := P) ((if L.isEmpty then #[none] else #[]) ++ L.map some).size w;simp only [Sem.run_bind, hq, Result.andThen_ok];have hr' := hr.drew d
  cases hE : L.isEmpty with
  | true =>
   have hLe : L = #[] := by simpa using hE
   subst hLe;rw [hE] at hlt
   have hq0 : q = 0 := by have := hlt (by simp); simp at this; omega
   subst hq0
   have hg0 : ((if true = true then (#[none] : Array (Option MapEntry)) else #[]) ++ Array.map some (#[] : Array MapEntry))[0]? = some none := by simp
   rw [hg0];refine ⟨_, s, _, rfl, hr', h3 fun e he => ?_⟩;apply Classical.byContradiction;intro hn;have : e ∈ es.filter (fun e => !seen.contains e.born) := Array.mem_filter.2 ⟨he, by simpa using hn⟩;rw [hL] at this; simp at this
  | false =>
   rw [hE] at hlt;simp only [Bool.false_eq_true, if_false, Array.empty_append, Array.size_map] at hlt ⊢
   have hpos : 0 < L.size := by
    cases L with | mk l => cases l with
    | nil => simp at hE
    | cons a l => simp
   have hql := hlt hpos
   have hg : (L.map some)[q]? = some (some L[q]) := by simp [hql]
   rw [hg]
   have hmem : L[q] ∈ es.filter (fun e => !seen.contains e.born) := by rw [hL]; exact Array.getElem_mem hql
   obtain ⟨hm1, hm2⟩ := Array.mem_filter.1 hmem;obtain ⟨hs1, hs2⟩ := jv (P := P) (ob' := .mapIter (some m) c (seen.push L[q].born) c) hr' hi (by simp);refine ⟨_, _, _, ?_, hs2, h4 L[q] hm1 (by simpa using hm2)⟩;simp only [Sem.run_bind, hs1, Result.andThen_ok]
   first | done | rfl
theorem EE {r since c m : Nat} {seen : Array Nat} {es : Array MapEntry} {e : MapEntry} (hs : Sub s w) (hi : s r = some (.mapIter (some m) since seen c)) (hm : s m = some (.map es c)) (hb : seen.back? = some e.born) (hf : es.find? (·.born == e.born) = some e) {ad : Addr} (hab : ad.block = r) (hao : ad.off = 0) :
  (Instr.entry (.pointer (some ad))).run P w = .ok (.tuple #[e.key, e.val]) w := by
 obtain ⟨b, off, sp⟩ := ad;cases hab; cases hao;have hgi := e9 (P := P) hs hi (by simp);have hgm := e9 (P := P) hs hm (by simp);unfold Instr.entry;dsimp only at hi hgi ⊢;simp only [Sem.run_bind, hgi, hgm, Result.andThen_ok, hb];simp only [Sem.run_bind, hgm, Result.andThen_ok, bne_self_eq_false, Bool.false_eq_true, if_false, hf]
 first | done | rfl
theorem Ea {n : Nat} {ad : OA} {cp : Nat} {bs : BA} (hs : Sub s w)
  (h : match ad with | none => bs = .empty | some ad => bs.size = n ∧ s.has ad (bytesOf bs)) : (Conv.bytesToString (.slice ad n cp)).run P w = .ok (.string bs) w := by
 unfold Conv.bytesToString
 cases ad with
 | none => dsimp only at h; subst h; (first | done | rfl)
 | some ad =>
  obtain ⟨hn, hc⟩ := h;have hl := run_loadCells (P := P) hs hc
  have hlen : (bytesOf bs).length = n := by simp [bytesOf, ← hn]
  rw [hlen] at hl;simp only [Sem.run_bind, hl, Result.andThen_ok]
  have key : ∀ (l : List UInt8) (acc : BA), (do
    let r ← forIn (l.map fun b => Value.int .u8 b.toNat) acc fun c (s : BA) => (do
      let .int .u8 n := c | stuck "bytesToString: byte expected"
      pure (ForInStep.yield (s.push (UInt8.ofNat n.toNat))) : Sem (ForInStep BA))
    pure (Value.string r) : Sem Value).run P w = .ok (.string ⟨acc.data ++ l.toArray⟩) w := by
   intro l
   induction l with
   | nil => intro acc; simp
   | cons b l ih =>
    intro acc;simp only [List.map_cons, List.forIn_cons, pure_bind];rw [ih];simp [ByteArray.push, UInt8.ofNat_toNat]
  have e := key bs.data.toList .empty;rw [← Array.forIn_toList];simp only [bytesOf] at *;refine Eq.trans ?_ (e.trans (by simp));rw [Sem.run_bind]
  first | done | rfl
end
end Fw
end
