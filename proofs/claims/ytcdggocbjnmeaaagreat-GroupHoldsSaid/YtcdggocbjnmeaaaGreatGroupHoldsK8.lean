/-
  Part 8 for the law: lemmas.
  Conditions: none.
-/
import Derived.Test.YtcdggocbjnmeaaaGreatGroupHoldsK7
set_option linter.unusedVariables false
set_option linter.unusedSimpArgs false
set_option linter.unusedSectionVars false
section
namespace Fw
open Go
section
variable {P : Program} {R : Value → PH → Prop} {w0 : World} {s0 : PH} {K : Act → World → Prop} {Q : Exit → Act → World → Prop} {pt : Option AV → PH → Prop}
 {ρ : Env} {o : Oper} {s : PH} {a : Act} {w : World}
theorem run_callFunc {g : FuncId} {args : Array Value} {fn : Func} (hg : P.funcs[g]? = some fn) (hb : fn.body.isSome = true) (hn : (fn.name == "runtime.NumGoroutine") = false) :
  (callFunc g args).run P w = .ok (.enter g args) w := by
 have hb' : fn.body.isNone = false := by cases h : fn.body <;> simp [h] at hb ⊢
 unfold callFunc
 simp only [Sem.run_bind, run_program, Result.andThen_ok, hg, hn, hb', Bool.false_eq_true, if_false, Sem.run_pure]
theorem call_sound (hk : SndV w0 s0 K o a pt) {c : Call} {f : Operand} {g : FuncId} {first captured args : Array Value} {fn : Func} {r : Bool × List Shape} (ho : o.op = .call c) (hc : c.callee = .value f)
  (hfv : a.eval f = .func (.func g) first captured) (hargs : c.args.map a.eval = args) (hg : P.funcs[g]? = some fn) (hb : fn.body.isSome = true) (hn : (fn.name == "runtime.NumGoroutine") = false)
  (hf : ρ.le a) (hr : Rel w0 s0 s w)
  (h : DCalls P g (first ++ args ++ captured) s fun v s' => ∃ x, mkRes r x = v ∧ pt ((some (resAv r x))) s') : o.wp P a w K Q := by
 have hex : (execOp a.eval o).run P w = .ok (.enter g (first ++ args ++ captured)) w := by
  simp only [execOp, ho, resolve, hc, hfv, hargs, Deferred.ofValue]
  simp only [Sem.run_bind, Sem.run_pure, Result.andThen_ok, invoke]
  exact run_callFunc hg hb hn
 unfold Oper.wp
 rw [hex, Oper.upon_enter]
 refine (h w hr.sub).mono ?_
 rintro e w' ⟨v, s', rfl, hr', x, hx, hkx⟩
 have := hk.val (x := resAv r x) hkx hf (hr.trans hr')
 rw [resAv_val, hx] at this
 exact this
def SrcVal (x : Value) (n : Nat) : Src → Prop
 | .sl b m => (∃ c, x = .slice b m c) ∧ n = m
 | .str t => x = .string t ∧ n = t.size
def SrcTy (P : Program) (t2 : TypeId) : Src → Prop
 | .sl _ _ => ∃ e2, P.underlying t2 = some (.slice e2)
 | .str _ => P.underlying t2 = some .string
def RoomOk (kk : Option Addr → Nat → Nat → PH → Prop) (s : PH) (b : Option Addr) (off m n c : Nat) (news : List Value) : Prop :=
 match b with
 | none => kk none n c s
 | some a => s.open_ (a.add off) m ∧ kk (some a) n c (s.stores (a.add off) 0 news)
theorem run_firstCells {sz n : Nat} {src : Src} {vs : List Value} {x : Value} (hs : Sub s w) (h : srcIs s sz src vs) (hx : SrcVal x n src) :
  (Builtin.firstCells sz n x).run P w = .ok vs.toArray w := by
 cases src with
 | sl b m =>
  obtain ⟨⟨c, rfl⟩, rfl⟩ := hx
  cases b with
  | none => obtain ⟨h1, h2⟩ := h; subst h1; (first | done | rfl)
  | some b =>
   obtain ⟨h1, h2⟩ := h
   have := run_loadCells (P := P) hs h2
   rw [h1] at this
   simpa [Builtin.firstCells] using this
 | str t =>
  obtain ⟨rfl, rfl⟩ := hx
  simp only [srcIs] at h
  subst h
  simp only [Builtin.firstCells, Sem.run_pure]
  have : t.extract 0 t.size = t := by
   apply ByteArray.ext
   simp [ByteArray.data_extract]
  rw [this]
  congr 1
  apply Array.ext'
  simp
theorem app_sound {t e : TypeId} {t2 ty : TypeId} {ats : Array TypeId} {sz : Nat} {z : Value} {b : Option Addr} {n cp : Nat} {src : Src} {x : Value} {old news : List Value}
  {kk : Option Addr → Nat → Nat → PH → Prop} {w0 : World} {s0 : PH}
  (h1 : ats[0]? = some t) (h2 : ats[1]? = some t2) (hu : P.underlying t = some (.slice e)) (hsz : sizeB P e = some sz) (hz : zeroB P e = some z) (hzs : z.cells.size = sz) (hpos : 0 < sz) (hby : 0 < bytesB P e)
  (hsv : SrcVal x src.len src) (hst : SrcTy P t2 src)
  (hr : Rel w0 s0 s w) (hold : srcIs s sz (.sl b n) old) (hnews : srcIs s sz src news) (h1c : ∀ v ∈ news, v.oneCell' = true) (hm : n + src.len ≤ maxLen) (hbytes : (n + src.len) * bytesB P e ≤ 140737488355328)
  (hroom : n + src.len ≤ cp → RoomOk kk s b (n * sz) news.length (n + src.len) cp news)
  (hgrow : cp < n + src.len → ∀ b' c', s b' = none → n + src.len ≤ c' → c' ≤ maxLen →
   kk (some ⟨b', 0, none⟩) (n + src.len) c' (s.upd b' (.cells (old.toArray ++ news.toArray ++ Builtin.zeroCells z.cells (c' - (n + src.len))) e))) :
  ∃ b' n' c' w' s', (Builtin.append_ ats ty #[.slice b n cp, x]).run P w = .ok (.slice b' n' c') w' ∧ Rel w0 s0 s' w' ∧ kk b' n' c' s' := by
 have hlen : (Builtin.lenOf x).run P w = .ok src.len w := by
  cases src with
  | sl _ _ => obtain ⟨⟨c, rfl⟩, _⟩ := hsv; (first | done | rfl)
  | str _ => obtain ⟨rfl, _⟩ := hsv; (first | done | rfl)
 obtain ⟨i, hi, hbi⟩ : ∃ i, P.info? e = some i ∧ i.bytes = bytesB P e := by
  cases hi : P.info? e with
  | none => simp [sizeB, hi] at hsz
  | some i => exact ⟨i, rfl, by simp [bytesB, hi]⟩
 have hnew : ∀ w1, Sub s w1 → (Builtin.firstCells sz src.len x).run P w1 = .ok news.toArray w1 := fun w1 hs1 => run_firstCells hs1 hnews hsv
 obtain ⟨d2, hd2, hd3⟩ : ∃ d2, P.underlying t2 = some d2 ∧ ((∃ e2, d2 = .slice e2) ∨ d2 = .string) := by
  cases src with
  | sl _ _ => obtain ⟨e2, h⟩ := hst; exact ⟨_, h, .inl ⟨_, rfl⟩⟩
  | str _ => exact ⟨_, hst, .inr rfl⟩
 generalize src.len = m at *
 clear hsv hst hnews
 by_cases hc : n + m ≤ cp
 ·have h := hroom hc
  unfold RoomOk at h
  cases b with
  | none =>
   refine ⟨none, _, _, w, s, ?_, hr, h⟩
   simp only [Builtin.append_, h1, h2]
   rcases hd3 with ⟨e2, rfl⟩ | rfl <;> simp [run_underlying' hu, run_underlying' hd2, run_sizeOf' hsz, hlen, hc, hnew w hr.sub]
  | some ad =>
   obtain ⟨hop, h⟩ := h
   obtain ⟨w', hst, hr'⟩ := storeCells_sound (P := P) (ad := ad.add (n * sz)) 0 s w h1c (fun j hj => by simpa using hop j hj) hr
   refine ⟨some ad, _, _, w', _, ?_, hr', h⟩
   simp only [Builtin.append_, h1, h2]
   rcases hd3 with ⟨e2, rfl⟩ | rfl <;> simp [run_underlying' hu, run_underlying' hd2, run_sizeOf' hsz, hlen, hc, hnew w hr.sub, hst]
 ·have hrd := hr.drew (w.drawn + 1)
  obtain ⟨hn0, hr'⟩ := hrd.new (.cells (old.toArray ++ news.toArray ++ Builtin.zeroCells z.cells (grownCap w (n + m) cp e - (n + m))) e)
  have h := hgrow (by omega) w.heap.size (grownCap w (n + m) cp e) hn0 (grownCap_ge _ _ _ _) (grownCap_le_maxLen _ _ _ _ hm)
  have holdr : (Builtin.firstCells sz n (.slice b n cp)).run P w.drew = .ok old.toArray w.drew := run_firstCells (w := w.drew) hrd.sub hold ⟨⟨cp, rfl⟩, rfl⟩
  have hnew' : (Builtin.firstCells sz m x).run P w.drew = .ok news.toArray w.drew := hnew _ hrd.sub
  have hfit := growslice_fits (need := n + m) (bytes := bytesB P e) (old := cp) (by omega) hbytes
  have hnb : ¬ i.bytes = 0 := by omega
  refine ⟨_, _, _, _, _, ?_, hr', h⟩
  simp only [Builtin.append_, h1, h2]
  rcases hd3 with ⟨e2, rfl⟩ | rfl
  all_goals
   simp [run_underlying' hu, run_underlying' hd2, run_sizeOf' hsz, hlen, hc, run_typeInfo hi, hnb, hbi, run_zeroValue' hz, Question.forced]
   rw [if_neg (by omega), if_neg (by omega)]
   simp only [holdr, hnew', Result.andThen_ok]
   have ea : old.toArray ++ (news.toArray ++ Builtin.zeroCells z.cells (grownCap w (n + m) cp e - (n + m))) = (old ++ news).toArray ++ Builtin.zeroCells z.cells (grownCap w (n + m) cp e - (n + m)) := by apply Array.ext'; simp only [Array.toList_append, List.append_assoc]
   show Result.ok (Value.slice (some ⟨w.heap.size, 0, none⟩) (n + m) (grownCap w (n + m) cp e)) (w.drew.alloc (.cells (old.toArray ++ (news.toArray ++ Builtin.zeroCells z.cells (grownCap w (n + m) cp e - (n + m)))) e)) = _
   rw [ea]
   first | done | rfl
end
end Fw
end
