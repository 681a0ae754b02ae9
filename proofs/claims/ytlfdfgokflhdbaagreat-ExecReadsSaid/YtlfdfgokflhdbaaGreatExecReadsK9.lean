/-
  Part 9 for the law: lemmas.
  Conditions: none.
-/
import Derived.Test.YtlfdfgokflhdbaaGreatExecReadsK8
set_option linter.unusedVariables false
set_option linter.unusedSimpArgs false
set_option linter.unusedSectionVars false
section
namespace Fw
open Go
section
variable {P : Program} {R : Value → PH → Prop} {w0 : World} {s0 : PH} {K : Act → World → Prop} {Q : Exit → Act → World → Prop} {pt : Option AV → PH → Prop}
 {ρ : Env} {o : Oper} {s : PH} {a : Act} {w : World}
theorem C5 (hf : ρ.le a) {xs : Array Operand} (h : ρ.known xs.toList = true) : xs.map a.eval = xs.map ρ.eX :=
 Array.map_congr_left fun x hx => hf.eX h x (by simpa using hx)
theorem Ba {z : Value} {sz n : Nat} (hz : z.cells.size = sz) : (Array.range (n * sz)).map (z.cells[· % z.cells.size]!) = Builtin.zeroCells z.cells n := by
 subst hz; (first | done | rfl)
theorem FH {t d e : TypeId} {bs : BA} (hs : P.underlying t = some .string) (hd : P.underlying d = some (.slice e)) (he : P.underlying e = some (.int .u8)) :
  (Go.convert t d (.string bs)).run P w = .ok (.slice (some ⟨w.heap.size, 0, none⟩) bs.size (grownCap w bs.size 0 e)) (w.drew.alloc (.cells (W.bytesRow bs (grownCap w bs.size 0 e)) e ((grownCap w bs.size 0 e), (grownCap w bs.size 0 e) + 1))) := by
 have hsz : (W.bytesRow bs (grownCap w bs.size 0 e)).size = grownCap w bs.size 0 e := by
  have := grownCap_ge w bs.size 0 e;have e1 : bs.data.size = bs.size := rfl;simp [W.bytesRow, e1]; omega
 have hsh : ∀ (C : Array Value), (w.drew.alloc (.cells C e)).shape? w.heap.size = some (e, C.size) := fun C => by
  have : (w.drew.alloc (.cells C e)).heap[w.heap.size]? = some (.cells C e) := by
   show (w.heap.push (.cells C e))[w.heap.size]? = _
   simp
  unfold World.shape?;rw [this]
 have hfr : ∀ (C : Array Value) (n : Nat), (w.drew.alloc (.cells C e)).freeze ⟨w.heap.size, n, none⟩ 1 = w.drew.alloc (.cells C e (n, n + 1)) := fun C n => by
  have hm : ∀ (a : Array Obj) (x : Obj) (f : Obj → Obj), (a.push x).modify a.size f = a.push (f x) := by
   intro a x f;apply Array.ext
   ·simp
   ·intro i h1 h2;simp only [Array.getElem_modify, Array.getElem_push]
    by_cases h : a.size = i
    ·subst h;simp
    ·have hi : i < a.size := by simp at h1; omega
     simp [h, hi]
  unfold World.freeze;rw [if_neg (by decide)]
  show ({ w.drew.alloc (.cells C e) with heap := (w.heap.push (.cells C e)).modify w.heap.size _ } : World) = _
  rw [hm]
  first | done | rfl
 have key : (Go.convert t d (.string bs)).run P w = .ok (.slice (some ⟨w.heap.size, 0, none⟩) bs.size (grownCap w bs.size 0 e)) (w.drew.alloc (.cells (W.bytesRow bs (grownCap w bs.size 0 e)) e ((W.bytesRow bs (grownCap w bs.size 0 e)).size, (W.bytesRow bs (grownCap w bs.size 0 e)).size + 1))) := by
  simp [Go.convert, run_underlying hs, run_underlying hd, run_underlying he, Conv.stringToBytes, Question.forced, newRow, markStringish, hsh, W.bytesRow, grownCap];exact hfr _ _
 rw [key, hsz]
theorem Da {t e : TypeId} {sz : Nat} {z : Value} {l c : Int} {kl kc : IntKind} (hu : P.underlying t = some (.slice e)) (hsz : dJ P e = some sz) (hz : ir P e = some z) (hzs : z.cells.size = sz) (hpos : 0 < sz)
  (h0 : 0 ≤ l) (h1 : l ≤ c) (h2 : c ≤ 9223372036854775807) (h3 : dY P e * c ≤ 140737488355328) :
  (Instr.makeSlice t (.int kl l) (.int kc c)).run P w = .ok (.slice (some ⟨w.heap.size, 0, none⟩) l.toNat c.toNat) { w with heap := w.heap.push (.cells (Builtin.zeroCells z.cells c.toNat) e) } := by
 obtain ⟨i, hi, hbi⟩ : ∃ i, P.info? e = some i ∧ i.bytes = dY P e := by
  cases hi : P.info? e with
  | none => simp [dJ, hi] at hsz
  | some i => exact ⟨i, rfl, by simp [dY, hi]⟩
 have wl : IntKind.i64.wrap l = l := by simp [IntKind.wrap, IntKind.bits, IntKind.signed]; omega
 have wc : IntKind.i64.wrap c = c := by simp [IntKind.wrap, IntKind.bits, IntKind.signed]; omega
 unfold Instr.makeSlice;simp only [Sem.run_bind, aj hu, Result.andThen_ok, asInt, asIntOf, Sem.run_pure, run_typeInfo hi, hbi, wl, wc];have hb0 : (0 : Int) ≤ (dY P e : Int) * c := Int.mul_nonneg (by omega) (by omega)
 have n1 : ¬ (c < 0) := by omega
 have n2 : ¬ ((dY P e : Int) * c > 2 ^ 48) := by omega
 have n3 : ¬ (l < 0) := by omega
 have n4 : ¬ (l > c) := by omega
 simp only [n1, n2, n3, n4, decide_false, Bool.or_false, Bool.false_eq_true, if_false, or_self, Bool.or_self];simp only [Sem.run_bind, Result.andThen_ok, run_askRoom, cD hsz, Sem.run_pure]
 by_cases hn : c.toNat * sz = 0
 ·have hc0 : c.toNat = 0 := by
   rcases Nat.mul_eq_zero.1 hn with h | h
   ·exact h
   ·omega
  have hr0 : Array.range 0 = #[] := rfl;simp [hc0, newRow, Builtin.zeroCells, hr0]
 ·simp only [hn, if_false, Sem.run_bind, cL hz, Result.andThen_ok, Sem.run_pure, newRow, run_newObj];rw [Ba hzs]
theorem Bi {t : TypeId} {st : BA} {kd : IntKind} {i : Int} (hu : P.underlying t = some .string) (h0 : 0 ≤ i) (h1 : i < st.size) :
  (Instr.index t (.string st) (.int kd i)).run P w = .ok (.int .u8 ((st[i.toNat]?.getD 0).toNat : Int)) w := by
 unfold Instr.index
 have hlt : i.toNat < st.size := by omega
 have : st[i.toNat]? = some (st[i.toNat]'hlt) := getElem?_pos st i.toNat hlt;simp only [Sem.run_bind, asIntOf, Sem.run_pure, Result.andThen_ok, aj hu, if_pos h0, this, Option.getD_some]
theorem yl {t e : TypeId} {kd : IntKind} {i : Int} {ad : Addr} {len cp sz : Nat} (hu : P.underlying t = some (.slice e)) (hsz : dJ P e = some sz) (h0 : 0 ≤ i) (h1 : i < len) :
  (Instr.indexAt t (.slice (some ad) len cp) (.int kd i)).run P w = .ok (.pointer (some (ad.add (i.toNat * sz)))) w := by
 unfold Instr.indexAt;simp [asIntOf, aj hu, cD hsz, h0, h1]
theorem yj {t e : TypeId} {kd : IntKind} {i : Int} {ad : Addr} {len sz : Nat} (hu : P.underlying t = some (.array len e)) (hsz : dJ P e = some sz) (h0 : 0 ≤ i) (h1 : i < len) :
  (Instr.indexAt t (.pointer (some ad)) (.int kd i)).run P w = .ok (.pointer (some (ad.add (i.toNat * sz)))) w := by
 unfold Instr.indexAt;simp [asIntOf, aj hu, cD hsz, h0, h1, Instr.sureAddr]
theorem Be (hk : kJ w0 s0 K o a pt) {q : Bool} {c : Call} (ho : o.op = .call c) (h : jB (RP P R) P ρ q o c (fun x => pt (some x)) s)
  (hf : ρ.le a) (hr : Rel w0 s0 s w) : o.wp P a w K Q := by
 have hs : ∀ cs b, o.op ≠ .select cs b := by intro cs b e; rw [ho] at e; cases e
 generalize hG : jB (RP P R) P ρ q o c (fun x => pt (some x)) = G at h
 unfold jB at hG
 split at hG
 case isFalse => subst hG; exact h.elim
 rename_i hkn
 have hargs := C5 hf hkn;dsimp only at hG
 split at hG
 ·rename_i f hcal
  split at hG
  ·rename_i r hres
   split at hG
   ·rename_i g first captured hfv
    split at hG
    ·rename_i fn hg
     split at hG
     ·rename_i hb
      simp only [Bool.and_eq_true, Bool.not_eq_true'] at hb
      split at hG
      ·subst hG;obtain ⟨x, hd, h⟩ := h;exact oQ hk ho hcal (hf.av hfv) hargs hg hb.1 hb.2 hf hr (hd.mono fun v s' ⟨e1, e2⟩ => ⟨x, e1, by rw [e2]; exact h⟩)
      ·subst hG;exact oQ hk ho hcal (hf.av hfv) hargs hg hb.1 hb.2 hf hr h
     ·split at hG
      ·subst hG;exact HX hk ho hcal (hf.av hfv) hargs hf hr h
      ·subst hG; exact h.elim
    ·subst hG; exact h.elim
   ·rename_i v hfv
    split at hG
    ·subst hG; exact h.elim
    subst hG;obtain ⟨g, first, captured, he, ⟨fn, hg, hb, hn⟩, h⟩ := h;exact oQ hk ho hcal ((hf.av hfv).trans he) hargs hg hb hn hf hr h
   ·subst hG; exact h.elim
  ·subst hG; exact h.elim
 ·rename_i rv nm hcal
  split at hG
  ·rename_i r v hres hrv
   split at hG
   ·subst hG; exact h.elim
   subst hG;exact EO hk ho hcal (hf.ev hrv) hargs hf hr h
  ·subst hG; exact h.elim
 ·rename_i hcal
  split at hG
  ·rename_i t b n cp x ht hx hy
   split at hG
   ·rename_i e hu
    split at hG
    ·rename_i sz z src hsz hz hsrc
     split at hG
     ·rename_i hcond
      obtain ⟨hzs, hpos, hby⟩ := hcond;subst hG;obtain ⟨old, news, hold, hnews, h1c, hm, hbytes, hroom, hgrow⟩ := h
      have fin : ∀ {b' n' c' w' s'}, (Builtin.append_ c.argTypes o.type #[.slice b n cp, x]).run P w = .ok (.slice b' n' c') w' → Rel w0 s0 s' w' → pt (some (.v (.slice b' n' c'))) s' → o.wp P a w K Q := fun {b' n' c' w' s'} hrun hr' hkk => by
       refine cv (v := .slice b' n' c') (w' := w') ?_ (hk.val (x := .v _) hkk hf hr');simp only [execOp, ho, resolve, hcal, hargs, Sem.run_bind, Sem.run_pure, Result.andThen_ok, invoke, builtin]
       have he : (Builtin.append_ c.argTypes o.type (c.args.map ρ.eX)).run P w = (Builtin.append_ c.argTypes o.type #[.slice b n cp, x]).run P w := by
        simp only [Builtin.append_, ht, hx, hy]
        first | done | rfl
       rw [he, hrun]
       first | done | rfl
      have gen : (∃ t2, c.argTypes[1]? = some t2 ∧ yR x src.len src ∧ HZ P t2 src) → o.wp P a w K Q := by
       rintro ⟨t2, ht2, hsv, hst⟩
       obtain ⟨b', n', c', w', s', hrun, hr', hkk⟩ := D9 (P := P) (ats := c.argTypes) (ty := o.type) (kk := fun b' n' c' => pt ((some (.v (.slice b' n' c')))))
        ht ht2 hu hsz hz hzs hpos hby hsv hst hr hold hnews h1c hm hbytes
        (fun hc => by have := hroom hc; unfold nM; cases b <;> exact this)
        (fun hc b' c' hb hle hmx => by simpa using hgrow hc b' c' hb hle hmx)
       exact fin hrun hr' hkk
      cases ht2 : c.argTypes[1]? with
      | none => rw [ht2] at hsrc; simp at hsrc
      | some t2 =>
       rw [ht2] at hsrc;simp only [Option.bind_some] at hsrc
       split at hsrc
       ·rename_i hu2; simp at hsrc; subst hsrc; exact gen ⟨t2, ht2, ⟨⟨_, rfl⟩, rfl⟩, _, hu2⟩
       ·rename_i hu2; simp at hsrc; subst hsrc; exact gen ⟨t2, ht2, ⟨rfl, rfl⟩, hu2⟩
       ·rename_i kd kd' l hu2
        rw [hz] at hsrc;simp at hsrc;subst hsrc;obtain ⟨g0, g1, rfl⟩ := hnews;simp only [Src.len] at hm hbytes hroom hgrow
        obtain ⟨b', n', c', w', s', hrun, hr', hkk⟩ := CK (P := P) (ats := c.argTypes) (ty := o.type) (kd' := kd') (kk := fun b' n' c' => pt ((some (.v (.slice b' n' c')))))
         ht ht2 hu hu2 hsz hz hzs hpos hby g0 g1 hr hold h1c hm hbytes
         (fun hc => by have := hroom hc; unfold nM; cases b <;> exact this)
         (fun hc b' c' hb hle hmx => by simpa using hgrow hc b' c' hb hle hmx)
        exact fin hrun hr' hkk
       ·cases hsrc
     ·subst hG; exact h.elim
    ·subst hG; exact h.elim
   ·subst hG; exact h.elim
  ·subst hG; exact h.elim
 ·rename_i hcal
  split at hG
  ·rename_i t b n cp b' m cp' ht hx hy
   split at hG
   ·rename_i e hu
    split at hG
    ·rename_i sz hsz
     subst hG;obtain ⟨news, hnews, h1c, h⟩ := h
     have hfirst : (Builtin.firstCells sz (Nat.min m n) (.slice b' m cp')).run P w = .ok news.toArray w := by
      have : (Builtin.firstCells sz (Nat.min m n) (.slice b' (Nat.min m n) cp')).run P w = .ok news.toArray w := jm (P := P) (x := .slice b' (Nat.min m n) cp') hr.sub hnews ⟨⟨cp', rfl⟩, rfl⟩
      cases b' <;> exact this
     have hrun : ∃ w' s', (Builtin.copy_ c.argTypes o.type #[.slice b n cp, .slice b' m cp']).run P w = .ok (.int .i64 (Nat.min m n : Nat)) w' ∧ Rel w0 s0 s' w' ∧ pt (some (.v (.int .i64 (Nat.min m n : Nat)))) s' := by
      cases b with
      | none =>
       refine ⟨w, s, ?_, hr, h⟩;simp [Builtin.copy_, ht, aj hu, Builtin.lenOf, cD hsz, hfirst, goInt]
      | some ad =>
       obtain ⟨hop, h⟩ := h;obtain ⟨w', hst, hr'⟩ := fW (P := P) (ad := ad) 0 s w h1c (fun j hj => by simpa using hop j hj) hr;refine ⟨w', _, ?_, hr', h⟩;simp [Builtin.copy_, ht, aj hu, Builtin.lenOf, cD hsz, hfirst, goInt, hst]
     obtain ⟨w', s', hrun, hr', hkk⟩ := hrun;refine cv (v := .int .i64 (Nat.min m n : Nat)) (w' := w') ?_ (hk.val (x := .v _) hkk hf hr');simp only [execOp, ho, resolve, hcal, hargs, Sem.run_bind, Sem.run_pure, Result.andThen_ok, invoke, builtin]
     have he : (Builtin.copy_ c.argTypes o.type (c.args.map ρ.eX)).run P w = (Builtin.copy_ c.argTypes o.type #[.slice b n cp, .slice b' m cp']).run P w := by
      simp only [Builtin.copy_, ht, hx, hy]
      first | done | rfl
     rw [he, hrun]
     first | done | rfl
    ·subst hG; exact h.elim
   ·subst hG; exact h.elim
  ·subst hG; exact h.elim
 ·rename_i hcal
  split at hG
  ·rename_i t b n cp ht hx
   split at hG
   ·rename_i e hu
    split at hG
    ·rename_i z hz
     subst hG
     have hrun : ∃ w' s', (Builtin.clear_ c.argTypes o.type #[.slice b n cp]).run P w = .ok (.tuple #[]) w' ∧ Rel w0 s0 s' w' ∧ pt (some (.v (.tuple #[]))) s' := by
      cases b with
      | none =>
       refine ⟨w, s, ?_, hr, h⟩;simp [Builtin.clear_, ht, aj hu]
      | some ad =>
       obtain ⟨hop, h1c, h⟩ := h
       cases n with
       | zero =>
        have e0 : (Builtin.zeroCells z.cells.toList.toArray 0).toList = [] := by simp [Builtin.zeroCells]
        rw [e0] at h;refine ⟨w, s, ?_, hr, h⟩;simp [Builtin.clear_, ht, aj hu]
       | succ n =>
        obtain ⟨w', hst, hr'⟩ := fW (P := P) (ad := ad) 0 s w h1c (fun j hj => by simpa using hop j hj) hr;refine ⟨w', _, ?_, hr', h⟩
        have e0 : z.cells.toList.toArray = z.cells := by simp
        rw [e0] at hst;simp [Builtin.clear_, ht, aj hu, cL hz, hst]
     obtain ⟨w', s', hrun, hr', hkk⟩ := hrun;refine cv (v := .tuple #[]) (w' := w') ?_ (hk.val (x := .v _) hkk hf hr');simp only [execOp, ho, resolve, hcal, hargs, Sem.run_bind, Sem.run_pure, Result.andThen_ok, invoke, builtin]
     have he : (Builtin.clear_ c.argTypes o.type (c.args.map ρ.eX)).run P w = (Builtin.clear_ c.argTypes o.type #[.slice b n cp]).run P w := by
      simp only [Builtin.clear_, ht, hx]
      first | done | rfl
     rw [he, hrun]
     first | done | rfl
    ·subst hG; exact h.elim
   ·subst hG; exact h.elim
  ·subst hG; exact h.elim
 ·subst hG; exact cB hk hs h hf hr
 ·subst hG; exact cB hk hs h hf hr
 ·subst hG; exact cB hk hs h hf hr
 ·subst hG; exact cB hk hs h hf hr
 ·subst hG; exact h.elim
theorem wX (hk : kJ w0 s0 K o a pt) {q : Bool} (h : gd (RP P R) P ρ q o pt s) (hf : ρ.le a) (hr : Rel w0 s0 s w) : o.wp P a w K Q := by
 generalize hG : gd (RP P R) P ρ q o pt = G at h
 unfold gd at hG
 have mv : ∀ x, (o.op = .move x ∨ o.op = .assign x) → (match ρ.av x with | some u => pt ((some u)) | none => (RP P R).fail) = G → o.wp P a w K Q := by
  intro x ho hG
  split at hG
  ·rename_i u hu
   subst hG;refine cv (v := u.val) (w' := w) ?_ (hk.val h hf hr)
   rcases ho with ho | ho <;> simp [execOp, ho, hf.av hu]
  ·subst hG; exact h.elim
 have hsel : (∀ cs b, o.op ≠ .select cs b) → (∀ cs b, o.op ≠ .select cs b) := id
 cases ho : o.op with
 | move x => rw [ho] at hG; exact mv x (.inl ho) hG
 | assign x => rw [ho] at hG; exact mv x (.inr ho) hG
 | pick c x y =>
  rw [ho] at hG;dsimp only at hG
  have fin : ∀ (z : Operand) (q : Bool), a.eval c = .bool q → z = (if q then x else y) → (match ρ.av z with | some u => pt ((some u)) | none => (RP P R).fail) s → o.wp P a w K Q := by
   intro z q hc hz h
   cases hu : ρ.av z with
   | none => rw [hu] at h; exact h.elim
   | some u =>
    rw [hu] at h;refine cv (v := u.val) (w' := w) ?_ (hk.val h hf hr);have := hf.av hu;subst hz
    cases q <;> simp_all [execOp, asBool]
  split at hG
  ·rename_i hc; subst hG; exact fin x true (hf.av hc) rfl h
  ·rename_i hc; subst hG; exact fin y false (hf.av hc) rfl h
  ·rename_i q hc; subst hG
   have h' : (if q then (match ρ.av x with | some u => pt ((some u)) | none => (RP P R).fail) s else (match ρ.av y with | some u => pt ((some u)) | none => (RP P R).fail) s) := h
   cases q with
   | true => exact fin x true (hf.av hc) rfl (by simpa using h')
   | false => exact fin y false (hf.av hc) rfl (by simpa using h')
  ·subst hG; exact h.elim
 | load t x =>
  rw [ho] at hG;dsimp only at hG
  split at hG
  ·rename_i ad hx
   split at hG
   ·rename_i hh hsh
    subst hG;obtain ⟨y, hc, h⟩ := h;refine cv (GM ho hx hsh hc hf hr) ?_;have := hk.val (x := hh.av y) h hf hr
    rwa [Shape.iV] at this
   ·subst hG; exact h.elim
  ·subst hG; exact h.elim
 | store t x y =>
  rw [ho] at hG;dsimp only at hG
  split at hG
  ·rename_i ad u hx hy
   split at hG
   ·rename_i n hn
    split at hG
    ·rename_i v
     split at hG
     ·rename_i h1
      subst hG;obtain ⟨h1c, hop, hall, h⟩ := h;obtain ⟨w', hrun, hr'⟩ := AA (P := P) (vs := [v]) ho hx (hf.av hy) (by rw [AV.val, pT h1c]) hn (by simp [h1]) hop hall hf hr;exact oE hrun (hk.Cc h hf hr' _)
     ·subst hG; exact h.elim
    ·split at hG
     ·rename_i h1
      subst hG;obtain ⟨hop, hall, h⟩ := h;obtain ⟨w', hrun, hr'⟩ := AA (P := P) ho hx (hf.av hy) (mY _).symm hn h1 hop hall hf hr;exact oE hrun (hk.Cc h hf hr' _)
     ·subst hG; exact h.elim
   ·subst hG; exact h.elim
  ·subst hG; exact h.elim
 | nilCheck x =>
  rw [ho] at hG;dsimp only at hG
  split at hG
  ·rename_i p hx
   subst hG;obtain ⟨ad, rfl, h⟩ := h;refine cv (v := .pointer (some ad)) (w' := w) ?_ (hk.val (x := .v _) h hf hr);have := hf.av hx;simp only [AV.val] at this;simp only [execOp, ho, this]
   first | done | rfl
  ·rename_i g b c hx
   subst hG;refine cv (v := .func (.func g) b c) (w' := w) ?_ (hk.val (x := .v _) h hf hr);have := hf.av hx;simp only [AV.val] at this;simp only [execOp, ho, this]
   first | done | rfl
  ·rename_i v hx
   subst hG;obtain ⟨hg, h⟩ := h;obtain ⟨g, b, c, rfl⟩ := I2 hg;refine cv (v := .func (.func g) b c) (w' := w) ?_ (hk.val (x := .r _) h hf hr);have := hf.av hx;simp only [AV.val] at this;simp only [execOp, ho, this]
   first | done | rfl
  ·subst hG; exact h.elim
 | binOp op t x y t' => rw [ho] at hG; subst hG; exact CL hk ho h hf hr
 | unOp op t x =>
  rw [ho] at hG;dsimp only at hG
  split at hG
  ·rename_i hx; subst hG
   refine cv (v := .bool false) (w' := w) ?_ (hk.val (x := .f) h hf hr);simp [execOp, ho, hf.av hx, AV.val, Op.unary]
  ·rename_i hx; subst hG
   refine cv (v := .bool true) (w' := w) ?_ (hk.val (x := .t) h hf hr);simp [execOp, ho, hf.av hx, AV.val, Op.unary]
  ·subst hG; exact cB hk (by simp [ho]) h hf hr
 | alloc _ => rw [ho] at hG; subst hG; exact l9 hk (by simp [ho]) h hf hr
 | box _ _ => rw [ho] at hG; subst hG; exact l9 hk (by simp [ho]) h hf hr
 | buildSlice _ _ _ => rw [ho] at hG; subst hG; exact l9 hk (by simp [ho]) h hf hr
 | makeMap _ _ => rw [ho] at hG; subst hG; exact l9 hk (by simp [ho]) h hf hr
 | indexAddr t x i =>
  rw [ho] at hG;dsimp only at hG
  split at hG
  ·rename_i ad len cp kd i hx hi
   split at hG
   ·rename_i e hu
    split at hG
    ·rename_i sz hsz
     subst hG;obtain ⟨⟨h0, h1⟩, ad, rfl, h⟩ := h;refine cv (w' := w) ?_ (hk.val (x := .v _) h hf hr);simp only [execOp, ho, hf.ev hx, hf.ev hi, Sem.run_bind, yl hu hsz h0 h1, Result.andThen_ok]
     first | done | rfl
    ·subst hG; exact h.elim
   ·subst hG; exact h.elim
  ·rename_i ad kd i hx hi
   split at hG
   ·rename_i len e hu
    split at hG
    ·rename_i sz hsz
     subst hG;obtain ⟨⟨h0, h1⟩, h⟩ := h;refine cv (w' := w) ?_ (hk.val (x := .v _) h hf hr);simp only [execOp, ho, hf.ev hx, hf.ev hi, Sem.run_bind, yj hu hsz h0 h1, Result.andThen_ok]
     first | done | rfl
    ·subst hG; exact h.elim
   ·subst hG; exact h.elim
  ·subst hG; exact h.elim
 | index t x i =>
  rw [ho] at hG;dsimp only at hG
  split at hG
  ·rename_i st kd i hx hi
   split at hG
   ·rename_i hu
    subst hG;obtain ⟨⟨h0, h1⟩, h⟩ := h;refine cv (w' := w) ?_ (hk.val (x := .v _) h hf hr);simp only [execOp, ho, hf.ev hx, hf.ev hi, Sem.run_bind, Bi hu h0 h1, Result.andThen_ok]
    first | done | rfl
   ·subst hG; exact h.elim
  ·subst hG; exact h.elim
 | slice t x lo hi mx => rw [ho] at hG; subst hG; exact Ay hk ho h hf hr
 | lookup t m key ok =>
  rw [ho] at hG;dsimp only at hG
  split at hG
  ·rename_i r kv hm hkv
   split at hG
   ·rename_i kt e hu
    split at hG
    ·rename_i kd hh z hkd hsh hz
     split at hG
     ·rename_i hd
      subst hG;obtain ⟨es, c, res, hma, hfn, h⟩ := h;have hl := C8 (P := P) (ok := ok) hu hkd hd hz hr.sub hma hfn
      have hex : (execOp a.eval o).run P w = .ok (.value (if ok then .tuple #[fD z res, .bool res.isSome] else fD z res)) w := by
       simp only [execOp, ho, hf.ev hm, hf.ev hkv, Sem.run_bind, hl, Result.andThen_ok]; (first | done | rfl)
      refine cv hex ?_
      cases res with
      | none =>
       obtain ⟨x, hx, h⟩ := h
       try dsimp only at h
       cases ok with
       | true => simpa [fD, hx, AV.val] using hk.val (x := .v (.tuple #[hh.mk x, .bool false])) h hf hr
       | false => have := hk.val (x := hh.av x) h hf hr; simpa [fD, hx, Shape.iV] using this
      | some q =>
       obtain ⟨i, v⟩ := q;obtain ⟨x, hx, h⟩ := h
       try dsimp only at h
       cases ok with
       | true => simpa [fD, hx, AV.val] using hk.val (x := .v (.tuple #[hh.mk x, .bool true])) h hf hr
       | false => have := hk.val (x := hh.av x) h hf hr; simpa [fD, hx, Shape.iV] using this
     ·subst hG;obtain ⟨es, c, res, hma, hfn, h⟩ := h;have hl := Bj (P := P) (ok := ok) hu hz hr.sub hma hfn
      have hex : (execOp a.eval o).run P w = .ok (.value (if ok then .tuple #[fD z res, .bool res.isSome] else fD z res)) w := by
       simp only [execOp, ho, hf.ev hm, hf.ev hkv, Sem.run_bind, hl, Result.andThen_ok]; (first | done | rfl)
      refine cv hex ?_
      cases res with
      | none =>
       obtain ⟨x, hx, h⟩ := h
       try dsimp only at h
       cases ok with
       | true => simpa [fD, hx, AV.val] using hk.val (x := .v (.tuple #[hh.mk x, .bool false])) h hf hr
       | false => have := hk.val (x := hh.av x) h hf hr; simpa [fD, hx, Shape.iV] using this
      | some q =>
       obtain ⟨i, v⟩ := q;obtain ⟨x, hx, h⟩ := h
       try dsimp only at h
       cases ok with
       | true => simpa [fD, hx, AV.val] using hk.val (x := .v (.tuple #[hh.mk x, .bool true])) h hf hr
       | false => have := hk.val (x := hh.av x) h hf hr; simpa [fD, hx, Shape.iV] using this
    ·subst hG; exact h.elim
   ·subst hG; exact h.elim
  ·subst hG; exact h.elim
 | mapUpdate t m key x =>
  rw [ho] at hG;dsimp only at hG
  split at hG
  ·rename_i r kv v hm hkv hv
   split at hG
   ·rename_i kt e hu
    split at hG
    ·rename_i kd hkd
     split at hG
     ·rename_i hd
      subst hG;obtain ⟨r, es, c, res, rfl, hma, hfn, h⟩ := h
      have key : ∃ s', pt none s' ∧ ∃ w', (Instr.mapUpdate t (.map (some r)) kv v).run P w = .ok () w' ∧ Rel w0 s0 s' w' := by
       cases res with
       | none => exact ⟨_, h, l7 hu hkd hd hr hma hfn rfl⟩
       | some q => obtain ⟨i, u⟩ := q; obtain ⟨h1, h⟩ := h; exact ⟨_, h, l7 (res := some (i, u)) hu hkd hd hr hma hfn ⟨h1, rfl⟩⟩
      obtain ⟨s', h, w', hrun, hr'⟩ := key;refine oE (w' := w') ?_ (hk.Cc h hf hr' _);simp only [execOp, ho, hf.ev hm, hf.ev hkv, hf.ev hv, Sem.run_bind, hrun, Result.andThen_ok]
      first | done | rfl
     ·subst hG;obtain ⟨r, es, c, res, rfl, hma, hfn, h⟩ := h
      have key : ∃ s', pt none s' ∧ ∃ w', (Instr.mapUpdate t (.map (some r)) kv v).run P w = .ok () w' ∧ Rel w0 s0 s' w' := by
       cases res with
       | none => exact ⟨_, h, lq hu hr hma hfn rfl⟩
       | some q => obtain ⟨i, u⟩ := q; obtain ⟨h1, h⟩ := h; exact ⟨_, h, lq (res := some (i, u)) hu hr hma hfn ⟨h1, rfl⟩⟩
      obtain ⟨s', h, w', hrun, hr'⟩ := key;refine oE (w' := w') ?_ (hk.Cc h hf hr' _);simp only [execOp, ho, hf.ev hm, hf.ev hkv, hf.ev hv, Sem.run_bind, hrun, Result.andThen_ok]
      first | done | rfl
    ·subst hG; exact h.elim
   ·subst hG; exact h.elim
  ·subst hG; exact h.elim
 | insert t m key x =>
  rw [ho] at hG;dsimp only at hG
  split at hG
  ·rename_i r kv v hm hkv hv
   split at hG
   ·rename_i kt e hu
    split at hG
    ·rename_i kd hkd
     split at hG
     ·rename_i hd
      subst hG;obtain ⟨r, es, c, res, rfl, hma, hfn, h⟩ := h
      have key : ∃ s', pt none s' ∧ ∃ w', (Instr.mapUpdate t (.map (some r)) kv v).run P w = .ok () w' ∧ Rel w0 s0 s' w' := by
       cases res with
       | none => exact ⟨_, h, l7 hu hkd hd hr hma hfn rfl⟩
       | some q => obtain ⟨i, u⟩ := q; obtain ⟨h1, h⟩ := h; exact ⟨_, h, l7 (res := some (i, u)) hu hkd hd hr hma hfn ⟨h1, rfl⟩⟩
      obtain ⟨s', h, w', hrun, hr'⟩ := key;refine oE (w' := w') ?_ (hk.Cc h hf hr' _);simp only [execOp, ho, hf.ev hm, hf.ev hkv, hf.ev hv, Sem.run_bind, hrun, Result.andThen_ok]
      first | done | rfl
     ·subst hG;obtain ⟨r, es, c, res, rfl, hma, hfn, h⟩ := h
      have key : ∃ s', pt none s' ∧ ∃ w', (Instr.mapUpdate t (.map (some r)) kv v).run P w = .ok () w' ∧ Rel w0 s0 s' w' := by
       cases res with
       | none => exact ⟨_, h, lq hu hr hma hfn rfl⟩
       | some q => obtain ⟨i, u⟩ := q; obtain ⟨h1, h⟩ := h; exact ⟨_, h, lq (res := some (i, u)) hu hr hma hfn ⟨h1, rfl⟩⟩
      obtain ⟨s', h, w', hrun, hr'⟩ := key;refine oE (w' := w') ?_ (hk.Cc h hf hr' _);simp only [execOp, ho, hf.ev hm, hf.ev hkv, hf.ev hv, Sem.run_bind, hrun, Result.andThen_ok]
      first | done | rfl
    ·subst hG; exact h.elim
   ·subst hG; exact h.elim
  ·subst hG; exact h.elim
 | makeSlice t l c =>
  rw [ho] at hG;dsimp only at hG
  split at hG
  ·rename_i kl l kc c hl hc
   split at hG
   ·rename_i e hu
    split at hG
    ·rename_i sz z hsz hz
     split at hG
     ·rename_i hcond
      subst hG;obtain ⟨h0, h1, h2, h3, h⟩ := h;obtain ⟨hn, hr'⟩ := hr.new (.cells (Builtin.zeroCells z.cells c.toNat) e);refine cv (w' := { w with heap := w.heap.push (.cells (Builtin.zeroCells z.cells c.toNat) e) }) ?_ (hk.val (x := .v _) (h w.heap.size hn) hf (by simpa using hr'));simp only [execOp, ho, hf.ev hl, hf.ev hc, Sem.run_bind, Da hu hsz hz hcond.1 hcond.2 h0 h1 h2 h3, Result.andThen_ok]
      first | done | rfl
     ·subst hG; exact h.elim
    ·subst hG; exact h.elim
   ·subst hG; exact h.elim
  ·subst hG; exact h.elim
 | convert t d x =>
  rw [ho] at hG;dsimp only at hG
  split at hG
  ·rename_i e he
   have hd := AD he
   split at hG
   ·rename_i bs hx hu hel
    subst hG;obtain ⟨h0, h1⟩ := h;have hrd := hr.drew (w.drawn + 1);obtain ⟨hn0, hr'⟩ := hrd.new (.cells (W.bytesRow bs (grownCap w bs.size 0 e)) e ((grownCap w bs.size 0 e), (grownCap w bs.size 0 e) + 1));have hge := grownCap_ge w bs.size 0 e;have hle := grownCap_le_maxLen w bs.size 0 e h0;have h := h1 w.heap.size (grownCap w bs.size 0 e) hn0 hge hle;refine cv (v := .slice (some ⟨w.heap.size, 0, none⟩) bs.size (grownCap w bs.size 0 e)) (w' := w.drew.alloc (.cells (W.bytesRow bs (grownCap w bs.size 0 e)) e ((grownCap w bs.size 0 e), (grownCap w bs.size 0 e) + 1))) ?_ (hk.val (x := .v _) h hf hr');have hb := FH (P := P) (w := w) (t := t) (d := d) (e := e) (bs := bs) hu hd hel;simp only [execOp, ho, hf.ev hx, Sem.run_bind, hb]
    first | done | rfl
   ·subst hG; exact h.elim
  split at hG
  ·rename_i ad n cp hx
   split at hG
   ·rename_i e hu hd
    split at hG
    ·rename_i he
     subst hG;obtain ⟨bs, hbs, h⟩ := h;refine cv (v := .string bs) (w' := w) ?_ (hk.val (x := .v _) h hf hr);have hb := Ea (P := P) (n := n) (ad := ad) (cp := cp) (bs := bs) hr.sub hbs;simp only [execOp, ho, hf.ev hx, Go.convert, Sem.run_bind, aj hu, aj hd, Result.andThen_ok, aj he, hb]
     first | done | rfl
    ·subst hG; exact h.elim
   ·subst hG; exact h.elim
  ·subst hG; exact cB hk (by simp [ho]) h hf hr
 | fieldAddr _ _ _ => rw [ho] at hG; subst hG; exact cB hk (by simp [ho]) h hf hr
 | field _ _ _ => rw [ho] at hG; subst hG; exact cB hk (by simp [ho]) h hf hr
 | range t m =>
  rw [ho] at hG;dsimp only at hG
  split at hG
  ·rename_i r hm
   split at hG
   ·rename_i kt e hu
    subst hG;obtain ⟨ob, h1, h⟩ := h;obtain ⟨hn, hr'⟩ := hr.new ob;refine cv (v := .pointer (some ⟨w.heap.size, 0, none⟩)) ?_ (hk.val (x := .v _) (h _ hn) hf hr');simp only [execOp, ho, hf.ev hm, Sem.run_bind, FF hu hr.sub h1, Result.andThen_ok]
    first | done | rfl
   ·subst hG; exact h.elim
  ·subst hG; exact h.elim
 | next it isStr =>
  rw [ho] at hG;dsimp only at hG
  split at hG
  ·rename_i ad hx
   subst hG;obtain ⟨hoff, m, c, seen, h1, h⟩ := h;obtain ⟨v, s', w', hrun, hr', h'⟩ := EZ (P := P) hr h1 h rfl hoff o.type;refine cv (v := v) (w' := w') ?_ (hk.val (x := .r v) h' hf hr');simp only [execOp, ho, hf.ev hx, Sem.run_bind, hrun, Result.andThen_ok]
   first | done | rfl
  ·subst hG; exact h.elim
 | entry it =>
  rw [ho] at hG;dsimp only at hG
  split at hG
  ·rename_i ad hx
   subst hG;obtain ⟨hoff, m, since, seen, c, es, e, h1, h2, h3, h4, h⟩ := h;refine cv (v := .tuple #[e.key, e.val]) (w' := w) ?_ (hk.val (x := .r _) h hf hr);simp only [execOp, ho, hf.ev hx, Sem.run_bind, EE hr.sub h1 h2 h3 h4 rfl hoff, Result.andThen_ok]
   first | done | rfl
  ·subst hG; exact h.elim
 | extract x i =>
  rw [ho] at hG;dsimp only at hG
  split at hG
  ·rename_i v hx
   split at hG
   ·rename_i hh hsh
    subst hG;obtain ⟨vs, y, rfl, h1, h⟩ := h;have hv := hf.av hx;simp only [AV.val] at hv;refine cv (v := hh.mk y) (w' := w) ?_ (by have := hk.val (x := hh.av y) h hf hr; simpa [Shape.iV] using this);simp only [execOp, ho, hv, Instr.extract, h1]
    first | done | rfl
   ·subst hG; exact h.elim
  ·subst hG; exact cB hk (by simp [ho]) h hf hr
 | build _ _ => rw [ho] at hG; subst hG; exact cB hk (by simp [ho]) h hf hr
 | makeFunc _ _ _ => rw [ho] at hG; subst hG; exact cB hk (by simp [ho]) h hf hr
 | makeInterface _ _ => rw [ho] at hG; subst hG; exact cB hk (by simp [ho]) h hf hr
 | call c => rw [ho] at hG; subst hG; exact Be hk ho h hf hr
 | _ => rw [ho] at hG; subst hG; exact h.elim
theorem wY {pin : Fr} {q : Bool} {fr : Fr} {k : Fr → PH → Prop} (hk : qf w0 s0 pin K k) (h : fP (RP P R) P fr q o k s) (hf : fr.le a) (hp : pin.le a) (hfree : iF pin o.dst = true) (hr : Rel w0 s0 s w) : o.wp P a w K Q :=
 wX (ρ := fr.env) (pt := fun x => k (fr.put o.dst x)) (fun x s hx w v hr hv => hk _ _ hx _ _ (hf.put _ hv) (hp.pinned hfree v) hr) h hf.env hr
theorem CZ {pin : Fr} {q : Bool} {fr : Fr} {k : Fr → PH → Prop} {ops : Array Oper} {i : Nat} (hk : qf w0 s0 pin K k) (h : dW (RP P R) P fr q ops i k s) (hf : fr.le a) (hp : pin.le a) (hfree : ∀ o, ops[i]? = some o → iF pin o.dst = true) (hr : Rel w0 s0 s w) : wpOp P ops Q i K a w := by
 unfold dW at h;unfold wpOp
 cases hoi : ops[i]? with
 | none => rw [hoi] at h; exact h.elim
 | some o =>
  rw [hoi] at h;dsimp only at h ⊢
  cases hg : o.guard with
  | none =>
   rw [hg] at h;simp only [Region.wanted, hg, if_true];exact .inl (wY hk h hf hp (hfree o hoi) hr)
  | some jw =>
   obtain ⟨j, want⟩ := jw;rw [hg] at h
   try dsimp only at h
   cases hd : (ops[j]?).bind (·.dst) with
   | none => rw [hd] at h; exact h.elim
   | some d =>
    rw [hd] at h
    try dsimp only at h
    have hy : ∀ (x : AV) (b : Bool), fr[d]? = some (some x) → x.val = .bool b → yielded ops a.tmps j = some b := by
     intro x b hx hb;have := hf.at_ _ _ hx;simp only [yielded, hd, Option.bind_some, this, hb]
    have go : ∀ (fr' : Fr) (b : Bool), Fr.le fr' a → yielded ops a.tmps j = some b → (if b = want then fP (RP P R) P fr' q o k s else k (fr'.put o.dst (some (.v undef))) s) →
      (if Region.wanted o (yielded ops a.tmps) = true then o.wp P a w K Q ∨ (o.asks P a w ∧ LetsOut Q) else K (a.put o.dst undef) w) := by
     intro fr' b hf' hyy h
     have hwn : Region.wanted o (yielded ops a.tmps) = (b == want) := by
      simp only [Region.wanted, hg, hyy]; cases b <;> cases want <;> rfl
     rw [hwn]
     by_cases e : b = want
     ·rw [if_pos e] at h;rw [if_pos (by simp [e])];exact .inl (wY hk h hf' hp (hfree o hoi) hr)
     ·rw [if_neg e] at h;rw [if_neg (by simpa using e)];exact hk _ _ h _ _ (hf'.put _ fun u e => by cases e; (first | done | rfl)) (hp.pinned (hfree o hoi) _) hr
    generalize hG : fr[d]? = x at h
    match x, hG, h with
    | some (some .t), hG, h => exact go fr true hf (hy .t true hG rfl) (by cases want <;> simpa using h)
    | some (some .f), hG, h => exact go fr false hf (hy .f false hG rfl) (by cases want <;> simpa using h)
    | some (some (.v (.bool b))), hG, h =>
     have e := hf.at_ _ _ hG;have yy := hy _ b hG rfl
     cases b with
     | true => exact go (fr.set d (some .t)) true (hf.yE e) yy (by cases want <;> simpa [RP, W.br] using h)
     | false => exact go (fr.set d (some .f)) false (hf.yE e) yy (by cases want <;> simpa [RP, W.br] using h)
    | some (some (.r _)), hG, h => exact h.elim
    | some none, hG, h => exact h.elim
    | none, hG, h => exact h.elim
    | some (some (.v (.int _ _))), hG, h => exact h.elim
    | some (some (.v (.float _ _))), hG, h => exact h.elim
    | some (some (.v (.complex _ _ _))), hG, h => exact h.elim
    | some (some (.v (.string _))), hG, h => exact h.elim
    | some (some (.v (.pointer _))), hG, h => exact h.elim
    | some (some (.v (.slice _ _ _))), hG, h => exact h.elim
    | some (some (.v (.map _))), hG, h => exact h.elim
    | some (some (.v (.chan _))), hG, h => exact h.elim
    | some (some (.v (.func _ _ _))), hG, h => exact h.elim
    | some (some (.v .nilFunc)), hG, h => exact h.elim
    | some (some (.v (.iface _ _))), hG, h => exact h.elim
    | some (some (.v .nilIface)), hG, h => exact h.elim
    | some (some (.v (.agg _))), hG, h => exact h.elim
    | some (some (.v (.tuple xs))), hG, h =>
     have e := hf.at_ _ _ hG
     have yy : yielded ops a.tmps j = none := by simp only [yielded, hd, Option.bind_some, e]; (first | done | rfl)
     have hwn : Region.wanted o (yielded ops a.tmps) = false := by simp only [Region.wanted, hg, yy]; (first | done | rfl)
     rw [hwn];exact hk _ _ h _ _ (hf.put _ fun u e => by cases e; (first | done | rfl)) (hp.pinned (hfree o hoi) _) hr
end
end Fw
end
