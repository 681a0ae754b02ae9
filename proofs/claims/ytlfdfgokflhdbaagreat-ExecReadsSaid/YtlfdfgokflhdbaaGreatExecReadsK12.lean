/-
  Part 12 for the law: lemmas.
  Conditions: none.
-/
import Derived.Test.YtlfdfgokflhdbaaGreatExecReadsK11
set_option linter.unusedVariables false
set_option linter.unusedSimpArgs false
set_option linter.unusedSectionVars false
section
namespace Fw
open Go
def kv (fr : Fr) (t : Nat) : Option Value := match fr[t]? with | some (some x) => some x.val | _ => none
theorem nF {fr : Fr} {d : Nat} {x : Option AV} (h : d < fr.length) : kv (fr.set d x) d = x.map AV.val := by
 unfold kv; rw [List.getElem?_set_self h]; cases x <;> rfl
theorem wS {fr : Fr} {d t : Nat} {x : Option AV} (h : d ≠ t) : kv (fr.set d x) t = kv fr t := by
 unfold kv; rw [List.getElem?_set_ne h]
theorem yD {fr : Fr} {t : Nat} {v : Value} (h : kv fr t = some v) : t < fr.length := by
 unfold kv at h;rcases Nat.lt_or_ge t fr.length with q | q
 ·exact q
 ·rw [List.getElem?_eq_none q] at h; cases h
theorem lG {fr : Fr} {d : Option Tmp} {t : Nat} {x : Option AV} (h : d ≠ some t) : kv (fr.put d x) t = kv fr t := by
 cases d with
 | none => rfl
 | some d => exact wS (by rintro rfl; exact h rfl)
theorem j8 {fr : Fr} {d : Option Tmp} {x : Option AV} : (fr.put d x).length = fr.length := by
 cases d with
 | none => rfl
 | some d => simp [Fr.put]
section
variable {P : Program} {R : Value → PH → Prop} {w0 : World} {s0 : PH} {K : Act → World → Prop} {Q : Exit → Act → World → Prop}
def cX (ops : Array Oper) (i : Nat) : List Tmp := match ops[i]? with | some o => o.looksAt ops | none => []
def bQ (ops : Array Oper) (i : Nat) : Option Tmp := (ops[i]?).bind (·.dst)
def Env.on (ρ : Env) (l : List Tmp) : Env := fun x => match x with | .tmp t => if t ∈ l then ρ x else none | _ => ρ x
theorem EF {fr : Fr} {a : Act} {l : List Tmp} (h : ∀ t ∈ l, ∀ v, kv fr t = some v → a.tmps[t]? = some v) : (Env.on fr.env l).le a := by
 intro x u e
 cases x with
 | tmp t =>
  simp only [Env.on] at e
  split at e
  ·rename_i ht
   simp only [Fr.env, Fr.av] at e
   split at e
   ·rename_i y hy
    simp at e; subst e;have := h t ht y.val (by simp [kv, hy]);simp [Act.eval, this]
   ·cases e
  ·cases e
 | const v => simp [Env.on, Fr.env, Fr.av] at e; subst e; simp [Act.eval, AV.rU]
 | global g => simp [Env.on, Fr.env, Fr.av] at e; subst e; (first | done | rfl)
 | func f => simp [Env.on, Fr.env, Fr.av] at e; subst e; (first | done | rfl)
theorem wU {ops : Array Oper} {o : Oper} {t : Tmp} (h : Operand.tmp t ∈ o.op.operands.toList) : t ∈ o.looksAt ops := by
 unfold Oper.looksAt;exact List.mem_append_left _ (List.mem_filterMap.2 ⟨_, h, rfl⟩)
theorem oY {q : Bool} {fr : Fr} {ops : Array Oper} {i : Nat} {k : Fr → PH → Prop} {s : PH} (h : dW (RP P R) P fr q ops i k s) :
  ∃ o fr', ops[i]? = some o ∧ fr'.length = fr.length ∧ (∀ t, kv fr' t = kv fr t) ∧
   ((o.guard = none ∨ ∃ j want d, o.guard = some (j, want) ∧ (ops[j]?).bind (·.dst) = some d ∧ kv fr d = some (.bool want)) ∧ gd (RP P R) P fr'.env q o (fun x => k (fr'.put o.dst x)) s ∧
      (∀ s' k', gd (RP P R) P fr'.env q o (fun x => k' (fr'.put o.dst x)) s' → dW (RP P R) P fr q ops i k' s') ∨
    (∃ j want d, o.guard = some (j, want) ∧ (ops[j]?).bind (·.dst) = some d ∧ ∃ v, kv fr d = some v ∧ v ≠ .bool want) ∧ k (fr'.put o.dst (some (.v undef))) s ∧
      (∀ s' k', k' (fr'.put o.dst (some (.v undef))) s' → dW (RP P R) P fr q ops i k' s')) := by
 unfold dW at h
 cases hoi : ops[i]? with
 | none => rw [hoi] at h; exact h.elim
 | some o =>
  rw [hoi] at h;dsimp only at h
  have ug : ∀ s' k', dW (RP P R) P fr q ops i k' s' = (match o.guard with
   | none => fP (RP P R) P fr q o k' s'
   | some (j, want) => (match (ops[j]?).bind (·.dst) with
    | some d => (match fr[d]? with
     | some (some .t) => if want then fP (RP P R) P fr q o k' else k' (fr.put o.dst (some (.v undef)))
     | some (some .f) => if want then k' (fr.put o.dst (some (.v undef))) else fP (RP P R) P fr q o k'
     | some (some (.v (.bool b))) => (RP P R).ite b
       (let fr' : Fr := fr.set d (some .t); if want then fP (RP P R) P fr' q o k' else k' (fr'.put o.dst (some (.v undef))))
       (let fr' : Fr := fr.set d (some .f); if want then k' (fr'.put o.dst (some (.v undef))) else fP (RP P R) P fr' q o k')
     | some (some (.v (.tuple _))) => k' (fr.put o.dst (some (.v undef)))
     | _ => (RP P R).fail)
    | none => (RP P R).fail) s') := by
   intro s' k';unfold dW;rw [hoi];dsimp only
   cases o.guard with
   | none => rfl
   | some jw =>
    obtain ⟨j, want⟩ := jw;dsimp only
    cases (ops[j]?).bind (·.dst) with
    | none => rfl
    | some d =>
     dsimp only
     generalize fr[d]? = x
     rcases x with _ | _ | x
     ·rfl
     ·rfl
     ·cases x with
      | v x => cases x <;> rfl
      | _ => rfl
  cases hg : o.guard with
  | none =>
   rw [hg] at h;refine ⟨o, fr, rfl, rfl, fun _ => rfl, .inl ⟨.inl hg, h, ?_⟩⟩;intro s' k' h';rw [ug, hg]; exact h'
  | some jw =>
   obtain ⟨j, want⟩ := jw;rw [hg] at h;dsimp only at h
   cases hd : (ops[j]?).bind (·.dst) with
   | none => rw [hd] at h; exact h.elim
   | some d =>
    rw [hd] at h;dsimp only at h
    have case1 : ∀ (b : Bool) (fr' : Fr), fr'.length = fr.length → (∀ t, kv fr' t = kv fr t) → kv fr d = some (.bool b) →
      (∀ s' k', (if b = want then fP (RP P R) P fr' q o k' s' else k' (fr'.put o.dst (some (.v undef))) s') → dW (RP P R) P fr q ops i k' s') →
      (if b = want then fP (RP P R) P fr' q o k s else k (fr'.put o.dst (some (.v undef))) s) →
      ∃ o' fr', some o = some o' ∧ fr'.length = fr.length ∧ (∀ t, kv fr' t = kv fr t) ∧
       ((o'.guard = none ∨ ∃ j want d, o'.guard = some (j, want) ∧ (ops[j]?).bind (·.dst) = some d ∧ kv fr d = some (.bool want)) ∧ gd (RP P R) P fr'.env q o' (fun x => k (fr'.put o'.dst x)) s ∧
          (∀ s' k', gd (RP P R) P fr'.env q o' (fun x => k' (fr'.put o'.dst x)) s' → dW (RP P R) P fr q ops i k' s') ∨
        (∃ j want d, o'.guard = some (j, want) ∧ (ops[j]?).bind (·.dst) = some d ∧ ∃ v, kv fr d = some v ∧ v ≠ .bool want) ∧ k (fr'.put o'.dst (some (.v undef))) s ∧
          (∀ s' k', k' (fr'.put o'.dst (some (.v undef))) s' → dW (RP P R) P fr q ops i k' s')) := by
     intro b fr' hl hkv hb hall hh
     by_cases e : b = want
     ·rw [if_pos e] at hh;rw [e] at hb;exact ⟨o, fr', rfl, hl, hkv, .inl ⟨.inr ⟨j, want, d, hg, hd, hb⟩, hh, fun s' k' h' => hall s' k' (by rw [if_pos e]; exact h')⟩⟩
     ·rw [if_neg e] at hh;refine ⟨o, fr', rfl, hl, hkv, .inr ⟨⟨j, want, d, hg, hd, ?_⟩, hh, fun s' k' h' => hall s' k' (by rw [if_neg e]; exact h')⟩⟩;exact ⟨_, hb, by cases b <;> cases want <;> simp_all⟩
    generalize hG : fr[d]? = x at h
    have ug2 : ∀ s' k', dW (RP P R) P fr q ops i k' s' = ((match x with
     | some (some .t) => if want then fP (RP P R) P fr q o k' else k' (fr.put o.dst (some (.v undef)))
     | some (some .f) => if want then k' (fr.put o.dst (some (.v undef))) else fP (RP P R) P fr q o k'
     | some (some (.v (.bool b))) => (RP P R).ite b
       (let fr' : Fr := fr.set d (some .t); if want then fP (RP P R) P fr' q o k' else k' (fr'.put o.dst (some (.v undef))))
       (let fr' : Fr := fr.set d (some .f); if want then k' (fr'.put o.dst (some (.v undef))) else fP (RP P R) P fr' q o k')
     | some (some (.v (.tuple _))) => k' (fr.put o.dst (some (.v undef)))
     | _ => (RP P R).fail) s') := by
     intro s' k';rw [ug, hg];dsimp only;rw [hd];dsimp only;rw [hG]
    have hlt : ∀ y, x = some y → d < fr.length := by
     intro y hy; rw [hy] at hG;rcases Nat.lt_or_ge d fr.length with q | q
     ·exact q
     ·rw [List.getElem?_eq_none q] at hG; cases hG
    have hset : ∀ (y z : AV), x = some (some y) → z.val = y.val → ∀ t, kv (fr.set d (some z)) t = kv fr t := by
     intro y z hy hz t
     by_cases e : d = t
     ·subst e; rw [nF (hlt _ hy)]; simp [kv, hG, hy, hz]
     ·exact wS e
    match x, hG, h, ug2, hlt, hset with
    | some (some .t), hG, h, ug2, _, _ =>
     exact case1 true fr rfl (fun _ => rfl) (by simp [kv, hG, AV.val]) (fun s' k' h' => by rw [ug2]; cases want <;> simpa using h') (by cases want <;> simpa using h)
    | some (some .f), hG, h, ug2, _, _ =>
     exact case1 false fr rfl (fun _ => rfl) (by simp [kv, hG, AV.val]) (fun s' k' h' => by rw [ug2]; cases want <;> simpa using h') (by cases want <;> simpa using h)
    | some (some (.v (.bool b))), hG, h, ug2, hlt, hset =>
     cases b with
     | true => exact case1 true (fr.set d (some .t)) (by simp) (hset _ _ rfl rfl) (by simp [kv, hG, AV.val]) (fun s' k' h' => by rw [ug2]; cases want <;> simpa [RP, W.br] using h') (by cases want <;> simpa [RP, W.br] using h)
     | false => exact case1 false (fr.set d (some .f)) (by simp) (hset _ _ rfl rfl) (by simp [kv, hG, AV.val]) (fun s' k' h' => by rw [ug2]; cases want <;> simpa [RP, W.br] using h') (by cases want <;> simpa [RP, W.br] using h)
    | some (some (.r _)), hG, h, _, _, _ => exact h.elim
    | some none, hG, h, _, _, _ => exact h.elim
    | none, hG, h, _, _, _ => exact h.elim
    | some (some (.v (.int _ _))), hG, h, _, _, _ => exact h.elim
    | some (some (.v (.float _ _))), hG, h, _, _, _ => exact h.elim
    | some (some (.v (.complex _ _ _))), hG, h, _, _, _ => exact h.elim
    | some (some (.v (.string _))), hG, h, _, _, _ => exact h.elim
    | some (some (.v (.pointer _))), hG, h, _, _, _ => exact h.elim
    | some (some (.v (.slice _ _ _))), hG, h, _, _, _ => exact h.elim
    | some (some (.v (.map _))), hG, h, _, _, _ => exact h.elim
    | some (some (.v (.chan _))), hG, h, _, _, _ => exact h.elim
    | some (some (.v (.func _ _ _))), hG, h, _, _, _ => exact h.elim
    | some (some (.v .nilFunc)), hG, h, _, _, _ => exact h.elim
    | some (some (.v (.iface _ _))), hG, h, _, _, _ => exact h.elim
    | some (some (.v .nilIface)), hG, h, _, _, _ => exact h.elim
    | some (some (.v (.agg _))), hG, h, _, _, _ => exact h.elim
    | some (some (.v (.tuple xs))), hG, h, ug2, _, _ =>
     exact ⟨o, fr, rfl, rfl, fun _ => rfl, .inr ⟨⟨j, want, d, hg, hd, _, by simp [kv, hG, AV.val]; (first | done | rfl), by intro e; cases e⟩, h, fun s' k' h' => by rw [ug2]; exact h'⟩⟩
theorem vP {q : Bool} {fr : Fr} {ops : Array Oper} {i : Nat} {k : Fr → PH → Prop} {s : PH} {a : Act} {w : World} (h : dW (RP P R) P fr q ops i k s)
  (hL : ∀ t ∈ cX ops i, ∀ v, kv fr t = some v → a.tmps[t]? = some v) (hr : Rel w0 s0 s w)
  (hk : ∀ fr' s' w' v, k fr' s' → fr'.length = fr.length → (∀ t, bQ ops i ≠ some t → kv fr' t = kv fr t) → (∀ d, bQ ops i = some d → ∀ u, kv fr' d = some u → u = v) → Rel w0 s0 s' w' → K (a.put (bQ ops i) v) w') :
  wpOp P ops Q i K a w := by
 obtain ⟨o, fr', hoi, hlen, hkv, h⟩ := oY h
 have hdst : bQ ops i = o.dst := by simp [bQ, hoi]
 have hlook : cX ops i = o.looksAt ops := by simp [cX, hoi]
 rw [hdst] at hk;rw [hlook] at hL;unfold wpOp;rw [hoi];dsimp only
 have hput : ∀ (x : Option AV) (v : Value), (∀ u : AV, x = some u → u.val = v) → (∀ d, o.dst = some d → ∀ u, kv (fr'.put o.dst x) d = some u → u = v) := by
  intro x v hx d hd u hu;rw [hd] at hu;have := yD hu;simp [Fr.put] at this;simp only [Fr.put] at hu;rw [nF this] at hu
  cases x with
  | none => cases hu
  | some y => simp at hu; subst hu; exact hx y rfl
 have hyield : ∀ j want d b, o.guard = some (j, want) → (ops[j]?).bind (·.dst) = some d → kv fr d = some (.bool b) → Region.wanted o (yielded ops a.tmps) = (b == want) := by
  intro j want d b hg hd hb
  have hmem : d ∈ o.looksAt ops := by
   unfold Oper.looksAt;refine List.mem_append_right _ ?_;rw [hg]; simp [hd]
  have := hL d hmem _ hb;simp only [Region.wanted, hg, yielded, hd, Option.bind_some, this]
  cases b <;> cases want <;> rfl
 rcases h with ⟨hg, h, _⟩ | ⟨⟨j, want, d, hg, hd, v, hb, hv⟩, h, _⟩
 ·have hw : Region.wanted o (yielded ops a.tmps) = true := by
   rcases hg with hg | ⟨j, want, d, hg, hd, hb⟩
   ·simp [Region.wanted, hg]
   ·rw [hyield j want d want hg hd hb]; simp
  rw [if_pos hw];refine .inl ?_
  have hcg : gd (RP P R) P (Env.on fr'.env (o.looksAt ops)) q o (fun x => k (fr'.put o.dst x)) s := by
   have := wW (π := RP P R) (P := P) (ρ := fr'.env) (ρ' := Env.on fr'.env (o.looksAt ops)) (o := o) (q := q) (pt := fun x => k (fr'.put o.dst x)) (fun x hx => by
    cases x with
    | tmp t => simp only [Env.on]; rw [if_pos (wU hx)]
    | _ => rfl)
   rw [← this]; exact h
  refine wX (ρ := Env.on fr'.env (o.looksAt ops)) ?_ hcg (EF fun t ht v hv => hL t ht v (by rw [← hkv]; exact hv)) hr;intro x s' hx w' v hr' hv;exact hk _ _ _ _ hx (by rw [j8, hlen]) (fun t ht => by rw [lG ht, hkv]) (hput x v hv) hr'
 ·have hw : Region.wanted o (yielded ops a.tmps) = false := by
   have hmem : d ∈ o.looksAt ops := by
    unfold Oper.looksAt;refine List.mem_append_right _ ?_;rw [hg]; simp [hd]
   have := hL d hmem _ hb;simp only [Region.wanted, hg, yielded, hd, Option.bind_some, this]
   cases v <;> first | rfl | (rename_i c; cases c <;> cases want <;> first | rfl | exact absurd rfl hv)
  rw [if_neg (by simp [hw])];exact hk _ _ _ _ h (by rw [j8, hlen]) (fun t ht => by rw [lG ht, hkv]) (hput _ undef (fun u e => by cases e; (first | done | rfl))) hr
def cP (P : Program) (quiet : List Nat) (ops : Array Oper) (i : Nat) : KY := match ops[i]? with | some o => cls P (quiet.contains i) o | none => .eff
theorem mk_inj {h : Shape} (hp : (h.1 || h.2.length == 1) = true) {x y : Den h.2} (e : h.mk x = h.mk y) : vals h.2 x = vals h.2 y := by
 obtain ⟨b, cs⟩ := h
 cases b with
 | true =>
  simp only [Shape.mk, Value.agg.injEq] at e;simpa using e
 | false =>
  simp only [Bool.false_or, beq_iff_eq] at hp
  match cs, hp, x, y, e with
  | [c], _, x, y, e => simpa [Shape.mk, vals] using e
theorem zz {fr fr' : Fr} {x : Operand} (h : ∀ t, x = .tmp t → kv fr t = kv fr' t) : fr.env.ev x = fr'.env.ev x := by
 have key : ∀ (f : Fr) (t : Nat), f.env.ev (.tmp t) = kv f t := by
  intro f t;unfold Env.ev Fr.env Fr.av kv;dsimp only
  generalize f[t]? = z
  rcases z with _ | _ | z <;> rfl
 cases x with
 | tmp t => rw [key, key, h t rfl]
 | _ => rfl
def tL (ops : Array Oper) (fr : Fr) (o : Oper) : Prop := ∃ j want d v, o.guard = some (j, want) ∧ (ops[j]?).bind (·.dst) = some d ∧ kv fr d = some v ∧ v ≠ .bool want
def iw (P : Program) (ops : Array Oper) (fr fr1 : Fr) (q : Nat) (s' : PH) : Prop :=
 ∃ o, ops[q]? = some o ∧ (tL ops fr o ∨ ∃ t x a h d y, o.op = .load t x ∧ o.dst = some d ∧ fr.env.ev x = some (.pointer (some a)) ∧ shapeOf P t = some h ∧ (h.1 || h.2.length == 1) = true ∧ kv fr1 d = some (h.mk y) ∧ s'.has a (vals h.2 y))
theorem oZ {quiet : List Nat} {fr : Fr} {ops : Array Oper} {i : Nat} {k : Fr → PH → Prop} {s : PH} (hc : cP P quiet ops i = .pure ∨ cP P quiet ops i = .read) (h : dW (RP P R) P fr (quiet.contains i) ops i k s) :
  ∃ fr1 : Fr, k fr1 s ∧ fr1.length = fr.length ∧ (∀ t, bQ ops i ≠ some t → kv fr1 t = kv fr t) ∧
   ∀ s' k', (cP P quiet ops i = .pure ∨ s.le s' ∨ iw P ops fr fr1 i s') → k' fr1 s' → dW (RP P R) P fr (quiet.contains i) ops i k' s' := by
 obtain ⟨o, fr', hoi, hlen, hkv, h⟩ := oY h
 have hdst : bQ ops i = o.dst := by simp [bQ, hoi]
 have hcl : cP P quiet ops i = cls P (quiet.contains i) o := by simp [cP, hoi]
 rw [hcl] at hc ⊢;rw [hdst];rcases h with ⟨hgd, h, hall⟩ | ⟨_, h, hall⟩
 ·have noskip : ¬ tL ops fr o := by
   rintro ⟨j, want, d, v, g1, g2, g3, g4⟩;rcases hgd with g | ⟨j', want', d', e1, e2, e3⟩
   ·rw [g] at g1; cases g1
   ·rw [g1] at e1; cases e1;rw [g2] at e2; cases e2;rw [g3] at e3; cases e3;exact g4 rfl
  by_cases hld : ∃ t x a hh d, o.op = .load t x ∧ o.dst = some d ∧ fr.env.ev x = some (.pointer (some a)) ∧ shapeOf P t = some hh
  ·obtain ⟨t, x, a, hh, d, ho, hd, hx, hsh⟩ := hld
   have hx' : fr'.env.ev x = some (.pointer (some a)) := by rw [zz (fr' := fr) fun t _ => hkv t]; exact hx
   have hop : ∀ pt : Pt, gd (RP P R) P fr'.env (quiet.contains i) o pt = (RP P R).ld hh.2 a fun y => pt (some (hh.av y)) := by
    intro pt;unfold gd;rw [ho];dsimp only;rw [hx'];dsimp only;rw [hsh]
   rw [hop] at h;obtain ⟨y0, hy0, hk0⟩ := h;refine ⟨_, hk0, by rw [j8, hlen], fun t ht => by rw [lG ht, hkv], fun s' k' hc' e => hall s' k' ?_⟩;rw [hop];refine ⟨y0, ?_, e⟩;rcases hc' with hp | hle | ⟨o', ho', hs | ⟨t', x', a', h', d', y', g1, g2, g3, g4, g5, g6, g7⟩⟩
   ·rw [cls, ho] at hp; cases hp
   ·exact hY hle hy0
   ·rw [hoi] at ho'; cases ho'; exact absurd hs noskip
   ·rw [hoi] at ho'; cases ho';rw [ho] at g1; cases g1;rw [hd] at g2; cases g2;rw [hx] at g3; cases g3;rw [hsh] at g4; cases g4;rw [hd] at g6;have hlt := yD g6;simp only [Fr.put] at g6 hlt;rw [nF (by simpa using hlt)] at g6;simp only [Option.map_some, Option.some.injEq, Shape.iV] at g6;rw [mk_inj g5 g6]; exact g7
  ·obtain ⟨x, hx, hq⟩ : ∃ x, k (fr'.put o.dst x) s ∧ ∀ s' (pt' : Pt), (cls P (quiet.contains i) o = .pure ∨ s.le s') → pt' x s' → gd (RP P R) P fr'.env (quiet.contains i) o pt' s' := by
    by_cases hp : cls P (quiet.contains i) o = .pure
    ·obtain ⟨x, h1, h2⟩ := Ad hp _ _ h;exact ⟨x, h1, fun s' pt' _ e => h2 s' pt' e⟩
    ·obtain ⟨x, h1, h2⟩ := Fu hc _ _ h;exact ⟨x, h1, fun s' pt' hle e => h2 s' pt' (hle.resolve_left hp) e⟩
   refine ⟨_, hx, by rw [j8, hlen], fun t ht => by rw [lG ht, hkv], fun s' k' hc' e => hall s' k' (hq s' (fun x => k' (fr'.put o.dst x)) ?_ e)⟩;rcases hc' with hp | hle | ⟨o', ho', hs | ⟨t', x', a', h', d', y', g1, g2, g3, g4, _⟩⟩
   ·exact .inl hp
   ·exact .inr hle
   ·rw [hoi] at ho'; cases ho'; exact absurd hs noskip
   ·rw [hoi] at ho'; cases ho';exact absurd ⟨t', x', a', h', d', g1, g2, g3, g4⟩ hld
 ·exact ⟨_, h, by rw [j8, hlen], fun t ht => by rw [lG ht, hkv], fun s' k' _ e => hall s' k' e⟩
theorem CY {quiet : List Nat} {fr : Fr} {ops : Array Oper} {i : Nat} {k : Fr → PH → Prop} {s : PH} (hc : cP P quiet ops i = .alloc) (hq : quiet = []) (h : dW (RP P R) P fr false ops i k s) :
  dW (RP P R) P fr false ops i (fun fr' s' => k fr' s' ∧ s.le s') s := by
 subst hq;obtain ⟨o, fr', hoi, hlen, hkv, h⟩ := oY h
 have hcl : cP P [] ops i = cls P false o := by simp [cP, hoi]
 rw [hcl] at hc;rcases h with ⟨_, h, hall⟩ | ⟨_, h, hall⟩
 ·exact hall s _ (Ft hc _ _ h)
 ·exact hall s _ ⟨h, PH.le_refl s⟩
theorem EK {fr : Fr} {ops : Array Oper} {i : Nat} {k : Fr → PH → Prop} {s : PH} (hc : cP P [] ops i ≠ .eff) (h : dW (RP P R) P fr false ops i k s) :
  dW (RP P R) P fr false ops i (fun fr' s' => k fr' s' ∧ s.le s') s := by
 have hq : cP P [] ops i = .pure ∨ cP P [] ops i = .read → dW (RP P R) P fr false ops i (fun fr' s' => k fr' s' ∧ s.le s') s := by
  intro hc;obtain ⟨fr1, h1, _, _, h2⟩ := oZ (quiet := []) hc h;exact h2 s _ (.inr (.inl (PH.le_refl s))) ⟨h1, PH.le_refl s⟩
 cases hcl : cP P [] ops i with
 | pure => exact hq (.inl hcl)
 | read => exact hq (.inr hcl)
 | alloc => exact CY hcl rfl h
 | eff => exact absurd hcl hc
end
end Fw
end
