/-
  Part 20 for the law: lemmas.
  Conditions: none.
-/
import Derived.Test.YtlfdfgokflhdbaaGreatExecReadsK19
set_option linter.unusedVariables false
set_option linter.unusedSimpArgs false
set_option linter.unusedSectionVars false
section
namespace Fw
open Go
def fN (la : LA) (P : Program) (ops : Array Oper) (i : Nat) : List Nat :=
 match ops[i]? with
 | none => []
 | some o => (match o.dst with | some d => [d] | none => []) ++
   (match la.kind P o with | .alloc d _ => la.ptr.filterMap (fun p => if p.2.1 = d then some p.1 else none) | .box d _ _ => la.ptr.filterMap (fun p => if p.2.1 = d then some p.1 else none) | .st _ _ sl _ _ => [sl] | _ => [])
def jj (la : LA) (P : Program) (ops : Array Oper) (q : Nat) : Option (Nat × Nat × Nat × Nat) :=
 match ops[q]? with
 | some o => match la.kind P o, o.dst with
  | .ld _ x sl _, some d => match o.guard with
   | none => some (x, sl, d, d)
   | some (j, _) => match (ops[j]?).bind (·.dst) with
    | some g => if g = d ∨ (la.at_ g).isSome then none else some (x, sl, d, g)
    | none => none
  | _, _ => none
 | none => none
def qm (la : LA) (P : Program) (ops : Array Oper) (q : Nat) : List Nat → Bool
 | [] => false
 | i :: dn => if i = q then true else ((fN la P ops i).all fun t => match jj la P ops q with | some (x, sl, d, g) => !(t == x || t == sl || t == d || t == g) | none => true) && qm la P ops q dn
def outer (la : LA) (ops : Array Oper) (q : Nat) : Bool :=
 match ops[q]? with
 | some o => la.free o && (match o.guard with | some (j, _) => !la.ig ((ops[j]?).bind (·.dst)) | none => true)
 | none => true
def pz (la : LA) (P : Program) (d : Nat) (ty : TypeId) : Option Shape := if (la.at_ d).isSome then (if ty = 2000000 then some (true, []) else shapeOf P ty) else jS P ty
def fR (la : LA) (P : Program) : iO → Option (List Shape)
 | [] => some []
 | (d, ty) :: l => match pz la P d ty, fR la P l with
  | some h, some hs => some (h :: hs)
  | _, _ => none
def dF (la : LA) (l : iO) : iO := l.map fun p => if (la.at_ p.1).isSome then (p.1, 1000000) else p
def lU.old (la : LA) (ann : lU) : lU := { draws := ann.draws, join := ann.join.map fun p => (p.1, dF la p.2), loop := ann.loop.map fun p => (p.1, dF la p.2) }
section
variable {W : Type} (π : fX W) (P : Program) (la : LA) (ann : lU) (pin : Fr)
def mh (ops : Array Oper) (dn : List Nat) (fr : Fr) (q : Nat) (k : W) : W :=
 match jj la P ops q with
 | some (_, _, d, _) => match (ops[q]?).bind (dS fr ops) with
  | some true => k
  | some false => if qm la P ops q dn && (known fr d).isSome then k else π.fail
  | none => π.fail
 | none => if outer la ops q = true then iZ π P ops fr q k else π.fail
def AB (ops : Array Oper) (dn : List Nat) (fr : Fr) : List Nat → W → W
 | [], k => k
 | q :: l, k => mh π P la ops dn fr q (AB ops dn fr l k)
def opsL (ops : Array Oper) (quiet : List Nat) : List Nat → Fr → (Fr → W) → W
 | [], fr, k => k fr
 | i :: l, fr, k => mG π P la fr (quiet.contains i) ops i fun fr' => opsL ops quiet l fr' k
def uO (ops : Array Oper) (eB : Nat → List Nat) (eag : List Nat) : Nat → List Nat → List Nat → Fr → (Fr → W) → W
 | 0, rem, dn, fr, k => match rem with | [] => k fr | _ => π.fail
 | f + 1, rem, dn, fr, k => match rem with
  | [] => k fr
  | _ => match (iA ops rem).find? (eag.contains ·) with
   | some i => mG π P la fr false ops i fun fr' => uO ops eB eag f (rem.erase i) (i :: dn) fr' k
   | none => vB π ((iA ops rem).map fun i => mG π P la fr false ops i fun fr' => AB π P la ops (i :: dn) fr' (eB i) (uO ops eB eag f (rem.erase i) (i :: dn) fr' k))
def rH (id : Nat) (ops : Array Oper) (draw : Bool) (fr : Fr) (k : Fr → W) : W :=
 if ops.all fun (o : Oper) => iF pin o.dst then
  if draw then
   match ann.draws.lookup id with
   | some d => opsL π P la ops d.quiet d.A fr fun fr' => uO π P la ops d.eB d.eag ops.size (bY ops d.A) d.A.reverse fr' k
   | none => π.fail
  else opsL π P la ops [] (List.range ops.size) fr k
 else π.fail
def fJ : Code → Fr → (Fr → W) → (Nat → Fr → W) → (Fr → W) → W
 | .skip, fr, kn, _, _ => kn fr
 | .region id ops draw, fr, kn, _, _ => rH π P la ann pin id ops draw fr kn
 | .seq x y, fr, kn, kx, kr =>
  match (cC y).bind (ann.join.lookup ·) with
  | some l => match fR la P l with
   | some hs => π.join hs
     (fun J => fJ x fr (fun fr' => match fr'.pack l hs with | some d => J d | none => π.fail) kx kr)
     (fun d => fJ y (pin.unpack l hs d) kn kx kr)
   | none => π.fail
  | none => fJ x fr (fun fr' => fJ y fr' kn kx kr) kx kr
 | .cond c x y, fr, kn, kx, kr =>
  if la.kU c then π.fail else
  match fr.env.av c with
  | some .t => fJ x fr kn kx kr
  | some .f => fJ y fr kn kx kr
  | some (.v (.bool b)) => π.ite b (fJ x (fr.refine c .t) kn kx kr) (fJ y (fr.refine c .f) kn kx kr)
  | _ => π.fail
 | .block id x, fr, kn, kx, kr => fJ x fr kn (fun id' fr' => if id' = id then kn fr' else kx id' fr') kr
 | .loop x, fr, kn, kx, kr =>
  match (cC x).bind (ann.loop.lookup ·) with
  | some l => match fR la P l with
   | some hs => match fr.pack l hs with
    | some d => π.loop hs d fun d again => fJ x (pin.unpack l hs d) (fun fr' => match fr'.pack l hs with | some d' => again d' | none => π.fail) kx kr
    | none => π.fail
   | none => π.fail
  | none => π.fail
 | .scope x, fr, kn, kx, kr => fJ x fr kn kx kr
 | .exit id, fr, _, kx, _ => kx id fr
 | .ret, fr, _, _, kr => kr fr
 | _, _, _, _, _ => π.fail
def ij : List ResultVar → Fr → (List Value → W) → W
 | [], _, k => k []
 | .tmp t :: l, fr, k => match la.at_ t with
  | some _ => π.fail
  | none => match fr.env.ev (.tmp t) with
   | some v => ij l fr fun vs => k (v :: vs)
   | none => π.fail
 | .cell c t :: l, fr, k => match la.at_ c with
  | some (sl, off) => match known fr c, known fr sl, shapeOf P t, la.ty.lookup sl with
   | some _, some u, some h, some _ =>
    if la.at_ sl = some (sl, 0) then
     match ee h.2 (tF u off h.2.length) with
     | some y => ij l fr fun vs => k (h.mk y :: vs)
     | none => π.fail
    else π.fail
   | _, _, _, _ => π.fail
  | none => match fr.env.ev (.tmp c) with
   | some (.pointer (some a)) => match shapeOf P t with
    | some h => π.ld h.2 a fun y => ij l fr fun vs => k (h.mk y :: vs)
    | none => π.fail
   | _ => π.fail
def H8 (fn : Func) (c : Code) (fr : Fr) : W :=
 fJ π P la ann pin c fr (fun fr' => ij π P la fn.results.toList fr' fun vs => π.ret (iG vs)) (fun _ _ => π.fail)
  (fun fr' => ij π P la fn.results.toList fr' fun vs => π.ret (iG vs))
end
theorem mO (s : PH) : s.or (fun _ => none) = s := by funext k; simp [PH.or]
section
variable {P : Program} {R R1 R2 : Value → PH → Prop} {la : LA} {ops : Array Oper}
def nJ (la : LA) (P : Program) (ops : Array Oper) (fr : Fr) (q : Nat) : Prop := ∀ l, jj la P ops q = some l → ∃ o ty off h u0 u y ty', ops[q]? = some o ∧ la.kind P o = .ld ty l.1 l.2.1 off ∧ o.dst = some l.2.2.1 ∧
 known fr l.1 = some u0 ∧ known fr l.2.1 = some u ∧ la.ty.lookup l.2.1 = some ty' ∧ shapeOf P ty = some h ∧ GW h = true ∧ ee h.2 (tF u off h.2.length) = some y ∧ ∀ z, known fr l.2.2.1 = some z → z.val = (h.av y).val
def BH (la : LA) (P : Program) (ops : Array Oper) (fr : Fr) (q : Nat) : Prop := ∀ o, ops[q]? = some o → (jj la P ops q).isSome = true → dS fr ops o = some true ∨ (dS fr ops o = some false ∧ nJ la P ops fr q)
def jV (la : LA) (P : Program) (ops : Array Oper) (dn : List Nat) (fr : Fr) : Prop := ∀ q, qm la P ops q dn = true → BH la P ops fr q
def CF (fr fr1 : Fr) (t : Nat) : Prop := known fr1 t = known fr t ∨ ∃ b z, known fr t = some (.v (.bool b)) ∧ known fr1 t = some z ∧ z.val = .bool b
structure tG (la : LA) (P : Program) (ops : Array Oper) (i : Nat) (fr fr1 : Fr) : Prop where
 ptr : ∀ t, (la.at_ t).isSome = true → t ∉ fN la P ops i → known fr1 t = known fr t
 same : ∀ t, t ∉ fN la P ops i → CF fr fr1 t
 load : BH la P ops fr1 i
theorem rX {fr fr1 : Fr} {o : Oper} (h : ∀ j w g, o.guard = some (j, w) → (ops[j]?).bind (·.dst) = some g → known fr1 g = known fr g) : dS fr1 ops o = dS fr ops o := by
 unfold dS
 cases hg : o.guard with
 | none => rfl
 | some jw =>
  obtain ⟨j, w⟩ := jw;dsimp only
  cases hd : (ops[j]?).bind (·.dst) with
  | none => rfl
  | some g =>
   have := h j w g hg hd;dsimp only;unfold known at this
   rcases h1 : fr1[g]? with _ | _ | x <;> rcases h2 : fr[g]? with _ | _ | y <;> rw [h1, h2] at this <;> dsimp only at this ⊢ <;> first | rfl | (cases this; done) | (have := Option.some.inj this; subst this; (first | done | rfl))
theorem Hu {q : Bool} {fr : Fr} {o : Oper} {k : Fr → PH → Prop} {s : PH} (Post : Fr → Prop) (hp : ∀ x, Post (fr.put o.dst x)) (h : fP (RP P R) P fr q o k s) : fP (RP P R) P fr q o (fun fr1 s1 => Post fr1 ∧ k fr1 s1) s := by
 unfold fP at h ⊢;have := wh (P := P) (R1 := R) (R2 := R) (ρ := fr.env) (q := q) (o := o) (fun _ => none) _ (fun x s1 => Post (fr.put o.dst x) ∧ k (fr.put o.dst x) s1) s (fun k hk => absurd rfl hk) h (fun x s' _ hx => by rw [mO]; exact ⟨hp x, hx⟩)
 rwa [mO] at this
theorem nk {fr : Fr} {d : Option Tmp} {x : Option AV} {t : Nat} (h : ∀ e, d = some e → e ≠ t) : known (fr.put d x) t = known fr t := by
 cases d with
 | none => rfl
 | some e => exact aL (h e rfl)
theorem Ac {q : Bool} {fr : Fr} {i : Nat} {o : Oper} {k : Fr → PH → Prop} {s : PH} (ho : ops[i]? = some o) (h : jo (RP P R) P la fr q o k s) :
  jo (RP P R) P la fr q o (fun fr1 s1 => ((∀ t, t ∉ fN la P ops i → known fr1 t = known fr t) ∧ nJ la P ops fr1 i) ∧ k fr1 s1) s := by
 have hdst : ∀ {t : Nat}, t ∉ fN la P ops i → ∀ e, o.dst = some e → e ≠ t := by
  intro t ht e he e';subst e';apply ht;unfold fN;rw [ho];simp [he]
 have noLd : (∀ ty x sl off, la.kind P o ≠ .ld ty x sl off) → ∀ fr1, nJ la P ops fr1 i := by
  intro hk fr1 l hl;unfold jj at hl;rw [ho] at hl;dsimp only at hl
  split at hl
  ·rename_i hkd _; exact absurd hkd (hk _ _ _ _)
  ·cases hl
 generalize hG : jo (RP P R) P la fr q o k = G at h
 unfold jo at hG ⊢
 split at hG
 ·rename_i hkd
  subst hG;rw [hkd];exact Hu (fun fr1 => (∀ t, t ∉ fN la P ops i → known fr1 t = known fr t) ∧ nJ la P ops fr1 i) (fun x => ⟨fun t ht => nk (hdst ht), noLd (by intro _ _ _ _ e; rw [hkd] at e; cases e) _⟩) h
 ·subst hG; exact h.elim
 ·rename_i d ty hkd
  obtain ⟨_, hd, hat, _⟩ := um hkd;rw [hkd]
  split at hG
  ·rename_i z hz
   subst hG;dsimp only;rw [hz];refine ⟨⟨?_, noLd (by intro _ _ _ _ e; rw [hkd] at e; cases e) _⟩, h⟩;intro t ht;have h1 := hdst ht d hd;rw [aL h1];unfold known;rw [(lg d la.ptr fr).2.2 t];intro p hp e1 e2;apply ht;unfold fN;rw [ho];simp only [hkd];refine List.mem_append_right _ (List.mem_filterMap.2 ⟨p, hp, ?_⟩);rw [if_pos e2, e1]
  ·subst hG; exact h.elim
 ·rename_i d ty y hkd
  obtain ⟨_, hd, hat, _⟩ := zN hkd
  have fin : ∀ z : AV, (∀ t, t ∉ fN la P ops i → known (List.set (fT d la.ptr fr) d (some z)) t = known fr t) ∧ nJ la P ops (List.set (fT d la.ptr fr) d (some z)) i := by
   intro z;refine ⟨?_, noLd (by intro _ _ _ _ e; rw [hkd] at e; cases e) _⟩;intro t ht;have h1 := hdst ht d hd;rw [aL h1];unfold known;rw [(lg d la.ptr fr).2.2 t];intro p hp e1 e2;apply ht;unfold fN;rw [ho];simp only [hkd];refine List.mem_append_right _ (List.mem_filterMap.2 ⟨p, hp, ?_⟩);rw [if_pos e2, e1]
  rw [hkd];dsimp only
  split at hG
  ·rename_i hv; subst hG; rw [hv]; exact ⟨fin _, h⟩
  ·rename_i hv; subst hG; rw [hv]; exact ⟨fin _, h⟩
  ·rename_i hv; subst hG; rw [hv]; exact ⟨fin _, h⟩
  ·subst hG; exact h.elim
 ·rename_i d x sl off hkd
  obtain ⟨hd, _⟩ := zO hkd;rw [hkd]
  split at hG
  ·rename_i u hu
   subst hG;dsimp only;rw [hu];exact ⟨⟨fun t ht => aL (hdst ht d hd), noLd (by intro _ _ _ _ e; rw [hkd] at e; cases e) _⟩, h⟩
  ·subst hG; exact h.elim
 ·rename_i ty x sl off hkd
  rw [hkd]
  split at hG
  ·rename_i u0 u hh ty' g1 g2 g3 g4
   split at hG
   ·rename_i hok
    split at hG
    ·rename_i y hy
     subst hG;simp only [g1, g2, g3, g4, hy, hok, if_true];refine ⟨⟨fun t ht => nk (hdst ht), ?_⟩, h⟩;intro l hl;unfold jj at hl;rw [ho] at hl;dsimp only at hl;rw [hkd] at hl
     cases hd : o.dst with
     | none => rw [hd] at hl; cases hl
     | some d =>
      rw [hd] at hl;obtain ⟨_, hdf, hax, hasl⟩ := rz hkd
      have hdx : d ≠ x := by rintro rfl; rw [hd] at hdf; simp [LA.ig, hax] at hdf
      have hdsl : d ≠ sl := by rintro rfl; rw [hd] at hdf; simp [LA.ig, hasl] at hdf
      have hl : l.1 = x ∧ l.2.1 = sl ∧ l.2.2.1 = d := by
       dsimp only at hl
       split at hl
       ·cases hl; exact ⟨rfl, rfl, rfl⟩
       ·split at hl
        ·split at hl
         ·cases hl
         ·cases hl; exact ⟨rfl, rfl, rfl⟩
        ·cases hl
      obtain ⟨e1, e2, e3⟩ := hl;rw [e1, e2, e3];refine ⟨o, ty, off, hh, u0, u, y, ty', ho, hkd, hd, ?_, ?_, g4, g3, hok, hy, ?_⟩
      ·rw [← g1]; exact aL hdx
      ·rw [← g2]; exact aL hdsl
      ·intro z hz;have hz : known (List.set fr d (some (hh.av y))) d = some z := hz;have hlt := gB hz;rw [List.length_set] at hlt;rw [dx hlt] at hz; rw [Option.some.inj hz]
    ·subst hG; exact h.elim
   ·subst hG; exact h.elim
  ·subst hG; exact h.elim
 ·rename_i ty x sl off y hkd
  have hst : ∀ {v : AV}, ny (RP P R) P la fr o.dst ty x sl off v k s → ny (RP P R) P la fr o.dst ty x sl off v (fun fr1 s1 => ((∀ t, t ∉ fN la P ops i → known fr1 t = known fr t) ∧ nJ la P ops fr1 i) ∧ k fr1 s1) s := by
   intro v h
   generalize hG : ny (RP P R) P la fr o.dst ty x sl off v k = G at h
   unfold ny at hG ⊢
   split at hG
   ·rename_i u0 u n ty' g1 g2 g3 g4
    split at hG
    ·rename_i hc
     split at hG
     ·rename_i w hw
      subst hG;simp only [g1, g2, g3, g4, hw];rw [if_pos hc];refine ⟨⟨fun t ht => ?_, noLd (by intro _ _ _ _ e; rw [hkd] at e; cases e) _⟩, h⟩;rw [nk (hdst ht)];refine aL ?_;rintro rfl;apply ht;unfold fN;rw [ho];simp [hkd]
     ·subst hG; exact h.elim
    ·subst hG; exact h.elim
   ·subst hG; exact h.elim
  rw [hkd];dsimp only
  split at hG
  ·rename_i hv; subst hG; rw [hv]; exact hst h
  ·rename_i hv; subst hG; rw [hv]; exact hst h
  ·rename_i hv; subst hG; rw [hv]; exact hst h
  ·subst hG; exact h.elim
theorem DR {fr : Fr} {i : Nat} {o : Oper} {k : Fr → PH → Prop} {s : PH} (ho : ops[i]? = some o) (h : fM la fr o k s) : fM la fr o (fun fr1 s1 => (∀ t, t ∉ fN la P ops i → known fr1 t = known fr t) ∧ k fr1 s1) s := by
 have hdst : ∀ {t : Nat}, t ∉ fN la P ops i → ∀ e, o.dst = some e → e ≠ t := by
  intro t ht e he e';subst e';apply ht;unfold fN;rw [ho];simp [he]
 unfold fM at h ⊢
 cases hd : o.dst with
 | none => rw [hd] at h; exact ⟨fun _ _ => rfl, h⟩
 | some d =>
  rw [hd] at h;dsimp only at h ⊢
  cases hat : la.at_ d with
  | none => rw [hat] at h; exact ⟨fun t ht => nk fun e he => hdst ht e (he ▸ hd), h⟩
  | some p => rw [hat] at h; exact ⟨fun t ht => aL (hdst ht d hd), h⟩
theorem Ab {q : Bool} {fr : Fr} {o : Oper} {k k2 : Fr → PH → Prop} {s : PH} (h : jo (RP P R) P la fr q o k s) (hk : ∀ fr1 s1, k fr1 s1 → k2 fr1 s1) : jo (RP P R) P la fr q o k2 s := by
 generalize hG : jo (RP P R) P la fr q o k = G at h
 unfold jo at hG ⊢
 split at hG
 ·rename_i hkd
  subst hG;rw [hkd];unfold fP at h ⊢;have := wh (P := P) (R1 := R) (R2 := R) (ρ := fr.env) (q := q) (o := o) (fun _ => none) _ (fun x s1 => k2 (fr.put o.dst x) s1) s (fun k hk => absurd rfl hk) h (fun x s' _ hx => by rw [mO]; exact hk _ _ hx)
  rwa [mO] at this
 ·subst hG; exact h.elim
 ·rename_i d ty hkd
  rw [hkd]
  split at hG
  ·rename_i z hz
   subst hG;dsimp only;rw [hz]; exact hk _ _ h
  ·subst hG; exact h.elim
 ·rename_i d ty y hkd
  rw [hkd];dsimp only
  split at hG
  ·rename_i hv; subst hG; rw [hv]; exact hk _ _ h
  ·rename_i hv; subst hG; rw [hv]; exact hk _ _ h
  ·rename_i hv; subst hG; rw [hv]; exact hk _ _ h
  ·subst hG; exact h.elim
 ·rename_i d x sl off hkd
  rw [hkd]
  split at hG
  ·rename_i u hu
   subst hG;dsimp only;rw [hu]; exact hk _ _ h
  ·subst hG; exact h.elim
 ·rename_i ty x sl off hkd
  rw [hkd]
  split at hG
  ·rename_i u0 u hh ty' g1 g2 g3 g4
   split at hG
   ·rename_i hok
    split at hG
    ·rename_i y hy
     subst hG;simp only [g1, g2, g3, g4, hy, hok, if_true];exact hk _ _ h
    ·subst hG; exact h.elim
   ·subst hG; exact h.elim
  ·subst hG; exact h.elim
 ·rename_i ty x sl off y hkd
  have hst : ∀ {v : AV}, ny (RP P R) P la fr o.dst ty x sl off v k s → ny (RP P R) P la fr o.dst ty x sl off v k2 s := by
   intro v h
   generalize hG : ny (RP P R) P la fr o.dst ty x sl off v k = G at h
   unfold ny at hG ⊢
   split at hG
   ·rename_i u0 u n ty' g1 g2 g3 g4
    split at hG
    ·rename_i hc
     split at hG
     ·rename_i w hw
      subst hG;simp only [g1, g2, g3, g4, hw];rw [if_pos hc];exact hk _ _ h
     ·subst hG; exact h.elim
    ·subst hG; exact h.elim
   ·subst hG; exact h.elim
  rw [hkd];dsimp only
  split at hG
  ·rename_i hv; subst hG; rw [hv]; exact hst h
  ·rename_i hv; subst hG; rw [hv]; exact hst h
  ·rename_i hv; subst hG; rw [hv]; exact hst h
  ·subst hG; exact h.elim
theorem DQ {fr : Fr} {o : Oper} {k k2 : Fr → PH → Prop} {s : PH} (h : fM la fr o k s) (hk : ∀ fr1 s1, k fr1 s1 → k2 fr1 s1) : fM la fr o k2 s := by
 unfold fM at h ⊢
 cases hd : o.dst with
 | none => rw [hd] at h; exact hk _ _ h
 | some d =>
  rw [hd] at h;dsimp only at h ⊢
  cases hat : la.at_ d with
  | none => rw [hat] at h; exact hk _ _ h
  | some p => rw [hat] at h; exact hk _ _ h
theorem Bn {i : Nat} {o : Oper} {j : Nat} {w : Bool} {g : Nat} (ho : ops[i]? = some o) (hg : o.guard = some (j, w)) (hd : (ops[j]?).bind (·.dst) = some g) (hn : (jj la P ops i).isSome = true) : g ∉ fN la P ops i := by
 unfold jj at hn;rw [ho] at hn;dsimp only at hn
 split at hn
 ·rename_i x sl off d hk hdst
  rw [hg] at hn;dsimp only at hn;rw [hd] at hn;dsimp only at hn
  split at hn
  ·cases hn
  ·rename_i hc
   unfold fN;rw [ho];simp only [hk, hdst];simp;intro e; exact hc (.inl e)
 ·cases hn
theorem EH {q : Bool} {fr : Fr} {i : Nat} {k : Fr → PH → Prop} {s : PH} (h : mG (RP P R) P la fr q ops i k s) : mG (RP P R) P la fr q ops i (fun fr1 s1 => tG la P ops i fr fr1 ∧ k fr1 s1) s := by
 generalize hG : mG (RP P R) P la fr q ops i k = G at h
 unfold mG at hG ⊢
 split at hG
 ·subst hG; exact h.elim
 ·rename_i o ho
  rw [ho];dsimp only
  split at hG
  ·rename_i hg
   subst hG;rw [hg]
   refine Ab (Ac ho h) fun fr1 s1 ⟨⟨a, b⟩, c⟩ => ⟨⟨fun t _ ht => a t ht, fun t ht => .inl (a t ht), ?_⟩, c⟩
   intro o' ho' _;rw [ho] at ho'; cases ho';exact .inr ⟨by unfold dS; rw [hg], b⟩
  ·rename_i j want hg
   rw [hg];dsimp only
   split at hG
   ·rename_i d hdj
    rw [hdj];dsimp only
    split at hG
    ·subst hG; exact h.elim
    ·rename_i hat
     rw [hat];dsimp only
     have skv : ∀ {fr1 : Fr} {x : AV}, known fr1 d = some x → dS fr1 ops o = (match x with | .t => some (!want) | .f => some want | .v (.tuple _) => some true | _ => none) := by
      intro fr1 x hx;unfold dS;rw [hg];dsimp only;rw [hdj];dsimp only;rw [nj hx]
      cases x with
      | t => rfl
      | f => rfl
      | v u => cases u <;> rfl
      | r u => rfl
     have hnd : ∀ {fr1 : Fr} {fr0 : Fr} {x : AV}, known fr0 d = some x → (∀ t, t ∉ fN la P ops i → known fr1 t = known fr0 t) → (jj la P ops i).isSome = true → dS fr1 ops o = dS fr0 ops o := by
      intro fr1 fr0 x hx hsame hn;rw [skv hx, skv (by rw [hsame d (Bn ho hg hdj hn)]; exact hx)]
     have fin : ∀ {fr0 : Fr} {x : AV}, known fr0 d = some x → (∀ t, (la.at_ t).isSome = true → known fr0 t = known fr t) → (∀ t, CF fr fr0 t) →
       ((dS fr0 ops o = some false) → ∀ {s}, jo (RP P R) P la fr0 q o k s → jo (RP P R) P la fr0 q o (fun fr1 s1 => tG la P ops i fr fr1 ∧ k fr1 s1) s) ∧
       ((dS fr0 ops o = some true) → ∀ {s}, fM la fr0 o k s → fM la fr0 o (fun fr1 s1 => tG la P ops i fr fr1 ∧ k fr1 s1) s) := by
      intro fr0 x hx hp hr
      have refd : ∀ {fr1 : Fr} {t}, known fr1 t = known fr0 t → CF fr fr1 t := by
       intro fr1 t e;rcases hr t with h1 | ⟨b, z, h1, h2, h3⟩
       ·exact .inl (e.trans h1)
       ·exact .inr ⟨b, z, h1, e.trans h2, h3⟩
      refine ⟨fun hs s h => Ab (Ac ho h) fun fr1 s1 ⟨⟨a, b⟩, c⟩ => ⟨⟨fun t ht1 ht => (a t ht).trans (hp t ht1), fun t ht => refd (a t ht), ?_⟩, c⟩,
       fun hs s h => DQ (DR (P := P) ho h) fun fr1 s1 ⟨a, c⟩ => ⟨⟨fun t ht1 ht => (a t ht).trans (hp t ht1), fun t ht => refd (a t ht), ?_⟩, c⟩⟩
      ·intro o' ho' hn;rw [ho] at ho'; cases ho';exact .inr ⟨by rw [hnd hx a hn]; exact hs, b⟩
      ·intro o' ho' hn;rw [ho] at ho'; cases ho';exact .inl (by rw [hnd hx a hn]; exact hs)
     split at hG
     ·rename_i hv
      rw [hv];have hk := mJ hv;have f0 := fin hk (fun _ _ => rfl) (fun _ => .inl rfl);rw [skv hk] at f0
      cases want with
      | true => subst hG; exact f0.1 rfl h
      | false => subst hG; exact f0.2 rfl h
     ·rename_i hv
      rw [hv];have hk := mJ hv;have f0 := fin hk (fun _ _ => rfl) (fun _ => .inl rfl);rw [skv hk] at f0
      cases want with
      | true => subst hG; exact f0.2 rfl h
      | false => subst hG; exact f0.1 rfl h
     ·rename_i b hv
      rw [hv];subst hG;have hk := mJ hv;have hlt := gB hk
      have hne : ∀ t, (la.at_ t).isSome = true → d ≠ t := by rintro t ht rfl; rw [hat] at ht; cases ht
      have rf : ∀ (x : AV), x.val = .bool b → ∀ t, CF fr (fr.set d (some x)) t := by
       intro x hx t
       by_cases hdt : d = t
       ·subst hdt; exact .inr ⟨b, x, hk, dx hlt, hx⟩
       ·exact .inl (aL hdt)
      cases b with
      | true =>
       have h : (if want then jo (RP P R) P la (fr.set d (some .t)) q o k else fM la (fr.set d (some .t)) o k) s := by simpa [RP, W.br] using h
       simp only [aO, W.BM];have hk1 : known (fr.set d (some .t)) d = some .t := dx hlt;have f1 := fin hk1 (fun t ht => aL (hne t ht)) (rf .t rfl);rw [skv hk1] at f1
       cases want with
       | true => exact f1.1 rfl h
       | false => exact f1.2 rfl h
      | false =>
       have h : (if want then fM la (fr.set d (some .f)) o k else jo (RP P R) P la (fr.set d (some .f)) q o k) s := by simpa [RP, W.br] using h
       simp only [aO, W.yY];have hk1 : known (fr.set d (some .f)) d = some .f := dx hlt;have f1 := fin hk1 (fun t ht => aL (hne t ht)) (rf .f rfl);rw [skv hk1] at f1
       cases want with
       | true => exact f1.2 rfl h
       | false => exact f1.1 rfl h
     ·rename_i hv
      rw [hv];subst hG;have hk := mJ hv;have f0 := fin hk (fun _ _ => rfl) (fun _ => .inl rfl);rw [skv hk] at f0;exact f0.2 rfl h
     ·subst hG; exact h.elim
   ·subst hG; exact h.elim
theorem jV.step {dn : List Nat} {i : Nat} {fr fr1 : Fr} (h : jV la P ops dn fr) (hp : tG la P ops i fr fr1) : jV la P ops (i :: dn) fr1 := by
 intro q hq;unfold qm at hq
 split at hq
 ·rename_i e; subst e; exact hp.load
 ·simp only [Bool.and_eq_true, List.all_eq_true] at hq;obtain ⟨h1, h2⟩ := hq;intro o ho hn;obtain ⟨⟨x, sl, d, g⟩, hl⟩ := Option.isSome_iff_exists.1 hn
  have hne : ∀ t, t = x ∨ t = sl ∨ t = d ∨ t = g → t ∉ fN la P ops i := by
   intro t ht hm;have := h1 t hm;rw [hl] at this;simp only [Bool.not_eq_true', Bool.or_eq_false_iff, beq_eq_false_iff_ne, ne_eq] at this;omega
  have hgd : ∀ j w g', o.guard = some (j, w) → (ops[j]?).bind (·.dst) = some g' → g' = g := by
   intro j w g' e1 e2;unfold jj at hl;rw [ho] at hl;dsimp only at hl
   split at hl
   ·rw [e1] at hl;dsimp only at hl;rw [e2] at hl;dsimp only at hl
    split at hl
    ·cases hl
    ·cases hl; (first | done | rfl)
   ·cases hl
  have hsk : dS fr ops o ≠ none → dS fr1 ops o = dS fr ops o := by
   intro hs;refine rX fun j w g' e1 e2 => ?_;have := hgd j w g' e1 e2;subst this;rcases hp.same g' (hne g' (.inr (.inr (.inr rfl)))) with e | ⟨b, z, h3, h4, h5⟩
   ·exact e
   ·exfalso
    apply hs;unfold dS;rw [e1];dsimp only;rw [e2];dsimp only;rw [nj h3]
  rcases h q h2 o ho hn with h3 | ⟨h3, h4⟩
  ·exact .inl (by rw [hsk (by rw [h3]; simp)]; exact h3)
  ·refine .inr ⟨by rw [hsk (by rw [h3]; simp)]; exact h3, ?_⟩;intro l hl2;rw [hl] at hl2; cases hl2;obtain ⟨o', ty, off, hh, u0, u, y, ty', g1, g2, g4, g6, g7, g8, g9, g10, g11, g12⟩ := h4 _ hl;dsimp only at g2 g4 g6 g7 g8 g12 ⊢;obtain ⟨_, _, ax, asl⟩ := rz g2;refine ⟨o', ty, off, hh, u0, u, y, ty', g1, g2, g4, by rw [hp.ptr x (by rw [ax]; (first | done | rfl)) (hne x (.inl rfl))]; exact g6, by rw [hp.ptr sl (by rw [asl]; (first | done | rfl)) (hne sl (.inr (.inl rfl)))]; exact g7, g8, g9, g10, g11, ?_⟩;intro z hz;rcases hp.same d (hne d (.inr (.inr (.inl rfl)))) with e | ⟨b, z', h5, h6, h7⟩
   ·exact g12 z (by rw [← e]; exact hz)
   ·rw [h6] at hz; cases hz;rw [h7, ← g12 _ h5]; (first | done | rfl)
theorem jV.nil {fr : Fr} : jV la P ops [] fr := fun q hq => by simp [qm] at hq
def KZ (la : LA) (Inv : Fr → Prop) (k' k : Fr → PH → Prop) : Prop := ∀ ρ fr' fr t s, Sm la ρ fr' fr t → fO s t → Inv fr' → k' fr' s → k fr (s.or t)
theorem qy {ρ : Nat → Nat} {fr' fr : Fr} {t s : PH} {dn : List Nat} {i : Nat} {k' k : Fr → PH → Prop} (hk : KZ la (jV la P ops (i :: dn)) k' k) (hm : Sm la ρ fr' fr t) (hd : fO s t) (hc : jV la P ops dn fr') {q : Bool} (h : mG (RP P R1) P la fr' q ops i k' s) :
  dW (RP P R2) P fr q ops i k (s.or t) :=
 GH (k' := fun fr1 s1 => tG la P ops i fr' fr1 ∧ k' fr1 s1) (fun ρ fr1 fr2 t s hm hd ⟨hp, h⟩ => hk ρ fr1 fr2 t s hm hd (hc.step hp) h) hm hd (EH h)
theorem th {quiet : List Nat} {k' k : Fr → PH → Prop} : ∀ (l : List Nat) (dn : List Nat) {ρ : Nat → Nat} {fr' fr : Fr} {t s : PH}, KZ la (jV la P ops (l.reverse ++ dn)) k' k → Sm la ρ fr' fr t → fO s t → jV la P ops dn fr' →
  opsL (RP P R1) P la ops quiet l fr' k' s → tj (RP P R2) P ops quiet l fr k (s.or t)
 | [], dn, ρ, fr', fr, t, s, hk, hm, hd, hc, h => hk ρ fr' fr t s hm hd hc h
 | i :: l, dn, ρ, fr', fr, t, s, hk, hm, hd, hc, h => by
  refine qy (dn := dn) ?_ hm hd hc h;intro ρ fr1 fr2 t s hm hd hc h;exact th l (i :: dn) (by simpa using hk) hm hd hc h
theorem oq {h : Shape} (hok : GW h = true) (y : Den h.2) : h.tC (h.av y).val = some y := by
 rw [Shape.iV];obtain ⟨b, cs⟩ := h
 cases b with
 | true => simp only [Shape.mk, Shape.tC]; exact kF
 | false =>
  match cs, hok with
  | [c], _ =>
   have := kF (cs := [c]) (x := y);exact this
theorem DV {ρ : Nat → Nat} {fr' fr : Fr} {t : PH} (hm : Sm la ρ fr' fr t) {q : Nat} (ho : outer la ops q = true) : gm P ops fr' q = gm P ops fr q := by
 unfold outer at ho;unfold gm
 cases hq : ops[q]? with
 | none => rfl
 | some o =>
  rw [hq] at ho;simp only [Bool.and_eq_true] at ho;obtain ⟨hf, hg⟩ := ho;unfold LA.free at hf;simp only [Bool.and_eq_true, List.all_eq_true, Bool.not_eq_true'] at hf;dsimp only
  cases hop : o.op with
  | load ty x =>
   cases hd : o.dst with
   | none => rfl
   | some d =>
    dsimp only
    have hdn : la.at_ d = none := by have := hf.2; rw [hd] at this; simpa [LA.ig] using this
    have hx : la.kU x = false := hf.1 x (by rw [hop]; simp [Op.operands])
    have hsk : dS fr' ops o = dS fr ops o := by
     unfold dS
     cases hgd : o.guard with
     | none => rfl
     | some jw =>
      obtain ⟨j, w⟩ := jw;rw [hgd] at hg;dsimp only at hg ⊢
      cases hdj : (ops[j]?).bind (·.dst) with
      | none => rfl
      | some e =>
       rw [hdj] at hg;dsimp only;rw [hm.non e (by simpa [LA.ig] using hg)]
    have hev : fr'.env.ev x = fr.env.ev x := by unfold Env.ev; rw [hm.env hx]
    rw [hsk, hev, hm.non d hdn]
  | _ => rfl
theorem wz {ρ : Nat → Nat} {fr' fr : Fr} {t s : PH} (hm : Sm la ρ fr' fr t) (hd : fO s t) {dn : List Nat} (hc : jV la P ops dn fr') {q : Nat} {K' K : PH → Prop} (hK : K' s → K (s.or t)) (h : mh (RP P R1) P la ops dn fr' q K' s) :
  iZ (RP P R2) P ops fr q K (s.or t) := by
 generalize hG : mh (RP P R1) P la ops dn fr' q K' = G at h
 unfold mh at hG
 split at hG
 ·rename_i x0 sl0 d0 gd0 hn
  have hq : ∃ o, ops[q]? = some o := by
   cases e : ops[q]? with
   | none => unfold jj at hn; rw [e] at hn; cases hn
   | some o => exact ⟨o, rfl⟩
  obtain ⟨o, ho⟩ := hq;rw [ho] at hG;dsimp only [Option.bind_some] at hG
  have hkl : ∃ ty off, la.kind P o = .ld ty x0 sl0 off ∧ o.dst = some d0 := by
   unfold jj at hn;rw [ho] at hn;dsimp only at hn
   split at hn
   ·rename_i h1 h2
    split at hn
    ·cases hn; exact ⟨_, _, h1, h2⟩
    ·split at hn
     ·split at hn
      ·cases hn
      ·cases hn; exact ⟨_, _, h1, h2⟩
     ·cases hn
   ·cases hn
  obtain ⟨ty, off, hkd, hdst⟩ := hkl;obtain ⟨h1, h2, h3, h4⟩ := rz hkd
  have hsk : dS fr ops o = dS fr' ops o := by
   refine rX fun j w g e1 e2 => ?_
   have hg : la.at_ g = none := by
    unfold jj at hn;rw [ho] at hn;dsimp only at hn;rw [hkd, hdst] at hn;dsimp only at hn;rw [e1] at hn;dsimp only at hn;rw [e2] at hn;dsimp only at hn
    split at hn
    ·cases hn
    ·rename_i hc
     cases hat : la.at_ g with
     | none => rfl
     | some p => exact absurd (.inr (by rw [hat]; (first | done | rfl))) hc
   unfold known;rw [hm.non g hg]
  split at hG
  ·rename_i hs
   subst hG
   have hst : gm P ops fr q = some none := by
    unfold gm;simp only [ho, h1, hdst, hsk, hs]
   unfold iZ;rw [hst];exact hK h
  ·rename_i hs
   split at hG
   ·rename_i hcl
    subst hG;simp only [Bool.and_eq_true] at hcl;rcases hc q hcl.1 o ho (by rw [hn]; (first | done | rfl)) with h5 | ⟨_, h5⟩
    ·rw [hs] at h5; cases h5
    obtain ⟨o', ty2, off2, hh, u0, u, y, ty', g1, g2, g4, g6, g7, g8, g9, g10, g11, g12⟩ := h5 _ hn;dsimp only at g2 g4 g6 g7 g8 g12;rw [ho] at g1; cases g1;rw [hkd] at g2; cases g2;obtain ⟨z, hz⟩ := Option.isSome_iff_exists.1 hcl.2;have hz' := g12 z hz
    have hat : la.at_ d0 = none := by rw [hdst] at h2; simpa [LA.ig] using h2
    have hfr : fr[d0]? = some (some z) := by rw [← hm.non d0 hat]; exact nj hz
    have hst : gm P ops fr q = some (some ⟨hh.2, ⟨ρ sl0, off, none⟩, y⟩) := by
     unfold gm;simp only [ho, h1, hdst, hsk, hs, (hm.ev h3 g6).1, g9, hfr, hz', oq g10];have : (hh.1 || hh.2.length == 1) = true := g10;simp [this]
    unfold iZ;rw [hst];refine ⟨?_, hK h⟩;rw [gE g11];exact wC hm hd h4 g7 g8
   ·subst hG; exact h.elim
  ·subst hG; exact h.elim
 ·split at hG
  ·rename_i ho
   subst hG;unfold iZ at h ⊢;rw [DV hm ho] at h
   cases hso : gm P ops fr q with
   | none => rw [hso] at h; exact h.elim
   | some r =>
    rw [hso] at h
    cases r with
    | none => exact hK h
    | some r => exact ⟨hY (lZ s t) h.1, hK h.2⟩
  ·subst hG; exact h.elim
theorem uM {ρ : Nat → Nat} {fr' fr : Fr} {t s : PH} (hm : Sm la ρ fr' fr t) (hd : fO s t) {dn : List Nat} (hc : jV la P ops dn fr') {K' K : PH → Prop} (hK : K' s → K (s.or t)) : ∀ (l : List Nat), AB (RP P R1) P la ops dn fr' l K' s → oh (RP P R2) P ops fr l K (s.or t)
 | [], h => hK h
 | q :: l, h => wz hm hd hc (uM hm hd hc hK l) h
theorem Iv {l : List (PH → Prop)} {s : PH} (h : l ≠ []) (h2 : ∀ x ∈ l, x s) : vB (RP P R) l s := by
 induction l with
 | nil => exact absurd rfl h
 | cons x l ih =>
  cases l with
  | nil => exact h2 x (by simp)
  | cons y l => exact ⟨h2 x (by simp), ih (by simp) fun z hz => h2 z (List.mem_cons_of_mem _ hz)⟩
theorem qS {eB : Nat → List Nat} {eag : List Nat} {k' k : Fr → PH → Prop} (hk : KS la k' k) : ∀ (f : Nat) (rem dn : List Nat) {ρ : Nat → Nat} {fr' fr : Fr} {t s : PH}, Sm la ρ fr' fr t → fO s t → jV la P ops dn fr' →
  uO (RP P R1) P la ops eB eag f rem dn fr' k' s → fz (RP P R2) P ops eB eag f rem fr k (s.or t)
 | 0, rem, dn, ρ, fr', fr, t, s, hm, hd, hc, h => by
  cases rem with
  | nil => exact hk ρ fr' fr t s hm hd h
  | cons i l => exact h.elim
 | f + 1, rem, dn, ρ, fr', fr, t, s, hm, hd, hc, h => by
  cases rem with
  | nil => exact hk ρ fr' fr t s hm hd h
  | cons i0 l0 =>
   simp only [uO] at h;simp only [fz]
   cases hf : (iA ops (i0 :: l0)).find? (eag.contains ·) with
   | some i =>
    rw [hf] at h;dsimp only at h ⊢;exact qy (fun ρ fr1 fr2 t s hm hd hc h => qS hk f _ _ hm hd hc h) hm hd hc h
   | none =>
    rw [hf] at h;dsimp only at h ⊢;obtain ⟨h1, h2⟩ := yV h;refine Iv (by simpa using h1) ?_;intro x hx;obtain ⟨i, hi, rfl⟩ := List.mem_map.1 hx;have := h2 _ (List.mem_map.2 ⟨i, hi, rfl⟩);refine qy ?_ hm hd hc this;intro ρ fr1 fr2 t s hm hd hc h;exact uM hm hd hc (fun h => qS hk f _ _ hm hd hc h) _ h
theorem Bz {ann : lU} {pin : Fr} {id : Nat} {draw : Bool} {k' k : Fr → PH → Prop} (hk : KS la k' k) {ρ : Nat → Nat} {fr' fr : Fr} {t s : PH} (hm : Sm la ρ fr' fr t) (hd : fO s t) (h : rH (RP P R1) P la ann pin id ops draw fr' k' s) :
  mu (RP P R2) P (ann.old la) pin id ops draw fr k (s.or t) := by
 generalize hG : rH (RP P R1) P la ann pin id ops draw fr' k' = G at h
 unfold rH at hG;unfold mu
 split at hG
 ·rename_i hp
  rw [if_pos hp]
  cases draw with
  | true =>
   simp only [if_true] at hG ⊢
   show (match ann.draws.lookup id with | some d => _ | none => _ : PH → Prop) (s.or t)
   split at hG
   ·rename_i d hl
    rw [hl];subst hG;dsimp only;exact th d.A [] (fun ρ fr1 fr2 t s hm hd hc h => qS hk _ _ _ hm hd (by simpa using hc) h) hm hd jV.nil h
   ·subst hG; exact h.elim
  | false =>
   simp only [Bool.false_eq_true, if_false] at hG ⊢;subst hG;exact th _ [] (fun ρ fr1 fr2 t s hm hd _ h => hk ρ fr1 fr2 t s hm hd h) hm hd jV.nil h
 ·subst hG; exact h.elim
theorem pS (d : Nat) (ty : TypeId) (l : iO) : dF la ((d, ty) :: l) = (if (la.at_ d).isSome then (d, 1000000) else (d, ty)) :: dF la l := rfl
theorem uu (l : List (Nat × iO)) (k : Nat) : (l.map fun p => (p.1, dF la p.2)).lookup k = (l.lookup k).map (dF la) := by
 induction l with
 | nil => rfl
 | cons p l ih =>
  obtain ⟨a, b⟩ := p;simp only [List.map_cons, List.lookup_cons]
  split
  ·rfl
  ·exact ih
theorem Ag {ρ : Nat → Nat} {fr' fr : Fr} {t : PH} (hm : Sm la ρ fr' fr t) : ∀ (l : iO) (hs' : List Shape) (d' : bR hs'), fR la P l = some hs' → fr'.pack l hs' = some d' →
  ∃ hs d, fe P (dF la l) = some hs ∧ fr.pack (dF la l) hs = some d ∧ ∀ p' p : Fr, Sm la ρ p' p t → (∀ e x, la.at_ e = some (e, 0) → known p' e = some x → ∃ y, known fr' e = some y) →
   Sm la ρ (p'.unpack l hs' d') (p.unpack (dF la l) hs d) t
 | [], hs', d', h1, h2 => by
  cases h1;exact ⟨[], (), rfl, rfl, fun p' p h _ => h⟩
 | (e, ty) :: l, hs', d', h1, h2 => by
  simp only [fR] at h1
  split at h1
  ·rename_i hh hs g1 g2
   cases h1;simp only [Fr.pack] at h2
   split at h2
   ·rename_i x hx
    split at h2
    ·rename_i y z hy hz
     have h2 := Option.some.inj h2;subst h2;obtain ⟨hs0, d0, i1, i2, i3⟩ := Ag hm l hs z g2 hz;rw [pS]
     cases hat : la.at_ e with
     | none =>
      have hsh : jS P ty = some hh := by unfold pz at g1; simpa [hat] using g1
      refine ⟨hh :: hs0, (y, d0), ?_, ?_, ?_⟩
      ·simp [fe, hsh, i1]
      ·simp only [Option.isSome_none, Bool.false_eq_true, if_false, Fr.pack];rw [← hm.non e hat, hx];simp only [hy, i2]
      ·intro p' p hp hq;refine i3 _ _ (hp.set hat _) ?_;intro a b ha hb
       have hne : e ≠ a := by rintro rfl; rw [hat] at ha; cases ha
       rw [aL hne] at hb;exact hq a b ha hb
     | some sp =>
      obtain ⟨sl, off⟩ := sp;have hkx : known fr' e = some x := mJ hx;have hold := hm.ptr e sl off x hat hkx;refine ⟨(false, [.addr]) :: hs0, (((⟨ρ sl, off, none⟩ : Addr), ()), d0), ?_, ?_, ?_⟩
      ·simp [fe, jS, i1]
      ·simp only [Option.isSome_some, if_true, Fr.pack];rw [hold];simp only [AV.val, Shape.tC, ee, CT.kE, i2]
      ·intro p' p hp hq
       have hav : (hh.av y).val = x.val := by rw [Shape.iV]; exact Shape.oq hy
       refine i3 _ _ ?_ ?_
       ·have hav2 : Shape.av (false, [.addr]) ((⟨ρ sl, off, none⟩ : Addr), ()) = .v (.pointer (some ⟨ρ sl, off, none⟩)) := rfl
        show Sm la ρ (p'.set e (some (hh.av y))) (p.set e (some (Shape.av (false, [.addr]) ((⟨ρ sl, off, none⟩ : Addr), ())))) t
        rw [hav2];refine ⟨by simp [hp.len], ?_, ?_, ?_, ?_, ?_⟩
        ·intro a ha
         have hne : e ≠ a := by rintro rfl; rw [hat] at ha; cases ha
         rw [List.getElem?_set_ne hne, List.getElem?_set_ne hne]; exact hp.non a ha
        ·intro a sl2 off2 b ha hb
         by_cases hea : e = a
         ·subst hea;rw [hat] at ha; cases ha;have hlt := gB hb;rw [List.length_set, hp.len] at hlt;rw [List.getElem?_set_self hlt]
         ·rw [aL hea] at hb;rw [List.getElem?_set_ne hea]; exact hp.ptr a sl2 off2 b ha hb
        ·intro a b ty2 ha hb ht
         by_cases hea : e = a
         ·subst hea;have hlt := gB hb;rw [List.length_set] at hlt;rw [dx hlt] at hb;cases hb;rw [hav]; exact hm.con e x ty2 ha hkx ht
         ·rw [aL hea] at hb; exact hp.con a b ty2 ha hb ht
        ·intro a b ha hb
         by_cases hea : e = a
         ·subst hea; exact hm.own e x ha hkx
         ·rw [aL hea] at hb; exact hp.own a b ha hb
        ·intro a b u v ha hb hu hv
         have k1 : ∃ w, known fr' a = some w := by
          by_cases hea : e = a
          ·subst hea; exact ⟨_, hkx⟩
          ·rw [aL hea] at hu; exact hq a u ha hu
         have k2 : ∃ w, known fr' b = some w := by
          by_cases hea : e = b
          ·subst hea; exact ⟨_, hkx⟩
          ·rw [aL hea] at hv; exact hq b v hb hv
         obtain ⟨w1, k1⟩ := k1;obtain ⟨w2, k2⟩ := k2;exact hm.inj a b w1 w2 ha hb k1 k2
       ·intro a b ha hb;have hb : known (p'.set e (some (hh.av y))) a = some b := hb
        by_cases hea : e = a
        ·subst hea; exact ⟨_, hkx⟩
        ·rw [aL hea] at hb; exact hq a b ha hb
    ·cases h2
   ·cases h2
  ·cases h1
theorem least (p : Nat → Prop) (h : ∃ n, p n) : ∃ n, p n ∧ ∀ m, p m → n ≤ m := by
 obtain ⟨n, hn⟩ := h
 induction n using Nat.strongRecOn with
 | _ n ih =>
  by_cases hm : ∃ m, m < n ∧ p m
  ·obtain ⟨m, h1, h2⟩ := hm; exact ih m h1 h2
  ·refine ⟨n, hn, fun m hp => ?_⟩;rcases Nat.lt_or_ge m n with q | q
   ·exact absurd ⟨m, q, hp⟩ hm
   ·exact q
open Classical in
noncomputable def rA (p : Nat → Prop) : Nat := if h : ∃ n, p n then Classical.choose (least p h) else 0
theorem qC {p : Nat → Prop} (h : ∃ n, p n) : p (rA p) ∧ ∀ m, p m → rA p ≤ m := by
 unfold rA;rw [dif_pos h];exact Classical.choose_spec (least p h)
theorem uH : ∀ (l : iO) (hs : List Shape), fR la P l = some hs → ∃ hs0, fe P (dF la l) = some hs0
 | [], hs, _ => ⟨[], rfl⟩
 | (e, ty) :: l, hs, hhs => by
  simp only [fR] at hhs
  split at hhs
  ·rename_i hh hs1 g1 g2
   obtain ⟨hs0, e0⟩ := uH l hs1 g2;rw [pS]
   cases hat : la.at_ e with
   | none =>
    have hsh : jS P ty = some hh := by unfold pz at g1; simpa [hat] using g1
    exact ⟨hh :: hs0, by simp [fe, hsh, e0]⟩
   | some sp => exact ⟨(false, [.addr]) :: hs0, by simp [fe, jS, e0]⟩
  ·cases hhs
def rE (la : LA) (pin : Fr) : Prop := ∀ d p, la.at_ d = some p → known pin d = none
theorem FJ {ρ : Nat → Nat} {pin : Fr} {t : PH} (hp : rE la pin) : Sm la ρ pin pin t := by
 have no : ∀ {d p x}, la.at_ d = some p → known pin d = some x → False := fun h1 h2 => by rw [hp _ _ h1] at h2; cases h2
 exact ⟨rfl, fun _ _ => rfl, fun d sl off x h1 h2 => (no h1 h2).elim, fun d x ty h1 h2 _ => (no h1 h2).elim, fun d x h1 h2 => (no h1 h2).elim, fun d e x y h1 _ h2 _ _ => (no h1 h2).elim⟩
theorem tq {ρ : Nat → Nat} {fr' fr : Fr} {t : PH} {pin : Fr} (hp : rE la pin) (hm : Sm la ρ fr' fr t) {l : iO} {hs' : List Shape} {d' : bR hs'} (h1 : fR la P l = some hs') (h2 : fr'.pack l hs' = some d') :
  ∃ hs d, fe P (dF la l) = some hs ∧ fr.pack (dF la l) hs = some d ∧ Sm la ρ (pin.unpack l hs' d') (pin.unpack (dF la l) hs d) t := by
 obtain ⟨hs, d, g1, g2, g3⟩ := Ag hm l hs' d' h1 h2;exact ⟨hs, d, g1, g2, g3 pin pin (FJ hp) fun e x he hx => by rw [hp e _ he] at hx; cases hx⟩
theorem EA {ann : lU} {pin : Fr} (hp : rE la pin) : ∀ (c : Code) (kn' kn : Fr → PH → Prop) (kx' kx : Nat → Fr → PH → Prop) (kr' kr : Fr → PH → Prop), KS la kn' kn → (∀ id, KS la (kx' id) (kx id)) → KS la kr' kr →
  KS la (fun fr' => fJ (RP P R1) P la ann pin c fr' kn' kx' kr') (fun fr => eC (RP P R2) P (ann.old la) pin c fr kn kx kr) := by
 intro c
 induction c with
 | skip => intro kn' kn kx' kx kr' kr h1 h2 h3; exact h1
 | region id ops draw => intro kn' kn kx' kx kr' kr h1 h2 h3 ρ fr' fr t s hm hd h; exact Bz h1 hm hd h
 | seq x y ihx ihy =>
  intro kn' kn kx' kx kr' kr h1 h2 h3 ρ fr' fr t s hm hd h;have hy := ihy kn' kn kx' kx kr' kr h1 h2 h3
  generalize hG : fJ (RP P R1) P la ann pin (.seq x y) fr' kn' kx' kr' = G at h
  unfold fJ at hG;unfold eC
  have hlk : (cC y).bind ((ann.old la).join.lookup ·) = ((cC y).bind (ann.join.lookup ·)).map (dF la) := by
   cases cC y with
   | none => rfl
   | some r => exact uu _ _
  rw [hlk]
  split at hG
  ·rename_i l hl
   rw [hl];dsimp only [Option.map_some]
   split at hG
   ·rename_i hs hhs
    subst hG;obtain ⟨hs0, hhs0⟩ := uH l hs hhs;rw [hhs0];dsimp only;refine ihx _ _ kx' kx kr' kr ?_ h2 h3 ρ fr' fr t s hm hd h;intro ρ f' f t s hm hd h;dsimp only at h ⊢
    cases hpk : f'.pack l hs with
    | none => rw [hpk] at h; exact h.elim
    | some d' =>
     rw [hpk] at h;obtain ⟨hs1, d, g1, g2, g3⟩ := tq hp hm hhs hpk;rw [hhs0] at g1; cases g1;rw [g2];exact hy ρ _ _ t s g3 hd h
   ·subst hG; exact h.elim
  ·rename_i hl
   rw [hl];subst hG;exact ihx _ _ kx' kx kr' kr hy h2 h3 ρ fr' fr t s hm hd h
 | cond c x y ihx ihy =>
  intro kn' kn kx' kx kr' kr h1 h2 h3 ρ fr' fr t s hm hd h;have hx := ihx kn' kn kx' kx kr' kr h1 h2 h3;have hy := ihy kn' kn kx' kx kr' kr h1 h2 h3
  generalize hG : fJ (RP P R1) P la ann pin (.cond c x y) fr' kn' kx' kr' = G at h
  unfold fJ at hG;unfold eC
  split at hG
  ·subst hG; exact h.elim
  ·rename_i hof
   have hof : la.kU c = false := by simpa using hof
   have henv : fr.env.av c = fr'.env.av c := (hm.env hof).symm;rw [henv]
   have href : ∀ b, Sm la ρ (fr'.refine c b) (fr.refine c b) t := by
    intro b
    cases c with
    | tmp d => exact hm.set (by simpa [LA.kU] using hof) _
    | _ => exact hm
   split at hG
   ·rename_i hc; rw [hc]; subst hG; exact hx ρ _ _ t s hm hd h
   ·rename_i hc; rw [hc]; subst hG; exact hy ρ _ _ t s hm hd h
   ·rename_i b hc; rw [hc]; subst hG
    cases b with
    | true => simpa [RP, W.br] using hx ρ _ _ t s (href .t) hd (by simpa [RP, W.br] using h)
    | false => simpa [RP, W.br] using hy ρ _ _ t s (href .f) hd (by simpa [RP, W.br] using h)
   ·subst hG; exact h.elim
 | block id x ih =>
  intro kn' kn kx' kx kr' kr h1 h2 h3;refine ih kn' kn _ _ kr' kr h1 ?_ h3;intro id' ρ fr' fr t s hm hd h
  split at h
  ·rename_i e; rw [if_pos e]; exact h1 ρ fr' fr t s hm hd h
  ·rename_i e; rw [if_neg e]; exact h2 id' ρ fr' fr t s hm hd h
 | loop x ih =>
  intro kn' kn kx' kx kr' kr h1 h2 h3 ρ fr' fr t s hm hd h
  generalize hG : fJ (RP P R1) P la ann pin (.loop x) fr' kn' kx' kr' = G at h
  unfold fJ at hG;unfold eC
  have hlk : (cC x).bind ((ann.old la).loop.lookup ·) = ((cC x).bind (ann.loop.lookup ·)).map (dF la) := by
   cases cC x with
   | none => rfl
   | some r => exact uu _ _
  rw [hlk]
  split at hG
  ·rename_i l hl
   rw [hl];dsimp only [Option.map_some]
   split at hG
   ·rename_i hs hhs
    split at hG
    ·rename_i d0' hpk
     subst hG;obtain ⟨hs0, d0, g1, g2, g3⟩ := tq hp hm hhs hpk;rw [g1];dsimp only;rw [g2];dsimp only;obtain ⟨I', μ', i0, hI⟩ := h
     let Rl (d : bR hs0) (sf : PH) (d' : bR hs) (s : PH) : Prop := ∃ ρ t, Sm la ρ (pin.unpack l hs d') (pin.unpack (dF la l) hs0 d) t ∧ fO s t ∧ sf = s.or t ∧ I' d' s
     refine ⟨fun d sf => ∃ d' s, Rl d sf d' s, fun d sf => rA fun n => ∃ d' s, Rl d sf d' s ∧ μ' d' s = n, ⟨d0', s, ρ, t, g3, hd, rfl, i0⟩, ?_⟩;rintro d sf ⟨d1', s1, hR1⟩;obtain ⟨⟨d', s, ⟨ρ, t, q1, q2, q3, q4⟩, q5⟩, _⟩ := qC (p := fun n => ∃ d' s, Rl d sf d' s ∧ μ' d' s = n) ⟨_, d1', s1, hR1, rfl⟩;rw [q3];refine ih _ _ kx' kx kr' kr ?_ h2 h3 ρ _ _ t s q1 q2 (hI d' s q4);intro ρ2 f' f t2 s2 hm2 hd2 h;dsimp only at h ⊢
     cases hpk2 : f'.pack l hs with
     | none => rw [hpk2] at h; exact h.elim
     | some d2' =>
      rw [hpk2] at h;obtain ⟨hs1, d2, e1, e2, e3⟩ := tq hp hm2 hhs hpk2;rw [g1] at e1; cases e1;rw [e2]
      have hR2 : Rl d2 (s2.or t2) d2' s2 := ⟨ρ2, t2, e3, hd2, rfl, h.1⟩
      refine ⟨⟨d2', s2, hR2⟩, ?_⟩;have hle := (qC (p := fun n => ∃ d' s, Rl d2 (s2.or t2) d' s ∧ μ' d' s = n) ⟨_, d2', s2, hR2, rfl⟩).2 _ ⟨d2', s2, hR2, rfl⟩;have := h.2;rw [← q3];omega
    ·subst hG; exact h.elim
   ·subst hG; exact h.elim
  ·subst hG; exact h.elim
 | scope x ih => intro kn' kn kx' kx kr' kr h1 h2 h3; exact ih kn' kn kx' kx kr' kr h1 h2 h3
 | exit id => intro kn' kn kx' kx kr' kr h1 h2 h3; exact h2 id
 | ret => intro kn' kn kx' kx kr' kr h1 h2 h3; exact h3
 | _ => intro kn' kn kx' kx kr' kr h1 h2 h3 ρ fr' fr t s hm hd h; exact h.elim
theorem ko {ρ : Nat → Nat} {fr' fr : Fr} {t s : PH} (hm : Sm la ρ fr' fr t) (hd : fO s t) : ∀ (rs : List ResultVar) {k' k : List Value → PH → Prop}, (∀ vs, k' vs s → k vs (s.or t)) → ij (RP P R1) P la rs fr' k' s → fB (RP P R2) P rs fr k (s.or t)
 | [], k', k, hk, h => hk [] h
 | .tmp d :: rs, k', k, hk, h => by
  simp only [ij] at h;simp only [fB]
  cases hat : la.at_ d with
  | some p => rw [hat] at h; exact h.elim
  | none =>
   rw [hat] at h;dsimp only at h
   have hev : fr.env.ev (.tmp d) = fr'.env.ev (.tmp d) := by unfold Env.ev; rw [hm.env (x := .tmp d) (by simp [LA.kU, hat])]
   rw [hev]
   cases hv : fr'.env.ev (.tmp d) with
   | none => rw [hv] at h; exact h.elim
   | some v => rw [hv] at h; exact ko hm hd rs (fun vs h => hk _ h) h
 | .cell c ty :: rs, k', k, hk, h => by
  simp only [ij] at h;simp only [fB]
  cases hat : la.at_ c with
  | some p =>
   obtain ⟨sl, off⟩ := p;rw [hat] at h;dsimp only at h
   generalize hG : known fr' c = z1 at h
   generalize hG2 : known fr' sl = z2 at h
   generalize hG3 : shapeOf P ty = z3 at h ⊢
   generalize hG4 : la.ty.lookup sl = z4 at h
   cases z1 with
   | none => exact h.elim
   | some u0 =>
   cases z2 with
   | none => exact h.elim
   | some u =>
   cases z3 with
   | none => exact h.elim
   | some hh =>
   cases z4 with
   | none => exact h.elim
   | some ty' =>
    dsimp only at h
    by_cases hsl : la.at_ sl = some (sl, 0)
    ·rw [if_pos hsl] at h
     cases hy : ee hh.2 (tF u off hh.2.length) with
     | none => rw [hy] at h; exact h.elim
     | some y =>
      rw [hy] at h;rw [(hm.ev hat hG).1];dsimp only;refine ⟨y, ?_, ko hm hd rs (fun vs h => hk _ h) h⟩;rw [gE hy];exact wC hm hd hsl hG2 hG4
    ·rw [if_neg hsl] at h; exact h.elim
  | none =>
   rw [hat] at h;dsimp only at h
   have hev : fr.env.ev (.tmp c) = fr'.env.ev (.tmp c) := by unfold Env.ev; rw [hm.env (x := .tmp c) (by simp [LA.kU, hat])]
   rw [hev]
   generalize hG : fr'.env.ev (.tmp c) = x at h ⊢
   cases x with
   | none => exact h.elim
   | some v =>
    cases v with
    | pointer p =>
     cases p with
     | none => exact h.elim
     | some a =>
      dsimp only at h ⊢
      cases hsh : shapeOf P ty with
      | none => rw [hsh] at h; exact h.elim
      | some hh =>
       rw [hsh] at h;obtain ⟨y, q1, q2⟩ := h;exact ⟨y, hY (lZ s t) q1, ko hm hd rs (fun vs h => hk _ h) q2⟩
    | _ => exact h.elim
end
theorem bu.weaken {P : Program} {f : FuncId} {args : Array Value} {s : PH} {Q : Value → PH → Prop} (h : bu P f args s fun v s' => ∃ s1, s1.le s' ∧ Q v s1) : bu P f args s Q := by
 intro w hw;refine (h w hw).mono ?_;rintro e w' ⟨v, s', he, hr, s1, hle, q⟩;refine ⟨v, s1, he, ⟨hr.sub.mono hle, hr.os, hr.tape, hr.output, hr.size, fun k hk hs => ?_⟩, q⟩;obtain ⟨e1, e2⟩ := hr.out k hk hs;refine ⟨?_, e2⟩
 cases h1 : s1 k with
 | none => rfl
 | some o => rw [hle k o h1] at e1; cases e1
def Ah (la : LA) (n : Nat) : Bool := la.ptr.all fun p => decide (n ≤ p.1)
theorem Ai {la : LA} {l : List (Option AV)} {n m : Nat} (h : Ah la m = true) (hl : l.length ≤ m) : rE la (jL l n) := by
 intro d p hd;have hm := uq hd;unfold Ah at h;rw [List.all_eq_true] at h;have := of_decide_eq_true (h _ hm)
 cases hk : known (jL l n) d with
 | none => rfl
 | some x =>
  have h1 := sY (nj hk);have := (List.getElem?_eq_some_iff.1 h1).1;dsimp only at *;omega
theorem Ey {P : Program} {ann : lU} (la : LA) (hm : P.follows .mixedOrders = true) {f : FuncId} {fn : Func} {c : Code} {s : PH} {Q : Value → PH → Prop} (hf : P.funcs[f]? = some fn) (hb : fn.body = some c) (hc : eS P (ann.old la) c = true)
  (args : List AV) (ws : List Nat) (hn : args.length ≤ fn.ntmps) (hpin : Ah la args.length = true)
  (h : H8 (RP P Q) P la ann (jL (j9 ws args 0) fn.ntmps) fn c (jL (args.map some) fn.ntmps) s) : bu P f (args.map AV.val).toArray s Q := by
 refine bu.weaken (Gx (ann := ann.old la) hm hf hb hc args ws hn ?_);have p1 : rE la (jL (j9 ws args 0) fn.ntmps) := Ai hpin (by rw [mK]; exact Nat.le_refl _);have p2 : rE la (jL (args.map some) fn.ntmps) := Ai hpin (by simp)
 have hend : KS la (fun fr' => ij (RP P Q) P la fn.results.toList fr' fun vs => (RP P Q).ret (iG vs))
   (fun fr => fB (RP P fun v s' => ∃ s1, s1.le s' ∧ Q v s1) P fn.results.toList fr fun vs => (RP P fun v s' => ∃ s1, s1.le s' ∧ Q v s1).ret (iG vs)) := by
  intro ρ fr' fr t s hm hd h;exact ko hm hd _ (fun vs h => ⟨s, lZ s t, h⟩) h
 have := EA (P := P) (R1 := Q) (R2 := fun v s' => ∃ s1, s1.le s' ∧ Q v s1) (ann := ann) p1 c _ _ (fun _ _ => (RP P Q).fail) (fun _ _ => (RP P fun v s' => ∃ s1, s1.le s' ∧ Q v s1).fail) _ _ hend (fun id ρ fr' fr t s _ _ h => h.elim) hend (fun k => k) _ _ (fun _ => none) s (FJ p2) (fun k hk => absurd rfl hk) h;rw [mO] at this;exact this
end Fw
end
