/-
  Part 29 for the law: lemmas.
  Conditions: none.
-/
import Derived.Test.YtlfdfgokflhdbaaGreatExecExactK28
set_option maxHeartbeats 4000000
set_option maxRecDepth 100000
set_option linter.unusedVariables false
set_option linter.unusedSimpArgs false
set_option linter.unusedSectionVars false
namespace Go.Proofs.YtlfdfgokflhdbaaGreat
open Fw Go Go.IntKind
section
attribute [-simp] Fw.W.bD Fw.W.bB
structure iX where
 b : cG
 t : aU
def qw : cO iX where
 sz := 11
 f q := [.int .i64 q.b.kind, .int .i64 q.b.table, .slice q.t.1 q.t.2.1 q.t.2.2, .int .i64 q.b.set, .int .i64 q.b.to.kind, .int .i64 q.b.to.n, .string q.b.to.s, .int .i64 q.b.whr, .int .i64 q.b.is.kind, .int .i64 q.b.is.n, .string q.b.is.s]
 len _ := rfl
 one q v hv := by simp at hv; rcases hv with rfl | rfl | rfl | rfl | rfl | rfl | rfl | rfl | rfl | rfl | rfl <;> rfl
 pos := by omega
structure wZ where
 r : Rp
 u : aU
 vs : List qv
def Le : cO wZ where
 sz := 2
 f q := [.int .i64 q.r.n, .slice q.u.1 q.u.2.1 q.u.2.2]
 len _ := rfl
 one q v hv := by simp at hv; rcases hv with rfl | rfl <;> rfl
 pos := by omega
structure ku (s0 s : PH) (a : OA) (n c : Nat) (L : List Rp) (qs : List wZ) : Prop where
 gw : Gw Le 135 s0 s a n c qs
 eq : qs.map (·.r) = L
 rs : ∀ q ∈ qs, fQ s0 s q.u.1 q.u.2.1 q.u.2.2 q.r.rows q.vs
theorem fQ.kt {s0 s s' : PH} {a : OA} {n c : Nat} {L : List (List aH)} {qs : List qv} (h : fQ s0 s a n c L qs) (hk : Kt s s') (hm : Fw.Mod [] s0 s') : fQ s0 s' a n c L qs :=
 ⟨⟨hk.row h.gw.row (by decide) (by decide), h.gw.fr, hm⟩, h.eq, fun q hq => ⟨hk.row (h.vs q hq).1 (by decide) (by decide), (h.vs q hq).2⟩⟩
theorem ku.kt {s0 s s' : PH} {a : OA} {n c : Nat} {L : List Rp} {qs : List wZ} (h : ku s0 s a n c L qs) (hk : Kt s s') (hm : Fw.Mod [] s0 s') : ku s0 s' a n c L qs :=
 ⟨⟨hk.row h.gw.row (by decide) (by decide), h.gw.fr, hm⟩, h.eq, fun q hq => (h.rs q hq).kt hk hm⟩
theorem ku.same {s0 s s' : PH} {a : OA} {n c : Nat} {L : List Rp} {qs : List wZ} (h : ku s0 s a n c L qs) (hm : Fw.Mod [] s s') : ku s0 s' a n c L qs :=
 ⟨h.gw.same hm, h.eq, fun q hq => (h.rs q hq).same hm⟩
theorem fQ.off {s0 s s' : PH} {a b : OA} {n c m d : Nat} {L : List (List aH)} {qs : List qv} {M : List wZ} (h : fQ s0 s a n c L qs) (hG : Gw Le 135 s0 s b m d M) (hm : Fw.Mod (Fw.aW b) s s') : fQ s0 s' a n c L qs :=
 ⟨⟨gZ h.gw.row hG (by decide) hm, h.gw.fr, hG.md.fresh hm fun g hg => .inr (hG.fr g hg)⟩, h.eq, fun q hq => ⟨gZ (h.vs q hq).1 hG (by decide) hm, (h.vs q hq).2⟩⟩
theorem ku.push {s0 s : PH} {a : OA} {n c : Nat} {L : List Rp} {qs : List wZ} {r : Rp} {u : aU} {vs : List qv} {K : OA → Nat → Nat → W.T} (h : ku s0 s a n c L qs) (hu : fQ s0 s u.1 u.2.1 u.2.2 r.rows vs) (hl : n + 1 ≤ 4294967296)
  (hK : ∀ a' c' s' qs', ku s0 s' a' (n + 1) c' (L ++ [r]) qs' → Fw.Mod (Fw.aW a) s s' → K a' (n + 1) c' s') : W.nw (.cells #[.int .i64 r.n, .slice u.1 u.2.1 u.2.2] 135 (0, 0)) (fun r => W.app 135 2 32 [.int .i64 0, .slice none 0 0] a n c (Src.sl (some ⟨r, 0, none⟩) 1) K) s := by
 refine h.gw.nN [⟨r, u, vs⟩] (k := 1) rfl rfl rfl hl (by omega) fun a' c' s' h1 m1 => hK a' c' s' (qs ++ [⟨r, u, vs⟩]) ⟨h1, by rw [List.map_append, h.eq]; (first | done | rfl), fun q hq => ?_⟩ m1;rcases List.mem_append.1 hq with hq | hq
 ·exact (h.rs q hq).off h.gw m1
 ·simp only [List.mem_singleton] at hq;subst hq;exact hu.off h.gw m1
structure CQ (s0 s : PH) (B : List Ht) (rds : List cx) (ws : List Wr) (rps : List Rp) (u v t : aU) : Prop where
 reads : ∃ qs, Gw FV 132 s0 s u.1 u.2.1 u.2.2 qs ∧ qs.map (·.p) = rds ∧ ∀ q ∈ qs, bq Lh s 215 q.u.1 q.u.2.1 q.u.2.2 (stamps (aI B q.p))
 writes : Gw nT 79 s0 s v.1 v.2.1 v.2.2 ws
 reps : ∃ qs, ku s0 s t.1 t.2.1 t.2.2 rps qs
 rl : rds.length ≤ 48000
abbrev Ll : Value := .agg #[.slice none 0 0, .slice none 0 0, .slice none 0 0]
structure Gx (N0 : Nat) (B : List Ht) (ws : List Wr) (rps : List Rp) : Prop where
 rn : rps.length ≤ 12
 rf : ∀ r ∈ rps, r.rows.length ≤ 64 ∧ ∀ v ∈ r.rows, v.length ≤ 8
 sm : ∀ x ∈ ws.foldl cL [], x.key.size ≤ 4000000 ∧ x.val.size ≤ 4000000
 ol : (ws.foldl cL []).length ≤ 20000
 cn : kX (N0 + 108) (ai 0 B ws)
def Gy (N0 : Nat) (s : PH) (S : aK) (B : List Ht) (L : List cG) (y : Value) (s' : PH) : Prop := Fw.Mod [] s s' ∧
 (if jm S ≠ 0 then y = .tuple #[Ll, .int .i64 0, .int .i64 100]
 else if (bZ S 0 L B).err ≠ 0 then y = .tuple #[Ll, .int .i64 (bZ S 0 L B).at_, .int .i64 (bZ S 0 L B).err]
 else ∃ u v t : aU, y = .tuple #[.agg #[kU u, kU v, kU t], .int .i64 0, .int .i64 0] ∧ CQ s s' B (bT [] (bZ S 0 L B).asks) ((bZ S 0 L B).ws.foldl cL []) (bZ S 0 L B).reps u v t ∧ Gx N0 B (bZ S 0 L B).ws (bZ S 0 L B).reps)
abbrev Ei : Obj := .cells #[.func (.func 58) #[] #[], .func (.func 59) #[] #[], .func (.func 60) #[] #[], .func (.func 61) #[] #[]] 150 (0, 0)
theorem xJ (S : aK) (i : Int) (b : cG) (l : List cG) (D : List Ht) : bZ S i (b :: l) D = match fe S b with
  | none => ⟨1, i, [], [], []⟩
  | some T => if (gp S T b D).err ≠ 0 then ⟨(gp S T b D).err, i, [], (gp S T b D).asks, (gp S T b D).ws⟩
   else ⟨(bZ S (i + 1) l (ai 0 D (gp S T b D).ws)).err, (bZ S (i + 1) l (ai 0 D (gp S T b D).ws)).at_, (gp S T b D).rep :: (bZ S (i + 1) l (ai 0 D (gp S T b D).ws)).reps, (gp S T b D).asks ++ (bZ S (i + 1) l (ai 0 D (gp S T b D).ws)).asks, (gp S T b D).ws ++ (bZ S (i + 1) l (ai 0 D (gp S T b D).ws)).ws⟩ := by rw [bZ.eq_def]; (first | done | rfl)
structure Mk (N0 : Nat) (s : PH) (S : aK) (tt sh : aU) (B : List Ht) (L : List cG) (r3 r4 : Nat) (i : Nat) (a : OA) (n c : Nat) (rps : List Rp) (qs : List wZ) (A : List cx) (Wl : List Wr) (s' : PH) : Prop where
 ej : EJ s s' r3 S tt sh B (bT [] A) (Wl.foldl cL [])
 ways : s' r4 = some Ei
 rp : ku s s' a n c rps qs
 nl : n ≤ i
 rf : ∀ r ∈ rps, r.rows.length ≤ 64 ∧ ∀ v ∈ r.rows, v.length ≤ 8
 al : A.length ≤ i * 4000
 wl : Wl.length ≤ i * 1100
 cn : kX (N0 + 9 * i) (ai 0 B Wl)
 err : (bZ S 0 L B).err = (bZ S i (L.drop i) (ai 0 B Wl)).err
 at_ : (bZ S 0 L B).at_ = (bZ S i (L.drop i) (ai 0 B Wl)).at_
 reps : (bZ S 0 L B).reps = rps ++ (bZ S i (L.drop i) (ai 0 B Wl)).reps
 asks : (bZ S 0 L B).asks = A ++ (bZ S i (L.drop i) (ai 0 B Wl)).asks
 ws : (bZ S 0 L B).ws = Wl ++ (bZ S i (L.drop i) (ai 0 B Wl)).ws
theorem E7 {K V : Type} [BEq K] [LawfulBEq K] {ks : Gs Tryz.prog K} {ve : V → Value} {s : PH} {m : Nat} (h : s m = some (.map #[] 0)) : lT (V := V) ks ve s m [] := ⟨#[], 0, h, rfl, Go.MapKept.stamped_empty 0⟩
theorem Hh {K V : Type} [BEq K] [LawfulBEq K] {ke : sZ K} {ve : V → Value} {s : PH} {m : Nat} (h : s m = some (.map #[] 0)) : iC (V := V) ke ve s m [] := ⟨#[], 0, h, rfl, Go.MapKept.stamped_empty 0⟩
section
variable {S : aK} {tt sh : aU} {B : List Ht}
theorem zx {N0 : Nat} (hN0 : N0 ≤ 5000) {s : PH} {ps : List aD} (hB : jI s sh B) (hS : dO s tt S ps) (hok : jm S = 0 → (∀ T ∈ S.tabs, fR S T) ∧ S.tabs.length ≤ 6) (hCn : kX N0 B) {b : aU} {bs : List iX} (hb : Sl qw s b bs) (hb12 : bs.length ≤ 12) (hvs : ∀ q ∈ bs, Sl ew s q.t q.b.vals ∧ wX q.b) :
  ah 19 #[fj S tt, .slice b.1 b.2.1 b.2.2, F4 sh] s (Gy N0 s S B (bs.map (·.b))) := by
 refine JS S.version S.last tt.1 tt.2.1 tt.2.2 b.1 b.2.1 b.2.2 73 (kU sh) _ s ?_;unfold CJ
 obtain ⟨L, hL⟩ : ∃ L, bs.map (·.b) = L := ⟨_, rfl⟩
 rw [hL]
 obtain ⟨R, hR⟩ : ∃ R, Gy N0 s S B L = R := ⟨_, rfl⟩
 rw [hR];have hbl : b.2.1 = bs.length := hb.len
 have hLl : L.length = bs.length := by rw [← hL, List.length_map]
 simp only [aR, aF, aY, bY, ir, aQ, aP, aT, bL, cE, BV, mP, cX, mI, cR, aV, Nat.zero_add];refine (W.af _ _ _ _).2 ⟨fun e => absurd e (by decide), fun _ => ?_⟩;refine aN ((jm S, ()), ()) (I4 hS) rfl ?_;dsimp only;refine aC (fun e => ?_) fun e => ?_
 ·have e : jm S ≠ 0 := by simpa using e
  rw [← hR];exact ⟨Mod.refl _ _, by rw [if_pos e]⟩
 have herr : jm S = 0 := by simpa using e
 obtain ⟨hAll, hT6⟩ := hok herr;refine W.bI fun r1 s1 hr1 m1 k1 => ?_;refine W.bI fun r2 s2 hr2 m2 k2 => ?_;refine W.bI fun r3 s3 hr3 m3 k3 => ?_;refine W.bI fun r4 s4 hr4 m4 k4 => ?_;refine kS (c' := #[.func (.func 58) #[] #[], .func (.func 59) #[] #[], .func (.func 60) #[] #[], .func (.func 61) #[] #[]]) k4 (by show 0 + 4 ≤ 4; omega) (by simp [Value.oneCell']) rfl ?_;intro s5 hs5
 have k54 : s5 r4 = some Ei := by rw [hs5, PH.bE]
 have m35 : Fw.Mod [] s3 s5 := by rw [hs5]; exact m4.cj (.inr hr4)
 have m25 := m3.trans m35;have m15 := m2.trans m25;have m05 : Fw.Mod [] s s5 := m1.trans m15;have k51 : s5 r1 = some (.map #[] 0) := m15.at k1 (by simp);have k52 : s5 r2 = some (.map #[] 0) := m25.at k2 (by simp);have k53 : s5 r3 = some (wW S tt sh (none, 0, 0) r1 r2) := m35.at k3 (by simp);have n1 : s r1 = none := hr1;have n2 : s r2 = none := m1.none hr2 (by simp);have n3 : s r3 = none := (m1.trans m2).none hr3 (by simp)
 have hE0 : EJ s s5 r3 S tt sh B (bT [] []) (([] : List Wr).foldl cL []) := by
  refine ⟨⟨(none, 0, 0), r1, r2, [], [], [], m05, n3, k53, n1, n2, fun e => ?_, Gw.nil m05, rfl, by simp, E7 k51, rfl, by simp, Hh k52, by simp, List.Perm.nil⟩, List.Pairwise.nil, by simp [List.foldl], by simp⟩;rw [← e, k1] at hr2; cases hr2
 refine ⟨fun z s' => ∃ (i : Nat) (a : OA) (n c : Nat) (rps : List Rp) (qs : List wZ) (A : List cx) (Wl : List Wr), z = (((none, 0, 0), (none, 0, 0), (none, 0, 0), ()), (some ⟨r3, 0, none⟩, ()), (⟨r4, 0, none⟩, ()), ((none, 0, 0), (none, 0, 0), (a, n, c), ()), (b, ()), ((b.2.1 : Int), ()), ((i : Int), ()), ()) ∧ i ≤ b.2.1 ∧ Mk N0 s S tt sh B L r3 r4 i a n c rps qs A Wl s',
  fun z _ => b.2.1 - z.2.2.2.2.2.2.1.1.toNat, ⟨0, none, 0, 0, [], [], [], [], rfl, Nat.zero_le _, ⟨hE0, k54, ⟨Gw.nil m05, rfl, by simp⟩, Nat.le_refl _, by simp, by simp, by simp, hCn, rfl, rfl, rfl, rfl, rfl⟩⟩, ?_⟩
 rintro _ s6 ⟨i, a, n, c, rps, qs, A, Wl, rfl, hi, hI⟩
 obtain ⟨D, hD⟩ : ∃ D, ai 0 B Wl = D := ⟨_, rfl⟩
 have hDov : ai 0 B (Wl.foldl cL []) = D := by rw [← hD]; exact (jM hB.cJ Wl List.Pairwise.nil).symm
 have hDs : cz D := by rw [← hD]; exact fq _ hB.cJ
 have hdv := (iy hB hI.ej.cJ hI.ej.sm).2;rw [hDov] at hdv;have hal := eR A [];have hwl := lY Wl [];have hil := hI.al;have hiw := hI.wl;simp only [List.length_nil, Nat.zero_add] at hal hwl;have q1 := hI.err;have q2 := hI.at_;have q3 := hI.reps;have q4 := hI.asks;have q5 := hI.ws;have hcn := hI.cn;rw [hD] at q1 q2 q3 q4 q5 hcn;dsimp only;refine aC (fun e => ?_) fun e => ?_
 ·have hlt : (i : Int) < (b.2.1 : Int) := of_decide_eq_true e
  obtain ⟨q, hq⟩ : ∃ q, bs[i]? = some q := ⟨_, List.getElem?_eq_getElem (by omega)⟩
  have hqm := List.mem_of_getElem? hq
  have hLi : L[i]? = some q.b := by rw [← hL, List.getElem?_map, hq]; (first | done | rfl)
  rw [bW hLi, xJ] at q1 q2 q3 q4 q5;obtain ⟨ad, had, hh⟩ := (hb.mono hI.ej.md.le).el.aG hq;refine bg ⟨Int.natCast_nonneg i, hlt⟩ ?_;refine bS had ?_;simp only [Int.toNat_natCast];have hh : s6.has (ad.add (i * 11)) (qw.f q) := hh;refine aE hh (y := vU q.b q.t) rfl ?_;obtain ⟨hqv, hqb⟩ := hvs q hqm;obtain ⟨rr, mb, mo, qs0, bs0, f0, hx6⟩ := hI.ej.ei;refine W.aq (GY hx6.aW (hS.mono hI.ej.md.le) hAll (hqv.mono hI.ej.md.le)) ?_;rintro _ s7 ⟨m7, ⟨hr7, d, rfl⟩ | ⟨p, hpm, hr7, rfl⟩⟩
  ·refine ⟨(d, (false, ()), ()), rfl, ?_⟩;refine (W.af _ _ _ _).2 ⟨fun _ => ?_, fun e => (by cases e)⟩;rw [hr7] at q1 q2;dsimp only at q1 q2 ⊢;rw [← hR];refine ⟨hI.ej.md.trans m7, ?_⟩;rw [if_neg (by rw [herr]; decide), if_pos (by rw [q1]; decide), q1, q2]
  refine ⟨(me p, (true, ()), ()), rfl, ?_⟩;refine (W.af _ _ _ _).2 ⟨fun e => (by cases e), fun _ => ?_⟩;rw [hr7] at q1 q2 q3 q4 q5;dsimp only at q1 q2 q3 q4 q5 ⊢
  obtain ⟨E, hE⟩ : ∃ E, gp S p.T q.b D = E := ⟨_, rfl⟩
  rw [hE] at q1 q2 q3 q4 q5;have hof := DT hAll hT6 hr7 hqb hDs hdv hcn;rw [hE] at hof;have hrf := lN hr7;have hpT := hAll p.T hrf.mem;have hpI := hS.all p hpm;have hE7 := hI.ej.same m7
  have hcn7 : kX (N0 + 9 * i) (ai 0 B (Wl.foldl cL [])) := by rw [hDov]; exact hcn
  have k74 := m7.at hI.ways (by simp);have hrp7 := hI.rp.same m7
  have c1 : q.b.kind = 1 → ah 58 #[cp r3, ep p.T p.c p.x p.k, nU q.b q.t] s7 (kZ s s7 r3 S tt sh B (bT [] A) (Wl.foldl cL []) E) := fun hk => by
   have := EK hB hE7 hS hpI hpT hqv (KW hpT (hrf.ins hk)) (hrf.ins hk) hqb.vals (by omega) (by omega);rw [hDov] at this
   have e : qV S p.T q.b D = E := by rw [← hE]; unfold gp; rw [if_pos hk]
   rwa [e] at this
  have c2 : q.b.kind = 2 → ah 59 #[cp r3, ep p.T p.c p.x p.k, nU q.b q.t] s7 (kZ s s7 r3 S tt sh B (bT [] A) (Wl.foldl cL []) E) := fun hk => by
   obtain ⟨p1, p2, p3⟩ := nM hpT (hrf.aS hk) hqb.to;have := EP (t := q.t) hB hE7 hS hpI hpT hcn7 (by omega) p1 p2 p3 (by omega) (by omega);rw [hDov] at this
   have e : rJ S p.T q.b D = E := by rw [← hE]; unfold gp; rw [if_neg (by omega), if_pos hk]
   rwa [e] at this
  have c3 : q.b.kind = 3 → ah 60 #[cp r3, ep p.T p.c p.x p.k, nU q.b q.t] s7 (kZ s s7 r3 S tt sh B (bT [] A) (Wl.foldl cL []) E) := fun hk => by
   have := EM (b := q.b) (t := q.t) hB hE7 hS hAll hT6 hpI hpT (by omega) (by omega);rw [hDov] at this
   have e : rm S p.T q.b D = E := by rw [← hE]; unfold gp; rw [if_neg (by omega), if_neg (by omega), if_pos hk]
   rwa [e] at this
  have c4 : q.b.kind = 4 → ah 61 #[cp r3, ep p.T p.c p.x p.k, nU q.b q.t] s7 (kZ s s7 r3 S tt sh B (bT [] A) (Wl.foldl cL []) E) := fun hk => by
   have := EH (b := q.b) (t := q.t) hB hE7 hpI hpT (by omega);rw [hDov] at this
   have e : rD p.T q.b D = E := by rw [← hE]; unfold gp; rw [if_neg (by omega), if_neg (by omega), if_neg (by omega)]
   rwa [e] at this
  refine W.bp (fun z s' => ∃ (a2 : OA) (n2 c2 : Nat) (vs : List qv), z = (((none, 0, 0), (none, 0, 0), (none, 0, 0), ()), (some ⟨r3, 0, none⟩, ()), (⟨r4, 0, none⟩, ()), ((none, 0, 0), (none, 0, 0), (a, n, c), ()), ((i : Int), ()), (E.rep.n, (a2, n2, c2), ()), (E.err, ()), (b, ()), ((b.2.1 : Int), ()), ((i : Int), ()), ()) ∧ fQ s s' a2 n2 c2 E.rep.rows vs ∧ EJ s s' r3 S tt sh B (bT (bT [] A) E.asks) (E.ws.foldl cL (Wl.foldl cL [])) ∧ Kt s7 s') ?_ ?_
  ·rintro _ s8 ⟨a2, n2, c2, vs, rfl, hrp, hE8, hk8⟩;dsimp only;refine aC (fun e => ?_) fun e => ?_
   ·have e : E.err ≠ 0 := by simpa using e
    rw [if_pos e] at q1 q2;rw [← hR];refine ⟨hE8.md, ?_⟩;rw [if_neg (by rw [herr]; decide), if_pos (by rw [q1]; exact e), q1, q2]
   have e : ¬ E.err ≠ 0 := by simpa using e
   rw [if_neg e] at q1 q2 q3 q4 q5;dsimp only at q1 q2 q3 q4 q5;have hrp8 := hrp7.kt hk8 hE8.md;have hnl := hI.nl;refine hrp8.push (r := E.rep) (u := (a2, n2, c2)) hrp (by omega) fun a9 c9 s9 qs9 h9 m9 => ?_
   have hap : yS s8 (Fw.aW a) := fun g hg => by
    rcases hrp8.gw.row.shape with ⟨rfl, _⟩ | ⟨g', rfl⟩
    ·simp [Fw.aW] at hg
    ·simp [Fw.aW] at hg; subst hg;obtain ⟨cur, hc⟩ := hrp8.gw.row.ty rfl;exact ⟨cur, _, hc, by decide, by decide, by decide, by decide⟩
   have k84 : s8 r4 = some Ei := hk8 r4 _ _ k74 (by decide) (by decide);rw [aj (k := i) (by omega)]
   have hcast : ((i + 1 : Nat) : Int) = (i : Int) + 1 := by omega
   refine ⟨⟨i + 1, a9, n + 1, c9, rps ++ [E.rep], qs9, A ++ E.asks, Wl ++ E.ws, rfl, by omega, ⟨?_, m9.at k84 (hrp8.gw.off k84 (by decide)), h9, by omega, ?_, ?_, ?_, ?_, ?_, ?_, ?_, ?_, ?_⟩⟩, by simp only [Int.toNat_natCast]; omega⟩
   ·rw [cT, List.foldl_append]; exact hE8.keep m9 hrp8.gw.fr hap
   ·intro r hr;rcases List.mem_append.1 hr with hr | hr
    ·exact hI.rf r hr
    ·simp at hr; subst hr; exact hof.rep
   ·have := hof.asks; rw [List.length_append]; omega
   ·have := hof.ws; rw [List.length_append]; omega
   ·rw [cU, hD];have := (hcn.mono (show N0 + 9 * i ≤ N0 + 9 * i + 9 by omega)).apply hof.good
    rwa [show N0 + 9 * (i + 1) = N0 + 9 * i + 9 by omega]
   ·rw [cU, hD, hcast]; exact q1
   ·rw [cU, hD, hcast]; exact q2
   ·rw [cU, hD, hcast, List.append_assoc]; exact q3
   ·rw [cU, hD, hcast, List.append_assoc]; exact q4
   ·rw [cU, hD, hcast, List.append_assoc]; exact q5
  ·intro J hJ;have hlo := hrf.lo;have hhi := hrf.hi;have hw : i64.wrap (q.b.kind - 1) = q.b.kind - 1 := bQ (by omega) (by omega);rw [hw];refine bg ⟨by omega, by omega⟩ ?_
   have hfin : ∀ (y : Value) (s8 : PH), kZ s s7 r3 S tt sh B (bT [] A) (Wl.foldl cL []) E y s8 → ∃ x : bX [(true, [CT.int IntKind.i64, CT.slice]), (false, [CT.int IntKind.i64])], gI (true, [(true, [CT.int IntKind.i64, CT.slice]), (false, [CT.int IntKind.i64])]) x = y ∧ J (((none, 0, 0), (none, 0, 0), (none, 0, 0), ()), (some ⟨r3, 0, none⟩, ()), (⟨r4, 0, none⟩, ()), ((none, 0, 0), (none, 0, 0), (a, n, c), ()), ((i : Int), ()), (x.1.1, x.1.2.1, ()), (x.2.1.1, ()), (b, ()), ((b.2.1 : Int), ()), ((i : Int), ()), ()) s8 := by
    rintro y s8 ⟨ry, rfl, ⟨a2, n2, c2, vs, rfl, hrp⟩, hE8, hk8⟩;exact ⟨((E.rep.n, (a2, n2, c2), ()), (E.err, ()), ()), rfl, hJ _ _ ⟨a2, n2, c2, vs, rfl, hrp, hE8, hk8⟩⟩
   have hk4 : q.b.kind = 1 ∨ q.b.kind = 2 ∨ q.b.kind = 3 ∨ q.b.kind = 4 := by omega
   rcases hk4 with hk | hk | hk | hk
   ·have e0 : (q.b.kind - 1).toNat * 1 = 0 := by rw [hk]; (first | done | rfl)
    simp only [e0];refine (W.aA k74 _ _ _ _).2 ⟨(.func (.func 58) #[] #[], ()), rfl, ?_⟩;refine (W.mT _ _ _).2 ⟨?_, ?_⟩
    ·exact dh Tryz.func58 (by kernel_rfl) (by kernel_rfl) (c1 hk) hfin
    ·exact dh Tryz.func58 (by kernel_rfl) (by kernel_rfl) (c1 hk) hfin
   ·have e0 : (q.b.kind - 1).toNat * 1 = 1 := by rw [hk]; (first | done | rfl)
    simp only [e0];refine (W.aA k74 _ _ _ _).2 ⟨(.func (.func 59) #[] #[], ()), rfl, ?_⟩;refine (W.mT _ _ _).2 ⟨?_, ?_⟩
    ·exact dh Tryz.func59 (by kernel_rfl) (by kernel_rfl) (c2 hk) hfin
    ·exact dh Tryz.func59 (by kernel_rfl) (by kernel_rfl) (c2 hk) hfin
   ·have e0 : (q.b.kind - 1).toNat * 1 = 2 := by rw [hk]; (first | done | rfl)
    simp only [e0];refine (W.aA k74 _ _ _ _).2 ⟨(.func (.func 60) #[] #[], ()), rfl, ?_⟩;refine (W.mT _ _ _).2 ⟨?_, ?_⟩
    ·exact dh Tryz.func60 (by kernel_rfl) (by kernel_rfl) (c3 hk) hfin
    ·exact dh Tryz.func60 (by kernel_rfl) (by kernel_rfl) (c3 hk) hfin
   ·have e0 : (q.b.kind - 1).toNat * 1 = 3 := by rw [hk]; (first | done | rfl)
    simp only [e0];refine (W.aA k74 _ _ _ _).2 ⟨(.func (.func 61) #[] #[], ()), rfl, ?_⟩;refine (W.mT _ _ _).2 ⟨?_, ?_⟩
    ·exact dh Tryz.func61 (by kernel_rfl) (by kernel_rfl) (c4 hk) hfin
    ·exact dh Tryz.func61 (by kernel_rfl) (by kernel_rfl) (c4 hk) hfin
 -- all are done
 have e : ¬ (i : Int) < (b.2.1 : Int) := of_decide_eq_false e;rw [List.drop_of_length_le (by omega)] at q1 q2 q3 q4 q5;have q1 : (bZ S 0 L B).err = 0 := q1
 have q3 : (bZ S 0 L B).reps = rps := by rw [q3]; exact List.append_nil _
 have q4 : (bZ S 0 L B).asks = A := by rw [q4]; exact List.append_nil _
 have q5 : (bZ S 0 L B).ws = Wl := by rw [q5]; exact List.append_nil _
 obtain ⟨ov, hov⟩ : ∃ ov, Wl.foldl cL [] = ov := ⟨_, rfl⟩
 have hEJ := hI.ej;rw [hov] at hEJ hwl;obtain ⟨u, mb, mo, qs0, bs0, f0, hx6⟩ := hEJ.ei;simp only [cR, aV, Nat.zero_add];refine (W.aA hx6.aW _ _ _ _).2 ⟨(u, ()), rfl, ?_⟩;refine (W.aA hx6.aW _ _ _ _).2 ⟨(some mo, ()), rfl, ?_⟩;refine W.aq (Ks (some mo) s6) ?_;rintro _ s7 ⟨rk, hrk, rfl, hs7⟩;refine ⟨((_, ()), ()), rfl, ?_⟩
 have m67 : Fw.Mod [] s6 s7 := by rw [hs7]; exact Mod.new hrk
 have k7 : s7 rk = some (.cells #[.map (some mo)] 145 (0, 0)) := by rw [hs7, PH.bE]
 have hx7 := hx6.same m67
 have hfl : f0.length = ov.length := by have := hx6.omp.length_eq; rwa [List.length_map] at this
 have hkk : ∀ p ∈ f0, p.1.size ≤ maxLen := fun p hp => by
  have h1 := hx6.omk p hp;have h2 := (hEJ.sm p.2 ((hx6.omp.mem_iff).1 (List.mem_map_of_mem hp))).1;rw [h1]
  show p.2.key.size ≤ 9223372036854775807
  omega
 refine W.aq (GK k7 hx7.om hkk (by omega)) ?_;rintro _ s8 ⟨sa, sn, sc, rfl, hstr, m78, _⟩;refine ⟨(((sa, sn, sc), ()), ()), rfl, ?_⟩;have hx8 := hx7.same m78;rw [BT hEJ.cJ hx6.omk hx6.omp] at hstr
 have hsn : sn = ov.length := by rw [hstr.1, List.length_map]
 have m68 := m67.trans m78;have hrp8 := hI.rp.same m68;dsimp only
 refine ⟨fun z s' => ∃ (i : Nat) (va : OA) (vn vc : Nat), z = (((none, 0, 0), (none, 0, 0), (none, 0, 0), ()), (some ⟨r3, 0, none⟩, ()), (u, (va, vn, vc), (a, n, c), ()), ((sa, sn, sc), ()), ((sn : Int), ()), ((i : Int), ()), ()) ∧ i ≤ sn ∧ vn ≤ i ∧ Gw nT 79 s8 s' va vn vc (ov.take i),
  fun z _ => sn - z.2.2.2.2.2.1.1.toNat, ⟨0, none, 0, 0, rfl, Nat.zero_le _, Nat.le_refl _, Gw.nil (Mod.refl _ _)⟩, ?_⟩
 rintro _ s9 ⟨i2, va, vn, vc, rfl, hi2, hvn, hG9⟩;dsimp only;have hx9 := hx8.same hG9.md;refine aC (fun e => ?_) fun e => ?_
 ·have hlt : (i2 : Int) < (sn : Int) := of_decide_eq_true e
  obtain ⟨x, hx⟩ : ∃ x, ov[i2]? = some x := ⟨_, List.getElem?_eq_getElem (by omega)⟩
  refine bg ⟨Int.natCast_nonneg i2, hlt⟩ ?_;obtain ⟨_, ⟨_, _, hnil⟩ | ⟨g, cur, rfl, hg, hcur, _, _⟩⟩ := hstr
  ·rw [List.map_eq_nil_iff] at hnil;rw [hnil] at hx; simp at hx
  simp only [cR, Int.toNat_natCast, aV, Nat.zero_add, Nat.mul_one];have hg9 := hG9.md.at hg (by simp)
  have hci : cur[i2]? = some (.string x.key) := by
   have h1 : (cur.toList.take sn)[i2]? = some (.string x.key) := by rw [hcur, List.getElem?_map, List.getElem?_map, hx]; (first | done | rfl)
   rw [List.getElem?_take_of_lt (by omega)] at h1;rw [← Array.getElem?_toList]; exact h1
  refine Cf (A := ⟨g, i2, none⟩) (cs := [.str]) (y := (x.key, ())) (fun j v hv => ?_) ?_
  ·cases j with
   | zero =>
    have hv : some (Value.string x.key) = some v := hv;cases hv;rw [jx hg9 rfl];simpa using hci
   | succ j => have hv : (none : Option Value) = some v := hv; cases hv
  refine (W.aA hx9.aW _ _ _ _).2 ⟨(some mo, ()), rfl, ?_⟩;refine wA (ke := iQ) (ve := sY) hx9.om (key := x.key) ?_;rw [Dn hEJ.cJ hx6.omk hx6.omp (List.mem_of_getElem? hx)];refine ⟨(x.key, x.val, x.dead, ()), rfl, ?_⟩;refine hG9.push [x] (k := 1) rfl rfl rfl (by omega) (by omega) fun a3 c3 s3 h3 => ?_;rw [aj (k := i2) (by omega)];refine ⟨⟨i2 + 1, a3, vn + 1, c3, rfl, by omega, by omega, ?_⟩, by simp only [Int.toNat_natCast]; omega⟩;rw [List.take_add_one, hx]; exact h3
 ·have e : ¬ (i2 : Int) < (sn : Int) := of_decide_eq_false e;rw [List.take_of_length_le (by omega)] at hG9;have m69 := m68.trans hG9.md;rw [← hR];refine ⟨hI.ej.md.trans m69, ?_⟩;rw [if_neg (by rw [herr]; decide), if_neg (by rw [q1]; decide), q3, q4, q5, hov];refine ⟨u, (va, vn, vc), (a, n, c), rfl, ⟨⟨qs0, hx9.rd, hx9.rdq, hx9.seen⟩, hG9.since (hI.ej.md.trans m68), ⟨qs, hrp8.same hG9.md⟩, by omega⟩, ⟨by have h1 := hI.nl; have h2 := hI.rp.gw.row.len; have h3 := congrArg List.length hI.rp.eq; rw [List.length_map] at h3; omega, hI.rf, by rw [hov]; exact hEJ.sm, by rw [hov]; omega, by rw [hD]; exact hcn.mono (by omega)⟩⟩
end
end
section
variable {W : Type} (π : gv W)
open Fw.W
def sP (a : OA) (an ac : Nat) (b : OA) (bn bc : Nat) (ts : Int) : W :=
 π.nw (Obj.cells #[] 75 (0, 0)) fun r0 => π.app 75 3 40 [(.string ⟨#[]⟩), (.int .i64 0), (.string ⟨#[]⟩)] (some (Addr.mk r0 0 none)) 0 0 (Src.sl a an) fun a1 n2 c3 => π.loop [(false, [.slice]), (false, [.int .i64])] (((a1, n2, c3), ()), ((0 : Int), ()), ()) fun ((((a5 : OA), (n6 : Nat), (c7 : Nat)), _), ((x8 : Int), _), _) again4 => π.ite (decide (x8 < (↑bn : Int))) (π.loop [(false, [.slice]), (false, [.int .i64]), (false, [.slice]), (false, [.bool]), (false, [.int .i64])] (((a5, n6, c7), ()), (x8, ()), ((none, (0 : Nat), (0 : Nat)), ()), (false, ()), ((0 : Int), ()), ()) fun ((((a10 : OA), (n11 : Nat), (c12 : Nat)), _), ((x13 : Int), _), (((a14 : OA), (n15 : Nat), (c16 : Nat)), _), ((b17 : Bool), _), ((x18 : Int), _), _) again9 => π.ite (decide (x18 ≤ (↑n11 : Int))) (π.join [(false, [.slice]), (false, [.int .i64]), (false, [.slice]), (false, [.bool]), (false, [.int .i64])] (fun J19 => π.join [(false, [.slice]), (false, [.int .i64]), (false, [.slice]), (false, [.bool]), (false, [.int .i64]), (false, [.bool])] (fun J20 => π.ite (!b17) (π.ite (x18 == (↑n11 : Int)) (J20 (((a10, n11, c12), ()), (x13, ()), ((a14, n15, c16), ()), (b17, ()), (x18, ()), (true, ()), ())) (π.guard (0 ≤ x18 ∧ x18 < (↑n11 : Int)) <| π.aa a10 fun p21 => π.ld [.str] ((p21.add (x18.toNat * 3)).add 0) fun ((t22 : BA), _) => π.guard (0 ≤ x13 ∧ x13 < (↑bn : Int)) <| π.aa b fun p23 => π.ld [.str] ((p23.add (x13.toNat * 3)).add 0) fun ((t24 : BA), _) => π.bU 44 #[(.string t22), (.string t24)] (false, [(false, [.int .i64])]) fun (((x25 : Int), _), _) =>
 J20 (((a10, n11, c12), ()), (x13, ()), ((a14, n15, c16), ()), (b17, ()), (x18, ()), (decide (x25 ≥ 0), ()), ()))) (J20 (((a10, n11, c12), ()), (x13, ()), ((a14, n15, c16), ()), (b17, ()), (x18, ()), (false, ()), ()))) (fun ((((a26 : OA), (n27 : Nat), (c28 : Nat)), _), ((x29 : Int), _), (((a30 : OA), (n31 : Nat), (c32 : Nat)), _), ((b33 : Bool), _), ((x34 : Int), _), ((b35 : Bool), _), _) => π.ite b35 (π.guard (0 ≤ x29 ∧ x29 < (↑bn : Int)) <| π.aa b fun p36 => π.ld [.bool] ((p36.add (x29.toNat * 3)).add 2) fun ((b37 : Bool), _) => π.ite (!b37) (π.guard (0 ≤ x29 ∧ x29 < (↑bn : Int)) <| π.aa b fun p38 => π.ld [.str] ((p38.add (x29.toNat * 3)).add 0) fun ((t39 : BA), _) => π.guard (0 ≤ x29 ∧ x29 < (↑bn : Int)) <| π.aa b fun p40 => π.ld [.str] ((p40.add (x29.toNat * 3)).add 1) fun ((t41 : BA), _) => π.nw (Obj.cells #[(.string t39), (.int .i64 ts), (.string t41)] 75 (0, 0)) fun r42 => π.app 75 3 40 [(.string ⟨#[]⟩), (.int .i64 0), (.string ⟨#[]⟩)] a30 n31 c32 (Src.sl (some (Addr.mk r42 0 none)) 1) fun a43 n44 c45 => J19 (((a26, n27, c28), ()), (x29, ()), ((a43, n44, c45), ()), (true, ()), (x34, ()), ())) (J19 (((a26, n27, c28), ()), (x29, ()), ((a30, n31, c32), ()), (true, ()), (x34, ()), ()))) (J19 (((a26, n27, c28), ()), (x29, ()), ((a30, n31, c32), ()), (b33, ()), (x34, ()), ())))) (fun ((((a46 : OA), (n47 : Nat), (c48 : Nat)), _), ((x49 : Int), _), (((a50 : OA), (n51 : Nat), (c52 : Nat)), _), ((b53 : Bool), _), ((x54 : Int), _), _) =>
 π.ite (decide (x54 < (↑n47 : Int))) (π.guard (0 ≤ x54 ∧ x54 < (↑n47 : Int)) <| π.aa a46 fun p55 => π.ld [.str] ((p55.add (x54.toNat * 3)).add 0) fun ((t56 : BA), _) => π.guard (0 ≤ x49 ∧ x49 < (↑bn : Int)) <| π.aa b fun p57 => π.ld [.str] ((p57.add (x49.toNat * 3)).add 0) fun ((t58 : BA), _) => π.ite (!t56.toList == t58.toList) (π.guard (0 ≤ x54 ∧ x54 < (↑n47 : Int)) <| π.aa a46 fun p59 => π.ld [.str, .int .i64, .str] (p59.add (x54.toNat * 3)) fun ((t60 : BA), (x61 : Int), (t62 : BA), _) => π.nw (Obj.cells #[(.string t60), (.int .i64 x61), (.string t62)] 75 (0, 0)) fun r63 => π.app 75 3 40 [(.string ⟨#[]⟩), (.int .i64 0), (.string ⟨#[]⟩)] a50 n51 c52 (Src.sl (some (Addr.mk r63 0 none)) 1) fun a64 n65 c66 => again9 (((a46, n47, c48), ()), (x49, ()), ((a64, n65, c66), ()), (b53, ()), (i64.wrap (x54 + 1), ()), ())) (again9 (((a46, n47, c48), ()), (x49, ()), ((a50, n51, c52), ()), (b53, ()), (i64.wrap (x54 + 1), ()), ()))) (again9 (((a46, n47, c48), ()), (x49, ()), ((a50, n51, c52), ()), (b53, ()), (i64.wrap (x54 + 1), ()), ())))) (again4 (((a14, n15, c16), ()), (i64.wrap (x13 + 1), ()), ()))) (π.ret (.slice a5 n6 c7))
theorem BG (a : OA) (an ac : Nat) (b : OA) (bn bc : Nat) (ts : Int) : OK 21 [.v (.slice a an ac), .v (.slice b bn bc), .v (.int .i64 ts)] fun _ π => sP π a an ac b bn bc ts :=
 aZ {} { draws := [(10, { A := [0, 1, 2, 3, 4, 5, 6, 7, 8, 9, 10, 11, 12, 13, 14, 15, 16, 17, 18, 19, 20, 21], quiet := [18] }), (13, { A := [0, 1, 2, 3, 4, 5, 6, 7, 8, 9, 10, 11, 12] }), (14, { A := [0, 1, 2, 3, 4, 5, 6, 7, 8, 9, 10, 11, 12, 13, 14, 15, 16] })], join := [(11, [(7, 65), (8, 3), (9, 65), (10, 4), (11, 3), (48, 4)]), (14, [(7, 65), (8, 3), (9, 65), (10, 4), (11, 3)])], loop := [(3, [(7, 65), (8, 3)]), (8, [(7, 65), (8, 3), (9, 65), (10, 4), (11, 3)])] } [] Tryz.func21 Tryz.ntmps21 rfl (by kernel_rfl) fun _ π => by kernel_rfl
def yc (sv sl : Int) (sa : OA) (san sac : Nat) (b : OA) (bn bc : Nat) : W :=
 π.loop [(true, [.int .i64, .int .i64, .slice]), (false, [.slice]), (false, [.int .i64])] ((sv, sl, (sa, san, sac), ()), ((none, (0 : Nat), (0 : Nat)), ()), ((0 : Int), ()), ()) fun (((x1 : Int), (x2 : Int), ((a3 : OA), (n4 : Nat), (c5 : Nat)), _), (((a6 : OA), (n7 : Nat), (c8 : Nat)), _), ((x9 : Int), _), _) again0 => π.ite (decide (x9 < (↑n4 : Int))) (π.guard (0 ≤ x9 ∧ x9 < (↑n4 : Int)) <| π.aa a3 fun p10 => π.ld [.int .i64, .str, .slice, .slice, .slice] (p10.add (x9.toNat * 5)) fun ((x11 : Int), (t12 : BA), ((a13 : OA), (n14 : Nat), (c15 : Nat)), ((a16 : OA), (n17 : Nat), (c18 : Nat)), ((a19 : OA), (n20 : Nat), (c21 : Nat)), _) => π.bU 30 #[(.int .i64 0)] (false, [(true, [.int .i64, .int .i64, .str])]) fun (((x22 : Int), (x23 : Int), (t24 : BA), _), _) => π.bU 30 #[(.int .i64 x11)] (false, [(true, [.int .i64, .int .i64, .str])]) fun (((x25 : Int), (x26 : Int), (t27 : BA), _), _) => π.nw (Obj.cells #[(.int .i64 x22), (.int .i64 x23), (.string t24), (.int .i64 x25), (.int .i64 x26), (.string t27)] 28 (0, 0)) fun r28 => π.call 78 #[(.slice (some (Addr.mk r28 0 none)) 2 2)] (false, [(true, [.str, .str])]) fun (((t29 : BA), (t30 : BA), _), _) => π.call 77 #[(.slice b bn bc), (.agg #[(.string t29), (.string t30)])] (false, [(false, [.slice])]) fun ((((a31 : OA), (n32 : Nat), (c33 : Nat)), _), _) => π.loop [(true, [.int .i64, .int .i64, .slice]), (false, [.slice]), (false, [.int .i64]), (true, [.int .i64, .str, .slice, .slice, .slice]), (false, [.slice]), (false, [.int .i64])] ((x1, x2, (a3, n4, c5), ()), ((a6, n7, c8), ()), (x9, ()), (x11, t12, (a13, n14, c15), (a16, n17, c18), (a19, n20, c21), ()), ((a31, n32, c33), ()), ((0 : Int), ()), ()) fun (((x35 : Int), (x36 : Int), ((a37 : OA), (n38 : Nat), (c39 : Nat)), _), (((a40 : OA), (n41 : Nat), (c42 : Nat)), _), ((x43 : Int), _), ((x44 : Int), (t45 : BA), ((a46 : OA), (n47 : Nat), (c48 : Nat)), ((a49 : OA), (n50 : Nat), (c51 : Nat)), ((a52 : OA), (n53 : Nat), (c54 : Nat)), _), (((a55 : OA), (n56 : Nat), (c57 : Nat)), _), ((x58 : Int), _), _) again34 =>
 π.ite (decide (x58 < (↑n56 : Int))) (π.guard (0 ≤ x58 ∧ x58 < (↑n56 : Int)) <| π.aa a55 fun p59 => π.ld [.str] ((p59.add (x58.toNat * 3)).add 2) fun ((t60 : BA), _) => π.call 79 #[(.string t60)] (true, [(false, [.slice]), (false, [.int .i64])]) fun ((((a61 : OA), (n62 : Nat), (c63 : Nat)), _), ((x64 : Int), _), _) => π.join [(true, [.int .i64, .int .i64, .slice]), (false, [.slice]), (false, [.int .i64]), (true, [.int .i64, .str, .slice, .slice, .slice]), (false, [.slice]), (false, [.int .i64]), (false, [.slice])] (fun J65 => π.ite (x64 != 0) (again34 ((x35, x36, (a37, n38, c39), ()), ((a40, n41, c42), ()), (x43, ()), (x44, t45, (a46, n47, c48), (a49, n50, c51), (a52, n53, c54), ()), ((a55, n56, c57), ()), (i64.wrap (x58 + 1), ()), ())) (π.ite ((↑n62 : Int) == 0) (again34 ((x35, x36, (a37, n38, c39), ()), ((a40, n41, c42), ()), (x43, ()), (x44, t45, (a46, n47, c48), (a49, n50, c51), (a52, n53, c54), ()), ((a55, n56, c57), ()), (i64.wrap (x58 + 1), ()), ())) (π.guard ((0 : Int) ≤ 0 ∧ 0 < (↑n47 : Int)) <| π.aa a46 fun p66 => π.ld [.int .i64] ((p66.add 0).add 0) fun ((x67 : Int), _) => π.bU 80 #[(.slice a61 n62 c63), (.int .i64 x67)] (false, [(true, [.int .i64, .int .i64, .str])]) fun (((x68 : Int), (x69 : Int), (t70 : BA), _), _) => π.bU 31 #[(.int .i64 x44), (.agg #[(.int .i64 x68), (.int .i64 x69), (.string t70)])] (false, [(false, [.str])]) fun (((t71 : BA), _), _) => π.guard (0 ≤ x58 ∧ x58 < (↑n56 : Int)) <| π.aa a55 fun p72 =>
 π.ld [.str] ((p72.add (x58.toNat * 3)).add 0) fun ((t73 : BA), _) => π.ite (!t71.toList == t73.toList) (again34 ((x35, x36, (a37, n38, c39), ()), ((a40, n41, c42), ()), (x43, ()), (x44, t45, (a46, n47, c48), (a49, n50, c51), (a52, n53, c54), ()), ((a55, n56, c57), ()), (i64.wrap (x58 + 1), ()), ())) (J65 ((x35, x36, (a37, n38, c39), ()), ((a40, n41, c42), ()), (x43, ()), (x44, t45, (a46, n47, c48), (a49, n50, c51), (a52, n53, c54), ()), ((a55, n56, c57), ()), (x58, ()), ((a61, n62, c63), ()), ()))))) (fun (((x74 : Int), (x75 : Int), ((a76 : OA), (n77 : Nat), (c78 : Nat)), _), (((a79 : OA), (n80 : Nat), (c81 : Nat)), _), ((x82 : Int), _), ((x83 : Int), (t84 : BA), ((a85 : OA), (n86 : Nat), (c87 : Nat)), ((a88 : OA), (n89 : Nat), (c90 : Nat)), ((a91 : OA), (n92 : Nat), (c93 : Nat)), _), (((a94 : OA), (n95 : Nat), (c96 : Nat)), _), ((x97 : Int), _), (((a98 : OA), (n99 : Nat), (c100 : Nat)), _), _) => π.guard (0 ≤ x97 ∧ x97 < (↑n95 : Int)) <| π.aa a94 fun p101 => π.ld [.str] ((p101.add (x97.toNat * 3)).add 0) fun ((t102 : BA), _) => π.guard (0 ≤ x97 ∧ x97 < (↑n95 : Int)) <| π.aa a94 fun p103 => π.ld [.str] ((p103.add (x97.toNat * 3)).add 2) fun ((t104 : BA), _) => π.guard (0 ≤ x97 ∧ x97 < (↑n95 : Int)) <| π.aa a94 fun p105 => π.ld [.int .i64] ((p105.add (x97.toNat * 3)).add 1) fun ((x106 : Int), _) => π.nw (Obj.cells #[(.string t102), (.string t104), (.bool false)] 79 (0, 0)) fun r107 =>
 π.call 21 #[(.slice a79 n80 c81), (.slice (some (Addr.mk r107 0 none)) 1 1), (.int .i64 x106)] (false, [(false, [.slice])]) fun ((((a108 : OA), (n109 : Nat), (c110 : Nat)), _), _) => π.loop [(true, [.int .i64, .int .i64, .slice]), (false, [.slice]), (false, [.int .i64]), (true, [.int .i64, .str, .slice, .slice, .slice]), (false, [.slice]), (false, [.int .i64]), (false, [.slice]), (false, [.int .i64])] ((x74, x75, (a76, n77, c78), ()), ((a108, n109, c110), ()), (x82, ()), (x83, t84, (a85, n86, c87), (a88, n89, c90), (a91, n92, c93), ()), ((a94, n95, c96), ()), (x97, ()), ((a98, n99, c100), ()), ((0 : Int), ()), ()) fun (((x112 : Int), (x113 : Int), ((a114 : OA), (n115 : Nat), (c116 : Nat)), _), (((a117 : OA), (n118 : Nat), (c119 : Nat)), _), ((x120 : Int), _), ((x121 : Int), (t122 : BA), ((a123 : OA), (n124 : Nat), (c125 : Nat)), ((a126 : OA), (n127 : Nat), (c128 : Nat)), ((a129 : OA), (n130 : Nat), (c131 : Nat)), _), (((a132 : OA), (n133 : Nat), (c134 : Nat)), _), ((x135 : Int), _), (((a136 : OA), (n137 : Nat), (c138 : Nat)), _), ((x139 : Int), _), _) again111 => π.ite (decide (x139 < (↑n127 : Int))) (π.guard (0 ≤ x139 ∧ x139 < (↑n127 : Int)) <| π.aa a126 fun p140 => π.ld [.int .i64, .str, .int .i64, .bool, .int .i64] (p140.add (x139.toNat * 5)) fun ((x141 : Int), (t142 : BA), (x143 : Int), (b144 : Bool), (x145 : Int), _) => π.ite (decide (x145 ≥ 2)) (π.bU 80 #[(.slice a136 n137 c138), (.int .i64 x143)] (false, [(true, [.int .i64, .int .i64, .str])]) fun (((x146 : Int), (x147 : Int), (t148 : BA), _), _) =>
 π.guard ((0 : Int) ≤ 0 ∧ 0 < (↑n124 : Int)) <| π.aa a123 fun p149 => π.ld [.int .i64] ((p149.add 0).add 0) fun ((x150 : Int), _) => π.bU 80 #[(.slice a136 n137 c138), (.int .i64 x150)] (false, [(true, [.int .i64, .int .i64, .str])]) fun (((x151 : Int), (x152 : Int), (t153 : BA), _), _) => π.bU 81 #[(.int .i64 x141), (.agg #[(.int .i64 x146), (.int .i64 x147), (.string t148)]), (.agg #[(.int .i64 x151), (.int .i64 x152), (.string t153)])] (false, [(false, [.str])]) fun (((t154 : BA), _), _) => π.guard (0 ≤ x135 ∧ x135 < (↑n133 : Int)) <| π.aa a132 fun p155 => π.ld [.int .i64] ((p155.add (x135.toNat * 3)).add 1) fun ((x156 : Int), _) => π.nw (Obj.cells #[(.string t154), (.string ⟨#[]⟩), (.bool false)] 79 (0, 0)) fun r157 => π.call 21 #[(.slice a117 n118 c119), (.slice (some (Addr.mk r157 0 none)) 1 1), (.int .i64 x156)] (false, [(false, [.slice])]) fun ((((a158 : OA), (n159 : Nat), (c160 : Nat)), _), _) => again111 ((x112, x113, (a114, n115, c116), ()), ((a158, n159, c160), ()), (x120, ()), (x121, t122, (a123, n124, c125), (a126, n127, c128), (a129, n130, c131), ()), ((a132, n133, c134), ()), (x135, ()), ((a136, n137, c138), ()), (i64.wrap (x139 + 1), ()), ())) (again111 ((x112, x113, (a114, n115, c116), ()), ((a117, n118, c119), ()), (x120, ()), (x121, t122, (a123, n124, c125), (a126, n127, c128), (a129, n130, c131), ()), ((a132, n133, c134), ()), (x135, ()), ((a136, n137, c138), ()), (i64.wrap (x139 + 1), ()), ()))) (again34 ((x112, x113, (a114, n115, c116), ()), ((a117, n118, c119), ()), (x120, ()), (x121, t122, (a123, n124, c125), (a126, n127, c128), (a129, n130, c131), ()), ((a132, n133, c134), ()), (i64.wrap (x135 + 1), ()), ())))) (again0 ((x35, x36, (a37, n38, c39), ()), ((a40, n41, c42), ()), (i64.wrap (x43 + 1), ()), ()))) (π.ret (.slice a6 n7 c8))
theorem Fx (sv sl : Int) (sa : OA) (san sac : Nat) (b : OA) (bn bc : Nat) : OK 24 [.v (.agg #[.int .i64 sv, .int .i64 sl, .slice sa san sac]), .v (.slice b bn bc)] fun _ π => yc π sv sl sa san sac b bn bc :=
 aZ { ptr := [(2, 2, 0), (7, 7, 0), (13, 13, 0), (15, 2, 2), (21, 2, 2), (28, 7, 0), (57, 7, 0), (60, 7, 2), (94, 7, 3), (100, 7, 3), (105, 13, 4), (109, 13, 0), (112, 13, 2), (116, 7, 2)], ty := [(2, 43), (7, 139), (13, 170)] } { draws := [(6, { A := [0, 1, 2, 3, 4], quiet := [1, 4], eag := [8] }), (11, { A := [0, 1, 2, 3, 4, 5, 6, 7, 8, 9, 10, 11, 12, 13, 14, 15, 16, 17, 18, 19, 20, 21, 22, 23, 24], quiet := [16, 17] }), (12, { A := [0, 1, 2, 3, 4, 5, 6, 7, 8, 9, 10, 11, 13, 14, 15, 16, 17] }), (18, { A := [0, 1, 2, 3, 4, 5, 6, 7, 8, 9, 10, 11, 12, 13, 14, 15, 17, 18, 19, 20, 21], quiet := [6, 13, 14] })], join := [(12, [(2, 43), (5, 65), (6, 3), (7, 139), (8, 65), (9, 3), (10, 95)])], loop := [(3, [(2, 43), (5, 65), (6, 3)]), (8, [(2, 43), (5, 65), (6, 3), (7, 139), (8, 65), (9, 3)]), (14, [(2, 43), (5, 65), (6, 3), (7, 139), (8, 65), (9, 3), (10, 95), (12, 3)])] } [] Tryz.func24 Tryz.ntmps24 rfl (by kernel_rfl) fun _ π => by kernel_rfl
def A9 (a : OA) (an ac : Nat) : W :=
 π.loop [(false, [.slice]), (false, [.slice]), (false, [.int .i64]), (false, [.int .i64])] (((none, (0 : Nat), (0 : Nat)), ()), ((a, an, ac), ()), ((↑an : Int), ()), ((0 : Int), ()), ()) fun ((((a1 : OA), (n2 : Nat), (c3 : Nat)), _), (((a4 : OA), (n5 : Nat), (c6 : Nat)), _), ((x7 : Int), _), ((x8 : Int), _), _) again0 => π.ite (decide (x8 < x7)) (π.guard (0 ≤ x8 ∧ x8 < (↑n5 : Int)) <| π.aa a4 fun p9 => π.ld [.str, .int .i64, .str] (p9.add (x8.toNat * 3)) fun ((t10 : BA), (x11 : Int), (t12 : BA), _) => π.ite ((↑n2 : Int) == 0) (π.nw (Obj.cells #[(.string t10), (.int .i64 x11), (.string t12)] 75 (0, 0)) fun r13 => π.app 75 3 40 [(.string ⟨#[]⟩), (.int .i64 0), (.string ⟨#[]⟩)] a1 n2 c3 (Src.sl (some (Addr.mk r13 0 none)) 1) fun a14 n15 c16 => again0 (((a14, n15, c16), ()), ((a4, n5, c6), ()), (x7, ()), (i64.wrap (x8 + 1), ()), ())) (π.guard (0 ≤ i64.wrap ((↑n2 : Int) - 1) ∧ i64.wrap ((↑n2 : Int) - 1) < (↑n2 : Int)) <| π.aa a1 fun p17 => π.ld [.str] ((p17.add ((i64.wrap ((↑n2 : Int) - 1)).toNat * 3)).add 0) fun ((t18 : BA), _) => π.bU 44 #[(.string t18), (.string t10)] (false, [(false, [.int .i64])]) fun (((x19 : Int), _), _) => π.ite (decide (x19 < 0)) (π.nw (Obj.cells #[(.string t10), (.int .i64 x11), (.string t12)] 75 (0, 0)) fun r20 => π.app 75 3 40 [(.string ⟨#[]⟩), (.int .i64 0), (.string ⟨#[]⟩)] a1 n2 c3 (Src.sl (some (Addr.mk r20 0 none)) 1) fun a21 n22 c23 => again0 (((a21, n22, c23), ()), ((a4, n5, c6), ()), (x7, ()), (i64.wrap (x8 + 1), ()), ())) (again0 (((a1, n2, c3), ()), ((a4, n5, c6), ()), (x7, ()), (i64.wrap (x8 + 1), ()), ())))) (π.ret (.slice a1 n2 c3))
theorem HG (a : OA) (an ac : Nat) : OK 18 [.v (.slice a an ac)] fun _ π => A9 π a an ac :=
 aZ { ptr := [(5, 5, 0), (23, 5, 0)], ty := [(5, 75)] } { draws := [(5, { A := [0, 1, 2, 3, 4, 5, 6, 7, 8, 9, 10, 11, 12, 13, 14, 15], quiet := [13] })], loop := [(3, [(3, 65), (6, 65), (7, 3), (8, 3)])] } [] Tryz.func18 Tryz.ntmps18 rfl (by kernel_rfl) fun _ π => by kernel_rfl
def xV (sv sl : Int) (sa : OA) (san sac : Nat) (a : OA) (an ac : Nat) (b : OA) (bn bc : Nat) : W :=
 π.loop [(false, [.int .i64]), (false, [.slice]), (false, [.int .i64]), (false, [.int .i64])] ((i64.wrap (i64.wrap ((↑san : Int) + (↑an : Int)) + (↑bn : Int)), ()), ((sa, san, sac), ()), ((↑san : Int), ()), ((0 : Int), ()), ()) fun (((x1 : Int), _), (((a2 : OA), (n3 : Nat), (c4 : Nat)), _), ((x5 : Int), _), ((x6 : Int), _), _) again0 => π.ite (decide (x6 < x5)) (π.guard (0 ≤ x6 ∧ x6 < (↑n3 : Int)) <| π.aa a2 fun p7 => π.ld [.int .i64, .str, .slice, .slice, .slice] (p7.add (x6.toNat * 5)) fun ((x8 : Int), (t9 : BA), ((a10 : OA), (n11 : Nat), (c12 : Nat)), ((a13 : OA), (n14 : Nat), (c15 : Nat)), ((a16 : OA), (n17 : Nat), (c18 : Nat)), _) => π.ite (decide (i64.wrap (x1 + i64.wrap (i64.wrap ((↑n11 : Int) + (↑n14 : Int)) + (↑n17 : Int))) > 400)) (π.ret (.bool true)) (again0 ((i64.wrap (x1 + i64.wrap (i64.wrap ((↑n11 : Int) + (↑n14 : Int)) + (↑n17 : Int))), ()), ((a2, n3, c4), ()), (x5, ()), (i64.wrap (x6 + 1), ()), ()))) (π.loop [(false, [.int .i64]), (false, [.slice]), (false, [.int .i64]), (false, [.int .i64])] ((x1, ()), ((a, an, ac), ()), ((↑an : Int), ()), ((0 : Int), ()), ()) fun (((x20 : Int), _), (((a21 : OA), (n22 : Nat), (c23 : Nat)), _), ((x24 : Int), _), ((x25 : Int), _), _) again19 => π.ite (decide (x25 < x24)) (π.guard (0 ≤ x25 ∧ x25 < (↑n22 : Int)) <| π.aa a21 fun p26 => π.ld [.int .i64, .int .i64, .slice, .int .i64, .int .i64, .int .i64, .str, .int .i64, .int .i64, .int .i64, .str] (p26.add (x25.toNat * 11)) fun ((x27 : Int), (x28 : Int), ((a29 : OA), (n30 : Nat), (c31 : Nat)), (x32 : Int), (x33 : Int), (x34 : Int), (t35 : BA), (x36 : Int), (x37 : Int), (x38 : Int), (t39 : BA), _) =>
 π.ite (decide (i64.wrap (x20 + (↑n30 : Int)) > 400)) (π.ret (.bool true)) (again19 ((i64.wrap (x20 + (↑n30 : Int)), ()), ((a21, n22, c23), ()), (x24, ()), (i64.wrap (x25 + 1), ()), ()))) (π.loop [(false, [.int .i64]), (false, [.slice]), (false, [.int .i64]), (false, [.int .i64])] ((x20, ()), ((b, bn, bc), ()), ((↑bn : Int), ()), ((0 : Int), ()), ()) fun (((x41 : Int), _), (((a42 : OA), (n43 : Nat), (c44 : Nat)), _), ((x45 : Int), _), ((x46 : Int), _), _) again40 => π.ite (decide (x46 < x45)) (π.guard (0 ≤ x46 ∧ x46 < (↑n43 : Int)) <| π.aa a42 fun p47 => π.ld [.str, .int .i64, .str] (p47.add (x46.toNat * 3)) fun ((t48 : BA), (x49 : Int), (t50 : BA), _) => π.ite (decide ((↑t50.size : Int) > 1000)) (π.ret (.bool true)) (again40 ((x41, ()), ((a42, n43, c44), ()), (x45, ()), (i64.wrap (x46 + 1), ()), ()))) (π.ite (decide (x41 > 400)) (π.ret (.bool true)) (π.ret (.bool (decide ((↑an : Int) > 12)))))))
theorem Fo (sv sl : Int) (sa : OA) (san sac : Nat) (a : OA) (an ac : Nat) (b : OA) (bn bc : Nat) : OK 17 [.v (.agg #[.int .i64 sv, .int .i64 sl, .slice sa san sac]), .v (.slice a an ac), .v (.slice b bn bc)] fun _ π => xV π sv sl sa san sac a an ac b bn bc :=
 aZ { ptr := [(3, 3, 0), (9, 9, 0), (11, 11, 0), (13, 13, 0), (14, 3, 2), (23, 3, 2), (31, 9, 2), (34, 9, 3), (38, 9, 4), (53, 11, 2), (66, 13, 2)], ty := [(3, 43), (9, 139), (11, 127), (13, 75)] } { loop := [(3, [(7, 3), (24, 41), (25, 3), (26, 3)]), (10, [(7, 3), (46, 64), (47, 3), (48, 3)]), (17, [(7, 3), (60, 65), (61, 3), (62, 3)])] } [] Tryz.func17 Tryz.ntmps17 rfl (by kernel_rfl) fun _ π => by kernel_rfl
def xU : W :=
 π.call 28 #[] (false, [(true, [.int .i64, .str, .str, .str, .str, .bool, .int .i64, .int .i64, .int .i64, .str, .slice])]) fun (((x0 : Int), (t1 : BA), (t2 : BA), (t3 : BA), (t4 : BA), (b5 : Bool), (x6 : Int), (x7 : Int), (x8 : Int), (t9 : BA), ((a10 : OA), (n11 : Nat), (c12 : Nat)), _), _) => π.call 27 #[(.agg #[(.int .i64 0), (.int .i64 0), (.slice none 0 0)]), (.agg #[(.int .i64 x0), (.string t1), (.string t2), (.string t3), (.string t4), (.bool b5), (.int .i64 x6), (.int .i64 x7), (.int .i64 x8), (.string t9), (.slice a10 n11 c12)]), (.int .i64 3)] (true, [(true, [.int .i64, .int .i64, .slice]), (false, [.int .i64])]) fun (((x13 : Int), (x14 : Int), ((a15 : OA), (n16 : Nat), (c17 : Nat)), _), ((x18 : Int), _), _) => π.call 30 #[(.int .i64 5)] (false, [(true, [.int .i64, .int .i64, .str])]) fun (((x19 : Int), (x20 : Int), (t21 : BA), _), _) => π.nw (Obj.cells #[(.int .i64 x19), (.int .i64 x20), (.string t21), (.int .i64 2), (.int .i64 0), (.string (ByteArray.mk #[(120 : UInt8)]))] 28 (0, 0)) fun r22 => π.nw (Obj.cells #[(.int .i64 1), (.int .i64 1), (.slice (some (Addr.mk r22 0 none)) 2 2), (.int .i64 0), (.int .i64 0), (.int .i64 0), (.string ⟨#[]⟩), (.int .i64 0), (.int .i64 0), (.int .i64 0), (.string ⟨#[]⟩)] 127 (0, 0)) fun r23 => π.call 19 #[(.agg #[(.int .i64 x13), (.int .i64 x14), (.slice a15 n16 c17)]), (.slice (some (Addr.mk r23 0 none)) 1 1), (Value.iface (73 : Nat) (.slice none 0 0))] (true, [(true, [.slice, .slice, .slice]), (false, [.int .i64]), (false, [.int .i64])]) fun ((((a24 : OA), (n25 : Nat), (c26 : Nat)), ((a27 : OA), (n28 : Nat), (c29 : Nat)), ((a30 : OA), (n31 : Nat), (c32 : Nat)), _), ((x33 : Int), _), ((x34 : Int), _), _) =>
 π.nw (Obj.cells #[(.int .i64 1), (.int .i64 1), (.slice (some (Addr.mk r22 0 none)) 2 2), (.int .i64 0), (.int .i64 0), (.int .i64 0), (.string ⟨#[]⟩), (.int .i64 0), (.int .i64 0), (.int .i64 0), (.string ⟨#[]⟩), (.int .i64 1), (.int .i64 1), (.slice (some (Addr.mk r22 0 none)) 2 2), (.int .i64 0), (.int .i64 0), (.int .i64 0), (.string ⟨#[]⟩), (.int .i64 0), (.int .i64 0), (.int .i64 0), (.string ⟨#[]⟩)] 127 (0, 0)) fun r35 => π.call 19 #[(.agg #[(.int .i64 x13), (.int .i64 x14), (.slice a15 n16 c17)]), (.slice (some (Addr.mk r35 0 none)) 2 2), (Value.iface (73 : Nat) (.slice none 0 0))] (true, [(true, [.slice, .slice, .slice]), (false, [.int .i64]), (false, [.int .i64])]) fun ((((a36 : OA), (n37 : Nat), (c38 : Nat)), ((a39 : OA), (n40 : Nat), (c41 : Nat)), ((a42 : OA), (n43 : Nat), (c44 : Nat)), _), ((x45 : Int), _), ((x46 : Int), _), _) => π.ite (x34 == 0) (π.ite ((↑n25 : Int) == 1) (π.guard ((0 : Int) ≤ 0 ∧ 0 < (↑n25 : Int)) <| π.aa a24 fun p47 => π.ld [.slice] ((p47.add 0).add 2) fun (((a48 : OA), (n49 : Nat), (c50 : Nat)), _) => π.ite ((↑n49 : Int) == 0) (π.ite ((↑n28 : Int) == 1) (π.guard ((0 : Int) ≤ 0 ∧ 0 < (↑n28 : Int)) <| π.aa a27 fun p51 => π.ld [.str] ((p51.add 0).add 0) fun ((t52 : BA), _) => π.bU 30 #[(.int .i64 5)] (false, [(true, [.int .i64, .int .i64, .str])]) fun (((x53 : Int), (x54 : Int), (t55 : BA), _), _) => π.bU 31 #[(.int .i64 1), (.agg #[(.int .i64 x53), (.int .i64 x54), (.string t55)])] (false, [(false, [.str])]) fun (((t56 : BA), _), _) =>
 π.ite (t52.toList == t56.toList) (π.ite ((↑n31 : Int) == 1) (π.guard ((0 : Int) ≤ 0 ∧ 0 < (↑n31 : Int)) <| π.aa a30 fun p57 => π.ld [.int .i64] ((p57.add 0).add 0) fun ((x58 : Int), _) => π.ite (x58 == 1) (π.ite (x45 == 1) (π.ite (x46 == 210) (π.ret (.bool true)) (π.ret (.bool false))) (π.ret (.bool false))) (π.ret (.bool false))) (π.ret (.bool false))) (π.ret (.bool false))) (π.ret (.bool false))) (π.ret (.bool false))) (π.ret (.bool false))) (π.ret (.bool false))
theorem Fm : OK 16 [] fun _ π => xU π :=
 aZ { ptr := [(1, 1, 0), (3, 3, 0), (4, 4, 0), (7, 7, 0), (42, 4, 0), (48, 4, 0), (57, 4, 1), (63, 4, 1), (73, 4, 2), (79, 4, 2)], ty := [(1, 43), (3, 127), (4, 70), (7, 70)] } { draws := [(5, { A := [0, 1, 2, 3, 4, 5, 6, 7, 8, 9, 10, 11, 12, 13, 14, 15, 16, 17, 18, 19, 20, 21, 22, 23, 24, 25, 26, 27, 28, 29, 30, 31, 32, 33, 34, 35, 36, 37, 38, 39, 40, 41, 42, 43, 44, 45, 46, 47, 48, 49, 50, 51, 52, 53, 54, 55, 56, 57, 58, 59, 60, 61, 62, 63], quiet := [29, 30] })],  } [] Tryz.func16 Tryz.ntmps16 rfl (by kernel_rfl) fun _ π => by kernel_rfl
def sN (sv sl : Int) (sa : OA) (san sac : Nat) (a : OA) (an ac : Nat) (b : OA) (bn bc : Nat) : W :=
 π.join [(true, [.int .i64, .int .i64, .slice])] (fun J0 => π.call 16 #[] (false, [(false, [.bool])]) fun (((b1 : Bool), _), _) => π.ite (!b1) (π.call 16 #[] (false, [(false, [.bool])]) fun (((b2 : Bool), _), _) => π.ret (.bool b2)) (π.call 17 #[(.agg #[(.int .i64 sv), (.int .i64 sl), (.slice sa san sac)]), (.slice a an ac), (.slice b bn bc)] (false, [(false, [.bool])]) fun (((b3 : Bool), _), _) => π.ite b3 (π.call 16 #[] (false, [(false, [.bool])]) fun (((b4 : Bool), _), _) => π.ret (.bool b4)) (π.call 23 #[(.agg #[(.int .i64 sv), (.int .i64 sl), (.slice sa san sac)])] (false, [(false, [.bool])]) fun (((b5 : Bool), _), _) => π.ite (!b5) (π.call 16 #[] (false, [(false, [.bool])]) fun (((b6 : Bool), _), _) => π.ret (.bool b6)) (J0 ((sv, sl, (sa, san, sac), ()), ()))))) (fun (((x7 : Int), (x8 : Int), ((a9 : OA), (n10 : Nat), (c11 : Nat)), _), _) => π.call 18 #[(.slice b bn bc)] (false, [(false, [.slice])]) fun ((((a12 : OA), (n13 : Nat), (c14 : Nat)), _), _) => π.call 24 #[(.agg #[(.int .i64 x7), (.int .i64 x8), (.slice a9 n10 c11)]), (.slice a12 n13 c14)] (false, [(false, [.slice])]) fun ((((a15 : OA), (n16 : Nat), (c17 : Nat)), _), _) => π.call 19 #[(.agg #[(.int .i64 x7), (.int .i64 x8), (.slice a9 n10 c11)]), (.slice a an ac), (Value.iface (73 : Nat) (.slice a15 n16 c17))] (true, [(true, [.slice, .slice, .slice]), (false, [.int .i64]), (false, [.int .i64])]) fun ((((a18 : OA), (n19 : Nat), (c20 : Nat)), ((a21 : OA), (n22 : Nat), (c23 : Nat)), ((a24 : OA), (n25 : Nat), (c26 : Nat)), _), ((x27 : Int), _), ((x28 : Int), _), _) =>
 π.ite (x28 != 0) (π.ite ((↑n22 : Int) == 0) (π.ite ((↑n19 : Int) == 0) (π.ret (.bool ((↑n25 : Int) == 0))) (π.ret (.bool false))) (π.ret (.bool false))) (π.call 21 #[(.slice a15 n16 c17), (.slice a21 n22 c23), (.int .i64 0)] (false, [(false, [.slice])]) fun ((((a29 : OA), (n30 : Nat), (c31 : Nat)), _), _) => π.call 24 #[(.agg #[(.int .i64 x7), (.int .i64 x8), (.slice a9 n10 c11)]), (.slice a29 n30 c31)] (false, [(false, [.slice])]) fun ((((a32 : OA), (n33 : Nat), (c34 : Nat)), _), _) => π.ite ((↑n30 : Int) != (↑n33 : Int)) (π.ret (.bool false)) (π.loop [(false, [.slice]), (false, [.slice]), (false, [.int .i64]), (false, [.int .i64])] (((a29, n30, c31), ()), ((a32, n33, c34), ()), ((↑n30 : Int), ()), ((0 : Int), ()), ()) fun ((((a36 : OA), (n37 : Nat), (c38 : Nat)), _), (((a39 : OA), (n40 : Nat), (c41 : Nat)), _), ((x42 : Int), _), ((x43 : Int), _), _) again35 => π.ite (decide (x43 < x42)) (π.guard (0 ≤ x43 ∧ x43 < (↑n37 : Int)) <| π.aa a36 fun p44 => π.ld [.str] ((p44.add (x43.toNat * 3)).add 0) fun ((t45 : BA), _) => π.guard (0 ≤ x43 ∧ x43 < (↑n40 : Int)) <| π.aa a39 fun p46 => π.ld [.str] ((p46.add (x43.toNat * 3)).add 0) fun ((t47 : BA), _) => π.ite (!t45.toList == t47.toList) (π.ret (.bool false)) (π.guard (0 ≤ x43 ∧ x43 < (↑n37 : Int)) <| π.aa a36 fun p48 => π.ld [.str] ((p48.add (x43.toNat * 3)).add 2) fun ((t49 : BA), _) => π.guard (0 ≤ x43 ∧ x43 < (↑n40 : Int)) <| π.aa a39 fun p50 => π.ld [.str] ((p50.add (x43.toNat * 3)).add 2) fun ((t51 : BA), _) =>
 π.ite (!t49.toList == t51.toList) (π.ret (.bool false)) (again35 (((a36, n37, c38), ()), ((a39, n40, c41), ()), (x42, ()), (i64.wrap (x43 + 1), ()), ())))) (π.ret (.bool true)))))
theorem BE (sv sl : Int) (sa : OA) (san sac : Nat) (a : OA) (an ac : Nat) (b : OA) (bn bc : Nat) : OK 5 [.v (.agg #[.int .i64 sv, .int .i64 sl, .slice sa san sac]), .v (.slice a an ac), .v (.slice b bn bc)] fun _ π => sN π sv sl sa san sac a an ac b bn bc :=
 aZ { ptr := [(3, 3, 0), (8, 8, 0), (43, 8, 1), (48, 8, 0), (54, 8, 2), (60, 8, 1)], ty := [(3, 43), (8, 70)] } { draws := [(3, { A := [0, 1], chkL := [(2, [0])], eag := [4] }), (14, { A := [0, 1, 2, 3, 4, 5, 6, 7, 8, 9, 10, 11, 12, 13, 14, 15, 16, 17, 18, 19, 20, 21, 22, 23] })], join := [(3, [(3, 43)])], loop := [(12, [(11, 65), (12, 65), (72, 3), (73, 3)])] } [] Tryz.func5 Tryz.ntmps5 rfl (by kernel_rfl) fun _ π => by kernel_rfl
end
section
attribute [-simp] Fw.W.bD Fw.W.bB
theorem uN {s0 s : PH} {a : OA} {n c : Nat} {l : List Int} (h : pZ s0 s a n c l) {i : Nat} {x : Int} (hx : l[i]? = some x) {K : Den [.int .i64] → W.T} (hK : K (x, ()) s) : W.aa a (fun p => W.ld [.int .i64] (p.add (i * 1)) K) s := by
 obtain ⟨ad, rfl, hh⟩ := (elems.bN h.row).aG hx;simp only [W.ay];exact aE hh (cs := [.int .i64]) (y := (x, ())) rfl hK
theorem zq {s : PH} {t : aU} {S : aK} {ps : List aD} (h : dO s t S ps) : ah 23 #[fj S t] s fun y s' => y = .bool (right S) ∧ s' = s := by
 refine bx.quiet ?_;obtain ⟨ta, tn, tc⟩ := t;refine FC S.version S.last ta tn tc _ s ?_;unfold yh;have htn : tn = ps.length := h.el.len
 have hpl : S.tabs.length = ps.length := by rw [h.eq]; simp
 obtain ⟨R, hR⟩ : ∃ b, right S = b := ⟨_, rfl⟩
 rw [hR]
 have ret0 : ∀ {s'}, Fw.Mod [] s s' → ¬ right S = true → (Value.bool false = .bool R ∧ Fw.Mod [] s s') := fun m e => ⟨by rw [← hR, Ig e], m⟩
 simp only [cE];refine W.bp (fun z s' => z = ((S.version, S.last, (ta, tn, tc), ()), ()) ∧ s' = s ∧ jS S = true ∧ tn ≤ 6) ?_ ?_;rotate_left
 ·intro J hJ;simp only [aR, W.af, decide_eq_true_eq, decide_eq_false_iff_not, aF, W.oB]
  have hno : ¬ (0 ≤ S.version ∧ S.version ≤ 1125899906842624 ∧ 0 ≤ S.last ∧ S.last ≤ 1125899906842624 ∧ S.tabs.length ≤ 6) → ¬ right S = true := fun e r => e (by
   have := (eB.1 r).1;unfold jS at this;simp only [Bool.and_eq_true, decide_eq_true_eq] at this
   exact ⟨this.1, this.2.1, this.2.2.1, this.2.2.2, (eB.1 r).2.1⟩)
  refine ⟨fun h1 => ret0 (Mod.refl _ _) (hno (by omega)), fun h1 => ⟨fun h2 => ret0 (Mod.refl _ _) (hno (by omega)), fun h2 => ⟨fun h3 => ret0 (Mod.refl _ _) (hno (by omega)), fun h3 => ⟨fun h4 => ret0 (Mod.refl _ _) (hno (by omega)), fun h4 => ⟨fun h5 => ret0 (Mod.refl _ _) (hno (by omega)), fun h5 => hJ _ _ ⟨rfl, rfl, ?_, by omega⟩⟩⟩⟩⟩⟩;unfold jS;simp only [Bool.and_eq_true, decide_eq_true_eq];omega
 rintro _ s1 ⟨rfl, rfl, hhead, h6⟩;simp only [aQ]
 refine ⟨fun z s' => ∃ (k n c : Nat) (ia : OA), z = ((S.version, S.last, (ta, tn, tc), ()), ((ia, n, c), ()), ((k : Int), ()), ()) ∧ k ≤ tn ∧ pZ s1 s' ia n c ((S.tabs.take k).flatMap bH) ∧ ((S.tabs.take k).flatMap bH).length ≤ 25 * k ∧
  upTo (cq (fun i T => dP S.tabs i T && eH S T) S.tabs) k = true, fun z _ => tn - z.2.2.1.1.toNat, ⟨0, 0, 0, none, rfl, Nat.zero_le _, pZ.nil _, by simp, rfl⟩, ?_⟩
 rintro _ s2 ⟨k, n, c, ia, rfl, hk, hids, hlen, hup⟩;have hS2 := h.mono hids.md.le;simp only [aR, W.af, decide_eq_true_eq, decide_eq_false_iff_not];refine ⟨fun hlt => ?_, fun hge => ?_⟩
 ·have hlt : k < tn := by omega
  obtain ⟨p, hp⟩ : ∃ p, ps[k]? = some p := ⟨_, List.getElem?_eq_getElem (by omega)⟩
  have hT : S.tabs[k]? = some p.T := by rw [h.eq, List.getElem?_map, hp]; (first | done | rfl)
  obtain ⟨ad, had, hh⟩ := hS2.el.el.aG hp;dsimp only at had;subst had;have hP0 := h.all p (get_mem hp);obtain ⟨T, ⟨ca, can, cac⟩, ⟨xa, xan, xac⟩, ⟨ka, kan, kac⟩⟩ := p;dsimp only at hP0 hT;have hcan : can = T.cols.length := hP0.c.len;have hxan : xan = T.idxs.length := hP0.x.len;have hkan : kan = T.keys.length := hP0.k.len;have hnoT : ¬ eH S T = true → ¬ right S = true := fun e r => e (by have := ct.1 (eB.1 r).2.2.2.1 k T hT; exact this);simp only [aP, W.cI, aT, W.ay, bL, Int.toNat_natCast];refine ⟨by omega, ?_⟩;refine aE hh (y := (T.id, T.name, (ca, can, cac), (xa, xan, xac), (ka, kan, kac), ())) rfl ?_;refine W.bp (fun z s' => z = ((S.version, S.last, (some ad, tn, tc), ()), ((ia, n, c), ()), ((k : Int), ()), (T.id, T.name, (ca, can, cac), (xa, xan, xac), (ka, kan, kac), ()), ()) ∧ s' = s2 ∧ dP S.tabs k T = true ∧ 1 ≤ can ∧ can ≤ 8 ∧ xan ≤ 8 ∧ kan ≤ 8) ?_ ?_;rotate_left
  ·intro J hJ;simp only [aY];refine aN ((named T.name, ()), ()) (lf T.name s2) rfl ?_;have hnoN : ¬ dP S.tabs k T = true → ¬ right S = true := fun e r => e (ct.1 (eB.1 r).2.2.1 k T hT);have hnoL : ¬ (1 ≤ T.cols.length ∧ T.cols.length ≤ 8 ∧ T.idxs.length ≤ 8 ∧ T.keys.length ≤ 8) → ¬ right S = true := fun e => hnoT fun r => e (by obtain ⟨a, b, c, d, _⟩ := gr.1 r; exact ⟨a, b, c, d⟩);simp only [W.af];refine ⟨fun hb => ret0 hids.md (hnoN fun r => ?_), fun hb => ?_⟩
   ·unfold dP at r; simp only [Bool.and_eq_true] at r; rw [r.1] at hb; cases hb
   have hb : named T.name = true := by simpa using hb
   refine aN ((fI S T.name, ()), ()) (oY (t := (some ad, tn, tc)) hS2 T.name) rfl ?_;simp only [W.af];refine ⟨fun h1 => ret0 hids.md (hnoN fun r => ?_), fun h1 => ?_⟩
   ·unfold dP at r; simp only [Bool.and_eq_true, decide_eq_true_eq] at r;unfold fI at h1; rw [r.2] at h1; simp at h1
   have h1 : fI S T.name = (k : Int) := by simpa using h1
   simp only [decide_eq_true_eq, decide_eq_false_iff_not];refine ⟨fun h2 => ret0 hids.md (hnoL (by omega)), fun h2 => ⟨fun h3 => ret0 hids.md (hnoL (by omega)), fun h3 => ⟨fun h4 => ret0 hids.md (hnoL (by omega)), fun h4 => ⟨fun h5 => ret0 hids.md (hnoL (by omega)), fun h5 => hJ _ _ ⟨rfl, rfl, ?_, by omega, by omega, by omega, by omega⟩⟩⟩⟩⟩;unfold dP; rw [hb]; unfold fI at h1; rw [h1]; simp
  rintro _ s3 ⟨rfl, rfl, hnameT, hc1, hc8, hx8, hk8⟩
  try simp only [bY, cX]
  refine hids.push (by omega) ?_;intro ia c s4 hids
  obtain ⟨B, hB⟩ : ∃ B, (S.tabs.take k).flatMap bH ++ [T.id] = B := ⟨_, rfl⟩
  have hBl : B.length ≤ 25 * k + 1 := by rw [← hB, List.length_append, List.length_singleton]; omega
  rw [hB] at hids
  generalize n + 1 = n at hids ⊢
  try simp only [aQ]
  refine ⟨fun z s' => ∃ (j n c : Nat) (ia : OA), z = ((S.version, S.last, (some ad, tn, tc), ()), ((ia, n, c), ()), ((k : Int), ()), (T.id, T.name, (ca, can, cac), (xa, xan, xac), (ka, kan, kac), ()), ((j : Int), ()), ()) ∧ j ≤ can ∧ pZ s1 s' ia n c (B ++ (T.cols.take j).map (·.id)) ∧
   upTo (cq (fun i x => eO T.cols i x && gl i x) T.cols) j = true ∧ (0 < j → fC T = true), fun z _ => can - z.2.2.2.2.1.1.toNat, ⟨0, _, _, _, rfl, Nat.zero_le _, by simpa using hids, rfl, by omega⟩, ?_⟩
  rintro _ s5 ⟨j, n, c, ia, rfl, hj, hids, hupC, hf3⟩;simp only [aR, W.af, decide_eq_true_eq, decide_eq_false_iff_not];refine ⟨fun hlt2 => ?_, fun hge => ?_⟩
  ·have hlt2 : j < can := by omega
   obtain ⟨x, hx⟩ : ∃ x, T.cols[j]? = some x := ⟨_, List.getElem?_eq_getElem (by omega)⟩
   have hCs := hP0.c.mono hids.md.le;obtain ⟨ad2, had2, hh2⟩ := hCs.el.aG hx;dsimp only at had2;subst had2;have hw := aj (k := j) (by omega)
   have hno : ¬ (named x.name = true ∧ fT T x.name = j ∧ 1 ≤ x.state ∧ x.state ≤ 3 ∧ typed x.kind = true ∧ fits x.dflt x.kind = true) → ¬ right S = true := fun e => hnoT (K0 hx fun ⟨a, b⟩ => e (by
    unfold eO at a; unfold gl dL at b;simp only [Bool.and_eq_true, decide_eq_true_eq] at a b
    exact ⟨a.1, a.2, b.1.1, b.1.2, b.2.1, b.2.2⟩))
   simp only [aP, W.cI, aT, W.ay, bL, Int.toNat_natCast];refine ⟨by omega, ?_⟩;refine aE hh2 (y := (x.id, x.name, x.kind, x.state, x.dflt.kind, x.dflt.n, x.dflt.s, ())) rfl ?_;refine aN ((named x.name, ()), ()) (lf x.name s5) rfl ?_;simp only [W.af];refine ⟨fun hb => ret0 hids.md (hno fun q => by rw [q.1] at hb; cases hb), fun hb => ?_⟩
   have hb : named x.name = true := by simpa using hb
   refine aN ((fT T x.name, ()), ()) (sC (p := ⟨T, (some ad2, can, cac), (xa, xan, xac), (ka, kan, kac)⟩) hCs x.name) rfl ?_;simp only [W.af];refine ⟨fun h1 => ret0 hids.md (hno fun q => by rw [q.2.1] at h1; simp at h1), fun h1 => ?_⟩
   have h1 : fT T x.name = (j : Int) := by simpa using h1
   simp only [decide_eq_true_eq, decide_eq_false_iff_not];refine ⟨fun h2 => ret0 hids.md (hno (by omega)), fun h2 => ⟨fun h3 => ret0 hids.md (hno (by omega)), fun h3 => ?_⟩⟩
   have hpush : ∀ (K : OA → Nat → Nat → W.T), (∀ a' c' s', pZ s1 s' a' (n + 1) c' (B ++ (T.cols.take (j + 1)).map (·.id)) → K a' (n + 1) c' s') → W.nw (.cells #[.int .i64 x.id] 3 (0, 0)) (fun r => W.app 3 1 8 [.int .i64 0] ia n c (Src.sl (some ⟨r, 0, none⟩) 1) K) s5 := by
    intro K hK;refine hids.push (by simp; omega) fun a' c' s' h' => hK a' c' s' ?_;rw [jX (·.id) hx]; simpa using h'
   have hyes : typed x.kind = true → fits x.dflt x.kind = true → upTo (cq (fun i x => eO T.cols i x && gl i x) T.cols) (j + 1) = true := fun a b => sx hupC hx (by
    unfold eO gl dL; unfold fT at h1; rw [hb, h1, a, b, decide_eq_true (p := 1 ≤ x.state) (by omega), decide_eq_true (p := x.state ≤ 3) (by omega)]; simp)
   have hfirst : j = 0 → fC T = decide (x.state = 3) := by
    rintro rfl;unfold fC
    cases hcs : T.cols with
    | nil => rw [hcs] at hx; cases hx
    | cons a b => rw [hcs] at hx; cases hx; (first | done | rfl)
   have hno3 : fC T = false → ¬ right S = true := fun e => hnoT fun r => by obtain ⟨_, _, _, _, _, _, _, q, _⟩ := gr.1 r; rw [e] at q; cases q
   try simp only [aR, W.af]
   refine ⟨fun h0 => ⟨fun h4 => ret0 hids.md (hno3 ?_), fun h4 => ?_⟩, fun h0 => ?_⟩
   ·rw [hfirst (by have : (j : Int) = 0 := by simpa using h0
                   omega)]
    simpa using h4
   ·have hq : fC T = true := by
     rw [hfirst (by have : (j : Int) = 0 := by simpa using h0
                    omega)]
     simpa using h4
    refine aN ((typed x.kind, ()), ()) (tr x.kind s5) rfl ?_;simp only [W.af];refine ⟨fun hb => ret0 hids.md (hno fun q => by rw [q.2.2.2.2.1] at hb; cases hb), fun hb => ?_⟩;refine aN ((fits x.dflt x.kind, ()), ()) (BY x.dflt x.kind s5) rfl ?_;simp only [W.af];refine ⟨fun hb => ret0 hids.md (hno fun q => by rw [q.2.2.2.2.2] at hb; cases hb), fun hb2 => ?_⟩;refine hpush _ fun a' c' s' h' => ?_;rw [hw];refine ⟨⟨j + 1, n + 1, c', a', rfl, hlt2, h', hyes (by simpa using hb) (by simpa using hb2), fun _ => hq⟩, ?_⟩;simp only [Int.toNat_natCast]; omega
   ·have hq : fC T = true := hf3 (by have : (j : Int) ≠ 0 := by simpa using h0
                                     omega)
    refine aN ((typed x.kind, ()), ()) (tr x.kind s5) rfl ?_;simp only [W.af];refine ⟨fun hb => ret0 hids.md (hno fun q => by rw [q.2.2.2.2.1] at hb; cases hb), fun hb => ?_⟩;refine aN ((fits x.dflt x.kind, ()), ()) (BY x.dflt x.kind s5) rfl ?_;simp only [W.af];refine ⟨fun hb => ret0 hids.md (hno fun q => by rw [q.2.2.2.2.2] at hb; cases hb), fun hb2 => ?_⟩;refine hpush _ fun a' c' s' h' => ?_;rw [hw];refine ⟨⟨j + 1, n + 1, c', a', rfl, hlt2, h', hyes (by simpa using hb) (by simpa using hb2), fun _ => hq⟩, ?_⟩;simp only [Int.toNat_natCast]; omega
  ·have hall : T.cols.take j = T.cols := List.take_of_length_le (by omega)
   have hupA : allI (fun i x => eO T.cols i x && gl i x) T.cols = true := by unfold allI; rw [show T.cols.length = j by omega]; exact hupC
   have hq : fC T = true := hf3 (by omega);rw [hall] at hids
   obtain ⟨B2, hB2⟩ : ∃ B2, B ++ T.cols.map (·.id) = B2 := ⟨_, rfl⟩
   have hB2l : B2.length ≤ 25 * k + 9 := by rw [← hB2, List.length_append, List.length_map]; omega
   rw [hB2] at hids
   refine ⟨fun z s' => ∃ (j n c : Nat) (ia : OA), z = ((S.version, S.last, (some ad, tn, tc), ()), ((ia, n, c), ()), ((k : Int), ()), (T.id, T.name, (ca, can, cac), (xa, xan, xac), (ka, kan, kac), ()), ((j : Int), ()), ()) ∧ j ≤ xan ∧ pZ s1 s' ia n c (B2 ++ (T.idxs.take j).map (·.id)) ∧
    upTo (cq (fun i x => eX T.idxs i x && iA T i x) T.idxs) j = true, fun z _ => xan - z.2.2.2.2.1.1.toNat, ⟨0, _, _, _, rfl, Nat.zero_le _, by simpa using hids, rfl⟩, ?_⟩
   rintro _ s6 ⟨j, n, c, ia, rfl, hj, hids, hupX⟩;simp only [aR, W.af, decide_eq_true_eq, decide_eq_false_iff_not];refine ⟨fun hlt2 => ?_, fun hge => ?_⟩
   ·have hlt2 : j < xan := by omega
    obtain ⟨x, hx⟩ : ∃ x, T.idxs[j]? = some x := ⟨_, List.getElem?_eq_getElem (by omega)⟩
    have hXs := hP0.x.mono hids.md.le;have hCs := hP0.c.mono hids.md.le;obtain ⟨ad2, had2, hh2⟩ := hXs.el.aG hx;dsimp only at had2;subst had2;have hw := aj (k := j) (by omega)
    have hno : ¬ (named x.name = true ∧ kI T x.name = j ∧ 1 ≤ x.state ∧ x.state ≤ 3 ∧ 0 ≤ cS T x.column) → ¬ right S = true := fun e => hnoT (K1 hx fun ⟨a, b⟩ => e (by
     unfold eX at a; unfold iA dL at b;simp only [Bool.and_eq_true, decide_eq_true_eq] at a b
     exact ⟨a.1, a.2, b.1.1, b.1.2, b.2⟩))
    simp only [aP, W.cI, aT, W.ay, bL, Int.toNat_natCast];refine ⟨by omega, ?_⟩;refine aE hh2 (y := (x.id, x.name, x.column, x.unique, x.state, ())) rfl ?_;refine aN ((named x.name, ()), ()) (lf x.name s6) rfl ?_;simp only [W.af];refine ⟨fun hb => ret0 hids.md (hno fun q => by rw [q.1] at hb; cases hb), fun hb => ?_⟩
    have hb : named x.name = true := by simpa using hb
    refine aN ((kI T x.name, ()), ()) (C4 (p := ⟨T, (ca, can, cac), (some ad2, xan, xac), (ka, kan, kac)⟩) hXs x.name) rfl ?_;simp only [W.af];refine ⟨fun h1 => ret0 hids.md (hno fun q => by rw [q.2.1] at h1; simp at h1), fun h1 => ?_⟩
    have h1 : kI T x.name = (j : Int) := by simpa using h1
    simp only [decide_eq_true_eq, decide_eq_false_iff_not];refine ⟨fun h2 => ret0 hids.md (hno (by omega)), fun h2 => ⟨fun h3 => ret0 hids.md (hno (by omega)), fun h3 => ?_⟩⟩;refine aN ((cS T x.column, ()), ()) (sD (p := ⟨T, (ca, can, cac), (some ad2, xan, xac), (ka, kan, kac)⟩) hCs x.column) rfl ?_;simp only [W.af, decide_eq_true_eq, decide_eq_false_iff_not];refine ⟨fun h4 => ret0 hids.md (hno (by omega)), fun h4 => ?_⟩;refine hids.push (by rw [List.length_append, List.length_map, List.length_take]; omega) fun a' c' s' h' => ?_;rw [hw];refine ⟨⟨j + 1, n + 1, c', a', rfl, hlt2, by rw [jX (·.id) hx]; simpa using h', sx hupX hx ?_⟩, ?_⟩
    ·unfold eX iA dL; unfold kI at h1; rw [hb, h1, decide_eq_true (p := 1 ≤ x.state) (by omega), decide_eq_true (p := x.state ≤ 3) (by omega), decide_eq_true (p := 0 ≤ cS T x.column) (by omega)]; simp
    ·simp only [Int.toNat_natCast]; omega
   ·have hall : T.idxs.take j = T.idxs := List.take_of_length_le (by omega)
    have hupB : allI (fun i x => eX T.idxs i x && iA T i x) T.idxs = true := by unfold allI; rw [show T.idxs.length = j by omega]; exact hupX
    rw [hall] at hids
    obtain ⟨B3, hB3⟩ : ∃ B3, B2 ++ T.idxs.map (·.id) = B3 := ⟨_, rfl⟩
    have hB3l : B3.length ≤ 25 * k + 17 := by rw [← hB3, List.length_append, List.length_map]; omega
    rw [hB3] at hids
    refine ⟨fun z s' => ∃ (j n c : Nat) (ia : OA), z = ((S.version, S.last, (some ad, tn, tc), ()), ((ia, n, c), ()), ((k : Int), ()), (T.id, T.name, (ca, can, cac), (xa, xan, xac), (ka, kan, kac), ()), ((j : Int), ()), ()) ∧ j ≤ kan ∧ pZ s1 s' ia n c (B3 ++ (T.keys.take j).map (·.id)) ∧
     upTo (cq (fun i x => eW T.keys i x && iE S T i x) T.keys) j = true, fun z _ => kan - z.2.2.2.2.1.1.toNat, ⟨0, _, _, _, rfl, Nat.zero_le _, by simpa using hids, rfl⟩, ?_⟩
    rintro _ s7 ⟨j, n, c, ia, rfl, hj, hids, hupF⟩;have hSn := h.mono hids.md.le;have hXs := hP0.x.mono hids.md.le;have hCs := hP0.c.mono hids.md.le;have hKs := hP0.k.mono hids.md.le;simp only [aR, W.af, decide_eq_true_eq, decide_eq_false_iff_not];refine ⟨fun hlt2 => ?_, fun hge => ?_⟩
    ·have hlt2 : j < kan := by omega
     obtain ⟨x, hx⟩ : ∃ x, T.keys[j]? = some x := ⟨_, List.getElem?_eq_getElem (by omega)⟩
     obtain ⟨ad2, had2, hh2⟩ := hKs.el.aG hx;dsimp only at had2;subst had2;have hw := aj (k := j) (by omega)
     have hno : ¬ (named x.name = true ∧ jU T x.name = j ∧ 1 ≤ x.state ∧ x.state ≤ 3 ∧ 0 ≤ cS T x.column ∧ 0 ≤ dK S x.parent ∧ pM S T x = true) → ¬ right S = true := fun e => hnoT (K2 hx fun ⟨a, b⟩ => e (by
      unfold eW at a; unfold iE dL at b;simp only [Bool.and_eq_true, decide_eq_true_eq] at a b
      exact ⟨a.1, a.2, b.1.1, b.1.2, b.2.1, b.2.2.1, b.2.2.2⟩))
     simp only [aP, W.cI, aT, W.ay, bL, Int.toNat_natCast];refine ⟨by omega, ?_⟩;refine aE hh2 (y := (x.id, x.name, x.column, x.parent, x.state, ())) rfl ?_;refine aN ((dK S x.parent, ()), ()) (C5 (t := (some ad, tn, tc)) hSn x.parent) rfl ?_;refine aN ((cS T x.column, ()), ()) (sD (p := ⟨T, (ca, can, cac), (xa, xan, xac), (some ad2, kan, kac)⟩) hCs x.column) rfl ?_
     refine W.bp (fun z s' => z = ((S.version, S.last, (some ad, tn, tc), ()), ((ia, n, c), ()), ((k : Int), ()), (T.id, T.name, (ca, can, cac), (xa, xan, xac), (some ad2, kan, kac), ()), ((j : Int), ()), (x.id, x.name, x.column, x.parent, x.state, ()), (dK S x.parent, ()), (cS T x.column, ()), ()) ∧ s' = s7 ∧
      named x.name = true ∧ jU T x.name = j ∧ 1 ≤ x.state ∧ x.state ≤ 3 ∧ 0 ≤ cS T x.column ∧ 0 ≤ dK S x.parent) ?_ ?_
     rotate_left
     ·intro J hJ;refine aN ((named x.name, ()), ()) (lf x.name s7) rfl ?_;simp only [W.af];refine ⟨fun hb => ret0 hids.md (hno fun q => by rw [q.1] at hb; cases hb), fun hb => ?_⟩
      have hb : named x.name = true := by simpa using hb
      refine aN ((jU T x.name, ()), ()) (GU (p := ⟨T, (ca, can, cac), (xa, xan, xac), (some ad2, kan, kac)⟩) hKs x.name) rfl ?_;simp only [W.af];refine ⟨fun h1 => ret0 hids.md (hno fun q => by rw [q.2.1] at h1; simp at h1), fun h1 => ?_⟩
      have h1 : jU T x.name = (j : Int) := by simpa using h1
      simp only [decide_eq_true_eq, decide_eq_false_iff_not];refine ⟨fun h2 => ret0 hids.md (hno (by omega)), fun h2 => ⟨fun h3 => ret0 hids.md (hno (by omega)), fun h3 => ⟨fun h4 => ret0 hids.md (hno (by omega)), fun h4 => ⟨fun h5 => ret0 hids.md (hno (by omega)), fun h5 => hJ _ _ ⟨rfl, rfl, hb, h1, by omega, by omega, by omega, by omega⟩⟩⟩⟩⟩
     rintro _ s8 ⟨rfl, rfl, hb, h1, hs1, hs3, hcol, htab⟩
     obtain ⟨jp, P, hjp, hPj, _, _⟩ : ∃ (jp : Nat) (P : az), dK S x.parent = (jp : Int) ∧ S.tabs[jp]? = some P ∧ True ∧ True := by
      rcases jr (p := fun T : az => decide (T.id = x.parent)) S.tabs 0 with ⟨e, _⟩ | ⟨j, P, e, e2, _⟩
      ·exact absurd e (by unfold dK at htab; omega)
      ·exact ⟨j, P, by unfold dK; rw [e]; simp, e2, trivial, trivial⟩
     obtain ⟨j2, C, hj2, hCj, _, _⟩ : ∃ (j : Nat) (C : cm), cS T x.column = (j : Int) ∧ T.cols[j]? = some C ∧ True ∧ True := by
      rcases jr (p := fun c : cm => decide (c.id = x.column)) T.cols 0 with ⟨e, _⟩ | ⟨j, P, e, e2, _⟩
      ·exact absurd e (by unfold cS at hcol; omega)
      ·exact ⟨j, P, by unfold cS; rw [e]; simp, e2, trivial, trivial⟩
     have hpar : pM S T x = (match P.cols with | c0 :: _ => decide (C.kind = c0.kind) | [] => false) := by unfold pM; rw [hjp, hj2]; simp only [Int.toNat_natCast, hPj, hCj] <;> rfl
     obtain ⟨pp, hpp, hppT⟩ : ∃ pp, ps[jp]? = some pp ∧ pp.T = P := by
      rw [h.eq, List.getElem?_map] at hPj
      cases hq : ps[jp]? with
      | none => rw [hq] at hPj; cases hPj
      | some pp => rw [hq] at hPj; exact ⟨pp, rfl, Option.some.inj hPj⟩
     have hjl := (List.getElem?_eq_some_iff.1 hpp).1;have hj2l := (List.getElem?_eq_some_iff.1 hCj).1;obtain ⟨ad3, had3, hh3⟩ := hSn.el.el.aG hpp;dsimp only at had3;cases had3;have hPP := hSn.all pp (get_mem hpp);obtain ⟨PT, ⟨pca, pcn, pcc⟩, ⟨pxa, pxn, pxc⟩, ⟨pka, pkn, pkc⟩⟩ := pp;dsimp only at hppT;subst hppT;have hpcn : pcn = PT.cols.length := hPP.c.len;rw [hjp, hj2];simp only [Int.toNat_natCast];refine ⟨by omega, ?_⟩;simp only [W.ay];refine bl (j := 2) hh3 (cs := [.slice]) (y := ((pca, pcn, pcc), ())) rfl ?_;simp only [W.af];refine ⟨fun h3 => ret0 hids.md (hno fun q => ?_), fun h3 => ?_⟩
     ·have h3 : pcn = 0 := by simpa using h3
      have : PT.cols = [] := List.length_eq_zero_iff.1 (by omega);have q := q.2.2.2.2.2.2;rw [hpar, this] at q; cases q
     have h3 : pcn ≠ 0 := by simpa using h3
     obtain ⟨c1, cs1, hcs1⟩ : ∃ c0 cs, PT.cols = c0 :: cs := by
      cases hc : PT.cols with
      | nil => rw [hc] at hpcn; simp at hpcn; omega
      | cons a b => exact ⟨a, b, rfl⟩
     obtain ⟨ad4, had4, hh4⟩ := hCs.el.aG hCj;dsimp only at had4;cases had4;obtain ⟨ad5, had5, hh5⟩ := hPP.c.el.aG (i := 0) (x := c1) (by rw [hcs1]; (first | done | rfl));dsimp only at had5;subst had5;rw [Nat.zero_mul, add_zero] at hh5;refine ⟨by omega, ?_⟩;simp only [W.ay];refine bl (j := 2) hh3 (cs := [.slice]) (y := ((some ad5, pcn, pcc), ())) rfl ?_;refine ⟨by dsimp only; omega, ?_⟩;simp only [W.ay];refine bl (j := 2) (A := Addr.add ad5 0) (by rw [add_zero]; exact hh5) (cs := [.int .i64]) (y := (c1.kind, ())) rfl ?_;refine ⟨by omega, ?_⟩;simp only [W.ay];refine bl (j := 2) hh4 (cs := [.int .i64]) (y := (C.kind, ())) rfl ?_;simp only [W.af];refine ⟨fun h6 => ret0 hids.md (hno fun q => ?_), fun h6 => ?_⟩
     ·have q := q.2.2.2.2.2.2;rw [hpar, hcs1] at q
      have q : C.kind = c1.kind := by simpa using q
      rw [q] at h6; simp at h6
     refine hids.push (by rw [List.length_append, List.length_map, List.length_take]; omega) fun a' c' s' h' => ?_;rw [hw];refine ⟨⟨j + 1, n + 1, c', a', rfl, hlt2, by rw [jX (·.id) hx]; simpa using h', sx hupF hx ?_⟩, ?_⟩
     ·have e6 : c1.kind = C.kind := by simpa using h6
      unfold eW iE dL; unfold jU at h1; rw [hb, h1, decide_eq_true (p := 1 ≤ x.state) (by omega), decide_eq_true (p := x.state ≤ 3) (by omega), decide_eq_true (p := 0 ≤ cS T x.column) (by omega), decide_eq_true (p := 0 ≤ dK S x.parent) (by omega), hpar, hcs1]; simp [e6]
     ·simp only [Int.toNat_natCast]; omega
    ·have hall : T.keys.take j = T.keys := List.take_of_length_le (by omega)
     have hupD : allI (fun i x => eW T.keys i x && iE S T i x) T.keys = true := by unfold allI; rw [show T.keys.length = j by omega]; exact hupF
     rw [hall] at hids;have htabB : eH S T = true := gr.2 ⟨by omega, by omega, by omega, by omega, (jj hupA).1, (jj hupB).1, (jj hupD).1, hq, (jj hupA).2, (jj hupB).2, (jj hupD).2⟩
     have hnext : (S.tabs.take (k + 1)).flatMap bH = B3 ++ T.keys.map (·.id) := by
      rw [List.take_add_one, hT, List.flatMap_append, ← hB3, ← hB2, ← hB];simp [bH]
     rw [aj (k := k) (by omega)];refine ⟨⟨k + 1, _, _, _, rfl, hlt, by rw [hnext]; exact hids, ?_, sx hup hT (by rw [hnameT, htabB]; (first | done | rfl))⟩, ?_⟩
     ·rw [hnext, List.length_append, List.length_map]; omega
     ·simp only [Int.toNat_natCast]; omega
 ·have hall : S.tabs.take k = S.tabs := List.take_of_length_le (by omega)
  have hupA : allI (fun i T => dP S.tabs i T && eH S T) S.tabs = true := by unfold allI; rw [show S.tabs.length = k by omega]; exact hup
  rw [hall] at hids hlen
  have hrun : right S = true ↔ bf S.last (S.tabs.flatMap bH) [] = true :=
   ⟨fun r => (eB.1 r).2.2.2.2, fun r => eB.2 ⟨hhead, by omega, (jj hupA).1, (jj hupA).2, r⟩⟩
  generalize S.tabs.flatMap bH = l at hids hrun hlen
  have hnl : n = l.length := hids.row.len;refine ⟨fun z s' => ∃ i : Nat, z = ((S.version, S.last, (ta, tn, tc), ()), ((ia, n, c), ()), ((i : Int), ()), ()) ∧ i ≤ n ∧ s' = s2 ∧ bf S.last (l.take i) [] = true, fun z _ => n - z.2.2.1.1.toNat, ⟨0, rfl, Nat.zero_le _, rfl, rfl⟩, ?_⟩;rintro _ s3 ⟨i, rfl, hi, rfl, hr⟩;simp only [aR, W.af, decide_eq_true_eq, decide_eq_false_iff_not];refine ⟨fun hlt => ?_, fun hge => ?_⟩
  ·have hlt : i < n := by omega
   obtain ⟨x, hx⟩ : ∃ x, l[i]? = some x := ⟨_, List.getElem?_eq_getElem (by omega)⟩
   have hstep : bf S.last (l.take (i + 1)) [] = ((decide (1 ≤ x) && decide (x ≤ S.last)) && !decide (x ∈ (l.take i).reverse ++ [])) := by
    have := jX (fun y : Int => y) hx;simp only [List.map_id'] at this;rw [this, lO, hr, Bool.true_and]
   have hno : ¬ (1 ≤ x ∧ x ≤ S.last ∧ x ∉ l.take i) → ¬ right S = true := fun e r => e (by
    have := D3 (k := i + 1) (hrun.1 r);rw [hstep] at this;simp only [Bool.and_eq_true, decide_eq_true_eq] at this;refine ⟨this.1.1, this.1.2, ?_⟩
    simpa using this.2)
   refine W.bp (fun z s' => z = ((S.version, S.last, (ta, tn, tc), ()), ((ia, n, c), ()), ((i : Int), ()), ()) ∧ s' = s3 ∧ 1 ≤ x ∧ x ≤ S.last) ?_ ?_;rotate_left
   ·intro J hJ;simp only [Int.toNat_natCast];refine ⟨by omega, ?_⟩;refine uN hids hx ?_;simp only [W.af, decide_eq_true_eq, decide_eq_false_iff_not];refine ⟨fun h1 => ret0 hids.md (hno (by omega)), fun h1 => ⟨by omega, ?_⟩⟩;refine uN hids hx ?_;simp only [W.af, decide_eq_true_eq, decide_eq_false_iff_not];exact ⟨fun h1 => ret0 hids.md (hno (by omega)), fun h2 => hJ _ _ ⟨rfl, rfl, by omega, by omega⟩⟩
   rintro _ s4 ⟨rfl, rfl, hx1, hx2⟩;refine ⟨fun z s' => ∃ m : Nat, z = ((S.version, S.last, (ta, tn, tc), ()), ((ia, n, c), ()), ((i : Int), ()), ((m : Int), ()), ()) ∧ m ≤ i ∧ s' = s4 ∧ x ∉ l.take m, fun z _ => i - z.2.2.2.1.1.toNat, ⟨0, rfl, Nat.zero_le _, rfl, by simp⟩, ?_⟩;rintro _ s5 ⟨m, rfl, hm, rfl, hnot⟩;simp only [aR, W.af, decide_eq_true_eq, decide_eq_false_iff_not];refine ⟨fun hlt2 => ?_, fun hge => ?_⟩
   ·have hlt2 : m < i := by omega
    obtain ⟨y, hy⟩ : ∃ y, l[m]? = some y := ⟨_, List.getElem?_eq_getElem (by omega)⟩
    simp only [Int.toNat_natCast];refine ⟨by omega, ?_⟩;refine uN hids hy ?_;refine ⟨by omega, ?_⟩;refine uN hids hx ?_;simp only [W.af];refine ⟨fun h1 => ret0 hids.md (hno fun q => q.2.2 ?_), fun h1 => ?_⟩
    ·have h1 : y = x := by simpa using h1
     subst h1;exact List.mem_iff_getElem?.2 ⟨m, by rw [List.getElem?_take_of_lt hlt2]; exact hy⟩
    ·have h1 : y ≠ x := by simpa using h1
     rw [aj (k := m) (by omega)];refine ⟨⟨m + 1, rfl, hlt2, trivial, ?_⟩, ?_⟩
     ·rw [List.take_add_one, hy];simp only [Option.toList_some, List.mem_append, List.mem_singleton, not_or];exact ⟨hnot, fun e => h1 e.symm⟩
     ·simp only [Int.toNat_natCast]; omega
   ·have hmi : m = i := by omega
    subst hmi;rw [aj (k := m) (by omega)];refine ⟨⟨m + 1, rfl, hlt, trivial, ?_⟩, ?_⟩
    ·rw [hstep, decide_eq_true (p := 1 ≤ x) hx1, decide_eq_true (p := x ≤ S.last) hx2];simp [hnot]
    ·simp only [Int.toNat_natCast]; omega
  ·have hall : l.take i = l := List.take_of_length_le (by omega);rw [hall] at hr;refine ⟨?_, hids.md⟩;rw [← hR, hrun.2 hr]
end
section
attribute [-simp] Fw.W.bD Fw.W.bB
def yY (T : az) (name : BA) : Int := if 0 ≤ fT T name then (match T.cols[(fT T name).toNat]? with | some c => if c.state = 3 then fT T name else -1 | none => -1) else -1
def zI (cols : List cm) : Bool := !(upTo (cq (fun i (c : cm) => decide (aM (fun y : cm => decide (y.name = c.name)) cols 0 = i)) cols) cols.length)
def eZ : Int → List cm → List cm
 | _, [] => []
 | n, c :: cs => ⟨n, c.name, c.kind, 3, ⟨0, 0, ⟨#[]⟩⟩⟩ :: eZ (n + 1) cs
theorem mC : ∀ (l : List cm) (n : Int), (eZ n l).length = l.length
 | [], n => rfl
 | c :: l, n => by simp [eZ, mC l]
theorem sH : ∀ (l : List cm) (n : Int) (c : cm), eZ n (l ++ [c]) = eZ n l ++ [⟨n + l.length, c.name, c.kind, 3, ⟨0, 0, ⟨#[]⟩⟩⟩]
 | [], n, c => by simp [eZ]
 | d :: l, n, c => by simp [eZ, sH l]; omega
abbrev ie := Except Int aK
def cA (S : aK) (D : nZ) (st : Int) : ie :=
 if (named D.table && D.cols.all fun c => named c.name) = false then .error 100
 else if (decide (0 ≤ fI S D.table) || zI D.cols) = true then .error 152
 else if (decide (6 ≤ S.tabs.length) || (decide (D.cols.length < 1) || decide (8 < D.cols.length))) = true then .error 156
 else if (D.cols.all fun c => typed c.kind) = false then .error 154
 else if st ≠ 3 then .error 1
 else .ok ⟨S.version, S.last + 1 + D.cols.length, S.tabs ++ [⟨S.last + 1, D.table, eZ (S.last + 2) D.cols, [], []⟩]⟩
def lW {α : Type} (l : List α) (k : Nat) (st : Int) (x' : α) : List α := if st = 0 then l.eraseIdx k else l.set k x'
def used (T : az) (k : Int) (x : cm) : Bool := decide (k = 0) || (T.idxs.any (fun y => decide (y.column = x.id)) || T.keys.any (fun y => decide (y.column = x.id)))
def cm.put (c : cm) (st : Int) : cm := { c with state := st }
def dx.put (c : dx) (st : Int) : dx := { c with state := st }
def For.put (c : For) (st : Int) : For := { c with state := st }
def rT (S : aK) (i : Nat) (T : az) (D : nZ) (st : Int) : ie :=
 if D.kind = 4 ∧ fT T D.column < 0 then
  if lS D.column T.cols.length ≠ 0 then .error (lS D.column T.cols.length)
  else if (typed D.type && fits D.dflt D.type) = false then .error 154
  else if st = 0 then .error 1
  else .ok ⟨S.version, S.last + 1, S.tabs.set i { T with cols := T.cols ++ [⟨S.last + 1, D.column, D.type, st, D.dflt⟩] }⟩
 else if fT T D.column < 0 then .error 151
 else match T.cols[(fT T D.column).toNat]? with
 | none => .error 151
 | some x => if D.kind = 4 ∧ x.state = 3 then .error 152
  else if D.kind = 5 ∧ used T (fT T D.column) x = true then .error 155
  else .ok ⟨S.version, S.last, S.tabs.set i { T with cols := lW T.cols (fT T D.column).toNat st (x.put st) }⟩
def rW (S : aK) (i : Nat) (T : az) (D : nZ) (st : Int) : ie :=
 if D.kind = 2 ∧ kI T D.name < 0 then
  if lS D.name T.idxs.length ≠ 0 then .error (lS D.name T.idxs.length)
  else if yY T D.column < 0 then .error 151
  else if st = 0 then .error 1
  else match T.cols[(yY T D.column).toNat]? with
  | none => .error 151
  | some c => .ok ⟨S.version, S.last + 1, S.tabs.set i { T with idxs := T.idxs ++ [⟨S.last + 1, D.name, c.id, D.unique, st⟩] }⟩
 else if kI T D.name < 0 then .error 153
 else match T.idxs[(kI T D.name).toNat]? with
 | none => .error 153
 | some x => if D.kind = 2 ∧ x.state = 3 then .error 152
  else .ok ⟨S.version, S.last, S.tabs.set i { T with idxs := lW T.idxs (kI T D.name).toNat st (x.put st) }⟩
def rZ (S : aK) (i : Nat) (T : az) (D : nZ) (st : Int) : ie :=
 if D.kind = 6 ∧ jU T D.name < 0 then
  if lS D.name T.keys.length ≠ 0 then .error (lS D.name T.keys.length)
  else if yY T D.column < 0 then .error 151
  else if fI S D.parent < 0 then .error 150
  else match T.cols[(yY T D.column).toNat]?, S.tabs[(fI S D.parent).toNat]? with
  | some c, some P => (match P.cols with
   | [] => .error 154
   | c0 :: _ => if c.kind ≠ c0.kind then .error 154
    else if st = 0 then .error 1
    else .ok ⟨S.version, S.last + 1, S.tabs.set i { T with keys := T.keys ++ [⟨S.last + 1, D.name, c.id, P.id, st⟩] }⟩)
  | _, _ => .error 151
 else if jU T D.name < 0 then .error 153
 else match T.keys[(jU T D.name).toNat]? with
 | none => .error 153
 | some x => if D.kind = 6 ∧ x.state = 3 then .error 152
  else .ok ⟨S.version, S.last, S.tabs.set i { T with keys := lW T.keys (jU T D.name).toNat st (x.put st) }⟩
def lP (S : aK) (D : nZ) (st : Int) : ie :=
 if D.kind = 1 then cA S D st
 else if fI S D.table < 0 then .error 150
 else match S.tabs[(fI S D.table).toNat]? with
 | none => .error 150
 | some T => if D.kind = 4 ∨ D.kind = 5 then rT S (fI S D.table).toNat T D st
  else if D.kind = 2 ∨ D.kind = 3 then rW S (fI S D.table).toNat T D st
  else rZ S (fI S D.table).toNat T D st
abbrev eY : aK := ⟨0, 0, []⟩
def aK.lF (S : aK) (D : nZ) (st : Int) : aK × Int :=
 if (right S && (decide (0 ≤ st) && decide (st ≤ 3))) = false then (eY, 100)
 else if D.kind < 1 ∨ 7 < D.kind then (eY, 1)
 else match lP { S with version := S.version + 1 } D st with
 | .error e => (eY, e)
 | .ok S' => (S', 0)
def ie.kq (r : ie) : Prop := ∀ e, r = .error e → e ≠ 0
theorem ou {c : Prop} [Decidable c] {a b : ie} (ha : c → a.kq) (hb : ¬ c → b.kq) : ie.kq (if c then a else b) := by
 by_cases h : c
 ·rw [if_pos h]; exact ha h
 ·rw [if_neg h]; exact hb h
theorem mz {e : Int} (h : e ≠ 0) : ie.kq (.error e) := fun e' h' => by cases h'; exact h
theorem yT {S : aK} : ie.kq (.ok S) := fun e' h' => by cases h'
theorem Ge (S : aK) (D : nZ) (st : Int) : ie.kq (lP S D st) := by
 have h1 : ie.kq (cA S D st) := by unfold cA; repeat' (first | (refine ou (fun _ => ?_) (fun _ => ?_)) | exact yT | exact mz (by decide) | exact mz ‹_› | split)
 have h2 : ∀ i T, ie.kq (rT S i T D st) := by intro i T; unfold rT; repeat' (first | (refine ou (fun _ => ?_) (fun _ => ?_)) | exact yT | exact mz (by decide) | exact mz ‹_› | split)
 have h3 : ∀ i T, ie.kq (rW S i T D st) := by intro i T; unfold rW; repeat' (first | (refine ou (fun _ => ?_) (fun _ => ?_)) | exact yT | exact mz (by decide) | exact mz ‹_› | split)
 have h4 : ∀ i T, ie.kq (rZ S i T D st) := by intro i T; unfold rZ; repeat' (first | (refine ou (fun _ => ?_) (fun _ => ?_)) | exact yT | exact mz (by decide) | exact mz ‹_› | split)
 unfold lP
 repeat' (first | exact h1 | exact h2 _ _ | exact h3 _ _ | exact h4 _ _ | (refine ou (fun _ => ?_) (fun _ => ?_)) | exact mz (by decide) | split)
def jc (t : aU) (ps : List aD) : List Nat := Fw.aW t.1 ++ ps.flatMap aD.L
structure Has (s : PH) (t : aU) (ps : List aD) : Prop where
 row : bq ja s 139 t.1 t.2.1 t.2.2 ps
 all : ∀ p ∈ ps, uy s p
 nod : (jc t ps).Nodup
theorem Has.nil (s : PH) : Has s dQ [] := ⟨bq.nil, fun p hp => by simp at hp, by simp [jc, Fw.aW]⟩
theorem Has.known {s : PH} {t : aU} {ps : List aD} (h : Has s t ps) : ∀ g ∈ jc t ps, s g ≠ none := by
 intro g hg;simp only [jc, List.mem_append, List.mem_flatMap] at hg;rcases hg with hg | ⟨p, hp, hg⟩
 ·exact h.row.known g hg
 ·exact (h.all p hp).known g hg
theorem ux {t : aU} {ps : List aD} {g : Nat} (h : g ∈ Fw.aW t.1) : g ∈ jc t ps := List.mem_append.2 (.inl h)
theorem Lo {t : aU} {ps : List aD} {p : aD} (hp : p ∈ ps) {g : Nat} (h : g ∈ p.L) : g ∈ jc t ps := List.mem_append.2 (.inr (List.mem_flatMap.2 ⟨p, hp, h⟩))
theorem Has.mod {s s' : PH} {t : aU} {ps : List aD} {M : List Nat} (h : Has s t ps) (hm : Fw.Mod M s s') (hd : ∀ g ∈ jc t ps, g ∉ M) : Has s' t ps :=
 ⟨h.row.mod hm fun g hg => hd g (ux hg), fun p hp => (h.all p hp).mod hm fun g hg => hd g (Lo hp hg), h.nod⟩
theorem Has.is {s : PH} {t : aU} {ps : List aD} (h : Has s t ps) {S : aK} (he : S.tabs = ps.map (·.T)) (hn : S.tabs.length ≤ 4294967296) (hf : ∀ T ∈ S.tabs, T.Kh) : dO s t S ps :=
 ⟨Sl.bN h.row (by rw [he, List.length_map] at hn; exact hn), he, fun p hp => (h.all p hp).is (hf _ (by rw [he]; exact List.mem_map_of_mem hp))⟩
theorem Has.push {s : PH} {a : OA} {n c : Nat} {ps : List aD} {p : aD} {K : OA → Nat → Nat → W.T} (h : Has s (a, n, c) ps) (ho : uy s p) (hp : p.L.Nodup) (hd : ∀ g ∈ p.L, g ∉ jc (a, n, c) ps) (hl : ps.length ≤ 4294967296)
  (hK : ∀ a' c' s', Has s' (a', n + 1, c') (ps ++ [p]) → Step (jc (a, n, c) ps ++ p.L) (jc (a', n + 1, c') (ps ++ [p])) s s' → K a' (n + 1) c' s') :
  W.nw (.cells (ja.f p).toArray 139 (0, 0)) (fun r => W.app 139 5 96 [.int .i64 0, .string ⟨#[]⟩, .slice none 0 0, .slice none 0 0, .slice none 0 0] a n c (Src.sl (some ⟨r, 0, none⟩) 1) K) s := by
 refine W.bI fun r s1 hr m1 k1 => ?_;have hmax : maxLen = 9223372036854775807 := rfl;have hn : n = ps.length := h.row.len;have h1 := h.mod m1 (by simp);have ho1 := ho.mod m1 (by simp);refine jk h1.row rfl (ys := [p]) (k := 1) (wP (by have := j8 k1; simpa using this) rfl) rfl rfl (by dsimp only; omega) (by dsimp only; omega) ?_;intro a' c' s' h' hm
 have hdt : ∀ g ∈ ps.flatMap aD.L, g ∉ Fw.aW a := by
  intro g hg hg2;have := h.nod;simp only [jc, List.nodup_append] at this;exact this.2.2 g hg2 g hg rfl
 have hrest : (ps.flatMap aD.L ++ p.L).Nodup := by
  rw [List.nodup_append];have := h.nod;simp only [jc, List.nodup_append] at this;refine ⟨this.2.1, hp, ?_⟩;rintro g hg _ hg2 rfl;exact hd g hg2 (List.mem_append.2 (.inr hg))
 have hL : jc (a', n + 1, c') (ps ++ [p]) = Fw.aW a' ++ (ps.flatMap aD.L ++ p.L) := by simp [jc, List.flatMap_append]
 have hLp : ∀ g ∈ ps.flatMap aD.L ++ p.L, g ∈ jc (a, n, c) ps ++ p.L := by
  intro g hg;rcases List.mem_append.1 hg with hg | hg
  ·exact List.mem_append.2 (.inl (List.mem_append.2 (.inr hg)))
  ·exact List.mem_append.2 (.inr hg)
 rcases hm with ⟨rfl, hm⟩ | ⟨g, rfl, hg, hm⟩
 ·refine hK _ _ _ ⟨h', ?_, ?_⟩ ⟨(m1.mono (by simp)).trans (hm.mono fun x hx => List.mem_append.2 (.inl (ux (ps := ps) hx))), ?_⟩
  ·intro q hq;rcases List.mem_append.1 hq with hq | hq
   ·exact (h1.all q hq).mod hm fun g hg => hdt g (List.mem_flatMap.2 ⟨q, hq, hg⟩)
   ·have : q = p := by simpa using hq
    subst this;exact ho1.mod hm fun g hg hg2 => hd g hg (ux hg2)
  ·rw [hL, List.nodup_append];refine ⟨j5 _, hrest, ?_⟩;rintro g hg _ hg2 rfl;rcases List.mem_append.1 hg2 with hg2 | hg2
   ·exact hdt g hg2 hg
   ·exact hd g hg2 (ux hg)
  ·intro x hx;rw [hL] at hx;rcases List.mem_append.1 hx with hx | hx
   ·exact .inl (List.mem_append.2 (.inl (ux hx)))
   ·exact .inl (hLp x hx)
 ·have hg0 : s g = none := m1.none hg (by simp);refine hK _ _ _ ⟨h', ?_, ?_⟩ ⟨(m1.trans hm).mono (by simp), ?_⟩
  ·intro q hq;rcases List.mem_append.1 hq with hq | hq
   ·exact (h1.all q hq).mod hm (by simp)
   ·have : q = p := by simpa using hq
    subst this;exact ho1.mod hm (by simp)
  ·rw [hL, List.nodup_append];refine ⟨j5 _, hrest, ?_⟩;rintro g' hg' _ hg2 rfl
   have : g' = g := by simpa [Fw.aW] using hg'
   subst this;rcases List.mem_append.1 hg2 with hg2 | hg2
   ·exact h.known g' (List.mem_append.2 (.inr hg2)) hg0
   ·exact ho.known g' hg2 hg0
  ·intro x hx;rw [hL] at hx;rcases List.mem_append.1 hx with hx | hx
   ·have : x = g := by simpa [Fw.aW] using hx
    subst this;exact .inr hg0
   ·exact .inl (hLp x hx)
end
section
attribute [-simp] Fw.W.bD Fw.W.bB
end
section
attribute [-simp] Fw.W.bD Fw.W.bB
abbrev K9 (cols : List cm) (i : Nat) (c : cm) : Bool := decide (aM (fun y : cm => decide (y.name = c.name)) cols 0 = i)
theorem KJ {cols : List cm} (h : upTo (cq (K9 cols) cols) cols.length = true) : zI cols = false := by
 unfold zI; rw [h]; (first | done | rfl)
end
section
attribute [-simp] Fw.W.bD Fw.W.bB
structure aK.Bd (S : aK) : Prop where
 tabs : S.tabs.length ≤ 6
 each : ∀ T ∈ S.tabs, 1 ≤ T.cols.length ∧ T.cols.length ≤ 8 ∧ T.idxs.length ≤ 8 ∧ T.keys.length ≤ 8
 last : 0 ≤ S.last ∧ S.last ≤ 1125899906842624
section
variable {s : PH} {b : Nat} {S : aK} {t : aU} {ps : List aD} {i g : Nat} {p : aD}
end
end
section
attribute [-simp] Fw.W.bD Fw.W.bB
section
variable {s : PH} {b : Nat} {S : aK} {t : aU} {ps : List aD} {i g : Nat} {p : aD}
end
end
section
attribute [-simp] Fw.W.bD Fw.W.bB
theorem uV {b : Bool} (h : (!b) = false) : b = true := by cases b <;> simp_all
section
variable {s : PH} {b : Nat} {S : aK} {t : aU} {ps : List aD}
end
theorem tY {S : aK} (h : right S = true) : S.Bd ∧ 0 ≤ S.version ∧ S.version ≤ 1125899906842624 := by
 obtain ⟨a, b, c, d, e⟩ := eB.1 h;unfold jS at a;simp only [Bool.and_eq_true, decide_eq_true_eq] at a;refine ⟨⟨b, fun T hT => ?_, a.2.2.1, a.2.2.2⟩, a.1, a.2.1⟩;obtain ⟨i, hi⟩ := List.mem_iff_getElem?.1 hT;obtain ⟨x1, x2, x3, x4, _⟩ := gr.1 (ct.1 d i T hi);exact ⟨x1, x2, x3, x4⟩
def oV (s : PH) (S' : aK) (e : Int) (y : Value) (s' : PH) : Prop :=
 ∃ t' ps', y = .tuple #[fj S' t', .int .i64 e] ∧ Has s' t' ps' ∧ S'.tabs = ps'.map (·.T) ∧ Fw.Mod [] s s' ∧ ∀ g ∈ jc t' ps', s g = none
theorem tL {s s' : PH} {e : Int} (m : Fw.Mod [] s s') : oV s eY e (.tuple #[fj eY dQ, .int .i64 e]) s' := ⟨dQ, [], rfl, Has.nil _, rfl, m, by simp [jc, Fw.aW]⟩
end
section
attribute [-simp] Fw.W.bD Fw.W.bB
theorem grow {α : Type} {E : cO α} {e : TypeId} {bytes : Nat} {zero : List Value} {s0 s : PH} {a : OA} {n c : Nat} {xs : List α} {x : α} {K : OA → Nat → Nat → W.T} (h : bq E s e a n c xs) (hf : ∀ g ∈ Fw.aW a, s0 g = none) (m : Fw.Mod [] s0 s)
  (hz : zero.length = E.sz) (hl : xs.length ≤ 1099511627) (hby : bytes ≤ 100) (hK : ∀ a' c' s', bq E s' e a' (n + 1) c' (xs ++ [x]) → (∀ g ∈ Fw.aW a', s0 g = none) → Fw.Mod [] s0 s' → K a' (n + 1) c' s') :
  W.nw (.cells (E.f x).toArray e (0, 0)) (fun r => W.app e E.sz bytes zero a n c (Src.sl (some ⟨r, 0, none⟩) 1) K) s := by
 refine W.bI fun r s1 hr m1 k1 => ?_;have hmax : maxLen = 9223372036854775807 := rfl;have hn : n = xs.length := h.len;have hb : (n + 1) * bytes ≤ (n + 1) * 100 := Nat.mul_le_mul_left _ hby;refine jk (h.mod m1 (by simp)) hz (ys := [x]) (k := 1) (wP (by have := j8 k1; simpa using this) rfl) rfl rfl (by omega) (by omega) ?_;intro a' c' s2 h' hm;refine hK a' c' s2 h' ?_ ?_
 ·rcases hm with ⟨e, _⟩ | ⟨g, e, hg, _⟩
  ·rw [e]; exact hf
  ·intro g' hg';rw [e] at hg'
   have : g' = g := by simpa [Fw.aW] using hg'
   subst this;exact (m.trans m1).none hg (by simp)
 ·rcases hm with ⟨_, hm⟩ | ⟨_, _, _, hm⟩
  ·exact (m.trans m1).fresh hm fun g hg => .inr (hf g hg)
  ·exact (m.trans m1).trans hm
def Kj (s : PH) (S' : aK) (y : Value) (s' : PH) : Prop :=
 ∃ t' ps', y = fj S' t' ∧ Has s' t' ps' ∧ S'.tabs = ps'.map (·.T) ∧ Fw.Mod [] s s' ∧ ∀ g ∈ jc t' ps', s g = none
theorem Ji {s : PH} {t : aU} {S : aK} {ps : List aD} (h : dO s t S ps) : ah 83 #[fj S t] s (Kj s S) := by
 obtain ⟨ta, tn, tc⟩ := t;refine HL S.version S.last ta tn tc _ s ?_;unfold Bf;have htn : tn = ps.length := h.el.len;have hfew := h.el.dF
 have hpl : S.tabs.length = ps.length := by rw [h.eq]; simp
 simp only [cE, aR, aY, bM, aF, bY, cX, ir, bL, aT, aP, aQ, mQ, qt, mI, oe, W.ay]
 refine ⟨fun z s' => ∃ (k a2 a3 : Nat) (a1 : OA) (pc : List aD), z = ((S.version, S.last, (ta, tn, tc), ()), (0, 0, (none, 0, 0), ()), ((a1, a2, a3), ()), ((k : Int), ()), ()) ∧ k ≤ tn ∧ Has s' (a1, a2, a3) pc ∧ S.tabs.take k = pc.map (·.T) ∧ Fw.Mod [] s s' ∧ ∀ g ∈ jc (a1, a2, a3) pc, s g = none,
  fun z _ => tn - z.2.2.2.1.1.toNat, ⟨0, 0, 0, none, [], rfl, Nat.zero_le _, Has.nil _, rfl, Mod.refl _ _, by simp [jc, Fw.aW]⟩, ?_⟩
 rintro _ s1 ⟨k, a2, a3, a1, pc, rfl, hk, hH, he, m1, hf⟩;simp only [W.af, decide_eq_true_eq, decide_eq_false_iff_not];refine ⟨fun hlt => ?_, fun hge => ?_⟩
 ·have hlt : k < tn := by omega
  obtain ⟨p, hp⟩ : ∃ p, ps[k]? = some p := ⟨_, List.getElem?_eq_getElem (by omega)⟩
  have hT : S.tabs[k]? = some p.T := by rw [h.eq, List.getElem?_map, hp]; (first | done | rfl)
  have hS1 := h.mono m1.le;obtain ⟨ad, had, hh⟩ := hS1.el.el.aG hp;dsimp only at had;subst had;refine ⟨by omega, ?_⟩;simp only [W.ay, Int.toNat_natCast];refine aE hh (y := (p.T.id, p.T.name, p.c, p.x, p.k, ())) rfl ?_;have hP := hS1.all p (get_mem hp);have b1 := hP.c.dF;have b2 := hP.x.dF;have b3 := hP.k.dF;have l1 := hP.c.len;have l2 := hP.x.len;have l3 := hP.k.len;refine nq (E := dw) (k := p.c.2.1) hP.c.el.lE rfl l1.symm (by omega) (by omega) rfl ?_;intro u1 c1 s2 r1 m2 f1;refine nq (E := jY) (k := p.x.2.1) (hP.mono m2.le).x.el.lE rfl l2.symm (by omega) (by omega) rfl ?_;intro u2 c2 s3 r2 m3 f2;refine nq (E := l9) (k := p.k.2.1) (hP.mono (m2.trans m3).le).k.el.lE rfl l3.symm (by omega) (by omega) rfl ?_;intro u3 c3 s4 r3 m4 f3;have m24 := (m2.trans m3).trans m4
  have hpcl : pc.length = k := by
   have := congrArg List.length he;simp only [List.length_map, List.length_take] at this;omega
  have hn1 : ∀ g ∈ Fw.aW u1 ++ (Fw.aW u2 ++ Fw.aW u3), s1 g = none := by
   intro g hg;simp only [List.mem_append] at hg;rcases hg with hg | hg | hg
   ·exact f1 g hg
   ·exact m2.none (f2 g hg) (by simp)
   ·exact (m2.trans m3).none (f3 g hg) (by simp)
  have hH4 := hH.mod m24 (by simp);refine hH4.push (p := ⟨p.T, (u1, p.c.2.1, c1), (u2, p.x.2.1, c2), (u3, p.k.2.1, c3)⟩) ⟨(r1.mod m3 (by simp)).mod m4 (by simp), r2.mod m4 (by simp), r3⟩ ?_ (fun g hg hg2 => hH.known g hg2 (hn1 g hg)) (by omega) ?_
  ·simp only [aD.L, List.nodup_append];refine ⟨j5 _, ⟨j5 _, j5 _, ?_⟩, ?_⟩
   ·rintro g hg _ hg2 rfl;exact r2.known g hg (f3 g hg2)
   ·rintro g hg _ hg2 rfl;rcases List.mem_append.1 hg2 with hg2 | hg2
    ·exact r1.known g hg (f2 g hg2)
    ·exact (r1.mod m3 (by simp)).known g hg (f3 g hg2)
  ·intro a' c' s5 h5 st5;rw [aj (k := k) (by omega)];have m14 : Fw.Mod [] s s4 := m1.trans m24;refine ⟨⟨k + 1, a2 + 1, c', a', pc ++ [⟨p.T, (u1, p.c.2.1, c1), (u2, p.x.2.1, c2), (u3, p.k.2.1, c3)⟩], rfl, hlt, h5, ?_, ?_, ?_⟩, by simp only [Int.toNat_natCast]; omega⟩
   ·rw [List.take_add_one, hT, he]; simp
   ·refine m14.fresh st5.mod fun x hx => ?_;rcases List.mem_append.1 hx with hx | hx
    ·exact .inr (hf x hx)
    ·exact .inr (m1.none (hn1 x hx) (by simp))
   ·intro g hg;rcases st5.new g hg with e | e
    ·rcases List.mem_append.1 e with e | e
     ·exact hf g e
     ·exact m1.none (hn1 g e) (by simp)
    ·exact m14.none e (by simp)
 ·have hall : S.tabs.take k = S.tabs := List.take_of_length_le (by omega);rw [hall] at he;exact ⟨(a1, a2, a3), pc, rfl, hH, he, m1, hf⟩
def Gt (r : ie) (L : List Nat) (s : PH) (y : Value) (s' : PH) : Prop := match r with
 | .error e => (∃ S'' t'', y = .tuple #[fj S'' t'', .int .i64 e]) ∧ Fw.Mod L s s'
 | .ok S' => ∃ t' ps', y = .tuple #[fj S' t', .int .i64 0] ∧ Has s' t' ps' ∧ S'.tabs = ps'.map (·.T) ∧ Step L (jc t' ps') s s'
theorem EB {s : PH} {t : aU} {S : aK} {ps : List aD} (hH : Has s t ps) (he : S.tabs = ps.map (·.T)) (hb : S.Bd) (D : nZ) {u : aU} (hu : Sl dw s u D.cols) (hul : D.cols.length ≤ 1073741824) (st : Int) :
  ah 84 #[fj S t, G5 D u, .int .i64 st] s (Gt (cA S D st) (jc t ps) s) := by
 obtain ⟨ta, tn, tc⟩ := t;obtain ⟨ua, un, uc⟩ := u;refine DG S.version S.last ta tn tc D.kind D.table D.name D.column D.parent D.unique D.type D.dflt.kind D.dflt.n D.dflt.s ua un uc st _ s ?_;unfold vC;have hun : un = D.cols.length := hu.len;have htn : tn = ps.length := hH.row.len
 have hpl : S.tabs.length = ps.length := by rw [he]; simp
 obtain ⟨R, hR⟩ : ∃ R, Gt (cA S D st) (jc (ta, tn, tc) ps) s = R := ⟨_, rfl⟩
 have hret : ∀ {e : Int} {s'}, cA S D st = .error e → Fw.Mod [] s s' → R (.tuple #[fj S (ta, tn, tc), .int .i64 e]) s' := fun e1 m => by
  rw [← hR, e1]; exact ⟨⟨S, (ta, tn, tc), rfl⟩, m.mono (by simp)⟩
 rw [hR];have hlast := hb.last;have hSch : dO s (ta, tn, tc) S ps := hH.is he (by have := hb.tabs; omega) (fun T hT => by obtain ⟨_, a, b, c⟩ := hb.each T hT; exact ⟨by omega, by omega, by omega⟩);simp only [cE, aR, aY, bM, aF, bY, cX, ir, bL, aT, aP, aQ, mQ, qt, mI, oe, W.ay];refine aN ((named D.table, ()), ()) (lf D.table s) rfl ?_;simp only [W.af]
 have hbad1 : ¬ (named D.table = true ∧ ∀ c ∈ D.cols, named c.name = true) → cA S D st = .error 100 := by
  intro e;unfold cA;rw [if_pos];cases hN : (named D.table && D.cols.all fun c => named c.name)
  ·rfl
  ·simp only [Bool.and_eq_true, List.all_eq_true] at hN;exact absurd hN e
 refine ⟨fun hN => hret (hbad1 fun e => by rw [e.1] at hN; cases hN) (Mod.refl _ _), fun hN => ?_⟩;have hN : named D.table = true := uV hN
 refine ⟨fun z s' => ∃ k : Nat, z = ((S.version, S.last, (ta, tn, tc), ()), (D.kind, D.table, D.name, D.column, D.parent, D.unique, D.type, D.dflt.kind, D.dflt.n, D.dflt.s, (ua, un, uc), ()), (0, 0, (none, 0, 0), ()), ((k : Int), ()), ()) ∧ k ≤ un ∧ s' = s ∧ ∀ c ∈ D.cols.take k, named c.name = true,
  fun z _ => un - z.2.2.2.1.1.toNat, ⟨0, rfl, Nat.zero_le _, rfl, by simp⟩, ?_⟩
 rintro _ s0 ⟨k, rfl, hk, rfl, hnames⟩;simp only [W.af, decide_eq_true_eq, decide_eq_false_iff_not];refine ⟨fun hlt => ?_, fun hge => ?_⟩
 ·have hlt : k < un := by omega
  obtain ⟨x, hx⟩ : ∃ x, D.cols[k]? = some x := ⟨_, List.getElem?_eq_getElem (by omega)⟩
  obtain ⟨ad, had, hh⟩ := hu.el.aG hx;dsimp only at had;subst had;refine ⟨by omega, ?_⟩;simp only [W.ay, Int.toNat_natCast];refine bl (j := 1) hh (cs := [.str]) (y := (x.name, ())) rfl ?_;refine aN ((named x.name, ()), ()) (lf x.name _) rfl ?_;simp only [W.af];refine ⟨fun h1 => hret (hbad1 fun e => by rw [e.2 x (List.mem_of_getElem? hx)] at h1; cases h1) (Mod.refl _ _), fun h1 => ?_⟩;rw [aj (k := k) (by omega)];refine ⟨⟨k + 1, rfl, hlt, by trivial, ?_⟩, by simp only [Int.toNat_natCast]; omega⟩;intro c hc;rw [List.take_add_one, hx] at hc;rcases List.mem_append.1 hc with hc | hc
  ·exact hnames c hc
  ·have : c = x := by simpa using hc
   rw [this]; exact uV h1
 have hall : D.cols.take k = D.cols := List.take_of_length_le (by omega);rw [hall] at hnames
 have hok1 : ¬ (named D.table && D.cols.all fun c => named c.name) = false := by
  have : (named D.table && D.cols.all fun c => named c.name) = true := by simp only [Bool.and_eq_true, List.all_eq_true]; exact ⟨hN, hnames⟩
  rw [this]; simp
 refine aN ((fI S D.table, ()), ()) (oY (t := (ta, tn, tc)) hSch D.table) rfl ?_;simp only [W.af, decide_eq_true_eq, decide_eq_false_iff_not]
 have hbad2 : ¬ (fI S D.table < 0 ∧ zI D.cols = false) → cA S D st = .error 152 := by
  intro e;unfold cA;rw [if_neg hok1, if_pos];cases hd : zI D.cols
  ·simp only [Bool.or_false, decide_eq_true_eq];have : ¬ fI S D.table < 0 := fun e2 => e ⟨e2, hd⟩;omega
  ·simp
 refine ⟨fun h1 => hret (hbad2 fun e => by omega) (Mod.refl _ _), fun h1 => ?_⟩;have hwl : i64.wrap (S.last + 1) = S.last + 1 := bQ (by omega) (by omega);rw [hwl]
 refine ⟨fun z s' => ∃ k : Nat, z = ((S.version, S.last, (ta, tn, tc), ()), (D.kind, D.table, D.name, D.column, D.parent, D.unique, D.type, D.dflt.kind, D.dflt.n, D.dflt.s, (ua, un, uc), ()), (0, 0, (none, 0, 0), ()), (S.last + 1, D.table, (ua, un, uc), (none, 0, 0), (none, 0, 0), ()), ((k : Int), ()), ()) ∧ k ≤ un ∧ s' = s0 ∧ upTo (cq (K9 D.cols) D.cols) k = true,
  fun z _ => un - z.2.2.2.2.1.1.toNat, ⟨0, rfl, Nat.zero_le _, rfl, rfl⟩, ?_⟩
 rintro _ s1 ⟨k, rfl, hk, rfl, hone⟩;simp only [W.af, decide_eq_true_eq, decide_eq_false_iff_not];refine ⟨fun hlt => ?_, fun hge => ?_⟩
 ·have hlt : k < un := by omega
  obtain ⟨x, hx⟩ : ∃ x, D.cols[k]? = some x := ⟨_, List.getElem?_eq_getElem (by omega)⟩
  obtain ⟨ad, had, hh⟩ := hu.el.aG hx;dsimp only at had;subst had;refine ⟨by omega, ?_⟩;simp only [W.ay, Int.toNat_natCast];refine bl (j := 1) hh (cs := [.str]) (y := (x.name, ())) rfl ?_;refine W.bF ((fT ⟨S.last + 1, D.table, D.cols, [], []⟩ x.name, ()), ()) (sC (p := ⟨⟨S.last + 1, D.table, D.cols, [], []⟩, (some ad, un, uc), dQ, dQ⟩) hu x.name) rfl ?_;simp only [W.af];have hk' : D.cols.length = un := hun.symm;refine ⟨fun h2 => hret (hbad2 fun e => ?_) (Mod.refl _ _), fun h2 => ?_⟩
  ·have h2 : fT ⟨S.last + 1, D.table, D.cols, [], []⟩ x.name ≠ (k : Int) := by simpa using h2
   have e2 := e.2;unfold zI at e2;have e2 := pX.1 (uV e2) k (by omega);rw [dD hx] at e2;exact h2 (by unfold fT; simpa using e2)
  ·have h2 : fT ⟨S.last + 1, D.table, D.cols, [], []⟩ x.name = (k : Int) := by simpa using h2
   rw [aj (k := k) (by omega)];refine ⟨⟨k + 1, rfl, hlt, by trivial, ?_⟩, by simp only [Int.toNat_natCast]; omega⟩;rw [eT, hone, dD hx, Bool.true_and];exact decide_eq_true h2
 have hke : k = D.cols.length := by omega
 subst hke;have hdbl := KJ hone
 have hok2 : ¬ (decide (0 ≤ fI S D.table) || zI D.cols) = true := by
  rw [hdbl, Bool.or_false, decide_eq_true_eq]; omega
 have hbad3 : (6 ≤ S.tabs.length ∨ D.cols.length < 1 ∨ 8 < D.cols.length) → cA S D st = .error 156 := fun e => by
  unfold cA; rw [if_neg hok1, if_neg hok2, if_pos (by simp only [Bool.or_eq_true, decide_eq_true_eq]; exact e)]
 refine W.bp (fun z s' => z = ((S.version, S.last, (ta, tn, tc), ()), (D.kind, D.table, D.name, D.column, D.parent, D.unique, D.type, D.dflt.kind, D.dflt.n, D.dflt.s, (ua, un, uc), ()), (0, 0, (none, 0, 0), ()), (S.last + 1, D.table, (ua, un, uc), (none, 0, 0), (none, 0, 0), ()), ()) ∧ s' = s1 ∧ ¬ (6 ≤ S.tabs.length ∨ D.cols.length < 1 ∨ 8 < D.cols.length)) ?_ ?_;rotate_left
 ·intro J hJ;simp only [W.af, decide_eq_true_eq, decide_eq_false_iff_not];refine ⟨fun h2 => hret (hbad3 (by omega)) (Mod.refl _ _), fun h2 => ⟨fun h3 => hret (hbad3 ?_) (Mod.refl _ _), fun h3 => ⟨fun h4 => hret (hbad3 (by omega)) (Mod.refl _ _), fun h4 => hJ _ _ ⟨rfl, rfl, ?_⟩⟩⟩⟩
  ·have h3 : (un : Int) = 0 := by simpa using h3
   omega
  ·have h3 : (un : Int) ≠ 0 := by simpa using h3
   omega
 rintro _ s2 ⟨rfl, rfl, hnum⟩
 have hok3 : ¬ (decide (6 ≤ S.tabs.length) || (decide (D.cols.length < 1) || decide (8 < D.cols.length))) = true := by
  simp only [Bool.or_eq_true, decide_eq_true_eq]; exact hnum
 have hbad4 : ¬ (∀ c ∈ D.cols, typed c.kind = true) → cA S D st = .error 154 := by
  intro e;unfold cA;rw [if_neg hok1, if_neg hok2, if_neg hok3, if_pos];cases hN : (D.cols.all fun c => typed c.kind)
  ·rfl
  ·simp only [List.all_eq_true] at hN;exact absurd hN e
 refine ⟨fun z s' => ∃ (k n c : Nat) (a : OA), z = ((S.version, S.last, (ta, tn, tc), ()), (D.kind, D.table, D.name, D.column, D.parent, D.unique, D.type, D.dflt.kind, D.dflt.n, D.dflt.s, (ua, un, uc), ()), (0, 0, (none, 0, 0), ()), (S.last + 1, D.table, (a, n, c), (none, 0, 0), (none, 0, 0), ()), ((k : Int), ()), ()) ∧ k ≤ un ∧
  bq dw s' 165 a n c (eZ (S.last + 2) (D.cols.take k)) ∧ (∀ g ∈ Fw.aW a, s2 g = none) ∧ Fw.Mod [] s2 s' ∧ ∀ c ∈ D.cols.take k, typed c.kind = true, fun z _ => un - z.2.2.2.2.1.1.toNat, ⟨0, 0, 0, none, rfl, Nat.zero_le _, bq.nil, by simp [Fw.aW], Mod.refl _ _, by simp⟩, ?_⟩
 rintro _ s3 ⟨k, n, c, a, rfl, hk, hrow, hfr, m3, htyp⟩;simp only [W.af, decide_eq_true_eq, decide_eq_false_iff_not];refine ⟨fun hlt => ?_, fun hge => ?_⟩
 ·have hlt : k < un := by omega
  obtain ⟨x, hx⟩ : ∃ x, D.cols[k]? = some x := ⟨_, List.getElem?_eq_getElem (by omega)⟩
  have hu3 := hu.mono m3.le;obtain ⟨ad, had, hh⟩ := hu3.el.aG hx;dsimp only at had;subst had
  have hn : n = k := by have := hrow.len; rw [mC, List.length_take] at this; omega
  refine ⟨by omega, ?_⟩;simp only [W.ay, Int.toNat_natCast];refine bl (j := 2) hh (cs := [.int .i64]) (y := (x.kind, ())) rfl ?_;refine aN ((typed x.kind, ()), ()) (tr x.kind _) rfl ?_;simp only [W.af];refine ⟨fun h1 => hret (hbad4 fun e => by rw [e x (List.mem_of_getElem? hx)] at h1; cases h1) m3, fun h1 => ?_⟩;refine ⟨by omega, ?_⟩;simp only [W.ay, Int.toNat_natCast];refine bl (j := 1) hh (cs := [.str]) (y := (x.name, ())) rfl ?_;refine ⟨by omega, ?_⟩;simp only [W.ay, Int.toNat_natCast];refine bl (j := 2) hh (cs := [.int .i64]) (y := (x.kind, ())) rfl ?_
  have hid : i64.wrap (i64.wrap (S.last + 2) + (k : Int)) = S.last + 2 + k := by
   rw [bQ (n := S.last + 2) (by omega) (by omega), bQ (by omega) (by omega)]
  rw [hid];refine grow (E := dw) (x := ⟨S.last + 2 + k, x.name, x.kind, 3, ⟨0, 0, ⟨#[]⟩⟩⟩) hrow hfr m3 rfl (by rw [mC, List.length_take]; omega) (by omega) ?_;intro a' c' s4 h4 f4 m4;rw [aj (k := k) (by omega)]
  have hsnoc : eZ (S.last + 2) (D.cols.take (k + 1)) = eZ (S.last + 2) (D.cols.take k) ++ [⟨S.last + 2 + k, x.name, x.kind, 3, ⟨0, 0, ⟨#[]⟩⟩⟩] := by
   have : D.cols.take (k + 1) = D.cols.take k ++ [x] := by rw [List.take_add_one, hx]; (first | done | rfl)
   rw [this, sH, List.length_take, Nat.min_eq_left (by omega)]
  refine ⟨⟨k + 1, n + 1, c', a', rfl, hlt, by rw [hsnoc]; exact h4, f4, m4, ?_⟩, by simp only [Int.toNat_natCast]; omega⟩;intro c hc;rw [List.take_add_one, hx] at hc;rcases List.mem_append.1 hc with hc | hc
  ·exact htyp c hc
  ·have : c = x := by simpa using hc
   rw [this]; exact uV h1
 have hall : D.cols.take k = D.cols := List.take_of_length_le (by omega);rw [hall] at hrow htyp
 have hok4 : ¬ (D.cols.all fun c => typed c.kind) = false := by
  have : (D.cols.all fun c => typed c.kind) = true := by simp only [List.all_eq_true]; exact htyp
  rw [this]; simp
 refine ⟨fun h5 => hret (by unfold cA; rw [if_neg hok1, if_neg hok2, if_neg hok3, if_neg hok4, if_pos (by simpa using h5)]) m3, fun h5 => ?_⟩
 have hTurn : cA S D st = .ok ⟨S.version, S.last + 1 + D.cols.length, S.tabs ++ [⟨S.last + 1, D.table, eZ (S.last + 2) D.cols, [], []⟩]⟩ := by
  unfold cA; rw [if_neg hok1, if_neg hok2, if_neg hok3, if_neg hok4, if_neg (by simpa using h5)]
 have hH3 := hH.mod m3 (by simp)
 have hL1 : ∀ g ∈ (aD.mk ⟨S.last + 1, D.table, eZ (S.last + 2) D.cols, [], []⟩ (a, n, c) dQ dQ).L, s2 g = none := by
  intro g hg;refine hfr g ?_;simpa [aD.L, Fw.aW] using hg
 refine hH3.push (p := ⟨⟨S.last + 1, D.table, eZ (S.last + 2) D.cols, [], []⟩, (a, n, c), dQ, dQ⟩) ⟨hrow, bq.nil, bq.nil⟩ (by simpa [aD.L, Fw.aW] using j5 a) (fun g hg hg2 => hH.known g hg2 (hL1 g hg)) (by have := hb.tabs; omega) ?_;intro a' c' s5 h5 st5;rw [← hR, hTurn]
 have hw2 : i64.wrap (S.last + 1 + (un : Int)) = S.last + 1 + D.cols.length := by rw [bQ (by omega) (by omega), hun]
 rw [hwl, hw2];refine ⟨(a', tn + 1, c'), _, rfl, h5, by simp [he], ⟨?_, ?_⟩⟩
 ·refine (m3.mono (by simp)).fresh st5.mod fun x hx => ?_;rcases List.mem_append.1 hx with hx | hx
  ·exact .inl hx
  ·exact .inr (hL1 x hx)
 ·intro x hx;rcases st5.new x hx with e | e
  ·rcases List.mem_append.1 e with e | e
   ·exact .inl e
   ·exact .inr (hL1 x e)
  ·exact .inr (m3.none e (by simp))
end
section
attribute [-simp] Fw.W.bD Fw.W.bB
structure aK.Sn (S : aK) : Prop where
 c : ∀ T ∈ S.tabs, ∀ x ∈ T.cols, x.state ≠ 0
 x : ∀ T ∈ S.tabs, ∀ x ∈ T.idxs, x.state ≠ 0
 k : ∀ T ∈ S.tabs, ∀ x ∈ T.keys, x.state ≠ 0
def pos (k : Nat) (st : Int) (j : Nat) : Nat := if st = 0 ∧ k < j then j - 1 else j
theorem DX {α : Type} {l : List α} {k : Nat} {st : Int} {x' : α} : (lW l k st x').length ≤ l.length := by
 unfold lW; split
 ·rw [List.length_eraseIdx]; split <;> omega
 ·rw [List.length_set]; exact Nat.le_refl _
section
variable {s : PH} {S : aK} {t : aU} {ps : List aD} {i : Nat} {p : aD}
end
end
section
attribute [-simp] Fw.W.bD Fw.W.bB
theorem rG {n : Int} (h : dL n = true) : n ≠ 0 := by
 unfold dL at h;simp only [Bool.and_eq_true, decide_eq_true_eq] at h;omega
theorem Ii {S : aK} (h : right S = true) : S.Sn := by
 obtain ⟨a, b, c, d, e⟩ := eB.1 h;refine ⟨fun T hT x hx => ?_, fun T hT x hx => ?_, fun T hT x hx => ?_⟩
 all_goals
  obtain ⟨i, hi⟩ := List.mem_iff_getElem?.1 hT;obtain ⟨_, _, _, _, _, _, _, _, c1, c2, c3⟩ := gr.1 (ct.1 d i T hi);obtain ⟨j, hj⟩ := List.mem_iff_getElem?.1 hx
 ·have := ct.1 c1 j x hj;unfold gl at this;simp only [Bool.and_eq_true] at this;exact rG this.1
 ·have := ct.1 c2 j x hj;unfold iA at this;simp only [Bool.and_eq_true] at this;exact rG this.1
 ·have := ct.1 c3 j x hj;unfold iE at this;simp only [Bool.and_eq_true] at this;exact rG this.1
def ie.out (r : ie) : aK × Int := match r with
 | .error e => (eY, e)
 | .ok S' => (S', 0)
theorem FQ {s s1 s2 : PH} {L : List Nat} {r : ie} {y : Value} (ho : Gt r L s1 y s2) (m1 : Fw.Mod [] s s1) (hf : ∀ g ∈ L, s g = none) (her : r.kq) {r' : aK × Int} (hr : r' = r.out) {K : W.T}
  {k : bX [(true, [.int .i64, .int .i64, .slice]), (false, [.int .i64])] → W.T}
  (hk0 : ∀ (S'' : aK) (t'' : aU) (e : Int), e ≠ 0 → oV s eY e (.tuple #[fj eY dQ, .int .i64 e]) s2 → r' = (eY, e) → k ((S''.version, S''.last, t'', ()), (e, ()), ()) s2)
  (hk1 : ∀ (S' : aK) (t' : aU), oV s S' 0 (.tuple #[fj S' t', .int .i64 0]) s2 → r' = (S', 0) → k ((S'.version, S'.last, t', ()), (0, ()), ()) s2) :
  ∃ x, gI (true, [(true, [.int .i64, .int .i64, .slice]), (false, [.int .i64])]) x = y ∧ k x s2 := by
 cases r with
 | error e =>
  obtain ⟨⟨S'', t'', rfl⟩, m2⟩ := ho;refine ⟨((S''.version, S''.last, t'', ()), (e, ()), ()), rfl, hk0 S'' t'' e (her e rfl) (tL (m1.fresh m2 fun g hg => .inr (hf g hg))) hr⟩
 | ok S' =>
  obtain ⟨t', ps', rfl, hH, he, st⟩ := ho;refine ⟨((S'.version, S'.last, t', ()), (0, ()), ()), rfl, hk1 S' t' ⟨t', ps', rfl, hH, he, m1.fresh st.mod fun g hg => .inr (hf g hg), fun g hg => ?_⟩ hr⟩;rcases st.new g hg with e | e
  ·exact hf g e
  ·exact m1.none e (by simp)
end
section
theorem j3 {t : BA} (h : named t = true) : t.size ≤ 281474976710656 := by
 unfold named at h;simp only [Bool.and_eq_true, decide_eq_true_eq] at h;omega
theorem Ix {v : aH} (h : bA v = true) : v.s.size ≤ 281474976710656 := by
 unfold bA at h
 split at h
 ·simp only [Bool.and_eq_true, decide_eq_true_eq] at h;rw [h.2]; exact Nat.zero_le _
 ·split at h
  ·simp only [decide_eq_true_eq] at h;rw [h]; exact Nat.zero_le _
  ·split at h
   ·simp only [Bool.and_eq_true, decide_eq_true_eq] at h;omega
   ·cases h
theorem B9 {v : aH} {k : Int} (h : fits v k = true) : v.s.size ≤ 281474976710656 := by
 unfold fits at h;simp only [Bool.and_eq_true] at h;exact Ix h.1
theorem tJ {t : BA} {n : Int} (h : ¬ (lS t n ≠ 0)) : t.size ≤ 281474976710656 := by
 refine j3 ?_;cases hn : named t
 ·exact absurd (by unfold lS; rw [if_pos hn]; decide) h
 ·rfl
theorem pN {α : Type} {l : List α} {k : Nat} {st : Int} {x' y : α} (h : y ∈ lW l k st x') : y ∈ l ∨ y = x' := by
 unfold lW at h
 split at h
 ·exact .inl (List.mem_of_mem_eraseIdx h)
 ·exact List.mem_or_eq_of_mem_set h
theorem rj {α : Type} {l : List α} {k : Nat} {st : Int} {x' : α} : (lW l k st x').length ≤ l.length := DX
theorem Ga {α : Type} {f : α → Nat} {b : Nat} : ∀ (l : List α), (∀ x ∈ l, f x ≤ b) → (l.map f).sum ≤ l.length * b
 | [], _ => by simp
 | x :: l, h => by
  have h1 := h x (by simp);have h2 := Ga l fun y hy => h y (by simp [hy]);simp only [List.map_cons, List.sum_cons, List.length_cons, Nat.succ_mul];omega
theorem IV {S : aK} (h : ∀ T ∈ S.tabs, T.Sm ∧ T.cost ≤ 28) (hl : S.tabs.length ≤ 10) : S.Sm := by
 refine ⟨fun T hT => (h T hT).1, ?_⟩;have := Ga (f := az.cost) (b := 28) S.tabs fun T hT => (h T hT).2;unfold aK.cost;omega
theorem Ih {S : aK} (h : right S = true) : ∀ T ∈ S.tabs, T.Sm ∧ T.cost ≤ 25 ∧ T.cols.length ≤ 8 ∧ T.idxs.length ≤ 8 ∧ T.keys.length ≤ 8 := by
 obtain ⟨a, b, c, d, e⟩ := eB.1 h;intro T hT;obtain ⟨i, hi⟩ := List.mem_iff_getElem?.1 hT;obtain ⟨l1, l2, l3, l4, n1, n2, n3, _, c1, _, _⟩ := gr.1 (ct.1 d i T hi);have hn := ct.1 c i T hi;unfold dP at hn;simp only [Bool.and_eq_true] at hn;refine ⟨⟨j3 hn.1, fun x hx => ?_, fun x hx => ?_, fun x hx => ?_⟩, by unfold az.cost; omega, l2, l3, l4⟩
 ·obtain ⟨j, hj⟩ := List.mem_iff_getElem?.1 hx;have g1 := ct.1 n1 j x hj;have g2 := ct.1 c1 j x hj;unfold eO at g1;unfold gl at g2;simp only [Bool.and_eq_true] at g1 g2;exact ⟨j3 g1.1, B9 g2.2.2⟩
 ·obtain ⟨j, hj⟩ := List.mem_iff_getElem?.1 hx;have g1 := ct.1 n2 j x hj;unfold eX at g1;simp only [Bool.and_eq_true] at g1;exact j3 g1.1
 ·obtain ⟨j, hj⟩ := List.mem_iff_getElem?.1 hx;have g1 := ct.1 n3 j x hj;unfold eW at g1;simp only [Bool.and_eq_true] at g1;exact j3 g1.1
theorem xq : ∀ (l : List cm) (n : Int), (∀ c ∈ l, c.name.size ≤ 281474976710656) → ∀ c ∈ eZ n l, c.Sm
 | [], n, _ => by simp [eZ]
 | d :: l, n, h => by
  intro c hc;simp only [eZ, List.mem_cons] at hc;rcases hc with rfl | hc
  ·exact ⟨h d (by simp), Nat.zero_le _⟩
  ·exact xq l _ (fun x hx => h x (by simp [hx])) c hc
def ie.vR (r : ie) : Prop := ∀ S', r = .ok S' → S'.Sm
theorem cv {c : Prop} [Decidable c] {a b : ie} (ha : c → a.vR) (hb : ¬ c → b.vR) : ie.vR (if c then a else b) := by
 by_cases h : c
 ·rw [if_pos h]; exact ha h
 ·rw [if_neg h]; exact hb h
theorem cW {e : Int} : ie.vR (.error e) := fun S' h' => by cases h'
theorem pS {S : aK} (h : S.Sm) : ie.vR (.ok S) := fun e' h' => by cases h'; exact h
theorem oF {S : aK} {v l : Int} {i : Nat} {T T' : az} (h : ∀ T ∈ S.tabs, T.Sm ∧ T.cost ≤ 25 ∧ T.cols.length ≤ 8 ∧ T.idxs.length ≤ 8 ∧ T.keys.length ≤ 8) (hl : S.tabs.length ≤ 6) (h1 : T'.Sm) (h2 : T'.cost ≤ 28) : aK.Sm ⟨v, l, S.tabs.set i T'⟩ := by
 refine IV (fun U hU => ?_) (by simp; omega);rcases List.mem_or_eq_of_mem_set hU with hU | rfl
 ·obtain ⟨a, b, _⟩ := h U hU; exact ⟨a, by omega⟩
 ·exact ⟨h1, h2⟩
theorem It {S : aK} {D : nZ} {st : Int} (h : ∀ T ∈ S.tabs, T.Sm ∧ T.cost ≤ 25 ∧ T.cols.length ≤ 8 ∧ T.idxs.length ≤ 8 ∧ T.keys.length ≤ 8) (hl : S.tabs.length ≤ 6) : (lP S D st).vR := by
 unfold lP;refine cv (fun _ => ?_) fun _ => cv (fun _ => cW) fun _ => ?_
 ·unfold cA;refine cv (fun _ => cW) fun hn => cv (fun _ => cW) fun _ => cv (fun _ => cW) fun h8 => cv (fun _ => cW) fun _ => cv (fun _ => cW) fun _ => pS ?_
  have hn : (named D.table && D.cols.all fun c => named c.name) = true := by
   cases e : (named D.table && D.cols.all fun c => named c.name)
   ·exact absurd e hn
   ·rfl
  simp only [Bool.and_eq_true, List.all_eq_true] at hn;simp only [Bool.or_eq_true, decide_eq_true_eq] at h8;refine IV (fun U hU => ?_) (by simp; omega);rcases List.mem_append.1 hU with hU | hU
  ·obtain ⟨a, b, _⟩ := h U hU; exact ⟨a, by omega⟩
  ·have : U = ⟨S.last + 1, D.table, eZ (S.last + 2) D.cols, [], []⟩ := by simpa using hU
   subst this;refine ⟨⟨j3 hn.1, xq _ _ fun c hc => j3 (hn.2 c hc), by simp, by simp⟩, ?_⟩;unfold az.cost;simp only [mC, List.length_nil];omega
 split
 ·exact cW
 rename_i T hT
 obtain ⟨hTs, hTc, c8, x8, k8⟩ := h T (List.mem_of_getElem? hT);refine cv (fun _ => ?_) fun _ => cv (fun _ => ?_) fun _ => ?_
 ·unfold rT;refine cv (fun _ => cv (fun _ => cW) fun hf => cv (fun _ => cW) fun hk => cv (fun _ => cW) fun _ => pS ?_) fun _ => cv (fun _ => cW) fun _ => ?_
  ·have hk : (typed D.type && fits D.dflt D.type) = true := by
    cases e : (typed D.type && fits D.dflt D.type)
    ·exact absurd e hk
    ·rfl
   simp only [Bool.and_eq_true] at hk;refine oF (T := T) h hl ⟨hTs.name, fun x hx => ?_, hTs.idxs, hTs.keys⟩ (by unfold az.cost; simp only [List.length_append, List.length_singleton]; omega);rcases List.mem_append.1 hx with hx | hx
   ·exact hTs.cols x hx
   ·have : x = ⟨S.last + 1, D.column, D.type, st, D.dflt⟩ := by simpa using hx
    subst this;exact ⟨tJ hf, B9 hk.2⟩
  ·split
   ·exact cW
   rename_i x hx
   refine cv (fun _ => cW) fun _ => cv (fun _ => cW) fun _ => pS ?_;have hp := rj (l := T.cols) (k := (fT T D.column).toNat) (st := st) (x' := x.put st);refine oF (T := T) h hl ⟨hTs.name, fun y hy => ?_, hTs.idxs, hTs.keys⟩ (by unfold az.cost; dsimp only; omega);rcases pN hy with hy | rfl
   ·exact hTs.cols y hy
   ·exact hTs.cols x (List.mem_of_getElem? hx)
 ·unfold rW;refine cv (fun _ => cv (fun _ => cW) fun hf => cv (fun _ => cW) fun hk => cv (fun _ => cW) fun _ => ?_) fun _ => cv (fun _ => cW) fun _ => ?_
  ·split
   ·exact cW
   rename_i c hc
   refine pS (oF (T := T) h hl ⟨hTs.name, hTs.cols, fun x hx => ?_, hTs.keys⟩ (by unfold az.cost; simp only [List.length_append, List.length_singleton]; omega));rcases List.mem_append.1 hx with hx | hx
   ·exact hTs.idxs x hx
   ·have : x = ⟨S.last + 1, D.name, c.id, D.unique, st⟩ := by simpa using hx
    subst this;exact tJ hf
  ·split
   ·exact cW
   rename_i x hx
   refine cv (fun _ => cW) fun _ => pS ?_;have hp := rj (l := T.idxs) (k := (kI T D.name).toNat) (st := st) (x' := x.put st);refine oF (T := T) h hl ⟨hTs.name, hTs.cols, fun y hy => ?_, hTs.keys⟩ (by unfold az.cost; dsimp only; omega);rcases pN hy with hy | rfl
   ·exact hTs.idxs y hy
   ·exact hTs.idxs x (List.mem_of_getElem? hx)
 ·unfold rZ;refine cv (fun _ => cv (fun _ => cW) fun hf => cv (fun _ => cW) fun hk => cv (fun _ => cW) fun _ => ?_) fun _ => cv (fun _ => cW) fun _ => ?_
  ·split
   ·rename_i c P hc hP
    split
    ·exact cW
    ·refine cv (fun _ => cW) fun _ => cv (fun _ => cW) fun _ => pS (oF (T := T) h hl ⟨hTs.name, hTs.cols, hTs.idxs, fun x hx => ?_⟩ (by unfold az.cost; simp only [List.length_append, List.length_singleton]; omega));rcases List.mem_append.1 hx with hx | hx
     ·exact hTs.keys x hx
     ·have : x = ⟨S.last + 1, D.name, c.id, P.id, st⟩ := by simpa using hx
      subst this;exact tJ hf
   ·exact cW
  ·split
   ·exact cW
   rename_i x hx
   refine cv (fun _ => cW) fun _ => pS ?_;have hp := rj (l := T.keys) (k := (jU T D.name).toNat) (st := st) (x' := x.put st);refine oF (T := T) h hl ⟨hTs.name, hTs.cols, hTs.idxs, fun y hy => ?_⟩ (by unfold az.cost; dsimp only; omega);rcases pN hy with hy | rfl
   ·exact hTs.keys y hy
   ·exact hTs.keys x (List.mem_of_getElem? hx)
theorem Dr : eY.Sm := ⟨by simp, by simp [aK.cost]⟩
theorem Kd (S : aK) (D : nZ) (st : Int) : (S.lF D st).1.Sm := by
 unfold aK.lF
 by_cases hr : (right S && (decide (0 ≤ st) && decide (st ≤ 3))) = false
 ·rw [if_pos hr]; exact Dr
 rw [if_neg hr]
 have hr : right S = true := by
  cases e : right S
  ·rw [e] at hr; exact absurd rfl hr
  ·rfl
 split
 ·exact Dr
 ·have := It (S := { S with version := S.version + 1 }) (D := D) (st := st) (fun T hT => Ih hr T hT) (eB.1 hr).2.1
  cases e : lP { S with version := S.version + 1 } D st with
  | error e => exact Dr
  | ok S' => exact this S' e
theorem aK.Sm.dF {S : aK} (h : S.Sm) : S.tabs.length ≤ 4294967296 ∧ ∀ T ∈ S.tabs, T.Kh := by
 have hc := h.cost;unfold aK.cost at hc
 have key : ∀ l : List az, l.length ≤ (l.map az.cost).sum ∧ ∀ T ∈ l, T.cost ≤ (l.map az.cost).sum := by
  intro l
  induction l with
  | nil => simp
  | cons a l ih =>
   simp only [List.map_cons, List.sum_cons, List.length_cons]
   have ha : 1 ≤ a.cost := by unfold az.cost; omega
   refine ⟨by have := ih.1; omega, fun T hT => ?_⟩;rcases List.mem_cons.1 hT with rfl | hT
   ·omega
   ·have := ih.2 T hT; omega
 obtain ⟨k1, k2⟩ := key S.tabs;refine ⟨by omega, fun T hT => ?_⟩;have := k2 T hT;have hT2 : T.cost = 1 + T.cols.length + T.idxs.length + T.keys.length := rfl;exact ⟨by omega, by omega, by omega⟩
theorem Has.sm {s : PH} {t : aU} {ps : List aD} {S : aK} (h : Has s t ps) (he : S.tabs = ps.map (·.T)) (hs : S.Sm) : dO s t S ps := h.is he hs.dF.1 hs.dF.2
end
section
attribute [-simp] Fw.W.bD Fw.W.bB
def nP : Rd aH := (Rd.pair (Rd.int .i64) (Rd.pair (Rd.int .i64) (Rd.pair Rd.str Rd.unit))).map fun x => ⟨x.1, x.2.1, x.2.2.1⟩
def yZ : Rd cm := (Rd.pair (Rd.int .i64) (Rd.pair Rd.str (Rd.pair (Rd.int .i64) (Rd.pair (Rd.int .i64) (Rd.pair nP Rd.unit))))).map fun x => ⟨x.1, x.2.1, x.2.2.1, x.2.2.2.1, x.2.2.2.2.1⟩
def y5 : Rd dx := (Rd.pair (Rd.int .i64) (Rd.pair Rd.str (Rd.pair (Rd.int .i64) (Rd.pair Rd.bool (Rd.pair (Rd.int .i64) Rd.unit))))).map fun x => ⟨x.1, x.2.1, x.2.2.1, x.2.2.2.1, x.2.2.2.2.1⟩
def y4 : Rd For := (Rd.pair (Rd.int .i64) (Rd.pair Rd.str (Rd.pair (Rd.int .i64) (Rd.pair (Rd.int .i64) (Rd.pair (Rd.int .i64) Rd.unit))))).map fun x => ⟨x.1, x.2.1, x.2.2.1, x.2.2.2.1, x.2.2.2.2.1⟩
def y7 : Rd az := (Rd.pair (Rd.int .i64) (Rd.pair Rd.str (Rd.pair (Rd.sl yZ 72) (Rd.pair (Rd.sl y5 48) (Rd.pair (Rd.sl y4 48) Rd.unit))))).map fun x => ⟨x.1, x.2.1, x.2.2.1, x.2.2.2.1, x.2.2.2.2.1⟩
def y6 : Rd aK := (Rd.pair (Rd.int .i64) (Rd.pair (Rd.int .i64) (Rd.pair (Rd.sl y7 96) Rd.unit))).map fun x => ⟨x.1, x.2.1, x.2.2.1⟩
theorem kP : dz Tryz.prog 3 (Rd.int .i64) := xB Tryz.underlying3 (by kernel_rfl)
theorem Aq : dz Tryz.prog 9 Rd.str := FP Tryz.underlying9 (by kernel_rfl)
theorem Mq : dz Tryz.prog 4 Rd.bool := DV Tryz.underlying4 (by kernel_rfl)
theorem DU : dz Tryz.prog 28 nP := ij _ (fD (.cons rfl kP (.cons rfl (xB Tryz.underlying2 (by kernel_rfl)) (.cons rfl Aq (.nil _)))) Tryz.underlying28 (by kernel_rfl))
theorem L9 : dz Tryz.prog 165 yZ := ij _ (fD (.cons rfl kP (.cons rfl Aq (.cons rfl kP (.cons rfl kP (.cons rfl DU (.nil _)))))) Tryz.underlying165 (by kernel_rfl))
theorem LB : dz Tryz.prog 170 y5 := ij _ (fD (.cons rfl kP (.cons rfl Aq (.cons rfl kP (.cons rfl Mq (.cons rfl kP (.nil _)))))) Tryz.underlying170 (by kernel_rfl))
theorem LC : dz Tryz.prog 173 y4 := ij _ (fD (.cons rfl kP (.cons rfl Aq (.cons rfl kP (.cons rfl kP (.cons rfl kP (.nil _)))))) Tryz.underlying173 (by kernel_rfl))
theorem L5 : dz Tryz.prog 29 (Rd.sl yZ 72) := lB L9 Tryz.underlying29 (by kernel_rfl) (by kernel_rfl)
theorem L6 : dz Tryz.prog 136 (Rd.sl y5 48) := lB LB Tryz.underlying136 (by kernel_rfl) (by kernel_rfl)
theorem L7 : dz Tryz.prog 137 (Rd.sl y4 48) := lB LC Tryz.underlying137 (by kernel_rfl) (by kernel_rfl)
theorem L8 : dz Tryz.prog 139 y7 := ij _ (fD (.cons rfl kP (.cons rfl Aq (.cons rfl L5 (.cons rfl L6 (.cons rfl L7 (.nil _)))))) Tryz.underlying139 (by kernel_rfl))
theorem L0 : dz Tryz.prog 41 (Rd.sl y7 96) := lB L8 Tryz.underlying41 (by kernel_rfl) (by kernel_rfl)
theorem L2 : dz Tryz.prog 43 y6 := ij _ (fD (.cons rfl kP (.cons rfl kP (.cons rfl L0 (.nil _)))) Tryz.underlying43 (by kernel_rfl))
theorem F1 : reachBytes ≤ 281474976710656 := by decide
theorem Ia {s : PH} {cs : List Value} {v : aH} (h : nP.is s cs v) : cs = [.int .i64 v.kind, .int .i64 v.n, .string v.s] ∧ v.s.size ≤ 281474976710656 := by
 obtain ⟨x, rfl, c1, c2, rfl, ⟨rfl, _⟩, d1, d2, rfl, ⟨rfl, _⟩, e1, e2, rfl, ⟨rfl, h3⟩, rfl⟩ := h;exact ⟨rfl, Nat.le_trans h3 F1⟩
theorem HZ {s : PH} {cs : List Value} {c : cm} (h : yZ.is s cs c) : cs = dw.f c ∧ c.Sm := by
 obtain ⟨x, rfl, c1, c2, rfl, ⟨rfl, _⟩, d1, d2, rfl, ⟨rfl, h2⟩, e1, e2, rfl, ⟨rfl, _⟩, f1, f2, rfl, ⟨rfl, _⟩, g1, g2, rfl, h5, rfl⟩ := h;obtain ⟨rfl, h6⟩ := Ia h5;exact ⟨rfl, Nat.le_trans h2 F1, h6⟩
theorem H7 {s : PH} {cs : List Value} {c : dx} (h : y5.is s cs c) : cs = jY.f c ∧ c.name.size ≤ 281474976710656 := by
 obtain ⟨x, rfl, c1, c2, rfl, ⟨rfl, _⟩, d1, d2, rfl, ⟨rfl, h2⟩, e1, e2, rfl, ⟨rfl, _⟩, f1, f2, rfl, rfl, g1, g2, rfl, ⟨rfl, _⟩, rfl⟩ := h;exact ⟨rfl, Nat.le_trans h2 F1⟩
theorem H6 {s : PH} {cs : List Value} {c : For} (h : y4.is s cs c) : cs = l9.f c ∧ c.name.size ≤ 281474976710656 := by
 obtain ⟨x, rfl, c1, c2, rfl, ⟨rfl, _⟩, d1, d2, rfl, ⟨rfl, h2⟩, e1, e2, rfl, ⟨rfl, _⟩, f1, f2, rfl, ⟨rfl, _⟩, g1, g2, rfl, ⟨rfl, _⟩, rfl⟩ := h;exact ⟨rfl, Nat.le_trans h2 F1⟩
structure oo {α : Type} (E : cO α) (s : PH) (t : aU) (xs : List α) : Prop where
 el : elems (Rd.enc E) s t.1 t.2.1 xs
 le : t.2.1 ≤ t.2.2
 big : xs.length ≤ 4398046511104
theorem oo.dF {α : Type} {E : cO α} {s : PH} {t : aU} {xs : List α} (h : oo E s t xs) (hl : xs.length ≤ 4294967296) : Sl E s t xs := ⟨h.el, h.le, hl⟩
theorem wN {α : Type} {R : Rd α} {E : cO α} {P : α → Prop} {bytes : Nat} {s : PH} {cs : List Value} {xs : List α} (hb : 48 ≤ bytes) (hz : R.sz = E.sz) (hi : ∀ cs x, R.is s cs x → cs = E.f x ∧ P x) (h : (Rd.sl R bytes).is s cs xs) :
  ∃ t : aU, cs = [t.v] ∧ oo E s t xs ∧ ∀ x ∈ xs, P x := by
 obtain ⟨a, n, c, rfl, h1, h2, h3, h4⟩ := h;refine ⟨(a, n, c), rfl, ⟨h4.imp hz fun cs x hx => (hi cs x hx).1, h1, ?_⟩, fun x hx => ?_⟩
 ·have hr : reachBytes = 140737488351232 := rfl;have : c * 48 ≤ c * bytes := Nat.mul_le_mul_left _ hb;have := h4.1;omega
 ·obtain ⟨i, hi2⟩ := List.mem_iff_getElem?.1 hx;obtain ⟨ad, cs', _, h6, _⟩ := h4.2 i x hi2;exact (hi cs' x h6).2
structure Gz (s : PH) (p : aD) : Prop where
 c : oo dw s p.c p.T.cols
 x : oo jY s p.x p.T.idxs
 k : oo l9 s p.k p.T.keys
structure zb (s : PH) (t : aU) (S : aK) (ps : List aD) : Prop where
 el : oo ja s t ps
 eq : S.tabs = ps.map (·.T)
 all : ∀ p ∈ ps, Gz s p
theorem H9 {s : PH} {cs : List Value} {T : az} (h : y7.is s cs T) : ∃ p : aD, p.T = T ∧ cs = ja.f p ∧ Gz s p ∧ T.Sm := by
 obtain ⟨x, rfl, c1, c2, rfl, ⟨rfl, _⟩, d1, d2, rfl, ⟨rfl, h2⟩, e1, e2, rfl, h3, f1, f2, rfl, h4, g1, g2, rfl, h5, rfl⟩ := h;obtain ⟨t1, rfl, k1, n1⟩ := wN (by omega) rfl (fun cs x hx => HZ hx) h3;obtain ⟨t2, rfl, k2, n2⟩ := wN (by omega) rfl (fun cs x hx => H7 hx) h4;obtain ⟨t3, rfl, k3, n3⟩ := wN (by omega) rfl (fun cs x hx => H6 hx) h5;exact ⟨⟨_, t1, t2, t3⟩, rfl, rfl, ⟨k1, k2, k3⟩, ⟨Nat.le_trans h2 F1, n1, n2, n3⟩⟩
theorem sL : ∀ (l : List az) (Q : Nat → aD → Prop), (∀ i T, l[i]? = some T → ∃ p : aD, p.T = T ∧ Q i p) → ∃ ps : List aD, ps.map (·.T) = l ∧ ∀ i p, ps[i]? = some p → Q i p
 | [], Q, _ => ⟨[], rfl, fun i p h => by simp at h⟩
 | T :: l, Q, h => by
  obtain ⟨p, hp, hq⟩ := h 0 T rfl;obtain ⟨ps, he, hr⟩ := sL l (fun i => Q (i + 1)) fun i T' hT => h (i + 1) T' hT;refine ⟨p :: ps, by simp [hp, he], fun i q hi => ?_⟩
  cases i with
  | zero => simp at hi; subst hi; exact hq
  | succ i => exact hr i q hi
theorem H8 {s : PH} {cs : List Value} {S : aK} (h : y6.is s cs S) : ∃ t ps, cs = [.int .i64 S.version, .int .i64 S.last, .slice t.1 t.2.1 t.2.2] ∧ zb s t S ps ∧ ∀ T ∈ S.tabs, T.Sm := by
 obtain ⟨x, rfl, c1, c2, rfl, ⟨rfl, _⟩, d1, d2, rfl, ⟨rfl, _⟩, e1, e2, rfl, ⟨a, n, c, rfl, h1, h2, h3, h4⟩, rfl⟩ := h
 obtain ⟨ps, he, hq⟩ := sL x.2.2.1 (fun i p => (∃ ad, a = some ad ∧ s.has (ad.add (i * 5)) (ja.f p)) ∧ Gz s p ∧ p.T.Sm) fun i T hT => by
  obtain ⟨ad, cs, k1, k2, k3⟩ := h4.2 i T hT;obtain ⟨p, rfl, rfl, k4, k5⟩ := H9 k2;exact ⟨p, rfl, ⟨ad, k1, k3⟩, k4, k5⟩
 have hlen : ps.length = n := by rw [h4.1, ← he, List.length_map]
 refine ⟨(a, n, c), ps, rfl, ⟨⟨⟨hlen.symm, fun i p hp => ?_⟩, h1, ?_⟩, he.symm, fun p hp => ?_⟩, fun T hT => ?_⟩
 ·obtain ⟨⟨ad, k1, k2⟩, _⟩ := hq i p hp;exact ⟨ad, _, k1, rfl, k2⟩
 ·have hr : reachBytes = 140737488351232 := rfl;omega
 ·obtain ⟨i, hi⟩ := List.mem_iff_getElem?.1 hp;exact (hq i p hi).2.1
 ·rw [show (aK.mk x.1 x.2.1 x.2.2.1).tabs = ps.map (·.T) from he.symm] at hT;obtain ⟨p, hp, rfl⟩ := List.mem_map.1 hT;obtain ⟨i, hi⟩ := List.mem_iff_getElem?.1 hp;exact (hq i p hi).2.2
def jb (l : List az) : Nat := (l.map fun T => T.cols.length + T.idxs.length + T.keys.length).sum
theorem Gq {l : List az} {k : Nat} {T : az} (h : l[k]? = some T) : jb (l.take (k + 1)) = jb (l.take k) + (T.cols.length + T.idxs.length + T.keys.length) := by
 unfold jb; rw [List.take_add_one, h]; simp
abbrev bs (l : List UInt8) : BA := ⟨l.toArray⟩
abbrev emp : BA := ⟨#[]⟩
def kY : nZ := ⟨1, bs [116], emp, emp, emp, false, 0, ⟨0, 0, emp⟩, [⟨0, bs [97], 1, 0, ⟨0, 0, emp⟩⟩, ⟨0, bs [98], 2, 0, ⟨0, 0, emp⟩⟩]⟩
def gS : aK := ⟨1, 3, [⟨1, bs [116], [⟨2, bs [97], 1, 3, ⟨0, 0, emp⟩⟩, ⟨3, bs [98], 2, 3, ⟨0, 0, emp⟩⟩], [], []⟩]⟩
theorem Mn : eY.lF kY 3 = (gS, 0) := by kernel_rfl
theorem Ev (s : PH) : ah 28 #[] s fun y s' => ∃ u : aU, y = G5 kY u ∧ Sl dw s' u kY.cols ∧ Fw.Mod [] s s' := by
 refine Du _ s ?_;unfold vl;simp only [cE, aR, aY, bM, aF, bY, cX, ir, bL, aT, aP, aQ, mQ, qt, mI, oe, W.ay];refine W.bI fun r s1 hr m1 k1 => ?_;refine ⟨(some ⟨r, 0, none⟩, 2, 2), rfl, ⟨⟨rfl, fun i x hx => ?_⟩, Nat.le_refl _, by decide⟩, m1⟩;refine ⟨⟨r, 0, none⟩, _, rfl, rfl, ?_⟩;have hb := j8 k1;have hz : (Rd.enc dw).sz = 7 := rfl;rw [hz]
 match i with
 | 0 =>
  simp [kY] at hx; subst hx;have := PH.has.sub (l1 := []) (l2 := dw.f ⟨0, bs [97], 1, 0, ⟨0, 0, emp⟩⟩) (l3 := dw.f ⟨0, bs [98], 2, 0, ⟨0, 0, emp⟩⟩) hb;exact this
 | 1 =>
  simp [kY] at hx; subst hx;have := PH.has.sub (l1 := dw.f ⟨0, bs [97], 1, 0, ⟨0, 0, emp⟩⟩) (l2 := dw.f ⟨0, bs [98], 2, 0, ⟨0, 0, emp⟩⟩) (l3 := []) hb;exact this
 | i + 2 => simp [kY] at hx
theorem G7 {s : PH} {S' : aK} {e : Int} {y : Value} {s' : PH} (h : oV s S' e y s') (hs : S'.Sm) : ∃ t ps, y = .tuple #[fj S' t, .int .i64 e] ∧ dO s' t S' ps ∧ Has s' t ps ∧ Fw.Mod [] s s' ∧ ∀ g ∈ jc t ps, s g = none := by
 obtain ⟨t, ps, rfl, hH, he, m, hf⟩ := h;exact ⟨t, ps, rfl, hH.sm he hs, hH, m, hf⟩
end
section
attribute [-simp] Fw.W.bD Fw.W.bB
theorem wS {α : Type} (p : α → Bool) : ∀ l : List α, l.takeWhile p = l.take (l.takeWhile p).length ∧ l.dropWhile p = l.drop (l.takeWhile p).length
 | [] => ⟨rfl, rfl⟩
 | a :: l => by
  obtain ⟨h1, h2⟩ := wS p l
  by_cases h : p a = true
  ·rw [List.takeWhile_cons_of_pos h, List.dropWhile_cons_of_pos h];exact ⟨by rw [List.length_cons, List.take_succ_cons, ← h1], by rw [List.length_cons, List.drop_succ_cons]; exact h2⟩
  ·rw [List.takeWhile_cons_of_neg h, List.dropWhile_cons_of_neg h]; exact ⟨rfl, rfl⟩
theorem Ef {α : Type} {p : α → Bool} : ∀ {l : List α} {i : Nat} {x : α}, i ≤ (l.takeWhile p).length → l[i]? = some x → (p x = true ↔ i < (l.takeWhile p).length)
 | [], i, x, _, h => by simp at h
 | a :: l, i, x, hi, h => by
  by_cases hp : p a = true
  ·rw [List.takeWhile_cons_of_pos hp] at hi ⊢
   cases i with
   | zero => simp at h; subst h; simp [hp]
   | succ i =>
    have := Ef (p := p) (l := l) (i := i) (x := x) (by simp at hi; omega) (by simpa using h);rw [this, List.length_cons]; omega
  ·rw [List.takeWhile_cons_of_neg hp] at hi ⊢
   have : i = 0 := by simpa using hi
   subst this;simp at h; subst h; simp [hp]
theorem LG {α : Type} (p : α → Bool) (l : List α) : (l.takeWhile p).length ≤ l.length := by
 have := congrArg List.length (List.takeWhile_append_dropWhile (p := p) (l := l));rw [List.length_append] at this; omega
theorem lK {ts : Int} : ∀ {ws : List Wr} {l : List Ht} {a : Ht}, a ∈ ai ts l ws → (∃ x ∈ ws, a = ⟨x.key, ts, x.val⟩) ∨ a ∈ l
 | [], l, a, h => .inr h
 | x :: ws, l, a, h => by
  rcases lK (ws := ws) h with ⟨y, hy, e⟩ | h
  ·exact .inl ⟨y, List.mem_cons_of_mem _ hy, e⟩
  ·unfold eV at h;rw [List.mem_append, List.mem_append] at h;rcases h with (h | h) | h
   ·exact .inr (List.takeWhile_subset _ h)
   ·unfold gW at h
    split at h
    ·simp at h
    ·simp at h; exact .inl ⟨x, List.mem_cons_self, h⟩
   ·exact .inr ((List.dropWhile_sublist (fun h : Ht => bK h.key x.key) (l := l)).subset (List.mem_filter.1 h).1)
def Av (ts : Int) (l : List Ht) (x : Wr) (b : Bool) (i : Nat) (o : List Ht) : Prop :=
 (b = false ∧ i ≤ (l.takeWhile fun h => bK h.key x.key).length ∧ o = l.take i) ∨
 (b = true ∧ (l.takeWhile fun h => bK h.key x.key).length < i ∧ o = l.take (l.takeWhile fun h => bK h.key x.key).length ++ gW ts x ++ ((l.take i).drop (l.takeWhile fun h => bK h.key x.key).length).filter fun h => decide (h.key ≠ x.key))
theorem uE {s : PH} {a b : OA} {n c m d : Nat} {l : List Ht} {ws : List Wr} (h : Sl bh s (a, n, c) l) (hw : Sl nT s (b, m, d) ws) (ts : Int) (hk : ∀ x ∈ l, x.key.size ≤ 281474976710656) (hwk : ∀ x ∈ ws, x.key.size ≤ 281474976710656) (hn : l.length ≤ 1000000000) (hm : ws.length ≤ 1000000000) :
  ah 21 #[.slice a n c, .slice b m d, .int .i64 ts] s fun y s' => ∃ a' n' c', y = .slice a' n' c' ∧ Gw bh 75 s s' a' n' c' (ai ts l ws) := by
 refine BG a n c b m d ts _ s ?_;unfold sP;have hln : n = l.length := h.len;have hlm : m = ws.length := hw.len;simp only [bY, cX, aQ, aR, cE, aP, aT, bL, bM, aF];refine W.bI fun r0 s1 hr0 m1 k1 => ?_
 have hrow0 : bq bh s1 75 (some ⟨r0, 0, none⟩) 0 0 [] := ⟨rfl, Nat.le_refl _, by show 0 ≤ 9223372036854775807; omega, .inr ⟨r0, #[], rfl, k1, by simp, rfl⟩⟩
 have hmax : maxLen = 9223372036854775807 := rfl;refine jk (E := bh) (k := n) (ys := l) hrow0 rfl (h.mono m1.le).el.lE rfl hln.symm (by omega) (by omega) ?_;intro a1 c1 s2 hrow1 hm1;rw [List.nil_append, Nat.zero_add] at hrow1
 have g1 : Gw bh 75 s s2 a1 n c1 l := by
  rcases hm1 with ⟨rfl, hmd⟩ | ⟨g, rfl, hg, hmd⟩
  ·exact ⟨hrow1, by simp [Fw.aW, hr0], m1.fresh hmd (by simp [Fw.aW, hr0])⟩
  ·exact ⟨hrow1, by simp [Fw.aW]; exact m1.none hg (by simp), m1.trans hmd⟩
 rw [Nat.zero_add];refine ⟨fun z s' => ∃ (j : Nat) (a1 : OA) (n1 c1 : Nat), z = (((a1, n1, c1), ()), ((j : Int), ()), ()) ∧ j ≤ m ∧ Gw bh 75 s s' a1 n1 c1 (ai ts l (ws.take j)), fun z _ => m - z.2.1.1.toNat, ⟨0, a1, n, c1, rfl, Nat.zero_le _, g1⟩, ?_⟩;rintro _ s3 ⟨j, a3, n3, c3, rfl, hj, hG3⟩;dsimp only;refine aC (fun e => ?_) fun e => ?_;rotate_left
 ·have e : ¬ (j : Int) < (m : Int) := of_decide_eq_false e;rw [List.take_of_length_le (by omega)] at hG3;exact ⟨a3, n3, c3, rfl, hG3⟩
 have hlj : (j : Int) < (m : Int) := of_decide_eq_true e
 obtain ⟨x, hx⟩ : ∃ x, ws[j]? = some x := ⟨_, List.getElem?_eq_getElem (by omega)⟩
 obtain ⟨L, hL⟩ : ∃ L, ai ts l (ws.take j) = L := ⟨_, rfl⟩
 rw [hL] at hG3;have hn3 := hG3.row.len
 have hLl : L.length ≤ l.length + j := by
  have := mw ts (ws.take j) l;rw [hL, List.length_take] at this;omega
 have hLk : ∀ y ∈ L, y.key.size ≤ 281474976710656 := fun y hy => by
  rw [← hL] at hy;rcases lK hy with ⟨z, hz, rfl⟩ | hy
  ·exact hwk z (List.mem_of_mem_take hz)
  ·exact hk y hy
 have hnext : ai ts l (ws.take (j + 1)) = eV ts L x := by
  rw [← hL]
  show List.foldl (eV ts) l (ws.take (j + 1)) = _
  rw [pn (eV ts) l hx]; (first | done | rfl)
 obtain ⟨tw, htw⟩ : ∃ tw, (L.takeWhile fun h => bK h.key x.key).length = tw := ⟨_, rfl⟩
 have htwl : tw ≤ L.length := by rw [← htw]; exact LG _ _
 refine ⟨fun z s' => ∃ (i : Nat) (b2 : Bool) (o : List Ht) (a4 : OA) (n4 c4 : Nat), z = (((a3, n3, c3), ()), ((j : Int), ()), ((a4, n4, c4), ()), (b2, ()), ((i : Int), ()), ()) ∧ i ≤ n3 + 1 ∧ Gw bh 75 s3 s' a4 n4 c4 o ∧ Av ts L x b2 i o ∧ n4 ≤ i + 1, fun z _ => n3 + 1 - z.2.2.2.2.1.1.toNat,
  ⟨0, false, [], none, 0, 0, rfl, Nat.zero_le _, Gw.nil (Mod.refl _ _), .inl ⟨rfl, Nat.zero_le _, rfl⟩, by omega⟩, ?_⟩
 rintro _ s4 ⟨i, b2, o, a4, n4, c4, rfl, hi, hG4, hout, hn4i⟩;dsimp only;have m34 := hG4.md;unfold Av at hout;rw [htw] at hout;refine aC (fun e => ?_) fun e => ?_;rotate_left
 ·have e : ¬ (i : Int) ≤ (n3 : Int) := of_decide_eq_false e;rw [aj (k := j) (by omega)];refine ⟨⟨j + 1, a4, n4, c4, rfl, by omega, ?_⟩, by simp only [Int.toNat_natCast]; omega⟩;rw [hnext];rcases hout with ⟨_, h2, _⟩ | ⟨_, _, h3⟩
  ·omega
  ·have : eV ts L x = o := by
    unfold eV;rw [(wS (fun h : Ht => bK h.key x.key) L).1, (wS (fun h : Ht => bK h.key x.key) L).2, htw, h3, List.take_of_length_le (show L.length ≤ i by omega)]
   rw [this];exact hG4.since hG3.md
 have hli : (i : Int) ≤ (n3 : Int) := of_decide_eq_true e;obtain ⟨ab, hab, hhb⟩ := (hw.mono (hG3.md.trans m34).le).el.aG hx;dsimp only at hab;subst hab;have hhb : s4.has (ab.add (j * 3)) (nT.f x) := hhb
 have gj : (0 : Int) ≤ (j : Int) ∧ (j : Int) < (m : Int) := ⟨Int.natCast_nonneg j, hlj⟩
 -- has the new one its place here?
 obtain ⟨pl, hpl⟩ : ∃ pl : Bool, (!b2 && decide (i = tw)) = pl := ⟨_, rfl⟩
 refine W.bp (fun z s' => ∃ (o2 : List Ht) (a5 : OA) (n5 c5 : Nat), z = (((a3, n3, c3), ()), ((j : Int), ()), ((a5, n5, c5), ()), ((b2 || pl), ()), ((i : Int), ()), ()) ∧ Gw bh 75 s3 s' a5 n5 c5 o2 ∧ n5 ≤ n4 + 1 ∧ o2 = (if pl = true then o ++ gW ts x else o) ∧ (pl = true → n5 ≤ n4 + 1)) ?_ ?_;rotate_left
 ·intro J hJ;refine W.bp (fun z s' => z = (((a3, n3, c3), ()), ((j : Int), ()), ((a4, n4, c4), ()), (b2, ()), ((i : Int), ()), (pl, ()), ()) ∧ s4 = s') ?_ ?_;rotate_left
  ·intro J2 hJ2;refine aC (fun e2 => ?_) fun e2 => ?_
   ·have e2 : b2 = false := by simpa using e2
    have hitw : i ≤ tw := by
     rcases hout with ⟨_, h2, _⟩ | ⟨h1, _⟩
     ·exact h2
     ·rw [e2] at h1; cases h1
    refine aC (fun e3 => ?_) fun e3 => ?_
    ·have e3 : (i : Int) = (n3 : Int) := eq_of_beq e3;refine hJ2 _ _ ⟨?_, rfl⟩;rw [← hpl, e2, decide_eq_true (show i = tw by omega)]; (first | done | rfl)
    ·have e3 : ¬ (i : Int) = (n3 : Int) := by simpa using e3
     obtain ⟨y, hy⟩ : ∃ y, L[i]? = some y := ⟨_, List.getElem?_eq_getElem (by omega)⟩
     obtain ⟨g, rfl, hh⟩ := (hG3.row.mod m34 (by simp)).at hy;refine bg ⟨Int.natCast_nonneg i, by omega⟩ ?_;simp only [cR, Int.toNat_natCast, aV, Nat.zero_add];have hh : s4.has ⟨g, i * 3, none⟩ (bh.f y) := hh;refine bl (A := ⟨g, i * 3, none⟩) (j := 0) hh (y := (y.key, ())) rfl ?_;refine bg gj ?_;refine bl (j := 0) hhb (y := (x.key, ())) rfl ?_;refine W.bF ((cZ y.key x.key, ()), ()) (nC y.key x.key (by have := hLk y (List.mem_of_getElem? hy); omega) s4) rfl ?_;refine hJ2 _ _ ⟨?_, rfl⟩;have h1 := Ef (p := fun h : Ht => bK h.key x.key) (l := L) (i := i) (x := y) (by rw [htw]; exact hitw) hy;rw [htw] at h1;have h2 := pT y.key x.key
     have : decide (cZ y.key x.key ≥ 0) = pl := by
      rw [← hpl, e2];simp only [Bool.not_false, Bool.true_and];rw [decide_eq_decide]
      constructor
      ·intro h3
       have : ¬ cZ y.key x.key < 0 := by omega
       have : ¬ i < tw := fun g => this (h2.2 (h1.2 g));omega
      ·intro h3
       have : ¬ cZ y.key x.key < 0 := fun g => by have := h1.1 (h2.1 g); omega
       omega
     rw [← this]
   ·have e2 : b2 = true := by simpa using e2
    refine hJ2 _ _ ⟨?_, rfl⟩;rw [← hpl, e2]; (first | done | rfl)
  rintro _ s4 ⟨rfl, rfl⟩;dsimp only;refine aC (fun e2 => ?_) fun e2 => ?_
  ·have e2 : pl = true := e2
   have hb2 : b2 = false := by rw [e2] at hpl; cases b2 <;> simp_all
   refine bg gj ?_;simp only [cR, Int.toNat_natCast];refine bl (j := 2) hhb (y := (x.dead, ())) rfl ?_;dsimp only;refine aC (fun e3 => ?_) fun e3 => ?_
   ·have e3 : x.dead = false := by simpa using e3
    have hnew : gW ts x = [⟨x.key, ts, x.val⟩] := by unfold gW; rw [e3]; (first | done | rfl)
    refine bg gj ?_;refine bl (j := 0) hhb (y := (x.key, ())) rfl ?_;refine bg gj ?_;refine bl (j := 1) hhb (y := (x.val, ())) rfl ?_;refine hG4.push [⟨x.key, ts, x.val⟩] (k := 1) rfl rfl rfl (by omega) (by omega) fun a5 c5 s5 h5 => ?_;refine hJ _ _ ⟨o ++ [⟨x.key, ts, x.val⟩], a5, n4 + 1, c5, ?_, h5, Nat.le_refl _, by rw [if_pos e2, hnew], fun _ => Nat.le_refl _⟩;rw [e2, Bool.or_true]
   ·have e3 : x.dead = true := by simpa using e3
    have hnew : gW ts x = [] := by unfold gW; rw [e3]; (first | done | rfl)
    refine hJ _ _ ⟨o, a4, n4, c4, ?_, hG4, by omega, by rw [if_pos e2, hnew, List.append_nil], fun _ => by omega⟩;rw [e2, Bool.or_true]
  ·have e2 : pl = false := e2;refine hJ _ _ ⟨o, a4, n4, c4, ?_, hG4, by omega, by rw [if_neg (by rw [e2]; simp)], fun g => by omega⟩;rw [e2, Bool.or_false]
 rintro _ s5 ⟨o2, a5, n5, c5, rfl, hG5, hn5, ho2, _⟩;dsimp only;have hn4 := hG4.row.len;have hn5l := hG5.row.len;rw [aj (k := i) (by omega)]
 -- the list behind this step
 have hstep : ∀ (o3 : List Ht), o3 = o2 ++ (match L[i]? with | some y => if y.key = x.key then [] else [y] | none => []) → Av ts L x (b2 || pl) (i + 1) o3 := by
  intro o3 h3;unfold Av;rw [htw]
  have htk : ∀ y, L[i]? = some y → L.take (i + 1) = L.take i ++ [y] := fun y hy => by rw [List.take_add_one, hy]; (first | done | rfl)
  rcases hout with ⟨h1, h2, h4⟩ | ⟨h1, h2, h4⟩
  ·cases hp : pl with
   | false =>
    have hlt : i < tw := by
     rw [h1, hp] at hpl
     have : ¬ i = tw := by simpa using hpl
     omega
    obtain ⟨y, hy⟩ : ∃ y, L[i]? = some y := ⟨_, List.getElem?_eq_getElem (by omega)⟩
    have h5 := (Ef (p := fun h : Ht => bK h.key x.key) (l := L) (i := i) (x := y) (by rw [htw]; omega) hy).2 (by rw [htw]; exact hlt)
    have hne : ¬ y.key = x.key := fun g => by rw [g] at h5; simp only [eA] at h5; cases h5
    refine .inl ⟨by rw [h1]; (first | done | rfl), by omega, ?_⟩;rw [h3, ho2, hp, if_neg (by simp), h4, hy, htk y hy];simp [hne]
   | true =>
    have hit : i = tw := by
     rw [h1, hp] at hpl;simpa using hpl
    refine .inr ⟨by simp, by omega, ?_⟩;rw [h3, ho2, hp, if_pos rfl, h4, hit]
    cases hy : L[tw]? with
    | none =>
     have hll := List.getElem?_eq_none_iff.1 hy;have : (L.take (tw + 1)).drop tw = [] := List.drop_of_length_le (by rw [List.length_take]; omega);rw [this]; simp
    | some y =>
     rw [← hit] at hy ⊢;rw [htk y hy];have hll := (List.getElem?_eq_some_iff.1 hy).1
     have : (L.take i ++ [y]).drop i = [y] := by rw [List.drop_append_of_le_length (by rw [List.length_take]; omega), List.drop_of_length_le (by rw [List.length_take]; omega), List.nil_append]
     rw [this]
     by_cases g : y.key = x.key <;> simp [g]
  ·have hp : pl = false := by rw [← hpl, h1]; (first | done | rfl)
   refine .inr ⟨by rw [h1]; (first | done | rfl), by omega, ?_⟩;rw [h3, ho2, hp, if_neg (by simp), h4]
   cases hy : L[i]? with
   | none =>
    have hll := List.getElem?_eq_none_iff.1 hy;rw [List.take_of_length_le (show L.length ≤ i by omega), List.take_of_length_le (show L.length ≤ i + 1 by omega)]; simp
   | some y =>
    rw [htk y hy];have hll := (List.getElem?_eq_some_iff.1 hy).1;rw [List.drop_append_of_le_length (by rw [List.length_take]; omega), List.filter_append]
    by_cases g : y.key = x.key <;> simp [g]
 have hno : n5 ≤ i + 1 + 1 := by
  rw [hn5l, ho2]
  have : o.length ≤ i + 1 := by omega
  cases hp : pl with
  | true =>
   rw [if_pos rfl, List.length_append]
   have h1 : (gW ts x).length ≤ 1 := by unfold gW; split <;> simp
   have hb2 : b2 = false := by rw [hp] at hpl; cases b2 <;> simp_all
   rcases hout with ⟨_, h2, h4⟩ | ⟨h1, _⟩
   ·have : o.length ≤ i := by rw [h4, List.length_take]; omega
    omega
   ·rw [hb2] at h1; cases h1
  | false => rw [if_neg (by simp)]; omega
 refine aC (fun e2 => ?_) fun e2 => ?_
 ·have e4 : (i : Int) < (n3 : Int) := of_decide_eq_true e2
  obtain ⟨y, hy⟩ : ∃ y, L[i]? = some y := ⟨_, List.getElem?_eq_getElem (by omega)⟩
  rw [hy] at hstep;obtain ⟨g, rfl, hh⟩ := (hG3.row.mod hG5.md (by simp)).at hy
  have hhb5 : s5.has (ab.add (j * 3)) (nT.f x) := by
   obtain ⟨ab', hab', hhb'⟩ := (hw.mono (hG3.md.trans hG5.md).le).el.aG hx;cases hab';exact hhb'
  have gi : (0 : Int) ≤ (i : Int) ∧ (i : Int) < (n3 : Int) := ⟨Int.natCast_nonneg i, e4⟩
  have hh : s5.has ⟨g, i * 3, none⟩ (bh.f y) := hh;refine bg gi ?_;simp only [cR, Int.toNat_natCast, aV, Nat.zero_add];refine bl (A := ⟨g, i * 3, none⟩) (j := 0) hh (y := (y.key, ())) rfl ?_;refine bg gj ?_;refine bl (j := 0) hhb5 (y := (x.key, ())) rfl ?_;dsimp only;rw [bO];refine aC (fun e3 => ?_) fun e3 => ?_
  ·have e3 : ¬ y.key = x.key := by simpa using e3
   refine bg gi ?_;refine aE hh (y := pG y) rfl ?_;have hn5s : n5 ≤ i + 1 + 1 := hno;refine hG5.push [y] (k := 1) rfl rfl rfl (by omega) (by omega) fun a6 c6 s6 h6 => ?_;have ho3 := hstep (o2 ++ [y]) (by simp [e3]);refine ⟨⟨i + 1, b2 || pl, o2 ++ [y], a6, n5 + 1, c6, rfl, by omega, h6, ho3, ?_⟩, by (try simp only [Int.toNat_natCast]); omega⟩;have := h6.row.len;unfold Av at ho3;rw [htw] at ho3
   have h1 : (gW ts x).length ≤ 1 := by unfold gW; split <;> simp
   rcases ho3 with ⟨_, _, h4⟩ | ⟨_, h3, h4⟩
   ·rw [this, h4, List.length_take]; omega
   ·have hf := List.length_filter_le (fun h : Ht => decide (h.key ≠ x.key)) ((L.take (i + 1)).drop tw);rw [List.length_drop, List.length_take] at hf;rw [this, h4, List.length_append, List.length_append, List.length_take]; omega
  ·have e3 : y.key = x.key := by simpa using e3
   have ho3 := hstep o2 (by simp [e3]);exact ⟨⟨i + 1, b2 || pl, o2, a5, n5, c5, rfl, by omega, hG5, ho3, hno⟩, by (try simp only [Int.toNat_natCast]); omega⟩
 ·have e2 : ¬ (i : Int) < (n3 : Int) := of_decide_eq_false e2;have hy : L[i]? = none := List.getElem?_eq_none (by omega);rw [hy] at hstep;exact ⟨⟨i + 1, b2 || pl, o2, a5, n5, c5, rfl, by omega, hG5, hstep o2 (by simp), hno⟩, by simp only [Int.toNat_natCast]; omega⟩
end
section
attribute [-simp] Fw.W.bD Fw.W.bB
def uX : Rd cG := (Rd.pair (Rd.int .i64) (Rd.pair (Rd.int .i64) (Rd.pair (Rd.sl nP 32) (Rd.pair (Rd.int .i64) (Rd.pair nP (Rd.pair (Rd.int .i64) (Rd.pair nP Rd.unit))))))).map fun x => ⟨x.1, x.2.1, x.2.2.1, x.2.2.2.1, x.2.2.2.2.1, x.2.2.2.2.2.1, x.2.2.2.2.2.2.1⟩
def uY : Rd Ht := (Rd.pair Rd.str (Rd.pair (Rd.int .i64) (Rd.pair Rd.str Rd.unit))).map fun x => ⟨x.1, x.2.1, x.2.2.1⟩
theorem Ma : dz Tryz.prog 125 (Rd.sl nP 32) := lB DU Tryz.underlying125 (by kernel_rfl) (by kernel_rfl)
theorem LD : dz Tryz.prog 127 uX := ij _ (fD (.cons rfl kP (.cons rfl kP (.cons rfl Ma (.cons rfl kP (.cons rfl DU (.cons rfl kP (.cons rfl DU (.nil _)))))))) Tryz.underlying127 (by kernel_rfl))
theorem LF : dz Tryz.prog 75 uY := ij _ (fD (.cons rfl Aq (.cons rfl kP (.cons rfl Aq (.nil _)))) Tryz.underlying75 (by kernel_rfl))
theorem xL {α : Type} {R : Rd α} {E : cO α} {P : α → Prop} {bytes : Nat} {s : PH} {cs : List Value} {xs : List α} (hb : 32 ≤ bytes) (hz : R.sz = E.sz) (hi : ∀ cs x, R.is s cs x → cs = E.f x ∧ P x) (h : (Rd.sl R bytes).is s cs xs) :
  ∃ t : aU, cs = [t.v] ∧ oo E s t xs ∧ ∀ x ∈ xs, P x := by
 obtain ⟨a, n, c, rfl, h1, h2, h3, h4⟩ := h;refine ⟨(a, n, c), rfl, ⟨h4.imp hz fun cs x hx => (hi cs x hx).1, h1, ?_⟩, fun x hx => ?_⟩
 ·have hr : reachBytes = 140737488351232 := rfl;have : c * 32 ≤ c * bytes := Nat.mul_le_mul_left _ hb;have := h4.1;omega
 ·obtain ⟨i, hi2⟩ := List.mem_iff_getElem?.1 hx;obtain ⟨ad, cs', _, h6, _⟩ := h4.2 i x hi2;exact (hi cs' x h6).2
theorem sj {s : PH} {cs : List Value} {v : aH} (h : nP.is s cs v) : cs = ew.f v ∧ gf v.n := by
 obtain ⟨x, rfl, c1, c2, rfl, ⟨rfl, _⟩, d1, d2, rfl, ⟨rfl, h2⟩, e1, e2, rfl, ⟨rfl, h3⟩, rfl⟩ := h;exact ⟨rfl, wf_i64 h2⟩
theorem J4 {s : PH} {cs : List Value} {x : Ht} (h : uY.is s cs x) : cs = bh.f x ∧ x.key.size ≤ 140737488351232 := by
 obtain ⟨x, rfl, c1, c2, rfl, ⟨rfl, h1⟩, d1, d2, rfl, ⟨rfl, h2⟩, e1, e2, rfl, ⟨rfl, h3⟩, rfl⟩ := h;exact ⟨rfl, h1⟩
structure Gr (s : PH) (q : iX) : Prop where
 v : oo ew s q.t q.b.vals
 ok : wX q.b
theorem J3 {s : PH} {cs : List Value} {b : cG} (h : uX.is s cs b) : ∃ q : iX, q.b = b ∧ cs = qw.f q ∧ Gr s q := by
 obtain ⟨x, rfl, c1, c2, rfl, ⟨rfl, _⟩, d1, d2, rfl, ⟨rfl, _⟩, e1, e2, rfl, hv, f1, f2, rfl, ⟨rfl, _⟩, g1, g2, rfl, h5, i1, i2, rfl, ⟨rfl, _⟩, j1, j2, rfl, h7, rfl⟩ := h;obtain ⟨t, rfl, k1, n1⟩ := xL (E := ew) (by omega) rfl (fun cs x hx => sj hx) hv;obtain ⟨rfl, r5⟩ := sj h5;obtain ⟨rfl, r7⟩ := sj h7;exact ⟨⟨_, t⟩, rfl, rfl, k1, r5, r7, n1⟩
theorem sB : ∀ (l : List cG) (Q : Nat → iX → Prop), (∀ i T, l[i]? = some T → ∃ p : iX, p.b = T ∧ Q i p) → ∃ ps : List iX, ps.map (·.b) = l ∧ ∀ i p, ps[i]? = some p → Q i p
 | [], Q, _ => ⟨[], rfl, fun i p h => by simp at h⟩
 | T :: l, Q, h => by
  obtain ⟨p, hp, hq⟩ := h 0 T rfl;obtain ⟨ps, he, hr⟩ := sB l (fun i => Q (i + 1)) fun i T' hT => h (i + 1) T' hT;refine ⟨p :: ps, by simp [hp, he], fun i q hi => ?_⟩
  cases i with
  | zero => simp at hi; subst hi; exact hq
  | succ i => exact hr i q hi
structure rQ (s : PH) (t : aU) (L : List cG) (bs : List iX) : Prop where
 el : oo qw s t bs
 eq : bs.map (·.b) = L
 all : ∀ q ∈ bs, Gr s q
theorem FU {s : PH} {cs : List Value} {L : List cG} (h : (Rd.sl uX 120).is s cs L) : ∃ t bs, cs = [t.v] ∧ rQ s t L bs := by
 obtain ⟨a, n, c, rfl, h1, h2, h3, h4⟩ := h
 obtain ⟨bs, he, hq⟩ := sB L (fun i p => (∃ ad, a = some ad ∧ s.has (ad.add (i * 11)) (qw.f p)) ∧ Gr s p) fun i T hT => by
  obtain ⟨ad, cs, k1, k2, k3⟩ := h4.2 i T hT;obtain ⟨p, rfl, rfl, k4⟩ := J3 k2;exact ⟨p, rfl, ⟨ad, k1, k3⟩, k4⟩
 have hlen : bs.length = n := by rw [h4.1, ← he, List.length_map]
 refine ⟨(a, n, c), bs, rfl, ⟨⟨⟨hlen.symm, fun i p hp => ?_⟩, h1, ?_⟩, he, fun p hp => ?_⟩⟩
 ·obtain ⟨⟨ad, k1, k2⟩, _⟩ := hq i p hp;exact ⟨ad, _, k1, rfl, k2⟩
 ·have hr : reachBytes = 140737488351232 := rfl;have : c * 32 ≤ c * 120 := Nat.mul_le_mul_left _ (by omega);omega
 ·obtain ⟨i, hi⟩ := List.mem_iff_getElem?.1 hp;exact (hq i p hi).2
def vQ (S : aK) : Prop := ∀ T ∈ S.tabs, ∀ c ∈ T.cols, gf c.dflt.n
theorem J5 {s : PH} {cs : List Value} {S : aK} (h : y6.is s cs S) : vQ S := by
 obtain ⟨x, rfl, c1, c2, rfl, ⟨rfl, _⟩, d1, d2, rfl, ⟨rfl, _⟩, e1, e2, rfl, ⟨a, n, c, rfl, h1, h2, h3, h4⟩, rfl⟩ := h;intro T hT c hc;obtain ⟨i, hi⟩ := List.mem_iff_getElem?.1 hT;obtain ⟨ad, cs, k1, k2, k3⟩ := h4.2 i T hi;obtain ⟨y, rfl, c1, c2, rfl, ⟨rfl, _⟩, d1, d2, rfl, ⟨rfl, _⟩, e1, e2, rfl, hcols, f1, f2, rfl, _, g1, g2, rfl, _, rfl⟩ := k2;obtain ⟨a2, n2, c2, rfl, g1, g2, g3, g4⟩ := hcols;obtain ⟨j, hj⟩ := List.mem_iff_getElem?.1 hc;obtain ⟨ad2, cs2, q1, q2, q3⟩ := g4.2 j c hj;obtain ⟨z, rfl, c1, c2, rfl, _, d1, d2, rfl, _, e1, e2, rfl, _, f1, f2, rfl, _, g1, g2, rfl, h5, rfl⟩ := q2;exact (sj h5).2
def je (acc : List Ht) (h : Ht) : List Ht := match acc.getLast? with
 | none => [h]
 | some g => if bK g.key h.key = true then acc ++ [h] else acc
def kz (l : List Ht) : List Ht := l.foldl je []
theorem GD {acc : List Ht} {h : Ht} (hs : cz acc) : cz (je acc h) ∧ (∀ x ∈ je acc h, x = h ∨ x ∈ acc) ∧ (je acc h).length ≤ acc.length + 1 := by
 unfold je
 cases hg : acc.getLast? with
 | none =>
  have : acc = [] := List.getLast?_eq_none_iff.1 hg;subst this;exact ⟨List.pairwise_singleton _ _, by simp, by simp⟩
 | some g =>
  dsimp only
  split
  ·rename_i hlt
   refine ⟨List.pairwise_append.2 ⟨hs, List.pairwise_singleton _ _, fun a ha b hb => ?_⟩, fun x hx => ?_, by simp⟩
   ·simp at hb; subst hb;rcases List.eq_nil_or_concat acc with rfl | ⟨m, y, rfl⟩
    ·simp at ha
    ·simp at hg; subst hg;rw [List.concat_eq_append] at ha hs;rcases List.mem_append.1 ha with ha | ha
     ·exact q7 ((List.pairwise_append.1 hs).2.2 a ha y (by simp)) hlt
     ·simp at ha; subst ha; exact hlt
   ·rcases List.mem_append.1 hx with hx | hx
    ·exact .inr hx
    ·simp at hx; exact .inl hx
  ·exact ⟨hs, fun x hx => .inr hx, by omega⟩
theorem th (l : List Ht) : cz (kz l) ∧ (∀ x ∈ kz l, x ∈ l) ∧ (kz l).length ≤ l.length := by
 have key : ∀ (l acc : List Ht), cz acc → cz (l.foldl je acc) ∧ (∀ x ∈ l.foldl je acc, x ∈ l ∨ x ∈ acc) ∧ (l.foldl je acc).length ≤ l.length + acc.length := by
  intro l
  induction l with
  | nil => intro acc h; exact ⟨h, fun x hx => .inr hx, by simp⟩
  | cons h l ih =>
   intro acc hs;obtain ⟨b1, b2, b3⟩ := GD (h := h) hs;obtain ⟨i1, i2, i3⟩ := ih _ b1;refine ⟨i1, fun x hx => ?_, by rw [List.length_cons, List.foldl_cons]; omega⟩;rcases i2 x hx with hx | hx
   ·exact .inl (List.mem_cons_of_mem _ hx)
   ·rcases b2 x hx with rfl | hx
    ·exact .inl List.mem_cons_self
    ·exact .inr hx
 obtain ⟨k1, k2, k3⟩ := key l [] .nil;exact ⟨k1, fun x hx => by rcases k2 x hx with h | h; exact h; simp at h, by simp only [List.length_nil, Nat.add_zero] at k3; exact k3⟩
theorem Je {s : PH} {a : OA} {n c : Nat} {l : List Ht} (h : Sl bh s (a, n, c) l) (hk : oa l) (hn : l.length ≤ 1000000) :
  ah 18 #[.slice a n c] s fun y s' => ∃ a' n' c', y = .slice a' n' c' ∧ Gw bh 75 s s' a' n' c' (kz l) := by
 refine HG a n c _ s ?_;unfold A9;have hln : n = l.length := h.len;simp only [bY, cX, aQ, aR, aP, aT, bL, bM, aF];refine ⟨fun z s' => ∃ (i : Nat) (a1 : OA) (n1 c1 : Nat), z = (((a1, n1, c1), ()), ((a, n, c), ()), ((n : Int), ()), ((i : Int), ()), ()) ∧ i ≤ n ∧ Gw bh 75 s s' a1 n1 c1 (kz (l.take i)), fun z _ => n - z.2.2.2.1.1.toNat, ⟨0, none, 0, 0, rfl, Nat.zero_le _, Gw.nil (Mod.refl _ _)⟩, ?_⟩;rintro _ s1 ⟨i, a1, n1, c1, rfl, hi, hG⟩;dsimp only;refine aC (fun e => ?_) fun e => ?_;rotate_left
 ·have e : ¬ (i : Int) < (n : Int) := of_decide_eq_false e;rw [List.take_of_length_le (by omega)] at hG;exact ⟨a1, n1, c1, rfl, hG⟩
 have hlt : (i : Int) < (n : Int) := of_decide_eq_true e
 obtain ⟨x, hx⟩ : ∃ x, l[i]? = some x := ⟨_, List.getElem?_eq_getElem (by omega)⟩
 obtain ⟨ad, had, hh⟩ := (h.mono hG.md.le).el.aG hx;dsimp only at had;subst had;refine bg ⟨Int.natCast_nonneg i, hlt⟩ ?_;simp only [cR, Int.toNat_natCast];have hh : s1.has (ad.add (i * 3)) (bh.f x) := hh;refine aE hh (y := pG x) rfl ?_
 obtain ⟨acc, hacc⟩ : ∃ acc, kz (l.take i) = acc := ⟨_, rfl⟩
 have hstep : kz (l.take (i + 1)) = je acc x := by rw [← hacc]; unfold kz; rw [pn je [] hx]
 rw [hacc] at hG;have hbl := (th (l.take i)).2.2;have hbm := (th (l.take i)).2.1;rw [hacc] at hbl hbm;rw [List.length_take] at hbl;have hn1 := hG.row.len;rw [aj (k := i) (by omega)]
 have push : je acc x = acc ++ [x] → W.nw (.cells #[.string x.key, .int .i64 x.ts, .string x.val] 75 (0, 0)) (fun r => W.app 75 3 40 [.string ⟨#[]⟩, .int .i64 0, .string ⟨#[]⟩] a1 n1 c1 (Src.sl (some ⟨r, 0, none⟩) 1) fun a' n' c' s' => (∃ (k : Nat) (a1 : OA) (n1 c1 : Nat), ((((a', n', c'), ()), ((some ad, n, c), ()), ((n : Int), ()), (((i + 1 : Nat) : Int), ()), ()) : bX [(false, [.slice]), (false, [.slice]), (false, [.int .i64]), (false, [.int .i64])]) = (((a1, n1, c1), ()), ((some ad, n, c), ()), ((n : Int), ()), ((k : Int), ()), ()) ∧ k ≤ n ∧ Gw bh 75 s s' a1 n1 c1 (kz (l.take k))) ∧ n - (((i + 1 : Nat) : Int)).toNat < n - ((i : Int)).toNat) s1 := fun hb => by
  refine hG.push [x] (k := 1) rfl rfl rfl (by omega) (by omega) fun a2 c2 s2 h2 => ?_;refine ⟨⟨i + 1, a2, n1 + 1, c2, rfl, by omega, by rw [hstep, hb]; exact h2⟩, by simp only [Int.toNat_natCast]; omega⟩
 refine aC (fun e => ?_) fun e => ?_
 ·have e : (n1 : Int) = 0 := eq_of_beq e;have hnil : acc = [] := List.eq_nil_of_length_eq_zero (by omega);exact push (by unfold je; rw [hnil]; (first | done | rfl))
 have e : ¬ (n1 : Int) = 0 := by simpa using e
 obtain ⟨g, hg⟩ : ∃ g, acc[n1 - 1]? = some g := ⟨_, List.getElem?_eq_getElem (by omega)⟩
 have hgl : acc.getLast? = some g := by rw [List.getLast?_eq_getElem?, ← hn1]; exact hg
 have hw : i64.wrap ((n1 : Int) - 1) = ((n1 - 1 : Nat) : Int) := by rw [bQ (by omega) (by omega)]; omega
 rw [hw];obtain ⟨b, rfl, hhg⟩ := hG.row.at hg;refine bg ⟨Int.natCast_nonneg _, by omega⟩ ?_;simp only [cR, Int.toNat_natCast, aV, Nat.zero_add];have hhg : s1.has ⟨b, (n1 - 1) * 3, none⟩ (bh.f g) := hhg;refine bl (A := ⟨b, (n1 - 1) * 3, none⟩) (j := 0) hhg (y := (g.key, ())) rfl ?_;have hgk := hk g (List.mem_of_mem_take (hbm g (List.mem_of_getElem? hg)));refine W.bF ((cZ g.key x.key, ()), ()) (nC g.key x.key (by omega) s1) rfl ?_;dsimp only;have hsl := pT g.key x.key;refine aC (fun e2 => ?_) fun e2 => ?_
 ·have e2 : bK g.key x.key = true := hsl.1 (of_decide_eq_true e2);exact push (by unfold je; rw [hgl]; dsimp only; rw [if_pos e2])
 ·have e2 : ¬ bK g.key x.key = true := fun q => of_decide_eq_false e2 (hsl.2 q);refine ⟨⟨i + 1, some ⟨b, 0, none⟩, n1, c1, rfl, by omega, ?_⟩, by (try simp only [Int.toNat_natCast]); omega⟩;rw [hstep];unfold je;rw [hgl];dsimp only;rw [if_neg e2]; exact hG
def gO (l : List iX) : Nat := (l.map fun q => q.b.vals.length).sum
theorem Gn {l : List iX} {k : Nat} {q : iX} (h : l[k]? = some q) : gO (l.take (k + 1)) = gO (l.take k) + q.b.vals.length := by
 unfold gO; rw [List.take_add_one, h]; simp
theorem GL {s : PH} {t : aU} {S : aK} {ps : List aD} (h : zb s t S ps) {b : aU} {L : List cG} {bs : List iX} (hb : rQ s b L bs) {u : aU} {l : List Ht} (hu : oo bh s u l) :
  ah 17 #[fj S t, .slice b.1 b.2.1 b.2.2, .slice u.1 u.2.1 u.2.2] s fun y s' => (∃ g, y = .bool g ∧ (g = false → S.tabs.length + jb S.tabs + gO bs + l.length ≤ 400 ∧ bs.length ≤ 12 ∧ ∀ x ∈ l, x.val.size ≤ 1000)) ∧ s' = s := by
 obtain ⟨ta, tn, tc⟩ := t;obtain ⟨ba, bn, bc⟩ := b;obtain ⟨ua, un, uc⟩ := u;refine Fo S.version S.last ta tn tc ba bn bc ua un uc _ s ?_;unfold xV;have htn : tn = ps.length := h.el.el.1
 have hpl : S.tabs.length = ps.length := by rw [h.eq]; simp
 have hun : un = l.length := hu.el.1;have hbn : bn = bs.length := hb.el.el.1;have hb1 := h.el.big;have hb2 := hu.big;have hb3 := hb.el.big;simp only [aQ, aR, aP, aT, bL, aF]
 have hw0 : i64.wrap (i64.wrap ((tn : Int) + (bn : Int)) + (un : Int)) = ((tn + bn + un : Nat) : Int) := by
  rw [bQ (n := (tn : Int) + (bn : Int)) (by omega) (by omega), bQ (by omega) (by omega)]; omega
 rw [hw0];refine ⟨fun z s' => ∃ k : Nat, z = ((((tn + bn + un + jb (S.tabs.take k) : Nat) : Int), ()), ((ta, tn, tc), ()), ((tn : Int), ()), ((k : Int), ()), ()) ∧ k ≤ tn ∧ s' = s ∧ tn + bn + un + jb (S.tabs.take k) ≤ 17592186044416, fun z _ => tn - z.2.2.2.1.1.toNat, ⟨0, by simp [jb], Nat.zero_le _, rfl, by simp [jb]; omega⟩, ?_⟩;rintro _ s0 ⟨k, rfl, hk, rfl, hN⟩;dsimp only;refine aC (fun hlt => ?_) fun hge => ?_
 ·have hlt' : (k : Int) < (tn : Int) := of_decide_eq_true hlt
  obtain ⟨p, hp⟩ : ∃ p, ps[k]? = some p := ⟨_, List.getElem?_eq_getElem (by omega)⟩
  have hT : S.tabs[k]? = some p.T := by rw [h.eq, List.getElem?_map, hp]; (first | done | rfl)
  obtain ⟨ad, had, hh⟩ := h.el.el.aG hp;dsimp only at had;subst had;refine bg ⟨Int.natCast_nonneg k, hlt'⟩ ?_;simp only [cR, Int.toNat_natCast];have hh : s0.has (ad.add (k * 5)) (ja.f p) := hh;refine aE hh (y := me p) rfl ?_;have hP := h.all p (List.mem_of_getElem? hp);have l1 : p.c.2.1 = p.T.cols.length := hP.c.el.1;have l2 : p.x.2.1 = p.T.idxs.length := hP.x.el.1;have l3 : p.k.2.1 = p.T.keys.length := hP.k.el.1;have g1 := hP.c.big;have g2 := hP.x.big;have g3 := hP.k.big;have hs := Gq hT
  have hw : i64.wrap (((tn + bn + un + jb (S.tabs.take k) : Nat) : Int) + i64.wrap (i64.wrap (((p.c.2.1 : Nat) : Int) + ((p.x.2.1 : Nat) : Int)) + ((p.k.2.1 : Nat) : Int))) = ((tn + bn + un + jb (S.tabs.take (k + 1)) : Nat) : Int) := by
   rw [bQ (n := ((p.c.2.1 : Nat) : Int) + ((p.x.2.1 : Nat) : Int)) (by omega) (by omega), bQ (n := ((p.c.2.1 : Nat) : Int) + ((p.x.2.1 : Nat) : Int) + ((p.k.2.1 : Nat) : Int)) (by omega) (by omega), bQ (by omega) (by omega), hs];omega
  dsimp only;rw [hw];refine (W.af _ _ _ _).2 ⟨fun hgt => ⟨⟨true, rfl, fun e => by cases e⟩, rfl⟩, fun hle => ?_⟩;have hle : ¬ ((tn + bn + un + jb (S.tabs.take (k + 1)) : Nat) : Int) > 400 := of_decide_eq_false hle;rw [aj (k := k) (by omega)];exact ⟨⟨k + 1, rfl, by omega, rfl, by omega⟩, by simp only [Int.toNat_natCast]; omega⟩
 have hge : ¬ (k : Int) < (tn : Int) := of_decide_eq_false hge;have hall : S.tabs.take k = S.tabs := List.take_of_length_le (by omega);rw [hall] at hN ⊢
 obtain ⟨N, hNe⟩ : ∃ N, tn + bn + un + jb S.tabs = N := ⟨_, rfl⟩
 rw [hNe] at hN ⊢;refine ⟨fun z s' => ∃ k : Nat, z = ((((N + gO (bs.take k) : Nat) : Int), ()), ((ba, bn, bc), ()), ((bn : Int), ()), ((k : Int), ()), ()) ∧ k ≤ bn ∧ s' = s0 ∧ N + gO (bs.take k) ≤ 17592186044416, fun z _ => bn - z.2.2.2.1.1.toNat, ⟨0, by simp [gO], Nat.zero_le _, rfl, by simp [gO]; omega⟩, ?_⟩;rintro _ s1 ⟨k2, rfl, hk2, rfl, hN2⟩;dsimp only;refine aC (fun hlt => ?_) fun hge2 => ?_
 ·have hlt' : (k2 : Int) < (bn : Int) := of_decide_eq_true hlt
  obtain ⟨q, hq⟩ : ∃ q, bs[k2]? = some q := ⟨_, List.getElem?_eq_getElem (by omega)⟩
  obtain ⟨ad, had, hh⟩ := hb.el.el.aG hq;dsimp only at had;subst had;refine bg ⟨Int.natCast_nonneg k2, hlt'⟩ ?_;simp only [cR, Int.toNat_natCast];have hh : s1.has (ad.add (k2 * 11)) (qw.f q) := hh;refine aE hh (y := vU q.b q.t) rfl ?_;have hQ := hb.all q (List.mem_of_getElem? hq);have l1 : q.t.2.1 = q.b.vals.length := hQ.v.el.1;have g1 := hQ.v.big;have hs := Gn hq
  have hw : i64.wrap (((N + gO (bs.take k2) : Nat) : Int) + ((q.t.2.1 : Nat) : Int)) = ((N + gO (bs.take (k2 + 1)) : Nat) : Int) := by
   rw [bQ (by omega) (by omega), hs]; omega
  have hw2 : i64.wrap (((N + gO (bs.take k2) : Nat) : Int) + (((vU q.b q.t).2.2.1.2.1 : Nat) : Int)) = ((N + gO (bs.take (k2 + 1)) : Nat) : Int) := hw;dsimp only;rw [hw2];refine (W.af _ _ _ _).2 ⟨fun hgt => ⟨⟨true, rfl, fun e => by cases e⟩, rfl⟩, fun hle => ?_⟩;have hle : ¬ ((N + gO (bs.take (k2 + 1)) : Nat) : Int) > 400 := of_decide_eq_false hle;rw [aj (k := k2) (by omega)];exact ⟨⟨k2 + 1, rfl, by omega, rfl, by omega⟩, by simp only [Int.toNat_natCast]; omega⟩
 have hge2 : ¬ (k2 : Int) < (bn : Int) := of_decide_eq_false hge2;have hall2 : bs.take k2 = bs := List.take_of_length_le (by omega);rw [hall2] at hN2 ⊢;refine ⟨fun z s' => ∃ k : Nat, z = ((((N + gO bs : Nat) : Int), ()), ((ua, un, uc), ()), ((un : Int), ()), ((k : Int), ()), ()) ∧ k ≤ un ∧ s' = s1 ∧ ∀ x ∈ l.take k, x.val.size ≤ 1000, fun z _ => un - z.2.2.2.1.1.toNat, ⟨0, rfl, Nat.zero_le _, rfl, by simp⟩, ?_⟩;rintro _ s2 ⟨k3, rfl, hk3, rfl, hv⟩;dsimp only;refine aC (fun hlt => ?_) fun hge3 => ?_
 ·have hlt' : (k3 : Int) < (un : Int) := of_decide_eq_true hlt
  obtain ⟨x, hx⟩ : ∃ x, l[k3]? = some x := ⟨_, List.getElem?_eq_getElem (by omega)⟩
  obtain ⟨ad, had, hh⟩ := hu.el.aG hx;dsimp only at had;subst had;refine bg ⟨Int.natCast_nonneg k3, hlt'⟩ ?_;simp only [cR, Int.toNat_natCast];have hh : s2.has (ad.add (k3 * 3)) (bh.f x) := hh;refine aE hh (y := pG x) rfl ?_;dsimp only;refine (W.af _ _ _ _).2 ⟨fun hgt => ⟨⟨true, rfl, fun e => by cases e⟩, rfl⟩, fun hle => ?_⟩;have hle : ¬ ((x.val.size : Nat) : Int) > 1000 := of_decide_eq_false hle;rw [aj (k := k3) (by omega)];refine ⟨⟨k3 + 1, rfl, by omega, rfl, fun y hy => ?_⟩, by simp only [Int.toNat_natCast]; omega⟩;rw [List.take_add_one, hx, List.mem_append] at hy;rcases hy with hy | hy
  ·exact hv y hy
  ·simp at hy; subst hy; omega
 have hge3 : ¬ (k3 : Int) < (un : Int) := of_decide_eq_false hge3;rw [List.take_of_length_le (by omega)] at hv;refine (W.af _ _ _ _).2 ⟨fun hgt => ⟨⟨true, rfl, fun e => by cases e⟩, rfl⟩, fun hle => ?_⟩;have hle : ¬ ((N + gO bs : Nat) : Int) > 400 := of_decide_eq_false hle;refine ⟨⟨_, rfl, fun e => ?_⟩, rfl⟩;have e : ¬ (bn : Int) > 12 := of_decide_eq_false e;exact ⟨by omega, by omega, hv⟩
theorem zb.LQ {s : PH} {t : aU} {S : aK} {ps : List aD} (h : zb s t S ps) (hl : S.tabs.length + jb S.tabs ≤ 400) : dO s t S ps := by
 have key : ∀ (l : List az), ∀ T ∈ l, T.cols.length + T.idxs.length + T.keys.length ≤ jb l := by
  intro l
  induction l with
  | nil => simp
  | cons a l ih =>
   intro T hT
   have e : jb (a :: l) = (a.cols.length + a.idxs.length + a.keys.length) + jb l := by simp [jb]
   rcases List.mem_cons.1 hT with rfl | hT
   ·omega
   ·have := ih T hT; omega
 have hpl : S.tabs.length = ps.length := by rw [h.eq]; simp
 refine ⟨h.el.dF (by omega), h.eq, fun p hp => ?_⟩
 have hT : p.T ∈ S.tabs := by rw [h.eq]; exact List.mem_map_of_mem hp
 have := key S.tabs p.T hT;obtain ⟨a, b, c⟩ := h.all p hp;exact ⟨a.dF (by omega), b.dF (by omega), c.dF (by omega)⟩
theorem rQ.dF {s : PH} {b : aU} {L : List cG} {bs : List iX} (h : rQ s b L bs) (h1 : gO bs ≤ 400) (h2 : bs.length ≤ 12) : Sl qw s b bs ∧ ∀ q ∈ bs, Sl ew s q.t q.b.vals ∧ wX q.b := by
 have key : ∀ (l : List iX), ∀ q ∈ l, q.b.vals.length ≤ gO l := by
  intro l
  induction l with
  | nil => simp
  | cons a l ih =>
   intro q hq
   have e : gO (a :: l) = a.b.vals.length + gO l := by simp [gO]
   rcases List.mem_cons.1 hq with rfl | hq
   ·omega
   ·have := ih q hq; omega
 refine ⟨h.el.dF (by omega), fun q hq => ⟨(h.all q hq).v.dF ?_, (h.all q hq).ok⟩⟩;have := key bs q hq;omega
end
section
attribute [-simp] Fw.W.bD Fw.W.bB
theorem GG {n m : Nat} (h : n = m) : (((n : Nat) : Int) != ((m : Nat) : Int)) = false := by rw [h]; simp
end
section
attribute [-simp] Fw.W.bD Fw.W.bB
theorem xI : ∀ {l seen : List Int} {last : Int}, bf last l seen = true → (∀ n ∈ l, 1 ≤ n ∧ n ≤ last ∧ n ∉ seen) ∧ l.Nodup
 | [], seen, last, _ => by simp
 | n :: l, seen, last, h => by
  simp only [bf, Bool.and_eq_true, decide_eq_true_eq, Bool.not_eq_true', decide_eq_false_iff_not] at h;obtain ⟨i1, i2⟩ := xI h.2.2;refine ⟨fun m hm => ?_, List.nodup_cons.2 ⟨fun hn => (i1 n hn).2.2 (by simp), i2⟩⟩;rcases List.mem_cons.1 hm with rfl | hm
  ·exact ⟨h.1.1, h.1.2, h.2.1⟩
  ·obtain ⟨a, b, c⟩ := i1 m hm;exact ⟨a, b, fun g => c (List.mem_cons_of_mem _ g)⟩
theorem xH {S : aK} (h : right S = true) : (∀ n ∈ S.tabs.flatMap bH, 1 ≤ n ∧ n ≤ 1125899906842624) ∧ (S.tabs.flatMap bH).Nodup := by
 obtain ⟨a, b, c, d, e⟩ := eB.1 h;obtain ⟨i1, i2⟩ := xI e;obtain ⟨hb, _, _⟩ := tY h;refine ⟨fun n hn => ?_, i2⟩;obtain ⟨x, y, _⟩ := i1 n hn;have := hb.last.2;exact ⟨x, by omega⟩
theorem Iq {S : aK} {i : Int} (h : 0 ≤ dK S i) : ∃ U, iI S i = some U ∧ S.tabs[(dK S i).toNat]? = some U := by
 unfold dK at h ⊢;rcases nG (fun T : az => decide (T.id = i)) S.tabs with ⟨h1, _⟩ | ⟨j, U, h1, h2, h3⟩
 ·omega
 ·refine ⟨U, ?_, by rw [h1]; exact h2⟩;unfold iI;rw [← h3]
  congr 1
theorem jO {S : aK} (h : right S = true) (hr : vQ S) : (∀ T ∈ S.tabs, fR S T) ∧ S.tabs.length ≤ 6 := by
 obtain ⟨a, b, c, d, e⟩ := eB.1 h;obtain ⟨hbd, _, _⟩ := tY h;have hids := (xH h).1;refine ⟨fun T hT => ?_, hbd.tabs⟩;obtain ⟨i, hi⟩ := List.mem_iff_getElem?.1 hT;obtain ⟨x1, x2, x3, x4, _, _, _, q3, c1, c2, c3⟩ := gr.1 (ct.1 d i T hi)
 have hne : T.cols ≠ [] := fun g => by rw [g] at x1; simp at x1
 refine ⟨hne, fun c0 hc0 => ?_, fun c0 hc0 => ?_, fun x hx => ?_, by omega, by omega, by omega⟩
 ·unfold fC at q3
  cases hcs : T.cols with
  | nil => exact absurd hcs hne
  | cons c1 l =>
   rw [hcs] at q3 hc0;simp at hc0;subst hc0;simpa using q3
 ·obtain ⟨j, hj⟩ := List.mem_iff_getElem?.1 hc0;have h1 := ct.1 c1 j c0 hj;unfold gl at h1;simp only [Bool.and_eq_true] at h1;have h2 := hids c0.id (List.mem_flatMap.2 ⟨T, hT, by unfold bH; simp only [List.mem_cons, List.mem_append, List.mem_map]; exact .inr (.inl ⟨c0, hc0, rfl⟩)⟩);exact ⟨h2.1, by omega, wh h1.2.2, hr T hT c0 hc0⟩
 ·obtain ⟨j, hj⟩ := List.mem_iff_getElem?.1 hx;have h1 := ct.1 c3 j x hj;unfold iE at h1;simp only [Bool.and_eq_true, decide_eq_true_eq] at h1;obtain ⟨U, hU, hU2⟩ := Iq h1.2.2.1;refine ⟨U, hU, fun g => ?_⟩;have h2 := h1.2.2.2;unfold pM at h2;rw [hU2] at h2
  cases hc : T.cols[(cS T x.column).toNat]? with
  | none => rw [hc] at h2; cases h2
  | some c =>
   rw [hc] at h2;dsimp only at h2;rw [g] at h2; cases h2
theorem GV {s : PH} {t : aU} {S : aK} {ps : List aD} (h : dO s t S ps) (D : nZ) (hk1 : D.kind = 1) {u : aU} (hu : Sl dw s u D.cols) (hul : D.cols.length ≤ 1073741824) (st : Int) :
  ah 27 #[fj S t, G5 D u, .int .i64 st] s (oV s (S.lF D st).1 (S.lF D st).2) := by
 obtain ⟨ua, un, uc⟩ := u;obtain ⟨ta, tn, tc⟩ := t;refine HN S.version S.last ta tn tc D.kind D.table D.name D.column D.parent D.unique D.type D.dflt.kind D.dflt.n D.dflt.s ua un uc st _ s ?_;unfold Bh
 obtain ⟨R, hR⟩ : ∃ R, oV s (S.lF D st).1 (S.lF D st).2 = R := ⟨_, rfl⟩
 rw [hR];simp only [cE, aR, aY, bM, aF, bY, cX, ir, bL, aT, aP, aQ, mQ, qt, mI, oe, W.ay];refine W.bp (fun z s' => z = ((S.version, S.last, (ta, tn, tc), ()), (D.kind, D.table, D.name, D.column, D.parent, D.unique, D.type, D.dflt.kind, D.dflt.n, D.dflt.s, (ua, un, uc), ()), (0, 0, (none, 0, 0), ()), ()) ∧ s' = s ∧ right S = true ∧ 0 ≤ st ∧ st ≤ 3) ?_ ?_;rotate_left
 ·intro J hJ
  have hbad : ¬ (right S = true ∧ 0 ≤ st ∧ st ≤ 3) → R (.tuple #[fj eY dQ, .int .i64 100]) s := by
   intro e
   have : S.lF D st = (eY, 100) := by
    unfold aK.lF; rw [if_pos];cases hr : right S
    ·rfl
    ·rw [hr] at e;simp only [Bool.true_and, Bool.and_eq_false_iff, decide_eq_false_iff_not];simp only [true_and] at e;omega
   rw [← hR, this];exact tL (Mod.refl _ _)
  have hc := zq h
  obtain ⟨E, hE⟩ : ∃ E, right S = E := ⟨_, rfl⟩
  rw [hE] at hc hbad hJ;refine aN ((E, ()), ()) hc rfl ?_;simp only [W.af, decide_eq_true_eq, decide_eq_false_iff_not];exact ⟨fun h1 => hbad (fun e => by rw [e.1] at h1; cases h1), fun h1 => ⟨fun h2 => hbad (by omega), fun h2 => ⟨fun h3 => hbad (by omega), fun h3 => hJ _ _ ⟨rfl, rfl, uV h1, by omega, by omega⟩⟩⟩⟩
 rintro _ s0 ⟨rfl, rfl, hr, hst0, hst3⟩
 have hturn0 : S.lF D st = if D.kind < 1 ∨ 7 < D.kind then (eY, 1) else match lP { S with version := S.version + 1 } D st with
   | .error e => (eY, e)
   | .ok S' => (S', 0) := by
  unfold aK.lF;rw [if_neg (by rw [hr, decide_eq_true hst0, decide_eq_true hst3]; simp)]
  first | done | rfl
 refine W.bp (fun z s' => z = ((S.version, S.last, (ta, tn, tc), ()), (D.kind, D.table, D.name, D.column, D.parent, D.unique, D.type, D.dflt.kind, D.dflt.n, D.dflt.s, (ua, un, uc), ()), (0, 0, (none, 0, 0), ()), ()) ∧ s' = s0 ∧ ¬ (D.kind < 1 ∨ 7 < D.kind)) ?_ ?_;rotate_left
 ·intro J hJ
  have hbad : (D.kind < 1 ∨ 7 < D.kind) → R (.tuple #[fj eY dQ, .int .i64 1]) s0 := by
   intro e;rw [← hR, hturn0, if_pos e];exact tL (Mod.refl _ _)
  simp only [W.af, decide_eq_true_eq, decide_eq_false_iff_not];exact ⟨fun h2 => hbad (by omega), fun h2 => ⟨fun h3 => hbad (by omega), fun h3 => hJ _ _ ⟨rfl, rfl, by omega⟩⟩⟩
 rintro _ s1 ⟨rfl, rfl, hkind⟩;rw [if_neg hkind] at hturn0;obtain ⟨hbd, hv0, hv1⟩ := tY hr;have hsn := Ii hr;have hvw : i64.wrap (S.version + 1) = S.version + 1 := bQ (by omega) (by omega);refine W.aq (Ji h) ?_;rintro _ s2 ⟨t', ps', rfl, hH, he, m2, hf⟩;refine ⟨((S.version, S.last, t', ()), ()), rfl, ?_⟩;simp only [hvw]
 obtain ⟨S1, hS1⟩ : ∃ S1 : aK, S1 = ⟨S.version + 1, S.last, S.tabs⟩ := ⟨_, rfl⟩
 have hbd1 : S1.Bd := by rw [hS1]; exact ⟨hbd.tabs, hbd.each, hbd.last⟩
 have hsn1 : S1.Sn := by rw [hS1]; exact ⟨hsn.c, hsn.x, hsn.k⟩
 have he1 : S1.tabs = ps'.map (·.T) := by rw [hS1]; exact he
 have hSch2 : dO s2 t' S1 ps' := hH.is he1 (by have := hbd1.tabs; omega) (fun T hT => by obtain ⟨_, a, b, c⟩ := hbd1.each T hT; exact ⟨by omega, by omega, by omega⟩);have eS1 : (⟨S.version + 1, S.last, S.tabs⟩ : aK) = S1 := hS1.symm
 have hturn2 : S.lF D st = (lP S1 D st).out := by rw [← eS1]; exact hturn0
 have hv : S.version + 1 = S1.version := by rw [hS1]
 have hl : S.last = S1.last := by rw [hS1]
 rw [hv, hl];have herr := Ge S1 D st;have hu2 := hu.mono m2.le;refine aN ((fI S1 D.table, ()), ()) (oY hSch2 D.table) rfl ?_
 have hk0 : ∀ e, oV s1 eY e (.tuple #[fj eY dQ, .int .i64 e]) s2 → S.lF D st = (eY, e) → R (.tuple #[fj eY dQ, .int .i64 e]) s2 := fun e hg ht => by rw [← hR, ht]; exact hg
 simp only [W.af, decide_eq_true_eq, decide_eq_false_iff_not];refine ⟨fun h1 => ?_, fun h1 => ?_⟩
 ·have h1 : D.kind = 1 := by simpa using h1
  have ht1 : lP S1 D st = cA S1 D st := by unfold lP; rw [if_pos h1]
  rw [ht1] at herr hturn2;refine W.aq (EB hH he1 hbd1 D hu2 hul st) ?_;intro y s3 ho;refine FQ ho m2 hf herr hturn2 (K := fun _ => True) ?_ ?_
  ·intro S'' t'' e hne hg ht;simp only [W.af];refine ⟨fun _ => by rw [← hR, ht]; exact hg, fun hz => absurd (by simpa using hz) hne⟩
  ·intro S' t'' hg ht;refine (W.af _ _ _ _).2 ⟨fun hz => by simp at hz, fun _ => ?_⟩
   show R _ _
   rw [← hR, ht]; exact hg
 have h1 : D.kind ≠ 1 := by simpa using h1
 exact absurd hk1 h1
abbrev iN : cG := ⟨1, 1, [aB 5, ⟨2, 0, bs [120]⟩], 0, gm, 0, gm⟩
theorem B8 : right gS = true := by kernel_rfl
theorem II : jm gS = 0 := by kernel_rfl
theorem KM : vQ gS := by
 intro T hT c hc
 have h1 : T = ⟨1, bs [116], [⟨2, bs [97], 1, 3, ⟨0, 0, emp⟩⟩, ⟨3, bs [98], 2, 3, ⟨0, 0, emp⟩⟩], [], []⟩ := by simpa [gS] using hT
 subst h1
 have h2 : c = ⟨2, bs [97], 1, 3, ⟨0, 0, emp⟩⟩ ∨ c = ⟨3, bs [98], 2, 3, ⟨0, 0, emp⟩⟩ := by simpa using hc
 rcases h2 with rfl | rfl
 ·exact ⟨by decide, by decide⟩
 ·exact ⟨by decide, by decide⟩
theorem KN : (bZ gS 0 [iN] []).err = 0 ∧ (bZ gS 0 [iN] []).asks = [cF 1 (aB 5)] ∧ (bZ gS 0 [iN] []).reps = [⟨1, []⟩] ∧ ∃ x, (bZ gS 0 [iN] []).ws = [x] ∧ x.key = cH 1 (aB 5) := by
 refine ⟨by kernel_rfl, by kernel_rfl, by kernel_rfl, (bZ gS 0 [iN] []).ws.headD ⟨emp, emp, false⟩, by kernel_rfl, by kernel_rfl⟩
theorem KO : (bZ gS 0 [iN, iN] []).err = 210 ∧ (bZ gS 0 [iN, iN] []).at_ = 1 := by
 exact ⟨by kernel_rfl, by kernel_rfl⟩
theorem AN (s : PH) : jI s dQ [] := ⟨Sl.nil, by show 0 ≤ 100000; omega, by intro h hh; simp at hh, by intro h hh; simp at hh, .nil⟩
theorem zn (s : PH) : ah 16 #[] s fun y s' => y = .bool true ∧ s' = s := by
 refine bx.quiet (Fm _ s ?_);unfold xU;simp only [aY, bM, bY, aR, aF, aP, aT, bL];refine W.aq (Ev s) ?_;rintro _ s1 ⟨u, rfl, hu, m1⟩;refine ⟨((kY.kind, kY.table, kY.name, kY.column, kY.parent, kY.unique, kY.type, kY.dflt.kind, kY.dflt.n, kY.dflt.s, u, ()), ()), rfl, ?_⟩
 have hno : dO s1 dQ eY [] := ⟨Sl.nil, rfl, by simp⟩
 have hc1 := GV hno kY rfl hu (by decide) 3;have hz1 := Kd eY kY 3;rw [Mn] at hc1 hz1;refine W.aq hc1 ?_;intro y s2 hg;obtain ⟨t2, ps2, rfl, hS2, _, m2, _⟩ := G7 hg hz1;refine ⟨((gS.version, gS.last, t2, ()), (0, ()), ()), rfl, ?_⟩;refine aN (bC (aB 5), ()) (lR 5 s2) rfl ?_;refine W.bI fun r1 s3 hr1 m3 k1 => ?_;refine W.bI fun r2 s4 hr2 m4 k2 => ?_
 have hv : ∀ {s' : PH}, Fw.Mod [] s3 s' → Sl ew s' (some ⟨r1, 0, none⟩, 2, 2) iN.vals := fun hm =>
  (Sl.bN (t := (some ⟨r1, 0, none⟩, 2, 2)) (lD (E := ew) (l := iN.vals) k1 rfl rfl (by show 2 ≤ 4294967296; omega)) (by simp)).mono hm.le
 have hb4 : Sl qw s4 (some ⟨r2, 0, none⟩, 1, 1) [⟨iN, (some ⟨r1, 0, none⟩, 2, 2)⟩] := Sl.bN (t := (some ⟨r2, 0, none⟩, 1, 1)) (lD (E := qw) k2 rfl rfl (by show 1 ≤ 4294967296; omega)) (by simp)
 have hexok : wX iN := ⟨⟨by decide, by decide⟩, ⟨by decide, by decide⟩, fun v hv => by
  have : v = aB 5 ∨ v = ⟨2, 0, bs [120]⟩ := by simpa using hv
  rcases this with rfl | rfl
  ·exact ⟨by decide, by decide⟩
  ·exact ⟨by decide, by decide⟩⟩
 have hS4 := hS2.mono (m3.trans m4).le
 have hcn : kX 1000 [] := fun h hh => by simp at hh
 refine W.aq (zx (N0 := 1000) (by omega) (b := (some ⟨r2, 0, none⟩, 1, 1)) (AN s4) hS4 (fun _ => jO B8 KM) hcn hb4 (by simp) (fun q hq => ?_)) ?_
 ·have : q = ⟨iN, (some ⟨r1, 0, none⟩, 2, 2)⟩ := by simpa using hq
  subst this;exact ⟨hv m4, hexok⟩
 rintro y s5 ⟨m5, hq⟩;obtain ⟨f1, f2, f3, x, f4, f5⟩ := KN;have f1' : (bZ gS 0 ([(⟨iN, (some ⟨r1, 0, none⟩, 2, 2)⟩ : iX)].map (·.b)) []).err = 0 := f1;rw [if_neg (by rw [II]; decide), if_neg (by rw [f1']; decide)] at hq;obtain ⟨ur, uw, ut, rfl, hE, _⟩ := hq;have hE : CQ s4 s5 [] (bT [] (bZ gS 0 [iN] []).asks) ((bZ gS 0 [iN] []).ws.foldl cL []) (bZ gS 0 [iN] []).reps ur uw ut := hE;rw [f2, f3, f4] at hE;refine ⟨((ur, uw, ut, ()), (0, ()), (0, ()), ()), rfl, ?_⟩;refine W.bI fun r3 s6 hr3 m6 k3 => ?_;have hb6 : Sl qw s6 (some ⟨r3, 0, none⟩, 2, 2) [⟨iN, (some ⟨r1, 0, none⟩, 2, 2)⟩, ⟨iN, (some ⟨r1, 0, none⟩, 2, 2)⟩] := Sl.bN (t := (some ⟨r3, 0, none⟩, 2, 2)) (lD (E := qw) k3 rfl rfl (by show 2 ≤ 4294967296; omega)) (by simp);have hS6 := hS4.mono (m5.trans m6).le;refine W.aq (zx (N0 := 1000) (by omega) (b := (some ⟨r3, 0, none⟩, 2, 2)) (AN s6) hS6 (fun _ => jO B8 KM) hcn hb6 (by simp) (fun q hq => ?_)) ?_
 ·have : q = ⟨iN, (some ⟨r1, 0, none⟩, 2, 2)⟩ := by simpa using hq
  subst this;exact ⟨hv ((m4.trans m5).trans m6), hexok⟩
 rintro y s7 ⟨m7, hq⟩;obtain ⟨g1, g2⟩ := KO;have g1' : (bZ gS 0 ([(⟨iN, (some ⟨r1, 0, none⟩, 2, 2)⟩ : iX), ⟨iN, (some ⟨r1, 0, none⟩, 2, 2)⟩].map (·.b)) []).err = 210 := g1;have g2' : (bZ gS 0 ([(⟨iN, (some ⟨r1, 0, none⟩, 2, 2)⟩ : iX), ⟨iN, (some ⟨r1, 0, none⟩, 2, 2)⟩].map (·.b)) []).at_ = 1 := g2;rw [if_neg (by rw [II]; decide), if_pos (by rw [g1']; decide), g1', g2'] at hq;subst hq;refine ⟨(((none, 0, 0), (none, 0, 0), (none, 0, 0), ()), ((1 : Int), ()), ((210 : Int), ()), ()), rfl, ?_⟩;have m57 := m6.trans m7;obtain ⟨⟨qs, hr, hrq, hst⟩, hw, ⟨rs, hrp⟩⟩ := hE;have hrr := hr.row.mod m57 (by simp);have hww := hw.row.mod m57 (by simp);have hpp := hrp.gw.row.mod m57 (by simp);have hads : bT [] [cF 1 (aB 5)] = [cF 1 (aB 5)] := rfl;rw [hads] at hrq
 obtain ⟨q, hqs⟩ : ∃ q, qs = [q] := by
  cases qs with
  | nil => simp at hrq
  | cons q l => cases l with
   | nil => exact ⟨q, rfl⟩
   | cons z l => simp at hrq
 subst hqs;have hws : [x].foldl cL [] = [x] := rfl;rw [hws] at hww
 obtain ⟨p, hps⟩ : ∃ p, rs = [p] := by
  have := congrArg List.length hrp.eq
  cases rs with
  | nil => simp at this
  | cons q l => cases l with
   | nil => exact ⟨q, rfl⟩
   | cons z l => simp at this
 subst hps
 have hpr : p.r = ⟨1, []⟩ := by have := hrp.eq; simpa using this
 have n1 : ur.2.1 = 1 := hrr.len;have n2 : uw.2.1 = 1 := hww.len;have n3 : ut.2.1 = 1 := hpp.len;obtain ⟨b1, hb1, hh1⟩ := (Sl.bN (t := ur) hrr (by simp)).el.aG (i := 0) (x := q) rfl;obtain ⟨b2, hb2, hh2⟩ := (Sl.bN (t := uw) hww (by simp)).el.aG (i := 0) (x := x) rfl;obtain ⟨b3, hb3, hh3⟩ := (Sl.bN (t := ut) hpp (by simp)).el.aG (i := 0) (x := p) rfl
 have hh1 : s7.has (b1.add 0) (FV.f q) := by simpa using hh1
 have hh2 : s7.has (b2.add 0) (nT.f x) := by simpa using hh2
 have hh3 : s7.has (b3.add 0) (Le.f p) := by simpa using hh3
 have hq0 : q.u.2.1 = 0 := (hst q (by simp)).len;have yes : ∀ {c : Bool} {a b : W.T} {s : PH}, c = true → a s → W.br c a b s := fun {c a b s} h ha => (W.af _ _ _ _).2 ⟨fun _ => ha, fun e => by rw [h] at e; cases e⟩
 have one : ∀ {n : Nat}, n = 1 → (((n : Nat) : Int) == 1) = true := fun h => by rw [h]; (first | done | rfl)
 refine yes rfl (yes (one n1) ?_);dsimp only;refine (W.cI _ _ _).2 ⟨⟨Int.le_refl 0, by rw [n1]; decide⟩, bS hb1 ?_⟩;refine bl (j := 2) hh1 (y := (q.u, ())) rfl ?_;dsimp only;refine yes (by rw [hq0]; (first | done | rfl)) (yes (one n2) ?_);refine (W.cI _ _ _).2 ⟨⟨Int.le_refl 0, by rw [n2]; decide⟩, bS hb2 ?_⟩;refine bl (j := 0) hh2 (y := (x.key, ())) rfl ?_;refine W.bF (bC (aB 5), ()) (lR 5 s7) rfl ?_;refine W.bF ((cH 1 (aB 5), ()), ()) (EA 1 (aB 5) s7) rfl ?_;dsimp only;rw [bO];refine yes (decide_eq_true f5) (yes (one n3) ?_);refine (W.cI _ _ _).2 ⟨⟨Int.le_refl 0, by rw [n3]; decide⟩, bS hb3 ?_⟩;refine bl (j := 0) hh3 (y := (p.r.n, ())) rfl ?_;dsimp only;refine yes (by rw [hpr]; (first | done | rfl)) (yes rfl (yes rfl ?_));exact ⟨rfl, (((((m1.trans m2).trans m3).trans m4).trans m5).trans m6).trans m7⟩
end
section
attribute [-simp] Fw.W.bD Fw.W.bB
theorem Ij (S : aK) (i : Int) (D : List Ht) : bZ S i [] D = ⟨0, 0, [], [], []⟩ := by rw [bZ.eq_def]
def tX (S : aK) (L : List cG) (B : List Ht) : Int := if jm S ≠ 0 then 100 else (bZ S 0 L B).err
theorem D4 {N0 : Nat} {s s' : PH} {S : aK} {B : List Ht} {L : List cG} {y : Value} (h : Gy N0 s S B L y s') : Fw.Mod [] s s' ∧ ∃ (u v t : aU) (at_ : Int), y = .tuple #[.agg #[kU u, kU v, kU t], .int .i64 at_, .int .i64 (tX S L B)] ∧
  (tX S L B = 0 → CQ s s' B (bT [] (bZ S 0 L B).asks) ((bZ S 0 L B).ws.foldl cL []) (bZ S 0 L B).reps u v t ∧ Gx N0 B (bZ S 0 L B).ws (bZ S 0 L B).reps ∧ (bZ S 0 L B).err = 0) ∧
  (tX S L B ≠ 0 → u = dQ ∧ v = dQ ∧ t = dQ) := by
 obtain ⟨m, h⟩ := h;refine ⟨m, ?_⟩;unfold tX
 by_cases e : jm S ≠ 0
 ·rw [if_pos e] at h ⊢;exact ⟨dQ, dQ, dQ, 0, h, fun g => absurd g (by decide), fun _ => ⟨rfl, rfl, rfl⟩⟩
 ·rw [if_neg e] at h ⊢
  by_cases e2 : (bZ S 0 L B).err ≠ 0
  ·rw [if_pos e2] at h;exact ⟨dQ, dQ, dQ, _, h, fun g => absurd g e2, fun _ => ⟨rfl, rfl, rfl⟩⟩
  ·rw [if_neg e2] at h;obtain ⟨u, v, t, rfl, h1, h2⟩ := h
   have e3 : (bZ S 0 L B).err = 0 := by omega
   exact ⟨u, v, t, 0, by rw [e3], fun _ => ⟨h1, h2, e3⟩, fun g => absurd e3 g⟩
theorem zS {x : BA} {l : List aL} (e : eM x = some l) : l.length ≤ x.size := by
 obtain ⟨h1, _, _, _⟩ := j7 e;have h4 := xe (l := l);rw [h1, bR]; exact h4
structure Ln (B : List Ht) : Prop where
 cJ : cz B
 ks : oa B
 vs : ny B
 cn : kX 1000 B
 len : B.length ≤ 400
theorem I0 {l : List Ht} (hk : oa l) (hv : ∀ x ∈ l, x.val.size ≤ 1000) (hl : l.length ≤ 400) : Ln (kz l) := by
 obtain ⟨h1, h2, h3⟩ := th l;refine ⟨h1, fun x hx => hk x (h2 x hx), fun x hx => ?_, fun x hx c e => ?_, by omega⟩
 ·have := hv x (h2 x hx); omega
 ·have h4 := hv x (h2 x hx); have h5 := zS e; omega
theorem KZ {N0 : Nat} {B : List Ht} {ws : List Wr} {rps : List Rp} (hs : cz B) (hk : oa B) (hv : ny B) (hl : B.length ≤ 50000) (h : Gx N0 B ws rps) : ai 0 B (ws.foldl cL []) = ai 0 B ws ∧ cz (ai 0 B ws) ∧ oa (ai 0 B ws) ∧ ny (ai 0 B ws) ∧ (ai 0 B ws).length ≤ 70000 := by
 have e : ai 0 B (ws.foldl cL []) = ai 0 B ws := (jM hs ws List.Pairwise.nil).symm;refine ⟨e, ?_⟩;rw [← e];refine ⟨fq _ hs, fun x hx => ?_, fun x hx => ?_, ?_⟩
 ·rcases lK hx with ⟨y, hy, rfl⟩ | hx
  ·have := (h.sm y hy).1; dsimp only; omega
  ·exact hk x hx
 ·rcases lK hx with ⟨y, hy, rfl⟩ | hx
  ·exact (h.sm y hy).2
  ·exact hv x hx
 ·have h1 := mw 0 (ws.foldl cL []) B;have h2 := h.ol;omega
theorem KT {S : aK} (hr : vQ S) : jm S = 0 → (∀ T ∈ S.tabs, fR S T) ∧ S.tabs.length ≤ 6 := fun e => jO (by
 unfold jm at e
 split at e
 ·assumption
 ·cases e) hr
end
section
theorem GA {cs : Array Value} {l : List Value} (h : cs.toList = l) : Value.agg cs = .agg l.toArray := by rw [← h]
theorem I2 {s : PH} {a : OA} {n c : Nat} {L : List cG} (w : elems uX s a n L) (h : n ≤ c) (b : c * 120 ≤ reachBytes) : ∃ bs, rQ s (a, n, c) L bs := by
 have hr : reachBytes = 140737488351232 := rfl;obtain ⟨t, bs, e, hb⟩ := FU (s := s) (cs := [.slice a n c]) (L := L) ⟨a, n, c, rfl, h, by show c ≤ 9223372036854775807; omega, b, w⟩
 have e : (Value.slice a n c) = .slice t.1 t.2.1 t.2.2 := by simpa using e
 cases e;exact ⟨bs, hb⟩
theorem Js {s : PH} {a : OA} {n c : Nat} {l : List Ht} (w : elems uY s a n l) (h : n ≤ c) (b : c * 40 ≤ reachBytes) : oo bh s (a, n, c) l ∧ oa l := by
 have hr : reachBytes = 140737488351232 := rfl;obtain ⟨t, e, hb, hk⟩ := xL (R := uY) (E := bh) (bytes := 40) (s := s) (cs := [.slice a n c]) (xs := l) (by omega) rfl (fun cs x hx => J4 hx) ⟨a, n, c, rfl, h, by show c ≤ 9223372036854775807; omega, b, w⟩
 have e : (Value.slice a n c) = .slice t.1 t.2.1 t.2.2 := by simpa using e
 cases e;exact ⟨hb, hk⟩
end
section
theorem rz {t : Int} {k : aH} (ht : gf t) (hk : dg k) : de (cH t k) = some [aB 0, aB t, k] := by
 have h : ∀ v ∈ [aB 0, aB t, k], dg v := by
  intro v hv;simp only [List.mem_cons, List.not_mem_nil, or_false] at hv;rcases hv with rfl | rfl | rfl
  ·exact iT ⟨by omega, by omega⟩
  ·exact iT ht
  ·exact hk
 unfold cH;rw [jq (fun v hv => (h v hv).1) (by simp)];exact pJ h (by simp)
theorem qH {i : Int} {v k : aH} (hi : gf i) (hv : dg v) (hk : dg k) : de (eF i v k) = some [aB 1, aB i, v, k] := by
 have h : ∀ u ∈ [aB 1, aB i, v, k], dg u := by
  intro u hu;simp only [List.mem_cons, List.not_mem_nil, or_false] at hu;rcases hu with rfl | rfl | rfl | rfl
  ·exact iT ⟨by omega, by omega⟩
  ·exact iT hi
  ·exact hv
  ·exact hk
 unfold eF;rw [jq (fun v hv => (h v hv).1) (by simp)];exact pJ h (by simp)
theorem nk {t t' : Int} {k k' : aH} (ht : gf t) (ht' : gf t') (hk : dg k) (hk' : dg k') (e : cH t k = cH t' k') : t = t' ∧ k = k' := by
 have h1 := rz ht hk;rw [e, rz ht' hk'] at h1;simp only [Option.some.injEq, List.cons.injEq, aH.mk.injEq, and_true, true_and] at h1;exact ⟨h1.1.symm, h1.2.symm⟩
theorem zL {i i' : Int} {v v' k k' : aH} (hi : gf i) (hi' : gf i') (hv : dg v) (hv' : dg v') (hk : dg k) (hk' : dg k') (e : eF i v k = eF i' v' k') : i = i' ∧ v = v' ∧ k = k' := by
 have h1 := qH hi hv hk;rw [e, qH hi' hv' hk'] at h1;simp only [Option.some.injEq, List.cons.injEq, aH.mk.injEq, and_true, true_and] at h1;exact ⟨h1.1.symm, h1.2.1.symm, h1.2.2.symm⟩
theorem lC {t i : Int} {v k k' : aH} (ht : gf t) (hi : gf i) (hv : dg v) (hk : dg k) (hk' : dg k') : cH t k ≠ eF i v k' := fun e => by
 have h1 := rz ht hk;rw [e, qH hi hv hk'] at h1;simp at h1
theorem JB : dg gm := ⟨rfl, by unfold gf; exact ⟨by decide, by decide⟩⟩
theorem e9 {l : List aL} (h : ∀ c ∈ l, sA c) (id : Int) : dg (au l id) := by
 unfold au
 cases hf : l.find? fun c => c.id == id with
 | none => exact JB
 | some c => exact (h c (List.mem_of_find?_eq_some hf)).1
theorem Ac : ∀ {A x : List UInt8}, ¬ x < A → x < A ++ [255] → ∃ r, x = A ++ r
 | [], x, _, _ => ⟨x, rfl⟩
 | a :: A, [], h, _ => absurd (List.nil_lt_cons a A) h
 | a :: A, b :: x, h, g => by
  rw [List.cons_append, List.cons_lt_cons_iff] at g;rw [List.cons_lt_cons_iff] at h;rcases g with g | ⟨rfl, g⟩
  ·exact absurd (.inl g) h
  ·obtain ⟨r, hr⟩ := Ac (A := A) (x := x) (fun k => h (.inr ⟨rfl, k⟩)) g;exact ⟨r, by rw [hr]; (first | done | rfl)⟩
theorem Az : ∀ {A : List UInt8} {b : UInt8} {r : List UInt8}, b < 255 → ¬ (A ++ b :: r) < A ∧ (A ++ b :: r) < A ++ [255]
 | [], b, r, h => ⟨by simp, by simp only [List.nil_append, List.cons_lt_cons_iff]; exact .inl h⟩
 | a :: A, b, r, h => by
  obtain ⟨h1, h2⟩ := Az (A := A) (r := r) h;simp only [List.cons_append, List.cons_lt_cons_iff, UInt8.lt_irrefl, false_or, true_and];exact ⟨h1, h2⟩
theorem KU {x : BA} {A : List UInt8} (h : jo x (oG (kB A)) = true) : ∃ r, kL x = A ++ r := by
 rw [qU] at h;unfold bK oG at h;simp only [Bool.and_eq_true, Bool.not_eq_true', decide_eq_false_iff_not, decide_eq_true_eq, dA, qX] at h;exact Ac h.1 h.2
theorem Lc {A : List UInt8} {b : UInt8} {r : List UInt8} (h : b < 255) : jo (kB (A ++ b :: r)) (oG (kB A)) = true := by
 rw [qU];unfold bK oG;simp only [Bool.and_eq_true, Bool.not_eq_true', decide_eq_false_iff_not, decide_eq_true_eq, dA, qX];exact Az h
theorem Ak (a t : Int) : (keyOf [aB a, aB t]).1 = kB ([aB a, aB t].flatMap bP) := by
 rw [jq (fun v hv => by simp only [List.mem_cons, List.not_mem_nil, or_false] at hv; rcases hv with rfl | rfl <;> rfl) (by simp)]
theorem Ld {t : Int} {k : aH} (hk : dg k) : jo (cH t k) (bG t) = true := by
 unfold bG under cH;rw [Ak, jq (l := [aB 0, aB t, k]) (fun v hv => by simp only [List.mem_cons, List.not_mem_nil, or_false] at hv; rcases hv with rfl | rfl | rfl; rfl; rfl; exact hk.1) (by simp)]
 have e : [aB 0, aB t, k].flatMap bP = [aB 0, aB t].flatMap bP ++ bP k := by simp
 have hd : ∃ b r, bP k = b :: r ∧ b < 255 := by
  refine ⟨_, _, rfl, ?_⟩
  rcases pY hk.1 with h | h | h <;> rw [h] <;> decide
 obtain ⟨b, r, hb, hlt⟩ := hd;rw [e, hb];exact Lc hlt
theorem KV {t t' : Int} {k : aH} (ht : gf t) (ht' : gf t') (hk : dg k) (h : jo (cH t' k) (bG t) = true) : t' = t := by
 unfold bG under at h;rw [Ak] at h;obtain ⟨r, hr⟩ := KU h;unfold cH at hr;rw [jq (l := [aB 0, aB t', k]) (fun v hv => by simp only [List.mem_cons, List.not_mem_nil, or_false] at hv; rcases hv with rfl | rfl | rfl; rfl; rfl; exact hk.1) (by simp), dA] at hr
 have e : [aB 0, aB t', k].flatMap bP = [aB 0, aB t'].flatMap bP ++ bP k := by simp
 rw [e] at hr
 have n0 : gf 0 := ⟨by omega, by omega⟩
 have := (tG (l := [aB 0, aB t']) (m := [aB 0, aB t]) (fun v hv => by simp only [List.mem_cons, List.not_mem_nil, or_false] at hv; rcases hv with rfl | rfl; exact iT n0; exact iT ht') (fun v hv => by simp only [List.mem_cons, List.not_mem_nil, or_false] at hv; rcases hv with rfl | rfl; exact iT n0; exact iT ht) rfl hr).1;simp only [List.cons.injEq, aH.mk.injEq, and_true, true_and] at this;exact this
theorem uh : ∀ {l : List az} {T T' : az} {n : Int}, (l.flatMap bH).Nodup → T ∈ l → T' ∈ l → n ∈ bH T → n ∈ bH T' → T = T'
 | [], _, _, _, _, h, _, _, _ => by simp at h
 | U :: l, T, T', n, hn, h, h', m, m' => by
  rw [List.flatMap_cons, List.nodup_append] at hn
  rcases List.mem_cons.1 h with rfl | g <;> rcases List.mem_cons.1 h' with rfl | g'
  ·rfl
  ·exact absurd rfl (hn.2.2 n m n (List.mem_flatMap.2 ⟨T', g', m'⟩))
  ·exact absurd rfl (hn.2.2 n m' n (List.mem_flatMap.2 ⟨T, g, m⟩))
  ·exact uh hn.2.1 g g' m m'
theorem pW {l : List az} {T T' : az} (hn : (l.flatMap bH).Nodup) (h : T ∈ l) (h' : T' ∈ l) (e : T.id = T'.id) : T = T' :=
 uh hn h h' (n := T.id) (by simp [bH]) (by rw [e]; simp [bH])
theorem zX {T : az} {x : dx} (h : x ∈ T.idxs) : x.id ∈ bH T := by
 unfold bH;simp only [List.mem_cons, List.mem_append, List.mem_map];exact .inr (.inr (.inl ⟨x, h, rfl⟩))
theorem Ci {l : List az} {T : az} (hn : (l.flatMap bH).Nodup) (h : T ∈ l) : (bH T).Nodup := by
 obtain ⟨a, b, rfl⟩ := List.append_of_mem h;simp only [List.flatMap_append, List.flatMap_cons, List.nodup_append] at hn;exact hn.2.1.1
theorem sG {α : Type} {f : α → Int} : ∀ {l : List α} {x y : α}, (l.map f).Nodup → x ∈ l → y ∈ l → f x = f y → x = y
 | [], _, _, _, h, _, _ => by simp at h
 | a :: l, x, y, hn, h, h', e => by
  rw [List.map_cons, List.nodup_cons] at hn
  rcases List.mem_cons.1 h with rfl | g <;> rcases List.mem_cons.1 h' with rfl | g'
  ·rfl
  ·exact absurd (e ▸ List.mem_map_of_mem g') hn.1
  ·exact absurd (e ▸ List.mem_map_of_mem g) hn.1
  ·exact sG hn.2 g g' e
theorem AU {l : List az} {T T' : az} {x x' : dx} (hn : (l.flatMap bH).Nodup) (h : T ∈ l) (h' : T' ∈ l) (hx : x ∈ T.idxs) (hx' : x' ∈ T'.idxs) (e : x.id = x'.id) : T = T' ∧ x = x' := by
 have hT : T = T' := uh hn h h' (zX hx) (e ▸ zX hx');subst hT;have := Ci hn h;unfold bH at this;simp only [List.nodup_cons, List.nodup_append] at this;exact ⟨rfl, sG this.2.2.1.1 hx hx' e⟩
theorem KI {l : List az} {T : az} {c0 : cm} {cs : List cm} (hn : (l.flatMap bH).Nodup) (h : T ∈ l) (hc : T.cols = c0 :: cs) : ∀ c ∈ cs, c.id ≠ c0.id := fun c hcm e => by
 have := Ci hn h;unfold bH at this;rw [hc] at this;simp only [List.map_cons, List.cons_append, List.nodup_cons, List.mem_cons, List.mem_append, not_or] at this;exact this.2.1.1 (e ▸ List.mem_map_of_mem hcm)
def Kv (D : List Ht) (κ v : BA) : Prop := ∃ h ∈ D, h.key = κ ∧ h.val = v
theorem Ct {D : List Ht} (h : cz D) {a b : Ht} (ha : a ∈ D) (hb : b ∈ D) (e : a.key = b.key) : a = b := by
 obtain ⟨i, hi, rfl⟩ := List.getElem_of_mem ha;obtain ⟨j, hj, rfl⟩ := List.getElem_of_mem hb;rcases Nat.lt_trichotomy i j with g | g | g
 ·have := List.pairwise_iff_getElem.1 h i j hi hj g;rw [e, eA] at this; cases this
 ·subst g; (first | done | rfl)
 ·have := List.pairwise_iff_getElem.1 h j i hj hi g;rw [e, eA] at this; cases this
theorem Kv.one {D : List Ht} (h : cz D) {κ v v' : BA} (a : Kv D κ v) (b : Kv D κ v') : v = v' := by
 obtain ⟨x, hx, rfl, rfl⟩ := a;obtain ⟨y, hy, e, rfl⟩ := b;rw [Ct h hx hy e.symm]
theorem pK {ts : Int} {D : List Ht} (h : cz D) (x : Wr) (κ v : BA) : Kv (eV ts D x) κ v ↔ (x.dead = false ∧ x.key = κ ∧ x.val = v) ∨ (Kv D κ v ∧ x.key ≠ κ) := by
 have hs := (iu (ts := ts) h x).2
 constructor
 ·rintro ⟨a, ha, rfl, rfl⟩;rcases (hs a).1 ha with ⟨h1, rfl⟩ | ⟨h1, h2⟩
  ·exact .inl ⟨h1, rfl, rfl⟩
  ·exact .inr ⟨⟨a, h1, rfl, rfl⟩, Ne.symm h2⟩
 ·rintro (⟨h1, rfl, rfl⟩ | ⟨⟨a, ha, rfl, rfl⟩, h2⟩)
  ·exact ⟨_, (hs _).2 (.inl ⟨h1, rfl⟩), rfl, rfl⟩
  ·exact ⟨a, (hs a).2 (.inr ⟨ha, Ne.symm h2⟩), rfl, rfl⟩
theorem qY {ts : Int} : ∀ (ws : List Wr) {D : List Ht}, cz D → ∀ {κ v : BA}, Kv (ai ts D ws) κ v → (∃ x ∈ ws, x.dead = false ∧ x.key = κ ∧ x.val = v) ∨ (Kv D κ v ∧ ∀ x ∈ ws, x.key ≠ κ)
 | [], D, h, κ, v, g => .inr ⟨g, fun x hx => by simp at hx⟩
 | x :: ws, D, h, κ, v, g => by
  rcases qY ws (iu h x).1 g with ⟨y, hy, e⟩ | ⟨g1, g2⟩
  ·exact .inl ⟨y, List.mem_cons_of_mem _ hy, e⟩
  ·rcases (pK h x κ v).1 g1 with e | ⟨g3, g4⟩
   ·exact .inl ⟨x, List.mem_cons_self, e⟩
   ·refine .inr ⟨g3, fun y hy => ?_⟩;rcases List.mem_cons.1 hy with rfl | hy
    ·exact g4
    ·exact g2 y hy
theorem yU {ts : Int} : ∀ (ws : List Wr) {D : List Ht}, cz D → ∀ {κ v : BA}, (∀ y ∈ ws, y.key = κ → y.dead = false ∧ y.val = v) → (∃ y ∈ ws, y.key = κ) ∨ Kv D κ v → Kv (ai ts D ws) κ v
 | [], D, h, κ, v, _, g => by
  rcases g with ⟨y, hy, _⟩ | g
  ·simp at hy
  ·exact g
 | x :: ws, D, h, κ, v, hc, g => by
  refine yU ws (iu h x).1 (fun y hy => hc y (List.mem_cons_of_mem _ hy)) ?_
  by_cases e : x.key = κ
  ·obtain ⟨e1, e2⟩ := hc x List.mem_cons_self e;exact .inr ((pK h x κ v).2 (.inl ⟨e1, e, e2⟩))
  ·rcases g with ⟨y, hy, e2⟩ | g
   ·rcases List.mem_cons.1 hy with rfl | hy
    ·exact absurd e2 e
    ·exact .inl ⟨y, hy, e2⟩
   ·exact .inr ((pK h x κ v).2 (.inr ⟨g, e⟩))
def fm (T : az) (κ v : BA) (cs : List aL) : Prop := eM v = some cs ∧ cs ≠ [] ∧ κ = cH T.id (au cs (bz T))
def gu (T : az) (x : dx) (cs : List aL) : BA := eF x.id (au cs x.column) (au cs (bz T))
structure EX (S : aK) (D : List Ht) : Prop where
 cJ : cz D
 all : ∀ κ v, Kv D κ v → (∃ T ∈ S.tabs, ∃ cs, fm T κ v cs) ∨ (v = ⟨#[]⟩ ∧ ∃ T ∈ S.tabs, ∃ x ∈ T.idxs, 2 ≤ x.state ∧ ∃ κ' v' cs, Kv D κ' v' ∧ fm T κ' v' cs ∧ κ = gu T x cs)
 mj : ∀ T ∈ S.tabs, ∀ κ v cs, Kv D κ v → fm T κ v cs → ∀ x ∈ T.idxs, 2 ≤ x.state → Kv D (gu T x cs) ⟨#[]⟩
structure Gd (S : aK) : Prop where
 ok : ∀ T ∈ S.tabs, fR S T
 nod : (S.tabs.flatMap bH).Nodup
 ids : ∀ n ∈ S.tabs.flatMap bH, 1 ≤ n ∧ n ≤ 1125899906842624
 st : ∀ T ∈ S.tabs, ∀ x ∈ T.idxs, x.state ≤ 3
section
variable {S : aK} (G : Gd S)
theorem fm.cells {T : az} {κ v : BA} {cs : List aL} (h : fm T κ v cs) : ∀ c ∈ cs, sA c := (j7 h.1).2.2.1
theorem fm.same {T : az} {κ κ' v : BA} {cs cs' : List aL} (h : fm T κ v cs) (h' : fm T κ' v cs') : cs = cs' := by
 have := h.1;rw [h'.1] at this;exact (Option.some.inj this).symm
theorem q9 {T : az} {κ : BA} {cs : List aL} (h : fm T κ ⟨#[]⟩ cs) : False := h.2.1 (pq h.1)
include G
theorem Gd.tid {T : az} (h : T ∈ S.tabs) : gf T.id := by
 have := G.ids T.id (List.mem_flatMap.2 ⟨T, h, by simp [bH]⟩);exact ⟨by omega, by omega⟩
theorem Gd.rP {T : az} (h : T ∈ S.tabs) {x : dx} (hx : x ∈ T.idxs) : gf x.id := by
 have := G.ids x.id (List.mem_flatMap.2 ⟨T, h, zX hx⟩);exact ⟨by omega, by omega⟩
theorem Gd.counts {T : az} (h : T ∈ S.tabs) {x : dx} (hx : x ∈ T.idxs) : cl x.state = true ↔ 2 ≤ x.state := by
 have := G.st T h x hx;unfold cl;simp only [Bool.or_eq_true, beq_iff_eq];omega
theorem Co {T T' : az} (h : T ∈ S.tabs) (h' : T' ∈ S.tabs) {κ v v' : BA} {cs cs' : List aL} (r : fm T κ v cs) (r' : fm T' κ v' cs') : T = T' ∧ au cs (bz T) = au cs' (bz T') := by
 have e := r.2.2;rw [r'.2.2] at e;obtain ⟨e1, e2⟩ := nk (G.tid h') (G.tid h) (e9 r'.cells _) (e9 r.cells _) e;exact ⟨(pW G.nod h' h e1).symm, e2.symm⟩
theorem EX.LP {D : List Ht} (X : EX S D) {T : az} (hT : T ∈ S.tabs) {old new : List aL} {k : aH} (hold : ∀ c ∈ old, sA c) (hnew : eI new) (hne : ¬ (old = [] ∧ new = [])) (hk : dg k) (hko : old ≠ [] → au old (bz T) = k) (hkn : new ≠ [] → au new (bz T) = k)
  (hcur : ∀ v cs, Kv D (cH T.id k) v → fm T (cH T.id k) v cs → (cs = old ∧ old ≠ []) ∨ (cs = new ∧ new ≠ [])) :
  EX S (ai 0 D (cM T old new)) ∧ (∀ κ v, κ ≠ cH T.id k → (∃ T' ∈ S.tabs, ∃ cs, fm T' κ v cs) → Kv (ai 0 D (cM T old new)) κ v → Kv D κ v) ∧ (∀ v, Kv (ai 0 D (cM T old new)) (cH T.id k) v → new ≠ [] ∧ v = (cK new).1) := by
 have hkey : au (if old = [] then new else old) (bz T) = k := by
  by_cases e : old = []
  ·rw [if_pos e]; exact hkn fun g => hne ⟨e, g⟩
  ·rw [if_neg e]; exact hko e
 have hput : (cK new).2 = 0 := by unfold cK; rw [if_pos hnew.1]
 have hpv : new ≠ [] → fm T (cH T.id k) (cK new).1 new := fun g => by
  refine ⟨?_, g, by rw [hkn g]⟩;unfold cK;rw [if_pos hnew.1];exact tK hnew.2 hnew.1
 have hws : ∀ y, y ∈ cM T old new ↔ y = ⟨cH T.id k, (cK new).1, decide (new = [])⟩ ∨ ∃ x ∈ T.idxs, y ∈ jL k old new x := fun y => by
  unfold cM;rw [if_neg (by rintro (g | g | g); exact (G.ok T hT).ne g; exact hne g; exact g hput), hkey];simp only [List.mem_cons, List.mem_flatMap]
 have hX : ∀ x y, y ∈ jL k old new x ↔ (y = ⟨eF x.id (au old x.column) k, ⟨#[]⟩, true⟩ ∧ old ≠ [] ∧ (new = [] ∨ au old x.column ≠ au new x.column)) ∨ (y = ⟨eF x.id (au new x.column) k, ⟨#[]⟩, false⟩ ∧ new ≠ [] ∧ cl x.state = true) := fun x y => by
  unfold jL;rw [List.mem_append]
  constructor
  ·rintro (g | g)
   ·split at g
    ·rename_i c; simp only [List.mem_singleton] at g; exact .inl ⟨g, c⟩
    ·simp at g
   ·split at g
    ·rename_i c; simp only [List.mem_singleton] at g; exact .inr ⟨g, c⟩
    ·simp at g
  ·rintro (⟨rfl, c⟩ | ⟨rfl, c⟩)
   ·exact .inl (by rw [if_pos c]; simp)
   ·exact .inr (by rw [if_pos c]; simp)
 have hvo : ∀ c, dg (au old c) := e9 hold;have hvn : ∀ c, dg (au new c) := e9 hnew.2;have htid := G.tid hT
 -- a write's key is the row's only if it is the row's
 have hrow : ∀ y ∈ cM T old new, y.key = cH T.id k → y = ⟨cH T.id k, (cK new).1, decide (new = [])⟩ := fun y hy e => by
  rcases (hws y).1 hy with g | ⟨x, hx, g⟩
  ·exact g
  ·rcases (hX x y).1 g with ⟨rfl, _⟩ | ⟨rfl, _⟩
   ·exact absurd e.symm (lC htid (G.rP hT hx) (hvo _) hk hk)
   ·exact absurd e.symm (lC htid (G.rP hT hx) (hvn _) hk hk)
 have hent : ∀ y ∈ cM T old new, ∀ T' ∈ S.tabs, ∀ x' ∈ T'.idxs, ∀ v' k', dg v' → dg k' → y.key = eF x'.id v' k' → T' = T ∧ k' = k ∧ x' ∈ T.idxs ∧ ((y.dead = true ∧ v' = au old x'.column ∧ old ≠ [] ∧ (new = [] ∨ au old x'.column ≠ au new x'.column)) ∨ (y.dead = false ∧ y.val = ⟨#[]⟩ ∧ v' = au new x'.column ∧ new ≠ [])) := fun y hy T' hT' x' hx' v' k' hv' hk' e => by
  rcases (hws y).1 hy with rfl | ⟨x, hx, g⟩
  ·exact absurd e (lC htid (G.rP hT' hx') hv' hk hk')
  ·rcases (hX x y).1 g with ⟨rfl, c⟩ | ⟨rfl, c⟩
   ·obtain ⟨e1, e2, e3⟩ := zL (G.rP hT hx) (G.rP hT' hx') (hvo _) hv' hk hk' e;obtain ⟨rfl, rfl⟩ := AU G.nod hT hT' hx hx' e1;exact ⟨rfl, e3.symm, hx, .inl ⟨rfl, e2.symm, c⟩⟩
   ·obtain ⟨e1, e2, e3⟩ := zL (G.rP hT hx) (G.rP hT' hx') (hvn _) hv' hk hk' e;obtain ⟨rfl, rfl⟩ := AU G.nod hT hT' hx hx' e1;exact ⟨rfl, e3.symm, hx, .inr ⟨rfl, rfl, e2.symm, c.1⟩⟩
 -- what is there then
 have hrowIn : new ≠ [] → Kv (ai 0 D (cM T old new)) (cH T.id k) (cK new).1 := fun g =>
  yU _ X.cJ (fun y hy e => by rw [hrow y hy e]; exact ⟨decide_eq_false g, rfl⟩) (.inl ⟨_, (hws _).2 (.inl rfl), rfl⟩)
 have hentIn : new ≠ [] → ∀ x ∈ T.idxs, 2 ≤ x.state → Kv (ai 0 D (cM T old new)) (gu T x new) ⟨#[]⟩ := fun g x hx h2 => by
  have e0 : gu T x new = eF x.id (au new x.column) k := by unfold gu; rw [hkn g]
  rw [e0];refine yU _ X.cJ (fun y hy e => ?_) (.inl ⟨_, (hws _).2 (.inr ⟨x, hx, (hX _ _).2 (.inr ⟨rfl, g, (G.counts hT hx).2 h2⟩)⟩), rfl⟩);obtain ⟨_, _, _, ⟨c1, c2, c3, c4⟩ | ⟨c1, c2, _⟩⟩ := hent y hy T hT x hx _ _ (hvn _) hk e
  ·rcases c4 with c4 | c4
   ·exact absurd c4 g
   ·exact absurd c2.symm c4
  ·exact ⟨c1, c2⟩
 have hkeep : ∀ κ v, (∀ y ∈ cM T old new, y.key ≠ κ) → Kv D κ v → Kv (ai 0 D (cM T old new)) κ v := fun κ v h g => yU _ X.cJ (fun y hy e => absurd e (h y hy)) (.inr g);refine ⟨⟨fq _ X.cJ, fun κ v g => ?_, fun T' hT' κ v cs g r x hx h2 => ?_⟩, fun κ v hκ hr g => ?_, fun v g => ?_⟩
 ·rcases qY _ X.cJ g with ⟨y, hy, hd, rfl, rfl⟩ | ⟨g1, g2⟩
  ·rcases (hws y).1 hy with rfl | ⟨x, hx, hy2⟩
   ·have hn : new ≠ [] := by simpa using hd
    exact .inl ⟨T, hT, new, hpv hn⟩
   ·rcases (hX x y).1 hy2 with ⟨rfl, c⟩ | ⟨rfl, c⟩
    ·cases hd
    ·exact .inr ⟨rfl, T, hT, x, hx, (G.counts hT hx).1 c.2, _, _, new, hrowIn c.1, hpv c.1, by unfold gu; rw [hkn c.1]⟩
  ·rcases X.all κ v g1 with e | ⟨rfl, T', hT', x, hx, h2, κ', v', cs, a1, a2, rfl⟩
   ·exact .inl e
   ·by_cases e : κ' = cH T.id k
    ·subst e
     have hTT : T' = T := by
      obtain ⟨e1, _⟩ := nk htid (G.tid hT') hk (e9 a2.cells _) a2.2.2;exact (pW G.nod hT hT' e1).symm
     subst hTT
     have hc0 : au cs (bz T') = k := by
      obtain ⟨_, e2⟩ := nk htid htid hk (e9 a2.cells _) a2.2.2;exact e2.symm
     exfalso
     rcases hcur v' cs a1 a2 with ⟨rfl, hno⟩ | ⟨rfl, hnn⟩
     ·have e0 : gu T' x cs = eF x.id (au cs x.column) k := by unfold gu; rw [hc0]
      by_cases c : new = [] ∨ au cs x.column ≠ au new x.column
      ·exact g2 _ ((hws _).2 (.inr ⟨x, hx, (hX _ _).2 (.inl ⟨rfl, hno, c⟩)⟩)) e0.symm
      ·have c1 : new ≠ [] := fun q => c (.inl q);have c2 : au cs x.column = au new x.column := Classical.byContradiction fun q => c (.inr q);exact g2 _ ((hws _).2 (.inr ⟨x, hx, (hX _ _).2 (.inr ⟨rfl, c1, (G.counts hT' hx).2 h2⟩)⟩)) (by rw [e0, c2])
     ·have e0 : gu T' x cs = eF x.id (au cs x.column) k := by unfold gu; rw [hc0]
      exact g2 _ ((hws _).2 (.inr ⟨x, hx, (hX _ _).2 (.inr ⟨rfl, hnn, (G.counts hT' hx).2 h2⟩)⟩)) e0.symm
    ·refine .inr ⟨rfl, T', hT', x, hx, h2, κ', v', cs, hkeep _ _ (fun y hy q => ?_) a1, a2, rfl⟩;rcases (hws y).1 hy with rfl | ⟨x2, hx2, hy2⟩
     ·exact e q.symm
     ·have := (hX x2 y).1 hy2;rcases this with ⟨rfl, _⟩ | ⟨rfl, _⟩
      ·exact lC (G.tid hT') (G.rP hT hx2) (hvo _) (e9 a2.cells _) hk (by rw [← a2.2.2]; exact q.symm)
      ·exact lC (G.tid hT') (G.rP hT hx2) (hvn _) (e9 a2.cells _) hk (by rw [← a2.2.2]; exact q.symm)
 ·rcases qY _ X.cJ g with ⟨y, hy, hd, rfl, rfl⟩ | ⟨g1, g2⟩
  ·rcases (hws y).1 hy with rfl | ⟨x2, hx2, hy2⟩
   ·have hn : new ≠ [] := by simpa using hd
    obtain ⟨rfl, _⟩ := Co G hT hT' (hpv hn) r;have := fm.same (hpv hn) r;subst this;exact hentIn hn x hx h2
   ·exfalso
    rcases (hX x2 y).1 hy2 with ⟨rfl, c⟩ | ⟨rfl, c⟩
    ·exact q9 r
    ·exact q9 r
  ·refine hkeep _ _ (fun y hy q => ?_) (X.mj T' hT' κ v cs g1 r x hx h2);obtain ⟨rfl, e2, _⟩ := hent y hy T' hT' x hx _ _ (e9 r.cells _) (e9 r.cells _) q;exact g2 _ ((hws _).2 (.inl rfl)) (by rw [r.2.2, e2])
 ·rcases qY _ X.cJ g with ⟨y, hy, hd, rfl, rfl⟩ | ⟨g1, g2⟩
  ·exfalso
   obtain ⟨T', hT', cs, r⟩ := hr;rcases (hws y).1 hy with rfl | ⟨x2, hx2, hy2⟩
   ·exact hκ rfl
   ·rcases (hX x2 y).1 hy2 with ⟨rfl, c⟩ | ⟨rfl, c⟩
    ·exact q9 r
    ·exact q9 r
  ·exact g1
 ·rcases qY _ X.cJ g with ⟨y, hy, hd, e, rfl⟩ | ⟨g1, g2⟩
  ·have := hrow y hy e;subst this;exact ⟨by simpa using hd, rfl⟩
  ·exact absurd rfl (g2 _ ((hws _).2 (.inl rfl)))
end
end
end Go.Proofs.YtlfdfgokflhdbaaGreat
