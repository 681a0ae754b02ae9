/-
  Part 29 for the law: lemmas.
  Conditions: none.
-/
import Derived.Test.YtlfdfgokflhdbaaGreatExecReadsK28
set_option maxHeartbeats 4000000
set_option maxRecDepth 100000
set_option linter.unusedVariables false
set_option linter.unusedSimpArgs false
set_option linter.unusedSectionVars false
namespace Go.Proofs.YtlfdfgokflhdbaaGreat
open Fw Go Go.IntKind
section
attribute [-simp] Fw.W.bC Fw.W.bA
structure iH where
 b : cz
 t : aP
def qh : cK iH where
 sz := 11
 f q := [.int .i64 q.b.kind, .int .i64 q.b.table, .slice q.t.1 q.t.2.1 q.t.2.2, .int .i64 q.b.set, .int .i64 q.b.to.kind, .int .i64 q.b.to.n, .string q.b.to.s, .int .i64 q.b.whr, .int .i64 q.b.is.kind, .int .i64 q.b.is.n, .string q.b.is.s]
 len _ := rfl
 one q v hv := by simp at hv; rcases hv with rfl | rfl | rfl | rfl | rfl | rfl | rfl | rfl | rfl | rfl | rfl <;> rfl
 pos := by omega
structure pN where
 r : Rp
 u : aP
 vs : List qg
def Ca : cK pN where
 sz := 2
 f q := [.int .i64 q.r.n, .slice q.u.1 q.u.2.1 q.u.2.2]
 len _ := rfl
 one q v hv := by simp at hv; rcases hv with rfl | rfl <;> rfl
 pos := by omega
structure jd (s0 s : PH) (a : OA) (n c : Nat) (L : List Rp) (qs : List pN) : Prop where
 gw : Gw Ca 135 s0 s a n c qs
 eq : qs.map (·.r) = L
 rs : ∀ q ∈ qs, fH s0 s q.u.1 q.u.2.1 q.u.2.2 q.r.rows q.vs
theorem fH.kt {s0 s s' : PH} {a : OA} {n c : Nat} {L : List (List aK)} {qs : List qg} (h : fH s0 s a n c L qs) (hk : Kt s s') (hm : Fw.Mod [] s0 s') : fH s0 s' a n c L qs :=
 ⟨⟨hk.row h.gw.row (by decide) (by decide), h.gw.fr, hm⟩, h.eq, fun q hq => ⟨hk.row (h.vs q hq).1 (by decide) (by decide), (h.vs q hq).2⟩⟩
theorem jd.kt {s0 s s' : PH} {a : OA} {n c : Nat} {L : List Rp} {qs : List pN} (h : jd s0 s a n c L qs) (hk : Kt s s') (hm : Fw.Mod [] s0 s') : jd s0 s' a n c L qs :=
 ⟨⟨hk.row h.gw.row (by decide) (by decide), h.gw.fr, hm⟩, h.eq, fun q hq => (h.rs q hq).kt hk hm⟩
theorem jd.same {s0 s s' : PH} {a : OA} {n c : Nat} {L : List Rp} {qs : List pN} (h : jd s0 s a n c L qs) (hm : Fw.Mod [] s s') : jd s0 s' a n c L qs :=
 ⟨h.gw.same hm, h.eq, fun q hq => (h.rs q hq).same hm⟩
theorem fH.off {s0 s s' : PH} {a b : OA} {n c m d : Nat} {L : List (List aK)} {qs : List qg} {M : List pN} (h : fH s0 s a n c L qs) (hG : Gw Ca 135 s0 s b m d M) (hm : Fw.Mod (Fw.aU b) s s') : fH s0 s' a n c L qs :=
 ⟨⟨gQ h.gw.row hG (by decide) hm, h.gw.fr, hG.md.fresh hm fun g hg => .inr (hG.fr g hg)⟩, h.eq, fun q hq => ⟨gQ (h.vs q hq).1 hG (by decide) hm, (h.vs q hq).2⟩⟩
theorem jd.push {s0 s : PH} {a : OA} {n c : Nat} {L : List Rp} {qs : List pN} {r : Rp} {u : aP} {vs : List qg} {K : OA → Nat → Nat → W.T} (h : jd s0 s a n c L qs) (hu : fH s0 s u.1 u.2.1 u.2.2 r.rows vs) (hl : n + 1 ≤ 4294967296)
  (hK : ∀ a' c' s' qs', jd s0 s' a' (n + 1) c' (L ++ [r]) qs' → Fw.Mod (Fw.aU a) s s' → K a' (n + 1) c' s') : W.nw (.cells #[.int .i64 r.n, .slice u.1 u.2.1 u.2.2] 135 (0, 0)) (fun r => W.app 135 2 32 [.int .i64 0, .slice none 0 0] a n c (Src.sl (some ⟨r, 0, none⟩) 1) K) s := by
 refine h.gw.nr [⟨r, u, vs⟩] (k := 1) rfl rfl rfl hl (by omega) fun a' c' s' h1 m1 => hK a' c' s' (qs ++ [⟨r, u, vs⟩]) ⟨h1, by rw [List.map_append, h.eq]; (first | done | rfl), fun q hq => ?_⟩ m1;rcases List.mem_append.1 hq with hq | hq
 ·exact (h.rs q hq).off h.gw m1
 ·simp only [List.mem_singleton] at hq;subst hq;exact hu.off h.gw m1
structure CD (s0 s : PH) (B : List Ht) (rds : List bJ) (ws : List Wr) (rps : List Rp) (u v t : aP) : Prop where
 reads : ∃ qs, Gw qI 132 s0 s u.1 u.2.1 u.2.2 qs ∧ qs.map (·.p) = rds ∧ ∀ q ∈ qs, bp Cf s 215 q.u.1 q.u.2.1 q.u.2.2 (stamps (au B q.p))
 writes : Gw jz 79 s0 s v.1 v.2.1 v.2.2 ws
 reps : ∃ qs, jd s0 s t.1 t.2.1 t.2.2 rps qs
 rl : rds.length ≤ 48000
abbrev KE : Value := .agg #[.slice none 0 0, .slice none 0 0, .slice none 0 0]
structure JP (N0 : Nat) (B : List Ht) (ws : List Wr) (rps : List Rp) : Prop where
 rn : rps.length ≤ 12
 rf : ∀ r ∈ rps, r.rows.length ≤ 64 ∧ ∀ v ∈ r.rows, v.length ≤ 8
 sm : ∀ x ∈ ws.foldl cI [], x.key.size ≤ 4000000 ∧ x.val.size ≤ 4000000
 ol : (ws.foldl cI []).length ≤ 20000
 cn : kG (N0 + 108) (aq 0 B ws)
def CG (N0 : Nat) (s : PH) (S : aD) (B : List Ht) (L : List cz) (y : Value) (s' : PH) : Prop := Fw.Mod [] s s' ∧
 (if iJ S ≠ 0 then y = .tuple #[KE, .int .i64 0, .int .i64 100]
 else if (bN S 0 L B).err ≠ 0 then y = .tuple #[KE, .int .i64 (bN S 0 L B).at_, .int .i64 (bN S 0 L B).err]
 else ∃ u v t : aP, y = .tuple #[.agg #[gS u, gS v, gS t], .int .i64 0, .int .i64 0] ∧ CD s s' B (bI [] (bN S 0 L B).asks) ((bN S 0 L B).ws.foldl cI []) (bN S 0 L B).reps u v t ∧ JP N0 B (bN S 0 L B).ws (bN S 0 L B).reps)
abbrev D0 : Obj := .cells #[.func (.func 58) #[] #[], .func (.func 59) #[] #[], .func (.func 60) #[] #[], .func (.func 61) #[] #[]] 150 (0, 0)
theorem xk (S : aD) (i : Int) (b : cz) (l : List cz) (D : List Ht) : bN S i (b :: l) D = match fE S b with
  | none => ⟨1, i, [], [], []⟩
  | some T => if (eE S T b D).err ≠ 0 then ⟨(eE S T b D).err, i, [], (eE S T b D).asks, (eE S T b D).ws⟩
   else ⟨(bN S (i + 1) l (aq 0 D (eE S T b D).ws)).err, (bN S (i + 1) l (aq 0 D (eE S T b D).ws)).at_, (eE S T b D).rep :: (bN S (i + 1) l (aq 0 D (eE S T b D).ws)).reps, (eE S T b D).asks ++ (bN S (i + 1) l (aq 0 D (eE S T b D).ws)).asks, (eE S T b D).ws ++ (bN S (i + 1) l (aq 0 D (eE S T b D).ws)).ws⟩ := by rw [bN.eq_def]; (first | done | rfl)
structure Lr (N0 : Nat) (s : PH) (S : aD) (tt sh : aP) (B : List Ht) (L : List cz) (r3 r4 : Nat) (i : Nat) (a : OA) (n c : Nat) (rps : List Rp) (qs : List pN) (A : List bJ) (Wl : List Wr) (s' : PH) : Prop where
 ej : EJ s s' r3 S tt sh B (bI [] A) (Wl.foldl cI [])
 ways : s' r4 = some D0
 rp : jd s s' a n c rps qs
 nl : n ≤ i
 rf : ∀ r ∈ rps, r.rows.length ≤ 64 ∧ ∀ v ∈ r.rows, v.length ≤ 8
 al : A.length ≤ i * 4000
 wl : Wl.length ≤ i * 1100
 cn : kG (N0 + 9 * i) (aq 0 B Wl)
 err : (bN S 0 L B).err = (bN S i (L.drop i) (aq 0 B Wl)).err
 at_ : (bN S 0 L B).at_ = (bN S i (L.drop i) (aq 0 B Wl)).at_
 reps : (bN S 0 L B).reps = rps ++ (bN S i (L.drop i) (aq 0 B Wl)).reps
 asks : (bN S 0 L B).asks = A ++ (bN S i (L.drop i) (aq 0 B Wl)).asks
 ws : (bN S 0 L B).ws = Wl ++ (bN S i (L.drop i) (aq 0 B Wl)).ws
theorem EP {K V : Type} [BEq K] [LawfulBEq K] {ks : F4 Tryz.prog K} {ve : V → Value} {s : PH} {m : Nat} (h : s m = some (.map #[] 0)) : lF (V := V) ks ve s m [] := ⟨#[], 0, h, rfl, Go.MapKept.stamped_empty 0⟩
theorem GL {K V : Type} [BEq K] [LawfulBEq K] {ke : sy K} {ve : V → Value} {s : PH} {m : Nat} (h : s m = some (.map #[] 0)) : ic (V := V) ke ve s m [] := ⟨#[], 0, h, rfl, Go.MapKept.stamped_empty 0⟩
section
variable {S : aD} {tt sh : aP} {B : List Ht}
theorem zf {N0 : Nat} (hN0 : N0 ≤ 5000) {s : PH} {ps : List aC} (hB : iI s sh B) (hS : dP s tt S ps) (hok : iJ S = 0 → (∀ T ∈ S.tabs, gp S T) ∧ S.tabs.length ≤ 6) (hCn : kG N0 B) {b : aP} {bs : List iH} (hb : Sl qh s b bs) (hb12 : bs.length ≤ 12) (hvs : ∀ q ∈ bs, Sl dO s q.t q.b.vals ∧ D3 q.b) :
  ah 19 #[eV S tt, .slice b.1 b.2.1 b.2.2, Ax sh] s (CG N0 s S B (bs.map (·.b))) := by
 refine Jm S.version S.last tt.1 tt.2.1 tt.2.2 b.1 b.2.1 b.2.2 73 (gS sh) _ s ?_;unfold Cw
 obtain ⟨L, hL⟩ : ∃ L, bs.map (·.b) = L := ⟨_, rfl⟩
 rw [hL]
 obtain ⟨R, hR⟩ : ∃ R, CG N0 s S B L = R := ⟨_, rfl⟩
 rw [hR];have hbl : b.2.1 = bs.length := hb.len
 have hLl : L.length = bs.length := by rw [← hL, List.length_map]
 simp only [aO, aE, aT, cj, gX, aQ, aR, aM, bH, cG, vw, mz, dg, mj, dj, bf, Nat.zero_add];refine (W.af _ _ _ _).2 ⟨fun e => absurd e (by decide), fun _ => ?_⟩;refine aH ((iJ S, ()), ()) (IA hS) rfl ?_;dsimp only;refine aI (fun e => ?_) fun e => ?_
 ·have e : iJ S ≠ 0 := by simpa using e
  rw [← hR];exact ⟨Mod.refl _ _, by rw [if_pos e]⟩
 have herr : iJ S = 0 := by simpa using e
 obtain ⟨hAll, hT6⟩ := hok herr;refine W.bK fun r1 s1 hr1 m1 k1 => ?_;refine W.bK fun r2 s2 hr2 m2 k2 => ?_;refine W.bK fun r3 s3 hr3 m3 k3 => ?_;refine W.bK fun r4 s4 hr4 m4 k4 => ?_;refine ku (c' := #[.func (.func 58) #[] #[], .func (.func 59) #[] #[], .func (.func 60) #[] #[], .func (.func 61) #[] #[]]) k4 (by show 0 + 4 ≤ 4; omega) (by simp [Value.oneCell']) rfl ?_;intro s5 hs5
 have k54 : s5 r4 = some D0 := by rw [hs5, PH.bB]
 have m35 : Fw.Mod [] s3 s5 := by rw [hs5]; exact m4.bT (.inr hr4)
 have m25 := m3.trans m35;have m15 := m2.trans m25;have m05 : Fw.Mod [] s s5 := m1.trans m15;have k51 : s5 r1 = some (.map #[] 0) := m15.at k1 (by simp);have k52 : s5 r2 = some (.map #[] 0) := m25.at k2 (by simp);have k53 : s5 r3 = some (wD S tt sh (none, 0, 0) r1 r2) := m35.at k3 (by simp);have n1 : s r1 = none := hr1;have n2 : s r2 = none := m1.none hr2 (by simp);have n3 : s r3 = none := (m1.trans m2).none hr3 (by simp)
 have hE0 : EJ s s5 r3 S tt sh B (bI [] []) (([] : List Wr).foldl cI []) := by
  refine ⟨⟨(none, 0, 0), r1, r2, [], [], [], m05, n3, k53, n1, n2, fun e => ?_, Gw.nil m05, rfl, by simp, EP k51, rfl, by simp, GL k52, by simp, List.Perm.nil⟩, List.Pairwise.nil, by simp [List.foldl], by simp⟩;rw [← e, k1] at hr2; cases hr2
 refine ⟨fun z s' => ∃ (i : Nat) (a : OA) (n c : Nat) (rps : List Rp) (qs : List pN) (A : List bJ) (Wl : List Wr), z = (((none, 0, 0), (none, 0, 0), (none, 0, 0), ()), (some ⟨r3, 0, none⟩, ()), (⟨r4, 0, none⟩, ()), ((none, 0, 0), (none, 0, 0), (a, n, c), ()), (b, ()), ((b.2.1 : Int), ()), ((i : Int), ()), ()) ∧ i ≤ b.2.1 ∧ Lr N0 s S tt sh B L r3 r4 i a n c rps qs A Wl s',
  fun z _ => b.2.1 - z.2.2.2.2.2.2.1.1.toNat, ⟨0, none, 0, 0, [], [], [], [], rfl, Nat.zero_le _, ⟨hE0, k54, ⟨Gw.nil m05, rfl, by simp⟩, Nat.le_refl _, by simp, by simp, by simp, hCn, rfl, rfl, rfl, rfl, rfl⟩⟩, ?_⟩
 rintro _ s6 ⟨i, a, n, c, rps, qs, A, Wl, rfl, hi, hI⟩
 obtain ⟨D, hD⟩ : ∃ D, aq 0 B Wl = D := ⟨_, rfl⟩
 have hDov : aq 0 B (Wl.foldl cI []) = D := by rw [← hD]; exact (k9 hB.cY Wl List.Pairwise.nil).symm
 have hDs : cl D := by rw [← hD]; exact cV _ hB.cY
 have hdv := (gY hB hI.ej.cY hI.ej.sm).2;rw [hDov] at hdv;have hal := eH A [];have hwl := lK Wl [];have hil := hI.al;have hiw := hI.wl;simp only [List.length_nil, Nat.zero_add] at hal hwl;have q1 := hI.err;have q2 := hI.at_;have q3 := hI.reps;have q4 := hI.asks;have q5 := hI.ws;have hcn := hI.cn;rw [hD] at q1 q2 q3 q4 q5 hcn;dsimp only;refine aI (fun e => ?_) fun e => ?_
 ·have hlt : (i : Int) < (b.2.1 : Int) := of_decide_eq_true e
  obtain ⟨q, hq⟩ : ∃ q, bs[i]? = some q := ⟨_, List.getElem?_eq_getElem (by omega)⟩
  have hqm := List.mem_of_getElem? hq
  have hLi : L[i]? = some q.b := by rw [← hL, List.getElem?_map, hq]; (first | done | rfl)
  rw [ct hLi, xk] at q1 q2 q3 q4 q5;obtain ⟨ad, had, hh⟩ := (hb.mono hI.ej.md.le).el.aA hq;refine bF ⟨Int.natCast_nonneg i, hlt⟩ ?_;refine aN had ?_;simp only [Int.toNat_natCast];have hh : s6.has (ad.add (i * 11)) (qh.f q) := hh;refine az hh (y := vC q.b q.t) rfl ?_;obtain ⟨hqv, hqb⟩ := hvs q hqm;obtain ⟨rr, mb, mo, qs0, bs0, f0, hx6⟩ := hI.ej.ei;refine W.ak (Gu hx6.aU (hS.mono hI.ej.md.le) hAll (hqv.mono hI.ej.md.le)) ?_;rintro _ s7 ⟨m7, ⟨hr7, d, rfl⟩ | ⟨p, hpm, hr7, rfl⟩⟩
  ·refine ⟨(d, (false, ()), ()), rfl, ?_⟩;refine (W.af _ _ _ _).2 ⟨fun _ => ?_, fun e => (by cases e)⟩;rw [hr7] at q1 q2;dsimp only at q1 q2 ⊢;rw [← hR];refine ⟨hI.ej.md.trans m7, ?_⟩;rw [if_neg (by rw [herr]; decide), if_pos (by rw [q1]; decide), q1, q2]
  refine ⟨(mR p, (true, ()), ()), rfl, ?_⟩;refine (W.af _ _ _ _).2 ⟨fun e => (by cases e), fun _ => ?_⟩;rw [hr7] at q1 q2 q3 q4 q5;dsimp only at q1 q2 q3 q4 q5 ⊢
  obtain ⟨E, hE⟩ : ∃ E, eE S p.T q.b D = E := ⟨_, rfl⟩
  rw [hE] at q1 q2 q3 q4 q5;have hof := DE hAll hT6 hr7 hqb hDs hdv hcn;rw [hE] at hof;have hrf := rV hr7;have hpT := hAll p.T hrf.mem;have hpI := hS.all p hpm;have hE7 := hI.ej.same m7
  have hcn7 : kG (N0 + 9 * i) (aq 0 B (Wl.foldl cI [])) := by rw [hDov]; exact hcn
  have k74 := m7.at hI.ways (by simp);have hrp7 := hI.rp.same m7
  have c1 : q.b.kind = 1 → ah 58 #[cp r3, dX p.T p.c p.x p.k, nC q.b q.t] s7 (kI s s7 r3 S tt sh B (bI [] A) (Wl.foldl cI []) E) := fun hk => by
   have := Er hB hE7 hS hpI hpT hqv (Kk hpT (hrf.ins hk)) (hrf.ins hk) hqb.vals (by omega) (by omega);rw [hDov] at this
   have e : o5 S p.T q.b D = E := by rw [← hE]; unfold eE; rw [if_pos hk]
   rwa [e] at this
  have c2 : q.b.kind = 2 → ah 59 #[cp r3, dX p.T p.c p.x p.k, nC q.b q.t] s7 (kI s s7 r3 S tt sh B (bI [] A) (Wl.foldl cI []) E) := fun hk => by
   obtain ⟨p1, p2, p3⟩ := w5 hpT (hrf.aS hk) hqb.to;have := Ew (t := q.t) hB hE7 hS hpI hpT hcn7 (by omega) p1 p2 p3 (by omega) (by omega);rw [hDov] at this
   have e : pK S p.T q.b D = E := by rw [← hE]; unfold eE; rw [if_neg (by omega), if_pos hk]
   rwa [e] at this
  have c3 : q.b.kind = 3 → ah 60 #[cp r3, dX p.T p.c p.x p.k, nC q.b q.t] s7 (kI s s7 r3 S tt sh B (bI [] A) (Wl.foldl cI []) E) := fun hk => by
   have := Et (b := q.b) (t := q.t) hB hE7 hS hAll hT6 hpI hpT (by omega) (by omega);rw [hDov] at this
   have e : pe S p.T q.b D = E := by rw [← hE]; unfold eE; rw [if_neg (by omega), if_neg (by omega), if_pos hk]
   rwa [e] at this
  have c4 : q.b.kind = 4 → ah 61 #[cp r3, dX p.T p.c p.x p.k, nC q.b q.t] s7 (kI s s7 r3 S tt sh B (bI [] A) (Wl.foldl cI []) E) := fun hk => by
   have := Ep (b := q.b) (t := q.t) hB hE7 hpI hpT (by omega);rw [hDov] at this
   have e : pq p.T q.b D = E := by rw [← hE]; unfold eE; rw [if_neg (by omega), if_neg (by omega), if_neg (by omega)]
   rwa [e] at this
  refine W.bx (fun z s' => ∃ (a2 : OA) (n2 c2 : Nat) (vs : List qg), z = (((none, 0, 0), (none, 0, 0), (none, 0, 0), ()), (some ⟨r3, 0, none⟩, ()), (⟨r4, 0, none⟩, ()), ((none, 0, 0), (none, 0, 0), (a, n, c), ()), ((i : Int), ()), (E.rep.n, (a2, n2, c2), ()), (E.err, ()), (b, ()), ((b.2.1 : Int), ()), ((i : Int), ()), ()) ∧ fH s s' a2 n2 c2 E.rep.rows vs ∧ EJ s s' r3 S tt sh B (bI (bI [] A) E.asks) (E.ws.foldl cI (Wl.foldl cI [])) ∧ Kt s7 s') ?_ ?_
  ·rintro _ s8 ⟨a2, n2, c2, vs, rfl, hrp, hE8, hk8⟩;dsimp only;refine aI (fun e => ?_) fun e => ?_
   ·have e : E.err ≠ 0 := by simpa using e
    rw [if_pos e] at q1 q2;rw [← hR];refine ⟨hE8.md, ?_⟩;rw [if_neg (by rw [herr]; decide), if_pos (by rw [q1]; exact e), q1, q2]
   have e : ¬ E.err ≠ 0 := by simpa using e
   rw [if_neg e] at q1 q2 q3 q4 q5;dsimp only at q1 q2 q3 q4 q5;have hrp8 := hrp7.kt hk8 hE8.md;have hnl := hI.nl;refine hrp8.push (r := E.rep) (u := (a2, n2, c2)) hrp (by omega) fun a9 c9 s9 qs9 h9 m9 => ?_
   have hap : yB s8 (Fw.aU a) := fun g hg => by
    rcases hrp8.gw.row.shape with ⟨rfl, _⟩ | ⟨g', rfl⟩
    ·simp [Fw.aU] at hg
    ·simp [Fw.aU] at hg; subst hg;obtain ⟨cur, hc⟩ := hrp8.gw.row.ty rfl;exact ⟨cur, _, hc, by decide, by decide, by decide, by decide⟩
   have k84 : s8 r4 = some D0 := hk8 r4 _ _ k74 (by decide) (by decide);rw [ai (k := i) (by omega)]
   have hcast : ((i + 1 : Nat) : Int) = (i : Int) + 1 := by omega
   refine ⟨⟨i + 1, a9, n + 1, c9, rps ++ [E.rep], qs9, A ++ E.asks, Wl ++ E.ws, rfl, by omega, ⟨?_, m9.at k84 (hrp8.gw.off k84 (by decide)), h9, by omega, ?_, ?_, ?_, ?_, ?_, ?_, ?_, ?_, ?_⟩⟩, by simp only [Int.toNat_natCast]; omega⟩
   ·rw [cN, List.foldl_append]; exact hE8.keep m9 hrp8.gw.fr hap
   ·intro r hr;rcases List.mem_append.1 hr with hr | hr
    ·exact hI.rf r hr
    ·simp at hr; subst hr; exact hof.rep
   ·have := hof.asks; rw [List.length_append]; omega
   ·have := hof.ws; rw [List.length_append]; omega
   ·rw [dQ, hD];have := (hcn.mono (show N0 + 9 * i ≤ N0 + 9 * i + 9 by omega)).apply hof.good
    rwa [show N0 + 9 * (i + 1) = N0 + 9 * i + 9 by omega]
   ·rw [dQ, hD, hcast]; exact q1
   ·rw [dQ, hD, hcast]; exact q2
   ·rw [dQ, hD, hcast, List.append_assoc]; exact q3
   ·rw [dQ, hD, hcast, List.append_assoc]; exact q4
   ·rw [dQ, hD, hcast, List.append_assoc]; exact q5
  ·intro J hJ;have hlo := hrf.lo;have hhi := hrf.hi;have hw : i64.wrap (q.b.kind - 1) = q.b.kind - 1 := cq (by omega) (by omega);rw [hw];refine bF ⟨by omega, by omega⟩ ?_
   have hfin : ∀ (y : Value) (s8 : PH), kI s s7 r3 S tt sh B (bI [] A) (Wl.foldl cI []) E y s8 → ∃ x : bR [(true, [CT.int IntKind.i64, CT.slice]), (false, [CT.int IntKind.i64])], gx (true, [(true, [CT.int IntKind.i64, CT.slice]), (false, [CT.int IntKind.i64])]) x = y ∧ J (((none, 0, 0), (none, 0, 0), (none, 0, 0), ()), (some ⟨r3, 0, none⟩, ()), (⟨r4, 0, none⟩, ()), ((none, 0, 0), (none, 0, 0), (a, n, c), ()), ((i : Int), ()), (x.1.1, x.1.2.1, ()), (x.2.1.1, ()), (b, ()), ((b.2.1 : Int), ()), ((i : Int), ()), ()) s8 := by
    rintro y s8 ⟨ry, rfl, ⟨a2, n2, c2, vs, rfl, hrp⟩, hE8, hk8⟩;exact ⟨((E.rep.n, (a2, n2, c2), ()), (E.err, ()), ()), rfl, hJ _ _ ⟨a2, n2, c2, vs, rfl, hrp, hE8, hk8⟩⟩
   have hk4 : q.b.kind = 1 ∨ q.b.kind = 2 ∨ q.b.kind = 3 ∨ q.b.kind = 4 := by omega
   rcases hk4 with hk | hk | hk | hk
   ·have e0 : (q.b.kind - 1).toNat * 1 = 0 := by rw [hk]; (first | done | rfl)
    simp only [e0];refine (W.aB k74 _ _ _ _).2 ⟨(.func (.func 58) #[] #[], ()), rfl, ?_⟩;refine (W.mD _ _ _).2 ⟨?_, ?_⟩
    ·exact cT Tryz.func58 (by kernel_rfl) (by kernel_rfl) (c1 hk) hfin
    ·exact cT Tryz.func58 (by kernel_rfl) (by kernel_rfl) (c1 hk) hfin
   ·have e0 : (q.b.kind - 1).toNat * 1 = 1 := by rw [hk]; (first | done | rfl)
    simp only [e0];refine (W.aB k74 _ _ _ _).2 ⟨(.func (.func 59) #[] #[], ()), rfl, ?_⟩;refine (W.mD _ _ _).2 ⟨?_, ?_⟩
    ·exact cT Tryz.func59 (by kernel_rfl) (by kernel_rfl) (c2 hk) hfin
    ·exact cT Tryz.func59 (by kernel_rfl) (by kernel_rfl) (c2 hk) hfin
   ·have e0 : (q.b.kind - 1).toNat * 1 = 2 := by rw [hk]; (first | done | rfl)
    simp only [e0];refine (W.aB k74 _ _ _ _).2 ⟨(.func (.func 60) #[] #[], ()), rfl, ?_⟩;refine (W.mD _ _ _).2 ⟨?_, ?_⟩
    ·exact cT Tryz.func60 (by kernel_rfl) (by kernel_rfl) (c3 hk) hfin
    ·exact cT Tryz.func60 (by kernel_rfl) (by kernel_rfl) (c3 hk) hfin
   ·have e0 : (q.b.kind - 1).toNat * 1 = 3 := by rw [hk]; (first | done | rfl)
    simp only [e0];refine (W.aB k74 _ _ _ _).2 ⟨(.func (.func 61) #[] #[], ()), rfl, ?_⟩;refine (W.mD _ _ _).2 ⟨?_, ?_⟩
    ·exact cT Tryz.func61 (by kernel_rfl) (by kernel_rfl) (c4 hk) hfin
    ·exact cT Tryz.func61 (by kernel_rfl) (by kernel_rfl) (c4 hk) hfin
 -- all are done
 have e : ¬ (i : Int) < (b.2.1 : Int) := of_decide_eq_false e;rw [List.drop_of_length_le (by omega)] at q1 q2 q3 q4 q5;have q1 : (bN S 0 L B).err = 0 := q1
 have q3 : (bN S 0 L B).reps = rps := by rw [q3]; exact List.append_nil _
 have q4 : (bN S 0 L B).asks = A := by rw [q4]; exact List.append_nil _
 have q5 : (bN S 0 L B).ws = Wl := by rw [q5]; exact List.append_nil _
 obtain ⟨ov, hov⟩ : ∃ ov, Wl.foldl cI [] = ov := ⟨_, rfl⟩
 have hEJ := hI.ej;rw [hov] at hEJ hwl;obtain ⟨u, mb, mo, qs0, bs0, f0, hx6⟩ := hEJ.ei;simp only [dj, bf, Nat.zero_add];refine (W.aB hx6.aU _ _ _ _).2 ⟨(u, ()), rfl, ?_⟩;refine (W.aB hx6.aU _ _ _ _).2 ⟨(some mo, ()), rfl, ?_⟩;refine W.ak (JR (some mo) s6) ?_;rintro _ s7 ⟨rk, hrk, rfl, hs7⟩;refine ⟨((_, ()), ()), rfl, ?_⟩
 have m67 : Fw.Mod [] s6 s7 := by rw [hs7]; exact Mod.new hrk
 have k7 : s7 rk = some (.cells #[.map (some mo)] 145 (0, 0)) := by rw [hs7, PH.bB]
 have hx7 := hx6.same m67
 have hfl : f0.length = ov.length := by have := hx6.omp.length_eq; rwa [List.length_map] at this
 have hkk : ∀ p ∈ f0, p.1.size ≤ maxLen := fun p hp => by
  have h1 := hx6.omk p hp;have h2 := (hEJ.sm p.2 ((hx6.omp.mem_iff).1 (List.mem_map_of_mem hp))).1;rw [h1]
  show p.2.key.size ≤ 9223372036854775807
  omega
 refine W.ak (Gh k7 hx7.om hkk (by omega)) ?_;rintro _ s8 ⟨sa, sn, sc, rfl, hstr, m78, _⟩;refine ⟨(((sa, sn, sc), ()), ()), rfl, ?_⟩;have hx8 := hx7.same m78;rw [BF hEJ.cY hx6.omk hx6.omp] at hstr
 have hsn : sn = ov.length := by rw [hstr.1, List.length_map]
 have m68 := m67.trans m78;have hrp8 := hI.rp.same m68;dsimp only
 refine ⟨fun z s' => ∃ (i : Nat) (va : OA) (vn vc : Nat), z = (((none, 0, 0), (none, 0, 0), (none, 0, 0), ()), (some ⟨r3, 0, none⟩, ()), (u, (va, vn, vc), (a, n, c), ()), ((sa, sn, sc), ()), ((sn : Int), ()), ((i : Int), ()), ()) ∧ i ≤ sn ∧ vn ≤ i ∧ Gw jz 79 s8 s' va vn vc (ov.take i),
  fun z _ => sn - z.2.2.2.2.2.1.1.toNat, ⟨0, none, 0, 0, rfl, Nat.zero_le _, Nat.le_refl _, Gw.nil (Mod.refl _ _)⟩, ?_⟩
 rintro _ s9 ⟨i2, va, vn, vc, rfl, hi2, hvn, hG9⟩;dsimp only;have hx9 := hx8.same hG9.md;refine aI (fun e => ?_) fun e => ?_
 ·have hlt : (i2 : Int) < (sn : Int) := of_decide_eq_true e
  obtain ⟨x, hx⟩ : ∃ x, ov[i2]? = some x := ⟨_, List.getElem?_eq_getElem (by omega)⟩
  refine bF ⟨Int.natCast_nonneg i2, hlt⟩ ?_;obtain ⟨_, ⟨_, _, hnil⟩ | ⟨g, cur, rfl, hg, hcur, _, _⟩⟩ := hstr
  ·rw [List.map_eq_nil_iff] at hnil;rw [hnil] at hx; simp at hx
  simp only [dj, Int.toNat_natCast, bf, Nat.zero_add, Nat.mul_one];have hg9 := hG9.md.at hg (by simp)
  have hci : cur[i2]? = some (.string x.key) := by
   have h1 : (cur.toList.take sn)[i2]? = some (.string x.key) := by rw [hcur, List.getElem?_map, List.getElem?_map, hx]; (first | done | rfl)
   rw [List.getElem?_take_of_lt (by omega)] at h1;rw [← Array.getElem?_toList]; exact h1
  refine B0 (A := ⟨g, i2, none⟩) (cs := [.str]) (y := (x.key, ())) (fun j v hv => ?_) ?_
  ·cases j with
   | zero =>
    have hv : some (Value.string x.key) = some v := hv;cases hv;rw [je hg9 rfl];simpa using hci
   | succ j => have hv : (none : Option Value) = some v := hv; cases hv
  refine (W.aB hx9.aU _ _ _ _).2 ⟨(some mo, ()), rfl, ?_⟩;refine vR (ke := iB) (ve := sx) hx9.om (key := x.key) ?_;rw [C9 hEJ.cY hx6.omk hx6.omp (List.mem_of_getElem? hx)];refine ⟨(x.key, x.val, x.dead, ()), rfl, ?_⟩;refine hG9.push [x] (k := 1) rfl rfl rfl (by omega) (by omega) fun a3 c3 s3 h3 => ?_;rw [ai (k := i2) (by omega)];refine ⟨⟨i2 + 1, a3, vn + 1, c3, rfl, by omega, by omega, ?_⟩, by simp only [Int.toNat_natCast]; omega⟩;rw [List.take_add_one, hx]; exact h3
 ·have e : ¬ (i2 : Int) < (sn : Int) := of_decide_eq_false e;rw [List.take_of_length_le (by omega)] at hG9;have m69 := m68.trans hG9.md;rw [← hR];refine ⟨hI.ej.md.trans m69, ?_⟩;rw [if_neg (by rw [herr]; decide), if_neg (by rw [q1]; decide), q3, q4, q5, hov];refine ⟨u, (va, vn, vc), (a, n, c), rfl, ⟨⟨qs0, hx9.rd, hx9.rdq, hx9.seen⟩, hG9.since (hI.ej.md.trans m68), ⟨qs, hrp8.same hG9.md⟩, by omega⟩, ⟨by have h1 := hI.nl; have h2 := hI.rp.gw.row.len; have h3 := congrArg List.length hI.rp.eq; rw [List.length_map] at h3; omega, hI.rf, by rw [hov]; exact hEJ.sm, by rw [hov]; omega, by rw [hD]; exact hcn.mono (by omega)⟩⟩
end
end
section
variable {W : Type} (π : fX W)
open Fw.W
def se (a : OA) (an ac : Nat) (b : OA) (bn bc : Nat) (ts : Int) : W :=
 π.nw (Obj.cells #[] 75 (0, 0)) fun r0 => π.app 75 3 40 [(.string ⟨#[]⟩), (.int .i64 0), (.string ⟨#[]⟩)] (some (Addr.mk r0 0 none)) 0 0 (Src.sl a an) fun a1 n2 c3 => π.loop [(false, [.slice]), (false, [.int .i64])] (((a1, n2, c3), ()), ((0 : Int), ()), ()) fun ((((a5 : OA), (n6 : Nat), (c7 : Nat)), _), ((x8 : Int), _), _) again4 => π.ite (decide (x8 < (↑bn : Int))) (π.loop [(false, [.slice]), (false, [.int .i64]), (false, [.slice]), (false, [.bool]), (false, [.int .i64])] (((a5, n6, c7), ()), (x8, ()), ((none, (0 : Nat), (0 : Nat)), ()), (false, ()), ((0 : Int), ()), ()) fun ((((a10 : OA), (n11 : Nat), (c12 : Nat)), _), ((x13 : Int), _), (((a14 : OA), (n15 : Nat), (c16 : Nat)), _), ((b17 : Bool), _), ((x18 : Int), _), _) again9 => π.ite (decide (x18 ≤ (↑n11 : Int))) (π.join [(false, [.slice]), (false, [.int .i64]), (false, [.slice]), (false, [.bool]), (false, [.int .i64])] (fun J19 => π.join [(false, [.slice]), (false, [.int .i64]), (false, [.slice]), (false, [.bool]), (false, [.int .i64]), (false, [.bool])] (fun J20 => π.ite (!b17) (π.ite (x18 == (↑n11 : Int)) (J20 (((a10, n11, c12), ()), (x13, ()), ((a14, n15, c16), ()), (b17, ()), (x18, ()), (true, ()), ())) (π.guard (0 ≤ x18 ∧ x18 < (↑n11 : Int)) <| π.aa a10 fun p21 => π.ld [.str] ((p21.add (x18.toNat * 3)).add 0) fun ((t22 : BA), _) => π.guard (0 ≤ x13 ∧ x13 < (↑bn : Int)) <| π.aa b fun p23 => π.ld [.str] ((p23.add (x13.toNat * 3)).add 0) fun ((t24 : BA), _) => π.cy 44 #[(.string t22), (.string t24)] (false, [(false, [.int .i64])]) fun (((x25 : Int), _), _) =>
 J20 (((a10, n11, c12), ()), (x13, ()), ((a14, n15, c16), ()), (b17, ()), (x18, ()), (decide (x25 ≥ 0), ()), ()))) (J20 (((a10, n11, c12), ()), (x13, ()), ((a14, n15, c16), ()), (b17, ()), (x18, ()), (false, ()), ()))) (fun ((((a26 : OA), (n27 : Nat), (c28 : Nat)), _), ((x29 : Int), _), (((a30 : OA), (n31 : Nat), (c32 : Nat)), _), ((b33 : Bool), _), ((x34 : Int), _), ((b35 : Bool), _), _) => π.ite b35 (π.guard (0 ≤ x29 ∧ x29 < (↑bn : Int)) <| π.aa b fun p36 => π.ld [.bool] ((p36.add (x29.toNat * 3)).add 2) fun ((b37 : Bool), _) => π.ite (!b37) (π.guard (0 ≤ x29 ∧ x29 < (↑bn : Int)) <| π.aa b fun p38 => π.ld [.str] ((p38.add (x29.toNat * 3)).add 0) fun ((t39 : BA), _) => π.guard (0 ≤ x29 ∧ x29 < (↑bn : Int)) <| π.aa b fun p40 => π.ld [.str] ((p40.add (x29.toNat * 3)).add 1) fun ((t41 : BA), _) => π.nw (Obj.cells #[(.string t39), (.int .i64 ts), (.string t41)] 75 (0, 0)) fun r42 => π.app 75 3 40 [(.string ⟨#[]⟩), (.int .i64 0), (.string ⟨#[]⟩)] a30 n31 c32 (Src.sl (some (Addr.mk r42 0 none)) 1) fun a43 n44 c45 => J19 (((a26, n27, c28), ()), (x29, ()), ((a43, n44, c45), ()), (true, ()), (x34, ()), ())) (J19 (((a26, n27, c28), ()), (x29, ()), ((a30, n31, c32), ()), (true, ()), (x34, ()), ()))) (J19 (((a26, n27, c28), ()), (x29, ()), ((a30, n31, c32), ()), (b33, ()), (x34, ()), ())))) (fun ((((a46 : OA), (n47 : Nat), (c48 : Nat)), _), ((x49 : Int), _), (((a50 : OA), (n51 : Nat), (c52 : Nat)), _), ((b53 : Bool), _), ((x54 : Int), _), _) =>
 π.ite (decide (x54 < (↑n47 : Int))) (π.guard (0 ≤ x54 ∧ x54 < (↑n47 : Int)) <| π.aa a46 fun p55 => π.ld [.str] ((p55.add (x54.toNat * 3)).add 0) fun ((t56 : BA), _) => π.guard (0 ≤ x49 ∧ x49 < (↑bn : Int)) <| π.aa b fun p57 => π.ld [.str] ((p57.add (x49.toNat * 3)).add 0) fun ((t58 : BA), _) => π.ite (!t56.toList == t58.toList) (π.guard (0 ≤ x54 ∧ x54 < (↑n47 : Int)) <| π.aa a46 fun p59 => π.ld [.str, .int .i64, .str] (p59.add (x54.toNat * 3)) fun ((t60 : BA), (x61 : Int), (t62 : BA), _) => π.nw (Obj.cells #[(.string t60), (.int .i64 x61), (.string t62)] 75 (0, 0)) fun r63 => π.app 75 3 40 [(.string ⟨#[]⟩), (.int .i64 0), (.string ⟨#[]⟩)] a50 n51 c52 (Src.sl (some (Addr.mk r63 0 none)) 1) fun a64 n65 c66 => again9 (((a46, n47, c48), ()), (x49, ()), ((a64, n65, c66), ()), (b53, ()), (i64.wrap (x54 + 1), ()), ())) (again9 (((a46, n47, c48), ()), (x49, ()), ((a50, n51, c52), ()), (b53, ()), (i64.wrap (x54 + 1), ()), ()))) (again9 (((a46, n47, c48), ()), (x49, ()), ((a50, n51, c52), ()), (b53, ()), (i64.wrap (x54 + 1), ()), ())))) (again4 (((a14, n15, c16), ()), (i64.wrap (x13 + 1), ()), ()))) (π.ret (.slice a5 n6 c7))
theorem Bs (a : OA) (an ac : Nat) (b : OA) (bn bc : Nat) (ts : Int) : OK 21 [.v (.slice a an ac), .v (.slice b bn bc), .v (.int .i64 ts)] fun _ π => se π a an ac b bn bc ts :=
 aW {} { draws := [(10, { A := [0, 1, 2, 3, 4, 5, 6, 7, 8, 9, 10, 11, 12, 13, 14, 15, 16, 17, 18, 19, 20, 21], quiet := [18] }), (13, { A := [0, 1, 2, 3, 4, 5, 6, 7, 8, 9, 10, 11, 12] }), (14, { A := [0, 1, 2, 3, 4, 5, 6, 7, 8, 9, 10, 11, 12, 13, 14, 15, 16] })], join := [(11, [(7, 65), (8, 3), (9, 65), (10, 4), (11, 3), (48, 4)]), (14, [(7, 65), (8, 3), (9, 65), (10, 4), (11, 3)])], loop := [(3, [(7, 65), (8, 3)]), (8, [(7, 65), (8, 3), (9, 65), (10, 4), (11, 3)])] } [] Tryz.func21 Tryz.ntmps21 rfl (by kernel_rfl) fun _ π => by kernel_rfl
def xL (a : OA) (an ac : Nat) (b : OA) (bn bc : Nat) : W :=
 π.ite ((↑an : Int) != (↑bn : Int)) (π.ret (.bool false)) (π.loop [(false, [.int .i64])] (((0 : Int), ()), ()) fun (((x1 : Int), _), _) again0 => π.ite (decide (x1 < (↑an : Int))) (π.guard (0 ≤ x1 ∧ x1 < (↑an : Int)) <| π.aa a fun p2 => π.ld [.int .i64, .int .i64, .str] (p2.add (x1.toNat * 3)) fun ((x3 : Int), (x4 : Int), (t5 : BA), _) => π.guard (0 ≤ x1 ∧ x1 < (↑bn : Int)) <| π.aa b fun p6 => π.ld [.int .i64, .int .i64, .str] (p6.add (x1.toNat * 3)) fun ((x7 : Int), (x8 : Int), (t9 : BA), _) => π.ite (!(x3 == x7 && (x4 == x8 && (t5 == t9 && true)))) (π.ret (.bool false)) (again0 ((i64.wrap (x1 + 1), ()), ()))) (π.ret (.bool true)))
theorem Fc (a : OA) (an ac : Nat) (b : OA) (bn bc : Nat) : OK 82 [.v (.slice a an ac), .v (.slice b bn bc)] fun _ π => xL π a an ac b bn bc :=
 aW {} { draws := [(6, { A := [0, 1, 2, 3, 4, 5, 6, 7, 8] })], loop := [(4, [(5, 3)])] } [] Tryz.func82 Tryz.ntmps82 rfl (by kernel_rfl) fun _ π => by kernel_rfl
def nB (a : OA) (an ac : Nat) (b : OA) (bn bc : Nat) : W :=
 π.ite ((↑an : Int) != (↑bn : Int)) (π.ret (.bool false)) (π.loop [(false, [.int .i64])] (((0 : Int), ()), ()) fun (((x1 : Int), _), _) again0 => π.ite (decide (x1 < (↑an : Int))) (π.join [(false, [.int .i64])] (fun J2 => π.guard (0 ≤ x1 ∧ x1 < (↑an : Int)) <| π.aa a fun p3 => π.ld [.int .i64] ((p3.add (x1.toNat * 2)).add 0) fun ((x4 : Int), _) => π.guard (0 ≤ x1 ∧ x1 < (↑bn : Int)) <| π.aa b fun p5 => π.ld [.int .i64] ((p5.add (x1.toNat * 2)).add 0) fun ((x6 : Int), _) => π.ite (x4 != x6) (π.ret (.bool false)) (π.guard (0 ≤ x1 ∧ x1 < (↑an : Int)) <| π.aa a fun p7 => π.ld [.slice] ((p7.add (x1.toNat * 2)).add 1) fun (((a8 : OA), (n9 : Nat), (c10 : Nat)), _) => π.guard (0 ≤ x1 ∧ x1 < (↑bn : Int)) <| π.aa b fun p11 => π.ld [.slice] ((p11.add (x1.toNat * 2)).add 1) fun (((a12 : OA), (n13 : Nat), (c14 : Nat)), _) => π.ite ((↑n9 : Int) != (↑n13 : Int)) (π.ret (.bool false)) (J2 ((x1, ()), ())))) (fun (((x15 : Int), _), _) => π.loop [(false, [.int .i64]), (false, [.int .i64])] ((x15, ()), ((0 : Int), ()), ()) fun (((x17 : Int), _), ((x18 : Int), _), _) again16 => π.guard (0 ≤ x17 ∧ x17 < (↑an : Int)) <| π.aa a fun p19 => π.ld [.slice] ((p19.add (x17.toNat * 2)).add 1) fun (((a20 : OA), (n21 : Nat), (c22 : Nat)), _) => π.ite (decide (x18 < (↑n21 : Int))) (π.guard (0 ≤ x17 ∧ x17 < (↑an : Int)) <| π.aa a fun p23 => π.ld [.slice] ((p23.add (x17.toNat * 2)).add 1) fun (((a24 : OA), (n25 : Nat), (c26 : Nat)), _) => π.guard (0 ≤ x18 ∧ x18 < (↑n25 : Int)) <| π.aa a24 fun p27 =>
 π.ld [.slice] (p27.add (x18.toNat * 1)) fun (((a28 : OA), (n29 : Nat), (c30 : Nat)), _) => π.guard (0 ≤ x17 ∧ x17 < (↑bn : Int)) <| π.aa b fun p31 => π.ld [.slice] ((p31.add (x17.toNat * 2)).add 1) fun (((a32 : OA), (n33 : Nat), (c34 : Nat)), _) => π.guard (0 ≤ x18 ∧ x18 < (↑n33 : Int)) <| π.aa a32 fun p35 => π.ld [.slice] (p35.add (x18.toNat * 1)) fun (((a36 : OA), (n37 : Nat), (c38 : Nat)), _) => π.call 82 #[(.slice a28 n29 c30), (.slice a36 n37 c38)] (false, [(false, [.bool])]) fun (((b39 : Bool), _), _) => π.ite (!b39) (π.ret (.bool false)) (again16 ((x17, ()), (i64.wrap (x18 + 1), ()), ()))) (again0 ((i64.wrap (x17 + 1), ()), ())))) (π.ret (.bool true)))
theorem uz (a : OA) (an ac : Nat) (b : OA) (bn bc : Nat) : OK 25 [.v (.slice a an ac), .v (.slice b bn bc)] fun _ π => nB π a an ac b bn bc :=
 aW {} { draws := [(6, { A := [0, 1, 2, 3, 4, 5, 6, 7, 8, 9, 10, 11, 12, 13, 14, 15, 16, 17, 18, 19, 20, 21, 22, 23, 24, 25] }), (11, { A := [0, 1, 2, 3, 4, 5, 6, 7, 8, 9, 10, 11, 12, 13, 14, 15], eag := [17] })], join := [(8, [(5, 3)])], loop := [(4, [(5, 3)]), (9, [(5, 3), (6, 3)])] } [] Tryz.func25 Tryz.ntmps25 rfl (by kernel_rfl) fun _ π => by kernel_rfl
def qd (a : OA) (an ac : Nat) (b : OA) (bn bc : Nat) : W :=
 π.ite ((↑an : Int) != (↑bn : Int)) (π.ret (.bool false)) (π.loop [(false, [.int .i64])] (((0 : Int), ()), ()) fun (((x1 : Int), _), _) again0 => π.ite (decide (x1 < (↑an : Int))) (π.join [(false, [.int .i64])] (fun J2 => π.guard (0 ≤ x1 ∧ x1 < (↑an : Int)) <| π.aa a fun p3 => π.ld [.str, .str] ((p3.add (x1.toNat * 3)).add 0) fun ((t4 : BA), (t5 : BA), _) => π.guard (0 ≤ x1 ∧ x1 < (↑bn : Int)) <| π.aa b fun p6 => π.ld [.str, .str] ((p6.add (x1.toNat * 3)).add 0) fun ((t7 : BA), (t8 : BA), _) => π.ite (!(t4 == t7 && (t5 == t8 && true))) (π.ret (.bool false)) (π.guard (0 ≤ x1 ∧ x1 < (↑an : Int)) <| π.aa a fun p9 => π.ld [.slice] ((p9.add (x1.toNat * 3)).add 2) fun (((a10 : OA), (n11 : Nat), (c12 : Nat)), _) => π.guard (0 ≤ x1 ∧ x1 < (↑bn : Int)) <| π.aa b fun p13 => π.ld [.slice] ((p13.add (x1.toNat * 3)).add 2) fun (((a14 : OA), (n15 : Nat), (c16 : Nat)), _) => π.ite ((↑n11 : Int) != (↑n15 : Int)) (π.ret (.bool false)) (J2 ((x1, ()), ())))) (fun (((x17 : Int), _), _) => π.loop [(false, [.int .i64]), (false, [.int .i64])] ((x17, ()), ((0 : Int), ()), ()) fun (((x19 : Int), _), ((x20 : Int), _), _) again18 => π.guard (0 ≤ x19 ∧ x19 < (↑an : Int)) <| π.aa a fun p21 => π.ld [.slice] ((p21.add (x19.toNat * 3)).add 2) fun (((a22 : OA), (n23 : Nat), (c24 : Nat)), _) => π.ite (decide (x20 < (↑n23 : Int))) (π.guard (0 ≤ x19 ∧ x19 < (↑an : Int)) <| π.aa a fun p25 => π.ld [.slice] ((p25.add (x19.toNat * 3)).add 2) fun (((a26 : OA), (n27 : Nat), (c28 : Nat)), _) =>
 π.guard (0 ≤ x20 ∧ x20 < (↑n27 : Int)) <| π.aa a26 fun p29 => π.ld [.str, .int .i64] (p29.add (x20.toNat * 2)) fun ((t30 : BA), (x31 : Int), _) => π.guard (0 ≤ x19 ∧ x19 < (↑bn : Int)) <| π.aa b fun p32 => π.ld [.slice] ((p32.add (x19.toNat * 3)).add 2) fun (((a33 : OA), (n34 : Nat), (c35 : Nat)), _) => π.guard (0 ≤ x20 ∧ x20 < (↑n34 : Int)) <| π.aa a33 fun p36 => π.ld [.str, .int .i64] (p36.add (x20.toNat * 2)) fun ((t37 : BA), (x38 : Int), _) => π.ite (!(t30 == t37 && (x31 == x38 && true))) (π.ret (.bool false)) (again18 ((x19, ()), (i64.wrap (x20 + 1), ()), ()))) (again0 ((i64.wrap (x19 + 1), ()), ())))) (π.ret (.bool true)))
theorem yx (a : OA) (an ac : Nat) (b : OA) (bn bc : Nat) : OK 66 [.v (.slice a an ac), .v (.slice b bn bc)] fun _ π => qd π a an ac b bn bc :=
 aW {} { draws := [(6, { A := [0, 1, 2, 3, 4, 5, 6, 7, 8, 9, 10, 11, 12, 13, 14, 15, 16, 17, 18, 19, 20, 21, 22, 23, 24, 25] }), (11, { A := [0, 1, 2, 3, 4, 5, 6, 7, 8, 9, 10, 11, 12, 13, 14, 15, 16] })], join := [(8, [(5, 3)])], loop := [(4, [(5, 3)]), (9, [(5, 3), (6, 3)])] } [] Tryz.func66 Tryz.ntmps66 rfl (by kernel_rfl) fun _ π => by kernel_rfl
def oC (a : OA) (an ac : Nat) (b : OA) (bn bc : Nat) : W :=
 π.ite ((↑an : Int) != (↑bn : Int)) (π.ret (.bool false)) (π.loop [(false, [.int .i64])] (((0 : Int), ()), ()) fun (((x1 : Int), _), _) again0 => π.ite (decide (x1 < (↑an : Int))) (π.guard (0 ≤ x1 ∧ x1 < (↑an : Int)) <| π.aa a fun p2 => π.ld [.str, .str, .bool] (p2.add (x1.toNat * 3)) fun ((t3 : BA), (t4 : BA), (b5 : Bool), _) => π.guard (0 ≤ x1 ∧ x1 < (↑bn : Int)) <| π.aa b fun p6 => π.ld [.str, .str, .bool] (p6.add (x1.toNat * 3)) fun ((t7 : BA), (t8 : BA), (b9 : Bool), _) => π.ite (!(t3 == t7 && (t4 == t8 && (b5 == b9 && true)))) (π.ret (.bool false)) (again0 ((i64.wrap (x1 + 1), ()), ()))) (π.ret (.bool true)))
theorem wg (a : OA) (an ac : Nat) (b : OA) (bn bc : Nat) : OK 67 [.v (.slice a an ac), .v (.slice b bn bc)] fun _ π => oC π a an ac b bn bc :=
 aW {} { draws := [(6, { A := [0, 1, 2, 3, 4, 5, 6, 7, 8] })], loop := [(4, [(5, 3)])] } [] Tryz.func67 Tryz.ntmps67 rfl (by kernel_rfl) fun _ π => by kernel_rfl
def xK (er : OA) (ern erc : Nat) (ew : OA) (ewn ewc : Nat) (ep : OA) (epn epc : Nat) (fr : OA) (frn frc : Nat) (fw : OA) (fwn fwc : Nat) (fp : OA) (fpn fpc : Nat) : W :=
 π.call 25 #[(.slice ep epn epc), (.slice fp fpn fpc)] (false, [(false, [.bool])]) fun (((b0 : Bool), _), _) => π.ite b0 (π.call 66 #[(.slice er ern erc), (.slice fr frn frc)] (false, [(false, [.bool])]) fun (((b1 : Bool), _), _) => π.ite b1 (π.call 67 #[(.slice ew ewn ewc), (.slice fw fwn fwc)] (false, [(false, [.bool])]) fun (((b2 : Bool), _), _) => π.ret (.bool b2)) (π.ret (.bool false))) (π.ret (.bool false))
theorem Fb (er : OA) (ern erc : Nat) (ew : OA) (ewn ewc : Nat) (ep : OA) (epn epc : Nat) (fr : OA) (frn frc : Nat) (fw : OA) (fwn fwc : Nat) (fp : OA) (fpn fpc : Nat) : OK 22 [.v (.agg #[.slice er ern erc, .slice ew ewn ewc, .slice ep epn epc]), .v (.agg #[.slice fr frn frc, .slice fw fwn fwc, .slice fp fpn fpc])] fun _ π => xK π er ern erc ew ewn ewc ep epn epc fr frn frc fw fwn fwc fp fpn fpc :=
 aW { ptr := [(2, 2, 0), (3, 3, 0), (5, 2, 2), (7, 3, 2), (11, 2, 0), (13, 3, 0), (18, 2, 1), (20, 3, 1)], ty := [(2, 70), (3, 70)] } {} [] Tryz.func22 Tryz.ntmps22 rfl (by kernel_rfl) fun _ π => by kernel_rfl
def AS (a : OA) (an ac : Nat) : W :=
 π.loop [(false, [.slice]), (false, [.slice]), (false, [.int .i64]), (false, [.int .i64])] (((none, (0 : Nat), (0 : Nat)), ()), ((a, an, ac), ()), ((↑an : Int), ()), ((0 : Int), ()), ()) fun ((((a1 : OA), (n2 : Nat), (c3 : Nat)), _), (((a4 : OA), (n5 : Nat), (c6 : Nat)), _), ((x7 : Int), _), ((x8 : Int), _), _) again0 => π.ite (decide (x8 < x7)) (π.guard (0 ≤ x8 ∧ x8 < (↑n5 : Int)) <| π.aa a4 fun p9 => π.ld [.str, .int .i64, .str] (p9.add (x8.toNat * 3)) fun ((t10 : BA), (x11 : Int), (t12 : BA), _) => π.ite ((↑n2 : Int) == 0) (π.nw (Obj.cells #[(.string t10), (.int .i64 x11), (.string t12)] 75 (0, 0)) fun r13 => π.app 75 3 40 [(.string ⟨#[]⟩), (.int .i64 0), (.string ⟨#[]⟩)] a1 n2 c3 (Src.sl (some (Addr.mk r13 0 none)) 1) fun a14 n15 c16 => again0 (((a14, n15, c16), ()), ((a4, n5, c6), ()), (x7, ()), (i64.wrap (x8 + 1), ()), ())) (π.guard (0 ≤ i64.wrap ((↑n2 : Int) - 1) ∧ i64.wrap ((↑n2 : Int) - 1) < (↑n2 : Int)) <| π.aa a1 fun p17 => π.ld [.str] ((p17.add ((i64.wrap ((↑n2 : Int) - 1)).toNat * 3)).add 0) fun ((t18 : BA), _) => π.cy 44 #[(.string t18), (.string t10)] (false, [(false, [.int .i64])]) fun (((x19 : Int), _), _) => π.ite (decide (x19 < 0)) (π.nw (Obj.cells #[(.string t10), (.int .i64 x11), (.string t12)] 75 (0, 0)) fun r20 => π.app 75 3 40 [(.string ⟨#[]⟩), (.int .i64 0), (.string ⟨#[]⟩)] a1 n2 c3 (Src.sl (some (Addr.mk r20 0 none)) 1) fun a21 n22 c23 => again0 (((a21, n22, c23), ()), ((a4, n5, c6), ()), (x7, ()), (i64.wrap (x8 + 1), ()), ())) (again0 (((a1, n2, c3), ()), ((a4, n5, c6), ()), (x7, ()), (i64.wrap (x8 + 1), ()), ())))) (π.ret (.slice a1 n2 c3))
theorem G7 (a : OA) (an ac : Nat) : OK 18 [.v (.slice a an ac)] fun _ π => AS π a an ac :=
 aW { ptr := [(5, 5, 0), (23, 5, 0)], ty := [(5, 75)] } { draws := [(5, { A := [0, 1, 2, 3, 4, 5, 6, 7, 8, 9, 10, 11, 12, 13, 14, 15], quiet := [13] })], loop := [(3, [(3, 65), (6, 65), (7, 3), (8, 3)])] } [] Tryz.func18 Tryz.ntmps18 rfl (by kernel_rfl) fun _ π => by kernel_rfl
def xE (sv sl : Int) (sa : OA) (san sac : Nat) (a : OA) (an ac : Nat) (b : OA) (bn bc : Nat) : W :=
 π.loop [(false, [.int .i64]), (false, [.slice]), (false, [.int .i64]), (false, [.int .i64])] ((i64.wrap (i64.wrap ((↑san : Int) + (↑an : Int)) + (↑bn : Int)), ()), ((sa, san, sac), ()), ((↑san : Int), ()), ((0 : Int), ()), ()) fun (((x1 : Int), _), (((a2 : OA), (n3 : Nat), (c4 : Nat)), _), ((x5 : Int), _), ((x6 : Int), _), _) again0 => π.ite (decide (x6 < x5)) (π.guard (0 ≤ x6 ∧ x6 < (↑n3 : Int)) <| π.aa a2 fun p7 => π.ld [.int .i64, .str, .slice, .slice, .slice] (p7.add (x6.toNat * 5)) fun ((x8 : Int), (t9 : BA), ((a10 : OA), (n11 : Nat), (c12 : Nat)), ((a13 : OA), (n14 : Nat), (c15 : Nat)), ((a16 : OA), (n17 : Nat), (c18 : Nat)), _) => π.ite (decide (i64.wrap (x1 + i64.wrap (i64.wrap ((↑n11 : Int) + (↑n14 : Int)) + (↑n17 : Int))) > 400)) (π.ret (.bool true)) (again0 ((i64.wrap (x1 + i64.wrap (i64.wrap ((↑n11 : Int) + (↑n14 : Int)) + (↑n17 : Int))), ()), ((a2, n3, c4), ()), (x5, ()), (i64.wrap (x6 + 1), ()), ()))) (π.loop [(false, [.int .i64]), (false, [.slice]), (false, [.int .i64]), (false, [.int .i64])] ((x1, ()), ((a, an, ac), ()), ((↑an : Int), ()), ((0 : Int), ()), ()) fun (((x20 : Int), _), (((a21 : OA), (n22 : Nat), (c23 : Nat)), _), ((x24 : Int), _), ((x25 : Int), _), _) again19 => π.ite (decide (x25 < x24)) (π.guard (0 ≤ x25 ∧ x25 < (↑n22 : Int)) <| π.aa a21 fun p26 => π.ld [.int .i64, .int .i64, .slice, .int .i64, .int .i64, .int .i64, .str, .int .i64, .int .i64, .int .i64, .str] (p26.add (x25.toNat * 11)) fun ((x27 : Int), (x28 : Int), ((a29 : OA), (n30 : Nat), (c31 : Nat)), (x32 : Int), (x33 : Int), (x34 : Int), (t35 : BA), (x36 : Int), (x37 : Int), (x38 : Int), (t39 : BA), _) =>
 π.ite (decide (i64.wrap (x20 + (↑n30 : Int)) > 400)) (π.ret (.bool true)) (again19 ((i64.wrap (x20 + (↑n30 : Int)), ()), ((a21, n22, c23), ()), (x24, ()), (i64.wrap (x25 + 1), ()), ()))) (π.loop [(false, [.int .i64]), (false, [.slice]), (false, [.int .i64]), (false, [.int .i64])] ((x20, ()), ((b, bn, bc), ()), ((↑bn : Int), ()), ((0 : Int), ()), ()) fun (((x41 : Int), _), (((a42 : OA), (n43 : Nat), (c44 : Nat)), _), ((x45 : Int), _), ((x46 : Int), _), _) again40 => π.ite (decide (x46 < x45)) (π.guard (0 ≤ x46 ∧ x46 < (↑n43 : Int)) <| π.aa a42 fun p47 => π.ld [.str, .int .i64, .str] (p47.add (x46.toNat * 3)) fun ((t48 : BA), (x49 : Int), (t50 : BA), _) => π.ite (decide ((↑t50.size : Int) > 1000)) (π.ret (.bool true)) (again40 ((x41, ()), ((a42, n43, c44), ()), (x45, ()), (i64.wrap (x46 + 1), ()), ()))) (π.ite (decide (x41 > 400)) (π.ret (.bool true)) (π.ret (.bool (decide ((↑an : Int) > 12)))))))
theorem E5 (sv sl : Int) (sa : OA) (san sac : Nat) (a : OA) (an ac : Nat) (b : OA) (bn bc : Nat) : OK 17 [.v (.agg #[.int .i64 sv, .int .i64 sl, .slice sa san sac]), .v (.slice a an ac), .v (.slice b bn bc)] fun _ π => xE π sv sl sa san sac a an ac b bn bc :=
 aW { ptr := [(3, 3, 0), (9, 9, 0), (11, 11, 0), (13, 13, 0), (14, 3, 2), (23, 3, 2), (31, 9, 2), (34, 9, 3), (38, 9, 4), (53, 11, 2), (66, 13, 2)], ty := [(3, 43), (9, 139), (11, 127), (13, 75)] } { loop := [(3, [(7, 3), (24, 41), (25, 3), (26, 3)]), (10, [(7, 3), (46, 64), (47, 3), (48, 3)]), (17, [(7, 3), (60, 65), (61, 3), (62, 3)])] } [] Tryz.func17 Tryz.ntmps17 rfl (by kernel_rfl) fun _ π => by kernel_rfl
def sd (a : OA) (an ac : Nat) (k : BA) : W :=
 π.loop [(false, [.slice]), (false, [.int .i64]), (false, [.int .i64])] (((a, an, ac), ()), ((↑an : Int), ()), ((0 : Int), ()), ()) fun ((((a1 : OA), (n2 : Nat), (c3 : Nat)), _), ((x4 : Int), _), ((x5 : Int), _), _) again0 => π.ite (decide (x5 < x4)) (π.guard (0 ≤ x5 ∧ x5 < (↑n2 : Int)) <| π.aa a1 fun p6 => π.ld [.str, .str, .slice] (p6.add (x5.toNat * 3)) fun ((t7 : BA), (t8 : BA), ((a9 : OA), (n10 : Nat), (c11 : Nat)), _) => π.call 65 #[(.string k), (.agg #[(.string t7), (.string t8)])] (false, [(false, [.bool])]) fun (((b12 : Bool), _), _) => π.ite b12 (π.ret (.bool true)) (again0 (((a1, n2, c3), ()), (x4, ()), (i64.wrap (x5 + 1), ()), ()))) (π.ret (.bool false))
theorem Br (a : OA) (an ac : Nat) (k : BA) : OK 20 [.v (.slice a an ac), .v (.string k)] fun _ π => sd π a an ac k :=
 aW { ptr := [(6, 6, 0), (14, 6, 0)], ty := [(6, 132)] } { loop := [(2, [(7, 25), (8, 3), (9, 3)])] } [] Tryz.func20 Tryz.ntmps20 rfl (by kernel_rfl) fun _ π => by kernel_rfl
def xD : W :=
 π.call 28 #[] (false, [(true, [.int .i64, .str, .str, .str, .str, .bool, .int .i64, .int .i64, .int .i64, .str, .slice])]) fun (((x0 : Int), (t1 : BA), (t2 : BA), (t3 : BA), (t4 : BA), (b5 : Bool), (x6 : Int), (x7 : Int), (x8 : Int), (t9 : BA), ((a10 : OA), (n11 : Nat), (c12 : Nat)), _), _) => π.call 27 #[(.agg #[(.int .i64 0), (.int .i64 0), (.slice none 0 0)]), (.agg #[(.int .i64 x0), (.string t1), (.string t2), (.string t3), (.string t4), (.bool b5), (.int .i64 x6), (.int .i64 x7), (.int .i64 x8), (.string t9), (.slice a10 n11 c12)]), (.int .i64 3)] (true, [(true, [.int .i64, .int .i64, .slice]), (false, [.int .i64])]) fun (((x13 : Int), (x14 : Int), ((a15 : OA), (n16 : Nat), (c17 : Nat)), _), ((x18 : Int), _), _) => π.call 30 #[(.int .i64 5)] (false, [(true, [.int .i64, .int .i64, .str])]) fun (((x19 : Int), (x20 : Int), (t21 : BA), _), _) => π.nw (Obj.cells #[(.int .i64 x19), (.int .i64 x20), (.string t21), (.int .i64 2), (.int .i64 0), (.string (ByteArray.mk #[(120 : UInt8)]))] 28 (0, 0)) fun r22 => π.nw (Obj.cells #[(.int .i64 1), (.int .i64 1), (.slice (some (Addr.mk r22 0 none)) 2 2), (.int .i64 0), (.int .i64 0), (.int .i64 0), (.string ⟨#[]⟩), (.int .i64 0), (.int .i64 0), (.int .i64 0), (.string ⟨#[]⟩)] 127 (0, 0)) fun r23 => π.call 19 #[(.agg #[(.int .i64 x13), (.int .i64 x14), (.slice a15 n16 c17)]), (.slice (some (Addr.mk r23 0 none)) 1 1), (Value.iface (73 : Nat) (.slice none 0 0))] (true, [(true, [.slice, .slice, .slice]), (false, [.int .i64]), (false, [.int .i64])]) fun ((((a24 : OA), (n25 : Nat), (c26 : Nat)), ((a27 : OA), (n28 : Nat), (c29 : Nat)), ((a30 : OA), (n31 : Nat), (c32 : Nat)), _), ((x33 : Int), _), ((x34 : Int), _), _) =>
 π.nw (Obj.cells #[(.int .i64 1), (.int .i64 1), (.slice (some (Addr.mk r22 0 none)) 2 2), (.int .i64 0), (.int .i64 0), (.int .i64 0), (.string ⟨#[]⟩), (.int .i64 0), (.int .i64 0), (.int .i64 0), (.string ⟨#[]⟩), (.int .i64 1), (.int .i64 1), (.slice (some (Addr.mk r22 0 none)) 2 2), (.int .i64 0), (.int .i64 0), (.int .i64 0), (.string ⟨#[]⟩), (.int .i64 0), (.int .i64 0), (.int .i64 0), (.string ⟨#[]⟩)] 127 (0, 0)) fun r35 => π.call 19 #[(.agg #[(.int .i64 x13), (.int .i64 x14), (.slice a15 n16 c17)]), (.slice (some (Addr.mk r35 0 none)) 2 2), (Value.iface (73 : Nat) (.slice none 0 0))] (true, [(true, [.slice, .slice, .slice]), (false, [.int .i64]), (false, [.int .i64])]) fun ((((a36 : OA), (n37 : Nat), (c38 : Nat)), ((a39 : OA), (n40 : Nat), (c41 : Nat)), ((a42 : OA), (n43 : Nat), (c44 : Nat)), _), ((x45 : Int), _), ((x46 : Int), _), _) => π.ite (x34 == 0) (π.ite ((↑n25 : Int) == 1) (π.guard ((0 : Int) ≤ 0 ∧ 0 < (↑n25 : Int)) <| π.aa a24 fun p47 => π.ld [.slice] ((p47.add 0).add 2) fun (((a48 : OA), (n49 : Nat), (c50 : Nat)), _) => π.ite ((↑n49 : Int) == 0) (π.ite ((↑n28 : Int) == 1) (π.guard ((0 : Int) ≤ 0 ∧ 0 < (↑n28 : Int)) <| π.aa a27 fun p51 => π.ld [.str] ((p51.add 0).add 0) fun ((t52 : BA), _) => π.cy 30 #[(.int .i64 5)] (false, [(true, [.int .i64, .int .i64, .str])]) fun (((x53 : Int), (x54 : Int), (t55 : BA), _), _) => π.cy 31 #[(.int .i64 1), (.agg #[(.int .i64 x53), (.int .i64 x54), (.string t55)])] (false, [(false, [.str])]) fun (((t56 : BA), _), _) =>
 π.ite (t52.toList == t56.toList) (π.ite ((↑n31 : Int) == 1) (π.guard ((0 : Int) ≤ 0 ∧ 0 < (↑n31 : Int)) <| π.aa a30 fun p57 => π.ld [.int .i64] ((p57.add 0).add 0) fun ((x58 : Int), _) => π.ite (x58 == 1) (π.ite (x45 == 1) (π.ite (x46 == 210) (π.ret (.bool true)) (π.ret (.bool false))) (π.ret (.bool false))) (π.ret (.bool false))) (π.ret (.bool false))) (π.ret (.bool false))) (π.ret (.bool false))) (π.ret (.bool false))) (π.ret (.bool false))) (π.ret (.bool false))
theorem E4 : OK 16 [] fun _ π => xD π :=
 aW { ptr := [(1, 1, 0), (3, 3, 0), (4, 4, 0), (7, 7, 0), (42, 4, 0), (48, 4, 0), (57, 4, 1), (63, 4, 1), (73, 4, 2), (79, 4, 2)], ty := [(1, 43), (3, 127), (4, 70), (7, 70)] } { draws := [(5, { A := [0, 1, 2, 3, 4, 5, 6, 7, 8, 9, 10, 11, 12, 13, 14, 15, 16, 17, 18, 19, 20, 21, 22, 23, 24, 25, 26, 27, 28, 29, 30, 31, 32, 33, 34, 35, 36, 37, 38, 39, 40, 41, 42, 43, 44, 45, 46, 47, 48, 49, 50, 51, 52, 53, 54, 55, 56, 57, 58, 59, 60, 61, 62, 63], quiet := [29, 30] })],  } [] Tryz.func16 Tryz.ntmps16 rfl (by kernel_rfl) fun _ π => by kernel_rfl
def r8 (sv sl : Int) (sa : OA) (san sac : Nat) (a : OA) (an ac : Nat) (b : OA) (bn bc : Nat) (d : OA) (dn dc : Nat) : W :=
 π.join [(true, [.int .i64, .int .i64, .slice])] (fun J0 => π.call 16 #[] (false, [(false, [.bool])]) fun (((b1 : Bool), _), _) => π.ite (!b1) (π.call 16 #[] (false, [(false, [.bool])]) fun (((b2 : Bool), _), _) => π.ret (.bool b2)) (π.call 17 #[(.agg #[(.int .i64 sv), (.int .i64 sl), (.slice sa san sac)]), (.slice a an ac), (.slice b bn bc)] (false, [(false, [.bool])]) fun (((b3 : Bool), _), _) => π.ite b3 (π.call 16 #[] (false, [(false, [.bool])]) fun (((b4 : Bool), _), _) => π.ret (.bool b4)) (π.call 17 #[(.agg #[(.int .i64 sv), (.int .i64 sl), (.slice sa san sac)]), (.slice a an ac), (.slice d dn dc)] (false, [(false, [.bool])]) fun (((b5 : Bool), _), _) => π.ite b5 (π.call 16 #[] (false, [(false, [.bool])]) fun (((b6 : Bool), _), _) => π.ret (.bool b6)) (J0 ((sv, sl, (sa, san, sac), ()), ()))))) (fun (((x7 : Int), (x8 : Int), ((a9 : OA), (n10 : Nat), (c11 : Nat)), _), _) => π.call 18 #[(.slice b bn bc)] (false, [(false, [.slice])]) fun ((((a12 : OA), (n13 : Nat), (c14 : Nat)), _), _) => π.call 19 #[(.agg #[(.int .i64 x7), (.int .i64 x8), (.slice a9 n10 c11)]), (.slice a an ac), (Value.iface (73 : Nat) (.slice a12 n13 c14))] (true, [(true, [.slice, .slice, .slice]), (false, [.int .i64]), (false, [.int .i64])]) fun ((((a15 : OA), (n16 : Nat), (c17 : Nat)), ((a18 : OA), (n19 : Nat), (c20 : Nat)), ((a21 : OA), (n22 : Nat), (c23 : Nat)), _), ((x24 : Int), _), ((x25 : Int), _), _) => π.ite (x25 != 0) (π.ret (.bool true)) (π.call 18 #[(.slice d dn dc)] (false, [(false, [.slice])]) fun ((((a26 : OA), (n27 : Nat), (c28 : Nat)), _), _) =>
 π.loop [(true, [.int .i64, .int .i64, .slice]), (false, [.slice]), (true, [.slice, .slice, .slice]), (false, [.slice]), (false, [.slice]), (false, [.int .i64]), (false, [.int .i64])] ((x7, x8, (a9, n10, c11), ()), ((a12, n13, c14), ()), ((a15, n16, c17), (a18, n19, c20), (a21, n22, c23), ()), ((none, (0 : Nat), (0 : Nat)), ()), ((a26, n27, c28), ()), ((↑n27 : Int), ()), ((0 : Int), ()), ()) fun (((x30 : Int), (x31 : Int), ((a32 : OA), (n33 : Nat), (c34 : Nat)), _), (((a35 : OA), (n36 : Nat), (c37 : Nat)), _), (((a38 : OA), (n39 : Nat), (c40 : Nat)), ((a41 : OA), (n42 : Nat), (c43 : Nat)), ((a44 : OA), (n45 : Nat), (c46 : Nat)), _), (((a47 : OA), (n48 : Nat), (c49 : Nat)), _), (((a50 : OA), (n51 : Nat), (c52 : Nat)), _), ((x53 : Int), _), ((x54 : Int), _), _) again29 => π.ite (decide (x54 < x53)) (π.guard (0 ≤ x54 ∧ x54 < (↑n51 : Int)) <| π.aa a50 fun p55 => π.ld [.str, .int .i64, .str] (p55.add (x54.toNat * 3)) fun ((t56 : BA), (x57 : Int), (t58 : BA), _) => π.call 20 #[(.slice a38 n39 c40), (.string t56)] (false, [(false, [.bool])]) fun (((b59 : Bool), _), _) => π.ite (!b59) (π.nw (Obj.cells #[(.string t56), (.int .i64 x57), (.string t58)] 75 (0, 0)) fun r60 => π.app 75 3 40 [(.string ⟨#[]⟩), (.int .i64 0), (.string ⟨#[]⟩)] a47 n48 c49 (Src.sl (some (Addr.mk r60 0 none)) 1) fun a61 n62 c63 => again29 ((x30, x31, (a32, n33, c34), ()), ((a35, n36, c37), ()), ((a38, n39, c40), (a41, n42, c43), (a44, n45, c46), ()), ((a61, n62, c63), ()), ((a50, n51, c52), ()), (x53, ()), (i64.wrap (x54 + 1), ()), ())) (again29 ((x30, x31, (a32, n33, c34), ()), ((a35, n36, c37), ()), ((a38, n39, c40), (a41, n42, c43), (a44, n45, c46), ()), ((a47, n48, c49), ()), ((a50, n51, c52), ()), (x53, ()), (i64.wrap (x54 + 1), ()), ()))) (π.loop [(true, [.int .i64, .int .i64, .slice]), (true, [.slice, .slice, .slice]), (false, [.slice]), (false, [.slice]), (false, [.int .i64]), (false, [.int .i64])] ((x30, x31, (a32, n33, c34), ()), ((a38, n39, c40), (a41, n42, c43), (a44, n45, c46), ()), ((a47, n48, c49), ()), ((a35, n36, c37), ()), ((↑n36 : Int), ()), ((0 : Int), ()), ()) fun (((x65 : Int), (x66 : Int), ((a67 : OA), (n68 : Nat), (c69 : Nat)), _), (((a70 : OA), (n71 : Nat), (c72 : Nat)), ((a73 : OA), (n74 : Nat), (c75 : Nat)), ((a76 : OA), (n77 : Nat), (c78 : Nat)), _), (((a79 : OA), (n80 : Nat), (c81 : Nat)), _), (((a82 : OA), (n83 : Nat), (c84 : Nat)), _), ((x85 : Int), _), ((x86 : Int), _), _) again64 =>
 π.ite (decide (x86 < x85)) (π.guard (0 ≤ x86 ∧ x86 < (↑n83 : Int)) <| π.aa a82 fun p87 => π.ld [.str, .int .i64, .str] (p87.add (x86.toNat * 3)) fun ((t88 : BA), (x89 : Int), (t90 : BA), _) => π.call 20 #[(.slice a70 n71 c72), (.string t88)] (false, [(false, [.bool])]) fun (((b91 : Bool), _), _) => π.ite b91 (π.nw (Obj.cells #[(.string t88), (.string t90), (.bool false)] 79 (0, 0)) fun r92 => π.call 21 #[(.slice a79 n80 c81), (.slice (some (Addr.mk r92 0 none)) 1 1), (.int .i64 x89)] (false, [(false, [.slice])]) fun ((((a93 : OA), (n94 : Nat), (c95 : Nat)), _), _) => again64 ((x65, x66, (a67, n68, c69), ()), ((a70, n71, c72), (a73, n74, c75), (a76, n77, c78), ()), ((a93, n94, c95), ()), ((a82, n83, c84), ()), (x85, ()), (i64.wrap (x86 + 1), ()), ())) (again64 ((x65, x66, (a67, n68, c69), ()), ((a70, n71, c72), (a73, n74, c75), (a76, n77, c78), ()), ((a79, n80, c81), ()), ((a82, n83, c84), ()), (x85, ()), (i64.wrap (x86 + 1), ()), ()))) (π.call 19 #[(.agg #[(.int .i64 x65), (.int .i64 x66), (.slice a67 n68 c69)]), (.slice a an ac), (Value.iface (73 : Nat) (.slice a79 n80 c81))] (true, [(true, [.slice, .slice, .slice]), (false, [.int .i64]), (false, [.int .i64])]) fun ((((a96 : OA), (n97 : Nat), (c98 : Nat)), ((a99 : OA), (n100 : Nat), (c101 : Nat)), ((a102 : OA), (n103 : Nat), (c104 : Nat)), _), ((x105 : Int), _), ((x106 : Int), _), _) => π.ite (x106 == 0) (π.call 22 #[(.agg #[(.slice a70 n71 c72), (.slice a73 n74 c75), (.slice a76 n77 c78)]), (.agg #[(.slice a96 n97 c98), (.slice a99 n100 c101), (.slice a102 n103 c104)])] (false, [(false, [.bool])]) fun (((b107 : Bool), _), _) =>
 π.ret (.bool b107)) (π.ret (.bool false))))))
theorem Bp (sv sl : Int) (sa : OA) (san sac : Nat) (a : OA) (an ac : Nat) (b : OA) (bn bc : Nat) (d : OA) (dn dc : Nat) : OK 4 [.v (.agg #[.int .i64 sv, .int .i64 sl, .slice sa san sac]), .v (.slice a an ac), .v (.slice b bn bc), .v (.slice d dn dc)] fun _ π => r8 π sv sl sa san sac a an ac b bn bc d dn dc :=
 aW { ptr := [(4, 4, 0), (10, 10, 0), (15, 15, 0), (17, 17, 0), (18, 18, 0), (56, 10, 0), (58, 15, 0), (73, 10, 0), (75, 17, 0), (79, 17, 0), (81, 17, 2), (85, 17, 1)], ty := [(4, 43), (10, 70), (15, 75), (17, 75), (18, 70)] } { join := [(3, [(4, 43)])], loop := [(9, [(4, 43), (9, 65), (10, 70), (13, 65), (50, 65), (51, 3), (52, 3)]), (15, [(4, 43), (10, 70), (13, 65), (67, 65), (68, 3), (69, 3)])] } [] Tryz.func4 Tryz.ntmps4 rfl (by kernel_rfl) fun _ π => by kernel_rfl
end
section
attribute [-simp] Fw.W.bC Fw.W.bA
theorem uh {s0 s : PH} {a : OA} {n c : Nat} {l : List Int} (h : pL s0 s a n c l) {i : Nat} {x : Int} (hx : l[i]? = some x) {K : Den [.int .i64] → W.T} (hK : K (x, ()) s) : W.aa a (fun p => W.ld [.int .i64] (p.add (i * 1)) K) s := by
 obtain ⟨ad, rfl, hh⟩ := (elems.bE h.row).aA hx;simp only [W.ay];exact az hh (cs := [.int .i64]) (y := (x, ())) rfl hK
theorem Gq {s : PH} {t : aP} {S : aD} {ps : List aC} (h : dP s t S ps) : ah 23 #[eV S t] s fun y s' => y = .bool (right S) ∧ s' = s := by
 refine bu.quiet ?_;obtain ⟨ta, tn, tc⟩ := t;refine Fg S.version S.last ta tn tc _ s ?_;unfold xO;have htn : tn = ps.length := h.el.len
 have hpl : S.tabs.length = ps.length := by rw [h.eq]; simp
 obtain ⟨R, hR⟩ : ∃ b, right S = b := ⟨_, rfl⟩
 rw [hR]
 have ret0 : ∀ {s'}, Fw.Mod [] s s' → ¬ right S = true → (Value.bool false = .bool R ∧ Fw.Mod [] s s') := fun m e => ⟨by rw [← hR, HF e], m⟩
 simp only [cG];refine W.bx (fun z s' => z = ((S.version, S.last, (ta, tn, tc), ()), ()) ∧ s' = s ∧ jC S = true ∧ tn ≤ 6) ?_ ?_;rotate_left
 ·intro J hJ;simp only [aO, W.af, decide_eq_true_eq, decide_eq_false_iff_not, aE, W.oa]
  have hno : ¬ (0 ≤ S.version ∧ S.version ≤ 1125899906842624 ∧ 0 ≤ S.last ∧ S.last ≤ 1125899906842624 ∧ S.tabs.length ≤ 6) → ¬ right S = true := fun e r => e (by
   have := (eI.1 r).1;unfold jC at this;simp only [Bool.and_eq_true, decide_eq_true_eq] at this
   exact ⟨this.1, this.2.1, this.2.2.1, this.2.2.2, (eI.1 r).2.1⟩)
  refine ⟨fun h1 => ret0 (Mod.refl _ _) (hno (by omega)), fun h1 => ⟨fun h2 => ret0 (Mod.refl _ _) (hno (by omega)), fun h2 => ⟨fun h3 => ret0 (Mod.refl _ _) (hno (by omega)), fun h3 => ⟨fun h4 => ret0 (Mod.refl _ _) (hno (by omega)), fun h4 => ⟨fun h5 => ret0 (Mod.refl _ _) (hno (by omega)), fun h5 => hJ _ _ ⟨rfl, rfl, ?_, by omega⟩⟩⟩⟩⟩⟩;unfold jC;simp only [Bool.and_eq_true, decide_eq_true_eq];omega
 rintro _ s1 ⟨rfl, rfl, hhead, h6⟩;simp only [aQ]
 refine ⟨fun z s' => ∃ (k n c : Nat) (ia : OA), z = ((S.version, S.last, (ta, tn, tc), ()), ((ia, n, c), ()), ((k : Int), ()), ()) ∧ k ≤ tn ∧ pL s1 s' ia n c ((S.tabs.take k).flatMap cF) ∧ ((S.tabs.take k).flatMap cF).length ≤ 25 * k ∧
  upTo (bX (fun i T => dH S.tabs i T && ey S T) S.tabs) k = true, fun z _ => tn - z.2.2.1.1.toNat, ⟨0, 0, 0, none, rfl, Nat.zero_le _, pL.nil _, by simp, rfl⟩, ?_⟩
 rintro _ s2 ⟨k, n, c, ia, rfl, hk, hids, hlen, hup⟩;have hS2 := h.mono hids.md.le;simp only [aO, W.af, decide_eq_true_eq, decide_eq_false_iff_not];refine ⟨fun hlt => ?_, fun hge => ?_⟩
 ·have hlt : k < tn := by omega
  obtain ⟨p, hp⟩ : ∃ p, ps[k]? = some p := ⟨_, List.getElem?_eq_getElem (by omega)⟩
  have hT : S.tabs[k]? = some p.T := by rw [h.eq, List.getElem?_map, hp]; (first | done | rfl)
  obtain ⟨ad, had, hh⟩ := hS2.el.el.aA hp;dsimp only at had;subst had;have hP0 := h.all p (get_mem hp);obtain ⟨T, ⟨ca, can, cac⟩, ⟨xa, xan, xac⟩, ⟨ka, kan, kac⟩⟩ := p;dsimp only at hP0 hT;have hcan : can = T.cols.length := hP0.c.len;have hxan : xan = T.idxs.length := hP0.x.len;have hkan : kan = T.keys.length := hP0.k.len;have hnoT : ¬ ey S T = true → ¬ right S = true := fun e r => e (by have := cx.1 (eI.1 r).2.2.2.1 k T hT; exact this);simp only [aR, W.aZ, aM, W.ay, bH, Int.toNat_natCast];refine ⟨by omega, ?_⟩;refine az hh (y := (T.id, T.name, (ca, can, cac), (xa, xan, xac), (ka, kan, kac), ())) rfl ?_;refine W.bx (fun z s' => z = ((S.version, S.last, (some ad, tn, tc), ()), ((ia, n, c), ()), ((k : Int), ()), (T.id, T.name, (ca, can, cac), (xa, xan, xac), (ka, kan, kac), ()), ()) ∧ s' = s2 ∧ dH S.tabs k T = true ∧ 1 ≤ can ∧ can ≤ 8 ∧ xan ≤ 8 ∧ kan ≤ 8) ?_ ?_;rotate_left
  ·intro J hJ;simp only [aT];refine aH ((named T.name, ()), ()) (kM T.name s2) rfl ?_;have hnoN : ¬ dH S.tabs k T = true → ¬ right S = true := fun e r => e (cx.1 (eI.1 r).2.2.1 k T hT);have hnoL : ¬ (1 ≤ T.cols.length ∧ T.cols.length ≤ 8 ∧ T.idxs.length ≤ 8 ∧ T.keys.length ≤ 8) → ¬ right S = true := fun e => hnoT fun r => e (by obtain ⟨a, b, c, d, _⟩ := gD.1 r; exact ⟨a, b, c, d⟩);simp only [W.af];refine ⟨fun hb => ret0 hids.md (hnoN fun r => ?_), fun hb => ?_⟩
   ·unfold dH at r; simp only [Bool.and_eq_true] at r; rw [r.1] at hb; cases hb
   have hb : named T.name = true := by simpa using hb
   refine aH ((fy S T.name, ()), ()) (oO (t := (some ad, tn, tc)) hS2 T.name) rfl ?_;simp only [W.af];refine ⟨fun h1 => ret0 hids.md (hnoN fun r => ?_), fun h1 => ?_⟩
   ·unfold dH at r; simp only [Bool.and_eq_true, decide_eq_true_eq] at r;unfold fy at h1; rw [r.2] at h1; simp at h1
   have h1 : fy S T.name = (k : Int) := by simpa using h1
   simp only [decide_eq_true_eq, decide_eq_false_iff_not];refine ⟨fun h2 => ret0 hids.md (hnoL (by omega)), fun h2 => ⟨fun h3 => ret0 hids.md (hnoL (by omega)), fun h3 => ⟨fun h4 => ret0 hids.md (hnoL (by omega)), fun h4 => ⟨fun h5 => ret0 hids.md (hnoL (by omega)), fun h5 => hJ _ _ ⟨rfl, rfl, ?_, by omega, by omega, by omega, by omega⟩⟩⟩⟩⟩;unfold dH; rw [hb]; unfold fy at h1; rw [h1]; simp
  rintro _ s3 ⟨rfl, rfl, hnameT, hc1, hc8, hx8, hk8⟩
  try simp only [cj, dg]
  refine hids.push (by omega) ?_;intro ia c s4 hids
  obtain ⟨B, hB⟩ : ∃ B, (S.tabs.take k).flatMap cF ++ [T.id] = B := ⟨_, rfl⟩
  have hBl : B.length ≤ 25 * k + 1 := by rw [← hB, List.length_append, List.length_singleton]; omega
  rw [hB] at hids
  generalize n + 1 = n at hids ⊢
  try simp only [aQ]
  refine ⟨fun z s' => ∃ (j n c : Nat) (ia : OA), z = ((S.version, S.last, (some ad, tn, tc), ()), ((ia, n, c), ()), ((k : Int), ()), (T.id, T.name, (ca, can, cac), (xa, xan, xac), (ka, kan, kac), ()), ((j : Int), ()), ()) ∧ j ≤ can ∧ pL s1 s' ia n c (B ++ (T.cols.take j).map (·.id)) ∧
   upTo (bX (fun i x => eD T.cols i x && fU i x) T.cols) j = true ∧ (0 < j → fh T = true), fun z _ => can - z.2.2.2.2.1.1.toNat, ⟨0, _, _, _, rfl, Nat.zero_le _, by simpa using hids, rfl, by omega⟩, ?_⟩
  rintro _ s5 ⟨j, n, c, ia, rfl, hj, hids, hupC, hf3⟩;simp only [aO, W.af, decide_eq_true_eq, decide_eq_false_iff_not];refine ⟨fun hlt2 => ?_, fun hge => ?_⟩
  ·have hlt2 : j < can := by omega
   obtain ⟨x, hx⟩ : ∃ x, T.cols[j]? = some x := ⟨_, List.getElem?_eq_getElem (by omega)⟩
   have hCs := hP0.c.mono hids.md.le;obtain ⟨ad2, had2, hh2⟩ := hCs.el.aA hx;dsimp only at had2;subst had2;have hw := ai (k := j) (by omega)
   have hno : ¬ (named x.name = true ∧ fK T x.name = j ∧ 1 ≤ x.state ∧ x.state ≤ 3 ∧ typed x.kind = true ∧ fits x.dflt x.kind = true) → ¬ right S = true := fun e => hnoT (Km hx fun ⟨a, b⟩ => e (by
    unfold eD at a; unfold fU dM at b;simp only [Bool.and_eq_true, decide_eq_true_eq] at a b
    exact ⟨a.1, a.2, b.1.1, b.1.2, b.2.1, b.2.2⟩))
   simp only [aR, W.aZ, aM, W.ay, bH, Int.toNat_natCast];refine ⟨by omega, ?_⟩;refine az hh2 (y := (x.id, x.name, x.kind, x.state, x.dflt.kind, x.dflt.n, x.dflt.s, ())) rfl ?_;refine aH ((named x.name, ()), ()) (kM x.name s5) rfl ?_;simp only [W.af];refine ⟨fun hb => ret0 hids.md (hno fun q => by rw [q.1] at hb; cases hb), fun hb => ?_⟩
   have hb : named x.name = true := by simpa using hb
   refine aH ((fK T x.name, ()), ()) (rP (p := ⟨T, (some ad2, can, cac), (xa, xan, xac), (ka, kan, kac)⟩) hCs x.name) rfl ?_;simp only [W.af];refine ⟨fun h1 => ret0 hids.md (hno fun q => by rw [q.2.1] at h1; simp at h1), fun h1 => ?_⟩
   have h1 : fK T x.name = (j : Int) := by simpa using h1
   simp only [decide_eq_true_eq, decide_eq_false_iff_not];refine ⟨fun h2 => ret0 hids.md (hno (by omega)), fun h2 => ⟨fun h3 => ret0 hids.md (hno (by omega)), fun h3 => ?_⟩⟩
   have hpush : ∀ (K : OA → Nat → Nat → W.T), (∀ a' c' s', pL s1 s' a' (n + 1) c' (B ++ (T.cols.take (j + 1)).map (·.id)) → K a' (n + 1) c' s') → W.nw (.cells #[.int .i64 x.id] 3 (0, 0)) (fun r => W.app 3 1 8 [.int .i64 0] ia n c (Src.sl (some ⟨r, 0, none⟩) 1) K) s5 := by
    intro K hK;refine hids.push (by simp; omega) fun a' c' s' h' => hK a' c' s' ?_;rw [jJ (·.id) hx]; simpa using h'
   have hyes : typed x.kind = true → fits x.dflt x.kind = true → upTo (bX (fun i x => eD T.cols i x && fU i x) T.cols) (j + 1) = true := fun a b => rK hupC hx (by
    unfold eD fU dM; unfold fK at h1; rw [hb, h1, a, b, decide_eq_true (p := 1 ≤ x.state) (by omega), decide_eq_true (p := x.state ≤ 3) (by omega)]; simp)
   have hfirst : j = 0 → fh T = decide (x.state = 3) := by
    rintro rfl;unfold fh
    cases hcs : T.cols with
    | nil => rw [hcs] at hx; cases hx
    | cons a b => rw [hcs] at hx; cases hx; (first | done | rfl)
   have hno3 : fh T = false → ¬ right S = true := fun e => hnoT fun r => by obtain ⟨_, _, _, _, _, _, _, q, _⟩ := gD.1 r; rw [e] at q; cases q
   try simp only [aO, W.af]
   refine ⟨fun h0 => ⟨fun h4 => ret0 hids.md (hno3 ?_), fun h4 => ?_⟩, fun h0 => ?_⟩
   ·rw [hfirst (by have : (j : Int) = 0 := by simpa using h0
                   omega)]
    simpa using h4
   ·have hq : fh T = true := by
     rw [hfirst (by have : (j : Int) = 0 := by simpa using h0
                    omega)]
     simpa using h4
    refine aH ((typed x.kind, ()), ()) (sI x.kind s5) rfl ?_;simp only [W.af];refine ⟨fun hb => ret0 hids.md (hno fun q => by rw [q.2.2.2.2.1] at hb; cases hb), fun hb => ?_⟩;refine aH ((fits x.dflt x.kind, ()), ()) (BO x.dflt x.kind s5) rfl ?_;simp only [W.af];refine ⟨fun hb => ret0 hids.md (hno fun q => by rw [q.2.2.2.2.2] at hb; cases hb), fun hb2 => ?_⟩;refine hpush _ fun a' c' s' h' => ?_;rw [hw];refine ⟨⟨j + 1, n + 1, c', a', rfl, hlt2, h', hyes (by simpa using hb) (by simpa using hb2), fun _ => hq⟩, ?_⟩;simp only [Int.toNat_natCast]; omega
   ·have hq : fh T = true := hf3 (by have : (j : Int) ≠ 0 := by simpa using h0
                                     omega)
    refine aH ((typed x.kind, ()), ()) (sI x.kind s5) rfl ?_;simp only [W.af];refine ⟨fun hb => ret0 hids.md (hno fun q => by rw [q.2.2.2.2.1] at hb; cases hb), fun hb => ?_⟩;refine aH ((fits x.dflt x.kind, ()), ()) (BO x.dflt x.kind s5) rfl ?_;simp only [W.af];refine ⟨fun hb => ret0 hids.md (hno fun q => by rw [q.2.2.2.2.2] at hb; cases hb), fun hb2 => ?_⟩;refine hpush _ fun a' c' s' h' => ?_;rw [hw];refine ⟨⟨j + 1, n + 1, c', a', rfl, hlt2, h', hyes (by simpa using hb) (by simpa using hb2), fun _ => hq⟩, ?_⟩;simp only [Int.toNat_natCast]; omega
  ·have hall : T.cols.take j = T.cols := List.take_of_length_le (by omega)
   have hupA : allI (fun i x => eD T.cols i x && fU i x) T.cols = true := by unfold allI; rw [show T.cols.length = j by omega]; exact hupC
   have hq : fh T = true := hf3 (by omega);rw [hall] at hids
   obtain ⟨B2, hB2⟩ : ∃ B2, B ++ T.cols.map (·.id) = B2 := ⟨_, rfl⟩
   have hB2l : B2.length ≤ 25 * k + 9 := by rw [← hB2, List.length_append, List.length_map]; omega
   rw [hB2] at hids
   refine ⟨fun z s' => ∃ (j n c : Nat) (ia : OA), z = ((S.version, S.last, (some ad, tn, tc), ()), ((ia, n, c), ()), ((k : Int), ()), (T.id, T.name, (ca, can, cac), (xa, xan, xac), (ka, kan, kac), ()), ((j : Int), ()), ()) ∧ j ≤ xan ∧ pL s1 s' ia n c (B2 ++ (T.idxs.take j).map (·.id)) ∧
    upTo (bX (fun i x => eN T.idxs i x && iK T i x) T.idxs) j = true, fun z _ => xan - z.2.2.2.2.1.1.toNat, ⟨0, _, _, _, rfl, Nat.zero_le _, by simpa using hids, rfl⟩, ?_⟩
   rintro _ s6 ⟨j, n, c, ia, rfl, hj, hids, hupX⟩;simp only [aO, W.af, decide_eq_true_eq, decide_eq_false_iff_not];refine ⟨fun hlt2 => ?_, fun hge => ?_⟩
   ·have hlt2 : j < xan := by omega
    obtain ⟨x, hx⟩ : ∃ x, T.idxs[j]? = some x := ⟨_, List.getElem?_eq_getElem (by omega)⟩
    have hXs := hP0.x.mono hids.md.le;have hCs := hP0.c.mono hids.md.le;obtain ⟨ad2, had2, hh2⟩ := hXs.el.aA hx;dsimp only at had2;subst had2;have hw := ai (k := j) (by omega)
    have hno : ¬ (named x.name = true ∧ j5 T x.name = j ∧ 1 ≤ x.state ∧ x.state ≤ 3 ∧ 0 ≤ cM T x.column) → ¬ right S = true := fun e => hnoT (Kn hx fun ⟨a, b⟩ => e (by
     unfold eN at a; unfold iK dM at b;simp only [Bool.and_eq_true, decide_eq_true_eq] at a b
     exact ⟨a.1, a.2, b.1.1, b.1.2, b.2⟩))
    simp only [aR, W.aZ, aM, W.ay, bH, Int.toNat_natCast];refine ⟨by omega, ?_⟩;refine az hh2 (y := (x.id, x.name, x.column, x.unique, x.state, ())) rfl ?_;refine aH ((named x.name, ()), ()) (kM x.name s6) rfl ?_;simp only [W.af];refine ⟨fun hb => ret0 hids.md (hno fun q => by rw [q.1] at hb; cases hb), fun hb => ?_⟩
    have hb : named x.name = true := by simpa using hb
    refine aH ((j5 T x.name, ()), ()) (CN (p := ⟨T, (ca, can, cac), (some ad2, xan, xac), (ka, kan, kac)⟩) hXs x.name) rfl ?_;simp only [W.af];refine ⟨fun h1 => ret0 hids.md (hno fun q => by rw [q.2.1] at h1; simp at h1), fun h1 => ?_⟩
    have h1 : j5 T x.name = (j : Int) := by simpa using h1
    simp only [decide_eq_true_eq, decide_eq_false_iff_not];refine ⟨fun h2 => ret0 hids.md (hno (by omega)), fun h2 => ⟨fun h3 => ret0 hids.md (hno (by omega)), fun h3 => ?_⟩⟩;refine aH ((cM T x.column, ()), ()) (rQ (p := ⟨T, (ca, can, cac), (some ad2, xan, xac), (ka, kan, kac)⟩) hCs x.column) rfl ?_;simp only [W.af, decide_eq_true_eq, decide_eq_false_iff_not];refine ⟨fun h4 => ret0 hids.md (hno (by omega)), fun h4 => ?_⟩;refine hids.push (by rw [List.length_append, List.length_map, List.length_take]; omega) fun a' c' s' h' => ?_;rw [hw];refine ⟨⟨j + 1, n + 1, c', a', rfl, hlt2, by rw [jJ (·.id) hx]; simpa using h', rK hupX hx ?_⟩, ?_⟩
    ·unfold eN iK dM; unfold j5 at h1; rw [hb, h1, decide_eq_true (p := 1 ≤ x.state) (by omega), decide_eq_true (p := x.state ≤ 3) (by omega), decide_eq_true (p := 0 ≤ cM T x.column) (by omega)]; simp
    ·simp only [Int.toNat_natCast]; omega
   ·have hall : T.idxs.take j = T.idxs := List.take_of_length_le (by omega)
    have hupB : allI (fun i x => eN T.idxs i x && iK T i x) T.idxs = true := by unfold allI; rw [show T.idxs.length = j by omega]; exact hupX
    rw [hall] at hids
    obtain ⟨B3, hB3⟩ : ∃ B3, B2 ++ T.idxs.map (·.id) = B3 := ⟨_, rfl⟩
    have hB3l : B3.length ≤ 25 * k + 17 := by rw [← hB3, List.length_append, List.length_map]; omega
    rw [hB3] at hids
    refine ⟨fun z s' => ∃ (j n c : Nat) (ia : OA), z = ((S.version, S.last, (some ad, tn, tc), ()), ((ia, n, c), ()), ((k : Int), ()), (T.id, T.name, (ca, can, cac), (xa, xan, xac), (ka, kan, kac), ()), ((j : Int), ()), ()) ∧ j ≤ kan ∧ pL s1 s' ia n c (B3 ++ (T.keys.take j).map (·.id)) ∧
     upTo (bX (fun i x => eM T.keys i x && ie S T i x) T.keys) j = true, fun z _ => kan - z.2.2.2.2.1.1.toNat, ⟨0, _, _, _, rfl, Nat.zero_le _, by simpa using hids, rfl⟩, ?_⟩
    rintro _ s7 ⟨j, n, c, ia, rfl, hj, hids, hupF⟩;have hSn := h.mono hids.md.le;have hXs := hP0.x.mono hids.md.le;have hCs := hP0.c.mono hids.md.le;have hKs := hP0.k.mono hids.md.le;simp only [aO, W.af, decide_eq_true_eq, decide_eq_false_iff_not];refine ⟨fun hlt2 => ?_, fun hge => ?_⟩
    ·have hlt2 : j < kan := by omega
     obtain ⟨x, hx⟩ : ∃ x, T.keys[j]? = some x := ⟨_, List.getElem?_eq_getElem (by omega)⟩
     obtain ⟨ad2, had2, hh2⟩ := hKs.el.aA hx;dsimp only at had2;subst had2;have hw := ai (k := j) (by omega)
     have hno : ¬ (named x.name = true ∧ jG T x.name = j ∧ 1 ≤ x.state ∧ x.state ≤ 3 ∧ 0 ≤ cM T x.column ∧ 0 ≤ dA S x.parent ∧ o8 S T x = true) → ¬ right S = true := fun e => hnoT (Ko hx fun ⟨a, b⟩ => e (by
      unfold eM at a; unfold ie dM at b;simp only [Bool.and_eq_true, decide_eq_true_eq] at a b
      exact ⟨a.1, a.2, b.1.1, b.1.2, b.2.1, b.2.2.1, b.2.2.2⟩))
     simp only [aR, W.aZ, aM, W.ay, bH, Int.toNat_natCast];refine ⟨by omega, ?_⟩;refine az hh2 (y := (x.id, x.name, x.column, x.parent, x.state, ())) rfl ?_;refine aH ((dA S x.parent, ()), ()) (CO (t := (some ad, tn, tc)) hSn x.parent) rfl ?_;refine aH ((cM T x.column, ()), ()) (rQ (p := ⟨T, (ca, can, cac), (xa, xan, xac), (some ad2, kan, kac)⟩) hCs x.column) rfl ?_
     refine W.bx (fun z s' => z = ((S.version, S.last, (some ad, tn, tc), ()), ((ia, n, c), ()), ((k : Int), ()), (T.id, T.name, (ca, can, cac), (xa, xan, xac), (some ad2, kan, kac), ()), ((j : Int), ()), (x.id, x.name, x.column, x.parent, x.state, ()), (dA S x.parent, ()), (cM T x.column, ()), ()) ∧ s' = s7 ∧
      named x.name = true ∧ jG T x.name = j ∧ 1 ≤ x.state ∧ x.state ≤ 3 ∧ 0 ≤ cM T x.column ∧ 0 ≤ dA S x.parent) ?_ ?_
     rotate_left
     ·intro J hJ;refine aH ((named x.name, ()), ()) (kM x.name s7) rfl ?_;simp only [W.af];refine ⟨fun hb => ret0 hids.md (hno fun q => by rw [q.1] at hb; cases hb), fun hb => ?_⟩
      have hb : named x.name = true := by simpa using hb
      refine aH ((jG T x.name, ()), ()) (Gp (p := ⟨T, (ca, can, cac), (xa, xan, xac), (some ad2, kan, kac)⟩) hKs x.name) rfl ?_;simp only [W.af];refine ⟨fun h1 => ret0 hids.md (hno fun q => by rw [q.2.1] at h1; simp at h1), fun h1 => ?_⟩
      have h1 : jG T x.name = (j : Int) := by simpa using h1
      simp only [decide_eq_true_eq, decide_eq_false_iff_not];refine ⟨fun h2 => ret0 hids.md (hno (by omega)), fun h2 => ⟨fun h3 => ret0 hids.md (hno (by omega)), fun h3 => ⟨fun h4 => ret0 hids.md (hno (by omega)), fun h4 => ⟨fun h5 => ret0 hids.md (hno (by omega)), fun h5 => hJ _ _ ⟨rfl, rfl, hb, h1, by omega, by omega, by omega, by omega⟩⟩⟩⟩⟩
     rintro _ s8 ⟨rfl, rfl, hb, h1, hs1, hs3, hcol, htab⟩
     obtain ⟨jp, P, hjp, hPj, _, _⟩ : ∃ (jp : Nat) (P : aG), dA S x.parent = (jp : Int) ∧ S.tabs[jp]? = some P ∧ True ∧ True := by
      rcases iX (p := fun T : aG => decide (T.id = x.parent)) S.tabs 0 with ⟨e, _⟩ | ⟨j, P, e, e2, _⟩
      ·exact absurd e (by unfold dA at htab; omega)
      ·exact ⟨j, P, by unfold dA; rw [e]; simp, e2, trivial, trivial⟩
     obtain ⟨j2, C, hj2, hCj, _, _⟩ : ∃ (j : Nat) (C : cw), cM T x.column = (j : Int) ∧ T.cols[j]? = some C ∧ True ∧ True := by
      rcases iX (p := fun c : cw => decide (c.id = x.column)) T.cols 0 with ⟨e, _⟩ | ⟨j, P, e, e2, _⟩
      ·exact absurd e (by unfold cM at hcol; omega)
      ·exact ⟨j, P, by unfold cM; rw [e]; simp, e2, trivial, trivial⟩
     have hpar : o8 S T x = (match P.cols with | c0 :: _ => decide (C.kind = c0.kind) | [] => false) := by unfold o8; rw [hjp, hj2]; simp only [Int.toNat_natCast, hPj, hCj] <;> rfl
     obtain ⟨pp, hpp, hppT⟩ : ∃ pp, ps[jp]? = some pp ∧ pp.T = P := by
      rw [h.eq, List.getElem?_map] at hPj
      cases hq : ps[jp]? with
      | none => rw [hq] at hPj; cases hPj
      | some pp => rw [hq] at hPj; exact ⟨pp, rfl, Option.some.inj hPj⟩
     have hjl := (List.getElem?_eq_some_iff.1 hpp).1;have hj2l := (List.getElem?_eq_some_iff.1 hCj).1;obtain ⟨ad3, had3, hh3⟩ := hSn.el.el.aA hpp;dsimp only at had3;cases had3;have hPP := hSn.all pp (get_mem hpp);obtain ⟨PT, ⟨pca, pcn, pcc⟩, ⟨pxa, pxn, pxc⟩, ⟨pka, pkn, pkc⟩⟩ := pp;dsimp only at hppT;subst hppT;have hpcn : pcn = PT.cols.length := hPP.c.len;rw [hjp, hj2];simp only [Int.toNat_natCast];refine ⟨by omega, ?_⟩;simp only [W.ay];refine bq (j := 2) hh3 (cs := [.slice]) (y := ((pca, pcn, pcc), ())) rfl ?_;simp only [W.af];refine ⟨fun h3 => ret0 hids.md (hno fun q => ?_), fun h3 => ?_⟩
     ·have h3 : pcn = 0 := by simpa using h3
      have : PT.cols = [] := List.length_eq_zero_iff.1 (by omega);have q := q.2.2.2.2.2.2;rw [hpar, this] at q; cases q
     have h3 : pcn ≠ 0 := by simpa using h3
     obtain ⟨c1, cs1, hcs1⟩ : ∃ c0 cs, PT.cols = c0 :: cs := by
      cases hc : PT.cols with
      | nil => rw [hc] at hpcn; simp at hpcn; omega
      | cons a b => exact ⟨a, b, rfl⟩
     obtain ⟨ad4, had4, hh4⟩ := hCs.el.aA hCj;dsimp only at had4;cases had4;obtain ⟨ad5, had5, hh5⟩ := hPP.c.el.aA (i := 0) (x := c1) (by rw [hcs1]; (first | done | rfl));dsimp only at had5;subst had5;rw [Nat.zero_mul, add_zero] at hh5;refine ⟨by omega, ?_⟩;simp only [W.ay];refine bq (j := 2) hh3 (cs := [.slice]) (y := ((some ad5, pcn, pcc), ())) rfl ?_;refine ⟨by dsimp only; omega, ?_⟩;simp only [W.ay];refine bq (j := 2) (A := Addr.add ad5 0) (by rw [add_zero]; exact hh5) (cs := [.int .i64]) (y := (c1.kind, ())) rfl ?_;refine ⟨by omega, ?_⟩;simp only [W.ay];refine bq (j := 2) hh4 (cs := [.int .i64]) (y := (C.kind, ())) rfl ?_;simp only [W.af];refine ⟨fun h6 => ret0 hids.md (hno fun q => ?_), fun h6 => ?_⟩
     ·have q := q.2.2.2.2.2.2;rw [hpar, hcs1] at q
      have q : C.kind = c1.kind := by simpa using q
      rw [q] at h6; simp at h6
     refine hids.push (by rw [List.length_append, List.length_map, List.length_take]; omega) fun a' c' s' h' => ?_;rw [hw];refine ⟨⟨j + 1, n + 1, c', a', rfl, hlt2, by rw [jJ (·.id) hx]; simpa using h', rK hupF hx ?_⟩, ?_⟩
     ·have e6 : c1.kind = C.kind := by simpa using h6
      unfold eM ie dM; unfold jG at h1; rw [hb, h1, decide_eq_true (p := 1 ≤ x.state) (by omega), decide_eq_true (p := x.state ≤ 3) (by omega), decide_eq_true (p := 0 ≤ cM T x.column) (by omega), decide_eq_true (p := 0 ≤ dA S x.parent) (by omega), hpar, hcs1]; simp [e6]
     ·simp only [Int.toNat_natCast]; omega
    ·have hall : T.keys.take j = T.keys := List.take_of_length_le (by omega)
     have hupD : allI (fun i x => eM T.keys i x && ie S T i x) T.keys = true := by unfold allI; rw [show T.keys.length = j by omega]; exact hupF
     rw [hall] at hids;have htabB : ey S T = true := gD.2 ⟨by omega, by omega, by omega, by omega, (iT hupA).1, (iT hupB).1, (iT hupD).1, hq, (iT hupA).2, (iT hupB).2, (iT hupD).2⟩
     have hnext : (S.tabs.take (k + 1)).flatMap cF = B3 ++ T.keys.map (·.id) := by
      rw [List.take_add_one, hT, List.flatMap_append, ← hB3, ← hB2, ← hB];simp [cF]
     rw [ai (k := k) (by omega)];refine ⟨⟨k + 1, _, _, _, rfl, hlt, by rw [hnext]; exact hids, ?_, rK hup hT (by rw [hnameT, htabB]; (first | done | rfl))⟩, ?_⟩
     ·rw [hnext, List.length_append, List.length_map]; omega
     ·simp only [Int.toNat_natCast]; omega
 ·have hall : S.tabs.take k = S.tabs := List.take_of_length_le (by omega)
  have hupA : allI (fun i T => dH S.tabs i T && ey S T) S.tabs = true := by unfold allI; rw [show S.tabs.length = k by omega]; exact hup
  rw [hall] at hids hlen
  have hrun : right S = true ↔ aX S.last (S.tabs.flatMap cF) [] = true :=
   ⟨fun r => (eI.1 r).2.2.2.2, fun r => eI.2 ⟨hhead, by omega, (iT hupA).1, (iT hupA).2, r⟩⟩
  generalize S.tabs.flatMap cF = l at hids hrun hlen
  have hnl : n = l.length := hids.row.len;refine ⟨fun z s' => ∃ i : Nat, z = ((S.version, S.last, (ta, tn, tc), ()), ((ia, n, c), ()), ((i : Int), ()), ()) ∧ i ≤ n ∧ s' = s2 ∧ aX S.last (l.take i) [] = true, fun z _ => n - z.2.2.1.1.toNat, ⟨0, rfl, Nat.zero_le _, rfl, rfl⟩, ?_⟩;rintro _ s3 ⟨i, rfl, hi, rfl, hr⟩;simp only [aO, W.af, decide_eq_true_eq, decide_eq_false_iff_not];refine ⟨fun hlt => ?_, fun hge => ?_⟩
  ·have hlt : i < n := by omega
   obtain ⟨x, hx⟩ : ∃ x, l[i]? = some x := ⟨_, List.getElem?_eq_getElem (by omega)⟩
   have hstep : aX S.last (l.take (i + 1)) [] = ((decide (1 ≤ x) && decide (x ≤ S.last)) && !decide (x ∈ (l.take i).reverse ++ [])) := by
    have := jJ (fun y : Int => y) hx;simp only [List.map_id'] at this;rw [this, lu, hr, Bool.true_and]
   have hno : ¬ (1 ≤ x ∧ x ≤ S.last ∧ x ∉ l.take i) → ¬ right S = true := fun e r => e (by
    have := DN (k := i + 1) (hrun.1 r);rw [hstep] at this;simp only [Bool.and_eq_true, decide_eq_true_eq] at this;refine ⟨this.1.1, this.1.2, ?_⟩
    simpa using this.2)
   refine W.bx (fun z s' => z = ((S.version, S.last, (ta, tn, tc), ()), ((ia, n, c), ()), ((i : Int), ()), ()) ∧ s' = s3 ∧ 1 ≤ x ∧ x ≤ S.last) ?_ ?_;rotate_left
   ·intro J hJ;simp only [Int.toNat_natCast];refine ⟨by omega, ?_⟩;refine uh hids hx ?_;simp only [W.af, decide_eq_true_eq, decide_eq_false_iff_not];refine ⟨fun h1 => ret0 hids.md (hno (by omega)), fun h1 => ⟨by omega, ?_⟩⟩;refine uh hids hx ?_;simp only [W.af, decide_eq_true_eq, decide_eq_false_iff_not];exact ⟨fun h1 => ret0 hids.md (hno (by omega)), fun h2 => hJ _ _ ⟨rfl, rfl, by omega, by omega⟩⟩
   rintro _ s4 ⟨rfl, rfl, hx1, hx2⟩;refine ⟨fun z s' => ∃ m : Nat, z = ((S.version, S.last, (ta, tn, tc), ()), ((ia, n, c), ()), ((i : Int), ()), ((m : Int), ()), ()) ∧ m ≤ i ∧ s' = s4 ∧ x ∉ l.take m, fun z _ => i - z.2.2.2.1.1.toNat, ⟨0, rfl, Nat.zero_le _, rfl, by simp⟩, ?_⟩;rintro _ s5 ⟨m, rfl, hm, rfl, hnot⟩;simp only [aO, W.af, decide_eq_true_eq, decide_eq_false_iff_not];refine ⟨fun hlt2 => ?_, fun hge => ?_⟩
   ·have hlt2 : m < i := by omega
    obtain ⟨y, hy⟩ : ∃ y, l[m]? = some y := ⟨_, List.getElem?_eq_getElem (by omega)⟩
    simp only [Int.toNat_natCast];refine ⟨by omega, ?_⟩;refine uh hids hy ?_;refine ⟨by omega, ?_⟩;refine uh hids hx ?_;simp only [W.af];refine ⟨fun h1 => ret0 hids.md (hno fun q => q.2.2 ?_), fun h1 => ?_⟩
    ·have h1 : y = x := by simpa using h1
     subst h1;exact List.mem_iff_getElem?.2 ⟨m, by rw [List.getElem?_take_of_lt hlt2]; exact hy⟩
    ·have h1 : y ≠ x := by simpa using h1
     rw [ai (k := m) (by omega)];refine ⟨⟨m + 1, rfl, hlt2, trivial, ?_⟩, ?_⟩
     ·rw [List.take_add_one, hy];simp only [Option.toList_some, List.mem_append, List.mem_singleton, not_or];exact ⟨hnot, fun e => h1 e.symm⟩
     ·simp only [Int.toNat_natCast]; omega
   ·have hmi : m = i := by omega
    subst hmi;rw [ai (k := m) (by omega)];refine ⟨⟨m + 1, rfl, hlt, trivial, ?_⟩, ?_⟩
    ·rw [hstep, decide_eq_true (p := 1 ≤ x) hx1, decide_eq_true (p := x ≤ S.last) hx2];simp [hnot]
    ·simp only [Int.toNat_natCast]; omega
  ·have hall : l.take i = l := List.take_of_length_le (by omega);rw [hall] at hr;refine ⟨?_, hids.md⟩;rw [← hR, hrun.2 hr]
end
section
attribute [-simp] Fw.W.bC Fw.W.bA
def yG (T : aG) (name : BA) : Int := if 0 ≤ fK T name then (match T.cols[(fK T name).toNat]? with | some c => if c.state = 3 then fK T name else -1 | none => -1) else -1
def zq (cols : List cw) : Bool := !(upTo (bX (fun i (c : cw) => decide (aJ (fun y : cw => decide (y.name = c.name)) cols 0 = i)) cols) cols.length)
def eR : Int → List cw → List cw
 | _, [] => []
 | n, c :: cs => ⟨n, c.name, c.kind, 3, ⟨0, 0, ⟨#[]⟩⟩⟩ :: eR (n + 1) cs
theorem l6 : ∀ (l : List cw) (n : Int), (eR n l).length = l.length
 | [], n => rfl
 | c :: l, n => by simp [eR, l6 l]
theorem rT : ∀ (l : List cw) (n : Int) (c : cw), eR n (l ++ [c]) = eR n l ++ [⟨n + l.length, c.name, c.kind, 3, ⟨0, 0, ⟨#[]⟩⟩⟩]
 | [], n, c => by simp [eR]
 | d :: l, n, c => by simp [eR, rT l]; omega
abbrev gT := Except Int aD
def cA (S : aD) (D : nI) (st : Int) : gT :=
 if (named D.table && D.cols.all fun c => named c.name) = false then .error 100
 else if (decide (0 ≤ fy S D.table) || zq D.cols) = true then .error 152
 else if (decide (6 ≤ S.tabs.length) || (decide (D.cols.length < 1) || decide (8 < D.cols.length))) = true then .error 156
 else if (D.cols.all fun c => typed c.kind) = false then .error 154
 else if st ≠ 3 then .error 1
 else .ok ⟨S.version, S.last + 1 + D.cols.length, S.tabs ++ [⟨S.last + 1, D.table, eR (S.last + 2) D.cols, [], []⟩]⟩
def lI {α : Type} (l : List α) (k : Nat) (st : Int) (x' : α) : List α := if st = 0 then l.eraseIdx k else l.set k x'
def used (T : aG) (k : Int) (x : cw) : Bool := decide (k = 0) || (T.idxs.any (fun y => decide (y.column = x.id)) || T.keys.any (fun y => decide (y.column = x.id)))
def cw.put (c : cw) (st : Int) : cw := { c with state := st }
def ez.put (c : ez) (st : Int) : ez := { c with state := st }
def For.put (c : For) (st : Int) : For := { c with state := st }
def q7 (S : aD) (i : Nat) (T : aG) (D : nI) (st : Int) : gT :=
 if D.kind = 4 ∧ fK T D.column < 0 then
  if lE D.column T.cols.length ≠ 0 then .error (lE D.column T.cols.length)
  else if (typed D.type && fits D.dflt D.type) = false then .error 154
  else if st = 0 then .error 1
  else .ok ⟨S.version, S.last + 1, S.tabs.set i { T with cols := T.cols ++ [⟨S.last + 1, D.column, D.type, st, D.dflt⟩] }⟩
 else if fK T D.column < 0 then .error 151
 else match T.cols[(fK T D.column).toNat]? with
 | none => .error 151
 | some x => if D.kind = 4 ∧ x.state = 3 then .error 152
  else if D.kind = 5 ∧ used T (fK T D.column) x = true then .error 155
  else .ok ⟨S.version, S.last, S.tabs.set i { T with cols := lI T.cols (fK T D.column).toNat st (x.put st) }⟩
def q9 (S : aD) (i : Nat) (T : aG) (D : nI) (st : Int) : gT :=
 if D.kind = 2 ∧ j5 T D.name < 0 then
  if lE D.name T.idxs.length ≠ 0 then .error (lE D.name T.idxs.length)
  else if yG T D.column < 0 then .error 151
  else if st = 0 then .error 1
  else match T.cols[(yG T D.column).toNat]? with
  | none => .error 151
  | some c => .ok ⟨S.version, S.last + 1, S.tabs.set i { T with idxs := T.idxs ++ [⟨S.last + 1, D.name, c.id, D.unique, st⟩] }⟩
 else if j5 T D.name < 0 then .error 153
 else match T.idxs[(j5 T D.name).toNat]? with
 | none => .error 153
 | some x => if D.kind = 2 ∧ x.state = 3 then .error 152
  else .ok ⟨S.version, S.last, S.tabs.set i { T with idxs := lI T.idxs (j5 T D.name).toNat st (x.put st) }⟩
def rq (S : aD) (i : Nat) (T : aG) (D : nI) (st : Int) : gT :=
 if D.kind = 6 ∧ jG T D.name < 0 then
  if lE D.name T.keys.length ≠ 0 then .error (lE D.name T.keys.length)
  else if yG T D.column < 0 then .error 151
  else if fy S D.parent < 0 then .error 150
  else match T.cols[(yG T D.column).toNat]?, S.tabs[(fy S D.parent).toNat]? with
  | some c, some P => (match P.cols with
   | [] => .error 154
   | c0 :: _ => if c.kind ≠ c0.kind then .error 154
    else if st = 0 then .error 1
    else .ok ⟨S.version, S.last + 1, S.tabs.set i { T with keys := T.keys ++ [⟨S.last + 1, D.name, c.id, P.id, st⟩] }⟩)
  | _, _ => .error 151
 else if jG T D.name < 0 then .error 153
 else match T.keys[(jG T D.name).toNat]? with
 | none => .error 153
 | some x => if D.kind = 6 ∧ x.state = 3 then .error 152
  else .ok ⟨S.version, S.last, S.tabs.set i { T with keys := lI T.keys (jG T D.name).toNat st (x.put st) }⟩
def lA (S : aD) (D : nI) (st : Int) : gT :=
 if D.kind = 1 then cA S D st
 else if fy S D.table < 0 then .error 150
 else match S.tabs[(fy S D.table).toNat]? with
 | none => .error 150
 | some T => if D.kind = 4 ∨ D.kind = 5 then q7 S (fy S D.table).toNat T D st
  else if D.kind = 2 ∨ D.kind = 3 then q9 S (fy S D.table).toNat T D st
  else rq S (fy S D.table).toNat T D st
abbrev eO : aD := ⟨0, 0, []⟩
def aD.kY (S : aD) (D : nI) (st : Int) : aD × Int :=
 if (right S && (decide (0 ≤ st) && decide (st ≤ 3))) = false then (eO, 100)
 else if D.kind < 1 ∨ 7 < D.kind then (eO, 1)
 else match lA { S with version := S.version + 1 } D st with
 | .error e => (eO, e)
 | .ok S' => (S', 0)
def gT.jW (r : gT) : Prop := ∀ e, r = .error e → e ≠ 0
theorem nT {c : Prop} [Decidable c] {a b : gT} (ha : c → a.jW) (hb : ¬ c → b.jW) : gT.jW (if c then a else b) := by
 by_cases h : c
 ·rw [if_pos h]; exact ha h
 ·rw [if_neg h]; exact hb h
theorem lY {e : Int} (h : e ≠ 0) : gT.jW (.error e) := fun e' h' => by cases h'; exact h
theorem yC {S : aD} : gT.jW (.ok S) := fun e' h' => by cases h'
theorem FR (S : aD) (D : nI) (st : Int) : gT.jW (lA S D st) := by
 have h1 : gT.jW (cA S D st) := by unfold cA; repeat' (first | (refine nT (fun _ => ?_) (fun _ => ?_)) | exact yC | exact lY (by decide) | exact lY ‹_› | split)
 have h2 : ∀ i T, gT.jW (q7 S i T D st) := by intro i T; unfold q7; repeat' (first | (refine nT (fun _ => ?_) (fun _ => ?_)) | exact yC | exact lY (by decide) | exact lY ‹_› | split)
 have h3 : ∀ i T, gT.jW (q9 S i T D st) := by intro i T; unfold q9; repeat' (first | (refine nT (fun _ => ?_) (fun _ => ?_)) | exact yC | exact lY (by decide) | exact lY ‹_› | split)
 have h4 : ∀ i T, gT.jW (rq S i T D st) := by intro i T; unfold rq; repeat' (first | (refine nT (fun _ => ?_) (fun _ => ?_)) | exact yC | exact lY (by decide) | exact lY ‹_› | split)
 unfold lA
 repeat' (first | exact h1 | exact h2 _ _ | exact h3 _ _ | exact h4 _ _ | (refine nT (fun _ => ?_) (fun _ => ?_)) | exact lY (by decide) | split)
def iN (t : aP) (ps : List aC) : List Nat := Fw.aU t.1 ++ ps.flatMap aC.L
structure Has (s : PH) (t : aP) (ps : List aC) : Prop where
 row : bp ja s 139 t.1 t.2.1 t.2.2 ps
 all : ∀ p ∈ ps, tJ s p
 nod : (iN t ps).Nodup
theorem Has.nil (s : PH) : Has s dI [] := ⟨bp.nil, fun p hp => by simp at hp, by simp [iN, Fw.aU]⟩
theorem Has.known {s : PH} {t : aP} {ps : List aC} (h : Has s t ps) : ∀ g ∈ iN t ps, s g ≠ none := by
 intro g hg;simp only [iN, List.mem_append, List.mem_flatMap] at hg;rcases hg with hg | ⟨p, hp, hg⟩
 ·exact h.row.known g hg
 ·exact (h.all p hp).known g hg
theorem tI {t : aP} {ps : List aC} {g : Nat} (h : g ∈ Fw.aU t.1) : g ∈ iN t ps := List.mem_append.2 (.inl h)
theorem KG {t : aP} {ps : List aC} {p : aC} (hp : p ∈ ps) {g : Nat} (h : g ∈ p.L) : g ∈ iN t ps := List.mem_append.2 (.inr (List.mem_flatMap.2 ⟨p, hp, h⟩))
theorem Has.mod {s s' : PH} {t : aP} {ps : List aC} {M : List Nat} (h : Has s t ps) (hm : Fw.Mod M s s') (hd : ∀ g ∈ iN t ps, g ∉ M) : Has s' t ps :=
 ⟨h.row.mod hm fun g hg => hd g (tI hg), fun p hp => (h.all p hp).mod hm fun g hg => hd g (KG hp hg), h.nod⟩
theorem Has.is {s : PH} {t : aP} {ps : List aC} (h : Has s t ps) {S : aD} (he : S.tabs = ps.map (·.T)) (hn : S.tabs.length ≤ 4294967296) (hf : ∀ T ∈ S.tabs, T.JF) : dP s t S ps :=
 ⟨Sl.bE h.row (by rw [he, List.length_map] at hn; exact hn), he, fun p hp => (h.all p hp).is (hf _ (by rw [he]; exact List.mem_map_of_mem hp))⟩
theorem Has.push {s : PH} {a : OA} {n c : Nat} {ps : List aC} {p : aC} {K : OA → Nat → Nat → W.T} (h : Has s (a, n, c) ps) (ho : tJ s p) (hp : p.L.Nodup) (hd : ∀ g ∈ p.L, g ∉ iN (a, n, c) ps) (hl : ps.length ≤ 4294967296)
  (hK : ∀ a' c' s', Has s' (a', n + 1, c') (ps ++ [p]) → Step (iN (a, n, c) ps ++ p.L) (iN (a', n + 1, c') (ps ++ [p])) s s' → K a' (n + 1) c' s') :
  W.nw (.cells (ja.f p).toArray 139 (0, 0)) (fun r => W.app 139 5 96 [.int .i64 0, .string ⟨#[]⟩, .slice none 0 0, .slice none 0 0, .slice none 0 0] a n c (Src.sl (some ⟨r, 0, none⟩) 1) K) s := by
 refine W.bK fun r s1 hr m1 k1 => ?_;have hmax : maxLen = 9223372036854775807 := rfl;have hn : n = ps.length := h.row.len;have h1 := h.mod m1 (by simp);have ho1 := ho.mod m1 (by simp);refine iU h1.row rfl (ys := [p]) (k := 1) (wu (by have := jP k1; simpa using this) rfl) rfl rfl (by dsimp only; omega) (by dsimp only; omega) ?_;intro a' c' s' h' hm
 have hdt : ∀ g ∈ ps.flatMap aC.L, g ∉ Fw.aU a := by
  intro g hg hg2;have := h.nod;simp only [iN, List.nodup_append] at this;exact this.2.2 g hg2 g hg rfl
 have hrest : (ps.flatMap aC.L ++ p.L).Nodup := by
  rw [List.nodup_append];have := h.nod;simp only [iN, List.nodup_append] at this;refine ⟨this.2.1, hp, ?_⟩;rintro g hg _ hg2 rfl;exact hd g hg2 (List.mem_append.2 (.inr hg))
 have hL : iN (a', n + 1, c') (ps ++ [p]) = Fw.aU a' ++ (ps.flatMap aC.L ++ p.L) := by simp [iN, List.flatMap_append]
 have hLp : ∀ g ∈ ps.flatMap aC.L ++ p.L, g ∈ iN (a, n, c) ps ++ p.L := by
  intro g hg;rcases List.mem_append.1 hg with hg | hg
  ·exact List.mem_append.2 (.inl (List.mem_append.2 (.inr hg)))
  ·exact List.mem_append.2 (.inr hg)
 rcases hm with ⟨rfl, hm⟩ | ⟨g, rfl, hg, hm⟩
 ·refine hK _ _ _ ⟨h', ?_, ?_⟩ ⟨(m1.mono (by simp)).trans (hm.mono fun x hx => List.mem_append.2 (.inl (tI (ps := ps) hx))), ?_⟩
  ·intro q hq;rcases List.mem_append.1 hq with hq | hq
   ·exact (h1.all q hq).mod hm fun g hg => hdt g (List.mem_flatMap.2 ⟨q, hq, hg⟩)
   ·have : q = p := by simpa using hq
    subst this;exact ho1.mod hm fun g hg hg2 => hd g hg (tI hg2)
  ·rw [hL, List.nodup_append];refine ⟨jN _, hrest, ?_⟩;rintro g hg _ hg2 rfl;rcases List.mem_append.1 hg2 with hg2 | hg2
   ·exact hdt g hg2 hg
   ·exact hd g hg2 (tI hg)
  ·intro x hx;rw [hL] at hx;rcases List.mem_append.1 hx with hx | hx
   ·exact .inl (List.mem_append.2 (.inl (tI hx)))
   ·exact .inl (hLp x hx)
 ·have hg0 : s g = none := m1.none hg (by simp);refine hK _ _ _ ⟨h', ?_, ?_⟩ ⟨(m1.trans hm).mono (by simp), ?_⟩
  ·intro q hq;rcases List.mem_append.1 hq with hq | hq
   ·exact (h1.all q hq).mod hm (by simp)
   ·have : q = p := by simpa using hq
    subst this;exact ho1.mod hm (by simp)
  ·rw [hL, List.nodup_append];refine ⟨jN _, hrest, ?_⟩;rintro g' hg' _ hg2 rfl
   have : g' = g := by simpa [Fw.aU] using hg'
   subst this;rcases List.mem_append.1 hg2 with hg2 | hg2
   ·exact h.known g' (List.mem_append.2 (.inr hg2)) hg0
   ·exact ho.known g' hg2 hg0
  ·intro x hx;rw [hL] at hx;rcases List.mem_append.1 hx with hx | hx
   ·have : x = g := by simpa [Fw.aU] using hx
    subst this;exact .inr hg0
   ·exact .inl (hLp x hx)
end
section
attribute [-simp] Fw.W.bC Fw.W.bA
end
section
attribute [-simp] Fw.W.bC Fw.W.bA
abbrev Kv (cols : List cw) (i : Nat) (c : cw) : Bool := decide (aJ (fun y : cw => decide (y.name = c.name)) cols 0 = i)
theorem Ka {cols : List cw} (h : upTo (bX (Kv cols) cols) cols.length = true) : zq cols = false := by
 unfold zq; rw [h]; (first | done | rfl)
end
section
attribute [-simp] Fw.W.bC Fw.W.bA
structure aD.Bd (S : aD) : Prop where
 tabs : S.tabs.length ≤ 6
 each : ∀ T ∈ S.tabs, 1 ≤ T.cols.length ∧ T.cols.length ≤ 8 ∧ T.idxs.length ≤ 8 ∧ T.keys.length ≤ 8
 last : 0 ≤ S.last ∧ S.last ≤ 1125899906842624
section
variable {s : PH} {b : Nat} {S : aD} {t : aP} {ps : List aC} {i g : Nat} {p : aC}
end
end
section
attribute [-simp] Fw.W.bC Fw.W.bA
section
variable {s : PH} {b : Nat} {S : aD} {t : aP} {ps : List aC} {i g : Nat} {p : aC}
end
end
section
attribute [-simp] Fw.W.bC Fw.W.bA
theorem uy {b : Bool} (h : (!b) = false) : b = true := by cases b <;> simp_all
section
variable {s : PH} {b : Nat} {S : aD} {t : aP} {ps : List aC}
end
theorem tr {S : aD} (h : right S = true) : S.Bd ∧ 0 ≤ S.version ∧ S.version ≤ 1125899906842624 := by
 obtain ⟨a, b, c, d, e⟩ := eI.1 h;unfold jC at a;simp only [Bool.and_eq_true, decide_eq_true_eq] at a;refine ⟨⟨b, fun T hT => ?_, a.2.2.1, a.2.2.2⟩, a.1, a.2.1⟩;obtain ⟨i, hi⟩ := List.mem_iff_getElem?.1 hT;obtain ⟨x1, x2, x3, x4, _⟩ := gD.1 (cx.1 d i T hi);exact ⟨x1, x2, x3, x4⟩
def oF (s : PH) (S' : aD) (e : Int) (y : Value) (s' : PH) : Prop :=
 ∃ t' ps', y = .tuple #[eV S' t', .int .i64 e] ∧ Has s' t' ps' ∧ S'.tabs = ps'.map (·.T) ∧ Fw.Mod [] s s' ∧ ∀ g ∈ iN t' ps', s g = none
theorem sV {s s' : PH} {e : Int} (m : Fw.Mod [] s s') : oF s eO e (.tuple #[eV eO dI, .int .i64 e]) s' := ⟨dI, [], rfl, Has.nil _, rfl, m, by simp [iN, Fw.aU]⟩
end
section
attribute [-simp] Fw.W.bC Fw.W.bA
theorem grow {α : Type} {E : cK α} {e : TypeId} {bytes : Nat} {zero : List Value} {s0 s : PH} {a : OA} {n c : Nat} {xs : List α} {x : α} {K : OA → Nat → Nat → W.T} (h : bp E s e a n c xs) (hf : ∀ g ∈ Fw.aU a, s0 g = none) (m : Fw.Mod [] s0 s)
  (hz : zero.length = E.sz) (hl : xs.length ≤ 1099511627) (hby : bytes ≤ 100) (hK : ∀ a' c' s', bp E s' e a' (n + 1) c' (xs ++ [x]) → (∀ g ∈ Fw.aU a', s0 g = none) → Fw.Mod [] s0 s' → K a' (n + 1) c' s') :
  W.nw (.cells (E.f x).toArray e (0, 0)) (fun r => W.app e E.sz bytes zero a n c (Src.sl (some ⟨r, 0, none⟩) 1) K) s := by
 refine W.bK fun r s1 hr m1 k1 => ?_;have hmax : maxLen = 9223372036854775807 := rfl;have hn : n = xs.length := h.len;have hb : (n + 1) * bytes ≤ (n + 1) * 100 := Nat.mul_le_mul_left _ hby;refine iU (h.mod m1 (by simp)) hz (ys := [x]) (k := 1) (wu (by have := jP k1; simpa using this) rfl) rfl rfl (by omega) (by omega) ?_;intro a' c' s2 h' hm;refine hK a' c' s2 h' ?_ ?_
 ·rcases hm with ⟨e, _⟩ | ⟨g, e, hg, _⟩
  ·rw [e]; exact hf
  ·intro g' hg';rw [e] at hg'
   have : g' = g := by simpa [Fw.aU] using hg'
   subst this;exact (m.trans m1).none hg (by simp)
 ·rcases hm with ⟨_, hm⟩ | ⟨_, _, _, hm⟩
  ·exact (m.trans m1).fresh hm fun g hg => .inr (hf g hg)
  ·exact (m.trans m1).trans hm
def JH (s : PH) (S' : aD) (y : Value) (s' : PH) : Prop :=
 ∃ t' ps', y = eV S' t' ∧ Has s' t' ps' ∧ S'.tabs = ps'.map (·.T) ∧ Fw.Mod [] s s' ∧ ∀ g ∈ iN t' ps', s g = none
theorem IP {s : PH} {t : aP} {S : aD} {ps : List aC} (h : dP s t S ps) : ah 83 #[eV S t] s (JH s S) := by
 obtain ⟨ta, tn, tc⟩ := t;refine Hg S.version S.last ta tn tc _ s ?_;unfold AY;have htn : tn = ps.length := h.el.len;have hfew := h.el.cO
 have hpl : S.tabs.length = ps.length := by rw [h.eq]; simp
 simp only [cG, aO, aT, bS, aE, cj, dg, gX, bH, aM, aR, aQ, mA, qe, mj, nL, W.ay]
 refine ⟨fun z s' => ∃ (k a2 a3 : Nat) (a1 : OA) (pc : List aC), z = ((S.version, S.last, (ta, tn, tc), ()), (0, 0, (none, 0, 0), ()), ((a1, a2, a3), ()), ((k : Int), ()), ()) ∧ k ≤ tn ∧ Has s' (a1, a2, a3) pc ∧ S.tabs.take k = pc.map (·.T) ∧ Fw.Mod [] s s' ∧ ∀ g ∈ iN (a1, a2, a3) pc, s g = none,
  fun z _ => tn - z.2.2.2.1.1.toNat, ⟨0, 0, 0, none, [], rfl, Nat.zero_le _, Has.nil _, rfl, Mod.refl _ _, by simp [iN, Fw.aU]⟩, ?_⟩
 rintro _ s1 ⟨k, a2, a3, a1, pc, rfl, hk, hH, he, m1, hf⟩;simp only [W.af, decide_eq_true_eq, decide_eq_false_iff_not];refine ⟨fun hlt => ?_, fun hge => ?_⟩
 ·have hlt : k < tn := by omega
  obtain ⟨p, hp⟩ : ∃ p, ps[k]? = some p := ⟨_, List.getElem?_eq_getElem (by omega)⟩
  have hT : S.tabs[k]? = some p.T := by rw [h.eq, List.getElem?_map, hp]; (first | done | rfl)
  have hS1 := h.mono m1.le;obtain ⟨ad, had, hh⟩ := hS1.el.el.aA hp;dsimp only at had;subst had;refine ⟨by omega, ?_⟩;simp only [W.ay, Int.toNat_natCast];refine az hh (y := (p.T.id, p.T.name, p.c, p.x, p.k, ())) rfl ?_;have hP := hS1.all p (get_mem hp);have b1 := hP.c.cO;have b2 := hP.x.cO;have b3 := hP.k.cO;have l1 := hP.c.len;have l2 := hP.x.len;have l3 := hP.k.len;refine mP (E := dD) (k := p.c.2.1) hP.c.el.kX rfl l1.symm (by omega) (by omega) rfl ?_;intro u1 c1 s2 r1 m2 f1;refine mP (E := j6) (k := p.x.2.1) (hP.mono m2.le).x.el.kX rfl l2.symm (by omega) (by omega) rfl ?_;intro u2 c2 s3 r2 m3 f2;refine mP (E := lS) (k := p.k.2.1) (hP.mono (m2.trans m3).le).k.el.kX rfl l3.symm (by omega) (by omega) rfl ?_;intro u3 c3 s4 r3 m4 f3;have m24 := (m2.trans m3).trans m4
  have hpcl : pc.length = k := by
   have := congrArg List.length he;simp only [List.length_map, List.length_take] at this;omega
  have hn1 : ∀ g ∈ Fw.aU u1 ++ (Fw.aU u2 ++ Fw.aU u3), s1 g = none := by
   intro g hg;simp only [List.mem_append] at hg;rcases hg with hg | hg | hg
   ·exact f1 g hg
   ·exact m2.none (f2 g hg) (by simp)
   ·exact (m2.trans m3).none (f3 g hg) (by simp)
  have hH4 := hH.mod m24 (by simp);refine hH4.push (p := ⟨p.T, (u1, p.c.2.1, c1), (u2, p.x.2.1, c2), (u3, p.k.2.1, c3)⟩) ⟨(r1.mod m3 (by simp)).mod m4 (by simp), r2.mod m4 (by simp), r3⟩ ?_ (fun g hg hg2 => hH.known g hg2 (hn1 g hg)) (by omega) ?_
  ·simp only [aC.L, List.nodup_append];refine ⟨jN _, ⟨jN _, jN _, ?_⟩, ?_⟩
   ·rintro g hg _ hg2 rfl;exact r2.known g hg (f3 g hg2)
   ·rintro g hg _ hg2 rfl;rcases List.mem_append.1 hg2 with hg2 | hg2
    ·exact r1.known g hg (f2 g hg2)
    ·exact (r1.mod m3 (by simp)).known g hg (f3 g hg2)
  ·intro a' c' s5 h5 st5;rw [ai (k := k) (by omega)];have m14 : Fw.Mod [] s s4 := m1.trans m24;refine ⟨⟨k + 1, a2 + 1, c', a', pc ++ [⟨p.T, (u1, p.c.2.1, c1), (u2, p.x.2.1, c2), (u3, p.k.2.1, c3)⟩], rfl, hlt, h5, ?_, ?_, ?_⟩, by simp only [Int.toNat_natCast]; omega⟩
   ·rw [List.take_add_one, hT, he]; simp
   ·refine m14.fresh st5.mod fun x hx => ?_;rcases List.mem_append.1 hx with hx | hx
    ·exact .inr (hf x hx)
    ·exact .inr (m1.none (hn1 x hx) (by simp))
   ·intro g hg;rcases st5.new g hg with e | e
    ·rcases List.mem_append.1 e with e | e
     ·exact hf g e
     ·exact m1.none (hn1 g e) (by simp)
    ·exact m14.none e (by simp)
 ·have hall : S.tabs.take k = S.tabs := List.take_of_length_le (by omega);rw [hall] at he;exact ⟨(a1, a2, a3), pc, rfl, hH, he, m1, hf⟩
def F5 (r : gT) (L : List Nat) (s : PH) (y : Value) (s' : PH) : Prop := match r with
 | .error e => (∃ S'' t'', y = .tuple #[eV S'' t'', .int .i64 e]) ∧ Fw.Mod L s s'
 | .ok S' => ∃ t' ps', y = .tuple #[eV S' t', .int .i64 0] ∧ Has s' t' ps' ∧ S'.tabs = ps'.map (·.T) ∧ Step L (iN t' ps') s s'
theorem Ej {s : PH} {t : aP} {S : aD} {ps : List aC} (hH : Has s t ps) (he : S.tabs = ps.map (·.T)) (hb : S.Bd) (D : nI) {u : aP} (hu : Sl dD s u D.cols) (hul : D.cols.length ≤ 1073741824) (st : Int) :
  ah 84 #[eV S t, GC D u, .int .i64 st] s (F5 (cA S D st) (iN t ps) s) := by
 obtain ⟨ta, tn, tc⟩ := t;obtain ⟨ua, un, uc⟩ := u;refine Dr S.version S.last ta tn tc D.kind D.table D.name D.column D.parent D.unique D.type D.dflt.kind D.dflt.n D.dflt.s ua un uc st _ s ?_;unfold vb;have hun : un = D.cols.length := hu.len;have htn : tn = ps.length := hH.row.len
 have hpl : S.tabs.length = ps.length := by rw [he]; simp
 obtain ⟨R, hR⟩ : ∃ R, F5 (cA S D st) (iN (ta, tn, tc) ps) s = R := ⟨_, rfl⟩
 have hret : ∀ {e : Int} {s'}, cA S D st = .error e → Fw.Mod [] s s' → R (.tuple #[eV S (ta, tn, tc), .int .i64 e]) s' := fun e1 m => by
  rw [← hR, e1]; exact ⟨⟨S, (ta, tn, tc), rfl⟩, m.mono (by simp)⟩
 rw [hR];have hlast := hb.last;have hSch : dP s (ta, tn, tc) S ps := hH.is he (by have := hb.tabs; omega) (fun T hT => by obtain ⟨_, a, b, c⟩ := hb.each T hT; exact ⟨by omega, by omega, by omega⟩);simp only [cG, aO, aT, bS, aE, cj, dg, gX, bH, aM, aR, aQ, mA, qe, mj, nL, W.ay];refine aH ((named D.table, ()), ()) (kM D.table s) rfl ?_;simp only [W.af]
 have hbad1 : ¬ (named D.table = true ∧ ∀ c ∈ D.cols, named c.name = true) → cA S D st = .error 100 := by
  intro e;unfold cA;rw [if_pos];cases hN : (named D.table && D.cols.all fun c => named c.name)
  ·rfl
  ·simp only [Bool.and_eq_true, List.all_eq_true] at hN;exact absurd hN e
 refine ⟨fun hN => hret (hbad1 fun e => by rw [e.1] at hN; cases hN) (Mod.refl _ _), fun hN => ?_⟩;have hN : named D.table = true := uy hN
 refine ⟨fun z s' => ∃ k : Nat, z = ((S.version, S.last, (ta, tn, tc), ()), (D.kind, D.table, D.name, D.column, D.parent, D.unique, D.type, D.dflt.kind, D.dflt.n, D.dflt.s, (ua, un, uc), ()), (0, 0, (none, 0, 0), ()), ((k : Int), ()), ()) ∧ k ≤ un ∧ s' = s ∧ ∀ c ∈ D.cols.take k, named c.name = true,
  fun z _ => un - z.2.2.2.1.1.toNat, ⟨0, rfl, Nat.zero_le _, rfl, by simp⟩, ?_⟩
 rintro _ s0 ⟨k, rfl, hk, rfl, hnames⟩;simp only [W.af, decide_eq_true_eq, decide_eq_false_iff_not];refine ⟨fun hlt => ?_, fun hge => ?_⟩
 ·have hlt : k < un := by omega
  obtain ⟨x, hx⟩ : ∃ x, D.cols[k]? = some x := ⟨_, List.getElem?_eq_getElem (by omega)⟩
  obtain ⟨ad, had, hh⟩ := hu.el.aA hx;dsimp only at had;subst had;refine ⟨by omega, ?_⟩;simp only [W.ay, Int.toNat_natCast];refine bq (j := 1) hh (cs := [.str]) (y := (x.name, ())) rfl ?_;refine aH ((named x.name, ()), ()) (kM x.name _) rfl ?_;simp only [W.af];refine ⟨fun h1 => hret (hbad1 fun e => by rw [e.2 x (List.mem_of_getElem? hx)] at h1; cases h1) (Mod.refl _ _), fun h1 => ?_⟩;rw [ai (k := k) (by omega)];refine ⟨⟨k + 1, rfl, hlt, by trivial, ?_⟩, by simp only [Int.toNat_natCast]; omega⟩;intro c hc;rw [List.take_add_one, hx] at hc;rcases List.mem_append.1 hc with hc | hc
  ·exact hnames c hc
  ·have : c = x := by simpa using hc
   rw [this]; exact uy h1
 have hall : D.cols.take k = D.cols := List.take_of_length_le (by omega);rw [hall] at hnames
 have hok1 : ¬ (named D.table && D.cols.all fun c => named c.name) = false := by
  have : (named D.table && D.cols.all fun c => named c.name) = true := by simp only [Bool.and_eq_true, List.all_eq_true]; exact ⟨hN, hnames⟩
  rw [this]; simp
 refine aH ((fy S D.table, ()), ()) (oO (t := (ta, tn, tc)) hSch D.table) rfl ?_;simp only [W.af, decide_eq_true_eq, decide_eq_false_iff_not]
 have hbad2 : ¬ (fy S D.table < 0 ∧ zq D.cols = false) → cA S D st = .error 152 := by
  intro e;unfold cA;rw [if_neg hok1, if_pos];cases hd : zq D.cols
  ·simp only [Bool.or_false, decide_eq_true_eq];have : ¬ fy S D.table < 0 := fun e2 => e ⟨e2, hd⟩;omega
  ·simp
 refine ⟨fun h1 => hret (hbad2 fun e => by omega) (Mod.refl _ _), fun h1 => ?_⟩;have hwl : i64.wrap (S.last + 1) = S.last + 1 := cq (by omega) (by omega);rw [hwl]
 refine ⟨fun z s' => ∃ k : Nat, z = ((S.version, S.last, (ta, tn, tc), ()), (D.kind, D.table, D.name, D.column, D.parent, D.unique, D.type, D.dflt.kind, D.dflt.n, D.dflt.s, (ua, un, uc), ()), (0, 0, (none, 0, 0), ()), (S.last + 1, D.table, (ua, un, uc), (none, 0, 0), (none, 0, 0), ()), ((k : Int), ()), ()) ∧ k ≤ un ∧ s' = s0 ∧ upTo (bX (Kv D.cols) D.cols) k = true,
  fun z _ => un - z.2.2.2.2.1.1.toNat, ⟨0, rfl, Nat.zero_le _, rfl, rfl⟩, ?_⟩
 rintro _ s1 ⟨k, rfl, hk, rfl, hone⟩;simp only [W.af, decide_eq_true_eq, decide_eq_false_iff_not];refine ⟨fun hlt => ?_, fun hge => ?_⟩
 ·have hlt : k < un := by omega
  obtain ⟨x, hx⟩ : ∃ x, D.cols[k]? = some x := ⟨_, List.getElem?_eq_getElem (by omega)⟩
  obtain ⟨ad, had, hh⟩ := hu.el.aA hx;dsimp only at had;subst had;refine ⟨by omega, ?_⟩;simp only [W.ay, Int.toNat_natCast];refine bq (j := 1) hh (cs := [.str]) (y := (x.name, ())) rfl ?_;refine W.cr ((fK ⟨S.last + 1, D.table, D.cols, [], []⟩ x.name, ()), ()) (rP (p := ⟨⟨S.last + 1, D.table, D.cols, [], []⟩, (some ad, un, uc), dI, dI⟩) hu x.name) rfl ?_;simp only [W.af];have hk' : D.cols.length = un := hun.symm;refine ⟨fun h2 => hret (hbad2 fun e => ?_) (Mod.refl _ _), fun h2 => ?_⟩
  ·have h2 : fK ⟨S.last + 1, D.table, D.cols, [], []⟩ x.name ≠ (k : Int) := by simpa using h2
   have e2 := e.2;unfold zq at e2;have e2 := pJ.1 (uy e2) k (by omega);rw [di hx] at e2;exact h2 (by unfold fK; simpa using e2)
  ·have h2 : fK ⟨S.last + 1, D.table, D.cols, [], []⟩ x.name = (k : Int) := by simpa using h2
   rw [ai (k := k) (by omega)];refine ⟨⟨k + 1, rfl, hlt, by trivial, ?_⟩, by simp only [Int.toNat_natCast]; omega⟩;rw [eK, hone, di hx, Bool.true_and];exact decide_eq_true h2
 have hke : k = D.cols.length := by omega
 subst hke;have hdbl := Ka hone
 have hok2 : ¬ (decide (0 ≤ fy S D.table) || zq D.cols) = true := by
  rw [hdbl, Bool.or_false, decide_eq_true_eq]; omega
 have hbad3 : (6 ≤ S.tabs.length ∨ D.cols.length < 1 ∨ 8 < D.cols.length) → cA S D st = .error 156 := fun e => by
  unfold cA; rw [if_neg hok1, if_neg hok2, if_pos (by simp only [Bool.or_eq_true, decide_eq_true_eq]; exact e)]
 refine W.bx (fun z s' => z = ((S.version, S.last, (ta, tn, tc), ()), (D.kind, D.table, D.name, D.column, D.parent, D.unique, D.type, D.dflt.kind, D.dflt.n, D.dflt.s, (ua, un, uc), ()), (0, 0, (none, 0, 0), ()), (S.last + 1, D.table, (ua, un, uc), (none, 0, 0), (none, 0, 0), ()), ()) ∧ s' = s1 ∧ ¬ (6 ≤ S.tabs.length ∨ D.cols.length < 1 ∨ 8 < D.cols.length)) ?_ ?_;rotate_left
 ·intro J hJ;simp only [W.af, decide_eq_true_eq, decide_eq_false_iff_not];refine ⟨fun h2 => hret (hbad3 (by omega)) (Mod.refl _ _), fun h2 => ⟨fun h3 => hret (hbad3 ?_) (Mod.refl _ _), fun h3 => ⟨fun h4 => hret (hbad3 (by omega)) (Mod.refl _ _), fun h4 => hJ _ _ ⟨rfl, rfl, ?_⟩⟩⟩⟩
  ·have h3 : (un : Int) = 0 := by simpa using h3
   omega
  ·have h3 : (un : Int) ≠ 0 := by simpa using h3
   omega
 rintro _ s2 ⟨rfl, rfl, hnum⟩
 have hok3 : ¬ (decide (6 ≤ S.tabs.length) || (decide (D.cols.length < 1) || decide (8 < D.cols.length))) = true := by
  simp only [Bool.or_eq_true, decide_eq_true_eq]; exact hnum
 have hbad4 : ¬ (∀ c ∈ D.cols, typed c.kind = true) → cA S D st = .error 154 := by
  intro e;unfold cA;rw [if_neg hok1, if_neg hok2, if_neg hok3, if_pos];cases hN : (D.cols.all fun c => typed c.kind)
  ·rfl
  ·simp only [List.all_eq_true] at hN;exact absurd hN e
 refine ⟨fun z s' => ∃ (k n c : Nat) (a : OA), z = ((S.version, S.last, (ta, tn, tc), ()), (D.kind, D.table, D.name, D.column, D.parent, D.unique, D.type, D.dflt.kind, D.dflt.n, D.dflt.s, (ua, un, uc), ()), (0, 0, (none, 0, 0), ()), (S.last + 1, D.table, (a, n, c), (none, 0, 0), (none, 0, 0), ()), ((k : Int), ()), ()) ∧ k ≤ un ∧
  bp dD s' 165 a n c (eR (S.last + 2) (D.cols.take k)) ∧ (∀ g ∈ Fw.aU a, s2 g = none) ∧ Fw.Mod [] s2 s' ∧ ∀ c ∈ D.cols.take k, typed c.kind = true, fun z _ => un - z.2.2.2.2.1.1.toNat, ⟨0, 0, 0, none, rfl, Nat.zero_le _, bp.nil, by simp [Fw.aU], Mod.refl _ _, by simp⟩, ?_⟩
 rintro _ s3 ⟨k, n, c, a, rfl, hk, hrow, hfr, m3, htyp⟩;simp only [W.af, decide_eq_true_eq, decide_eq_false_iff_not];refine ⟨fun hlt => ?_, fun hge => ?_⟩
 ·have hlt : k < un := by omega
  obtain ⟨x, hx⟩ : ∃ x, D.cols[k]? = some x := ⟨_, List.getElem?_eq_getElem (by omega)⟩
  have hu3 := hu.mono m3.le;obtain ⟨ad, had, hh⟩ := hu3.el.aA hx;dsimp only at had;subst had
  have hn : n = k := by have := hrow.len; rw [l6, List.length_take] at this; omega
  refine ⟨by omega, ?_⟩;simp only [W.ay, Int.toNat_natCast];refine bq (j := 2) hh (cs := [.int .i64]) (y := (x.kind, ())) rfl ?_;refine aH ((typed x.kind, ()), ()) (sI x.kind _) rfl ?_;simp only [W.af];refine ⟨fun h1 => hret (hbad4 fun e => by rw [e x (List.mem_of_getElem? hx)] at h1; cases h1) m3, fun h1 => ?_⟩;refine ⟨by omega, ?_⟩;simp only [W.ay, Int.toNat_natCast];refine bq (j := 1) hh (cs := [.str]) (y := (x.name, ())) rfl ?_;refine ⟨by omega, ?_⟩;simp only [W.ay, Int.toNat_natCast];refine bq (j := 2) hh (cs := [.int .i64]) (y := (x.kind, ())) rfl ?_
  have hid : i64.wrap (i64.wrap (S.last + 2) + (k : Int)) = S.last + 2 + k := by
   rw [cq (n := S.last + 2) (by omega) (by omega), cq (by omega) (by omega)]
  rw [hid];refine grow (E := dD) (x := ⟨S.last + 2 + k, x.name, x.kind, 3, ⟨0, 0, ⟨#[]⟩⟩⟩) hrow hfr m3 rfl (by rw [l6, List.length_take]; omega) (by omega) ?_;intro a' c' s4 h4 f4 m4;rw [ai (k := k) (by omega)]
  have hsnoc : eR (S.last + 2) (D.cols.take (k + 1)) = eR (S.last + 2) (D.cols.take k) ++ [⟨S.last + 2 + k, x.name, x.kind, 3, ⟨0, 0, ⟨#[]⟩⟩⟩] := by
   have : D.cols.take (k + 1) = D.cols.take k ++ [x] := by rw [List.take_add_one, hx]; (first | done | rfl)
   rw [this, rT, List.length_take, Nat.min_eq_left (by omega)]
  refine ⟨⟨k + 1, n + 1, c', a', rfl, hlt, by rw [hsnoc]; exact h4, f4, m4, ?_⟩, by simp only [Int.toNat_natCast]; omega⟩;intro c hc;rw [List.take_add_one, hx] at hc;rcases List.mem_append.1 hc with hc | hc
  ·exact htyp c hc
  ·have : c = x := by simpa using hc
   rw [this]; exact uy h1
 have hall : D.cols.take k = D.cols := List.take_of_length_le (by omega);rw [hall] at hrow htyp
 have hok4 : ¬ (D.cols.all fun c => typed c.kind) = false := by
  have : (D.cols.all fun c => typed c.kind) = true := by simp only [List.all_eq_true]; exact htyp
  rw [this]; simp
 refine ⟨fun h5 => hret (by unfold cA; rw [if_neg hok1, if_neg hok2, if_neg hok3, if_neg hok4, if_pos (by simpa using h5)]) m3, fun h5 => ?_⟩
 have hTurn : cA S D st = .ok ⟨S.version, S.last + 1 + D.cols.length, S.tabs ++ [⟨S.last + 1, D.table, eR (S.last + 2) D.cols, [], []⟩]⟩ := by
  unfold cA; rw [if_neg hok1, if_neg hok2, if_neg hok3, if_neg hok4, if_neg (by simpa using h5)]
 have hH3 := hH.mod m3 (by simp)
 have hL1 : ∀ g ∈ (aC.mk ⟨S.last + 1, D.table, eR (S.last + 2) D.cols, [], []⟩ (a, n, c) dI dI).L, s2 g = none := by
  intro g hg;refine hfr g ?_;simpa [aC.L, Fw.aU] using hg
 refine hH3.push (p := ⟨⟨S.last + 1, D.table, eR (S.last + 2) D.cols, [], []⟩, (a, n, c), dI, dI⟩) ⟨hrow, bp.nil, bp.nil⟩ (by simpa [aC.L, Fw.aU] using jN a) (fun g hg hg2 => hH.known g hg2 (hL1 g hg)) (by have := hb.tabs; omega) ?_;intro a' c' s5 h5 st5;rw [← hR, hTurn]
 have hw2 : i64.wrap (S.last + 1 + (un : Int)) = S.last + 1 + D.cols.length := by rw [cq (by omega) (by omega), hun]
 rw [hwl, hw2];refine ⟨(a', tn + 1, c'), _, rfl, h5, by simp [he], ⟨?_, ?_⟩⟩
 ·refine (m3.mono (by simp)).fresh st5.mod fun x hx => ?_;rcases List.mem_append.1 hx with hx | hx
  ·exact .inl hx
  ·exact .inr (hL1 x hx)
 ·intro x hx;rcases st5.new x hx with e | e
  ·rcases List.mem_append.1 e with e | e
   ·exact .inl e
   ·exact .inr (hL1 x e)
  ·exact .inr (m3.none e (by simp))
end
section
attribute [-simp] Fw.W.bC Fw.W.bA
structure aD.Sn (S : aD) : Prop where
 c : ∀ T ∈ S.tabs, ∀ x ∈ T.cols, x.state ≠ 0
 x : ∀ T ∈ S.tabs, ∀ x ∈ T.idxs, x.state ≠ 0
 k : ∀ T ∈ S.tabs, ∀ x ∈ T.keys, x.state ≠ 0
def pos (k : Nat) (st : Int) (j : Nat) : Nat := if st = 0 ∧ k < j then j - 1 else j
theorem DI {α : Type} {l : List α} {k : Nat} {st : Int} {x' : α} : (lI l k st x').length ≤ l.length := by
 unfold lI; split
 ·rw [List.length_eraseIdx]; split <;> omega
 ·rw [List.length_set]; exact Nat.le_refl _
section
variable {s : PH} {S : aD} {t : aP} {ps : List aC} {i : Nat} {p : aC}
end
end
section
attribute [-simp] Fw.W.bC Fw.W.bA
theorem qQ {n : Int} (h : dM n = true) : n ≠ 0 := by
 unfold dM at h;simp only [Bool.and_eq_true, decide_eq_true_eq] at h;omega
theorem HH {S : aD} (h : right S = true) : S.Sn := by
 obtain ⟨a, b, c, d, e⟩ := eI.1 h;refine ⟨fun T hT x hx => ?_, fun T hT x hx => ?_, fun T hT x hx => ?_⟩
 all_goals
  obtain ⟨i, hi⟩ := List.mem_iff_getElem?.1 hT;obtain ⟨_, _, _, _, _, _, _, _, c1, c2, c3⟩ := gD.1 (cx.1 d i T hi);obtain ⟨j, hj⟩ := List.mem_iff_getElem?.1 hx
 ·have := cx.1 c1 j x hj;unfold fU at this;simp only [Bool.and_eq_true] at this;exact qQ this.1
 ·have := cx.1 c2 j x hj;unfold iK at this;simp only [Bool.and_eq_true] at this;exact qQ this.1
 ·have := cx.1 c3 j x hj;unfold ie at this;simp only [Bool.and_eq_true] at this;exact qQ this.1
def gT.out (r : gT) : aD × Int := match r with
 | .error e => (eO, e)
 | .ok S' => (S', 0)
theorem Fx {s s1 s2 : PH} {L : List Nat} {r : gT} {y : Value} (ho : F5 r L s1 y s2) (m1 : Fw.Mod [] s s1) (hf : ∀ g ∈ L, s g = none) (her : r.jW) {r' : aD × Int} (hr : r' = r.out) {K : W.T}
  {k : bR [(true, [.int .i64, .int .i64, .slice]), (false, [.int .i64])] → W.T}
  (hk0 : ∀ (S'' : aD) (t'' : aP) (e : Int), e ≠ 0 → oF s eO e (.tuple #[eV eO dI, .int .i64 e]) s2 → r' = (eO, e) → k ((S''.version, S''.last, t'', ()), (e, ()), ()) s2)
  (hk1 : ∀ (S' : aD) (t' : aP), oF s S' 0 (.tuple #[eV S' t', .int .i64 0]) s2 → r' = (S', 0) → k ((S'.version, S'.last, t', ()), (0, ()), ()) s2) :
  ∃ x, gx (true, [(true, [.int .i64, .int .i64, .slice]), (false, [.int .i64])]) x = y ∧ k x s2 := by
 cases r with
 | error e =>
  obtain ⟨⟨S'', t'', rfl⟩, m2⟩ := ho;refine ⟨((S''.version, S''.last, t'', ()), (e, ()), ()), rfl, hk0 S'' t'' e (her e rfl) (sV (m1.fresh m2 fun g hg => .inr (hf g hg))) hr⟩
 | ok S' =>
  obtain ⟨t', ps', rfl, hH, he, st⟩ := ho;refine ⟨((S'.version, S'.last, t', ()), (0, ()), ()), rfl, hk1 S' t' ⟨t', ps', rfl, hH, he, m1.fresh st.mod fun g hg => .inr (hf g hg), fun g hg => ?_⟩ hr⟩;rcases st.new g hg with e | e
  ·exact hf g e
  ·exact m1.none e (by simp)
end
section
theorem jM {t : BA} (h : named t = true) : t.size ≤ 281474976710656 := by
 unfold named at h;simp only [Bool.and_eq_true, decide_eq_true_eq] at h;omega
theorem HU {v : aK} (h : bD v = true) : v.s.size ≤ 281474976710656 := by
 unfold bD at h
 split at h
 ·simp only [Bool.and_eq_true, decide_eq_true_eq] at h;rw [h.2]; exact Nat.zero_le _
 ·split at h
  ·simp only [decide_eq_true_eq] at h;rw [h]; exact Nat.zero_le _
  ·split at h
   ·simp only [Bool.and_eq_true, decide_eq_true_eq] at h;omega
   ·cases h
theorem BV {v : aK} {k : Int} (h : fits v k = true) : v.s.size ≤ 281474976710656 := by
 unfold fits at h;simp only [Bool.and_eq_true] at h;exact HU h.1
theorem sU {t : BA} {n : Int} (h : ¬ (lE t n ≠ 0)) : t.size ≤ 281474976710656 := by
 refine jM ?_;cases hn : named t
 ·exact absurd (by unfold lE; rw [if_pos hn]; decide) h
 ·rfl
theorem o9 {α : Type} {l : List α} {k : Nat} {st : Int} {x' y : α} (h : y ∈ lI l k st x') : y ∈ l ∨ y = x' := by
 unfold lI at h
 split at h
 ·exact .inl (List.mem_of_mem_eraseIdx h)
 ·exact List.mem_or_eq_of_mem_set h
theorem qH {α : Type} {l : List α} {k : Nat} {st : Int} {x' : α} : (lI l k st x').length ≤ l.length := DI
theorem FO {α : Type} {f : α → Nat} {b : Nat} : ∀ (l : List α), (∀ x ∈ l, f x ≤ b) → (l.map f).sum ≤ l.length * b
 | [], _ => by simp
 | x :: l, h => by
  have h1 := h x (by simp);have h2 := FO l fun y hy => h y (by simp [hy]);simp only [List.map_cons, List.sum_cons, List.length_cons, Nat.succ_mul];omega
theorem Iq {S : aD} (h : ∀ T ∈ S.tabs, T.Sm ∧ T.cost ≤ 28) (hl : S.tabs.length ≤ 10) : S.Sm := by
 refine ⟨fun T hT => (h T hT).1, ?_⟩;have := FO (f := aG.cost) (b := 28) S.tabs fun T hT => (h T hT).2;unfold aD.cost;omega
theorem HG {S : aD} (h : right S = true) : ∀ T ∈ S.tabs, T.Sm ∧ T.cost ≤ 25 ∧ T.cols.length ≤ 8 ∧ T.idxs.length ≤ 8 ∧ T.keys.length ≤ 8 := by
 obtain ⟨a, b, c, d, e⟩ := eI.1 h;intro T hT;obtain ⟨i, hi⟩ := List.mem_iff_getElem?.1 hT;obtain ⟨l1, l2, l3, l4, n1, n2, n3, _, c1, _, _⟩ := gD.1 (cx.1 d i T hi);have hn := cx.1 c i T hi;unfold dH at hn;simp only [Bool.and_eq_true] at hn;refine ⟨⟨jM hn.1, fun x hx => ?_, fun x hx => ?_, fun x hx => ?_⟩, by unfold aG.cost; omega, l2, l3, l4⟩
 ·obtain ⟨j, hj⟩ := List.mem_iff_getElem?.1 hx;have g1 := cx.1 n1 j x hj;have g2 := cx.1 c1 j x hj;unfold eD at g1;unfold fU at g2;simp only [Bool.and_eq_true] at g1 g2;exact ⟨jM g1.1, BV g2.2.2⟩
 ·obtain ⟨j, hj⟩ := List.mem_iff_getElem?.1 hx;have g1 := cx.1 n2 j x hj;unfold eN at g1;simp only [Bool.and_eq_true] at g1;exact jM g1.1
 ·obtain ⟨j, hj⟩ := List.mem_iff_getElem?.1 hx;have g1 := cx.1 n3 j x hj;unfold eM at g1;simp only [Bool.and_eq_true] at g1;exact jM g1.1
theorem wV : ∀ (l : List cw) (n : Int), (∀ c ∈ l, c.name.size ≤ 281474976710656) → ∀ c ∈ eR n l, c.Sm
 | [], n, _ => by simp [eR]
 | d :: l, n, h => by
  intro c hc;simp only [eR, List.mem_cons] at hc;rcases hc with rfl | hc
  ·exact ⟨h d (by simp), Nat.zero_le _⟩
  ·exact wV l _ (fun x hx => h x (by simp [hx])) c hc
def gT.vz (r : gT) : Prop := ∀ S', r = .ok S' → S'.Sm
theorem cm {c : Prop} [Decidable c] {a b : gT} (ha : c → a.vz) (hb : ¬ c → b.vz) : gT.vz (if c then a else b) := by
 by_cases h : c
 ·rw [if_pos h]; exact ha h
 ·rw [if_neg h]; exact hb h
theorem cQ {e : Int} : gT.vz (.error e) := fun S' h' => by cases h'
theorem pG {S : aD} (h : S.Sm) : gT.vz (.ok S) := fun e' h' => by cases h'; exact h
theorem oe {S : aD} {v l : Int} {i : Nat} {T T' : aG} (h : ∀ T ∈ S.tabs, T.Sm ∧ T.cost ≤ 25 ∧ T.cols.length ≤ 8 ∧ T.idxs.length ≤ 8 ∧ T.keys.length ≤ 8) (hl : S.tabs.length ≤ 6) (h1 : T'.Sm) (h2 : T'.cost ≤ 28) : aD.Sm ⟨v, l, S.tabs.set i T'⟩ := by
 refine Iq (fun U hU => ?_) (by simp; omega);rcases List.mem_or_eq_of_mem_set hU with hU | rfl
 ·obtain ⟨a, b, _⟩ := h U hU; exact ⟨a, by omega⟩
 ·exact ⟨h1, h2⟩
theorem HR {S : aD} {D : nI} {st : Int} (h : ∀ T ∈ S.tabs, T.Sm ∧ T.cost ≤ 25 ∧ T.cols.length ≤ 8 ∧ T.idxs.length ≤ 8 ∧ T.keys.length ≤ 8) (hl : S.tabs.length ≤ 6) : (lA S D st).vz := by
 unfold lA;refine cm (fun _ => ?_) fun _ => cm (fun _ => cQ) fun _ => ?_
 ·unfold cA;refine cm (fun _ => cQ) fun hn => cm (fun _ => cQ) fun _ => cm (fun _ => cQ) fun h8 => cm (fun _ => cQ) fun _ => cm (fun _ => cQ) fun _ => pG ?_
  have hn : (named D.table && D.cols.all fun c => named c.name) = true := by
   cases e : (named D.table && D.cols.all fun c => named c.name)
   ·exact absurd e hn
   ·rfl
  simp only [Bool.and_eq_true, List.all_eq_true] at hn;simp only [Bool.or_eq_true, decide_eq_true_eq] at h8;refine Iq (fun U hU => ?_) (by simp; omega);rcases List.mem_append.1 hU with hU | hU
  ·obtain ⟨a, b, _⟩ := h U hU; exact ⟨a, by omega⟩
  ·have : U = ⟨S.last + 1, D.table, eR (S.last + 2) D.cols, [], []⟩ := by simpa using hU
   subst this;refine ⟨⟨jM hn.1, wV _ _ fun c hc => jM (hn.2 c hc), by simp, by simp⟩, ?_⟩;unfold aG.cost;simp only [l6, List.length_nil];omega
 split
 ·exact cQ
 rename_i T hT
 obtain ⟨hTs, hTc, c8, x8, k8⟩ := h T (List.mem_of_getElem? hT);refine cm (fun _ => ?_) fun _ => cm (fun _ => ?_) fun _ => ?_
 ·unfold q7;refine cm (fun _ => cm (fun _ => cQ) fun hf => cm (fun _ => cQ) fun hk => cm (fun _ => cQ) fun _ => pG ?_) fun _ => cm (fun _ => cQ) fun _ => ?_
  ·have hk : (typed D.type && fits D.dflt D.type) = true := by
    cases e : (typed D.type && fits D.dflt D.type)
    ·exact absurd e hk
    ·rfl
   simp only [Bool.and_eq_true] at hk;refine oe (T := T) h hl ⟨hTs.name, fun x hx => ?_, hTs.idxs, hTs.keys⟩ (by unfold aG.cost; simp only [List.length_append, List.length_singleton]; omega);rcases List.mem_append.1 hx with hx | hx
   ·exact hTs.cols x hx
   ·have : x = ⟨S.last + 1, D.column, D.type, st, D.dflt⟩ := by simpa using hx
    subst this;exact ⟨sU hf, BV hk.2⟩
  ·split
   ·exact cQ
   rename_i x hx
   refine cm (fun _ => cQ) fun _ => cm (fun _ => cQ) fun _ => pG ?_;have hp := qH (l := T.cols) (k := (fK T D.column).toNat) (st := st) (x' := x.put st);refine oe (T := T) h hl ⟨hTs.name, fun y hy => ?_, hTs.idxs, hTs.keys⟩ (by unfold aG.cost; dsimp only; omega);rcases o9 hy with hy | rfl
   ·exact hTs.cols y hy
   ·exact hTs.cols x (List.mem_of_getElem? hx)
 ·unfold q9;refine cm (fun _ => cm (fun _ => cQ) fun hf => cm (fun _ => cQ) fun hk => cm (fun _ => cQ) fun _ => ?_) fun _ => cm (fun _ => cQ) fun _ => ?_
  ·split
   ·exact cQ
   rename_i c hc
   refine pG (oe (T := T) h hl ⟨hTs.name, hTs.cols, fun x hx => ?_, hTs.keys⟩ (by unfold aG.cost; simp only [List.length_append, List.length_singleton]; omega));rcases List.mem_append.1 hx with hx | hx
   ·exact hTs.idxs x hx
   ·have : x = ⟨S.last + 1, D.name, c.id, D.unique, st⟩ := by simpa using hx
    subst this;exact sU hf
  ·split
   ·exact cQ
   rename_i x hx
   refine cm (fun _ => cQ) fun _ => pG ?_;have hp := qH (l := T.idxs) (k := (j5 T D.name).toNat) (st := st) (x' := x.put st);refine oe (T := T) h hl ⟨hTs.name, hTs.cols, fun y hy => ?_, hTs.keys⟩ (by unfold aG.cost; dsimp only; omega);rcases o9 hy with hy | rfl
   ·exact hTs.idxs y hy
   ·exact hTs.idxs x (List.mem_of_getElem? hx)
 ·unfold rq;refine cm (fun _ => cm (fun _ => cQ) fun hf => cm (fun _ => cQ) fun hk => cm (fun _ => cQ) fun _ => ?_) fun _ => cm (fun _ => cQ) fun _ => ?_
  ·split
   ·rename_i c P hc hP
    split
    ·exact cQ
    ·refine cm (fun _ => cQ) fun _ => cm (fun _ => cQ) fun _ => pG (oe (T := T) h hl ⟨hTs.name, hTs.cols, hTs.idxs, fun x hx => ?_⟩ (by unfold aG.cost; simp only [List.length_append, List.length_singleton]; omega));rcases List.mem_append.1 hx with hx | hx
     ·exact hTs.keys x hx
     ·have : x = ⟨S.last + 1, D.name, c.id, P.id, st⟩ := by simpa using hx
      subst this;exact sU hf
   ·exact cQ
  ·split
   ·exact cQ
   rename_i x hx
   refine cm (fun _ => cQ) fun _ => pG ?_;have hp := qH (l := T.keys) (k := (jG T D.name).toNat) (st := st) (x' := x.put st);refine oe (T := T) h hl ⟨hTs.name, hTs.cols, hTs.idxs, fun y hy => ?_⟩ (by unfold aG.cost; dsimp only; omega);rcases o9 hy with hy | rfl
   ·exact hTs.keys y hy
   ·exact hTs.keys x (List.mem_of_getElem? hx)
theorem Dc : eO.Sm := ⟨by simp, by simp [aD.cost]⟩
theorem JA (S : aD) (D : nI) (st : Int) : (S.kY D st).1.Sm := by
 unfold aD.kY
 by_cases hr : (right S && (decide (0 ≤ st) && decide (st ≤ 3))) = false
 ·rw [if_pos hr]; exact Dc
 rw [if_neg hr]
 have hr : right S = true := by
  cases e : right S
  ·rw [e] at hr; exact absurd rfl hr
  ·rfl
 split
 ·exact Dc
 ·have := HR (S := { S with version := S.version + 1 }) (D := D) (st := st) (fun T hT => HG hr T hT) (eI.1 hr).2.1
  cases e : lA { S with version := S.version + 1 } D st with
  | error e => exact Dc
  | ok S' => exact this S' e
theorem aD.Sm.cO {S : aD} (h : S.Sm) : S.tabs.length ≤ 4294967296 ∧ ∀ T ∈ S.tabs, T.JF := by
 have hc := h.cost;unfold aD.cost at hc
 have key : ∀ l : List aG, l.length ≤ (l.map aG.cost).sum ∧ ∀ T ∈ l, T.cost ≤ (l.map aG.cost).sum := by
  intro l
  induction l with
  | nil => simp
  | cons a l ih =>
   simp only [List.map_cons, List.sum_cons, List.length_cons]
   have ha : 1 ≤ a.cost := by unfold aG.cost; omega
   refine ⟨by have := ih.1; omega, fun T hT => ?_⟩;rcases List.mem_cons.1 hT with rfl | hT
   ·omega
   ·have := ih.2 T hT; omega
 obtain ⟨k1, k2⟩ := key S.tabs;refine ⟨by omega, fun T hT => ?_⟩;have := k2 T hT;have hT2 : T.cost = 1 + T.cols.length + T.idxs.length + T.keys.length := rfl;exact ⟨by omega, by omega, by omega⟩
theorem Has.sm {s : PH} {t : aP} {ps : List aC} {S : aD} (h : Has s t ps) (he : S.tabs = ps.map (·.T)) (hs : S.Sm) : dP s t S ps := h.is he hs.cO.1 hs.cO.2
end
section
attribute [-simp] Fw.W.bC Fw.W.bA
def nu : Rd aK := (Rd.pair (Rd.int .i64) (Rd.pair (Rd.int .i64) (Rd.pair Rd.str Rd.unit))).map fun x => ⟨x.1, x.2.1, x.2.2.1⟩
def yH : Rd cw := (Rd.pair (Rd.int .i64) (Rd.pair Rd.str (Rd.pair (Rd.int .i64) (Rd.pair (Rd.int .i64) (Rd.pair nu Rd.unit))))).map fun x => ⟨x.1, x.2.1, x.2.2.1, x.2.2.2.1, x.2.2.2.2.1⟩
def yJ : Rd ez := (Rd.pair (Rd.int .i64) (Rd.pair Rd.str (Rd.pair (Rd.int .i64) (Rd.pair Rd.bool (Rd.pair (Rd.int .i64) Rd.unit))))).map fun x => ⟨x.1, x.2.1, x.2.2.1, x.2.2.2.1, x.2.2.2.2.1⟩
def yI : Rd For := (Rd.pair (Rd.int .i64) (Rd.pair Rd.str (Rd.pair (Rd.int .i64) (Rd.pair (Rd.int .i64) (Rd.pair (Rd.int .i64) Rd.unit))))).map fun x => ⟨x.1, x.2.1, x.2.2.1, x.2.2.2.1, x.2.2.2.2.1⟩
def yL : Rd aG := (Rd.pair (Rd.int .i64) (Rd.pair Rd.str (Rd.pair (Rd.sl yH 72) (Rd.pair (Rd.sl yJ 48) (Rd.pair (Rd.sl yI 48) Rd.unit))))).map fun x => ⟨x.1, x.2.1, x.2.2.1, x.2.2.2.1, x.2.2.2.2.1⟩
def yK : Rd aD := (Rd.pair (Rd.int .i64) (Rd.pair (Rd.int .i64) (Rd.pair (Rd.sl yL 96) Rd.unit))).map fun x => ⟨x.1, x.2.1, x.2.2.1⟩
theorem kj : cZ Tryz.prog 3 (Rd.int .i64) := w4 Tryz.underlying3 (by kernel_rfl)
theorem Aa : cZ Tryz.prog 9 Rd.str := Fv Tryz.underlying9 (by kernel_rfl)
theorem Ly : cZ Tryz.prog 4 Rd.bool := DG Tryz.underlying4 (by kernel_rfl)
theorem DF : cZ Tryz.prog 28 nu := gV _ (fj (.cons rfl kj (.cons rfl (w4 Tryz.underlying2 (by kernel_rfl)) (.cons rfl Aa (.nil _)))) Tryz.underlying28 (by kernel_rfl))
theorem Lh : cZ Tryz.prog 165 yH := gV _ (fj (.cons rfl kj (.cons rfl Aa (.cons rfl kj (.cons rfl kj (.cons rfl DF (.nil _)))))) Tryz.underlying165 (by kernel_rfl))
theorem KQ : cZ Tryz.prog 170 yJ := gV _ (fj (.cons rfl kj (.cons rfl Aa (.cons rfl kj (.cons rfl Ly (.cons rfl kj (.nil _)))))) Tryz.underlying170 (by kernel_rfl))
theorem KR : cZ Tryz.prog 173 yI := gV _ (fj (.cons rfl kj (.cons rfl Aa (.cons rfl kj (.cons rfl kj (.cons rfl kj (.nil _)))))) Tryz.underlying173 (by kernel_rfl))
theorem Ld : cZ Tryz.prog 29 (Rd.sl yH 72) := kV Lh Tryz.underlying29 (by kernel_rfl) (by kernel_rfl)
theorem Le : cZ Tryz.prog 136 (Rd.sl yJ 48) := kV KQ Tryz.underlying136 (by kernel_rfl) (by kernel_rfl)
theorem Lf : cZ Tryz.prog 137 (Rd.sl yI 48) := kV KR Tryz.underlying137 (by kernel_rfl) (by kernel_rfl)
theorem Lg : cZ Tryz.prog 139 yL := gV _ (fj (.cons rfl kj (.cons rfl Aa (.cons rfl Ld (.cons rfl Le (.cons rfl Lf (.nil _)))))) Tryz.underlying139 (by kernel_rfl))
theorem Lb : cZ Tryz.prog 41 (Rd.sl yL 96) := kV Lg Tryz.underlying41 (by kernel_rfl) (by kernel_rfl)
theorem Lc : cZ Tryz.prog 43 yK := gV _ (fj (.cons rfl kj (.cons rfl kj (.cons rfl Lb (.nil _)))) Tryz.underlying43 (by kernel_rfl))
theorem FG : reachBytes ≤ 281474976710656 := by decide
theorem HD {s : PH} {cs : List Value} {v : aK} (h : nu.is s cs v) : cs = [.int .i64 v.kind, .int .i64 v.n, .string v.s] ∧ v.s.size ≤ 281474976710656 := by
 obtain ⟨x, rfl, c1, c2, rfl, ⟨rfl, _⟩, d1, d2, rfl, ⟨rfl, _⟩, e1, e2, rfl, ⟨rfl, h3⟩, rfl⟩ := h;exact ⟨rfl, Nat.le_trans h3 FG⟩
theorem Hy {s : PH} {cs : List Value} {c : cw} (h : yH.is s cs c) : cs = dD.f c ∧ c.Sm := by
 obtain ⟨x, rfl, c1, c2, rfl, ⟨rfl, _⟩, d1, d2, rfl, ⟨rfl, h2⟩, e1, e2, rfl, ⟨rfl, _⟩, f1, f2, rfl, ⟨rfl, _⟩, g1, g2, rfl, h5, rfl⟩ := h;obtain ⟨rfl, h6⟩ := HD h5;exact ⟨rfl, Nat.le_trans h2 FG, h6⟩
theorem HA {s : PH} {cs : List Value} {c : ez} (h : yJ.is s cs c) : cs = j6.f c ∧ c.name.size ≤ 281474976710656 := by
 obtain ⟨x, rfl, c1, c2, rfl, ⟨rfl, _⟩, d1, d2, rfl, ⟨rfl, h2⟩, e1, e2, rfl, ⟨rfl, _⟩, f1, f2, rfl, rfl, g1, g2, rfl, ⟨rfl, _⟩, rfl⟩ := h;exact ⟨rfl, Nat.le_trans h2 FG⟩
theorem Hz {s : PH} {cs : List Value} {c : For} (h : yI.is s cs c) : cs = lS.f c ∧ c.name.size ≤ 281474976710656 := by
 obtain ⟨x, rfl, c1, c2, rfl, ⟨rfl, _⟩, d1, d2, rfl, ⟨rfl, h2⟩, e1, e2, rfl, ⟨rfl, _⟩, f1, f2, rfl, ⟨rfl, _⟩, g1, g2, rfl, ⟨rfl, _⟩, rfl⟩ := h;exact ⟨rfl, Nat.le_trans h2 FG⟩
structure mU {α : Type} (E : cK α) (s : PH) (t : aP) (xs : List α) : Prop where
 el : elems (Rd.enc E) s t.1 t.2.1 xs
 le : t.2.1 ≤ t.2.2
 big : xs.length ≤ 4398046511104
theorem mU.cO {α : Type} {E : cK α} {s : PH} {t : aP} {xs : List α} (h : mU E s t xs) (hl : xs.length ≤ 4294967296) : Sl E s t xs := ⟨h.el, h.le, hl⟩
theorem wo {α : Type} {R : Rd α} {E : cK α} {P : α → Prop} {bytes : Nat} {s : PH} {cs : List Value} {xs : List α} (hb : 48 ≤ bytes) (hz : R.sz = E.sz) (hi : ∀ cs x, R.is s cs x → cs = E.f x ∧ P x) (h : (Rd.sl R bytes).is s cs xs) :
  ∃ t : aP, cs = [t.v] ∧ mU E s t xs ∧ ∀ x ∈ xs, P x := by
 obtain ⟨a, n, c, rfl, h1, h2, h3, h4⟩ := h;refine ⟨(a, n, c), rfl, ⟨h4.imp hz fun cs x hx => (hi cs x hx).1, h1, ?_⟩, fun x hx => ?_⟩
 ·have hr : reachBytes = 140737488351232 := rfl;have : c * 48 ≤ c * bytes := Nat.mul_le_mul_left _ hb;have := h4.1;omega
 ·obtain ⟨i, hi2⟩ := List.mem_iff_getElem?.1 hx;obtain ⟨ad, cs', _, h6, _⟩ := h4.2 i x hi2;exact (hi cs' x h6).2
structure F8 (s : PH) (p : aC) : Prop where
 c : mU dD s p.c p.T.cols
 x : mU j6 s p.x p.T.idxs
 k : mU lS s p.k p.T.keys
structure yQ (s : PH) (t : aP) (S : aD) (ps : List aC) : Prop where
 el : mU ja s t ps
 eq : S.tabs = ps.map (·.T)
 all : ∀ p ∈ ps, F8 s p
theorem HC {s : PH} {cs : List Value} {T : aG} (h : yL.is s cs T) : ∃ p : aC, p.T = T ∧ cs = ja.f p ∧ F8 s p ∧ T.Sm := by
 obtain ⟨x, rfl, c1, c2, rfl, ⟨rfl, _⟩, d1, d2, rfl, ⟨rfl, h2⟩, e1, e2, rfl, h3, f1, f2, rfl, h4, g1, g2, rfl, h5, rfl⟩ := h;obtain ⟨t1, rfl, k1, n1⟩ := wo (by omega) rfl (fun cs x hx => Hy hx) h3;obtain ⟨t2, rfl, k2, n2⟩ := wo (by omega) rfl (fun cs x hx => HA hx) h4;obtain ⟨t3, rfl, k3, n3⟩ := wo (by omega) rfl (fun cs x hx => Hz hx) h5;exact ⟨⟨_, t1, t2, t3⟩, rfl, rfl, ⟨k1, k2, k3⟩, ⟨Nat.le_trans h2 FG, n1, n2, n3⟩⟩
theorem rY : ∀ (l : List aG) (Q : Nat → aC → Prop), (∀ i T, l[i]? = some T → ∃ p : aC, p.T = T ∧ Q i p) → ∃ ps : List aC, ps.map (·.T) = l ∧ ∀ i p, ps[i]? = some p → Q i p
 | [], Q, _ => ⟨[], rfl, fun i p h => by simp at h⟩
 | T :: l, Q, h => by
  obtain ⟨p, hp, hq⟩ := h 0 T rfl;obtain ⟨ps, he, hr⟩ := rY l (fun i => Q (i + 1)) fun i T' hT => h (i + 1) T' hT;refine ⟨p :: ps, by simp [hp, he], fun i q hi => ?_⟩
  cases i with
  | zero => simp at hi; subst hi; exact hq
  | succ i => exact hr i q hi
theorem HB {s : PH} {cs : List Value} {S : aD} (h : yK.is s cs S) : ∃ t ps, cs = [.int .i64 S.version, .int .i64 S.last, .slice t.1 t.2.1 t.2.2] ∧ yQ s t S ps ∧ ∀ T ∈ S.tabs, T.Sm := by
 obtain ⟨x, rfl, c1, c2, rfl, ⟨rfl, _⟩, d1, d2, rfl, ⟨rfl, _⟩, e1, e2, rfl, ⟨a, n, c, rfl, h1, h2, h3, h4⟩, rfl⟩ := h
 obtain ⟨ps, he, hq⟩ := rY x.2.2.1 (fun i p => (∃ ad, a = some ad ∧ s.has (ad.add (i * 5)) (ja.f p)) ∧ F8 s p ∧ p.T.Sm) fun i T hT => by
  obtain ⟨ad, cs, k1, k2, k3⟩ := h4.2 i T hT;obtain ⟨p, rfl, rfl, k4, k5⟩ := HC k2;exact ⟨p, rfl, ⟨ad, k1, k3⟩, k4, k5⟩
 have hlen : ps.length = n := by rw [h4.1, ← he, List.length_map]
 refine ⟨(a, n, c), ps, rfl, ⟨⟨⟨hlen.symm, fun i p hp => ?_⟩, h1, ?_⟩, he.symm, fun p hp => ?_⟩, fun T hT => ?_⟩
 ·obtain ⟨⟨ad, k1, k2⟩, _⟩ := hq i p hp;exact ⟨ad, _, k1, rfl, k2⟩
 ·have hr : reachBytes = 140737488351232 := rfl;omega
 ·obtain ⟨i, hi⟩ := List.mem_iff_getElem?.1 hp;exact (hq i p hi).2.1
 ·rw [show (aD.mk x.1 x.2.1 x.2.2.1).tabs = ps.map (·.T) from he.symm] at hT;obtain ⟨p, hp, rfl⟩ := List.mem_map.1 hT;obtain ⟨i, hi⟩ := List.mem_iff_getElem?.1 hp;exact (hq i p hi).2.2
def iM (l : List aG) : Nat := (l.map fun T => T.cols.length + T.idxs.length + T.keys.length).sum
theorem F2 {l : List aG} {k : Nat} {T : aG} (h : l[k]? = some T) : iM (l.take (k + 1)) = iM (l.take k) + (T.cols.length + T.idxs.length + T.keys.length) := by
 unfold iM; rw [List.take_add_one, h]; simp
abbrev bs (l : List UInt8) : BA := ⟨l.toArray⟩
abbrev emp : BA := ⟨#[]⟩
def kH : nI := ⟨1, bs [116], emp, emp, emp, false, 0, ⟨0, 0, emp⟩, [⟨0, bs [97], 1, 0, ⟨0, 0, emp⟩⟩, ⟨0, bs [98], 2, 0, ⟨0, 0, emp⟩⟩]⟩
def gL : aD := ⟨1, 3, [⟨1, bs [116], [⟨2, bs [97], 1, 3, ⟨0, 0, emp⟩⟩, ⟨3, bs [98], 2, 3, ⟨0, 0, emp⟩⟩], [], []⟩]⟩
theorem Lt : eO.kY kH 3 = (gL, 0) := by kernel_rfl
theorem Ed (s : PH) : ah 28 #[] s fun y s' => ∃ u : aP, y = GC kH u ∧ Sl dD s' u kH.cols ∧ Fw.Mod [] s s' := by
 refine Df _ s ?_;unfold uR;simp only [cG, aO, aT, bS, aE, cj, dg, gX, bH, aM, aR, aQ, mA, qe, mj, nL, W.ay];refine W.bK fun r s1 hr m1 k1 => ?_;refine ⟨(some ⟨r, 0, none⟩, 2, 2), rfl, ⟨⟨rfl, fun i x hx => ?_⟩, Nat.le_refl _, by decide⟩, m1⟩;refine ⟨⟨r, 0, none⟩, _, rfl, rfl, ?_⟩;have hb := jP k1;have hz : (Rd.enc dD).sz = 7 := rfl;rw [hz]
 match i with
 | 0 =>
  simp [kH] at hx; subst hx;have := PH.has.sub (l1 := []) (l2 := dD.f ⟨0, bs [97], 1, 0, ⟨0, 0, emp⟩⟩) (l3 := dD.f ⟨0, bs [98], 2, 0, ⟨0, 0, emp⟩⟩) hb;exact this
 | 1 =>
  simp [kH] at hx; subst hx;have := PH.has.sub (l1 := dD.f ⟨0, bs [97], 1, 0, ⟨0, 0, emp⟩⟩) (l2 := dD.f ⟨0, bs [98], 2, 0, ⟨0, 0, emp⟩⟩) (l3 := []) hb;exact this
 | i + 2 => simp [kH] at hx
theorem GG {s : PH} {S' : aD} {e : Int} {y : Value} {s' : PH} (h : oF s S' e y s') (hs : S'.Sm) : ∃ t ps, y = .tuple #[eV S' t, .int .i64 e] ∧ dP s' t S' ps ∧ Has s' t ps ∧ Fw.Mod [] s s' ∧ ∀ g ∈ iN t ps, s g = none := by
 obtain ⟨t, ps, rfl, hH, he, m, hf⟩ := h;exact ⟨t, ps, rfl, hH.sm he hs, hH, m, hf⟩
end
section
attribute [-simp] Fw.W.bC Fw.W.bA
theorem wA {α : Type} (p : α → Bool) : ∀ l : List α, l.takeWhile p = l.take (l.takeWhile p).length ∧ l.dropWhile p = l.drop (l.takeWhile p).length
 | [] => ⟨rfl, rfl⟩
 | a :: l => by
  obtain ⟨h1, h2⟩ := wA p l
  by_cases h : p a = true
  ·rw [List.takeWhile_cons_of_pos h, List.dropWhile_cons_of_pos h];exact ⟨by rw [List.length_cons, List.take_succ_cons, ← h1], by rw [List.length_cons, List.drop_succ_cons]; exact h2⟩
  ·rw [List.takeWhile_cons_of_neg h, List.dropWhile_cons_of_neg h]; exact ⟨rfl, rfl⟩
theorem DX {α : Type} {p : α → Bool} : ∀ {l : List α} {i : Nat} {x : α}, i ≤ (l.takeWhile p).length → l[i]? = some x → (p x = true ↔ i < (l.takeWhile p).length)
 | [], i, x, _, h => by simp at h
 | a :: l, i, x, hi, h => by
  by_cases hp : p a = true
  ·rw [List.takeWhile_cons_of_pos hp] at hi ⊢
   cases i with
   | zero => simp at h; subst h; simp [hp]
   | succ i =>
    have := DX (p := p) (l := l) (i := i) (x := x) (by simp at hi; omega) (by simpa using h);rw [this, List.length_cons]; omega
  ·rw [List.takeWhile_cons_of_neg hp] at hi ⊢
   have : i = 0 := by simpa using hi
   subst this;simp at h; subst h; simp [hp]
theorem KU {α : Type} (p : α → Bool) (l : List α) : (l.takeWhile p).length ≤ l.length := by
 have := congrArg List.length (List.takeWhile_append_dropWhile (p := p) (l := l));rw [List.length_append] at this; omega
theorem rS {ts : Int} : ∀ {ws : List Wr} {l : List Ht} {a : Ht}, a ∈ aq ts l ws → (∃ x ∈ ws, a = ⟨x.key, ts, x.val⟩) ∨ a ∈ l
 | [], l, a, h => .inr h
 | x :: ws, l, a, h => by
  rcases rS (ws := ws) h with ⟨y, hy, e⟩ | h
  ·exact .inl ⟨y, List.mem_cons_of_mem _ hy, e⟩
  ·unfold eA at h;rw [List.mem_append, List.mem_append] at h;rcases h with (h | h) | h
   ·exact .inr (List.takeWhile_subset _ h)
   ·unfold gO at h
    split at h
    ·simp at h
    ·simp at h; exact .inl ⟨x, List.mem_cons_self, h⟩
   ·exact .inr ((List.dropWhile_sublist (fun h : Ht => bO h.key x.key) (l := l)).subset (List.mem_filter.1 h).1)
def Af (ts : Int) (l : List Ht) (x : Wr) (b : Bool) (i : Nat) (o : List Ht) : Prop :=
 (b = false ∧ i ≤ (l.takeWhile fun h => bO h.key x.key).length ∧ o = l.take i) ∨
 (b = true ∧ (l.takeWhile fun h => bO h.key x.key).length < i ∧ o = l.take (l.takeWhile fun h => bO h.key x.key).length ++ gO ts x ++ ((l.take i).drop (l.takeWhile fun h => bO h.key x.key).length).filter fun h => decide (h.key ≠ x.key))
theorem CM {s : PH} {a b : OA} {n c m d : Nat} {l : List Ht} {ws : List Wr} (h : Sl bl s (a, n, c) l) (hw : Sl jz s (b, m, d) ws) (ts : Int) (hk : ∀ x ∈ l, x.key.size ≤ 281474976710656) (hwk : ∀ x ∈ ws, x.key.size ≤ 281474976710656) (hn : l.length ≤ 1000000000) (hm : ws.length ≤ 1000000000) :
  ah 21 #[.slice a n c, .slice b m d, .int .i64 ts] s fun y s' => ∃ a' n' c', y = .slice a' n' c' ∧ Gw bl 75 s s' a' n' c' (aq ts l ws) := by
 refine Bs a n c b m d ts _ s ?_;unfold se;have hln : n = l.length := h.len;have hlm : m = ws.length := hw.len;simp only [cj, dg, aQ, aO, cG, aR, aM, bH, bS, aE];refine W.bK fun r0 s1 hr0 m1 k1 => ?_
 have hrow0 : bp bl s1 75 (some ⟨r0, 0, none⟩) 0 0 [] := ⟨rfl, Nat.le_refl _, by show 0 ≤ 9223372036854775807; omega, .inr ⟨r0, #[], rfl, k1, by simp, rfl⟩⟩
 have hmax : maxLen = 9223372036854775807 := rfl;refine iU (E := bl) (k := n) (ys := l) hrow0 rfl (h.mono m1.le).el.kX rfl hln.symm (by omega) (by omega) ?_;intro a1 c1 s2 hrow1 hm1;rw [List.nil_append, Nat.zero_add] at hrow1
 have g1 : Gw bl 75 s s2 a1 n c1 l := by
  rcases hm1 with ⟨rfl, hmd⟩ | ⟨g, rfl, hg, hmd⟩
  ·exact ⟨hrow1, by simp [Fw.aU, hr0], m1.fresh hmd (by simp [Fw.aU, hr0])⟩
  ·exact ⟨hrow1, by simp [Fw.aU]; exact m1.none hg (by simp), m1.trans hmd⟩
 rw [Nat.zero_add];refine ⟨fun z s' => ∃ (j : Nat) (a1 : OA) (n1 c1 : Nat), z = (((a1, n1, c1), ()), ((j : Int), ()), ()) ∧ j ≤ m ∧ Gw bl 75 s s' a1 n1 c1 (aq ts l (ws.take j)), fun z _ => m - z.2.1.1.toNat, ⟨0, a1, n, c1, rfl, Nat.zero_le _, g1⟩, ?_⟩;rintro _ s3 ⟨j, a3, n3, c3, rfl, hj, hG3⟩;dsimp only;refine aI (fun e => ?_) fun e => ?_;rotate_left
 ·have e : ¬ (j : Int) < (m : Int) := of_decide_eq_false e;rw [List.take_of_length_le (by omega)] at hG3;exact ⟨a3, n3, c3, rfl, hG3⟩
 have hlj : (j : Int) < (m : Int) := of_decide_eq_true e
 obtain ⟨x, hx⟩ : ∃ x, ws[j]? = some x := ⟨_, List.getElem?_eq_getElem (by omega)⟩
 obtain ⟨L, hL⟩ : ∃ L, aq ts l (ws.take j) = L := ⟨_, rfl⟩
 rw [hL] at hG3;have hn3 := hG3.row.len
 have hLl : L.length ≤ l.length + j := by
  have := oM ts (ws.take j) l;rw [hL, List.length_take] at this;omega
 have hLk : ∀ y ∈ L, y.key.size ≤ 281474976710656 := fun y hy => by
  rw [← hL] at hy;rcases rS hy with ⟨z, hz, rfl⟩ | hy
  ·exact hwk z (List.mem_of_mem_take hz)
  ·exact hk y hy
 have hnext : aq ts l (ws.take (j + 1)) = eA ts L x := by
  rw [← hL]
  show List.foldl (eA ts) l (ws.take (j + 1)) = _
  rw [oW (eA ts) l hx]; (first | done | rfl)
 obtain ⟨tw, htw⟩ : ∃ tw, (L.takeWhile fun h => bO h.key x.key).length = tw := ⟨_, rfl⟩
 have htwl : tw ≤ L.length := by rw [← htw]; exact KU _ _
 refine ⟨fun z s' => ∃ (i : Nat) (b2 : Bool) (o : List Ht) (a4 : OA) (n4 c4 : Nat), z = (((a3, n3, c3), ()), ((j : Int), ()), ((a4, n4, c4), ()), (b2, ()), ((i : Int), ()), ()) ∧ i ≤ n3 + 1 ∧ Gw bl 75 s3 s' a4 n4 c4 o ∧ Af ts L x b2 i o ∧ n4 ≤ i + 1, fun z _ => n3 + 1 - z.2.2.2.2.1.1.toNat,
  ⟨0, false, [], none, 0, 0, rfl, Nat.zero_le _, Gw.nil (Mod.refl _ _), .inl ⟨rfl, Nat.zero_le _, rfl⟩, by omega⟩, ?_⟩
 rintro _ s4 ⟨i, b2, o, a4, n4, c4, rfl, hi, hG4, hout, hn4i⟩;dsimp only;have m34 := hG4.md;unfold Af at hout;rw [htw] at hout;refine aI (fun e => ?_) fun e => ?_;rotate_left
 ·have e : ¬ (i : Int) ≤ (n3 : Int) := of_decide_eq_false e;rw [ai (k := j) (by omega)];refine ⟨⟨j + 1, a4, n4, c4, rfl, by omega, ?_⟩, by simp only [Int.toNat_natCast]; omega⟩;rw [hnext];rcases hout with ⟨_, h2, _⟩ | ⟨_, _, h3⟩
  ·omega
  ·have : eA ts L x = o := by
    unfold eA;rw [(wA (fun h : Ht => bO h.key x.key) L).1, (wA (fun h : Ht => bO h.key x.key) L).2, htw, h3, List.take_of_length_le (show L.length ≤ i by omega)]
   rw [this];exact hG4.since hG3.md
 have hli : (i : Int) ≤ (n3 : Int) := of_decide_eq_true e;obtain ⟨ab, hab, hhb⟩ := (hw.mono (hG3.md.trans m34).le).el.aA hx;dsimp only at hab;subst hab;have hhb : s4.has (ab.add (j * 3)) (jz.f x) := hhb
 have gj : (0 : Int) ≤ (j : Int) ∧ (j : Int) < (m : Int) := ⟨Int.natCast_nonneg j, hlj⟩
 -- has the new one its place here?
 obtain ⟨pl, hpl⟩ : ∃ pl : Bool, (!b2 && decide (i = tw)) = pl := ⟨_, rfl⟩
 refine W.bx (fun z s' => ∃ (o2 : List Ht) (a5 : OA) (n5 c5 : Nat), z = (((a3, n3, c3), ()), ((j : Int), ()), ((a5, n5, c5), ()), ((b2 || pl), ()), ((i : Int), ()), ()) ∧ Gw bl 75 s3 s' a5 n5 c5 o2 ∧ n5 ≤ n4 + 1 ∧ o2 = (if pl = true then o ++ gO ts x else o) ∧ (pl = true → n5 ≤ n4 + 1)) ?_ ?_;rotate_left
 ·intro J hJ;refine W.bx (fun z s' => z = (((a3, n3, c3), ()), ((j : Int), ()), ((a4, n4, c4), ()), (b2, ()), ((i : Int), ()), (pl, ()), ()) ∧ s4 = s') ?_ ?_;rotate_left
  ·intro J2 hJ2;refine aI (fun e2 => ?_) fun e2 => ?_
   ·have e2 : b2 = false := by simpa using e2
    have hitw : i ≤ tw := by
     rcases hout with ⟨_, h2, _⟩ | ⟨h1, _⟩
     ·exact h2
     ·rw [e2] at h1; cases h1
    refine aI (fun e3 => ?_) fun e3 => ?_
    ·have e3 : (i : Int) = (n3 : Int) := eq_of_beq e3;refine hJ2 _ _ ⟨?_, rfl⟩;rw [← hpl, e2, decide_eq_true (show i = tw by omega)]; (first | done | rfl)
    ·have e3 : ¬ (i : Int) = (n3 : Int) := by simpa using e3
     obtain ⟨y, hy⟩ : ∃ y, L[i]? = some y := ⟨_, List.getElem?_eq_getElem (by omega)⟩
     obtain ⟨g, rfl, hh⟩ := (hG3.row.mod m34 (by simp)).at hy;refine bF ⟨Int.natCast_nonneg i, by omega⟩ ?_;simp only [dj, Int.toNat_natCast, bf, Nat.zero_add];have hh : s4.has ⟨g, i * 3, none⟩ (bl.f y) := hh;refine bq (A := ⟨g, i * 3, none⟩) (j := 0) hh (y := (y.key, ())) rfl ?_;refine bF gj ?_;refine bq (j := 0) hhb (y := (x.key, ())) rfl ?_;refine W.cr ((cS y.key x.key, ()), ()) (mW y.key x.key (by have := hLk y (List.mem_of_getElem? hy); omega) s4) rfl ?_;refine hJ2 _ _ ⟨?_, rfl⟩;have h1 := DX (p := fun h : Ht => bO h.key x.key) (l := L) (i := i) (x := y) (by rw [htw]; exact hitw) hy;rw [htw] at h1;have h2 := pH y.key x.key
     have : decide (cS y.key x.key ≥ 0) = pl := by
      rw [← hpl, e2];simp only [Bool.not_false, Bool.true_and];rw [decide_eq_decide]
      constructor
      ·intro h3
       have : ¬ cS y.key x.key < 0 := by omega
       have : ¬ i < tw := fun g => this (h2.2 (h1.2 g));omega
      ·intro h3
       have : ¬ cS y.key x.key < 0 := fun g => by have := h1.1 (h2.1 g); omega
       omega
     rw [← this]
   ·have e2 : b2 = true := by simpa using e2
    refine hJ2 _ _ ⟨?_, rfl⟩;rw [← hpl, e2]; (first | done | rfl)
  rintro _ s4 ⟨rfl, rfl⟩;dsimp only;refine aI (fun e2 => ?_) fun e2 => ?_
  ·have e2 : pl = true := e2
   have hb2 : b2 = false := by rw [e2] at hpl; cases b2 <;> simp_all
   refine bF gj ?_;simp only [dj, Int.toNat_natCast];refine bq (j := 2) hhb (y := (x.dead, ())) rfl ?_;dsimp only;refine aI (fun e3 => ?_) fun e3 => ?_
   ·have e3 : x.dead = false := by simpa using e3
    have hnew : gO ts x = [⟨x.key, ts, x.val⟩] := by unfold gO; rw [e3]; (first | done | rfl)
    refine bF gj ?_;refine bq (j := 0) hhb (y := (x.key, ())) rfl ?_;refine bF gj ?_;refine bq (j := 1) hhb (y := (x.val, ())) rfl ?_;refine hG4.push [⟨x.key, ts, x.val⟩] (k := 1) rfl rfl rfl (by omega) (by omega) fun a5 c5 s5 h5 => ?_;refine hJ _ _ ⟨o ++ [⟨x.key, ts, x.val⟩], a5, n4 + 1, c5, ?_, h5, Nat.le_refl _, by rw [if_pos e2, hnew], fun _ => Nat.le_refl _⟩;rw [e2, Bool.or_true]
   ·have e3 : x.dead = true := by simpa using e3
    have hnew : gO ts x = [] := by unfold gO; rw [e3]; (first | done | rfl)
    refine hJ _ _ ⟨o, a4, n4, c4, ?_, hG4, by omega, by rw [if_pos e2, hnew, List.append_nil], fun _ => by omega⟩;rw [e2, Bool.or_true]
  ·have e2 : pl = false := e2;refine hJ _ _ ⟨o, a4, n4, c4, ?_, hG4, by omega, by rw [if_neg (by rw [e2]; simp)], fun g => by omega⟩;rw [e2, Bool.or_false]
 rintro _ s5 ⟨o2, a5, n5, c5, rfl, hG5, hn5, ho2, _⟩;dsimp only;have hn4 := hG4.row.len;have hn5l := hG5.row.len;rw [ai (k := i) (by omega)]
 -- the list behind this step
 have hstep : ∀ (o3 : List Ht), o3 = o2 ++ (match L[i]? with | some y => if y.key = x.key then [] else [y] | none => []) → Af ts L x (b2 || pl) (i + 1) o3 := by
  intro o3 h3;unfold Af;rw [htw]
  have htk : ∀ y, L[i]? = some y → L.take (i + 1) = L.take i ++ [y] := fun y hy => by rw [List.take_add_one, hy]; (first | done | rfl)
  rcases hout with ⟨h1, h2, h4⟩ | ⟨h1, h2, h4⟩
  ·cases hp : pl with
   | false =>
    have hlt : i < tw := by
     rw [h1, hp] at hpl
     have : ¬ i = tw := by simpa using hpl
     omega
    obtain ⟨y, hy⟩ : ∃ y, L[i]? = some y := ⟨_, List.getElem?_eq_getElem (by omega)⟩
    have h5 := (DX (p := fun h : Ht => bO h.key x.key) (l := L) (i := i) (x := y) (by rw [htw]; omega) hy).2 (by rw [htw]; exact hlt)
    have hne : ¬ y.key = x.key := fun g => by rw [g] at h5; simp only [eU] at h5; cases h5
    refine .inl ⟨by rw [h1]; (first | done | rfl), by omega, ?_⟩;rw [h3, ho2, hp, if_neg (by simp), h4, hy, htk y hy];simp [hne]
   | true =>
    have hit : i = tw := by
     rw [h1, hp] at hpl;simpa using hpl
    refine .inr ⟨by simp, by omega, ?_⟩;rw [h3, ho2, hp, if_pos rfl, h4, hit]
    cases hy : L[tw]? with
    | none =>
     have hll := List.getElem?_eq_none_iff.1 hy;have : (L.take (tw + 1)).drop tw = [] := List.drop_of_length_le (by rw [List.length_take]; omega);rw [this]; simp
    | some y =>
     rw [← hit] at hy ⊢;rw [htk y hy];have hll := (List.getElem?_eq_some_iff.1 hy).1
     have : (L.take i ++ [y]).drop i = [y] := by rw [List.drop_append_of_le_length (by rw [List.length_take]; omega), List.drop_of_length_le (by rw [List.length_take]; omega), List.nil_append]
     rw [this]
     by_cases g : y.key = x.key <;> simp [g]
  ·have hp : pl = false := by rw [← hpl, h1]; (first | done | rfl)
   refine .inr ⟨by rw [h1]; (first | done | rfl), by omega, ?_⟩;rw [h3, ho2, hp, if_neg (by simp), h4]
   cases hy : L[i]? with
   | none =>
    have hll := List.getElem?_eq_none_iff.1 hy;rw [List.take_of_length_le (show L.length ≤ i by omega), List.take_of_length_le (show L.length ≤ i + 1 by omega)]; simp
   | some y =>
    rw [htk y hy];have hll := (List.getElem?_eq_some_iff.1 hy).1;rw [List.drop_append_of_le_length (by rw [List.length_take]; omega), List.filter_append]
    by_cases g : y.key = x.key <;> simp [g]
 have hno : n5 ≤ i + 1 + 1 := by
  rw [hn5l, ho2]
  have : o.length ≤ i + 1 := by omega
  cases hp : pl with
  | true =>
   rw [if_pos rfl, List.length_append]
   have h1 : (gO ts x).length ≤ 1 := by unfold gO; split <;> simp
   have hb2 : b2 = false := by rw [hp] at hpl; cases b2 <;> simp_all
   rcases hout with ⟨_, h2, h4⟩ | ⟨h1, _⟩
   ·have : o.length ≤ i := by rw [h4, List.length_take]; omega
    omega
   ·rw [hb2] at h1; cases h1
  | false => rw [if_neg (by simp)]; omega
 refine aI (fun e2 => ?_) fun e2 => ?_
 ·have e4 : (i : Int) < (n3 : Int) := of_decide_eq_true e2
  obtain ⟨y, hy⟩ : ∃ y, L[i]? = some y := ⟨_, List.getElem?_eq_getElem (by omega)⟩
  rw [hy] at hstep;obtain ⟨g, rfl, hh⟩ := (hG3.row.mod hG5.md (by simp)).at hy
  have hhb5 : s5.has (ab.add (j * 3)) (jz.f x) := by
   obtain ⟨ab', hab', hhb'⟩ := (hw.mono (hG3.md.trans hG5.md).le).el.aA hx;cases hab';exact hhb'
  have gi : (0 : Int) ≤ (i : Int) ∧ (i : Int) < (n3 : Int) := ⟨Int.natCast_nonneg i, e4⟩
  have hh : s5.has ⟨g, i * 3, none⟩ (bl.f y) := hh;refine bF gi ?_;simp only [dj, Int.toNat_natCast, bf, Nat.zero_add];refine bq (A := ⟨g, i * 3, none⟩) (j := 0) hh (y := (y.key, ())) rfl ?_;refine bF gj ?_;refine bq (j := 0) hhb5 (y := (x.key, ())) rfl ?_;dsimp only;rw [bV];refine aI (fun e3 => ?_) fun e3 => ?_
  ·have e3 : ¬ y.key = x.key := by simpa using e3
   refine bF gi ?_;refine az hh (y := mH y) rfl ?_;have hn5s : n5 ≤ i + 1 + 1 := hno;refine hG5.push [y] (k := 1) rfl rfl rfl (by omega) (by omega) fun a6 c6 s6 h6 => ?_;have ho3 := hstep (o2 ++ [y]) (by simp [e3]);refine ⟨⟨i + 1, b2 || pl, o2 ++ [y], a6, n5 + 1, c6, rfl, by omega, h6, ho3, ?_⟩, by (try simp only [Int.toNat_natCast]); omega⟩;have := h6.row.len;unfold Af at ho3;rw [htw] at ho3
   have h1 : (gO ts x).length ≤ 1 := by unfold gO; split <;> simp
   rcases ho3 with ⟨_, _, h4⟩ | ⟨_, h3, h4⟩
   ·rw [this, h4, List.length_take]; omega
   ·have hf := List.length_filter_le (fun h : Ht => decide (h.key ≠ x.key)) ((L.take (i + 1)).drop tw);rw [List.length_drop, List.length_take] at hf;rw [this, h4, List.length_append, List.length_append, List.length_take]; omega
  ·have e3 : y.key = x.key := by simpa using e3
   have ho3 := hstep o2 (by simp [e3]);exact ⟨⟨i + 1, b2 || pl, o2, a5, n5, c5, rfl, by omega, hG5, ho3, hno⟩, by (try simp only [Int.toNat_natCast]); omega⟩
 ·have e2 : ¬ (i : Int) < (n3 : Int) := of_decide_eq_false e2;have hy : L[i]? = none := List.getElem?_eq_none (by omega);rw [hy] at hstep;exact ⟨⟨i + 1, b2 || pl, o2, a5, n5, c5, rfl, by omega, hG5, hstep o2 (by simp), hno⟩, by simp only [Int.toNat_natCast]; omega⟩
end
section
attribute [-simp] Fw.W.bC Fw.W.bA
def uC : Rd cz := (Rd.pair (Rd.int .i64) (Rd.pair (Rd.int .i64) (Rd.pair (Rd.sl nu 32) (Rd.pair (Rd.int .i64) (Rd.pair nu (Rd.pair (Rd.int .i64) (Rd.pair nu Rd.unit))))))).map fun x => ⟨x.1, x.2.1, x.2.2.1, x.2.2.2.1, x.2.2.2.2.1, x.2.2.2.2.2.1, x.2.2.2.2.2.2.1⟩
def rF : Rd Ht := (Rd.pair Rd.str (Rd.pair (Rd.int .i64) (Rd.pair Rd.str Rd.unit))).map fun x => ⟨x.1, x.2.1, x.2.2.1⟩
theorem Li : cZ Tryz.prog 125 (Rd.sl nu 32) := kV DF Tryz.underlying125 (by kernel_rfl) (by kernel_rfl)
theorem KT : cZ Tryz.prog 127 uC := gV _ (fj (.cons rfl kj (.cons rfl kj (.cons rfl Li (.cons rfl kj (.cons rfl DF (.cons rfl kj (.cons rfl DF (.nil _)))))))) Tryz.underlying127 (by kernel_rfl))
theorem Ik : cZ Tryz.prog 75 rF := gV _ (fj (.cons rfl Aa (.cons rfl kj (.cons rfl Aa (.nil _)))) Tryz.underlying75 (by kernel_rfl))
theorem xm {α : Type} {R : Rd α} {E : cK α} {P : α → Prop} {bytes : Nat} {s : PH} {cs : List Value} {xs : List α} (hb : 32 ≤ bytes) (hz : R.sz = E.sz) (hi : ∀ cs x, R.is s cs x → cs = E.f x ∧ P x) (h : (Rd.sl R bytes).is s cs xs) :
  ∃ t : aP, cs = [t.v] ∧ mU E s t xs ∧ ∀ x ∈ xs, P x := by
 obtain ⟨a, n, c, rfl, h1, h2, h3, h4⟩ := h;refine ⟨(a, n, c), rfl, ⟨h4.imp hz fun cs x hx => (hi cs x hx).1, h1, ?_⟩, fun x hx => ?_⟩
 ·have hr : reachBytes = 140737488351232 := rfl;have : c * 32 ≤ c * bytes := Nat.mul_le_mul_left _ hb;have := h4.1;omega
 ·obtain ⟨i, hi2⟩ := List.mem_iff_getElem?.1 hx;obtain ⟨ad, cs', _, h6, _⟩ := h4.2 i x hi2;exact (hi cs' x h6).2
theorem rG {s : PH} {cs : List Value} {v : aK} (h : nu.is s cs v) : cs = dO.f v ∧ lC v.n := by
 obtain ⟨x, rfl, c1, c2, rfl, ⟨rfl, _⟩, d1, d2, rfl, ⟨rfl, h2⟩, e1, e2, rfl, ⟨rfl, h3⟩, rfl⟩ := h;exact ⟨rfl, wf_i64 h2⟩
theorem Jv {s : PH} {cs : List Value} {x : Ht} (h : rF.is s cs x) : cs = bl.f x ∧ x.key.size ≤ 140737488351232 := by
 obtain ⟨x, rfl, c1, c2, rfl, ⟨rfl, h1⟩, d1, d2, rfl, ⟨rfl, h2⟩, e1, e2, rfl, ⟨rfl, h3⟩, rfl⟩ := h;exact ⟨rfl, h1⟩
structure F3 (s : PH) (q : iH) : Prop where
 v : mU dO s q.t q.b.vals
 ok : D3 q.b
theorem Ju {s : PH} {cs : List Value} {b : cz} (h : uC.is s cs b) : ∃ q : iH, q.b = b ∧ cs = qh.f q ∧ F3 s q := by
 obtain ⟨x, rfl, c1, c2, rfl, ⟨rfl, _⟩, d1, d2, rfl, ⟨rfl, _⟩, e1, e2, rfl, hv, f1, f2, rfl, ⟨rfl, _⟩, g1, g2, rfl, h5, i1, i2, rfl, ⟨rfl, _⟩, j1, j2, rfl, h7, rfl⟩ := h;obtain ⟨t, rfl, k1, n1⟩ := xm (E := dO) (by omega) rfl (fun cs x hx => rG hx) hv;obtain ⟨rfl, r5⟩ := rG h5;obtain ⟨rfl, r7⟩ := rG h7;exact ⟨⟨_, t⟩, rfl, rfl, k1, r5, r7, n1⟩
theorem rO : ∀ (l : List cz) (Q : Nat → iH → Prop), (∀ i T, l[i]? = some T → ∃ p : iH, p.b = T ∧ Q i p) → ∃ ps : List iH, ps.map (·.b) = l ∧ ∀ i p, ps[i]? = some p → Q i p
 | [], Q, _ => ⟨[], rfl, fun i p h => by simp at h⟩
 | T :: l, Q, h => by
  obtain ⟨p, hp, hq⟩ := h 0 T rfl;obtain ⟨ps, he, hr⟩ := rO l (fun i => Q (i + 1)) fun i T' hT => h (i + 1) T' hT;refine ⟨p :: ps, by simp [hp, he], fun i q hi => ?_⟩
  cases i with
  | zero => simp at hi; subst hi; exact hq
  | succ i => exact hr i q hi
structure qY (s : PH) (t : aP) (L : List cz) (bs : List iH) : Prop where
 el : mU qh s t bs
 eq : bs.map (·.b) = L
 all : ∀ q ∈ bs, F3 s q
theorem FA {s : PH} {cs : List Value} {L : List cz} (h : (Rd.sl uC 120).is s cs L) : ∃ t bs, cs = [t.v] ∧ qY s t L bs := by
 obtain ⟨a, n, c, rfl, h1, h2, h3, h4⟩ := h
 obtain ⟨bs, he, hq⟩ := rO L (fun i p => (∃ ad, a = some ad ∧ s.has (ad.add (i * 11)) (qh.f p)) ∧ F3 s p) fun i T hT => by
  obtain ⟨ad, cs, k1, k2, k3⟩ := h4.2 i T hT;obtain ⟨p, rfl, rfl, k4⟩ := Ju k2;exact ⟨p, rfl, ⟨ad, k1, k3⟩, k4⟩
 have hlen : bs.length = n := by rw [h4.1, ← he, List.length_map]
 refine ⟨(a, n, c), bs, rfl, ⟨⟨⟨hlen.symm, fun i p hp => ?_⟩, h1, ?_⟩, he, fun p hp => ?_⟩⟩
 ·obtain ⟨⟨ad, k1, k2⟩, _⟩ := hq i p hp;exact ⟨ad, _, k1, rfl, k2⟩
 ·have hr : reachBytes = 140737488351232 := rfl;have : c * 32 ≤ c * 120 := Nat.mul_le_mul_left _ (by omega);omega
 ·obtain ⟨i, hi⟩ := List.mem_iff_getElem?.1 hp;exact (hq i p hi).2
def yO (S : aD) : Prop := ∀ T ∈ S.tabs, ∀ c ∈ T.cols, lC c.dflt.n
theorem Jw {s : PH} {cs : List Value} {S : aD} (h : yK.is s cs S) : yO S := by
 obtain ⟨x, rfl, c1, c2, rfl, ⟨rfl, _⟩, d1, d2, rfl, ⟨rfl, _⟩, e1, e2, rfl, ⟨a, n, c, rfl, h1, h2, h3, h4⟩, rfl⟩ := h;intro T hT c hc;obtain ⟨i, hi⟩ := List.mem_iff_getElem?.1 hT;obtain ⟨ad, cs, k1, k2, k3⟩ := h4.2 i T hi;obtain ⟨y, rfl, c1, c2, rfl, ⟨rfl, _⟩, d1, d2, rfl, ⟨rfl, _⟩, e1, e2, rfl, hcols, f1, f2, rfl, _, g1, g2, rfl, _, rfl⟩ := k2;obtain ⟨a2, n2, c2, rfl, g1, g2, g3, g4⟩ := hcols;obtain ⟨j, hj⟩ := List.mem_iff_getElem?.1 hc;obtain ⟨ad2, cs2, q1, q2, q3⟩ := g4.2 j c hj;obtain ⟨z, rfl, c1, c2, rfl, _, d1, d2, rfl, _, e1, e2, rfl, _, f1, f2, rfl, _, g1, g2, rfl, h5, rfl⟩ := q2;exact (rG h5).2
def iP (acc : List Ht) (h : Ht) : List Ht := match acc.getLast? with
 | none => [h]
 | some g => if bO g.key h.key = true then acc ++ [h] else acc
def jA (l : List Ht) : List Ht := l.foldl iP []
theorem Gc {acc : List Ht} {h : Ht} (hs : cl acc) : cl (iP acc h) ∧ (∀ x ∈ iP acc h, x = h ∨ x ∈ acc) ∧ (iP acc h).length ≤ acc.length + 1 := by
 unfold iP
 cases hg : acc.getLast? with
 | none =>
  have : acc = [] := List.getLast?_eq_none_iff.1 hg;subst this;exact ⟨List.pairwise_singleton _ _, by simp, by simp⟩
 | some g =>
  dsimp only
  split
  ·rename_i hlt
   refine ⟨List.pairwise_append.2 ⟨hs, List.pairwise_singleton _ _, fun a ha b hb => ?_⟩, fun x hx => ?_, by simp⟩
   ·simp at hb; subst hb;rcases List.eq_nil_or_concat acc with rfl | ⟨m, y, rfl⟩
    ·simp at ha
    ·simp at hg; subst hg;rw [List.concat_eq_append] at ha hs;rcases List.mem_append.1 ha with ha | ha
     ·exact qE ((List.pairwise_append.1 hs).2.2 a ha y (by simp)) hlt
     ·simp at ha; subst ha; exact hlt
   ·rcases List.mem_append.1 hx with hx | hx
    ·exact .inr hx
    ·simp at hx; exact .inl hx
  ·exact ⟨hs, fun x hx => .inr hx, by omega⟩
theorem sF (l : List Ht) : cl (jA l) ∧ (∀ x ∈ jA l, x ∈ l) ∧ (jA l).length ≤ l.length := by
 have key : ∀ (l acc : List Ht), cl acc → cl (l.foldl iP acc) ∧ (∀ x ∈ l.foldl iP acc, x ∈ l ∨ x ∈ acc) ∧ (l.foldl iP acc).length ≤ l.length + acc.length := by
  intro l
  induction l with
  | nil => intro acc h; exact ⟨h, fun x hx => .inr hx, by simp⟩
  | cons h l ih =>
   intro acc hs;obtain ⟨b1, b2, b3⟩ := Gc (h := h) hs;obtain ⟨i1, i2, i3⟩ := ih _ b1;refine ⟨i1, fun x hx => ?_, by rw [List.length_cons, List.foldl_cons]; omega⟩;rcases i2 x hx with hx | hx
   ·exact .inl (List.mem_cons_of_mem _ hx)
   ·rcases b2 x hx with rfl | hx
    ·exact .inl List.mem_cons_self
    ·exact .inr hx
 obtain ⟨k1, k2, k3⟩ := key l [] .nil;exact ⟨k1, fun x hx => by rcases k2 x hx with h | h; exact h; simp at h, by simp only [List.length_nil, Nat.add_zero] at k3; exact k3⟩
theorem BN {s : PH} {a : OA} {n c : Nat} {l : List Ht} (h : Sl bl s (a, n, c) l) (hk : rM l) (hn : l.length ≤ 1000000) :
  ah 18 #[.slice a n c] s fun y s' => ∃ a' n' c', y = .slice a' n' c' ∧ Gw bl 75 s s' a' n' c' (jA l) := by
 refine G7 a n c _ s ?_;unfold AS;have hln : n = l.length := h.len;simp only [cj, dg, aQ, aO, aR, aM, bH, bS, aE];refine ⟨fun z s' => ∃ (i : Nat) (a1 : OA) (n1 c1 : Nat), z = (((a1, n1, c1), ()), ((a, n, c), ()), ((n : Int), ()), ((i : Int), ()), ()) ∧ i ≤ n ∧ Gw bl 75 s s' a1 n1 c1 (jA (l.take i)), fun z _ => n - z.2.2.2.1.1.toNat, ⟨0, none, 0, 0, rfl, Nat.zero_le _, Gw.nil (Mod.refl _ _)⟩, ?_⟩;rintro _ s1 ⟨i, a1, n1, c1, rfl, hi, hG⟩;dsimp only;refine aI (fun e => ?_) fun e => ?_;rotate_left
 ·have e : ¬ (i : Int) < (n : Int) := of_decide_eq_false e;rw [List.take_of_length_le (by omega)] at hG;exact ⟨a1, n1, c1, rfl, hG⟩
 have hlt : (i : Int) < (n : Int) := of_decide_eq_true e
 obtain ⟨x, hx⟩ : ∃ x, l[i]? = some x := ⟨_, List.getElem?_eq_getElem (by omega)⟩
 obtain ⟨ad, had, hh⟩ := (h.mono hG.md.le).el.aA hx;dsimp only at had;subst had;refine bF ⟨Int.natCast_nonneg i, hlt⟩ ?_;simp only [dj, Int.toNat_natCast];have hh : s1.has (ad.add (i * 3)) (bl.f x) := hh;refine az hh (y := mH x) rfl ?_
 obtain ⟨acc, hacc⟩ : ∃ acc, jA (l.take i) = acc := ⟨_, rfl⟩
 have hstep : jA (l.take (i + 1)) = iP acc x := by rw [← hacc]; unfold jA; rw [oW iP [] hx]
 rw [hacc] at hG;have hbl := (sF (l.take i)).2.2;have hbm := (sF (l.take i)).2.1;rw [hacc] at hbl hbm;rw [List.length_take] at hbl;have hn1 := hG.row.len;rw [ai (k := i) (by omega)]
 have push : iP acc x = acc ++ [x] → W.nw (.cells #[.string x.key, .int .i64 x.ts, .string x.val] 75 (0, 0)) (fun r => W.app 75 3 40 [.string ⟨#[]⟩, .int .i64 0, .string ⟨#[]⟩] a1 n1 c1 (Src.sl (some ⟨r, 0, none⟩) 1) fun a' n' c' s' => (∃ (k : Nat) (a1 : OA) (n1 c1 : Nat), ((((a', n', c'), ()), ((some ad, n, c), ()), ((n : Int), ()), (((i + 1 : Nat) : Int), ()), ()) : bR [(false, [.slice]), (false, [.slice]), (false, [.int .i64]), (false, [.int .i64])]) = (((a1, n1, c1), ()), ((some ad, n, c), ()), ((n : Int), ()), ((k : Int), ()), ()) ∧ k ≤ n ∧ Gw bl 75 s s' a1 n1 c1 (jA (l.take k))) ∧ n - (((i + 1 : Nat) : Int)).toNat < n - ((i : Int)).toNat) s1 := fun hb => by
  refine hG.push [x] (k := 1) rfl rfl rfl (by omega) (by omega) fun a2 c2 s2 h2 => ?_;refine ⟨⟨i + 1, a2, n1 + 1, c2, rfl, by omega, by rw [hstep, hb]; exact h2⟩, by simp only [Int.toNat_natCast]; omega⟩
 refine aI (fun e => ?_) fun e => ?_
 ·have e : (n1 : Int) = 0 := eq_of_beq e;have hnil : acc = [] := List.eq_nil_of_length_eq_zero (by omega);exact push (by unfold iP; rw [hnil]; (first | done | rfl))
 have e : ¬ (n1 : Int) = 0 := by simpa using e
 obtain ⟨g, hg⟩ : ∃ g, acc[n1 - 1]? = some g := ⟨_, List.getElem?_eq_getElem (by omega)⟩
 have hgl : acc.getLast? = some g := by rw [List.getLast?_eq_getElem?, ← hn1]; exact hg
 have hw : i64.wrap ((n1 : Int) - 1) = ((n1 - 1 : Nat) : Int) := by rw [cq (by omega) (by omega)]; omega
 rw [hw];obtain ⟨b, rfl, hhg⟩ := hG.row.at hg;refine bF ⟨Int.natCast_nonneg _, by omega⟩ ?_;simp only [dj, Int.toNat_natCast, bf, Nat.zero_add];have hhg : s1.has ⟨b, (n1 - 1) * 3, none⟩ (bl.f g) := hhg;refine bq (A := ⟨b, (n1 - 1) * 3, none⟩) (j := 0) hhg (y := (g.key, ())) rfl ?_;have hgk := hk g (List.mem_of_mem_take (hbm g (List.mem_of_getElem? hg)));refine W.cr ((cS g.key x.key, ()), ()) (mW g.key x.key (by omega) s1) rfl ?_;dsimp only;have hsl := pH g.key x.key;refine aI (fun e2 => ?_) fun e2 => ?_
 ·have e2 : bO g.key x.key = true := hsl.1 (of_decide_eq_true e2);exact push (by unfold iP; rw [hgl]; dsimp only; rw [if_pos e2])
 ·have e2 : ¬ bO g.key x.key = true := fun q => of_decide_eq_false e2 (hsl.2 q);refine ⟨⟨i + 1, some ⟨b, 0, none⟩, n1, c1, rfl, by omega, ?_⟩, by (try simp only [Int.toNat_natCast]); omega⟩;rw [hstep];unfold iP;rw [hgl];dsimp only;rw [if_neg e2]; exact hG
def gF (l : List iH) : Nat := (l.map fun q => q.b.vals.length).sum
theorem F0 {l : List iH} {k : Nat} {q : iH} (h : l[k]? = some q) : gF (l.take (k + 1)) = gF (l.take k) + q.b.vals.length := by
 unfold gF; rw [List.take_add_one, h]; simp
theorem y9 {s : PH} {t : aP} {S : aD} {ps : List aC} (h : yQ s t S ps) {b : aP} {L : List cz} {bs : List iH} (hb : qY s b L bs) {u : aP} {l : List Ht} (hu : mU bl s u l) :
  ah 17 #[eV S t, .slice b.1 b.2.1 b.2.2, .slice u.1 u.2.1 u.2.2] s fun y s' => (∃ g, y = .bool g ∧ (g = false → S.tabs.length + iM S.tabs + gF bs + l.length ≤ 400 ∧ bs.length ≤ 12 ∧ ∀ x ∈ l, x.val.size ≤ 1000)) ∧ s' = s := by
 obtain ⟨ta, tn, tc⟩ := t;obtain ⟨ba, bn, bc⟩ := b;obtain ⟨ua, un, uc⟩ := u;refine E5 S.version S.last ta tn tc ba bn bc ua un uc _ s ?_;unfold xE;have htn : tn = ps.length := h.el.el.1
 have hpl : S.tabs.length = ps.length := by rw [h.eq]; simp
 have hun : un = l.length := hu.el.1;have hbn : bn = bs.length := hb.el.el.1;have hb1 := h.el.big;have hb2 := hu.big;have hb3 := hb.el.big;simp only [aQ, aO, aR, aM, bH, aE]
 have hw0 : i64.wrap (i64.wrap ((tn : Int) + (bn : Int)) + (un : Int)) = ((tn + bn + un : Nat) : Int) := by
  rw [cq (n := (tn : Int) + (bn : Int)) (by omega) (by omega), cq (by omega) (by omega)]; omega
 rw [hw0];refine ⟨fun z s' => ∃ k : Nat, z = ((((tn + bn + un + iM (S.tabs.take k) : Nat) : Int), ()), ((ta, tn, tc), ()), ((tn : Int), ()), ((k : Int), ()), ()) ∧ k ≤ tn ∧ s' = s ∧ tn + bn + un + iM (S.tabs.take k) ≤ 17592186044416, fun z _ => tn - z.2.2.2.1.1.toNat, ⟨0, by simp [iM], Nat.zero_le _, rfl, by simp [iM]; omega⟩, ?_⟩;rintro _ s0 ⟨k, rfl, hk, rfl, hN⟩;dsimp only;refine aI (fun hlt => ?_) fun hge => ?_
 ·have hlt' : (k : Int) < (tn : Int) := of_decide_eq_true hlt
  obtain ⟨p, hp⟩ : ∃ p, ps[k]? = some p := ⟨_, List.getElem?_eq_getElem (by omega)⟩
  have hT : S.tabs[k]? = some p.T := by rw [h.eq, List.getElem?_map, hp]; (first | done | rfl)
  obtain ⟨ad, had, hh⟩ := h.el.el.aA hp;dsimp only at had;subst had;refine bF ⟨Int.natCast_nonneg k, hlt'⟩ ?_;simp only [dj, Int.toNat_natCast];have hh : s0.has (ad.add (k * 5)) (ja.f p) := hh;refine az hh (y := mR p) rfl ?_;have hP := h.all p (List.mem_of_getElem? hp);have l1 : p.c.2.1 = p.T.cols.length := hP.c.el.1;have l2 : p.x.2.1 = p.T.idxs.length := hP.x.el.1;have l3 : p.k.2.1 = p.T.keys.length := hP.k.el.1;have g1 := hP.c.big;have g2 := hP.x.big;have g3 := hP.k.big;have hs := F2 hT
  have hw : i64.wrap (((tn + bn + un + iM (S.tabs.take k) : Nat) : Int) + i64.wrap (i64.wrap (((p.c.2.1 : Nat) : Int) + ((p.x.2.1 : Nat) : Int)) + ((p.k.2.1 : Nat) : Int))) = ((tn + bn + un + iM (S.tabs.take (k + 1)) : Nat) : Int) := by
   rw [cq (n := ((p.c.2.1 : Nat) : Int) + ((p.x.2.1 : Nat) : Int)) (by omega) (by omega), cq (n := ((p.c.2.1 : Nat) : Int) + ((p.x.2.1 : Nat) : Int) + ((p.k.2.1 : Nat) : Int)) (by omega) (by omega), cq (by omega) (by omega), hs];omega
  dsimp only;rw [hw];refine (W.af _ _ _ _).2 ⟨fun hgt => ⟨⟨true, rfl, fun e => by cases e⟩, rfl⟩, fun hle => ?_⟩;have hle : ¬ ((tn + bn + un + iM (S.tabs.take (k + 1)) : Nat) : Int) > 400 := of_decide_eq_false hle;rw [ai (k := k) (by omega)];exact ⟨⟨k + 1, rfl, by omega, rfl, by omega⟩, by simp only [Int.toNat_natCast]; omega⟩
 have hge : ¬ (k : Int) < (tn : Int) := of_decide_eq_false hge;have hall : S.tabs.take k = S.tabs := List.take_of_length_le (by omega);rw [hall] at hN ⊢
 obtain ⟨N, hNe⟩ : ∃ N, tn + bn + un + iM S.tabs = N := ⟨_, rfl⟩
 rw [hNe] at hN ⊢;refine ⟨fun z s' => ∃ k : Nat, z = ((((N + gF (bs.take k) : Nat) : Int), ()), ((ba, bn, bc), ()), ((bn : Int), ()), ((k : Int), ()), ()) ∧ k ≤ bn ∧ s' = s0 ∧ N + gF (bs.take k) ≤ 17592186044416, fun z _ => bn - z.2.2.2.1.1.toNat, ⟨0, by simp [gF], Nat.zero_le _, rfl, by simp [gF]; omega⟩, ?_⟩;rintro _ s1 ⟨k2, rfl, hk2, rfl, hN2⟩;dsimp only;refine aI (fun hlt => ?_) fun hge2 => ?_
 ·have hlt' : (k2 : Int) < (bn : Int) := of_decide_eq_true hlt
  obtain ⟨q, hq⟩ : ∃ q, bs[k2]? = some q := ⟨_, List.getElem?_eq_getElem (by omega)⟩
  obtain ⟨ad, had, hh⟩ := hb.el.el.aA hq;dsimp only at had;subst had;refine bF ⟨Int.natCast_nonneg k2, hlt'⟩ ?_;simp only [dj, Int.toNat_natCast];have hh : s1.has (ad.add (k2 * 11)) (qh.f q) := hh;refine az hh (y := vC q.b q.t) rfl ?_;have hQ := hb.all q (List.mem_of_getElem? hq);have l1 : q.t.2.1 = q.b.vals.length := hQ.v.el.1;have g1 := hQ.v.big;have hs := F0 hq
  have hw : i64.wrap (((N + gF (bs.take k2) : Nat) : Int) + ((q.t.2.1 : Nat) : Int)) = ((N + gF (bs.take (k2 + 1)) : Nat) : Int) := by
   rw [cq (by omega) (by omega), hs]; omega
  have hw2 : i64.wrap (((N + gF (bs.take k2) : Nat) : Int) + (((vC q.b q.t).2.2.1.2.1 : Nat) : Int)) = ((N + gF (bs.take (k2 + 1)) : Nat) : Int) := hw;dsimp only;rw [hw2];refine (W.af _ _ _ _).2 ⟨fun hgt => ⟨⟨true, rfl, fun e => by cases e⟩, rfl⟩, fun hle => ?_⟩;have hle : ¬ ((N + gF (bs.take (k2 + 1)) : Nat) : Int) > 400 := of_decide_eq_false hle;rw [ai (k := k2) (by omega)];exact ⟨⟨k2 + 1, rfl, by omega, rfl, by omega⟩, by simp only [Int.toNat_natCast]; omega⟩
 have hge2 : ¬ (k2 : Int) < (bn : Int) := of_decide_eq_false hge2;have hall2 : bs.take k2 = bs := List.take_of_length_le (by omega);rw [hall2] at hN2 ⊢;refine ⟨fun z s' => ∃ k : Nat, z = ((((N + gF bs : Nat) : Int), ()), ((ua, un, uc), ()), ((un : Int), ()), ((k : Int), ()), ()) ∧ k ≤ un ∧ s' = s1 ∧ ∀ x ∈ l.take k, x.val.size ≤ 1000, fun z _ => un - z.2.2.2.1.1.toNat, ⟨0, rfl, Nat.zero_le _, rfl, by simp⟩, ?_⟩;rintro _ s2 ⟨k3, rfl, hk3, rfl, hv⟩;dsimp only;refine aI (fun hlt => ?_) fun hge3 => ?_
 ·have hlt' : (k3 : Int) < (un : Int) := of_decide_eq_true hlt
  obtain ⟨x, hx⟩ : ∃ x, l[k3]? = some x := ⟨_, List.getElem?_eq_getElem (by omega)⟩
  obtain ⟨ad, had, hh⟩ := hu.el.aA hx;dsimp only at had;subst had;refine bF ⟨Int.natCast_nonneg k3, hlt'⟩ ?_;simp only [dj, Int.toNat_natCast];have hh : s2.has (ad.add (k3 * 3)) (bl.f x) := hh;refine az hh (y := mH x) rfl ?_;dsimp only;refine (W.af _ _ _ _).2 ⟨fun hgt => ⟨⟨true, rfl, fun e => by cases e⟩, rfl⟩, fun hle => ?_⟩;have hle : ¬ ((x.val.size : Nat) : Int) > 1000 := of_decide_eq_false hle;rw [ai (k := k3) (by omega)];refine ⟨⟨k3 + 1, rfl, by omega, rfl, fun y hy => ?_⟩, by simp only [Int.toNat_natCast]; omega⟩;rw [List.take_add_one, hx, List.mem_append] at hy;rcases hy with hy | hy
  ·exact hv y hy
  ·simp at hy; subst hy; omega
 have hge3 : ¬ (k3 : Int) < (un : Int) := of_decide_eq_false hge3;rw [List.take_of_length_le (by omega)] at hv;refine (W.af _ _ _ _).2 ⟨fun hgt => ⟨⟨true, rfl, fun e => by cases e⟩, rfl⟩, fun hle => ?_⟩;have hle : ¬ ((N + gF bs : Nat) : Int) > 400 := of_decide_eq_false hle;refine ⟨⟨_, rfl, fun e => ?_⟩, rfl⟩;have e : ¬ (bn : Int) > 12 := of_decide_eq_false e;exact ⟨by omega, by omega, hv⟩
theorem yQ.Lu {s : PH} {t : aP} {S : aD} {ps : List aC} (h : yQ s t S ps) (hl : S.tabs.length + iM S.tabs ≤ 400) : dP s t S ps := by
 have key : ∀ (l : List aG), ∀ T ∈ l, T.cols.length + T.idxs.length + T.keys.length ≤ iM l := by
  intro l
  induction l with
  | nil => simp
  | cons a l ih =>
   intro T hT
   have e : iM (a :: l) = (a.cols.length + a.idxs.length + a.keys.length) + iM l := by simp [iM]
   rcases List.mem_cons.1 hT with rfl | hT
   ·omega
   ·have := ih T hT; omega
 have hpl : S.tabs.length = ps.length := by rw [h.eq]; simp
 refine ⟨h.el.cO (by omega), h.eq, fun p hp => ?_⟩
 have hT : p.T ∈ S.tabs := by rw [h.eq]; exact List.mem_map_of_mem hp
 have := key S.tabs p.T hT;obtain ⟨a, b, c⟩ := h.all p hp;exact ⟨a.cO (by omega), b.cO (by omega), c.cO (by omega)⟩
theorem qY.cO {s : PH} {b : aP} {L : List cz} {bs : List iH} (h : qY s b L bs) (h1 : gF bs ≤ 400) (h2 : bs.length ≤ 12) : Sl qh s b bs ∧ ∀ q ∈ bs, Sl dO s q.t q.b.vals ∧ D3 q.b := by
 have key : ∀ (l : List iH), ∀ q ∈ l, q.b.vals.length ≤ gF l := by
  intro l
  induction l with
  | nil => simp
  | cons a l ih =>
   intro q hq
   have e : gF (a :: l) = a.b.vals.length + gF l := by simp [gF]
   rcases List.mem_cons.1 hq with rfl | hq
   ·omega
   ·have := ih q hq; omega
 refine ⟨h.el.cO (by omega), fun q hq => ⟨(h.all q hq).v.cO ?_, (h.all q hq).ok⟩⟩;have := key bs q hq;omega
end
section
attribute [-simp] Fw.W.bC Fw.W.bA
theorem tQ {s : PH} {a : OA} {n c : Nat} {qs : List wF} (h : Sl qI s (a, n, c) qs) (k : BA) (hk : k.size ≤ 281474976710656) (hq : ∀ q ∈ qs, q.p.1.size ≤ 281474976710656) :
  ah 20 #[.slice a n c, .string k] s fun y s' => y = .bool ((qs.map (·.p)).any fun p => gU k p) ∧ s' = s := by
 refine Br a n c k _ s ?_;unfold sd;have hln : n = qs.length := h.len;have hf := h.cO;simp only [aQ, aO, aR, aM, bH, aT, aE];refine ⟨fun z s' => ∃ i : Nat, z = (((a, n, c), ()), ((n : Int), ()), ((i : Int), ()), ()) ∧ i ≤ n ∧ s = s' ∧ ((qs.map (·.p)).any fun p => gU k p) = (((qs.drop i).map (·.p)).any fun p => gU k p), fun z _ => n - z.2.2.1.1.toNat, ⟨0, rfl, Nat.zero_le _, rfl, by rw [List.drop_zero]⟩, ?_⟩;rintro _ _ ⟨i, rfl, hi, rfl, hany⟩;dsimp only;refine aI (fun e => ?_) fun e => ?_
 ·have hlt : (i : Int) < (n : Int) := of_decide_eq_true e
  obtain ⟨q, hx⟩ : ∃ q, qs[i]? = some q := ⟨_, List.getElem?_eq_getElem (by omega)⟩
  obtain ⟨ad, had, hh⟩ := h.el.aA hx;refine bF ⟨Int.natCast_nonneg i, hlt⟩ ?_;refine aN had ?_;simp only [Int.toNat_natCast];have hh : s.has (ad.add (i * 3)) (qI.f q) := hh;refine az hh (y := (q.p.1, q.p.2, q.u, ())) rfl ?_;refine aH ((gU k q.p, ()), ()) (Ia k q.p hk (hq q (List.mem_of_getElem? hx)) s) rfl ?_;rw [ct hx, List.map_cons, List.any_cons] at hany;refine aI (fun e2 => ?_) fun e2 => ?_
  ·have e2 : gU k q.p = true := e2;rw [e2, Bool.true_or] at hany;exact ⟨by rw [hany], rfl⟩
  ·have e2 : gU k q.p = false := e2;rw [e2, Bool.false_or] at hany;rw [ai (k := i) (by omega)];exact ⟨⟨i + 1, rfl, by omega, rfl, hany⟩, by simp only [Int.toNat_natCast]; omega⟩
 ·have e : ¬ (i : Int) < (n : Int) := of_decide_eq_false e;rw [List.drop_of_length_le (by omega)] at hany;exact ⟨by rw [hany]; (first | done | rfl), rfl⟩
theorem kK {n m : Nat} (h : n = m) : (((n : Nat) : Int) != ((m : Nat) : Int)) = false := by rw [h]; simp
theorem Gn {s : PH} {a b : OA} {n c m d : Nat} {l : List aK} (h : Sl dO s (a, n, c) l) (h2 : Sl dO s (b, m, d) l) :
  ah 82 #[.slice a n c, .slice b m d] s fun y s' => y = .bool true ∧ s' = s := by
 refine Fc a n c b m d _ s ?_;unfold xL;have hln : n = l.length := h.len;have hlm : m = l.length := h2.len;have hf := h.cO;simp only [aQ, aO, aR, aM, bH, aT, aE];refine (W.af _ _ _ _).2 ⟨fun e => (by rw [kK (by omega)] at e; cases e), fun _ => ?_⟩;refine ⟨fun z s' => ∃ i : Nat, z = (((i : Int), ()), ()) ∧ i ≤ n ∧ s = s', fun z _ => n - z.1.1.toNat, ⟨0, rfl, Nat.zero_le _, rfl⟩, ?_⟩;rintro _ _ ⟨i, rfl, hi, rfl⟩;dsimp only;refine (W.af _ _ _ _).2 ⟨fun e => ?_, fun _ => ⟨rfl, rfl⟩⟩;have hlt : (i : Int) < (n : Int) := of_decide_eq_true e
 obtain ⟨x, hx⟩ : ∃ x, l[i]? = some x := ⟨_, List.getElem?_eq_getElem (by omega)⟩
 obtain ⟨ad, had, hh⟩ := h.el.aA hx;obtain ⟨bd, hbd, hhb⟩ := h2.el.aA hx;have hh : s.has (ad.add (i * 3)) (dO.f x) := hh;have hhb : s.has (bd.add (i * 3)) (dO.f x) := hhb;refine (W.aZ _ _ _).2 ⟨⟨Int.natCast_nonneg i, hlt⟩, aN had ?_⟩;simp only [Int.toNat_natCast];refine az hh (y := bM x) rfl ?_;refine (W.aZ _ _ _).2 ⟨⟨Int.natCast_nonneg i, by omega⟩, aN hbd ?_⟩;refine az hhb (y := bM x) rfl ?_;dsimp only;rw [jn, decide_eq_true rfl];refine (W.af _ _ _ _).2 ⟨fun e => (by cases e), fun _ => ?_⟩;rw [ai (k := i) (by omega)];exact ⟨⟨i + 1, rfl, by omega, rfl⟩, by simp only [Int.toNat_natCast]; omega⟩
theorem yh {s : PH} {a b : OA} {n c m d : Nat} {l : List Wr} (h : Sl jz s (a, n, c) l) (h2 : Sl jz s (b, m, d) l) :
  ah 67 #[.slice a n c, .slice b m d] s fun y s' => y = .bool true ∧ s' = s := by
 refine wg a n c b m d _ s ?_;unfold oC;have hln : n = l.length := h.len;have hlm : m = l.length := h2.len;have hf := h.cO;simp only [aQ, aO, aR, aM, bH, aT, aE];refine (W.af _ _ _ _).2 ⟨fun e => (by rw [kK (by omega)] at e; cases e), fun _ => ?_⟩;refine ⟨fun z s' => ∃ i : Nat, z = (((i : Int), ()), ()) ∧ i ≤ n ∧ s = s', fun z _ => n - z.1.1.toNat, ⟨0, rfl, Nat.zero_le _, rfl⟩, ?_⟩;rintro _ _ ⟨i, rfl, hi, rfl⟩;dsimp only;refine (W.af _ _ _ _).2 ⟨fun e => ?_, fun _ => ⟨rfl, rfl⟩⟩;have hlt : (i : Int) < (n : Int) := of_decide_eq_true e
 obtain ⟨x, hx⟩ : ∃ x, l[i]? = some x := ⟨_, List.getElem?_eq_getElem (by omega)⟩
 obtain ⟨ad, had, hh⟩ := h.el.aA hx;obtain ⟨bd, hbd, hhb⟩ := h2.el.aA hx;have hh : s.has (ad.add (i * 3)) (jz.f x) := hh;have hhb : s.has (bd.add (i * 3)) (jz.f x) := hhb;refine (W.aZ _ _ _).2 ⟨⟨Int.natCast_nonneg i, hlt⟩, aN had ?_⟩;simp only [Int.toNat_natCast];refine az hh (y := KD x) rfl ?_;refine (W.aZ _ _ _).2 ⟨⟨Int.natCast_nonneg i, by omega⟩, aN hbd ?_⟩;refine az hhb (y := KD x) rfl ?_;dsimp only;refine (W.af _ _ _ _).2 ⟨fun e => (by simp at e), fun _ => ?_⟩;rw [ai (k := i) (by omega)];exact ⟨⟨i + 1, rfl, by omega, rfl⟩, by simp only [Int.toNat_natCast]; omega⟩
structure D5 (s : PH) (t : aP) (L : List Rp) (qs : List pN) : Prop where
 el : Sl Ca s t qs
 eq : qs.map (·.r) = L
 rs : ∀ q ∈ qs, Sl Is s q.u q.vs ∧ q.vs.map (·.l) = q.r.rows ∧ ∀ v ∈ q.vs, Sl dO s v.u v.l
theorem vE {s : PH} {a b : aP} {L : List Rp} {qs ps : List pN} (h : D5 s a L qs) (h2 : D5 s b L ps) :
  ah 25 #[.slice a.1 a.2.1 a.2.2, .slice b.1 b.2.1 b.2.2] s fun y s' => y = .bool true ∧ s' = s := by
 refine uz a.1 a.2.1 a.2.2 b.1 b.2.1 b.2.2 _ s ?_;unfold nB;have hln : a.2.1 = qs.length := h.el.len;have hlm : b.2.1 = ps.length := h2.el.len
 have hqp : qs.length = ps.length := by
  have h3 := congrArg List.length h.eq;have h4 := congrArg List.length h2.eq;rw [List.length_map] at h3 h4; omega
 have hf := h.el.cO;simp only [aQ, aO, aR, aM, bH, aT, aE, cG];refine (W.af _ _ _ _).2 ⟨fun e => (by rw [kK (by omega)] at e; cases e), fun _ => ?_⟩;refine ⟨fun z s' => ∃ i : Nat, z = (((i : Int), ()), ()) ∧ i ≤ a.2.1 ∧ s = s', fun z _ => a.2.1 - z.1.1.toNat, ⟨0, rfl, Nat.zero_le _, rfl⟩, ?_⟩;rintro _ _ ⟨i, rfl, hi, rfl⟩;dsimp only;refine (W.af _ _ _ _).2 ⟨fun e => ?_, fun _ => ⟨rfl, rfl⟩⟩;have hlt : (i : Int) < (a.2.1 : Int) := of_decide_eq_true e
 obtain ⟨q, hq⟩ : ∃ q, qs[i]? = some q := ⟨_, List.getElem?_eq_getElem (by omega)⟩
 obtain ⟨p, hp⟩ : ∃ p, ps[i]? = some p := ⟨_, List.getElem?_eq_getElem (by omega)⟩
 have hr : q.r = p.r := by
  have h3 : (qs.map (·.r))[i]? = (ps.map (·.r))[i]? := by rw [h.eq, h2.eq]
  rw [List.getElem?_map, List.getElem?_map, hq, hp] at h3;exact Option.some.inj h3
 obtain ⟨ad, had, hh⟩ := h.el.el.aA hq;obtain ⟨bd, hbd, hhb⟩ := h2.el.el.aA hp;have hh : s.has (ad.add (i * 2)) (Ca.f q) := hh;have hhb : s.has (bd.add (i * 2)) (Ca.f p) := hhb
 have ga : (0 : Int) ≤ (i : Int) ∧ (i : Int) < (a.2.1 : Int) := ⟨Int.natCast_nonneg i, hlt⟩
 have gb : (0 : Int) ≤ (i : Int) ∧ (i : Int) < (b.2.1 : Int) := ⟨Int.natCast_nonneg i, by omega⟩
 obtain ⟨q1, q2, q3⟩ := h.rs q (List.mem_of_getElem? hq);obtain ⟨p1, p2, p3⟩ := h2.rs p (List.mem_of_getElem? hp);have hqn : q.u.2.1 = q.vs.length := q1.len;have hpn : p.u.2.1 = p.vs.length := p1.len
 have hqpn : q.vs.length = p.vs.length := by
  have h3 : q.vs.map (·.l) = p.vs.map (·.l) := by rw [q2, p2, hr]
  have := congrArg List.length h3
  rwa [List.length_map, List.length_map] at this
 have hf2 := q1.cO;refine W.bx (fun z s' => z = (((i : Int), ()), ()) ∧ s = s') ?_ ?_;rotate_left
 ·intro J hJ;refine (W.aZ _ _ _).2 ⟨ga, aN had ?_⟩;simp only [Int.toNat_natCast];refine bq (j := 0) hh (y := (q.r.n, ())) rfl ?_;refine (W.aZ _ _ _).2 ⟨gb, aN hbd ?_⟩;refine bq (j := 0) hhb (y := (p.r.n, ())) rfl ?_;dsimp only;refine (W.af _ _ _ _).2 ⟨fun e => (by rw [hr] at e; simp at e), fun _ => ?_⟩;refine (W.aZ _ _ _).2 ⟨ga, aN had ?_⟩;refine bq (j := 1) hh (y := (q.u, ())) rfl ?_;refine (W.aZ _ _ _).2 ⟨gb, aN hbd ?_⟩;refine bq (j := 1) hhb (y := (p.u, ())) rfl ?_;dsimp only
  refine (W.af _ _ _ _).2 ⟨fun e => (by
   have e : (((q.u.2.1 : Nat) : Int) != ((p.u.2.1 : Nat) : Int)) = true := e
   rw [kK (by omega)] at e; cases e), fun _ => hJ _ _ ⟨rfl, rfl⟩⟩
 rintro _ _ ⟨rfl, rfl⟩;dsimp only;refine ⟨fun z s' => ∃ j : Nat, z = (((i : Int), ()), ((j : Int), ()), ()) ∧ j ≤ q.u.2.1 ∧ s = s', fun z _ => q.u.2.1 - z.2.1.1.toNat, ⟨0, rfl, Nat.zero_le _, rfl⟩, ?_⟩;rintro _ _ ⟨j, rfl, hj, rfl⟩;dsimp only;refine (W.aZ _ _ _).2 ⟨ga, aN had ?_⟩;simp only [Int.toNat_natCast];refine bq (j := 1) hh (y := (q.u, ())) rfl ?_;dsimp only;refine aI (fun e => ?_) fun _ => ?_
 ·have hlj : (j : Int) < (q.u.2.1 : Int) := of_decide_eq_true e
  obtain ⟨v, hv⟩ : ∃ v, q.vs[j]? = some v := ⟨_, List.getElem?_eq_getElem (by omega)⟩
  obtain ⟨v2, hv2⟩ : ∃ v, p.vs[j]? = some v := ⟨_, List.getElem?_eq_getElem (by omega)⟩
  have hvl : v.l = v2.l := by
   have h3 : (q.vs.map (·.l))[j]? = (p.vs.map (·.l))[j]? := by rw [q2, p2, hr]
   rw [List.getElem?_map, List.getElem?_map, hv, hv2] at h3;exact Option.some.inj h3
  obtain ⟨vd, hvd, hhv⟩ := q1.el.aA hv;obtain ⟨wd, hwd, hhw⟩ := p1.el.aA hv2;have hhv : s.has (vd.add (j * 1)) (Is.f v) := hhv;have hhw : s.has (wd.add (j * 1)) (Is.f v2) := hhw;refine (W.aZ _ _ _).2 ⟨ga, aN had ?_⟩;refine bq (j := 1) hh (y := (q.u, ())) rfl ?_;refine (W.aZ _ _ _).2 ⟨⟨Int.natCast_nonneg j, hlj⟩, aN hvd ?_⟩;refine az hhv (y := (v.u, ())) rfl ?_;refine (W.aZ _ _ _).2 ⟨gb, aN hbd ?_⟩;refine bq (j := 1) hhb (y := (p.u, ())) rfl ?_;refine (W.aZ _ _ _).2 ⟨⟨Int.natCast_nonneg j, by show (j : Int) < (p.u.2.1 : Int); omega⟩, aN hwd ?_⟩;refine az hhw (y := (v2.u, ())) rfl ?_;have s1 := q3 v (List.mem_of_getElem? hv);have s2 := p3 v2 (List.mem_of_getElem? hv2);rw [← hvl] at s2;refine aH ((true, ()), ()) (Gn (a := v.u.1) (n := v.u.2.1) (c := v.u.2.2) (b := v2.u.1) (m := v2.u.2.1) (d := v2.u.2.2) s1 s2) rfl ?_;refine (W.af _ _ _ _).2 ⟨fun e => (by cases e), fun _ => ?_⟩;rw [ai (k := j) (by omega)];exact ⟨⟨j + 1, rfl, by omega, rfl⟩, by simp only [Int.toNat_natCast]; omega⟩
 ·rw [ai (k := i) (by omega)];exact ⟨⟨i + 1, rfl, by omega, rfl⟩, by simp only [Int.toNat_natCast]; omega⟩
structure BJ (s : PH) (t : aP) (B : List Ht) (rds : List bJ) (qs : List wF) : Prop where
 el : Sl qI s t qs
 eq : qs.map (·.p) = rds
 st : ∀ q ∈ qs, Sl Cf s q.u (stamps (au B q.p))
abbrev K3 (x : BA × Int) : Den [.str, .int .i64] := (x.1, x.2, ())
theorem zb {s : PH} {a b : aP} {B M : List Ht} {rds : List bJ} {qs ps : List wF} (h : BJ s a B rds qs) (h2 : BJ s b M rds ps) (hBM : ∀ p ∈ rds, au B p = au M p) :
  ah 66 #[.slice a.1 a.2.1 a.2.2, .slice b.1 b.2.1 b.2.2] s fun y s' => y = .bool true ∧ s' = s := by
 refine yx a.1 a.2.1 a.2.2 b.1 b.2.1 b.2.2 _ s ?_;unfold qd;have hln : a.2.1 = qs.length := h.el.len;have hlm : b.2.1 = ps.length := h2.el.len
 have hqp : qs.length = ps.length := by
  have h3 := congrArg List.length h.eq;have h4 := congrArg List.length h2.eq;rw [List.length_map] at h3 h4; omega
 have hf := h.el.cO;simp only [aQ, aO, aR, aM, bH, aT, aE, cG];refine (W.af _ _ _ _).2 ⟨fun e => (by rw [kK (by omega)] at e; cases e), fun _ => ?_⟩;refine ⟨fun z s' => ∃ i : Nat, z = (((i : Int), ()), ()) ∧ i ≤ a.2.1 ∧ s = s', fun z _ => a.2.1 - z.1.1.toNat, ⟨0, rfl, Nat.zero_le _, rfl⟩, ?_⟩;rintro _ _ ⟨i, rfl, hi, rfl⟩;dsimp only;refine (W.af _ _ _ _).2 ⟨fun e => ?_, fun _ => ⟨rfl, rfl⟩⟩;have hlt : (i : Int) < (a.2.1 : Int) := of_decide_eq_true e
 obtain ⟨q, hq⟩ : ∃ q, qs[i]? = some q := ⟨_, List.getElem?_eq_getElem (by omega)⟩
 obtain ⟨p, hp⟩ : ∃ p, ps[i]? = some p := ⟨_, List.getElem?_eq_getElem (by omega)⟩
 have hr : q.p = p.p := by
  have h3 : (qs.map (·.p))[i]? = (ps.map (·.p))[i]? := by rw [h.eq, h2.eq]
  rw [List.getElem?_map, List.getElem?_map, hq, hp] at h3;exact Option.some.inj h3
 have hqr : q.p ∈ rds := by rw [← h.eq]; exact List.mem_map_of_mem (List.mem_of_getElem? hq)
 obtain ⟨ad, had, hh⟩ := h.el.el.aA hq;obtain ⟨bd, hbd, hhb⟩ := h2.el.el.aA hp;have hh : s.has (ad.add (i * 3)) (qI.f q) := hh;have hhb : s.has (bd.add (i * 3)) (qI.f p) := hhb
 have ga : (0 : Int) ≤ (i : Int) ∧ (i : Int) < (a.2.1 : Int) := ⟨Int.natCast_nonneg i, hlt⟩
 have gb : (0 : Int) ≤ (i : Int) ∧ (i : Int) < (b.2.1 : Int) := ⟨Int.natCast_nonneg i, by omega⟩
 have s1 := h.st q (List.mem_of_getElem? hq);have s2 := h2.st p (List.mem_of_getElem? hp);rw [← hr, ← hBM q.p hqr] at s2
 obtain ⟨l, hl⟩ : ∃ l, stamps (au B q.p) = l := ⟨_, rfl⟩
 rw [hl] at s1 s2;have hqn : q.u.2.1 = l.length := s1.len;have hpn : p.u.2.1 = l.length := s2.len;have hf2 := s1.cO;refine W.bx (fun z s' => z = (((i : Int), ()), ()) ∧ s = s') ?_ ?_;rotate_left
 ·intro J hJ;refine (W.aZ _ _ _).2 ⟨ga, aN had ?_⟩;simp only [Int.toNat_natCast];refine bq (j := 0) hh (y := (q.p.1, q.p.2, ())) rfl ?_;refine (W.aZ _ _ _).2 ⟨gb, aN hbd ?_⟩;refine bq (j := 0) hhb (y := (p.p.1, p.p.2, ())) rfl ?_;dsimp only;refine (W.af _ _ _ _).2 ⟨fun e => (by rw [hr] at e; simp at e), fun _ => ?_⟩;refine (W.aZ _ _ _).2 ⟨ga, aN had ?_⟩;refine bq (j := 2) hh (y := (q.u, ())) rfl ?_;refine (W.aZ _ _ _).2 ⟨gb, aN hbd ?_⟩;refine bq (j := 2) hhb (y := (p.u, ())) rfl ?_;dsimp only
  refine (W.af _ _ _ _).2 ⟨fun e => (by
   have e : (((q.u.2.1 : Nat) : Int) != ((p.u.2.1 : Nat) : Int)) = true := e
   rw [kK (by omega)] at e; cases e), fun _ => hJ _ _ ⟨rfl, rfl⟩⟩
 rintro _ _ ⟨rfl, rfl⟩;dsimp only;refine ⟨fun z s' => ∃ j : Nat, z = (((i : Int), ()), ((j : Int), ()), ()) ∧ j ≤ q.u.2.1 ∧ s = s', fun z _ => q.u.2.1 - z.2.1.1.toNat, ⟨0, rfl, Nat.zero_le _, rfl⟩, ?_⟩;rintro _ _ ⟨j, rfl, hj, rfl⟩;dsimp only;refine (W.aZ _ _ _).2 ⟨ga, aN had ?_⟩;simp only [Int.toNat_natCast];refine bq (j := 2) hh (y := (q.u, ())) rfl ?_;dsimp only;refine aI (fun e => ?_) fun _ => ?_
 ·have hlj : (j : Int) < (q.u.2.1 : Int) := of_decide_eq_true e
  obtain ⟨v, hv⟩ : ∃ v, l[j]? = some v := ⟨_, List.getElem?_eq_getElem (by omega)⟩
  obtain ⟨vd, hvd, hhv⟩ := s1.el.aA hv;obtain ⟨wd, hwd, hhw⟩ := s2.el.aA hv;have hhv : s.has (vd.add (j * 2)) (Cf.f v) := hhv;have hhw : s.has (wd.add (j * 2)) (Cf.f v) := hhw;refine (W.aZ _ _ _).2 ⟨ga, aN had ?_⟩;refine bq (j := 2) hh (y := (q.u, ())) rfl ?_;refine (W.aZ _ _ _).2 ⟨⟨Int.natCast_nonneg j, hlj⟩, aN hvd ?_⟩;refine az hhv (y := K3 v) rfl ?_;refine (W.aZ _ _ _).2 ⟨gb, aN hbd ?_⟩;refine bq (j := 2) hhb (y := (p.u, ())) rfl ?_;refine (W.aZ _ _ _).2 ⟨⟨Int.natCast_nonneg j, by show (j : Int) < (p.u.2.1 : Int); omega⟩, aN hwd ?_⟩;refine az hhw (y := K3 v) rfl ?_;dsimp only;refine (W.af _ _ _ _).2 ⟨fun e => (by simp at e), fun _ => ?_⟩;rw [ai (k := j) (by omega)];exact ⟨⟨j + 1, rfl, by omega, rfl⟩, by simp only [Int.toNat_natCast]; omega⟩
 ·rw [ai (k := i) (by omega)];exact ⟨⟨i + 1, rfl, by omega, rfl⟩, by simp only [Int.toNat_natCast]; omega⟩
theorem Gm {s : PH} {u v t u' v' t' : aP} {B M : List Ht} {rds : List bJ} {ws : List Wr} {L : List Rp} {qs ps : List wF} {rs rs' : List pN} (h1 : BJ s u B rds qs) (h2 : Sl jz s v ws) (h3 : D5 s t L rs) (k1 : BJ s u' M rds ps) (k2 : Sl jz s v' ws) (k3 : D5 s t' L rs') (hBM : ∀ p ∈ rds, au B p = au M p) :
  ah 22 #[.agg #[gS u, gS v, gS t], .agg #[gS u', gS v', gS t']] s fun y s' => y = .bool true ∧ s' = s := by
 refine Fb u.1 u.2.1 u.2.2 v.1 v.2.1 v.2.2 t.1 t.2.1 t.2.2 u'.1 u'.2.1 u'.2.2 v'.1 v'.2.1 v'.2.2 t'.1 t'.2.1 t'.2.2 _ s ?_;unfold xK;simp only [aT, aO, aE];refine aH ((true, ()), ()) (vE h3 k3) rfl ?_;refine (W.af _ _ _ _).2 ⟨fun _ => ?_, fun e => (by cases e)⟩;refine aH ((true, ()), ()) (zb h1 k1 hBM) rfl ?_;refine (W.af _ _ _ _).2 ⟨fun _ => ?_, fun e => (by cases e)⟩;refine aH ((true, ()), ()) (yh h2 k2) rfl ?_;exact ⟨rfl, rfl⟩
end
section
attribute [-simp] Fw.W.bC Fw.W.bA
theorem xj : ∀ {l seen : List Int} {last : Int}, aX last l seen = true → (∀ n ∈ l, 1 ≤ n ∧ n ≤ last ∧ n ∉ seen) ∧ l.Nodup
 | [], seen, last, _ => by simp
 | n :: l, seen, last, h => by
  simp only [aX, Bool.and_eq_true, decide_eq_true_eq, Bool.not_eq_true', decide_eq_false_iff_not] at h;obtain ⟨i1, i2⟩ := xj h.2.2;refine ⟨fun m hm => ?_, List.nodup_cons.2 ⟨fun hn => (i1 n hn).2.2 (by simp), i2⟩⟩;rcases List.mem_cons.1 hm with rfl | hm
  ·exact ⟨h.1.1, h.1.2, h.2.1⟩
  ·obtain ⟨a, b, c⟩ := i1 m hm;exact ⟨a, b, fun g => c (List.mem_cons_of_mem _ g)⟩
theorem FE {S : aD} (h : right S = true) : (∀ n ∈ S.tabs.flatMap cF, 1 ≤ n ∧ n ≤ 1125899906842624) ∧ (S.tabs.flatMap cF).Nodup := by
 obtain ⟨a, b, c, d, e⟩ := eI.1 h;obtain ⟨i1, i2⟩ := xj e;obtain ⟨hb, _, _⟩ := tr h;refine ⟨fun n hn => ?_, i2⟩;obtain ⟨x, y, _⟩ := i1 n hn;have := hb.last.2;exact ⟨x, by omega⟩
theorem HO {S : aD} {i : Int} (h : 0 ≤ dA S i) : ∃ U, gI S i = some U ∧ S.tabs[(dA S i).toNat]? = some U := by
 unfold dA at h ⊢;rcases nc (fun T : aG => decide (T.id = i)) S.tabs with ⟨h1, _⟩ | ⟨j, U, h1, h2, h3⟩
 ·omega
 ·refine ⟨U, ?_, by rw [h1]; exact h2⟩;unfold gI;rw [← h3]
  congr 1
theorem nH {S : aD} (h : right S = true) (hr : yO S) : (∀ T ∈ S.tabs, gp S T) ∧ S.tabs.length ≤ 6 := by
 obtain ⟨a, b, c, d, e⟩ := eI.1 h;obtain ⟨hbd, _, _⟩ := tr h;have hids := (FE h).1;refine ⟨fun T hT => ?_, hbd.tabs⟩;obtain ⟨i, hi⟩ := List.mem_iff_getElem?.1 hT;obtain ⟨x1, x2, x3, x4, _, _, _, q3, c1, c2, c3⟩ := gD.1 (cx.1 d i T hi)
 have hne : T.cols ≠ [] := fun g => by rw [g] at x1; simp at x1
 refine ⟨hne, fun c0 hc0 => ?_, fun c0 hc0 => ?_, fun x hx => ?_, by omega, by omega, by omega⟩
 ·unfold fh at q3
  cases hcs : T.cols with
  | nil => exact absurd hcs hne
  | cons c1 l =>
   rw [hcs] at q3 hc0;simp at hc0;subst hc0;simpa using q3
 ·obtain ⟨j, hj⟩ := List.mem_iff_getElem?.1 hc0;have h1 := cx.1 c1 j c0 hj;unfold fU at h1;simp only [Bool.and_eq_true] at h1;have h2 := hids c0.id (List.mem_flatMap.2 ⟨T, hT, by unfold cF; simp only [List.mem_cons, List.mem_append, List.mem_map]; exact .inr (.inl ⟨c0, hc0, rfl⟩)⟩);exact ⟨h2.1, by omega, vL h1.2.2, hr T hT c0 hc0⟩
 ·obtain ⟨j, hj⟩ := List.mem_iff_getElem?.1 hx;have h1 := cx.1 c3 j x hj;unfold ie at h1;simp only [Bool.and_eq_true, decide_eq_true_eq] at h1;obtain ⟨U, hU, hU2⟩ := HO h1.2.2.1;refine ⟨U, hU, fun g => ?_⟩;have h2 := h1.2.2.2;unfold o8 at h2;rw [hU2] at h2
  cases hc : T.cols[(cM T x.column).toNat]? with
  | none => rw [hc] at h2; cases h2
  | some c =>
   rw [hc] at h2;dsimp only at h2;rw [g] at h2; cases h2
theorem Gr {s : PH} {t : aP} {S : aD} {ps : List aC} (h : dP s t S ps) (D : nI) (hk1 : D.kind = 1) {u : aP} (hu : Sl dD s u D.cols) (hul : D.cols.length ≤ 1073741824) (st : Int) :
  ah 27 #[eV S t, GC D u, .int .i64 st] s (oF s (S.kY D st).1 (S.kY D st).2) := by
 obtain ⟨ua, un, uc⟩ := u;obtain ⟨ta, tn, tc⟩ := t;refine Hi S.version S.last ta tn tc D.kind D.table D.name D.column D.parent D.unique D.type D.dflt.kind D.dflt.n D.dflt.s ua un uc st _ s ?_;unfold A1
 obtain ⟨R, hR⟩ : ∃ R, oF s (S.kY D st).1 (S.kY D st).2 = R := ⟨_, rfl⟩
 rw [hR];simp only [cG, aO, aT, bS, aE, cj, dg, gX, bH, aM, aR, aQ, mA, qe, mj, nL, W.ay];refine W.bx (fun z s' => z = ((S.version, S.last, (ta, tn, tc), ()), (D.kind, D.table, D.name, D.column, D.parent, D.unique, D.type, D.dflt.kind, D.dflt.n, D.dflt.s, (ua, un, uc), ()), (0, 0, (none, 0, 0), ()), ()) ∧ s' = s ∧ right S = true ∧ 0 ≤ st ∧ st ≤ 3) ?_ ?_;rotate_left
 ·intro J hJ
  have hbad : ¬ (right S = true ∧ 0 ≤ st ∧ st ≤ 3) → R (.tuple #[eV eO dI, .int .i64 100]) s := by
   intro e
   have : S.kY D st = (eO, 100) := by
    unfold aD.kY; rw [if_pos];cases hr : right S
    ·rfl
    ·rw [hr] at e;simp only [Bool.true_and, Bool.and_eq_false_iff, decide_eq_false_iff_not];simp only [true_and] at e;omega
   rw [← hR, this];exact sV (Mod.refl _ _)
  have hc := Gq h
  obtain ⟨E, hE⟩ : ∃ E, right S = E := ⟨_, rfl⟩
  rw [hE] at hc hbad hJ;refine aH ((E, ()), ()) hc rfl ?_;simp only [W.af, decide_eq_true_eq, decide_eq_false_iff_not];exact ⟨fun h1 => hbad (fun e => by rw [e.1] at h1; cases h1), fun h1 => ⟨fun h2 => hbad (by omega), fun h2 => ⟨fun h3 => hbad (by omega), fun h3 => hJ _ _ ⟨rfl, rfl, uy h1, by omega, by omega⟩⟩⟩⟩
 rintro _ s0 ⟨rfl, rfl, hr, hst0, hst3⟩
 have hturn0 : S.kY D st = if D.kind < 1 ∨ 7 < D.kind then (eO, 1) else match lA { S with version := S.version + 1 } D st with
   | .error e => (eO, e)
   | .ok S' => (S', 0) := by
  unfold aD.kY;rw [if_neg (by rw [hr, decide_eq_true hst0, decide_eq_true hst3]; simp)]
  first | done | rfl
 refine W.bx (fun z s' => z = ((S.version, S.last, (ta, tn, tc), ()), (D.kind, D.table, D.name, D.column, D.parent, D.unique, D.type, D.dflt.kind, D.dflt.n, D.dflt.s, (ua, un, uc), ()), (0, 0, (none, 0, 0), ()), ()) ∧ s' = s0 ∧ ¬ (D.kind < 1 ∨ 7 < D.kind)) ?_ ?_;rotate_left
 ·intro J hJ
  have hbad : (D.kind < 1 ∨ 7 < D.kind) → R (.tuple #[eV eO dI, .int .i64 1]) s0 := by
   intro e;rw [← hR, hturn0, if_pos e];exact sV (Mod.refl _ _)
  simp only [W.af, decide_eq_true_eq, decide_eq_false_iff_not];exact ⟨fun h2 => hbad (by omega), fun h2 => ⟨fun h3 => hbad (by omega), fun h3 => hJ _ _ ⟨rfl, rfl, by omega⟩⟩⟩
 rintro _ s1 ⟨rfl, rfl, hkind⟩;rw [if_neg hkind] at hturn0;obtain ⟨hbd, hv0, hv1⟩ := tr hr;have hsn := HH hr;have hvw : i64.wrap (S.version + 1) = S.version + 1 := cq (by omega) (by omega);refine W.ak (IP h) ?_;rintro _ s2 ⟨t', ps', rfl, hH, he, m2, hf⟩;refine ⟨((S.version, S.last, t', ()), ()), rfl, ?_⟩;simp only [hvw]
 obtain ⟨S1, hS1⟩ : ∃ S1 : aD, S1 = ⟨S.version + 1, S.last, S.tabs⟩ := ⟨_, rfl⟩
 have hbd1 : S1.Bd := by rw [hS1]; exact ⟨hbd.tabs, hbd.each, hbd.last⟩
 have hsn1 : S1.Sn := by rw [hS1]; exact ⟨hsn.c, hsn.x, hsn.k⟩
 have he1 : S1.tabs = ps'.map (·.T) := by rw [hS1]; exact he
 have hSch2 : dP s2 t' S1 ps' := hH.is he1 (by have := hbd1.tabs; omega) (fun T hT => by obtain ⟨_, a, b, c⟩ := hbd1.each T hT; exact ⟨by omega, by omega, by omega⟩);have eS1 : (⟨S.version + 1, S.last, S.tabs⟩ : aD) = S1 := hS1.symm
 have hturn2 : S.kY D st = (lA S1 D st).out := by rw [← eS1]; exact hturn0
 have hv : S.version + 1 = S1.version := by rw [hS1]
 have hl : S.last = S1.last := by rw [hS1]
 rw [hv, hl];have herr := FR S1 D st;have hu2 := hu.mono m2.le;refine aH ((fy S1 D.table, ()), ()) (oO hSch2 D.table) rfl ?_
 have hk0 : ∀ e, oF s1 eO e (.tuple #[eV eO dI, .int .i64 e]) s2 → S.kY D st = (eO, e) → R (.tuple #[eV eO dI, .int .i64 e]) s2 := fun e hg ht => by rw [← hR, ht]; exact hg
 simp only [W.af, decide_eq_true_eq, decide_eq_false_iff_not];refine ⟨fun h1 => ?_, fun h1 => ?_⟩
 ·have h1 : D.kind = 1 := by simpa using h1
  have ht1 : lA S1 D st = cA S1 D st := by unfold lA; rw [if_pos h1]
  rw [ht1] at herr hturn2;refine W.ak (Ej hH he1 hbd1 D hu2 hul st) ?_;intro y s3 ho;refine Fx ho m2 hf herr hturn2 (K := fun _ => True) ?_ ?_
  ·intro S'' t'' e hne hg ht;simp only [W.af];refine ⟨fun _ => by rw [← hR, ht]; exact hg, fun hz => absurd (by simpa using hz) hne⟩
  ·intro S' t'' hg ht;refine (W.af _ _ _ _).2 ⟨fun hz => by simp at hz, fun _ => ?_⟩
   show R _ _
   rw [← hR, ht]; exact hg
 have h1 : D.kind ≠ 1 := by simpa using h1
 exact absurd hk1 h1
abbrev iz : cz := ⟨1, 1, [bg 5, ⟨2, 0, bs [120]⟩], 0, kT, 0, kT⟩
theorem BU : right gL = true := by kernel_rfl
theorem Ib : iJ gL = 0 := by kernel_rfl
theorem Kd : yO gL := by
 intro T hT c hc
 have h1 : T = ⟨1, bs [116], [⟨2, bs [97], 1, 3, ⟨0, 0, emp⟩⟩, ⟨3, bs [98], 2, 3, ⟨0, 0, emp⟩⟩], [], []⟩ := by simpa [gL] using hT
 subst h1
 have h2 : c = ⟨2, bs [97], 1, 3, ⟨0, 0, emp⟩⟩ ∨ c = ⟨3, bs [98], 2, 3, ⟨0, 0, emp⟩⟩ := by simpa using hc
 rcases h2 with rfl | rfl
 ·exact ⟨by decide, by decide⟩
 ·exact ⟨by decide, by decide⟩
theorem Ke : (bN gL 0 [iz] []).err = 0 ∧ (bN gL 0 [iz] []).asks = [bP 1 (bg 5)] ∧ (bN gL 0 [iz] []).reps = [⟨1, []⟩] ∧ ∃ x, (bN gL 0 [iz] []).ws = [x] ∧ x.key = iL 1 (bg 5) := by
 refine ⟨by kernel_rfl, by kernel_rfl, by kernel_rfl, (bN gL 0 [iz] []).ws.headD ⟨emp, emp, false⟩, by kernel_rfl, by kernel_rfl⟩
theorem Kf : (bN gL 0 [iz, iz] []).err = 210 ∧ (bN gL 0 [iz, iz] []).at_ = 1 := by
 exact ⟨by kernel_rfl, by kernel_rfl⟩
theorem Av (s : PH) : iI s dI [] := ⟨Sl.nil, by show 0 ≤ 100000; omega, by intro h hh; simp at hh, by intro h hh; simp at hh, .nil⟩
theorem y8 (s : PH) : ah 16 #[] s fun y s' => y = .bool true ∧ s' = s := by
 refine bu.quiet (E4 _ s ?_);unfold xD;simp only [aT, bS, cj, aO, aE, aR, aM, bH];refine W.ak (Ed s) ?_;rintro _ s1 ⟨u, rfl, hu, m1⟩;refine ⟨((kH.kind, kH.table, kH.name, kH.column, kH.parent, kH.unique, kH.type, kH.dflt.kind, kH.dflt.n, kH.dflt.s, u, ()), ()), rfl, ?_⟩
 have hno : dP s1 dI eO [] := ⟨Sl.nil, rfl, by simp⟩
 have hc1 := Gr hno kH rfl hu (by decide) 3;have hz1 := JA eO kH 3;rw [Lt] at hc1 hz1;refine W.ak hc1 ?_;intro y s2 hg;obtain ⟨t2, ps2, rfl, hS2, _, m2, _⟩ := GG hg hz1;refine ⟨((gL.version, gL.last, t2, ()), (0, ()), ()), rfl, ?_⟩;refine aH (bM (bg 5), ()) (tR 5 s2) rfl ?_;refine W.bK fun r1 s3 hr1 m3 k1 => ?_;refine W.bK fun r2 s4 hr2 m4 k2 => ?_
 have hv : ∀ {s' : PH}, Fw.Mod [] s3 s' → Sl dO s' (some ⟨r1, 0, none⟩, 2, 2) iz.vals := fun hm =>
  (Sl.bE (t := (some ⟨r1, 0, none⟩, 2, 2)) (kW (E := dO) (l := iz.vals) k1 rfl rfl (by show 2 ≤ 4294967296; omega)) (by simp)).mono hm.le
 have hb4 : Sl qh s4 (some ⟨r2, 0, none⟩, 1, 1) [⟨iz, (some ⟨r1, 0, none⟩, 2, 2)⟩] := Sl.bE (t := (some ⟨r2, 0, none⟩, 1, 1)) (kW (E := qh) k2 rfl rfl (by show 1 ≤ 4294967296; omega)) (by simp)
 have hexok : D3 iz := ⟨⟨by decide, by decide⟩, ⟨by decide, by decide⟩, fun v hv => by
  have : v = bg 5 ∨ v = ⟨2, 0, bs [120]⟩ := by simpa using hv
  rcases this with rfl | rfl
  ·exact ⟨by decide, by decide⟩
  ·exact ⟨by decide, by decide⟩⟩
 have hS4 := hS2.mono (m3.trans m4).le
 have hcn : kG 1000 [] := fun h hh => by simp at hh
 refine W.ak (zf (N0 := 1000) (by omega) (b := (some ⟨r2, 0, none⟩, 1, 1)) (Av s4) hS4 (fun _ => nH BU Kd) hcn hb4 (by simp) (fun q hq => ?_)) ?_
 ·have : q = ⟨iz, (some ⟨r1, 0, none⟩, 2, 2)⟩ := by simpa using hq
  subst this;exact ⟨hv m4, hexok⟩
 rintro y s5 ⟨m5, hq⟩;obtain ⟨f1, f2, f3, x, f4, f5⟩ := Ke;have f1' : (bN gL 0 ([(⟨iz, (some ⟨r1, 0, none⟩, 2, 2)⟩ : iH)].map (·.b)) []).err = 0 := f1;rw [if_neg (by rw [Ib]; decide), if_neg (by rw [f1']; decide)] at hq;obtain ⟨ur, uw, ut, rfl, hE, _⟩ := hq;have hE : CD s4 s5 [] (bI [] (bN gL 0 [iz] []).asks) ((bN gL 0 [iz] []).ws.foldl cI []) (bN gL 0 [iz] []).reps ur uw ut := hE;rw [f2, f3, f4] at hE;refine ⟨((ur, uw, ut, ()), (0, ()), (0, ()), ()), rfl, ?_⟩;refine W.bK fun r3 s6 hr3 m6 k3 => ?_;have hb6 : Sl qh s6 (some ⟨r3, 0, none⟩, 2, 2) [⟨iz, (some ⟨r1, 0, none⟩, 2, 2)⟩, ⟨iz, (some ⟨r1, 0, none⟩, 2, 2)⟩] := Sl.bE (t := (some ⟨r3, 0, none⟩, 2, 2)) (kW (E := qh) k3 rfl rfl (by show 2 ≤ 4294967296; omega)) (by simp);have hS6 := hS4.mono (m5.trans m6).le;refine W.ak (zf (N0 := 1000) (by omega) (b := (some ⟨r3, 0, none⟩, 2, 2)) (Av s6) hS6 (fun _ => nH BU Kd) hcn hb6 (by simp) (fun q hq => ?_)) ?_
 ·have : q = ⟨iz, (some ⟨r1, 0, none⟩, 2, 2)⟩ := by simpa using hq
  subst this;exact ⟨hv ((m4.trans m5).trans m6), hexok⟩
 rintro y s7 ⟨m7, hq⟩;obtain ⟨g1, g2⟩ := Kf;have g1' : (bN gL 0 ([(⟨iz, (some ⟨r1, 0, none⟩, 2, 2)⟩ : iH), ⟨iz, (some ⟨r1, 0, none⟩, 2, 2)⟩].map (·.b)) []).err = 210 := g1;have g2' : (bN gL 0 ([(⟨iz, (some ⟨r1, 0, none⟩, 2, 2)⟩ : iH), ⟨iz, (some ⟨r1, 0, none⟩, 2, 2)⟩].map (·.b)) []).at_ = 1 := g2;rw [if_neg (by rw [Ib]; decide), if_pos (by rw [g1']; decide), g1', g2'] at hq;subst hq;refine ⟨(((none, 0, 0), (none, 0, 0), (none, 0, 0), ()), ((1 : Int), ()), ((210 : Int), ()), ()), rfl, ?_⟩;have m57 := m6.trans m7;obtain ⟨⟨qs, hr, hrq, hst⟩, hw, ⟨rs, hrp⟩⟩ := hE;have hrr := hr.row.mod m57 (by simp);have hww := hw.row.mod m57 (by simp);have hpp := hrp.gw.row.mod m57 (by simp);have hads : bI [] [bP 1 (bg 5)] = [bP 1 (bg 5)] := rfl;rw [hads] at hrq
 obtain ⟨q, hqs⟩ : ∃ q, qs = [q] := by
  cases qs with
  | nil => simp at hrq
  | cons q l => cases l with
   | nil => exact ⟨q, rfl⟩
   | cons z l => simp at hrq
 subst hqs;have hws : [x].foldl cI [] = [x] := rfl;rw [hws] at hww
 obtain ⟨p, hps⟩ : ∃ p, rs = [p] := by
  have := congrArg List.length hrp.eq
  cases rs with
  | nil => simp at this
  | cons q l => cases l with
   | nil => exact ⟨q, rfl⟩
   | cons z l => simp at this
 subst hps
 have hpr : p.r = ⟨1, []⟩ := by have := hrp.eq; simpa using this
 have n1 : ur.2.1 = 1 := hrr.len;have n2 : uw.2.1 = 1 := hww.len;have n3 : ut.2.1 = 1 := hpp.len;obtain ⟨b1, hb1, hh1⟩ := (Sl.bE (t := ur) hrr (by simp)).el.aA (i := 0) (x := q) rfl;obtain ⟨b2, hb2, hh2⟩ := (Sl.bE (t := uw) hww (by simp)).el.aA (i := 0) (x := x) rfl;obtain ⟨b3, hb3, hh3⟩ := (Sl.bE (t := ut) hpp (by simp)).el.aA (i := 0) (x := p) rfl
 have hh1 : s7.has (b1.add 0) (qI.f q) := by simpa using hh1
 have hh2 : s7.has (b2.add 0) (jz.f x) := by simpa using hh2
 have hh3 : s7.has (b3.add 0) (Ca.f p) := by simpa using hh3
 have hq0 : q.u.2.1 = 0 := (hst q (by simp)).len;have yes : ∀ {c : Bool} {a b : W.T} {s : PH}, c = true → a s → W.br c a b s := fun {c a b s} h ha => (W.af _ _ _ _).2 ⟨fun _ => ha, fun e => by rw [h] at e; cases e⟩
 have one : ∀ {n : Nat}, n = 1 → (((n : Nat) : Int) == 1) = true := fun h => by rw [h]; (first | done | rfl)
 refine yes rfl (yes (one n1) ?_);dsimp only;refine (W.aZ _ _ _).2 ⟨⟨Int.le_refl 0, by rw [n1]; decide⟩, aN hb1 ?_⟩;refine bq (j := 2) hh1 (y := (q.u, ())) rfl ?_;dsimp only;refine yes (by rw [hq0]; (first | done | rfl)) (yes (one n2) ?_);refine (W.aZ _ _ _).2 ⟨⟨Int.le_refl 0, by rw [n2]; decide⟩, aN hb2 ?_⟩;refine bq (j := 0) hh2 (y := (x.key, ())) rfl ?_;refine W.cr (bM (bg 5), ()) (tR 5 s7) rfl ?_;refine W.cr ((iL 1 (bg 5), ()), ()) (JY 1 (bg 5) s7) rfl ?_;dsimp only;rw [bV];refine yes (decide_eq_true f5) (yes (one n3) ?_);refine (W.aZ _ _ _).2 ⟨⟨Int.le_refl 0, by rw [n3]; decide⟩, aN hb3 ?_⟩;refine bq (j := 0) hh3 (y := (p.r.n, ())) rfl ?_;dsimp only;refine yes (by rw [hpr]; (first | done | rfl)) (yes rfl (yes rfl ?_));exact ⟨rfl, (((((m1.trans m2).trans m3).trans m4).trans m5).trans m6).trans m7⟩
end
section
attribute [-simp] Fw.W.bC Fw.W.bA
theorem HI (S : aD) (i : Int) (D : List Ht) : bN S i [] D = ⟨0, 0, [], [], []⟩ := by rw [bN.eq_def]
def qK (S : aD) (L : List cz) (B : List Ht) : Int := if iJ S ≠ 0 then 100 else (bN S 0 L B).err
theorem uF {N0 : Nat} {s s' : PH} {S : aD} {B : List Ht} {L : List cz} {y : Value} (h : CG N0 s S B L y s') : Fw.Mod [] s s' ∧ ∃ (u v t : aP) (at_ : Int), y = .tuple #[.agg #[gS u, gS v, gS t], .int .i64 at_, .int .i64 (qK S L B)] ∧
  (qK S L B = 0 → CD s s' B (bI [] (bN S 0 L B).asks) ((bN S 0 L B).ws.foldl cI []) (bN S 0 L B).reps u v t ∧ JP N0 B (bN S 0 L B).ws (bN S 0 L B).reps ∧ (bN S 0 L B).err = 0) ∧
  (qK S L B ≠ 0 → u = dI ∧ v = dI ∧ t = dI) := by
 obtain ⟨m, h⟩ := h;refine ⟨m, ?_⟩;unfold qK
 by_cases e : iJ S ≠ 0
 ·rw [if_pos e] at h ⊢;exact ⟨dI, dI, dI, 0, h, fun g => absurd g (by decide), fun _ => ⟨rfl, rfl, rfl⟩⟩
 ·rw [if_neg e] at h ⊢
  by_cases e2 : (bN S 0 L B).err ≠ 0
  ·rw [if_pos e2] at h;exact ⟨dI, dI, dI, _, h, fun g => absurd g e2, fun _ => ⟨rfl, rfl, rfl⟩⟩
  ·rw [if_neg e2] at h;obtain ⟨u, v, t, rfl, h1, h2⟩ := h
   have e3 : (bN S 0 L B).err = 0 := by omega
   exact ⟨u, v, t, 0, by rw [e3], fun _ => ⟨h1, h2, e3⟩, fun g => absurd e3 g⟩
theorem jd.r {s0 s : PH} {t : aP} {L : List Rp} {qs : List pN} (h : jd s0 s t.1 t.2.1 t.2.2 L qs) (h1 : L.length ≤ 12) (h2 : ∀ r ∈ L, r.rows.length ≤ 64 ∧ ∀ v ∈ r.rows, v.length ≤ 8) : D5 s t L qs := by
 have hl : qs.length = L.length := by rw [← h.eq, List.length_map]
 refine ⟨Sl.bE h.gw.row (by omega), h.eq, fun q hq => ?_⟩;have hr := h.rs q hq
 have hqL : q.r ∈ L := by rw [← h.eq]; exact List.mem_map_of_mem hq
 obtain ⟨k1, k2⟩ := h2 q.r hqL
 have hvl : q.vs.length = q.r.rows.length := by rw [← hr.eq, List.length_map]
 refine ⟨Sl.bE hr.gw.row (by omega), hr.eq, fun v hv => Sl.bE (hr.vs v hv).1 ?_⟩;have := k2 v.l (by rw [← hr.eq]; exact List.mem_map_of_mem hv);omega
theorem GD {x : BA} {l : List aY} (e : gA x = some l) : l.length ≤ x.size := by
 obtain ⟨h1, _, _, _⟩ := nh e;have h4 := wN (l := l);rw [h1, cE]; exact h4
structure CC (B : List Ht) : Prop where
 cY : cl B
 ks : rM B
 vs : rN B
 cn : kG 1000 B
 len : B.length ≤ 400
theorem BL {l : List Ht} (hk : rM l) (hv : ∀ x ∈ l, x.val.size ≤ 1000) (hl : l.length ≤ 400) : CC (jA l) := by
 obtain ⟨h1, h2, h3⟩ := sF l;refine ⟨h1, fun x hx => hk x (h2 x hx), fun x hx => ?_, fun x hx c e => ?_, by omega⟩
 ·have := hv x (h2 x hx); omega
 ·have h4 := hv x (h2 x hx); have h5 := GD e; omega
theorem CC.ok {B : List Ht} (h : CC B) {s s' : PH} {t : aP} (hr : Sl bl s t B) : iI s t B := ⟨hr, by have h1 := hr.len; have h2 := h.len; omega, h.ks, h.vs, h.cY⟩
theorem Kj {S : aD} (hr : yO S) : iJ S = 0 → (∀ T ∈ S.tabs, gp S T) ∧ S.tabs.length ≤ 6 := fun e => nH (by
 unfold iJ at e
 split at e
 ·assumption
 ·cases e) hr
end
section
theorem F9 {cs : Array Value} {l : List Value} (h : cs.toList = l) : Value.agg cs = .agg l.toArray := by rw [← h]
theorem Iy {s : PH} {a : OA} {n c : Nat} {L : List cz} (w : elems uC s a n L) (h : n ≤ c) (b : c * 120 ≤ reachBytes) : ∃ bs, qY s (a, n, c) L bs := by
 have hr : reachBytes = 140737488351232 := rfl;obtain ⟨t, bs, e, hb⟩ := FA (s := s) (cs := [.slice a n c]) (L := L) ⟨a, n, c, rfl, h, by show c ≤ 9223372036854775807; omega, b, w⟩
 have e : (Value.slice a n c) = .slice t.1 t.2.1 t.2.2 := by simpa using e
 cases e;exact ⟨bs, hb⟩
theorem BX {s : PH} {a : OA} {n c : Nat} {l : List Ht} (w : elems rF s a n l) (h : n ≤ c) (b : c * 40 ≤ reachBytes) : mU bl s (a, n, c) l ∧ rM l := by
 have hr : reachBytes = 140737488351232 := rfl;obtain ⟨t, e, hb, hk⟩ := xm (R := rF) (E := bl) (bytes := 40) (s := s) (cs := [.slice a n c]) (xs := l) (by omega) rfl (fun cs x hx => Jv hx) ⟨a, n, c, rfl, h, by show c ≤ 9223372036854775807; omega, b, w⟩
 have e : (Value.slice a n c) = .slice t.1 t.2.1 t.2.2 := by simpa using e
 cases e;exact ⟨hb, hk⟩
end
end Go.Proofs.YtlfdfgokflhdbaaGreat
