/-
  Part 29 for the law: lemmas.
  Conditions: none.
-/
import Derived.Test.YtlfdfgokflhdbaaGreatExecSplitsK28
set_option maxHeartbeats 4000000
set_option maxRecDepth 100000
set_option linter.unusedVariables false
set_option linter.unusedSimpArgs false
set_option linter.unusedSectionVars false
namespace Go.Proofs.YtlfdfgokflhdbaaGreat
open Fw Go Go.IntKind
section
attribute [-simp] Fw.W.bD Fw.W.bB
structure gL where
 b : cD
 t : aG
def mG : cG gL where
 sz := 11
 f q := [.int .i64 q.b.kind, .int .i64 q.b.table, .slice q.t.1 q.t.2.1 q.t.2.2, .int .i64 q.b.set, .int .i64 q.b.to.kind, .int .i64 q.b.to.n, .string q.b.to.s, .int .i64 q.b.whr, .int .i64 q.b.is.kind, .int .i64 q.b.is.n, .string q.b.is.s]
 len _ := rfl
 one q v hv := by simp at hv; rcases hv with rfl | rfl | rfl | rfl | rfl | rfl | rfl | rfl | rfl | rfl | rfl <;> rfl
 pos := by omega
structure pK where
 r : Rp
 u : aG
 vs : List pM
def rm : cG pK where
 sz := 2
 f q := [.int .i64 q.r.n, .slice q.u.1 q.u.2.1 q.u.2.2]
 len _ := rfl
 one q v hv := by simp at hv; rcases hv with rfl | rfl <;> rfl
 pos := by omega
structure iV (s0 s : PH) (a : Option Addr) (n c : Nat) (L : List Rp) (qs : List pK) : Prop where
 gw : Gw rm 135 s0 s a n c qs
 eq : qs.map (·.r) = L
 rs : ∀ q ∈ qs, fB s0 s q.u.1 q.u.2.1 q.u.2.2 q.r.rows q.vs
theorem fB.kt {s0 s s' : PH} {a : Option Addr} {n c : Nat} {L : List (List aR)} {qs : List pM} (h : fB s0 s a n c L qs) (hk : Kt s s') (hm : Fw.Mod [] s0 s') : fB s0 s' a n c L qs :=
 ⟨⟨hk.row h.gw.row (by decide) (by decide), h.gw.fr, hm⟩, h.eq, fun q hq => ⟨hk.row (h.vs q hq).1 (by decide) (by decide), (h.vs q hq).2⟩⟩
theorem iV.kt {s0 s s' : PH} {a : Option Addr} {n c : Nat} {L : List Rp} {qs : List pK} (h : iV s0 s a n c L qs) (hk : Kt s s') (hm : Fw.Mod [] s0 s') : iV s0 s' a n c L qs :=
 ⟨⟨hk.row h.gw.row (by decide) (by decide), h.gw.fr, hm⟩, h.eq, fun q hq => (h.rs q hq).kt hk hm⟩
theorem iV.same {s0 s s' : PH} {a : Option Addr} {n c : Nat} {L : List Rp} {qs : List pK} (h : iV s0 s a n c L qs) (hm : Fw.Mod [] s s') : iV s0 s' a n c L qs :=
 ⟨h.gw.same hm, h.eq, fun q hq => (h.rs q hq).same hm⟩
theorem fB.off {s0 s s' : PH} {a b : Option Addr} {n c m d : Nat} {L : List (List aR)} {qs : List pM} {M : List pK} (h : fB s0 s a n c L qs) (hG : Gw rm 135 s0 s b m d M) (hm : Fw.Mod (Fw.aH b) s s') : fB s0 s' a n c L qs :=
 ⟨⟨gH h.gw.row hG (by decide) hm, h.gw.fr, hG.md.fresh hm fun g hg => .inr (hG.fr g hg)⟩, h.eq, fun q hq => ⟨gH (h.vs q hq).1 hG (by decide) hm, (h.vs q hq).2⟩⟩
theorem iV.push {s0 s : PH} {a : Option Addr} {n c : Nat} {L : List Rp} {qs : List pK} {r : Rp} {u : aG} {vs : List pM} {K : Option Addr → Nat → Nat → W.T} (h : iV s0 s a n c L qs) (hu : fB s0 s u.1 u.2.1 u.2.2 r.rows vs) (hl : n + 1 ≤ 4294967296)
  (hK : ∀ a' c' s' qs', iV s0 s' a' (n + 1) c' (L ++ [r]) qs' → Fw.Mod (Fw.aH a) s s' → K a' (n + 1) c' s') : W.nw (.cells #[.int .i64 r.n, .slice u.1 u.2.1 u.2.2] 135 (0, 0)) (fun r => W.app 135 2 32 [.int .i64 0, .slice none 0 0] a n c (Src.sl (some ⟨r, 0, none⟩) 1) K) s := by
 refine h.gw.mS [⟨r, u, vs⟩] (k := 1) rfl rfl rfl hl (by omega) fun a' c' s' h1 m1 => hK a' c' s' (qs ++ [⟨r, u, vs⟩]) ⟨h1, by rw [List.map_append, h.eq]; (first | done | rfl), fun q hq => ?_⟩ m1
 rcases List.mem_append.1 hq with hq | hq
 ·exact (h.rs q hq).off h.gw m1
 ·simp only [List.mem_singleton] at hq
  subst hq
  exact hu.off h.gw m1
structure sU (s0 s : PH) (B : List Ht) (rds : List cq) (ws : List Wr) (rps : List Rp) (u v t : aG) : Prop where
 reads : ∃ qs, Gw EE 132 s0 s u.1 u.2.1 u.2.2 qs ∧ qs.map (·.p) = rds ∧ ∀ q ∈ qs, aW JF s 215 q.u.1 q.u.2.1 q.u.2.2 (stamps (aJ B q.p))
 writes : Gw mZ 79 s0 s v.1 v.2.1 v.2.2 ws
 reps : ∃ qs, iV s0 s t.1 t.2.1 t.2.2 rps qs
 rl : rds.length ≤ 48000
abbrev JJ : Value := .agg #[.slice none 0 0, .slice none 0 0, .slice none 0 0]
structure xZ (N0 : Nat) (B : List Ht) (ws : List Wr) (rps : List Rp) : Prop where
 rn : rps.length ≤ 12
 rf : ∀ r ∈ rps, r.rows.length ≤ 64 ∧ ∀ v ∈ r.rows, v.length ≤ 8
 sm : ∀ x ∈ ws.foldl cv [], x.key.size ≤ 4000000 ∧ x.val.size ≤ 4000000
 ol : (ws.foldl cv []).length ≤ 20000
 cn : jN (N0 + 108) (aj 0 B ws)
def BQ (N0 : Nat) (s : PH) (S : aF) (B : List Ht) (L : List cD) (y : Value) (s' : PH) : Prop := Fw.Mod [] s s' ∧
 (if gQ S ≠ 0 then y = .tuple #[JJ, .int .i64 0, .int .i64 100]
 else if (bp S 0 L B).err ≠ 0 then y = .tuple #[JJ, .int .i64 (bp S 0 L B).at_, .int .i64 (bp S 0 L B).err]
 else ∃ u v t : aG, y = .tuple #[.agg #[ko u, ko v, ko t], .int .i64 0, .int .i64 0] ∧ sU s s' B (bJ [] (bp S 0 L B).asks) ((bp S 0 L B).ws.foldl cv []) (bp S 0 L B).reps u v t ∧ xZ N0 B (bp S 0 L B).ws (bp S 0 L B).reps)
abbrev Dc : Obj := .cells #[.func (.func 58) #[] #[], .func (.func 59) #[] #[], .func (.func 60) #[] #[], .func (.func 61) #[] #[]] 150 (0, 0)
theorem lz (S : aF) (i : Int) (b : cD) (l : List cD) (D : List Ht) : bp S i (b :: l) D = match fy S b with
  | none => ⟨1, i, [], [], []⟩
  | some T => if (fS S T b D).err ≠ 0 then ⟨(fS S T b D).err, i, [], (fS S T b D).asks, (fS S T b D).ws⟩
   else ⟨(bp S (i + 1) l (aj 0 D (fS S T b D).ws)).err, (bp S (i + 1) l (aj 0 D (fS S T b D).ws)).at_, (fS S T b D).rep :: (bp S (i + 1) l (aj 0 D (fS S T b D).ws)).reps, (fS S T b D).asks ++ (bp S (i + 1) l (aj 0 D (fS S T b D).ws)).asks, (fS S T b D).ws ++ (bp S (i + 1) l (aj 0 D (fS S T b D).ws)).ws⟩ := by rw [bp.eq_def]; (first | done | rfl)
structure KF (N0 : Nat) (s : PH) (S : aF) (tt sh : aG) (B : List Ht) (L : List cD) (r3 r4 : Nat) (i : Nat) (a : Option Addr) (n c : Nat) (rps : List Rp) (qs : List pK) (A : List cq) (Wl : List Wr) (s' : PH) : Prop where
 ej : EJ s s' r3 S tt sh B (bJ [] A) (Wl.foldl cv [])
 ways : s' r4 = some Dc
 rp : iV s s' a n c rps qs
 nl : n ≤ i
 rf : ∀ r ∈ rps, r.rows.length ≤ 64 ∧ ∀ v ∈ r.rows, v.length ≤ 8
 al : A.length ≤ i * 4000
 wl : Wl.length ≤ i * 1100
 cn : jN (N0 + 9 * i) (aj 0 B Wl)
 err : (bp S 0 L B).err = (bp S i (L.drop i) (aj 0 B Wl)).err
 at_ : (bp S 0 L B).at_ = (bp S i (L.drop i) (aj 0 B Wl)).at_
 reps : (bp S 0 L B).reps = rps ++ (bp S i (L.drop i) (aj 0 B Wl)).reps
 asks : (bp S 0 L B).asks = A ++ (bp S i (L.drop i) (aj 0 B Wl)).asks
 ws : (bp S 0 L B).ws = Wl ++ (bp S i (L.drop i) (aj 0 B Wl)).ws
theorem D0 {K V : Type} [BEq K] [LawfulBEq K] {ks : Fa Tryz.prog K} {ve : V → Value} {s : PH} {m : Nat} (h : s m = some (.map #[] 0)) : jm (V := V) ks ve s m [] := ⟨#[], 0, h, rfl, Go.MapKept.stamped_empty 0⟩
theorem FU {K V : Type} [BEq K] [LawfulBEq K] {ke : rM K} {ve : V → Value} {s : PH} {m : Nat} (h : s m = some (.map #[] 0)) : fH (V := V) ke ve s m [] := ⟨#[], 0, h, rfl, Go.MapKept.stamped_empty 0⟩
section
variable {S : aF} {tt sh : aG} {B : List Ht}
theorem yz {N0 : Nat} (hN0 : N0 ≤ 5000) {s : PH} {ps : List ay} (hB : iC s sh B) (hS : cX s tt S ps) (hok : gQ S = 0 → (∀ T ∈ S.tabs, gh S T) ∧ S.tabs.length ≤ 6) (hCn : jN N0 B) {b : aG} {bs : List gL} (hb : Sl mG s b bs) (hb12 : bs.length ≤ 12) (hvs : ∀ q ∈ bs, Sl dJ s q.t q.b.vals ∧ Df q.b) :
  ai 19 #[eK S tt, .slice b.1 b.2.1 b.2.2, zN sh] s (BQ N0 s S B (bs.map (·.b))) := by
 refine Iv S.version S.last tt.1 tt.2.1 tt.2.2 b.1 b.2.1 b.2.2 73 (ko sh) _ s ?_
 unfold BH
 obtain ⟨L, hL⟩ : ∃ L, bs.map (·.b) = L := ⟨_, rfl⟩
 rw [hL]
 obtain ⟨R, hR⟩ : ∃ R, BQ N0 s S B L = R := ⟨_, rfl⟩
 rw [hR]
 have hbl : b.2.1 = bs.length := hb.len
 have hLl : L.length = bs.length := by rw [← hL, List.length_map]
 simp only [aN, aE, aU, bU, gN, aS, aP, aQ, bI, cE, uQ, lX, cZ, lT, dh, aY, Nat.zero_add]
 refine (W.aa _ _ _ _).2 ⟨fun e => absurd e (by decide), fun _ => ?_⟩
 refine aL ((gQ S, ()), ()) (HC hS) rfl ?_
 dsimp only
 refine (W.aa _ _ _ _).2 ⟨fun e => ?_, fun e => ?_⟩
 ·have e : gQ S ≠ 0 := by simpa using e
  rw [← hR]
  exact ⟨Mod.refl _ _, by rw [if_pos e]⟩
 have herr : gQ S = 0 := by simpa using e
 obtain ⟨hAll, hT6⟩ := hok herr
 refine W.bG fun r1 s1 hr1 m1 k1 => ?_
 refine W.bG fun r2 s2 hr2 m2 k2 => ?_
 refine W.bG fun r3 s3 hr3 m3 k3 => ?_
 refine W.bG fun r4 s4 hr4 m4 k4 => ?_
 refine kg (c' := #[.func (.func 58) #[] #[], .func (.func 59) #[] #[], .func (.func 60) #[] #[], .func (.func 61) #[] #[]]) k4 (by show 0 + 4 ≤ 4; omega) (by simp [Value.oneCell']) rfl ?_
 intro s5 hs5
 have k54 : s5 r4 = some Dc := by rw [hs5, PH.bA]
 have m35 : Fw.Mod [] s3 s5 := by rw [hs5]; exact m4.bQ (.inr hr4)
 have m25 := m3.trans m35
 have m15 := m2.trans m25
 have m05 : Fw.Mod [] s s5 := m1.trans m15
 have k51 : s5 r1 = some (.map #[] 0) := m15.at k1 (by simp)
 have k52 : s5 r2 = some (.map #[] 0) := m25.at k2 (by simp)
 have k53 : s5 r3 = some (vN S tt sh (none, 0, 0) r1 r2) := m35.at k3 (by simp)
 have n1 : s r1 = none := hr1
 have n2 : s r2 = none := m1.none hr2 (by simp)
 have n3 : s r3 = none := (m1.trans m2).none hr3 (by simp)
 have hE0 : EJ s s5 r3 S tt sh B (bJ [] []) (([] : List Wr).foldl cv []) := by
  refine ⟨⟨(none, 0, 0), r1, r2, [], [], [], m05, n3, k53, n1, n2, fun e => ?_, Gw.nil m05, rfl, by simp, D0 k51, rfl, by simp, FU k52, by simp, List.Perm.nil⟩, List.Pairwise.nil, by simp [List.foldl], by simp⟩
  rw [← e, k1] at hr2; cases hr2
 refine ⟨fun z s' => ∃ (i : Nat) (a : Option Addr) (n c : Nat) (rps : List Rp) (qs : List pK) (A : List cq) (Wl : List Wr), z = (((none, 0, 0), (none, 0, 0), (none, 0, 0), ()), (some ⟨r3, 0, none⟩, ()), (⟨r4, 0, none⟩, ()), ((none, 0, 0), (none, 0, 0), (a, n, c), ()), (b, ()), ((b.2.1 : Int), ()), ((i : Int), ()), ()) ∧ i ≤ b.2.1 ∧ KF N0 s S tt sh B L r3 r4 i a n c rps qs A Wl s',
  fun z _ => b.2.1 - z.2.2.2.2.2.2.1.1.toNat, ⟨0, none, 0, 0, [], [], [], [], rfl, Nat.zero_le _, ⟨hE0, k54, ⟨Gw.nil m05, rfl, by simp⟩, Nat.le_refl _, by simp, by simp, by simp, hCn, rfl, rfl, rfl, rfl, rfl⟩⟩, ?_⟩
 rintro _ s6 ⟨i, a, n, c, rps, qs, A, Wl, rfl, hi, hI⟩
 obtain ⟨D, hD⟩ : ∃ D, aj 0 B Wl = D := ⟨_, rfl⟩
 have hDov : aj 0 B (Wl.foldl cv []) = D := by rw [← hD]; exact (jl hB.cV Wl List.Pairwise.nil).symm
 have hDs : dO D := by rw [← hD]; exact fD _ hB.cV
 have hdv := (gP hB hI.ej.cV hI.ej.sm).2
 rw [hDov] at hdv
 have hal := ey A []
 have hwl := lu Wl []
 have hil := hI.al
 have hiw := hI.wl
 simp only [List.length_nil, Nat.zero_add] at hal hwl
 have q1 := hI.err
 have q2 := hI.at_
 have q3 := hI.reps
 have q4 := hI.asks
 have q5 := hI.ws
 have hcn := hI.cn
 rw [hD] at q1 q2 q3 q4 q5 hcn
 dsimp only
 refine (W.aa _ _ _ _).2 ⟨fun e => ?_, fun e => ?_⟩
 ·have hlt : (i : Int) < (b.2.1 : Int) := of_decide_eq_true e
  obtain ⟨q, hq⟩ : ∃ q, bs[i]? = some q := ⟨_, List.getElem?_eq_getElem (by omega)⟩
  have hqm := List.mem_of_getElem? hq
  have hLi : L[i]? = some q.b := by rw [← hL, List.getElem?_map, hq]; (first | done | rfl)
  rw [bO hLi, lz] at q1 q2 q3 q4 q5
  obtain ⟨ad, had, hh⟩ := (hb.mono hI.ej.md.le).el.aB hq
  refine (W.ah _ _ _).2 ⟨⟨Int.natCast_nonneg i, hlt⟩, ?_⟩
  refine bg had ?_
  simp only [Int.toNat_natCast]
  have hh : s6.has (ad.add (i * 11)) (mG.f q) := hh
  refine aC hh (y := uU q.b q.t) rfl ?_
  obtain ⟨hqv, hqb⟩ := hvs q hqm
  obtain ⟨rr, mb, mo, qs0, bs0, f0, hx6⟩ := hI.ej.ei
  refine W.au (FE hx6.aH (hS.mono hI.ej.md.le) hAll (hqv.mono hI.ej.md.le)) ?_
  rintro _ s7 ⟨m7, ⟨hr7, d, rfl⟩ | ⟨p, hpm, hr7, rfl⟩⟩
  ·refine ⟨(d, (false, ()), ()), rfl, ?_⟩
   refine (W.aa _ _ _ _).2 ⟨fun _ => ?_, fun e => (by cases e)⟩
   rw [hr7] at q1 q2
   dsimp only at q1 q2 ⊢
   rw [← hR]
   refine ⟨hI.ej.md.trans m7, ?_⟩
   rw [if_neg (by rw [herr]; decide), if_pos (by rw [q1]; decide), q1, q2]
  refine ⟨(mC p, (true, ()), ()), rfl, ?_⟩
  refine (W.aa _ _ _ _).2 ⟨fun e => (by cases e), fun _ => ?_⟩
  rw [hr7] at q1 q2 q3 q4 q5
  dsimp only at q1 q2 q3 q4 q5 ⊢
  obtain ⟨E, hE⟩ : ∃ E, fS S p.T q.b D = E := ⟨_, rfl⟩
  rw [hE] at q1 q2 q3 q4 q5
  have hof := CK hAll hT6 hr7 hqb hDs hdv hcn
  rw [hE] at hof
  have hrf := rj hr7
  have hpT := hAll p.T hrf.mem
  have hpI := hS.all p hpm
  have hE7 := hI.ej.same m7
  have hcn7 : jN (N0 + 9 * i) (aj 0 B (Wl.foldl cv [])) := by rw [hDov]; exact hcn
  have k74 := m7.at hI.ways (by simp)
  have hrp7 := hI.rp.same m7
  have c1 : q.b.kind = 1 → ai 58 #[cp r3, dR p.T p.c p.x p.k, nc q.b q.t] s7 (kD s s7 r3 S tt sh B (bJ [] A) (Wl.foldl cv []) E) := fun hk => by
   have := DE hB hE7 hS hpI hpT hqv (Jq hpT (hrf.ins hk)) (hrf.ins hk) hqb.vals (by omega) (by omega)
   rw [hDov] at this
   have e : sr S p.T q.b D = E := by rw [← hE]; unfold fS; rw [if_pos hk]
   rwa [e] at this
  have c2 : q.b.kind = 2 → ai 59 #[cp r3, dR p.T p.c p.x p.k, nc q.b q.t] s7 (kD s s7 r3 S tt sh B (bJ [] A) (Wl.foldl cv []) E) := fun hk => by
   obtain ⟨p1, p2, p3⟩ := wA hpT (hrf.aM hk) hqb.to
   have := DJ (t := q.t) hB hE7 hS hpI hpT hcn7 (by omega) p1 p2 p3 (by omega) (by omega)
   rw [hDov] at this
   have e : sO S p.T q.b D = E := by rw [← hE]; unfold fS; rw [if_neg (by omega), if_pos hk]
   rwa [e] at this
  have c3 : q.b.kind = 3 → ai 60 #[cp r3, dR p.T p.c p.x p.k, nc q.b q.t] s7 (kD s s7 r3 S tt sh B (bJ [] A) (Wl.foldl cv []) E) := fun hk => by
   have := DG (b := q.b) (t := q.t) hB hE7 hS hAll hT6 hpI hpT (by omega) (by omega)
   rw [hDov] at this
   have e : sG S p.T q.b D = E := by rw [← hE]; unfold fS; rw [if_neg (by omega), if_neg (by omega), if_pos hk]
   rwa [e] at this
  have c4 : q.b.kind = 4 → ai 61 #[cp r3, dR p.T p.c p.x p.k, nc q.b q.t] s7 (kD s s7 r3 S tt sh B (bJ [] A) (Wl.foldl cv []) E) := fun hk => by
   have := DD (b := q.b) (t := q.t) hB hE7 hpI hpT (by omega)
   rw [hDov] at this
   have e : sL p.T q.b D = E := by rw [← hE]; unfold fS; rw [if_neg (by omega), if_neg (by omega), if_neg (by omega)]
   rwa [e] at this
  refine W.bl (fun z s' => ∃ (a2 : Option Addr) (n2 c2 : Nat) (vs : List pM), z = (((none, 0, 0), (none, 0, 0), (none, 0, 0), ()), (some ⟨r3, 0, none⟩, ()), (⟨r4, 0, none⟩, ()), ((none, 0, 0), (none, 0, 0), (a, n, c), ()), ((i : Int), ()), (E.rep.n, (a2, n2, c2), ()), (E.err, ()), (b, ()), ((b.2.1 : Int), ()), ((i : Int), ()), ()) ∧ fB s s' a2 n2 c2 E.rep.rows vs ∧ EJ s s' r3 S tt sh B (bJ (bJ [] A) E.asks) (E.ws.foldl cv (Wl.foldl cv [])) ∧ Kt s7 s') ?_ ?_
  ·rintro _ s8 ⟨a2, n2, c2, vs, rfl, hrp, hE8, hk8⟩
   dsimp only
   refine (W.aa _ _ _ _).2 ⟨fun e => ?_, fun e => ?_⟩
   ·have e : E.err ≠ 0 := by simpa using e
    rw [if_pos e] at q1 q2
    rw [← hR]
    refine ⟨hE8.md, ?_⟩
    rw [if_neg (by rw [herr]; decide), if_pos (by rw [q1]; exact e), q1, q2]
   have e : ¬ E.err ≠ 0 := by simpa using e
   rw [if_neg e] at q1 q2 q3 q4 q5
   dsimp only at q1 q2 q3 q4 q5
   have hrp8 := hrp7.kt hk8 hE8.md
   have hnl := hI.nl
   refine hrp8.push (r := E.rep) (u := (a2, n2, c2)) hrp (by omega) fun a9 c9 s9 qs9 h9 m9 => ?_
   have hap : xL s8 (Fw.aH a) := fun g hg => by
    rcases hrp8.gw.row.shape with ⟨rfl, _⟩ | ⟨g', rfl⟩
    ·simp [Fw.aH] at hg
    ·simp [Fw.aH] at hg; subst hg
     obtain ⟨cur, hc⟩ := hrp8.gw.row.ty rfl
     exact ⟨cur, _, hc, by decide, by decide, by decide, by decide⟩
   have k84 : s8 r4 = some Dc := hk8 r4 _ _ k74 (by decide) (by decide)
   rw [ak (k := i) (by omega)]
   have hcast : ((i + 1 : Nat) : Int) = (i : Int) + 1 := by omega
   refine ⟨⟨i + 1, a9, n + 1, c9, rps ++ [E.rep], qs9, A ++ E.asks, Wl ++ E.ws, rfl, by omega, ⟨?_, m9.at k84 (hrp8.gw.off k84 (by decide)), h9, by omega, ?_, ?_, ?_, ?_, ?_, ?_, ?_, ?_, ?_⟩⟩, by simp only [Int.toNat_natCast]; omega⟩
   ·rw [cL, List.foldl_append]; exact hE8.keep m9 hrp8.gw.fr hap
   ·intro r hr
    rcases List.mem_append.1 hr with hr | hr
    ·exact hI.rf r hr
    ·simp at hr; subst hr; exact hof.rep
   ·have := hof.asks; rw [List.length_append]; omega
   ·have := hof.ws; rw [List.length_append]; omega
   ·rw [cS, hD]
    have := (hcn.mono (show N0 + 9 * i ≤ N0 + 9 * i + 9 by omega)).apply hof.good
    rwa [show N0 + 9 * (i + 1) = N0 + 9 * i + 9 by omega]
   ·rw [cS, hD, hcast]; exact q1
   ·rw [cS, hD, hcast]; exact q2
   ·rw [cS, hD, hcast, List.append_assoc]; exact q3
   ·rw [cS, hD, hcast, List.append_assoc]; exact q4
   ·rw [cS, hD, hcast, List.append_assoc]; exact q5
  ·intro J hJ
   have hlo := hrf.lo
   have hhi := hrf.hi
   have hw : i64.wrap (q.b.kind - 1) = q.b.kind - 1 := bW (by omega) (by omega)
   rw [hw]
   refine (W.ah _ _ _).2 ⟨⟨by omega, by omega⟩, ?_⟩
   have hfin : ∀ (y : Value) (s8 : PH), kD s s7 r3 S tt sh B (bJ [] A) (Wl.foldl cv []) E y s8 → ∃ x : bN [(true, [CT.int IntKind.i64, CT.slice]), (false, [CT.int IntKind.i64])], gp (true, [(true, [CT.int IntKind.i64, CT.slice]), (false, [CT.int IntKind.i64])]) x = y ∧ J (((none, 0, 0), (none, 0, 0), (none, 0, 0), ()), (some ⟨r3, 0, none⟩, ()), (⟨r4, 0, none⟩, ()), ((none, 0, 0), (none, 0, 0), (a, n, c), ()), ((i : Int), ()), (x.1.1, x.1.2.1, ()), (x.2.1.1, ()), (b, ()), ((b.2.1 : Int), ()), ((i : Int), ()), ()) s8 := by
    rintro y s8 ⟨ry, rfl, ⟨a2, n2, c2, vs, rfl, hrp⟩, hE8, hk8⟩
    exact ⟨((E.rep.n, (a2, n2, c2), ()), (E.err, ()), ()), rfl, hJ _ _ ⟨a2, n2, c2, vs, rfl, hrp, hE8, hk8⟩⟩
   have hk4 : q.b.kind = 1 ∨ q.b.kind = 2 ∨ q.b.kind = 3 ∨ q.b.kind = 4 := by omega
   rcases hk4 with hk | hk | hk | hk
   ·have e0 : (q.b.kind - 1).toNat * 1 = 0 := by rw [hk]; (first | done | rfl)
    simp only [e0]
    refine (W.aA k74 _ _ _ _).2 ⟨(.func (.func 58) #[] #[], ()), rfl, ?_⟩
    refine (W.jy _ _ _).2 ⟨?_, ?_⟩
    ·exact cQ Tryz.func58 (by kernel_rfl) (by kernel_rfl) (c1 hk) hfin
    ·exact cQ Tryz.func58 (by kernel_rfl) (by kernel_rfl) (c1 hk) hfin
   ·have e0 : (q.b.kind - 1).toNat * 1 = 1 := by rw [hk]; (first | done | rfl)
    simp only [e0]
    refine (W.aA k74 _ _ _ _).2 ⟨(.func (.func 59) #[] #[], ()), rfl, ?_⟩
    refine (W.jy _ _ _).2 ⟨?_, ?_⟩
    ·exact cQ Tryz.func59 (by kernel_rfl) (by kernel_rfl) (c2 hk) hfin
    ·exact cQ Tryz.func59 (by kernel_rfl) (by kernel_rfl) (c2 hk) hfin
   ·have e0 : (q.b.kind - 1).toNat * 1 = 2 := by rw [hk]; (first | done | rfl)
    simp only [e0]
    refine (W.aA k74 _ _ _ _).2 ⟨(.func (.func 60) #[] #[], ()), rfl, ?_⟩
    refine (W.jy _ _ _).2 ⟨?_, ?_⟩
    ·exact cQ Tryz.func60 (by kernel_rfl) (by kernel_rfl) (c3 hk) hfin
    ·exact cQ Tryz.func60 (by kernel_rfl) (by kernel_rfl) (c3 hk) hfin
   ·have e0 : (q.b.kind - 1).toNat * 1 = 3 := by rw [hk]; (first | done | rfl)
    simp only [e0]
    refine (W.aA k74 _ _ _ _).2 ⟨(.func (.func 61) #[] #[], ()), rfl, ?_⟩
    refine (W.jy _ _ _).2 ⟨?_, ?_⟩
    ·exact cQ Tryz.func61 (by kernel_rfl) (by kernel_rfl) (c4 hk) hfin
    ·exact cQ Tryz.func61 (by kernel_rfl) (by kernel_rfl) (c4 hk) hfin
 -- all are done
 have e : ¬ (i : Int) < (b.2.1 : Int) := of_decide_eq_false e
 rw [List.drop_of_length_le (by omega)] at q1 q2 q3 q4 q5
 have q1 : (bp S 0 L B).err = 0 := q1
 have q3 : (bp S 0 L B).reps = rps := by rw [q3]; exact List.append_nil _
 have q4 : (bp S 0 L B).asks = A := by rw [q4]; exact List.append_nil _
 have q5 : (bp S 0 L B).ws = Wl := by rw [q5]; exact List.append_nil _
 obtain ⟨ov, hov⟩ : ∃ ov, Wl.foldl cv [] = ov := ⟨_, rfl⟩
 have hEJ := hI.ej
 rw [hov] at hEJ hwl
 obtain ⟨u, mb, mo, qs0, bs0, f0, hx6⟩ := hEJ.ei
 simp only [dh, aY, Nat.zero_add]
 refine (W.aA hx6.aH _ _ _ _).2 ⟨(u, ()), rfl, ?_⟩
 refine (W.aA hx6.aH _ _ _ _).2 ⟨(some mo, ()), rfl, ?_⟩
 refine W.au (I2 (some mo) s6) ?_
 rintro _ s7 ⟨rk, hrk, rfl, hs7⟩
 refine ⟨((_, ()), ()), rfl, ?_⟩
 have m67 : Fw.Mod [] s6 s7 := by rw [hs7]; exact Mod.new hrk
 have k7 : s7 rk = some (.cells #[.map (some mo)] 145 (0, 0)) := by rw [hs7, PH.bA]
 have hx7 := hx6.same m67
 have hfl : f0.length = ov.length := by have := hx6.omp.length_eq; rwa [List.length_map] at this
 have hkk : ∀ p ∈ f0, p.1.size ≤ maxLen := fun p hp => by
  have h1 := hx6.omk p hp
  have h2 := (hEJ.sm p.2 ((hx6.omp.mem_iff).1 (List.mem_map_of_mem hp))).1
  rw [h1]
  show p.2.key.size ≤ 9223372036854775807
  omega
 refine W.au (Fq k7 hx7.om hkk (by omega)) ?_
 rintro _ s8 ⟨sa, sn, sc, rfl, hstr, m78, _⟩
 refine ⟨(((sa, sn, sc), ()), ()), rfl, ?_⟩
 have hx8 := hx7.same m78
 rw [AX hEJ.cV hx6.omk hx6.omp] at hstr
 have hsn : sn = ov.length := by rw [hstr.1, List.length_map]
 have m68 := m67.trans m78
 have hrp8 := hI.rp.same m68
 dsimp only
 refine ⟨fun z s' => ∃ (i : Nat) (va : Option Addr) (vn vc : Nat), z = (((none, 0, 0), (none, 0, 0), (none, 0, 0), ()), (some ⟨r3, 0, none⟩, ()), (u, (va, vn, vc), (a, n, c), ()), ((sa, sn, sc), ()), ((sn : Int), ()), ((i : Int), ()), ()) ∧ i ≤ sn ∧ vn ≤ i ∧ Gw mZ 79 s8 s' va vn vc (ov.take i),
  fun z _ => sn - z.2.2.2.2.2.1.1.toNat, ⟨0, none, 0, 0, rfl, Nat.zero_le _, Nat.le_refl _, Gw.nil (Mod.refl _ _)⟩, ?_⟩
 rintro _ s9 ⟨i2, va, vn, vc, rfl, hi2, hvn, hG9⟩
 dsimp only
 have hx9 := hx8.same hG9.md
 refine (W.aa _ _ _ _).2 ⟨fun e => ?_, fun e => ?_⟩
 ·have hlt : (i2 : Int) < (sn : Int) := of_decide_eq_true e
  obtain ⟨x, hx⟩ : ∃ x, ov[i2]? = some x := ⟨_, List.getElem?_eq_getElem (by omega)⟩
  refine (W.ah _ _ _).2 ⟨⟨Int.natCast_nonneg i2, hlt⟩, ?_⟩
  obtain ⟨_, ⟨_, _, hnil⟩ | ⟨g, cur, rfl, hg, hcur, _, _⟩⟩ := hstr
  ·rw [List.map_eq_nil_iff] at hnil
   rw [hnil] at hx; simp at hx
  simp only [dh, Int.toNat_natCast, aY, Nat.zero_add, Nat.mul_one]
  have hg9 := hG9.md.at hg (by simp)
  have hci : cur[i2]? = some (.string x.key) := by
   have h1 : (cur.toList.take sn)[i2]? = some (.string x.key) := by rw [hcur, List.getElem?_map, List.getElem?_map, hx]; (first | done | rfl)
   rw [List.getElem?_take_of_lt (by omega)] at h1
   rw [← Array.getElem?_toList]; exact h1
  refine Bg (A := ⟨g, i2, none⟩) (cs := [.str]) (y := (x.key, ())) (fun j v hv => ?_) ?_
  ·cases j with
   | zero =>
    have hv : some (Value.string x.key) = some v := hv
    cases hv
    rw [iW hg9 rfl]
    simpa using hci
   | succ j => have hv : (none : Option Value) = some v := hv; cases hv
  refine (W.aA hx9.aH _ _ _ _).2 ⟨(some mo, ()), rfl, ?_⟩
  refine vm (ke := ir) (ve := rL) hx9.om (key := x.key) ?_
  rw [Cf hEJ.cV hx6.omk hx6.omp (List.mem_of_getElem? hx)]
  refine ⟨(x.key, x.val, x.dead, ()), rfl, ?_⟩
  refine hG9.push [x] (k := 1) rfl rfl rfl (by omega) (by omega) fun a3 c3 s3 h3 => ?_
  rw [ak (k := i2) (by omega)]
  refine ⟨⟨i2 + 1, a3, vn + 1, c3, rfl, by omega, by omega, ?_⟩, by simp only [Int.toNat_natCast]; omega⟩
  rw [List.take_add_one, hx]; exact h3
 ·have e : ¬ (i2 : Int) < (sn : Int) := of_decide_eq_false e
  rw [List.take_of_length_le (by omega)] at hG9
  have m69 := m68.trans hG9.md
  rw [← hR]
  refine ⟨hI.ej.md.trans m69, ?_⟩
  rw [if_neg (by rw [herr]; decide), if_neg (by rw [q1]; decide), q3, q4, q5, hov]
  refine ⟨u, (va, vn, vc), (a, n, c), rfl, ⟨⟨qs0, hx9.rd, hx9.rdq, hx9.seen⟩, hG9.since (hI.ej.md.trans m68), ⟨qs, hrp8.same hG9.md⟩, by omega⟩, ⟨by have h1 := hI.nl; have h2 := hI.rp.gw.row.len; have h3 := congrArg List.length hI.rp.eq; rw [List.length_map] at h3; omega, hI.rf, by rw [hov]; exact hEJ.sm, by rw [hov]; omega, by rw [hD]; exact hcn.mono (by omega)⟩⟩
end
end
section
variable {W : Type} (π : fW W)
open Fw.W
def rD (a : Option Addr) (an ac : Nat) (b : Option Addr) (bn bc : Nat) (ts : Int) : W :=
 π.nw (Obj.cells #[] (75 : Nat) (0, 0)) fun r0 =>
 π.app (75 : Nat) (3 : Nat) (40 : Nat) [(.string ⟨#[]⟩), (.int .i64 0), (.string ⟨#[]⟩)] (some (Addr.mk r0 0 none)) ((0 : Nat)) ((0 : Nat)) (Src.sl a an) fun a1 n2 c3 =>
 π.loop [(false, [.slice]), (false, [.int .i64])] (((a1, n2, c3), ()), ((0 : Int), ()), ()) fun ((((a5 : Option Addr), (n6 : Nat), (c7 : Nat)), _), ((x8 : Int), _), _) again4 =>
 π.ite (decide (x8 < (↑bn : Int))) (
 π.loop [(false, [.slice]), (false, [.int .i64]), (false, [.slice]), (false, [.bool]), (false, [.int .i64])] (((a5, n6, c7), ()), (x8, ()), ((none, (0 : Nat), (0 : Nat)), ()), (false, ()), ((0 : Int), ()), ()) fun ((((a10 : Option Addr), (n11 : Nat), (c12 : Nat)), _), ((x13 : Int), _), (((a14 : Option Addr), (n15 : Nat), (c16 : Nat)), _), ((b17 : Bool), _), ((x18 : Int), _), _) again9 =>
 π.ite (decide (x18 ≤ (↑n11 : Int))) (
 π.join [(false, [.slice]), (false, [.int .i64]), (false, [.slice]), (false, [.bool]), (false, [.int .i64])] (fun J19 =>
 π.join [(false, [.slice]), (false, [.int .i64]), (false, [.slice]), (false, [.bool]), (false, [.int .i64]), (false, [.bool])] (fun J20 =>
 π.ite (!b17) (
 π.ite (x18 == (↑n11 : Int)) (
 J20 (((a10, n11, c12), ()), (x13, ()), ((a14, n15, c16), ()), (b17, ()), (x18, ()), (true, ()), ())
 ) (
 π.guard (0 ≤ x18 ∧ x18 < (↑n11 : Int)) <|
 π.af (a10) fun p21 =>
 π.ld [.str] ((p21.add (x18.toNat * 3)).add 0) fun ((t22 : ByteArray), _) =>
 π.guard (0 ≤ x13 ∧ x13 < (↑bn : Int)) <|
 π.af (b) fun p23 =>
 π.ld [.str] ((p23.add (x13.toNat * 3)).add 0) fun ((t24 : ByteArray), _) =>
 π.cr 44 #[(.string t22), (.string t24)] (false, [(false, [.int .i64])]) fun (((x25 : Int), _), _) =>
 J20 (((a10, n11, c12), ()), (x13, ()), ((a14, n15, c16), ()), (b17, ()), (x18, ()), (decide (x25 ≥ 0), ()), ())
 )
 ) (
 J20 (((a10, n11, c12), ()), (x13, ()), ((a14, n15, c16), ()), (b17, ()), (x18, ()), (false, ()), ())
 )
 ) (fun ((((a26 : Option Addr), (n27 : Nat), (c28 : Nat)), _), ((x29 : Int), _), (((a30 : Option Addr), (n31 : Nat), (c32 : Nat)), _), ((b33 : Bool), _), ((x34 : Int), _), ((b35 : Bool), _), _) =>
 π.ite (b35) (
 π.guard (0 ≤ x29 ∧ x29 < (↑bn : Int)) <|
 π.af (b) fun p36 =>
 π.ld [.bool] ((p36.add (x29.toNat * 3)).add 2) fun ((b37 : Bool), _) =>
 π.ite (!b37) (
 π.guard (0 ≤ x29 ∧ x29 < (↑bn : Int)) <|
 π.af (b) fun p38 =>
 π.ld [.str] ((p38.add (x29.toNat * 3)).add 0) fun ((t39 : ByteArray), _) =>
 π.guard (0 ≤ x29 ∧ x29 < (↑bn : Int)) <|
 π.af (b) fun p40 =>
 π.ld [.str] ((p40.add (x29.toNat * 3)).add 1) fun ((t41 : ByteArray), _) =>
 π.nw (Obj.cells #[(.string t39), (.int .i64 ts), (.string t41)] (75 : Nat) (0, 0)) fun r42 =>
 π.app (75 : Nat) (3 : Nat) (40 : Nat) [(.string ⟨#[]⟩), (.int .i64 0), (.string ⟨#[]⟩)] (a30) (n31) (c32) (Src.sl (some (Addr.mk r42 0 none)) (1 : Nat)) fun a43 n44 c45 =>
 J19 (((a26, n27, c28), ()), (x29, ()), ((a43, n44, c45), ()), (true, ()), (x34, ()), ())
 ) (
 J19 (((a26, n27, c28), ()), (x29, ()), ((a30, n31, c32), ()), (true, ()), (x34, ()), ())
 )
 ) (
 J19 (((a26, n27, c28), ()), (x29, ()), ((a30, n31, c32), ()), (b33, ()), (x34, ()), ())
 )
 )
 ) (fun ((((a46 : Option Addr), (n47 : Nat), (c48 : Nat)), _), ((x49 : Int), _), (((a50 : Option Addr), (n51 : Nat), (c52 : Nat)), _), ((b53 : Bool), _), ((x54 : Int), _), _) =>
 π.ite (decide (x54 < (↑n47 : Int))) (
 π.guard (0 ≤ x54 ∧ x54 < (↑n47 : Int)) <|
 π.af (a46) fun p55 =>
 π.ld [.str] ((p55.add (x54.toNat * 3)).add 0) fun ((t56 : ByteArray), _) =>
 π.guard (0 ≤ x49 ∧ x49 < (↑bn : Int)) <|
 π.af (b) fun p57 =>
 π.ld [.str] ((p57.add (x49.toNat * 3)).add 0) fun ((t58 : ByteArray), _) =>
 π.ite (!t56.toList == t58.toList) (
 π.guard (0 ≤ x54 ∧ x54 < (↑n47 : Int)) <|
 π.af (a46) fun p59 =>
 π.ld [.str, .int .i64, .str] (p59.add (x54.toNat * 3)) fun ((t60 : ByteArray), (x61 : Int), (t62 : ByteArray), _) =>
 π.nw (Obj.cells #[(.string t60), (.int .i64 x61), (.string t62)] (75 : Nat) (0, 0)) fun r63 =>
 π.app (75 : Nat) (3 : Nat) (40 : Nat) [(.string ⟨#[]⟩), (.int .i64 0), (.string ⟨#[]⟩)] (a50) (n51) (c52) (Src.sl (some (Addr.mk r63 0 none)) (1 : Nat)) fun a64 n65 c66 =>
 again9 (((a46, n47, c48), ()), (x49, ()), ((a64, n65, c66), ()), (b53, ()), (i64.wrap (x54 + 1), ()), ())
 ) (
 again9 (((a46, n47, c48), ()), (x49, ()), ((a50, n51, c52), ()), (b53, ()), (i64.wrap (x54 + 1), ()), ())
 )
 ) (
 again9 (((a46, n47, c48), ()), (x49, ()), ((a50, n51, c52), ()), (b53, ()), (i64.wrap (x54 + 1), ()), ())
 )
 )
 ) (
 again4 (((a14, n15, c16), ()), (i64.wrap (x13 + 1), ()), ())
 )
 ) (
 π.ret (.slice a5 n6 c7)
 )
theorem AK (a : Option Addr) (an ac : Nat) (b : Option Addr) (bn bc : Nat) (ts : Int) : OK 21 [.v (.slice a an ac), .v (.slice b bn bc), .v (.int .i64 ts)] fun _ π => rD π a an ac b bn bc ts :=
 aV {} { draws := [(10, { A := [0, 1, 2, 3, 4, 5, 6, 7, 8, 9, 10, 11, 12, 13, 14, 15, 16, 17, 18, 19, 20, 21], quiet := [18] }), (13, { A := [0, 1, 2, 3, 4, 5, 6, 7, 8, 9, 10, 11, 12] }), (14, { A := [0, 1, 2, 3, 4, 5, 6, 7, 8, 9, 10, 11, 12, 13, 14, 15, 16] })], join := [(11, [(7, 65), (8, 3), (9, 65), (10, 4), (11, 3), (48, 4)]), (14, [(7, 65), (8, 3), (9, 65), (10, 4), (11, 3)])], loop := [(3, [(7, 65), (8, 3)]), (8, [(7, 65), (8, 3), (9, 65), (10, 4), (11, 3)])] } [] Tryz.func21 Tryz.ntmps21 rfl (by kernel_rfl) fun _ π => by kernel_rfl
def wZ (a : Option Addr) (an ac : Nat) (b : Option Addr) (bn bc : Nat) : W :=
 π.ite ((↑an : Int) != (↑bn : Int)) (
 π.ret (.bool false)
 ) (
 π.loop [(false, [.int .i64])] (((0 : Int), ()), ()) fun (((x1 : Int), _), _) again0 =>
 π.ite (decide (x1 < (↑an : Int))) (
 π.guard (0 ≤ x1 ∧ x1 < (↑an : Int)) <|
 π.af (a) fun p2 =>
 π.ld [.int .i64, .int .i64, .str] (p2.add (x1.toNat * 3)) fun ((x3 : Int), (x4 : Int), (t5 : ByteArray), _) =>
 π.guard (0 ≤ x1 ∧ x1 < (↑bn : Int)) <|
 π.af (b) fun p6 =>
 π.ld [.int .i64, .int .i64, .str] (p6.add (x1.toNat * 3)) fun ((x7 : Int), (x8 : Int), (t9 : ByteArray), _) =>
 π.ite (!(x3 == x7 && (x4 == x8 && (t5 == t9 && true)))) (
 π.ret (.bool false)
 ) (
 again0 ((i64.wrap (x1 + 1), ()), ())
 )
 ) (
 π.ret (.bool true)
 )
 )
theorem Ej (a : Option Addr) (an ac : Nat) (b : Option Addr) (bn bc : Nat) : OK 82 [.v (.slice a an ac), .v (.slice b bn bc)] fun _ π => wZ π a an ac b bn bc :=
 aV {} { draws := [(6, { A := [0, 1, 2, 3, 4, 5, 6, 7, 8] })], loop := [(4, [(5, 3)])] } [] Tryz.func82 Tryz.ntmps82 rfl (by kernel_rfl) fun _ π => by kernel_rfl
def mY (a : Option Addr) (an ac : Nat) (b : Option Addr) (bn bc : Nat) : W :=
 π.ite ((↑an : Int) != (↑bn : Int)) (
 π.ret (.bool false)
 ) (
 π.loop [(false, [.int .i64])] (((0 : Int), ()), ()) fun (((x1 : Int), _), _) again0 =>
 π.ite (decide (x1 < (↑an : Int))) (
 π.join [(false, [.int .i64])] (fun J2 =>
 π.guard (0 ≤ x1 ∧ x1 < (↑an : Int)) <|
 π.af (a) fun p3 =>
 π.ld [.int .i64] ((p3.add (x1.toNat * 2)).add 0) fun ((x4 : Int), _) =>
 π.guard (0 ≤ x1 ∧ x1 < (↑bn : Int)) <|
 π.af (b) fun p5 =>
 π.ld [.int .i64] ((p5.add (x1.toNat * 2)).add 0) fun ((x6 : Int), _) =>
 π.ite (x4 != x6) (
 π.ret (.bool false)
 ) (
 π.guard (0 ≤ x1 ∧ x1 < (↑an : Int)) <|
 π.af (a) fun p7 =>
 π.ld [.slice] ((p7.add (x1.toNat * 2)).add 1) fun (((a8 : Option Addr), (n9 : Nat), (c10 : Nat)), _) =>
 π.guard (0 ≤ x1 ∧ x1 < (↑bn : Int)) <|
 π.af (b) fun p11 =>
 π.ld [.slice] ((p11.add (x1.toNat * 2)).add 1) fun (((a12 : Option Addr), (n13 : Nat), (c14 : Nat)), _) =>
 π.ite ((↑n9 : Int) != (↑n13 : Int)) (
 π.ret (.bool false)
 ) (
 J2 ((x1, ()), ())
 )
 )
 ) (fun (((x15 : Int), _), _) =>
 π.loop [(false, [.int .i64]), (false, [.int .i64])] ((x15, ()), ((0 : Int), ()), ()) fun (((x17 : Int), _), ((x18 : Int), _), _) again16 =>
 π.guard (0 ≤ x17 ∧ x17 < (↑an : Int)) <|
 π.af (a) fun p19 =>
 π.ld [.slice] ((p19.add (x17.toNat * 2)).add 1) fun (((a20 : Option Addr), (n21 : Nat), (c22 : Nat)), _) =>
 π.ite (decide (x18 < (↑n21 : Int))) (
 π.guard (0 ≤ x17 ∧ x17 < (↑an : Int)) <|
 π.af (a) fun p23 =>
 π.ld [.slice] ((p23.add (x17.toNat * 2)).add 1) fun (((a24 : Option Addr), (n25 : Nat), (c26 : Nat)), _) =>
 π.guard (0 ≤ x18 ∧ x18 < (↑n25 : Int)) <|
 π.af (a24) fun p27 =>
 π.ld [.slice] (p27.add (x18.toNat * 1)) fun (((a28 : Option Addr), (n29 : Nat), (c30 : Nat)), _) =>
 π.guard (0 ≤ x17 ∧ x17 < (↑bn : Int)) <|
 π.af (b) fun p31 =>
 π.ld [.slice] ((p31.add (x17.toNat * 2)).add 1) fun (((a32 : Option Addr), (n33 : Nat), (c34 : Nat)), _) =>
 π.guard (0 ≤ x18 ∧ x18 < (↑n33 : Int)) <|
 π.af (a32) fun p35 =>
 π.ld [.slice] (p35.add (x18.toNat * 1)) fun (((a36 : Option Addr), (n37 : Nat), (c38 : Nat)), _) =>
 π.call 82 #[(.slice a28 n29 c30), (.slice a36 n37 c38)] (false, [(false, [.bool])]) fun (((b39 : Bool), _), _) =>
 π.ite (!b39) (
 π.ret (.bool false)
 ) (
 again16 ((x17, ()), (i64.wrap (x18 + 1), ()), ())
 )
 ) (
 again0 ((i64.wrap (x17 + 1), ()), ())
 )
 )
 ) (
 π.ret (.bool true)
 )
 )
theorem tO (a : Option Addr) (an ac : Nat) (b : Option Addr) (bn bc : Nat) : OK 25 [.v (.slice a an ac), .v (.slice b bn bc)] fun _ π => mY π a an ac b bn bc :=
 aV {} { draws := [(6, { A := [0, 1, 2, 3, 4, 5, 6, 7, 8, 9, 10, 11, 12, 13, 14, 15, 16, 17, 18, 19, 20, 21, 22, 23, 24, 25] }), (11, { A := [0, 1, 2, 3, 4, 5, 6, 7, 8, 9, 10, 11, 12, 13, 14, 15], eag := [17] })], join := [(8, [(5, 3)])], loop := [(4, [(5, 3)]), (9, [(5, 3), (6, 3)])] } [] Tryz.func25 Tryz.ntmps25 rfl (by kernel_rfl) fun _ π => by kernel_rfl
def Ae (a : Option Addr) (an ac : Nat) : W :=
 π.loop [(false, [.slice]), (false, [.slice]), (false, [.int .i64]), (false, [.int .i64])] (((none, (0 : Nat), (0 : Nat)), ()), ((a, an, ac), ()), ((↑an : Int), ()), ((0 : Int), ()), ()) fun ((((a1 : Option Addr), (n2 : Nat), (c3 : Nat)), _), (((a4 : Option Addr), (n5 : Nat), (c6 : Nat)), _), ((x7 : Int), _), ((x8 : Int), _), _) again0 =>
 π.ite (decide (x8 < x7)) (
 π.guard (0 ≤ x8 ∧ x8 < (↑n5 : Int)) <|
 π.af (a4) fun p9 =>
 π.ld [.str, .int .i64, .str] (p9.add (x8.toNat * 3)) fun ((t10 : ByteArray), (x11 : Int), (t12 : ByteArray), _) =>
 π.ite ((↑n2 : Int) == 0) (
 π.nw (Obj.cells #[(.string t10), (.int .i64 x11), (.string t12)] (75 : Nat) (0, 0)) fun r13 =>
 π.app (75 : Nat) (3 : Nat) (40 : Nat) [(.string ⟨#[]⟩), (.int .i64 0), (.string ⟨#[]⟩)] (a1) (n2) (c3) (Src.sl (some (Addr.mk r13 0 none)) (1 : Nat)) fun a14 n15 c16 =>
 again0 (((a14, n15, c16), ()), ((a4, n5, c6), ()), (x7, ()), (i64.wrap (x8 + 1), ()), ())
 ) (
 π.guard (0 ≤ i64.wrap ((↑n2 : Int) - 1) ∧ i64.wrap ((↑n2 : Int) - 1) < (↑n2 : Int)) <|
 π.af (a1) fun p17 =>
 π.ld [.str] ((p17.add ((i64.wrap ((↑n2 : Int) - 1)).toNat * 3)).add 0) fun ((t18 : ByteArray), _) =>
 π.cr 44 #[(.string t18), (.string t10)] (false, [(false, [.int .i64])]) fun (((x19 : Int), _), _) =>
 π.ite (decide (x19 < 0)) (
 π.nw (Obj.cells #[(.string t10), (.int .i64 x11), (.string t12)] (75 : Nat) (0, 0)) fun r20 =>
 π.app (75 : Nat) (3 : Nat) (40 : Nat) [(.string ⟨#[]⟩), (.int .i64 0), (.string ⟨#[]⟩)] (a1) (n2) (c3) (Src.sl (some (Addr.mk r20 0 none)) (1 : Nat)) fun a21 n22 c23 =>
 again0 (((a21, n22, c23), ()), ((a4, n5, c6), ()), (x7, ()), (i64.wrap (x8 + 1), ()), ())
 ) (
 again0 (((a1, n2, c3), ()), ((a4, n5, c6), ()), (x7, ()), (i64.wrap (x8 + 1), ()), ())
 )
 )
 ) (
 π.ret (.slice a1 n2 c3)
 )
theorem Gf (a : Option Addr) (an ac : Nat) : OK 18 [.v (.slice a an ac)] fun _ π => Ae π a an ac :=
 aV { ptr := [(5, 5, 0), (23, 5, 0)], ty := [(5, 75)] } { draws := [(5, { A := [0, 1, 2, 3, 4, 5, 6, 7, 8, 9, 10, 11, 12, 13, 14, 15], quiet := [13] })], loop := [(3, [(3, 65), (6, 65), (7, 3), (8, 3)])] } [] Tryz.func18 Tryz.ntmps18 rfl (by kernel_rfl) fun _ π => by kernel_rfl
def wT (sv sl : Int) (sa : Option Addr) (san sac : Nat) (a : Option Addr) (an ac : Nat) (b : Option Addr) (bn bc : Nat) : W :=
 π.loop [(false, [.int .i64]), (false, [.slice]), (false, [.int .i64]), (false, [.int .i64])] ((i64.wrap (i64.wrap ((↑san : Int) + (↑an : Int)) + (↑bn : Int)), ()), ((sa, san, sac), ()), ((↑san : Int), ()), ((0 : Int), ()), ()) fun (((x1 : Int), _), (((a2 : Option Addr), (n3 : Nat), (c4 : Nat)), _), ((x5 : Int), _), ((x6 : Int), _), _) again0 =>
 π.ite (decide (x6 < x5)) (
 π.guard (0 ≤ x6 ∧ x6 < (↑n3 : Int)) <|
 π.af (a2) fun p7 =>
 π.ld [.int .i64, .str, .slice, .slice, .slice] (p7.add (x6.toNat * 5)) fun ((x8 : Int), (t9 : ByteArray), ((a10 : Option Addr), (n11 : Nat), (c12 : Nat)), ((a13 : Option Addr), (n14 : Nat), (c15 : Nat)), ((a16 : Option Addr), (n17 : Nat), (c18 : Nat)), _) =>
 π.ite (decide (i64.wrap (x1 + i64.wrap (i64.wrap ((↑n11 : Int) + (↑n14 : Int)) + (↑n17 : Int))) > 400)) (
 π.ret (.bool true)
 ) (
 again0 ((i64.wrap (x1 + i64.wrap (i64.wrap ((↑n11 : Int) + (↑n14 : Int)) + (↑n17 : Int))), ()), ((a2, n3, c4), ()), (x5, ()), (i64.wrap (x6 + 1), ()), ())
 )
 ) (
 π.loop [(false, [.int .i64]), (false, [.slice]), (false, [.int .i64]), (false, [.int .i64])] ((x1, ()), ((a, an, ac), ()), ((↑an : Int), ()), ((0 : Int), ()), ()) fun (((x20 : Int), _), (((a21 : Option Addr), (n22 : Nat), (c23 : Nat)), _), ((x24 : Int), _), ((x25 : Int), _), _) again19 =>
 π.ite (decide (x25 < x24)) (
 π.guard (0 ≤ x25 ∧ x25 < (↑n22 : Int)) <|
 π.af (a21) fun p26 =>
 π.ld [.int .i64, .int .i64, .slice, .int .i64, .int .i64, .int .i64, .str, .int .i64, .int .i64, .int .i64, .str] (p26.add (x25.toNat * 11)) fun ((x27 : Int), (x28 : Int), ((a29 : Option Addr), (n30 : Nat), (c31 : Nat)), (x32 : Int), (x33 : Int), (x34 : Int), (t35 : ByteArray), (x36 : Int), (x37 : Int), (x38 : Int), (t39 : ByteArray), _) =>
 π.ite (decide (i64.wrap (x20 + (↑n30 : Int)) > 400)) (
 π.ret (.bool true)
 ) (
 again19 ((i64.wrap (x20 + (↑n30 : Int)), ()), ((a21, n22, c23), ()), (x24, ()), (i64.wrap (x25 + 1), ()), ())
 )
 ) (
 π.loop [(false, [.int .i64]), (false, [.slice]), (false, [.int .i64]), (false, [.int .i64])] ((x20, ()), ((b, bn, bc), ()), ((↑bn : Int), ()), ((0 : Int), ()), ()) fun (((x41 : Int), _), (((a42 : Option Addr), (n43 : Nat), (c44 : Nat)), _), ((x45 : Int), _), ((x46 : Int), _), _) again40 =>
 π.ite (decide (x46 < x45)) (
 π.guard (0 ≤ x46 ∧ x46 < (↑n43 : Int)) <|
 π.af (a42) fun p47 =>
 π.ld [.str, .int .i64, .str] (p47.add (x46.toNat * 3)) fun ((t48 : ByteArray), (x49 : Int), (t50 : ByteArray), _) =>
 π.ite (decide ((↑t50.size : Int) > 1000)) (
 π.ret (.bool true)
 ) (
 again40 ((x41, ()), ((a42, n43, c44), ()), (x45, ()), (i64.wrap (x46 + 1), ()), ())
 )
 ) (
 π.ite (decide (x41 > 400)) (
 π.ret (.bool true)
 ) (
 π.ret (.bool (decide ((↑an : Int) > 12)))
 )
 )
 )
 )
theorem Ed (sv sl : Int) (sa : Option Addr) (san sac : Nat) (a : Option Addr) (an ac : Nat) (b : Option Addr) (bn bc : Nat) : OK 17 [.v (.agg #[.int .i64 sv, .int .i64 sl, .slice sa san sac]), .v (.slice a an ac), .v (.slice b bn bc)] fun _ π => wT π sv sl sa san sac a an ac b bn bc :=
 aV { ptr := [(3, 3, 0), (9, 9, 0), (11, 11, 0), (13, 13, 0), (14, 3, 2), (23, 3, 2), (31, 9, 2), (34, 9, 3), (38, 9, 4), (53, 11, 2), (66, 13, 2)], ty := [(3, 43), (9, 139), (11, 127), (13, 75)] } { loop := [(3, [(7, 3), (24, 41), (25, 3), (26, 3)]), (10, [(7, 3), (46, 64), (47, 3), (48, 3)]), (17, [(7, 3), (60, 65), (61, 3), (62, 3)])] } [] Tryz.func17 Tryz.ntmps17 rfl (by kernel_rfl) fun _ π => by kernel_rfl
def qy (a : Option Addr) (an ac : Nat) (b : Option Addr) (bn bc : Nat) : W :=
 π.loop [(false, [.int .i64]), (false, [.int .i64])] (((↑an : Int), ()), ((0 : Int), ()), ()) fun (((x1 : Int), _), ((x2 : Int), _), _) again0 =>
 π.ite (decide (x2 < x1)) (
 π.guard (0 ≤ x2 ∧ x2 < (↑an : Int)) <|
 π.af (a) fun p3 =>
 π.ld [.str] ((p3.add (x2.toNat * 3)).add 0) fun ((t4 : ByteArray), _) =>
 π.guard (0 ≤ x2 ∧ x2 < (↑bn : Int)) <|
 π.af (b) fun p5 =>
 π.ld [.str] ((p5.add (x2.toNat * 3)).add 0) fun ((t6 : ByteArray), _) =>
 π.ite (!t4.toList == t6.toList) (
 π.ret (.bool false)
 ) (
 π.guard (0 ≤ x2 ∧ x2 < (↑an : Int)) <|
 π.af (a) fun p7 =>
 π.ld [.str] ((p7.add (x2.toNat * 3)).add 2) fun ((t8 : ByteArray), _) =>
 π.guard (0 ≤ x2 ∧ x2 < (↑bn : Int)) <|
 π.af (b) fun p9 =>
 π.ld [.str] ((p9.add (x2.toNat * 3)).add 2) fun ((t10 : ByteArray), _) =>
 π.ite (!t8.toList == t10.toList) (
 π.ret (.bool false)
 ) (
 again0 ((x1, ()), (i64.wrap (x2 + 1), ()), ())
 )
 )
 ) (
 π.ret (.bool true)
 )
theorem zl (a : Option Addr) (an ac : Nat) (b : Option Addr) (bn bc : Nat) : OK 26 [.v (.slice a an ac), .v (.slice b bn bc)] fun _ π => qy π a an ac b bn bc :=
 aV {} { draws := [(4, { A := [0, 1, 2, 3, 4, 5, 6, 7, 8, 9, 10, 11, 12, 13, 14, 15, 16, 17, 18, 19, 20, 21, 22, 23] })], loop := [(2, [(7, 3), (8, 3)])] } [] Tryz.func26 Tryz.ntmps26 rfl (by kernel_rfl) fun _ π => by kernel_rfl
def wS : W :=
 π.call 28 #[] (false, [(true, [.int .i64, .str, .str, .str, .str, .bool, .int .i64, .int .i64, .int .i64, .str, .slice])]) fun (((x0 : Int), (t1 : ByteArray), (t2 : ByteArray), (t3 : ByteArray), (t4 : ByteArray), (b5 : Bool), (x6 : Int), (x7 : Int), (x8 : Int), (t9 : ByteArray), ((a10 : Option Addr), (n11 : Nat), (c12 : Nat)), _), _) =>
 π.call 27 #[(.agg #[(.int .i64 0), (.int .i64 0), (.slice none 0 0)]), (.agg #[(.int .i64 x0), (.string t1), (.string t2), (.string t3), (.string t4), (.bool b5), (.int .i64 x6), (.int .i64 x7), (.int .i64 x8), (.string t9), (.slice a10 n11 c12)]), (.int .i64 3)] (true, [(true, [.int .i64, .int .i64, .slice]), (false, [.int .i64])]) fun (((x13 : Int), (x14 : Int), ((a15 : Option Addr), (n16 : Nat), (c17 : Nat)), _), ((x18 : Int), _), _) =>
 π.call 30 #[(.int .i64 5)] (false, [(true, [.int .i64, .int .i64, .str])]) fun (((x19 : Int), (x20 : Int), (t21 : ByteArray), _), _) =>
 π.nw (Obj.cells #[(.int .i64 x19), (.int .i64 x20), (.string t21), (.int .i64 2), (.int .i64 0), (.string (ByteArray.mk #[(120 : UInt8)]))] (28 : Nat) (0, 0)) fun r22 =>
 π.nw (Obj.cells #[(.int .i64 1), (.int .i64 1), (.slice (some (Addr.mk r22 0 none)) ((2 : Nat)) ((2 : Nat))), (.int .i64 0), (.int .i64 0), (.int .i64 0), (.string ⟨#[]⟩), (.int .i64 0), (.int .i64 0), (.int .i64 0), (.string ⟨#[]⟩)] (127 : Nat) (0, 0)) fun r23 =>
 π.call 19 #[(.agg #[(.int .i64 x13), (.int .i64 x14), (.slice a15 n16 c17)]), (.slice (some (Addr.mk r23 0 none)) ((1 : Nat)) ((1 : Nat))), (Value.iface (73 : Nat) (.slice none 0 0))] (true, [(true, [.slice, .slice, .slice]), (false, [.int .i64]), (false, [.int .i64])]) fun ((((a24 : Option Addr), (n25 : Nat), (c26 : Nat)), ((a27 : Option Addr), (n28 : Nat), (c29 : Nat)), ((a30 : Option Addr), (n31 : Nat), (c32 : Nat)), _), ((x33 : Int), _), ((x34 : Int), _), _) =>
 π.nw (Obj.cells #[(.int .i64 1), (.int .i64 1), (.slice (some (Addr.mk r22 0 none)) ((2 : Nat)) ((2 : Nat))), (.int .i64 0), (.int .i64 0), (.int .i64 0), (.string ⟨#[]⟩), (.int .i64 0), (.int .i64 0), (.int .i64 0), (.string ⟨#[]⟩), (.int .i64 1), (.int .i64 1), (.slice (some (Addr.mk r22 0 none)) ((2 : Nat)) ((2 : Nat))), (.int .i64 0), (.int .i64 0), (.int .i64 0), (.string ⟨#[]⟩), (.int .i64 0), (.int .i64 0), (.int .i64 0), (.string ⟨#[]⟩)] (127 : Nat) (0, 0)) fun r35 =>
 π.call 19 #[(.agg #[(.int .i64 x13), (.int .i64 x14), (.slice a15 n16 c17)]), (.slice (some (Addr.mk r35 0 none)) ((2 : Nat)) ((2 : Nat))), (Value.iface (73 : Nat) (.slice none 0 0))] (true, [(true, [.slice, .slice, .slice]), (false, [.int .i64]), (false, [.int .i64])]) fun ((((a36 : Option Addr), (n37 : Nat), (c38 : Nat)), ((a39 : Option Addr), (n40 : Nat), (c41 : Nat)), ((a42 : Option Addr), (n43 : Nat), (c44 : Nat)), _), ((x45 : Int), _), ((x46 : Int), _), _) =>
 π.ite (x34 == 0) (
 π.ite ((↑n25 : Int) == 1) (
 π.guard ((0 : Int) ≤ 0 ∧ 0 < (↑n25 : Int)) <|
 π.af (a24) fun p47 =>
 π.ld [.slice] ((p47.add 0).add 2) fun (((a48 : Option Addr), (n49 : Nat), (c50 : Nat)), _) =>
 π.ite ((↑n49 : Int) == 0) (
 π.ite ((↑n28 : Int) == 1) (
 π.guard ((0 : Int) ≤ 0 ∧ 0 < (↑n28 : Int)) <|
 π.af (a27) fun p51 =>
 π.ld [.str] ((p51.add 0).add 0) fun ((t52 : ByteArray), _) =>
 π.cr 30 #[(.int .i64 5)] (false, [(true, [.int .i64, .int .i64, .str])]) fun (((x53 : Int), (x54 : Int), (t55 : ByteArray), _), _) =>
 π.cr 31 #[(.int .i64 1), (.agg #[(.int .i64 x53), (.int .i64 x54), (.string t55)])] (false, [(false, [.str])]) fun (((t56 : ByteArray), _), _) =>
 π.ite (t52.toList == t56.toList) (
 π.ite ((↑n31 : Int) == 1) (
 π.guard ((0 : Int) ≤ 0 ∧ 0 < (↑n31 : Int)) <|
 π.af (a30) fun p57 =>
 π.ld [.int .i64] ((p57.add 0).add 0) fun ((x58 : Int), _) =>
 π.ite (x58 == 1) (
 π.ite (x45 == 1) (
 π.ite (x46 == 210) (
 π.ret (.bool true)
 ) (
 π.ret (.bool false)
 )
 ) (
 π.ret (.bool false)
 )
 ) (
 π.ret (.bool false)
 )
 ) (
 π.ret (.bool false)
 )
 ) (
 π.ret (.bool false)
 )
 ) (
 π.ret (.bool false)
 )
 ) (
 π.ret (.bool false)
 )
 ) (
 π.ret (.bool false)
 )
 ) (
 π.ret (.bool false)
 )
theorem Ec : OK 16 [] fun _ π => wS π :=
 aV { ptr := [(1, 1, 0), (3, 3, 0), (4, 4, 0), (7, 7, 0), (42, 4, 0), (48, 4, 0), (57, 4, 1), (63, 4, 1), (73, 4, 2), (79, 4, 2)], ty := [(1, 43), (3, 127), (4, 70), (7, 70)] } { draws := [(5, { A := [0, 1, 2, 3, 4, 5, 6, 7, 8, 9, 10, 11, 12, 13, 14, 15, 16, 17, 18, 19, 20, 21, 22, 23, 24, 25, 26, 27, 28, 29, 30, 31, 32, 33, 34, 35, 36, 37, 38, 39, 40, 41, 42, 43, 44, 45, 46, 47, 48, 49, 50, 51, 52, 53, 54, 55, 56, 57, 58, 59, 60, 61, 62, 63], quiet := [29, 30] })],  } [] Tryz.func16 Tryz.ntmps16 rfl (by kernel_rfl) fun _ π => by kernel_rfl
def qx (sv sl : Int) (sa : Option Addr) (san sac : Nat) (a : Option Addr) (an ac : Nat) (b : Option Addr) (bn bc : Nat) (i : Int) : W :=
 π.join [(true, [.int .i64, .int .i64, .slice])] (fun J0 =>
 π.call 16 #[] (false, [(false, [.bool])]) fun (((b1 : Bool), _), _) =>
 π.ite (!b1) (
 π.call 16 #[] (false, [(false, [.bool])]) fun (((b2 : Bool), _), _) =>
 π.ret (.bool b2)
 ) (
 π.call 17 #[(.agg #[(.int .i64 sv), (.int .i64 sl), (.slice sa san sac)]), (.slice a an ac), (.slice b bn bc)] (false, [(false, [.bool])]) fun (((b3 : Bool), _), _) =>
 π.ite (b3) (
 π.call 16 #[] (false, [(false, [.bool])]) fun (((b4 : Bool), _), _) =>
 π.ret (.bool b4)
 ) (
 π.ite (decide (i < 0)) (
 π.call 16 #[] (false, [(false, [.bool])]) fun (((b5 : Bool), _), _) =>
 π.ret (.bool b5)
 ) (
 π.ite (decide (i > (↑an : Int))) (
 π.call 16 #[] (false, [(false, [.bool])]) fun (((b6 : Bool), _), _) =>
 π.ret (.bool b6)
 ) (
 J0 ((sv, sl, (sa, san, sac), ()), ())
 )
 )
 )
 )
 ) (fun (((x7 : Int), (x8 : Int), ((a9 : Option Addr), (n10 : Nat), (c11 : Nat)), _), _) =>
 π.call 18 #[(.slice b bn bc)] (false, [(false, [.slice])]) fun ((((a12 : Option Addr), (n13 : Nat), (c14 : Nat)), _), _) =>
 π.call 19 #[(.agg #[(.int .i64 x7), (.int .i64 x8), (.slice a9 n10 c11)]), (.slice a an ac), (Value.iface (73 : Nat) (.slice a12 n13 c14))] (true, [(true, [.slice, .slice, .slice]), (false, [.int .i64]), (false, [.int .i64])]) fun ((((a15 : Option Addr), (n16 : Nat), (c17 : Nat)), ((a18 : Option Addr), (n19 : Nat), (c20 : Nat)), ((a21 : Option Addr), (n22 : Nat), (c23 : Nat)), _), ((x24 : Int), _), ((x25 : Int), _), _) =>
 π.join [(true, [.int .i64, .int .i64, .slice]), (false, [.slice]), (true, [.slice, .slice, .slice]), (false, [.int .i64]), (true, [.slice, .slice, .slice]), (false, [.int .i64])] (fun J26 =>
 π.guard ((0 : Int) ≤ 0 ∧ 0 ≤ i ∧ i ≤ (↑ac : Int)) <|
 π.both (
 π.call 19 #[(.agg #[(.int .i64 x7), (.int .i64 x8), (.slice a9 n10 c11)]), (.slice (if ac = (0 : Nat) then a else Option.map (fun x => x.add 0) a) (i.toNat - (0 : Nat)) (ac - (0 : Nat))), (Value.iface (73 : Nat) (.slice a12 n13 c14))] (true, [(true, [.slice, .slice, .slice]), (false, [.int .i64]), (false, [.int .i64])]) fun ((((a27 : Option Addr), (n28 : Nat), (c29 : Nat)), ((a30 : Option Addr), (n31 : Nat), (c32 : Nat)), ((a33 : Option Addr), (n34 : Nat), (c35 : Nat)), _), ((x36 : Int), _), ((x37 : Int), _), _) =>
 J26 ((x7, x8, (a9, n10, c11), ()), ((a12, n13, c14), ()), ((a15, n16, c17), (a18, n19, c20), (a21, n22, c23), ()), (x25, ()), ((a27, n28, c29), (a30, n31, c32), (a33, n34, c35), ()), (x37, ()), ())
 ) (
 π.call 19 #[(.agg #[(.int .i64 x7), (.int .i64 x8), (.slice a9 n10 c11)]), (.slice (if ac = (0 : Nat) then a else Option.map (fun x => x.add 0) a) (i.toNat - (0 : Nat)) (ac - (0 : Nat))), (Value.iface (73 : Nat) (.slice a12 n13 c14))] (true, [(true, [.slice, .slice, .slice]), (false, [.int .i64]), (false, [.int .i64])]) fun ((((a38 : Option Addr), (n39 : Nat), (c40 : Nat)), ((a41 : Option Addr), (n42 : Nat), (c43 : Nat)), ((a44 : Option Addr), (n45 : Nat), (c46 : Nat)), _), ((x47 : Int), _), ((x48 : Int), _), _) =>
 J26 ((x7, x8, (a9, n10, c11), ()), ((a12, n13, c14), ()), ((a15, n16, c17), (a18, n19, c20), (a21, n22, c23), ()), (x25, ()), ((a38, n39, c40), (a41, n42, c43), (a44, n45, c46), ()), (x48, ()), ())
 )
 ) (fun (((x49 : Int), (x50 : Int), ((a51 : Option Addr), (n52 : Nat), (c53 : Nat)), _), (((a54 : Option Addr), (n55 : Nat), (c56 : Nat)), _), (((a57 : Option Addr), (n58 : Nat), (c59 : Nat)), ((a60 : Option Addr), (n61 : Nat), (c62 : Nat)), ((a63 : Option Addr), (n64 : Nat), (c65 : Nat)), _), ((x66 : Int), _), (((a67 : Option Addr), (n68 : Nat), (c69 : Nat)), ((a70 : Option Addr), (n71 : Nat), (c72 : Nat)), ((a73 : Option Addr), (n74 : Nat), (c75 : Nat)), _), ((x76 : Int), _), _) =>
 π.ite (x76 != 0) (
 π.ret (.bool (x66 == x76))
 ) (
 π.call 21 #[(.slice a54 n55 c56), (.slice a70 n71 c72), (.int .i64 0)] (false, [(false, [.slice])]) fun ((((a77 : Option Addr), (n78 : Nat), (c79 : Nat)), _), _) =>
 π.join [(false, [.slice]), (true, [.slice, .slice, .slice]), (false, [.int .i64]), (true, [.slice, .slice, .slice]), (false, [.slice]), (true, [.slice, .slice, .slice]), (false, [.int .i64])] (fun J80 =>
 π.guard (0 ≤ i ∧ i ≤ (↑an : Int) ∧ (↑an : Int) ≤ (↑ac : Int)) <|
 π.both (
 π.call 19 #[(.agg #[(.int .i64 x49), (.int .i64 x50), (.slice a51 n52 c53)]), (.slice (if ac = i.toNat then a else Option.map (fun x => x.add (i.toNat * 11)) a) ((↑an : Int).toNat - i.toNat) (ac - i.toNat)), (Value.iface (73 : Nat) (.slice a77 n78 c79))] (true, [(true, [.slice, .slice, .slice]), (false, [.int .i64]), (false, [.int .i64])]) fun ((((a81 : Option Addr), (n82 : Nat), (c83 : Nat)), ((a84 : Option Addr), (n85 : Nat), (c86 : Nat)), ((a87 : Option Addr), (n88 : Nat), (c89 : Nat)), _), ((x90 : Int), _), ((x91 : Int), _), _) =>
 J80 (((a54, n55, c56), ()), ((a57, n58, c59), (a60, n61, c62), (a63, n64, c65), ()), (x66, ()), ((a67, n68, c69), (a70, n71, c72), (a73, n74, c75), ()), ((a77, n78, c79), ()), ((a81, n82, c83), (a84, n85, c86), (a87, n88, c89), ()), (x91, ()), ())
 ) (
 π.call 19 #[(.agg #[(.int .i64 x49), (.int .i64 x50), (.slice a51 n52 c53)]), (.slice (if ac = i.toNat then a else Option.map (fun x => x.add (i.toNat * 11)) a) ((↑an : Int).toNat - i.toNat) (ac - i.toNat)), (Value.iface (73 : Nat) (.slice a77 n78 c79))] (true, [(true, [.slice, .slice, .slice]), (false, [.int .i64]), (false, [.int .i64])]) fun ((((a92 : Option Addr), (n93 : Nat), (c94 : Nat)), ((a95 : Option Addr), (n96 : Nat), (c97 : Nat)), ((a98 : Option Addr), (n99 : Nat), (c100 : Nat)), _), ((x101 : Int), _), ((x102 : Int), _), _) =>
 J80 (((a54, n55, c56), ()), ((a57, n58, c59), (a60, n61, c62), (a63, n64, c65), ()), (x66, ()), ((a67, n68, c69), (a70, n71, c72), (a73, n74, c75), ()), ((a77, n78, c79), ()), ((a92, n93, c94), (a95, n96, c97), (a98, n99, c100), ()), (x102, ()), ())
 )
 ) (fun ((((a103 : Option Addr), (n104 : Nat), (c105 : Nat)), _), (((a106 : Option Addr), (n107 : Nat), (c108 : Nat)), ((a109 : Option Addr), (n110 : Nat), (c111 : Nat)), ((a112 : Option Addr), (n113 : Nat), (c114 : Nat)), _), ((x115 : Int), _), (((a116 : Option Addr), (n117 : Nat), (c118 : Nat)), ((a119 : Option Addr), (n120 : Nat), (c121 : Nat)), ((a122 : Option Addr), (n123 : Nat), (c124 : Nat)), _), (((a125 : Option Addr), (n126 : Nat), (c127 : Nat)), _), (((a128 : Option Addr), (n129 : Nat), (c130 : Nat)), ((a131 : Option Addr), (n132 : Nat), (c133 : Nat)), ((a134 : Option Addr), (n135 : Nat), (c136 : Nat)), _), ((x137 : Int), _), _) =>
 π.ite (x115 != x137) (
 π.ret (.bool false)
 ) (
 π.ite (x115 != 0) (
 π.ret (.bool true)
 ) (
 π.call 21 #[(.slice a103 n104 c105), (.slice a109 n110 c111), (.int .i64 0)] (false, [(false, [.slice])]) fun ((((a138 : Option Addr), (n139 : Nat), (c140 : Nat)), _), _) =>
 π.call 21 #[(.slice a125 n126 c127), (.slice a131 n132 c133), (.int .i64 0)] (false, [(false, [.slice])]) fun ((((a141 : Option Addr), (n142 : Nat), (c143 : Nat)), _), _) =>
 π.nw (Obj.cells #[] (135 : Nat) (0, 0)) fun r144 =>
 π.app (135 : Nat) (2 : Nat) (32 : Nat) [(.int .i64 0), (.slice none 0 0)] (some (Addr.mk r144 0 none)) ((0 : Nat)) ((0 : Nat)) (Src.sl a122 n123) fun a145 n146 c147 =>
 π.app (135 : Nat) (2 : Nat) (32 : Nat) [(.int .i64 0), (.slice none 0 0)] (a145) (n146) (c147) (Src.sl a134 n135) fun a148 n149 c150 =>
 π.call 25 #[(.slice a112 n113 c114), (.slice a148 n149 c150)] (false, [(false, [.bool])]) fun (((b151 : Bool), _), _) =>
 π.ite (b151) (
 π.ite ((↑n139 : Int) == (↑n142 : Int)) (
 π.call 26 #[(.slice a138 n139 c140), (.slice a141 n142 c143)] (false, [(false, [.bool])]) fun (((b152 : Bool), _), _) =>
 π.ret (.bool b152)
 ) (
 π.ret (.bool false)
 )
 ) (
 π.ret (.bool false)
 )
 )
 )
 )
 )
 )
 )
theorem zk (sv sl : Int) (sa : Option Addr) (san sac : Nat) (a : Option Addr) (an ac : Nat) (b : Option Addr) (bn bc : Nat) (i : Int) : OK 6 [.v (.agg #[.int .i64 sv, .int .i64 sl, .slice sa san sac]), .v (.slice a an ac), .v (.slice b bn bc), .v (.int .i64 i)] fun _ π => qx π sv sl sa san sac a an ac b bn bc i :=
 aV { ptr := [(4, 4, 0), (10, 10, 0), (13, 13, 0), (17, 17, 0), (69, 13, 1), (89, 10, 1), (93, 17, 1), (96, 10, 2), (99, 13, 2), (102, 17, 2)], ty := [(4, 43), (10, 70), (13, 70), (17, 70)] } { draws := [(5, { A := [0, 1, 2, 3, 4, 5], eag := [7, 8, 9, 10, 13, 14] }), (9, { A := [0, 1, 2, 3, 4, 5], eag := [7, 8, 9, 10, 13, 14] }), (14, { A := [0, 1, 2, 4, 5, 6], chkL := [(3, [6])], eag := [8, 9] }), (15, { A := [0, 1, 3, 4, 6, 7], chkL := [(5, [1, 7]), (8, [1])], eag := [10, 11, 12, 13, 14, 15, 16, 17, 18, 19, 21, 22] })], join := [(3, [(4, 43)]), (6, [(4, 43), (9, 65), (10, 70), (12, 32), (13, 70), (15, 32)]), (10, [(9, 65), (10, 70), (12, 32), (13, 70), (16, 65), (17, 70), (19, 32)])],  } [] Tryz.func6 Tryz.ntmps6 rfl (by kernel_rfl) fun _ π => by kernel_rfl
end
section
attribute [-simp] Fw.W.bD Fw.W.bB
theorem tE {s0 s : PH} {a : Option Addr} {n c : Nat} {l : List Int} (h : oU s0 s a n c l) {i : Nat} {x : Int} (hx : l[i]? = some x) {K : Den [.int .i64] → W.T} (hK : K (x, ()) s) : W.af a (fun p => W.ld [.int .i64] (p.add (i * 1)) K) s := by
 obtain ⟨ad, rfl, hh⟩ := (elems.bE h.row).aB hx
 simp only [W.az]
 exact aC hh (cs := [.int .i64]) (y := (x, ())) rfl hK
theorem FA {s : PH} {t : aG} {S : aF} {ps : List ay} (h : cX s t S ps) : ai 23 #[eK S t] s fun y s' => y = .bool (right S) ∧ s' = s := by
 refine bu.quiet ?_
 obtain ⟨ta, tn, tc⟩ := t
 refine Em S.version S.last ta tn tc _ s ?_
 unfold w6
 have htn : tn = ps.length := h.el.len
 have hpl : S.tabs.length = ps.length := by rw [h.eq]; simp
 obtain ⟨R, hR⟩ : ∃ b, right S = b := ⟨_, rfl⟩
 rw [hR]
 have ret0 : ∀ {s'}, Fw.Mod [] s s' → ¬ right S = true → (Value.bool false = .bool R ∧ Fw.Mod [] s s') := fun m e => ⟨by rw [← hR, GI e], m⟩
 simp only [cE]
 refine W.bl (fun z s' => z = ((S.version, S.last, (ta, tn, tc), ()), ()) ∧ s' = s ∧ jr S = true ∧ tn ≤ 6) ?_ ?_
 rotate_left
 ·intro J hJ
  simp only [aN, W.aa, decide_eq_true_eq, decide_eq_false_iff_not, aE, W.nM]
  have hno : ¬ (0 ≤ S.version ∧ S.version ≤ 1125899906842624 ∧ 0 ≤ S.last ∧ S.last ≤ 1125899906842624 ∧ S.tabs.length ≤ 6) → ¬ right S = true := fun e r => e (by
   have := (ez.1 r).1
   unfold jr at this
   simp only [Bool.and_eq_true, decide_eq_true_eq] at this
   exact ⟨this.1, this.2.1, this.2.2.1, this.2.2.2, (ez.1 r).2.1⟩)
  refine ⟨fun h1 => ret0 (Mod.refl _ _) (hno (by omega)), fun h1 => ⟨fun h2 => ret0 (Mod.refl _ _) (hno (by omega)), fun h2 => ⟨fun h3 => ret0 (Mod.refl _ _) (hno (by omega)), fun h3 => ⟨fun h4 => ret0 (Mod.refl _ _) (hno (by omega)), fun h4 => ⟨fun h5 => ret0 (Mod.refl _ _) (hno (by omega)), fun h5 => hJ _ _ ⟨rfl, rfl, ?_, by omega⟩⟩⟩⟩⟩⟩
  unfold jr
  simp only [Bool.and_eq_true, decide_eq_true_eq]
  omega
 rintro _ s1 ⟨rfl, rfl, hhead, h6⟩
 simp only [aS]
 refine ⟨fun z s' => ∃ (k n c : Nat) (ia : Option Addr), z = ((S.version, S.last, (ta, tn, tc), ()), ((ia, n, c), ()), ((k : Int), ()), ()) ∧ k ≤ tn ∧ oU s1 s' ia n c ((S.tabs.take k).flatMap cB) ∧ ((S.tabs.take k).flatMap cB).length ≤ 25 * k ∧
  upTo (bS (fun i T => dD S.tabs i T && dZ S T) S.tabs) k = true, fun z _ => tn - z.2.2.1.1.toNat, ⟨0, 0, 0, none, rfl, Nat.zero_le _, oU.nil _, by simp, rfl⟩, ?_⟩
 rintro _ s2 ⟨k, n, c, ia, rfl, hk, hids, hlen, hup⟩
 have hS2 := h.mono hids.md.le
 simp only [aN, W.aa, decide_eq_true_eq, decide_eq_false_iff_not]
 refine ⟨fun hlt => ?_, fun hge => ?_⟩
 ·have hlt : k < tn := by omega
  obtain ⟨p, hp⟩ : ∃ p, ps[k]? = some p := ⟨_, List.getElem?_eq_getElem (by omega)⟩
  have hT : S.tabs[k]? = some p.T := by rw [h.eq, List.getElem?_map, hp]; (first | done | rfl)
  obtain ⟨ad, had, hh⟩ := hS2.el.el.aB hp
  dsimp only at had
  subst had
  have hP0 := h.all p (get_mem hp)
  obtain ⟨T, ⟨ca, can, cac⟩, ⟨xa, xan, xac⟩, ⟨ka, kan, kac⟩⟩ := p
  dsimp only at hP0 hT
  have hcan : can = T.cols.length := hP0.c.len
  have hxan : xan = T.idxs.length := hP0.x.len
  have hkan : kan = T.keys.length := hP0.k.len
  have hnoT : ¬ dZ S T = true → ¬ right S = true := fun e r => e (by have := cm.1 (ez.1 r).2.2.2.1 k T hT; exact this)
  simp only [aP, W.ah, aQ, W.az, bI, Int.toNat_natCast]
  refine ⟨by omega, ?_⟩
  refine aC hh (y := (T.id, T.name, (ca, can, cac), (xa, xan, xac), (ka, kan, kac), ())) rfl ?_
  refine W.bl (fun z s' => z = ((S.version, S.last, (some ad, tn, tc), ()), ((ia, n, c), ()), ((k : Int), ()), (T.id, T.name, (ca, can, cac), (xa, xan, xac), (ka, kan, kac), ()), ()) ∧ s' = s2 ∧ dD S.tabs k T = true ∧ 1 ≤ can ∧ can ≤ 8 ∧ xan ≤ 8 ∧ kan ≤ 8) ?_ ?_
  rotate_left
  ·intro J hJ
   simp only [aU]
   refine aL ((named T.name, ()), ()) (kF T.name s2) rfl ?_
   have hnoN : ¬ dD S.tabs k T = true → ¬ right S = true := fun e r => e (cm.1 (ez.1 r).2.2.1 k T hT)
   have hnoL : ¬ (1 ≤ T.cols.length ∧ T.cols.length ≤ 8 ∧ T.idxs.length ≤ 8 ∧ T.keys.length ≤ 8) → ¬ right S = true := fun e => hnoT fun r => e (by obtain ⟨a, b, c, d, _⟩ := gx.1 r; exact ⟨a, b, c, d⟩)
   simp only [W.aa]
   refine ⟨fun hb => ret0 hids.md (hnoN fun r => ?_), fun hb => ?_⟩
   ·unfold dD at r; simp only [Bool.and_eq_true] at r; rw [r.1] at hb; cases hb
   have hb : named T.name = true := by simpa using hb
   refine aL ((ff S T.name, ()), ()) (ou (t := (some ad, tn, tc)) hS2 T.name) rfl ?_
   simp only [W.aa]
   refine ⟨fun h1 => ret0 hids.md (hnoN fun r => ?_), fun h1 => ?_⟩
   ·unfold dD at r; simp only [Bool.and_eq_true, decide_eq_true_eq] at r
    unfold ff at h1; rw [r.2] at h1; simp at h1
   have h1 : ff S T.name = (k : Int) := by simpa using h1
   simp only [decide_eq_true_eq, decide_eq_false_iff_not]
   refine ⟨fun h2 => ret0 hids.md (hnoL (by omega)), fun h2 => ⟨fun h3 => ret0 hids.md (hnoL (by omega)), fun h3 => ⟨fun h4 => ret0 hids.md (hnoL (by omega)), fun h4 => ⟨fun h5 => ret0 hids.md (hnoL (by omega)), fun h5 => hJ _ _ ⟨rfl, rfl, ?_, by omega, by omega, by omega, by omega⟩⟩⟩⟩⟩
   unfold dD; rw [hb]; unfold ff at h1; rw [h1]; simp
  rintro _ s3 ⟨rfl, rfl, hnameT, hc1, hc8, hx8, hk8⟩
  try simp only [bU, cZ]
  refine hids.push (by omega) ?_
  intro ia c s4 hids
  obtain ⟨B, hB⟩ : ∃ B, (S.tabs.take k).flatMap cB ++ [T.id] = B := ⟨_, rfl⟩
  have hBl : B.length ≤ 25 * k + 1 := by rw [← hB, List.length_append, List.length_singleton]; omega
  rw [hB] at hids
  generalize n + 1 = n at hids ⊢
  try simp only [aS]
  refine ⟨fun z s' => ∃ (j n c : Nat) (ia : Option Addr), z = ((S.version, S.last, (some ad, tn, tc), ()), ((ia, n, c), ()), ((k : Int), ()), (T.id, T.name, (ca, can, cac), (xa, xan, xac), (ka, kan, kac), ()), ((j : Int), ()), ()) ∧ j ≤ can ∧ oU s1 s' ia n c (B ++ (T.cols.take j).map (·.id)) ∧
   upTo (bS (fun i x => eo T.cols i x && fR i x) T.cols) j = true ∧ (0 < j → eT T = true), fun z _ => can - z.2.2.2.2.1.1.toNat, ⟨0, _, _, _, rfl, Nat.zero_le _, by simpa using hids, rfl, by omega⟩, ?_⟩
  rintro _ s5 ⟨j, n, c, ia, rfl, hj, hids, hupC, hf3⟩
  simp only [aN, W.aa, decide_eq_true_eq, decide_eq_false_iff_not]
  refine ⟨fun hlt2 => ?_, fun hge => ?_⟩
  ·have hlt2 : j < can := by omega
   obtain ⟨x, hx⟩ : ∃ x, T.cols[j]? = some x := ⟨_, List.getElem?_eq_getElem (by omega)⟩
   have hCs := hP0.c.mono hids.md.le
   obtain ⟨ad2, had2, hh2⟩ := hCs.el.aB hx
   dsimp only at had2
   subst had2
   have hw := ak (k := j) (by omega)
   have hno : ¬ (named x.name = true ∧ fF T x.name = j ∧ 1 ≤ x.state ∧ x.state ≤ 3 ∧ typed x.kind = true ∧ fits x.dflt x.kind = true) → ¬ right S = true := fun e => hnoT (Js hx fun ⟨a, b⟩ => e (by
    unfold eo at a; unfold fR dI at b
    simp only [Bool.and_eq_true, decide_eq_true_eq] at a b
    exact ⟨a.1, a.2, b.1.1, b.1.2, b.2.1, b.2.2⟩))
   simp only [aP, W.ah, aQ, W.az, bI, Int.toNat_natCast]
   refine ⟨by omega, ?_⟩
   refine aC hh2 (y := (x.id, x.name, x.kind, x.state, x.dflt.kind, x.dflt.n, x.dflt.s, ())) rfl ?_
   refine aL ((named x.name, ()), ()) (kF x.name s5) rfl ?_
   simp only [W.aa]
   refine ⟨fun hb => ret0 hids.md (hno fun q => by rw [q.1] at hb; cases hb), fun hb => ?_⟩
   have hb : named x.name = true := by simpa using hb
   refine aL ((fF T x.name, ()), ()) (qZ (p := ⟨T, (some ad2, can, cac), (xa, xan, xac), (ka, kan, kac)⟩) hCs x.name) rfl ?_
   simp only [W.aa]
   refine ⟨fun h1 => ret0 hids.md (hno fun q => by rw [q.2.1] at h1; simp at h1), fun h1 => ?_⟩
   have h1 : fF T x.name = (j : Int) := by simpa using h1
   simp only [decide_eq_true_eq, decide_eq_false_iff_not]
   refine ⟨fun h2 => ret0 hids.md (hno (by omega)), fun h2 => ⟨fun h3 => ret0 hids.md (hno (by omega)), fun h3 => ?_⟩⟩
   have hpush : ∀ (K : Option Addr → Nat → Nat → W.T), (∀ a' c' s', oU s1 s' a' (n + 1) c' (B ++ (T.cols.take (j + 1)).map (·.id)) → K a' (n + 1) c' s') → W.nw (.cells #[.int .i64 x.id] 3 (0, 0)) (fun r => W.app 3 1 8 [.int .i64 0] ia n c (Src.sl (some ⟨r, 0, none⟩) 1) K) s5 := by
    intro K hK
    refine hids.push (by simp; omega) fun a' c' s' h' => hK a' c' s' ?_
    rw [jA (·.id) hx]; simpa using h'
   have hyes : typed x.kind = true → fits x.dflt x.kind = true → upTo (bS (fun i x => eo T.cols i x && fR i x) T.cols) (j + 1) = true := fun a b => qW hupC hx (by
    unfold eo fR dI; unfold fF at h1; rw [hb, h1, a, b, decide_eq_true (p := 1 ≤ x.state) (by omega), decide_eq_true (p := x.state ≤ 3) (by omega)]; simp)
   have hfirst : j = 0 → eT T = decide (x.state = 3) := by
    rintro rfl
    unfold eT
    cases hcs : T.cols with
    | nil => rw [hcs] at hx; cases hx
    | cons a b => rw [hcs] at hx; cases hx; (first | done | rfl)
   have hno3 : eT T = false → ¬ right S = true := fun e => hnoT fun r => by obtain ⟨_, _, _, _, _, _, _, q, _⟩ := gx.1 r; rw [e] at q; cases q
   try simp only [aN, W.aa]
   refine ⟨fun h0 => ⟨fun h4 => ret0 hids.md (hno3 ?_), fun h4 => ?_⟩, fun h0 => ?_⟩
   ·rw [hfirst (by have : (j : Int) = 0 := by simpa using h0
                   omega)]
    simpa using h4
   ·have hq : eT T = true := by
     rw [hfirst (by have : (j : Int) = 0 := by simpa using h0
                    omega)]
     simpa using h4
    refine aL ((typed x.kind, ()), ()) (rV x.kind s5) rfl ?_
    simp only [W.aa]
    refine ⟨fun hb => ret0 hids.md (hno fun q => by rw [q.2.2.2.2.1] at hb; cases hb), fun hb => ?_⟩
    refine aL ((fits x.dflt x.kind, ()), ()) (A4 x.dflt x.kind s5) rfl ?_
    simp only [W.aa]
    refine ⟨fun hb => ret0 hids.md (hno fun q => by rw [q.2.2.2.2.2] at hb; cases hb), fun hb2 => ?_⟩
    refine hpush _ fun a' c' s' h' => ?_
    rw [hw]
    refine ⟨⟨j + 1, n + 1, c', a', rfl, hlt2, h', hyes (by simpa using hb) (by simpa using hb2), fun _ => hq⟩, ?_⟩
    simp only [Int.toNat_natCast]; omega
   ·have hq : eT T = true := hf3 (by have : (j : Int) ≠ 0 := by simpa using h0
                                     omega)
    refine aL ((typed x.kind, ()), ()) (rV x.kind s5) rfl ?_
    simp only [W.aa]
    refine ⟨fun hb => ret0 hids.md (hno fun q => by rw [q.2.2.2.2.1] at hb; cases hb), fun hb => ?_⟩
    refine aL ((fits x.dflt x.kind, ()), ()) (A4 x.dflt x.kind s5) rfl ?_
    simp only [W.aa]
    refine ⟨fun hb => ret0 hids.md (hno fun q => by rw [q.2.2.2.2.2] at hb; cases hb), fun hb2 => ?_⟩
    refine hpush _ fun a' c' s' h' => ?_
    rw [hw]
    refine ⟨⟨j + 1, n + 1, c', a', rfl, hlt2, h', hyes (by simpa using hb) (by simpa using hb2), fun _ => hq⟩, ?_⟩
    simp only [Int.toNat_natCast]; omega
  ·have hall : T.cols.take j = T.cols := List.take_of_length_le (by omega)
   have hupA : allI (fun i x => eo T.cols i x && fR i x) T.cols = true := by unfold allI; rw [show T.cols.length = j by omega]; exact hupC
   have hq : eT T = true := hf3 (by omega)
   rw [hall] at hids
   obtain ⟨B2, hB2⟩ : ∃ B2, B ++ T.cols.map (·.id) = B2 := ⟨_, rfl⟩
   have hB2l : B2.length ≤ 25 * k + 9 := by rw [← hB2, List.length_append, List.length_map]; omega
   rw [hB2] at hids
   refine ⟨fun z s' => ∃ (j n c : Nat) (ia : Option Addr), z = ((S.version, S.last, (some ad, tn, tc), ()), ((ia, n, c), ()), ((k : Int), ()), (T.id, T.name, (ca, can, cac), (xa, xan, xac), (ka, kan, kac), ()), ((j : Int), ()), ()) ∧ j ≤ xan ∧ oU s1 s' ia n c (B2 ++ (T.idxs.take j).map (·.id)) ∧
    upTo (bS (fun i x => eE T.idxs i x && iF T i x) T.idxs) j = true, fun z _ => xan - z.2.2.2.2.1.1.toNat, ⟨0, _, _, _, rfl, Nat.zero_le _, by simpa using hids, rfl⟩, ?_⟩
   rintro _ s6 ⟨j, n, c, ia, rfl, hj, hids, hupX⟩
   simp only [aN, W.aa, decide_eq_true_eq, decide_eq_false_iff_not]
   refine ⟨fun hlt2 => ?_, fun hge => ?_⟩
   ·have hlt2 : j < xan := by omega
    obtain ⟨x, hx⟩ : ∃ x, T.idxs[j]? = some x := ⟨_, List.getElem?_eq_getElem (by omega)⟩
    have hXs := hP0.x.mono hids.md.le
    have hCs := hP0.c.mono hids.md.le
    obtain ⟨ad2, had2, hh2⟩ := hXs.el.aB hx
    dsimp only at had2
    subst had2
    have hw := ak (k := j) (by omega)
    have hno : ¬ (named x.name = true ∧ jY T x.name = j ∧ 1 ≤ x.state ∧ x.state ≤ 3 ∧ 0 ≤ cK T x.column) → ¬ right S = true := fun e => hnoT (Jt hx fun ⟨a, b⟩ => e (by
     unfold eE at a; unfold iF dI at b
     simp only [Bool.and_eq_true, decide_eq_true_eq] at a b
     exact ⟨a.1, a.2, b.1.1, b.1.2, b.2⟩))
    simp only [aP, W.ah, aQ, W.az, bI, Int.toNat_natCast]
    refine ⟨by omega, ?_⟩
    refine aC hh2 (y := (x.id, x.name, x.column, x.unique, x.state, ())) rfl ?_
    refine aL ((named x.name, ()), ()) (kF x.name s6) rfl ?_
    simp only [W.aa]
    refine ⟨fun hb => ret0 hids.md (hno fun q => by rw [q.1] at hb; cases hb), fun hb => ?_⟩
    have hb : named x.name = true := by simpa using hb
    refine aL ((jY T x.name, ()), ()) (BV (p := ⟨T, (ca, can, cac), (some ad2, xan, xac), (ka, kan, kac)⟩) hXs x.name) rfl ?_
    simp only [W.aa]
    refine ⟨fun h1 => ret0 hids.md (hno fun q => by rw [q.2.1] at h1; simp at h1), fun h1 => ?_⟩
    have h1 : jY T x.name = (j : Int) := by simpa using h1
    simp only [decide_eq_true_eq, decide_eq_false_iff_not]
    refine ⟨fun h2 => ret0 hids.md (hno (by omega)), fun h2 => ⟨fun h3 => ret0 hids.md (hno (by omega)), fun h3 => ?_⟩⟩
    refine aL ((cK T x.column, ()), ()) (q6 (p := ⟨T, (ca, can, cac), (some ad2, xan, xac), (ka, kan, kac)⟩) hCs x.column) rfl ?_
    simp only [W.aa, decide_eq_true_eq, decide_eq_false_iff_not]
    refine ⟨fun h4 => ret0 hids.md (hno (by omega)), fun h4 => ?_⟩
    refine hids.push (by rw [List.length_append, List.length_map, List.length_take]; omega) fun a' c' s' h' => ?_
    rw [hw]
    refine ⟨⟨j + 1, n + 1, c', a', rfl, hlt2, by rw [jA (·.id) hx]; simpa using h', qW hupX hx ?_⟩, ?_⟩
    ·unfold eE iF dI; unfold jY at h1; rw [hb, h1, decide_eq_true (p := 1 ≤ x.state) (by omega), decide_eq_true (p := x.state ≤ 3) (by omega), decide_eq_true (p := 0 ≤ cK T x.column) (by omega)]; simp
    ·simp only [Int.toNat_natCast]; omega
   ·have hall : T.idxs.take j = T.idxs := List.take_of_length_le (by omega)
    have hupB : allI (fun i x => eE T.idxs i x && iF T i x) T.idxs = true := by unfold allI; rw [show T.idxs.length = j by omega]; exact hupX
    rw [hall] at hids
    obtain ⟨B3, hB3⟩ : ∃ B3, B2 ++ T.idxs.map (·.id) = B3 := ⟨_, rfl⟩
    have hB3l : B3.length ≤ 25 * k + 17 := by rw [← hB3, List.length_append, List.length_map]; omega
    rw [hB3] at hids
    refine ⟨fun z s' => ∃ (j n c : Nat) (ia : Option Addr), z = ((S.version, S.last, (some ad, tn, tc), ()), ((ia, n, c), ()), ((k : Int), ()), (T.id, T.name, (ca, can, cac), (xa, xan, xac), (ka, kan, kac), ()), ((j : Int), ()), ()) ∧ j ≤ kan ∧ oU s1 s' ia n c (B3 ++ (T.keys.take j).map (·.id)) ∧
     upTo (bS (fun i x => eD T.keys i x && gT S T i x) T.keys) j = true, fun z _ => kan - z.2.2.2.2.1.1.toNat, ⟨0, _, _, _, rfl, Nat.zero_le _, by simpa using hids, rfl⟩, ?_⟩
    rintro _ s7 ⟨j, n, c, ia, rfl, hj, hids, hupF⟩
    have hSn := h.mono hids.md.le
    have hXs := hP0.x.mono hids.md.le
    have hCs := hP0.c.mono hids.md.le
    have hKs := hP0.k.mono hids.md.le
    simp only [aN, W.aa, decide_eq_true_eq, decide_eq_false_iff_not]
    refine ⟨fun hlt2 => ?_, fun hge => ?_⟩
    ·have hlt2 : j < kan := by omega
     obtain ⟨x, hx⟩ : ∃ x, T.keys[j]? = some x := ⟨_, List.getElem?_eq_getElem (by omega)⟩
     obtain ⟨ad2, had2, hh2⟩ := hKs.el.aB hx
     dsimp only at had2
     subst had2
     have hw := ak (k := j) (by omega)
     have hno : ¬ (named x.name = true ∧ jv T x.name = j ∧ 1 ≤ x.state ∧ x.state ≤ 3 ∧ 0 ≤ cK T x.column ∧ 0 ≤ dw S x.parent ∧ oK S T x = true) → ¬ right S = true := fun e => hnoT (Ju hx fun ⟨a, b⟩ => e (by
      unfold eD at a; unfold gT dI at b
      simp only [Bool.and_eq_true, decide_eq_true_eq] at a b
      exact ⟨a.1, a.2, b.1.1, b.1.2, b.2.1, b.2.2.1, b.2.2.2⟩))
     simp only [aP, W.ah, aQ, W.az, bI, Int.toNat_natCast]
     refine ⟨by omega, ?_⟩
     refine aC hh2 (y := (x.id, x.name, x.column, x.parent, x.state, ())) rfl ?_
     refine aL ((dw S x.parent, ()), ()) (BW (t := (some ad, tn, tc)) hSn x.parent) rfl ?_
     refine aL ((cK T x.column, ()), ()) (q6 (p := ⟨T, (ca, can, cac), (xa, xan, xac), (some ad2, kan, kac)⟩) hCs x.column) rfl ?_
     refine W.bl (fun z s' => z = ((S.version, S.last, (some ad, tn, tc), ()), ((ia, n, c), ()), ((k : Int), ()), (T.id, T.name, (ca, can, cac), (xa, xan, xac), (some ad2, kan, kac), ()), ((j : Int), ()), (x.id, x.name, x.column, x.parent, x.state, ()), (dw S x.parent, ()), (cK T x.column, ()), ()) ∧ s' = s7 ∧
      named x.name = true ∧ jv T x.name = j ∧ 1 ≤ x.state ∧ x.state ≤ 3 ∧ 0 ≤ cK T x.column ∧ 0 ≤ dw S x.parent) ?_ ?_
     rotate_left
     ·intro J hJ
      refine aL ((named x.name, ()), ()) (kF x.name s7) rfl ?_
      simp only [W.aa]
      refine ⟨fun hb => ret0 hids.md (hno fun q => by rw [q.1] at hb; cases hb), fun hb => ?_⟩
      have hb : named x.name = true := by simpa using hb
      refine aL ((jv T x.name, ()), ()) (Fz (p := ⟨T, (ca, can, cac), (xa, xan, xac), (some ad2, kan, kac)⟩) hKs x.name) rfl ?_
      simp only [W.aa]
      refine ⟨fun h1 => ret0 hids.md (hno fun q => by rw [q.2.1] at h1; simp at h1), fun h1 => ?_⟩
      have h1 : jv T x.name = (j : Int) := by simpa using h1
      simp only [decide_eq_true_eq, decide_eq_false_iff_not]
      refine ⟨fun h2 => ret0 hids.md (hno (by omega)), fun h2 => ⟨fun h3 => ret0 hids.md (hno (by omega)), fun h3 => ⟨fun h4 => ret0 hids.md (hno (by omega)), fun h4 => ⟨fun h5 => ret0 hids.md (hno (by omega)), fun h5 => hJ _ _ ⟨rfl, rfl, hb, h1, by omega, by omega, by omega, by omega⟩⟩⟩⟩⟩
     rintro _ s8 ⟨rfl, rfl, hb, h1, hs1, hs3, hcol, htab⟩
     obtain ⟨jp, P, hjp, hPj, _, _⟩ : ∃ (jp : Nat) (P : aO), dw S x.parent = (jp : Int) ∧ S.tabs[jp]? = some P ∧ True ∧ True := by
      rcases iR (p := fun T : aO => decide (T.id = x.parent)) S.tabs 0 with ⟨e, _⟩ | ⟨j, P, e, e2, _⟩
      ·exact absurd e (by unfold dw at htab; omega)
      ·exact ⟨j, P, by unfold dw; rw [e]; simp, e2, trivial, trivial⟩
     obtain ⟨j2, C, hj2, hCj, _, _⟩ : ∃ (j : Nat) (C : bZ), cK T x.column = (j : Int) ∧ T.cols[j]? = some C ∧ True ∧ True := by
      rcases iR (p := fun c : bZ => decide (c.id = x.column)) T.cols 0 with ⟨e, _⟩ | ⟨j, P, e, e2, _⟩
      ·exact absurd e (by unfold cK at hcol; omega)
      ·exact ⟨j, P, by unfold cK; rw [e]; simp, e2, trivial, trivial⟩
     have hpar : oK S T x = (match P.cols with | c0 :: _ => decide (C.kind = c0.kind) | [] => false) := by unfold oK; rw [hjp, hj2]; simp only [Int.toNat_natCast, hPj, hCj] <;> rfl
     obtain ⟨pp, hpp, hppT⟩ : ∃ pp, ps[jp]? = some pp ∧ pp.T = P := by
      rw [h.eq, List.getElem?_map] at hPj
      cases hq : ps[jp]? with
      | none => rw [hq] at hPj; cases hPj
      | some pp => rw [hq] at hPj; exact ⟨pp, rfl, Option.some.inj hPj⟩
     have hjl := (List.getElem?_eq_some_iff.1 hpp).1
     have hj2l := (List.getElem?_eq_some_iff.1 hCj).1
     obtain ⟨ad3, had3, hh3⟩ := hSn.el.el.aB hpp
     dsimp only at had3
     cases had3
     have hPP := hSn.all pp (get_mem hpp)
     obtain ⟨PT, ⟨pca, pcn, pcc⟩, ⟨pxa, pxn, pxc⟩, ⟨pka, pkn, pkc⟩⟩ := pp
     dsimp only at hppT
     subst hppT
     have hpcn : pcn = PT.cols.length := hPP.c.len
     rw [hjp, hj2]
     simp only [Int.toNat_natCast]
     refine ⟨by omega, ?_⟩
     simp only [W.az]
     refine bz (j := 2) hh3 (cs := [.slice]) (y := ((pca, pcn, pcc), ())) rfl ?_
     simp only [W.aa]
     refine ⟨fun h3 => ret0 hids.md (hno fun q => ?_), fun h3 => ?_⟩
     ·have h3 : pcn = 0 := by simpa using h3
      have : PT.cols = [] := List.length_eq_zero_iff.1 (by omega)
      have q := q.2.2.2.2.2.2
      rw [hpar, this] at q; cases q
     have h3 : pcn ≠ 0 := by simpa using h3
     obtain ⟨c1, cs1, hcs1⟩ : ∃ c0 cs, PT.cols = c0 :: cs := by
      cases hc : PT.cols with
      | nil => rw [hc] at hpcn; simp at hpcn; omega
      | cons a b => exact ⟨a, b, rfl⟩
     obtain ⟨ad4, had4, hh4⟩ := hCs.el.aB hCj
     dsimp only at had4
     cases had4
     obtain ⟨ad5, had5, hh5⟩ := hPP.c.el.aB (i := 0) (x := c1) (by rw [hcs1]; (first | done | rfl))
     dsimp only at had5
     subst had5
     rw [Nat.zero_mul, add_zero] at hh5
     refine ⟨by omega, ?_⟩
     simp only [W.az]
     refine bz (j := 2) hh3 (cs := [.slice]) (y := ((some ad5, pcn, pcc), ())) rfl ?_
     refine ⟨by dsimp only; omega, ?_⟩
     simp only [W.az]
     refine bz (j := 2) (A := Addr.add ad5 0) (by rw [add_zero]; exact hh5) (cs := [.int .i64]) (y := (c1.kind, ())) rfl ?_
     refine ⟨by omega, ?_⟩
     simp only [W.az]
     refine bz (j := 2) hh4 (cs := [.int .i64]) (y := (C.kind, ())) rfl ?_
     simp only [W.aa]
     refine ⟨fun h6 => ret0 hids.md (hno fun q => ?_), fun h6 => ?_⟩
     ·have q := q.2.2.2.2.2.2
      rw [hpar, hcs1] at q
      have q : C.kind = c1.kind := by simpa using q
      rw [q] at h6; simp at h6
     refine hids.push (by rw [List.length_append, List.length_map, List.length_take]; omega) fun a' c' s' h' => ?_
     rw [hw]
     refine ⟨⟨j + 1, n + 1, c', a', rfl, hlt2, by rw [jA (·.id) hx]; simpa using h', qW hupF hx ?_⟩, ?_⟩
     ·have e6 : c1.kind = C.kind := by simpa using h6
      unfold eD gT dI; unfold jv at h1; rw [hb, h1, decide_eq_true (p := 1 ≤ x.state) (by omega), decide_eq_true (p := x.state ≤ 3) (by omega), decide_eq_true (p := 0 ≤ cK T x.column) (by omega), decide_eq_true (p := 0 ≤ dw S x.parent) (by omega), hpar, hcs1]; simp [e6]
     ·simp only [Int.toNat_natCast]; omega
    ·have hall : T.keys.take j = T.keys := List.take_of_length_le (by omega)
     have hupD : allI (fun i x => eD T.keys i x && gT S T i x) T.keys = true := by unfold allI; rw [show T.keys.length = j by omega]; exact hupF
     rw [hall] at hids
     have htabB : dZ S T = true := gx.2 ⟨by omega, by omega, by omega, by omega, (iN hupA).1, (iN hupB).1, (iN hupD).1, hq, (iN hupA).2, (iN hupB).2, (iN hupD).2⟩
     have hnext : (S.tabs.take (k + 1)).flatMap cB = B3 ++ T.keys.map (·.id) := by
      rw [List.take_add_one, hT, List.flatMap_append, ← hB3, ← hB2, ← hB]
      simp [cB]
     rw [ak (k := k) (by omega)]
     refine ⟨⟨k + 1, _, _, _, rfl, hlt, by rw [hnext]; exact hids, ?_, qW hup hT (by rw [hnameT, htabB]; (first | done | rfl))⟩, ?_⟩
     ·rw [hnext, List.length_append, List.length_map]; omega
     ·simp only [Int.toNat_natCast]; omega
 ·have hall : S.tabs.take k = S.tabs := List.take_of_length_le (by omega)
  have hupA : allI (fun i T => dD S.tabs i T && dZ S T) S.tabs = true := by unfold allI; rw [show S.tabs.length = k by omega]; exact hup
  rw [hall] at hids hlen
  have hrun : right S = true ↔ aT S.last (S.tabs.flatMap cB) [] = true :=
   ⟨fun r => (ez.1 r).2.2.2.2, fun r => ez.2 ⟨hhead, by omega, (iN hupA).1, (iN hupA).2, r⟩⟩
  generalize S.tabs.flatMap cB = l at hids hrun hlen
  have hnl : n = l.length := hids.row.len
  refine ⟨fun z s' => ∃ i : Nat, z = ((S.version, S.last, (ta, tn, tc), ()), ((ia, n, c), ()), ((i : Int), ()), ()) ∧ i ≤ n ∧ s' = s2 ∧ aT S.last (l.take i) [] = true, fun z _ => n - z.2.2.1.1.toNat, ⟨0, rfl, Nat.zero_le _, rfl, rfl⟩, ?_⟩
  rintro _ s3 ⟨i, rfl, hi, rfl, hr⟩
  simp only [aN, W.aa, decide_eq_true_eq, decide_eq_false_iff_not]
  refine ⟨fun hlt => ?_, fun hge => ?_⟩
  ·have hlt : i < n := by omega
   obtain ⟨x, hx⟩ : ∃ x, l[i]? = some x := ⟨_, List.getElem?_eq_getElem (by omega)⟩
   have hstep : aT S.last (l.take (i + 1)) [] = ((decide (1 ≤ x) && decide (x ≤ S.last)) && !decide (x ∈ (l.take i).reverse ++ [])) := by
    have := jA (fun y : Int => y) hx
    simp only [List.map_id'] at this
    rw [this, kW, hr, Bool.true_and]
   have hno : ¬ (1 ≤ x ∧ x ≤ S.last ∧ x ∉ l.take i) → ¬ right S = true := fun e r => e (by
    have := CW (k := i + 1) (hrun.1 r)
    rw [hstep] at this
    simp only [Bool.and_eq_true, decide_eq_true_eq] at this
    refine ⟨this.1.1, this.1.2, ?_⟩
    simpa using this.2)
   refine W.bl (fun z s' => z = ((S.version, S.last, (ta, tn, tc), ()), ((ia, n, c), ()), ((i : Int), ()), ()) ∧ s' = s3 ∧ 1 ≤ x ∧ x ≤ S.last) ?_ ?_
   rotate_left
   ·intro J hJ
    simp only [Int.toNat_natCast]
    refine ⟨by omega, ?_⟩
    refine tE hids hx ?_
    simp only [W.aa, decide_eq_true_eq, decide_eq_false_iff_not]
    refine ⟨fun h1 => ret0 hids.md (hno (by omega)), fun h1 => ⟨by omega, ?_⟩⟩
    refine tE hids hx ?_
    simp only [W.aa, decide_eq_true_eq, decide_eq_false_iff_not]
    exact ⟨fun h1 => ret0 hids.md (hno (by omega)), fun h2 => hJ _ _ ⟨rfl, rfl, by omega, by omega⟩⟩
   rintro _ s4 ⟨rfl, rfl, hx1, hx2⟩
   refine ⟨fun z s' => ∃ m : Nat, z = ((S.version, S.last, (ta, tn, tc), ()), ((ia, n, c), ()), ((i : Int), ()), ((m : Int), ()), ()) ∧ m ≤ i ∧ s' = s4 ∧ x ∉ l.take m, fun z _ => i - z.2.2.2.1.1.toNat, ⟨0, rfl, Nat.zero_le _, rfl, by simp⟩, ?_⟩
   rintro _ s5 ⟨m, rfl, hm, rfl, hnot⟩
   simp only [aN, W.aa, decide_eq_true_eq, decide_eq_false_iff_not]
   refine ⟨fun hlt2 => ?_, fun hge => ?_⟩
   ·have hlt2 : m < i := by omega
    obtain ⟨y, hy⟩ : ∃ y, l[m]? = some y := ⟨_, List.getElem?_eq_getElem (by omega)⟩
    simp only [Int.toNat_natCast]
    refine ⟨by omega, ?_⟩
    refine tE hids hy ?_
    refine ⟨by omega, ?_⟩
    refine tE hids hx ?_
    simp only [W.aa]
    refine ⟨fun h1 => ret0 hids.md (hno fun q => q.2.2 ?_), fun h1 => ?_⟩
    ·have h1 : y = x := by simpa using h1
     subst h1
     exact List.mem_iff_getElem?.2 ⟨m, by rw [List.getElem?_take_of_lt hlt2]; exact hy⟩
    ·have h1 : y ≠ x := by simpa using h1
     rw [ak (k := m) (by omega)]
     refine ⟨⟨m + 1, rfl, hlt2, trivial, ?_⟩, ?_⟩
     ·rw [List.take_add_one, hy]
      simp only [Option.toList_some, List.mem_append, List.mem_singleton, not_or]
      exact ⟨hnot, fun e => h1 e.symm⟩
     ·simp only [Int.toNat_natCast]; omega
   ·have hmi : m = i := by omega
    subst hmi
    rw [ak (k := m) (by omega)]
    refine ⟨⟨m + 1, rfl, hlt, trivial, ?_⟩, ?_⟩
    ·rw [hstep, decide_eq_true (p := 1 ≤ x) hx1, decide_eq_true (p := x ≤ S.last) hx2]
     simp [hnot]
    ·simp only [Int.toNat_natCast]; omega
  ·have hall : l.take i = l := List.take_of_length_le (by omega)
   rw [hall] at hr
   refine ⟨?_, hids.md⟩
   rw [← hR, hrun.2 hr]
end
section
attribute [-simp] Fw.W.bD Fw.W.bB
def xQ (T : aO) (name : ByteArray) : Int := if 0 ≤ fF T name then (match T.cols[(fF T name).toNat]? with | some c => if c.state = 3 then fF T name else -1 | none => -1) else -1
def yK (cols : List bZ) : Bool := !(upTo (bS (fun i (c : bZ) => decide (aI (fun y : bZ => decide (y.name = c.name)) cols 0 = i)) cols) cols.length)
def eH : Int → List bZ → List bZ
 | _, [] => []
 | n, c :: cs => ⟨n, c.name, c.kind, 3, ⟨0, 0, ⟨#[]⟩⟩⟩ :: eH (n + 1) cs
theorem lO : ∀ (l : List bZ) (n : Int), (eH n l).length = l.length
 | [], n => rfl
 | c :: l, n => by simp [eH, lO l]
theorem q8 : ∀ (l : List bZ) (n : Int) (c : bZ), eH n (l ++ [c]) = eH n l ++ [⟨n + l.length, c.name, c.kind, 3, ⟨0, 0, ⟨#[]⟩⟩⟩]
 | [], n, c => by simp [eH]
 | d :: l, n, c => by simp [eH, q8 l]; omega
abbrev gJ := Except Int aF
def ct (S : aF) (D : nk) (st : Int) : gJ :=
 if (named D.table && D.cols.all fun c => named c.name) = false then .error 100
 else if (decide (0 ≤ ff S D.table) || yK D.cols) = true then .error 152
 else if (decide (6 ≤ S.tabs.length) || (decide (D.cols.length < 1) || decide (8 < D.cols.length))) = true then .error 156
 else if (D.cols.all fun c => typed c.kind) = false then .error 154
 else if st ≠ 3 then .error 1
 else .ok ⟨S.version, S.last + 1 + D.cols.length, S.tabs ++ [⟨S.last + 1, D.table, eH (S.last + 2) D.cols, [], []⟩]⟩
def lp {α : Type} (l : List α) (k : Nat) (st : Int) (x' : α) : List α := if st = 0 then l.eraseIdx k else l.set k x'
def used (T : aO) (k : Int) (x : bZ) : Bool := decide (k = 0) || (T.idxs.any (fun y => decide (y.column = x.id)) || T.keys.any (fun y => decide (y.column = x.id)))
def bZ.put (c : bZ) (st : Int) : bZ := { c with state := st }
def eu.put (c : eu) (st : Int) : eu := { c with state := st }
def For.put (c : For) (st : Int) : For := { c with state := st }
def qF (S : aF) (i : Nat) (T : aO) (D : nk) (st : Int) : gJ :=
 if D.kind = 4 ∧ fF T D.column < 0 then
  if k9 D.column T.cols.length ≠ 0 then .error (k9 D.column T.cols.length)
  else if (typed D.type && fits D.dflt D.type) = false then .error 154
  else if st = 0 then .error 1
  else .ok ⟨S.version, S.last + 1, S.tabs.set i { T with cols := T.cols ++ [⟨S.last + 1, D.column, D.type, st, D.dflt⟩] }⟩
 else if fF T D.column < 0 then .error 151
 else match T.cols[(fF T D.column).toNat]? with
 | none => .error 151
 | some x => if D.kind = 4 ∧ x.state = 3 then .error 152
  else if D.kind = 5 ∧ used T (fF T D.column) x = true then .error 155
  else .ok ⟨S.version, S.last, S.tabs.set i { T with cols := lp T.cols (fF T D.column).toNat st (x.put st) }⟩
def qI (S : aF) (i : Nat) (T : aO) (D : nk) (st : Int) : gJ :=
 if D.kind = 2 ∧ jY T D.name < 0 then
  if k9 D.name T.idxs.length ≠ 0 then .error (k9 D.name T.idxs.length)
  else if xQ T D.column < 0 then .error 151
  else if st = 0 then .error 1
  else match T.cols[(xQ T D.column).toNat]? with
  | none => .error 151
  | some c => .ok ⟨S.version, S.last + 1, S.tabs.set i { T with idxs := T.idxs ++ [⟨S.last + 1, D.name, c.id, D.unique, st⟩] }⟩
 else if jY T D.name < 0 then .error 153
 else match T.idxs[(jY T D.name).toNat]? with
 | none => .error 153
 | some x => if D.kind = 2 ∧ x.state = 3 then .error 152
  else .ok ⟨S.version, S.last, S.tabs.set i { T with idxs := lp T.idxs (jY T D.name).toNat st (x.put st) }⟩
def qL (S : aF) (i : Nat) (T : aO) (D : nk) (st : Int) : gJ :=
 if D.kind = 6 ∧ jv T D.name < 0 then
  if k9 D.name T.keys.length ≠ 0 then .error (k9 D.name T.keys.length)
  else if xQ T D.column < 0 then .error 151
  else if ff S D.parent < 0 then .error 150
  else match T.cols[(xQ T D.column).toNat]?, S.tabs[(ff S D.parent).toNat]? with
  | some c, some P => (match P.cols with
   | [] => .error 154
   | c0 :: _ => if c.kind ≠ c0.kind then .error 154
    else if st = 0 then .error 1
    else .ok ⟨S.version, S.last + 1, S.tabs.set i { T with keys := T.keys ++ [⟨S.last + 1, D.name, c.id, P.id, st⟩] }⟩)
  | _, _ => .error 151
 else if jv T D.name < 0 then .error 153
 else match T.keys[(jv T D.name).toNat]? with
 | none => .error 153
 | some x => if D.kind = 6 ∧ x.state = 3 then .error 152
  else .ok ⟨S.version, S.last, S.tabs.set i { T with keys := lp T.keys (jv T D.name).toNat st (x.put st) }⟩
def kX (S : aF) (D : nk) (st : Int) : gJ :=
 if D.kind = 1 then ct S D st
 else if ff S D.table < 0 then .error 150
 else match S.tabs[(ff S D.table).toNat]? with
 | none => .error 150
 | some T => if D.kind = 4 ∨ D.kind = 5 then qF S (ff S D.table).toNat T D st
  else if D.kind = 2 ∨ D.kind = 3 then qI S (ff S D.table).toNat T D st
  else qL S (ff S D.table).toNat T D st
abbrev eF : aF := ⟨0, 0, []⟩
def aF.kP (S : aF) (D : nk) (st : Int) : aF × Int :=
 if (right S && (decide (0 ≤ st) && decide (st ≤ 3))) = false then (eF, 100)
 else if D.kind < 1 ∨ 7 < D.kind then (eF, 1)
 else match kX { S with version := S.version + 1 } D st with
 | .error e => (eF, e)
 | .ok S' => (S', 0)
def gJ.jO (r : gJ) : Prop := ∀ e, r = .error e → e ≠ 0
theorem nF {c : Prop} [Decidable c] {a b : gJ} (ha : c → a.jO) (hb : ¬ c → b.jO) : gJ.jO (if c then a else b) := by
 by_cases h : c
 ·rw [if_pos h]; exact ha h
 ·rw [if_neg h]; exact hb h
theorem lK {e : Int} (h : e ≠ 0) : gJ.jO (.error e) := fun e' h' => by cases h'; exact h
theorem xM {S : aF} : gJ.jO (.ok S) := fun e' h' => by cases h'
theorem EY (S : aF) (D : nk) (st : Int) : gJ.jO (kX S D st) := by
 have h1 : gJ.jO (ct S D st) := by unfold ct; repeat' (first | (refine nF (fun _ => ?_) (fun _ => ?_)) | exact xM | exact lK (by decide) | exact lK ‹_› | split)
 have h2 : ∀ i T, gJ.jO (qF S i T D st) := by intro i T; unfold qF; repeat' (first | (refine nF (fun _ => ?_) (fun _ => ?_)) | exact xM | exact lK (by decide) | exact lK ‹_› | split)
 have h3 : ∀ i T, gJ.jO (qI S i T D st) := by intro i T; unfold qI; repeat' (first | (refine nF (fun _ => ?_) (fun _ => ?_)) | exact xM | exact lK (by decide) | exact lK ‹_› | split)
 have h4 : ∀ i T, gJ.jO (qL S i T D st) := by intro i T; unfold qL; repeat' (first | (refine nF (fun _ => ?_) (fun _ => ?_)) | exact xM | exact lK (by decide) | exact lK ‹_› | split)
 unfold kX
 repeat' (first | exact h1 | exact h2 _ _ | exact h3 _ _ | exact h4 _ _ | (refine nF (fun _ => ?_) (fun _ => ?_)) | exact lK (by decide) | split)
def ew (t : aG) (ps : List ay) : List Nat := Fw.aH t.1 ++ ps.flatMap ay.L
structure Has (s : PH) (t : aG) (ps : List ay) : Prop where
 row : aW dQ s 139 t.1 t.2.1 t.2.2 ps
 all : ∀ p ∈ ps, pI s p
 nod : (ew t ps).Nodup
theorem Has.nil (s : PH) : Has s dF [] := ⟨aW.nil, fun p hp => by simp at hp, by simp [ew, Fw.aH]⟩
theorem Has.known {s : PH} {t : aG} {ps : List ay} (h : Has s t ps) : ∀ g ∈ ew t ps, s g ≠ none := by
 intro g hg
 simp only [ew, List.mem_append, List.mem_flatMap] at hg
 rcases hg with hg | ⟨p, hp, hg⟩
 ·exact h.row.known g hg
 ·exact (h.all p hp).known g hg
theorem og {t : aG} {ps : List ay} {g : Nat} (h : g ∈ Fw.aH t.1) : g ∈ ew t ps := List.mem_append.2 (.inl h)
theorem JL {t : aG} {ps : List ay} {p : ay} (hp : p ∈ ps) {g : Nat} (h : g ∈ p.L) : g ∈ ew t ps := List.mem_append.2 (.inr (List.mem_flatMap.2 ⟨p, hp, h⟩))
theorem Has.mod {s s' : PH} {t : aG} {ps : List ay} {M : List Nat} (h : Has s t ps) (hm : Fw.Mod M s s') (hd : ∀ g ∈ ew t ps, g ∉ M) : Has s' t ps :=
 ⟨h.row.mod hm fun g hg => hd g (og hg), fun p hp => (h.all p hp).mod hm fun g hg => hd g (JL hp hg), h.nod⟩
theorem Has.is {s : PH} {t : aG} {ps : List ay} (h : Has s t ps) {S : aF} (he : S.tabs = ps.map (·.T)) (hn : S.tabs.length ≤ 4294967296) (hf : ∀ T ∈ S.tabs, T.G2) : cX s t S ps :=
 ⟨Sl.bE h.row (by rw [he, List.length_map] at hn; exact hn), he, fun p hp => (h.all p hp).is (hf _ (by rw [he]; exact List.mem_map_of_mem hp))⟩
theorem Has.push {s : PH} {a : Option Addr} {n c : Nat} {ps : List ay} {p : ay} {K : Option Addr → Nat → Nat → W.T} (h : Has s (a, n, c) ps) (ho : pI s p) (hp : p.L.Nodup) (hd : ∀ g ∈ p.L, g ∉ ew (a, n, c) ps) (hl : ps.length ≤ 4294967296)
  (hK : ∀ a' c' s', Has s' (a', n + 1, c') (ps ++ [p]) → Step (ew (a, n, c) ps ++ p.L) (ew (a', n + 1, c') (ps ++ [p])) s s' → K a' (n + 1) c' s') :
  W.nw (.cells (dQ.f p).toArray 139 (0, 0)) (fun r => W.app 139 5 96 [.int .i64 0, .string ⟨#[]⟩, .slice none 0 0, .slice none 0 0, .slice none 0 0] a n c (Src.sl (some ⟨r, 0, none⟩) 1) K) s := by
 refine W.bG fun r s1 hr m1 k1 => ?_
 have hmax : maxLen = 9223372036854775807 := rfl
 have hn : n = ps.length := h.row.len
 have h1 := h.mod m1 (by simp)
 have ho1 := ho.mod m1 (by simp)
 refine fP h1.row rfl (ys := [p]) (k := 1) (vG (by have := jH k1; simpa using this) rfl) rfl rfl (by dsimp only; omega) (by dsimp only; omega) ?_
 intro a' c' s' h' hm
 have hdt : ∀ g ∈ ps.flatMap ay.L, g ∉ Fw.aH a := by
  intro g hg hg2
  have := h.nod
  simp only [ew, List.nodup_append] at this
  exact this.2.2 g hg2 g hg rfl
 have hrest : (ps.flatMap ay.L ++ p.L).Nodup := by
  rw [List.nodup_append]
  have := h.nod
  simp only [ew, List.nodup_append] at this
  refine ⟨this.2.1, hp, ?_⟩
  rintro g hg _ hg2 rfl
  exact hd g hg2 (List.mem_append.2 (.inr hg))
 have hL : ew (a', n + 1, c') (ps ++ [p]) = Fw.aH a' ++ (ps.flatMap ay.L ++ p.L) := by simp [ew, List.flatMap_append]
 have hLp : ∀ g ∈ ps.flatMap ay.L ++ p.L, g ∈ ew (a, n, c) ps ++ p.L := by
  intro g hg
  rcases List.mem_append.1 hg with hg | hg
  ·exact List.mem_append.2 (.inl (List.mem_append.2 (.inr hg)))
  ·exact List.mem_append.2 (.inr hg)
 rcases hm with ⟨rfl, hm⟩ | ⟨g, rfl, hg, hm⟩
 ·refine hK _ _ _ ⟨h', ?_, ?_⟩ ⟨(m1.mono (by simp)).trans (hm.mono fun x hx => List.mem_append.2 (.inl (og (ps := ps) hx))), ?_⟩
  ·intro q hq
   rcases List.mem_append.1 hq with hq | hq
   ·exact (h1.all q hq).mod hm fun g hg => hdt g (List.mem_flatMap.2 ⟨q, hq, hg⟩)
   ·have : q = p := by simpa using hq
    subst this
    exact ho1.mod hm fun g hg hg2 => hd g hg (og hg2)
  ·rw [hL, List.nodup_append]
   refine ⟨jF _, hrest, ?_⟩
   rintro g hg _ hg2 rfl
   rcases List.mem_append.1 hg2 with hg2 | hg2
   ·exact hdt g hg2 hg
   ·exact hd g hg2 (og hg)
  ·intro x hx
   rw [hL] at hx
   rcases List.mem_append.1 hx with hx | hx
   ·exact .inl (List.mem_append.2 (.inl (og hx)))
   ·exact .inl (hLp x hx)
 ·have hg0 : s g = none := m1.none hg (by simp)
  refine hK _ _ _ ⟨h', ?_, ?_⟩ ⟨(m1.trans hm).mono (by simp), ?_⟩
  ·intro q hq
   rcases List.mem_append.1 hq with hq | hq
   ·exact (h1.all q hq).mod hm (by simp)
   ·have : q = p := by simpa using hq
    subst this
    exact ho1.mod hm (by simp)
  ·rw [hL, List.nodup_append]
   refine ⟨jF _, hrest, ?_⟩
   rintro g' hg' _ hg2 rfl
   have : g' = g := by simpa [Fw.aH] using hg'
   subst this
   rcases List.mem_append.1 hg2 with hg2 | hg2
   ·exact h.known g' (List.mem_append.2 (.inr hg2)) hg0
   ·exact ho.known g' hg2 hg0
  ·intro x hx
   rw [hL] at hx
   rcases List.mem_append.1 hx with hx | hx
   ·have : x = g := by simpa [Fw.aH] using hx
    subst this
    exact .inr hg0
   ·exact .inl (hLp x hx)
theorem iw {t : aG} {l r : List ay} {p : ay} {g : Nat} : g ∈ ew t (l ++ p :: r) ↔ (g ∈ Fw.aH t.1 ∨ g ∈ l.flatMap ay.L ∨ g ∈ r.flatMap ay.L) ∨ g ∈ p.L := by
 simp only [ew, List.flatMap_append, List.flatMap_cons, List.mem_append]
 constructor
 ·rintro (h | h | h | h)
  ·exact .inl (.inl h)
  ·exact .inl (.inr (.inl h))
  ·exact .inr h
  ·exact .inl (.inr (.inr h))
 ·rintro ((h | h | h) | h)
  ·exact .inl h
  ·exact .inr (.inl h)
  ·exact .inr (.inr (.inr h))
  ·exact .inr (.inr (.inl h))
theorem qC {t : aG} {l r : List ay} {p : ay} : (ew t (l ++ p :: r)).Nodup ↔ (Fw.aH t.1 ++ (l.flatMap ay.L ++ r.flatMap ay.L)).Nodup ∧ p.L.Nodup ∧ ∀ g ∈ p.L, ¬ (g ∈ Fw.aH t.1 ∨ g ∈ l.flatMap ay.L ∨ g ∈ r.flatMap ay.L) := by
 have : (ew t (l ++ p :: r)).Perm ((Fw.aH t.1 ++ (l.flatMap ay.L ++ r.flatMap ay.L)) ++ p.L) := by
  simp only [ew, List.flatMap_append, List.flatMap_cons, List.append_assoc]
  refine List.Perm.append_left _ (List.Perm.append_left _ List.perm_append_comm)
 rw [this.nodup_iff, List.nodup_append]
 constructor
 ·rintro ⟨a, b, c⟩
  refine ⟨a, b, fun g hg h => c g ?_ g hg rfl⟩
  simp only [List.mem_append]; exact h
 ·rintro ⟨a, b, c⟩
  refine ⟨a, b, ?_⟩
  rintro g hg _ hg2 rfl
  simp only [List.mem_append] at hg
  exact c g hg2 hg
theorem Has.put {s s1 : PH} {t : aG} {ps : List ay} {i : Nat} {p p' : ay} {K : W.T} (h : Has s t ps) (hp : ps[i]? = some p) (hm : Fw.Mod p.L s s1) (ho : pI s1 p') (hnd : p'.L.Nodup) (hf : ∀ g ∈ p'.L, g ∈ p.L ∨ s g = none) {j : Nat} {vs : List Value}
  (hx' : dQ.f p' = (dQ.f p).take j ++ vs ++ (dQ.f p).drop (j + vs.length)) (hj : j + vs.length ≤ 5) (hne : vs ≠ []) {g : Nat} (ha : t.1 = some ⟨g, 0, none⟩)
  (hK : ∀ s2, Has s2 t (ps.set i p') → Step (ew t ps) (ew t (ps.set i p')) s s2 → K s2) : W.st ⟨g, i * 5 + j, none⟩ vs K s1 := by
 have hi := (List.getElem?_eq_some_iff.1 hp).1
 obtain ⟨l, r, rfl, hl⟩ : ∃ l r, ps = l ++ p :: r ∧ l.length = i := ⟨ps.take i, ps.drop (i + 1), by rw [← bO hp, List.take_append_drop], by simp; omega⟩
 subst hl
 have hset : (l ++ p :: r).set l.length p' = l ++ p' :: r := by simp
 rw [hset] at hK
 have hn0 := qC.1 h.nod
 have hkn := h.known
 have hap : ∀ g, (g ∈ Fw.aH t.1 ∨ g ∈ l.flatMap ay.L ∨ g ∈ r.flatMap ay.L) → g ∉ p.L := fun g hg hg2 => hn0.2.2 g hg2 hg
 have hrow1 : aW dQ s1 139 t.1 t.2.1 t.2.2 (l ++ p :: r) := h.row.mod hm fun g hg => hap g (.inl hg)
 have hvs : ∀ v ∈ vs, v.oneCell' = true := fun v hv => dQ.one p' v (by rw [hx']; simp [hv])
 have hgk : s g ≠ none := h.row.known g (by rw [ha]; simp [Fw.aH])
 have hgp : g ∉ p'.L := fun e => by
  rcases hf g e with e | e
  ·exact hap g (.inl (by rw [ha]; simp [Fw.aH])) e
  ·exact hgk e
 refine aW.st (E := dQ) (i := l.length) (j := j) (x' := p') hrow1 hp hx' hj hne hvs ha fun s2 h2 m2 => ?_
 rw [hset] at h2
 have hgl : ∀ x, x ∈ l.flatMap ay.L ∨ x ∈ r.flatMap ay.L → x ∉ [g] := by
  intro x hx hx2
  have hx2 : x = g := by simpa using hx2
  subst hx2
  have := hn0.1
  rw [List.nodup_append] at this
  exact this.2.2 x (by rw [ha]; simp [Fw.aH]) x (List.mem_append.2 hx) rfl
 refine hK s2 ⟨h2, ?_, ?_⟩ ⟨?_, ?_⟩
 ·intro q hq
  have hq' : q ∈ l ∨ q = p' ∨ q ∈ r := by simpa using hq
  rcases hq' with hq' | rfl | hq'
  ·have hL : ∀ x ∈ q.L, x ∈ l.flatMap ay.L := fun x hx => List.mem_flatMap.2 ⟨q, hq', hx⟩
   exact ((h.all q (by simp [hq'])).mod hm fun x hx => hap x (.inr (.inl (hL x hx)))).mod m2 fun x hx => hgl x (.inl (hL x hx))
  ·exact ho.mod m2 fun x hx hx2 => by
    have hx2 : x = g := by simpa using hx2
    subst hx2
    exact hgp hx
  ·have hL : ∀ x ∈ q.L, x ∈ r.flatMap ay.L := fun x hx => List.mem_flatMap.2 ⟨q, hq', hx⟩
   exact ((h.all q (by simp [hq'])).mod hm fun x hx => hap x (.inr (.inr (hL x hx)))).mod m2 fun x hx => hgl x (.inr (hL x hx))
 ·refine qC.2 ⟨hn0.1, hnd, fun x hx hx2 => ?_⟩
  rcases hf x hx with e | e
  ·exact hap x hx2 e
  ·refine hkn x (iw.2 (.inl hx2)) e
 ·refine (hm.mono fun x hx => iw.2 (.inr hx)).trans (m2.mono fun x hx => ?_)
  have : x = g := by simpa using hx
  subst this
  exact og (by rw [ha]; simp [Fw.aH])
 ·intro x hx
  rcases iw.1 hx with hx | hx
  ·exact .inl (iw.2 (.inl hx))
  ·rcases hf x hx with e | e
   ·exact .inl (iw.2 (.inr e))
   ·exact .inr e
end
section
attribute [-simp] Fw.W.bD Fw.W.bB
structure Fg (s s1 : PH) (p p' : ay) : Prop where
 md : Fw.Mod p.L s s1
 own : pI s1 p'
 nd : p'.L.Nodup
 fr : ∀ g ∈ p'.L, g ∈ p.L ∨ s g = none
theorem Has.Kw {s s1 s2 : PH} {t : aG} {ps : List ay} {i : Nat} {p p' : ay} (h : Has s t ps) (hp : ps[i]? = some p) (hw : Fg s s1 p p') (h2 : aW dQ s2 139 t.1 t.2.1 t.2.2 (ps.set i p')) (m2 : Fw.Mod (Fw.aH t.1) s1 s2) :
  Has s2 t (ps.set i p') ∧ Step (ew t ps) (ew t (ps.set i p')) s s2 := by
 obtain ⟨hm, ho, hnd, hf⟩ := hw
 have hi := (List.getElem?_eq_some_iff.1 hp).1
 obtain ⟨l, r, rfl, hl⟩ : ∃ l r, ps = l ++ p :: r ∧ l.length = i := ⟨ps.take i, ps.drop (i + 1), by rw [← bO hp, List.take_append_drop], by simp; omega⟩
 subst hl
 have hset : (l ++ p :: r).set l.length p' = l ++ p' :: r := by simp
 rw [hset] at h2 ⊢
 have hn0 := qC.1 h.nod
 have hkn := h.known
 have hap : ∀ g, (g ∈ Fw.aH t.1 ∨ g ∈ l.flatMap ay.L ∨ g ∈ r.flatMap ay.L) → g ∉ p.L := fun g hg hg2 => hn0.2.2 g hg2 hg
 have hgl : ∀ x, x ∈ l.flatMap ay.L ∨ x ∈ r.flatMap ay.L → x ∉ Fw.aH t.1 := by
  intro x hx hx2
  have := hn0.1
  rw [List.nodup_append] at this
  exact this.2.2 x hx2 x (List.mem_append.2 hx) rfl
 refine ⟨⟨h2, ?_, ?_⟩, ⟨?_, ?_⟩⟩
 ·intro q hq
  have hq' : q ∈ l ∨ q = p' ∨ q ∈ r := by simpa using hq
  rcases hq' with hq' | rfl | hq'
  ·have hL : ∀ x ∈ q.L, x ∈ l.flatMap ay.L := fun x hx => List.mem_flatMap.2 ⟨q, hq', hx⟩
   exact ((h.all q (by simp [hq'])).mod hm fun x hx => hap x (.inr (.inl (hL x hx)))).mod m2 fun x hx => hgl x (.inl (hL x hx))
  ·exact ho.mod m2 fun x hx hx2 => by
    rcases hf x hx with e | e
    ·exact hap x (.inl hx2) e
    ·exact h.row.known x hx2 e
  ·have hL : ∀ x ∈ q.L, x ∈ r.flatMap ay.L := fun x hx => List.mem_flatMap.2 ⟨q, hq', hx⟩
   exact ((h.all q (by simp [hq'])).mod hm fun x hx => hap x (.inr (.inr (hL x hx)))).mod m2 fun x hx => hgl x (.inr (hL x hx))
 ·refine qC.2 ⟨hn0.1, hnd, fun x hx hx2 => ?_⟩
  rcases hf x hx with e | e
  ·exact hap x hx2 e
  ·refine hkn x (iw.2 (.inl hx2)) e
 ·exact (hm.mono fun x hx => iw.2 (.inr hx)).trans (m2.mono fun x hx => og hx)
 ·intro x hx
  rcases iw.1 hx with hx | hx
  ·exact .inl (iw.2 (.inl hx))
  ·rcases hf x hx with e | e
   ·exact .inl (iw.2 (.inr e))
   ·exact .inr e
theorem Has.same {s s1 : PH} {t : aG} {ps : List ay} {i : Nat} {p p' : ay} (h : Has s t ps) (hp : ps[i]? = some p) (hw : Fg s s1 p p') (he : dQ.f p' = dQ.f p) :
  Has s1 t (ps.set i p') ∧ Step (ew t ps) (ew t (ps.set i p')) s s1 := by
 refine h.Kw hp hw ?_ (Mod.refl _ _)
 have hi := (List.getElem?_eq_some_iff.1 hp).1
 have hn0 := h.nod
 have hap : ∀ g ∈ Fw.aH t.1, g ∉ p.L := by
  intro g hg hg2
  simp only [ew, List.nodup_append] at hn0
  exact hn0.2.2 g hg g (List.mem_flatMap.2 ⟨p, List.mem_of_getElem? hp, hg2⟩) rfl
 have hrow := h.row.mod hw.md hap
 unfold aW at hrow ⊢
 have : (ps.set i p').flatMap dQ.f = ps.flatMap dQ.f := by
  obtain ⟨l, r, e, hl⟩ : ∃ l r, ps = l ++ p :: r ∧ l.length = i := ⟨ps.take i, ps.drop (i + 1), by rw [← bO hp, List.take_append_drop], by simp; omega⟩
  subst hl; subst e
  simp [he]
 rw [this]; exact hrow
theorem Has.store {s s1 : PH} {t : aG} {ps : List ay} {i : Nat} {p p' : ay} {K : W.T} (h : Has s t ps) (hp : ps[i]? = some p) (hw : Fg s s1 p p') {j : Nat} {vs : List Value}
  (hx' : dQ.f p' = (dQ.f p).take j ++ vs ++ (dQ.f p).drop (j + vs.length)) (hj : j + vs.length ≤ 5) (hne : vs ≠ []) {g : Nat} (ha : t.1 = some ⟨g, 0, none⟩)
  (hK : ∀ s2, Has s2 t (ps.set i p') → Step (ew t ps) (ew t (ps.set i p')) s s2 → K s2) : W.st ⟨g, i * 5 + j, none⟩ vs K s1 :=
 h.put hp hw.md hw.own hw.nd hw.fr hx' hj hne ha hK
end
section
attribute [-simp] Fw.W.bD Fw.W.bB
abbrev JA (cols : List bZ) (i : Nat) (c : bZ) : Bool := decide (aI (fun y : bZ => decide (y.name = c.name)) cols 0 = i)
theorem Jg {cols : List bZ} (h : upTo (bS (JA cols) cols) cols.length = true) : yK cols = false := by
 unfold yK; rw [h]; (first | done | rfl)
end
section
attribute [-simp] Fw.W.bD Fw.W.bB
structure aF.Bd (S : aF) : Prop where
 tabs : S.tabs.length ≤ 6
 each : ∀ T ∈ S.tabs, 1 ≤ T.cols.length ∧ T.cols.length ≤ 8 ∧ T.idxs.length ≤ 8 ∧ T.keys.length ≤ 8
 last : 0 ≤ S.last ∧ S.last ≤ 1125899906842624
section
variable {s : PH} {b : Nat} {S : aF} {t : aG} {ps : List ay} {i g : Nat} {p : ay}
end
end
section
attribute [-simp] Fw.W.bD Fw.W.bB
section
variable {s : PH} {b : Nat} {S : aF} {t : aG} {ps : List ay} {i g : Nat} {p : ay}
end
end
section
attribute [-simp] Fw.W.bD Fw.W.bB
theorem tN {b : Bool} (h : (!b) = false) : b = true := by cases b <;> simp_all
section
variable {s : PH} {b : Nat} {S : aF} {t : aG} {ps : List ay}
end
theorem sH {S : aF} (h : right S = true) : S.Bd ∧ 0 ≤ S.version ∧ S.version ≤ 1125899906842624 := by
 obtain ⟨a, b, c, d, e⟩ := ez.1 h
 unfold jr at a
 simp only [Bool.and_eq_true, decide_eq_true_eq] at a
 refine ⟨⟨b, fun T hT => ?_, a.2.2.1, a.2.2.2⟩, a.1, a.2.1⟩
 obtain ⟨i, hi⟩ := List.mem_iff_getElem?.1 hT
 obtain ⟨x1, x2, x3, x4, _⟩ := gx.1 (cm.1 d i T hi)
 exact ⟨x1, x2, x3, x4⟩
def oe (s : PH) (S' : aF) (e : Int) (y : Value) (s' : PH) : Prop :=
 ∃ t' ps', y = .tuple #[eK S' t', .int .i64 e] ∧ Has s' t' ps' ∧ S'.tabs = ps'.map (·.T) ∧ Fw.Mod [] s s' ∧ ∀ g ∈ ew t' ps', s g = none
theorem so {s s' : PH} {e : Int} (m : Fw.Mod [] s s') : oe s eF e (.tuple #[eK eF dF, .int .i64 e]) s' := ⟨dF, [], rfl, Has.nil _, rfl, m, by simp [ew, Fw.aH]⟩
end
section
attribute [-simp] Fw.W.bD Fw.W.bB
theorem grow {α : Type} {E : cG α} {e : TypeId} {bytes : Nat} {zero : List Value} {s0 s : PH} {a : Option Addr} {n c : Nat} {xs : List α} {x : α} {K : Option Addr → Nat → Nat → W.T} (h : aW E s e a n c xs) (hf : ∀ g ∈ Fw.aH a, s0 g = none) (m : Fw.Mod [] s0 s)
  (hz : zero.length = E.sz) (hl : xs.length ≤ 1099511627) (hby : bytes ≤ 100) (hK : ∀ a' c' s', aW E s' e a' (n + 1) c' (xs ++ [x]) → (∀ g ∈ Fw.aH a', s0 g = none) → Fw.Mod [] s0 s' → K a' (n + 1) c' s') :
  W.nw (.cells (E.f x).toArray e (0, 0)) (fun r => W.app e E.sz bytes zero a n c (Src.sl (some ⟨r, 0, none⟩) 1) K) s := by
 refine W.bG fun r s1 hr m1 k1 => ?_
 have hmax : maxLen = 9223372036854775807 := rfl
 have hn : n = xs.length := h.len
 have hb : (n + 1) * bytes ≤ (n + 1) * 100 := Nat.mul_le_mul_left _ hby
 refine fP (h.mod m1 (by simp)) hz (ys := [x]) (k := 1) (vG (by have := jH k1; simpa using this) rfl) rfl rfl (by omega) (by omega) ?_
 intro a' c' s2 h' hm
 refine hK a' c' s2 h' ?_ ?_
 ·rcases hm with ⟨e, _⟩ | ⟨g, e, hg, _⟩
  ·rw [e]; exact hf
  ·intro g' hg'
   rw [e] at hg'
   have : g' = g := by simpa [Fw.aH] using hg'
   subst this
   exact (m.trans m1).none hg (by simp)
 ·rcases hm with ⟨_, hm⟩ | ⟨_, _, _, hm⟩
  ·exact (m.trans m1).fresh hm fun g hg => .inr (hf g hg)
  ·exact (m.trans m1).trans hm
def IS (s : PH) (S' : aF) (y : Value) (s' : PH) : Prop :=
 ∃ t' ps', y = eK S' t' ∧ Has s' t' ps' ∧ S'.tabs = ps'.map (·.T) ∧ Fw.Mod [] s s' ∧ ∀ g ∈ ew t' ps', s g = none
theorem HQ {s : PH} {t : aG} {S : aF} {ps : List ay} (h : cX s t S ps) : ai 83 #[eK S t] s (IS s S) := by
 obtain ⟨ta, tn, tc⟩ := t
 refine Gk S.version S.last ta tn tc _ s ?_
 unfold Aj
 have htn : tn = ps.length := h.el.len
 have hfew := h.el.cF
 have hpl : S.tabs.length = ps.length := by rw [h.eq]; simp
 simp only [cE, aN, aU, bP, aE, bU, cZ, gN, bI, aQ, aP, aS, lY, pJ, lT, nt, W.az]
 refine ⟨fun z s' => ∃ (k a2 a3 : Nat) (a1 : Option Addr) (pc : List ay), z = ((S.version, S.last, (ta, tn, tc), ()), (0, 0, (none, 0, 0), ()), ((a1, a2, a3), ()), ((k : Int), ()), ()) ∧ k ≤ tn ∧ Has s' (a1, a2, a3) pc ∧ S.tabs.take k = pc.map (·.T) ∧ Fw.Mod [] s s' ∧ ∀ g ∈ ew (a1, a2, a3) pc, s g = none,
  fun z _ => tn - z.2.2.2.1.1.toNat, ⟨0, 0, 0, none, [], rfl, Nat.zero_le _, Has.nil _, rfl, Mod.refl _ _, by simp [ew, Fw.aH]⟩, ?_⟩
 rintro _ s1 ⟨k, a2, a3, a1, pc, rfl, hk, hH, he, m1, hf⟩
 simp only [W.aa, decide_eq_true_eq, decide_eq_false_iff_not]
 refine ⟨fun hlt => ?_, fun hge => ?_⟩
 ·have hlt : k < tn := by omega
  obtain ⟨p, hp⟩ : ∃ p, ps[k]? = some p := ⟨_, List.getElem?_eq_getElem (by omega)⟩
  have hT : S.tabs[k]? = some p.T := by rw [h.eq, List.getElem?_map, hp]; (first | done | rfl)
  have hS1 := h.mono m1.le
  obtain ⟨ad, had, hh⟩ := hS1.el.el.aB hp
  dsimp only at had
  subst had
  refine ⟨by omega, ?_⟩
  simp only [W.az, Int.toNat_natCast]
  refine aC hh (y := (p.T.id, p.T.name, p.c, p.x, p.k, ())) rfl ?_
  have hP := hS1.all p (get_mem hp)
  have b1 := hP.c.cF
  have b2 := hP.x.cF
  have b3 := hP.k.cF
  have l1 := hP.c.len
  have l2 := hP.x.len
  have l3 := hP.k.len
  refine mA (E := dx) (k := p.c.2.1) hP.c.el.je rfl l1.symm (by omega) (by omega) rfl ?_
  intro u1 c1 s2 r1 m2 f1
  refine mA (E := jZ) (k := p.x.2.1) (hP.mono m2.le).x.el.je rfl l2.symm (by omega) (by omega) rfl ?_
  intro u2 c2 s3 r2 m3 f2
  refine mA (E := lF) (k := p.k.2.1) (hP.mono (m2.trans m3).le).k.el.je rfl l3.symm (by omega) (by omega) rfl ?_
  intro u3 c3 s4 r3 m4 f3
  have m24 := (m2.trans m3).trans m4
  have hpcl : pc.length = k := by
   have := congrArg List.length he
   simp only [List.length_map, List.length_take] at this
   omega
  have hn1 : ∀ g ∈ Fw.aH u1 ++ (Fw.aH u2 ++ Fw.aH u3), s1 g = none := by
   intro g hg
   simp only [List.mem_append] at hg
   rcases hg with hg | hg | hg
   ·exact f1 g hg
   ·exact m2.none (f2 g hg) (by simp)
   ·exact (m2.trans m3).none (f3 g hg) (by simp)
  have hH4 := hH.mod m24 (by simp)
  refine hH4.push (p := ⟨p.T, (u1, p.c.2.1, c1), (u2, p.x.2.1, c2), (u3, p.k.2.1, c3)⟩) ⟨(r1.mod m3 (by simp)).mod m4 (by simp), r2.mod m4 (by simp), r3⟩ ?_ (fun g hg hg2 => hH.known g hg2 (hn1 g hg)) (by omega) ?_
  ·simp only [ay.L, List.nodup_append]
   refine ⟨jF _, ⟨jF _, jF _, ?_⟩, ?_⟩
   ·rintro g hg _ hg2 rfl
    exact r2.known g hg (f3 g hg2)
   ·rintro g hg _ hg2 rfl
    rcases List.mem_append.1 hg2 with hg2 | hg2
    ·exact r1.known g hg (f2 g hg2)
    ·exact (r1.mod m3 (by simp)).known g hg (f3 g hg2)
  ·intro a' c' s5 h5 st5
   rw [ak (k := k) (by omega)]
   have m14 : Fw.Mod [] s s4 := m1.trans m24
   refine ⟨⟨k + 1, a2 + 1, c', a', pc ++ [⟨p.T, (u1, p.c.2.1, c1), (u2, p.x.2.1, c2), (u3, p.k.2.1, c3)⟩], rfl, hlt, h5, ?_, ?_, ?_⟩, by simp only [Int.toNat_natCast]; omega⟩
   ·rw [List.take_add_one, hT, he]; simp
   ·refine m14.fresh st5.mod fun x hx => ?_
    rcases List.mem_append.1 hx with hx | hx
    ·exact .inr (hf x hx)
    ·exact .inr (m1.none (hn1 x hx) (by simp))
   ·intro g hg
    rcases st5.new g hg with e | e
    ·rcases List.mem_append.1 e with e | e
     ·exact hf g e
     ·exact m1.none (hn1 g e) (by simp)
    ·exact m14.none e (by simp)
 ·have hall : S.tabs.take k = S.tabs := List.take_of_length_le (by omega)
  rw [hall] at he
  exact ⟨(a1, a2, a3), pc, rfl, hH, he, m1, hf⟩
def Fb (r : gJ) (L : List Nat) (s : PH) (y : Value) (s' : PH) : Prop := match r with
 | .error e => (∃ S'' t'', y = .tuple #[eK S'' t'', .int .i64 e]) ∧ Fw.Mod L s s'
 | .ok S' => ∃ t' ps', y = .tuple #[eK S' t', .int .i64 0] ∧ Has s' t' ps' ∧ S'.tabs = ps'.map (·.T) ∧ Step L (ew t' ps') s s'
theorem Dx {s : PH} {t : aG} {S : aF} {ps : List ay} (hH : Has s t ps) (he : S.tabs = ps.map (·.T)) (hb : S.Bd) (D : nk) {u : aG} (hu : Sl dx s u D.cols) (hul : D.cols.length ≤ 1073741824) (st : Int) :
  ai 84 #[eK S t, FL D u, .int .i64 st] s (Fb (ct S D st) (ew t ps) s) := by
 obtain ⟨ta, tn, tc⟩ := t
 obtain ⟨ua, un, uc⟩ := u
 refine Cx S.version S.last ta tn tc D.kind D.table D.name D.column D.parent D.unique D.type D.dflt.kind D.dflt.n D.dflt.s ua un uc st _ s ?_
 unfold uC
 have hun : un = D.cols.length := hu.len
 have htn : tn = ps.length := hH.row.len
 have hpl : S.tabs.length = ps.length := by rw [he]; simp
 obtain ⟨R, hR⟩ : ∃ R, Fb (ct S D st) (ew (ta, tn, tc) ps) s = R := ⟨_, rfl⟩
 have hret : ∀ {e : Int} {s'}, ct S D st = .error e → Fw.Mod [] s s' → R (.tuple #[eK S (ta, tn, tc), .int .i64 e]) s' := fun e1 m => by
  rw [← hR, e1]; exact ⟨⟨S, (ta, tn, tc), rfl⟩, m.mono (by simp)⟩
 rw [hR]
 have hlast := hb.last
 have hSch : cX s (ta, tn, tc) S ps := hH.is he (by have := hb.tabs; omega) (fun T hT => by obtain ⟨_, a, b, c⟩ := hb.each T hT; exact ⟨by omega, by omega, by omega⟩)
 simp only [cE, aN, aU, bP, aE, bU, cZ, gN, bI, aQ, aP, aS, lY, pJ, lT, nt, W.az]
 refine aL ((named D.table, ()), ()) (kF D.table s) rfl ?_
 simp only [W.aa]
 have hbad1 : ¬ (named D.table = true ∧ ∀ c ∈ D.cols, named c.name = true) → ct S D st = .error 100 := by
  intro e
  unfold ct
  rw [if_pos]
  cases hN : (named D.table && D.cols.all fun c => named c.name)
  ·rfl
  ·simp only [Bool.and_eq_true, List.all_eq_true] at hN
   exact absurd hN e
 refine ⟨fun hN => hret (hbad1 fun e => by rw [e.1] at hN; cases hN) (Mod.refl _ _), fun hN => ?_⟩
 have hN : named D.table = true := tN hN
 refine ⟨fun z s' => ∃ k : Nat, z = ((S.version, S.last, (ta, tn, tc), ()), (D.kind, D.table, D.name, D.column, D.parent, D.unique, D.type, D.dflt.kind, D.dflt.n, D.dflt.s, (ua, un, uc), ()), (0, 0, (none, 0, 0), ()), ((k : Int), ()), ()) ∧ k ≤ un ∧ s' = s ∧ ∀ c ∈ D.cols.take k, named c.name = true,
  fun z _ => un - z.2.2.2.1.1.toNat, ⟨0, rfl, Nat.zero_le _, rfl, by simp⟩, ?_⟩
 rintro _ s0 ⟨k, rfl, hk, rfl, hnames⟩
 simp only [W.aa, decide_eq_true_eq, decide_eq_false_iff_not]
 refine ⟨fun hlt => ?_, fun hge => ?_⟩
 ·have hlt : k < un := by omega
  obtain ⟨x, hx⟩ : ∃ x, D.cols[k]? = some x := ⟨_, List.getElem?_eq_getElem (by omega)⟩
  obtain ⟨ad, had, hh⟩ := hu.el.aB hx
  dsimp only at had
  subst had
  refine ⟨by omega, ?_⟩
  simp only [W.az, Int.toNat_natCast]
  refine bz (j := 1) hh (cs := [.str]) (y := (x.name, ())) rfl ?_
  refine aL ((named x.name, ()), ()) (kF x.name _) rfl ?_
  simp only [W.aa]
  refine ⟨fun h1 => hret (hbad1 fun e => by rw [e.2 x (List.mem_of_getElem? hx)] at h1; cases h1) (Mod.refl _ _), fun h1 => ?_⟩
  rw [ak (k := k) (by omega)]
  refine ⟨⟨k + 1, rfl, hlt, by trivial, ?_⟩, by simp only [Int.toNat_natCast]; omega⟩
  intro c hc
  rw [List.take_add_one, hx] at hc
  rcases List.mem_append.1 hc with hc | hc
  ·exact hnames c hc
  ·have : c = x := by simpa using hc
   rw [this]; exact tN h1
 have hall : D.cols.take k = D.cols := List.take_of_length_le (by omega)
 rw [hall] at hnames
 have hok1 : ¬ (named D.table && D.cols.all fun c => named c.name) = false := by
  have : (named D.table && D.cols.all fun c => named c.name) = true := by simp only [Bool.and_eq_true, List.all_eq_true]; exact ⟨hN, hnames⟩
  rw [this]; simp
 refine aL ((ff S D.table, ()), ()) (ou (t := (ta, tn, tc)) hSch D.table) rfl ?_
 simp only [W.aa, decide_eq_true_eq, decide_eq_false_iff_not]
 have hbad2 : ¬ (ff S D.table < 0 ∧ yK D.cols = false) → ct S D st = .error 152 := by
  intro e
  unfold ct
  rw [if_neg hok1, if_pos]
  cases hd : yK D.cols
  ·simp only [Bool.or_false, decide_eq_true_eq]
   have : ¬ ff S D.table < 0 := fun e2 => e ⟨e2, hd⟩
   omega
  ·simp
 refine ⟨fun h1 => hret (hbad2 fun e => by omega) (Mod.refl _ _), fun h1 => ?_⟩
 have hwl : i64.wrap (S.last + 1) = S.last + 1 := bW (by omega) (by omega)
 rw [hwl]
 refine ⟨fun z s' => ∃ k : Nat, z = ((S.version, S.last, (ta, tn, tc), ()), (D.kind, D.table, D.name, D.column, D.parent, D.unique, D.type, D.dflt.kind, D.dflt.n, D.dflt.s, (ua, un, uc), ()), (0, 0, (none, 0, 0), ()), (S.last + 1, D.table, (ua, un, uc), (none, 0, 0), (none, 0, 0), ()), ((k : Int), ()), ()) ∧ k ≤ un ∧ s' = s0 ∧ upTo (bS (JA D.cols) D.cols) k = true,
  fun z _ => un - z.2.2.2.2.1.1.toNat, ⟨0, rfl, Nat.zero_le _, rfl, rfl⟩, ?_⟩
 rintro _ s1 ⟨k, rfl, hk, rfl, hone⟩
 simp only [W.aa, decide_eq_true_eq, decide_eq_false_iff_not]
 refine ⟨fun hlt => ?_, fun hge => ?_⟩
 ·have hlt : k < un := by omega
  obtain ⟨x, hx⟩ : ∃ x, D.cols[k]? = some x := ⟨_, List.getElem?_eq_getElem (by omega)⟩
  obtain ⟨ad, had, hh⟩ := hu.el.aB hx
  dsimp only at had
  subst had
  refine ⟨by omega, ?_⟩
  simp only [W.az, Int.toNat_natCast]
  refine bz (j := 1) hh (cs := [.str]) (y := (x.name, ())) rfl ?_
  refine W.bX ((fF ⟨S.last + 1, D.table, D.cols, [], []⟩ x.name, ()), ()) (qZ (p := ⟨⟨S.last + 1, D.table, D.cols, [], []⟩, (some ad, un, uc), dF, dF⟩) hu x.name) rfl ?_
  simp only [W.aa]
  have hk' : D.cols.length = un := hun.symm
  refine ⟨fun h2 => hret (hbad2 fun e => ?_) (Mod.refl _ _), fun h2 => ?_⟩
  ·have h2 : fF ⟨S.last + 1, D.table, D.cols, [], []⟩ x.name ≠ (k : Int) := by simpa using h2
   have e2 := e.2
   unfold yK at e2
   have e2 := oT.1 (tN e2) k (by omega)
   rw [dg hx] at e2
   exact h2 (by unfold fF; simpa using e2)
  ·have h2 : fF ⟨S.last + 1, D.table, D.cols, [], []⟩ x.name = (k : Int) := by simpa using h2
   rw [ak (k := k) (by omega)]
   refine ⟨⟨k + 1, rfl, hlt, by trivial, ?_⟩, by simp only [Int.toNat_natCast]; omega⟩
   rw [eB, hone, dg hx, Bool.true_and]
   exact decide_eq_true h2
 have hke : k = D.cols.length := by omega
 subst hke
 have hdbl := Jg hone
 have hok2 : ¬ (decide (0 ≤ ff S D.table) || yK D.cols) = true := by
  rw [hdbl, Bool.or_false, decide_eq_true_eq]; omega
 have hbad3 : (6 ≤ S.tabs.length ∨ D.cols.length < 1 ∨ 8 < D.cols.length) → ct S D st = .error 156 := fun e => by
  unfold ct; rw [if_neg hok1, if_neg hok2, if_pos (by simp only [Bool.or_eq_true, decide_eq_true_eq]; exact e)]
 refine W.bl (fun z s' => z = ((S.version, S.last, (ta, tn, tc), ()), (D.kind, D.table, D.name, D.column, D.parent, D.unique, D.type, D.dflt.kind, D.dflt.n, D.dflt.s, (ua, un, uc), ()), (0, 0, (none, 0, 0), ()), (S.last + 1, D.table, (ua, un, uc), (none, 0, 0), (none, 0, 0), ()), ()) ∧ s' = s1 ∧ ¬ (6 ≤ S.tabs.length ∨ D.cols.length < 1 ∨ 8 < D.cols.length)) ?_ ?_
 rotate_left
 ·intro J hJ
  simp only [W.aa, decide_eq_true_eq, decide_eq_false_iff_not]
  refine ⟨fun h2 => hret (hbad3 (by omega)) (Mod.refl _ _), fun h2 => ⟨fun h3 => hret (hbad3 ?_) (Mod.refl _ _), fun h3 => ⟨fun h4 => hret (hbad3 (by omega)) (Mod.refl _ _), fun h4 => hJ _ _ ⟨rfl, rfl, ?_⟩⟩⟩⟩
  ·have h3 : (un : Int) = 0 := by simpa using h3
   omega
  ·have h3 : (un : Int) ≠ 0 := by simpa using h3
   omega
 rintro _ s2 ⟨rfl, rfl, hnum⟩
 have hok3 : ¬ (decide (6 ≤ S.tabs.length) || (decide (D.cols.length < 1) || decide (8 < D.cols.length))) = true := by
  simp only [Bool.or_eq_true, decide_eq_true_eq]; exact hnum
 have hbad4 : ¬ (∀ c ∈ D.cols, typed c.kind = true) → ct S D st = .error 154 := by
  intro e
  unfold ct
  rw [if_neg hok1, if_neg hok2, if_neg hok3, if_pos]
  cases hN : (D.cols.all fun c => typed c.kind)
  ·rfl
  ·simp only [List.all_eq_true] at hN
   exact absurd hN e
 refine ⟨fun z s' => ∃ (k n c : Nat) (a : Option Addr), z = ((S.version, S.last, (ta, tn, tc), ()), (D.kind, D.table, D.name, D.column, D.parent, D.unique, D.type, D.dflt.kind, D.dflt.n, D.dflt.s, (ua, un, uc), ()), (0, 0, (none, 0, 0), ()), (S.last + 1, D.table, (a, n, c), (none, 0, 0), (none, 0, 0), ()), ((k : Int), ()), ()) ∧ k ≤ un ∧
  aW dx s' 165 a n c (eH (S.last + 2) (D.cols.take k)) ∧ (∀ g ∈ Fw.aH a, s2 g = none) ∧ Fw.Mod [] s2 s' ∧ ∀ c ∈ D.cols.take k, typed c.kind = true, fun z _ => un - z.2.2.2.2.1.1.toNat, ⟨0, 0, 0, none, rfl, Nat.zero_le _, aW.nil, by simp [Fw.aH], Mod.refl _ _, by simp⟩, ?_⟩
 rintro _ s3 ⟨k, n, c, a, rfl, hk, hrow, hfr, m3, htyp⟩
 simp only [W.aa, decide_eq_true_eq, decide_eq_false_iff_not]
 refine ⟨fun hlt => ?_, fun hge => ?_⟩
 ·have hlt : k < un := by omega
  obtain ⟨x, hx⟩ : ∃ x, D.cols[k]? = some x := ⟨_, List.getElem?_eq_getElem (by omega)⟩
  have hu3 := hu.mono m3.le
  obtain ⟨ad, had, hh⟩ := hu3.el.aB hx
  dsimp only at had
  subst had
  have hn : n = k := by have := hrow.len; rw [lO, List.length_take] at this; omega
  refine ⟨by omega, ?_⟩
  simp only [W.az, Int.toNat_natCast]
  refine bz (j := 2) hh (cs := [.int .i64]) (y := (x.kind, ())) rfl ?_
  refine aL ((typed x.kind, ()), ()) (rV x.kind _) rfl ?_
  simp only [W.aa]
  refine ⟨fun h1 => hret (hbad4 fun e => by rw [e x (List.mem_of_getElem? hx)] at h1; cases h1) m3, fun h1 => ?_⟩
  refine ⟨by omega, ?_⟩
  simp only [W.az, Int.toNat_natCast]
  refine bz (j := 1) hh (cs := [.str]) (y := (x.name, ())) rfl ?_
  refine ⟨by omega, ?_⟩
  simp only [W.az, Int.toNat_natCast]
  refine bz (j := 2) hh (cs := [.int .i64]) (y := (x.kind, ())) rfl ?_
  have hid : i64.wrap (i64.wrap (S.last + 2) + (k : Int)) = S.last + 2 + k := by
   rw [bW (n := S.last + 2) (by omega) (by omega), bW (by omega) (by omega)]
  rw [hid]
  refine grow (E := dx) (x := ⟨S.last + 2 + k, x.name, x.kind, 3, ⟨0, 0, ⟨#[]⟩⟩⟩) hrow hfr m3 rfl (by rw [lO, List.length_take]; omega) (by omega) ?_
  intro a' c' s4 h4 f4 m4
  rw [ak (k := k) (by omega)]
  have hsnoc : eH (S.last + 2) (D.cols.take (k + 1)) = eH (S.last + 2) (D.cols.take k) ++ [⟨S.last + 2 + k, x.name, x.kind, 3, ⟨0, 0, ⟨#[]⟩⟩⟩] := by
   have : D.cols.take (k + 1) = D.cols.take k ++ [x] := by rw [List.take_add_one, hx]; (first | done | rfl)
   rw [this, q8, List.length_take, Nat.min_eq_left (by omega)]
  refine ⟨⟨k + 1, n + 1, c', a', rfl, hlt, by rw [hsnoc]; exact h4, f4, m4, ?_⟩, by simp only [Int.toNat_natCast]; omega⟩
  intro c hc
  rw [List.take_add_one, hx] at hc
  rcases List.mem_append.1 hc with hc | hc
  ·exact htyp c hc
  ·have : c = x := by simpa using hc
   rw [this]; exact tN h1
 have hall : D.cols.take k = D.cols := List.take_of_length_le (by omega)
 rw [hall] at hrow htyp
 have hok4 : ¬ (D.cols.all fun c => typed c.kind) = false := by
  have : (D.cols.all fun c => typed c.kind) = true := by simp only [List.all_eq_true]; exact htyp
  rw [this]; simp
 refine ⟨fun h5 => hret (by unfold ct; rw [if_neg hok1, if_neg hok2, if_neg hok3, if_neg hok4, if_pos (by simpa using h5)]) m3, fun h5 => ?_⟩
 have hTurn : ct S D st = .ok ⟨S.version, S.last + 1 + D.cols.length, S.tabs ++ [⟨S.last + 1, D.table, eH (S.last + 2) D.cols, [], []⟩]⟩ := by
  unfold ct; rw [if_neg hok1, if_neg hok2, if_neg hok3, if_neg hok4, if_neg (by simpa using h5)]
 have hH3 := hH.mod m3 (by simp)
 have hL1 : ∀ g ∈ (ay.mk ⟨S.last + 1, D.table, eH (S.last + 2) D.cols, [], []⟩ (a, n, c) dF dF).L, s2 g = none := by
  intro g hg
  refine hfr g ?_
  simpa [ay.L, Fw.aH] using hg
 refine hH3.push (p := ⟨⟨S.last + 1, D.table, eH (S.last + 2) D.cols, [], []⟩, (a, n, c), dF, dF⟩) ⟨hrow, aW.nil, aW.nil⟩ (by simpa [ay.L, Fw.aH] using jF a) (fun g hg hg2 => hH.known g hg2 (hL1 g hg)) (by have := hb.tabs; omega) ?_
 intro a' c' s5 h5 st5
 rw [← hR, hTurn]
 have hw2 : i64.wrap (S.last + 1 + (un : Int)) = S.last + 1 + D.cols.length := by rw [bW (by omega) (by omega), hun]
 rw [hwl, hw2]
 refine ⟨(a', tn + 1, c'), _, rfl, h5, by simp [he], ⟨?_, ?_⟩⟩
 ·refine (m3.mono (by simp)).fresh st5.mod fun x hx => ?_
  rcases List.mem_append.1 hx with hx | hx
  ·exact .inl hx
  ·exact .inr (hL1 x hx)
 ·intro x hx
  rcases st5.new x hx with e | e
  ·rcases List.mem_append.1 e with e | e
   ·exact .inl e
   ·exact .inr (hL1 x e)
  ·exact .inr (m3.none e (by simp))
end
section
attribute [-simp] Fw.W.bD Fw.W.bB
structure aF.Sn (S : aF) : Prop where
 c : ∀ T ∈ S.tabs, ∀ x ∈ T.cols, x.state ≠ 0
 x : ∀ T ∈ S.tabs, ∀ x ∈ T.idxs, x.state ≠ 0
 k : ∀ T ∈ S.tabs, ∀ x ∈ T.keys, x.state ≠ 0
def pos (k : Nat) (st : Int) (j : Nat) : Nat := if st = 0 ∧ k < j then j - 1 else j
theorem CO {α : Type} {l : List α} {k : Nat} {st : Int} {x' : α} : (lp l k st x').length ≤ l.length := by
 unfold lp; split
 ·rw [List.length_eraseIdx]; split <;> omega
 ·rw [List.length_set]; exact Nat.le_refl _
section
variable {s : PH} {S : aF} {t : aG} {ps : List ay} {i : Nat} {p : ay}
end
end
section
attribute [-simp] Fw.W.bD Fw.W.bB
theorem qp {n : Int} (h : dI n = true) : n ≠ 0 := by
 unfold dI at h
 simp only [Bool.and_eq_true, decide_eq_true_eq] at h
 omega
theorem GK {S : aF} (h : right S = true) : S.Sn := by
 obtain ⟨a, b, c, d, e⟩ := ez.1 h
 refine ⟨fun T hT x hx => ?_, fun T hT x hx => ?_, fun T hT x hx => ?_⟩
 all_goals
  obtain ⟨i, hi⟩ := List.mem_iff_getElem?.1 hT
  obtain ⟨_, _, _, _, _, _, _, _, c1, c2, c3⟩ := gx.1 (cm.1 d i T hi)
  obtain ⟨j, hj⟩ := List.mem_iff_getElem?.1 hx
 ·have := cm.1 c1 j x hj
  unfold fR at this
  simp only [Bool.and_eq_true] at this
  exact qp this.1
 ·have := cm.1 c2 j x hj
  unfold iF at this
  simp only [Bool.and_eq_true] at this
  exact qp this.1
 ·have := cm.1 c3 j x hj
  unfold gT at this
  simp only [Bool.and_eq_true] at this
  exact qp this.1
def gJ.out (r : gJ) : aF × Int := match r with
 | .error e => (eF, e)
 | .ok S' => (S', 0)
theorem EB {s s1 s2 : PH} {L : List Nat} {r : gJ} {y : Value} (ho : Fb r L s1 y s2) (m1 : Fw.Mod [] s s1) (hf : ∀ g ∈ L, s g = none) (her : r.jO) {r' : aF × Int} (hr : r' = r.out) {K : W.T}
  {k : bN [(true, [.int .i64, .int .i64, .slice]), (false, [.int .i64])] → W.T}
  (hk0 : ∀ (S'' : aF) (t'' : aG) (e : Int), e ≠ 0 → oe s eF e (.tuple #[eK eF dF, .int .i64 e]) s2 → r' = (eF, e) → k ((S''.version, S''.last, t'', ()), (e, ()), ()) s2)
  (hk1 : ∀ (S' : aF) (t' : aG), oe s S' 0 (.tuple #[eK S' t', .int .i64 0]) s2 → r' = (S', 0) → k ((S'.version, S'.last, t', ()), (0, ()), ()) s2) :
  ∃ x, gp (true, [(true, [.int .i64, .int .i64, .slice]), (false, [.int .i64])]) x = y ∧ k x s2 := by
 cases r with
 | error e =>
  obtain ⟨⟨S'', t'', rfl⟩, m2⟩ := ho
  refine ⟨((S''.version, S''.last, t'', ()), (e, ()), ()), rfl, hk0 S'' t'' e (her e rfl) (so (m1.fresh m2 fun g hg => .inr (hf g hg))) hr⟩
 | ok S' =>
  obtain ⟨t', ps', rfl, hH, he, st⟩ := ho
  refine ⟨((S'.version, S'.last, t', ()), (0, ()), ()), rfl, hk1 S' t' ⟨t', ps', rfl, hH, he, m1.fresh st.mod fun g hg => .inr (hf g hg), fun g hg => ?_⟩ hr⟩
  rcases st.new g hg with e | e
  ·exact hf g e
  ·exact m1.none e (by simp)
end
section
theorem jD {t : ByteArray} (h : named t = true) : t.size ≤ 281474976710656 := by
 unfold named at h
 simp only [Bool.and_eq_true, decide_eq_true_eq] at h
 omega
theorem GX {v : aR} (h : bC v = true) : v.s.size ≤ 281474976710656 := by
 unfold bC at h
 split at h
 ·simp only [Bool.and_eq_true, decide_eq_true_eq] at h
  rw [h.2]; exact Nat.zero_le _
 ·split at h
  ·simp only [decide_eq_true_eq] at h
   rw [h]; exact Nat.zero_le _
  ·split at h
   ·simp only [Bool.and_eq_true, decide_eq_true_eq] at h
    omega
   ·cases h
theorem Bb {v : aR} {k : Int} (h : fits v k = true) : v.s.size ≤ 281474976710656 := by
 unfold fits at h
 simp only [Bool.and_eq_true] at h
 exact GX h.1
theorem sj {t : ByteArray} {n : Int} (h : ¬ (k9 t n ≠ 0)) : t.size ≤ 281474976710656 := by
 refine jD ?_
 cases hn : named t
 ·exact absurd (by unfold k9; rw [if_pos hn]; decide) h
 ·rfl
theorem oL {α : Type} {l : List α} {k : Nat} {st : Int} {x' y : α} (h : y ∈ lp l k st x') : y ∈ l ∨ y = x' := by
 unfold lp at h
 split at h
 ·exact .inl (List.mem_of_mem_eraseIdx h)
 ·exact List.mem_or_eq_of_mem_set h
theorem qi {α : Type} {l : List α} {k : Nat} {st : Int} {x' : α} : (lp l k st x').length ≤ l.length := CO
theorem EV {α : Type} {f : α → Nat} {b : Nat} : ∀ (l : List α), (∀ x ∈ l, f x ≤ b) → (l.map f).sum ≤ l.length * b
 | [], _ => by simp
 | x :: l, h => by
  have h1 := h x (by simp)
  have h2 := EV l fun y hy => h y (by simp [hy])
  simp only [List.map_cons, List.sum_cons, List.length_cons, Nat.succ_mul]
  omega
theorem Hr {S : aF} (h : ∀ T ∈ S.tabs, T.Sm ∧ T.cost ≤ 28) (hl : S.tabs.length ≤ 10) : S.Sm := by
 refine ⟨fun T hT => (h T hT).1, ?_⟩
 have := EV (f := aO.cost) (b := 28) S.tabs fun T hT => (h T hT).2
 unfold aF.cost
 omega
theorem GJ {S : aF} (h : right S = true) : ∀ T ∈ S.tabs, T.Sm ∧ T.cost ≤ 25 ∧ T.cols.length ≤ 8 ∧ T.idxs.length ≤ 8 ∧ T.keys.length ≤ 8 := by
 obtain ⟨a, b, c, d, e⟩ := ez.1 h
 intro T hT
 obtain ⟨i, hi⟩ := List.mem_iff_getElem?.1 hT
 obtain ⟨l1, l2, l3, l4, n1, n2, n3, _, c1, _, _⟩ := gx.1 (cm.1 d i T hi)
 have hn := cm.1 c i T hi
 unfold dD at hn
 simp only [Bool.and_eq_true] at hn
 refine ⟨⟨jD hn.1, fun x hx => ?_, fun x hx => ?_, fun x hx => ?_⟩, by unfold aO.cost; omega, l2, l3, l4⟩
 ·obtain ⟨j, hj⟩ := List.mem_iff_getElem?.1 hx
  have g1 := cm.1 n1 j x hj
  have g2 := cm.1 c1 j x hj
  unfold eo at g1
  unfold fR at g2
  simp only [Bool.and_eq_true] at g1 g2
  exact ⟨jD g1.1, Bb g2.2.2⟩
 ·obtain ⟨j, hj⟩ := List.mem_iff_getElem?.1 hx
  have g1 := cm.1 n2 j x hj
  unfold eE at g1
  simp only [Bool.and_eq_true] at g1
  exact jD g1.1
 ·obtain ⟨j, hj⟩ := List.mem_iff_getElem?.1 hx
  have g1 := cm.1 n3 j x hj
  unfold eD at g1
  simp only [Bool.and_eq_true] at g1
  exact jD g1.1
theorem wj : ∀ (l : List bZ) (n : Int), (∀ c ∈ l, c.name.size ≤ 281474976710656) → ∀ c ∈ eH n l, c.Sm
 | [], n, _ => by simp [eH]
 | d :: l, n, h => by
  intro c hc
  simp only [eH, List.mem_cons] at hc
  rcases hc with rfl | hc
  ·exact ⟨h d (by simp), Nat.zero_le _⟩
  ·exact wj l _ (fun x hx => h x (by simp [hx])) c hc
def gJ.uR (r : gJ) : Prop := ∀ S', r = .ok S' → S'.Sm
theorem bV {c : Prop} [Decidable c] {a b : gJ} (ha : c → a.uR) (hb : ¬ c → b.uR) : gJ.uR (if c then a else b) := by
 by_cases h : c
 ·rw [if_pos h]; exact ha h
 ·rw [if_neg h]; exact hb h
theorem cN {e : Int} : gJ.uR (.error e) := fun S' h' => by cases h'
theorem oQ {S : aF} (h : S.Sm) : gJ.uR (.ok S) := fun e' h' => by cases h'; exact h
theorem nP {S : aF} {v l : Int} {i : Nat} {T T' : aO} (h : ∀ T ∈ S.tabs, T.Sm ∧ T.cost ≤ 25 ∧ T.cols.length ≤ 8 ∧ T.idxs.length ≤ 8 ∧ T.keys.length ≤ 8) (hl : S.tabs.length ≤ 6) (h1 : T'.Sm) (h2 : T'.cost ≤ 28) : aF.Sm ⟨v, l, S.tabs.set i T'⟩ := by
 refine Hr (fun U hU => ?_) (by simp; omega)
 rcases List.mem_or_eq_of_mem_set hU with hU | rfl
 ·obtain ⟨a, b, _⟩ := h U hU; exact ⟨a, by omega⟩
 ·exact ⟨h1, h2⟩
theorem GU {S : aF} {D : nk} {st : Int} (h : ∀ T ∈ S.tabs, T.Sm ∧ T.cost ≤ 25 ∧ T.cols.length ≤ 8 ∧ T.idxs.length ≤ 8 ∧ T.keys.length ≤ 8) (hl : S.tabs.length ≤ 6) : (kX S D st).uR := by
 unfold kX
 refine bV (fun _ => ?_) fun _ => bV (fun _ => cN) fun _ => ?_
 ·unfold ct
  refine bV (fun _ => cN) fun hn => bV (fun _ => cN) fun _ => bV (fun _ => cN) fun h8 => bV (fun _ => cN) fun _ => bV (fun _ => cN) fun _ => oQ ?_
  have hn : (named D.table && D.cols.all fun c => named c.name) = true := by
   cases e : (named D.table && D.cols.all fun c => named c.name)
   ·exact absurd e hn
   ·rfl
  simp only [Bool.and_eq_true, List.all_eq_true] at hn
  simp only [Bool.or_eq_true, decide_eq_true_eq] at h8
  refine Hr (fun U hU => ?_) (by simp; omega)
  rcases List.mem_append.1 hU with hU | hU
  ·obtain ⟨a, b, _⟩ := h U hU; exact ⟨a, by omega⟩
  ·have : U = ⟨S.last + 1, D.table, eH (S.last + 2) D.cols, [], []⟩ := by simpa using hU
   subst this
   refine ⟨⟨jD hn.1, wj _ _ fun c hc => jD (hn.2 c hc), by simp, by simp⟩, ?_⟩
   unfold aO.cost
   simp only [lO, List.length_nil]
   omega
 split
 ·exact cN
 rename_i T hT
 obtain ⟨hTs, hTc, c8, x8, k8⟩ := h T (List.mem_of_getElem? hT)
 refine bV (fun _ => ?_) fun _ => bV (fun _ => ?_) fun _ => ?_
 ·unfold qF
  refine bV (fun _ => bV (fun _ => cN) fun hf => bV (fun _ => cN) fun hk => bV (fun _ => cN) fun _ => oQ ?_) fun _ => bV (fun _ => cN) fun _ => ?_
  ·have hk : (typed D.type && fits D.dflt D.type) = true := by
    cases e : (typed D.type && fits D.dflt D.type)
    ·exact absurd e hk
    ·rfl
   simp only [Bool.and_eq_true] at hk
   refine nP (T := T) h hl ⟨hTs.name, fun x hx => ?_, hTs.idxs, hTs.keys⟩ (by unfold aO.cost; simp only [List.length_append, List.length_singleton]; omega)
   rcases List.mem_append.1 hx with hx | hx
   ·exact hTs.cols x hx
   ·have : x = ⟨S.last + 1, D.column, D.type, st, D.dflt⟩ := by simpa using hx
    subst this
    exact ⟨sj hf, Bb hk.2⟩
  ·split
   ·exact cN
   rename_i x hx
   refine bV (fun _ => cN) fun _ => bV (fun _ => cN) fun _ => oQ ?_
   have hp := qi (l := T.cols) (k := (fF T D.column).toNat) (st := st) (x' := x.put st)
   refine nP (T := T) h hl ⟨hTs.name, fun y hy => ?_, hTs.idxs, hTs.keys⟩ (by unfold aO.cost; dsimp only; omega)
   rcases oL hy with hy | rfl
   ·exact hTs.cols y hy
   ·exact hTs.cols x (List.mem_of_getElem? hx)
 ·unfold qI
  refine bV (fun _ => bV (fun _ => cN) fun hf => bV (fun _ => cN) fun hk => bV (fun _ => cN) fun _ => ?_) fun _ => bV (fun _ => cN) fun _ => ?_
  ·split
   ·exact cN
   rename_i c hc
   refine oQ (nP (T := T) h hl ⟨hTs.name, hTs.cols, fun x hx => ?_, hTs.keys⟩ (by unfold aO.cost; simp only [List.length_append, List.length_singleton]; omega))
   rcases List.mem_append.1 hx with hx | hx
   ·exact hTs.idxs x hx
   ·have : x = ⟨S.last + 1, D.name, c.id, D.unique, st⟩ := by simpa using hx
    subst this
    exact sj hf
  ·split
   ·exact cN
   rename_i x hx
   refine bV (fun _ => cN) fun _ => oQ ?_
   have hp := qi (l := T.idxs) (k := (jY T D.name).toNat) (st := st) (x' := x.put st)
   refine nP (T := T) h hl ⟨hTs.name, hTs.cols, fun y hy => ?_, hTs.keys⟩ (by unfold aO.cost; dsimp only; omega)
   rcases oL hy with hy | rfl
   ·exact hTs.idxs y hy
   ·exact hTs.idxs x (List.mem_of_getElem? hx)
 ·unfold qL
  refine bV (fun _ => bV (fun _ => cN) fun hf => bV (fun _ => cN) fun hk => bV (fun _ => cN) fun _ => ?_) fun _ => bV (fun _ => cN) fun _ => ?_
  ·split
   ·rename_i c P hc hP
    split
    ·exact cN
    ·refine bV (fun _ => cN) fun _ => bV (fun _ => cN) fun _ => oQ (nP (T := T) h hl ⟨hTs.name, hTs.cols, hTs.idxs, fun x hx => ?_⟩ (by unfold aO.cost; simp only [List.length_append, List.length_singleton]; omega))
     rcases List.mem_append.1 hx with hx | hx
     ·exact hTs.keys x hx
     ·have : x = ⟨S.last + 1, D.name, c.id, P.id, st⟩ := by simpa using hx
      subst this
      exact sj hf
   ·exact cN
  ·split
   ·exact cN
   rename_i x hx
   refine bV (fun _ => cN) fun _ => oQ ?_
   have hp := qi (l := T.keys) (k := (jv T D.name).toNat) (st := st) (x' := x.put st)
   refine nP (T := T) h hl ⟨hTs.name, hTs.cols, hTs.idxs, fun y hy => ?_⟩ (by unfold aO.cost; dsimp only; omega)
   rcases oL hy with hy | rfl
   ·exact hTs.keys y hy
   ·exact hTs.keys x (List.mem_of_getElem? hx)
theorem Ci : eF.Sm := ⟨by simp, by simp [aF.cost]⟩
theorem IK (S : aF) (D : nk) (st : Int) : (S.kP D st).1.Sm := by
 unfold aF.kP
 by_cases hr : (right S && (decide (0 ≤ st) && decide (st ≤ 3))) = false
 ·rw [if_pos hr]; exact Ci
 rw [if_neg hr]
 have hr : right S = true := by
  cases e : right S
  ·rw [e] at hr; exact absurd rfl hr
  ·rfl
 split
 ·exact Ci
 ·have := GU (S := { S with version := S.version + 1 }) (D := D) (st := st) (fun T hT => GJ hr T hT) (ez.1 hr).2.1
  cases e : kX { S with version := S.version + 1 } D st with
  | error e => exact Ci
  | ok S' => exact this S' e
theorem aF.Sm.cF {S : aF} (h : S.Sm) : S.tabs.length ≤ 4294967296 ∧ ∀ T ∈ S.tabs, T.G2 := by
 have hc := h.cost
 unfold aF.cost at hc
 have key : ∀ l : List aO, l.length ≤ (l.map aO.cost).sum ∧ ∀ T ∈ l, T.cost ≤ (l.map aO.cost).sum := by
  intro l
  induction l with
  | nil => simp
  | cons a l ih =>
   simp only [List.map_cons, List.sum_cons, List.length_cons]
   have ha : 1 ≤ a.cost := by unfold aO.cost; omega
   refine ⟨by have := ih.1; omega, fun T hT => ?_⟩
   rcases List.mem_cons.1 hT with rfl | hT
   ·omega
   ·have := ih.2 T hT; omega
 obtain ⟨k1, k2⟩ := key S.tabs
 refine ⟨by omega, fun T hT => ?_⟩
 have := k2 T hT
 have hT2 : T.cost = 1 + T.cols.length + T.idxs.length + T.keys.length := rfl
 exact ⟨by omega, by omega, by omega⟩
theorem Has.sm {s : PH} {t : aG} {ps : List ay} {S : aF} (h : Has s t ps) (he : S.tabs = ps.map (·.T)) (hs : S.Sm) : cX s t S ps := h.is he hs.cF.1 hs.cF.2
end
section
attribute [-simp] Fw.W.bD Fw.W.bB
def mU : Rd aR := (Rd.pair (Rd.int .i64) (Rd.pair (Rd.int .i64) (Rd.pair Rd.str Rd.unit))).map fun x => ⟨x.1, x.2.1, x.2.2.1⟩
def xR : Rd bZ := (Rd.pair (Rd.int .i64) (Rd.pair Rd.str (Rd.pair (Rd.int .i64) (Rd.pair (Rd.int .i64) (Rd.pair mU Rd.unit))))).map fun x => ⟨x.1, x.2.1, x.2.2.1, x.2.2.2.1, x.2.2.2.2.1⟩
def xT : Rd eu := (Rd.pair (Rd.int .i64) (Rd.pair Rd.str (Rd.pair (Rd.int .i64) (Rd.pair Rd.bool (Rd.pair (Rd.int .i64) Rd.unit))))).map fun x => ⟨x.1, x.2.1, x.2.2.1, x.2.2.2.1, x.2.2.2.2.1⟩
def xS : Rd For := (Rd.pair (Rd.int .i64) (Rd.pair Rd.str (Rd.pair (Rd.int .i64) (Rd.pair (Rd.int .i64) (Rd.pair (Rd.int .i64) Rd.unit))))).map fun x => ⟨x.1, x.2.1, x.2.2.1, x.2.2.2.1, x.2.2.2.2.1⟩
def xV : Rd aO := (Rd.pair (Rd.int .i64) (Rd.pair Rd.str (Rd.pair (Rd.sl xR 72) (Rd.pair (Rd.sl xT 48) (Rd.pair (Rd.sl xS 48) Rd.unit))))).map fun x => ⟨x.1, x.2.1, x.2.2.1, x.2.2.2.1, x.2.2.2.2.1⟩
def xU : Rd aF := (Rd.pair (Rd.int .i64) (Rd.pair (Rd.int .i64) (Rd.pair (Rd.sl xV 96) Rd.unit))).map fun x => ⟨x.1, x.2.1, x.2.2.1⟩
theorem j8 : cW Tryz.prog 3 (Rd.int .i64) := wz Tryz.underlying3 (by kernel_rfl)
theorem zo : cW Tryz.prog 9 Rd.str := EA Tryz.underlying9 (by kernel_rfl)
theorem KK : cW Tryz.prog 4 Rd.bool := CM Tryz.underlying4 (by kernel_rfl)
theorem CL : cW Tryz.prog 28 mU := gK _ (eU (.cons rfl j8 (.cons rfl (wz Tryz.underlying2 (by kernel_rfl)) (.cons rfl zo (.nil _)))) Tryz.underlying28 (by kernel_rfl))
theorem Ku : cW Tryz.prog 165 xR := gK _ (eU (.cons rfl j8 (.cons rfl zo (.cons rfl j8 (.cons rfl j8 (.cons rfl CL (.nil _)))))) Tryz.underlying165 (by kernel_rfl))
theorem JX : cW Tryz.prog 170 xT := gK _ (eU (.cons rfl j8 (.cons rfl zo (.cons rfl j8 (.cons rfl KK (.cons rfl j8 (.nil _)))))) Tryz.underlying170 (by kernel_rfl))
theorem JY : cW Tryz.prog 173 xS := gK _ (eU (.cons rfl j8 (.cons rfl zo (.cons rfl j8 (.cons rfl j8 (.cons rfl j8 (.nil _)))))) Tryz.underlying173 (by kernel_rfl))
theorem Kp : cW Tryz.prog 29 (Rd.sl xR 72) := kO Ku Tryz.underlying29 (by kernel_rfl) (by kernel_rfl)
theorem Kq : cW Tryz.prog 136 (Rd.sl xT 48) := kO JX Tryz.underlying136 (by kernel_rfl) (by kernel_rfl)
theorem Kr : cW Tryz.prog 137 (Rd.sl xS 48) := kO JY Tryz.underlying137 (by kernel_rfl) (by kernel_rfl)
theorem Ks : cW Tryz.prog 139 xV := gK _ (eU (.cons rfl j8 (.cons rfl zo (.cons rfl Kp (.cons rfl Kq (.cons rfl Kr (.nil _)))))) Tryz.underlying139 (by kernel_rfl))
theorem Kn : cW Tryz.prog 41 (Rd.sl xV 96) := kO Ks Tryz.underlying41 (by kernel_rfl) (by kernel_rfl)
theorem Ko : cW Tryz.prog 43 xU := gK _ (eU (.cons rfl j8 (.cons rfl j8 (.cons rfl Kn (.nil _)))) Tryz.underlying43 (by kernel_rfl))
theorem EM : reachBytes ≤ 281474976710656 := by decide
theorem GG {s : PH} {cs : List Value} {v : aR} (h : mU.is s cs v) : cs = [.int .i64 v.kind, .int .i64 v.n, .string v.s] ∧ v.s.size ≤ 281474976710656 := by
 obtain ⟨x, rfl, c1, c2, rfl, ⟨rfl, _⟩, d1, d2, rfl, ⟨rfl, _⟩, e1, e2, rfl, ⟨rfl, h3⟩, rfl⟩ := h
 exact ⟨rfl, Nat.le_trans h3 EM⟩
theorem GA {s : PH} {cs : List Value} {c : bZ} (h : xR.is s cs c) : cs = dx.f c ∧ c.Sm := by
 obtain ⟨x, rfl, c1, c2, rfl, ⟨rfl, _⟩, d1, d2, rfl, ⟨rfl, h2⟩, e1, e2, rfl, ⟨rfl, _⟩, f1, f2, rfl, ⟨rfl, _⟩, g1, g2, rfl, h5, rfl⟩ := h
 obtain ⟨rfl, h6⟩ := GG h5
 exact ⟨rfl, Nat.le_trans h2 EM, h6⟩
theorem GC {s : PH} {cs : List Value} {c : eu} (h : xT.is s cs c) : cs = jZ.f c ∧ c.name.size ≤ 281474976710656 := by
 obtain ⟨x, rfl, c1, c2, rfl, ⟨rfl, _⟩, d1, d2, rfl, ⟨rfl, h2⟩, e1, e2, rfl, ⟨rfl, _⟩, f1, f2, rfl, rfl, g1, g2, rfl, ⟨rfl, _⟩, rfl⟩ := h
 exact ⟨rfl, Nat.le_trans h2 EM⟩
theorem GB {s : PH} {cs : List Value} {c : For} (h : xS.is s cs c) : cs = lF.f c ∧ c.name.size ≤ 281474976710656 := by
 obtain ⟨x, rfl, c1, c2, rfl, ⟨rfl, _⟩, d1, d2, rfl, ⟨rfl, h2⟩, e1, e2, rfl, ⟨rfl, _⟩, f1, f2, rfl, ⟨rfl, _⟩, g1, g2, rfl, ⟨rfl, _⟩, rfl⟩ := h
 exact ⟨rfl, Nat.le_trans h2 EM⟩
structure ny {α : Type} (E : cG α) (s : PH) (t : aG) (xs : List α) : Prop where
 el : elems (Rd.enc E) s t.1 t.2.1 xs
 le : t.2.1 ≤ t.2.2
 big : xs.length ≤ 4398046511104
theorem ny.cF {α : Type} {E : cG α} {s : PH} {t : aG} {xs : List α} (h : ny E s t xs) (hl : xs.length ≤ 4294967296) : Sl E s t xs := ⟨h.el, h.le, hl⟩
theorem vE {α : Type} {R : Rd α} {E : cG α} {P : α → Prop} {bytes : Nat} {s : PH} {cs : List Value} {xs : List α} (hb : 48 ≤ bytes) (hz : R.sz = E.sz) (hi : ∀ cs x, R.is s cs x → cs = E.f x ∧ P x) (h : (Rd.sl R bytes).is s cs xs) :
  ∃ t : aG, cs = [t.v] ∧ ny E s t xs ∧ ∀ x ∈ xs, P x := by
 obtain ⟨a, n, c, rfl, h1, h2, h3, h4⟩ := h
 refine ⟨(a, n, c), rfl, ⟨h4.imp hz fun cs x hx => (hi cs x hx).1, h1, ?_⟩, fun x hx => ?_⟩
 ·have hr : reachBytes = 140737488351232 := rfl
  have : c * 48 ≤ c * bytes := Nat.mul_le_mul_left _ hb
  have := h4.1
  omega
 ·obtain ⟨i, hi2⟩ := List.mem_iff_getElem?.1 hx
  obtain ⟨ad, cs', _, h6, _⟩ := h4.2 i x hi2
  exact (hi cs' x h6).2
structure Ff (s : PH) (p : ay) : Prop where
 c : ny dx s p.c p.T.cols
 x : ny jZ s p.x p.T.idxs
 k : ny lF s p.k p.T.keys
structure rN (s : PH) (t : aG) (S : aF) (ps : List ay) : Prop where
 el : ny dQ s t ps
 eq : S.tabs = ps.map (·.T)
 all : ∀ p ∈ ps, Ff s p
theorem GF {s : PH} {cs : List Value} {T : aO} (h : xV.is s cs T) : ∃ p : ay, p.T = T ∧ cs = dQ.f p ∧ Ff s p ∧ T.Sm := by
 obtain ⟨x, rfl, c1, c2, rfl, ⟨rfl, _⟩, d1, d2, rfl, ⟨rfl, h2⟩, e1, e2, rfl, h3, f1, f2, rfl, h4, g1, g2, rfl, h5, rfl⟩ := h
 obtain ⟨t1, rfl, k1, n1⟩ := vE (by omega) rfl (fun cs x hx => GA hx) h3
 obtain ⟨t2, rfl, k2, n2⟩ := vE (by omega) rfl (fun cs x hx => GC hx) h4
 obtain ⟨t3, rfl, k3, n3⟩ := vE (by omega) rfl (fun cs x hx => GB hx) h5
 exact ⟨⟨_, t1, t2, t3⟩, rfl, rfl, ⟨k1, k2, k3⟩, ⟨Nat.le_trans h2 EM, n1, n2, n3⟩⟩
theorem rA : ∀ (l : List aO) (Q : Nat → ay → Prop), (∀ i T, l[i]? = some T → ∃ p : ay, p.T = T ∧ Q i p) → ∃ ps : List ay, ps.map (·.T) = l ∧ ∀ i p, ps[i]? = some p → Q i p
 | [], Q, _ => ⟨[], rfl, fun i p h => by simp at h⟩
 | T :: l, Q, h => by
  obtain ⟨p, hp, hq⟩ := h 0 T rfl
  obtain ⟨ps, he, hr⟩ := rA l (fun i => Q (i + 1)) fun i T' hT => h (i + 1) T' hT
  refine ⟨p :: ps, by simp [hp, he], fun i q hi => ?_⟩
  cases i with
  | zero => simp at hi; subst hi; exact hq
  | succ i => exact hr i q hi
theorem GD {s : PH} {cs : List Value} {S : aF} (h : xU.is s cs S) : ∃ t ps, cs = [.int .i64 S.version, .int .i64 S.last, .slice t.1 t.2.1 t.2.2] ∧ rN s t S ps ∧ ∀ T ∈ S.tabs, T.Sm := by
 obtain ⟨x, rfl, c1, c2, rfl, ⟨rfl, _⟩, d1, d2, rfl, ⟨rfl, _⟩, e1, e2, rfl, ⟨a, n, c, rfl, h1, h2, h3, h4⟩, rfl⟩ := h
 obtain ⟨ps, he, hq⟩ := rA x.2.2.1 (fun i p => (∃ ad, a = some ad ∧ s.has (ad.add (i * 5)) (dQ.f p)) ∧ Ff s p ∧ p.T.Sm) fun i T hT => by
  obtain ⟨ad, cs, k1, k2, k3⟩ := h4.2 i T hT
  obtain ⟨p, rfl, rfl, k4, k5⟩ := GF k2
  exact ⟨p, rfl, ⟨ad, k1, k3⟩, k4, k5⟩
 have hlen : ps.length = n := by rw [h4.1, ← he, List.length_map]
 refine ⟨(a, n, c), ps, rfl, ⟨⟨⟨hlen.symm, fun i p hp => ?_⟩, h1, ?_⟩, he.symm, fun p hp => ?_⟩, fun T hT => ?_⟩
 ·obtain ⟨⟨ad, k1, k2⟩, _⟩ := hq i p hp
  exact ⟨ad, _, k1, rfl, k2⟩
 ·have hr : reachBytes = 140737488351232 := rfl
  omega
 ·obtain ⟨i, hi⟩ := List.mem_iff_getElem?.1 hp
  exact (hq i p hi).2.1
 ·rw [show (aF.mk x.1 x.2.1 x.2.2.1).tabs = ps.map (·.T) from he.symm] at hT
  obtain ⟨p, hp, rfl⟩ := List.mem_map.1 hT
  obtain ⟨i, hi⟩ := List.mem_iff_getElem?.1 hp
  exact (hq i p hi).2.2
def fV (l : List aO) : Nat := (l.map fun T => T.cols.length + T.idxs.length + T.keys.length).sum
theorem E8 {l : List aO} {k : Nat} {T : aO} (h : l[k]? = some T) : fV (l.take (k + 1)) = fV (l.take k) + (T.cols.length + T.idxs.length + T.keys.length) := by
 unfold fV; rw [List.take_add_one, h]; simp
theorem rN.is {s : PH} {t : aG} {S : aF} {ps : List ay} (h : rN s t S ps) (hl : S.tabs.length + fV S.tabs ≤ 300) : cX s t S ps := by
 have key : ∀ (l : List aO), ∀ T ∈ l, T.cols.length + T.idxs.length + T.keys.length ≤ fV l := by
  intro l
  induction l with
  | nil => simp
  | cons a l ih =>
   intro T hT
   have e : fV (a :: l) = (a.cols.length + a.idxs.length + a.keys.length) + fV l := by simp [fV]
   rcases List.mem_cons.1 hT with rfl | hT
   ·omega
   ·have := ih T hT; omega
 have hpl : S.tabs.length = ps.length := by rw [h.eq]; simp
 refine ⟨h.el.cF (by omega), h.eq, fun p hp => ?_⟩
 have hT : p.T ∈ S.tabs := by rw [h.eq]; exact List.mem_map_of_mem hp
 have := key S.tabs p.T hT
 obtain ⟨a, b, c⟩ := h.all p hp
 exact ⟨a.cF (by omega), b.cF (by omega), c.cF (by omega)⟩
abbrev bs (l : List UInt8) : ByteArray := ⟨l.toArray⟩
abbrev emp : ByteArray := ⟨#[]⟩
def kC : nk := ⟨1, bs [116], emp, emp, emp, false, 0, ⟨0, 0, emp⟩, [⟨0, bs [97], 1, 0, ⟨0, 0, emp⟩⟩, ⟨0, bs [98], 2, 0, ⟨0, 0, emp⟩⟩]⟩
def gE : aF := ⟨1, 3, [⟨1, bs [116], [⟨2, bs [97], 1, 3, ⟨0, 0, emp⟩⟩, ⟨3, bs [98], 2, 3, ⟨0, 0, emp⟩⟩], [], []⟩]⟩
theorem KG : eF.kP kC 3 = (gE, 0) := by kernel_rfl
theorem Dr (s : PH) : ai 28 #[] s fun y s' => ∃ u : aG, y = FL kC u ∧ Sl dx s' u kC.cols ∧ Fw.Mod [] s s' := by
 refine Cm _ s ?_
 unfold uk
 simp only [cE, aN, aU, bP, aE, bU, cZ, gN, bI, aQ, aP, aS, lY, pJ, lT, nt, W.az]
 refine W.bG fun r s1 hr m1 k1 => ?_
 refine ⟨(some ⟨r, 0, none⟩, 2, 2), rfl, ⟨⟨rfl, fun i x hx => ?_⟩, Nat.le_refl _, by decide⟩, m1⟩
 refine ⟨⟨r, 0, none⟩, _, rfl, rfl, ?_⟩
 have hb := jH k1
 have hz : (Rd.enc dx).sz = 7 := rfl
 rw [hz]
 match i with
 | 0 =>
  simp [kC] at hx; subst hx
  have := PH.has.sub (l1 := []) (l2 := dx.f ⟨0, bs [97], 1, 0, ⟨0, 0, emp⟩⟩) (l3 := dx.f ⟨0, bs [98], 2, 0, ⟨0, 0, emp⟩⟩) hb
  exact this
 | 1 =>
  simp [kC] at hx; subst hx
  have := PH.has.sub (l1 := dx.f ⟨0, bs [97], 1, 0, ⟨0, 0, emp⟩⟩) (l2 := dx.f ⟨0, bs [98], 2, 0, ⟨0, 0, emp⟩⟩) (l3 := []) hb
  exact this
 | i + 2 => simp [kC] at hx
theorem FO {s : PH} {S' : aF} {e : Int} {y : Value} {s' : PH} (h : oe s S' e y s') (hs : S'.Sm) : ∃ t ps, y = .tuple #[eK S' t, .int .i64 e] ∧ cX s' t S' ps ∧ Has s' t ps ∧ Fw.Mod [] s s' ∧ ∀ g ∈ ew t ps, s g = none := by
 obtain ⟨t, ps, rfl, hH, he, m, hf⟩ := h
 exact ⟨t, ps, rfl, hH.sm he hs, hH, m, hf⟩
end
section
attribute [-simp] Fw.W.bD Fw.W.bB
theorem vK {α : Type} (p : α → Bool) : ∀ l : List α, l.takeWhile p = l.take (l.takeWhile p).length ∧ l.dropWhile p = l.drop (l.takeWhile p).length
 | [] => ⟨rfl, rfl⟩
 | a :: l => by
  obtain ⟨h1, h2⟩ := vK p l
  by_cases h : p a = true
  ·rw [List.takeWhile_cons_of_pos h, List.dropWhile_cons_of_pos h]
   exact ⟨by rw [List.length_cons, List.take_succ_cons, ← h1], by rw [List.length_cons, List.drop_succ_cons]; exact h2⟩
  ·rw [List.takeWhile_cons_of_neg h, List.dropWhile_cons_of_neg h]; exact ⟨rfl, rfl⟩
theorem C9 {α : Type} {p : α → Bool} : ∀ {l : List α} {i : Nat} {x : α}, i ≤ (l.takeWhile p).length → l[i]? = some x → (p x = true ↔ i < (l.takeWhile p).length)
 | [], i, x, _, h => by simp at h
 | a :: l, i, x, hi, h => by
  by_cases hp : p a = true
  ·rw [List.takeWhile_cons_of_pos hp] at hi ⊢
   cases i with
   | zero => simp at h; subst h; simp [hp]
   | succ i =>
    have := C9 (p := p) (l := l) (i := i) (x := x) (by simp at hi; omega) (by simpa using h)
    rw [this, List.length_cons]; omega
  ·rw [List.takeWhile_cons_of_neg hp] at hi ⊢
   have : i = 0 := by simpa using hi
   subst this
   simp at h; subst h; simp [hp]
theorem J4 {α : Type} (p : α → Bool) (l : List α) : (l.takeWhile p).length ≤ l.length := by
 have := congrArg List.length (List.takeWhile_append_dropWhile (p := p) (l := l))
 rw [List.length_append] at this; omega
theorem kU {ts : Int} : ∀ {ws : List Wr} {l : List Ht} {a : Ht}, a ∈ aj ts l ws → (∃ x ∈ ws, a = ⟨x.key, ts, x.val⟩) ∨ a ∈ l
 | [], l, a, h => .inr h
 | x :: ws, l, a, h => by
  rcases kU (ws := ws) h with ⟨y, hy, e⟩ | h
  ·exact .inl ⟨y, List.mem_cons_of_mem _ hy, e⟩
  ·unfold fC at h
   rw [List.mem_append, List.mem_append] at h
   rcases h with (h | h) | h
   ·exact .inr (List.takeWhile_subset _ h)
   ·unfold gV at h
    split at h
    ·simp at h
    ·simp at h; exact .inl ⟨x, List.mem_cons_self, h⟩
   ·exact .inr ((List.dropWhile_sublist (fun h : Ht => bK h.key x.key) (l := l)).subset (List.mem_filter.1 h).1)
def zw (ts : Int) (l : List Ht) (x : Wr) (b : Bool) (i : Nat) (o : List Ht) : Prop :=
 (b = false ∧ i ≤ (l.takeWhile fun h => bK h.key x.key).length ∧ o = l.take i) ∨
 (b = true ∧ (l.takeWhile fun h => bK h.key x.key).length < i ∧ o = l.take (l.takeWhile fun h => bK h.key x.key).length ++ gV ts x ++ ((l.take i).drop (l.takeWhile fun h => bK h.key x.key).length).filter fun h => decide (h.key ≠ x.key))
theorem ot {s : PH} {a b : Option Addr} {n c m d : Nat} {l : List Ht} {ws : List Wr} (h : Sl bh s (a, n, c) l) (hw : Sl mZ s (b, m, d) ws) (ts : Int) (hk : ∀ x ∈ l, x.key.size ≤ 281474976710656) (hwk : ∀ x ∈ ws, x.key.size ≤ 281474976710656) (hn : l.length ≤ 1000000000) (hm : ws.length ≤ 1000000000) :
  ai 21 #[.slice a n c, .slice b m d, .int .i64 ts] s fun y s' => ∃ a' n' c', y = .slice a' n' c' ∧ Gw bh 75 s s' a' n' c' (aj ts l ws) := by
 refine AK a n c b m d ts _ s ?_
 unfold rD
 have hln : n = l.length := h.len
 have hlm : m = ws.length := hw.len
 simp only [bU, cZ, aS, aN, cE, aP, aQ, bI, bP, aE]
 refine W.bG fun r0 s1 hr0 m1 k1 => ?_
 have hrow0 : aW bh s1 75 (some ⟨r0, 0, none⟩) 0 0 [] := ⟨rfl, Nat.le_refl _, by show 0 ≤ 9223372036854775807; omega, .inr ⟨r0, #[], rfl, k1, by simp, rfl⟩⟩
 have hmax : maxLen = 9223372036854775807 := rfl
 refine fP (E := bh) (k := n) (ys := l) hrow0 rfl (h.mono m1.le).el.je rfl hln.symm (by omega) (by omega) ?_
 intro a1 c1 s2 hrow1 hm1
 rw [List.nil_append, Nat.zero_add] at hrow1
 have g1 : Gw bh 75 s s2 a1 n c1 l := by
  rcases hm1 with ⟨rfl, hmd⟩ | ⟨g, rfl, hg, hmd⟩
  ·exact ⟨hrow1, by simp [Fw.aH, hr0], m1.fresh hmd (by simp [Fw.aH, hr0])⟩
  ·exact ⟨hrow1, by simp [Fw.aH]; exact m1.none hg (by simp), m1.trans hmd⟩
 rw [Nat.zero_add]
 refine ⟨fun z s' => ∃ (j : Nat) (a1 : Option Addr) (n1 c1 : Nat), z = (((a1, n1, c1), ()), ((j : Int), ()), ()) ∧ j ≤ m ∧ Gw bh 75 s s' a1 n1 c1 (aj ts l (ws.take j)), fun z _ => m - z.2.1.1.toNat, ⟨0, a1, n, c1, rfl, Nat.zero_le _, g1⟩, ?_⟩
 rintro _ s3 ⟨j, a3, n3, c3, rfl, hj, hG3⟩
 dsimp only
 refine (W.aa _ _ _ _).2 ⟨fun e => ?_, fun e => ?_⟩
 rotate_left
 ·have e : ¬ (j : Int) < (m : Int) := of_decide_eq_false e
  rw [List.take_of_length_le (by omega)] at hG3
  exact ⟨a3, n3, c3, rfl, hG3⟩
 have hlj : (j : Int) < (m : Int) := of_decide_eq_true e
 obtain ⟨x, hx⟩ : ∃ x, ws[j]? = some x := ⟨_, List.getElem?_eq_getElem (by omega)⟩
 obtain ⟨L, hL⟩ : ∃ L, aj ts l (ws.take j) = L := ⟨_, rfl⟩
 rw [hL] at hG3
 have hn3 := hG3.row.len
 have hLl : L.length ≤ l.length + j := by
  have := jQ ts (ws.take j) l
  rw [hL, List.length_take] at this
  omega
 have hLk : ∀ y ∈ L, y.key.size ≤ 281474976710656 := fun y hy => by
  rw [← hL] at hy
  rcases kU hy with ⟨z, hz, rfl⟩ | hy
  ·exact hwk z (List.mem_of_mem_take hz)
  ·exact hk y hy
 have hnext : aj ts l (ws.take (j + 1)) = fC ts L x := by
  rw [← hL]
  show List.foldl (fC ts) l (ws.take (j + 1)) = _
  rw [oC (fC ts) l hx]; (first | done | rfl)
 obtain ⟨tw, htw⟩ : ∃ tw, (L.takeWhile fun h => bK h.key x.key).length = tw := ⟨_, rfl⟩
 have htwl : tw ≤ L.length := by rw [← htw]; exact J4 _ _
 refine ⟨fun z s' => ∃ (i : Nat) (b2 : Bool) (o : List Ht) (a4 : Option Addr) (n4 c4 : Nat), z = (((a3, n3, c3), ()), ((j : Int), ()), ((a4, n4, c4), ()), (b2, ()), ((i : Int), ()), ()) ∧ i ≤ n3 + 1 ∧ Gw bh 75 s3 s' a4 n4 c4 o ∧ zw ts L x b2 i o ∧ n4 ≤ i + 1, fun z _ => n3 + 1 - z.2.2.2.2.1.1.toNat,
  ⟨0, false, [], none, 0, 0, rfl, Nat.zero_le _, Gw.nil (Mod.refl _ _), .inl ⟨rfl, Nat.zero_le _, rfl⟩, by omega⟩, ?_⟩
 rintro _ s4 ⟨i, b2, o, a4, n4, c4, rfl, hi, hG4, hout, hn4i⟩
 dsimp only
 have m34 := hG4.md
 unfold zw at hout
 rw [htw] at hout
 refine (W.aa _ _ _ _).2 ⟨fun e => ?_, fun e => ?_⟩
 rotate_left
 ·have e : ¬ (i : Int) ≤ (n3 : Int) := of_decide_eq_false e
  rw [ak (k := j) (by omega)]
  refine ⟨⟨j + 1, a4, n4, c4, rfl, by omega, ?_⟩, by simp only [Int.toNat_natCast]; omega⟩
  rw [hnext]
  rcases hout with ⟨_, h2, _⟩ | ⟨_, _, h3⟩
  ·omega
  ·have : fC ts L x = o := by
    unfold fC
    rw [(vK (fun h : Ht => bK h.key x.key) L).1, (vK (fun h : Ht => bK h.key x.key) L).2, htw, h3, List.take_of_length_le (show L.length ≤ i by omega)]
   rw [this]
   exact hG4.since hG3.md
 have hli : (i : Int) ≤ (n3 : Int) := of_decide_eq_true e
 obtain ⟨ab, hab, hhb⟩ := (hw.mono (hG3.md.trans m34).le).el.aB hx
 dsimp only at hab
 subst hab
 have hhb : s4.has (ab.add (j * 3)) (mZ.f x) := hhb
 have gj : (0 : Int) ≤ (j : Int) ∧ (j : Int) < (m : Int) := ⟨Int.natCast_nonneg j, hlj⟩
 -- has the new one its place here?
 obtain ⟨pl, hpl⟩ : ∃ pl : Bool, (!b2 && decide (i = tw)) = pl := ⟨_, rfl⟩
 refine W.bl (fun z s' => ∃ (o2 : List Ht) (a5 : Option Addr) (n5 c5 : Nat), z = (((a3, n3, c3), ()), ((j : Int), ()), ((a5, n5, c5), ()), ((b2 || pl), ()), ((i : Int), ()), ()) ∧ Gw bh 75 s3 s' a5 n5 c5 o2 ∧ n5 ≤ n4 + 1 ∧ o2 = (if pl = true then o ++ gV ts x else o) ∧ (pl = true → n5 ≤ n4 + 1)) ?_ ?_
 rotate_left
 ·intro J hJ
  refine W.bl (fun z s' => z = (((a3, n3, c3), ()), ((j : Int), ()), ((a4, n4, c4), ()), (b2, ()), ((i : Int), ()), (pl, ()), ()) ∧ s4 = s') ?_ ?_
  rotate_left
  ·intro J2 hJ2
   refine (W.aa _ _ _ _).2 ⟨fun e2 => ?_, fun e2 => ?_⟩
   ·have e2 : b2 = false := by simpa using e2
    have hitw : i ≤ tw := by
     rcases hout with ⟨_, h2, _⟩ | ⟨h1, _⟩
     ·exact h2
     ·rw [e2] at h1; cases h1
    refine (W.aa _ _ _ _).2 ⟨fun e3 => ?_, fun e3 => ?_⟩
    ·have e3 : (i : Int) = (n3 : Int) := eq_of_beq e3
     refine hJ2 _ _ ⟨?_, rfl⟩
     rw [← hpl, e2, decide_eq_true (show i = tw by omega)]; (first | done | rfl)
    ·have e3 : ¬ (i : Int) = (n3 : Int) := by simpa using e3
     obtain ⟨y, hy⟩ : ∃ y, L[i]? = some y := ⟨_, List.getElem?_eq_getElem (by omega)⟩
     obtain ⟨g, rfl, hh⟩ := (hG3.row.mod m34 (by simp)).at hy
     refine (W.ah _ _ _).2 ⟨⟨Int.natCast_nonneg i, by omega⟩, ?_⟩
     simp only [dh, Int.toNat_natCast, aY, Nat.zero_add]
     have hh : s4.has ⟨g, i * 3, none⟩ (bh.f y) := hh
     refine bz (A := ⟨g, i * 3, none⟩) (j := 0) hh (y := (y.key, ())) rfl ?_
     refine (W.ah _ _ _).2 ⟨gj, ?_⟩
     refine bz (j := 0) hhb (y := (x.key, ())) rfl ?_
     refine W.bX ((cP y.key x.key, ()), ()) (mH y.key x.key (by have := hLk y (List.mem_of_getElem? hy); omega) s4) rfl ?_
     refine hJ2 _ _ ⟨?_, rfl⟩
     have h1 := C9 (p := fun h : Ht => bK h.key x.key) (l := L) (i := i) (x := y) (by rw [htw]; exact hitw) hy
     rw [htw] at h1
     have h2 := oR y.key x.key
     have : decide (cP y.key x.key ≥ 0) = pl := by
      rw [← hpl, e2]
      simp only [Bool.not_false, Bool.true_and]
      rw [decide_eq_decide]
      constructor
      ·intro h3
       have : ¬ cP y.key x.key < 0 := by omega
       have : ¬ i < tw := fun g => this (h2.2 (h1.2 g))
       omega
      ·intro h3
       have : ¬ cP y.key x.key < 0 := fun g => by have := h1.1 (h2.1 g); omega
       omega
     rw [← this]
   ·have e2 : b2 = true := by simpa using e2
    refine hJ2 _ _ ⟨?_, rfl⟩
    rw [← hpl, e2]; (first | done | rfl)
  rintro _ s4 ⟨rfl, rfl⟩
  dsimp only
  refine (W.aa _ _ _ _).2 ⟨fun e2 => ?_, fun e2 => ?_⟩
  ·have e2 : pl = true := e2
   have hb2 : b2 = false := by rw [e2] at hpl; cases b2 <;> simp_all
   refine (W.ah _ _ _).2 ⟨gj, ?_⟩
   simp only [dh, Int.toNat_natCast]
   refine bz (j := 2) hhb (y := (x.dead, ())) rfl ?_
   dsimp only
   refine (W.aa _ _ _ _).2 ⟨fun e3 => ?_, fun e3 => ?_⟩
   ·have e3 : x.dead = false := by simpa using e3
    have hnew : gV ts x = [⟨x.key, ts, x.val⟩] := by unfold gV; rw [e3]; (first | done | rfl)
    refine (W.ah _ _ _).2 ⟨gj, ?_⟩
    refine bz (j := 0) hhb (y := (x.key, ())) rfl ?_
    refine (W.ah _ _ _).2 ⟨gj, ?_⟩
    refine bz (j := 1) hhb (y := (x.val, ())) rfl ?_
    refine hG4.push [⟨x.key, ts, x.val⟩] (k := 1) rfl rfl rfl (by omega) (by omega) fun a5 c5 s5 h5 => ?_
    refine hJ _ _ ⟨o ++ [⟨x.key, ts, x.val⟩], a5, n4 + 1, c5, ?_, h5, Nat.le_refl _, by rw [if_pos e2, hnew], fun _ => Nat.le_refl _⟩
    rw [e2, Bool.or_true]
   ·have e3 : x.dead = true := by simpa using e3
    have hnew : gV ts x = [] := by unfold gV; rw [e3]; (first | done | rfl)
    refine hJ _ _ ⟨o, a4, n4, c4, ?_, hG4, by omega, by rw [if_pos e2, hnew, List.append_nil], fun _ => by omega⟩
    rw [e2, Bool.or_true]
  ·have e2 : pl = false := e2
   refine hJ _ _ ⟨o, a4, n4, c4, ?_, hG4, by omega, by rw [if_neg (by rw [e2]; simp)], fun g => by omega⟩
   rw [e2, Bool.or_false]
 rintro _ s5 ⟨o2, a5, n5, c5, rfl, hG5, hn5, ho2, _⟩
 dsimp only
 have hn4 := hG4.row.len
 have hn5l := hG5.row.len
 rw [ak (k := i) (by omega)]
 -- the list behind this step
 have hstep : ∀ (o3 : List Ht), o3 = o2 ++ (match L[i]? with | some y => if y.key = x.key then [] else [y] | none => []) → zw ts L x (b2 || pl) (i + 1) o3 := by
  intro o3 h3
  unfold zw
  rw [htw]
  have htk : ∀ y, L[i]? = some y → L.take (i + 1) = L.take i ++ [y] := fun y hy => by rw [List.take_add_one, hy]; (first | done | rfl)
  rcases hout with ⟨h1, h2, h4⟩ | ⟨h1, h2, h4⟩
  ·cases hp : pl with
   | false =>
    have hlt : i < tw := by
     rw [h1, hp] at hpl
     have : ¬ i = tw := by simpa using hpl
     omega
    obtain ⟨y, hy⟩ : ∃ y, L[i]? = some y := ⟨_, List.getElem?_eq_getElem (by omega)⟩
    have h5 := (C9 (p := fun h : Ht => bK h.key x.key) (l := L) (i := i) (x := y) (by rw [htw]; omega) hy).2 (by rw [htw]; exact hlt)
    have hne : ¬ y.key = x.key := fun g => by rw [g] at h5; simp only [fe] at h5; cases h5
    refine .inl ⟨by rw [h1]; (first | done | rfl), by omega, ?_⟩
    rw [h3, ho2, hp, if_neg (by simp), h4, hy, htk y hy]
    simp [hne]
   | true =>
    have hit : i = tw := by
     rw [h1, hp] at hpl
     simpa using hpl
    refine .inr ⟨by simp, by omega, ?_⟩
    rw [h3, ho2, hp, if_pos rfl, h4, hit]
    cases hy : L[tw]? with
    | none =>
     have hll := List.getElem?_eq_none_iff.1 hy
     have : (L.take (tw + 1)).drop tw = [] := List.drop_of_length_le (by rw [List.length_take]; omega)
     rw [this]; simp
    | some y =>
     rw [← hit] at hy ⊢
     rw [htk y hy]
     have hll := (List.getElem?_eq_some_iff.1 hy).1
     have : (L.take i ++ [y]).drop i = [y] := by rw [List.drop_append_of_le_length (by rw [List.length_take]; omega), List.drop_of_length_le (by rw [List.length_take]; omega), List.nil_append]
     rw [this]
     by_cases g : y.key = x.key <;> simp [g]
  ·have hp : pl = false := by rw [← hpl, h1]; (first | done | rfl)
   refine .inr ⟨by rw [h1]; (first | done | rfl), by omega, ?_⟩
   rw [h3, ho2, hp, if_neg (by simp), h4]
   cases hy : L[i]? with
   | none =>
    have hll := List.getElem?_eq_none_iff.1 hy
    rw [List.take_of_length_le (show L.length ≤ i by omega), List.take_of_length_le (show L.length ≤ i + 1 by omega)]; simp
   | some y =>
    rw [htk y hy]
    have hll := (List.getElem?_eq_some_iff.1 hy).1
    rw [List.drop_append_of_le_length (by rw [List.length_take]; omega), List.filter_append]
    by_cases g : y.key = x.key <;> simp [g]
 have hno : n5 ≤ i + 1 + 1 := by
  rw [hn5l, ho2]
  have : o.length ≤ i + 1 := by omega
  cases hp : pl with
  | true =>
   rw [if_pos rfl, List.length_append]
   have h1 : (gV ts x).length ≤ 1 := by unfold gV; split <;> simp
   have hb2 : b2 = false := by rw [hp] at hpl; cases b2 <;> simp_all
   rcases hout with ⟨_, h2, h4⟩ | ⟨h1, _⟩
   ·have : o.length ≤ i := by rw [h4, List.length_take]; omega
    omega
   ·rw [hb2] at h1; cases h1
  | false => rw [if_neg (by simp)]; omega
 refine (W.aa _ _ _ _).2 ⟨fun e2 => ?_, fun e2 => ?_⟩
 ·have e4 : (i : Int) < (n3 : Int) := of_decide_eq_true e2
  obtain ⟨y, hy⟩ : ∃ y, L[i]? = some y := ⟨_, List.getElem?_eq_getElem (by omega)⟩
  rw [hy] at hstep
  obtain ⟨g, rfl, hh⟩ := (hG3.row.mod hG5.md (by simp)).at hy
  have hhb5 : s5.has (ab.add (j * 3)) (mZ.f x) := by
   obtain ⟨ab', hab', hhb'⟩ := (hw.mono (hG3.md.trans hG5.md).le).el.aB hx
   cases hab'
   exact hhb'
  have gi : (0 : Int) ≤ (i : Int) ∧ (i : Int) < (n3 : Int) := ⟨Int.natCast_nonneg i, e4⟩
  have hh : s5.has ⟨g, i * 3, none⟩ (bh.f y) := hh
  refine (W.ah _ _ _).2 ⟨gi, ?_⟩
  simp only [dh, Int.toNat_natCast, aY, Nat.zero_add]
  refine bz (A := ⟨g, i * 3, none⟩) (j := 0) hh (y := (y.key, ())) rfl ?_
  refine (W.ah _ _ _).2 ⟨gj, ?_⟩
  refine bz (j := 0) hhb5 (y := (x.key, ())) rfl ?_
  dsimp only
  rw [bL]
  refine (W.aa _ _ _ _).2 ⟨fun e3 => ?_, fun e3 => ?_⟩
  ·have e3 : ¬ y.key = x.key := by simpa using e3
   refine (W.ah _ _ _).2 ⟨gi, ?_⟩
   refine aC hh (y := oG y) rfl ?_
   have hn5s : n5 ≤ i + 1 + 1 := hno
   refine hG5.push [y] (k := 1) rfl rfl rfl (by omega) (by omega) fun a6 c6 s6 h6 => ?_
   have ho3 := hstep (o2 ++ [y]) (by simp [e3])
   refine ⟨⟨i + 1, b2 || pl, o2 ++ [y], a6, n5 + 1, c6, rfl, by omega, h6, ho3, ?_⟩, by (try simp only [Int.toNat_natCast]); omega⟩
   have := h6.row.len
   unfold zw at ho3
   rw [htw] at ho3
   have h1 : (gV ts x).length ≤ 1 := by unfold gV; split <;> simp
   rcases ho3 with ⟨_, _, h4⟩ | ⟨_, h3, h4⟩
   ·rw [this, h4, List.length_take]; omega
   ·have hf := List.length_filter_le (fun h : Ht => decide (h.key ≠ x.key)) ((L.take (i + 1)).drop tw)
    rw [List.length_drop, List.length_take] at hf
    rw [this, h4, List.length_append, List.length_append, List.length_take]; omega
  ·have e3 : y.key = x.key := by simpa using e3
   have ho3 := hstep o2 (by simp [e3])
   exact ⟨⟨i + 1, b2 || pl, o2, a5, n5, c5, rfl, by omega, hG5, ho3, hno⟩, by (try simp only [Int.toNat_natCast]); omega⟩
 ·have e2 : ¬ (i : Int) < (n3 : Int) := of_decide_eq_false e2
  have hy : L[i]? = none := List.getElem?_eq_none (by omega)
  rw [hy] at hstep
  exact ⟨⟨i + 1, b2 || pl, o2, a5, n5, c5, rfl, by omega, hG5, hstep o2 (by simp), hno⟩, by simp only [Int.toNat_natCast]; omega⟩
end
section
attribute [-simp] Fw.W.bD Fw.W.bB
def tR : Rd cD := (Rd.pair (Rd.int .i64) (Rd.pair (Rd.int .i64) (Rd.pair (Rd.sl mU 32) (Rd.pair (Rd.int .i64) (Rd.pair mU (Rd.pair (Rd.int .i64) (Rd.pair mU Rd.unit))))))).map fun x => ⟨x.1, x.2.1, x.2.2.1, x.2.2.2.1, x.2.2.2.2.1, x.2.2.2.2.2.1, x.2.2.2.2.2.2.1⟩
def tS : Rd Ht := (Rd.pair Rd.str (Rd.pair (Rd.int .i64) (Rd.pair Rd.str Rd.unit))).map fun x => ⟨x.1, x.2.1, x.2.2.1⟩
theorem Kv : cW Tryz.prog 125 (Rd.sl mU 32) := kO CL Tryz.underlying125 (by kernel_rfl) (by kernel_rfl)
theorem JZ : cW Tryz.prog 127 tR := gK _ (eU (.cons rfl j8 (.cons rfl j8 (.cons rfl Kv (.cons rfl j8 (.cons rfl CL (.cons rfl j8 (.cons rfl CL (.nil _)))))))) Tryz.underlying127 (by kernel_rfl))
theorem J3 : cW Tryz.prog 75 tS := gK _ (eU (.cons rfl zo (.cons rfl j8 (.cons rfl zo (.nil _)))) Tryz.underlying75 (by kernel_rfl))
theorem wJ {α : Type} {R : Rd α} {E : cG α} {P : α → Prop} {bytes : Nat} {s : PH} {cs : List Value} {xs : List α} (hb : 32 ≤ bytes) (hz : R.sz = E.sz) (hi : ∀ cs x, R.is s cs x → cs = E.f x ∧ P x) (h : (Rd.sl R bytes).is s cs xs) :
  ∃ t : aG, cs = [t.v] ∧ ny E s t xs ∧ ∀ x ∈ xs, P x := by
 obtain ⟨a, n, c, rfl, h1, h2, h3, h4⟩ := h
 refine ⟨(a, n, c), rfl, ⟨h4.imp hz fun cs x hx => (hi cs x hx).1, h1, ?_⟩, fun x hx => ?_⟩
 ·have hr : reachBytes = 140737488351232 := rfl
  have : c * 32 ≤ c * bytes := Nat.mul_le_mul_left _ hb
  have := h4.1
  omega
 ·obtain ⟨i, hi2⟩ := List.mem_iff_getElem?.1 hx
  obtain ⟨ad, cs', _, h6, _⟩ := h4.2 i x hi2
  exact (hi cs' x h6).2
theorem qS {s : PH} {cs : List Value} {v : aR} (h : mU.is s cs v) : cs = dJ.f v ∧ kZ v.n := by
 obtain ⟨x, rfl, c1, c2, rfl, ⟨rfl, _⟩, d1, d2, rfl, ⟨rfl, h2⟩, e1, e2, rfl, ⟨rfl, h3⟩, rfl⟩ := h
 exact ⟨rfl, wf_i64 h2⟩
theorem IE {s : PH} {cs : List Value} {x : Ht} (h : tS.is s cs x) : cs = bh.f x ∧ x.key.size ≤ 140737488351232 := by
 obtain ⟨x, rfl, c1, c2, rfl, ⟨rfl, h1⟩, d1, d2, rfl, ⟨rfl, h2⟩, e1, e2, rfl, ⟨rfl, h3⟩, rfl⟩ := h
 exact ⟨rfl, h1⟩
structure E9 (s : PH) (q : gL) : Prop where
 v : ny dJ s q.t q.b.vals
 ok : Df q.b
theorem ID {s : PH} {cs : List Value} {b : cD} (h : tR.is s cs b) : ∃ q : gL, q.b = b ∧ cs = mG.f q ∧ E9 s q := by
 obtain ⟨x, rfl, c1, c2, rfl, ⟨rfl, _⟩, d1, d2, rfl, ⟨rfl, _⟩, e1, e2, rfl, hv, f1, f2, rfl, ⟨rfl, _⟩, g1, g2, rfl, h5, i1, i2, rfl, ⟨rfl, _⟩, j1, j2, rfl, h7, rfl⟩ := h
 obtain ⟨t, rfl, k1, n1⟩ := wJ (E := dJ) (by omega) rfl (fun cs x hx => qS hx) hv
 obtain ⟨rfl, r5⟩ := qS h5
 obtain ⟨rfl, r7⟩ := qS h7
 exact ⟨⟨_, t⟩, rfl, rfl, k1, r5, r7, n1⟩
theorem qY : ∀ (l : List cD) (Q : Nat → gL → Prop), (∀ i T, l[i]? = some T → ∃ p : gL, p.b = T ∧ Q i p) → ∃ ps : List gL, ps.map (·.b) = l ∧ ∀ i p, ps[i]? = some p → Q i p
 | [], Q, _ => ⟨[], rfl, fun i p h => by simp at h⟩
 | T :: l, Q, h => by
  obtain ⟨p, hp, hq⟩ := h 0 T rfl
  obtain ⟨ps, he, hr⟩ := qY l (fun i => Q (i + 1)) fun i T' hT => h (i + 1) T' hT
  refine ⟨p :: ps, by simp [hp, he], fun i q hi => ?_⟩
  cases i with
  | zero => simp at hi; subst hi; exact hq
  | succ i => exact hr i q hi
structure qB (s : PH) (t : aG) (L : List cD) (bs : List gL) : Prop where
 el : ny mG s t bs
 eq : bs.map (·.b) = L
 all : ∀ q ∈ bs, E9 s q
theorem ED {s : PH} {cs : List Value} {L : List cD} (h : (Rd.sl tR 120).is s cs L) : ∃ t bs, cs = [t.v] ∧ qB s t L bs := by
 obtain ⟨a, n, c, rfl, h1, h2, h3, h4⟩ := h
 obtain ⟨bs, he, hq⟩ := qY L (fun i p => (∃ ad, a = some ad ∧ s.has (ad.add (i * 11)) (mG.f p)) ∧ E9 s p) fun i T hT => by
  obtain ⟨ad, cs, k1, k2, k3⟩ := h4.2 i T hT
  obtain ⟨p, rfl, rfl, k4⟩ := ID k2
  exact ⟨p, rfl, ⟨ad, k1, k3⟩, k4⟩
 have hlen : bs.length = n := by rw [h4.1, ← he, List.length_map]
 refine ⟨(a, n, c), bs, rfl, ⟨⟨⟨hlen.symm, fun i p hp => ?_⟩, h1, ?_⟩, he, fun p hp => ?_⟩⟩
 ·obtain ⟨⟨ad, k1, k2⟩, _⟩ := hq i p hp
  exact ⟨ad, _, k1, rfl, k2⟩
 ·have hr : reachBytes = 140737488351232 := rfl
  have : c * 32 ≤ c * 120 := Nat.mul_le_mul_left _ (by omega)
  omega
 ·obtain ⟨i, hi⟩ := List.mem_iff_getElem?.1 hp
  exact (hq i p hi).2
def xY (S : aF) : Prop := ∀ T ∈ S.tabs, ∀ c ∈ T.cols, kZ c.dflt.n
theorem IF {s : PH} {cs : List Value} {S : aF} (h : xU.is s cs S) : xY S := by
 obtain ⟨x, rfl, c1, c2, rfl, ⟨rfl, _⟩, d1, d2, rfl, ⟨rfl, _⟩, e1, e2, rfl, ⟨a, n, c, rfl, h1, h2, h3, h4⟩, rfl⟩ := h
 intro T hT c hc
 obtain ⟨i, hi⟩ := List.mem_iff_getElem?.1 hT
 obtain ⟨ad, cs, k1, k2, k3⟩ := h4.2 i T hi
 obtain ⟨y, rfl, c1, c2, rfl, ⟨rfl, _⟩, d1, d2, rfl, ⟨rfl, _⟩, e1, e2, rfl, hcols, f1, f2, rfl, _, g1, g2, rfl, _, rfl⟩ := k2
 obtain ⟨a2, n2, c2, rfl, g1, g2, g3, g4⟩ := hcols
 obtain ⟨j, hj⟩ := List.mem_iff_getElem?.1 hc
 obtain ⟨ad2, cs2, q1, q2, q3⟩ := g4.2 j c hj
 obtain ⟨z, rfl, c1, c2, rfl, _, d1, d2, rfl, _, e1, e2, rfl, _, f1, f2, rfl, _, g1, g2, rfl, h5, rfl⟩ := q2
 exact (qS h5).2
def iJ (acc : List Ht) (h : Ht) : List Ht := match acc.getLast? with
 | none => [h]
 | some g => if bK g.key h.key = true then acc ++ [h] else acc
def jS (l : List Ht) : List Ht := l.foldl iJ []
theorem Fk {acc : List Ht} {h : Ht} (hs : dO acc) : dO (iJ acc h) ∧ (∀ x ∈ iJ acc h, x = h ∨ x ∈ acc) ∧ (iJ acc h).length ≤ acc.length + 1 := by
 unfold iJ
 cases hg : acc.getLast? with
 | none =>
  have : acc = [] := List.getLast?_eq_none_iff.1 hg
  subst this
  exact ⟨List.pairwise_singleton _ _, by simp, by simp⟩
 | some g =>
  dsimp only
  split
  ·rename_i hlt
   refine ⟨List.pairwise_append.2 ⟨hs, List.pairwise_singleton _ _, fun a ha b hb => ?_⟩, fun x hx => ?_, by simp⟩
   ·simp at hb; subst hb
    rcases List.eq_nil_or_concat acc with rfl | ⟨m, y, rfl⟩
    ·simp at ha
    ·simp at hg; subst hg
     rw [List.concat_eq_append] at ha hs
     rcases List.mem_append.1 ha with ha | ha
     ·exact qh ((List.pairwise_append.1 hs).2.2 a ha y (by simp)) hlt
     ·simp at ha; subst ha; exact hlt
   ·rcases List.mem_append.1 hx with hx | hx
    ·exact .inr hx
    ·simp at hx; exact .inl hx
  ·exact ⟨hs, fun x hx => .inr hx, by omega⟩
theorem rR (l : List Ht) : dO (jS l) ∧ (∀ x ∈ jS l, x ∈ l) ∧ (jS l).length ≤ l.length := by
 have key : ∀ (l acc : List Ht), dO acc → dO (l.foldl iJ acc) ∧ (∀ x ∈ l.foldl iJ acc, x ∈ l ∨ x ∈ acc) ∧ (l.foldl iJ acc).length ≤ l.length + acc.length := by
  intro l
  induction l with
  | nil => intro acc h; exact ⟨h, fun x hx => .inr hx, by simp⟩
  | cons h l ih =>
   intro acc hs
   obtain ⟨b1, b2, b3⟩ := Fk (h := h) hs
   obtain ⟨i1, i2, i3⟩ := ih _ b1
   refine ⟨i1, fun x hx => ?_, by rw [List.length_cons, List.foldl_cons]; omega⟩
   rcases i2 x hx with hx | hx
   ·exact .inl (List.mem_cons_of_mem _ hx)
   ·rcases b2 x hx with rfl | hx
    ·exact .inl List.mem_cons_self
    ·exact .inr hx
 obtain ⟨k1, k2, k3⟩ := key l [] .nil
 exact ⟨k1, fun x hx => by rcases k2 x hx with h | h; exact h; simp at h, by simp only [List.length_nil, Nat.add_zero] at k3; exact k3⟩
theorem HM {s : PH} {a : Option Addr} {n c : Nat} {l : List Ht} (h : Sl bh s (a, n, c) l) (hk : pH l) (hn : l.length ≤ 1000000) :
  ai 18 #[.slice a n c] s fun y s' => ∃ a' n' c', y = .slice a' n' c' ∧ Gw bh 75 s s' a' n' c' (jS l) := by
 refine Gf a n c _ s ?_
 unfold Ae
 have hln : n = l.length := h.len
 simp only [bU, cZ, aS, aN, aP, aQ, bI, bP, aE]
 refine ⟨fun z s' => ∃ (i : Nat) (a1 : Option Addr) (n1 c1 : Nat), z = (((a1, n1, c1), ()), ((a, n, c), ()), ((n : Int), ()), ((i : Int), ()), ()) ∧ i ≤ n ∧ Gw bh 75 s s' a1 n1 c1 (jS (l.take i)), fun z _ => n - z.2.2.2.1.1.toNat, ⟨0, none, 0, 0, rfl, Nat.zero_le _, Gw.nil (Mod.refl _ _)⟩, ?_⟩
 rintro _ s1 ⟨i, a1, n1, c1, rfl, hi, hG⟩
 dsimp only
 refine (W.aa _ _ _ _).2 ⟨fun e => ?_, fun e => ?_⟩
 rotate_left
 ·have e : ¬ (i : Int) < (n : Int) := of_decide_eq_false e
  rw [List.take_of_length_le (by omega)] at hG
  exact ⟨a1, n1, c1, rfl, hG⟩
 have hlt : (i : Int) < (n : Int) := of_decide_eq_true e
 obtain ⟨x, hx⟩ : ∃ x, l[i]? = some x := ⟨_, List.getElem?_eq_getElem (by omega)⟩
 obtain ⟨ad, had, hh⟩ := (h.mono hG.md.le).el.aB hx
 dsimp only at had
 subst had
 refine (W.ah _ _ _).2 ⟨⟨Int.natCast_nonneg i, hlt⟩, ?_⟩
 simp only [dh, Int.toNat_natCast]
 have hh : s1.has (ad.add (i * 3)) (bh.f x) := hh
 refine aC hh (y := oG x) rfl ?_
 obtain ⟨acc, hacc⟩ : ∃ acc, jS (l.take i) = acc := ⟨_, rfl⟩
 have hstep : jS (l.take (i + 1)) = iJ acc x := by rw [← hacc]; unfold jS; rw [oC iJ [] hx]
 rw [hacc] at hG
 have hbl := (rR (l.take i)).2.2
 have hbm := (rR (l.take i)).2.1
 rw [hacc] at hbl hbm
 rw [List.length_take] at hbl
 have hn1 := hG.row.len
 rw [ak (k := i) (by omega)]
 have push : iJ acc x = acc ++ [x] → W.nw (.cells #[.string x.key, .int .i64 x.ts, .string x.val] 75 (0, 0)) (fun r => W.app 75 3 40 [.string ⟨#[]⟩, .int .i64 0, .string ⟨#[]⟩] a1 n1 c1 (Src.sl (some ⟨r, 0, none⟩) 1) fun a' n' c' s' => (∃ (k : Nat) (a1 : Option Addr) (n1 c1 : Nat), ((((a', n', c'), ()), ((some ad, n, c), ()), ((n : Int), ()), (((i + 1 : Nat) : Int), ()), ()) : bN [(false, [.slice]), (false, [.slice]), (false, [.int .i64]), (false, [.int .i64])]) = (((a1, n1, c1), ()), ((some ad, n, c), ()), ((n : Int), ()), ((k : Int), ()), ()) ∧ k ≤ n ∧ Gw bh 75 s s' a1 n1 c1 (jS (l.take k))) ∧ n - (((i + 1 : Nat) : Int)).toNat < n - ((i : Int)).toNat) s1 := fun hb => by
  refine hG.push [x] (k := 1) rfl rfl rfl (by omega) (by omega) fun a2 c2 s2 h2 => ?_
  refine ⟨⟨i + 1, a2, n1 + 1, c2, rfl, by omega, by rw [hstep, hb]; exact h2⟩, by simp only [Int.toNat_natCast]; omega⟩
 refine (W.aa _ _ _ _).2 ⟨fun e => ?_, fun e => ?_⟩
 ·have e : (n1 : Int) = 0 := eq_of_beq e
  have hnil : acc = [] := List.eq_nil_of_length_eq_zero (by omega)
  exact push (by unfold iJ; rw [hnil]; (first | done | rfl))
 have e : ¬ (n1 : Int) = 0 := by simpa using e
 obtain ⟨g, hg⟩ : ∃ g, acc[n1 - 1]? = some g := ⟨_, List.getElem?_eq_getElem (by omega)⟩
 have hgl : acc.getLast? = some g := by rw [List.getLast?_eq_getElem?, ← hn1]; exact hg
 have hw : i64.wrap ((n1 : Int) - 1) = ((n1 - 1 : Nat) : Int) := by rw [bW (by omega) (by omega)]; omega
 rw [hw]
 obtain ⟨b, rfl, hhg⟩ := hG.row.at hg
 refine (W.ah _ _ _).2 ⟨⟨Int.natCast_nonneg _, by omega⟩, ?_⟩
 simp only [dh, Int.toNat_natCast, aY, Nat.zero_add]
 have hhg : s1.has ⟨b, (n1 - 1) * 3, none⟩ (bh.f g) := hhg
 refine bz (A := ⟨b, (n1 - 1) * 3, none⟩) (j := 0) hhg (y := (g.key, ())) rfl ?_
 have hgk := hk g (List.mem_of_mem_take (hbm g (List.mem_of_getElem? hg)))
 refine W.bX ((cP g.key x.key, ()), ()) (mH g.key x.key (by omega) s1) rfl ?_
 dsimp only
 have hsl := oR g.key x.key
 refine (W.aa _ _ _ _).2 ⟨fun e2 => ?_, fun e2 => ?_⟩
 ·have e2 : bK g.key x.key = true := hsl.1 (of_decide_eq_true e2)
  exact push (by unfold iJ; rw [hgl]; dsimp only; rw [if_pos e2])
 ·have e2 : ¬ bK g.key x.key = true := fun q => of_decide_eq_false e2 (hsl.2 q)
  refine ⟨⟨i + 1, some ⟨b, 0, none⟩, n1, c1, rfl, by omega, ?_⟩, by (try simp only [Int.toNat_natCast]); omega⟩
  rw [hstep]
  unfold iJ
  rw [hgl]
  dsimp only
  rw [if_neg e2]; exact hG
def gz (l : List gL) : Nat := (l.map fun q => q.b.vals.length).sum
theorem E6 {l : List gL} {k : Nat} {q : gL} (h : l[k]? = some q) : gz (l.take (k + 1)) = gz (l.take k) + q.b.vals.length := by
 unfold gz; rw [List.take_add_one, h]; simp
theorem Fs {s : PH} {t : aG} {S : aF} {ps : List ay} (h : rN s t S ps) {b : aG} {L : List cD} {bs : List gL} (hb : qB s b L bs) {u : aG} {l : List Ht} (hu : ny bh s u l) :
  ai 17 #[eK S t, .slice b.1 b.2.1 b.2.2, .slice u.1 u.2.1 u.2.2] s fun y s' => (∃ g, y = .bool g ∧ (g = false → S.tabs.length + fV S.tabs + gz bs + l.length ≤ 400 ∧ bs.length ≤ 12 ∧ ∀ x ∈ l, x.val.size ≤ 1000)) ∧ s' = s := by
 obtain ⟨ta, tn, tc⟩ := t
 obtain ⟨ba, bn, bc⟩ := b
 obtain ⟨ua, un, uc⟩ := u
 refine Ed S.version S.last ta tn tc ba bn bc ua un uc _ s ?_
 unfold wT
 have htn : tn = ps.length := h.el.el.1
 have hpl : S.tabs.length = ps.length := by rw [h.eq]; simp
 have hun : un = l.length := hu.el.1
 have hbn : bn = bs.length := hb.el.el.1
 have hb1 := h.el.big
 have hb2 := hu.big
 have hb3 := hb.el.big
 simp only [aS, aN, aP, aQ, bI, aE]
 have hw0 : i64.wrap (i64.wrap ((tn : Int) + (bn : Int)) + (un : Int)) = ((tn + bn + un : Nat) : Int) := by
  rw [bW (n := (tn : Int) + (bn : Int)) (by omega) (by omega), bW (by omega) (by omega)]; omega
 rw [hw0]
 refine ⟨fun z s' => ∃ k : Nat, z = ((((tn + bn + un + fV (S.tabs.take k) : Nat) : Int), ()), ((ta, tn, tc), ()), ((tn : Int), ()), ((k : Int), ()), ()) ∧ k ≤ tn ∧ s' = s ∧ tn + bn + un + fV (S.tabs.take k) ≤ 17592186044416, fun z _ => tn - z.2.2.2.1.1.toNat, ⟨0, by simp [fV], Nat.zero_le _, rfl, by simp [fV]; omega⟩, ?_⟩
 rintro _ s0 ⟨k, rfl, hk, rfl, hN⟩
 dsimp only
 refine (W.aa _ _ _ _).2 ⟨fun hlt => ?_, fun hge => ?_⟩
 ·have hlt' : (k : Int) < (tn : Int) := of_decide_eq_true hlt
  obtain ⟨p, hp⟩ : ∃ p, ps[k]? = some p := ⟨_, List.getElem?_eq_getElem (by omega)⟩
  have hT : S.tabs[k]? = some p.T := by rw [h.eq, List.getElem?_map, hp]; (first | done | rfl)
  obtain ⟨ad, had, hh⟩ := h.el.el.aB hp
  dsimp only at had
  subst had
  refine (W.ah _ _ _).2 ⟨⟨Int.natCast_nonneg k, hlt'⟩, ?_⟩
  simp only [dh, Int.toNat_natCast]
  have hh : s0.has (ad.add (k * 5)) (dQ.f p) := hh
  refine aC hh (y := mC p) rfl ?_
  have hP := h.all p (List.mem_of_getElem? hp)
  have l1 : p.c.2.1 = p.T.cols.length := hP.c.el.1
  have l2 : p.x.2.1 = p.T.idxs.length := hP.x.el.1
  have l3 : p.k.2.1 = p.T.keys.length := hP.k.el.1
  have g1 := hP.c.big
  have g2 := hP.x.big
  have g3 := hP.k.big
  have hs := E8 hT
  have hw : i64.wrap (((tn + bn + un + fV (S.tabs.take k) : Nat) : Int) + i64.wrap (i64.wrap (((p.c.2.1 : Nat) : Int) + ((p.x.2.1 : Nat) : Int)) + ((p.k.2.1 : Nat) : Int))) = ((tn + bn + un + fV (S.tabs.take (k + 1)) : Nat) : Int) := by
   rw [bW (n := ((p.c.2.1 : Nat) : Int) + ((p.x.2.1 : Nat) : Int)) (by omega) (by omega), bW (n := ((p.c.2.1 : Nat) : Int) + ((p.x.2.1 : Nat) : Int) + ((p.k.2.1 : Nat) : Int)) (by omega) (by omega), bW (by omega) (by omega), hs]
   omega
  dsimp only
  rw [hw]
  refine (W.aa _ _ _ _).2 ⟨fun hgt => ⟨⟨true, rfl, fun e => by cases e⟩, rfl⟩, fun hle => ?_⟩
  have hle : ¬ ((tn + bn + un + fV (S.tabs.take (k + 1)) : Nat) : Int) > 400 := of_decide_eq_false hle
  rw [ak (k := k) (by omega)]
  exact ⟨⟨k + 1, rfl, by omega, rfl, by omega⟩, by simp only [Int.toNat_natCast]; omega⟩
 have hge : ¬ (k : Int) < (tn : Int) := of_decide_eq_false hge
 have hall : S.tabs.take k = S.tabs := List.take_of_length_le (by omega)
 rw [hall] at hN ⊢
 obtain ⟨N, hNe⟩ : ∃ N, tn + bn + un + fV S.tabs = N := ⟨_, rfl⟩
 rw [hNe] at hN ⊢
 refine ⟨fun z s' => ∃ k : Nat, z = ((((N + gz (bs.take k) : Nat) : Int), ()), ((ba, bn, bc), ()), ((bn : Int), ()), ((k : Int), ()), ()) ∧ k ≤ bn ∧ s' = s0 ∧ N + gz (bs.take k) ≤ 17592186044416, fun z _ => bn - z.2.2.2.1.1.toNat, ⟨0, by simp [gz], Nat.zero_le _, rfl, by simp [gz]; omega⟩, ?_⟩
 rintro _ s1 ⟨k2, rfl, hk2, rfl, hN2⟩
 dsimp only
 refine (W.aa _ _ _ _).2 ⟨fun hlt => ?_, fun hge2 => ?_⟩
 ·have hlt' : (k2 : Int) < (bn : Int) := of_decide_eq_true hlt
  obtain ⟨q, hq⟩ : ∃ q, bs[k2]? = some q := ⟨_, List.getElem?_eq_getElem (by omega)⟩
  obtain ⟨ad, had, hh⟩ := hb.el.el.aB hq
  dsimp only at had
  subst had
  refine (W.ah _ _ _).2 ⟨⟨Int.natCast_nonneg k2, hlt'⟩, ?_⟩
  simp only [dh, Int.toNat_natCast]
  have hh : s1.has (ad.add (k2 * 11)) (mG.f q) := hh
  refine aC hh (y := uU q.b q.t) rfl ?_
  have hQ := hb.all q (List.mem_of_getElem? hq)
  have l1 : q.t.2.1 = q.b.vals.length := hQ.v.el.1
  have g1 := hQ.v.big
  have hs := E6 hq
  have hw : i64.wrap (((N + gz (bs.take k2) : Nat) : Int) + ((q.t.2.1 : Nat) : Int)) = ((N + gz (bs.take (k2 + 1)) : Nat) : Int) := by
   rw [bW (by omega) (by omega), hs]; omega
  have hw2 : i64.wrap (((N + gz (bs.take k2) : Nat) : Int) + (((uU q.b q.t).2.2.1.2.1 : Nat) : Int)) = ((N + gz (bs.take (k2 + 1)) : Nat) : Int) := hw
  dsimp only
  rw [hw2]
  refine (W.aa _ _ _ _).2 ⟨fun hgt => ⟨⟨true, rfl, fun e => by cases e⟩, rfl⟩, fun hle => ?_⟩
  have hle : ¬ ((N + gz (bs.take (k2 + 1)) : Nat) : Int) > 400 := of_decide_eq_false hle
  rw [ak (k := k2) (by omega)]
  exact ⟨⟨k2 + 1, rfl, by omega, rfl, by omega⟩, by simp only [Int.toNat_natCast]; omega⟩
 have hge2 : ¬ (k2 : Int) < (bn : Int) := of_decide_eq_false hge2
 have hall2 : bs.take k2 = bs := List.take_of_length_le (by omega)
 rw [hall2] at hN2 ⊢
 refine ⟨fun z s' => ∃ k : Nat, z = ((((N + gz bs : Nat) : Int), ()), ((ua, un, uc), ()), ((un : Int), ()), ((k : Int), ()), ()) ∧ k ≤ un ∧ s' = s1 ∧ ∀ x ∈ l.take k, x.val.size ≤ 1000, fun z _ => un - z.2.2.2.1.1.toNat, ⟨0, rfl, Nat.zero_le _, rfl, by simp⟩, ?_⟩
 rintro _ s2 ⟨k3, rfl, hk3, rfl, hv⟩
 dsimp only
 refine (W.aa _ _ _ _).2 ⟨fun hlt => ?_, fun hge3 => ?_⟩
 ·have hlt' : (k3 : Int) < (un : Int) := of_decide_eq_true hlt
  obtain ⟨x, hx⟩ : ∃ x, l[k3]? = some x := ⟨_, List.getElem?_eq_getElem (by omega)⟩
  obtain ⟨ad, had, hh⟩ := hu.el.aB hx
  dsimp only at had
  subst had
  refine (W.ah _ _ _).2 ⟨⟨Int.natCast_nonneg k3, hlt'⟩, ?_⟩
  simp only [dh, Int.toNat_natCast]
  have hh : s2.has (ad.add (k3 * 3)) (bh.f x) := hh
  refine aC hh (y := oG x) rfl ?_
  dsimp only
  refine (W.aa _ _ _ _).2 ⟨fun hgt => ⟨⟨true, rfl, fun e => by cases e⟩, rfl⟩, fun hle => ?_⟩
  have hle : ¬ ((x.val.size : Nat) : Int) > 1000 := of_decide_eq_false hle
  rw [ak (k := k3) (by omega)]
  refine ⟨⟨k3 + 1, rfl, by omega, rfl, fun y hy => ?_⟩, by simp only [Int.toNat_natCast]; omega⟩
  rw [List.take_add_one, hx, List.mem_append] at hy
  rcases hy with hy | hy
  ·exact hv y hy
  ·simp at hy; subst hy; omega
 have hge3 : ¬ (k3 : Int) < (un : Int) := of_decide_eq_false hge3
 rw [List.take_of_length_le (by omega)] at hv
 refine (W.aa _ _ _ _).2 ⟨fun hgt => ⟨⟨true, rfl, fun e => by cases e⟩, rfl⟩, fun hle => ?_⟩
 have hle : ¬ ((N + gz bs : Nat) : Int) > 400 := of_decide_eq_false hle
 refine ⟨⟨_, rfl, fun e => ?_⟩, rfl⟩
 have e : ¬ (bn : Int) > 12 := of_decide_eq_false e
 exact ⟨by omega, by omega, hv⟩
theorem rN.KH {s : PH} {t : aG} {S : aF} {ps : List ay} (h : rN s t S ps) (hl : S.tabs.length + fV S.tabs ≤ 400) : cX s t S ps := by
 have key : ∀ (l : List aO), ∀ T ∈ l, T.cols.length + T.idxs.length + T.keys.length ≤ fV l := by
  intro l
  induction l with
  | nil => simp
  | cons a l ih =>
   intro T hT
   have e : fV (a :: l) = (a.cols.length + a.idxs.length + a.keys.length) + fV l := by simp [fV]
   rcases List.mem_cons.1 hT with rfl | hT
   ·omega
   ·have := ih T hT; omega
 have hpl : S.tabs.length = ps.length := by rw [h.eq]; simp
 refine ⟨h.el.cF (by omega), h.eq, fun p hp => ?_⟩
 have hT : p.T ∈ S.tabs := by rw [h.eq]; exact List.mem_map_of_mem hp
 have := key S.tabs p.T hT
 obtain ⟨a, b, c⟩ := h.all p hp
 exact ⟨a.cF (by omega), b.cF (by omega), c.cF (by omega)⟩
theorem qB.cF {s : PH} {b : aG} {L : List cD} {bs : List gL} (h : qB s b L bs) (h1 : gz bs ≤ 400) (h2 : bs.length ≤ 12) : Sl mG s b bs ∧ ∀ q ∈ bs, Sl dJ s q.t q.b.vals ∧ Df q.b := by
 have key : ∀ (l : List gL), ∀ q ∈ l, q.b.vals.length ≤ gz l := by
  intro l
  induction l with
  | nil => simp
  | cons a l ih =>
   intro q hq
   have e : gz (a :: l) = a.b.vals.length + gz l := by simp [gz]
   rcases List.mem_cons.1 hq with rfl | hq
   ·omega
   ·have := ih q hq; omega
 refine ⟨h.el.cF (by omega), fun q hq => ⟨(h.all q hq).v.cF ?_, (h.all q hq).ok⟩⟩
 have := key bs q hq
 omega
end
section
attribute [-simp] Fw.W.bD Fw.W.bB
theorem Av {s : PH} {a b : Option Addr} {n c m d : Nat} {l : List Ht} (h : Sl bh s (a, n, c) l) (h2 : Sl bh s (b, m, d) l) :
  ai 26 #[.slice a n c, .slice b m d] s fun y s' => y = .bool true ∧ s' = s := by
 refine zl a n c b m d _ s ?_
 unfold qy
 have hln : n = l.length := h.len
 have hlm : m = l.length := h2.len
 have hf := h.cF
 simp only [aS, aN, aP, aQ, bI, aU, aE]
 refine ⟨fun z s' => ∃ i : Nat, z = (((n : Int), ()), ((i : Int), ()), ()) ∧ i ≤ n ∧ s = s', fun z _ => n - z.2.1.1.toNat, ⟨0, rfl, Nat.zero_le _, rfl⟩, ?_⟩
 rintro _ _ ⟨i, rfl, hi, rfl⟩
 dsimp only
 refine (W.aa _ _ _ _).2 ⟨fun e => ?_, fun _ => ⟨rfl, rfl⟩⟩
 have hlt : (i : Int) < (n : Int) := of_decide_eq_true e
 obtain ⟨x, hx⟩ : ∃ x, l[i]? = some x := ⟨_, List.getElem?_eq_getElem (by omega)⟩
 obtain ⟨ad, had, hh⟩ := h.el.aB hx
 obtain ⟨bd, hbd, hhb⟩ := h2.el.aB hx
 have hh : s.has (ad.add (i * 3)) (bh.f x) := hh
 have hhb : s.has (bd.add (i * 3)) (bh.f x) := hhb
 have ga : (0 : Int) ≤ (i : Int) ∧ (i : Int) < (n : Int) := ⟨Int.natCast_nonneg i, hlt⟩
 have gb : (0 : Int) ≤ (i : Int) ∧ (i : Int) < (m : Int) := ⟨Int.natCast_nonneg i, by omega⟩
 refine (W.ah _ _ _).2 ⟨ga, bg had ?_⟩
 simp only [Int.toNat_natCast]
 refine bz (j := 0) hh (y := (x.key, ())) rfl ?_
 refine (W.ah _ _ _).2 ⟨gb, bg hbd ?_⟩
 refine bz (j := 0) hhb (y := (x.key, ())) rfl ?_
 dsimp only
 rw [bL, decide_eq_true rfl]
 refine (W.aa _ _ _ _).2 ⟨fun e => (by cases e), fun _ => ?_⟩
 refine (W.ah _ _ _).2 ⟨ga, bg had ?_⟩
 refine bz (j := 2) hh (y := (x.val, ())) rfl ?_
 refine (W.ah _ _ _).2 ⟨gb, bg hbd ?_⟩
 refine bz (j := 2) hhb (y := (x.val, ())) rfl ?_
 dsimp only
 rw [bL, decide_eq_true rfl]
 refine (W.aa _ _ _ _).2 ⟨fun e => (by cases e), fun _ => ?_⟩
 rw [ak (k := i) (by omega)]
 exact ⟨⟨i + 1, rfl, by omega, rfl⟩, by simp only [Int.toNat_natCast]; omega⟩
theorem rS {n m : Nat} (h : n = m) : (((n : Nat) : Int) != ((m : Nat) : Int)) = false := by rw [h]; simp
theorem Fy {s : PH} {a b : Option Addr} {n c m d : Nat} {l : List aR} (h : Sl dJ s (a, n, c) l) (h2 : Sl dJ s (b, m, d) l) :
  ai 82 #[.slice a n c, .slice b m d] s fun y s' => y = .bool true ∧ s' = s := by
 refine Ej a n c b m d _ s ?_
 unfold wZ
 have hln : n = l.length := h.len
 have hlm : m = l.length := h2.len
 have hf := h.cF
 simp only [aS, aN, aP, aQ, bI, aU, aE]
 refine (W.aa _ _ _ _).2 ⟨fun e => (by rw [rS (by omega)] at e; cases e), fun _ => ?_⟩
 refine ⟨fun z s' => ∃ i : Nat, z = (((i : Int), ()), ()) ∧ i ≤ n ∧ s = s', fun z _ => n - z.1.1.toNat, ⟨0, rfl, Nat.zero_le _, rfl⟩, ?_⟩
 rintro _ _ ⟨i, rfl, hi, rfl⟩
 dsimp only
 refine (W.aa _ _ _ _).2 ⟨fun e => ?_, fun _ => ⟨rfl, rfl⟩⟩
 have hlt : (i : Int) < (n : Int) := of_decide_eq_true e
 obtain ⟨x, hx⟩ : ∃ x, l[i]? = some x := ⟨_, List.getElem?_eq_getElem (by omega)⟩
 obtain ⟨ad, had, hh⟩ := h.el.aB hx
 obtain ⟨bd, hbd, hhb⟩ := h2.el.aB hx
 have hh : s.has (ad.add (i * 3)) (dJ.f x) := hh
 have hhb : s.has (bd.add (i * 3)) (dJ.f x) := hhb
 refine (W.ah _ _ _).2 ⟨⟨Int.natCast_nonneg i, hlt⟩, bg had ?_⟩
 simp only [Int.toNat_natCast]
 refine aC hh (y := bH x) rfl ?_
 refine (W.ah _ _ _).2 ⟨⟨Int.natCast_nonneg i, by omega⟩, bg hbd ?_⟩
 refine aC hhb (y := bH x) rfl ?_
 dsimp only
 rw [jf, decide_eq_true rfl]
 refine (W.aa _ _ _ _).2 ⟨fun e => (by cases e), fun _ => ?_⟩
 rw [ak (k := i) (by omega)]
 exact ⟨⟨i + 1, rfl, by omega, rfl⟩, by simp only [Int.toNat_natCast]; omega⟩
structure Dh (s : PH) (t : aG) (L : List Rp) (qs : List pK) : Prop where
 el : Sl rm s t qs
 eq : qs.map (·.r) = L
 rs : ∀ q ∈ qs, Sl Hu s q.u q.vs ∧ q.vs.map (·.l) = q.r.rows ∧ ∀ v ∈ q.vs, Sl dJ s v.u v.l
theorem uW {s : PH} {a b : aG} {L : List Rp} {qs ps : List pK} (h : Dh s a L qs) (h2 : Dh s b L ps) :
  ai 25 #[.slice a.1 a.2.1 a.2.2, .slice b.1 b.2.1 b.2.2] s fun y s' => y = .bool true ∧ s' = s := by
 refine tO a.1 a.2.1 a.2.2 b.1 b.2.1 b.2.2 _ s ?_
 unfold mY
 have hln : a.2.1 = qs.length := h.el.len
 have hlm : b.2.1 = ps.length := h2.el.len
 have hqp : qs.length = ps.length := by
  have h3 := congrArg List.length h.eq
  have h4 := congrArg List.length h2.eq
  rw [List.length_map] at h3 h4; omega
 have hf := h.el.cF
 simp only [aS, aN, aP, aQ, bI, aU, aE, cE]
 refine (W.aa _ _ _ _).2 ⟨fun e => (by rw [rS (by omega)] at e; cases e), fun _ => ?_⟩
 refine ⟨fun z s' => ∃ i : Nat, z = (((i : Int), ()), ()) ∧ i ≤ a.2.1 ∧ s = s', fun z _ => a.2.1 - z.1.1.toNat, ⟨0, rfl, Nat.zero_le _, rfl⟩, ?_⟩
 rintro _ _ ⟨i, rfl, hi, rfl⟩
 dsimp only
 refine (W.aa _ _ _ _).2 ⟨fun e => ?_, fun _ => ⟨rfl, rfl⟩⟩
 have hlt : (i : Int) < (a.2.1 : Int) := of_decide_eq_true e
 obtain ⟨q, hq⟩ : ∃ q, qs[i]? = some q := ⟨_, List.getElem?_eq_getElem (by omega)⟩
 obtain ⟨p, hp⟩ : ∃ p, ps[i]? = some p := ⟨_, List.getElem?_eq_getElem (by omega)⟩
 have hr : q.r = p.r := by
  have h3 : (qs.map (·.r))[i]? = (ps.map (·.r))[i]? := by rw [h.eq, h2.eq]
  rw [List.getElem?_map, List.getElem?_map, hq, hp] at h3
  exact Option.some.inj h3
 obtain ⟨ad, had, hh⟩ := h.el.el.aB hq
 obtain ⟨bd, hbd, hhb⟩ := h2.el.el.aB hp
 have hh : s.has (ad.add (i * 2)) (rm.f q) := hh
 have hhb : s.has (bd.add (i * 2)) (rm.f p) := hhb
 have ga : (0 : Int) ≤ (i : Int) ∧ (i : Int) < (a.2.1 : Int) := ⟨Int.natCast_nonneg i, hlt⟩
 have gb : (0 : Int) ≤ (i : Int) ∧ (i : Int) < (b.2.1 : Int) := ⟨Int.natCast_nonneg i, by omega⟩
 obtain ⟨q1, q2, q3⟩ := h.rs q (List.mem_of_getElem? hq)
 obtain ⟨p1, p2, p3⟩ := h2.rs p (List.mem_of_getElem? hp)
 have hqn : q.u.2.1 = q.vs.length := q1.len
 have hpn : p.u.2.1 = p.vs.length := p1.len
 have hqpn : q.vs.length = p.vs.length := by
  have h3 : q.vs.map (·.l) = p.vs.map (·.l) := by rw [q2, p2, hr]
  have := congrArg List.length h3
  rwa [List.length_map, List.length_map] at this
 have hf2 := q1.cF
 refine W.bl (fun z s' => z = (((i : Int), ()), ()) ∧ s = s') ?_ ?_
 rotate_left
 ·intro J hJ
  refine (W.ah _ _ _).2 ⟨ga, bg had ?_⟩
  simp only [Int.toNat_natCast]
  refine bz (j := 0) hh (y := (q.r.n, ())) rfl ?_
  refine (W.ah _ _ _).2 ⟨gb, bg hbd ?_⟩
  refine bz (j := 0) hhb (y := (p.r.n, ())) rfl ?_
  dsimp only
  refine (W.aa _ _ _ _).2 ⟨fun e => (by rw [hr] at e; simp at e), fun _ => ?_⟩
  refine (W.ah _ _ _).2 ⟨ga, bg had ?_⟩
  refine bz (j := 1) hh (y := (q.u, ())) rfl ?_
  refine (W.ah _ _ _).2 ⟨gb, bg hbd ?_⟩
  refine bz (j := 1) hhb (y := (p.u, ())) rfl ?_
  dsimp only
  refine (W.aa _ _ _ _).2 ⟨fun e => (by
   have e : (((q.u.2.1 : Nat) : Int) != ((p.u.2.1 : Nat) : Int)) = true := e
   rw [rS (by omega)] at e; cases e), fun _ => hJ _ _ ⟨rfl, rfl⟩⟩
 rintro _ _ ⟨rfl, rfl⟩
 dsimp only
 refine ⟨fun z s' => ∃ j : Nat, z = (((i : Int), ()), ((j : Int), ()), ()) ∧ j ≤ q.u.2.1 ∧ s = s', fun z _ => q.u.2.1 - z.2.1.1.toNat, ⟨0, rfl, Nat.zero_le _, rfl⟩, ?_⟩
 rintro _ _ ⟨j, rfl, hj, rfl⟩
 dsimp only
 refine (W.ah _ _ _).2 ⟨ga, bg had ?_⟩
 simp only [Int.toNat_natCast]
 refine bz (j := 1) hh (y := (q.u, ())) rfl ?_
 dsimp only
 refine (W.aa _ _ _ _).2 ⟨fun e => ?_, fun _ => ?_⟩
 ·have hlj : (j : Int) < (q.u.2.1 : Int) := of_decide_eq_true e
  obtain ⟨v, hv⟩ : ∃ v, q.vs[j]? = some v := ⟨_, List.getElem?_eq_getElem (by omega)⟩
  obtain ⟨v2, hv2⟩ : ∃ v, p.vs[j]? = some v := ⟨_, List.getElem?_eq_getElem (by omega)⟩
  have hvl : v.l = v2.l := by
   have h3 : (q.vs.map (·.l))[j]? = (p.vs.map (·.l))[j]? := by rw [q2, p2, hr]
   rw [List.getElem?_map, List.getElem?_map, hv, hv2] at h3
   exact Option.some.inj h3
  obtain ⟨vd, hvd, hhv⟩ := q1.el.aB hv
  obtain ⟨wd, hwd, hhw⟩ := p1.el.aB hv2
  have hhv : s.has (vd.add (j * 1)) (Hu.f v) := hhv
  have hhw : s.has (wd.add (j * 1)) (Hu.f v2) := hhw
  refine (W.ah _ _ _).2 ⟨ga, bg had ?_⟩
  refine bz (j := 1) hh (y := (q.u, ())) rfl ?_
  refine (W.ah _ _ _).2 ⟨⟨Int.natCast_nonneg j, hlj⟩, bg hvd ?_⟩
  refine aC hhv (y := (v.u, ())) rfl ?_
  refine (W.ah _ _ _).2 ⟨gb, bg hbd ?_⟩
  refine bz (j := 1) hhb (y := (p.u, ())) rfl ?_
  refine (W.ah _ _ _).2 ⟨⟨Int.natCast_nonneg j, by show (j : Int) < (p.u.2.1 : Int); omega⟩, bg hwd ?_⟩
  refine aC hhw (y := (v2.u, ())) rfl ?_
  have s1 := q3 v (List.mem_of_getElem? hv)
  have s2 := p3 v2 (List.mem_of_getElem? hv2)
  rw [← hvl] at s2
  refine aL ((true, ()), ()) (Fy (a := v.u.1) (n := v.u.2.1) (c := v.u.2.2) (b := v2.u.1) (m := v2.u.2.1) (d := v2.u.2.2) s1 s2) rfl ?_
  refine (W.aa _ _ _ _).2 ⟨fun e => (by cases e), fun _ => ?_⟩
  rw [ak (k := j) (by omega)]
  exact ⟨⟨j + 1, rfl, by omega, rfl⟩, by simp only [Int.toNat_natCast]; omega⟩
 ·rw [ak (k := i) (by omega)]
  exact ⟨⟨i + 1, rfl, by omega, rfl⟩, by simp only [Int.toNat_natCast]; omega⟩
end
section
attribute [-simp] Fw.W.bD Fw.W.bB
theorem wH : ∀ {l seen : List Int} {last : Int}, aT last l seen = true → (∀ n ∈ l, 1 ≤ n ∧ n ≤ last ∧ n ∉ seen) ∧ l.Nodup
 | [], seen, last, _ => by simp
 | n :: l, seen, last, h => by
  simp only [aT, Bool.and_eq_true, decide_eq_true_eq, Bool.not_eq_true', decide_eq_false_iff_not] at h
  obtain ⟨i1, i2⟩ := wH h.2.2
  refine ⟨fun m hm => ?_, List.nodup_cons.2 ⟨fun hn => (i1 n hn).2.2 (by simp), i2⟩⟩
  rcases List.mem_cons.1 hm with rfl | hm
  ·exact ⟨h.1.1, h.1.2, h.2.1⟩
  ·obtain ⟨a, b, c⟩ := i1 m hm
   exact ⟨a, b, fun g => c (List.mem_cons_of_mem _ g)⟩
theorem EK {S : aF} (h : right S = true) : (∀ n ∈ S.tabs.flatMap cB, 1 ≤ n ∧ n ≤ 1125899906842624) ∧ (S.tabs.flatMap cB).Nodup := by
 obtain ⟨a, b, c, d, e⟩ := ez.1 h
 obtain ⟨i1, i2⟩ := wH e
 obtain ⟨hb, _, _⟩ := sH h
 refine ⟨fun n hn => ?_, i2⟩
 obtain ⟨x, y, _⟩ := i1 n hn
 have := hb.last.2
 exact ⟨x, by omega⟩
theorem GQ {S : aF} {i : Int} (h : 0 ≤ dw S i) : ∃ U, gZ S i = some U ∧ S.tabs[(dw S i).toNat]? = some U := by
 unfold dw at h ⊢
 rcases mL (fun T : aO => decide (T.id = i)) S.tabs with ⟨h1, _⟩ | ⟨j, U, h1, h2, h3⟩
 ·omega
 ·refine ⟨U, ?_, by rw [h1]; exact h2⟩
  unfold gZ
  rw [← h3]
  congr 1
theorem nj {S : aF} (h : right S = true) (hr : xY S) : (∀ T ∈ S.tabs, gh S T) ∧ S.tabs.length ≤ 6 := by
 obtain ⟨a, b, c, d, e⟩ := ez.1 h
 obtain ⟨hbd, _, _⟩ := sH h
 have hids := (EK h).1
 refine ⟨fun T hT => ?_, hbd.tabs⟩
 obtain ⟨i, hi⟩ := List.mem_iff_getElem?.1 hT
 obtain ⟨x1, x2, x3, x4, _, _, _, q3, c1, c2, c3⟩ := gx.1 (cm.1 d i T hi)
 have hne : T.cols ≠ [] := fun g => by rw [g] at x1; simp at x1
 refine ⟨hne, fun c0 hc0 => ?_, fun c0 hc0 => ?_, fun x hx => ?_, by omega, by omega, by omega⟩
 ·unfold eT at q3
  cases hcs : T.cols with
  | nil => exact absurd hcs hne
  | cons c1 l =>
   rw [hcs] at q3 hc0
   simp at hc0
   subst hc0
   simpa using q3
 ·obtain ⟨j, hj⟩ := List.mem_iff_getElem?.1 hc0
  have h1 := cm.1 c1 j c0 hj
  unfold fR at h1
  simp only [Bool.and_eq_true] at h1
  have h2 := hids c0.id (List.mem_flatMap.2 ⟨T, hT, by unfold cB; simp only [List.mem_cons, List.mem_append, List.mem_map]; exact .inr (.inl ⟨c0, hc0, rfl⟩)⟩)
  exact ⟨h2.1, by omega, vf h1.2.2, hr T hT c0 hc0⟩
 ·obtain ⟨j, hj⟩ := List.mem_iff_getElem?.1 hx
  have h1 := cm.1 c3 j x hj
  unfold gT at h1
  simp only [Bool.and_eq_true, decide_eq_true_eq] at h1
  obtain ⟨U, hU, hU2⟩ := GQ h1.2.2.1
  refine ⟨U, hU, fun g => ?_⟩
  have h2 := h1.2.2.2
  unfold oK at h2
  rw [hU2] at h2
  cases hc : T.cols[(cK T x.column).toNat]? with
  | none => rw [hc] at h2; cases h2
  | some c =>
   rw [hc] at h2
   dsimp only at h2
   rw [g] at h2; cases h2
theorem FB {s : PH} {t : aG} {S : aF} {ps : List ay} (h : cX s t S ps) (D : nk) (hk1 : D.kind = 1) {u : aG} (hu : Sl dx s u D.cols) (hul : D.cols.length ≤ 1073741824) (st : Int) :
  ai 27 #[eK S t, FL D u, .int .i64 st] s (oe s (S.kP D st).1 (S.kP D st).2) := by
 obtain ⟨ua, un, uc⟩ := u
 obtain ⟨ta, tn, tc⟩ := t
 refine Gm S.version S.last ta tn tc D.kind D.table D.name D.column D.parent D.unique D.type D.dflt.kind D.dflt.n D.dflt.s ua un uc st _ s ?_
 unfold Al
 obtain ⟨R, hR⟩ : ∃ R, oe s (S.kP D st).1 (S.kP D st).2 = R := ⟨_, rfl⟩
 rw [hR]
 simp only [cE, aN, aU, bP, aE, bU, cZ, gN, bI, aQ, aP, aS, lY, pJ, lT, nt, W.az]
 refine W.bl (fun z s' => z = ((S.version, S.last, (ta, tn, tc), ()), (D.kind, D.table, D.name, D.column, D.parent, D.unique, D.type, D.dflt.kind, D.dflt.n, D.dflt.s, (ua, un, uc), ()), (0, 0, (none, 0, 0), ()), ()) ∧ s' = s ∧ right S = true ∧ 0 ≤ st ∧ st ≤ 3) ?_ ?_
 rotate_left
 ·intro J hJ
  have hbad : ¬ (right S = true ∧ 0 ≤ st ∧ st ≤ 3) → R (.tuple #[eK eF dF, .int .i64 100]) s := by
   intro e
   have : S.kP D st = (eF, 100) := by
    unfold aF.kP; rw [if_pos]
    cases hr : right S
    ·rfl
    ·rw [hr] at e
     simp only [Bool.true_and, Bool.and_eq_false_iff, decide_eq_false_iff_not]
     simp only [true_and] at e
     omega
   rw [← hR, this]
   exact so (Mod.refl _ _)
  have hc := FA h
  obtain ⟨E, hE⟩ : ∃ E, right S = E := ⟨_, rfl⟩
  rw [hE] at hc hbad hJ
  refine aL ((E, ()), ()) hc rfl ?_
  simp only [W.aa, decide_eq_true_eq, decide_eq_false_iff_not]
  exact ⟨fun h1 => hbad (fun e => by rw [e.1] at h1; cases h1), fun h1 => ⟨fun h2 => hbad (by omega), fun h2 => ⟨fun h3 => hbad (by omega), fun h3 => hJ _ _ ⟨rfl, rfl, tN h1, by omega, by omega⟩⟩⟩⟩
 rintro _ s0 ⟨rfl, rfl, hr, hst0, hst3⟩
 have hturn0 : S.kP D st = if D.kind < 1 ∨ 7 < D.kind then (eF, 1) else match kX { S with version := S.version + 1 } D st with
   | .error e => (eF, e)
   | .ok S' => (S', 0) := by
  unfold aF.kP
  rw [if_neg (by rw [hr, decide_eq_true hst0, decide_eq_true hst3]; simp)]
  first | done | rfl
 refine W.bl (fun z s' => z = ((S.version, S.last, (ta, tn, tc), ()), (D.kind, D.table, D.name, D.column, D.parent, D.unique, D.type, D.dflt.kind, D.dflt.n, D.dflt.s, (ua, un, uc), ()), (0, 0, (none, 0, 0), ()), ()) ∧ s' = s0 ∧ ¬ (D.kind < 1 ∨ 7 < D.kind)) ?_ ?_
 rotate_left
 ·intro J hJ
  have hbad : (D.kind < 1 ∨ 7 < D.kind) → R (.tuple #[eK eF dF, .int .i64 1]) s0 := by
   intro e
   rw [← hR, hturn0, if_pos e]
   exact so (Mod.refl _ _)
  simp only [W.aa, decide_eq_true_eq, decide_eq_false_iff_not]
  exact ⟨fun h2 => hbad (by omega), fun h2 => ⟨fun h3 => hbad (by omega), fun h3 => hJ _ _ ⟨rfl, rfl, by omega⟩⟩⟩
 rintro _ s1 ⟨rfl, rfl, hkind⟩
 rw [if_neg hkind] at hturn0
 obtain ⟨hbd, hv0, hv1⟩ := sH hr
 have hsn := GK hr
 have hvw : i64.wrap (S.version + 1) = S.version + 1 := bW (by omega) (by omega)
 refine W.au (HQ h) ?_
 rintro _ s2 ⟨t', ps', rfl, hH, he, m2, hf⟩
 refine ⟨((S.version, S.last, t', ()), ()), rfl, ?_⟩
 simp only [hvw]
 obtain ⟨S1, hS1⟩ : ∃ S1 : aF, S1 = ⟨S.version + 1, S.last, S.tabs⟩ := ⟨_, rfl⟩
 have hbd1 : S1.Bd := by rw [hS1]; exact ⟨hbd.tabs, hbd.each, hbd.last⟩
 have hsn1 : S1.Sn := by rw [hS1]; exact ⟨hsn.c, hsn.x, hsn.k⟩
 have he1 : S1.tabs = ps'.map (·.T) := by rw [hS1]; exact he
 have hSch2 : cX s2 t' S1 ps' := hH.is he1 (by have := hbd1.tabs; omega) (fun T hT => by obtain ⟨_, a, b, c⟩ := hbd1.each T hT; exact ⟨by omega, by omega, by omega⟩)
 have eS1 : (⟨S.version + 1, S.last, S.tabs⟩ : aF) = S1 := hS1.symm
 have hturn2 : S.kP D st = (kX S1 D st).out := by rw [← eS1]; exact hturn0
 have hv : S.version + 1 = S1.version := by rw [hS1]
 have hl : S.last = S1.last := by rw [hS1]
 rw [hv, hl]
 have herr := EY S1 D st
 have hu2 := hu.mono m2.le
 refine aL ((ff S1 D.table, ()), ()) (ou hSch2 D.table) rfl ?_
 have hk0 : ∀ e, oe s1 eF e (.tuple #[eK eF dF, .int .i64 e]) s2 → S.kP D st = (eF, e) → R (.tuple #[eK eF dF, .int .i64 e]) s2 := fun e hg ht => by rw [← hR, ht]; exact hg
 simp only [W.aa, decide_eq_true_eq, decide_eq_false_iff_not]
 refine ⟨fun h1 => ?_, fun h1 => ?_⟩
 ·have h1 : D.kind = 1 := by simpa using h1
  have ht1 : kX S1 D st = ct S1 D st := by unfold kX; rw [if_pos h1]
  rw [ht1] at herr hturn2
  refine W.au (Dx hH he1 hbd1 D hu2 hul st) ?_
  intro y s3 ho
  refine EB ho m2 hf herr hturn2 (K := fun _ => True) ?_ ?_
  ·intro S'' t'' e hne hg ht
   simp only [W.aa]
   refine ⟨fun _ => by rw [← hR, ht]; exact hg, fun hz => absurd (by simpa using hz) hne⟩
  ·intro S' t'' hg ht
   refine (W.aa _ _ _ _).2 ⟨fun hz => by simp at hz, fun _ => ?_⟩
   show R _ _
   rw [← hR, ht]; exact hg
 have h1 : D.kind ≠ 1 := by simpa using h1
 exact absurd hk1 h1
abbrev ij : cD := ⟨1, 1, [bf 5, ⟨2, 0, bs [120]⟩], 0, mj, 0, mj⟩
theorem Ba : right gE = true := by kernel_rfl
theorem G9 : gQ gE = 0 := by kernel_rfl
theorem Jj : xY gE := by
 intro T hT c hc
 have h1 : T = ⟨1, bs [116], [⟨2, bs [97], 1, 3, ⟨0, 0, emp⟩⟩, ⟨3, bs [98], 2, 3, ⟨0, 0, emp⟩⟩], [], []⟩ := by simpa [gE] using hT
 subst h1
 have h2 : c = ⟨2, bs [97], 1, 3, ⟨0, 0, emp⟩⟩ ∨ c = ⟨3, bs [98], 2, 3, ⟨0, 0, emp⟩⟩ := by simpa using hc
 rcases h2 with rfl | rfl
 ·exact ⟨by decide, by decide⟩
 ·exact ⟨by decide, by decide⟩
theorem Jk : (bp gE 0 [ij] []).err = 0 ∧ (bp gE 0 [ij] []).asks = [cA 1 (bf 5)] ∧ (bp gE 0 [ij] []).reps = [⟨1, []⟩] ∧ ∃ x, (bp gE 0 [ij] []).ws = [x] ∧ x.key = iG 1 (bf 5) := by
 refine ⟨by kernel_rfl, by kernel_rfl, by kernel_rfl, (bp gE 0 [ij] []).ws.headD ⟨emp, emp, false⟩, by kernel_rfl, by kernel_rfl⟩
theorem Jl : (bp gE 0 [ij, ij] []).err = 210 ∧ (bp gE 0 [ij, ij] []).at_ = 1 := by
 exact ⟨by kernel_rfl, by kernel_rfl⟩
theorem zL (s : PH) : iC s dF [] := ⟨Sl.nil, by show 0 ≤ 100000; omega, by intro h hh; simp at hh, by intro h hh; simp at hh, .nil⟩
theorem yq (s : PH) : ai 16 #[] s fun y s' => y = .bool true ∧ s' = s := by
 refine bu.quiet (Ec _ s ?_)
 unfold wS
 simp only [aU, bP, bU, aN, aE, aP, aQ, bI]
 refine W.au (Dr s) ?_
 rintro _ s1 ⟨u, rfl, hu, m1⟩
 refine ⟨((kC.kind, kC.table, kC.name, kC.column, kC.parent, kC.unique, kC.type, kC.dflt.kind, kC.dflt.n, kC.dflt.s, u, ()), ()), rfl, ?_⟩
 have hno : cX s1 dF eF [] := ⟨Sl.nil, rfl, by simp⟩
 have hc1 := FB hno kC rfl hu (by decide) 3
 have hz1 := IK eF kC 3
 rw [KG] at hc1 hz1
 refine W.au hc1 ?_
 intro y s2 hg
 obtain ⟨t2, ps2, rfl, hS2, _, m2, _⟩ := FO hg hz1
 refine ⟨((gE.version, gE.last, t2, ()), (0, ()), ()), rfl, ?_⟩
 refine aL (bH (bf 5), ()) (th 5 s2) rfl ?_
 refine W.bG fun r1 s3 hr1 m3 k1 => ?_
 refine W.bG fun r2 s4 hr2 m4 k2 => ?_
 have hv : ∀ {s' : PH}, Fw.Mod [] s3 s' → Sl dJ s' (some ⟨r1, 0, none⟩, 2, 2) ij.vals := fun hm =>
  (Sl.bE (t := (some ⟨r1, 0, none⟩, 2, 2)) (lV (E := dJ) (l := ij.vals) k1 rfl rfl (by show 2 ≤ 4294967296; omega)) (by simp)).mono hm.le
 have hb4 : Sl mG s4 (some ⟨r2, 0, none⟩, 1, 1) [⟨ij, (some ⟨r1, 0, none⟩, 2, 2)⟩] := Sl.bE (t := (some ⟨r2, 0, none⟩, 1, 1)) (lV (E := mG) k2 rfl rfl (by show 1 ≤ 4294967296; omega)) (by simp)
 have hexok : Df ij := ⟨⟨by decide, by decide⟩, ⟨by decide, by decide⟩, fun v hv => by
  have : v = bf 5 ∨ v = ⟨2, 0, bs [120]⟩ := by simpa using hv
  rcases this with rfl | rfl
  ·exact ⟨by decide, by decide⟩
  ·exact ⟨by decide, by decide⟩⟩
 have hS4 := hS2.mono (m3.trans m4).le
 have hcn : jN 1000 [] := fun h hh => by simp at hh
 refine W.au (yz (N0 := 1000) (by omega) (b := (some ⟨r2, 0, none⟩, 1, 1)) (zL s4) hS4 (fun _ => nj Ba Jj) hcn hb4 (by simp) (fun q hq => ?_)) ?_
 ·have : q = ⟨ij, (some ⟨r1, 0, none⟩, 2, 2)⟩ := by simpa using hq
  subst this
  exact ⟨hv m4, hexok⟩
 rintro y s5 ⟨m5, hq⟩
 obtain ⟨f1, f2, f3, x, f4, f5⟩ := Jk
 have f1' : (bp gE 0 ([(⟨ij, (some ⟨r1, 0, none⟩, 2, 2)⟩ : gL)].map (·.b)) []).err = 0 := f1
 rw [if_neg (by rw [G9]; decide), if_neg (by rw [f1']; decide)] at hq
 obtain ⟨ur, uw, ut, rfl, hE, _⟩ := hq
 have hE : sU s4 s5 [] (bJ [] (bp gE 0 [ij] []).asks) ((bp gE 0 [ij] []).ws.foldl cv []) (bp gE 0 [ij] []).reps ur uw ut := hE
 rw [f2, f3, f4] at hE
 refine ⟨((ur, uw, ut, ()), (0, ()), (0, ()), ()), rfl, ?_⟩
 refine W.bG fun r3 s6 hr3 m6 k3 => ?_
 have hb6 : Sl mG s6 (some ⟨r3, 0, none⟩, 2, 2) [⟨ij, (some ⟨r1, 0, none⟩, 2, 2)⟩, ⟨ij, (some ⟨r1, 0, none⟩, 2, 2)⟩] := Sl.bE (t := (some ⟨r3, 0, none⟩, 2, 2)) (lV (E := mG) k3 rfl rfl (by show 2 ≤ 4294967296; omega)) (by simp)
 have hS6 := hS4.mono (m5.trans m6).le
 refine W.au (yz (N0 := 1000) (by omega) (b := (some ⟨r3, 0, none⟩, 2, 2)) (zL s6) hS6 (fun _ => nj Ba Jj) hcn hb6 (by simp) (fun q hq => ?_)) ?_
 ·have : q = ⟨ij, (some ⟨r1, 0, none⟩, 2, 2)⟩ := by simpa using hq
  subst this
  exact ⟨hv ((m4.trans m5).trans m6), hexok⟩
 rintro y s7 ⟨m7, hq⟩
 obtain ⟨g1, g2⟩ := Jl
 have g1' : (bp gE 0 ([(⟨ij, (some ⟨r1, 0, none⟩, 2, 2)⟩ : gL), ⟨ij, (some ⟨r1, 0, none⟩, 2, 2)⟩].map (·.b)) []).err = 210 := g1
 have g2' : (bp gE 0 ([(⟨ij, (some ⟨r1, 0, none⟩, 2, 2)⟩ : gL), ⟨ij, (some ⟨r1, 0, none⟩, 2, 2)⟩].map (·.b)) []).at_ = 1 := g2
 rw [if_neg (by rw [G9]; decide), if_pos (by rw [g1']; decide), g1', g2'] at hq
 subst hq
 refine ⟨(((none, 0, 0), (none, 0, 0), (none, 0, 0), ()), ((1 : Int), ()), ((210 : Int), ()), ()), rfl, ?_⟩
 have m57 := m6.trans m7
 obtain ⟨⟨qs, hr, hrq, hst⟩, hw, ⟨rs, hrp⟩⟩ := hE
 have hrr := hr.row.mod m57 (by simp)
 have hww := hw.row.mod m57 (by simp)
 have hpp := hrp.gw.row.mod m57 (by simp)
 have hads : bJ [] [cA 1 (bf 5)] = [cA 1 (bf 5)] := rfl
 rw [hads] at hrq
 obtain ⟨q, hqs⟩ : ∃ q, qs = [q] := by
  cases qs with
  | nil => simp at hrq
  | cons q l => cases l with
   | nil => exact ⟨q, rfl⟩
   | cons z l => simp at hrq
 subst hqs
 have hws : [x].foldl cv [] = [x] := rfl
 rw [hws] at hww
 obtain ⟨p, hps⟩ : ∃ p, rs = [p] := by
  have := congrArg List.length hrp.eq
  cases rs with
  | nil => simp at this
  | cons q l => cases l with
   | nil => exact ⟨q, rfl⟩
   | cons z l => simp at this
 subst hps
 have hpr : p.r = ⟨1, []⟩ := by have := hrp.eq; simpa using this
 have n1 : ur.2.1 = 1 := hrr.len
 have n2 : uw.2.1 = 1 := hww.len
 have n3 : ut.2.1 = 1 := hpp.len
 obtain ⟨b1, hb1, hh1⟩ := (Sl.bE (t := ur) hrr (by simp)).el.aB (i := 0) (x := q) rfl
 obtain ⟨b2, hb2, hh2⟩ := (Sl.bE (t := uw) hww (by simp)).el.aB (i := 0) (x := x) rfl
 obtain ⟨b3, hb3, hh3⟩ := (Sl.bE (t := ut) hpp (by simp)).el.aB (i := 0) (x := p) rfl
 have hh1 : s7.has (b1.add 0) (EE.f q) := by simpa using hh1
 have hh2 : s7.has (b2.add 0) (mZ.f x) := by simpa using hh2
 have hh3 : s7.has (b3.add 0) (rm.f p) := by simpa using hh3
 have hq0 : q.u.2.1 = 0 := (hst q (by simp)).len
 have yes : ∀ {c : Bool} {a b : W.T} {s : PH}, c = true → a s → W.br c a b s := fun {c a b s} h ha => (W.aa _ _ _ _).2 ⟨fun _ => ha, fun e => by rw [h] at e; cases e⟩
 have one : ∀ {n : Nat}, n = 1 → (((n : Nat) : Int) == 1) = true := fun h => by rw [h]; (first | done | rfl)
 refine yes rfl (yes (one n1) ?_)
 dsimp only
 refine (W.ah _ _ _).2 ⟨⟨Int.le_refl 0, by rw [n1]; decide⟩, bg hb1 ?_⟩
 refine bz (j := 2) hh1 (y := (q.u, ())) rfl ?_
 dsimp only
 refine yes (by rw [hq0]; (first | done | rfl)) (yes (one n2) ?_)
 refine (W.ah _ _ _).2 ⟨⟨Int.le_refl 0, by rw [n2]; decide⟩, bg hb2 ?_⟩
 refine bz (j := 0) hh2 (y := (x.key, ())) rfl ?_
 refine W.bX (bH (bf 5), ()) (th 5 s7) rfl ?_
 refine W.bX ((iG 1 (bf 5), ()), ()) (I9 1 (bf 5) s7) rfl ?_
 dsimp only
 rw [bL]
 refine yes (decide_eq_true f5) (yes (one n3) ?_)
 refine (W.ah _ _ _).2 ⟨⟨Int.le_refl 0, by rw [n3]; decide⟩, bg hb3 ?_⟩
 refine bz (j := 0) hh3 (y := (p.r.n, ())) rfl ?_
 dsimp only
 refine yes (by rw [hpr]; (first | done | rfl)) (yes rfl (yes rfl ?_))
 exact ⟨rfl, (((((m1.trans m2).trans m3).trans m4).trans m5).trans m6).trans m7⟩
end
end Go.Proofs.YtlfdfgokflhdbaaGreat
