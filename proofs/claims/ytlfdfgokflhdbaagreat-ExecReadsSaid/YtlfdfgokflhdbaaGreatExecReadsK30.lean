/-
  Part 30 for the law: lemmas.
  Conditions: none.
-/
import Derived.Test.YtlfdfgokflhdbaaGreatExecReadsK29
set_option maxHeartbeats 4000000
set_option maxRecDepth 100000
set_option linter.unusedVariables false
set_option linter.unusedSimpArgs false
set_option linter.unusedSectionVars false
namespace Go.Proofs.YtlfdfgokflhdbaaGreat
open Fw Go Go.IntKind
section
attribute [-simp] Fw.W.bC Fw.W.bA
def Small (A : List bJ) : Prop := ∀ p ∈ A, p.1.size ≤ 1120
theorem Small.nil : Small [] := fun p hp => by simp at hp
theorem Small.cons {p : bJ} {A : List bJ} (h : p.1.size ≤ 1120) (k : Small A) : Small (p :: A) := fun q hq => by
 rcases List.mem_cons.1 hq with rfl | hq
 ·exact h
 ·exact k q hq
theorem Small.app {A C : List bJ} (h : Small A) (k : Small C) : Small (A ++ C) := fun q hq => by
 rcases List.mem_append.1 hq with hq | hq
 ·exact h q hq
 ·exact k q hq
theorem jT (t : Int) (k : aK) : (bP t k).1.size ≤ 1120 := uE t k
theorem lN (t : Int) : (bZ t).1.size ≤ 1120 := uK
theorem tA (i : Int) (v : aK) : (cH i v).1.size ≤ 1120 := uK
theorem jy (T : aG) (b : cz) (D : List Ht) : Small (bL T b D) := by
 unfold bL
 split
 ·exact .cons (lN _) .nil
 split
 ·exact .cons (jT _ _) .nil
 split
 ·exact .cons (lN _) .nil
 ·refine .cons (tA _ _) ?_
  split
  ·exact .nil
  ·intro p hp;obtain ⟨k, _, rfl⟩ := List.mem_map.1 hp;exact jT _ _
theorem me (k : aK) (old new : List aY) (D : List Ht) : ∀ l : List ez, Small (fI k old new D l).2
 | [] => .nil
 | x :: l => by
  unfold fI
  split
  ·split
   ·exact .cons (tA _ _) .nil
   ·exact .cons (tA _ _) (me k old new D l)
  ·exact me k old new D l
theorem mc (S : aD) (T : aG) (k : aK) (old new : List aY) (D : List Ht) : ∀ l : List For, Small (fA S T k old new D l).2
 | [] => .nil
 | x :: l => by
  unfold fA
  split
  ·split
   ·exact mc S T k old new D l
   ·split
    ·exact .cons (jT _ _) .nil
    ·exact .cons (jT _ _) (mc S T k old new D l)
  ·exact mc S T k old new D l
theorem pE (S : aD) (T : aG) (k : aK) (old new : List aY) (D : List Ht) : Small (dr S T k old new D).2 := by
 unfold dr
 split
 ·exact me k old new D _
 ·exact (me k old new D _).app (mc S T k old new D _)
theorem mg (T U : aG) (r : Rw) (D : List Ht) : ∀ l : List For, Small (fL T U r D l).2
 | [] => .nil
 | x :: l => by
  unfold fL
  split
  ·split
   ·exact .cons (lN _) .nil
   ·split
    ·exact .cons (lN _) .nil
    ·exact .cons (lN _) (mg T U r D l)
  ·exact mg T U r D l
theorem pF (T : aG) (r : Rw) (D : List Ht) : ∀ l : List aG, Small (eu T r D l).2
 | [] => .nil
 | U :: l => by
  unfold eu
  split
  ·exact mg T U r D _
  ·exact (mg T U r D _).app (pF T r D l)
theorem uJ (S : aD) (T : aG) (b : cz) : ∀ (l : List Rw) (D : List Ht), Small (dN S T b l D).2.1
 | [], D => .nil
 | r :: l, D => by
  unfold dN
  split
  ·exact pE _ _ _ _ _ _
  ·exact (pE _ _ _ _ _ _).app (uJ S T b l _)
theorem uI (S : aD) (T : aG) : ∀ (l : List Rw) (D : List Ht), Small (dL S T l D).2.1
 | [], D => .nil
 | r :: l, D => by
  unfold dL
  split
  ·exact pF _ _ _ _
  ·exact (pF _ _ _ _).app (uI S T l _)
theorem xo (S : aD) (T : aG) (b : cz) (D : List Ht) : Small (eE S T b D).asks := by
 unfold eE
 split
 ·unfold o5;dsimp only
  split
  ·exact .cons (jT _ _) .nil
  split <;> exact .cons (jT _ _) (pE _ _ _ _ _ _)
 split
 ·unfold pK
  split
  ·exact jy _ _ _
  split <;> exact (jy _ _ _).app (uJ _ _ _ _ _)
 split
 ·unfold pe
  split
  ·exact jy _ _ _
  split <;> exact (jy _ _ _).app (uI _ _ _ _)
 ·unfold pq
  split <;> exact jy _ _ _
theorem xp (S : aD) : ∀ (L : List cz) (i : Int) (D : List Ht), Small (bN S i L D).asks
 | [], i, D => by rw [HI]; exact .nil
 | b :: L, i, D => by
  rw [xk]
  cases fE S b with
  | none => exact .nil
  | some T =>
   dsimp only
   split
   ·exact xo _ _ _ _
   ·exact (xo _ _ _ _).app (xp S L _ _)
theorem qF : ∀ {A rds : List bJ} {p : bJ}, p ∈ bI rds A ↔ p ∈ rds ∨ p ∈ A
 | [], rds, p => by simp [bI]
 | q :: A, rds, p => by
  show p ∈ bI (gf rds q) A ↔ _
  rw [qF (A := A)];unfold gf
  split
  ·rename_i h
   constructor
   ·rintro (h1 | h1)
    ·exact .inl h1
    ·exact .inr (List.mem_cons_of_mem _ h1)
   ·rintro (h1 | h1)
    ·exact .inl h1
    ·rcases List.mem_cons.1 h1 with rfl | h1
     ·exact .inl h
     ·exact .inr h1
  ·simp only [List.mem_append, List.mem_cons, List.not_mem_nil, or_false]
   constructor
   ·rintro ((h1 | h1) | h1)
    ·exact .inl h1
    ·exact .inr (.inl h1)
    ·exact .inr (.inr h1)
   ·rintro (h1 | h1 | h1)
    ·exact .inl (.inl h1)
    ·exact .inl (.inr h1)
    ·exact .inr h1
theorem Al : ∀ (B : List Ht) (l : List Ht), (B.foldl jt l).length ≤ l.length + B.length
 | [], l => Nat.le_refl _
 | x :: B, l => by
  have h1 := Al B (jt l x);have h2 := wG x.ts l ⟨x.key, x.val, false⟩
  show (B.foldl jt (jt l x)).length ≤ _
  unfold jt at *;rw [List.length_cons]; omega
theorem Am : ∀ (B : List Ht) {l : List Ht} {a : Ht}, a ∈ B.foldl jt l → a ∈ B ∨ a ∈ l
 | [], l, a, h => .inr h
 | x :: B, l, a, h => by
  rcases Am B (l := jt l x) h with h | h
  ·exact .inl (List.mem_cons_of_mem _ h)
  ·unfold jt eA at h;rw [List.mem_append, List.mem_append] at h;rcases h with (h | h) | h
   ·exact .inr (List.takeWhile_subset _ h)
   ·unfold gO at h;simp at h; exact .inl (by rw [h]; exact List.mem_cons_self)
   ·exact .inr ((List.dropWhile_sublist (fun h : Ht => bO h.key x.key) (l := l)).subset (List.mem_filter.1 h).1)
theorem EU {s : PH} {t : aP} {S : aD} {ps : List aC} (h : yQ s t S ps) (hr : yO S) {b : aP} {L : List cz} {bs : List iH} (hb : qY s b L bs) {u : aP} {l : List Ht} (hu : mU bl s u l) (hk : rM l) {u2 : aP} {l2 : List Ht} (hu2 : mU bl s u2 l2) (hk2 : rM l2) :
  ah 4 #[eV S t, .slice b.1 b.2.1 b.2.2, .slice u.1 u.2.1 u.2.2, .slice u2.1 u2.2.1 u2.2.2] s fun y s' => y = .bool true ∧ Fw.Mod [] s s' := by
 obtain ⟨ba, bn, bc⟩ := b;refine Bp S.version S.last t.1 t.2.1 t.2.2 ba bn bc u.1 u.2.1 u.2.2 u2.1 u2.2.1 u2.2.2 _ s ?_;unfold r8;simp only [cG, aT, aO, aE, aR, vw, cj, dg, aQ, aM, bH];refine W.bx (fun z s' => z = ((S.version, S.last, t, ()), ()) ∧ s = s' ∧ (S.tabs.length + iM S.tabs + gF bs + l.length ≤ 400 ∧ bs.length ≤ 12 ∧ ∀ x ∈ l, x.val.size ≤ 1000) ∧ (l2.length ≤ 400 ∧ ∀ x ∈ l2, x.val.size ≤ 1000)) ?_ ?_;rotate_left
 ·intro J hJ;have aw : W.call Tryz.prog 16 #[] (false, [(false, [.bool])]) (fun z => W.ret (fun y s' => y = .bool true ∧ Fw.Mod [] s s') (.bool z.1.1)) s := aH ((true, ()), ()) (y8 s) rfl ⟨rfl, Mod.refl _ _⟩;refine aH ((true, ()), ()) (y8 s) rfl ?_;refine (W.af _ _ _ _).2 ⟨fun e => (by cases e), fun _ => ?_⟩;refine W.ak (y9 h hb hu) ?_;rintro _ _ ⟨⟨g, rfl, hg⟩, rfl⟩;refine ⟨((g, ()), ()), rfl, ?_⟩;refine (W.af _ _ _ _).2 ⟨fun _ => aw, fun e => ?_⟩;refine W.ak (y9 h hb hu2) ?_;rintro _ _ ⟨⟨g2, rfl, hg2⟩, rfl⟩;refine ⟨((g2, ()), ()), rfl, ?_⟩;refine (W.af _ _ _ _).2 ⟨fun _ => aw, fun e2 => ?_⟩;obtain ⟨k1, k2, k3⟩ := hg2 e2;exact hJ _ _ ⟨rfl, rfl, hg e, by omega, k3⟩
 rintro _ s ⟨rfl, rfl, ⟨hg, hb12, hv⟩, hl2, hv2⟩;have hS := h.Lu (by omega);obtain ⟨hbs, hbv⟩ := hb.cO (by omega) hb12;have hul := hu.cO (by omega);have hul2 := hu2.cO (by omega);have hB := BL hk hv (by omega);have hO := BL hk2 hv2 (by omega);refine W.ak (BN (a := u.1) (n := u.2.1) (c := u.2.2) hul hk (by omega)) ?_;rintro _ s1 ⟨a1, n1, c1, rfl, hG1⟩;refine ⟨(((a1, n1, c1), ()), ()), rfl, ?_⟩
 obtain ⟨B, hBe⟩ : ∃ B, jA l = B := ⟨_, rfl⟩
 obtain ⟨O, hOe⟩ : ∃ O, jA l2 = O := ⟨_, rfl⟩
 rw [hBe] at hB hG1;rw [hOe] at hO;have hBlen := hB.len;have hOlen := hO.len;have sl1 : Sl bl s1 (a1, n1, c1) B := Sl.bE hG1.row (by omega)
 have run : ∀ {s2 : PH} {B : List Ht} {a2 : aP}, s.le s2 → iI s2 a2 B → kG 1000 B → ah 19 #[eV S t, .slice ba bn bc, Ax a2] s2 (CG 1000 s2 S B (bs.map (·.b))) := fun {s2 B a2} hle hsh hcn =>
  zf (b := (ba, bn, bc)) (by omega) hsh (hS.mono hle) (Kj hr) hcn (hbs.mono hle) hb12 fun q hq => by
   obtain ⟨g1, g2⟩ := hbv q hq;exact ⟨g1.mono hle, g2⟩
 have hLe : bs.map (·.b) = L := hb.eq;refine W.ak (run hG1.md.le (hB.ok (s' := s1) sl1) hB.cn) ?_;intro y s2 hq;obtain ⟨m2, u3, v3, t3, at3, rfl, hok3, hno3⟩ := uF hq;rw [hLe] at hok3 hno3 ⊢;refine ⟨((u3, v3, t3, ()), (at3, ()), (qK S L B, ()), ()), rfl, ?_⟩;have m02 := hG1.md.trans m2;dsimp only;refine (W.af _ _ _ _).2 ⟨fun e => ⟨rfl, m02⟩, fun e => ?_⟩
 have e : qK S L B = 0 := by simpa using e
 obtain ⟨hE3, hF3, he3⟩ := hok3 e
 obtain ⟨R, hR⟩ : ∃ R, bN S 0 L B = R := ⟨_, rfl⟩
 have hsm : Small R.asks := by rw [← hR]; exact xp S L 0 B
 have hagr : ∀ {M : List Ht}, cl M → gJ (bI [] R.asks) B M → bN S 0 L M = R := fun {M} hM hA => by
  rw [← BK L 0 hB.cY hM (by rw [hR]; exact fun p hp => hA p (qF.2 (.inr hp))), hR]
 rw [hR] at hE3 hF3 he3;have sl2 := sl1.mono m2.le;obtain ⟨qs, hq1, hq2, hq3⟩ := hE3.reads
 obtain ⟨A, hA⟩ : ∃ A, bI [] R.asks = A := ⟨_, rfl⟩
 have hAsm : Small A := fun p hp => by
  rw [← hA] at hp;rcases qF.1 hp with hp | hp
  ·simp at hp
  ·exact hsm p hp
 rw [hA] at hq2 hagr
 have hqs : ∀ q ∈ qs, q.p.1.size ≤ 281474976710656 := fun q hq => by
  have := hAsm q.p (by rw [← hq2]; exact List.mem_map_of_mem hq);omega
 have hql : qs.length ≤ 4294967296 := by
  have h1 : qs.length = A.length := by rw [← hq2, List.length_map]
  have h2 := hE3.rl;rw [hA] at h2;omega
 have rd2 : Sl qI s2 u3 qs := Sl.bE hq1.row hql;refine W.ak (BN (a := u2.1) (n := u2.2.1) (c := u2.2.2) (hul2.mono m02.le) hk2 (by omega)) ?_;rintro _ s3 ⟨a4, n4, c4, rfl, hG4⟩;rw [hOe] at hG4;refine ⟨(((a4, n4, c4), ()), ()), rfl, ?_⟩;have m03 := m02.trans hG4.md;have hn4 := hG4.row.len;dsimp only
 -- those that were not read
 refine ⟨fun z s' => ∃ (k : Nat) (a n c : _), z = ((S.version, S.last, t, ()), ((a1, n1, c1), ()), (u3, v3, t3, ()), ((a, n, c), ()), ((a4, n4, c4), ()), ((n4 : Int), ()), ((k : Int), ()), ()) ∧ k ≤ n4 ∧ Gw bl 75 s3 s' a n c ((O.take k).filter fun h => !fV A h.key), fun z _ => n4 - z.2.2.2.2.2.2.1.1.toNat, ⟨0, none, 0, 0, rfl, Nat.zero_le _, Gw.nil (Mod.refl _ _)⟩, ?_⟩;rintro _ s4 ⟨k, a5, n5, c5, rfl, hkn, hG5⟩;dsimp only;have m04 := m03.trans hG5.md;have h5l := hG5.row.len
 have h5n : n5 ≤ k := by rw [h5l]; exact Nat.le_trans (List.length_filter_le _ _) (by rw [List.length_take]; omega)
 refine aI (fun d1 => ?_) fun d1 => ?_
 ·have e1 : (k : Int) < (n4 : Int) := of_decide_eq_true d1
  obtain ⟨x, hx⟩ : ∃ x, O[k]? = some x := ⟨_, List.getElem?_eq_getElem (by omega)⟩
  have hfs := nD (fun h : Ht => !fV A h.key) hx;obtain ⟨g, rfl, hh⟩ := (hG4.row.mod hG5.md (by simp)).at hx;refine bF ⟨Int.natCast_nonneg k, e1⟩ ?_;simp only [dj, Int.toNat_natCast, bf, Nat.zero_add];have hh : s4.has ⟨g, k * 3, none⟩ (bl.f x) := hh;refine az hh (y := mH x) rfl ?_;dsimp only;have hxk := hO.ks x (List.mem_of_getElem? hx)
  refine aH ((fV A x.key, ()), ()) (by
   have := tQ (a := u3.1) (n := u3.2.1) (c := u3.2.2) (rd2.mono (hG4.md.trans hG5.md).le) x.key (by omega) hqs;rw [hq2] at this
   exact this) rfl ?_
  rw [ai (k := k) (by omega)];refine aI (fun e2 => ?_) fun e2 => ?_
  ·have e2 : (!fV A x.key) = true := e2;rw [if_pos e2] at hfs;refine hG5.push [x] (k := 1) rfl rfl rfl (by omega) (by omega) fun a6 c6 s6 h6 => ?_;exact ⟨⟨k + 1, a6, n5 + 1, c6, rfl, by omega, by rw [hfs]; exact h6⟩, by simp only [Int.toNat_natCast]; omega⟩
  ·have e2 : ¬ (!fV A x.key) = true := by
    have e2 : (!fV A x.key) = false := e2;rw [e2]; simp
   rw [if_neg e2, List.append_nil] at hfs;exact ⟨⟨k + 1, a5, n5, c5, rfl, by omega, by rw [hfs]; exact hG5⟩, by simp only [Int.toNat_natCast]; omega⟩
 have e1 : ¬ (k : Int) < (n4 : Int) := of_decide_eq_false d1;rw [List.take_of_length_le (by omega)] at hG5
 obtain ⟨N, hN⟩ : ∃ N, (O.filter fun h => !fV A h.key) = N := ⟨_, rfl⟩
 rw [hN] at hG5
 have hNl : N.length ≤ 400 := by rw [← hN]; exact Nat.le_trans (List.length_filter_le _ _) hO.len
 have hNO : ∀ x ∈ N, x ∈ O := fun x hx => by rw [← hN] at hx; exact (List.mem_filter.1 hx).1
 have sl4 := sl2.mono (hG4.md.trans hG5.md).le;have hn1 := hG1.row.len
 -- those that were read
 refine ⟨fun z s' => ∃ (k : Nat) (a n c : _), z = ((S.version, S.last, t, ()), (u3, v3, t3, ()), ((a, n, c), ()), ((a1, n1, c1), ()), ((n1 : Int), ()), ((k : Int), ()), ()) ∧ k ≤ n1 ∧ Gw bl 75 s3 s' a n c (((B.take k).filter fun h => fV A h.key).foldl jt N) ∧ s4.le s' ∧ Fw.Mod [] s4 s', fun z _ => n1 - z.2.2.2.2.2.1.1.toNat, ⟨0, a5, n5, c5, rfl, Nat.zero_le _, hG5, PH.le_refl _, Mod.refl _ _⟩, ?_⟩;rintro _ s5 ⟨k5, a6, n6, c6, rfl, hk5, hG6, le5, m45⟩;dsimp only;have h6l := hG6.row.len
 obtain ⟨P, hP⟩ : ∃ P, ((B.take k5).filter fun h => fV A h.key).foldl jt N = P := ⟨_, rfl⟩
 have hPl : P.length ≤ 800 := by
  rw [← hP];have h1 := Al ((B.take k5).filter fun h => fV A h.key) N;have h2 : ((B.take k5).filter fun h => fV A h.key).length ≤ 400 := Nat.le_trans (List.length_filter_le _ _) (by rw [List.length_take]; omega);omega
 have hPs : ∀ x ∈ P, x ∈ B ∨ x ∈ O := fun x hx => by
  rw [← hP] at hx;rcases Am _ hx with hx | hx
  ·exact .inl (List.mem_of_mem_take (List.mem_filter.1 hx).1)
  ·exact .inr (hNO x hx)
 rw [hP] at hG6 h6l;refine aI (fun d2 => ?_) fun d2 => ?_
 ·have e2 : (k5 : Int) < (n1 : Int) := of_decide_eq_true d2
  obtain ⟨x, hx⟩ : ∃ x, B[k5]? = some x := ⟨_, List.getElem?_eq_getElem (by omega)⟩
  have hfs := nD (fun h : Ht => fV A h.key) hx;obtain ⟨ad, had, hh⟩ := (sl4.mono le5).el.aA hx;dsimp only at had;refine bF ⟨Int.natCast_nonneg k5, e2⟩ ?_;refine aN had ?_;simp only [Int.toNat_natCast];have hh : s5.has (ad.add (k5 * 3)) (bl.f x) := hh;refine az hh (y := mH x) rfl ?_;dsimp only;have hxk := hB.ks x (List.mem_of_getElem? hx)
  refine aH ((fV A x.key, ()), ()) (by
   have := tQ (a := u3.1) (n := u3.2.1) (c := u3.2.2) (rd2.mono (hG4.md.trans (hG5.md.trans m45)).le) x.key (by omega) hqs;rw [hq2] at this
   exact this) rfl ?_
  rw [ai (k := k5) (by omega)];refine aI (fun e3 => ?_) fun e3 => ?_
  ·have e3 : fV A x.key = true := e3;rw [if_pos e3] at hfs;refine W.bK fun r7 s7 hr7 m7 k7 => ?_;have sl6 : Sl bl s7 (a6, n6, c6) P := Sl.bE (hG6.row.mod m7 (by simp)) (by omega);have sw : Sl jz s7 (some ⟨r7, 0, none⟩, 1, 1) [⟨x.key, x.val, false⟩] := Sl.bE (t := (some ⟨r7, 0, none⟩, 1, 1)) (kW (E := jz) (n := 1) k7 rfl rfl (by omega)) (by simp)
   refine W.ak (CM (ts := x.ts) sl6 (b := some ⟨r7, 0, none⟩) (m := 1) (d := 1) sw (fun y hy => by
    rcases hPs y hy with g | g
    ·have := hB.ks y g; omega
    ·have := hO.ks y g; omega) (fun y hy => by simp at hy; subst hy; dsimp only; omega) (by omega) (by simp)) ?_
   rintro _ s8 ⟨a8, n8, c8, rfl, hG8⟩;refine ⟨(((a8, n8, c8), ()), ()), rfl, ?_⟩;have m58 := m7.trans hG8.md;refine ⟨⟨k5 + 1, a8, n8, c8, rfl, by omega, ?_, PH.le_trans le5 m58.le, m45.trans m58⟩, by simp only [Int.toNat_natCast]; omega⟩;rw [hfs, List.foldl_append, hP];exact (hG8.since m7).since hG6.md
  ·have e3 : ¬ fV A x.key = true := by
    have e3 : fV A x.key = false := e3;rw [e3]; simp
   rw [if_neg e3, List.append_nil] at hfs;exact ⟨⟨k5 + 1, a6, n6, c6, rfl, by omega, by rw [hfs, hP]; exact hG6, le5, m45⟩, by simp only [Int.toNat_natCast]; omega⟩
 have e2 : ¬ (k5 : Int) < (n1 : Int) := of_decide_eq_false d2;rw [List.take_of_length_le (by omega)] at hP
 have hM : zU A B O = P := by rw [← hP, ← hN]; (first | done | rfl)
 obtain ⟨hMs, _, hMa⟩ := I5 (A := A) hB.cY hO.cY;rw [hM] at hMs hMa;have m05 := m04.trans m45;have sl5 : Sl bl s5 (a6, n6, c6) P := Sl.bE hG6.row (by omega)
 have hrun := run (B := P) (a2 := (a6, n6, c6)) m05.le ⟨sl5, by show n6 ≤ 100000; omega, fun x hx => by rcases hPs x hx with g | g; exact hB.ks x g; exact hO.ks x g, fun x hx => by rcases hPs x hx with g | g; exact hB.vs x g; exact hO.vs x g, hMs⟩ fun x hx => by rcases hPs x hx with g | g; exact hB.cn x g; exact hO.cn x g
 refine W.ak hrun ?_;intro y s6 hq6;obtain ⟨m6, u7, v7, t7, at7, rfl, hok7, hno7⟩ := uF hq6;rw [hLe] at hok7 hno7 ⊢;have hPr := hagr hMs hMa
 have hres : qK S L P = 0 := by
  unfold qK at e ⊢
  by_cases g : iJ S ≠ 0
  ·rw [if_pos g] at e; cases e
  ·rw [if_neg g, hPr]; exact he3
 obtain ⟨hE7, hF7, he7⟩ := hok7 hres;rw [hres];refine ⟨((u7, v7, t7, ()), (at7, ()), ((0 : Int), ()), ()), rfl, ?_⟩;dsimp only;rw [hPr, hA] at hE7;have m06 := m05.trans m6;have m26 := (hG4.md.trans (hG5.md.trans m45)).trans m6;obtain ⟨qs7, hq71, hq72, hq73⟩ := hE7.reads;obtain ⟨z3, hz3⟩ := hE3.reps;obtain ⟨z7, hz7⟩ := hE7.reps;have k3 := (hz3.same m26).r hF3.rn hF3.rf;have k7 := hz7.r hF3.rn hF3.rf;have hol := hF3.ol
 have hstl : ∀ (M : List Ht) (p : bJ), M.length ≤ 800 → (stamps (au M p)).length ≤ 4294967296 := fun M p hM => by
  unfold stamps;rw [List.length_map];exact Nat.le_trans (List.length_filter_le _ _) (by omega)
 have rr3 : BJ s6 u3 B A qs := ⟨rd2.mono m26.le, hq2, fun q hq => Sl.bE ((hq3 q hq).mod m26 (by simp)) (hstl _ _ (by omega))⟩
 have hql7 : qs7.length ≤ 4294967296 := by
  have e1 : qs7.length = A.length := by rw [← hq72, List.length_map]
  have e2 : qs.length = A.length := by rw [← hq2, List.length_map]
  omega
 have rr7 : BJ s6 u7 P A qs7 := ⟨Sl.bE hq71.row hql7, hq72, fun q hq => Sl.bE (hq73 q hq) (hstl _ _ (by omega))⟩
 have w3 : Sl jz s6 v3 (R.ws.foldl cI []) := (Sl.bE (t := v3) hE3.writes.row (by omega)).mono m26.le;have w7 : Sl jz s6 v7 (R.ws.foldl cI []) := Sl.bE (t := v7) hE7.writes.row (by omega);refine (W.af _ _ _ _).2 ⟨fun _ => ?_, fun e => (by cases e)⟩;have hc := Gm rr3 w3 k3 rr7 w7 k7 hMa;refine aH ((true, ()), ()) hc rfl ?_;exact ⟨rfl, m06⟩
theorem Bc {s : PH} {cs : Array Value} {S : aD} (h : yK.is s cs.toList S) {a : OA} {n c : Nat} {L : List cz} (w1 : elems uC s a n L) (h1 : n ≤ c) (b1 : c * 120 ≤ reachBytes) {a2 : OA} {n2 c2 : Nat} {l : List Ht} (w2 : elems rF s a2 n2 l) (h2 : n2 ≤ c2) (b2 : c2 * 40 ≤ reachBytes) {a3 : OA} {n3 c3 : Nat} {l3 : List Ht} (w3 : elems rF s a3 n3 l3) (h3 : n3 ≤ c3) (b3 : c3 * 40 ≤ reachBytes) :
  ah 4 #[.agg cs, .slice a n c, .slice a2 n2 c2, .slice a3 n3 c3] s fun y s' => y = .bool true ∧ Fw.Mod [] s s' := by
 obtain ⟨t, ps, e, hB, _⟩ := HB h;obtain ⟨bs, hb⟩ := Iy w1 h1 b1;obtain ⟨hu, hk⟩ := BX w2 h2 b2;obtain ⟨hu3, hk3⟩ := BX w3 h3 b3;rw [F9 e];have hl := EU hB (Jw h) hb hu hk hu3 hk3;exact hl
end
end Go.Proofs.YtlfdfgokflhdbaaGreat
