/-
  Part 28 for the law: lemmas.
  Conditions: none.
-/
import Derived.Test.YtlfdfgokflhdbaaGreatExecExactK27
set_option maxHeartbeats 4000000
set_option maxRecDepth 100000
set_option linter.unusedVariables false
set_option linter.unusedSimpArgs false
set_option linter.unusedSectionVars false
namespace Go.Proofs.YtlfdfgokflhdbaaGreat
open Fw Go Go.IntKind
section
attribute [-simp] Fw.W.bD Fw.W.bB
def tM (s : PH) (r n : Nat) : Nat := match s r with | some (.mapIter _ _ seen _) => n - seen.size | _ => 0
theorem Cc {K V : Type} [BEq K] [LawfulBEq K] {ke : sZ K} {ve : V → Value} {s : PH} {r m : Nat} {f : List (K × V)} {idx : List Nat} (h : qa ke ve s r m f idx) (n : Nat) : tM s r n = n - idx.length := by
 obtain ⟨es, c, h1, _⟩ := h;unfold tM; rw [h1]; simp
def gP (p : cx) (e : BA × Wr) : Option Ht := if jo e.1 p && !e.2.dead then some ⟨e.1, 0, e.2.val⟩ else none
def nh (ov : List Wr) (h : Ht) : Bool := !(ov.any fun x => x.key == h.key)
theorem Jr {B l' : List Ht} {ov : List Wr} {f : List (BA × Wr)} {p : cx} (hB : cz B) (hv : jK ov) (hf : (f.map (·.2)).Perm ov) (hk : ∀ e ∈ f, e.1 = e.2.key)
  (hp : l'.Perm ((aI B p).filter (nh ov) ++ f.filterMap (gP p))) (hs : l'.Pairwise fun x y => bK y.key x.key = false) : l' = aI (ai 0 B ov) p := by
 have hD : cz (ai 0 B ov) := fq ov hB
 have hmv : ∀ x, x ∈ ov ↔ ∃ e ∈ f, e.2 = x := fun x => by rw [← hf.mem_iff, List.mem_map]
 have hW : cz (aI B p) := hB.filter _
 have nod : ∀ {l : List Ht}, cz l → (l.map (·.key)).Nodup := fun {l} h => by
  unfold cz at h;rw [List.Nodup, List.pairwise_map]
  exact h.imp fun {a b} e1 e2 => by rw [e2, eA] at e1; cases e1
 have nof : (f.map (·.1)).Nodup := by
  have h1 : (ov.map (·.key)).Nodup := by
   unfold jK at hv;rw [List.Nodup, List.pairwise_map]
   exact hv.imp fun {a b} e1 e2 => by rw [e2, eA] at e1; cases e1
  have h2 : ((f.map (·.2)).map (·.key)).Nodup := ((hf.map _).nodup_iff).2 h1;rw [List.map_map] at h2;have : f.map (·.1) = f.map ((fun x : Wr => x.key) ∘ fun e => e.2) := List.map_congr_left fun e he => hk e he;rw [this]; exact h2
 have nol : (l'.map (·.key)).Nodup := by
  refine ((hp.map (·.key)).nodup_iff).2 ?_;rw [List.map_append, List.nodup_append];refine ⟨nod (hW.filter _), ?_, ?_⟩
  ·have key : ∀ f : List (BA × Wr), (f.map (·.1)).Nodup → ((f.filterMap (gP p)).map (·.key)).Nodup ∧ ∀ h ∈ f.filterMap (gP p), h.key ∈ f.map (·.1) := by
    intro f
    induction f with
    | nil => intro _; simp
    | cons e f ih =>
     intro hn;simp only [List.map_cons, List.nodup_cons] at hn;obtain ⟨i1, i2⟩ := ih hn.2;rw [List.filterMap_cons]
     cases hq : gP p e with
     | none => exact ⟨i1, fun h hh => List.mem_cons_of_mem _ (i2 h hh)⟩
     | some x =>
      have hx : x.key = e.1 := by unfold gP at hq; split at hq <;> simp at hq; rw [← hq]
      refine ⟨?_, ?_⟩
      ·simp only [List.map_cons, List.nodup_cons];refine ⟨fun hm => ?_, i1⟩;obtain ⟨y, hy, e2⟩ := List.mem_map.1 hm;have := i2 y hy;rw [e2, hx] at this;exact hn.1 this
      ·intro h hh;rcases List.mem_cons.1 hh with rfl | hh
       ·rw [hx]; exact List.mem_cons_self
       ·exact List.mem_cons_of_mem _ (i2 h hh)
   exact (key f nof).1
  ·intro a ha b hb e;obtain ⟨h1, hh1, rfl⟩ := List.mem_map.1 ha;obtain ⟨h2, hh2, rfl⟩ := List.mem_map.1 hb;have h3 := (List.mem_filter.1 hh1).2;obtain ⟨q, hq, hq2⟩ := List.mem_filterMap.1 hh2
   have hx : h2.key = q.1 := by unfold gP at hq2; split at hq2 <;> simp at hq2; rw [← hq2]
   unfold nh at h3;simp only [Bool.not_eq_true', List.any_eq_false, beq_iff_eq] at h3;exact h3 q.2 ((hmv _).2 ⟨q, hq, rfl⟩) (by rw [e, hx, hk q hq])
 have hsl : cz l' := by
  have h2 : l'.Pairwise fun x y => x.key ≠ y.key := by
   have := nol;rw [List.Nodup, List.pairwise_map] at this; exact this
  refine (hs.and h2).imp fun {a b} ⟨e1, e2⟩ => ?_
  cases e3 : bK a.key b.key with
  | true => rfl
  | false => exact absurd (sd e3 e1) e2
 refine sq (fun h : Ht => h.key) hsl (hD.filter _) fun h => ?_;rw [hp.mem_iff, List.mem_append];unfold aI;simp only [List.mem_filter, List.mem_filterMap];rw [jB _ hB hv]
 constructor
 ·rintro (⟨⟨h1, h2⟩, h3⟩ | ⟨q, hq, hq2⟩)
  ·refine ⟨.inr ⟨h1, fun x hx e => ?_⟩, h2⟩;unfold nh at h3;simp only [Bool.not_eq_true', List.any_eq_false, beq_iff_eq] at h3;exact h3 x hx e
  ·unfold gP at hq2
   split at hq2
   ·rename_i hc
    simp only [Option.some.injEq] at hq2;simp only [Bool.and_eq_true, Bool.not_eq_true'] at hc;subst hq2;exact ⟨.inl ⟨q.2, (hmv _).2 ⟨q, hq, rfl⟩, hc.2, by rw [hk q hq]⟩, hc.1⟩
   ·cases hq2
 ·rintro ⟨⟨x, hx, hd, rfl⟩ | ⟨h1, h2⟩, h3⟩
  ·obtain ⟨q, hq, rfl⟩ := (hmv _).1 hx;refine .inr ⟨q, hq, ?_⟩;unfold gP;rw [if_pos (by rw [hk q hq]; simp only [Bool.and_eq_true, Bool.not_eq_true']; exact ⟨h3, hd⟩), hk q hq]
  ·refine .inl ⟨⟨h1, h3⟩, ?_⟩;unfold nh;simp only [Bool.not_eq_true', List.any_eq_false, beq_iff_eq];exact fun x hx e => h2 x hx e
theorem Bv {l : List Ht} {k : Nat} {h : Ht} (q : Ht → Bool) (hk : l[k]? = some h) : (l.take (k + 1)).filter q = (l.take k).filter q ++ (if q h = true then [h] else []) := by
 rw [List.take_add_one, hk, List.filter_append]
 congr 1
 simp only [Option.toList_some, List.filter_cons, List.filter_nil]
theorem Iy {f : List (BA × Wr)} {idx : List Nat} {i : Nat} {e : BA × Wr} (h : f[i]? = some e) : lQ f (idx ++ [i]) = lQ f idx ++ [e] := by
 unfold lQ;rw [List.filterMap_append]; simp [h]
theorem Jm {s0 s : PH} {w : Nat} {S : aK} {tt sh : aU} {B : List Ht} {rds : List cx} {ov : List Wr} (hB : jI s0 sh B) (hv : jK ov) (hvl : ov.length ≤ 800000) (h : EI s0 s w S tt sh B rds ov) (hrl : rds.length ≤ 4000000) (p : cx) (hp1 : p.1.size ≤ 4000000) :
  ah 185 #[cp w, nt p] s fun y s' => ∃ a n c, y = .slice a n c ∧ Gw bh 75 s0 s' a n c (aI (ai 0 B ov) p) ∧ EI s0 s' w S tt sh B (gR rds p) ov ∧ Kt s s' := by
 refine HS w p.1 p.2 _ s ?_;unfold Bm
 obtain ⟨R, hR⟩ : ∃ R : Value → PH → Prop, (fun y s' => ∃ a n c, y = .slice a n c ∧ Gw bh 75 s0 s' a n c (aI (ai 0 B ov) p) ∧ EI s0 s' w S tt sh B (gR rds p) ov ∧ Kt s s') = R := ⟨_, rfl⟩
 rw [hR];simp only [aT, bL, Gu, cE, aR, Kn, aY, aQ, aP, bY, cX, Gv, ir, mI, Kp, Ko, Kl, Km, aF, cR, aV, Nat.zero_add];obtain ⟨r, mb, mo, qs, bs, f, h⟩ := h;refine (W.aA h.aW _ _ _ _).2 ⟨(some mb, ()), rfl, ?_⟩;refine Ho (ks := wO) (ve := kU) h.bm (key := p) ?_
 have hBl : (aI B p).length ≤ 100000 := by
  have h1 : (aI B p).length ≤ B.length := List.length_filter_le _ _;have h2 := hB.sl.len;have h3 := hB.dF;omega
 -- what comes behind the first part
 have cont : ∀ (u : aU) (s1 : PH), EI s0 s1 w S tt sh B (gR rds p) ov → bq bh s1 75 u.1 u.2.1 u.2.2 (aI B p) → Kt s s1 →
   W.loop [(true, [CT.str, CT.str]), (false, [CT.slice]), (false, [CT.slice]), (false, [CT.int IntKind.i64]), (false, [CT.int IntKind.i64])] ((p.1, p.2, ()), ((none, 0, 0), ()), (u, ()), ((u.2.1 : Int), ()), ((0 : Int), ()), ()) (fun x again => W.br (decide (x.2.2.2.2.1.1 < x.2.2.2.1.1))
    (W.guard (0 ≤ x.2.2.2.2.1.1 ∧ x.2.2.2.2.1.1 < (x.2.2.1.1.2.1 : Int)) (W.aa x.2.2.1.1.1 fun p66 => W.ld [CT.str, CT.int IntKind.i64, CT.str] (p66.add (Int.toNat x.2.2.2.2.1.1 * 3)) fun y => W.ld [CT.map] ⟨w, 6, none⟩ fun m71 =>
      W.look .string m71.1 (.string y.1) (.agg #[.string ⟨#[]⟩, .string ⟨#[]⟩, .bool false]) (true, [CT.str, CT.str, CT.bool]) fun y73 b72 => W.br (!b72)
       (W.nw (.cells #[.string y.1, .int .i64 y.2.1, .string y.2.2.1] 75 (0, 0)) fun r76 => W.app 75 3 40 [.string ⟨#[]⟩, .int .i64 0, .string ⟨#[]⟩] x.2.1.1.1 x.2.1.1.2.1 x.2.1.1.2.2 (Src.sl (some ⟨r76, 0, none⟩) 1) fun a77 n78 c79 =>
         again ((x.1.1, x.1.2.1, ()), ((a77, n78, c79), ()), ((x.2.2.1.1.1, x.2.2.1.1.2.1, x.2.2.1.1.2.2), ()), (x.2.2.2.1.1, ()), (i64.wrap (x.2.2.2.2.1.1 + 1), ()), ()))
       (again ((x.1.1, x.1.2.1, ()), ((x.2.1.1.1, x.2.1.1.2.1, x.2.1.1.2.2), ()), ((x.2.2.1.1.1, x.2.2.1.1.2.1, x.2.2.1.1.2.2), ()), (x.2.2.2.1.1, ()), (i64.wrap (x.2.2.2.2.1.1 + 1), ()), ()))))
    (W.ld [CT.map] ⟨w, 6, none⟩ fun m81 => W.oC m81.1 fun r82 => W.loop [(true, [CT.str, CT.str]), (false, [CT.slice]), (false, [CT.addr])] ((x.1.1, x.1.2.1, ()), ((x.2.1.1.1, x.2.1.1.2.1, x.2.1.1.2.2), ()), (⟨r82, 0, none⟩, ()), ()) fun z again83 =>
      W.guard (z.2.2.1.1.off = 0) (W.oz z.2.2.1.1.block fun v90 => W.ext v90 0 (false, [CT.bool]) fun b91 => W.br b91.1
       (W.guard (z.2.2.1.1.off = 0) (W.mj z.2.2.1.1.block fun v92 => W.ext v92 0 (false, [CT.str]) fun t93 => W.ext v92 1 (true, [CT.str, CT.str, CT.bool]) fun t94 =>
         W.call Tryz.prog 233 #[.string t93.1, .agg #[.string z.1.1, .string z.1.2.1]] (false, [(false, [CT.bool])]) fun b97 => W.br b97.1.1
          (W.br (!t94.2.2.1) (W.nw (.cells #[.string t93.1, .int .i64 0, .string t94.2.1] 75 (0, 0)) fun r98 => W.app 75 3 40 [.string ⟨#[]⟩, .int .i64 0, .string ⟨#[]⟩] z.2.1.1.1 z.2.1.1.2.1 z.2.1.1.2.2 (Src.sl (some ⟨r98, 0, none⟩) 1) fun a99 n100 c101 =>
              again83 ((z.1.1, z.1.2.1, ()), ((a99, n100, c101), ()), (z.2.2.1.1, ()), ()))
            (again83 ((z.1.1, z.1.2.1, ()), ((z.2.1.1.1, z.2.1.1.2.1, z.2.1.1.2.2), ()), (z.2.2.1.1, ()), ())))
          (again83 ((z.1.1, z.1.2.1, ()), ((z.2.1.1.1, z.2.1.1.2.1, z.2.1.1.2.2), ()), (z.2.2.1.1, ()), ()))))
       (W.call Tryz.prog 234 #[.slice z.2.1.1.1 z.2.1.1.2.1 z.2.1.1.2.2, .func (.func 235) #[] #[]] (true, []) fun _ => W.ret R (.slice z.2.1.1.1 z.2.1.1.2.1 z.2.1.1.2.2))))) s1 := by
  rintro ⟨ua, un, uc⟩ s1 hE hu hkt;have hun := hu.len;dsimp only at hu hun;refine ⟨fun z s' => ∃ (k : Nat) (b : OA) (m d : Nat), z = ((p.1, p.2, ()), ((b, m, d), ()), ((ua, un, uc), ()), ((un : Int), ()), ((k : Int), ()), ()) ∧ k ≤ un ∧ m ≤ k ∧ Gw bh 75 s1 s' b m d (((aI B p).take k).filter (nh ov)), fun z _ => un - z.2.2.2.2.1.1.toNat, ⟨0, none, 0, 0, rfl, Nat.zero_le _, Nat.le_refl _, Gw.nil (Mod.refl _ _)⟩, ?_⟩;rintro _ s2 ⟨k, b, m, d, rfl, hk, hm, hG⟩;dsimp only;obtain ⟨r1, mb1, mo1, qs1, bs1, f1, hx⟩ := hE.same hG.md
  have hfl : f1.length ≤ 800000 := by
   have := hx.omp.length_eq;rw [List.length_map] at this; omega
  refine aC (fun e => ?_) fun e => ?_
  ·have hlt : (k : Int) < (un : Int) := of_decide_eq_true e
   obtain ⟨y, hy⟩ : ∃ y, (aI B p)[k]? = some y := ⟨_, List.getElem?_eq_getElem (by omega)⟩
   have hfs := Bv (nh ov) hy;obtain ⟨g, rfl, hh⟩ := (hu.mod hG.md (by simp)).at hy;refine bg ⟨Int.natCast_nonneg k, hlt⟩ ?_;simp only [cR, Int.toNat_natCast, aV, Nat.zero_add];have hh : s2.has ⟨g, k * 3, none⟩ (bh.f y) := hh;refine aE hh (y := pG y) rfl ?_;refine (W.aA hx.aW _ _ _ _).2 ⟨(some mo1, ()), rfl, ?_⟩;refine wA (ke := iQ) (ve := sY) hx.om (key := y.key) ?_;rw [aj (k := k) (by omega)]
   have hkeys : f1.map (·.1) = (f1.map (·.2)).map (·.key) := by rw [List.map_map]; exact List.map_congr_left fun e he => hx.omk e he
   have hmem : y.key ∈ f1.map (·.1) ↔ ∃ x ∈ ov, x.key = y.key := by
    rw [hkeys, (hx.omp.map (·.key)).mem_iff, List.mem_map]
   cases hl : f1.lookup y.key with
   | none =>
    have hno : nh ov y = true := by
     have := jz.1.1 hl;rw [hmem] at this;unfold nh;simp only [Bool.not_eq_true', List.any_eq_false, beq_iff_eq];exact fun x hx2 e2 => this ⟨x, hx2, e2⟩
    refine ⟨(⟨#[]⟩, ⟨#[]⟩, false, ()), rfl, ?_⟩;refine (W.af _ _ _ _).2 ⟨fun _ => ?_, fun e2 => (by cases e2)⟩;refine hG.push [y] (k := 1) rfl rfl rfl (by omega) (by omega) fun a3 c3 s3 h3 => ?_;refine ⟨⟨k + 1, a3, m + 1, c3, rfl, by omega, by omega, ?_⟩, by simp only [Int.toNat_natCast]; omega⟩;rw [hfs, if_pos hno]; exact h3
   | some x =>
    have hyes : nh ov y = false := by
     have := jz.2 _ hl;have h2 : y.key ∈ f1.map (·.1) := List.mem_map.2 ⟨_, this, rfl⟩;rw [hmem] at h2;obtain ⟨x2, hx2, e2⟩ := h2;unfold nh;simp only [Bool.not_eq_false', List.any_eq_true, beq_iff_eq];exact ⟨x2, hx2, e2⟩
    refine ⟨(x.key, x.val, x.dead, ()), rfl, ?_⟩;refine (W.af _ _ _ _).2 ⟨fun e2 => (by cases e2), fun _ => ?_⟩;refine ⟨⟨k + 1, b, m, d, rfl, by omega, by omega, ?_⟩, by simp only [Int.toNat_natCast]; omega⟩;rw [hfs, hyes]; simpa using hG
  ·have e : ¬ (k : Int) < (un : Int) := of_decide_eq_false e;rw [List.take_of_length_le (by omega)] at hG
   have hmB : m ≤ 100000 := by omega
   generalize hL1 : (aI B p).filter (nh ov) = L1 at hG
   refine (W.aA hx.aW _ _ _ _).2 ⟨(some mo1, ()), rfl, ?_⟩;refine J7 (ke := iQ) (ve := sY) hx.om fun ri s3 hri m3 hit => ?_;have hmo : ∀ {s' : PH}, Gw bh 75 s1 s' b m d L1 → True := fun _ => trivial
   refine ⟨fun z s' => ∃ (idx : List Nat) (b : OA) (m2 d : Nat), z = ((p.1, p.2, ()), ((b, m2, d), ()), (⟨ri, 0, none⟩, ()), ()) ∧ m2 ≤ m + idx.length ∧ idx.length ≤ f1.length ∧ qa iQ sY s' ri mo1 f1 idx ∧ s1 ri = none ∧ Gw bh 75 s1 s' b m2 d (L1 ++ (lQ f1 idx).filterMap (gP p)), fun z s' => tM s' ri f1.length,
    ⟨[], b, m, d, rfl, by simp, Nat.zero_le _, hit, hG.md.none hri (by simp), by simpa [lQ] using hG.same m3⟩, ?_⟩
   rintro _ s4 ⟨idx, b4, m4, d4, rfl, hm4, hil, hit4, hri1, hG4⟩;dsimp only;refine bg rfl ?_;refine JC hit4 (fun hperm => ?_) fun i e he s5 m5 hit5 hlt hent => ?_
   ·refine ⟨_, (false, ()), rfl, rfl, ?_⟩;refine (W.af _ _ _ _).2 ⟨fun e2 => (by cases e2), fun _ => ?_⟩;refine W.aq (Jj hG4 (by omega)) ?_;rintro _ s5 ⟨rfl, l', hp', hs', hG5, m5⟩;refine ⟨(), rfl, ?_⟩;have hmd : Fw.Mod [] s1 s5 := hG5.md
    have hl' : l' = aI (ai 0 B ov) p := by
     refine Jr hB.cJ hv hx.omp hx.omk (hp'.trans ?_) hs';rw [hL1];exact List.Perm.append_left _ (hperm.filterMap _)
    rw [← hR];subst hl';have hEE := hE.same hmd;exact ⟨b4, m4, d4, rfl, ⟨hG5.row, fun g hg => hE.md.none (hG5.fr g hg) (by simp), hEE.md⟩, hEE, hkt.trans (Kt.of hmd)⟩
   ·refine ⟨_, (true, ()), rfl, rfl, ?_⟩;refine (W.af _ _ _ _).2 ⟨fun _ => ?_, fun e2 => (by cases e2)⟩;refine bg rfl ?_;refine hent _ ?_;refine ⟨_, (e.1, ()), rfl, rfl, ?_⟩;refine ⟨_, (e.2.key, e.2.val, e.2.dead, ()), rfl, rfl, ?_⟩;refine aN ((jo e.1 p, ()), ()) (Lu e.1 p s5) rfl ?_;have hmd5 : Fw.Mod [] s1 s5 := hG4.md.fresh m5 (by simp [hri1])
    have hG5 : Gw bh 75 s1 s5 b4 m4 d4 (L1 ++ (lQ f1 idx).filterMap (gP p)) := ⟨hG4.row.mod m5 fun g hg hr2 => (by
     have hgr : g = ri := by simpa using hr2
     subst hgr;obtain ⟨es, c, q1, _⟩ := hit4;rcases hG4.row.shape with ⟨rfl, _⟩ | ⟨g', rfl⟩
     ·simp [Fw.aW] at hg
     ·simp [Fw.aW] at hg; subst hg;obtain ⟨cur, q2⟩ := hG4.row.ty rfl
      rw [q1] at q2; cases q2), hG4.fr, hmd5⟩
    have hvs := Iy (idx := idx) he
    have hmu : ∀ {s6 : PH}, qa iQ sY s6 ri mo1 f1 (idx ++ [i]) → tM s6 ri f1.length < tM s4 ri f1.length := fun h6 => by
     rw [Cc h6, Cc hit4, List.length_append]; simp only [List.length_cons, List.length_nil]; omega
    have hlen : (idx ++ [i]).length = idx.length + 1 := by simp
    have hskip : gP p e = none → (fun (z : bX [(true, [CT.str, CT.str]), (false, [CT.slice]), (false, [CT.addr])]) s' => (∃ (idx : List Nat) (b : OA) (m2 d : Nat), z = ((p.1, p.2, ()), ((b, m2, d), ()), (⟨ri, 0, none⟩, ()), ()) ∧ m2 ≤ m + idx.length ∧ idx.length ≤ f1.length ∧ qa iQ sY s' ri mo1 f1 idx ∧ s1 ri = none ∧ Gw bh 75 s1 s' b m2 d (L1 ++ (lQ f1 idx).filterMap (gP p))) ∧ tM s' ri f1.length < tM s4 ri f1.length) ((p.1, p.2, ()), ((b4, m4, d4), ()), (⟨ri, 0, none⟩, ()), ()) s5 := fun hno => by
     refine ⟨⟨idx ++ [i], b4, m4, d4, rfl, by omega, by omega, hit5, hri1, ?_⟩, hmu hit5⟩;rw [hvs, List.filterMap_append];simpa [hno] using hG5
    refine aC (fun e2 => ?_) fun e2 => ?_
    ·have e2 : jo e.1 p = true := e2;refine aC (fun e3 => ?_) fun e3 => ?_
     ·have e3 : e.2.dead = false := by simpa using e3
      have hyes : gP p e = some ⟨e.1, 0, e.2.val⟩ := by unfold gP; rw [e2, e3]; (first | done | rfl)
      refine hG5.nN [⟨e.1, 0, e.2.val⟩] (k := 1) rfl rfl rfl (by omega) (by omega) fun a6 c6 s6 h6 m6 => ?_
      have hoff : ∀ k o, s5 k = some o → (∀ c1 e1 f1, o ≠ .cells c1 e1 f1) → k ∉ Fw.aW b4 := fun k o ho hno hb => by
       rcases hG5.row.shape with ⟨rfl, _⟩ | ⟨g', rfl⟩
       ·simp [Fw.aW] at hb
       ·simp [Fw.aW] at hb; subst hb;obtain ⟨cur, q2⟩ := hG5.row.ty rfl;rw [ho] at q2; cases q2;exact hno _ _ _ rfl
      have hit6 : qa iQ sY s6 ri mo1 f1 (idx ++ [i]) := by
       obtain ⟨es, c, q1, q2, q3⟩ := hit5;exact qa.mod ⟨es, c, q1, q2, q3⟩ m6 (hoff _ _ q1 (by simp)) (hoff _ _ q2 (by simp))
      refine ⟨⟨idx ++ [i], a6, m4 + 1, c6, rfl, by omega, by omega, hit6, hri1, ?_⟩, hmu hit6⟩;rw [hvs, List.filterMap_append, ← List.append_assoc];simpa [hyes] using h6
     ·have e3 : e.2.dead = true := by simpa using e3
      exact hskip (by unfold gP; rw [e3]; simp)
    ·have e2 : jo e.1 p = false := e2;exact hskip (by unfold gP; rw [e2]; simp)
 cases hl : bs.lookup p with
 | some u =>
  obtain ⟨ua, un, uc⟩ := u;refine ⟨((ua, un, uc), ()), rfl, ?_⟩;have hin := jz.2 _ hl
  have hmem : p ∈ rds := by rw [← h.bmq]; exact List.mem_map.2 ⟨_, hin, rfl⟩
  have hadd : gR rds p = rds := by unfold gR; rw [if_pos hmem]
  refine W.bp (fun z s' => z = ((p.1, p.2, ()), ((ua, un, uc), ()), ()) ∧ s = s') ?_ ?_
  ·rintro _ _ ⟨rfl, rfl⟩;exact cont (ua, un, uc) s (by rw [hadd]; exact ⟨r, mb, mo, qs, bs, f, h⟩) (h.bv _ hin) (Kt.refl s)
  ·intro J hJ;exact (W.af _ _ _ _).2 ⟨fun e => (by cases e), fun _ => hJ _ _ ⟨rfl, rfl⟩⟩
 | none =>
  have hnin : p ∉ rds := by
   have := jz.1.1 hl
   rwa [h.bmq] at this
  have hadd : gR rds p = rds ++ [p] := by unfold gR; rw [if_neg hnin]
  refine ⟨((none, 0, 0), ()), rfl, ?_⟩;refine W.bp (fun z s' => ∃ u : aU, z = ((p.1, p.2, ()), (u, ()), ()) ∧ EI s0 s' w S tt sh B (gR rds p) ov ∧ bq bh s' 75 u.1 u.2.1 u.2.2 (aI B p) ∧ Kt s s') ?_ ?_
  ·rintro _ s1 ⟨u, rfl, h1, h2, h3⟩;exact cont u s1 h1 h2 h3
  intro J hJ;refine (W.af _ _ _ _).2 ⟨fun _ => ?_, fun e => (by cases e)⟩;refine (W.aA h.aW _ _ _ _).2 ⟨(F4 sh, ()), rfl, ?_⟩
  have hmeth : ∀ w, (method (Tryz.prog.types.size + Made.depth) 73 (kU sh) "Span").run Tryz.prog w = .ok (314, kU sh) w := fun w => by kernel_rfl
  refine ⟨73, kU sh, 314, kU sh, _, rfl, hmeth, Tryz.func314, rfl, by kernel_rfl, ?_⟩;obtain ⟨sa, sn, sc⟩ := sh;refine (Jf (hB.sl.mono h.md.le) p (by omega) hB.ks (by have := hB.dF; dsimp only at this; omega)).mono ?_;rintro _ s1 ⟨a1, n1, c1, rfl, hG1⟩;refine ⟨(((a1, n1, c1), ()), ()), rfl, ?_⟩;have hn1 := hG1.row.len;refine W.aq (GJ (Sl.bN hG1.row (by omega)) (by dsimp only; omega)) ?_;rintro _ s2 ⟨a2, n2, c2, rfl, hG2⟩;refine ⟨(((a2, n2, c2), ()), ()), rfl, ?_⟩;have hn2 := hG2.row.len;have m02 : Fw.Mod [] s s2 := hG1.md.trans hG2.md;dsimp only
  refine ⟨fun z s' => ∃ (k : Nat) (b : OA) (m d : Nat), z = ((p.1, p.2, ()), ((a2, n2, c2), ()), (p.1, p.2, (b, m, d), ()), ((a2, n2, c2), ()), ((n2 : Int), ()), ((k : Int), ()), ()) ∧ k ≤ n2 ∧ m ≤ k ∧ Gw Lh 215 s2 s' b m d (stamps ((aI B p).take k)), fun z _ => n2 - z.2.2.2.2.2.1.1.toNat,
   ⟨0, none, 0, 0, rfl, Nat.zero_le _, Nat.le_refl _, Gw.nil (Mod.refl _ _)⟩, ?_⟩
  rintro _ s3 ⟨k, b, m, d, rfl, hk, hm, hG3⟩;dsimp only;refine aC (fun e => ?_) fun e => ?_
  ·have hlt : (k : Int) < (n2 : Int) := of_decide_eq_true e
   obtain ⟨y, hy⟩ : ∃ y, (aI B p)[k]? = some y := ⟨_, List.getElem?_eq_getElem (by omega)⟩
   obtain ⟨g, rfl, hh⟩ := (hG2.row.mod hG3.md (by simp)).at hy;refine bg ⟨by omega, hlt⟩ ?_;simp only [cR, Int.toNat_natCast, aV, Nat.zero_add];have hh : s3.has ⟨g, k * 3, none⟩ (bh.f y) := hh;refine aE hh (y := pG y) rfl ?_;refine hG3.push [(y.key, y.ts)] (k := 1) rfl rfl rfl (by omega) (by omega) fun a4 c4 s4 h4 => ?_;rw [aj (k := k) (by omega)];refine ⟨⟨k + 1, a4, m + 1, c4, rfl, by omega, by omega, ?_⟩, by simp only [Int.toNat_natCast]; omega⟩;unfold stamps at h4 ⊢;rw [List.take_add_one, hy, List.map_append];exact h4
  ·have e : ¬ (k : Int) < (n2 : Int) := of_decide_eq_false e;rw [List.take_of_length_le (by omega)] at hG3;have m03 : Fw.Mod [] s s3 := m02.trans hG3.md;have hx := h.same m03;refine (W.aA hx.aW _ _ _ _).2 ⟨(some mb, ()), rfl, ?_⟩;refine Hq (ks := wO) (ve := kU) hx.bm (key := p) (v := (a2, n2, c2)) fun o ho => ?_;rw [zf hl] at ho;obtain ⟨es, cc, hmbs, _⟩ := hx.bm
   have hmbw : mb ≠ w := fun e => by rw [e, hx.aW] at hmbs; cases hmbs
   have k4 : (s3.aS mb o) w = some (wW S tt (sa, sn, sc) r mb mo) := by rw [PH.bJ _ _ hmbw.symm]; exact hx.aW
   have u4 : Fw.Mod [mb] s3 (s3.aS mb o) := Mod.aS (by simp);refine (W.aA k4 _ _ _ _).2 ⟨(r, ()), rfl, ?_⟩
   have notmb : ∀ {α : Type} {E : cO α} {e : TypeId} {a : OA} {n c : Nat} {l : List α}, bq E s3 e a n c l → bq E (s3.aS mb o) e a n c l := fun {α E e a n c l} hr => hr.mod u4 fun g hg hb => by
    have : g = mb := by simpa using hb
    subst this;rcases hr.shape with ⟨rfl, _⟩ | ⟨g', rfl⟩
    ·simp [Fw.aW] at hg
    ·simp [Fw.aW] at hg; subst hg;obtain ⟨cur, q2⟩ := hr.ty rfl;rw [hmbs] at q2; cases q2
   have hrd4 : Gw FV 132 s0 (s3.aS mb o) r.1 r.2.1 r.2.2 qs := ⟨notmb hx.rd.row, hx.rd.fr, hx.md.cj (.inr hx.mb0)⟩
   have hql : r.2.1 = rds.length := by rw [hx.rd.row.len, ← hx.rdq, List.length_map]
   refine hrd4.nN [⟨p, (b, m, d)⟩] (k := 1) rfl rfl rfl (by omega) (by omega) fun a5 c5 s5 h5 m5 => ?_;have hwoff : w ∉ Fw.aW r.1 := hrd4.off k4 (by decide);have k5 : s5 w = some (wW S tt (sa, sn, sc) r mb mo) := m5.at k4 hwoff;refine kS k5 (by show 4 + 1 ≤ 7; omega) (by simp [Value.oneCell']) rfl ?_;intro s6 hs6
   have u6 : Fw.Mod [w] s5 s6 := by rw [hs6]; exact Mod.aS (by simp)
   have moff : ∀ {α : Type} {E : cO α} {e : TypeId} {a : OA} {n c : Nat} {l : List α}, bq E s3 e a n c l → e ≠ 132 → e ≠ 147 → bq E s6 e a n c l := fun {α E e a n c l} hr hne hne2 => by
    have h4 := notmb hr;have h5' := gZ h4 hrd4 hne m5;refine h5'.mod u6 fun g hg hb => ?_
    have : g = w := by simpa using hb
    subst this;rcases h5'.shape with ⟨rfl, _⟩ | ⟨g', rfl⟩
    ·simp [Fw.aW] at hg
    ·simp [Fw.aW] at hg; subst hg;obtain ⟨cur, q2⟩ := h5'.ty rfl;rw [k5] at q2; cases q2; exact hne2 rfl
   have mapoff : ∀ k es c, (s3.aS mb o) k = some (.map es c) → s6 k = some (.map es c) := fun k es c hk => by
    have h5' : s5 k = some (.map es c) := m5.at hk fun hb => by
     rcases hrd4.row.shape with ⟨e0, _⟩ | ⟨g', e0⟩
     ·rw [e0] at hb; simp [Fw.aW] at hb
     ·rw [e0] at hb; simp [Fw.aW] at hb; subst hb;obtain ⟨cur, q2⟩ := hrd4.row.ty e0;rw [hk] at q2; cases q2
    refine u6.at h5' fun hb => ?_
    have : k = w := by simpa using hb
    subst this;rw [k5] at h5'; cases h5'
   have md6 : Fw.Mod [] s0 s6 := h5.md.fresh u6 (by simp [hx.w0])
   have r6 : Gw FV 132 s0 s6 a5 (r.2.1 + 1) c5 (qs ++ [⟨p, (b, m, d)⟩]) := by
    refine ⟨h5.row.mod u6 fun g hg hb => ?_, h5.fr, md6⟩
    have : g = w := by simpa using hb
    subst this;exact h5.off k5 (by decide) hg
   have k6 : s6 w = some (wW S tt (sa, sn, sc) (a5, r.2.1 + 1, c5) mb mo) := by rw [hs6, PH.bE]; (first | done | rfl)
   have hkt : Kt s s6 := by
    refine (Kt.of m03).trans ?_;refine Kt.trans (s' := s3.aS mb o) (fun k cur e hk _ _ => ?_) (Kt.trans (s' := s5) (Kt.mod m5 fun g hg cur e hgc => .inr ?_) (Kt.mod u6 fun g hg cur e hgc => .inl ?_))
    ·refine u4.at hk fun hb => ?_
     have : k = mb := by simpa using hb
     subst this;rw [hmbs] at hk; cases hk
    ·rcases hrd4.row.shape with ⟨e0, _⟩ | ⟨g', e0⟩
     ·rw [e0] at hg; simp [Fw.aW] at hg
     ·rw [e0] at hg; simp [Fw.aW] at hg; subst hg;obtain ⟨cur2, q2⟩ := hrd4.row.ty e0;rw [hgc] at q2; cases q2; (first | done | rfl)
    ·have : g = w := by simpa using hg
     subst this;rw [k5] at hgc; cases hgc; (first | done | rfl)
   refine hJ _ _ ⟨(a2, n2, c2), rfl, ⟨(a5, r.2.1 + 1, c5), mb, mo, qs ++ [⟨p, (b, m, d)⟩], bs ++ [(p, (a2, n2, c2))], f, ?_⟩, moff (hG2.row.mod hG3.md (by simp)) (by decide) (by decide), hkt⟩;refine ⟨md6, hx.w0, k6, hx.mb0, hx.mo0, hx.ne, r6, ?_, ?_, ?_, ?_, ?_, ?_, hx.omk, hx.omp⟩
   ·rw [hadd, List.map_append, hx.rdq]; (first | done | rfl)
   ·intro q hq;rcases List.mem_append.1 hq with hq | hq
    ·exact moff (hx.seen q hq) (by decide) (by decide)
    ·simp only [List.mem_singleton] at hq;subst hq;exact moff hG3.row (by decide) (by decide)
   ·obtain ⟨es, cc, q1, q2⟩ := ho;exact ⟨es, cc, mapoff _ _ _ q1, q2⟩
   ·rw [hadd, List.map_append, hx.bmq]; (first | done | rfl)
   ·intro e he;rcases List.mem_append.1 he with he | he
    ·exact moff (hx.bv e he) (by decide) (by decide)
    ·simp only [List.mem_singleton] at he;subst he;exact moff (hG2.row.mod hG3.md (by simp)) (by decide) (by decide)
   ·obtain ⟨es, cc, q1, q2⟩ := hx.om;exact ⟨es, cc, mapoff _ _ _ (by rw [PH.bJ _ _ hx.ne.symm]; exact q1), q2⟩
end
section
attribute [-simp] Fw.W.bD Fw.W.bB
theorem pP {α : Type} {E : cO α} {e : TypeId} {s s' : PH} {a : OA} {n c : Nat} {l : List α} {L : List Nat} (h : bq E s e a n c l) (hm : Fw.Mod L s s') (hL : ∀ g ∈ L, ∃ cur e', s g = some (.cells cur e' (0, 0)) ∧ e' ≠ e) : bq E s' e a n c l := by
 refine h.mod hm fun g hg hb => ?_;obtain ⟨cur, e', h1, h2⟩ := hL g hb;rcases h.shape with ⟨rfl, _⟩ | ⟨g', rfl⟩
 ·simp [Fw.aW] at hg
 ·simp [Fw.aW] at hg; subst hg;obtain ⟨c2, h3⟩ := h.ty rfl;rw [h1] at h3; cases h3;exact h2 rfl
def yS (s : PH) (L : List Nat) : Prop := ∀ g ∈ L, ∃ cur e, s g = some (.cells cur e (0, 0)) ∧ e ≠ 147 ∧ e ≠ 132 ∧ e ≠ 215 ∧ e ≠ 75
theorem EI.keep {s0 s s' : PH} {w : Nat} {S : aK} {tt sh : aU} {B : List Ht} {rds : List cx} {ov : List Wr} {L : List Nat} (h : EI s0 s w S tt sh B rds ov) (hm : Fw.Mod L s s') (h0 : ∀ g ∈ L, s0 g = none) (hL : yS s L) : EI s0 s' w S tt sh B rds ov := by
 obtain ⟨r, mb, mo, qs, bs, f, h⟩ := h
 have hmap : ∀ k es c, s k = some (.map es c) → k ∉ L := fun k es c hk hb => by
  obtain ⟨cur, e, h1, _⟩ := hL k hb;rw [hk] at h1; cases h1
 have md : Fw.Mod [] s0 s' := h.md.fresh hm fun g hg => .inr (h0 g hg);refine ⟨r, mb, mo, qs, bs, f, md, h.w0, hm.at h.aW fun hb => ?_, h.mb0, h.mo0, h.ne, ⟨pP h.rd.row hm fun g hg => ?_, h.rd.fr, md⟩, h.rdq, fun q hq => pP (h.seen q hq) hm fun g hg => ?_, ?_, h.bmq, fun e he => pP (h.bv e he) hm fun g hg => ?_, ?_, h.omk, h.omp⟩
 ·obtain ⟨cur, e, h1, h2, _⟩ := hL w hb;rw [h.aW] at h1; cases h1;exact h2 rfl
 ·obtain ⟨cur, e, h1, h2, h3, h4, h5⟩ := hL g hg; exact ⟨cur, e, h1, h3⟩
 ·obtain ⟨cur, e, h1, h2, h3, h4, h5⟩ := hL g hg; exact ⟨cur, e, h1, h4⟩
 ·obtain ⟨es, c, h1, h2⟩ := h.bm;exact ⟨es, c, hm.at h1 (hmap _ _ _ h1), h2⟩
 ·obtain ⟨cur, e', h1, h2, h3, h4, h5⟩ := hL g hg; exact ⟨cur, e', h1, h5⟩
 ·obtain ⟨es, c, h1, h2⟩ := h.om;exact ⟨es, c, hm.at h1 (hmap _ _ _ h1), h2⟩
structure EJ (s0 s : PH) (w : Nat) (S : aK) (tt sh : aU) (B : List Ht) (rds : List cx) (ov : List Wr) : Prop where
 ei : EI s0 s w S tt sh B rds ov
 cJ : jK ov
 sm : ∀ x ∈ ov, x.key.size ≤ 4000000 ∧ x.val.size ≤ 4000000
 ol : ov.length ≤ 800000
section
variable {s0 s s' : PH} {w : Nat} {S : aK} {tt sh : aU} {B : List Ht} {rds : List cx} {ov : List Wr}
theorem EJ.same (h : EJ s0 s w S tt sh B rds ov) (hm : Fw.Mod [] s s') : EJ s0 s' w S tt sh B rds ov := ⟨h.ei.same hm, h.cJ, h.sm, h.ol⟩
theorem EJ.keep {L : List Nat} (h : EJ s0 s w S tt sh B rds ov) (hm : Fw.Mod L s s') (h0 : ∀ g ∈ L, s0 g = none) (hL : yS s L) : EJ s0 s' w S tt sh B rds ov := ⟨h.ei.keep hm h0 hL, h.cJ, h.sm, h.ol⟩
theorem EJ.md (h : EJ s0 s w S tt sh B rds ov) : Fw.Mod [] s0 s := h.ei.md
end
theorem w4 (ts : Int) (l : List Ht) (x : Wr) : (eV ts l x).length ≤ l.length + 1 := by
 have h1 := congrArg List.length (List.takeWhile_append_dropWhile (p := fun h : Ht => bK h.key x.key) (l := l));have h2 := List.length_filter_le (fun h : Ht => decide (h.key ≠ x.key)) (l.dropWhile fun h => bK h.key x.key)
 have h3 : (gW ts x).length ≤ 1 := by unfold gW; split <;> simp
 rw [List.length_append] at h1;unfold eV;rw [List.length_append, List.length_append]; omega
theorem mw (ts : Int) : ∀ (ws : List Wr) (l : List Ht), (ai ts l ws).length ≤ l.length + ws.length
 | [], l => Nat.le_refl _
 | x :: ws, l => by
  have h1 := mw ts ws (eV ts l x);have h2 := w4 ts l x
  show (ai ts (eV ts l x) ws).length ≤ _
  rw [List.length_cons]; omega
theorem gL {l : List Ht} {p : cx} {h : Ht} (hh : h ∈ aI l p) : h ∈ l := (List.mem_filter.1 hh).1
section
variable {s0 s : PH} {w : Nat} {S : aK} {tt sh : aU} {B : List Ht} {rds : List cx} {ov : List Wr}
theorem iy (hB : jI s0 sh B) (hv : jK ov) (hs : ∀ x ∈ ov, x.key.size ≤ 4000000 ∧ x.val.size ≤ 4000000) : oa (ai 0 B ov) ∧ ny (ai 0 B ov) := by
 refine ⟨fun h hh => ?_, fun h hh => ?_⟩
 ·rcases (jB _ hB.cJ hv h).1 hh with ⟨x, hx, _, rfl⟩ | ⟨hl, _⟩
  ·have := (hs x hx).1; dsimp only; omega
  ·exact hB.ks h hl
 ·rcases (jB _ hB.cJ hv h).1 hh with ⟨x, hx, _, rfl⟩ | ⟨hl, _⟩
  ·exact (hs x hx).2
  ·exact hB.vs h hl
theorem uL (hB : jI s0 sh B) (h : ov.length ≤ 800000) (p : cx) : (aI (ai 0 B ov) p).length ≤ 900000 := by
 have h1 : (aI (ai 0 B ov) p).length ≤ (ai 0 B ov).length := List.length_filter_le _ _;have h2 := mw 0 ov B;have h3 := hB.sl.len;have h4 := hB.dF;omega
theorem vV (hB : jI s0 sh B) (h : EJ s0 s w S tt sh B rds ov) (hrl : rds.length ≤ 4000000) (p : cx) (hp1 : p.1.size ≤ 4000000) :
  ah 185 #[cp w, nt p] s fun y s' => ∃ a n c, y = .slice a n c ∧ Gw bh 75 s0 s' a n c (aI (ai 0 B ov) p) ∧ EJ s0 s' w S tt sh B (gR rds p) ov ∧ Kt s s' := by
 refine (Jm hB h.cJ h.ol h.ei hrl p hp1).mono ?_;rintro _ s1 ⟨a, n, c, rfl, h1, h2, h3⟩;exact ⟨a, n, c, rfl, h1, ⟨h2, h.cJ, h.sm, h.ol⟩, h3⟩
end
theorem td (rds : List cx) (p : cx) : (gR rds p).length ≤ rds.length + 1 := by unfold gR; split <;> simp
def bT (rds : List cx) (l : List cx) : List cx := l.foldl gR rds
theorem eR : ∀ (l rds : List cx), (bT rds l).length ≤ rds.length + l.length
 | [], rds => Nat.le_refl _
 | p :: l, rds => by
  have h1 := eR l (gR rds p);have h2 := td rds p
  show (bT (gR rds p) l).length ≤ _
  rw [List.length_cons]; omega
theorem cT (rds l m : List cx) : bT rds (l ++ m) = bT (bT rds l) m := List.foldl_append
def Nw (s : PH) (a : OA) : Prop := ∀ g ∈ Fw.aW a, ∀ cur e, s g = some (.cells cur e (0, 0)) → e = 147 ∨ e = 132
theorem Nw.of {s : PH} {a : OA} (h : ∀ g ∈ Fw.aW a, s g = none) : Nw s a := fun g hg cur e he => by rw [h g hg] at he; cases he
theorem Nw.back {s s' : PH} {a : OA} (hk : Kt s s') (h : Nw s' a) : Nw s a := fun g hg cur e he => by
 by_cases h1 : e = 147
 ·exact .inl h1
 ·by_cases h2 : e = 132
  ·exact .inr h2
  ·exact h g hg cur e (hk g cur e he h1 h2)
theorem Nw.none (s : PH) : Nw s none := fun g hg => by simp [Fw.aW] at hg
theorem Kt.nw {s s1 s2 : PH} {a : OA} (hk : Kt s s1) (hm : Fw.Mod (Fw.aW a) s1 s2) (hn : Nw s a) : Kt s s2 := fun k cur e h1 h2 h3 =>
 hm.at (hk k cur e h1 h2 h3) fun hb => by rcases hn k hb cur e h1 with g | g; exact h2 g; exact h3 g
theorem fG.since {s0 s1 s2 : PH} {a : OA} {n c : Nat} {L : List Rw} {qs : List iK} (h : fG s1 s2 a n c L qs) (hm : Fw.Mod [] s0 s1) : fG s0 s2 a n c L qs :=
 ⟨⟨h.gw.row, fun g hg => hm.none (h.gw.fr g hg) (by simp), hm.trans h.gw.md⟩, h.eq, fun q hq => ⟨(h.cs q hq).1, fun g hg => hm.none ((h.cs q hq).2 g hg) (by simp)⟩⟩
theorem fG.apart {s0 s : PH} {a : OA} {n c : Nat} {L : List Rw} {qs : List iK} (h : fG s0 s a n c L qs) : yS s (Fw.aW a) := fun g hg => by
 rcases h.gw.row.shape with ⟨rfl, _⟩ | ⟨g', rfl⟩
 ·simp [Fw.aW] at hg
 ·simp [Fw.aW] at hg; subst hg;obtain ⟨cur, hc⟩ := h.gw.row.ty rfl;exact ⟨cur, _, hc, by decide, by decide, by decide, by decide⟩
theorem D0 (t : Int) (v : aH) : (cH t v).size ≤ 1120 := fu _
section
variable {s0 s : PH} {w : Nat} {S : aK} {tt sh : aU} {B : List Ht} {rds : List cx} {ov : List Wr}
theorem zz (hB : jI s0 sh B) (h : EJ s0 s w S tt sh B rds ov) (hrl : rds.length ≤ 4000000) {p : aD} (hp : gz s0 p) (hc : p.T.cols ≠ []) (v : aH) :
  ah 121 #[cp w, ep p.T p.c p.x p.k, dV v] s fun y s' => ∃ a n c qs, y = .slice a n c ∧ fG s0 s' a n c (gY p.T v (ai 0 B ov)) qs ∧ Nw s a ∧ EJ s0 s' w S tt sh B (gR rds (cF p.T.id v)) ov ∧ Kt s s' := by
 refine JV w p.T.id p.T.name p.c.1 p.c.2.1 p.c.2.2 p.x.1 p.x.2.1 p.x.2.2 p.k.1 p.k.2.1 p.k.2.2 v.kind v.n v.s _ s ?_;unfold CM;simp only [aY, aP, aF];refine aN ((cH p.T.id v, ()), ()) (ED p.T.id v s) rfl ?_;have hsz := D0 p.T.id v;refine (W.cI _ _ _).2 ⟨by dsimp only; omega, ?_⟩;refine W.aq (vV hB h hrl (cF p.T.id v) (by show (cH p.T.id v).size ≤ 4000000; omega)) ?_;rintro _ s1 ⟨a, n, c, rfl, hG, hE, hk⟩;refine ⟨(((a, n, c), ()), ()), rfl, ?_⟩;have hn := hG.row.len;have hl := uL hB h.ol (cF p.T.id v);have hds := iy hB h.cJ h.sm;refine W.aq (uG (hp.mono hE.md.le) hc (Sl.bN hG.row (by omega)) (by dsimp only; omega) (fun x hx => hds.2 x (gL hx))) ?_;rintro _ s2 ⟨a2, n2, c2, qs, rfl, hR⟩;refine ⟨(((a2, n2, c2), ()), ()), rfl, ?_⟩;exact ⟨a2, n2, c2, qs, rfl, hR.since hE.md, Nw.back hk (Nw.of hR.gw.fr), hE.same hR.gw.md, hk.trans (Kt.of hR.gw.md)⟩
theorem B1 (hB : jI s0 sh B) (h : EJ s0 s w S tt sh B rds ov) (hrl : rds.length ≤ 4000000) (p : cx) (hp1 : p.1.size ≤ 4000000) :
  ah 194 #[cp w, nt p] s fun y s' => ∃ a n c, y = .tuple #[.slice a n c, .int .i64 (if 64 < (aI (ai 0 B ov) p).length then 156 else 0)] ∧ Gw bh 75 s0 s' a n c (if 64 < (aI (ai 0 B ov) p).length then [] else aI (ai 0 B ov) p) ∧ EJ s0 s' w S tt sh B (gR rds p) ov ∧ Kt s s' := by
 refine HT w p.1 p.2 _ s ?_;unfold Bn;simp only [aY, aR, aF];refine W.aq (vV hB h hrl p hp1) ?_;rintro _ s1 ⟨a, n, c, rfl, hG, hE, hk⟩;refine ⟨(((a, n, c), ()), ()), rfl, ?_⟩;have hn := hG.row.len;refine aC (fun e => ?_) fun e => ?_
 ·have e : (n : Int) > 64 := of_decide_eq_true e;rw [if_pos (by omega), if_pos (by omega)];exact ⟨none, 0, 0, rfl, Gw.nil hE.md, hE, hk⟩
 ·have e : ¬ (n : Int) > 64 := of_decide_eq_false e;rw [if_neg (by omega), if_neg (by omega)];exact ⟨a, n, c, rfl, hG, hE, hk⟩
theorem Ec {l : List aH} : (under l).1.size ≤ 1120 := fu _
theorem IX (T : az) (D : List Ht) : ff T D = (if 64 < (aI D (bG T.id)).length then 156 else 0, jg T (if 64 < (aI D (bG T.id)).length then [] else aI D (bG T.id))) := by
 unfold ff; split <;> rfl
theorem EE (hB : jI s0 sh B) (h : EJ s0 s w S tt sh B rds ov) (hrl : rds.length ≤ 4000000) {p : aD} (hp : gz s0 p) (hc : p.T.cols ≠ []) :
  ah 190 #[cp w, ep p.T p.c p.x p.k] s fun y s' => ∃ a n c qs, y = .tuple #[.slice a n c, .int .i64 (ff p.T (ai 0 B ov)).1] ∧ fG s0 s' a n c (ff p.T (ai 0 B ov)).2 qs ∧ Nw s a ∧ EJ s0 s' w S tt sh B (gR rds (bG p.T.id)) ov ∧ Kt s s' := by
 refine JT w p.T.id p.T.name p.c.1 p.c.2.1 p.c.2.2 p.x.1 p.x.2.1 p.x.2.2 p.k.1 p.k.2.1 p.k.2.2 _ s ?_;unfold CK;simp only [aY, aF];rw [IX];refine aN (((bG p.T.id).1, (bG p.T.id).2, ()), ()) (GW p.T.id s) rfl ?_;refine W.aq (B1 hB h hrl (bG p.T.id) (by have : (bG p.T.id).1.size ≤ 1120 := fu _; omega)) ?_;rintro _ s1 ⟨a, n, c, rfl, hG, hE, hk⟩;refine ⟨(((a, n, c), ()), (_, ()), ()), rfl, ?_⟩;have hn := hG.row.len;have hl := uL hB h.ol (bG p.T.id);have hds := iy hB h.cJ h.sm
 have hlen : (if 64 < (aI (ai 0 B ov) (bG p.T.id)).length then [] else aI (ai 0 B ov) (bG p.T.id)).length ≤ 900000 := by split; exact Nat.zero_le _; exact hl
 refine W.aq (uG (hp.mono hE.md.le) hc (Sl.bN hG.row (by omega)) (by dsimp only; omega) (fun x hx => ?_)) ?_
 ·split at hx
  ·simp at hx
  ·exact hds.2 x (gL hx)
 rintro _ s2 ⟨a2, n2, c2, qs, rfl, hR⟩;refine ⟨(((a2, n2, c2), ()), ()), rfl, ?_⟩;exact ⟨a2, n2, c2, qs, rfl, hR.since hE.md, Nw.back hk (Nw.of hR.gw.fr), hE.same hR.gw.md, hk.trans (Kt.of hR.gw.md)⟩
end
end
section
attribute [-simp] Fw.W.bD Fw.W.bB
theorem kj (v w : aH) : (v.kind == w.kind && (v.n == w.n && (v.s == w.s && true))) = decide (v = w) := by
 obtain ⟨a, b, c⟩ := v;obtain ⟨d, e, f⟩ := w;simp only [aH.mk.injEq, Bool.and_true];rw [Bool.eq_iff_iff];simp only [Bool.and_eq_true, beq_iff_eq, decide_eq_true_eq]
theorem pg {α : Type} {f : α → Bool} {l : List α} {k : Nat} {x : α} (h : l[k]? = some x) : (l.take (k + 1)).filter f = (l.take k).filter f ++ (if f x = true then [x] else []) := by
 rw [List.take_add_one, h];simp only [Option.toList_some, List.filter_append, List.filter_cons, List.filter_nil]
theorem Fe (a : OA) : a.map (·.add 0) = a := by cases a <;> simp [add_zero]
theorem sJ {α : Type} (p : α → Bool) (l : List α) : (aM p l 0 = -1 ∧ ∀ x ∈ l, p x = false) ∨ ∃ (j : Nat) (x : α), aM p l 0 = (j : Int) ∧ l[j]? = some x ∧ p x = true ∧ ∀ j' y, j' < j → l[j']? = some y → p y = false := by
 rcases jr (p := p) l 0 with h | ⟨j, x, h1, h2, h3, h4⟩
 ·exact .inl h
 ·exact .inr ⟨j, x, by simpa using h1, h2, h3, h4⟩
theorem nG {α : Type} (p : α → Bool) (l : List α) : (aM p l 0 = -1 ∧ l.find? p = none) ∨ ∃ (j : Nat) (x : α), aM p l 0 = (j : Int) ∧ l[j]? = some x ∧ l.find? p = some x := by
 rcases sJ p l with ⟨h1, h2⟩ | ⟨j, x, h1, h2, h3, h4⟩
 ·exact .inl ⟨h1, List.find?_eq_none.2 fun x hx => by simp [h2 x hx]⟩
 ·refine .inr ⟨j, x, h1, h2, ?_⟩;obtain ⟨hj, hx⟩ := List.getElem?_eq_some_iff.1 h2;refine List.find?_eq_some_iff_getElem.2 ⟨h3, j, hj, hx, fun i hi => ?_⟩;rw [h4 i _ hi (List.getElem?_eq_getElem (by omega))]; (first | done | rfl)
theorem Ek {zero : List Value} (h : ∀ v ∈ zero, v.oneCell' = true) (N : Nat) : (Builtin.zeroCells zero.toArray N).toList.length = N * zero.length ∧ ∀ v ∈ (Builtin.zeroCells zero.toArray N).toList, v.oneCell' = true := by
 refine ⟨by simp [Builtin.zeroCells], fun v hv => ?_⟩;simp only [Builtin.zeroCells, Array.toList_map, Array.toList_range, List.mem_map, List.mem_range, List.size_toArray] at hv;obtain ⟨i, hi, rfl⟩ := hv
 have hpos : 0 < zero.length := by
  rcases Nat.eq_zero_or_pos zero.length with q | q
  ·rw [q] at hi; omega
  ·exact q
 have hlt := Nat.mod_lt i hpos;rw [getElem!_pos _ _ (by simpa using hlt)];exact h _ (by simp)
theorem ET {α : Type} {E : cO α} {s : PH} {e : TypeId} {a : OA} {m c N : Nat} {xs : List α} {zero : List Value} {K : W.T} (h : bq E s e a m c xs) (hz : zero.length = E.sz) (h1 : ∀ v ∈ zero, v.oneCell' = true) (hN : m + N ≤ c)
  (hK : ∀ s', bq E s' e a m c xs → Fw.Mod (Fw.aW a) s s' → K s') : W.ot zero (if c = m then a else a.map (·.add (m * E.sz))) N K s := by
 obtain ⟨hl, ho⟩ := Ek h1 N;rw [hz] at hl;unfold W.ot
 generalize (Builtin.zeroCells zero.toArray N).toList = news at hl ho
 by_cases hc : c = m
 ·subst hc
  have hN0 : N = 0 := by omega
  subst hN0;have : news = [] := List.length_eq_zero_iff.1 (by rw [hl, Nat.zero_mul]);subst this;rw [if_pos rfl]
  cases a with
  | none => exact hK s h (Mod.refl _ _)
  | some a => exact ⟨fun i hi => absurd hi (Nat.not_lt_zero _), fun v hv => by simp at hv, hK s h (Mod.refl _ _)⟩
 ·rw [if_neg hc];obtain ⟨g1, g2, g3, ⟨rfl, rfl, rfl⟩ | ⟨g, cur, rfl, hg, hcc, ht⟩⟩ := id h
  ·exact absurd rfl hc
  ·simp only [Option.map_some, aV, Nat.zero_add];have hb : (m + N) * E.sz ≤ cur.size := Nat.le_trans (Nat.mul_le_mul_right _ hN) hcc;rw [Nat.add_mul] at hb;refine ⟨fun i hi => ?_, ho, ?_⟩
   ·rw [aV];refine ⟨?_, ?_⟩
    ·unfold PH.cell?; dsimp only; rw [hg]
     have : m * E.sz + i < cur.size := by omega
     simp [this]
    ·unfold PH.frozen?; dsimp only; rw [hg]; simp
   ·cases news with
    | nil => exact hK s h (Mod.refl _ _)
    | cons v news =>
     rw [PH.ki (e := e) (f := (0, 0)) rfl (v :: news) 0 cur s hg (by simp)];refine hK _ ⟨g1, g2, g3, .inr ⟨g, _, rfl, PH.bE _ _ _, by rw [eS]; exact hcc, ?_⟩⟩ (Mod.aS (by simp [Fw.aW]));simp only [Nat.add_zero];rw [fZ _ _ _ (by omega), ← ht];rw [List.append_assoc, List.take_append_of_le_length (by simp; omega), List.take_take, Nat.min_self]
structure vP (l : List aL) : Prop where
 put : dr 0 l = true
 ok : ∀ c ∈ l, sA c
 dF : l.length ≤ 4000000
theorem xe {l : List aL} : l.length ≤ (l.flatMap di).length := by
 induction l with
 | nil => simp
 | cons c l ih =>
  rw [List.flatMap_cons, List.length_append, List.length_cons]
  have : 0 < (di c).length := by unfold di; simp
  omega
theorem wo {x : BA} {l : List aL} (hx : x.size ≤ 4000000) (h : eM x = some l) : vP l := by
 obtain ⟨h1, h2, h3, _⟩ := j7 h;refine ⟨h2, h3, ?_⟩;have h4 := xe (l := l);rw [h1, bR] at hx;omega
structure za (T : az) (r : Rw) : Prop where
 cs : vP r.cells
 ne : r.cells ≠ []
 key : r.key = au r.cells (bz T)
theorem EW {T : az} {h : Ht} {r : Rw} (hx : h.val.size ≤ 4000000) (e : eL T h = some r) : za T r := by
 unfold eL at e
 cases hg : eM h.val with
 | none => rw [hg] at e; cases e
 | some l =>
  rw [hg] at e
  cases l with
  | nil => cases e
  | cons c l =>
   cases e;exact ⟨wo hx hg, by simp, rfl⟩
theorem AK {T : az} {l : List Ht} (hv : ny l) : ∀ r ∈ jg T l, za T r := fun r hr => by
 obtain ⟨h, hh, e⟩ := List.mem_filterMap.1 hr;exact EW (hv h hh) e
theorem Cn {T : az} {k : aH} {D : List Ht} (hv : ny D) : ∀ r ∈ gY T k D, za T r := AK fun h hh => hv h (gL hh)
theorem rR {T : az} {D : List Ht} (hv : ny D) : ∀ r ∈ (ff T D).2, za T r := by
 unfold ff
 split
 ·intro r hr; simp at hr
 ·exact AK fun h hh => hv h (gL hh)
theorem xo {T : az} {b : cG} {D : List Ht} (hv : ny D) : ∀ r ∈ (aX T b D).2, za T r := by
 unfold aX
 split
 ·exact rR hv
 ·split
  ·exact Cn hv
  ·split
   ·intro r hr; exact rR hv r (List.mem_filter.1 hr).1
   ·split
    ·intro r hr; simp at hr
    ·intro r hr;obtain ⟨k, _, hk⟩ := List.mem_flatMap.1 hr;exact Cn hv r hk
theorem rA (T : az) (l : List Ht) : (jg T l).length ≤ l.length := List.length_filterMap_le _ _
abbrev l7 (b : cG) (t : aU) : Obj := .cells #[.int .i64 b.kind, .int .i64 b.table, .slice t.1 t.2.1 t.2.2, .int .i64 b.set, .int .i64 b.to.kind, .int .i64 b.to.n, .string b.to.s, .int .i64 b.whr, .int .i64 b.is.kind, .int .i64 b.is.n, .string b.is.s] 127 (0, 0)
abbrev nU (b : cG) (t : aU) : Value := .agg #[.int .i64 b.kind, .int .i64 b.table, .slice t.1 t.2.1 t.2.2, .int .i64 b.set, .int .i64 b.to.kind, .int .i64 b.to.n, .string b.to.s, .int .i64 b.whr, .int .i64 b.is.kind, .int .i64 b.is.n, .string b.is.s]
abbrev qT (x : dx) : Den [.int .i64, .str, .int .i64, .bool, .int .i64] := (x.id, x.name, x.column, x.unique, x.state, ())
theorem EL {s : PH} {p : Nat} {b : cG} {t : aU} (hp : s p = some (l7 b t)) (x : dx) : ah 191 #[G9 x, cp p] s fun y s' => y = .bool (rY b.whr x) ∧ s' = s := by
 refine DN x.id x.name x.column x.unique x.state p _ s ?_;unfold vJ;simp only [bL, aR, aF, aV, Nat.zero_add];refine (W.aA hp _ _ _ _).2 ⟨(b.whr, ()), rfl, ?_⟩;dsimp only;unfold rY;refine aC (fun e => ?_) fun e => ?_
 ·exact ⟨by rw [e, Bool.true_and], rfl⟩
 ·exact ⟨by rw [e, Bool.false_and], rfl⟩
theorem yG {s : PH} {a : OA} {n c p : Nat} {l : List dx} {b : cG} {t : aU} (h : Sl jY s (a, n, c) l) (hp : s p = some (l7 b t)) :
  ah 90 #[.slice a n c, .func (.func 191) #[] #[cp p]] s fun y s' => y = .int .i64 (aM (rY b.whr) l 0) ∧ s' = s := by
 refine wJ a n c p _ s ?_;unfold oR;exact jZ qT h (fun _ => rfl) (fun x _ => EL hp x) ⟨rfl, rfl⟩
def nH (b : cG) (r : Rw) : Bool := decide (au r.cells b.whr = b.is)
theorem w9 {s : PH} {p : Nat} {b : cG} {t : aU} (hp : s p = some (l7 b t)) {r : Rw} {u : aU} (hu : Sl bu s u r.cells) : ah 193 #[Lf r u, cp p] s fun y s' => y = .bool (!nH b r) ∧ s' = s := by
 obtain ⟨ua, un, uc⟩ := u;refine DO r.key.kind r.key.n r.key.s ua un uc p _ s ?_;unfold vK;simp only [bL, bM, aF, aV, Nat.zero_add];refine (W.aA hp _ _ _ _).2 ⟨(b.whr, ()), rfl, ?_⟩;refine W.bF (bC (au r.cells b.whr), ()) (lH hu b.whr) rfl ?_;refine (W.aA hp _ _ _ _).2 ⟨(b.is.kind, b.is.n, b.is.s, ()), rfl, ?_⟩;refine ⟨?_, rfl⟩;dsimp only;rw [kj]; (first | done | rfl)
theorem yD {s : PH} {a : OA} {n c p : Nat} {qs : List iK} {b : cG} {t : aU} (h : Sl mu s (a, n, c) qs) (hc : ∀ q ∈ qs, Sl bu s q.u q.r.cells) (hp : s p = some (l7 b t)) :
  ah 238 #[.slice a n c, .func (.func 193) #[] #[cp p]] s fun y s' => y = .int .i64 (aM (fun q : iK => !nH b q.r) qs 0) ∧ s' = s := by
 refine wG a n c p _ s ?_;unfold oO;exact jZ (fun q : iK => xK q.r q.u) h (fun _ => rfl) (fun q hq => w9 hp (hc q hq)) ⟨rfl, rfl⟩
theorem fG.cells {s0 s : PH} {a : OA} {n c : Nat} {L : List Rw} {qs : List iK} (h : fG s0 s a n c L qs) (hf : ∀ r ∈ L, r.cells.length ≤ 4000000) : ∀ q ∈ qs, Sl bu s q.u q.r.cells := fun q hq => by
 refine Sl.bN (h.cs q hq).1 ?_;have := hf q.r (by rw [← h.eq]; exact List.mem_map_of_mem hq);omega
theorem Kr {s0 s : PH} {a : OA} {n c p : Nat} {L : List Rw} {qs : List iK} {b : cG} {t : aU} (h : fG s0 s a n c L qs) (hf : ∀ r ∈ L, r.cells.length ≤ 4000000) (hn : n ≤ 100000000) (hp : s p = some (l7 b t)) :
  ah 192 #[.slice a n c, .func (.func 193) #[] #[cp p]] s fun y s' =>
   ∃ m qs', y = .slice a m c ∧ fG s0 s' a m c (L.filter (nH b)) qs' ∧ Fw.Mod (Fw.aW a) s s' := by
 refine wC a n c p _ s ?_;unfold oK;have hlen : n = qs.length := h.gw.row.len;have hle := h.gw.row.le;have hpa : p ∉ Fw.aW a := h.gw.off hp (by decide)
 obtain ⟨keep, hkeep⟩ : ∃ keep : iK → Bool, (fun q => nH b q.r) = keep := ⟨_, rfl⟩
 have hgk : (fun q : iK => !nH b q.r) = fun q => !keep q := by rw [← hkeep]
 have hLf : L.filter (nH b) = (qs.filter keep).map (·.r) := by rw [← h.eq, ← hkeep, List.filter_map]; (first | done | rfl)
 simp only [aR, aY, aF, ir, bL, aT, aP, aQ, qt];have hidx := yD (c := c) (Sl.bN (t := (a, n, c)) h.gw.row (by omega)) (h.cells hf) hp;rw [hgk] at hidx;refine aN ((aM (fun q => !keep q) qs 0, ()), ()) hidx rfl ?_;rcases sJ (fun q => !keep q) qs with ⟨h1, h2⟩ | ⟨i0, x0, h1, hx0, h3, h4⟩
 ·rw [h1];refine (W.af _ _ _ _).2 ⟨fun _ => ⟨n, qs, rfl, ?_, Mod.refl _ _⟩, fun e => by cases e⟩
  have : qs.filter keep = qs := List.filter_eq_self.2 fun x hx => by have := h2 x hx; simpa using this
  rw [hLf, this]; exact ⟨h.gw, rfl, h.cs⟩
 rw [h1];have hi0 := (List.getElem?_eq_some_iff.1 hx0).1;refine aC (fun e => ?_) fun _ => ?_
 ·have e : ((i0 : Int) == -1) = true := e;have : (i0 : Int) = -1 := eq_of_beq e;omega
 dsimp only;rw [aj (k := i0) (by omega)]
 have hbeg : (qs.take (i0 + 1)).filter keep = qs.take i0 := by
  rw [pg hx0]
  have h3' : keep x0 = false := by simpa using h3
  rw [h3'];simp only [Bool.false_eq_true, if_false, List.append_nil];refine List.filter_eq_self.2 fun x hx => ?_;obtain ⟨j, hj⟩ := List.mem_iff_getElem?.1 hx;rw [List.getElem?_take] at hj
  split at hj
  ·have := h4 j x ‹_› hj; simpa using this
  ·cases hj
 refine ⟨fun z s' => ∃ (i j : Nat) (ys : List iK), z = (((i : Int), ()), ((j : Int), ()), ()) ∧ i < j ∧ j ≤ n ∧ bq mu s' 234 a n c ys ∧ Fw.Mod (Fw.aW a) s s' ∧ ys.take i = (qs.take j).filter keep ∧ ys.drop j = qs.drop j, fun z _ => n - z.2.1.1.toNat,
  ⟨i0, i0 + 1, qs, rfl, by omega, by omega, h.gw.row, Mod.refl _ _, hbeg.symm, rfl⟩, ?_⟩
 rintro _ s1 ⟨i, j, ys, rfl, hij, hjn, hrow, m1, htk, hdr⟩;have hyl : n = ys.length := hrow.len;have hcs : ∀ q ∈ qs, bq bu s1 94 q.u.1 q.u.2.1 q.u.2.2 q.r.cells := fun q hq => gZ (h.cs q hq).1 h.gw (by decide) m1;dsimp only;refine aC (fun hlt => ?_) fun hge => ?_
 ·have hlt : (j : Int) < (n : Int) := of_decide_eq_true hlt
  obtain ⟨x, hx⟩ : ∃ x, qs[j]? = some x := ⟨_, List.getElem?_eq_getElem (by omega)⟩
  have hy : ys[j]? = some x := by
   have e1 : (ys.drop j)[0]? = (qs.drop j)[0]? := by rw [hdr]
   simpa [List.getElem?_drop, hx] using e1
  have hxm := List.mem_of_getElem? hx;obtain ⟨g, rfl, hh⟩ := hrow.at hy
  have hh' : s1.has ((Addr.mk g 0 none).add (j * 4)) (mu.f x) := by rw [aV, Nat.zero_add]; exact hh
  refine bg ⟨Int.natCast_nonneg j, hlt⟩ ?_;simp only [cR, Int.toNat_natCast];refine aE hh' (y := xK x.r x.u) rfl ?_;have hcg := w9 (m1.at hp hpa) (Sl.bN (t := x.u) (hcs x hxm) (by have := hf x.r (by rw [← h.eq]; exact List.mem_map_of_mem hxm); omega));have hgx : (!nH b x.r) = !keep x := congrFun hgk x;rw [hgx] at hcg;refine aN ((!keep x, ()), ()) hcg rfl ?_;have hst := pg (f := keep) hx
  have hdr' : ys.drop (j + 1) = qs.drop (j + 1) := by rw [← List.drop_drop, hdr, List.drop_drop]
  dsimp only;refine aC (fun hk => ?_) fun hk => ?_
  ·have hk : keep x = true := by simpa using hk
   refine bg ⟨Int.natCast_nonneg i, by omega⟩ ?_;simp only [cR, Int.toNat_natCast, aV, Nat.zero_add]
   obtain ⟨y, hyi⟩ : ∃ y, ys[i]? = some y := ⟨_, List.getElem?_eq_getElem (by omega)⟩
   refine bq.st (E := mu) (i := i) (j := 0) (x' := x) (vs := mu.f x) hrow hyi rfl (by rw [mu.len]; exact Nat.le_refl _) (by simp [mu]) (mu.one x) rfl fun s2 h2 m2 => ?_;rw [aj (k := i) (by omega), aj (k := j) (by omega)];refine ⟨⟨i + 1, j + 1, ys.set i x, rfl, by omega, by omega, h2, m1.trans (m2.mono fun z hz => by simpa [Fw.aW] using hz), ?_, ?_⟩, by simp only [Int.toNat_natCast]; omega⟩
   ·rw [hst, hk, if_pos rfl, ← htk, List.take_add_one, List.getElem?_set_self (by omega), List.take_set_of_le (Nat.le_refl _)]; (first | done | rfl)
   ·rw [List.drop_set_of_lt (by omega)]; exact hdr'
  ·have hk : keep x = false := by simpa using hk
   rw [aj (k := j) (by omega)];refine ⟨⟨i, j + 1, ys, rfl, by omega, by omega, hrow, m1, ?_, hdr'⟩, by simp only [Int.toNat_natCast]; omega⟩;rw [hst, hk];simpa using htk
 ·have hge : ¬ (j : Int) < (n : Int) := of_decide_eq_false hge
  have hje : j = n := by omega
  subst hje;have hall : qs.take j = qs := List.take_of_length_le (by omega);rw [hall] at htk
  have hpre : bq mu s1 234 a i c (ys.take i) := by
   have := hrow.shrink (m := i) (c' := c) (by omega) (by omega) (Nat.le_refl _)
   have e : (if a = none then none else a) = a := by cases a <;> simp
   rwa [e] at this
  rw [htk] at hpre;refine bg ⟨by omega, by omega, by omega⟩ ?_;simp only [Int.toNat_natCast];refine ET hpre rfl (by simp [Value.oneCell']) (by omega) fun s2 h2 m2 => ?_;refine bg ⟨by omega, by omega, by omega⟩ ?_
  have he : (if c = 0 then a else Option.map (fun x => x.add 0) a) = a := by split <;> simp [Fe]
  refine ⟨i, qs.filter keep, ?_, ⟨⟨h2, h.gw.fr, h.gw.md.fresh (m1.trans m2) fun g hg => .inr (h.gw.fr g hg)⟩, hLf.symm, fun q hq => ?_⟩, m1.trans m2⟩
  ·simp only [he, Nat.sub_zero, Int.toNat_natCast]
  ·have hqm := (List.mem_filter.1 hq).1;exact ⟨gZ (h.cs q hqm).1 h.gw (by decide) (m1.trans m2), (h.cs q hqm).2⟩
theorem fG.cat {s0 s : PH} {a b : OA} {n c m d : Nat} {L M : List Rw} {qs ps : List iK} {K : OA → Nat → Nat → W.T} (h : fG s0 s a n c L qs) (h2 : fG s0 s b m d M ps) (hl : n + m ≤ 1000000000)
  (hK : ∀ a' c' s', fG s0 s' a' (n + m) c' (L ++ M) (qs ++ ps) → Fw.Mod (Fw.aW a) s s' → (a' = a ∨ ∀ g ∈ Fw.aW a', s g = none) → K a' (n + m) c' s') :
  W.app 234 4 56 [.int .i64 0, .int .i64 0, .string ⟨#[]⟩, .slice none 0 0] a n c (Src.sl b m) K s := by
 have hmax : maxLen = 9223372036854775807 := rfl;have hlp := h2.gw.row.len;have hsl : Sl mu s (b, m, d) ps := Sl.bN h2.gw.row (by omega);refine jk h.gw.row rfl (ys := ps) (k := m) hsl.el.lE rfl hlp.symm (by omega) (by omega) ?_;intro a' c' s' h' hm
 have m1 : Fw.Mod (Fw.aW a) s s' := by
  rcases hm with ⟨rfl, hm⟩ | ⟨g, rfl, hg, hm⟩
  ·exact hm
  ·exact hm.mono (by simp)
 refine hK a' c' s' ⟨⟨h', ?_, h.gw.md.fresh m1 fun g hg => .inr (h.gw.fr g hg)⟩, by rw [List.map_append, h.eq, h2.eq], fun q hq => ?_⟩ m1 ?_
 ·rcases hm with ⟨rfl, _⟩ | ⟨g, rfl, hg, _⟩
  ·exact h.gw.fr
  ·intro g' hg'
   have : g' = g := by simpa [Fw.aW] using hg'
   subst this;exact h.gw.md.none hg (by simp)
 ·rcases List.mem_append.1 hq with hq | hq
  ·exact ⟨gZ (h.cs q hq).1 h.gw (by decide) m1, (h.cs q hq).2⟩
  ·exact ⟨gZ (h2.cs q hq).1 h.gw (by decide) m1, (h2.cs q hq).2⟩
 ·rcases hm with ⟨rfl, _⟩ | ⟨g, rfl, hg, _⟩
  ·exact .inl rfl
  ·exact .inr fun g' hg' => by
    have : g' = g := by simpa [Fw.aW] using hg'
    subst this; exact hg
end
section
attribute [-simp] Fw.W.bD Fw.W.bB
theorem xl {l : List Ht} {k : Nat} {h : Ht} (hk : l[k]? = some h) : ez (l.take (k + 1)) = ez (l.take k) ++ (nK h.key).toList := by
 unfold ez;rw [List.take_add_one, hk, List.filterMap_append]
 congr 1
theorem AH (T : az) (v : aH) (D : List Ht) : (gY T v D).length ≤ (aI D (cF T.id v)).length := rA _ _
theorem bS {a : OA} {ad : Addr} {k : Addr → W.T} {s : PH} (h : a = some ad) (hk : k ad s) : W.aa a k s := by subst h; exact (W.ay _ _ _).2 hk
section
variable {s0 s : PH} {w : Nat} {S : aK} {tt sh : aU} {B : List Ht} {rds : List cx} {ov : List Wr}
theorem tu (hB : jI s0 sh B) (h : EJ s0 s w S tt sh B rds ov) (hrl : rds.length ≤ 3900000) {p : aD} (hp : gz s0 p) (hc : p.T.cols ≠ []) (b : cG) (t : aU) :
  ah 124 #[cp w, ep p.T p.c p.x p.k, nU b t] s fun y s' => ∃ a n c qs, y = .tuple #[.slice a n c, .int .i64 (aX p.T b (ai 0 B ov)).1] ∧ fG s0 s' a n c (aX p.T b (ai 0 B ov)).2 qs ∧ EJ s0 s' w S tt sh B (bT rds (cy p.T b (ai 0 B ov))) ov ∧ Kt s s' := by
 refine FK w p.T.id p.T.name p.c.1 p.c.2.1 p.c.2.2 p.x.1 p.x.2.1 p.x.2.2 p.k.1 p.k.2.1 p.k.2.2 b.kind b.table t.1 t.2.1 t.2.2 b.set b.to.kind b.to.n b.to.s b.whr b.is.kind b.is.n b.is.s _ s ?_;unfold yu
 obtain ⟨D, hD⟩ : ∃ D, ai 0 B ov = D := ⟨_, rfl⟩
 obtain ⟨R, hR⟩ : ∃ R : Value → PH → Prop, (fun y s' => ∃ a n c qs, y = .tuple #[.slice a n c, .int .i64 (aX p.T b (ai 0 B ov)).1] ∧ fG s0 s' a n c (aX p.T b (ai 0 B ov)).2 qs ∧ EJ s0 s' w S tt sh B (bT rds (cy p.T b (ai 0 B ov))) ov ∧ Kt s s') = R := ⟨_, rfl⟩
 rw [hR];rw [hD] at hR;have hds := iy hB h.cJ h.sm;have hdl := fun q => uL hB h.ol q;have hrow := fun {s : PH} {rds : List cx} (h : EJ s0 s w S tt sh B rds ov) (hrl : rds.length ≤ 4000000) => zz (p := p) hB h hrl hp hc;have hall := fun {s : PH} {rds : List cx} (h : EJ s0 s w S tt sh B rds ov) (hrl : rds.length ≤ 4000000) => EE (p := p) hB h hrl hp hc;have hmany := fun {s : PH} {rds : List cx} (h : EJ s0 s w S tt sh B rds ov) (hrl : rds.length ≤ 4000000) => B1 hB h hrl;rw [hD] at hds;simp only [hD] at hdl hrow hall hmany;simp only [bY, bL, aR, aY, aF, aP, aT, aQ, bM, cX, cR, aV, Nat.zero_add];refine W.bI fun r0 s1 hr0 m1 k0 => ?_;have k0 : s1 r0 = some (l7 b t) := k0;have h1 := h.same m1;have t1 : Kt s s1 := Kt.of m1;have l0 : ∀ {s2 : PH} (K : Den [CT.int IntKind.i64] → W.T), s2 r0 = some (l7 b t) → K (b.whr, ()) s2 → W.ld [.int .i64] ⟨r0, 7, none⟩ K s2 := fun K hk hK => (W.aA hk _ _ _ _).2 ⟨(b.whr, ()), rfl, hK⟩;have l1 : ∀ {s2 : PH} (K : Den [CT.int IntKind.i64, CT.int IntKind.i64, CT.str] → W.T), s2 r0 = some (l7 b t) → K (b.is.kind, b.is.n, b.is.s, ()) s2 → W.ld [.int .i64, .int .i64, .str] ⟨r0, 8, none⟩ K s2 := fun K hk hK => (W.aA hk _ _ _ _).2 ⟨(b.is.kind, b.is.n, b.is.s, ()), rfl, hK⟩;refine l0 _ k0 ?_;dsimp only;refine aC (fun e => ?_) fun e => ?_
 ·have e : b.whr = 0 := eq_of_beq e
  have e1 : aX p.T b D = ff p.T D := by unfold aX; rw [if_pos e]
  have e2 : cy p.T b D = [bG p.T.id] := by unfold cy; rw [if_pos e]
  refine W.aq (hall h1 (by omega)) ?_;rintro _ s2 ⟨a, n, c, qs, rfl, hq, hn, hE, hk⟩;refine ⟨(((a, n, c), ()), (_, ()), ()), rfl, ?_⟩;rw [← hR, e1, e2];exact ⟨a, n, c, qs, rfl, hq, hE, t1.trans hk⟩
 have hw0 : ¬ b.whr = 0 := by simpa using e
 refine l0 _ k0 ?_;have hcs := hp.c.mono h1.md.le
 obtain ⟨c0, hc0⟩ : ∃ c0, p.T.cols[0]? = some c0 := by
  cases hT : p.T.cols with
  | nil => exact absurd hT hc
  | cons x r => exact ⟨x, rfl⟩
 have hcol0 : bz p.T = c0.id := by unfold bz; rw [hc0]; (first | done | rfl)
 have hclen : p.c.2.1 = p.T.cols.length := hcs.len
 have hcpos : 0 < p.c.2.1 := by rw [hclen]; exact List.length_pos_iff.2 hc
 refine bg ⟨by omega, by omega⟩ ?_;obtain ⟨ac, hac, hhc⟩ := hcs.el.aG hc0;refine bS hac ?_
 have hhc : s1.has (ac.add 0) (dw.f c0) := by simpa using hhc
 refine bl (j := 0) hhc (y := (c0.id, ())) rfl ?_;dsimp only;refine aC (fun e => ?_) fun e => ?_
 ·have e : b.whr = c0.id := eq_of_beq e;rw [← hcol0] at e
  have e1 : aX p.T b D = (0, gY p.T b.is D) := by unfold aX; rw [if_neg hw0, if_pos e]
  have e2 : cy p.T b D = [cF p.T.id b.is] := by unfold cy; rw [if_neg hw0, if_pos e]
  refine l1 _ k0 ?_;refine W.aq (hrow h1 (by omega) b.is) ?_;rintro _ s2 ⟨a, n, c, qs, rfl, hq, hn, hE, hk⟩;refine ⟨(((a, n, c), ()), ()), rfl, ?_⟩;rw [← hR, e1, e2];exact ⟨a, n, c, qs, rfl, hq, hE, t1.trans hk⟩
 have hw1 : ¬ b.whr = bz p.T := by rw [hcol0]; simpa using e
 have hidx := yG (c := p.x.2.2) (hp.x.mono h1.md.le) k0;refine aN ((aM (rY b.whr) p.T.idxs 0, ()), ()) hidx rfl ?_;rcases nG (rY b.whr) p.T.idxs with ⟨f1, f2⟩ | ⟨i, x, f1, f2, f3⟩
 ·rw [f1];refine (W.af _ _ _ _).2 ⟨fun _ => ?_, fun e => absurd e (by decide)⟩
  have e1 : aX p.T b D = ((ff p.T D).1, (ff p.T D).2.filter (nH b)) := by unfold aX rV; rw [if_neg hw0, if_neg hw1, f2]; (first | done | rfl)
  have e2 : cy p.T b D = [bG p.T.id] := by unfold cy rV; rw [if_neg hw0, if_neg hw1, f2]
  refine W.aq (hall h1 (by omega)) ?_;rintro _ s2 ⟨a, n, c, qs, rfl, hq, hn, hE, hk⟩;refine ⟨(((a, n, c), ()), (_, ()), ()), rfl, ?_⟩
  have hal : (ff p.T D).2.length ≤ 900000 := by
   have := hdl (bG p.T.id);unfold ff; split
   ·exact Nat.zero_le _
   ·exact Nat.le_trans (rA _ _) this
  have hql := hq.len;refine W.aq (Kr hq (fun r hr => (rR hds.2 r hr).cs.dF) (by dsimp only; omega) (hk r0 _ _ k0 (by decide) (by decide))) ?_;rintro _ s3 ⟨m, qs', rfl, hq3, m3⟩;refine ⟨(((a, m, c), ()), ()), rfl, ?_⟩;rw [← hR, e1, e2];exact ⟨a, m, c, qs', rfl, hq3, hE.keep m3 hq.gw.fr hq.apart, (t1.trans hk).nw m3 (Nw.back t1 hn)⟩
 rw [f1];have hil := (List.getElem?_eq_some_iff.1 f2).1;refine aC (fun e => ?_) fun _ => ?_
 ·have e : (i : Int) < 0 := of_decide_eq_true e;omega
 have hxs := hp.x.mono h1.md.le;have hxl : p.x.2.1 = p.T.idxs.length := hxs.len;dsimp only;refine bg ⟨Int.natCast_nonneg i, by omega⟩ ?_;obtain ⟨ax, hax, hhx⟩ := hxs.el.aG f2;refine bS hax ?_;simp only [Int.toNat_natCast];have hhx : s1.has (ax.add (i * 5)) (jY.f x) := hhx;refine bl (j := 0) hhx (y := (x.id, ())) rfl ?_;refine l1 _ k0 ?_;refine W.bF (((cP x.id b.is).1, (cP x.id b.is).2, ()), ()) (zv x.id b.is s1) rfl ?_;have hes : (cP x.id b.is).1.size ≤ 1120 := fu _;refine W.aq (hmany h1 (by omega) (cP x.id b.is) (by omega)) ?_;rintro _ s2 ⟨ha, hn, hcp, rfl, hG, hE, hk⟩
 obtain ⟨H, hH⟩ : ∃ H, (if 64 < (aI D (cP x.id b.is)).length then [] else aI D (cP x.id b.is)) = H := ⟨_, rfl⟩
 obtain ⟨er, her⟩ : ∃ er : Int, (if 64 < (aI D (cP x.id b.is)).length then 156 else 0) = er := ⟨_, rfl⟩
 refine ⟨(((ha, hn, hcp), ()), (er, ()), ()), by rw [her]; (first | done | rfl), ?_⟩;rw [hH] at hG
 have e1 : aX p.T b D = (er, (ez H).flatMap fun k => gY p.T k D) := by
  unfold aX rV; rw [if_neg hw0, if_neg hw1, f3, ← hH, ← her]; dsimp only; split <;> rfl
 have e2 : cy p.T b D = cP x.id b.is :: (ez H).map (cF p.T.id) := by
  unfold cy rV; rw [if_neg hw0, if_neg hw1, f3, ← hH]; dsimp only; split <;> rfl
 have hHl : H.length ≤ 64 := by rw [← hH]; split; exact Nat.zero_le _; omega
 have hHk : ∀ y ∈ H, y.key.size ≤ 140737488351232 := fun y hy => by
  rw [← hH] at hy
  split at hy
  ·simp at hy
  ·exact hds.1 y (gL hy)
 have hHn := hG.row.len;have t2 : Kt s s2 := t1.trans hk;dsimp only
 refine ⟨fun z s' => ∃ (k : Nat) (a : OA) (n c : Nat) (qs : List iK), z = ((p.T.id, p.T.name, p.c, p.x, p.k, ()), (er, ()), ((a, n, c), ()), ((ha, hn, hcp), ()), ((hn : Int), ()), ((k : Int), ()), ()) ∧ k ≤ hn ∧ n ≤ k * 900000 ∧ fG s0 s' a n c ((ez (H.take k)).flatMap fun v => gY p.T v D) qs ∧ Nw s a ∧ EJ s0 s' w S tt sh B (bT (gR rds (cP x.id b.is)) ((ez (H.take k)).map (cF p.T.id))) ov ∧ Kt s s' ∧ bq bh s' 75 ha hn hcp H,
  fun z _ => hn - z.2.2.2.2.2.1.1.toNat, ⟨0, none, 0, 0, [], rfl, Nat.zero_le _, Nat.zero_le _, ⟨Gw.nil hE.md, rfl, by simp⟩, Nw.none s, hE, t2, hG.row⟩, ?_⟩
 rintro _ s3 ⟨k, a, n, c, qs, rfl, hkn, hna, hq, hnw, hE3, t3, hH3⟩;dsimp only;refine aC (fun e => ?_) fun e => ?_;rotate_left
 ·have e : ¬ (k : Int) < (hn : Int) := of_decide_eq_false e;rw [List.take_of_length_le (by omega)] at hq hE3;rw [← hR, e1, e2];exact ⟨a, n, c, qs, rfl, hq, hE3, t3⟩
 have hlt : (k : Int) < (hn : Int) := of_decide_eq_true e
 obtain ⟨y, hy⟩ : ∃ y, H[k]? = some y := ⟨_, List.getElem?_eq_getElem (by omega)⟩
 obtain ⟨g, rfl, hh⟩ := hH3.at hy;refine bg ⟨Int.natCast_nonneg k, hlt⟩ ?_;simp only [cR, Int.toNat_natCast, aV, Nat.zero_add];have hh : s3.has ⟨g, k * 3, none⟩ (bh.f y) := hh;refine aE hh (y := pG y) rfl ?_;have hks := xl hy;have hym := List.mem_of_getElem? hy
 have hrd : (bT (gR rds (cP x.id b.is)) ((ez (H.take k)).map (cF p.T.id))).length ≤ 4000000 := by
  have g1 := eR ((ez (H.take k)).map (cF p.T.id)) (gR rds (cP x.id b.is));have g2 := td rds (cP x.id b.is);have g3 : (ez (H.take k)).length ≤ (H.take k).length := List.length_filterMap_le _ _;rw [List.length_take] at g3;rw [List.length_map] at g1;omega
 rw [aj (k := k) (by omega)]
 cases hlv : nK y.key with
 | none =>
  have hwk := zw y.key (hHk y hym) s3;unfold uQ at hwk;simp only [hlv] at hwk;refine aN (bC gm, ((20 : Int), ()), ()) hwk (by unfold gm; (first | done | rfl)) ?_;refine (W.af _ _ _ _).2 ⟨fun e => (by cases e), fun _ => ?_⟩;refine ⟨⟨k + 1, a, n, c, qs, rfl, by omega, Nat.le_trans hna (Nat.mul_le_mul_right _ (Nat.le_succ k)), ?_, hnw, ?_, t3, hH3⟩, by simp only [Int.toNat_natCast]; omega⟩
  ·rw [hks, hlv]; simpa using hq
  ·rw [hks, hlv]; simpa using hE3
 | some v =>
  have hwk := zw y.key (hHk y hym) s3;unfold uQ at hwk;simp only [hlv] at hwk;refine aN (bC v, (0, ()), ()) hwk rfl ?_;refine (W.af _ _ _ _).2 ⟨fun _ => ?_, fun e => (by cases e)⟩;refine W.aq (hrow hE3 hrd v) ?_;rintro _ s4 ⟨a4, n4, c4, qs4, rfl, hq4, hnw4, hE4, hk4⟩;refine ⟨(((a4, n4, c4), ()), ()), rfl, ?_⟩;have hn4 := hq4.len;have hrl4 := AH p.T v D;have hdl4 := hdl (cF p.T.id v);refine (hk4.rws hq hE4.md).cat hq4 (by dsimp only; omega) fun a5 c5 s5 h5 m5 hn5 => ?_;have hq3 := hk4.rws hq hE4.md;have t4 := t3.trans hk4;refine ⟨⟨k + 1, a5, n + n4, c5, qs ++ qs4, rfl, by omega, by omega, ?_, ?_, ?_, t4.nw m5 hnw, ?_⟩, by simp only [Int.toNat_natCast]; omega⟩
  ·rw [hks, hlv];simpa using h5
  ·rcases hn5 with rfl | hn5
   ·exact hnw
   ·exact Nw.back t4 (Nw.of hn5)
  ·rw [hks, hlv, List.map_append, cT];exact hE4.keep m5 hq3.gw.fr hq3.apart
  ·exact pP (hk4.row hH3 (by decide) (by decide)) m5 fun g hg => by
    obtain ⟨cur, e, q1, _, _, _, q2⟩ := hq3.apart g hg;exact ⟨cur, e, q1, q2⟩
end
end
section
attribute [-simp] Fw.W.bD Fw.W.bB
theorem j6 (k : Int) (s : PH) : ah 187 #[.int .i64 k] s fun y s' => y = .bool (cl k) ∧ s' = s := by
 refine DL k _ s ?_;unfold vH cl;simp only [aR, aF];refine (W.af _ _ _ _).2 ⟨fun e => ⟨?_, rfl⟩, fun e => ⟨?_, rfl⟩⟩
 ·rw [e]; (first | done | rfl)
 ·rw [e]; (first | done | rfl)
abbrev IU (a : OA) (n c : Nat) : Obj := .cells #[.slice a n c] 95 (0, 0)
theorem EF {s : PH} {p q : Nat} {a b : OA} {an ac bn bc : Nat} {old new : List aL} (hp : s p = some (IU b bn bc)) (hq : s q = some (IU a an ac)) (ho : Sl bu s (a, an, ac) old) (hn : Sl bu s (b, bn, bc) new) (k : Int) :
  ah 186 #[.int .i64 k, cp p, cp q] s fun y s' => y = .tuple #[dV (au new k), .bool (jn old new k)] ∧ s' = s := by
 refine DI k p q _ s ?_;unfold vE jn;have hol : an = old.length := ho.len;simp only [bL, aY, bM, aR, aF];refine (W.aA hp _ _ _ _).2 ⟨((b, bn, bc), ()), rfl, ?_⟩;refine aN (bC (au new k), ()) (lH hn k) rfl ?_;dsimp only;refine aC (fun e => ?_) fun e => ?_
 ·have e : (au new k).kind ≠ 0 := by simpa using e
  refine (W.aA hq _ _ _ _).2 ⟨((a, an, ac), ()), rfl, ?_⟩;dsimp only;refine aC (fun e2 => ?_) fun e2 => ?_
  ·have e2 : (an : Int) = 0 := eq_of_beq e2;have : old = [] := List.eq_nil_of_length_eq_zero (by omega);exact ⟨by rw [decide_eq_true e, decide_eq_true this]; (first | done | rfl), rfl⟩
  ·have e2 : ¬ (an : Int) = 0 := by simpa using e2
   have : ¬ old = [] := fun g => by rw [g] at hol; simp at hol; omega
   refine (W.aA hq _ _ _ _).2 ⟨((a, an, ac), ()), rfl, ?_⟩;refine W.bF (bC (au old k), ()) (lH ho k) rfl ?_;refine ⟨?_, rfl⟩;dsimp only;rw [kj, decide_eq_true e, decide_eq_false this, Bool.true_and, Bool.false_or, decide_not]
 ·have e : ¬ (au new k).kind ≠ 0 := by simpa using e
  exact ⟨by rw [decide_eq_false e]; (first | done | rfl), rfl⟩
abbrev KQ (x : For) : Den [.int .i64, .str, .int .i64, .int .i64, .int .i64] := (x.id, x.name, x.column, x.parent, x.state, ())
abbrev wm (x : For) : Obj := .cells #[.int .i64 x.id, .string x.name, .int .i64 x.column, .int .i64 x.parent, .int .i64 x.state] 173 (0, 0)
abbrev me (q : aD) : Den [.int .i64, .str, .slice, .slice, .slice] := (q.T.id, q.T.name, q.c, q.x, q.k, ())
theorem EG {s : PH} {p : Nat} {x : For} (hp : s p = some (wm x)) (q : aD) : ah 188 #[ep q.T q.c q.x q.k, cp p] s fun y s' => y = .bool (q.T.id == x.parent) ∧ s' = s := by
 refine DJ q.T.id q.T.name q.c.1 q.c.2.1 q.c.2.2 q.x.1 q.x.2.1 q.x.2.2 q.k.1 q.k.2.1 q.k.2.2 p _ s ?_;unfold vF;simp only [bL, aF, aV, Nat.zero_add];refine (W.aA hp _ _ _ _).2 ⟨(x.parent, ()), rfl, ?_⟩;exact ⟨rfl, rfl⟩
theorem yF {s : PH} {a : OA} {n c p : Nat} {ps : List aD} {x : For} (h : Sl ja s (a, n, c) ps) (hp : s p = some (wm x)) :
  ah 128 #[.slice a n c, .func (.func 188) #[] #[cp p]] s fun y s' => y = .int .i64 (aM (fun q : aD => q.T.id == x.parent) ps 0) ∧ s' = s := by
 refine wI a n c p _ s ?_;unfold oQ;exact jZ me h (fun _ => rfl) (fun q _ => EG hp q) ⟨rfl, rfl⟩
theorem Ir {S : aK} {ps : List aD} (h : S.tabs = ps.map (·.T)) {i : Int} {U : az} (e : iI S i = some U) : ∃ j q, aM (fun q : aD => q.T.id == i) ps 0 = ((j : Nat) : Int) ∧ ps[j]? = some q ∧ q.T = U := by
 rcases nG (fun q : aD => q.T.id == i) ps with ⟨_, h2⟩ | ⟨j, q, h1, h2, h3⟩
 ·unfold iI at e;rw [h, List.find?_map] at e;rw [show ((fun u : az => u.id == i) ∘ fun q : aD => q.T) = fun q : aD => q.T.id == i from rfl, h2] at e;cases e
 ·refine ⟨j, q, h1, h2, ?_⟩;unfold iI at e;rw [h, List.find?_map] at e;rw [show ((fun u : az => u.id == i) ∘ fun q : aD => q.T) = fun q : aD => q.T.id == i from rfl, h3] at e;exact Option.some.inj e
section
variable (s0 s : PH) (w : Nat) (S : aK) (tt sh : aU) (B : List Ht) (rds : List cx) (ov : List Wr)
def LJ (k : aH) (old new : List aL) (D : List Ht) (l : List dx) (i : Nat) (s' : PH) : Prop := ∃ A, A.length ≤ i ∧ EJ s0 s' w S tt sh B (bT rds A) ov ∧ Kt s s' ∧ (iY k old new D l).1 = (iY k old new D (l.drop i)).1 ∧ (iY k old new D l).2 = A ++ (iY k old new D (l.drop i)).2
def LH (T : az) (k : aH) (old new : List aL) (D : List Ht) (l : List For) (i : Nat) (s' : PH) : Prop := ∃ A, A.length ≤ i ∧ EJ s0 s' w S tt sh B (bT rds A) ov ∧ Kt s s' ∧ (iw S T k old new D l).1 = (iw S T k old new D (l.drop i)).1 ∧ (iw S T k old new D l).2 = A ++ (iw S T k old new D (l.drop i)).2
end
theorem yJ {l : List Ht} {k : Nat} {h : Ht} {v : aH} (hk : l[k]? = some h) : (ez (l.take (k + 1))).any (fun o => decide (o ≠ v)) = ((ez (l.take k)).any (fun o => decide (o ≠ v)) || ((nK h.key).toList).any (fun o => decide (o ≠ v))) := by
 rw [xl hk, List.any_append]
section
variable {s0 s : PH} {w : Nat} {S : aK} {tt sh : aU} {B : List Ht} {rds : List cx} {ov : List Wr}
theorem zy {ps : List aD} (hB : jI s0 sh B) (h : EJ s0 s w S tt sh B rds ov) (hS : dO s0 tt S ps) {p : aD} (hp : gz s0 p) (hrl : rds.length + (p.T.idxs.length + p.T.keys.length) ≤ 4000000)
  (hpar : ∀ x ∈ p.T.keys, ∃ U, iI S x.parent = some U ∧ U.cols ≠ []) (k : aH) {a b : OA} {an ac bn bc : Nat} {old new : List aL} (ho : bq bu s 94 a an ac old) (hol : old.length ≤ 4000000) (hn : bq bu s 94 b bn bc new) (hnl : new.length ≤ 4000000) :
  ah 122 #[cp w, ep p.T p.c p.x p.k, dV k, .slice a an ac, .slice b bn bc] s fun y s' => y = .int .i64 (eU S p.T k old new (ai 0 B ov)).1 ∧ EJ s0 s' w S tt sh B (bT rds (eU S p.T k old new (ai 0 B ov)).2) ov ∧ Kt s s' := by
 refine FI w p.T.id p.T.name p.c.1 p.c.2.1 p.c.2.2 p.x.1 p.x.2.1 p.x.2.2 p.k.1 p.k.2.1 p.k.2.2 k.kind k.n k.s a an ac b bn bc _ s ?_;unfold yq
 obtain ⟨D, hD⟩ : ∃ D, ai 0 B ov = D := ⟨_, rfl⟩
 obtain ⟨R, hR⟩ : ∃ R : Value → PH → Prop, (fun y s' => y = .int .i64 (eU S p.T k old new (ai 0 B ov)).1 ∧ EJ s0 s' w S tt sh B (bT rds (eU S p.T k old new (ai 0 B ov)).2) ov ∧ Kt s s') = R := ⟨_, rfl⟩
 rw [hR];rw [hD] at hR;have hds := iy hB h.cJ h.sm;have hdl := fun q => uL hB h.ol q;have hrow := fun {s : PH} {rds : List cx} {p : aD} (hp : gz s0 p) (hc : p.T.cols ≠ []) (h : EJ s0 s w S tt sh B rds ov) (hrl : rds.length ≤ 4000000) => zz (p := p) hB h hrl hp hc;have hhit := fun {s : PH} {rds : List cx} (h : EJ s0 s w S tt sh B rds ov) (hrl : rds.length ≤ 4000000) => vV hB h hrl;rw [hD] at hds;simp only [hD] at hdl hrow hhit;have hxl : p.x.2.1 = p.T.idxs.length := hp.x.len;have hkl : p.k.2.1 = p.T.keys.length := hp.k.len;have hal := ho.len;have hbl := hn.len;simp only [bY, bL, ir, aR, aY, mP, aF, aP, aT, aQ, cE, cR, aV, Nat.zero_add];refine W.bI fun r0 s1 hr0 m1 k0 => ?_;refine W.bI fun r1 s2 hr1 m2 k1 => ?_;have m02 : Fw.Mod [] s s2 := m1.trans m2;have h2 := h.same m02;have kk0 : s2 r0 = some (IU a an ac) := m2.at k0 (by simp);have kk1 : s2 r1 = some (IU b bn bc) := k1
 -- the closure
 have hfr : ∀ {s3 : PH}, Kt s2 s3 → ∀ c : Int, ah 186 #[.int .i64 c, cp r1, cp r0] s3 fun y s' => y = .tuple #[dV (au new c), .bool (jn old new c)] ∧ s' = s3 := fun {s3} hk c => by
  refine EF (hk r1 _ _ kk1 (by decide) (by decide)) (hk r0 _ _ kk0 (by decide) (by decide)) (Sl.bN (t := (a, an, ac)) (hk.row (ho.mod m02 (by simp)) (by decide) (by decide)) (by omega)) (Sl.bN (t := (b, bn, bc)) (hk.row (hn.mod m02 (by simp)) (by decide) (by decide)) (by omega)) c
 refine ⟨fun z s' => ∃ i : Nat, z = ((p.T.id, p.T.name, p.c, p.x, p.k, ()), (k.kind, k.n, k.s, ()), ((Value.func (.func 186) #[] #[cp r1, cp r0]), ()), (p.x, ()), ((p.x.2.1 : Int), ()), ((i : Int), ()), ()) ∧ i ≤ p.x.2.1 ∧ LJ s0 s2 w S tt sh B rds ov k old new D p.T.idxs i s',
  fun z _ => p.x.2.1 - z.2.2.2.2.2.1.1.toNat, ⟨0, rfl, Nat.zero_le _, [], Nat.le_refl _, h2, Kt.refl _, by rw [List.drop_zero], by rw [List.drop_zero]; (first | done | rfl)⟩, ?_⟩
 rintro _ s3 ⟨i, rfl, hi, A, hA, hE3, t3, c1, c2⟩;dsimp only;refine aC (fun e => ?_) fun e => ?_
 ·have hlt : (i : Int) < (p.x.2.1 : Int) := of_decide_eq_true e
  obtain ⟨x, hx⟩ : ∃ x, p.T.idxs[i]? = some x := ⟨_, List.getElem?_eq_getElem (by omega)⟩
  obtain ⟨ad, had, hh⟩ := (hp.x.mono hE3.md.le).el.aG hx;refine bg ⟨Int.natCast_nonneg i, hlt⟩ ?_;refine bS had ?_;simp only [Int.toNat_natCast];have hh : s3.has (ad.add (i * 5)) (jY.f x) := hh;refine aE hh (y := qT x) rfl ?_;rw [bW hx] at c1 c2;refine dh Tryz.func186 (by kernel_rfl) (by kernel_rfl) (hfr t3 x.column) ?_;rintro _ s3 ⟨rfl, rfl⟩;refine ⟨(bC (au new x.column), (jn old new x.column, ()), ()), rfl, ?_⟩;dsimp only;rw [aj (k := i) (by omega)]
  cases hcond : (jn old new x.column && x.unique && cl x.state) with
  | false =>
   rw [iY, if_neg (by rw [hcond]; simp)] at c1 c2
   have hskip : LJ s0 s2 w S tt sh B rds ov k old new D p.T.idxs (i + 1) s3 := ⟨A, by omega, hE3, t3, c1, c2⟩
   refine W.bp (fun z s' => False) (fun _ _ hf => hf.elim) ?_;intro J hJ;refine (W.af _ _ _ _).2 ⟨fun e1 => ⟨⟨i + 1, rfl, by omega, hskip⟩, by simp only [Int.toNat_natCast]; omega⟩, fun e1 => ?_⟩
   have e1 : jn old new x.column = true := by simpa using e1
   refine (W.af _ _ _ _).2 ⟨fun e2 => ⟨⟨i + 1, rfl, by omega, hskip⟩, by simp only [Int.toNat_natCast]; omega⟩, fun e2 => ?_⟩
   have e2 : x.unique = true := by simpa using e2
   refine aN ((cl x.state, ()), ()) (j6 x.state s3) rfl ?_;refine (W.af _ _ _ _).2 ⟨fun e3 => ⟨⟨i + 1, rfl, by omega, hskip⟩, by simp only [Int.toNat_natCast]; omega⟩, fun e3 => ?_⟩
   have e3 : cl x.state = true := by simpa using e3
   rw [e1, e2, e3] at hcond; cases hcond
  | true =>
   rw [iY, if_pos hcond] at c1 c2;simp only [Bool.and_eq_true] at hcond;obtain ⟨⟨e1, e2⟩, e3⟩ := hcond;refine W.bp (fun z s' => z = ((p.T.id, p.T.name, p.c, p.x, p.k, ()), (k.kind, k.n, k.s, ()), ((Value.func (.func 186) #[] #[cp r1, cp r0]), ()), qT x, bC (au new x.column), (p.x, ()), ((p.x.2.1 : Int), ()), ((i : Int), ()), ()) ∧ s3 = s') ?_ ?_
   ·rintro _ _ ⟨rfl, rfl⟩;dsimp only;refine aN (((cP x.id (au new x.column)).1, (cP x.id (au new x.column)).2, ()), ()) (zv x.id (au new x.column) s3) rfl ?_
    obtain ⟨sp, hsp⟩ : ∃ sp, cP x.id (au new x.column) = sp := ⟨_, rfl⟩
    have hspl : sp.1.size ≤ 1120 := by rw [← hsp]; exact fu _
    rw [hsp] at c1 c2 ⊢;have hAl := eR A rds;refine W.aq (hhit hE3 (by omega) sp (by omega)) ?_;rintro _ s4 ⟨ha, hn4, hcp, rfl, hG, hE4, hk4⟩;refine ⟨(((ha, hn4, hcp), ()), ()), rfl, ?_⟩
    have hE4 : EJ s0 s4 w S tt sh B (bT rds (A ++ [sp])) ov := by rw [cT]; exact hE4
    have t4 := t3.trans hk4;have hHn := hG.row.len;have hdl4 := hdl sp;dsimp only
    refine ⟨fun z s' => ∃ j : Nat, z = ((p.T.id, p.T.name, p.c, p.x, p.k, ()), (k.kind, k.n, k.s, ()), ((Value.func (.func 186) #[] #[cp r1, cp r0]), ()), (p.x, ()), ((p.x.2.1 : Int), ()), ((i : Int), ()), ((ha, hn4, hcp), ()), ((hn4 : Int), ()), ((j : Int), ()), ()) ∧ j ≤ hn4 ∧ s4 = s' ∧ (ez ((aI D sp).take j)).any (fun o => decide (o ≠ k)) = false,
     fun z _ => hn4 - z.2.2.2.2.2.2.2.2.1.1.toNat, ⟨0, rfl, Nat.zero_le _, rfl, rfl⟩, ?_⟩
    rintro _ _ ⟨j, rfl, hj, rfl, hany⟩;dsimp only;refine aC (fun e => ?_) fun e => ?_
    ·have hlj : (j : Int) < (hn4 : Int) := of_decide_eq_true e
     obtain ⟨y, hy⟩ : ∃ y, (aI D sp)[j]? = some y := ⟨_, List.getElem?_eq_getElem (by omega)⟩
     obtain ⟨g, rfl, hh4⟩ := hG.row.at hy;refine bg ⟨Int.natCast_nonneg j, hlj⟩ ?_;simp only [cR, Int.toNat_natCast, aV, Nat.zero_add];have hh4 : s4.has ⟨g, j * 3, none⟩ (bh.f y) := hh4;refine aE hh4 (y := pG y) rfl ?_;have hks := yJ (v := k) hy;have hwk := zw y.key (hds.1 y (gL (List.mem_of_getElem? hy))) s4;unfold uQ at hwk;rw [aj (k := j) (by omega)]
     cases hlv : nK y.key with
     | none =>
      simp only [hlv] at hwk hks;refine aN (bC gm, ((20 : Int), ()), ()) hwk rfl ?_;refine (W.af _ _ _ _).2 ⟨fun e => (by cases e), fun _ => ?_⟩;exact ⟨⟨j + 1, rfl, by omega, rfl, by rw [hks, hany]; (first | done | rfl)⟩, by simp only [Int.toNat_natCast]; omega⟩
     | some v =>
      simp only [hlv] at hwk hks;refine aN (bC v, ((0 : Int), ()), ()) hwk rfl ?_;refine (W.af _ _ _ _).2 ⟨fun _ => ?_, fun e => (by cases e)⟩;dsimp only;refine aC (fun e5 => ?_) fun e5 => ?_
      ·rw [kj] at e5
       have e5 : v ≠ k := by simpa using e5
       have hbad : (ez (aI D sp)).any (fun o => decide (o ≠ k)) = true := by
        rw [List.any_eq_true];refine ⟨v, ?_, decide_eq_true e5⟩;unfold ez;exact List.mem_filterMap.2 ⟨y, List.mem_of_getElem? hy, hlv⟩
       rw [if_pos hbad] at c1 c2;dsimp only at c1 c2
       have e6 : eU S p.T k old new D = iY k old new D p.T.idxs := by unfold eU; rw [if_pos (by rw [c1]; decide)]
       rw [← hR, e6, c1, c2];exact ⟨rfl, hE4, (Kt.of m02).trans t4⟩
      ·rw [kj] at e5
       have e5 : v = k := by simpa using e5
       refine ⟨⟨j + 1, rfl, by omega, rfl, ?_⟩, by simp only [Int.toNat_natCast]; omega⟩;rw [hks, hany, e5]; simp
    ·have e : ¬ (j : Int) < (hn4 : Int) := of_decide_eq_false e;rw [List.take_of_length_le (by omega)] at hany;rw [if_neg (by rw [hany]; simp)] at c1 c2;rw [aj (k := i) (by omega)];refine ⟨⟨i + 1, rfl, by omega, A ++ [sp], by rw [List.length_append]; simp; omega, hE4, t4, c1, ?_⟩, by simp only [Int.toNat_natCast]; omega⟩;rw [c2]; simp
   ·intro J hJ;refine (W.af _ _ _ _).2 ⟨fun g => (by rw [e1] at g; cases g), fun _ => ?_⟩;refine (W.af _ _ _ _).2 ⟨fun g => (by rw [e2] at g; cases g), fun _ => ?_⟩;refine aN ((cl x.state, ()), ()) (j6 x.state s3) rfl ?_;refine (W.af _ _ _ _).2 ⟨fun g => (by dsimp only at g; rw [e3] at g; cases g), fun _ => ?_⟩;exact hJ _ _ ⟨rfl, rfl⟩
 -- the keys
 have e : ¬ (i : Int) < (p.x.2.1 : Int) := of_decide_eq_false e;rw [List.drop_of_length_le (by omega)] at c1 c2;have c1 : (iY k old new D p.T.idxs).1 = 0 := c1
 have c2 : (iY k old new D p.T.idxs).2 = A := by rw [c2]; exact List.append_nil _
 have e6 : eU S p.T k old new D = ((iw S p.T k old new D p.T.keys).1, A ++ (iw S p.T k old new D p.T.keys).2) := by unfold eU; rw [if_neg (by rw [c1]; decide), c2]
 have hAl := eR A rds
 refine ⟨fun z s' => ∃ i : Nat, z = ((p.T.id, p.T.name, p.c, p.x, p.k, ()), (k.kind, k.n, k.s, ()), ((Value.func (.func 186) #[] #[cp r1, cp r0]), ()), (p.k, ()), ((p.k.2.1 : Int), ()), ((i : Int), ()), ()) ∧ i ≤ p.k.2.1 ∧ LH s0 s2 w S tt sh B (bT rds A) ov p.T k old new D p.T.keys i s',
  fun z _ => p.k.2.1 - z.2.2.2.2.2.1.1.toNat, ⟨0, rfl, Nat.zero_le _, [], Nat.le_refl _, hE3, t3, by rw [List.drop_zero], by rw [List.drop_zero]; (first | done | rfl)⟩, ?_⟩
 rintro _ s4 ⟨i, rfl, hi2, A2, hA2, hE4, t4, d1, d2⟩;dsimp only;refine aC (fun e => ?_) fun e => ?_;rotate_left
 ·have e : ¬ (i : Int) < (p.k.2.1 : Int) := of_decide_eq_false e;rw [List.drop_of_length_le (by omega)] at d1 d2;have d1 : (iw S p.T k old new D p.T.keys).1 = 0 := d1
  have d2 : (iw S p.T k old new D p.T.keys).2 = A2 := by rw [d2]; exact List.append_nil _
  rw [← hR, e6, d1, d2];exact ⟨rfl, by rw [cT]; exact hE4, (Kt.of m02).trans t4⟩
 have hlt : (i : Int) < (p.k.2.1 : Int) := of_decide_eq_true e
 obtain ⟨x, hx⟩ : ∃ x, p.T.keys[i]? = some x := ⟨_, List.getElem?_eq_getElem (by omega)⟩
 have hxm := List.mem_of_getElem? hx;obtain ⟨ad, had, hh⟩ := (hp.k.mono hE4.md.le).el.aG hx;refine bg ⟨Int.natCast_nonneg i, hlt⟩ ?_;refine bS had ?_;simp only [Int.toNat_natCast];have hh : s4.has (ad.add (i * 5)) (l9.f x) := hh;refine aE hh (y := KQ x) rfl ?_;rw [bW hx] at d1 d2;refine W.bI fun r2 s5 hr2 m5 k5 => ?_;refine kS (c' := #[.int .i64 x.id, .string x.name, .int .i64 x.column, .int .i64 x.parent, .int .i64 x.state]) k5 (by show 0 + 5 ≤ 5; omega) (by simp [Value.oneCell']) rfl ?_;intro s6 hs6
 have k6 : s6 r2 = some (wm x) := by rw [hs6, PH.bE]
 have m6 : Fw.Mod [] s4 s6 := by rw [hs6]; exact m5.cj (.inr hr2)
 have hE6 := hE4.same m6;have t6 : Kt s2 s6 := t4.trans (Kt.of m6);refine (W.aA k6 _ _ _ _).2 ⟨(x.column, ()), rfl, ?_⟩;refine dh Tryz.func186 (by kernel_rfl) (by kernel_rfl) (hfr t6 x.column) ?_;rintro _ s6 ⟨rfl, rfl⟩;refine ⟨(bC (au new x.column), (jn old new x.column, ()), ()), rfl, ?_⟩;dsimp only;rw [aj (k := i) (by omega)];have hval : (((au new x.column).kind == k.kind) && (((au new x.column).n == k.n) && (((au new x.column).s == k.s) && true))) = decide (au new x.column = k) := kj _ _
 cases hcond : (jn old new x.column && cl x.state && !(x.parent == p.T.id && decide (au new x.column = k))) with
 | false =>
  rw [iw, if_neg (by rw [hcond]; simp)] at d1 d2
  have hskip : LH s0 s2 w S tt sh B (bT rds A) ov p.T k old new D p.T.keys (i + 1) s6 := ⟨A2, by omega, hE6, t6, d1, d2⟩
  refine W.bp (fun z s' => False) (fun _ _ hf => hf.elim) ?_;intro J hJ;refine (W.af _ _ _ _).2 ⟨fun e1 => ⟨⟨i + 1, rfl, by omega, hskip⟩, by simp only [Int.toNat_natCast]; omega⟩, fun e1 => ?_⟩
  have e1 : jn old new x.column = true := by simpa using e1
  refine (W.aA k6 _ _ _ _).2 ⟨(x.state, ()), rfl, ?_⟩;refine aN ((cl x.state, ()), ()) (j6 x.state s6) rfl ?_;refine (W.af _ _ _ _).2 ⟨fun e3 => ⟨⟨i + 1, rfl, by omega, hskip⟩, by simp only [Int.toNat_natCast]; omega⟩, fun e3 => ?_⟩
  have e3 : cl x.state = true := by simpa using e3
  rw [e1, e3] at hcond
  have hcond : (x.parent == p.T.id && decide (au new x.column = k)) = true := by simpa using hcond
  simp only [Bool.and_eq_true] at hcond;refine (W.aA k6 _ _ _ _).2 ⟨(x.parent, ()), rfl, ?_⟩;refine (W.af _ _ _ _).2 ⟨fun _ => ?_, fun g => (by dsimp only at g; rw [hcond.1] at g; cases g)⟩;refine (W.af _ _ _ _).2 ⟨fun _ => ⟨⟨i + 1, rfl, by omega, hskip⟩, by simp only [Int.toNat_natCast]; omega⟩, fun g => ?_⟩;rw [hval, hcond.2] at g; cases g
 | true =>
  rw [iw, if_pos hcond] at d1 d2;simp only [Bool.and_eq_true, Bool.not_eq_true'] at hcond;obtain ⟨⟨e1, e3⟩, e4⟩ := hcond;refine W.bp (fun z s' => z = ((p.T.id, p.T.name, p.c, p.x, p.k, ()), (k.kind, k.n, k.s, ()), ((Value.func (.func 186) #[] #[cp r1, cp r0]), ()), (⟨r2, 0, none⟩, ()), bC (au new x.column), (p.k, ()), ((p.k.2.1 : Int), ()), ((i : Int), ()), ()) ∧ s6 = s') ?_ ?_
  ·rintro _ _ ⟨rfl, rfl⟩;dsimp only;obtain ⟨U, hU, hUc⟩ := hpar x hxm;rw [hU] at d1 d2;dsimp only at d1 d2;obtain ⟨r, mb, mo, qs, bs, f, hx6⟩ := hE6.ei;have hld : ∀ (K : Den [CT.slice] → W.T), K (tt, ()) s6 → W.ld [.slice] ⟨w, 2, none⟩ K s6 := fun K hK => (W.aA hx6.aW _ _ _ _).2 ⟨(tt, ()), rfl, hK⟩;have hS6 := hS.mono hE6.md.le;obtain ⟨j, q, g1, g2, g3⟩ := Ir hS.eq hU;refine hld _ ?_;refine aN ((aM (fun q : aD => q.T.id == x.parent) ps 0, ()), ()) (yF (a := tt.1) (n := tt.2.1) (c := tt.2.2) hS6.el k6) rfl ?_;refine hld _ ?_;rw [g1];have hjl := (List.getElem?_eq_some_iff.1 g2).1;have hpl := hS6.el.len;dsimp only;refine bg ⟨Int.natCast_nonneg j, by show (j : Int) < ((tt.2.1 : Nat) : Int); rw [hpl]; exact Int.ofNat_lt.2 hjl⟩ ?_;obtain ⟨at_, hat, hht⟩ := hS6.el.el.aG g2;refine bS hat ?_;simp only [Int.toNat_natCast];have hht : s6.has (at_.add (j * 5)) (ja.f q) := hht;refine aE hht (y := me q) rfl ?_;have hAl2 := eR A2 (bT rds A);subst g3;refine W.aq (hrow (hS.all q (List.mem_of_getElem? g2)) hUc hE6 (by omega) (au new x.column)) ?_;rintro _ s7 ⟨a7, n7, c7, qs7, rfl, hq7, _, hE7, hk7⟩;refine ⟨(((a7, n7, c7), ()), ()), rfl, ?_⟩;have hn7 := hq7.len;have t7 := t6.trans hk7
   have hE7 : EJ s0 s7 w S tt sh B (bT (bT rds A) (A2 ++ [cF q.T.id (au new x.column)])) ov := by rw [cT (bT rds A)]; exact hE7
   dsimp only;refine aC (fun e => ?_) fun e => ?_
   ·have e : (n7 : Int) = 0 := eq_of_beq e;have hnil : gY q.T (au new x.column) D = [] := List.eq_nil_of_length_eq_zero (by omega);rw [if_pos hnil] at d1 d2;dsimp only at d1 d2;rw [← hR, e6, d1, d2];exact ⟨rfl, by rw [cT]; exact hE7, (Kt.of m02).trans t7⟩
   ·have e : ¬ (n7 : Int) = 0 := by simpa using e
    have hnil : ¬ gY q.T (au new x.column) D = [] := fun g => by rw [g] at hn7; simp at hn7; omega
    rw [if_neg hnil] at d1 d2;rw [aj (k := i) (by omega)];refine ⟨⟨i + 1, rfl, by omega, A2 ++ [cF q.T.id (au new x.column)], by rw [List.length_append]; simp; omega, hE7, t7, d1, ?_⟩, by simp only [Int.toNat_natCast]; omega⟩;rw [d2]; simp
  ·intro J hJ;refine (W.af _ _ _ _).2 ⟨fun g => (by rw [e1] at g; cases g), fun _ => ?_⟩;refine (W.aA k6 _ _ _ _).2 ⟨(x.state, ()), rfl, ?_⟩;refine aN ((cl x.state, ()), ()) (j6 x.state s6) rfl ?_;refine (W.af _ _ _ _).2 ⟨fun g => (by dsimp only at g; rw [e3] at g; cases g), fun _ => ?_⟩;refine (W.aA k6 _ _ _ _).2 ⟨(x.parent, ()), rfl, ?_⟩;refine (W.af _ _ _ _).2 ⟨fun g => ?_, fun _ => hJ _ _ ⟨rfl, rfl⟩⟩;refine (W.af _ _ _ _).2 ⟨fun g2 => ?_, fun _ => hJ _ _ ⟨rfl, rfl⟩⟩;dsimp only at g g2;rw [hval] at g2;rw [g, g2] at e4; cases e4
end
end
section
attribute [-simp] Fw.W.bD Fw.W.bB
def nT : cO Wr where
 sz := 3
 f x := [.string x.key, .string x.val, .bool x.dead]
 len _ := rfl
 one q v hv := by simp at hv; rcases hv with rfl | rfl | rfl <;> rfl
 pos := by omega
abbrev Mt (x : Wr) : Den [.str, .str, .bool] := (x.key, x.val, x.dead, ())
abbrev LR (a : OA) (n c : Nat) : Obj := .cells #[.slice a n c] 26 (0, 0)
def Lw (s s' : PH) (r : Nat) (l : List Wr) : Prop := ∃ a n c, Gw nT 79 s s' a n c l ∧ s' r = some (LR a n c)
theorem BZ {s0 s : PH} {r : Nat} {l : List Wr} (h : Lw s0 s r l) (r0 : s0 r = none) (hl : l.length ≤ 4000000) (x : Wr) :
  ah 237 #[.string x.key, .string x.val, .bool x.dead, cp r] s fun y s' => y = .tuple #[] ∧ Lw s0 s' r (l ++ [x]) := by
 obtain ⟨a, n, c, hG, hr⟩ := h;refine HO x.key x.val x.dead r _ s ?_;unfold Bi;have hn := hG.row.len;simp only [bL, bY, cX, ir, aF];refine (W.aA hr _ _ _ _).2 ⟨((a, n, c), ()), rfl, ?_⟩;refine hG.nN [x] (k := 1) rfl rfl rfl (by omega) (by omega) fun a' c' s1 h1 m1 => ?_;have k1 : s1 r = some (LR a n c) := m1.at hr (hG.off hr (by decide));refine kS (c' := #[.slice a' (n + 1) c']) k1 (by show 0 + 1 ≤ 1; omega) (by simp [Value.oneCell']) rfl ?_;intro s2 hs2;refine ⟨rfl, a', n + 1, c', ?_, by rw [hs2, PH.bE]⟩;rw [hs2];exact h1.aS k1 (by decide) r0
theorem Iz (a b : Nat) (h : a + b ≤ 4611686018427387904) : i64.wrap ((a : Int) + (b : Int)) = ((a + b : Nat) : Int) := by rw [bQ (by omega) (by omega)]; omega
theorem G2 (k : aH) (old new : List aL) (x : dx) : (jL k old new x).length ≤ 2 := by
 unfold jL;rw [List.length_append]
 have : ∀ (c : Prop) [Decidable c] (l : List Wr), l.length = 1 → (if c then l else []).length ≤ 1 := fun c _ l h => by split <;> simp [h]
 have h1 := this (old ≠ [] ∧ (new = [] ∨ au old x.column ≠ au new x.column)) [⟨eF x.id (au old x.column) k, ⟨#[]⟩, true⟩] rfl;have h2 := this (new ≠ [] ∧ cl x.state = true) [⟨eF x.id (au new x.column) k, ⟨#[]⟩, false⟩] rfl;omega
theorem tC (k : aH) (old new : List aL) : ∀ (l : List dx), (l.flatMap (jL k old new)).length ≤ 2 * l.length
 | [] => by simp
 | x :: l => by
  have h1 := tC k old new l;have h2 := G2 k old new x;rw [List.flatMap_cons, List.length_append, List.length_cons]; omega
theorem lp (T : az) (old new : List aL) : (cM T old new).length ≤ 1 + 2 * T.idxs.length := by
 unfold cM
 split
 ·simp
 ·rw [List.length_cons];have := tC (au (if old = [] then new else old) (bz T)) old new T.idxs;omega
theorem qO {α β : Type} {l : List α} {k : Nat} {x : α} (f : α → List β) (h : l[k]? = some x) : (l.take (k + 1)).flatMap f = (l.take k).flatMap f ++ f x := by
 rw [List.take_add_one, h, List.flatMap_append]; simp
theorem C6 {s : PH} {p : aD} (hp : gz s p) (hx : p.T.idxs.length ≤ 1000000) {a b : OA} {an ac bn bc : Nat} {old new : List aL} (ho : Sl bu s (a, an, ac) old) (hn : Sl bu s (b, bn, bc) new) :
  ah 189 #[ep p.T p.c p.x p.k, .slice a an ac, .slice b bn bc] s fun y s' => ∃ a' n' c', y = .slice a' n' c' ∧ Gw nT 79 s s' a' n' c' (cM p.T old new) := by
 refine BK p.T.id p.T.name p.c.1 p.c.2.1 p.c.2.2 p.x.1 p.x.2.1 p.x.2.2 p.k.1 p.k.2.1 p.k.2.2 a an ac b bn bc _ s ?_;unfold sV
 obtain ⟨R, hR⟩ : ∃ R : Value → PH → Prop, (fun y s' => ∃ a' n' c', y = .slice a' n' c' ∧ Gw nT 79 s s' a' n' c' (cM p.T old new)) = R := ⟨_, rfl⟩
 rw [hR];have hal : an = old.length := ho.len;have hbl : bn = new.length := hn.len;have haf := ho.dF;have hbf := hn.dF;have hcl : p.c.2.1 = p.T.cols.length := hp.c.len;have hxl : p.x.2.1 = p.T.idxs.length := hp.x.len
 have hend : p.T.cols = [] ∨ (old = [] ∧ new = []) ∨ (cK new).2 ≠ 0 → R (.slice none 0 0) s := fun h => by
  rw [← hR]; refine ⟨none, 0, 0, rfl, ?_⟩;unfold cM; rw [if_pos h]; exact Gw.nil (Mod.refl _ _)
 have nil_of : ∀ {l : List aL} {k : Nat}, k = l.length → ((k : Int) = 0 ↔ l = []) := fun {l k} h => by
  constructor
  ·intro e; exact List.eq_nil_of_length_eq_zero (by omega)
  ·intro e; rw [e] at h; simp at h; omega
 simp only [cE, aR, aF, aY, bM, mP, aP, aT, bL, bY, aQ, BV, cR, aV, Nat.zero_add];refine W.bp (fun z s' => z = ((p.T.id, p.T.name, p.c, p.x, p.k, ()), ()) ∧ s = s' ∧ p.T.cols ≠ [] ∧ ¬ (old = [] ∧ new = [])) ?_ ?_;rotate_left
 ·intro J hJ;refine aC (fun e => ?_) fun e => ?_
  ·have e : (p.c.2.1 : Int) = 0 := eq_of_beq e;exact hend (.inl (List.eq_nil_of_length_eq_zero (by omega)))
  ·have e : ¬ (p.c.2.1 : Int) = 0 := by simpa using e
   rw [Iz an bn (by omega)];refine aC (fun e2 => ?_) fun e2 => ?_
   ·have e2 : ((an + bn : Nat) : Int) = 0 := eq_of_beq e2;exact hend (.inr (.inl ⟨List.eq_nil_of_length_eq_zero (by omega), List.eq_nil_of_length_eq_zero (by omega)⟩))
   ·have e2 : ¬ ((an + bn : Nat) : Int) = 0 := by simpa using e2
    refine hJ _ _ ⟨rfl, rfl, fun g => ?_, fun g => ?_⟩
    ·rw [g] at hcl; simp at hcl; omega
    ·rw [g.1] at hal; rw [g.2] at hbl; simp at hal hbl; omega
 rintro _ _ ⟨rfl, rfl, hc, hne⟩;dsimp only;refine aN (((cK new).1, ()), ((cK new).2, ()), ()) (EC hn) rfl ?_;dsimp only;refine (W.af _ _ _ _).2 ⟨fun e => hend (.inr (.inr (by simpa using e))), fun e => ?_⟩
 have hput : (cK new).2 = 0 := by simpa using e
 obtain ⟨c0, hc0⟩ : ∃ c0, p.T.cols[0]? = some c0 := by
  cases hT : p.T.cols with
  | nil => exact absurd hT hc
  | cons x r => exact ⟨x, rfl⟩
 have hcol0 : bz p.T = c0.id := by unfold bz; rw [hc0]; (first | done | rfl)
 have hcpos : 0 < p.c.2.1 := by rw [hcl]; exact List.length_pos_iff.2 hc
 obtain ⟨ad, had, hh⟩ := hp.c.el.aG hc0
 have hhc : s.has (ad.add 0) (dw.f c0) := by simpa using hh
 refine bg ⟨Int.le_refl 0, Int.natCast_pos.2 hcpos⟩ ?_;refine bS had ?_;refine bl (j := 0) hhc (y := (c0.id, ())) rfl ?_;refine aN (bC (au new c0.id), ()) (lH hn c0.id) rfl ?_
 obtain ⟨k, hk⟩ : ∃ k, au (if old = [] then new else old) (bz p.T) = k := ⟨_, rfl⟩
 have hchg : cM p.T old new = ⟨cH p.T.id k, (cK new).1, decide (new = [])⟩ :: p.T.idxs.flatMap (jL k old new) := by
  unfold cM;rw [if_neg (by rintro (g | g | g); exact hc g; exact hne g; exact g hput), hk]
 dsimp only;refine W.bp (fun z s' => z = ((p.T.id, p.T.name, p.c, p.x, p.k, ()), ((cK new).1, ()), bC k, ()) ∧ s = s') ?_ ?_;rotate_left
 ·intro J hJ;refine aC (fun e => ?_) fun e => ?_
  ·have e : (an : Int) > 0 := of_decide_eq_true e
   have : ¬ old = [] := fun g => by rw [g] at hal; simp at hal; omega
   rw [if_neg this, hcol0] at hk;refine bg ⟨Int.le_refl 0, Int.natCast_pos.2 hcpos⟩ ?_;refine bS had ?_;refine bl (j := 0) hhc (y := (c0.id, ())) rfl ?_;refine aN (bC (au old c0.id), ()) (lH ho c0.id) rfl ?_;refine hJ _ _ ⟨?_, rfl⟩;rw [hk]
  ·have e : ¬ (an : Int) > 0 := of_decide_eq_false e;have : old = [] := List.eq_nil_of_length_eq_zero (by omega);rw [if_pos this, hcol0] at hk;refine hJ _ _ ⟨?_, rfl⟩;rw [hk]
 rintro _ _ ⟨rfl, rfl⟩;dsimp only;refine W.bI fun r s1 hr m1 k1 => ?_;refine aN ((cH p.T.id k, ()), ()) (ED p.T.id k s1) rfl ?_
 have hL1 : Lw s s1 r [] := ⟨none, 0, 0, Gw.nil m1, k1⟩
 have hbe : ((bn : Int) == 0) = decide (new = []) := by
  rw [Bool.eq_iff_iff, beq_iff_eq, decide_eq_true_eq]; exact nil_of hbl
 rw [hbe];refine W.aq (BZ hL1 hr (by simp) ⟨cH p.T.id k, (cK new).1, decide (new = [])⟩) ?_;rintro _ s2 ⟨rfl, hL2⟩;refine ⟨(), rfl, ?_⟩
 obtain ⟨e0, he0⟩ : ∃ e0 : Wr, (⟨cH p.T.id k, (cK new).1, decide (new = [])⟩ : Wr) = e0 := ⟨_, rfl⟩
 rw [he0] at hL2 hchg
 refine ⟨fun z s' => ∃ i : Nat, z = (bC k, (⟨r, 0, none⟩, ()), ((Value.func (.func 237) #[] #[cp r]), ()), (p.x, ()), ((p.x.2.1 : Int), ()), ((i : Int), ()), ()) ∧ i ≤ p.x.2.1 ∧ Lw s s' r (e0 :: (p.T.idxs.take i).flatMap (jL k old new)),
  fun z _ => p.x.2.1 - z.2.2.2.2.2.1.1.toNat, ⟨0, rfl, Nat.zero_le _, hL2⟩, ?_⟩
 rintro _ s3 ⟨i, rfl, hi, hL3⟩;dsimp only;refine aC (fun e => ?_) fun e => ?_;rotate_left
 ·have e : ¬ (i : Int) < (p.x.2.1 : Int) := of_decide_eq_false e;rw [List.take_of_length_le (by omega), ← hchg] at hL3;obtain ⟨a', n', c', hG, hr3⟩ := hL3;refine (W.aA hr3 _ _ _ _).2 ⟨((a', n', c'), ()), rfl, ?_⟩;rw [← hR];exact ⟨a', n', c', rfl, hG⟩
 have hlt : (i : Int) < (p.x.2.1 : Int) := of_decide_eq_true e
 obtain ⟨x, hx2⟩ : ∃ x, p.T.idxs[i]? = some x := ⟨_, List.getElem?_eq_getElem (by omega)⟩
 have hmd3 : Fw.Mod [] s s3 := by obtain ⟨_, _, _, hG, _⟩ := hL3; exact hG.md
 obtain ⟨ax, hax, hhx⟩ := (hp.x.mono hmd3.le).el.aG hx2;refine bg ⟨Int.natCast_nonneg i, hlt⟩ ?_;refine bS hax ?_;simp only [Int.toNat_natCast];have hhx : s3.has (ax.add (i * 5)) (jY.f x) := hhx;refine aE hhx (y := qT x) rfl ?_;have hfs := qO (jL k old new) hx2
 obtain ⟨L3, hL3e⟩ : ∃ L3, e0 :: (p.T.idxs.take i).flatMap (jL k old new) = L3 := ⟨_, rfl⟩
 have hnext : e0 :: (p.T.idxs.take (i + 1)).flatMap (jL k old new) = L3 ++ jL k old new x := by rw [hfs, ← hL3e]; simp
 rw [hL3e] at hL3
 have hL3l : L3.length ≤ 2000001 := by
  have := tC k old new (p.T.idxs.take i);rw [← hL3e, List.length_cons];rw [List.length_take] at this;omega
 have ho3 := ho.mono hmd3.le;have hn3 := hn.mono hmd3.le
 have hfn : ∀ {s4 : PH} {l : List Wr} {K : bX [] → W.T}, Lw s s4 r l → l.length ≤ 4000000 → ∀ y : Wr, (∀ s5, Lw s s5 r (l ++ [y]) → K () s5) → W.dW Tryz.prog (Value.func (.func 237) #[] #[cp r]) #[.string y.key, .string y.val, .bool y.dead] (true, []) K s4 := fun {s4 l K} hl4 hll y hK => by
  refine dh Tryz.func237 (by kernel_rfl) (by kernel_rfl) (BZ hl4 hr hll y) ?_;rintro _ s5 ⟨rfl, h5⟩;exact ⟨(), rfl, hK s5 h5⟩
 refine W.bp (fun z s' => z = (bC k, (⟨r, 0, none⟩, ()), ((Value.func (.func 237) #[] #[cp r]), ()), qT x, bC (au old x.column), bC (au new x.column), (p.x, ()), ((p.x.2.1 : Int), ()), ((i : Int), ()), ()) ∧ s3 = s') ?_ ?_;rotate_left
 ·intro J hJ;refine W.bF (bC (au old x.column), ()) (lH ho3 x.column) rfl ?_;refine W.bF (bC (au new x.column), ()) (lH hn3 x.column) rfl ?_;refine (W.mT _ _ _).2 ⟨?_, ?_⟩
  ·exact hJ _ _ ⟨rfl, rfl⟩
  ·exact hJ _ _ ⟨rfl, rfl⟩
 rintro _ _ ⟨rfl, rfl⟩;dsimp only
 obtain ⟨p1, hp1⟩ : ∃ p1 : List Wr, (if old ≠ [] ∧ (new = [] ∨ au old x.column ≠ au new x.column) then [⟨eF x.id (au old x.column) k, ⟨#[]⟩, true⟩] else []) = p1 := ⟨_, rfl⟩
 have hchgx : jL k old new x = p1 ++ (if new ≠ [] ∧ cl x.state = true then [⟨eF x.id (au new x.column) k, ⟨#[]⟩, false⟩] else []) := by unfold jL; rw [hp1]
 have hp1l : p1.length ≤ 1 := by rw [← hp1]; split <;> simp
 refine W.bp (fun z s' => z = (bC k, (⟨r, 0, none⟩, ()), ((Value.func (.func 237) #[] #[cp r]), ()), qT x, bC (au new x.column), (p.x, ()), ((p.x.2.1 : Int), ()), ((i : Int), ()), ()) ∧ Lw s s' r (L3 ++ p1)) ?_ ?_;rotate_left
 ·intro J hJ;refine W.bp (fun z s' => z = (bC k, (⟨r, 0, none⟩, ()), ((Value.func (.func 237) #[] #[cp r]), ()), qT x, bC (au old x.column), bC (au new x.column), (p.x, ()), ((p.x.2.1 : Int), ()), ((i : Int), ()), (decide (old ≠ [] ∧ (new = [] ∨ au old x.column ≠ au new x.column)), ()), ()) ∧ s3 = s') ?_ ?_;rotate_left
  ·intro J2 hJ2;refine aC (fun e => ?_) fun e => ?_
   ·have e : (an : Int) > 0 := of_decide_eq_true e
    have ho1 : old ≠ [] := fun g => by rw [g] at hal; simp at hal; omega
    refine aC (fun e2 => ?_) fun e2 => ?_
    ·have e2 : new = [] := of_decide_eq_true e2;refine hJ2 _ _ ⟨?_, rfl⟩;rw [decide_eq_true ⟨ho1, .inl e2⟩]
    ·have e2 : ¬ new = [] := of_decide_eq_false e2;refine hJ2 _ _ ⟨?_, rfl⟩;rw [kj]
     have : (!decide (au new x.column = au old x.column)) = decide (old ≠ [] ∧ (new = [] ∨ au old x.column ≠ au new x.column)) := by
      by_cases g : au old x.column = au new x.column
      ·rw [decide_eq_true g.symm, decide_eq_false]; (first | done | rfl);rintro ⟨_, g2 | g2⟩; exact e2 g2; exact g2 g
      ·rw [decide_eq_false (fun q => g q.symm), decide_eq_true ⟨ho1, .inr g⟩]; (first | done | rfl)
     first
      | rw [this]
      | (have this2 : (!decide (au old x.column = au new x.column)) = decide (old ≠ [] ∧ (new = [] ∨ au old x.column ≠ au new x.column)) := by
          rw [← this]; congr 1; rw [decide_eq_decide]; exact ⟨Eq.symm, Eq.symm⟩
         rw [this2])
   ·have e : ¬ (an : Int) > 0 := of_decide_eq_false e;have ho1 : old = [] := List.eq_nil_of_length_eq_zero (by omega);refine hJ2 _ _ ⟨?_, rfl⟩;rw [decide_eq_false (fun g => g.1 ho1)]
  rintro _ _ ⟨rfl, rfl⟩;dsimp only;refine aC (fun e => ?_) fun e => ?_
  ·have e := of_decide_eq_true e;rw [if_pos e] at hp1;refine aN ((eF x.id (au old x.column) k, ()), ()) (zu x.id (au old x.column) k s3) rfl ?_;refine hfn hL3 (by omega) ⟨eF x.id (au old x.column) k, ⟨#[]⟩, true⟩ fun s4 h4 => ?_;rw [hp1] at h4;exact hJ _ _ ⟨rfl, h4⟩
  ·have e := of_decide_eq_false e;rw [if_neg e] at hp1;refine hJ _ _ ⟨rfl, ?_⟩;rw [← hp1, List.append_nil]; exact hL3
 rintro _ s4 ⟨rfl, hL4⟩;dsimp only
 obtain ⟨L4, hL4e⟩ : ∃ L4, L3 ++ p1 = L4 := ⟨_, rfl⟩
 have hL4l : L4.length ≤ 2000002 := by rw [← hL4e, List.length_append]; omega
 rw [hL4e] at hL4;refine W.bp (fun z s' => z = (bC k, (⟨r, 0, none⟩, ()), ((Value.func (.func 237) #[] #[cp r]), ()), qT x, bC (au new x.column), (p.x, ()), ((p.x.2.1 : Int), ()), ((i : Int), ()), (decide (new ≠ [] ∧ cl x.state = true), ()), ()) ∧ s4 = s') ?_ ?_;rotate_left
 ·intro J2 hJ2;refine aC (fun e => ?_) fun e => ?_
  ·have e : (bn : Int) > 0 := of_decide_eq_true e
   have hn1 : new ≠ [] := fun g => by rw [g] at hbl; simp at hbl; omega
   have hdc : decide (new ≠ [] ∧ cl x.state = true) = cl x.state := by
    cases hcb : cl x.state with
    | true => exact decide_eq_true ⟨hn1, rfl⟩
    | false => exact decide_eq_false fun g => by cases g.2
   rw [hdc] at hJ2;refine aC (fun e2 => ?_) fun e2 => ?_
   ·refine hJ2 _ _ ⟨?_, rfl⟩
    have : cl x.state = true := by unfold cl; rw [e2]; (first | done | rfl)
    rw [this]
   ·refine hJ2 _ _ ⟨?_, rfl⟩
    have : cl x.state = (x.state == 3) := by unfold cl; rw [e2]; (first | done | rfl)
    rw [this]
  ·have e : ¬ (bn : Int) > 0 := of_decide_eq_false e;have hn1 : new = [] := List.eq_nil_of_length_eq_zero (by omega);refine hJ2 _ _ ⟨?_, rfl⟩;rw [decide_eq_false (fun g => g.1 hn1)]
 rintro _ _ ⟨rfl, rfl⟩;dsimp only;rw [aj (k := i) (by omega)];refine aC (fun e => ?_) fun e => ?_
 ·have e := of_decide_eq_true e;rw [if_pos e] at hchgx;refine aN ((eF x.id (au new x.column) k, ()), ()) (zu x.id (au new x.column) k s4) rfl ?_;refine hfn hL4 (by omega) ⟨eF x.id (au new x.column) k, ⟨#[]⟩, false⟩ fun s5 h5 => ?_;refine ⟨⟨i + 1, rfl, by omega, ?_⟩, by simp only [Int.toNat_natCast]; omega⟩;rw [hnext, hchgx, ← List.append_assoc, hL4e]; exact h5
 ·have e := of_decide_eq_false e;rw [if_neg e] at hchgx;refine ⟨⟨i + 1, rfl, by omega, ?_⟩, by simp only [Int.toNat_natCast]; omega⟩;rw [hnext, hchgx, List.append_nil, hL4e]; exact hL4
end
section
attribute [-simp] Fw.W.bD Fw.W.bB
section
variable {K V : Type} [BEq K] [LawfulBEq K]
theorem ng {f : List (K × V)} (hn : (f.map (·.1)).Nodup) (k : K) (v : V) (p : K × V) : p ∈ dG f k v ↔ p = (k, v) ∨ (p ∈ f ∧ p.1 ≠ k) := by
 induction f with
 | nil => simp [dG]
 | cons q f ih =>
  obtain ⟨a, b⟩ := q;simp only [List.map_cons, List.nodup_cons] at hn;simp only [dG]
  by_cases h : k = a
  ·subst h;rw [if_pos (by simp), List.mem_cons]
   constructor
   ·rintro (e | hm)
    ·exact .inl e
    ·refine .inr ⟨List.mem_cons_of_mem _ hm, fun e => hn.1 ?_⟩;rw [← e]; exact List.mem_map_of_mem hm
   ·rintro (e | ⟨hm, hne⟩)
    ·exact .inl e
    ·rcases List.mem_cons.1 hm with rfl | hm
     ·exact absurd rfl hne
     ·exact .inr hm
  ·rw [if_neg (by simpa using h), List.mem_cons, ih hn.2, List.mem_cons]
   constructor
   ·rintro (rfl | e | ⟨hm, hne⟩)
    ·exact .inr ⟨.inl rfl, fun e => h e.symm⟩
    ·exact .inl e
    ·exact .inr ⟨.inr hm, hne⟩
   ·rintro (e | ⟨rfl | hm, hne⟩)
    ·exact .inr (.inl e)
    ·exact .inl rfl
    ·exact .inr (.inr ⟨hm, hne⟩)
theorem Ds {f : List (K × V)} (hn : (f.map (·.1)).Nodup) (k : K) (v : V) : ((dG f k v).map (·.1)).Nodup := by
 induction f with
 | nil => simp [dG]
 | cons q f ih =>
  obtain ⟨a, b⟩ := q;have hn2 := hn;simp only [List.map_cons, List.nodup_cons] at hn;simp only [dG]
  by_cases h : k = a
  ·subst h;rw [if_pos (by simp)]; exact hn2
  ·rw [if_neg (by simpa using h), List.map_cons, List.nodup_cons];refine ⟨fun hm => ?_, ih hn.2⟩;obtain ⟨p, hp, e⟩ := List.mem_map.1 hm;rcases (ng hn.2 k v p).1 hp with rfl | ⟨hp, _⟩
   ·exact h e
   ·exact hn.1 (List.mem_map.2 ⟨p, hp, e⟩)
end
theorem vf {ov : List Wr} (h : jK ov) : (ov.map (·.key)).Nodup := by
 unfold jK at h;rw [List.Nodup, List.pairwise_map]
 exact h.imp fun {a b} e1 e2 => by rw [e2, eA] at e1; cases e1
theorem JZ {f : List (BA × Wr)} {ov : List Wr} (hv : jK ov) (hk : ∀ p ∈ f, p.1 = p.2.key) (hp : (f.map (·.2)).Perm ov) (x : Wr) : (∀ p ∈ dG f x.key x, p.1 = p.2.key) ∧ ((dG f x.key x).map (·.2)).Perm (cL ov x) := by
 have hkeys : f.map (·.1) = (f.map (·.2)).map (·.key) := by rw [List.map_map]; exact List.map_congr_left fun e he => hk e he
 have hn : (f.map (·.1)).Nodup := by rw [hkeys]; exact ((hp.map (·.key)).nodup_iff).2 (vf hv)
 have h1 : ∀ p ∈ dG f x.key x, p.1 = p.2.key := fun p hp => by
  rcases (ng hn _ _ p).1 hp with rfl | ⟨hp, _⟩
  ·rfl
  ·exact hk p hp
 refine ⟨h1, ?_⟩;obtain ⟨p1, p2⟩ := nO hv x
 have hn1 : ((dG f x.key x).map (·.2)).Nodup := by
  have h2 : ((dG f x.key x).map (·.1)) = ((dG f x.key x).map (·.2)).map (·.key) := by rw [List.map_map]; exact List.map_congr_left fun e he => h1 e he
  have h3 := Ds hn x.key x;rw [h2] at h3;exact List.Pairwise.of_map _ (fun a b hab e => hab (by rw [e])) h3
 have hn2 : (cL ov x).Nodup := List.Pairwise.of_map _ (fun a b hab e => hab (by rw [e])) (vf p1);refine (List.perm_ext_iff_of_nodup hn1 hn2).2 fun a => ?_;rw [p2, List.mem_map]
 constructor
 ·rintro ⟨p, hpa, rfl⟩;rcases (ng hn _ _ p).1 hpa with rfl | ⟨hp2, hne⟩
  ·exact .inl rfl
  ·refine .inr ⟨(hp.mem_iff).1 ?_, by rw [← hk p hp2]; exact hne⟩;exact List.mem_map_of_mem hp2
 ·rintro (rfl | ⟨ha, hne⟩)
  ·exact ⟨(a.key, a), (ng hn _ _ _).2 (.inl rfl), rfl⟩
  ·obtain ⟨p, hp2, rfl⟩ := List.mem_map.1 ((hp.mem_iff).2 ha);exact ⟨p, (ng hn _ _ _).2 (.inr ⟨hp2, by rw [hk p hp2]; exact hne⟩), rfl⟩
theorem AA (l : List Wr) (x : Wr) : (cL l x).length ≤ l.length + 1 := by
 have h1 := congrArg List.length (List.takeWhile_append_dropWhile (p := fun y : Wr => bK y.key x.key) (l := l));have h2 := List.length_filter_le (fun y : Wr => decide (y.key ≠ x.key)) (l.dropWhile fun y => bK y.key x.key);rw [List.length_append] at h1;unfold cL;rw [List.length_append, List.length_append, List.length_singleton]; omega
theorem lY : ∀ (ws ov : List Wr), (ws.foldl cL ov).length ≤ ov.length + ws.length
 | [], ov => Nat.le_refl _
 | x :: ws, ov => by
  have h1 := lY ws (cL ov x);have h2 := AA ov x;rw [List.foldl_cons, List.length_cons]; omega
theorem Hp {ov : List Wr} {x a : Wr} (h : a ∈ cL ov x) : a = x ∨ a ∈ ov := by
 unfold cL at h;rw [List.mem_append, List.mem_append, List.mem_singleton] at h;rcases h with (h | h) | h
 ·exact .inr (List.takeWhile_subset _ h)
 ·exact .inl h
 ·exact .inr ((List.dropWhile_sublist _).subset (List.mem_filter.1 h).1)
section
variable {s0 s : PH} {w : Nat} {S : aK} {tt sh : aU} {B : List Ht} {rds : List cx} {ov : List Wr}
theorem EJ.put {r : aU} {mb mo : Nat} {qs : List IC} {bs : List (cx × aU)} {f : List (BA × Wr)} {o : Obj} (h : EJ s0 s w S tt sh B rds ov) (hx : El s0 s w S tt sh B rds ov r mb mo qs bs f) (x : Wr) (ho : iC iQ sY (s.aS mo o) mo (dG f x.key x)) (h1 : x.key.size ≤ 4000000 ∧ x.val.size ≤ 4000000) (h2 : ov.length + 1 ≤ 800000) :
  EJ s0 (s.aS mo o) w S tt sh B rds (cL ov x) ∧ Kt s (s.aS mo o) := by
 obtain ⟨es, c, hmo, _⟩ := hx.om;have u : Fw.Mod [mo] s (s.aS mo o) := Mod.aS (by simp);have md : Fw.Mod [] s0 (s.aS mo o) := hx.md.cj (.inr hx.mo0)
 have hrow : ∀ {α : Type} {E : cO α} {e : TypeId} {a : OA} {n c : Nat} {l : List α}, bq E s e a n c l → bq E (s.aS mo o) e a n c l := fun {α E e a n c l} hr => hr.mod u fun g hg hb => by
  have : g = mo := by simpa using hb
  subst this;rcases hr.shape with ⟨rfl, _⟩ | ⟨g', rfl⟩
  ·simp [Fw.aW] at hg
  ·simp [Fw.aW] at hg; subst hg;obtain ⟨cur, q2⟩ := hr.ty rfl;rw [hmo] at q2; cases q2
 obtain ⟨p1, p2⟩ := JZ h.cJ hx.omk hx.omp x;refine ⟨⟨⟨r, mb, mo, qs, bs, dG f x.key x, md, hx.w0, ?_, hx.mb0, hx.mo0, hx.ne, ⟨hrow hx.rd.row, hx.rd.fr, md⟩, hx.rdq, fun q hq => hrow (hx.seen q hq), ?_, hx.bmq, fun e he => hrow (hx.bv e he), ho, p1, p2⟩, (nO h.cJ x).1, fun a ha => ?_, ?_⟩, Kt.mod u fun g hg cur e hgc => ?_⟩
 ·rw [PH.bJ]; exact hx.aW;rintro rfl; rw [hx.aW] at hmo; cases hmo
 ·obtain ⟨es2, c2, q1, q2⟩ := hx.bm;exact ⟨es2, c2, by rw [PH.bJ _ _ hx.ne]; exact q1, q2⟩
 ·rcases Hp ha with rfl | ha
  ·exact h1
  ·exact h.sm a ha
 ·have := AA ov x; omega
 ·have : g = mo := by simpa using hg
  subst this;rw [hmo] at hgc; cases hgc
theorem pn {α β : Type} {l : List α} {k : Nat} {x : α} (f : β → α → β) (b : β) (h : l[k]? = some x) : (l.take (k + 1)).foldl f b = f ((l.take k).foldl f b) x := by
 rw [List.take_add_one, h, List.foldl_append]; (first | done | rfl)
theorem tv (h : EJ s0 s w S tt sh B rds ov) {p : aD} (hp : gz s0 p) (hx : p.T.idxs.length ≤ 1000000) {a b : OA} {an ac bn bc : Nat} {old new : List aL} (ho : Sl bu s (a, an, ac) old) (hn : Sl bu s (b, bn, bc) new)
  (hsm : ∀ x ∈ cM p.T old new, x.key.size ≤ 4000000 ∧ x.val.size ≤ 4000000) (hl : ov.length + (cM p.T old new).length ≤ 800000) :
  ah 123 #[cp w, ep p.T p.c p.x p.k, .slice a an ac, .slice b bn bc] s fun y s' => y = .tuple #[] ∧ EJ s0 s' w S tt sh B rds ((cM p.T old new).foldl cL ov) ∧ Kt s s' := by
 refine FM w p.T.id p.T.name p.c.1 p.c.2.1 p.c.2.2 p.x.1 p.x.2.1 p.x.2.2 p.k.1 p.k.2.1 p.k.2.2 a an ac b bn bc _ s ?_;unfold yx;simp only [aY, aQ, aR, aP, aT, bL, oe, aF, cR, aV, Nat.zero_add];refine W.aq (C6 (hp.mono h.md.le) hx ho hn) ?_;rintro _ s1 ⟨ca, cn, cc, rfl, hG⟩;refine ⟨(((ca, cn, cc), ()), ()), rfl, ?_⟩
 obtain ⟨C, hC⟩ : ∃ C, cM p.T old new = C := ⟨_, rfl⟩
 rw [hC] at hG hsm hl ⊢;have hcn := hG.row.len;dsimp only
 refine ⟨fun z s' => ∃ i : Nat, z = (((ca, cn, cc), ()), ((cn : Int), ()), ((i : Int), ()), ()) ∧ i ≤ cn ∧ EJ s0 s' w S tt sh B rds ((C.take i).foldl cL ov) ∧ Kt s s' ∧ bq nT s' 79 ca cn cc C,
  fun z _ => cn - z.2.2.1.1.toNat, ⟨0, rfl, Nat.zero_le _, h.same hG.md, Kt.of hG.md, hG.row⟩, ?_⟩
 rintro _ s2 ⟨i, rfl, hi, hE, hk, hrow⟩;dsimp only;refine aC (fun e => ?_) fun e => ?_;rotate_left
 ·have e : ¬ (i : Int) < (cn : Int) := of_decide_eq_false e;rw [List.take_of_length_le (by omega)] at hE;exact ⟨rfl, hE, hk⟩
 have hlt : (i : Int) < (cn : Int) := of_decide_eq_true e
 obtain ⟨x, hx2⟩ : ∃ x, C[i]? = some x := ⟨_, List.getElem?_eq_getElem (by omega)⟩
 obtain ⟨g, rfl, hh⟩ := hrow.at hx2;refine bg ⟨Int.natCast_nonneg i, hlt⟩ ?_;simp only [cR, Int.toNat_natCast, aV, Nat.zero_add];have hh : s2.has ⟨g, i * 3, none⟩ (nT.f x) := hh;refine aE hh (y := Mt x) rfl ?_;obtain ⟨r, mb, mo, qs, bs, f, hx3⟩ := hE.ei;refine (W.aA hx3.aW _ _ _ _).2 ⟨(some mo, ()), rfl, ?_⟩;refine Cg (ke := iQ) (ve := sY) hx3.om (key := x.key) (v := x) fun o ho => ?_;have hfl := lY (C.take i) ov;rw [List.length_take] at hfl;obtain ⟨q1, q2⟩ := hE.put hx3 x ho (hsm x (List.mem_of_getElem? hx2)) (by omega);rw [aj (k := i) (by omega)];refine ⟨⟨i + 1, rfl, by omega, ?_, hk.trans q2, q2.row hrow (by decide) (by decide)⟩, by simp only [Int.toNat_natCast]; omega⟩;rw [pn cL ov hx2]; exact q1
end
end
section
attribute [-simp] Fw.W.bD Fw.W.bB
def eI (l : List aL) : Prop := dr 0 l = true ∧ ∀ c ∈ l, sA c
theorem lX : ∀ (l : List aL) (last : Int), dr last l = true ↔ (∀ c ∈ l, bA c.v = true ∧ last < c.id) ∧ jJ l
 | [], last => by simp [dr, jJ]
 | c :: l, last => by
  have ih := lX l c.id;simp only [dr, Bool.and_eq_true, decide_eq_true_eq, ih, jJ, List.pairwise_cons, List.mem_cons]
  constructor
  ·rintro ⟨⟨h1, h2⟩, h3, h4⟩;refine ⟨fun x hx => ?_, fun x hx => (h3 x hx).2, h4⟩;rcases hx with rfl | hx
   ·exact ⟨h1, h2⟩
   ·exact ⟨(h3 x hx).1, by have := (h3 x hx).2; omega⟩
  ·rintro ⟨h1, h2, h3⟩;exact ⟨h1 c (.inl rfl), fun x hx => ⟨(h1 x (.inr hx)).1, h2 x hx⟩, h3⟩
theorem eI.cJ {l : List aL} (h : eI l) : jJ l := ((lX _ _).1 h.1).2
theorem r64 {n : Int} (h : gf n) : -9223372036854775808 ≤ n ∧ n ≤ 9223372036854775807 := h
theorem eI.ids {l : List aL} (h : eI l) : CU l := fun c hc => ⟨by have := (((lX _ _).1 h.1).1 c hc).2; omega, (r64 (h.2 c hc).2).2⟩
theorem eI.nil : eI [] := ⟨rfl, by simp⟩
theorem vP.p {l : List aL} (h : vP l) : eI l := ⟨h.put, h.ok⟩
theorem Ag {l : List aL} {k : Int} {v : aH} {c : aL} (h : c ∈ eo l k v) : c = ⟨k, v⟩ ∨ c ∈ l := by
 unfold eo at h;rw [List.mem_append, List.mem_append, List.mem_singleton] at h;rcases h with (h | h) | h
 ·exact .inr (List.takeWhile_subset _ h)
 ·exact .inl h
 ·refine .inr ((List.dropWhile_sublist (fun c : aL => decide (c.id < k)) (l := l)).subset ?_)
  split at h
  ·simp at h
  ·rename_i x r he
   split at h
   ·rw [he]; exact List.mem_cons_of_mem _ h
   ·rw [he]; exact h
theorem Ik {l : List aL} (h : jJ l) (k : Int) (v : aH) : jJ (eo l k v) := by
 have h1 := List.takeWhile_append_dropWhile (p := fun c : aL => decide (c.id < k)) (l := l);have hs := h;unfold jJ at hs;rw [← h1] at hs;obtain ⟨p1, p2, p3⟩ := List.pairwise_append.1 hs
 have hlt : ∀ c ∈ l.takeWhile (fun c => decide (c.id < k)), c.id < k := fun c hc => by simpa using List.all_eq_true.1 (List.all_takeWhile (p := fun c : aL => decide (c.id < k)) (l := l)) c hc
 unfold eo jJ
 have hrest : ∀ (r : List aL), r = (match l.dropWhile (fun c => decide (c.id < k)) with | [] => [] | c :: r => if c.id = k then r else c :: r) → (∀ c ∈ r, k < c.id) ∧ r.Pairwise (fun a b => a.id < b.id) ∧ ∀ c ∈ r, c ∈ l.dropWhile (fun c => decide (c.id < k)) := by
  intro r hr
  cases hd : l.dropWhile (fun c => decide (c.id < k)) with
  | nil => rw [hd] at hr; subst hr; simp
  | cons c r2 =>
   rw [hd] at hr p2
   have hc : ¬ c.id < k := by
    have := List.head?_dropWhile_not (p := fun c : aL => decide (c.id < k)) (l := l);rw [hd] at this;simpa using this
   have hp := List.pairwise_cons.1 p2;dsimp only at hr
   split at hr
   ·rename_i hk
    subst hr;exact ⟨fun x hx => by have := hp.1 x hx; omega, hp.2, fun x hx => List.mem_cons_of_mem _ hx⟩
   ·rename_i hk
    subst hr;refine ⟨fun x hx => ?_, p2, fun x hx => hx⟩;rcases List.mem_cons.1 hx with rfl | hx
    ·omega
    ·have := hp.1 x hx; omega
 obtain ⟨q1, q2, q3⟩ := hrest _ rfl;refine List.pairwise_append.2 ⟨List.pairwise_append.2 ⟨p1, List.pairwise_singleton _ _, ?_⟩, q2, ?_⟩
 ·intro a ha b hb;simp at hb; subst hb; exact hlt a ha
 ·intro a ha b hb;rcases List.mem_append.1 ha with ha | ha
  ·exact p3 a ha b (q3 b hb)
  ·simp at ha; subst ha; exact q1 b hb
theorem eI.set {l : List aL} (h : eI l) {k : Int} {v : aH} (h1 : 1 ≤ k) (h2 : k ≤ 9223372036854775807) (hv : dg v) : eI (eo l k v) := by
 refine ⟨(lX _ _).2 ⟨fun c hc => ?_, Ik h.cJ k v⟩, fun c hc => ?_⟩
 ·rcases Ag hc with rfl | hc
  ·exact ⟨hv.1, by dsimp only; omega⟩
  ·exact ((lX _ _).1 h.1).1 c hc
 ·rcases Ag hc with rfl | hc
  ·exact ⟨hv, by show -9223372036854775808 ≤ k ∧ k ≤ 9223372036854775807; omega⟩
  ·exact h.2 c hc
theorem js {l : List aL} (h : jJ l) (k : Int) (v : aH) : (eo l k v).length ≤ l.length + 1 := by
 rw [BQ l h]; split <;> omega
structure fR (S : aK) (T : az) : Prop where
 ne : T.cols ≠ []
 pub : ∀ c, T.cols[0]? = some c → c.state = 3
 cols : ∀ c ∈ T.cols, 1 ≤ c.id ∧ c.id ≤ 9223372036854775807 ∧ dg c.dflt
 par : ∀ x ∈ T.keys, ∃ U, iI S x.parent = some U ∧ U.cols ≠ []
 c8 : T.cols.length ≤ 8
 x8 : T.idxs.length ≤ 8
 k8 : T.keys.length ≤ 8
theorem C8 {l : List aL} (h : eI l) : (cK l).1.size ≤ 256 * l.length := by
 unfold cK;rw [if_pos h.1]
 show (kB (l.flatMap di)).size ≤ _
 rw [bR];exact xg fun c hc => (h.2 c hc).1.1
theorem Af {T : az} {old new : List aL} {x : Wr} (h : x ∈ cM T old new) : (x.key = cH T.id (au (if old = [] then new else old) (bz T)) ∧ x.val = (cK new).1 ∧ x.dead = decide (new = [])) ∨ (x.val = ⟨#[]⟩ ∧ ∃ i ∈ T.idxs, x.key = eF i.id (au old i.column) (au (if old = [] then new else old) (bz T)) ∨ x.key = eF i.id (au new i.column) (au (if old = [] then new else old) (bz T))) := by
 unfold cM at h
 split at h
 ·simp at h
 ·rcases List.mem_cons.1 h with rfl | h
  ·exact .inl ⟨rfl, rfl, rfl⟩
  ·obtain ⟨i, hi, hx⟩ := List.mem_flatMap.1 h;unfold jL at hx;rw [List.mem_append] at hx;rcases hx with hx | hx
   ·split at hx
    ·simp at hx; subst hx; exact .inr ⟨rfl, i, hi, .inl rfl⟩
    ·simp at hx
   ·split at hx
    ·simp at hx; subst hx; exact .inr ⟨rfl, i, hi, .inr rfl⟩
    ·simp at hx
theorem o5 {T : az} {old new : List aL} (h : eI new) (hl : new.length ≤ 15000) : ∀ x ∈ cM T old new, x.key.size ≤ 4000000 ∧ x.val.size ≤ 4000000 := fun x hx => by
 have hk : ∀ l : List aH, (keyOf l).1.size ≤ 1120 := fu;have hz := C8 h;have h0 : (⟨#[]⟩ : BA).size = 0 := rfl;rcases Af hx with ⟨e1, e2, _⟩ | ⟨e2, i, hi, e1 | e1⟩
 ·refine ⟨?_, ?_⟩
  ·rw [e1]; have := hk [aB 0, aB T.id, au (if old = [] then new else old) (bz T)]; unfold cH; omega
  ·rw [e2]; omega
 ·refine ⟨?_, ?_⟩
  ·rw [e1]; have := hk [aB 1, aB i.id, au old i.column, au (if old = [] then new else old) (bz T)]; unfold eF; omega
  ·rw [e2]; omega
 ·refine ⟨?_, ?_⟩
  ·rw [e1]; have := hk [aB 1, aB i.id, au new i.column, au (if old = [] then new else old) (bz T)]; unfold eF; omega
  ·rw [e2]; omega
structure qv where
 l : List aH
 u : aU
def Ms : cO qv where
 sz := 1
 f q := [.slice q.u.1 q.u.2.1 q.u.2.2]
 len _ := rfl
 one q v hv := by simp at hv; subst hv; (first | done | rfl)
 pos := by omega
structure fQ (s0 s : PH) (a : OA) (n c : Nat) (L : List (List aH)) (qs : List qv) : Prop where
 gw : Gw Ms 125 s0 s a n c qs
 eq : qs.map (·.l) = L
 vs : ∀ q ∈ qs, bq ew s 28 q.u.1 q.u.2.1 q.u.2.2 q.l ∧ ∀ g ∈ Fw.aW q.u.1, s0 g = none
def oh (s0 s : PH) (rp : Rp) (y : Value) : Prop := ∃ a n c qs, y = .agg #[.int .i64 rp.n, .slice a n c] ∧ fQ s0 s a n c rp.rows qs
theorem fQ.nil {s0 s : PH} (h : Fw.Mod [] s0 s) : fQ s0 s none 0 0 [] [] := ⟨Gw.nil h, rfl, by simp⟩
theorem oh.none {s0 s : PH} (n : Int) (h : Fw.Mod [] s0 s) : oh s0 s ⟨n, []⟩ (.agg #[.int .i64 n, .slice none 0 0]) := ⟨_, 0, 0, [], rfl, fQ.nil h⟩
def kZ (s0 s : PH) (w : Nat) (S : aK) (tt sh : aU) (B : List Ht) (rds : List cx) (ov : List Wr) (E : y9) (y : Value) (s' : PH) : Prop :=
 ∃ ry, y = .tuple #[ry, .int .i64 E.err] ∧ oh s0 s' E.rep ry ∧ EJ s0 s' w S tt sh B (bT rds E.asks) (E.ws.foldl cL ov) ∧ Kt s s'
theorem Sl.tail {α : Type} {E : cO α} {s : PH} {a : OA} {n c : Nat} {x : α} {l : List α} (h : Sl E s (a, n, c) (x :: l)) : Sl E s (if c = 1 then a else a.map (·.add E.sz), n - 1, c - 1) l := by
 have hn : n = l.length + 1 := h.len;have hle : n ≤ c := h.le;have hf := h.dF;rw [List.length_cons] at hf;refine ⟨⟨by show n - 1 = l.length; omega, fun i y hy => ?_⟩, by show n - 1 ≤ c - 1; omega, by omega⟩;obtain ⟨ad, h1, h2⟩ := h.el.aG (i := i + 1) (x := y) (by simpa using hy);dsimp only at h1;have hil := (List.getElem?_eq_some_iff.1 hy).1;refine ⟨ad.add E.sz, E.f y, ?_, rfl, ?_⟩
 ·rw [if_neg (by omega), h1]; (first | done | rfl)
 ·show s.has ((ad.add E.sz).add (i * E.sz)) (E.f y)
  rw [mR];rw [show (i + 1) * E.sz = E.sz + i * E.sz by rw [Nat.add_mul]; omega] at h2;exact h2
theorem Gw.since {α : Type} {E : cO α} {e : TypeId} {s0 s s' : PH} {a : OA} {n c : Nat} {l : List α} (h : Gw E e s s' a n c l) (hm : Fw.Mod [] s0 s) : Gw E e s0 s' a n c l :=
 ⟨h.row, fun g hg => hm.none (h.fr g hg) (by simp), hm.trans h.md⟩
abbrev zG (c : cm) : Den [.int .i64, .str, .int .i64, .int .i64, .int .i64, .int .i64, .str] := (c.id, c.name, c.kind, c.state, c.dflt.kind, c.dflt.n, c.dflt.s, ())
abbrev vU (b : cG) (t : aU) : Den [.int .i64, .int .i64, .slice, .int .i64, .int .i64, .int .i64, .str, .int .i64, .int .i64, .int .i64, .str] := (b.kind, b.table, t, b.set, b.to.kind, b.to.n, b.to.s, b.whr, b.is.kind, b.is.n, b.is.s, ())
theorem wh {v : aH} {k : Int} (h : fits v k = true) : bA v = true := by unfold fits at h; exact (Bool.and_eq_true _ _ ▸ h).1
theorem pH {c : cm} {l : List cm} {k : Nat} {vs : List aH} (h : fH (c :: l) k vs = true) : (c.state ≠ 3 ∧ fH l (k + 1) vs = true) ∨ (c.state = 3 ∧ ∃ v r, vs = v :: r ∧ bA v = true ∧ fH l (k + 1) r = true) := by
 unfold fH at h
 split at h
 ·rename_i h1; exact .inl ⟨h1, h⟩
 ·rename_i h1
  refine .inr ⟨by omega, ?_⟩
  cases vs with
  | nil => cases h
  | cons v r =>
   simp only [Bool.and_eq_true] at h;exact ⟨v, r, rfl, wh h.1.1, h.2⟩
section
variable {s0 s : PH} {w : Nat} {S : aK} {tt sh : aU} {B : List Ht} {rds : List cx} {ov : List Wr}
theorem mK : ∀ {l : List cm} {k : Nat} {vs : List aH} {cs : List aL}, (∀ c ∈ l, 1 ≤ c.id ∧ c.id ≤ 9223372036854775807 ∧ dg c.dflt) → fH l k vs = true → (∀ v ∈ vs, gf v.n) → eI cs → eI (iB l vs cs) ∧ (iB l vs cs).length ≤ cs.length + l.length
 | [], k, vs, cs, _, _, _, h => ⟨h, Nat.le_refl _⟩
 | c :: l, k, vs, cs, hc, ho, hv, h => by
  have hc1 := hc c List.mem_cons_self;have hcl : ∀ x ∈ l, 1 ≤ x.id ∧ x.id ≤ 9223372036854775807 ∧ dg x.dflt := fun x hx => hc x (List.mem_cons_of_mem _ hx);unfold iB;rcases pH ho with ⟨h3, ho⟩ | ⟨h3, v, r, rfl, hvo, ho⟩
  ·rw [if_neg h3]
   split
   ·have hs := h.set hc1.1 hc1.2.1 hc1.2.2;have hl := js h.cJ c.id c.dflt;obtain ⟨i1, i2⟩ := mK hcl ho hv hs;exact ⟨i1, by rw [List.length_cons]; omega⟩
   ·obtain ⟨i1, i2⟩ := mK hcl ho hv h;exact ⟨i1, by rw [List.length_cons]; omega⟩
  ·rw [if_pos h3];have hs := h.set hc1.1 hc1.2.1 (v := v) ⟨hvo, hv v List.mem_cons_self⟩;have hl := js h.cJ c.id v;obtain ⟨i1, i2⟩ := mK (vs := r) hcl ho (fun x hx => hv x (List.mem_cons_of_mem _ hx)) hs;exact ⟨i1, by rw [List.length_cons]; show (iB l r (eo cs c.id v)).length ≤ _; omega⟩
theorem EK {ps : List aD} (hB : jI s0 sh B) (h : EJ s0 s w S tt sh B rds ov) (hS : dO s0 tt S ps) {p : aD} (hp : gz s0 p) (hT : fR S p.T) {b : cG} {t : aU} (hv : Sl ew s0 t b.vals) (hne : b.vals ≠ []) (hok : fH p.T.cols 0 b.vals = true) (h64 : ∀ v ∈ b.vals, gf v.n)
  (hrl : rds.length + 100000 ≤ 4000000) (hol : ov.length + 60000 ≤ 800000) :
  ah 58 #[cp w, ep p.T p.c p.x p.k, nU b t] s (kZ s0 s w S tt sh B rds ov (qV S p.T b (ai 0 B ov))) := by
 refine DM w p.T.id p.T.name p.c.1 p.c.2.1 p.c.2.2 p.x.1 p.x.2.1 p.x.2.2 p.k.1 p.k.2.1 p.k.2.2 b.kind b.table t.1 t.2.1 t.2.2 b.set b.to.kind b.to.n b.to.s b.whr b.is.kind b.is.n b.is.s _ s ?_;unfold vI
 obtain ⟨R, hR⟩ : ∃ R : Value → PH → Prop, kZ s0 s w S tt sh B rds ov (qV S p.T b (ai 0 B ov)) = R := ⟨_, rfl⟩
 rw [hR]
 obtain ⟨D, hD⟩ : ∃ D, ai 0 B ov = D := ⟨_, rfl⟩
 rw [hD] at hR;have hcl : p.c.2.1 = p.T.cols.length := hp.c.len;have hc8 := hT.c8
 obtain ⟨CS, hCS⟩ : ∃ CS, iB p.T.cols b.vals [] = CS := ⟨_, rfl⟩
 obtain ⟨hCS1, hCS2⟩ := mK hT.cols hok h64 eI.nil;rw [hCS] at hCS1 hCS2
 have hCS2 : CS.length ≤ 8 := by simp at hCS2; omega
 simp only [aQ, aR, aP, aT, bL, aY, aF]
 refine ⟨fun z s' => ∃ (i : Nat) (vt : aU) (vs : List aH) (a : OA) (n c : Nat) (cs : List aL), z = ((p.T.id, p.T.name, p.c, p.x, p.k, ()), vU b t, ((0 : Int), ((none, 0, 0) : aU), ()), ((a, n, c), ()), (vt, ()), (p.c, ()), ((p.c.2.1 : Int), ()), ((i : Int), ()), ()) ∧ i ≤ p.c.2.1 ∧ Gw bu 94 s s' a n c cs ∧ Sl ew s0 vt vs ∧ eI cs ∧ cs.length ≤ i ∧ fH (p.T.cols.drop i) i vs = true ∧ (∀ v ∈ vs, gf v.n) ∧ iB (p.T.cols.drop i) vs cs = CS,
  fun z _ => p.c.2.1 - z.2.2.2.2.2.2.2.1.1.toNat, ⟨0, t, b.vals, none, 0, 0, [], rfl, Nat.zero_le _, Gw.nil (Mod.refl _ _), hv, eI.nil, Nat.le_refl _, hok, h64, hCS⟩, ?_⟩
 rintro _ s1 ⟨i, ⟨va, vn, vc⟩, vs, a, n, c, cs, rfl, hi, hG, hVs, hcs, hcsl, hio, hv64, hic⟩;have hE1 := h.same hG.md;dsimp only;refine aC (fun e => ?_) fun e => ?_
 ·have hlt : (i : Int) < (p.c.2.1 : Int) := of_decide_eq_true e
  obtain ⟨x, hx⟩ : ∃ x, p.T.cols[i]? = some x := ⟨_, List.getElem?_eq_getElem (by omega)⟩
  have hxc := hT.cols x (List.mem_of_getElem? hx);obtain ⟨ad, had, hh⟩ := (hp.c.mono hE1.md.le).el.aG hx;refine bg ⟨Int.natCast_nonneg i, hlt⟩ ?_;refine bS had ?_;simp only [Int.toNat_natCast];have hh : s1.has (ad.add (i * 7)) (dw.f x) := hh;refine aE hh (y := zG x) rfl ?_;rw [bW hx] at hio hic;have hn := hG.row.len;rw [aj (k := i) (by omega)];dsimp only;unfold iB at hic;rcases pH hio with ⟨h3, hio⟩ | ⟨h3, v, r, rfl, hvo, hio⟩
  ·rw [if_neg h3] at hic;refine (W.af _ _ _ _).2 ⟨fun e3 => absurd (eq_of_beq e3) h3, fun _ => ?_⟩;refine aC (fun e2 => ?_) fun e2 => ?_
   ·have e2 : x.state = 2 := eq_of_beq e2;rw [if_pos e2] at hic;refine W.aq (uH (Sl.bN (t := (a, n, c)) hG.row (by omega)) hcs.cJ hcs.ids (by omega) hxc.1 hxc.2.1 x.dflt) ?_;rintro _ s2 ⟨a2, n2, c2, rfl, hG2⟩;refine ⟨(((a2, n2, c2), ()), ()), rfl, ?_⟩;have hl := js hcs.cJ x.id x.dflt;refine ⟨⟨i + 1, (va, vn, vc), vs, a2, n2, c2, eo cs x.id x.dflt, rfl, by omega, hG2.since hG.md, hVs, hcs.set hxc.1 hxc.2.1 hxc.2.2, by omega, hio, hv64, hic⟩, by simp only [Int.toNat_natCast]; omega⟩
   ·have e2 : ¬ x.state = 2 := by simpa using e2
    rw [if_neg e2] at hic;refine ⟨⟨i + 1, (va, vn, vc), vs, a, n, c, cs, rfl, by omega, hG, hVs, hcs, by omega, hio, hv64, hic⟩, by simp only [Int.toNat_natCast]; omega⟩
  ·rw [if_pos h3] at hic;refine (W.af _ _ _ _).2 ⟨fun _ => ?_, fun e3 => absurd h3 (by simpa using e3)⟩;have hvl : vn = (v :: r).length := hVs.len;have hvle : vn ≤ vc := hVs.le;rw [List.length_cons] at hvl;refine bg ⟨Int.le_refl 0, by omega⟩ ?_;obtain ⟨av, hav, hhv⟩ := (hVs.mono hE1.md.le).el.aG (i := 0) rfl;refine bS hav ?_
   have hhv : s1.has (av.add 0) (ew.f v) := by simpa using hhv
   refine bl (j := 0) (A := av) (by simpa using hhv) (y := bC v) rfl ?_;refine W.aq (uH (Sl.bN (t := (a, n, c)) hG.row (by omega)) hcs.cJ hcs.ids (by omega) hxc.1 hxc.2.1 v) ?_;rintro _ s2 ⟨a2, n2, c2, rfl, hG2⟩;refine ⟨(((a2, n2, c2), ()), ()), rfl, ?_⟩;refine bg ⟨by omega, by omega, by omega⟩ ?_;have hl := js hcs.cJ x.id v;refine ⟨⟨i + 1, (if vc = 1 then va else va.map (·.add 3), vn - 1, vc - 1), r, a2, n2, c2, eo cs x.id v, ?_, by omega, hG2.since hG.md, hVs.tail, hcs.set hxc.1 hxc.2.1 ⟨hvo, hv64 v List.mem_cons_self⟩, by omega, hio, fun y hy => hv64 y (List.mem_cons_of_mem _ hy), hic⟩, by simp only [Int.toNat_natCast]; omega⟩;simp only [Int.toNat_natCast]
 ·have e : ¬ (i : Int) < (p.c.2.1 : Int) := of_decide_eq_false e;rw [List.drop_of_length_le (by omega)] at hic;have hic : cs = CS := hic;subst hic
  obtain ⟨k, r, hbv⟩ : ∃ k r, b.vals = k :: r := by
   cases hb : b.vals with
   | nil => exact absurd hb hne
   | cons k r => exact ⟨k, r, rfl⟩
  have hkd : b.vals.headD gm = k := by rw [hbv]; (first | done | rfl)
  have hvl : t.2.1 = b.vals.length := hv.len;rw [hbv, List.length_cons] at hvl;refine bg ⟨Int.le_refl 0, (show (0 : Int) < (t.2.1 : Int) by omega)⟩ ?_;obtain ⟨av, hav, hhv⟩ := (hv.mono hE1.md.le).el.aG (i := 0) (x := k) (by rw [hbv]; (first | done | rfl));refine bS hav ?_;refine bl (j := 0) (A := av) (by simpa using hhv) (y := bC k) rfl ?_;have hn := hG.row.len
  have hins : qV S p.T b D = (if gY p.T k D ≠ [] then ⟨210, kN, [cF p.T.id k], []⟩
   else if (eU S p.T k [] cs D).1 ≠ 0 then ⟨(eU S p.T k [] cs D).1, kN, cF p.T.id k :: (eU S p.T k [] cs D).2, []⟩
   else ⟨0, ⟨1, []⟩, cF p.T.id k :: (eU S p.T k [] cs D).2, cM p.T [] cs⟩) := by unfold qV; rw [hkd, hCS]
  have hx8 := hT.x8;have hk8 := hT.k8;refine W.aq (zz hB hE1 (by omega) hp hT.ne k) ?_;rintro _ s2 ⟨a2, n2, c2, qs2, rfl, hq2, _, hE2, hk2⟩;refine ⟨(((a2, n2, c2), ()), ()), rfl, ?_⟩;rw [hD] at hq2;have hn2 := hq2.len;have t2 : Kt s s2 := (Kt.of hG.md).trans hk2;dsimp only;refine aC (fun e => ?_) fun e => ?_
  ·have e : (n2 : Int) > 0 := of_decide_eq_true e
   have : gY p.T k D ≠ [] := fun g => by rw [g] at hn2; simp at hn2; omega
   rw [if_pos this] at hins;rw [← hR, hins];exact ⟨_, rfl, oh.none 0 hE2.md, hE2, t2⟩
  have e : ¬ (n2 : Int) > 0 := of_decide_eq_false e;have hnil : ¬ gY p.T k D ≠ [] := fun g => g (List.eq_nil_of_length_eq_zero (by omega));rw [if_neg hnil] at hins;have hadl := td rds (cF p.T.id k);have hrow2 : bq bu s2 94 a n c cs := hk2.row hG.row (by decide) (by decide);refine W.aq (zy (old := []) (new := cs) hB hE2 hS hp (by omega) hT.par k bq.nil (by simp) hrow2 (by omega)) ?_;rintro _ s3 ⟨rfl, hE3, hk3⟩;rw [hD] at hE3;refine ⟨((_, ()), ()), by rw [hD]; (first | done | rfl), ?_⟩;have t3 := t2.trans hk3;dsimp only;refine aC (fun e => ?_) fun e => ?_
  ·have e : (eU S p.T k [] cs D).1 ≠ 0 := by simpa using e
   rw [if_pos e] at hins;rw [← hR, hins];exact ⟨_, rfl, oh.none 0 hE3.md, hE3, t3⟩
  ·have e : ¬ (eU S p.T k [] cs D).1 ≠ 0 := by simpa using e
   rw [if_neg e] at hins;have hrow3 : bq bu s3 94 a n c cs := hk3.row hrow2 (by decide) (by decide);have hcl2 := lp p.T [] cs;refine W.aq (tv (old := []) (new := cs) hE3 hp (by omega) Sl.nil (Sl.bN (t := (a, n, c)) hrow3 (by omega)) (o5 hcs (by omega)) (by omega)) ?_;rintro _ s4 ⟨rfl, hE4, hk4⟩;refine ⟨(), rfl, ?_⟩;rw [← hR, hins];exact ⟨_, rfl, oh.none 1 hE4.md, hE4, t3.trans hk4⟩
end
end
section
attribute [-simp] Fw.W.bD Fw.W.bB
theorem o8 {T : az} {h : Ht} {r : Rw} (e : eL T h = some r) : eM h.val = some r.cells ∧ r.cells ≠ [] ∧ r.key = au r.cells (bz T) := by
 unfold eL at e
 cases hg : eM h.val with
 | none => rw [hg] at e; cases e
 | some l =>
  rw [hg] at e
  cases l with
  | nil => cases e
  | cons c l => cases e; exact ⟨rfl, by simp, rfl⟩
theorem nQ {T : az} {l : List Ht} {r : Rw} (h : r ∈ jg T l) : ∃ x ∈ l, eL T x = some r := List.mem_filterMap.1 h
theorem AI {T : az} {k : aH} {D : List Ht} {r : Rw} (h : r ∈ gY T k D) : ∃ x ∈ D, eL T x = some r := by
 obtain ⟨x, hx, e⟩ := nQ h;exact ⟨x, gL hx, e⟩
theorem zd {T : az} {D : List Ht} {r : Rw} (h : r ∈ (ff T D).2) : ∃ x ∈ D, eL T x = some r := by
 unfold ff at h
 split at h
 ·simp at h
 ·obtain ⟨x, hx, e⟩ := nQ h;exact ⟨x, gL hx, e⟩
theorem uU {T : az} {b : cG} {D : List Ht} {r : Rw} (h : r ∈ (aX T b D).2) : ∃ x ∈ D, eL T x = some r := by
 unfold aX at h
 split at h
 ·exact zd h
 ·split at h
  ·exact AI h
  ·split at h
   ·exact zd (List.mem_filter.1 h).1
   ·split at h
    ·simp at h
    ·obtain ⟨k, _, hk⟩ := List.mem_flatMap.1 h;exact AI hk
def kX (N : Nat) (D : List Ht) : Prop := ∀ h ∈ D, ∀ l, eM h.val = some l → l.length ≤ N
theorem Ad : ∀ {x k : List UInt8}, ¬ k < x → k < x ++ [0] → k = x
 | [], [], _, _ => rfl
 | [], b :: k, _, h => by
  simp only [List.nil_append, List.cons_lt_cons_iff] at h;rcases h with h | ⟨_, h⟩
  ·exact absurd h (by simp [UInt8.lt_iff_toNat_lt])
  ·exact absurd h (by simp)
 | a :: x, [], h, _ => absurd (by simp) h
 | a :: x, b :: k, h, g => by
  simp only [List.cons_append, List.cons_lt_cons_iff] at h g;rcases g with g | ⟨rfl, g⟩
  ·exact absurd (.inl g) h
  ·rw [Ad (fun q => h (.inr ⟨rfl, q⟩)) g]
theorem zY {x k : BA} (h : jo k (x, x ++ ⟨#[0]⟩) = true) : k = x := by
 rw [qU] at h;simp only [Bool.and_eq_true, Bool.not_eq_true'] at h;unfold bK at h;simp only [decide_eq_false_iff_not, decide_eq_true_eq] at h;apply mY
 have : kL (x ++ ⟨#[0]⟩) = kL x ++ [0] := by unfold kL; simp
 rw [this] at h;exact Ad h.1 h.2
theorem JX {D : List Ht} (h : cz D) (x : BA) : (aI D (x, x ++ ⟨#[0]⟩)).length ≤ 1 := by
 have hs : cz (aI D (x, x ++ ⟨#[0]⟩)) := h.filter _
 cases hl : aI D (x, x ++ ⟨#[0]⟩) with
 | nil => simp
 | cons a l =>
  cases l with
  | nil => simp
  | cons b l =>
   rw [hl] at hs;have h1 := (List.pairwise_cons.1 hs).1 b (by simp)
   have ha : a ∈ aI D (x, x ++ ⟨#[0]⟩) := by rw [hl]; simp
   have hb : b ∈ aI D (x, x ++ ⟨#[0]⟩) := by rw [hl]; simp
   have e1 := zY (List.mem_filter.1 ha).2;have e2 := zY (List.mem_filter.1 hb).2;rw [e1, e2, eA] at h1; cases h1
theorem AJ {T : az} {k : aH} {D : List Ht} (h : cz D) : (gY T k D).length ≤ 1 := Nat.le_trans (AH T k D) (JX h _)
theorem qQ {α β : Type} {f : α → List β} : ∀ {l : List α}, (∀ x ∈ l, (f x).length ≤ 1) → (l.flatMap f).length ≤ l.length
 | [], _ => by simp
 | x :: l, h => by
  have h1 := qQ (l := l) fun y hy => h y (List.mem_cons_of_mem _ hy);have h2 := h x List.mem_cons_self;rw [List.flatMap_cons, List.length_append, List.length_cons]; omega
theorem tg {T : az} {D : List Ht} : (ff T D).2.length ≤ 64 := by
 unfold ff
 split
 ·simp
 ·have := rA T (aI D (bG T.id)); show (jg T (aI D (bG T.id))).length ≤ 64; omega
theorem mB {T : az} {b : cG} {D : List Ht} (h : cz D) : (aX T b D).2.length ≤ 64 := by
 unfold aX
 split
 ·exact tg
 ·split
  ·have := AJ (T := T) (k := b.is) h; show (gY T b.is D).length ≤ 64; omega
  ·split
   ·exact Nat.le_trans (List.length_filter_le _ _) tg
   ·split
    ·simp
    ·rename_i x hx hn
     refine Nat.le_trans (qQ fun k _ => AJ h) ?_;have : (ez (aI D (cP x.id b.is))).length ≤ (aI D (cP x.id b.is)).length := List.length_filterMap_le _ _;omega
theorem pL {T : az} {b : cG} {D : List Ht} : (cy T b D).length ≤ 65 := by
 unfold cy
 split
 ·simp
 ·split
  ·simp
  ·split
   ·simp
   ·rename_i x hx
    rw [List.length_cons]
    split
    ·simp
    ·have : (ez (aI D (cP x.id b.is))).length ≤ (aI D (cP x.id b.is)).length := List.length_filterMap_le _ _;rw [List.length_map]; omega
theorem zD (k : aH) (old new : List aL) (D : List Ht) : ∀ l : List dx, (iY k old new D l).2.length ≤ l.length
 | [] => by simp [iY]
 | x :: l => by
  have := zD k old new D l;unfold iY
  split
  ·split
   ·simp
   ·simp only [List.length_cons]; omega
  ·rw [List.length_cons]; omega
theorem zC (S : aK) (T : az) (k : aH) (old new : List aL) (D : List Ht) : ∀ l : List For, (iw S T k old new D l).2.length ≤ l.length
 | [] => by simp [iw]
 | x :: l => by
  have := zC S T k old new D l;unfold iw
  split
  ·split
   ·rw [List.length_cons]; omega
   ·split
    ·simp
    ·simp only [List.length_cons]; omega
  ·rw [List.length_cons]; omega
theorem tD (S : aK) (T : az) (k : aH) (old new : List aL) (D : List Ht) : (eU S T k old new D).2.length ≤ T.idxs.length + T.keys.length := by
 have h1 := zD k old new D T.idxs;have h2 := zC S T k old new D T.keys;unfold eU
 split
 ·omega
 ·rw [List.length_append]; omega
theorem cU (ts : Int) (l : List Ht) (a b : List Wr) : ai ts l (a ++ b) = ai ts (ai ts l a) b := List.foldl_append
theorem wT {T : az} {S : aK} {b : cG} {r : Rw} (hT : fR S T) (hr : eI r.cells) (h1 : 1 ≤ b.set) (h2 : b.set ≤ 9223372036854775807) (hto : dg b.to) : eI (ic T b r) ∧ (ic T b r).length ≤ r.cells.length + 9 := by
 have key : ∀ (l : List cm) (cs : List aL), (∀ c ∈ l, 1 ≤ c.id ∧ c.id ≤ 9223372036854775807 ∧ dg c.dflt) → eI cs → eI (mW l cs) ∧ (mW l cs).length ≤ cs.length + l.length := by
  intro l
  induction l with
  | nil => intro cs _ h; exact ⟨h, Nat.le_refl _⟩
  | cons c l ih =>
   intro cs hc h;have hc1 := hc c List.mem_cons_self;have hcl : ∀ x ∈ l, 1 ≤ x.id ∧ x.id ≤ 9223372036854775807 ∧ dg x.dflt := fun x hx => hc x (List.mem_cons_of_mem _ hx);unfold mW
   split
   ·have hl := js h.cJ c.id c.dflt;obtain ⟨i1, i2⟩ := ih _ hcl (h.set hc1.1 hc1.2.1 hc1.2.2);exact ⟨i1, by rw [List.length_cons]; omega⟩
   ·obtain ⟨i1, i2⟩ := ih _ hcl h;exact ⟨i1, by rw [List.length_cons]; omega⟩
 have hl := js hr.cJ b.set b.to;have hc8 := hT.c8;obtain ⟨i1, i2⟩ := key T.cols _ hT.cols (hr.set h1 h2 hto);exact ⟨i1, by unfold ic; omega⟩
section
variable {s0 s : PH} {w : Nat} {S : aK} {tt sh : aU} {B : List Ht} {rds : List cx} {ov : List Wr}
def LN (s0 s : PH) (w : Nat) (S : aK) (tt sh : aU) (B : List Ht) (rds : List cx) (ov : List Wr) (f : List Rw → List Ht → Int × List cx × List Wr) (m k : Nat) (L : List Rw) (D : List Ht) (i : Nat) (s' : PH) : Prop :=
 ∃ A Wl, A.length ≤ i * m ∧ Wl.length ≤ i * k ∧ EJ s0 s' w S tt sh B (bT rds A) (Wl.foldl cL ov) ∧ Kt s s' ∧
  (f L D).1 = (f (L.drop i) (ai 0 D Wl)).1 ∧ (f L D).2.1 = A ++ (f (L.drop i) (ai 0 D Wl)).2.1 ∧ (f L D).2.2 = Wl ++ (f (L.drop i) (ai 0 D Wl)).2.2
theorem EP {ps : List aD} {N : Nat} (hB : jI s0 sh B) (h : EJ s0 s w S tt sh B rds ov) (hS : dO s0 tt S ps) {p : aD} (hp : gz s0 p) (hT : fR S p.T) {b : cG} {t : aU} (hN : kX N (ai 0 B ov)) (hNl : N ≤ 14000) (hb1 : 1 ≤ b.set) (hb2 : b.set ≤ 9223372036854775807) (hto : dg b.to)
  (hrl : rds.length + 100000 ≤ 4000000) (hol : ov.length + 60000 ≤ 800000) :
  ah 59 #[cp w, ep p.T p.c p.x p.k, nU b t] s (kZ s0 s w S tt sh B rds ov (rJ S p.T b (ai 0 B ov))) := by
 refine DS w p.T.id p.T.name p.c.1 p.c.2.1 p.c.2.2 p.x.1 p.x.2.1 p.x.2.2 p.k.1 p.k.2.1 p.k.2.2 b.kind b.table t.1 t.2.1 t.2.2 b.set b.to.kind b.to.n b.to.s b.whr b.is.kind b.is.n b.is.s _ s ?_;unfold vO
 obtain ⟨R, hR⟩ : ∃ R : Value → PH → Prop, kZ s0 s w S tt sh B rds ov (rJ S p.T b (ai 0 B ov)) = R := ⟨_, rfl⟩
 rw [hR]
 obtain ⟨D, hD⟩ : ∃ D, ai 0 B ov = D := ⟨_, rfl⟩
 have hDs : cz D := by rw [← hD]; exact fq _ hB.cJ
 have hds := iy hB h.cJ h.sm
 have hputs : ∀ Wl : List Wr, ai 0 B (Wl.foldl cL ov) = ai 0 D Wl := fun Wl => by rw [← hD]; exact (jM hB.cJ Wl h.cJ).symm
 rw [hD] at hR hN hds;have hcl : p.c.2.1 = p.T.cols.length := hp.c.len;have hc8 := hT.c8;have hx8 := hT.x8;have hk8 := hT.k8;simp only [aQ, aR, aP, aT, bL, aY, aF];have hA65 := pL (T := p.T) (b := b) (D := D);have hm := tu hB h (by omega) hp hT.ne b t;rw [hD] at hm;refine W.aq hm ?_;rintro _ s1 ⟨a, n, c, qs, rfl, hq, hE1, t1⟩;refine ⟨(((a, n, c), ()), ((aX p.T b D).1, ()), ()), rfl, ?_⟩;dsimp only
 obtain ⟨L, hL⟩ : ∃ L, (aX p.T b D).2 = L := ⟨_, rfl⟩
 have hLlen : L.length ≤ 64 := by rw [← hL]; exact mB hDs
 have hLm : ∀ r ∈ L, eI r.cells ∧ r.cells.length ≤ N := fun r hr => by
  rw [← hL] at hr;obtain ⟨x, hx, e⟩ := uU hr;have hg := (o8 e).1;exact ⟨(wo (hds.2 x hx) hg).p, hN x hx _ hg⟩
 have hupd : rJ S p.T b D = (if (aX p.T b D).1 ≠ 0 then ⟨(aX p.T b D).1, kN, cy p.T b D, []⟩
  else if (eu S p.T b L D).1 ≠ 0 then ⟨(eu S p.T b L D).1, kN, cy p.T b D ++ (eu S p.T b L D).2.1, (eu S p.T b L D).2.2⟩
  else ⟨0, ⟨L.length, []⟩, cy p.T b D ++ (eu S p.T b L D).2.1, (eu S p.T b L D).2.2⟩) := by unfold rJ; rw [hL]
 rw [hL] at hq;have hnl := hq.len;refine aC (fun e => ?_) fun e => ?_
 ·have e : (aX p.T b D).1 ≠ 0 := by simpa using e
  rw [if_pos e] at hupd;rw [← hR, hupd];exact ⟨_, rfl, oh.none 0 hE1.md, hE1, t1⟩
 have e : ¬ (aX p.T b D).1 ≠ 0 := by simpa using e
 rw [if_neg e] at hupd;have hA1 := eR (cy p.T b D) rds;have hqlen : qs.length = n := hq.gw.row.len.symm
 refine ⟨fun z s' => ∃ (i : Nat), z = ((p.T.id, p.T.name, p.c, p.x, p.k, ()), vU b t, ((0 : Int), ((none, 0, 0) : aU), ()), ((a, n, c), ()), ((a, n, c), ()), ((n : Int), ()), ((i : Int), ()), ()) ∧ i ≤ n ∧ LN s0 s w S tt sh B (bT rds (cy p.T b D)) ov (eu S p.T b) 16 17 L D i s' ∧ fG s0 s' a n c L qs,
  fun z _ => n - z.2.2.2.2.2.2.1.1.toNat, ⟨0, rfl, Nat.zero_le _, ⟨[], [], by simp, by simp, hE1, t1, rfl, rfl, rfl⟩, hq⟩, ?_⟩
 rintro _ s2 ⟨i, rfl, hi, ⟨A, Wl, hA, hW, hE2, t2, u1, u2, u3⟩, hq2⟩;dsimp only;have hA2 := eR A (bT rds (cy p.T b D));have hW2 := lY Wl ov;refine aC (fun e => ?_) fun e => ?_;rotate_left
 ·have e : ¬ (i : Int) < (n : Int) := of_decide_eq_false e;rw [List.drop_of_length_le (by omega)] at u1 u2 u3;have u1 : (eu S p.T b L D).1 = 0 := u1
  have u2 : (eu S p.T b L D).2.1 = A := by rw [u2]; exact List.append_nil _
  have u3 : (eu S p.T b L D).2.2 = Wl := by rw [u3]; exact List.append_nil _
  rw [u1, if_neg (by decide), u2, u3] at hupd;rw [← hR, hupd];refine ⟨_, rfl, ?_, by rw [cT]; exact hE2, t2⟩;have := oh.none (L.length : Int) hE2.md;rw [← hnl] at this ⊢;exact this
 have hlt : (i : Int) < (n : Int) := of_decide_eq_true e
 obtain ⟨q, hqi⟩ : ∃ q, qs[i]? = some q := ⟨_, List.getElem?_eq_getElem (by omega)⟩
 have hqm := List.mem_of_getElem? hqi
 have hLi : L[i]? = some q.r := by rw [← hq.eq, List.getElem?_map, hqi]; (first | done | rfl)
 obtain ⟨hcP, hcN⟩ := hLm q.r (List.mem_of_getElem? hLi);obtain ⟨g, rfl, hh⟩ := hq2.gw.row.at hqi;refine bg ⟨Int.natCast_nonneg i, hlt⟩ ?_;simp only [cR, Int.toNat_natCast, aV, Nat.zero_add];have hh : s2.has ⟨g, i * 4, none⟩ (mu.f q) := hh;refine aE hh (y := xK q.r q.u) rfl ?_;rw [bW hLi] at u1 u2 u3;have hqc := (hq2.cs q hqm).1;dsimp only;refine W.aq (uH (Sl.bN (t := q.u) hqc (by omega)) hcP.cJ hcP.ids (by have := hqc.len; show q.u.2.1 ≤ 4000000; omega) hb1 hb2 b.to) ?_;rintro _ s3 ⟨a3, n3, c3, rfl, hG3⟩;refine ⟨(((a3, n3, c3), ()), ()), rfl, ?_⟩
 obtain ⟨NW, hNW⟩ : ∃ NW, ic p.T b q.r = NW := ⟨_, rfl⟩
 obtain ⟨hNW1, hNW2⟩ := wT (r := q.r) hT hcP hb1 hb2 hto;rw [hNW] at hNW1 hNW2;have hcP3 := hcP.set hb1 hb2 hto;have hl3 := js hcP.cJ b.set b.to
 refine ⟨fun z s' => ∃ (j : Nat) (a4 : OA) (n4 c4 : Nat) (cs : List aL), z = ((p.T.id, p.T.name, p.c, p.x, p.k, ()), vU b t, ((0 : Int), ((none, 0, 0) : aU), ()), ((some ⟨g, 0, none⟩, n, c), ()), xK q.r q.u, ((a4, n4, c4), ()), ((some ⟨g, 0, none⟩, n, c), ()), ((n : Int), ()), ((i : Int), ()), (p.c, ()), ((p.c.2.1 : Int), ()), ((j : Int), ()), ()) ∧ j ≤ p.c.2.1 ∧ Gw bu 94 s2 s' a4 n4 c4 cs ∧ eI cs ∧ cs.length ≤ N + 1 + j ∧ mW (p.T.cols.drop j) cs = NW,
  fun z _ => p.c.2.1 - z.2.2.2.2.2.2.2.2.2.2.2.1.1.toNat, ⟨0, a3, n3, c3, _, rfl, Nat.zero_le _, hG3, hcP3, by omega, hNW⟩, ?_⟩
 rintro _ s4 ⟨j, a4, n4, c4, cs, rfl, hj, hG4, hcs, hcsl, hfil⟩;dsimp only;have hn4 := hG4.row.len;have hE4 := hE2.same hG4.md;refine aC (fun e => ?_) fun e => ?_
 ·have hlj : (j : Int) < (p.c.2.1 : Int) := of_decide_eq_true e
  obtain ⟨x, hx⟩ : ∃ x, p.T.cols[j]? = some x := ⟨_, List.getElem?_eq_getElem (by omega)⟩
  have hxc := hT.cols x (List.mem_of_getElem? hx);obtain ⟨ad, had, hhx⟩ := (hp.c.mono hE4.md.le).el.aG hx;refine bg ⟨Int.natCast_nonneg j, hlj⟩ ?_;refine bS had ?_;simp only [Int.toNat_natCast];have hhx : s4.has (ad.add (j * 7)) (dw.f x) := hhx;refine aE hhx (y := zG x) rfl ?_;rw [bW hx] at hfil;unfold mW at hfil;rw [aj (k := j) (by omega)];dsimp only;refine aC (fun e2 => ?_) fun e2 => ?_
  ·have e2 : x.state = 2 := eq_of_beq e2;refine aN ((eN cs x.id, ()), ()) (KD (Sl.bN (t := (a4, n4, c4)) hG4.row (by omega)) x.id) rfl ?_;dsimp only;refine aC (fun e3 => ?_) fun e3 => ?_
   ·have e3 : eN cs x.id = false := by simpa using e3
    rw [if_pos ⟨e2, e3⟩] at hfil;refine W.aq (uH (Sl.bN (t := (a4, n4, c4)) hG4.row (by omega)) hcs.cJ hcs.ids (by omega) hxc.1 hxc.2.1 x.dflt) ?_;rintro _ s5 ⟨a5, n5, c5, rfl, hG5⟩;refine ⟨(((a5, n5, c5), ()), ()), rfl, ?_⟩;have hl := js hcs.cJ x.id x.dflt;exact ⟨⟨j + 1, a5, n5, c5, eo cs x.id x.dflt, rfl, by omega, hG5.since hG4.md, hcs.set hxc.1 hxc.2.1 hxc.2.2, by omega, hfil⟩, by simp only [Int.toNat_natCast]; omega⟩
   ·have e3 : eN cs x.id = true := by simpa using e3
    rw [if_neg (fun g => by rw [e3] at g; cases g.2)] at hfil;exact ⟨⟨j + 1, a4, n4, c4, cs, rfl, by omega, hG4, hcs, by omega, hfil⟩, by simp only [Int.toNat_natCast]; omega⟩
  ·have e2 : ¬ x.state = 2 := by simpa using e2
   rw [if_neg (fun g => e2 g.1)] at hfil;exact ⟨⟨j + 1, a4, n4, c4, cs, rfl, by omega, hG4, hcs, by omega, hfil⟩, by simp only [Int.toNat_natCast]; omega⟩
 ·have e : ¬ (j : Int) < (p.c.2.1 : Int) := of_decide_eq_false e;rw [List.drop_of_length_le (by omega)] at hfil;have hfil : cs = NW := hfil;subst hfil;have hqc4 := hqc.mod hG4.md (by simp);have hqcl := hqc.len;have t4 : Kt s s4 := t2.trans (Kt.of hG4.md);refine W.aq (zy (old := q.r.cells) (new := cs) hB hE4 hS hp (by omega) hT.par q.r.key hqc4 (by omega) hG4.row (by omega)) ?_;rintro _ s5 ⟨rfl, hE5, hk5⟩;rw [hputs Wl] at hE5;have hcpl := tD S p.T q.r.key q.r.cells cs (ai 0 D Wl);refine ⟨(((eU S p.T q.r.key q.r.cells cs (ai 0 D Wl)).1, ()), ()), by rw [hputs Wl]; (first | done | rfl), ?_⟩;have t5 := t4.trans hk5;dsimp only;rw [eu] at u1 u2 u3;rw [hNW] at u1 u2 u3;refine aC (fun e => ?_) fun e => ?_
  ·have e : (eU S p.T q.r.key q.r.cells cs (ai 0 D Wl)).1 ≠ 0 := by simpa using e
   rw [if_pos e] at u1 u2 u3;dsimp only at u1 u2 u3;rw [u1, if_pos e, u2, u3, List.append_nil] at hupd;rw [← hR, hupd];exact ⟨_, rfl, oh.none 0 hE5.md, by rw [cT, cT]; exact hE5, t5⟩
  ·have e : ¬ (eU S p.T q.r.key q.r.cells cs (ai 0 D Wl)).1 ≠ 0 := by simpa using e
   rw [if_neg e] at u1 u2 u3;dsimp only at u1 u2 u3;have hcl2 := lp p.T q.r.cells cs;have hold5 := hk5.row hqc4 (by decide) (by decide);have hnew5 := hk5.row hG4.row (by decide) (by decide);refine W.aq (tv hE5 hp (by omega) (Sl.bN (t := q.u) hold5 (by omega)) (Sl.bN (t := (a4, n4, c4)) hnew5 (by omega)) (o5 hcs (by omega)) (by omega)) ?_;rintro _ s6 ⟨rfl, hE6, hk6⟩;refine ⟨(), rfl, ?_⟩;have t6 := t5.trans hk6;rw [aj (k := i) (by omega)];refine ⟨⟨i + 1, rfl, by omega, ⟨A ++ (eU S p.T q.r.key q.r.cells cs (ai 0 D Wl)).2, Wl ++ cM p.T q.r.cells cs, ?_, ?_, ?_, t6, ?_, ?_, ?_⟩, hk6.rws (hk5.rws (hq2.same hG4.md) hE5.md) hE6.md⟩, by simp only [Int.toNat_natCast]; omega⟩
   ·rw [List.length_append]; omega
   ·rw [List.length_append]; omega
   ·rw [cT, List.foldl_append]; exact hE6
   ·rw [cU, u1]
   ·rw [cU, u2, List.append_assoc]
   ·rw [cU, u3, List.append_assoc]
end
end
section
attribute [-simp] Fw.W.bD Fw.W.bB
abbrev D1 (r : Rw) (u : aU) : Obj := .cells #[.int .i64 r.key.kind, .int .i64 r.key.n, .string r.key.s, .slice u.1 u.2.1 u.2.2] 234 (0, 0)
abbrev nu (q : aD) : Obj := .cells #[.int .i64 q.T.id, .string q.T.name, .slice q.c.1 q.c.2.1 q.c.2.2, .slice q.x.1 q.x.2.1 q.x.2.2, .slice q.k.1 q.k.2.1 q.k.2.2] 139 (0, 0)
theorem GX {s : PH} {p q r2 u : Nat} {x : For} {r c : Rw} {ru cu : aU} {U T : aD} (hp : s p = some (wm x)) (hq : s q = some (D1 r ru)) (hr : s r2 = some (nu U)) (hu : s u = some (nu T)) (hc : Sl bu s cu c.cells) :
  ah 198 #[Lf c cu, cp p, cp q, cp r2, cp u] s fun y s' => y = .bool (lV T.T U.T r x c) ∧ s' = s := by
 obtain ⟨ca, cn, cc⟩ := cu;refine FJ c.key.kind c.key.n c.key.s ca cn cc p q r2 u _ s ?_;unfold yt lV;simp only [bL, bM, aR, aF, aV, Nat.zero_add];refine (W.aA hp _ _ _ _).2 ⟨(x.column, ()), rfl, ?_⟩;refine W.bF (bC (au c.cells x.column), ()) (lH hc x.column) rfl ?_;refine (W.aA hq _ _ _ _).2 ⟨bC r.key, rfl, ?_⟩;dsimp only;have h1 := kj (au c.cells x.column) r.key;have h2 := kj c.key r.key;refine aC (fun e => ?_) fun e => ?_
 ·have e : decide (au c.cells x.column = r.key) = true := by rw [← h1]; exact e
  rw [e, Bool.true_and];refine (W.aA hr _ _ _ _).2 ⟨(U.T.id, ()), rfl, ?_⟩;refine (W.aA hu _ _ _ _).2 ⟨(T.T.id, ()), rfl, ?_⟩;refine aC (fun e2 => ?_) fun e2 => ?_
  ·have e2 : U.T.id ≠ T.T.id := by simpa using e2
   exact ⟨by rw [decide_eq_true e2]; (first | done | rfl), rfl⟩
  ·have e2 : ¬ U.T.id ≠ T.T.id := by simpa using e2
   refine (W.aA hq _ _ _ _).2 ⟨bC r.key, rfl, ?_⟩;refine ⟨?_, rfl⟩;rw [decide_eq_false e2, Bool.false_or, decide_not, ← h2]
 ·have e : decide (au c.cells x.column = r.key) = false := by rw [← h1]; exact e
  exact ⟨by rw [e]; (first | done | rfl), rfl⟩
theorem Bq {s : PH} {a : OA} {n c p q r2 u : Nat} {x : For} {r : Rw} {ru : aU} {U T : aD} {qs : List iK} (h : Sl mu s (a, n, c) qs) (hcs : ∀ z ∈ qs, Sl bu s z.u z.r.cells) (hp : s p = some (wm x)) (hq : s q = some (D1 r ru)) (hr : s r2 = some (nu U)) (hu : s u = some (nu T)) :
  ah 197 #[.slice a n c, .func (.func 198) #[] #[cp p, cp q, cp r2, cp u]] s fun y s' => y = .bool ((qs.map (·.r)).any (lV T.T U.T r x)) ∧ s' = s := by
 have hidx : ah 238 #[.slice a n c, .func (.func 198) #[] #[cp p, cp q, cp r2, cp u]] s fun y s' => y = .int .i64 (aM (fun z : iK => lV T.T U.T r x z.r) qs 0) ∧ s' = s := by
  refine wF a n c p q r2 u _ s ?_;unfold oN;exact jZ (fun z : iK => xK z.r z.u) h (fun _ => rfl) (fun z hz => GX hp hq hr hu (hcs z hz)) ⟨rfl, rfl⟩
 refine An a n c p q r2 u _ s ?_;unfold rL;simp only [aY, aF];refine aN ((aM (fun z : iK => lV T.T U.T r x z.r) qs 0, ()), ()) hidx rfl ?_;refine ⟨?_, rfl⟩
 show Value.bool (decide (aM (fun z : iK => lV T.T U.T r x z.r) qs 0 ≥ 0)) = _
 rw [ue, List.any_map]; (first | done | rfl)
def Mi (s0 s : PH) (w : Nat) (S : aK) (tt sh : aU) (B : List Ht) (rds : List cx) (ov : List Wr) (T : az) (r : Rw) (D : List Ht) (i : Nat) (s' : PH) : Prop := ∃ A, A.length ≤ i * 8 ∧ EJ s0 s' w S tt sh B (bT rds A) ov ∧ Kt s s' ∧ (fU T r D S.tabs).1 = (fU T r D (S.tabs.drop i)).1 ∧ (fU T r D S.tabs).2 = A ++ (fU T r D (S.tabs.drop i)).2
def LI (s0 s : PH) (w : Nat) (S : aK) (tt sh : aU) (B : List Ht) (rds : List cx) (ov : List Wr) (T U : az) (r : Rw) (D : List Ht) (l : List For) (i : Nat) (s' : PH) : Prop := ∃ A, A.length ≤ i ∧ EJ s0 s' w S tt sh B (bT rds A) ov ∧ Kt s s' ∧ (iZ T U r D l).1 = (iZ T U r D (l.drop i)).1 ∧ (iZ T U r D l).2 = A ++ (iZ T U r D (l.drop i)).2
section
variable {s0 s : PH} {w : Nat} {S : aK} {tt sh : aU} {B : List Ht} {rds : List cx} {ov : List Wr}
theorem Jk {ps : List aD} (hB : jI s0 sh B) (h : EJ s0 s w S tt sh B rds ov) (hS : dO s0 tt S ps) (hAll : ∀ T ∈ S.tabs, fR S T) (hT6 : S.tabs.length ≤ 6) (p : aD) {r : Rw} {u : aU} (hrl : rds.length + 1000 ≤ 4000000) :
  ah 126 #[cp w, ep p.T p.c p.x p.k, Lf r u] s fun y s' => y = .int .i64 (fU p.T r (ai 0 B ov) S.tabs).1 ∧ EJ s0 s' w S tt sh B (bT rds (fU p.T r (ai 0 B ov) S.tabs).2) ov ∧ Kt s s' := by
 refine HQ w p.T.id p.T.name p.c.1 p.c.2.1 p.c.2.2 p.x.1 p.x.2.1 p.x.2.2 p.k.1 p.k.2.1 p.k.2.2 r.key.kind r.key.n r.key.s u.1 u.2.1 u.2.2 _ s ?_;unfold Bk
 obtain ⟨D, hD⟩ : ∃ D, ai 0 B ov = D := ⟨_, rfl⟩
 obtain ⟨R, hR⟩ : ∃ R : Value → PH → Prop, (fun y s' => y = .int .i64 (fU p.T r (ai 0 B ov) S.tabs).1 ∧ EJ s0 s' w S tt sh B (bT rds (fU p.T r (ai 0 B ov) S.tabs).2) ov ∧ Kt s s') = R := ⟨_, rfl⟩
 rw [hR];rw [hD] at hR;have hds := iy hB h.cJ h.sm;have hall := fun {s : PH} {rds : List cx} {p : aD} (hp : gz s0 p) (hc : p.T.cols ≠ []) (h : EJ s0 s w S tt sh B rds ov) (hrl : rds.length ≤ 4000000) => EE (p := p) hB h hrl hp hc;rw [hD] at hds;simp only [hD] at hall;simp only [bY, bL, ir, aR, aY, aF, aP, aT, aQ, cE, cR, aV, Nat.zero_add];refine W.bI fun r0 s1 hr0 m1 k0 => ?_;refine W.bI fun r1 s2 hr1 m2 k1 => ?_;have m02 : Fw.Mod [] s s2 := m1.trans m2;have h2 := h.same m02;have kk0 : s2 r0 = some (nu p) := m2.at k0 (by simp);have kk1 : s2 r1 = some (D1 r u) := k1;have hbl : s2 w = s2 w := rfl;obtain ⟨rr, mb, mo, qs0, bs, f, hx2⟩ := h2.ei;refine (W.aA hx2.aW _ _ _ _).2 ⟨(tt, ()), rfl, ?_⟩
 have hpl : S.tabs.length = ps.length := by rw [hS.eq, List.length_map]
 have htl : tt.2.1 = ps.length := hS.el.len
 refine ⟨fun z s' => ∃ i : Nat, z = ((⟨r0, 0, none⟩, ()), (⟨r1, 0, none⟩, ()), (tt, ()), ((tt.2.1 : Int), ()), ((i : Int), ()), ()) ∧ i ≤ tt.2.1 ∧ Mi s0 s2 w S tt sh B rds ov p.T r D i s',
  fun z _ => tt.2.1 - z.2.2.2.2.1.1.toNat, ⟨0, rfl, Nat.zero_le _, [], Nat.zero_le _, h2, Kt.refl _, by rw [List.drop_zero], by rw [List.drop_zero]; (first | done | rfl)⟩, ?_⟩
 rintro _ s3 ⟨i, rfl, hi, A, hA, hE3, t3, c1, c2⟩;dsimp only;refine aC (fun e => ?_) fun e => ?_;rotate_left
 ·have e : ¬ (i : Int) < (tt.2.1 : Int) := of_decide_eq_false e;rw [List.drop_of_length_le (by omega)] at c1 c2;have c1 : (fU p.T r D S.tabs).1 = 0 := c1
  have c2 : (fU p.T r D S.tabs).2 = A := by rw [c2]; exact List.append_nil _
  rw [← hR, c1, c2];exact ⟨rfl, hE3, (Kt.of m02).trans t3⟩
 have hlt : (i : Int) < (tt.2.1 : Int) := of_decide_eq_true e
 obtain ⟨q, hq⟩ : ∃ q, ps[i]? = some q := ⟨_, List.getElem?_eq_getElem (by omega)⟩
 have hqm := List.mem_of_getElem? hq
 have hti : S.tabs[i]? = some q.T := by rw [hS.eq, List.getElem?_map, hq]; (first | done | rfl)
 have hqT := hAll q.T (List.mem_of_getElem? hti);have hqI := hS.all q hqm;have hk8 := hqT.k8;obtain ⟨at_, hat, hht⟩ := (hS.mono hE3.md.le).el.el.aG hq;refine bg ⟨Int.natCast_nonneg i, hlt⟩ ?_;refine bS hat ?_;simp only [Int.toNat_natCast];have hht : s3.has (at_.add (i * 5)) (ja.f q) := hht;refine aE hht (y := me q) rfl ?_;refine W.bI fun r2 s4 hr2 m4 k4 => ?_;refine kS (c' := #[.int .i64 q.T.id, .string q.T.name, .slice q.c.1 q.c.2.1 q.c.2.2, .slice q.x.1 q.x.2.1 q.x.2.2, .slice q.k.1 q.k.2.1 q.k.2.2]) k4 (by show 0 + 5 ≤ 5; omega) (by simp [Value.oneCell']) rfl ?_;intro s5 hs5
 have k5 : s5 r2 = some (nu q) := by rw [hs5, PH.bE]
 have m5 : Fw.Mod [] s3 s5 := by rw [hs5]; exact m4.cj (.inr hr2)
 have hE5 := hE3.same m5;have t5 : Kt s2 s5 := t3.trans (Kt.of m5);refine (W.aA k5 _ _ _ _).2 ⟨(q.k, ()), rfl, ?_⟩;rw [bW hti, fU] at c1 c2;have hkl : q.k.2.1 = q.T.keys.length := hqI.k.len;have hAl := eR A rds;dsimp only
 refine ⟨fun z s' => ∃ j : Nat, z = ((⟨r0, 0, none⟩, ()), (⟨r1, 0, none⟩, ()), (⟨r2, 0, none⟩, ()), (tt, ()), ((tt.2.1 : Int), ()), ((i : Int), ()), (q.k, ()), ((q.k.2.1 : Int), ()), ((j : Int), ()), ()) ∧ j ≤ q.k.2.1 ∧ LI s0 s5 w S tt sh B (bT rds A) ov p.T q.T r D q.T.keys j s',
  fun z _ => q.k.2.1 - z.2.2.2.2.2.2.2.2.1.1.toNat, ⟨0, rfl, Nat.zero_le _, [], Nat.le_refl _, hE5, Kt.refl _, by rw [List.drop_zero], by rw [List.drop_zero]; (first | done | rfl)⟩, ?_⟩
 rintro _ s6 ⟨j, rfl, hj, A2, hA2, hE6, t6, d1, d2⟩;have hAl2 := eR A2 (bT rds A);dsimp only;refine aC (fun e => ?_) fun e => ?_;rotate_left
 ·have e : ¬ (j : Int) < (q.k.2.1 : Int) := of_decide_eq_false e;rw [List.drop_of_length_le (by omega)] at d1 d2;have d1 : (iZ p.T q.T r D q.T.keys).1 = 0 := d1
  have d2 : (iZ p.T q.T r D q.T.keys).2 = A2 := by rw [d2]; exact List.append_nil _
  rw [if_neg (by rw [d1]; decide)] at c1 c2;dsimp only at c1 c2;rw [aj (k := i) (by omega)];refine ⟨⟨i + 1, rfl, by omega, A ++ A2, by rw [List.length_append]; omega, by rw [cT]; exact hE6, t5.trans t6, c1, by rw [c2, d2, List.append_assoc]⟩, by simp only [Int.toNat_natCast]; omega⟩
 have hlj : (j : Int) < (q.k.2.1 : Int) := of_decide_eq_true e
 obtain ⟨x, hx⟩ : ∃ x, q.T.keys[j]? = some x := ⟨_, List.getElem?_eq_getElem (by omega)⟩
 obtain ⟨ad, had, hh⟩ := (hqI.k.mono hE6.md.le).el.aG hx;refine bg ⟨Int.natCast_nonneg j, hlj⟩ ?_;refine bS had ?_;simp only [Int.toNat_natCast];have hh : s6.has (ad.add (j * 5)) (l9.f x) := hh;refine aE hh (y := KQ x) rfl ?_;refine W.bI fun r3 s7 hr3 m7 k7 => ?_;refine kS (c' := #[.int .i64 x.id, .string x.name, .int .i64 x.column, .int .i64 x.parent, .int .i64 x.state]) k7 (by show 0 + 5 ≤ 5; omega) (by simp [Value.oneCell']) rfl ?_;intro s8 hs8
 have k8 : s8 r3 = some (wm x) := by rw [hs8, PH.bE]
 have m8 : Fw.Mod [] s6 s8 := by rw [hs8]; exact m7.cj (.inr hr3)
 have hE8 := hE6.same m8;have t8 : Kt s5 s8 := t6.trans (Kt.of m8);have k80 : s8 r0 = some (nu p) := t8 r0 _ _ (t5 r0 _ _ kk0 (by decide) (by decide)) (by decide) (by decide);have k81 : s8 r1 = some (D1 r u) := t8 r1 _ _ (t5 r1 _ _ kk1 (by decide) (by decide)) (by decide) (by decide);have k82 : s8 r2 = some (nu q) := t8 r2 _ _ k5 (by decide) (by decide);rw [bW hx, iZ] at d1 d2;rw [aj (k := j) (by omega)]
 cases hcond : (x.parent == p.T.id && cl x.state) with
 | false =>
  have hno : ¬ (x.parent = p.T.id ∧ cl x.state = true) := fun g => by rw [g.1, g.2] at hcond; simp at hcond
  rw [if_neg hno] at d1 d2
  have hskip : LI s0 s5 w S tt sh B (bT rds A) ov p.T q.T r D q.T.keys (j + 1) s8 := ⟨A2, by omega, hE8, t8, d1, d2⟩
  refine W.bp (fun z s' => False) (fun _ _ hf => hf.elim) ?_;intro J hJ;refine (W.aA k8 _ _ _ _).2 ⟨(x.parent, ()), rfl, ?_⟩;refine (W.aA k80 _ _ _ _).2 ⟨(p.T.id, ()), rfl, ?_⟩;dsimp only;refine (W.af _ _ _ _).2 ⟨fun e1 => ⟨⟨j + 1, rfl, by omega, hskip⟩, by simp only [Int.toNat_natCast]; omega⟩, fun e1 => ?_⟩
  have e1 : x.parent = p.T.id := by simpa using e1
  refine (W.aA k8 _ _ _ _).2 ⟨(x.state, ()), rfl, ?_⟩;refine aN ((cl x.state, ()), ()) (j6 x.state s8) rfl ?_;refine (W.af _ _ _ _).2 ⟨fun e3 => ⟨⟨j + 1, rfl, by omega, hskip⟩, by simp only [Int.toNat_natCast]; omega⟩, fun e3 => ?_⟩
  have e3 : cl x.state = true := by simpa using e3
  exact absurd ⟨e1, e3⟩ hno
 | true =>
  simp only [Bool.and_eq_true, beq_iff_eq] at hcond;rw [if_pos hcond] at d1 d2;refine W.bp (fun z s' => z = ((⟨r0, 0, none⟩, ()), (⟨r1, 0, none⟩, ()), (⟨r2, 0, none⟩, ()), (⟨r3, 0, none⟩, ()), (tt, ()), ((tt.2.1 : Int), ()), ((i : Int), ()), (q.k, ()), ((q.k.2.1 : Int), ()), ((j : Int), ()), ()) ∧ s8 = s') ?_ ?_;rotate_left
  ·intro J hJ;refine (W.aA k8 _ _ _ _).2 ⟨(x.parent, ()), rfl, ?_⟩;refine (W.aA k80 _ _ _ _).2 ⟨(p.T.id, ()), rfl, ?_⟩;dsimp only;refine (W.af _ _ _ _).2 ⟨fun e1 => absurd hcond.1 (by simpa using e1), fun e1 => ?_⟩;refine (W.aA k8 _ _ _ _).2 ⟨(x.state, ()), rfl, ?_⟩;refine aN ((cl x.state, ()), ()) (j6 x.state s8) rfl ?_;refine (W.af _ _ _ _).2 ⟨fun e3 => (by dsimp only at e3; rw [hcond.2] at e3; cases e3), fun _ => hJ _ _ ⟨rfl, rfl⟩⟩
  rintro _ s8 ⟨rfl, rfl⟩;dsimp only;refine (W.aA k82 _ _ _ _).2 ⟨me q, rfl, ?_⟩;refine W.aq (hall hqI hqT.ne hE8 (by omega)) ?_;rintro _ s9 ⟨a9, n9, c9, qs9, rfl, hq9, _, hE9, hk9⟩;refine ⟨(((a9, n9, c9), ()), ((ff q.T D).1, ()), ()), rfl, ?_⟩
  have hE9 : EJ s0 s9 w S tt sh B (bT (bT rds A) (A2 ++ [bG q.T.id])) ov := by rw [cT (bT rds A)]; exact hE9
  have t9 := t8.trans hk9
  have fin : ∀ e : Int, e ≠ 0 → (iZ p.T q.T r D q.T.keys).1 = e → (iZ p.T q.T r D q.T.keys).2 = A2 ++ [bG q.T.id] → R (.int .i64 e) s9 := fun e he g1 g2 => by
   rw [if_pos (by rw [g1]; exact he)] at c1 c2;rw [← hR, c1, c2, g1, g2];exact ⟨rfl, by rw [cT]; exact hE9, ((Kt.of m02).trans t5).trans t9⟩
  dsimp only;refine aC (fun e => ?_) fun e => ?_
  ·have e : (ff q.T D).1 ≠ 0 := by simpa using e
   rw [if_pos e] at d1 d2;exact fin _ e d1 d2
  have e : ¬ (ff q.T D).1 ≠ 0 := by simpa using e
  rw [if_neg e] at d1 d2;have hqn := hq9.gw.row.len;have hcont := Bq (Sl.bN (t := (a9, n9, c9)) hq9.gw.row (by have := hq9.len; have := tg (T := q.T) (D := D); omega)) (hq9.cells fun r hr => (rR hds.2 r hr).cs.dF) (hk9 r3 _ _ k8 (by decide) (by decide)) (hk9 r1 _ _ k81 (by decide) (by decide)) (hk9 r2 _ _ k82 (by decide) (by decide)) (hk9 r0 _ _ k80 (by decide) (by decide));rw [hq9.eq] at hcont;refine aN (((ff q.T D).2.any (lV p.T q.T r x), ()), ()) hcont rfl ?_;dsimp only;refine aC (fun e2 => ?_) fun e2 => ?_
  ·rw [if_pos e2] at d1 d2;exact fin 212 (by decide) d1 d2
  ·rw [if_neg (by rw [e2]; decide)] at d1 d2;rw [aj (k := j) (by omega)];refine ⟨⟨j + 1, rfl, by omega, A2 ++ [bG q.T.id], by rw [List.length_append]; simp; omega, hE9, t9, d1, by rw [d2]; simp⟩, by simp only [Int.toNat_natCast]; omega⟩
theorem zQ (T U : az) (r : Rw) (D : List Ht) : ∀ l : List For, (iZ T U r D l).2.length ≤ l.length
 | [] => by simp [iZ]
 | x :: l => by
  have := zQ T U r D l;unfold iZ
  split
  ·split
   ·simp
   ·split
    ·simp
    ·simp only [List.length_cons]; omega
  ·rw [List.length_cons]; omega
theorem tI (T : az) (r : Rw) (D : List Ht) : ∀ {l : List az}, (∀ U ∈ l, U.keys.length ≤ 8) → (fU T r D l).2.length ≤ 8 * l.length
 | [], _ => by simp [fU]
 | U :: l, h => by
  have h1 := tI T r D (l := l) fun V hV => h V (List.mem_cons_of_mem _ hV);have h2 := zQ T U r D U.keys;have h3 := h U List.mem_cons_self;unfold fU
  split
  ·rw [List.length_cons]; omega
  ·rw [List.length_append, List.length_cons]; omega
theorem EM {ps : List aD} (hB : jI s0 sh B) (h : EJ s0 s w S tt sh B rds ov) (hS : dO s0 tt S ps) (hAll : ∀ T ∈ S.tabs, fR S T) (hT6 : S.tabs.length ≤ 6) {p : aD} (hp : gz s0 p) (hT : fR S p.T) {b : cG} {t : aU}
  (hrl : rds.length + 100000 ≤ 4000000) (hol : ov.length + 60000 ≤ 800000) :
  ah 60 #[cp w, ep p.T p.c p.x p.k, nU b t] s (kZ s0 s w S tt sh B rds ov (rm S p.T b (ai 0 B ov))) := by
 refine DP w p.T.id p.T.name p.c.1 p.c.2.1 p.c.2.2 p.x.1 p.x.2.1 p.x.2.2 p.k.1 p.k.2.1 p.k.2.2 b.kind b.table t.1 t.2.1 t.2.2 b.set b.to.kind b.to.n b.to.s b.whr b.is.kind b.is.n b.is.s _ s ?_;unfold vL
 obtain ⟨R, hR⟩ : ∃ R : Value → PH → Prop, kZ s0 s w S tt sh B rds ov (rm S p.T b (ai 0 B ov)) = R := ⟨_, rfl⟩
 rw [hR]
 obtain ⟨D, hD⟩ : ∃ D, ai 0 B ov = D := ⟨_, rfl⟩
 have hDs : cz D := by rw [← hD]; exact fq _ hB.cJ
 have hds := iy hB h.cJ h.sm
 have hputs : ∀ W : List Wr, ai 0 B (W.foldl cL ov) = ai 0 D W := fun W => by rw [← hD]; exact (jM hB.cJ W h.cJ).symm
 rw [hD] at hR hds;have hx8 := hT.x8;simp only [aQ, aR, aP, aT, bL, aY, aF];have hA65 := pL (T := p.T) (b := b) (D := D);have hm := tu hB h (by omega) hp hT.ne b t;rw [hD] at hm;refine W.aq hm ?_;rintro _ s1 ⟨a, n, c, qs, rfl, hq, hE1, t1⟩;refine ⟨(((a, n, c), ()), ((aX p.T b D).1, ()), ()), rfl, ?_⟩;dsimp only
 obtain ⟨L, hL⟩ : ∃ L, (aX p.T b D).2 = L := ⟨_, rfl⟩
 have hLlen : L.length ≤ 64 := by rw [← hL]; exact mB hDs
 have hLm : ∀ r ∈ L, vP r.cells := fun r hr => by
  rw [← hL] at hr;exact (xo hds.2 r hr).cs
 have hrem : rm S p.T b D = (if (aX p.T b D).1 ≠ 0 then ⟨(aX p.T b D).1, kN, cy p.T b D, []⟩
  else if (ef S p.T L D).1 ≠ 0 then ⟨(ef S p.T L D).1, kN, cy p.T b D ++ (ef S p.T L D).2.1, (ef S p.T L D).2.2⟩
  else ⟨0, ⟨L.length, []⟩, cy p.T b D ++ (ef S p.T L D).2.1, (ef S p.T L D).2.2⟩) := by unfold rm; rw [hL]
 rw [hL] at hq;have hnl := hq.len;refine aC (fun e => ?_) fun e => ?_
 ·have e : (aX p.T b D).1 ≠ 0 := by simpa using e
  rw [if_pos e] at hrem;rw [← hR, hrem];exact ⟨_, rfl, oh.none 0 hE1.md, hE1, t1⟩
 have e : ¬ (aX p.T b D).1 ≠ 0 := by simpa using e
 rw [if_neg e] at hrem;have hA1 := eR (cy p.T b D) rds;have hqlen : qs.length = n := hq.gw.row.len.symm
 refine ⟨fun z s' => ∃ (i : Nat), z = ((p.T.id, p.T.name, p.c, p.x, p.k, ()), ((0 : Int), ((none, 0, 0) : aU), ()), ((a, n, c), ()), ((a, n, c), ()), ((n : Int), ()), ((i : Int), ()), ()) ∧ i ≤ n ∧ LN s0 s w S tt sh B (bT rds (cy p.T b D)) ov (ef S p.T) 48 17 L D i s' ∧ fG s0 s' a n c L qs,
  fun z _ => n - z.2.2.2.2.2.1.1.toNat, ⟨0, rfl, Nat.zero_le _, ⟨[], [], by simp, by simp, hE1, t1, rfl, rfl, rfl⟩, hq⟩, ?_⟩
 rintro _ s2 ⟨i, rfl, hi, ⟨A, Wl, hA, hW, hE2, t2, u1, u2, u3⟩, hq2⟩;dsimp only;have hA2 := eR A (bT rds (cy p.T b D));have hW2 := lY Wl ov;refine aC (fun e => ?_) fun e => ?_;rotate_left
 ·have e : ¬ (i : Int) < (n : Int) := of_decide_eq_false e;rw [List.drop_of_length_le (by omega)] at u1 u2 u3;have u1 : (ef S p.T L D).1 = 0 := u1
  have u2 : (ef S p.T L D).2.1 = A := by rw [u2]; exact List.append_nil _
  have u3 : (ef S p.T L D).2.2 = Wl := by rw [u3]; exact List.append_nil _
  rw [u1, if_neg (by decide), u2, u3] at hrem;rw [← hR, hrem];refine ⟨_, rfl, ?_, by rw [cT]; exact hE2, t2⟩;have := oh.none (L.length : Int) hE2.md;rw [← hnl] at this ⊢;exact this
 have hlt : (i : Int) < (n : Int) := of_decide_eq_true e
 obtain ⟨q, hqi⟩ : ∃ q, qs[i]? = some q := ⟨_, List.getElem?_eq_getElem (by omega)⟩
 have hqm := List.mem_of_getElem? hqi
 have hLi : L[i]? = some q.r := by rw [← hq.eq, List.getElem?_map, hqi]; (first | done | rfl)
 have hcP := hLm q.r (List.mem_of_getElem? hLi);have hcf := hcP.dF;obtain ⟨g, rfl, hh⟩ := hq2.gw.row.at hqi;refine bg ⟨Int.natCast_nonneg i, hlt⟩ ?_;simp only [cR, Int.toNat_natCast, aV, Nat.zero_add];have hh : s2.has ⟨g, i * 4, none⟩ (mu.f q) := hh;refine aE hh (y := xK q.r q.u) rfl ?_;rw [bW hLi, ef] at u1 u2 u3;have hqc := (hq2.cs q hqm).1;dsimp only;have hfl := tI p.T q.r (ai 0 D Wl) (l := S.tabs) fun U hU => (hAll U hU).k8;refine W.aq (Jk (r := q.r) (u := q.u) hB hE2 hS hAll hT6 p (by omega)) ?_;rintro _ s3 ⟨rfl, hE3, hk3⟩;rw [hputs Wl] at hE3;refine ⟨(((fU p.T q.r (ai 0 D Wl) S.tabs).1, ()), ()), by rw [hputs Wl]; (first | done | rfl), ?_⟩;have t3 := t2.trans hk3;dsimp only;refine aC (fun e => ?_) fun e => ?_
 ·have e : (fU p.T q.r (ai 0 D Wl) S.tabs).1 ≠ 0 := by simpa using e
  rw [if_pos e] at u1 u2 u3;dsimp only at u1 u2 u3;rw [u1, if_pos e, u2, u3, List.append_nil] at hrem;rw [← hR, hrem];exact ⟨_, rfl, oh.none 0 hE3.md, by rw [cT, cT]; exact hE3, t3⟩
 ·have e : ¬ (fU p.T q.r (ai 0 D Wl) S.tabs).1 ≠ 0 := by simpa using e
  rw [if_neg e] at u1 u2 u3;dsimp only at u1 u2 u3;have hcl2 := lp p.T q.r.cells [];have hold5 := hk3.row hqc (by decide) (by decide);refine W.aq (tv (old := q.r.cells) (new := []) hE3 hp (by omega) (Sl.bN (t := q.u) hold5 (by omega)) Sl.nil (o5 eI.nil (by simp)) (by omega)) ?_;rintro _ s6 ⟨rfl, hE6, hk6⟩;refine ⟨(), rfl, ?_⟩;have t6 := t3.trans hk6;rw [aj (k := i) (by omega)];refine ⟨⟨i + 1, rfl, by omega, ⟨A ++ (fU p.T q.r (ai 0 D Wl) S.tabs).2, Wl ++ cM p.T q.r.cells [], ?_, ?_, ?_, t6, ?_, ?_, ?_⟩, hk6.rws (hk3.rws hq2 hE3.md) hE6.md⟩, by simp only [Int.toNat_natCast]; omega⟩
  ·rw [List.length_append]; omega
  ·rw [List.length_append]; omega
  ·rw [cT, List.foldl_append]; exact hE6
  ·rw [cU, u1]
  ·rw [cU, u2, List.append_assoc]
  ·rw [cU, u3, List.append_assoc]
end
end
section
attribute [-simp] Fw.W.bD Fw.W.bB
theorem fQ.same {s0 s s' : PH} {a : OA} {n c : Nat} {L : List (List aH)} {qs : List qv} (h : fQ s0 s a n c L qs) (hm : Fw.Mod [] s s') : fQ s0 s' a n c L qs :=
 ⟨h.gw.same hm, h.eq, fun q hq => ⟨(h.vs q hq).1.mod hm (by simp), (h.vs q hq).2⟩⟩
theorem fQ.since {s0 s s' : PH} {a : OA} {n c : Nat} {L : List (List aH)} {qs : List qv} (h : fQ s s' a n c L qs) (hm : Fw.Mod [] s0 s) : fQ s0 s' a n c L qs :=
 ⟨h.gw.since hm, h.eq, fun q hq => ⟨(h.vs q hq).1, fun g hg => hm.none ((h.vs q hq).2 g hg) (by simp)⟩⟩
theorem fQ.push {s0 s : PH} {a : OA} {n c : Nat} {L : List (List aH)} {qs : List qv} {l : List aH} {u : aU} {K : OA → Nat → Nat → W.T} (h : fQ s0 s a n c L qs) (hu : bq ew s 28 u.1 u.2.1 u.2.2 l) (hf : ∀ g ∈ Fw.aW u.1, s0 g = none) (hl : n + 1 ≤ 4294967296)
  (hK : ∀ a' c' s' qs', fQ s0 s' a' (n + 1) c' (L ++ [l]) qs' → K a' (n + 1) c' s') : W.nw (.cells #[.slice u.1 u.2.1 u.2.2] 125 (0, 0)) (fun r => W.app 125 1 24 [.slice none 0 0] a n c (Src.sl (some ⟨r, 0, none⟩) 1) K) s := by
 refine h.gw.nN [⟨l, u⟩] (k := 1) rfl rfl rfl hl (by omega) fun a' c' s' h1 m1 => hK a' c' s' (qs ++ [⟨l, u⟩]) ⟨h1, by rw [List.map_append, h.eq]; (first | done | rfl), fun q hq => ?_⟩;rcases List.mem_append.1 hq with hq | hq
 ·exact ⟨gZ (h.vs q hq).1 h.gw (by decide) m1, (h.vs q hq).2⟩
 ·simp only [List.mem_singleton] at hq;subst hq;exact ⟨gZ hu h.gw (by decide) m1, hf⟩
theorem HX {l : List cm} {k : Nat} {x : cm} (cs : List aL) (h : l[k]? = some x) : ((l.take (k + 1)).filter (fun c => c.state == 3)).map (fun c => au cs c.id) = ((l.take k).filter (fun c => c.state == 3)).map (fun c => au cs c.id) ++ (if x.state = 3 then [au cs x.id] else []) := by
 rw [pg h, List.map_append]
 congr 1
 by_cases hx : x.state = 3
 ·simp [hx]
 ·simp [hx]
section
variable {s0 s : PH} {w : Nat} {S : aK} {tt sh : aU} {B : List Ht} {rds : List cx} {ov : List Wr}
theorem EH (hB : jI s0 sh B) (h : EJ s0 s w S tt sh B rds ov) {p : aD} (hp : gz s0 p) (hT : fR S p.T) {b : cG} {t : aU} (hrl : rds.length + 100000 ≤ 4000000) :
  ah 61 #[cp w, ep p.T p.c p.x p.k, nU b t] s (kZ s0 s w S tt sh B rds ov (rD p.T b (ai 0 B ov))) := by
 refine DK w p.T.id p.T.name p.c.1 p.c.2.1 p.c.2.2 p.x.1 p.x.2.1 p.x.2.2 p.k.1 p.k.2.1 p.k.2.2 b.kind b.table t.1 t.2.1 t.2.2 b.set b.to.kind b.to.n b.to.s b.whr b.is.kind b.is.n b.is.s _ s ?_;unfold vG
 obtain ⟨R, hR⟩ : ∃ R : Value → PH → Prop, kZ s0 s w S tt sh B rds ov (rD p.T b (ai 0 B ov)) = R := ⟨_, rfl⟩
 rw [hR]
 obtain ⟨D, hD⟩ : ∃ D, ai 0 B ov = D := ⟨_, rfl⟩
 have hDs : cz D := by rw [← hD]; exact fq _ hB.cJ
 have hds := iy hB h.cJ h.sm;rw [hD] at hR hds;have hcl : p.c.2.1 = p.T.cols.length := hp.c.len;have hc8 := hT.c8;simp only [aQ, aR, aP, aT, bL, aY, aF, bY, cX];have hm := tu hB h (by omega) hp hT.ne b t;rw [hD] at hm;refine W.aq hm ?_;rintro _ s1 ⟨a, n, c, qs, rfl, hq, hE1, t1⟩;refine ⟨(((a, n, c), ()), ((aX p.T b D).1, ()), ()), rfl, ?_⟩;dsimp only
 obtain ⟨L, hL⟩ : ∃ L, (aX p.T b D).2 = L := ⟨_, rfl⟩
 have hLlen : L.length ≤ 64 := by rw [← hL]; exact mB hDs
 have hLm : ∀ r ∈ L, vP r.cells := fun r hr => by
  rw [← hL] at hr;exact (xo hds.2 r hr).cs
 have hsel : rD p.T b D = (if (aX p.T b D).1 ≠ 0 then ⟨(aX p.T b D).1, kN, cy p.T b D, []⟩ else ⟨0, ⟨0, L.map (kR p.T)⟩, cy p.T b D, []⟩) := by unfold rD; rw [hL]
 rw [hL] at hq;have hnl := hq.len;refine aC (fun e => ?_) fun e => ?_
 ·have e : (aX p.T b D).1 ≠ 0 := by simpa using e
  rw [if_pos e] at hsel;rw [← hR, hsel];exact ⟨_, rfl, oh.none 0 hE1.md, hE1, t1⟩
 have e : ¬ (aX p.T b D).1 ≠ 0 := by simpa using e
 rw [if_neg e] at hsel;have hqlen : qs.length = n := hq.gw.row.len.symm
 refine ⟨fun z s' => ∃ (i : Nat) (a2 : OA) (n2 c2 : Nat) (vs : List qv), z = ((p.T.id, p.T.name, p.c, p.x, p.k, ()), ((0 : Int), ((none, 0, 0) : aU), ()), ((0 : Int), ((a2, n2, c2) : aU), ()), ((a, n, c), ()), ((n : Int), ()), ((i : Int), ()), ()) ∧ i ≤ n ∧ n2 ≤ i ∧ fQ s1 s' a2 n2 c2 ((L.take i).map (kR p.T)) vs,
  fun z _ => n - z.2.2.2.2.2.1.1.toNat, ⟨0, none, 0, 0, [], rfl, Nat.zero_le _, Nat.le_refl _, fQ.nil (Mod.refl _ _)⟩, ?_⟩
 rintro _ s2 ⟨i, a2, n2, c2, vs, rfl, hi, hn2, hV⟩;dsimp only;have m12 : Fw.Mod [] s1 s2 := hV.gw.md;refine aC (fun e => ?_) fun e => ?_;rotate_left
 ·have e : ¬ (i : Int) < (n : Int) := of_decide_eq_false e;rw [List.take_of_length_le (by omega)] at hV;rw [← hR, hsel];exact ⟨_, rfl, ⟨a2, n2, c2, vs, rfl, hV.since hE1.md⟩, hE1.same m12, t1.trans (Kt.of m12)⟩
 have hlt : (i : Int) < (n : Int) := of_decide_eq_true e
 obtain ⟨q, hqi⟩ : ∃ q, qs[i]? = some q := ⟨_, List.getElem?_eq_getElem (by omega)⟩
 have hqm := List.mem_of_getElem? hqi
 have hLi : L[i]? = some q.r := by rw [← hq.eq, List.getElem?_map, hqi]; (first | done | rfl)
 have hcf := (hLm q.r (List.mem_of_getElem? hLi)).dF;have hq2 := hq.same m12;obtain ⟨g, rfl, hh⟩ := hq2.gw.row.at hqi;refine bg ⟨Int.natCast_nonneg i, hlt⟩ ?_;simp only [cR, Int.toNat_natCast, aV, Nat.zero_add];have hh : s2.has ⟨g, i * 4, none⟩ (mu.f q) := hh;refine aE hh (y := xK q.r q.u) rfl ?_;have hqc := (hq2.cs q hqm).1
 have htk : (L.take (i + 1)).map (kR p.T) = (L.take i).map (kR p.T) ++ [kR p.T q.r] := by rw [List.take_add_one, hLi, List.map_append]; (first | done | rfl)
 dsimp only
 refine ⟨fun z s' => ∃ (j : Nat) (a3 : OA) (n3 c3 : Nat), z = ((p.T.id, p.T.name, p.c, p.x, p.k, ()), ((0 : Int), ((none, 0, 0) : aU), ()), ((0 : Int), ((a2, n2, c2) : aU), ()), xK q.r q.u, ((a3, n3, c3), ()), ((some ⟨g, 0, none⟩, n, c), ()), ((n : Int), ()), ((i : Int), ()), (p.c, ()), ((p.c.2.1 : Int), ()), ((j : Int), ()), ()) ∧ j ≤ p.c.2.1 ∧ n3 ≤ j ∧ Gw ew 28 s2 s' a3 n3 c3 (((p.T.cols.take j).filter (fun c => c.state == 3)).map (fun c => au q.r.cells c.id)),
  fun z _ => p.c.2.1 - z.2.2.2.2.2.2.2.2.2.2.1.1.toNat, ⟨0, none, 0, 0, rfl, Nat.zero_le _, Nat.le_refl _, Gw.nil (Mod.refl _ _)⟩, ?_⟩
 rintro _ s3 ⟨j, a3, n3, c3, rfl, hj, hn3, hG3⟩;dsimp only;have m23 := hG3.md;refine aC (fun e => ?_) fun e => ?_
 ·have hlj : (j : Int) < (p.c.2.1 : Int) := of_decide_eq_true e
  obtain ⟨x, hx⟩ : ∃ x, p.T.cols[j]? = some x := ⟨_, List.getElem?_eq_getElem (by omega)⟩
  obtain ⟨ad, had, hhx⟩ := (hp.c.mono ((hE1.md.trans m12).trans m23).le).el.aG hx;refine bg ⟨Int.natCast_nonneg j, hlj⟩ ?_;refine bS had ?_;simp only [Int.toNat_natCast];have hhx : s3.has (ad.add (j * 7)) (dw.f x) := hhx;refine aE hhx (y := zG x) rfl ?_;have hps := HX q.r.cells hx;rw [aj (k := j) (by omega)];dsimp only;refine aC (fun e2 => ?_) fun e2 => ?_
  ·have e2 : x.state = 3 := eq_of_beq e2;rw [if_pos e2] at hps;refine aN (bC (au q.r.cells x.id), ()) (lH (Sl.bN (t := q.u) (hqc.mod m23 (by simp)) (by omega)) x.id) rfl ?_;refine hG3.push [au q.r.cells x.id] (k := 1) rfl rfl rfl (by omega) (by omega) fun a4 c4 s4 h4 => ?_;exact ⟨⟨j + 1, a4, n3 + 1, c4, rfl, by omega, by omega, by rw [hps]; exact h4⟩, by simp only [Int.toNat_natCast]; omega⟩
  ·have e2 : ¬ x.state = 3 := by simpa using e2
   rw [if_neg e2, List.append_nil] at hps;exact ⟨⟨j + 1, a3, n3, c3, rfl, by omega, by omega, by rw [hps]; exact hG3⟩, by simp only [Int.toNat_natCast]; omega⟩
 ·have e : ¬ (j : Int) < (p.c.2.1 : Int) := of_decide_eq_false e;rw [List.take_of_length_le (by omega)] at hG3;have hG3 : Gw ew 28 s2 s3 a3 n3 c3 (kR p.T q.r) := hG3;refine (hV.same m23).push (u := (a3, n3, c3)) hG3.row (fun g hg => m12.none (hG3.fr g hg) (by simp)) (by omega) fun a4 c4 s4 vs4 h4 => ?_;rw [aj (k := i) (by omega)];exact ⟨⟨i + 1, a4, n2 + 1, c4, vs4, rfl, by omega, by omega, by rw [htk]; exact h4⟩, by simp only [Int.toNat_natCast]; omega⟩
end
end
section
attribute [-simp] Fw.W.bD Fw.W.bB
theorem vW (v : aH) (c : cm) (s : PH) : ah 133 #[dV v, zH c] s fun y s' => y = .bool (fits v c.kind) ∧ s' = s := by
 refine HP v.kind v.n v.s c.id c.name c.kind c.state c.dflt.kind c.dflt.n c.dflt.s _ s ?_;unfold Bj;simp only [aY, aR, aF];refine aN ((kF v, ()), ()) (oZ v s) rfl ?_;dsimp only
 have hev : (kF v == 0) = bA v := by unfold kF; cases bA v <;> rfl
 rw [hev];unfold fits;refine aC (fun e => ?_) fun e => ?_
 ·rw [e, Bool.true_and];refine aC (fun e2 => ?_) fun e2 => ?_
  ·have e2 : v.kind = 0 := eq_of_beq e2;exact ⟨by rw [decide_eq_true e2]; (first | done | rfl), rfl⟩
  ·have e2 : ¬ v.kind = 0 := by simpa using e2
   exact ⟨by rw [decide_eq_false e2, Bool.false_or]; (first | done | rfl), rfl⟩
 ·rw [e]; exact ⟨rfl, rfl⟩
abbrev Mf (v : aH) : Obj := .cells #[.int .i64 v.kind, .int .i64 v.n, .string v.s] 28 (0, 0)
def DY (T : az) (id : Int) (v : aH) (key : Bool) (c : cm) : Bool := c.id == id && c.state == 3 && (key || decide (id ≠ bz T)) && fits v c.kind
theorem C7 {s : PH} {p q r2 u : Nat} {id : Int} {v : aH} {key : Bool} {t : aD} (hp : s p = some (.cells #[.int .i64 id] 3 (0, 0))) (hq : s q = some (.cells #[.bool key] 4 (0, 0))) (hr : s r2 = some (nu t)) (hu : s u = some (Mf v)) (ht : Sl dw s t.c t.T.cols) (hc : t.T.cols ≠ []) (c : cm) :
  ah 132 #[zH c, cp p, cp q, cp r2, cp u] s fun y s' => y = .bool (DY t.T id v key c) ∧ s' = s := by
 refine BM c.id c.name c.kind c.state c.dflt.kind c.dflt.n c.dflt.s p q r2 u _ s ?_;unfold sX DY
 obtain ⟨c0, hc0⟩ : ∃ c0, t.T.cols[0]? = some c0 := by
  cases hT : t.T.cols with
  | nil => exact absurd hT hc
  | cons x r => exact ⟨x, rfl⟩
 have hcol0 : bz t.T = c0.id := by unfold bz; rw [hc0]; (first | done | rfl)
 have hcl : t.c.2.1 = t.T.cols.length := ht.len
 have hcpos : 0 < t.c.2.1 := by rw [hcl]; exact List.length_pos_iff.2 hc
 obtain ⟨ad, had, hh⟩ := ht.el.aG hc0
 have hh : s.has (ad.add 0) (dw.f c0) := by simpa using hh
 simp only [bL, aR, bM, aF, aP, aT, cR, aV, Nat.zero_add];refine (W.aA hp _ _ _ _).2 ⟨(id, ()), rfl, ?_⟩;dsimp only;refine (W.af _ _ _ _).2 ⟨fun e => ?_, fun e => ⟨by rw [e]; (first | done | rfl), rfl⟩⟩;rw [e, Bool.true_and];refine (W.af _ _ _ _).2 ⟨fun e => ?_, fun e => ⟨by rw [e]; (first | done | rfl), rfl⟩⟩;rw [e, Bool.true_and];refine (W.aA hq _ _ _ _).2 ⟨(key, ()), rfl, ?_⟩;dsimp only;refine aC (fun e => ?_) fun e => ?_
 ·refine (W.aA hu _ _ _ _).2 ⟨bC v, rfl, ?_⟩;refine W.bF ((fits v c.kind, ()), ()) (vW v c s) rfl ?_;exact ⟨by rw [e]; (first | done | rfl), rfl⟩
 ·refine (W.aA hp _ _ _ _).2 ⟨(id, ()), rfl, ?_⟩;refine (W.aA hr _ _ _ _).2 ⟨(t.c, ()), rfl, ?_⟩;dsimp only;refine bg ⟨Int.le_refl 0, Int.natCast_pos.2 hcpos⟩ ?_;refine bS had ?_;refine bl (j := 0) hh (y := (c0.id, ())) rfl ?_;rw [hcol0, e, Bool.false_or];refine aC (fun e2 => ?_) fun e2 => ?_
  ·have e2 : id ≠ c0.id := by simpa using e2
   refine (W.aA hu _ _ _ _).2 ⟨bC v, rfl, ?_⟩;refine W.bF ((fits v c.kind, ()), ()) (vW v c s) rfl ?_;exact ⟨by rw [decide_eq_true e2]; (first | done | rfl), rfl⟩
  ·have e2 : ¬ id ≠ c0.id := by simpa using e2
   exact ⟨by rw [decide_eq_false e2]; (first | done | rfl), rfl⟩
theorem EO {s : PH} {p : Nat} {t : aD} (hp : s p = some (nu t)) (ht : Sl dw s t.c t.T.cols) (hc : t.T.cols ≠ []) (id : Int) (v : aH) (key : Bool) :
  ah 130 #[.int .i64 id, dV v, .bool key, cp p] s fun y s' => y = .bool (gJ t.T id v key) ∧ s' = s := by
 refine bx.quiet (DR id v.kind v.n v.s key p _ s ?_);unfold vN;simp only [bY, bL, aY, aF, aV, Nat.zero_add];refine W.bI fun r0 s1 hr0 m1 k0 => ?_;refine W.bI fun r1 s2 hr1 m2 k1 => ?_;refine W.bI fun r2 s3 hr2 m3 k2 => ?_;have m23 := m2.trans m3;have m03 := m1.trans m23;have hp3 := m03.at hp (by simp);refine (W.aA hp3 _ _ _ _).2 ⟨(t.c, ()), rfl, ?_⟩;have ht3 := ht.mono m03.le;refine aN ((gJ t.T id v key, ()), ()) ?_ rfl ⟨rfl, m03⟩;refine yK t.c.1 t.c.2.1 t.c.2.2 r0 r2 p r1 _ s3 ?_;unfold qk;simp only [aY, aF];refine aN ((aM (DY t.T id v key) t.T.cols 0, ()), ()) ?_ rfl ?_
 ·refine wE t.c.1 t.c.2.1 t.c.2.2 r0 r2 p r1 _ s3 ?_;unfold oM;exact jZ zG ht3 (fun _ => rfl) (fun c _ => C7 (m23.at k0 (by simp)) k2 hp3 (m3.at k1 (by simp)) ht3 hc c) ⟨rfl, rfl⟩
 ·refine ⟨?_, rfl⟩
  show Value.bool (decide (aM (DY t.T id v key) t.T.cols 0 ≥ 0)) = _
  rw [ue]; (first | done | rfl)
theorem EN {s : PH} {p : Nat} {b : cG} {t : aU} (hp : s p = some (l7 b t)) (q : aD) : ah 129 #[ep q.T q.c q.x q.k, cp p] s fun y s' => y = .bool (q.T.id == b.table) ∧ s' = s := by
 refine DQ q.T.id q.T.name q.c.1 q.c.2.1 q.c.2.2 q.x.1 q.x.2.1 q.x.2.2 q.k.1 q.k.2.1 q.k.2.2 p _ s ?_;unfold vM;simp only [bL, aF, aV, Nat.zero_add];refine (W.aA hp _ _ _ _).2 ⟨(b.table, ()), rfl, ?_⟩;exact ⟨rfl, rfl⟩
theorem yE {s : PH} {a : OA} {n c p : Nat} {ps : List aD} {b : cG} {t : aU} (h : Sl ja s (a, n, c) ps) (hp : s p = some (l7 b t)) :
  ah 128 #[.slice a n c, .func (.func 129) #[] #[cp p]] s fun y s' => y = .int .i64 (aM (fun q : aD => q.T.id == b.table) ps 0) ∧ s' = s := by
 refine wH a n c p _ s ?_;unfold oP;exact jZ me h (fun _ => rfl) (fun q _ => EN hp q) ⟨rfl, rfl⟩
theorem Hf (c : cm) (l : List cm) (k : Nat) (vs : List aH) : fH (c :: l) k vs = if c.state ≠ 3 then fH l (k + 1) vs else match vs with | [] => false | v :: vs => fits v c.kind && !(decide (k = 0) && v.kind == 0) && fH l (k + 1) vs := by rw [fH.eq_def]; (first | done | rfl)
def Kq (S : aK) (ps : List aD) (b : cG) (s : PH) (y : Value) (s' : PH) : Prop :=
 Fw.Mod [] s s' ∧ ((fe S b = none ∧ ∃ d : Den [.int .i64, .str, .slice, .slice, .slice], y = .tuple #[.agg (vals [.int .i64, .str, .slice, .slice, .slice] d).toArray, .bool false]) ∨ ∃ q ∈ ps, fe S b = some q.T ∧ y = .tuple #[ep q.T q.c q.x q.k, .bool true])
theorem GY {s : PH} {w : Nat} {S : aK} {tt sh r : aU} {mb mo : Nat} {ps : List aD} (hw : s w = some (wW S tt sh r mb mo)) (hS : dO s tt S ps) (hc : ∀ T ∈ S.tabs, fR S T) {b : cG} {t : aU} (hv : Sl ew s t b.vals) :
  ah 62 #[cp w, nU b t] s (Kq S ps b s) := by
 refine FL w b.kind b.table t.1 t.2.1 t.2.2 b.set b.to.kind b.to.n b.to.s b.whr b.is.kind b.is.n b.is.s _ s ?_;unfold yw
 obtain ⟨R, hR⟩ : ∃ R, Kq S ps b s = R := ⟨_, rfl⟩
 rw [hR];simp only [bY, aT, bL, aY, cE, aR, aF, aP, ir, aQ, bM, mP, mQ, cR, aV, Nat.zero_add];refine W.bI fun r0 s1 hr0 m1 k0 => ?_;have k0 : s1 r0 = some (l7 b t) := k0;have hw1 := m1.at hw (by simp);have hS1 := hS.mono m1.le
 have no : ∀ {s' : PH}, Fw.Mod [] s s' → fe S b = none → ∀ d : Den [.int .i64, .str, .slice, .slice, .slice], R (.tuple #[.agg (vals [.int .i64, .str, .slice, .slice, .slice] d).toArray, .bool false]) s' := fun hm e d => by
  rw [← hR]; exact ⟨hm, .inl ⟨e, d, rfl⟩⟩
 refine (W.aA hw1 _ _ _ _).2 ⟨(tt, ()), rfl, ?_⟩;refine aN ((aM (fun q : aD => q.T.id == b.table) ps 0, ()), ()) (yE (c := tt.2.2) hS1.el k0) rfl ?_;have hpl := hS1.el.len
 have htab : iI S b.table = (ps.find? fun q : aD => q.T.id == b.table).map (·.T) := by unfold iI; rw [hS.eq, List.find?_map]; (first | done | rfl)
 rcases nG (fun q : aD => q.T.id == b.table) ps with ⟨f1, f2⟩ | ⟨j, q, f1, f2, f3⟩
 ·rw [f1];rw [f2] at htab;refine W.bp (fun z s' => False) (fun _ _ hf => hf.elim) ?_;intro J hJ;refine (W.af _ _ _ _).2 ⟨fun _ => ?_, fun e => absurd e (by decide)⟩;exact no m1 (by unfold fe; rw [htab]; (first | done | rfl)) (0, ⟨#[]⟩, (none, 0, 0), (none, 0, 0), (none, 0, 0), ())
 rw [f1];rw [f3] at htab;have htab : iI S b.table = some q.T := htab;have hqm := List.mem_of_getElem? f2;have hqT := hc q.T (by rw [hS.eq]; exact List.mem_map_of_mem hqm);have hjl := (List.getElem?_eq_some_iff.1 f2).1;have l0 : ∀ {s2 : PH} (K : Den [CT.int IntKind.i64] → W.T), s2 r0 = some (l7 b t) → K (b.kind, ()) s2 → W.ld [.int .i64] ⟨r0, 0, none⟩ K s2 := fun K hk hK => (W.aA hk _ _ _ _).2 ⟨(b.kind, ()), rfl, hK⟩
 have hrt : fe S b = (if b.kind < 1 ∨ 4 < b.kind then none
  else if b.kind = 1 then (if fH q.T.cols 0 b.vals = true then some q.T else none)
  else if b.kind = 2 ∧ gJ q.T b.set b.to false = false then none
  else if b.whr = 0 ∨ gJ q.T b.whr b.is true = true then some q.T else none) := by unfold fe; rw [htab]
 refine W.bp (fun z s' => z = ((⟨r0, 0, none⟩, ()), (0, ⟨#[]⟩, (none, 0, 0), (none, 0, 0), (none, 0, 0), ()), ((j : Int), ()), ()) ∧ s1 = s' ∧ ¬ (b.kind < 1 ∨ 4 < b.kind)) ?_ ?_;rotate_left
 ·intro J hJ;refine aC (fun e => ?_) fun _ => ?_
  ·have e : (j : Int) < 0 := of_decide_eq_true e;omega
  refine l0 _ k0 ?_;dsimp only;refine aC (fun e => ?_) fun e => ?_
  ·have e : b.kind < 1 := of_decide_eq_true e;exact no m1 (by rw [hrt, if_pos (.inl e)]) (0, ⟨#[]⟩, (none, 0, 0), (none, 0, 0), (none, 0, 0), ())
  have e1 : ¬ b.kind < 1 := of_decide_eq_false e;refine l0 _ k0 ?_;refine aC (fun e => ?_) fun e => ?_
  ·have e : b.kind > 4 := of_decide_eq_true e;exact no m1 (by rw [hrt, if_pos (.inr e)]) (0, ⟨#[]⟩, (none, 0, 0), (none, 0, 0), (none, 0, 0), ())
  have e2 : ¬ b.kind > 4 := of_decide_eq_false e;exact hJ _ _ ⟨rfl, rfl, by omega⟩
 rintro _ _ ⟨rfl, rfl, hkind⟩;rw [if_neg hkind] at hrt;dsimp only;refine (W.aA hw1 _ _ _ _).2 ⟨(tt, ()), rfl, ?_⟩;dsimp only;refine bg ⟨Int.natCast_nonneg j, by show (j : Int) < ((tt.2.1 : Nat) : Int); rw [hpl]; exact Int.ofNat_lt.2 hjl⟩ ?_;obtain ⟨at_, hat, hht⟩ := hS1.el.el.aG f2;refine bS hat ?_;simp only [Int.toNat_natCast];have hht : s1.has (at_.add (j * 5)) (ja.f q) := hht;refine aE hht (y := me q) rfl ?_;refine W.bI fun r1 s2 hr1 m2 k1 => ?_;refine kS (c' := #[.int .i64 q.T.id, .string q.T.name, .slice q.c.1 q.c.2.1 q.c.2.2, .slice q.x.1 q.x.2.1 q.x.2.2, .slice q.k.1 q.k.2.1 q.k.2.2]) k1 (by show 0 + 5 ≤ 5; omega) (by simp [Value.oneCell']) rfl ?_;intro s3 hs3
 have k3 : s3 r1 = some (nu q) := by rw [hs3, PH.bE]
 have m13 : Fw.Mod [] s1 s3 := by rw [hs3]; exact m2.cj (.inr hr1)
 have k30 := m13.at k0 (by simp);have m03 : Fw.Mod [] s s3 := m1.trans m13;have hqI := (hS.all q hqm).mono m03.le;have hv3 := hv.mono m03.le;have lt : ∀ (K : Den [CT.int IntKind.i64, CT.str, CT.slice, CT.slice, CT.slice] → W.T), K (me q) s3 → W.ld [.int .i64, .str, .slice, .slice, .slice] ⟨r1, 0, none⟩ K s3 := fun K hK => (W.aA k3 _ _ _ _).2 ⟨me q, rfl, hK⟩
 have yes : fe S b = some q.T → R (.tuple #[ep q.T q.c q.x q.k, .bool true]) s3 := fun e => by rw [← hR]; exact ⟨m03, .inr ⟨q, hqm, e, rfl⟩⟩
 have noq : fe S b = none → R (.tuple #[ep q.T q.c q.x q.k, .bool false]) s3 := fun e => no m03 e (me q);have hcl : q.c.2.1 = q.T.cols.length := hqI.c.len;have hpub := fun (id : Int) (v : aH) (key : Bool) => EO k3 hqI.c hqT.ne id v key;refine W.bp (fun z s' => z = ((⟨r0, 0, none⟩, ()), (0, ⟨#[]⟩, (none, 0, 0), (none, 0, 0), (none, 0, 0), ()), (⟨r1, 0, none⟩, ()), ((Value.func (.func 130) #[] #[cp r1]), ()), ()) ∧ s3 = s' ∧ fe S b = (if b.whr = 0 ∨ gJ q.T b.whr b.is true = true then some q.T else none)) ?_ ?_
 ·rintro _ s3 ⟨rfl, rfl, hr2⟩;dsimp only;refine lt _ ?_;simp only [aV, Nat.zero_add];refine (W.aA k30 _ _ _ _).2 ⟨(b.whr, ()), rfl, ?_⟩;dsimp only;refine aC (fun e => ?_) fun e => ?_
  ·have e : b.whr = 0 := eq_of_beq e;rw [W.still_at k3];refine ⟨rfl, yes (by rw [hr2, if_pos (.inl e)])⟩
  have e : ¬ b.whr = 0 := by simpa using e
  refine (W.aA k30 _ _ _ _).2 ⟨(b.whr, ()), rfl, ?_⟩;refine (W.aA k30 _ _ _ _).2 ⟨bC b.is, rfl, ?_⟩;refine dh Tryz.func130 (by kernel_rfl) (by kernel_rfl) (hpub b.whr b.is true) ?_;rintro _ _ ⟨rfl, rfl⟩;refine ⟨((gJ q.T b.whr b.is true, ()), ()), rfl, ?_⟩;rw [W.still_at k3];refine ⟨rfl, ?_⟩
  cases hpo : gJ q.T b.whr b.is true with
  | true => exact yes (by rw [hr2, if_pos (.inr hpo)])
  | false => exact noq (by rw [hr2, if_neg (by rintro (g | g); exact e g; rw [hpo] at g; cases g)])
 intro J hJ;simp only [aV, Nat.zero_add];refine l0 _ k30 ?_;dsimp only;refine aC (fun e => ?_) fun e => ?_;rotate_left
 ·have e : ¬ b.kind = 1 := by simpa using e
  rw [if_neg e] at hrt;refine l0 _ k30 ?_;dsimp only;refine aC (fun e2 => ?_) fun e2 => ?_
  ·have e2 : b.kind = 2 := eq_of_beq e2;refine (W.aA k30 _ _ _ _).2 ⟨(b.set, ()), rfl, ?_⟩;refine (W.aA k30 _ _ _ _).2 ⟨bC b.to, rfl, ?_⟩;refine aN ((gJ q.T b.set b.to false, ()), ()) (hpub b.set b.to false) rfl ?_;dsimp only;refine aC (fun e3 => ?_) fun e3 => ?_
   ·have e3 : gJ q.T b.set b.to false = false := by simpa using e3
    rw [if_pos ⟨e2, e3⟩] at hrt;exact lt _ (noq hrt)
   ·have e3 : gJ q.T b.set b.to false = true := by simpa using e3
    rw [if_neg (fun g => by rw [e3] at g; cases g.2)] at hrt;exact hJ _ _ ⟨rfl, rfl, hrt⟩
  ·have e2 : ¬ b.kind = 2 := by simpa using e2
   rw [if_neg (fun g => e2 g.1)] at hrt;exact hJ _ _ ⟨rfl, rfl, hrt⟩
 have e : b.kind = 1 := eq_of_beq e;rw [if_pos e] at hrt;refine (W.aA k30 _ _ _ _).2 ⟨(t, ()), rfl, ?_⟩;refine (W.aA k3 _ _ _ _).2 ⟨(q.c, ()), rfl, ?_⟩;dsimp only
 refine ⟨fun z s' => ∃ (i : Nat) (vt : aU) (vs : List aH), z = ((0, ⟨#[]⟩, (none, 0, 0), (none, 0, 0), (none, 0, 0), ()), (⟨r1, 0, none⟩, ()), (vt, ()), (q.c, ()), ((q.c.2.1 : Int), ()), ((i : Int), ()), ()) ∧ i ≤ q.c.2.1 ∧ s3 = s' ∧ Sl ew s3 vt vs ∧ fH q.T.cols 0 b.vals = fH (q.T.cols.drop i) i vs,
  fun z _ => q.c.2.1 - z.2.2.2.2.2.1.1.toNat, ⟨0, t, b.vals, rfl, Nat.zero_le _, rfl, hv3, by rw [List.drop_zero]⟩, ?_⟩
 rintro _ s3 ⟨i, ⟨va, vn, vc⟩, vs, rfl, hi, rfl, hVs, hio⟩;dsimp only;have hvl : vn = vs.length := hVs.len;have hvle : vn ≤ vc := hVs.le;refine aC (fun e3 => ?_) fun e3 => ?_;rotate_left
 ·have e3 : ¬ (i : Int) < (q.c.2.1 : Int) := of_decide_eq_false e3;rw [List.drop_of_length_le (by omega)] at hio;have hio : fH q.T.cols 0 b.vals = vs.isEmpty := hio;refine lt _ ?_;dsimp only
  cases hvs : vs with
  | nil =>
   rw [hvs] at hio hvl
   have : ((vn : Int) == 0) = true := by rw [hvl]; (first | done | rfl)
   rw [this];exact yes (by rw [hrt, if_pos (by rw [hio]; (first | done | rfl))])
  | cons v r =>
   rw [hvs] at hio hvl
   have : ((vn : Int) == 0) = false := by rw [beq_eq_false_iff_ne]; rw [List.length_cons] at hvl; omega
   rw [this];exact noq (by rw [hrt, if_neg (by rw [hio]; simp)])
 have hlt : (i : Int) < (q.c.2.1 : Int) := of_decide_eq_true e3
 obtain ⟨x, hx⟩ : ∃ x, q.T.cols[i]? = some x := ⟨_, List.getElem?_eq_getElem (by omega)⟩
 obtain ⟨ad, had, hh⟩ := hqI.c.el.aG hx;have hc8 := hqT.c8;refine bg ⟨Int.natCast_nonneg i, hlt⟩ ?_;refine bS had ?_;simp only [Int.toNat_natCast];have hh : s3.has (ad.add (i * 7)) (dw.f x) := hh;refine aE hh (y := zG x) rfl ?_;rw [bW hx, Hf] at hio;rw [aj (k := i) (by omega)];dsimp only;refine aC (fun e4 => ?_) fun e4 => ?_
 ·have e4 : x.state ≠ 3 := by simpa using e4
  rw [if_pos e4] at hio;exact ⟨⟨i + 1, (va, vn, vc), vs, rfl, by omega, rfl, hVs, hio⟩, by simp only [Int.toNat_natCast]; omega⟩
 have e4 : ¬ x.state ≠ 3 := by simpa using e4
 rw [if_neg e4] at hio;refine aC (fun e5 => ?_) fun e5 => ?_
 ·have e5 : (vn : Int) = 0 := eq_of_beq e5;have : vs = [] := List.eq_nil_of_length_eq_zero (by omega);rw [this] at hio;exact lt _ (noq (by rw [hrt, if_neg (by rw [hio]; simp)]))
 have e5 : ¬ (vn : Int) = 0 := by simpa using e5
 cases hvs : vs with
 | nil => rw [hvs] at hvl; simp at hvl; omega
 | cons v r =>
 rw [hvs] at hio hvl hVs;rw [List.length_cons] at hvl;dsimp only at hio;refine bg ⟨Int.le_refl 0, by omega⟩ ?_;obtain ⟨av, hav, hhv⟩ := hVs.el.aG (i := 0) rfl;refine bS hav ?_
 have hhv : s3.has (av.add 0) (ew.f v) := by simpa using hhv
 refine bl (j := 0) (A := av) (by simpa using hhv) (y := bC v) rfl ?_;refine W.bF ((fits v x.kind, ()), ()) (vW v x s3) rfl ?_;dsimp only
 have hgd : (0 : Int) ≤ 1 ∧ (1 : Int) ≤ (vn : Int) ∧ (vn : Int) ≤ (vc : Int) := ⟨by omega, by omega, by omega⟩
 refine aC (fun e6 => ?_) fun e6 => ?_
 ·have e6 : fits v x.kind = false := by simpa using e6
  rw [e6] at hio;exact lt _ (noq (by rw [hrt, if_neg (by rw [hio]; simp)]))
 have e6 : fits v x.kind = true := by simpa using e6
 rw [e6, Bool.true_and] at hio;refine aC (fun e7 => ?_) fun e7 => ?_
 ·have e7 : (i : Int) = 0 := eq_of_beq e7
  have e7 : i = 0 := by omega
  refine bg ⟨Int.le_refl 0, by omega⟩ ?_;refine bS hav ?_;refine bl (j := 0) hhv (y := (v.kind, ())) rfl ?_;dsimp only;refine aC (fun e8 => ?_) fun e8 => ?_
  ·rw [e8, decide_eq_true e7] at hio;exact lt _ (noq (by rw [hrt, if_neg (by rw [hio]; simp)]))
  ·rw [e8, Bool.and_false, Bool.not_false, Bool.true_and] at hio;refine bg hgd ?_;exact ⟨⟨i + 1, (if vc = 1 then va else va.map (·.add 3), vn - 1, vc - 1), r, by simp only [Int.toNat_natCast], by omega, rfl, hVs.tail, hio⟩, by simp only [Int.toNat_natCast]; omega⟩
 ·have e7 : ¬ (i : Int) = 0 := by simpa using e7
  have e7 : ¬ i = 0 := by omega
  rw [decide_eq_false e7, Bool.false_and, Bool.not_false, Bool.true_and] at hio;refine bg hgd ?_;exact ⟨⟨i + 1, (if vc = 1 then va else va.map (·.add 3), vn - 1, vc - 1), r, by simp only [Int.toNat_natCast], by omega, rfl, hVs.tail, hio⟩, by simp only [Int.toNat_natCast]; omega⟩
end
section
def uv (M : Nat) (x : Wr) : Prop := ∀ l, eM x.val = some l → l.length ≤ M
theorem Ca {new l : List aL} (h : eI new) (e : eM (cK new).1 = some l) : l = new := by
 have h1 : (cK new).1 = kB (new.flatMap di) := by unfold cK; rw [if_pos h.1]
 rw [h1, tK h.2 h.1] at e;exact (Option.some.inj e).symm
theorem pq {l : List aL} (e : eM ⟨#[]⟩ = some l) : l = [] := by
 have h1 : (⟨#[]⟩ : BA) = kB (([] : List aL).flatMap di) := rfl;rw [h1, tK (by simp) rfl] at e;exact (Option.some.inj e).symm
theorem qC {T : az} {old new : List aL} {M : Nat} (h : eI new) (hl : new.length ≤ M) : ∀ x ∈ cM T old new, uv M x := fun x hx l e => by
 rcases Af hx with ⟨_, e2, _⟩ | ⟨e2, _⟩
 ·rw [e2] at e; rw [Ca h e]; exact hl
 ·rw [e2] at e; rw [pq e]; simp
theorem Ff {ts : Int} {l : List Ht} {x : Wr} {a : Ht} (h : a ∈ eV ts l x) : a = ⟨x.key, ts, x.val⟩ ∨ a ∈ l := by
 unfold eV at h;rw [List.mem_append, List.mem_append] at h;rcases h with (h | h) | h
 ·exact .inr (List.takeWhile_subset _ h)
 ·unfold gW at h
  split at h
  ·simp at h
  ·simp at h; exact .inl h
 ·exact .inr ((List.dropWhile_sublist (fun h : Ht => bK h.key x.key) (l := l)).subset (List.mem_filter.1 h).1)
theorem kX.apply {N : Nat} : ∀ {ws : List Wr} {D : List Ht}, kX N D → (∀ x ∈ ws, uv N x) → kX N (ai 0 D ws)
 | [], D, h, _ => h
 | x :: ws, D, h, hw => by
  show kX N (ai 0 (eV 0 D x) ws)
  refine kX.apply (fun a ha l e => ?_) fun y hy => hw y (List.mem_cons_of_mem _ hy);rcases Ff ha with rfl | ha
  ·exact hw x List.mem_cons_self l e
  ·exact h a ha l e
theorem kX.mono {N M : Nat} {D : List Ht} (h : kX N D) (hm : N ≤ M) : kX M D := fun a ha l e => Nat.le_trans (h a ha l e) hm
theorem xP {S : aK} {T : az} {b : cG} {N : Nat} (hT : fR S T) (h1 : 1 ≤ b.set) (h2 : b.set ≤ 9223372036854775807) (hto : dg b.to) : ∀ (L : List Rw) (D : List Ht), (∀ r ∈ L, eI r.cells ∧ r.cells.length ≤ N) →
  (eu S T b L D).2.1.length ≤ 16 * L.length ∧ (eu S T b L D).2.2.length ≤ 17 * L.length ∧ ∀ x ∈ (eu S T b L D).2.2, uv (N + 9) x
 | [], D, _ => by simp [eu]
 | r :: L, D, h => by
  obtain ⟨hr1, hr2⟩ := h r List.mem_cons_self;obtain ⟨hn1, hn2⟩ := wT (r := r) hT hr1 h1 h2 hto;have ih := xP hT h1 h2 hto L (ai 0 D (cM T r.cells (ic T b r))) fun x hx => h x (List.mem_cons_of_mem _ hx);obtain ⟨i1, i2, i3⟩ := ih;have hc := tD S T r.key r.cells (ic T b r) D;have hg := lp T r.cells (ic T b r);have hx8 := hT.x8;have hk8 := hT.k8;unfold eu
  split
  ·refine ⟨by rw [List.length_cons]; dsimp only; omega, by simp, by simp⟩
  ·refine ⟨by rw [List.length_cons]; simp only [List.length_append]; omega, by rw [List.length_cons]; simp only [List.length_append]; omega, fun x hx => ?_⟩;rcases List.mem_append.1 hx with hx | hx
   ·exact qC hn1 (by omega) x hx
   ·exact i3 x hx
theorem xG {S : aK} {T : az} {N : Nat} (hT : fR S T) (hAll : ∀ U ∈ S.tabs, fR S U) (h6 : S.tabs.length ≤ 6) : ∀ (L : List Rw) (D : List Ht),
  (ef S T L D).2.1.length ≤ 48 * L.length ∧ (ef S T L D).2.2.length ≤ 17 * L.length ∧ ∀ x ∈ (ef S T L D).2.2, uv N x
 | [], D => by simp [ef]
 | r :: L, D => by
  have ih := xG (N := N) hT hAll h6 L (ai 0 D (cM T r.cells []));obtain ⟨i1, i2, i3⟩ := ih;have hc := tI T r D (l := S.tabs) fun U hU => (hAll U hU).k8;have hg := lp T r.cells [];have hx8 := hT.x8;unfold ef
  split
  ·refine ⟨by rw [List.length_cons]; dsimp only; omega, by simp, by simp⟩
  ·refine ⟨by rw [List.length_cons]; simp only [List.length_append]; omega, by rw [List.length_cons]; simp only [List.length_append]; omega, fun x hx => ?_⟩;rcases List.mem_append.1 hx with hx | hx
   ·exact qC eI.nil (by simp) x hx
   ·exact i3 x hx
structure wX (b : cG) : Prop where
 to : gf b.to.n
 is : gf b.is.n
 vals : ∀ v ∈ b.vals, gf v.n
theorem Gb {S : aK} {i : Int} {T : az} (h : iI S i = some T) : T ∈ S.tabs ∧ T.id = i := by
 unfold iI at h;exact ⟨List.mem_of_find?_eq_some h, by have := List.find?_some h; simpa using this⟩
theorem nM {S : aK} {T : az} (hT : fR S T) {id : Int} {v : aH} {key : Bool} (h : gJ T id v key = true) (hv : gf v.n) : 1 ≤ id ∧ id ≤ 9223372036854775807 ∧ dg v := by
 unfold gJ at h;obtain ⟨c, hc, h⟩ := List.any_eq_true.1 h;simp only [Bool.and_eq_true, beq_iff_eq] at h;obtain ⟨h1, h2, _⟩ := hT.cols c hc;rw [h.1.1.1] at h1 h2;exact ⟨h1, h2, wh h.2, hv⟩
structure LU (S : aK) (b : cG) (T : az) : Prop where
 mem : T ∈ S.tabs
 lo : 1 ≤ b.kind
 hi : b.kind ≤ 4
 ins : b.kind = 1 → fH T.cols 0 b.vals = true
 aS : b.kind = 2 → gJ T b.set b.to false = true
theorem lN {S : aK} {b : cG} {T : az} (h : fe S b = some T) : LU S b T := by
 unfold fe at h
 cases ht : iI S b.table with
 | none => rw [ht] at h; cases h
 | some U =>
  rw [ht] at h;dsimp only at h;have hm := (Gb ht).1
  split at h
  ·cases h
  ·rename_i hk
   split at h
   ·rename_i h1
    split at h
    ·rename_i h2; cases h; exact ⟨hm, by omega, by omega, fun _ => h2, fun e => by omega⟩
    ·cases h
   ·rename_i h1
    split at h
    ·cases h
    ·rename_i h2
     split at h
     ·cases h;refine ⟨hm, by omega, by omega, fun e => absurd e h1, fun e => ?_⟩
      cases hp : gJ T b.set b.to false with
      | true => rfl
      | false => exact absurd ⟨e, hp⟩ h2
     ·cases h
theorem KW {S : aK} {T : az} {vs : List aH} (hT : fR S T) (h : fH T.cols 0 vs = true) : vs ≠ [] := by
 cases hc : T.cols with
 | nil => exact absurd hc hT.ne
 | cons c l =>
  rw [hc] at h;have h3 : c.state = 3 := hT.pub c (by rw [hc]; (first | done | rfl));rcases pH h with ⟨g, _⟩ | ⟨_, v, r, rfl, _⟩
  ·exact absurd h3 g
  ·simp
structure LS (N : Nat) (E : y9) : Prop where
 asks : E.asks.length ≤ 4000
 ws : E.ws.length ≤ 1100
 good : ∀ x ∈ E.ws, uv (N + 9) x
 rep : E.rep.rows.length ≤ 64 ∧ ∀ v ∈ E.rep.rows, v.length ≤ 8
theorem Bz {T : az} {b : cG} {D : List Ht} {N : Nat} (hv : ny D) (hN : kX N D) : ∀ r ∈ (aX T b D).2, eI r.cells ∧ r.cells.length ≤ N := fun r hr => by
 obtain ⟨x, hx, e⟩ := uU hr;have hg := (o8 e).1;exact ⟨(wo (hv x hx) hg).p, hN x hx _ hg⟩
theorem DT {S : aK} {b : cG} {T : az} {D : List Ht} {N : Nat} (hAll : ∀ U ∈ S.tabs, fR S U) (h6 : S.tabs.length ≤ 6) (hr : fe S b = some T) (hb : wX b) (hD : cz D) (hv : ny D) (hN : kX N D) : LS N (gp S T b D) := by
 have hf := lN hr;have hT := hAll T hf.mem;have hx8 := hT.x8;have hk8 := hT.k8;have hml := mB (T := T) (b := b) hD;have hal := pL (T := T) (b := b) (D := D)
 have noR : ∀ {n : Int}, (⟨n, []⟩ : Rp).rows.length ≤ 64 ∧ ∀ v ∈ (⟨n, []⟩ : Rp).rows, v.length ≤ 8 := fun {n} => ⟨by simp, by simp⟩
 unfold gp
 split
 ·rename_i h1
  have hok := hf.ins h1;obtain ⟨hc1, hc2⟩ := mK hT.cols hok hb.vals eI.nil;have hl1 := tD S T (b.vals.headD gm) [] (iB T.cols b.vals []) D;have hl2 := lp T [] (iB T.cols b.vals []);have hc8 := hT.c8;simp only [List.length_nil, Nat.zero_add] at hc2;unfold qV;dsimp only
  split
  ·exact ⟨by simp, by simp, by simp, noR⟩
  ·split
   ·exact ⟨by simp only [List.length_cons]; omega, by simp, by simp, noR⟩
   ·exact ⟨by simp only [List.length_cons]; omega, by dsimp only; omega, qC hc1 (by omega), noR⟩
 ·rename_i h1
  split
  ·rename_i h2
   obtain ⟨p1, p2, p3⟩ := nM hT (hf.aS h2) hb.to;obtain ⟨u1, u2, u3⟩ := xP hT p1 p2 p3 (aX T b D).2 D (Bz hv hN);unfold rJ
   split
   ·exact ⟨by dsimp only; omega, by simp, by simp, noR⟩
   ·split
    ·exact ⟨by simp only [List.length_append]; omega, by dsimp only; omega, u3, noR⟩
    ·exact ⟨by simp only [List.length_append]; omega, by dsimp only; omega, u3, noR⟩
  ·split
   ·obtain ⟨u1, u2, u3⟩ := xG (N := N + 9) hT hAll h6 (aX T b D).2 D;unfold rm
    split
    ·exact ⟨by dsimp only; omega, by simp, by simp, noR⟩
    ·split
     ·exact ⟨by simp only [List.length_append]; omega, by dsimp only; omega, u3, noR⟩
     ·exact ⟨by simp only [List.length_append]; omega, by dsimp only; omega, u3, noR⟩
   ·unfold rD
    split
    ·exact ⟨by dsimp only; omega, by simp, by simp, noR⟩
    ·exact ⟨by dsimp only; omega, by simp, by simp, by show ((aX T b D).2.map (kR T)).length ≤ 64; rw [List.length_map]; exact hml, fun v hv => by
      obtain ⟨r, _, rfl⟩ := List.mem_map.1 hv;have h1 : (Cj T).length ≤ T.cols.length := List.length_filter_le _ _;have h2 := hT.c8;unfold kR
      rw [List.length_map]; omega⟩
theorem BT {f : List (BA × Wr)} {ov : List Wr} (hv : jK ov) (hk : ∀ p ∈ f, p.1 = p.2.key) (hp : (f.map (·.2)).Perm ov) : iH f = ov.map (·.key) := by
 have e1 : (f.map fun p => p.1.data.toList) = (f.map (·.2)).map (fun x => kL x.key) := by
  rw [List.map_map]
  exact List.map_congr_left fun p hp => by rw [hk p hp]; (first | done | rfl)
 unfold iH;rw [e1, mergeSort_of_perm (hp.map fun x => kL x.key)]
 have hs : ((ov.map fun x => kL x.key)).Pairwise fun a b => leB a b = true := by
  rw [List.pairwise_map];refine hv.imp fun {a b} h => ?_;unfold bK at h
  have : kL a.key < kL b.key := by simpa using h
  exact decide_eq_true (List.le_of_lt this)
 rw [List.mergeSort_of_pairwise hs, List.map_map]
 exact List.map_congr_left fun x _ => by show ofBytes (kL x.key) = x.key; exact mY (by unfold ofBytes kL; simp)
theorem Dn {f : List (BA × Wr)} {ov : List Wr} (hv : jK ov) (hk : ∀ p ∈ f, p.1 = p.2.key) (hp : (f.map (·.2)).Perm ov) {x : Wr} (hx : x ∈ ov) : f.lookup x.key = some x := by
 cases hl : f.lookup x.key with
 | none =>
  have := jz.1.1 hl;obtain ⟨p, hpm, rfl⟩ := List.mem_map.1 ((hp.mem_iff).2 hx);exact absurd (List.mem_map.2 ⟨p, hpm, hk p hpm⟩) this
 | some y =>
  have h1 := jz.2 _ hl;have h2 : x.key = y.key := hk _ h1;have h3 : y ∈ ov := (hp.mem_iff).1 (List.mem_map.2 ⟨_, h1, rfl⟩);rw [Io hv h3 hx h2.symm]
end
end Go.Proofs.YtlfdfgokflhdbaaGreat
