/-
  Part 28 for the law: lemmas.
  Conditions: none.
-/
import Derived.Test.YtlfdfgokflhdbaaGreatExecReadsK27
set_option maxHeartbeats 4000000
set_option maxRecDepth 100000
set_option linter.unusedVariables false
set_option linter.unusedSimpArgs false
set_option linter.unusedSectionVars false
namespace Go.Proofs.YtlfdfgokflhdbaaGreat
open Fw Go Go.IntKind
section
attribute [-simp] Fw.W.bC Fw.W.bA
def sW (s : PH) (r n : Nat) : Nat := match s r with | some (.mapIter _ _ seen _) => n - seen.size | _ => 0
theorem BY {K V : Type} [BEq K] [LawfulBEq K] {ke : sy K} {ve : V → Value} {s : PH} {r m : Nat} {f : List (K × V)} {idx : List Nat} (h : pM ke ve s r m f idx) (n : Nat) : sW s r n = n - idx.length := by
 obtain ⟨es, c, h1, _⟩ := h;unfold sW; rw [h1]; simp
def gG (p : bJ) (e : BA × Wr) : Option Ht := if gU e.1 p && !e.2.dead then some ⟨e.1, 0, e.2.val⟩ else none
def mM (ov : List Wr) (h : Ht) : Bool := !(ov.any fun x => x.key == h.key)
theorem I0 {B l' : List Ht} {ov : List Wr} {f : List (BA × Wr)} {p : bJ} (hB : cl B) (hv : jr ov) (hf : (f.map (·.2)).Perm ov) (hk : ∀ e ∈ f, e.1 = e.2.key)
  (hp : l'.Perm ((au B p).filter (mM ov) ++ f.filterMap (gG p))) (hs : l'.Pairwise fun x y => bO y.key x.key = false) : l' = au (aq 0 B ov) p := by
 have hD : cl (aq 0 B ov) := cV ov hB
 have hmv : ∀ x, x ∈ ov ↔ ∃ e ∈ f, e.2 = x := fun x => by rw [← hf.mem_iff, List.mem_map]
 have hW : cl (au B p) := hB.filter _
 have nod : ∀ {l : List Ht}, cl l → (l.map (·.key)).Nodup := fun {l} h => by
  unfold cl at h;rw [List.Nodup, List.pairwise_map]
  exact h.imp fun {a b} e1 e2 => by rw [e2, eU] at e1; cases e1
 have nof : (f.map (·.1)).Nodup := by
  have h1 : (ov.map (·.key)).Nodup := by
   unfold jr at hv;rw [List.Nodup, List.pairwise_map]
   exact hv.imp fun {a b} e1 e2 => by rw [e2, eU] at e1; cases e1
  have h2 : ((f.map (·.2)).map (·.key)).Nodup := ((hf.map _).nodup_iff).2 h1;rw [List.map_map] at h2;have : f.map (·.1) = f.map ((fun x : Wr => x.key) ∘ fun e => e.2) := List.map_congr_left fun e he => hk e he;rw [this]; exact h2
 have nol : (l'.map (·.key)).Nodup := by
  refine ((hp.map (·.key)).nodup_iff).2 ?_;rw [List.map_append, List.nodup_append];refine ⟨nod (hW.filter _), ?_, ?_⟩
  ·have key : ∀ f : List (BA × Wr), (f.map (·.1)).Nodup → ((f.filterMap (gG p)).map (·.key)).Nodup ∧ ∀ h ∈ f.filterMap (gG p), h.key ∈ f.map (·.1) := by
    intro f
    induction f with
    | nil => intro _; simp
    | cons e f ih =>
     intro hn;simp only [List.map_cons, List.nodup_cons] at hn;obtain ⟨i1, i2⟩ := ih hn.2;rw [List.filterMap_cons]
     cases hq : gG p e with
     | none => exact ⟨i1, fun h hh => List.mem_cons_of_mem _ (i2 h hh)⟩
     | some x =>
      have hx : x.key = e.1 := by unfold gG at hq; split at hq <;> simp at hq; rw [← hq]
      refine ⟨?_, ?_⟩
      ·simp only [List.map_cons, List.nodup_cons];refine ⟨fun hm => ?_, i1⟩;obtain ⟨y, hy, e2⟩ := List.mem_map.1 hm;have := i2 y hy;rw [e2, hx] at this;exact hn.1 this
      ·intro h hh;rcases List.mem_cons.1 hh with rfl | hh
       ·rw [hx]; exact List.mem_cons_self
       ·exact List.mem_cons_of_mem _ (i2 h hh)
   exact (key f nof).1
  ·intro a ha b hb e;obtain ⟨h1, hh1, rfl⟩ := List.mem_map.1 ha;obtain ⟨h2, hh2, rfl⟩ := List.mem_map.1 hb;have h3 := (List.mem_filter.1 hh1).2;obtain ⟨q, hq, hq2⟩ := List.mem_filterMap.1 hh2
   have hx : h2.key = q.1 := by unfold gG at hq2; split at hq2 <;> simp at hq2; rw [← hq2]
   unfold mM at h3;simp only [Bool.not_eq_true', List.any_eq_false, beq_iff_eq] at h3;exact h3 q.2 ((hmv _).2 ⟨q, hq, rfl⟩) (by rw [e, hx, hk q hq])
 have hsl : cl l' := by
  have h2 : l'.Pairwise fun x y => x.key ≠ y.key := by
   have := nol;rw [List.Nodup, List.pairwise_map] at this; exact this
  refine (hs.and h2).imp fun {a b} ⟨e1, e2⟩ => ?_
  cases e3 : bO a.key b.key with
  | true => rfl
  | false => exact absurd (rB e3 e1) e2
 refine og (fun h : Ht => h.key) hsl (hD.filter _) fun h => ?_;rw [hp.mem_iff, List.mem_append];unfold au;simp only [List.mem_filter, List.mem_filterMap];rw [jh _ hB hv]
 constructor
 ·rintro (⟨⟨h1, h2⟩, h3⟩ | ⟨q, hq, hq2⟩)
  ·refine ⟨.inr ⟨h1, fun x hx e => ?_⟩, h2⟩;unfold mM at h3;simp only [Bool.not_eq_true', List.any_eq_false, beq_iff_eq] at h3;exact h3 x hx e
  ·unfold gG at hq2
   split at hq2
   ·rename_i hc
    simp only [Option.some.injEq] at hq2;simp only [Bool.and_eq_true, Bool.not_eq_true'] at hc;subst hq2;exact ⟨.inl ⟨q.2, (hmv _).2 ⟨q, hq, rfl⟩, hc.2, by rw [hk q hq]⟩, hc.1⟩
   ·cases hq2
 ·rintro ⟨⟨x, hx, hd, rfl⟩ | ⟨h1, h2⟩, h3⟩
  ·obtain ⟨q, hq, rfl⟩ := (hmv _).1 hx;refine .inr ⟨q, hq, ?_⟩;unfold gG;rw [if_pos (by rw [hk q hq]; simp only [Bool.and_eq_true, Bool.not_eq_true']; exact ⟨h3, hd⟩), hk q hq]
  ·refine .inl ⟨⟨h1, h3⟩, ?_⟩;unfold mM;simp only [Bool.not_eq_true', List.any_eq_false, beq_iff_eq];exact fun x hx e => h2 x hx e
theorem nD {l : List Ht} {k : Nat} {h : Ht} (q : Ht → Bool) (hk : l[k]? = some h) : (l.take (k + 1)).filter q = (l.take k).filter q ++ (if q h = true then [h] else []) := by
 rw [List.take_add_one, hk, List.filter_append]
 congr 1
 simp only [Option.toList_some, List.filter_cons, List.filter_nil]
theorem HV {f : List (BA × Wr)} {idx : List Nat} {i : Nat} {e : BA × Wr} (h : f[i]? = some e) : lB f (idx ++ [i]) = lB f idx ++ [e] := by
 unfold lB;rw [List.filterMap_append]; simp [h]
theorem IU {s0 s : PH} {w : Nat} {S : aD} {tt sh : aP} {B : List Ht} {rds : List bJ} {ov : List Wr} (hB : iI s0 sh B) (hv : jr ov) (hvl : ov.length ≤ 800000) (h : EI s0 s w S tt sh B rds ov) (hrl : rds.length ≤ 4000000) (p : bJ) (hp1 : p.1.size ≤ 4000000) :
  ah 185 #[cp w, nv p] s fun y s' => ∃ a n c, y = .slice a n c ∧ Gw bl 75 s0 s' a n c (au (aq 0 B ov) p) ∧ EI s0 s' w S tt sh B (gf rds p) ov ∧ Kt s s' := by
 refine Hq w p.1 p.2 _ s ?_;unfold A7
 obtain ⟨R, hR⟩ : ∃ R : Value → PH → Prop, (fun y s' => ∃ a n c, y = .slice a n c ∧ Gw bl 75 s0 s' a n c (au (aq 0 B ov) p) ∧ EI s0 s' w S tt sh B (gf rds p) ov ∧ Kt s s') = R := ⟨_, rfl⟩
 rw [hR];simp only [aM, bH, F6, cG, aO, JL, aT, aQ, aR, cj, dg, F7, gX, mj, JN, JM, JJ, JK, aE, dj, bf, Nat.zero_add];obtain ⟨r, mb, mo, qs, bs, f, h⟩ := h;refine (W.aB h.aU _ _ _ _).2 ⟨(some mb, ()), rfl, ?_⟩;refine GP (ks := wq) (ve := gS) h.bm (key := p) ?_
 have hBl : (au B p).length ≤ 100000 := by
  have h1 : (au B p).length ≤ B.length := List.length_filter_le _ _;have h2 := hB.sl.len;have h3 := hB.cO;omega
 -- what comes behind the first part
 have cont : ∀ (u : aP) (s1 : PH), EI s0 s1 w S tt sh B (gf rds p) ov → bp bl s1 75 u.1 u.2.1 u.2.2 (au B p) → Kt s s1 →
   W.loop [(true, [CT.str, CT.str]), (false, [CT.slice]), (false, [CT.slice]), (false, [CT.int IntKind.i64]), (false, [CT.int IntKind.i64])] ((p.1, p.2, ()), ((none, 0, 0), ()), (u, ()), ((u.2.1 : Int), ()), ((0 : Int), ()), ()) (fun x again => W.br (decide (x.2.2.2.2.1.1 < x.2.2.2.1.1))
    (W.guard (0 ≤ x.2.2.2.2.1.1 ∧ x.2.2.2.2.1.1 < (x.2.2.1.1.2.1 : Int)) (W.aa x.2.2.1.1.1 fun p66 => W.ld [CT.str, CT.int IntKind.i64, CT.str] (p66.add (Int.toNat x.2.2.2.2.1.1 * 3)) fun y => W.ld [CT.map] ⟨w, 6, none⟩ fun m71 =>
      W.look .string m71.1 (.string y.1) (.agg #[.string ⟨#[]⟩, .string ⟨#[]⟩, .bool false]) (true, [CT.str, CT.str, CT.bool]) fun y73 b72 => W.br (!b72)
       (W.nw (.cells #[.string y.1, .int .i64 y.2.1, .string y.2.2.1] 75 (0, 0)) fun r76 => W.app 75 3 40 [.string ⟨#[]⟩, .int .i64 0, .string ⟨#[]⟩] x.2.1.1.1 x.2.1.1.2.1 x.2.1.1.2.2 (Src.sl (some ⟨r76, 0, none⟩) 1) fun a77 n78 c79 =>
         again ((x.1.1, x.1.2.1, ()), ((a77, n78, c79), ()), ((x.2.2.1.1.1, x.2.2.1.1.2.1, x.2.2.1.1.2.2), ()), (x.2.2.2.1.1, ()), (i64.wrap (x.2.2.2.2.1.1 + 1), ()), ()))
       (again ((x.1.1, x.1.2.1, ()), ((x.2.1.1.1, x.2.1.1.2.1, x.2.1.1.2.2), ()), ((x.2.2.1.1.1, x.2.2.1.1.2.1, x.2.2.1.1.2.2), ()), (x.2.2.2.1.1, ()), (i64.wrap (x.2.2.2.2.1.1 + 1), ()), ()))))
    (W.ld [CT.map] ⟨w, 6, none⟩ fun m81 => W.oc m81.1 fun r82 => W.loop [(true, [CT.str, CT.str]), (false, [CT.slice]), (false, [CT.addr])] ((x.1.1, x.1.2.1, ()), ((x.2.1.1.1, x.2.1.1.2.1, x.2.1.1.2.2), ()), (⟨r82, 0, none⟩, ()), ()) fun z again83 =>
      W.guard (z.2.2.1.1.off = 0) (W.nY z.2.2.1.1.block fun v90 => W.ext v90 0 (false, [CT.bool]) fun b91 => W.br b91.1
       (W.guard (z.2.2.1.1.off = 0) (W.nS z.2.2.1.1.block fun v92 => W.ext v92 0 (false, [CT.str]) fun t93 => W.ext v92 1 (true, [CT.str, CT.str, CT.bool]) fun t94 =>
         W.call Tryz.prog 233 #[.string t93.1, .agg #[.string z.1.1, .string z.1.2.1]] (false, [(false, [CT.bool])]) fun b97 => W.br b97.1.1
          (W.br (!t94.2.2.1) (W.nw (.cells #[.string t93.1, .int .i64 0, .string t94.2.1] 75 (0, 0)) fun r98 => W.app 75 3 40 [.string ⟨#[]⟩, .int .i64 0, .string ⟨#[]⟩] z.2.1.1.1 z.2.1.1.2.1 z.2.1.1.2.2 (Src.sl (some ⟨r98, 0, none⟩) 1) fun a99 n100 c101 =>
              again83 ((z.1.1, z.1.2.1, ()), ((a99, n100, c101), ()), (z.2.2.1.1, ()), ()))
            (again83 ((z.1.1, z.1.2.1, ()), ((z.2.1.1.1, z.2.1.1.2.1, z.2.1.1.2.2), ()), (z.2.2.1.1, ()), ())))
          (again83 ((z.1.1, z.1.2.1, ()), ((z.2.1.1.1, z.2.1.1.2.1, z.2.1.1.2.2), ()), (z.2.2.1.1, ()), ()))))
       (W.call Tryz.prog 234 #[.slice z.2.1.1.1 z.2.1.1.2.1 z.2.1.1.2.2, .func (.func 235) #[] #[]] (true, []) fun _ => W.ret R (.slice z.2.1.1.1 z.2.1.1.2.1 z.2.1.1.2.2))))) s1 := by
  rintro ⟨ua, un, uc⟩ s1 hE hu hkt;have hun := hu.len;dsimp only at hu hun;refine ⟨fun z s' => ∃ (k : Nat) (b : OA) (m d : Nat), z = ((p.1, p.2, ()), ((b, m, d), ()), ((ua, un, uc), ()), ((un : Int), ()), ((k : Int), ()), ()) ∧ k ≤ un ∧ m ≤ k ∧ Gw bl 75 s1 s' b m d (((au B p).take k).filter (mM ov)), fun z _ => un - z.2.2.2.2.1.1.toNat, ⟨0, none, 0, 0, rfl, Nat.zero_le _, Nat.le_refl _, Gw.nil (Mod.refl _ _)⟩, ?_⟩;rintro _ s2 ⟨k, b, m, d, rfl, hk, hm, hG⟩;dsimp only;obtain ⟨r1, mb1, mo1, qs1, bs1, f1, hx⟩ := hE.same hG.md
  have hfl : f1.length ≤ 800000 := by
   have := hx.omp.length_eq;rw [List.length_map] at this; omega
  refine aI (fun e => ?_) fun e => ?_
  ·have hlt : (k : Int) < (un : Int) := of_decide_eq_true e
   obtain ⟨y, hy⟩ : ∃ y, (au B p)[k]? = some y := ⟨_, List.getElem?_eq_getElem (by omega)⟩
   have hfs := nD (mM ov) hy;obtain ⟨g, rfl, hh⟩ := (hu.mod hG.md (by simp)).at hy;refine bF ⟨Int.natCast_nonneg k, hlt⟩ ?_;simp only [dj, Int.toNat_natCast, bf, Nat.zero_add];have hh : s2.has ⟨g, k * 3, none⟩ (bl.f y) := hh;refine az hh (y := mH y) rfl ?_;refine (W.aB hx.aU _ _ _ _).2 ⟨(some mo1, ()), rfl, ?_⟩;refine vR (ke := iB) (ve := sx) hx.om (key := y.key) ?_;rw [ai (k := k) (by omega)]
   have hkeys : f1.map (·.1) = (f1.map (·.2)).map (·.key) := by rw [List.map_map]; exact List.map_congr_left fun e he => hx.omk e he
   have hmem : y.key ∈ f1.map (·.1) ↔ ∃ x ∈ ov, x.key = y.key := by
    rw [hkeys, (hx.omp.map (·.key)).mem_iff, List.mem_map]
   cases hl : f1.lookup y.key with
   | none =>
    have hno : mM ov y = true := by
     have := jf.1.1 hl;rw [hmem] at this;unfold mM;simp only [Bool.not_eq_true', List.any_eq_false, beq_iff_eq];exact fun x hx2 e2 => this ⟨x, hx2, e2⟩
    refine ⟨(⟨#[]⟩, ⟨#[]⟩, false, ()), rfl, ?_⟩;refine (W.af _ _ _ _).2 ⟨fun _ => ?_, fun e2 => (by cases e2)⟩;refine hG.push [y] (k := 1) rfl rfl rfl (by omega) (by omega) fun a3 c3 s3 h3 => ?_;refine ⟨⟨k + 1, a3, m + 1, c3, rfl, by omega, by omega, ?_⟩, by simp only [Int.toNat_natCast]; omega⟩;rw [hfs, if_pos hno]; exact h3
   | some x =>
    have hyes : mM ov y = false := by
     have := jf.2 _ hl;have h2 : y.key ∈ f1.map (·.1) := List.mem_map.2 ⟨_, this, rfl⟩;rw [hmem] at h2;obtain ⟨x2, hx2, e2⟩ := h2;unfold mM;simp only [Bool.not_eq_false', List.any_eq_true, beq_iff_eq];exact ⟨x2, hx2, e2⟩
    refine ⟨(x.key, x.val, x.dead, ()), rfl, ?_⟩;refine (W.af _ _ _ _).2 ⟨fun e2 => (by cases e2), fun _ => ?_⟩;refine ⟨⟨k + 1, b, m, d, rfl, by omega, by omega, ?_⟩, by simp only [Int.toNat_natCast]; omega⟩;rw [hfs, hyes]; simpa using hG
  ·have e : ¬ (k : Int) < (un : Int) := of_decide_eq_false e;rw [List.take_of_length_le (by omega)] at hG
   have hmB : m ≤ 100000 := by omega
   generalize hL1 : (au B p).filter (mM ov) = L1 at hG
   refine (W.aB hx.aU _ _ _ _).2 ⟨(some mo1, ()), rfl, ?_⟩;refine Jx (ke := iB) (ve := sx) hx.om fun ri s3 hri m3 hit => ?_;have hmo : ∀ {s' : PH}, Gw bl 75 s1 s' b m d L1 → True := fun _ => trivial
   refine ⟨fun z s' => ∃ (idx : List Nat) (b : OA) (m2 d : Nat), z = ((p.1, p.2, ()), ((b, m2, d), ()), (⟨ri, 0, none⟩, ()), ()) ∧ m2 ≤ m + idx.length ∧ idx.length ≤ f1.length ∧ pM iB sx s' ri mo1 f1 idx ∧ s1 ri = none ∧ Gw bl 75 s1 s' b m2 d (L1 ++ (lB f1 idx).filterMap (gG p)), fun z s' => sW s' ri f1.length,
    ⟨[], b, m, d, rfl, by simp, Nat.zero_le _, hit, hG.md.none hri (by simp), by simpa [lB] using hG.same m3⟩, ?_⟩
   rintro _ s4 ⟨idx, b4, m4, d4, rfl, hm4, hil, hit4, hri1, hG4⟩;dsimp only;refine bF rfl ?_;refine I7 hit4 (fun hperm => ?_) fun i e he s5 m5 hit5 hlt hent => ?_
   ·refine ⟨_, (false, ()), rfl, rfl, ?_⟩;refine (W.af _ _ _ _).2 ⟨fun e2 => (by cases e2), fun _ => ?_⟩;refine W.ak (IQ hG4 (by omega)) ?_;rintro _ s5 ⟨rfl, l', hp', hs', hG5, m5⟩;refine ⟨(), rfl, ?_⟩;have hmd : Fw.Mod [] s1 s5 := hG5.md
    have hl' : l' = au (aq 0 B ov) p := by
     refine I0 hB.cY hv hx.omp hx.omk (hp'.trans ?_) hs';rw [hL1];exact List.Perm.append_left _ (hperm.filterMap _)
    rw [← hR];subst hl';have hEE := hE.same hmd;exact ⟨b4, m4, d4, rfl, ⟨hG5.row, fun g hg => hE.md.none (hG5.fr g hg) (by simp), hEE.md⟩, hEE, hkt.trans (Kt.of hmd)⟩
   ·refine ⟨_, (true, ()), rfl, rfl, ?_⟩;refine (W.af _ _ _ _).2 ⟨fun _ => ?_, fun e2 => (by cases e2)⟩;refine bF rfl ?_;refine hent _ ?_;refine ⟨_, (e.1, ()), rfl, rfl, ?_⟩;refine ⟨_, (e.2.key, e.2.val, e.2.dead, ()), rfl, rfl, ?_⟩;refine aH ((gU e.1 p, ()), ()) (KL e.1 p s5) rfl ?_;have hmd5 : Fw.Mod [] s1 s5 := hG4.md.fresh m5 (by simp [hri1])
    have hG5 : Gw bl 75 s1 s5 b4 m4 d4 (L1 ++ (lB f1 idx).filterMap (gG p)) := ⟨hG4.row.mod m5 fun g hg hr2 => (by
     have hgr : g = ri := by simpa using hr2
     subst hgr;obtain ⟨es, c, q1, _⟩ := hit4;rcases hG4.row.shape with ⟨rfl, _⟩ | ⟨g', rfl⟩
     ·simp [Fw.aU] at hg
     ·simp [Fw.aU] at hg; subst hg;obtain ⟨cur, q2⟩ := hG4.row.ty rfl
      rw [q1] at q2; cases q2), hG4.fr, hmd5⟩
    have hvs := HV (idx := idx) he
    have hmu : ∀ {s6 : PH}, pM iB sx s6 ri mo1 f1 (idx ++ [i]) → sW s6 ri f1.length < sW s4 ri f1.length := fun h6 => by
     rw [BY h6, BY hit4, List.length_append]; simp only [List.length_cons, List.length_nil]; omega
    have hlen : (idx ++ [i]).length = idx.length + 1 := by simp
    have hskip : gG p e = none → (fun (z : bR [(true, [CT.str, CT.str]), (false, [CT.slice]), (false, [CT.addr])]) s' => (∃ (idx : List Nat) (b : OA) (m2 d : Nat), z = ((p.1, p.2, ()), ((b, m2, d), ()), (⟨ri, 0, none⟩, ()), ()) ∧ m2 ≤ m + idx.length ∧ idx.length ≤ f1.length ∧ pM iB sx s' ri mo1 f1 idx ∧ s1 ri = none ∧ Gw bl 75 s1 s' b m2 d (L1 ++ (lB f1 idx).filterMap (gG p))) ∧ sW s' ri f1.length < sW s4 ri f1.length) ((p.1, p.2, ()), ((b4, m4, d4), ()), (⟨ri, 0, none⟩, ()), ()) s5 := fun hno => by
     refine ⟨⟨idx ++ [i], b4, m4, d4, rfl, by omega, by omega, hit5, hri1, ?_⟩, hmu hit5⟩;rw [hvs, List.filterMap_append];simpa [hno] using hG5
    refine aI (fun e2 => ?_) fun e2 => ?_
    ·have e2 : gU e.1 p = true := e2;refine aI (fun e3 => ?_) fun e3 => ?_
     ·have e3 : e.2.dead = false := by simpa using e3
      have hyes : gG p e = some ⟨e.1, 0, e.2.val⟩ := by unfold gG; rw [e2, e3]; (first | done | rfl)
      refine hG5.nr [⟨e.1, 0, e.2.val⟩] (k := 1) rfl rfl rfl (by omega) (by omega) fun a6 c6 s6 h6 m6 => ?_
      have hoff : ∀ k o, s5 k = some o → (∀ c1 e1 f1, o ≠ .cells c1 e1 f1) → k ∉ Fw.aU b4 := fun k o ho hno hb => by
       rcases hG5.row.shape with ⟨rfl, _⟩ | ⟨g', rfl⟩
       ·simp [Fw.aU] at hb
       ·simp [Fw.aU] at hb; subst hb;obtain ⟨cur, q2⟩ := hG5.row.ty rfl;rw [ho] at q2; cases q2;exact hno _ _ _ rfl
      have hit6 : pM iB sx s6 ri mo1 f1 (idx ++ [i]) := by
       obtain ⟨es, c, q1, q2, q3⟩ := hit5;exact pM.mod ⟨es, c, q1, q2, q3⟩ m6 (hoff _ _ q1 (by simp)) (hoff _ _ q2 (by simp))
      refine ⟨⟨idx ++ [i], a6, m4 + 1, c6, rfl, by omega, by omega, hit6, hri1, ?_⟩, hmu hit6⟩;rw [hvs, List.filterMap_append, ← List.append_assoc];simpa [hyes] using h6
     ·have e3 : e.2.dead = true := by simpa using e3
      exact hskip (by unfold gG; rw [e3]; simp)
    ·have e2 : gU e.1 p = false := e2;exact hskip (by unfold gG; rw [e2]; simp)
 cases hl : bs.lookup p with
 | some u =>
  obtain ⟨ua, un, uc⟩ := u;refine ⟨((ua, un, uc), ()), rfl, ?_⟩;have hin := jf.2 _ hl
  have hmem : p ∈ rds := by rw [← h.bmq]; exact List.mem_map.2 ⟨_, hin, rfl⟩
  have hadd : gf rds p = rds := by unfold gf; rw [if_pos hmem]
  refine W.bx (fun z s' => z = ((p.1, p.2, ()), ((ua, un, uc), ()), ()) ∧ s = s') ?_ ?_
  ·rintro _ _ ⟨rfl, rfl⟩;exact cont (ua, un, uc) s (by rw [hadd]; exact ⟨r, mb, mo, qs, bs, f, h⟩) (h.bv _ hin) (Kt.refl s)
  ·intro J hJ;exact (W.af _ _ _ _).2 ⟨fun e => (by cases e), fun _ => hJ _ _ ⟨rfl, rfl⟩⟩
 | none =>
  have hnin : p ∉ rds := by
   have := jf.1.1 hl
   rwa [h.bmq] at this
  have hadd : gf rds p = rds ++ [p] := by unfold gf; rw [if_neg hnin]
  refine ⟨((none, 0, 0), ()), rfl, ?_⟩;refine W.bx (fun z s' => ∃ u : aP, z = ((p.1, p.2, ()), (u, ()), ()) ∧ EI s0 s' w S tt sh B (gf rds p) ov ∧ bp bl s' 75 u.1 u.2.1 u.2.2 (au B p) ∧ Kt s s') ?_ ?_
  ·rintro _ s1 ⟨u, rfl, h1, h2, h3⟩;exact cont u s1 h1 h2 h3
  intro J hJ;refine (W.af _ _ _ _).2 ⟨fun _ => ?_, fun e => (by cases e)⟩;refine (W.aB h.aU _ _ _ _).2 ⟨(Ax sh, ()), rfl, ?_⟩
  have hmeth : ∀ w, (method (Tryz.prog.types.size + Made.depth) 73 (gS sh) "Span").run Tryz.prog w = .ok (314, gS sh) w := fun w => by kernel_rfl
  refine ⟨73, gS sh, 314, gS sh, _, rfl, hmeth, Tryz.func314, rfl, by kernel_rfl, ?_⟩;obtain ⟨sa, sn, sc⟩ := sh;refine (IL (hB.sl.mono h.md.le) p (by omega) hB.ks (by have := hB.cO; dsimp only at this; omega)).mono ?_;rintro _ s1 ⟨a1, n1, c1, rfl, hG1⟩;refine ⟨(((a1, n1, c1), ()), ()), rfl, ?_⟩;have hn1 := hG1.row.len;refine W.ak (Gg (Sl.bE hG1.row (by omega)) (by dsimp only; omega)) ?_;rintro _ s2 ⟨a2, n2, c2, rfl, hG2⟩;refine ⟨(((a2, n2, c2), ()), ()), rfl, ?_⟩;have hn2 := hG2.row.len;have m02 : Fw.Mod [] s s2 := hG1.md.trans hG2.md;dsimp only
  refine ⟨fun z s' => ∃ (k : Nat) (b : OA) (m d : Nat), z = ((p.1, p.2, ()), ((a2, n2, c2), ()), (p.1, p.2, (b, m, d), ()), ((a2, n2, c2), ()), ((n2 : Int), ()), ((k : Int), ()), ()) ∧ k ≤ n2 ∧ m ≤ k ∧ Gw Cf 215 s2 s' b m d (stamps ((au B p).take k)), fun z _ => n2 - z.2.2.2.2.2.1.1.toNat,
   ⟨0, none, 0, 0, rfl, Nat.zero_le _, Nat.le_refl _, Gw.nil (Mod.refl _ _)⟩, ?_⟩
  rintro _ s3 ⟨k, b, m, d, rfl, hk, hm, hG3⟩;dsimp only;refine aI (fun e => ?_) fun e => ?_
  ·have hlt : (k : Int) < (n2 : Int) := of_decide_eq_true e
   obtain ⟨y, hy⟩ : ∃ y, (au B p)[k]? = some y := ⟨_, List.getElem?_eq_getElem (by omega)⟩
   obtain ⟨g, rfl, hh⟩ := (hG2.row.mod hG3.md (by simp)).at hy;refine bF ⟨by omega, hlt⟩ ?_;simp only [dj, Int.toNat_natCast, bf, Nat.zero_add];have hh : s3.has ⟨g, k * 3, none⟩ (bl.f y) := hh;refine az hh (y := mH y) rfl ?_;refine hG3.push [(y.key, y.ts)] (k := 1) rfl rfl rfl (by omega) (by omega) fun a4 c4 s4 h4 => ?_;rw [ai (k := k) (by omega)];refine ⟨⟨k + 1, a4, m + 1, c4, rfl, by omega, by omega, ?_⟩, by simp only [Int.toNat_natCast]; omega⟩;unfold stamps at h4 ⊢;rw [List.take_add_one, hy, List.map_append];exact h4
  ·have e : ¬ (k : Int) < (n2 : Int) := of_decide_eq_false e;rw [List.take_of_length_le (by omega)] at hG3;have m03 : Fw.Mod [] s s3 := m02.trans hG3.md;have hx := h.same m03;refine (W.aB hx.aU _ _ _ _).2 ⟨(some mb, ()), rfl, ?_⟩;refine GR (ks := wq) (ve := gS) hx.bm (key := p) (v := (a2, n2, c2)) fun o ho => ?_;rw [yW hl] at ho;obtain ⟨es, cc, hmbs, _⟩ := hx.bm
   have hmbw : mb ≠ w := fun e => by rw [e, hx.aU] at hmbs; cases hmbs
   have k4 : (s3.aS mb o) w = some (wD S tt (sa, sn, sc) r mb mo) := by rw [PH.bG _ _ hmbw.symm]; exact hx.aU
   have u4 : Fw.Mod [mb] s3 (s3.aS mb o) := Mod.aS (by simp);refine (W.aB k4 _ _ _ _).2 ⟨(r, ()), rfl, ?_⟩
   have notmb : ∀ {α : Type} {E : cK α} {e : TypeId} {a : OA} {n c : Nat} {l : List α}, bp E s3 e a n c l → bp E (s3.aS mb o) e a n c l := fun {α E e a n c l} hr => hr.mod u4 fun g hg hb => by
    have : g = mb := by simpa using hb
    subst this;rcases hr.shape with ⟨rfl, _⟩ | ⟨g', rfl⟩
    ·simp [Fw.aU] at hg
    ·simp [Fw.aU] at hg; subst hg;obtain ⟨cur, q2⟩ := hr.ty rfl;rw [hmbs] at q2; cases q2
   have hrd4 : Gw qI 132 s0 (s3.aS mb o) r.1 r.2.1 r.2.2 qs := ⟨notmb hx.rd.row, hx.rd.fr, hx.md.bT (.inr hx.mb0)⟩
   have hql : r.2.1 = rds.length := by rw [hx.rd.row.len, ← hx.rdq, List.length_map]
   refine hrd4.nr [⟨p, (b, m, d)⟩] (k := 1) rfl rfl rfl (by omega) (by omega) fun a5 c5 s5 h5 m5 => ?_;have hwoff : w ∉ Fw.aU r.1 := hrd4.off k4 (by decide);have k5 : s5 w = some (wD S tt (sa, sn, sc) r mb mo) := m5.at k4 hwoff;refine ku k5 (by show 4 + 1 ≤ 7; omega) (by simp [Value.oneCell']) rfl ?_;intro s6 hs6
   have u6 : Fw.Mod [w] s5 s6 := by rw [hs6]; exact Mod.aS (by simp)
   have moff : ∀ {α : Type} {E : cK α} {e : TypeId} {a : OA} {n c : Nat} {l : List α}, bp E s3 e a n c l → e ≠ 132 → e ≠ 147 → bp E s6 e a n c l := fun {α E e a n c l} hr hne hne2 => by
    have h4 := notmb hr;have h5' := gQ h4 hrd4 hne m5;refine h5'.mod u6 fun g hg hb => ?_
    have : g = w := by simpa using hb
    subst this;rcases h5'.shape with ⟨rfl, _⟩ | ⟨g', rfl⟩
    ·simp [Fw.aU] at hg
    ·simp [Fw.aU] at hg; subst hg;obtain ⟨cur, q2⟩ := h5'.ty rfl;rw [k5] at q2; cases q2; exact hne2 rfl
   have mapoff : ∀ k es c, (s3.aS mb o) k = some (.map es c) → s6 k = some (.map es c) := fun k es c hk => by
    have h5' : s5 k = some (.map es c) := m5.at hk fun hb => by
     rcases hrd4.row.shape with ⟨e0, _⟩ | ⟨g', e0⟩
     ·rw [e0] at hb; simp [Fw.aU] at hb
     ·rw [e0] at hb; simp [Fw.aU] at hb; subst hb;obtain ⟨cur, q2⟩ := hrd4.row.ty e0;rw [hk] at q2; cases q2
    refine u6.at h5' fun hb => ?_
    have : k = w := by simpa using hb
    subst this;rw [k5] at h5'; cases h5'
   have md6 : Fw.Mod [] s0 s6 := h5.md.fresh u6 (by simp [hx.w0])
   have r6 : Gw qI 132 s0 s6 a5 (r.2.1 + 1) c5 (qs ++ [⟨p, (b, m, d)⟩]) := by
    refine ⟨h5.row.mod u6 fun g hg hb => ?_, h5.fr, md6⟩
    have : g = w := by simpa using hb
    subst this;exact h5.off k5 (by decide) hg
   have k6 : s6 w = some (wD S tt (sa, sn, sc) (a5, r.2.1 + 1, c5) mb mo) := by rw [hs6, PH.bB]; (first | done | rfl)
   have hkt : Kt s s6 := by
    refine (Kt.of m03).trans ?_;refine Kt.trans (s' := s3.aS mb o) (fun k cur e hk _ _ => ?_) (Kt.trans (s' := s5) (Kt.mod m5 fun g hg cur e hgc => .inr ?_) (Kt.mod u6 fun g hg cur e hgc => .inl ?_))
    ·refine u4.at hk fun hb => ?_
     have : k = mb := by simpa using hb
     subst this;rw [hmbs] at hk; cases hk
    ·rcases hrd4.row.shape with ⟨e0, _⟩ | ⟨g', e0⟩
     ·rw [e0] at hg; simp [Fw.aU] at hg
     ·rw [e0] at hg; simp [Fw.aU] at hg; subst hg;obtain ⟨cur2, q2⟩ := hrd4.row.ty e0;rw [hgc] at q2; cases q2; (first | done | rfl)
    ·have : g = w := by simpa using hg
     subst this;rw [k5] at hgc; cases hgc; (first | done | rfl)
   refine hJ _ _ ⟨(a2, n2, c2), rfl, ⟨(a5, r.2.1 + 1, c5), mb, mo, qs ++ [⟨p, (b, m, d)⟩], bs ++ [(p, (a2, n2, c2))], f, ?_⟩, moff (hG2.row.mod hG3.md (by simp)) (by decide) (by decide), hkt⟩;refine ⟨md6, hx.w0, k6, hx.mb0, hx.mo0, hx.ne, r6, ?_, ?_, ?_, ?_, ?_, ?_, hx.omk, hx.omp⟩
   ·rw [hadd, List.map_append, hx.rdq]; (first | done | rfl)
   ·intro q hq;rcases List.mem_append.1 hq with hq | hq
    ·exact moff (hx.seen q hq) (by decide) (by decide)
    ·simp only [List.mem_singleton] at hq;subst hq;exact moff hG3.row (by decide) (by decide)
   ·obtain ⟨es, cc, q1, q2⟩ := ho;exact ⟨es, cc, mapoff _ _ _ q1, q2⟩
   ·rw [hadd, List.map_append, hx.bmq]; (first | done | rfl)
   ·intro e he;rcases List.mem_append.1 he with he | he
    ·exact moff (hx.bv e he) (by decide) (by decide)
    ·simp only [List.mem_singleton] at he;subst he;exact moff (hG2.row.mod hG3.md (by simp)) (by decide) (by decide)
   ·obtain ⟨es, cc, q1, q2⟩ := hx.om;exact ⟨es, cc, mapoff _ _ _ (by rw [PH.bG _ _ hx.ne.symm]; exact q1), q2⟩
end
section
attribute [-simp] Fw.W.bC Fw.W.bA
theorem pg {α : Type} {E : cK α} {e : TypeId} {s s' : PH} {a : OA} {n c : Nat} {l : List α} {L : List Nat} (h : bp E s e a n c l) (hm : Fw.Mod L s s') (hL : ∀ g ∈ L, ∃ cur e', s g = some (.cells cur e' (0, 0)) ∧ e' ≠ e) : bp E s' e a n c l := by
 refine h.mod hm fun g hg hb => ?_;obtain ⟨cur, e', h1, h2⟩ := hL g hb;rcases h.shape with ⟨rfl, _⟩ | ⟨g', rfl⟩
 ·simp [Fw.aU] at hg
 ·simp [Fw.aU] at hg; subst hg;obtain ⟨c2, h3⟩ := h.ty rfl;rw [h1] at h3; cases h3;exact h2 rfl
def yB (s : PH) (L : List Nat) : Prop := ∀ g ∈ L, ∃ cur e, s g = some (.cells cur e (0, 0)) ∧ e ≠ 147 ∧ e ≠ 132 ∧ e ≠ 215 ∧ e ≠ 75
theorem EI.keep {s0 s s' : PH} {w : Nat} {S : aD} {tt sh : aP} {B : List Ht} {rds : List bJ} {ov : List Wr} {L : List Nat} (h : EI s0 s w S tt sh B rds ov) (hm : Fw.Mod L s s') (h0 : ∀ g ∈ L, s0 g = none) (hL : yB s L) : EI s0 s' w S tt sh B rds ov := by
 obtain ⟨r, mb, mo, qs, bs, f, h⟩ := h
 have hmap : ∀ k es c, s k = some (.map es c) → k ∉ L := fun k es c hk hb => by
  obtain ⟨cur, e, h1, _⟩ := hL k hb;rw [hk] at h1; cases h1
 have md : Fw.Mod [] s0 s' := h.md.fresh hm fun g hg => .inr (h0 g hg);refine ⟨r, mb, mo, qs, bs, f, md, h.w0, hm.at h.aU fun hb => ?_, h.mb0, h.mo0, h.ne, ⟨pg h.rd.row hm fun g hg => ?_, h.rd.fr, md⟩, h.rdq, fun q hq => pg (h.seen q hq) hm fun g hg => ?_, ?_, h.bmq, fun e he => pg (h.bv e he) hm fun g hg => ?_, ?_, h.omk, h.omp⟩
 ·obtain ⟨cur, e, h1, h2, _⟩ := hL w hb;rw [h.aU] at h1; cases h1;exact h2 rfl
 ·obtain ⟨cur, e, h1, h2, h3, h4, h5⟩ := hL g hg; exact ⟨cur, e, h1, h3⟩
 ·obtain ⟨cur, e, h1, h2, h3, h4, h5⟩ := hL g hg; exact ⟨cur, e, h1, h4⟩
 ·obtain ⟨es, c, h1, h2⟩ := h.bm;exact ⟨es, c, hm.at h1 (hmap _ _ _ h1), h2⟩
 ·obtain ⟨cur, e', h1, h2, h3, h4, h5⟩ := hL g hg; exact ⟨cur, e', h1, h5⟩
 ·obtain ⟨es, c, h1, h2⟩ := h.om;exact ⟨es, c, hm.at h1 (hmap _ _ _ h1), h2⟩
structure EJ (s0 s : PH) (w : Nat) (S : aD) (tt sh : aP) (B : List Ht) (rds : List bJ) (ov : List Wr) : Prop where
 ei : EI s0 s w S tt sh B rds ov
 cY : jr ov
 sm : ∀ x ∈ ov, x.key.size ≤ 4000000 ∧ x.val.size ≤ 4000000
 ol : ov.length ≤ 800000
section
variable {s0 s s' : PH} {w : Nat} {S : aD} {tt sh : aP} {B : List Ht} {rds : List bJ} {ov : List Wr}
theorem EJ.same (h : EJ s0 s w S tt sh B rds ov) (hm : Fw.Mod [] s s') : EJ s0 s' w S tt sh B rds ov := ⟨h.ei.same hm, h.cY, h.sm, h.ol⟩
theorem EJ.keep {L : List Nat} (h : EJ s0 s w S tt sh B rds ov) (hm : Fw.Mod L s s') (h0 : ∀ g ∈ L, s0 g = none) (hL : yB s L) : EJ s0 s' w S tt sh B rds ov := ⟨h.ei.keep hm h0 hL, h.cY, h.sm, h.ol⟩
theorem EJ.md (h : EJ s0 s w S tt sh B rds ov) : Fw.Mod [] s0 s := h.ei.md
end
theorem wG (ts : Int) (l : List Ht) (x : Wr) : (eA ts l x).length ≤ l.length + 1 := by
 have h1 := congrArg List.length (List.takeWhile_append_dropWhile (p := fun h : Ht => bO h.key x.key) (l := l));have h2 := List.length_filter_le (fun h : Ht => decide (h.key ≠ x.key)) (l.dropWhile fun h => bO h.key x.key)
 have h3 : (gO ts x).length ≤ 1 := by unfold gO; split <;> simp
 rw [List.length_append] at h1;unfold eA;rw [List.length_append, List.length_append]; omega
theorem oM (ts : Int) : ∀ (ws : List Wr) (l : List Ht), (aq ts l ws).length ≤ l.length + ws.length
 | [], l => Nat.le_refl _
 | x :: ws, l => by
  have h1 := oM ts ws (eA ts l x);have h2 := wG ts l x
  show (aq ts (eA ts l x) ws).length ≤ _
  rw [List.length_cons]; omega
theorem gz {l : List Ht} {p : bJ} {h : Ht} (hh : h ∈ au l p) : h ∈ l := (List.mem_filter.1 hh).1
section
variable {s0 s : PH} {w : Nat} {S : aD} {tt sh : aP} {B : List Ht} {rds : List bJ} {ov : List Wr}
theorem gY (hB : iI s0 sh B) (hv : jr ov) (hs : ∀ x ∈ ov, x.key.size ≤ 4000000 ∧ x.val.size ≤ 4000000) : rM (aq 0 B ov) ∧ rN (aq 0 B ov) := by
 refine ⟨fun h hh => ?_, fun h hh => ?_⟩
 ·rcases (jh _ hB.cY hv h).1 hh with ⟨x, hx, _, rfl⟩ | ⟨hl, _⟩
  ·have := (hs x hx).1; dsimp only; omega
  ·exact hB.ks h hl
 ·rcases (jh _ hB.cY hv h).1 hh with ⟨x, hx, _, rfl⟩ | ⟨hl, _⟩
  ·exact (hs x hx).2
  ·exact hB.vs h hl
theorem tZ (hB : iI s0 sh B) (h : ov.length ≤ 800000) (p : bJ) : (au (aq 0 B ov) p).length ≤ 900000 := by
 have h1 : (au (aq 0 B ov) p).length ≤ (aq 0 B ov).length := List.length_filter_le _ _;have h2 := oM 0 ov B;have h3 := hB.sl.len;have h4 := hB.cO;omega
theorem vD (hB : iI s0 sh B) (h : EJ s0 s w S tt sh B rds ov) (hrl : rds.length ≤ 4000000) (p : bJ) (hp1 : p.1.size ≤ 4000000) :
  ah 185 #[cp w, nv p] s fun y s' => ∃ a n c, y = .slice a n c ∧ Gw bl 75 s0 s' a n c (au (aq 0 B ov) p) ∧ EJ s0 s' w S tt sh B (gf rds p) ov ∧ Kt s s' := by
 refine (IU hB h.cY h.ol h.ei hrl p hp1).mono ?_;rintro _ s1 ⟨a, n, c, rfl, h1, h2, h3⟩;exact ⟨a, n, c, rfl, h1, ⟨h2, h.cY, h.sm, h.ol⟩, h3⟩
end
theorem sA (rds : List bJ) (p : bJ) : (gf rds p).length ≤ rds.length + 1 := by unfold gf; split <;> simp
def bI (rds : List bJ) (l : List bJ) : List bJ := l.foldl gf rds
theorem eH : ∀ (l rds : List bJ), (bI rds l).length ≤ rds.length + l.length
 | [], rds => Nat.le_refl _
 | p :: l, rds => by
  have h1 := eH l (gf rds p);have h2 := sA rds p
  show (bI (gf rds p) l).length ≤ _
  rw [List.length_cons]; omega
theorem cN (rds l m : List bJ) : bI rds (l ++ m) = bI (bI rds l) m := List.foldl_append
def Nw (s : PH) (a : OA) : Prop := ∀ g ∈ Fw.aU a, ∀ cur e, s g = some (.cells cur e (0, 0)) → e = 147 ∨ e = 132
theorem Nw.of {s : PH} {a : OA} (h : ∀ g ∈ Fw.aU a, s g = none) : Nw s a := fun g hg cur e he => by rw [h g hg] at he; cases he
theorem Nw.back {s s' : PH} {a : OA} (hk : Kt s s') (h : Nw s' a) : Nw s a := fun g hg cur e he => by
 by_cases h1 : e = 147
 ·exact .inl h1
 ·by_cases h2 : e = 132
  ·exact .inr h2
  ·exact h g hg cur e (hk g cur e he h1 h2)
theorem Nw.none (s : PH) : Nw s none := fun g hg => by simp [Fw.aU] at hg
theorem Kt.nw {s s1 s2 : PH} {a : OA} (hk : Kt s s1) (hm : Fw.Mod (Fw.aU a) s1 s2) (hn : Nw s a) : Kt s s2 := fun k cur e h1 h2 h3 =>
 hm.at (hk k cur e h1 h2 h3) fun hb => by rcases hn k hb cur e h1 with g | g; exact h2 g; exact h3 g
theorem fq.since {s0 s1 s2 : PH} {a : OA} {n c : Nat} {L : List Rw} {qs : List iu} (h : fq s1 s2 a n c L qs) (hm : Fw.Mod [] s0 s1) : fq s0 s2 a n c L qs :=
 ⟨⟨h.gw.row, fun g hg => hm.none (h.gw.fr g hg) (by simp), hm.trans h.gw.md⟩, h.eq, fun q hq => ⟨(h.cs q hq).1, fun g hg => hm.none ((h.cs q hq).2 g hg) (by simp)⟩⟩
theorem fq.apart {s0 s : PH} {a : OA} {n c : Nat} {L : List Rw} {qs : List iu} (h : fq s0 s a n c L qs) : yB s (Fw.aU a) := fun g hg => by
 rcases h.gw.row.shape with ⟨rfl, _⟩ | ⟨g', rfl⟩
 ·simp [Fw.aU] at hg
 ·simp [Fw.aU] at hg; subst hg;obtain ⟨cur, hc⟩ := h.gw.row.ty rfl;exact ⟨cur, _, hc, by decide, by decide, by decide, by decide⟩
theorem uE (t : Int) (v : aK) : (iL t v).size ≤ 1120 := gu _
section
variable {s0 s : PH} {w : Nat} {S : aD} {tt sh : aP} {B : List Ht} {rds : List bJ} {ov : List Wr}
theorem zh (hB : iI s0 sh B) (h : EJ s0 s w S tt sh B rds ov) (hrl : rds.length ≤ 4000000) {p : aC} (hp : fY s0 p) (hc : p.T.cols ≠ []) (v : aK) :
  ah 121 #[cp w, dX p.T p.c p.x p.k, fm v] s fun y s' => ∃ a n c qs, y = .slice a n c ∧ fq s0 s' a n c (gC p.T v (aq 0 B ov)) qs ∧ Nw s a ∧ EJ s0 s' w S tt sh B (gf rds (bP p.T.id v)) ov ∧ Kt s s' := by
 refine Jp w p.T.id p.T.name p.c.1 p.c.2.1 p.c.2.2 p.x.1 p.x.2.1 p.x.2.2 p.k.1 p.k.2.1 p.k.2.2 v.kind v.n v.s _ s ?_;unfold Cz;simp only [aT, aR, aE];refine aH ((iL p.T.id v, ()), ()) (El p.T.id v s) rfl ?_;have hsz := uE p.T.id v;refine (W.aZ _ _ _).2 ⟨by dsimp only; omega, ?_⟩;refine W.ak (vD hB h hrl (bP p.T.id v) (by show (iL p.T.id v).size ≤ 4000000; omega)) ?_;rintro _ s1 ⟨a, n, c, rfl, hG, hE, hk⟩;refine ⟨(((a, n, c), ()), ()), rfl, ?_⟩;have hn := hG.row.len;have hl := tZ hB h.ol (bP p.T.id v);have hds := gY hB h.cY h.sm;refine W.ak (tT (hp.mono hE.md.le) hc (Sl.bE hG.row (by omega)) (by dsimp only; omega) (fun x hx => hds.2 x (gz hx))) ?_;rintro _ s2 ⟨a2, n2, c2, qs, rfl, hR⟩;refine ⟨(((a2, n2, c2), ()), ()), rfl, ?_⟩;exact ⟨a2, n2, c2, qs, rfl, hR.since hE.md, Nw.back hk (Nw.of hR.gw.fr), hE.same hR.gw.md, hk.trans (Kt.of hR.gw.md)⟩
theorem BQ (hB : iI s0 sh B) (h : EJ s0 s w S tt sh B rds ov) (hrl : rds.length ≤ 4000000) (p : bJ) (hp1 : p.1.size ≤ 4000000) :
  ah 194 #[cp w, nv p] s fun y s' => ∃ a n c, y = .tuple #[.slice a n c, .int .i64 (if 64 < (au (aq 0 B ov) p).length then 156 else 0)] ∧ Gw bl 75 s0 s' a n c (if 64 < (au (aq 0 B ov) p).length then [] else au (aq 0 B ov) p) ∧ EJ s0 s' w S tt sh B (gf rds p) ov ∧ Kt s s' := by
 refine Hr w p.1 p.2 _ s ?_;unfold A8;simp only [aT, aO, aE];refine W.ak (vD hB h hrl p hp1) ?_;rintro _ s1 ⟨a, n, c, rfl, hG, hE, hk⟩;refine ⟨(((a, n, c), ()), ()), rfl, ?_⟩;have hn := hG.row.len;refine aI (fun e => ?_) fun e => ?_
 ·have e : (n : Int) > 64 := of_decide_eq_true e;rw [if_pos (by omega), if_pos (by omega)];exact ⟨none, 0, 0, rfl, Gw.nil hE.md, hE, hk⟩
 ·have e : ¬ (n : Int) > 64 := of_decide_eq_false e;rw [if_neg (by omega), if_neg (by omega)];exact ⟨a, n, c, rfl, hG, hE, hk⟩
theorem uK {l : List aK} : (under l).1.size ≤ 1120 := gu _
theorem Iu (T : aG) (D : List Ht) : eL T D = (if 64 < (au D (bZ T.id)).length then 156 else 0, iR T (if 64 < (au D (bZ T.id)).length then [] else au D (bZ T.id))) := by
 unfold eL; split <;> rfl
theorem Em (hB : iI s0 sh B) (h : EJ s0 s w S tt sh B rds ov) (hrl : rds.length ≤ 4000000) {p : aC} (hp : fY s0 p) (hc : p.T.cols ≠ []) :
  ah 190 #[cp w, dX p.T p.c p.x p.k] s fun y s' => ∃ a n c qs, y = .tuple #[.slice a n c, .int .i64 (eL p.T (aq 0 B ov)).1] ∧ fq s0 s' a n c (eL p.T (aq 0 B ov)).2 qs ∧ Nw s a ∧ EJ s0 s' w S tt sh B (gf rds (bZ p.T.id)) ov ∧ Kt s s' := by
 refine Jn w p.T.id p.T.name p.c.1 p.c.2.1 p.c.2.2 p.x.1 p.x.2.1 p.x.2.2 p.k.1 p.k.2.1 p.k.2.2 _ s ?_;unfold Cx;simp only [aT, aE];rw [Iu];refine aH (((bZ p.T.id).1, (bZ p.T.id).2, ()), ()) (Gs p.T.id s) rfl ?_;refine W.ak (BQ hB h hrl (bZ p.T.id) (by have : (bZ p.T.id).1.size ≤ 1120 := gu _; omega)) ?_;rintro _ s1 ⟨a, n, c, rfl, hG, hE, hk⟩;refine ⟨(((a, n, c), ()), (_, ()), ()), rfl, ?_⟩;have hn := hG.row.len;have hl := tZ hB h.ol (bZ p.T.id);have hds := gY hB h.cY h.sm
 have hlen : (if 64 < (au (aq 0 B ov) (bZ p.T.id)).length then [] else au (aq 0 B ov) (bZ p.T.id)).length ≤ 900000 := by split; exact Nat.zero_le _; exact hl
 refine W.ak (tT (hp.mono hE.md.le) hc (Sl.bE hG.row (by omega)) (by dsimp only; omega) (fun x hx => ?_)) ?_
 ·split at hx
  ·simp at hx
  ·exact hds.2 x (gz hx)
 rintro _ s2 ⟨a2, n2, c2, qs, rfl, hR⟩;refine ⟨(((a2, n2, c2), ()), ()), rfl, ?_⟩;exact ⟨a2, n2, c2, qs, rfl, hR.since hE.md, Nw.back hk (Nw.of hR.gw.fr), hE.same hR.gw.md, hk.trans (Kt.of hR.gw.md)⟩
end
end
section
attribute [-simp] Fw.W.bC Fw.W.bA
theorem jn (v w : aK) : (v.kind == w.kind && (v.n == w.n && (v.s == w.s && true))) = decide (v = w) := by
 obtain ⟨a, b, c⟩ := v;obtain ⟨d, e, f⟩ := w;simp only [aK.mk.injEq, Bool.and_true];rw [Bool.eq_iff_iff];simp only [Bool.and_eq_true, beq_iff_eq, decide_eq_true_eq]
theorem oU {α : Type} {f : α → Bool} {l : List α} {k : Nat} {x : α} (h : l[k]? = some x) : (l.take (k + 1)).filter f = (l.take k).filter f ++ (if f x = true then [x] else []) := by
 rw [List.take_add_one, h];simp only [Option.toList_some, List.filter_append, List.filter_cons, List.filter_nil]
theorem EW (a : OA) : a.map (·.add 0) = a := by cases a <;> simp [add_zero]
theorem rW {α : Type} (p : α → Bool) (l : List α) : (aJ p l 0 = -1 ∧ ∀ x ∈ l, p x = false) ∨ ∃ (j : Nat) (x : α), aJ p l 0 = (j : Int) ∧ l[j]? = some x ∧ p x = true ∧ ∀ j' y, j' < j → l[j']? = some y → p y = false := by
 rcases iX (p := p) l 0 with h | ⟨j, x, h1, h2, h3, h4⟩
 ·exact .inl h
 ·exact .inr ⟨j, x, by simpa using h1, h2, h3, h4⟩
theorem nc {α : Type} (p : α → Bool) (l : List α) : (aJ p l 0 = -1 ∧ l.find? p = none) ∨ ∃ (j : Nat) (x : α), aJ p l 0 = (j : Int) ∧ l[j]? = some x ∧ l.find? p = some x := by
 rcases rW p l with ⟨h1, h2⟩ | ⟨j, x, h1, h2, h3, h4⟩
 ·exact .inl ⟨h1, List.find?_eq_none.2 fun x hx => by simp [h2 x hx]⟩
 ·refine .inr ⟨j, x, h1, h2, ?_⟩;obtain ⟨hj, hx⟩ := List.getElem?_eq_some_iff.1 h2;refine List.find?_eq_some_iff_getElem.2 ⟨h3, j, hj, hx, fun i hi => ?_⟩;rw [h4 i _ hi (List.getElem?_eq_getElem (by omega))]; (first | done | rfl)
theorem D2 {zero : List Value} (h : ∀ v ∈ zero, v.oneCell' = true) (N : Nat) : (Builtin.zeroCells zero.toArray N).toList.length = N * zero.length ∧ ∀ v ∈ (Builtin.zeroCells zero.toArray N).toList, v.oneCell' = true := by
 refine ⟨by simp [Builtin.zeroCells], fun v hv => ?_⟩;simp only [Builtin.zeroCells, Array.toList_map, Array.toList_range, List.mem_map, List.mem_range, List.size_toArray] at hv;obtain ⟨i, hi, rfl⟩ := hv
 have hpos : 0 < zero.length := by
  rcases Nat.eq_zero_or_pos zero.length with q | q
  ·rw [q] at hi; omega
  ·exact q
 have hlt := Nat.mod_lt i hpos;rw [getElem!_pos _ _ (by simpa using hlt)];exact h _ (by simp)
theorem Ez {α : Type} {E : cK α} {s : PH} {e : TypeId} {a : OA} {m c N : Nat} {xs : List α} {zero : List Value} {K : W.T} (h : bp E s e a m c xs) (hz : zero.length = E.sz) (h1 : ∀ v ∈ zero, v.oneCell' = true) (hN : m + N ≤ c)
  (hK : ∀ s', bp E s' e a m c xs → Fw.Mod (Fw.aU a) s s' → K s') : W.nR zero (if c = m then a else a.map (·.add (m * E.sz))) N K s := by
 obtain ⟨hl, ho⟩ := D2 h1 N;rw [hz] at hl;unfold W.nR
 generalize (Builtin.zeroCells zero.toArray N).toList = news at hl ho
 by_cases hc : c = m
 ·subst hc
  have hN0 : N = 0 := by omega
  subst hN0;have : news = [] := List.length_eq_zero_iff.1 (by rw [hl, Nat.zero_mul]);subst this;rw [if_pos rfl]
  cases a with
  | none => exact hK s h (Mod.refl _ _)
  | some a => exact ⟨fun i hi => absurd hi (Nat.not_lt_zero _), fun v hv => by simp at hv, hK s h (Mod.refl _ _)⟩
 ·rw [if_neg hc];obtain ⟨g1, g2, g3, ⟨rfl, rfl, rfl⟩ | ⟨g, cur, rfl, hg, hcc, ht⟩⟩ := id h
  ·exact absurd rfl hc
  ·simp only [Option.map_some, bf, Nat.zero_add];have hb : (m + N) * E.sz ≤ cur.size := Nat.le_trans (Nat.mul_le_mul_right _ hN) hcc;rw [Nat.add_mul] at hb;refine ⟨fun i hi => ?_, ho, ?_⟩
   ·rw [bf];refine ⟨?_, ?_⟩
    ·unfold PH.cell?; dsimp only; rw [hg]
     have : m * E.sz + i < cur.size := by omega
     simp [this]
    ·unfold PH.frozen?; dsimp only; rw [hg]; simp
   ·cases news with
    | nil => exact hK s h (Mod.refl _ _)
    | cons v news =>
     rw [PH.jU (e := e) (f := (0, 0)) rfl (v :: news) 0 cur s hg (by simp)];refine hK _ ⟨g1, g2, g3, .inr ⟨g, _, rfl, PH.bB _ _ _, by rw [eJ]; exact hcc, ?_⟩⟩ (Mod.aS (by simp [Fw.aU]));simp only [Nat.add_zero];rw [fQ _ _ _ (by omega), ← ht];rw [List.append_assoc, List.take_append_of_le_length (by simp; omega), List.take_take, Nat.min_self]
structure vv (l : List aY) : Prop where
 put : de 0 l = true
 ok : ∀ c ∈ l, BG c
 cO : l.length ≤ 4000000
theorem wN {l : List aY} : l.length ≤ (l.flatMap cW).length := by
 induction l with
 | nil => simp
 | cons c l ih =>
  rw [List.flatMap_cons, List.length_append, List.length_cons]
  have : 0 < (cW c).length := by unfold cW; simp
  omega
theorem vO {x : BA} {l : List aY} (hx : x.size ≤ 4000000) (h : gA x = some l) : vv l := by
 obtain ⟨h1, h2, h3, _⟩ := nh h;refine ⟨h2, h3, ?_⟩;have h4 := wN (l := l);rw [h1, cE] at hx;omega
structure yP (T : aG) (r : Rw) : Prop where
 cs : vv r.cells
 ne : r.cells ≠ []
 key : r.key = bh r.cells (eT T)
theorem EC {T : aG} {h : Ht} {r : Rw} (hx : h.val.size ≤ 4000000) (e : ff T h = some r) : yP T r := by
 unfold ff at e
 cases hg : gA h.val with
 | none => rw [hg] at e; cases e
 | some l =>
  rw [hg] at e
  cases l with
  | nil => cases e
  | cons c l =>
   cases e;exact ⟨vO hx hg, by simp, rfl⟩
theorem As {T : aG} {l : List Ht} (hv : rN l) : ∀ r ∈ iR T l, yP T r := fun r hr => by
 obtain ⟨h, hh, e⟩ := List.mem_filterMap.1 hr;exact EC (hv h hh) e
theorem B9 {T : aG} {k : aK} {D : List Ht} (hv : rN D) : ∀ r ∈ gC T k D, yP T r := As fun h hh => hv h (gz hh)
theorem qZ {T : aG} {D : List Ht} (hv : rN D) : ∀ r ∈ (eL T D).2, yP T r := by
 unfold eL
 split
 ·intro r hr; simp at hr
 ·exact As fun h hh => hv h (gz hh)
theorem wT {T : aG} {b : cz} {D : List Ht} (hv : rN D) : ∀ r ∈ (aV T b D).2, yP T r := by
 unfold aV
 split
 ·exact qZ hv
 ·split
  ·exact B9 hv
  ·split
   ·intro r hr; exact qZ hv r (List.mem_filter.1 hr).1
   ·split
    ·intro r hr; simp at hr
    ·intro r hr;obtain ⟨k, _, hk⟩ := List.mem_flatMap.1 hr;exact B9 hv r hk
theorem qL (T : aG) (l : List Ht) : (iR T l).length ≤ l.length := List.length_filterMap_le _ _
abbrev lP (b : cz) (t : aP) : Obj := .cells #[.int .i64 b.kind, .int .i64 b.table, .slice t.1 t.2.1 t.2.2, .int .i64 b.set, .int .i64 b.to.kind, .int .i64 b.to.n, .string b.to.s, .int .i64 b.whr, .int .i64 b.is.kind, .int .i64 b.is.n, .string b.is.s] 127 (0, 0)
abbrev nC (b : cz) (t : aP) : Value := .agg #[.int .i64 b.kind, .int .i64 b.table, .slice t.1 t.2.1 t.2.2, .int .i64 b.set, .int .i64 b.to.kind, .int .i64 b.to.n, .string b.to.s, .int .i64 b.whr, .int .i64 b.is.kind, .int .i64 b.is.n, .string b.is.s]
abbrev qz (x : ez) : Den [.int .i64, .str, .int .i64, .bool, .int .i64] := (x.id, x.name, x.column, x.unique, x.state, ())
theorem Es {s : PH} {p : Nat} {b : cz} {t : aP} (hp : s p = some (lP b t)) (x : ez) : ah 191 #[GI x, cp p] s fun y s' => y = .bool (rj b.whr x) ∧ s' = s := by
 refine Dy x.id x.name x.column x.unique x.state p _ s ?_;unfold vm;simp only [bH, aO, aE, bf, Nat.zero_add];refine (W.aB hp _ _ _ _).2 ⟨(b.whr, ()), rfl, ?_⟩;dsimp only;unfold rj;refine aI (fun e => ?_) fun e => ?_
 ·exact ⟨by rw [e, Bool.true_and], rfl⟩
 ·exact ⟨by rw [e, Bool.false_and], rfl⟩
theorem yg {s : PH} {a : OA} {n c p : Nat} {l : List ez} {b : cz} {t : aP} (h : Sl j6 s (a, n, c) l) (hp : s p = some (lP b t)) :
  ah 90 #[.slice a n c, .func (.func 191) #[] #[cp p]] s fun y s' => y = .int .i64 (aJ (rj b.whr) l 0) ∧ s' = s := by
 refine we a n c p _ s ?_;unfold oB;exact jK qz h (fun _ => rfl) (fun x _ => Es hp x) ⟨rfl, rfl⟩
def ni (b : cz) (r : Rw) : Bool := decide (bh r.cells b.whr = b.is)
theorem wK {s : PH} {p : Nat} {b : cz} {t : aP} (hp : s p = some (lP b t)) {r : Rw} {u : aP} (hu : Sl bz s u r.cells) : ah 193 #[Ky r u, cp p] s fun y s' => y = .bool (!ni b r) ∧ s' = s := by
 obtain ⟨ua, un, uc⟩ := u;refine Dz r.key.kind r.key.n r.key.s ua un uc p _ s ?_;unfold vo;simp only [bH, bS, aE, bf, Nat.zero_add];refine (W.aB hp _ _ _ _).2 ⟨(b.whr, ()), rfl, ?_⟩;refine W.cr (bM (bh r.cells b.whr), ()) (lf hu b.whr) rfl ?_;refine (W.aB hp _ _ _ _).2 ⟨(b.is.kind, b.is.n, b.is.s, ()), rfl, ?_⟩;refine ⟨?_, rfl⟩;dsimp only;rw [jn]; (first | done | rfl)
theorem yd {s : PH} {a : OA} {n c p : Nat} {qs : List iu} {b : cz} {t : aP} (h : Sl lW s (a, n, c) qs) (hc : ∀ q ∈ qs, Sl bz s q.u q.r.cells) (hp : s p = some (lP b t)) :
  ah 238 #[.slice a n c, .func (.func 193) #[] #[cp p]] s fun y s' => y = .int .i64 (aJ (fun q : iu => !ni b q.r) qs 0) ∧ s' = s := by
 refine vX a n c p _ s ?_;unfold oy;exact jK (fun q : iu => xl q.r q.u) h (fun _ => rfl) (fun q hq => wK hp (hc q hq)) ⟨rfl, rfl⟩
theorem fq.cells {s0 s : PH} {a : OA} {n c : Nat} {L : List Rw} {qs : List iu} (h : fq s0 s a n c L qs) (hf : ∀ r ∈ L, r.cells.length ≤ 4000000) : ∀ q ∈ qs, Sl bz s q.u q.r.cells := fun q hq => by
 refine Sl.bE (h.cs q hq).1 ?_;have := hf q.r (by rw [← h.eq]; exact List.mem_map_of_mem hq);omega
theorem JQ {s0 s : PH} {a : OA} {n c p : Nat} {L : List Rw} {qs : List iu} {b : cz} {t : aP} (h : fq s0 s a n c L qs) (hf : ∀ r ∈ L, r.cells.length ≤ 4000000) (hn : n ≤ 100000000) (hp : s p = some (lP b t)) :
  ah 192 #[.slice a n c, .func (.func 193) #[] #[cp p]] s fun y s' =>
   ∃ m qs', y = .slice a m c ∧ fq s0 s' a m c (L.filter (ni b)) qs' ∧ Fw.Mod (Fw.aU a) s s' := by
 refine vT a n c p _ s ?_;unfold ot;have hlen : n = qs.length := h.gw.row.len;have hle := h.gw.row.le;have hpa : p ∉ Fw.aU a := h.gw.off hp (by decide)
 obtain ⟨keep, hkeep⟩ : ∃ keep : iu → Bool, (fun q => ni b q.r) = keep := ⟨_, rfl⟩
 have hgk : (fun q : iu => !ni b q.r) = fun q => !keep q := by rw [← hkeep]
 have hLf : L.filter (ni b) = (qs.filter keep).map (·.r) := by rw [← h.eq, ← hkeep, List.filter_map]; (first | done | rfl)
 simp only [aO, aT, aE, gX, bH, aM, aR, aQ, qe];have hidx := yd (c := c) (Sl.bE (t := (a, n, c)) h.gw.row (by omega)) (h.cells hf) hp;rw [hgk] at hidx;refine aH ((aJ (fun q => !keep q) qs 0, ()), ()) hidx rfl ?_;rcases rW (fun q => !keep q) qs with ⟨h1, h2⟩ | ⟨i0, x0, h1, hx0, h3, h4⟩
 ·rw [h1];refine (W.af _ _ _ _).2 ⟨fun _ => ⟨n, qs, rfl, ?_, Mod.refl _ _⟩, fun e => by cases e⟩
  have : qs.filter keep = qs := List.filter_eq_self.2 fun x hx => by have := h2 x hx; simpa using this
  rw [hLf, this]; exact ⟨h.gw, rfl, h.cs⟩
 rw [h1];have hi0 := (List.getElem?_eq_some_iff.1 hx0).1;refine aI (fun e => ?_) fun _ => ?_
 ·have e : ((i0 : Int) == -1) = true := e;have : (i0 : Int) = -1 := eq_of_beq e;omega
 dsimp only;rw [ai (k := i0) (by omega)]
 have hbeg : (qs.take (i0 + 1)).filter keep = qs.take i0 := by
  rw [oU hx0]
  have h3' : keep x0 = false := by simpa using h3
  rw [h3'];simp only [Bool.false_eq_true, if_false, List.append_nil];refine List.filter_eq_self.2 fun x hx => ?_;obtain ⟨j, hj⟩ := List.mem_iff_getElem?.1 hx;rw [List.getElem?_take] at hj
  split at hj
  ·have := h4 j x ‹_› hj; simpa using this
  ·cases hj
 refine ⟨fun z s' => ∃ (i j : Nat) (ys : List iu), z = (((i : Int), ()), ((j : Int), ()), ()) ∧ i < j ∧ j ≤ n ∧ bp lW s' 234 a n c ys ∧ Fw.Mod (Fw.aU a) s s' ∧ ys.take i = (qs.take j).filter keep ∧ ys.drop j = qs.drop j, fun z _ => n - z.2.1.1.toNat,
  ⟨i0, i0 + 1, qs, rfl, by omega, by omega, h.gw.row, Mod.refl _ _, hbeg.symm, rfl⟩, ?_⟩
 rintro _ s1 ⟨i, j, ys, rfl, hij, hjn, hrow, m1, htk, hdr⟩;have hyl : n = ys.length := hrow.len;have hcs : ∀ q ∈ qs, bp bz s1 94 q.u.1 q.u.2.1 q.u.2.2 q.r.cells := fun q hq => gQ (h.cs q hq).1 h.gw (by decide) m1;dsimp only;refine aI (fun hlt => ?_) fun hge => ?_
 ·have hlt : (j : Int) < (n : Int) := of_decide_eq_true hlt
  obtain ⟨x, hx⟩ : ∃ x, qs[j]? = some x := ⟨_, List.getElem?_eq_getElem (by omega)⟩
  have hy : ys[j]? = some x := by
   have e1 : (ys.drop j)[0]? = (qs.drop j)[0]? := by rw [hdr]
   simpa [List.getElem?_drop, hx] using e1
  have hxm := List.mem_of_getElem? hx;obtain ⟨g, rfl, hh⟩ := hrow.at hy
  have hh' : s1.has ((Addr.mk g 0 none).add (j * 4)) (lW.f x) := by rw [bf, Nat.zero_add]; exact hh
  refine bF ⟨Int.natCast_nonneg j, hlt⟩ ?_;simp only [dj, Int.toNat_natCast];refine az hh' (y := xl x.r x.u) rfl ?_;have hcg := wK (m1.at hp hpa) (Sl.bE (t := x.u) (hcs x hxm) (by have := hf x.r (by rw [← h.eq]; exact List.mem_map_of_mem hxm); omega));have hgx : (!ni b x.r) = !keep x := congrFun hgk x;rw [hgx] at hcg;refine aH ((!keep x, ()), ()) hcg rfl ?_;have hst := oU (f := keep) hx
  have hdr' : ys.drop (j + 1) = qs.drop (j + 1) := by rw [← List.drop_drop, hdr, List.drop_drop]
  dsimp only;refine aI (fun hk => ?_) fun hk => ?_
  ·have hk : keep x = true := by simpa using hk
   refine bF ⟨Int.natCast_nonneg i, by omega⟩ ?_;simp only [dj, Int.toNat_natCast, bf, Nat.zero_add]
   obtain ⟨y, hyi⟩ : ∃ y, ys[i]? = some y := ⟨_, List.getElem?_eq_getElem (by omega)⟩
   refine bp.st (E := lW) (i := i) (j := 0) (x' := x) (vs := lW.f x) hrow hyi rfl (by rw [lW.len]; exact Nat.le_refl _) (by simp [lW]) (lW.one x) rfl fun s2 h2 m2 => ?_;rw [ai (k := i) (by omega), ai (k := j) (by omega)];refine ⟨⟨i + 1, j + 1, ys.set i x, rfl, by omega, by omega, h2, m1.trans (m2.mono fun z hz => by simpa [Fw.aU] using hz), ?_, ?_⟩, by simp only [Int.toNat_natCast]; omega⟩
   ·rw [hst, hk, if_pos rfl, ← htk, List.take_add_one, List.getElem?_set_self (by omega), List.take_set_of_le (Nat.le_refl _)]; (first | done | rfl)
   ·rw [List.drop_set_of_lt (by omega)]; exact hdr'
  ·have hk : keep x = false := by simpa using hk
   rw [ai (k := j) (by omega)];refine ⟨⟨i, j + 1, ys, rfl, by omega, by omega, hrow, m1, ?_, hdr'⟩, by simp only [Int.toNat_natCast]; omega⟩;rw [hst, hk];simpa using htk
 ·have hge : ¬ (j : Int) < (n : Int) := of_decide_eq_false hge
  have hje : j = n := by omega
  subst hje;have hall : qs.take j = qs := List.take_of_length_le (by omega);rw [hall] at htk
  have hpre : bp lW s1 234 a i c (ys.take i) := by
   have := hrow.shrink (m := i) (c' := c) (by omega) (by omega) (Nat.le_refl _)
   have e : (if a = none then none else a) = a := by cases a <;> simp
   rwa [e] at this
  rw [htk] at hpre;refine bF ⟨by omega, by omega, by omega⟩ ?_;simp only [Int.toNat_natCast];refine Ez hpre rfl (by simp [Value.oneCell']) (by omega) fun s2 h2 m2 => ?_;refine bF ⟨by omega, by omega, by omega⟩ ?_
  have he : (if c = 0 then a else Option.map (fun x => x.add 0) a) = a := by split <;> simp [EW]
  refine ⟨i, qs.filter keep, ?_, ⟨⟨h2, h.gw.fr, h.gw.md.fresh (m1.trans m2) fun g hg => .inr (h.gw.fr g hg)⟩, hLf.symm, fun q hq => ?_⟩, m1.trans m2⟩
  ·simp only [he, Nat.sub_zero, Int.toNat_natCast]
  ·have hqm := (List.mem_filter.1 hq).1;exact ⟨gQ (h.cs q hqm).1 h.gw (by decide) (m1.trans m2), (h.cs q hqm).2⟩
theorem fq.cat {s0 s : PH} {a b : OA} {n c m d : Nat} {L M : List Rw} {qs ps : List iu} {K : OA → Nat → Nat → W.T} (h : fq s0 s a n c L qs) (h2 : fq s0 s b m d M ps) (hl : n + m ≤ 1000000000)
  (hK : ∀ a' c' s', fq s0 s' a' (n + m) c' (L ++ M) (qs ++ ps) → Fw.Mod (Fw.aU a) s s' → (a' = a ∨ ∀ g ∈ Fw.aU a', s g = none) → K a' (n + m) c' s') :
  W.app 234 4 56 [.int .i64 0, .int .i64 0, .string ⟨#[]⟩, .slice none 0 0] a n c (Src.sl b m) K s := by
 have hmax : maxLen = 9223372036854775807 := rfl;have hlp := h2.gw.row.len;have hsl : Sl lW s (b, m, d) ps := Sl.bE h2.gw.row (by omega);refine iU h.gw.row rfl (ys := ps) (k := m) hsl.el.kX rfl hlp.symm (by omega) (by omega) ?_;intro a' c' s' h' hm
 have m1 : Fw.Mod (Fw.aU a) s s' := by
  rcases hm with ⟨rfl, hm⟩ | ⟨g, rfl, hg, hm⟩
  ·exact hm
  ·exact hm.mono (by simp)
 refine hK a' c' s' ⟨⟨h', ?_, h.gw.md.fresh m1 fun g hg => .inr (h.gw.fr g hg)⟩, by rw [List.map_append, h.eq, h2.eq], fun q hq => ?_⟩ m1 ?_
 ·rcases hm with ⟨rfl, _⟩ | ⟨g, rfl, hg, _⟩
  ·exact h.gw.fr
  ·intro g' hg'
   have : g' = g := by simpa [Fw.aU] using hg'
   subst this;exact h.gw.md.none hg (by simp)
 ·rcases List.mem_append.1 hq with hq | hq
  ·exact ⟨gQ (h.cs q hq).1 h.gw (by decide) m1, (h.cs q hq).2⟩
  ·exact ⟨gQ (h2.cs q hq).1 h.gw (by decide) m1, (h2.cs q hq).2⟩
 ·rcases hm with ⟨rfl, _⟩ | ⟨g, rfl, hg, _⟩
  ·exact .inl rfl
  ·exact .inr fun g' hg' => by
    have : g' = g := by simpa [Fw.aU] using hg'
    subst this; exact hg
end
section
attribute [-simp] Fw.W.bC Fw.W.bA
theorem wR {l : List Ht} {k : Nat} {h : Ht} (hk : l[k]? = some h) : dZ (l.take (k + 1)) = dZ (l.take k) ++ (o6 h.key).toList := by
 unfold dZ;rw [List.take_add_one, hk, List.filterMap_append]
 congr 1
theorem Ap (T : aG) (v : aK) (D : List Ht) : (gC T v D).length ≤ (au D (bP T.id v)).length := qL _ _
theorem aN {a : OA} {ad : Addr} {k : Addr → W.T} {s : PH} (h : a = some ad) (hk : k ad s) : W.aa a k s := by subst h; exact (W.ay _ _ _).2 hk
section
variable {s0 s : PH} {w : Nat} {S : aD} {tt sh : aP} {B : List Ht} {rds : List bJ} {ov : List Wr}
theorem sJ (hB : iI s0 sh B) (h : EJ s0 s w S tt sh B rds ov) (hrl : rds.length ≤ 3900000) {p : aC} (hp : fY s0 p) (hc : p.T.cols ≠ []) (b : cz) (t : aP) :
  ah 124 #[cp w, dX p.T p.c p.x p.k, nC b t] s fun y s' => ∃ a n c qs, y = .tuple #[.slice a n c, .int .i64 (aV p.T b (aq 0 B ov)).1] ∧ fq s0 s' a n c (aV p.T b (aq 0 B ov)).2 qs ∧ EJ s0 s' w S tt sh B (bI rds (bL p.T b (aq 0 B ov))) ov ∧ Kt s s' := by
 refine Fp w p.T.id p.T.name p.c.1 p.c.2.1 p.c.2.2 p.x.1 p.x.2.1 p.x.2.2 p.k.1 p.k.2.1 p.k.2.2 b.kind b.table t.1 t.2.1 t.2.2 b.set b.to.kind b.to.n b.to.s b.whr b.is.kind b.is.n b.is.s _ s ?_;unfold xW
 obtain ⟨D, hD⟩ : ∃ D, aq 0 B ov = D := ⟨_, rfl⟩
 obtain ⟨R, hR⟩ : ∃ R : Value → PH → Prop, (fun y s' => ∃ a n c qs, y = .tuple #[.slice a n c, .int .i64 (aV p.T b (aq 0 B ov)).1] ∧ fq s0 s' a n c (aV p.T b (aq 0 B ov)).2 qs ∧ EJ s0 s' w S tt sh B (bI rds (bL p.T b (aq 0 B ov))) ov ∧ Kt s s') = R := ⟨_, rfl⟩
 rw [hR];rw [hD] at hR;have hds := gY hB h.cY h.sm;have hdl := fun q => tZ hB h.ol q;have hrow := fun {s : PH} {rds : List bJ} (h : EJ s0 s w S tt sh B rds ov) (hrl : rds.length ≤ 4000000) => zh (p := p) hB h hrl hp hc;have hall := fun {s : PH} {rds : List bJ} (h : EJ s0 s w S tt sh B rds ov) (hrl : rds.length ≤ 4000000) => Em (p := p) hB h hrl hp hc;have hmany := fun {s : PH} {rds : List bJ} (h : EJ s0 s w S tt sh B rds ov) (hrl : rds.length ≤ 4000000) => BQ hB h hrl;rw [hD] at hds;simp only [hD] at hdl hrow hall hmany;simp only [cj, bH, aO, aT, aE, aR, aM, aQ, bS, dg, dj, bf, Nat.zero_add];refine W.bK fun r0 s1 hr0 m1 k0 => ?_;have k0 : s1 r0 = some (lP b t) := k0;have h1 := h.same m1;have t1 : Kt s s1 := Kt.of m1;have l0 : ∀ {s2 : PH} (K : Den [CT.int IntKind.i64] → W.T), s2 r0 = some (lP b t) → K (b.whr, ()) s2 → W.ld [.int .i64] ⟨r0, 7, none⟩ K s2 := fun K hk hK => (W.aB hk _ _ _ _).2 ⟨(b.whr, ()), rfl, hK⟩;have l1 : ∀ {s2 : PH} (K : Den [CT.int IntKind.i64, CT.int IntKind.i64, CT.str] → W.T), s2 r0 = some (lP b t) → K (b.is.kind, b.is.n, b.is.s, ()) s2 → W.ld [.int .i64, .int .i64, .str] ⟨r0, 8, none⟩ K s2 := fun K hk hK => (W.aB hk _ _ _ _).2 ⟨(b.is.kind, b.is.n, b.is.s, ()), rfl, hK⟩;refine l0 _ k0 ?_;dsimp only;refine aI (fun e => ?_) fun e => ?_
 ·have e : b.whr = 0 := eq_of_beq e
  have e1 : aV p.T b D = eL p.T D := by unfold aV; rw [if_pos e]
  have e2 : bL p.T b D = [bZ p.T.id] := by unfold bL; rw [if_pos e]
  refine W.ak (hall h1 (by omega)) ?_;rintro _ s2 ⟨a, n, c, qs, rfl, hq, hn, hE, hk⟩;refine ⟨(((a, n, c), ()), (_, ()), ()), rfl, ?_⟩;rw [← hR, e1, e2];exact ⟨a, n, c, qs, rfl, hq, hE, t1.trans hk⟩
 have hw0 : ¬ b.whr = 0 := by simpa using e
 refine l0 _ k0 ?_;have hcs := hp.c.mono h1.md.le
 obtain ⟨c0, hc0⟩ : ∃ c0, p.T.cols[0]? = some c0 := by
  cases hT : p.T.cols with
  | nil => exact absurd hT hc
  | cons x r => exact ⟨x, rfl⟩
 have hcol0 : eT p.T = c0.id := by unfold eT; rw [hc0]; (first | done | rfl)
 have hclen : p.c.2.1 = p.T.cols.length := hcs.len
 have hcpos : 0 < p.c.2.1 := by rw [hclen]; exact List.length_pos_iff.2 hc
 refine bF ⟨by omega, by omega⟩ ?_;obtain ⟨ac, hac, hhc⟩ := hcs.el.aA hc0;refine aN hac ?_
 have hhc : s1.has (ac.add 0) (dD.f c0) := by simpa using hhc
 refine bq (j := 0) hhc (y := (c0.id, ())) rfl ?_;dsimp only;refine aI (fun e => ?_) fun e => ?_
 ·have e : b.whr = c0.id := eq_of_beq e;rw [← hcol0] at e
  have e1 : aV p.T b D = (0, gC p.T b.is D) := by unfold aV; rw [if_neg hw0, if_pos e]
  have e2 : bL p.T b D = [bP p.T.id b.is] := by unfold bL; rw [if_neg hw0, if_pos e]
  refine l1 _ k0 ?_;refine W.ak (hrow h1 (by omega) b.is) ?_;rintro _ s2 ⟨a, n, c, qs, rfl, hq, hn, hE, hk⟩;refine ⟨(((a, n, c), ()), ()), rfl, ?_⟩;rw [← hR, e1, e2];exact ⟨a, n, c, qs, rfl, hq, hE, t1.trans hk⟩
 have hw1 : ¬ b.whr = eT p.T := by rw [hcol0]; simpa using e
 have hidx := yg (c := p.x.2.2) (hp.x.mono h1.md.le) k0;refine aH ((aJ (rj b.whr) p.T.idxs 0, ()), ()) hidx rfl ?_;rcases nc (rj b.whr) p.T.idxs with ⟨f1, f2⟩ | ⟨i, x, f1, f2, f3⟩
 ·rw [f1];refine (W.af _ _ _ _).2 ⟨fun _ => ?_, fun e => absurd e (by decide)⟩
  have e1 : aV p.T b D = ((eL p.T D).1, (eL p.T D).2.filter (ni b)) := by unfold aV oV; rw [if_neg hw0, if_neg hw1, f2]; (first | done | rfl)
  have e2 : bL p.T b D = [bZ p.T.id] := by unfold bL oV; rw [if_neg hw0, if_neg hw1, f2]
  refine W.ak (hall h1 (by omega)) ?_;rintro _ s2 ⟨a, n, c, qs, rfl, hq, hn, hE, hk⟩;refine ⟨(((a, n, c), ()), (_, ()), ()), rfl, ?_⟩
  have hal : (eL p.T D).2.length ≤ 900000 := by
   have := hdl (bZ p.T.id);unfold eL; split
   ·exact Nat.zero_le _
   ·exact Nat.le_trans (qL _ _) this
  have hql := hq.len;refine W.ak (JQ hq (fun r hr => (qZ hds.2 r hr).cs.cO) (by dsimp only; omega) (hk r0 _ _ k0 (by decide) (by decide))) ?_;rintro _ s3 ⟨m, qs', rfl, hq3, m3⟩;refine ⟨(((a, m, c), ()), ()), rfl, ?_⟩;rw [← hR, e1, e2];exact ⟨a, m, c, qs', rfl, hq3, hE.keep m3 hq.gw.fr hq.apart, (t1.trans hk).nw m3 (Nw.back t1 hn)⟩
 rw [f1];have hil := (List.getElem?_eq_some_iff.1 f2).1;refine aI (fun e => ?_) fun _ => ?_
 ·have e : (i : Int) < 0 := of_decide_eq_true e;omega
 have hxs := hp.x.mono h1.md.le;have hxl : p.x.2.1 = p.T.idxs.length := hxs.len;dsimp only;refine bF ⟨Int.natCast_nonneg i, by omega⟩ ?_;obtain ⟨ax, hax, hhx⟩ := hxs.el.aA f2;refine aN hax ?_;simp only [Int.toNat_natCast];have hhx : s1.has (ax.add (i * 5)) (j6.f x) := hhx;refine bq (j := 0) hhx (y := (x.id, ())) rfl ?_;refine l1 _ k0 ?_;refine W.cr (((cH x.id b.is).1, (cH x.id b.is).2, ()), ()) (zd x.id b.is s1) rfl ?_;have hes : (cH x.id b.is).1.size ≤ 1120 := gu _;refine W.ak (hmany h1 (by omega) (cH x.id b.is) (by omega)) ?_;rintro _ s2 ⟨ha, hn, hcp, rfl, hG, hE, hk⟩
 obtain ⟨H, hH⟩ : ∃ H, (if 64 < (au D (cH x.id b.is)).length then [] else au D (cH x.id b.is)) = H := ⟨_, rfl⟩
 obtain ⟨er, her⟩ : ∃ er : Int, (if 64 < (au D (cH x.id b.is)).length then 156 else 0) = er := ⟨_, rfl⟩
 refine ⟨(((ha, hn, hcp), ()), (er, ()), ()), by rw [her]; (first | done | rfl), ?_⟩;rw [hH] at hG
 have e1 : aV p.T b D = (er, (dZ H).flatMap fun k => gC p.T k D) := by
  unfold aV oV; rw [if_neg hw0, if_neg hw1, f3, ← hH, ← her]; dsimp only; split <;> rfl
 have e2 : bL p.T b D = cH x.id b.is :: (dZ H).map (bP p.T.id) := by
  unfold bL oV; rw [if_neg hw0, if_neg hw1, f3, ← hH]; dsimp only; split <;> rfl
 have hHl : H.length ≤ 64 := by rw [← hH]; split; exact Nat.zero_le _; omega
 have hHk : ∀ y ∈ H, y.key.size ≤ 140737488351232 := fun y hy => by
  rw [← hH] at hy
  split at hy
  ·simp at hy
  ·exact hds.1 y (gz hy)
 have hHn := hG.row.len;have t2 : Kt s s2 := t1.trans hk;dsimp only
 refine ⟨fun z s' => ∃ (k : Nat) (a : OA) (n c : Nat) (qs : List iu), z = ((p.T.id, p.T.name, p.c, p.x, p.k, ()), (er, ()), ((a, n, c), ()), ((ha, hn, hcp), ()), ((hn : Int), ()), ((k : Int), ()), ()) ∧ k ≤ hn ∧ n ≤ k * 900000 ∧ fq s0 s' a n c ((dZ (H.take k)).flatMap fun v => gC p.T v D) qs ∧ Nw s a ∧ EJ s0 s' w S tt sh B (bI (gf rds (cH x.id b.is)) ((dZ (H.take k)).map (bP p.T.id))) ov ∧ Kt s s' ∧ bp bl s' 75 ha hn hcp H,
  fun z _ => hn - z.2.2.2.2.2.1.1.toNat, ⟨0, none, 0, 0, [], rfl, Nat.zero_le _, Nat.zero_le _, ⟨Gw.nil hE.md, rfl, by simp⟩, Nw.none s, hE, t2, hG.row⟩, ?_⟩
 rintro _ s3 ⟨k, a, n, c, qs, rfl, hkn, hna, hq, hnw, hE3, t3, hH3⟩;dsimp only;refine aI (fun e => ?_) fun e => ?_;rotate_left
 ·have e : ¬ (k : Int) < (hn : Int) := of_decide_eq_false e;rw [List.take_of_length_le (by omega)] at hq hE3;rw [← hR, e1, e2];exact ⟨a, n, c, qs, rfl, hq, hE3, t3⟩
 have hlt : (k : Int) < (hn : Int) := of_decide_eq_true e
 obtain ⟨y, hy⟩ : ∃ y, H[k]? = some y := ⟨_, List.getElem?_eq_getElem (by omega)⟩
 obtain ⟨g, rfl, hh⟩ := hH3.at hy;refine bF ⟨Int.natCast_nonneg k, hlt⟩ ?_;simp only [dj, Int.toNat_natCast, bf, Nat.zero_add];have hh : s3.has ⟨g, k * 3, none⟩ (bl.f y) := hh;refine az hh (y := mH y) rfl ?_;have hks := wR hy;have hym := List.mem_of_getElem? hy
 have hrd : (bI (gf rds (cH x.id b.is)) ((dZ (H.take k)).map (bP p.T.id))).length ≤ 4000000 := by
  have g1 := eH ((dZ (H.take k)).map (bP p.T.id)) (gf rds (cH x.id b.is));have g2 := sA rds (cH x.id b.is);have g3 : (dZ (H.take k)).length ≤ (H.take k).length := List.length_filterMap_le _ _;rw [List.length_take] at g3;rw [List.length_map] at g1;omega
 rw [ai (k := k) (by omega)]
 cases hlv : o6 y.key with
 | none =>
  have hwk := ze y.key (hHk y hym) s3;unfold uo at hwk;simp only [hlv] at hwk;refine aH (bM kT, ((20 : Int), ()), ()) hwk (by unfold kT; (first | done | rfl)) ?_;refine (W.af _ _ _ _).2 ⟨fun e => (by cases e), fun _ => ?_⟩;refine ⟨⟨k + 1, a, n, c, qs, rfl, by omega, Nat.le_trans hna (Nat.mul_le_mul_right _ (Nat.le_succ k)), ?_, hnw, ?_, t3, hH3⟩, by simp only [Int.toNat_natCast]; omega⟩
  ·rw [hks, hlv]; simpa using hq
  ·rw [hks, hlv]; simpa using hE3
 | some v =>
  have hwk := ze y.key (hHk y hym) s3;unfold uo at hwk;simp only [hlv] at hwk;refine aH (bM v, (0, ()), ()) hwk rfl ?_;refine (W.af _ _ _ _).2 ⟨fun _ => ?_, fun e => (by cases e)⟩;refine W.ak (hrow hE3 hrd v) ?_;rintro _ s4 ⟨a4, n4, c4, qs4, rfl, hq4, hnw4, hE4, hk4⟩;refine ⟨(((a4, n4, c4), ()), ()), rfl, ?_⟩;have hn4 := hq4.len;have hrl4 := Ap p.T v D;have hdl4 := hdl (bP p.T.id v);refine (hk4.rws hq hE4.md).cat hq4 (by dsimp only; omega) fun a5 c5 s5 h5 m5 hn5 => ?_;have hq3 := hk4.rws hq hE4.md;have t4 := t3.trans hk4;refine ⟨⟨k + 1, a5, n + n4, c5, qs ++ qs4, rfl, by omega, by omega, ?_, ?_, ?_, t4.nw m5 hnw, ?_⟩, by simp only [Int.toNat_natCast]; omega⟩
  ·rw [hks, hlv];simpa using h5
  ·rcases hn5 with rfl | hn5
   ·exact hnw
   ·exact Nw.back t4 (Nw.of hn5)
  ·rw [hks, hlv, List.map_append, cN];exact hE4.keep m5 hq3.gw.fr hq3.apart
  ·exact pg (hk4.row hH3 (by decide) (by decide)) m5 fun g hg => by
    obtain ⟨cur, e, q1, _, _, _, q2⟩ := hq3.apart g hg;exact ⟨cur, e, q1, q2⟩
end
end
section
attribute [-simp] Fw.W.bC Fw.W.bA
theorem jO (k : Int) (s : PH) : ah 187 #[.int .i64 k] s fun y s' => y = .bool (bU k) ∧ s' = s := by
 refine Dw k _ s ?_;unfold vj bU;simp only [aO, aE];refine (W.af _ _ _ _).2 ⟨fun e => ⟨?_, rfl⟩, fun e => ⟨?_, rfl⟩⟩
 ·rw [e]; (first | done | rfl)
 ·rw [e]; (first | done | rfl)
abbrev Ip (a : OA) (n c : Nat) : Obj := .cells #[.slice a n c] 95 (0, 0)
theorem En {s : PH} {p q : Nat} {a b : OA} {an ac bn bc : Nat} {old new : List aY} (hp : s p = some (Ip b bn bc)) (hq : s q = some (Ip a an ac)) (ho : Sl bz s (a, an, ac) old) (hn : Sl bz s (b, bn, bc) new) (k : Int) :
  ah 186 #[.int .i64 k, cp p, cp q] s fun y s' => y = .tuple #[fm (bh new k), .bool (gM old new k)] ∧ s' = s := by
 refine Dt k p q _ s ?_;unfold vg gM;have hol : an = old.length := ho.len;simp only [bH, aT, bS, aO, aE];refine (W.aB hp _ _ _ _).2 ⟨((b, bn, bc), ()), rfl, ?_⟩;refine aH (bM (bh new k), ()) (lf hn k) rfl ?_;dsimp only;refine aI (fun e => ?_) fun e => ?_
 ·have e : (bh new k).kind ≠ 0 := by simpa using e
  refine (W.aB hq _ _ _ _).2 ⟨((a, an, ac), ()), rfl, ?_⟩;dsimp only;refine aI (fun e2 => ?_) fun e2 => ?_
  ·have e2 : (an : Int) = 0 := eq_of_beq e2;have : old = [] := List.eq_nil_of_length_eq_zero (by omega);exact ⟨by rw [decide_eq_true e, decide_eq_true this]; (first | done | rfl), rfl⟩
  ·have e2 : ¬ (an : Int) = 0 := by simpa using e2
   have : ¬ old = [] := fun g => by rw [g] at hol; simp at hol; omega
   refine (W.aB hq _ _ _ _).2 ⟨((a, an, ac), ()), rfl, ?_⟩;refine W.cr (bM (bh old k), ()) (lf ho k) rfl ?_;refine ⟨?_, rfl⟩;dsimp only;rw [jn, decide_eq_true e, decide_eq_false this, Bool.true_and, Bool.false_or, decide_not]
 ·have e : ¬ (bh new k).kind ≠ 0 := by simpa using e
  exact ⟨by rw [decide_eq_false e]; (first | done | rfl), rfl⟩
abbrev Kh (x : For) : Den [.int .i64, .str, .int .i64, .int .i64, .int .i64] := (x.id, x.name, x.column, x.parent, x.state, ())
abbrev vN (x : For) : Obj := .cells #[.int .i64 x.id, .string x.name, .int .i64 x.column, .int .i64 x.parent, .int .i64 x.state] 173 (0, 0)
abbrev mR (q : aC) : Den [.int .i64, .str, .slice, .slice, .slice] := (q.T.id, q.T.name, q.c, q.x, q.k, ())
theorem Eo {s : PH} {p : Nat} {x : For} (hp : s p = some (vN x)) (q : aC) : ah 188 #[dX q.T q.c q.x q.k, cp p] s fun y s' => y = .bool (q.T.id == x.parent) ∧ s' = s := by
 refine Du q.T.id q.T.name q.c.1 q.c.2.1 q.c.2.2 q.x.1 q.x.2.1 q.x.2.2 q.k.1 q.k.2.1 q.k.2.2 p _ s ?_;unfold vh;simp only [bH, aE, bf, Nat.zero_add];refine (W.aB hp _ _ _ _).2 ⟨(x.parent, ()), rfl, ?_⟩;exact ⟨rfl, rfl⟩
theorem yf {s : PH} {a : OA} {n c p : Nat} {ps : List aC} {x : For} (h : Sl ja s (a, n, c) ps) (hp : s p = some (vN x)) :
  ah 128 #[.slice a n c, .func (.func 188) #[] #[cp p]] s fun y s' => y = .int .i64 (aJ (fun q : aC => q.T.id == x.parent) ps 0) ∧ s' = s := by
 refine vZ a n c p _ s ?_;unfold oA;exact jK mR h (fun _ => rfl) (fun q _ => Eo hp q) ⟨rfl, rfl⟩
theorem HP {S : aD} {ps : List aC} (h : S.tabs = ps.map (·.T)) {i : Int} {U : aG} (e : gI S i = some U) : ∃ j q, aJ (fun q : aC => q.T.id == i) ps 0 = ((j : Nat) : Int) ∧ ps[j]? = some q ∧ q.T = U := by
 rcases nc (fun q : aC => q.T.id == i) ps with ⟨_, h2⟩ | ⟨j, q, h1, h2, h3⟩
 ·unfold gI at e;rw [h, List.find?_map] at e;rw [show ((fun u : aG => u.id == i) ∘ fun q : aC => q.T) = fun q : aC => q.T.id == i from rfl, h2] at e;cases e
 ·refine ⟨j, q, h1, h2, ?_⟩;unfold gI at e;rw [h, List.find?_map] at e;rw [show ((fun u : aG => u.id == i) ∘ fun q : aC => q.T) = fun q : aC => q.T.id == i from rfl, h3] at e;exact Option.some.inj e
section
variable (s0 s : PH) (w : Nat) (S : aD) (tt sh : aP) (B : List Ht) (rds : List bJ) (ov : List Wr)
def KX (k : aK) (old new : List aY) (D : List Ht) (l : List ez) (i : Nat) (s' : PH) : Prop := ∃ A, A.length ≤ i ∧ EJ s0 s' w S tt sh B (bI rds A) ov ∧ Kt s s' ∧ (fI k old new D l).1 = (fI k old new D (l.drop i)).1 ∧ (fI k old new D l).2 = A ++ (fI k old new D (l.drop i)).2
def KV (T : aG) (k : aK) (old new : List aY) (D : List Ht) (l : List For) (i : Nat) (s' : PH) : Prop := ∃ A, A.length ≤ i ∧ EJ s0 s' w S tt sh B (bI rds A) ov ∧ Kt s s' ∧ (fA S T k old new D l).1 = (fA S T k old new D (l.drop i)).1 ∧ (fA S T k old new D l).2 = A ++ (fA S T k old new D (l.drop i)).2
end
theorem ym {l : List Ht} {k : Nat} {h : Ht} {v : aK} (hk : l[k]? = some h) : (dZ (l.take (k + 1))).any (fun o => decide (o ≠ v)) = ((dZ (l.take k)).any (fun o => decide (o ≠ v)) || ((o6 h.key).toList).any (fun o => decide (o ≠ v))) := by
 rw [wR hk, List.any_append]
section
variable {s0 s : PH} {w : Nat} {S : aD} {tt sh : aP} {B : List Ht} {rds : List bJ} {ov : List Wr}
theorem zg {ps : List aC} (hB : iI s0 sh B) (h : EJ s0 s w S tt sh B rds ov) (hS : dP s0 tt S ps) {p : aC} (hp : fY s0 p) (hrl : rds.length + (p.T.idxs.length + p.T.keys.length) ≤ 4000000)
  (hpar : ∀ x ∈ p.T.keys, ∃ U, gI S x.parent = some U ∧ U.cols ≠ []) (k : aK) {a b : OA} {an ac bn bc : Nat} {old new : List aY} (ho : bp bz s 94 a an ac old) (hol : old.length ≤ 4000000) (hn : bp bz s 94 b bn bc new) (hnl : new.length ≤ 4000000) :
  ah 122 #[cp w, dX p.T p.c p.x p.k, fm k, .slice a an ac, .slice b bn bc] s fun y s' => y = .int .i64 (dr S p.T k old new (aq 0 B ov)).1 ∧ EJ s0 s' w S tt sh B (bI rds (dr S p.T k old new (aq 0 B ov)).2) ov ∧ Kt s s' := by
 refine Fm w p.T.id p.T.name p.c.1 p.c.2.1 p.c.2.2 p.x.1 p.x.2.1 p.x.2.2 p.k.1 p.k.2.1 p.k.2.2 k.kind k.n k.s a an ac b bn bc _ s ?_;unfold xU
 obtain ⟨D, hD⟩ : ∃ D, aq 0 B ov = D := ⟨_, rfl⟩
 obtain ⟨R, hR⟩ : ∃ R : Value → PH → Prop, (fun y s' => y = .int .i64 (dr S p.T k old new (aq 0 B ov)).1 ∧ EJ s0 s' w S tt sh B (bI rds (dr S p.T k old new (aq 0 B ov)).2) ov ∧ Kt s s') = R := ⟨_, rfl⟩
 rw [hR];rw [hD] at hR;have hds := gY hB h.cY h.sm;have hdl := fun q => tZ hB h.ol q;have hrow := fun {s : PH} {rds : List bJ} {p : aC} (hp : fY s0 p) (hc : p.T.cols ≠ []) (h : EJ s0 s w S tt sh B rds ov) (hrl : rds.length ≤ 4000000) => zh (p := p) hB h hrl hp hc;have hhit := fun {s : PH} {rds : List bJ} (h : EJ s0 s w S tt sh B rds ov) (hrl : rds.length ≤ 4000000) => vD hB h hrl;rw [hD] at hds;simp only [hD] at hdl hrow hhit;have hxl : p.x.2.1 = p.T.idxs.length := hp.x.len;have hkl : p.k.2.1 = p.T.keys.length := hp.k.len;have hal := ho.len;have hbl := hn.len;simp only [cj, bH, gX, aO, aT, mz, aE, aR, aM, aQ, cG, dj, bf, Nat.zero_add];refine W.bK fun r0 s1 hr0 m1 k0 => ?_;refine W.bK fun r1 s2 hr1 m2 k1 => ?_;have m02 : Fw.Mod [] s s2 := m1.trans m2;have h2 := h.same m02;have kk0 : s2 r0 = some (Ip a an ac) := m2.at k0 (by simp);have kk1 : s2 r1 = some (Ip b bn bc) := k1
 -- the closure
 have hfr : ∀ {s3 : PH}, Kt s2 s3 → ∀ c : Int, ah 186 #[.int .i64 c, cp r1, cp r0] s3 fun y s' => y = .tuple #[fm (bh new c), .bool (gM old new c)] ∧ s' = s3 := fun {s3} hk c => by
  refine En (hk r1 _ _ kk1 (by decide) (by decide)) (hk r0 _ _ kk0 (by decide) (by decide)) (Sl.bE (t := (a, an, ac)) (hk.row (ho.mod m02 (by simp)) (by decide) (by decide)) (by omega)) (Sl.bE (t := (b, bn, bc)) (hk.row (hn.mod m02 (by simp)) (by decide) (by decide)) (by omega)) c
 refine ⟨fun z s' => ∃ i : Nat, z = ((p.T.id, p.T.name, p.c, p.x, p.k, ()), (k.kind, k.n, k.s, ()), ((Value.func (.func 186) #[] #[cp r1, cp r0]), ()), (p.x, ()), ((p.x.2.1 : Int), ()), ((i : Int), ()), ()) ∧ i ≤ p.x.2.1 ∧ KX s0 s2 w S tt sh B rds ov k old new D p.T.idxs i s',
  fun z _ => p.x.2.1 - z.2.2.2.2.2.1.1.toNat, ⟨0, rfl, Nat.zero_le _, [], Nat.le_refl _, h2, Kt.refl _, by rw [List.drop_zero], by rw [List.drop_zero]; (first | done | rfl)⟩, ?_⟩
 rintro _ s3 ⟨i, rfl, hi, A, hA, hE3, t3, c1, c2⟩;dsimp only;refine aI (fun e => ?_) fun e => ?_
 ·have hlt : (i : Int) < (p.x.2.1 : Int) := of_decide_eq_true e
  obtain ⟨x, hx⟩ : ∃ x, p.T.idxs[i]? = some x := ⟨_, List.getElem?_eq_getElem (by omega)⟩
  obtain ⟨ad, had, hh⟩ := (hp.x.mono hE3.md.le).el.aA hx;refine bF ⟨Int.natCast_nonneg i, hlt⟩ ?_;refine aN had ?_;simp only [Int.toNat_natCast];have hh : s3.has (ad.add (i * 5)) (j6.f x) := hh;refine az hh (y := qz x) rfl ?_;rw [ct hx] at c1 c2;refine cT Tryz.func186 (by kernel_rfl) (by kernel_rfl) (hfr t3 x.column) ?_;rintro _ s3 ⟨rfl, rfl⟩;refine ⟨(bM (bh new x.column), (gM old new x.column, ()), ()), rfl, ?_⟩;dsimp only;rw [ai (k := i) (by omega)]
  cases hcond : (gM old new x.column && x.unique && bU x.state) with
  | false =>
   rw [fI, if_neg (by rw [hcond]; simp)] at c1 c2
   have hskip : KX s0 s2 w S tt sh B rds ov k old new D p.T.idxs (i + 1) s3 := ⟨A, by omega, hE3, t3, c1, c2⟩
   refine W.bx (fun z s' => False) (fun _ _ hf => hf.elim) ?_;intro J hJ;refine (W.af _ _ _ _).2 ⟨fun e1 => ⟨⟨i + 1, rfl, by omega, hskip⟩, by simp only [Int.toNat_natCast]; omega⟩, fun e1 => ?_⟩
   have e1 : gM old new x.column = true := by simpa using e1
   refine (W.af _ _ _ _).2 ⟨fun e2 => ⟨⟨i + 1, rfl, by omega, hskip⟩, by simp only [Int.toNat_natCast]; omega⟩, fun e2 => ?_⟩
   have e2 : x.unique = true := by simpa using e2
   refine aH ((bU x.state, ()), ()) (jO x.state s3) rfl ?_;refine (W.af _ _ _ _).2 ⟨fun e3 => ⟨⟨i + 1, rfl, by omega, hskip⟩, by simp only [Int.toNat_natCast]; omega⟩, fun e3 => ?_⟩
   have e3 : bU x.state = true := by simpa using e3
   rw [e1, e2, e3] at hcond; cases hcond
  | true =>
   rw [fI, if_pos hcond] at c1 c2;simp only [Bool.and_eq_true] at hcond;obtain ⟨⟨e1, e2⟩, e3⟩ := hcond;refine W.bx (fun z s' => z = ((p.T.id, p.T.name, p.c, p.x, p.k, ()), (k.kind, k.n, k.s, ()), ((Value.func (.func 186) #[] #[cp r1, cp r0]), ()), qz x, bM (bh new x.column), (p.x, ()), ((p.x.2.1 : Int), ()), ((i : Int), ()), ()) ∧ s3 = s') ?_ ?_
   ·rintro _ _ ⟨rfl, rfl⟩;dsimp only;refine aH (((cH x.id (bh new x.column)).1, (cH x.id (bh new x.column)).2, ()), ()) (zd x.id (bh new x.column) s3) rfl ?_
    obtain ⟨sp, hsp⟩ : ∃ sp, cH x.id (bh new x.column) = sp := ⟨_, rfl⟩
    have hspl : sp.1.size ≤ 1120 := by rw [← hsp]; exact gu _
    rw [hsp] at c1 c2 ⊢;have hAl := eH A rds;refine W.ak (hhit hE3 (by omega) sp (by omega)) ?_;rintro _ s4 ⟨ha, hn4, hcp, rfl, hG, hE4, hk4⟩;refine ⟨(((ha, hn4, hcp), ()), ()), rfl, ?_⟩
    have hE4 : EJ s0 s4 w S tt sh B (bI rds (A ++ [sp])) ov := by rw [cN]; exact hE4
    have t4 := t3.trans hk4;have hHn := hG.row.len;have hdl4 := hdl sp;dsimp only
    refine ⟨fun z s' => ∃ j : Nat, z = ((p.T.id, p.T.name, p.c, p.x, p.k, ()), (k.kind, k.n, k.s, ()), ((Value.func (.func 186) #[] #[cp r1, cp r0]), ()), (p.x, ()), ((p.x.2.1 : Int), ()), ((i : Int), ()), ((ha, hn4, hcp), ()), ((hn4 : Int), ()), ((j : Int), ()), ()) ∧ j ≤ hn4 ∧ s4 = s' ∧ (dZ ((au D sp).take j)).any (fun o => decide (o ≠ k)) = false,
     fun z _ => hn4 - z.2.2.2.2.2.2.2.2.1.1.toNat, ⟨0, rfl, Nat.zero_le _, rfl, rfl⟩, ?_⟩
    rintro _ _ ⟨j, rfl, hj, rfl, hany⟩;dsimp only;refine aI (fun e => ?_) fun e => ?_
    ·have hlj : (j : Int) < (hn4 : Int) := of_decide_eq_true e
     obtain ⟨y, hy⟩ : ∃ y, (au D sp)[j]? = some y := ⟨_, List.getElem?_eq_getElem (by omega)⟩
     obtain ⟨g, rfl, hh4⟩ := hG.row.at hy;refine bF ⟨Int.natCast_nonneg j, hlj⟩ ?_;simp only [dj, Int.toNat_natCast, bf, Nat.zero_add];have hh4 : s4.has ⟨g, j * 3, none⟩ (bl.f y) := hh4;refine az hh4 (y := mH y) rfl ?_;have hks := ym (v := k) hy;have hwk := ze y.key (hds.1 y (gz (List.mem_of_getElem? hy))) s4;unfold uo at hwk;rw [ai (k := j) (by omega)]
     cases hlv : o6 y.key with
     | none =>
      simp only [hlv] at hwk hks;refine aH (bM kT, ((20 : Int), ()), ()) hwk rfl ?_;refine (W.af _ _ _ _).2 ⟨fun e => (by cases e), fun _ => ?_⟩;exact ⟨⟨j + 1, rfl, by omega, rfl, by rw [hks, hany]; (first | done | rfl)⟩, by simp only [Int.toNat_natCast]; omega⟩
     | some v =>
      simp only [hlv] at hwk hks;refine aH (bM v, ((0 : Int), ()), ()) hwk rfl ?_;refine (W.af _ _ _ _).2 ⟨fun _ => ?_, fun e => (by cases e)⟩;dsimp only;refine aI (fun e5 => ?_) fun e5 => ?_
      ·rw [jn] at e5
       have e5 : v ≠ k := by simpa using e5
       have hbad : (dZ (au D sp)).any (fun o => decide (o ≠ k)) = true := by
        rw [List.any_eq_true];refine ⟨v, ?_, decide_eq_true e5⟩;unfold dZ;exact List.mem_filterMap.2 ⟨y, List.mem_of_getElem? hy, hlv⟩
       rw [if_pos hbad] at c1 c2;dsimp only at c1 c2
       have e6 : dr S p.T k old new D = fI k old new D p.T.idxs := by unfold dr; rw [if_pos (by rw [c1]; decide)]
       rw [← hR, e6, c1, c2];exact ⟨rfl, hE4, (Kt.of m02).trans t4⟩
      ·rw [jn] at e5
       have e5 : v = k := by simpa using e5
       refine ⟨⟨j + 1, rfl, by omega, rfl, ?_⟩, by simp only [Int.toNat_natCast]; omega⟩;rw [hks, hany, e5]; simp
    ·have e : ¬ (j : Int) < (hn4 : Int) := of_decide_eq_false e;rw [List.take_of_length_le (by omega)] at hany;rw [if_neg (by rw [hany]; simp)] at c1 c2;rw [ai (k := i) (by omega)];refine ⟨⟨i + 1, rfl, by omega, A ++ [sp], by rw [List.length_append]; simp; omega, hE4, t4, c1, ?_⟩, by simp only [Int.toNat_natCast]; omega⟩;rw [c2]; simp
   ·intro J hJ;refine (W.af _ _ _ _).2 ⟨fun g => (by rw [e1] at g; cases g), fun _ => ?_⟩;refine (W.af _ _ _ _).2 ⟨fun g => (by rw [e2] at g; cases g), fun _ => ?_⟩;refine aH ((bU x.state, ()), ()) (jO x.state s3) rfl ?_;refine (W.af _ _ _ _).2 ⟨fun g => (by dsimp only at g; rw [e3] at g; cases g), fun _ => ?_⟩;exact hJ _ _ ⟨rfl, rfl⟩
 -- the keys
 have e : ¬ (i : Int) < (p.x.2.1 : Int) := of_decide_eq_false e;rw [List.drop_of_length_le (by omega)] at c1 c2;have c1 : (fI k old new D p.T.idxs).1 = 0 := c1
 have c2 : (fI k old new D p.T.idxs).2 = A := by rw [c2]; exact List.append_nil _
 have e6 : dr S p.T k old new D = ((fA S p.T k old new D p.T.keys).1, A ++ (fA S p.T k old new D p.T.keys).2) := by unfold dr; rw [if_neg (by rw [c1]; decide), c2]
 have hAl := eH A rds
 refine ⟨fun z s' => ∃ i : Nat, z = ((p.T.id, p.T.name, p.c, p.x, p.k, ()), (k.kind, k.n, k.s, ()), ((Value.func (.func 186) #[] #[cp r1, cp r0]), ()), (p.k, ()), ((p.k.2.1 : Int), ()), ((i : Int), ()), ()) ∧ i ≤ p.k.2.1 ∧ KV s0 s2 w S tt sh B (bI rds A) ov p.T k old new D p.T.keys i s',
  fun z _ => p.k.2.1 - z.2.2.2.2.2.1.1.toNat, ⟨0, rfl, Nat.zero_le _, [], Nat.le_refl _, hE3, t3, by rw [List.drop_zero], by rw [List.drop_zero]; (first | done | rfl)⟩, ?_⟩
 rintro _ s4 ⟨i, rfl, hi2, A2, hA2, hE4, t4, d1, d2⟩;dsimp only;refine aI (fun e => ?_) fun e => ?_;rotate_left
 ·have e : ¬ (i : Int) < (p.k.2.1 : Int) := of_decide_eq_false e;rw [List.drop_of_length_le (by omega)] at d1 d2;have d1 : (fA S p.T k old new D p.T.keys).1 = 0 := d1
  have d2 : (fA S p.T k old new D p.T.keys).2 = A2 := by rw [d2]; exact List.append_nil _
  rw [← hR, e6, d1, d2];exact ⟨rfl, by rw [cN]; exact hE4, (Kt.of m02).trans t4⟩
 have hlt : (i : Int) < (p.k.2.1 : Int) := of_decide_eq_true e
 obtain ⟨x, hx⟩ : ∃ x, p.T.keys[i]? = some x := ⟨_, List.getElem?_eq_getElem (by omega)⟩
 have hxm := List.mem_of_getElem? hx;obtain ⟨ad, had, hh⟩ := (hp.k.mono hE4.md.le).el.aA hx;refine bF ⟨Int.natCast_nonneg i, hlt⟩ ?_;refine aN had ?_;simp only [Int.toNat_natCast];have hh : s4.has (ad.add (i * 5)) (lS.f x) := hh;refine az hh (y := Kh x) rfl ?_;rw [ct hx] at d1 d2;refine W.bK fun r2 s5 hr2 m5 k5 => ?_;refine ku (c' := #[.int .i64 x.id, .string x.name, .int .i64 x.column, .int .i64 x.parent, .int .i64 x.state]) k5 (by show 0 + 5 ≤ 5; omega) (by simp [Value.oneCell']) rfl ?_;intro s6 hs6
 have k6 : s6 r2 = some (vN x) := by rw [hs6, PH.bB]
 have m6 : Fw.Mod [] s4 s6 := by rw [hs6]; exact m5.bT (.inr hr2)
 have hE6 := hE4.same m6;have t6 : Kt s2 s6 := t4.trans (Kt.of m6);refine (W.aB k6 _ _ _ _).2 ⟨(x.column, ()), rfl, ?_⟩;refine cT Tryz.func186 (by kernel_rfl) (by kernel_rfl) (hfr t6 x.column) ?_;rintro _ s6 ⟨rfl, rfl⟩;refine ⟨(bM (bh new x.column), (gM old new x.column, ()), ()), rfl, ?_⟩;dsimp only;rw [ai (k := i) (by omega)];have hval : (((bh new x.column).kind == k.kind) && (((bh new x.column).n == k.n) && (((bh new x.column).s == k.s) && true))) = decide (bh new x.column = k) := jn _ _
 cases hcond : (gM old new x.column && bU x.state && !(x.parent == p.T.id && decide (bh new x.column = k))) with
 | false =>
  rw [fA, if_neg (by rw [hcond]; simp)] at d1 d2
  have hskip : KV s0 s2 w S tt sh B (bI rds A) ov p.T k old new D p.T.keys (i + 1) s6 := ⟨A2, by omega, hE6, t6, d1, d2⟩
  refine W.bx (fun z s' => False) (fun _ _ hf => hf.elim) ?_;intro J hJ;refine (W.af _ _ _ _).2 ⟨fun e1 => ⟨⟨i + 1, rfl, by omega, hskip⟩, by simp only [Int.toNat_natCast]; omega⟩, fun e1 => ?_⟩
  have e1 : gM old new x.column = true := by simpa using e1
  refine (W.aB k6 _ _ _ _).2 ⟨(x.state, ()), rfl, ?_⟩;refine aH ((bU x.state, ()), ()) (jO x.state s6) rfl ?_;refine (W.af _ _ _ _).2 ⟨fun e3 => ⟨⟨i + 1, rfl, by omega, hskip⟩, by simp only [Int.toNat_natCast]; omega⟩, fun e3 => ?_⟩
  have e3 : bU x.state = true := by simpa using e3
  rw [e1, e3] at hcond
  have hcond : (x.parent == p.T.id && decide (bh new x.column = k)) = true := by simpa using hcond
  simp only [Bool.and_eq_true] at hcond;refine (W.aB k6 _ _ _ _).2 ⟨(x.parent, ()), rfl, ?_⟩;refine (W.af _ _ _ _).2 ⟨fun _ => ?_, fun g => (by dsimp only at g; rw [hcond.1] at g; cases g)⟩;refine (W.af _ _ _ _).2 ⟨fun _ => ⟨⟨i + 1, rfl, by omega, hskip⟩, by simp only [Int.toNat_natCast]; omega⟩, fun g => ?_⟩;rw [hval, hcond.2] at g; cases g
 | true =>
  rw [fA, if_pos hcond] at d1 d2;simp only [Bool.and_eq_true, Bool.not_eq_true'] at hcond;obtain ⟨⟨e1, e3⟩, e4⟩ := hcond;refine W.bx (fun z s' => z = ((p.T.id, p.T.name, p.c, p.x, p.k, ()), (k.kind, k.n, k.s, ()), ((Value.func (.func 186) #[] #[cp r1, cp r0]), ()), (⟨r2, 0, none⟩, ()), bM (bh new x.column), (p.k, ()), ((p.k.2.1 : Int), ()), ((i : Int), ()), ()) ∧ s6 = s') ?_ ?_
  ·rintro _ _ ⟨rfl, rfl⟩;dsimp only;obtain ⟨U, hU, hUc⟩ := hpar x hxm;rw [hU] at d1 d2;dsimp only at d1 d2;obtain ⟨r, mb, mo, qs, bs, f, hx6⟩ := hE6.ei;have hld : ∀ (K : Den [CT.slice] → W.T), K (tt, ()) s6 → W.ld [.slice] ⟨w, 2, none⟩ K s6 := fun K hK => (W.aB hx6.aU _ _ _ _).2 ⟨(tt, ()), rfl, hK⟩;have hS6 := hS.mono hE6.md.le;obtain ⟨j, q, g1, g2, g3⟩ := HP hS.eq hU;refine hld _ ?_;refine aH ((aJ (fun q : aC => q.T.id == x.parent) ps 0, ()), ()) (yf (a := tt.1) (n := tt.2.1) (c := tt.2.2) hS6.el k6) rfl ?_;refine hld _ ?_;rw [g1];have hjl := (List.getElem?_eq_some_iff.1 g2).1;have hpl := hS6.el.len;dsimp only;refine bF ⟨Int.natCast_nonneg j, by show (j : Int) < ((tt.2.1 : Nat) : Int); rw [hpl]; exact Int.ofNat_lt.2 hjl⟩ ?_;obtain ⟨at_, hat, hht⟩ := hS6.el.el.aA g2;refine aN hat ?_;simp only [Int.toNat_natCast];have hht : s6.has (at_.add (j * 5)) (ja.f q) := hht;refine az hht (y := mR q) rfl ?_;have hAl2 := eH A2 (bI rds A);subst g3;refine W.ak (hrow (hS.all q (List.mem_of_getElem? g2)) hUc hE6 (by omega) (bh new x.column)) ?_;rintro _ s7 ⟨a7, n7, c7, qs7, rfl, hq7, _, hE7, hk7⟩;refine ⟨(((a7, n7, c7), ()), ()), rfl, ?_⟩;have hn7 := hq7.len;have t7 := t6.trans hk7
   have hE7 : EJ s0 s7 w S tt sh B (bI (bI rds A) (A2 ++ [bP q.T.id (bh new x.column)])) ov := by rw [cN (bI rds A)]; exact hE7
   dsimp only;refine aI (fun e => ?_) fun e => ?_
   ·have e : (n7 : Int) = 0 := eq_of_beq e;have hnil : gC q.T (bh new x.column) D = [] := List.eq_nil_of_length_eq_zero (by omega);rw [if_pos hnil] at d1 d2;dsimp only at d1 d2;rw [← hR, e6, d1, d2];exact ⟨rfl, by rw [cN]; exact hE7, (Kt.of m02).trans t7⟩
   ·have e : ¬ (n7 : Int) = 0 := by simpa using e
    have hnil : ¬ gC q.T (bh new x.column) D = [] := fun g => by rw [g] at hn7; simp at hn7; omega
    rw [if_neg hnil] at d1 d2;rw [ai (k := i) (by omega)];refine ⟨⟨i + 1, rfl, by omega, A2 ++ [bP q.T.id (bh new x.column)], by rw [List.length_append]; simp; omega, hE7, t7, d1, ?_⟩, by simp only [Int.toNat_natCast]; omega⟩;rw [d2]; simp
  ·intro J hJ;refine (W.af _ _ _ _).2 ⟨fun g => (by rw [e1] at g; cases g), fun _ => ?_⟩;refine (W.aB k6 _ _ _ _).2 ⟨(x.state, ()), rfl, ?_⟩;refine aH ((bU x.state, ()), ()) (jO x.state s6) rfl ?_;refine (W.af _ _ _ _).2 ⟨fun g => (by dsimp only at g; rw [e3] at g; cases g), fun _ => ?_⟩;refine (W.aB k6 _ _ _ _).2 ⟨(x.parent, ()), rfl, ?_⟩;refine (W.af _ _ _ _).2 ⟨fun g => ?_, fun _ => hJ _ _ ⟨rfl, rfl⟩⟩;refine (W.af _ _ _ _).2 ⟨fun g2 => ?_, fun _ => hJ _ _ ⟨rfl, rfl⟩⟩;dsimp only at g g2;rw [hval] at g2;rw [g, g2] at e4; cases e4
end
end
section
attribute [-simp] Fw.W.bC Fw.W.bA
def jz : cK Wr where
 sz := 3
 f x := [.string x.key, .string x.val, .bool x.dead]
 len _ := rfl
 one q v hv := by simp at hv; rcases hv with rfl | rfl | rfl <;> rfl
 pos := by omega
abbrev KD (x : Wr) : Den [.str, .str, .bool] := (x.key, x.val, x.dead, ())
abbrev K2 (a : OA) (n c : Nat) : Obj := .cells #[.slice a n c] 26 (0, 0)
def Lw (s s' : PH) (r : Nat) (l : List Wr) : Prop := ∃ a n c, Gw jz 79 s s' a n c l ∧ s' r = some (K2 a n c)
theorem BP {s0 s : PH} {r : Nat} {l : List Wr} (h : Lw s0 s r l) (r0 : s0 r = none) (hl : l.length ≤ 4000000) (x : Wr) :
  ah 237 #[.string x.key, .string x.val, .bool x.dead, cp r] s fun y s' => y = .tuple #[] ∧ Lw s0 s' r (l ++ [x]) := by
 obtain ⟨a, n, c, hG, hr⟩ := h;refine Hj x.key x.val x.dead r _ s ?_;unfold A3;have hn := hG.row.len;simp only [bH, cj, dg, gX, aE];refine (W.aB hr _ _ _ _).2 ⟨((a, n, c), ()), rfl, ?_⟩;refine hG.nr [x] (k := 1) rfl rfl rfl (by omega) (by omega) fun a' c' s1 h1 m1 => ?_;have k1 : s1 r = some (K2 a n c) := m1.at hr (hG.off hr (by decide));refine ku (c' := #[.slice a' (n + 1) c']) k1 (by show 0 + 1 ≤ 1; omega) (by simp [Value.oneCell']) rfl ?_;intro s2 hs2;refine ⟨rfl, a', n + 1, c', ?_, by rw [hs2, PH.bB]⟩;rw [hs2];exact h1.aS k1 (by decide) r0
theorem HW (a b : Nat) (h : a + b ≤ 4611686018427387904) : i64.wrap ((a : Int) + (b : Int)) = ((a + b : Nat) : Int) := by rw [cq (by omega) (by omega)]; omega
theorem Gz (k : aK) (old new : List aY) (x : ez) : (kP k old new x).length ≤ 2 := by
 unfold kP;rw [List.length_append]
 have : ∀ (c : Prop) [Decidable c] (l : List Wr), l.length = 1 → (if c then l else []).length ≤ 1 := fun c _ l h => by split <;> simp [h]
 have h1 := this (old ≠ [] ∧ (new = [] ∨ bh old x.column ≠ bh new x.column)) [⟨js x.id (bh old x.column) k, ⟨#[]⟩, true⟩] rfl;have h2 := this (new ≠ [] ∧ bU x.state = true) [⟨js x.id (bh new x.column) k, ⟨#[]⟩, false⟩] rfl;omega
theorem sN (k : aK) (old new : List aY) : ∀ (l : List ez), (l.flatMap (kP k old new)).length ≤ 2 * l.length
 | [] => by simp
 | x :: l => by
  have h1 := sN k old new l;have h2 := Gz k old new x;rw [List.flatMap_cons, List.length_append, List.length_cons]; omega
theorem kO (T : aG) (old new : List aY) : (dB T old new).length ≤ 1 + 2 * T.idxs.length := by
 unfold dB
 split
 ·simp
 ·rw [List.length_cons];have := sN (bh (if old = [] then new else old) (eT T)) old new T.idxs;omega
theorem zB {α β : Type} {l : List α} {k : Nat} {x : α} (f : α → List β) (h : l[k]? = some x) : (l.take (k + 1)).flatMap f = (l.take k).flatMap f ++ f x := by
 rw [List.take_add_one, h, List.flatMap_append]; simp
theorem CP {s : PH} {p : aC} (hp : fY s p) (hx : p.T.idxs.length ≤ 1000000) {a b : OA} {an ac bn bc : Nat} {old new : List aY} (ho : Sl bz s (a, an, ac) old) (hn : Sl bz s (b, bn, bc) new) :
  ah 189 #[dX p.T p.c p.x p.k, .slice a an ac, .slice b bn bc] s fun y s' => ∃ a' n' c', y = .slice a' n' c' ∧ Gw jz 79 s s' a' n' c' (dB p.T old new) := by
 refine Bw p.T.id p.T.name p.c.1 p.c.2.1 p.c.2.2 p.x.1 p.x.2.1 p.x.2.2 p.k.1 p.k.2.1 p.k.2.2 a an ac b bn bc _ s ?_;unfold so
 obtain ⟨R, hR⟩ : ∃ R : Value → PH → Prop, (fun y s' => ∃ a' n' c', y = .slice a' n' c' ∧ Gw jz 79 s s' a' n' c' (dB p.T old new)) = R := ⟨_, rfl⟩
 rw [hR];have hal : an = old.length := ho.len;have hbl : bn = new.length := hn.len;have haf := ho.cO;have hbf := hn.cO;have hcl : p.c.2.1 = p.T.cols.length := hp.c.len;have hxl : p.x.2.1 = p.T.idxs.length := hp.x.len
 have hend : p.T.cols = [] ∨ (old = [] ∧ new = []) ∨ (cU new).2 ≠ 0 → R (.slice none 0 0) s := fun h => by
  rw [← hR]; refine ⟨none, 0, 0, rfl, ?_⟩;unfold dB; rw [if_pos h]; exact Gw.nil (Mod.refl _ _)
 have nil_of : ∀ {l : List aY} {k : Nat}, k = l.length → ((k : Int) = 0 ↔ l = []) := fun {l k} h => by
  constructor
  ·intro e; exact List.eq_nil_of_length_eq_zero (by omega)
  ·intro e; rw [e] at h; simp at h; omega
 simp only [cG, aO, aE, aT, bS, mz, aR, aM, bH, cj, aQ, vw, dj, bf, Nat.zero_add];refine W.bx (fun z s' => z = ((p.T.id, p.T.name, p.c, p.x, p.k, ()), ()) ∧ s = s' ∧ p.T.cols ≠ [] ∧ ¬ (old = [] ∧ new = [])) ?_ ?_;rotate_left
 ·intro J hJ;refine aI (fun e => ?_) fun e => ?_
  ·have e : (p.c.2.1 : Int) = 0 := eq_of_beq e;exact hend (.inl (List.eq_nil_of_length_eq_zero (by omega)))
  ·have e : ¬ (p.c.2.1 : Int) = 0 := by simpa using e
   rw [HW an bn (by omega)];refine aI (fun e2 => ?_) fun e2 => ?_
   ·have e2 : ((an + bn : Nat) : Int) = 0 := eq_of_beq e2;exact hend (.inr (.inl ⟨List.eq_nil_of_length_eq_zero (by omega), List.eq_nil_of_length_eq_zero (by omega)⟩))
   ·have e2 : ¬ ((an + bn : Nat) : Int) = 0 := by simpa using e2
    refine hJ _ _ ⟨rfl, rfl, fun g => ?_, fun g => ?_⟩
    ·rw [g] at hcl; simp at hcl; omega
    ·rw [g.1] at hal; rw [g.2] at hbl; simp at hal hbl; omega
 rintro _ _ ⟨rfl, rfl, hc, hne⟩;dsimp only;refine aH (((cU new).1, ()), ((cU new).2, ()), ()) (Ek hn) rfl ?_;dsimp only;refine (W.af _ _ _ _).2 ⟨fun e => hend (.inr (.inr (by simpa using e))), fun e => ?_⟩
 have hput : (cU new).2 = 0 := by simpa using e
 obtain ⟨c0, hc0⟩ : ∃ c0, p.T.cols[0]? = some c0 := by
  cases hT : p.T.cols with
  | nil => exact absurd hT hc
  | cons x r => exact ⟨x, rfl⟩
 have hcol0 : eT p.T = c0.id := by unfold eT; rw [hc0]; (first | done | rfl)
 have hcpos : 0 < p.c.2.1 := by rw [hcl]; exact List.length_pos_iff.2 hc
 obtain ⟨ad, had, hh⟩ := hp.c.el.aA hc0
 have hhc : s.has (ad.add 0) (dD.f c0) := by simpa using hh
 refine bF ⟨Int.le_refl 0, Int.natCast_pos.2 hcpos⟩ ?_;refine aN had ?_;refine bq (j := 0) hhc (y := (c0.id, ())) rfl ?_;refine aH (bM (bh new c0.id), ()) (lf hn c0.id) rfl ?_
 obtain ⟨k, hk⟩ : ∃ k, bh (if old = [] then new else old) (eT p.T) = k := ⟨_, rfl⟩
 have hchg : dB p.T old new = ⟨iL p.T.id k, (cU new).1, decide (new = [])⟩ :: p.T.idxs.flatMap (kP k old new) := by
  unfold dB;rw [if_neg (by rintro (g | g | g); exact hc g; exact hne g; exact g hput), hk]
 dsimp only;refine W.bx (fun z s' => z = ((p.T.id, p.T.name, p.c, p.x, p.k, ()), ((cU new).1, ()), bM k, ()) ∧ s = s') ?_ ?_;rotate_left
 ·intro J hJ;refine aI (fun e => ?_) fun e => ?_
  ·have e : (an : Int) > 0 := of_decide_eq_true e
   have : ¬ old = [] := fun g => by rw [g] at hal; simp at hal; omega
   rw [if_neg this, hcol0] at hk;refine bF ⟨Int.le_refl 0, Int.natCast_pos.2 hcpos⟩ ?_;refine aN had ?_;refine bq (j := 0) hhc (y := (c0.id, ())) rfl ?_;refine aH (bM (bh old c0.id), ()) (lf ho c0.id) rfl ?_;refine hJ _ _ ⟨?_, rfl⟩;rw [hk]
  ·have e : ¬ (an : Int) > 0 := of_decide_eq_false e;have : old = [] := List.eq_nil_of_length_eq_zero (by omega);rw [if_pos this, hcol0] at hk;refine hJ _ _ ⟨?_, rfl⟩;rw [hk]
 rintro _ _ ⟨rfl, rfl⟩;dsimp only;refine W.bK fun r s1 hr m1 k1 => ?_;refine aH ((iL p.T.id k, ()), ()) (El p.T.id k s1) rfl ?_
 have hL1 : Lw s s1 r [] := ⟨none, 0, 0, Gw.nil m1, k1⟩
 have hbe : ((bn : Int) == 0) = decide (new = []) := by
  rw [Bool.eq_iff_iff, beq_iff_eq, decide_eq_true_eq]; exact nil_of hbl
 rw [hbe];refine W.ak (BP hL1 hr (by simp) ⟨iL p.T.id k, (cU new).1, decide (new = [])⟩) ?_;rintro _ s2 ⟨rfl, hL2⟩;refine ⟨(), rfl, ?_⟩
 obtain ⟨e0, he0⟩ : ∃ e0 : Wr, (⟨iL p.T.id k, (cU new).1, decide (new = [])⟩ : Wr) = e0 := ⟨_, rfl⟩
 rw [he0] at hL2 hchg
 refine ⟨fun z s' => ∃ i : Nat, z = (bM k, (⟨r, 0, none⟩, ()), ((Value.func (.func 237) #[] #[cp r]), ()), (p.x, ()), ((p.x.2.1 : Int), ()), ((i : Int), ()), ()) ∧ i ≤ p.x.2.1 ∧ Lw s s' r (e0 :: (p.T.idxs.take i).flatMap (kP k old new)),
  fun z _ => p.x.2.1 - z.2.2.2.2.2.1.1.toNat, ⟨0, rfl, Nat.zero_le _, hL2⟩, ?_⟩
 rintro _ s3 ⟨i, rfl, hi, hL3⟩;dsimp only;refine aI (fun e => ?_) fun e => ?_;rotate_left
 ·have e : ¬ (i : Int) < (p.x.2.1 : Int) := of_decide_eq_false e;rw [List.take_of_length_le (by omega), ← hchg] at hL3;obtain ⟨a', n', c', hG, hr3⟩ := hL3;refine (W.aB hr3 _ _ _ _).2 ⟨((a', n', c'), ()), rfl, ?_⟩;rw [← hR];exact ⟨a', n', c', rfl, hG⟩
 have hlt : (i : Int) < (p.x.2.1 : Int) := of_decide_eq_true e
 obtain ⟨x, hx2⟩ : ∃ x, p.T.idxs[i]? = some x := ⟨_, List.getElem?_eq_getElem (by omega)⟩
 have hmd3 : Fw.Mod [] s s3 := by obtain ⟨_, _, _, hG, _⟩ := hL3; exact hG.md
 obtain ⟨ax, hax, hhx⟩ := (hp.x.mono hmd3.le).el.aA hx2;refine bF ⟨Int.natCast_nonneg i, hlt⟩ ?_;refine aN hax ?_;simp only [Int.toNat_natCast];have hhx : s3.has (ax.add (i * 5)) (j6.f x) := hhx;refine az hhx (y := qz x) rfl ?_;have hfs := zB (kP k old new) hx2
 obtain ⟨L3, hL3e⟩ : ∃ L3, e0 :: (p.T.idxs.take i).flatMap (kP k old new) = L3 := ⟨_, rfl⟩
 have hnext : e0 :: (p.T.idxs.take (i + 1)).flatMap (kP k old new) = L3 ++ kP k old new x := by rw [hfs, ← hL3e]; simp
 rw [hL3e] at hL3
 have hL3l : L3.length ≤ 2000001 := by
  have := sN k old new (p.T.idxs.take i);rw [← hL3e, List.length_cons];rw [List.length_take] at this;omega
 have ho3 := ho.mono hmd3.le;have hn3 := hn.mono hmd3.le
 have hfn : ∀ {s4 : PH} {l : List Wr} {K : bR [] → W.T}, Lw s s4 r l → l.length ≤ 4000000 → ∀ y : Wr, (∀ s5, Lw s s5 r (l ++ [y]) → K () s5) → W.dR Tryz.prog (Value.func (.func 237) #[] #[cp r]) #[.string y.key, .string y.val, .bool y.dead] (true, []) K s4 := fun {s4 l K} hl4 hll y hK => by
  refine cT Tryz.func237 (by kernel_rfl) (by kernel_rfl) (BP hl4 hr hll y) ?_;rintro _ s5 ⟨rfl, h5⟩;exact ⟨(), rfl, hK s5 h5⟩
 refine W.bx (fun z s' => z = (bM k, (⟨r, 0, none⟩, ()), ((Value.func (.func 237) #[] #[cp r]), ()), qz x, bM (bh old x.column), bM (bh new x.column), (p.x, ()), ((p.x.2.1 : Int), ()), ((i : Int), ()), ()) ∧ s3 = s') ?_ ?_;rotate_left
 ·intro J hJ;refine W.cr (bM (bh old x.column), ()) (lf ho3 x.column) rfl ?_;refine W.cr (bM (bh new x.column), ()) (lf hn3 x.column) rfl ?_;refine (W.mD _ _ _).2 ⟨?_, ?_⟩
  ·exact hJ _ _ ⟨rfl, rfl⟩
  ·exact hJ _ _ ⟨rfl, rfl⟩
 rintro _ _ ⟨rfl, rfl⟩;dsimp only
 obtain ⟨p1, hp1⟩ : ∃ p1 : List Wr, (if old ≠ [] ∧ (new = [] ∨ bh old x.column ≠ bh new x.column) then [⟨js x.id (bh old x.column) k, ⟨#[]⟩, true⟩] else []) = p1 := ⟨_, rfl⟩
 have hchgx : kP k old new x = p1 ++ (if new ≠ [] ∧ bU x.state = true then [⟨js x.id (bh new x.column) k, ⟨#[]⟩, false⟩] else []) := by unfold kP; rw [hp1]
 have hp1l : p1.length ≤ 1 := by rw [← hp1]; split <;> simp
 refine W.bx (fun z s' => z = (bM k, (⟨r, 0, none⟩, ()), ((Value.func (.func 237) #[] #[cp r]), ()), qz x, bM (bh new x.column), (p.x, ()), ((p.x.2.1 : Int), ()), ((i : Int), ()), ()) ∧ Lw s s' r (L3 ++ p1)) ?_ ?_;rotate_left
 ·intro J hJ;refine W.bx (fun z s' => z = (bM k, (⟨r, 0, none⟩, ()), ((Value.func (.func 237) #[] #[cp r]), ()), qz x, bM (bh old x.column), bM (bh new x.column), (p.x, ()), ((p.x.2.1 : Int), ()), ((i : Int), ()), (decide (old ≠ [] ∧ (new = [] ∨ bh old x.column ≠ bh new x.column)), ()), ()) ∧ s3 = s') ?_ ?_;rotate_left
  ·intro J2 hJ2;refine aI (fun e => ?_) fun e => ?_
   ·have e : (an : Int) > 0 := of_decide_eq_true e
    have ho1 : old ≠ [] := fun g => by rw [g] at hal; simp at hal; omega
    refine aI (fun e2 => ?_) fun e2 => ?_
    ·have e2 : new = [] := of_decide_eq_true e2;refine hJ2 _ _ ⟨?_, rfl⟩;rw [decide_eq_true ⟨ho1, .inl e2⟩]
    ·have e2 : ¬ new = [] := of_decide_eq_false e2;refine hJ2 _ _ ⟨?_, rfl⟩;rw [jn]
     have : (!decide (bh new x.column = bh old x.column)) = decide (old ≠ [] ∧ (new = [] ∨ bh old x.column ≠ bh new x.column)) := by
      by_cases g : bh old x.column = bh new x.column
      ·rw [decide_eq_true g.symm, decide_eq_false]; (first | done | rfl);rintro ⟨_, g2 | g2⟩; exact e2 g2; exact g2 g
      ·rw [decide_eq_false (fun q => g q.symm), decide_eq_true ⟨ho1, .inr g⟩]; (first | done | rfl)
     first
      | rw [this]
      | (have this2 : (!decide (bh old x.column = bh new x.column)) = decide (old ≠ [] ∧ (new = [] ∨ bh old x.column ≠ bh new x.column)) := by
          rw [← this]; congr 1; rw [decide_eq_decide]; exact ⟨Eq.symm, Eq.symm⟩
         rw [this2])
   ·have e : ¬ (an : Int) > 0 := of_decide_eq_false e;have ho1 : old = [] := List.eq_nil_of_length_eq_zero (by omega);refine hJ2 _ _ ⟨?_, rfl⟩;rw [decide_eq_false (fun g => g.1 ho1)]
  rintro _ _ ⟨rfl, rfl⟩;dsimp only;refine aI (fun e => ?_) fun e => ?_
  ·have e := of_decide_eq_true e;rw [if_pos e] at hp1;refine aH ((js x.id (bh old x.column) k, ()), ()) (zc x.id (bh old x.column) k s3) rfl ?_;refine hfn hL3 (by omega) ⟨js x.id (bh old x.column) k, ⟨#[]⟩, true⟩ fun s4 h4 => ?_;rw [hp1] at h4;exact hJ _ _ ⟨rfl, h4⟩
  ·have e := of_decide_eq_false e;rw [if_neg e] at hp1;refine hJ _ _ ⟨rfl, ?_⟩;rw [← hp1, List.append_nil]; exact hL3
 rintro _ s4 ⟨rfl, hL4⟩;dsimp only
 obtain ⟨L4, hL4e⟩ : ∃ L4, L3 ++ p1 = L4 := ⟨_, rfl⟩
 have hL4l : L4.length ≤ 2000002 := by rw [← hL4e, List.length_append]; omega
 rw [hL4e] at hL4;refine W.bx (fun z s' => z = (bM k, (⟨r, 0, none⟩, ()), ((Value.func (.func 237) #[] #[cp r]), ()), qz x, bM (bh new x.column), (p.x, ()), ((p.x.2.1 : Int), ()), ((i : Int), ()), (decide (new ≠ [] ∧ bU x.state = true), ()), ()) ∧ s4 = s') ?_ ?_;rotate_left
 ·intro J2 hJ2;refine aI (fun e => ?_) fun e => ?_
  ·have e : (bn : Int) > 0 := of_decide_eq_true e
   have hn1 : new ≠ [] := fun g => by rw [g] at hbl; simp at hbl; omega
   have hdc : decide (new ≠ [] ∧ bU x.state = true) = bU x.state := by
    cases hcb : bU x.state with
    | true => exact decide_eq_true ⟨hn1, rfl⟩
    | false => exact decide_eq_false fun g => by cases g.2
   rw [hdc] at hJ2;refine aI (fun e2 => ?_) fun e2 => ?_
   ·refine hJ2 _ _ ⟨?_, rfl⟩
    have : bU x.state = true := by unfold bU; rw [e2]; (first | done | rfl)
    rw [this]
   ·refine hJ2 _ _ ⟨?_, rfl⟩
    have : bU x.state = (x.state == 3) := by unfold bU; rw [e2]; (first | done | rfl)
    rw [this]
  ·have e : ¬ (bn : Int) > 0 := of_decide_eq_false e;have hn1 : new = [] := List.eq_nil_of_length_eq_zero (by omega);refine hJ2 _ _ ⟨?_, rfl⟩;rw [decide_eq_false (fun g => g.1 hn1)]
 rintro _ _ ⟨rfl, rfl⟩;dsimp only;rw [ai (k := i) (by omega)];refine aI (fun e => ?_) fun e => ?_
 ·have e := of_decide_eq_true e;rw [if_pos e] at hchgx;refine aH ((js x.id (bh new x.column) k, ()), ()) (zc x.id (bh new x.column) k s4) rfl ?_;refine hfn hL4 (by omega) ⟨js x.id (bh new x.column) k, ⟨#[]⟩, false⟩ fun s5 h5 => ?_;refine ⟨⟨i + 1, rfl, by omega, ?_⟩, by simp only [Int.toNat_natCast]; omega⟩;rw [hnext, hchgx, ← List.append_assoc, hL4e]; exact h5
 ·have e := of_decide_eq_false e;rw [if_neg e] at hchgx;refine ⟨⟨i + 1, rfl, by omega, ?_⟩, by simp only [Int.toNat_natCast]; omega⟩;rw [hnext, hchgx, List.append_nil, hL4e]; exact hL4
end
section
attribute [-simp] Fw.W.bC Fw.W.bA
section
variable {K V : Type} [BEq K] [LawfulBEq K]
theorem mL {f : List (K × V)} (hn : (f.map (·.1)).Nodup) (k : K) (v : V) (p : K × V) : p ∈ dm f k v ↔ p = (k, v) ∨ (p ∈ f ∧ p.1 ≠ k) := by
 induction f with
 | nil => simp [dm]
 | cons q f ih =>
  obtain ⟨a, b⟩ := q;simp only [List.map_cons, List.nodup_cons] at hn;simp only [dm]
  by_cases h : k = a
  ·subst h;rw [if_pos (by simp), List.mem_cons]
   constructor
   ·rintro (e | hm)
    ·exact .inl e
    ·refine .inr ⟨List.mem_cons_of_mem _ hm, fun e => hn.1 ?_⟩;rw [← e]; exact List.mem_map_of_mem hm
   ·rintro (e | ⟨hm, hne⟩)
    ·exact .inl e
    ·rcases List.mem_cons.1 hm with rfl | hm
     ·exact absurd rfl hne
     ·exact .inr hm
  ·rw [if_neg (by simpa using h), List.mem_cons, ih hn.2, List.mem_cons]
   constructor
   ·rintro (rfl | e | ⟨hm, hne⟩)
    ·exact .inr ⟨.inl rfl, fun e => h e.symm⟩
    ·exact .inl e
    ·exact .inr ⟨.inr hm, hne⟩
   ·rintro (e | ⟨rfl | hm, hne⟩)
    ·exact .inr (.inl e)
    ·exact .inl rfl
    ·exact .inr (.inr ⟨hm, hne⟩)
theorem Dd {f : List (K × V)} (hn : (f.map (·.1)).Nodup) (k : K) (v : V) : ((dm f k v).map (·.1)).Nodup := by
 induction f with
 | nil => simp [dm]
 | cons q f ih =>
  obtain ⟨a, b⟩ := q;have hn2 := hn;simp only [List.map_cons, List.nodup_cons] at hn;simp only [dm]
  by_cases h : k = a
  ·subst h;rw [if_pos (by simp)]; exact hn2
  ·rw [if_neg (by simpa using h), List.map_cons, List.nodup_cons];refine ⟨fun hm => ?_, ih hn.2⟩;obtain ⟨p, hp, e⟩ := List.mem_map.1 hm;rcases (mL hn.2 k v p).1 hp with rfl | ⟨hp, _⟩
   ·exact h e
   ·exact hn.1 (List.mem_map.2 ⟨p, hp, e⟩)
end
theorem uL {ov : List Wr} (h : jr ov) : (ov.map (·.key)).Nodup := by
 unfold jr at h;rw [List.Nodup, List.pairwise_map]
 exact h.imp fun {a b} e1 e2 => by rw [e2, eU] at e1; cases e1
theorem Jt {f : List (BA × Wr)} {ov : List Wr} (hv : jr ov) (hk : ∀ p ∈ f, p.1 = p.2.key) (hp : (f.map (·.2)).Perm ov) (x : Wr) : (∀ p ∈ dm f x.key x, p.1 = p.2.key) ∧ ((dm f x.key x).map (·.2)).Perm (cI ov x) := by
 have hkeys : f.map (·.1) = (f.map (·.2)).map (·.key) := by rw [List.map_map]; exact List.map_congr_left fun e he => hk e he
 have hn : (f.map (·.1)).Nodup := by rw [hkeys]; exact ((hp.map (·.key)).nodup_iff).2 (uL hv)
 have h1 : ∀ p ∈ dm f x.key x, p.1 = p.2.key := fun p hp => by
  rcases (mL hn _ _ p).1 hp with rfl | ⟨hp, _⟩
  ·rfl
  ·exact hk p hp
 refine ⟨h1, ?_⟩;obtain ⟨p1, p2⟩ := nt hv x
 have hn1 : ((dm f x.key x).map (·.2)).Nodup := by
  have h2 : ((dm f x.key x).map (·.1)) = ((dm f x.key x).map (·.2)).map (·.key) := by rw [List.map_map]; exact List.map_congr_left fun e he => h1 e he
  have h3 := Dd hn x.key x;rw [h2] at h3;exact List.Pairwise.of_map _ (fun a b hab e => hab (by rw [e])) h3
 have hn2 : (cI ov x).Nodup := List.Pairwise.of_map _ (fun a b hab e => hab (by rw [e])) (uL p1);refine (List.perm_ext_iff_of_nodup hn1 hn2).2 fun a => ?_;rw [p2, List.mem_map]
 constructor
 ·rintro ⟨p, hpa, rfl⟩;rcases (mL hn _ _ p).1 hpa with rfl | ⟨hp2, hne⟩
  ·exact .inl rfl
  ·refine .inr ⟨(hp.mem_iff).1 ?_, by rw [← hk p hp2]; exact hne⟩;exact List.mem_map_of_mem hp2
 ·rintro (rfl | ⟨ha, hne⟩)
  ·exact ⟨(a.key, a), (mL hn _ _ _).2 (.inl rfl), rfl⟩
  ·obtain ⟨p, hp2, rfl⟩ := List.mem_map.1 ((hp.mem_iff).2 ha);exact ⟨p, (mL hn _ _ _).2 (.inr ⟨hp2, by rw [hk p hp2]; exact hne⟩), rfl⟩
theorem Aj (l : List Wr) (x : Wr) : (cI l x).length ≤ l.length + 1 := by
 have h1 := congrArg List.length (List.takeWhile_append_dropWhile (p := fun y : Wr => bO y.key x.key) (l := l));have h2 := List.length_filter_le (fun y : Wr => decide (y.key ≠ x.key)) (l.dropWhile fun y => bO y.key x.key);rw [List.length_append] at h1;unfold cI;rw [List.length_append, List.length_append, List.length_singleton]; omega
theorem lK : ∀ (ws ov : List Wr), (ws.foldl cI ov).length ≤ ov.length + ws.length
 | [], ov => Nat.le_refl _
 | x :: ws, ov => by
  have h1 := lK ws (cI ov x);have h2 := Aj ov x;rw [List.foldl_cons, List.length_cons]; omega
theorem GQ {ov : List Wr} {x a : Wr} (h : a ∈ cI ov x) : a = x ∨ a ∈ ov := by
 unfold cI at h;rw [List.mem_append, List.mem_append, List.mem_singleton] at h;rcases h with (h | h) | h
 ·exact .inr (List.takeWhile_subset _ h)
 ·exact .inl h
 ·exact .inr ((List.dropWhile_sublist _).subset (List.mem_filter.1 h).1)
section
variable {s0 s : PH} {w : Nat} {S : aD} {tt sh : aP} {B : List Ht} {rds : List bJ} {ov : List Wr}
theorem EJ.put {r : aP} {mb mo : Nat} {qs : List wF} {bs : List (bJ × aP)} {f : List (BA × Wr)} {o : Obj} (h : EJ s0 s w S tt sh B rds ov) (hx : D4 s0 s w S tt sh B rds ov r mb mo qs bs f) (x : Wr) (ho : ic iB sx (s.aS mo o) mo (dm f x.key x)) (h1 : x.key.size ≤ 4000000 ∧ x.val.size ≤ 4000000) (h2 : ov.length + 1 ≤ 800000) :
  EJ s0 (s.aS mo o) w S tt sh B rds (cI ov x) ∧ Kt s (s.aS mo o) := by
 obtain ⟨es, c, hmo, _⟩ := hx.om;have u : Fw.Mod [mo] s (s.aS mo o) := Mod.aS (by simp);have md : Fw.Mod [] s0 (s.aS mo o) := hx.md.bT (.inr hx.mo0)
 have hrow : ∀ {α : Type} {E : cK α} {e : TypeId} {a : OA} {n c : Nat} {l : List α}, bp E s e a n c l → bp E (s.aS mo o) e a n c l := fun {α E e a n c l} hr => hr.mod u fun g hg hb => by
  have : g = mo := by simpa using hb
  subst this;rcases hr.shape with ⟨rfl, _⟩ | ⟨g', rfl⟩
  ·simp [Fw.aU] at hg
  ·simp [Fw.aU] at hg; subst hg;obtain ⟨cur, q2⟩ := hr.ty rfl;rw [hmo] at q2; cases q2
 obtain ⟨p1, p2⟩ := Jt h.cY hx.omk hx.omp x;refine ⟨⟨⟨r, mb, mo, qs, bs, dm f x.key x, md, hx.w0, ?_, hx.mb0, hx.mo0, hx.ne, ⟨hrow hx.rd.row, hx.rd.fr, md⟩, hx.rdq, fun q hq => hrow (hx.seen q hq), ?_, hx.bmq, fun e he => hrow (hx.bv e he), ho, p1, p2⟩, (nt h.cY x).1, fun a ha => ?_, ?_⟩, Kt.mod u fun g hg cur e hgc => ?_⟩
 ·rw [PH.bG]; exact hx.aU;rintro rfl; rw [hx.aU] at hmo; cases hmo
 ·obtain ⟨es2, c2, q1, q2⟩ := hx.bm;exact ⟨es2, c2, by rw [PH.bG _ _ hx.ne]; exact q1, q2⟩
 ·rcases GQ ha with rfl | ha
  ·exact h1
  ·exact h.sm a ha
 ·have := Aj ov x; omega
 ·have : g = mo := by simpa using hg
  subst this;rw [hmo] at hgc; cases hgc
theorem oW {α β : Type} {l : List α} {k : Nat} {x : α} (f : β → α → β) (b : β) (h : l[k]? = some x) : (l.take (k + 1)).foldl f b = f ((l.take k).foldl f b) x := by
 rw [List.take_add_one, h, List.foldl_append]; (first | done | rfl)
theorem sK (h : EJ s0 s w S tt sh B rds ov) {p : aC} (hp : fY s0 p) (hx : p.T.idxs.length ≤ 1000000) {a b : OA} {an ac bn bc : Nat} {old new : List aY} (ho : Sl bz s (a, an, ac) old) (hn : Sl bz s (b, bn, bc) new)
  (hsm : ∀ x ∈ dB p.T old new, x.key.size ≤ 4000000 ∧ x.val.size ≤ 4000000) (hl : ov.length + (dB p.T old new).length ≤ 800000) :
  ah 123 #[cp w, dX p.T p.c p.x p.k, .slice a an ac, .slice b bn bc] s fun y s' => y = .tuple #[] ∧ EJ s0 s' w S tt sh B rds ((dB p.T old new).foldl cI ov) ∧ Kt s s' := by
 refine Fs w p.T.id p.T.name p.c.1 p.c.2.1 p.c.2.2 p.x.1 p.x.2.1 p.x.2.2 p.k.1 p.k.2.1 p.k.2.2 a an ac b bn bc _ s ?_;unfold xY;simp only [aT, aQ, aO, aR, aM, bH, nL, aE, dj, bf, Nat.zero_add];refine W.ak (CP (hp.mono h.md.le) hx ho hn) ?_;rintro _ s1 ⟨ca, cn, cc, rfl, hG⟩;refine ⟨(((ca, cn, cc), ()), ()), rfl, ?_⟩
 obtain ⟨C, hC⟩ : ∃ C, dB p.T old new = C := ⟨_, rfl⟩
 rw [hC] at hG hsm hl ⊢;have hcn := hG.row.len;dsimp only
 refine ⟨fun z s' => ∃ i : Nat, z = (((ca, cn, cc), ()), ((cn : Int), ()), ((i : Int), ()), ()) ∧ i ≤ cn ∧ EJ s0 s' w S tt sh B rds ((C.take i).foldl cI ov) ∧ Kt s s' ∧ bp jz s' 79 ca cn cc C,
  fun z _ => cn - z.2.2.1.1.toNat, ⟨0, rfl, Nat.zero_le _, h.same hG.md, Kt.of hG.md, hG.row⟩, ?_⟩
 rintro _ s2 ⟨i, rfl, hi, hE, hk, hrow⟩;dsimp only;refine aI (fun e => ?_) fun e => ?_;rotate_left
 ·have e : ¬ (i : Int) < (cn : Int) := of_decide_eq_false e;rw [List.take_of_length_le (by omega)] at hE;exact ⟨rfl, hE, hk⟩
 have hlt : (i : Int) < (cn : Int) := of_decide_eq_true e
 obtain ⟨x, hx2⟩ : ∃ x, C[i]? = some x := ⟨_, List.getElem?_eq_getElem (by omega)⟩
 obtain ⟨g, rfl, hh⟩ := hrow.at hx2;refine bF ⟨Int.natCast_nonneg i, hlt⟩ ?_;simp only [dj, Int.toNat_natCast, bf, Nat.zero_add];have hh : s2.has ⟨g, i * 3, none⟩ (jz.f x) := hh;refine az hh (y := KD x) rfl ?_;obtain ⟨r, mb, mo, qs, bs, f, hx3⟩ := hE.ei;refine (W.aB hx3.aU _ _ _ _).2 ⟨(some mo, ()), rfl, ?_⟩;refine B1 (ke := iB) (ve := sx) hx3.om (key := x.key) (v := x) fun o ho => ?_;have hfl := lK (C.take i) ov;rw [List.length_take] at hfl;obtain ⟨q1, q2⟩ := hE.put hx3 x ho (hsm x (List.mem_of_getElem? hx2)) (by omega);rw [ai (k := i) (by omega)];refine ⟨⟨i + 1, rfl, by omega, ?_, hk.trans q2, q2.row hrow (by decide) (by decide)⟩, by simp only [Int.toNat_natCast]; omega⟩;rw [oW cI ov hx2]; exact q1
end
end
section
attribute [-simp] Fw.W.bC Fw.W.bA
def fZ (l : List aY) : Prop := de 0 l = true ∧ ∀ c ∈ l, BG c
theorem lJ : ∀ (l : List aY) (last : Int), de last l = true ↔ (∀ c ∈ l, bD c.v = true ∧ last < c.id) ∧ jq l
 | [], last => by simp [de, jq]
 | c :: l, last => by
  have ih := lJ l c.id;simp only [de, Bool.and_eq_true, decide_eq_true_eq, ih, jq, List.pairwise_cons, List.mem_cons]
  constructor
  ·rintro ⟨⟨h1, h2⟩, h3, h4⟩;refine ⟨fun x hx => ?_, fun x hx => (h3 x hx).2, h4⟩;rcases hx with rfl | hx
   ·exact ⟨h1, h2⟩
   ·exact ⟨(h3 x hx).1, by have := (h3 x hx).2; omega⟩
  ·rintro ⟨h1, h2, h3⟩;exact ⟨h1 c (.inl rfl), fun x hx => ⟨(h1 x (.inr hx)).1, h2 x hx⟩, h3⟩
theorem fZ.cY {l : List aY} (h : fZ l) : jq l := ((lJ _ _).1 h.1).2
theorem r64 {n : Int} (h : lC n) : -9223372036854775808 ≤ n ∧ n ≤ 9223372036854775807 := h
theorem fZ.ids {l : List aY} (h : fZ l) : CE l := fun c hc => ⟨by have := (((lJ _ _).1 h.1).1 c hc).2; omega, (r64 (h.2 c hc).2).2⟩
theorem fZ.nil : fZ [] := ⟨rfl, by simp⟩
theorem vv.p {l : List aY} (h : vv l) : fZ l := ⟨h.put, h.ok⟩
theorem zT {l : List aY} {k : Int} {v : aK} {c : aY} (h : c ∈ gR l k v) : c = ⟨k, v⟩ ∨ c ∈ l := by
 unfold gR at h;rw [List.mem_append, List.mem_append, List.mem_singleton] at h;rcases h with (h | h) | h
 ·exact .inr (List.takeWhile_subset _ h)
 ·exact .inl h
 ·refine .inr ((List.dropWhile_sublist (fun c : aY => decide (c.id < k)) (l := l)).subset ?_)
  split at h
  ·simp at h
  ·rename_i x r he
   split at h
   ·rw [he]; exact List.mem_cons_of_mem _ h
   ·rw [he]; exact h
theorem HJ {l : List aY} (h : jq l) (k : Int) (v : aK) : jq (gR l k v) := by
 have h1 := List.takeWhile_append_dropWhile (p := fun c : aY => decide (c.id < k)) (l := l);have hs := h;unfold jq at hs;rw [← h1] at hs;obtain ⟨p1, p2, p3⟩ := List.pairwise_append.1 hs
 have hlt : ∀ c ∈ l.takeWhile (fun c => decide (c.id < k)), c.id < k := fun c hc => by simpa using List.all_eq_true.1 (List.all_takeWhile (p := fun c : aY => decide (c.id < k)) (l := l)) c hc
 unfold gR jq
 have hrest : ∀ (r : List aY), r = (match l.dropWhile (fun c => decide (c.id < k)) with | [] => [] | c :: r => if c.id = k then r else c :: r) → (∀ c ∈ r, k < c.id) ∧ r.Pairwise (fun a b => a.id < b.id) ∧ ∀ c ∈ r, c ∈ l.dropWhile (fun c => decide (c.id < k)) := by
  intro r hr
  cases hd : l.dropWhile (fun c => decide (c.id < k)) with
  | nil => rw [hd] at hr; subst hr; simp
  | cons c r2 =>
   rw [hd] at hr p2
   have hc : ¬ c.id < k := by
    have := List.head?_dropWhile_not (p := fun c : aY => decide (c.id < k)) (l := l);rw [hd] at this;simpa using this
   have hp := List.pairwise_cons.1 p2;dsimp only at hr
   split at hr
   ·rename_i hk
    subst hr;exact ⟨fun x hx => by have := hp.1 x hx; omega, hp.2, fun x hx => List.mem_cons_of_mem _ hx⟩
   ·rename_i hk
    subst hr;refine ⟨fun x hx => ?_, p2, fun x hx => hx⟩;rcases List.mem_cons.1 hx with rfl | hx
    ·omega
    ·have := hp.1 x hx; omega
 obtain ⟨q1, q2, q3⟩ := hrest _ rfl;refine List.pairwise_append.2 ⟨List.pairwise_append.2 ⟨p1, List.pairwise_singleton _ _, ?_⟩, q2, ?_⟩
 ·intro a ha b hb;simp at hb; subst hb; exact hlt a ha
 ·intro a ha b hb;rcases List.mem_append.1 ha with ha | ha
  ·exact p3 a ha b (q3 b hb)
  ·simp at ha; subst ha; exact q1 b hb
theorem fZ.set {l : List aY} (h : fZ l) {k : Int} {v : aK} (h1 : 1 ≤ k) (h2 : k ≤ 9223372036854775807) (hv : ju v) : fZ (gR l k v) := by
 refine ⟨(lJ _ _).2 ⟨fun c hc => ?_, HJ h.cY k v⟩, fun c hc => ?_⟩
 ·rcases zT hc with rfl | hc
  ·exact ⟨hv.1, by dsimp only; omega⟩
  ·exact ((lJ _ _).1 h.1).1 c hc
 ·rcases zT hc with rfl | hc
  ·exact ⟨hv, by show -9223372036854775808 ≤ k ∧ k ≤ 9223372036854775807; omega⟩
  ·exact h.2 c hc
theorem iY {l : List aY} (h : jq l) (k : Int) (v : aK) : (gR l k v).length ≤ l.length + 1 := by
 rw [BC l h]; split <;> omega
structure gp (S : aD) (T : aG) : Prop where
 ne : T.cols ≠ []
 pub : ∀ c, T.cols[0]? = some c → c.state = 3
 cols : ∀ c ∈ T.cols, 1 ≤ c.id ∧ c.id ≤ 9223372036854775807 ∧ ju c.dflt
 par : ∀ x ∈ T.keys, ∃ U, gI S x.parent = some U ∧ U.cols ≠ []
 c8 : T.cols.length ≤ 8
 x8 : T.idxs.length ≤ 8
 k8 : T.keys.length ≤ 8
theorem CR {l : List aY} (h : fZ l) : (cU l).1.size ≤ 256 * l.length := by
 unfold cU;rw [if_pos h.1]
 show (kB (l.flatMap cW)).size ≤ _
 rw [cE];exact wO fun c hc => (h.2 c hc).1.1
theorem zS {T : aG} {old new : List aY} {x : Wr} (h : x ∈ dB T old new) : (x.key = iL T.id (bh (if old = [] then new else old) (eT T)) ∧ x.val = (cU new).1 ∧ x.dead = decide (new = [])) ∨ (x.val = ⟨#[]⟩ ∧ ∃ i ∈ T.idxs, x.key = js i.id (bh old i.column) (bh (if old = [] then new else old) (eT T)) ∨ x.key = js i.id (bh new i.column) (bh (if old = [] then new else old) (eT T))) := by
 unfold dB at h
 split at h
 ·simp at h
 ·rcases List.mem_cons.1 h with rfl | h
  ·exact .inl ⟨rfl, rfl, rfl⟩
  ·obtain ⟨i, hi, hx⟩ := List.mem_flatMap.1 h;unfold kP at hx;rw [List.mem_append] at hx;rcases hx with hx | hx
   ·split at hx
    ·simp at hx; subst hx; exact .inr ⟨rfl, i, hi, .inl rfl⟩
    ·simp at hx
   ·split at hx
    ·simp at hx; subst hx; exact .inr ⟨rfl, i, hi, .inr rfl⟩
    ·simp at hx
theorem oR {T : aG} {old new : List aY} (h : fZ new) (hl : new.length ≤ 15000) : ∀ x ∈ dB T old new, x.key.size ≤ 4000000 ∧ x.val.size ≤ 4000000 := fun x hx => by
 have hk : ∀ l : List aK, (keyOf l).1.size ≤ 1120 := gu;have hz := CR h;have h0 : (⟨#[]⟩ : BA).size = 0 := rfl;rcases zS hx with ⟨e1, e2, _⟩ | ⟨e2, i, hi, e1 | e1⟩
 ·refine ⟨?_, ?_⟩
  ·rw [e1]; have := hk [bg 0, bg T.id, bh (if old = [] then new else old) (eT T)]; unfold iL; omega
  ·rw [e2]; omega
 ·refine ⟨?_, ?_⟩
  ·rw [e1]; have := hk [bg 1, bg i.id, bh old i.column, bh (if old = [] then new else old) (eT T)]; unfold js; omega
  ·rw [e2]; omega
 ·refine ⟨?_, ?_⟩
  ·rw [e1]; have := hk [bg 1, bg i.id, bh new i.column, bh (if old = [] then new else old) (eT T)]; unfold js; omega
  ·rw [e2]; omega
structure qg where
 l : List aK
 u : aP
def Is : cK qg where
 sz := 1
 f q := [.slice q.u.1 q.u.2.1 q.u.2.2]
 len _ := rfl
 one q v hv := by simp at hv; subst hv; (first | done | rfl)
 pos := by omega
structure fH (s0 s : PH) (a : OA) (n c : Nat) (L : List (List aK)) (qs : List qg) : Prop where
 gw : Gw Is 125 s0 s a n c qs
 eq : qs.map (·.l) = L
 vs : ∀ q ∈ qs, bp dO s 28 q.u.1 q.u.2.1 q.u.2.2 q.l ∧ ∀ g ∈ Fw.aU q.u.1, s0 g = none
def nN (s0 s : PH) (rp : Rp) (y : Value) : Prop := ∃ a n c qs, y = .agg #[.int .i64 rp.n, .slice a n c] ∧ fH s0 s a n c rp.rows qs
theorem fH.nil {s0 s : PH} (h : Fw.Mod [] s0 s) : fH s0 s none 0 0 [] [] := ⟨Gw.nil h, rfl, by simp⟩
theorem nN.none {s0 s : PH} (n : Int) (h : Fw.Mod [] s0 s) : nN s0 s ⟨n, []⟩ (.agg #[.int .i64 n, .slice none 0 0]) := ⟨_, 0, 0, [], rfl, fH.nil h⟩
def kI (s0 s : PH) (w : Nat) (S : aD) (tt sh : aP) (B : List Ht) (rds : List bJ) (ov : List Wr) (E : yN) (y : Value) (s' : PH) : Prop :=
 ∃ ry, y = .tuple #[ry, .int .i64 E.err] ∧ nN s0 s' E.rep ry ∧ EJ s0 s' w S tt sh B (bI rds E.asks) (E.ws.foldl cI ov) ∧ Kt s s'
theorem Sl.tail {α : Type} {E : cK α} {s : PH} {a : OA} {n c : Nat} {x : α} {l : List α} (h : Sl E s (a, n, c) (x :: l)) : Sl E s (if c = 1 then a else a.map (·.add E.sz), n - 1, c - 1) l := by
 have hn : n = l.length + 1 := h.len;have hle : n ≤ c := h.le;have hf := h.cO;rw [List.length_cons] at hf;refine ⟨⟨by show n - 1 = l.length; omega, fun i y hy => ?_⟩, by show n - 1 ≤ c - 1; omega, by omega⟩;obtain ⟨ad, h1, h2⟩ := h.el.aA (i := i + 1) (x := y) (by simpa using hy);dsimp only at h1;have hil := (List.getElem?_eq_some_iff.1 hy).1;refine ⟨ad.add E.sz, E.f y, ?_, rfl, ?_⟩
 ·rw [if_neg (by omega), h1]; (first | done | rfl)
 ·show s.has ((ad.add E.sz).add (i * E.sz)) (E.f y)
  rw [mB];rw [show (i + 1) * E.sz = E.sz + i * E.sz by rw [Nat.add_mul]; omega] at h2;exact h2
theorem Gw.since {α : Type} {E : cK α} {e : TypeId} {s0 s s' : PH} {a : OA} {n c : Nat} {l : List α} (h : Gw E e s s' a n c l) (hm : Fw.Mod [] s0 s) : Gw E e s0 s' a n c l :=
 ⟨h.row, fun g hg => hm.none (h.fr g hg) (by simp), hm.trans h.md⟩
abbrev zo (c : cw) : Den [.int .i64, .str, .int .i64, .int .i64, .int .i64, .int .i64, .str] := (c.id, c.name, c.kind, c.state, c.dflt.kind, c.dflt.n, c.dflt.s, ())
abbrev vC (b : cz) (t : aP) : Den [.int .i64, .int .i64, .slice, .int .i64, .int .i64, .int .i64, .str, .int .i64, .int .i64, .int .i64, .str] := (b.kind, b.table, t, b.set, b.to.kind, b.to.n, b.to.s, b.whr, b.is.kind, b.is.n, b.is.s, ())
theorem vL {v : aK} {k : Int} (h : fits v k = true) : bD v = true := by unfold fits at h; exact (Bool.and_eq_true _ _ ▸ h).1
theorem o4 {c : cw} {l : List cw} {k : Nat} {vs : List aK} (h : fu (c :: l) k vs = true) : (c.state ≠ 3 ∧ fu l (k + 1) vs = true) ∨ (c.state = 3 ∧ ∃ v r, vs = v :: r ∧ bD v = true ∧ fu l (k + 1) r = true) := by
 unfold fu at h
 split at h
 ·rename_i h1; exact .inl ⟨h1, h⟩
 ·rename_i h1
  refine .inr ⟨by omega, ?_⟩
  cases vs with
  | nil => cases h
  | cons v r =>
   simp only [Bool.and_eq_true] at h;exact ⟨v, r, rfl, vL h.1.1, h.2⟩
section
variable {s0 s : PH} {w : Nat} {S : aD} {tt sh : aP} {B : List Ht} {rds : List bJ} {ov : List Wr}
theorem nU : ∀ {l : List cw} {k : Nat} {vs : List aK} {cs : List aY}, (∀ c ∈ l, 1 ≤ c.id ∧ c.id ≤ 9223372036854775807 ∧ ju c.dflt) → fu l k vs = true → (∀ v ∈ vs, lC v.n) → fZ cs → fZ (kQ l vs cs) ∧ (kQ l vs cs).length ≤ cs.length + l.length
 | [], k, vs, cs, _, _, _, h => ⟨h, Nat.le_refl _⟩
 | c :: l, k, vs, cs, hc, ho, hv, h => by
  have hc1 := hc c List.mem_cons_self;have hcl : ∀ x ∈ l, 1 ≤ x.id ∧ x.id ≤ 9223372036854775807 ∧ ju x.dflt := fun x hx => hc x (List.mem_cons_of_mem _ hx);unfold kQ;rcases o4 ho with ⟨h3, ho⟩ | ⟨h3, v, r, rfl, hvo, ho⟩
  ·rw [if_neg h3]
   split
   ·have hs := h.set hc1.1 hc1.2.1 hc1.2.2;have hl := iY h.cY c.id c.dflt;obtain ⟨i1, i2⟩ := nU hcl ho hv hs;exact ⟨i1, by rw [List.length_cons]; omega⟩
   ·obtain ⟨i1, i2⟩ := nU hcl ho hv h;exact ⟨i1, by rw [List.length_cons]; omega⟩
  ·rw [if_pos h3];have hs := h.set hc1.1 hc1.2.1 (v := v) ⟨hvo, hv v List.mem_cons_self⟩;have hl := iY h.cY c.id v;obtain ⟨i1, i2⟩ := nU (vs := r) hcl ho (fun x hx => hv x (List.mem_cons_of_mem _ hx)) hs;exact ⟨i1, by rw [List.length_cons]; show (kQ l r (gR cs c.id v)).length ≤ _; omega⟩
theorem Er {ps : List aC} (hB : iI s0 sh B) (h : EJ s0 s w S tt sh B rds ov) (hS : dP s0 tt S ps) {p : aC} (hp : fY s0 p) (hT : gp S p.T) {b : cz} {t : aP} (hv : Sl dO s0 t b.vals) (hne : b.vals ≠ []) (hok : fu p.T.cols 0 b.vals = true) (h64 : ∀ v ∈ b.vals, lC v.n)
  (hrl : rds.length + 100000 ≤ 4000000) (hol : ov.length + 60000 ≤ 800000) :
  ah 58 #[cp w, dX p.T p.c p.x p.k, nC b t] s (kI s0 s w S tt sh B rds ov (o5 S p.T b (aq 0 B ov))) := by
 refine Dx w p.T.id p.T.name p.c.1 p.c.2.1 p.c.2.2 p.x.1 p.x.2.1 p.x.2.2 p.k.1 p.k.2.1 p.k.2.2 b.kind b.table t.1 t.2.1 t.2.2 b.set b.to.kind b.to.n b.to.s b.whr b.is.kind b.is.n b.is.s _ s ?_;unfold vl
 obtain ⟨R, hR⟩ : ∃ R : Value → PH → Prop, kI s0 s w S tt sh B rds ov (o5 S p.T b (aq 0 B ov)) = R := ⟨_, rfl⟩
 rw [hR]
 obtain ⟨D, hD⟩ : ∃ D, aq 0 B ov = D := ⟨_, rfl⟩
 rw [hD] at hR;have hcl : p.c.2.1 = p.T.cols.length := hp.c.len;have hc8 := hT.c8
 obtain ⟨CS, hCS⟩ : ∃ CS, kQ p.T.cols b.vals [] = CS := ⟨_, rfl⟩
 obtain ⟨hCS1, hCS2⟩ := nU hT.cols hok h64 fZ.nil;rw [hCS] at hCS1 hCS2
 have hCS2 : CS.length ≤ 8 := by simp at hCS2; omega
 simp only [aQ, aO, aR, aM, bH, aT, aE]
 refine ⟨fun z s' => ∃ (i : Nat) (vt : aP) (vs : List aK) (a : OA) (n c : Nat) (cs : List aY), z = ((p.T.id, p.T.name, p.c, p.x, p.k, ()), vC b t, ((0 : Int), ((none, 0, 0) : aP), ()), ((a, n, c), ()), (vt, ()), (p.c, ()), ((p.c.2.1 : Int), ()), ((i : Int), ()), ()) ∧ i ≤ p.c.2.1 ∧ Gw bz 94 s s' a n c cs ∧ Sl dO s0 vt vs ∧ fZ cs ∧ cs.length ≤ i ∧ fu (p.T.cols.drop i) i vs = true ∧ (∀ v ∈ vs, lC v.n) ∧ kQ (p.T.cols.drop i) vs cs = CS,
  fun z _ => p.c.2.1 - z.2.2.2.2.2.2.2.1.1.toNat, ⟨0, t, b.vals, none, 0, 0, [], rfl, Nat.zero_le _, Gw.nil (Mod.refl _ _), hv, fZ.nil, Nat.le_refl _, hok, h64, hCS⟩, ?_⟩
 rintro _ s1 ⟨i, ⟨va, vn, vc⟩, vs, a, n, c, cs, rfl, hi, hG, hVs, hcs, hcsl, hio, hv64, hic⟩;have hE1 := h.same hG.md;dsimp only;refine aI (fun e => ?_) fun e => ?_
 ·have hlt : (i : Int) < (p.c.2.1 : Int) := of_decide_eq_true e
  obtain ⟨x, hx⟩ : ∃ x, p.T.cols[i]? = some x := ⟨_, List.getElem?_eq_getElem (by omega)⟩
  have hxc := hT.cols x (List.mem_of_getElem? hx);obtain ⟨ad, had, hh⟩ := (hp.c.mono hE1.md.le).el.aA hx;refine bF ⟨Int.natCast_nonneg i, hlt⟩ ?_;refine aN had ?_;simp only [Int.toNat_natCast];have hh : s1.has (ad.add (i * 7)) (dD.f x) := hh;refine az hh (y := zo x) rfl ?_;rw [ct hx] at hio hic;have hn := hG.row.len;rw [ai (k := i) (by omega)];dsimp only;unfold kQ at hic;rcases o4 hio with ⟨h3, hio⟩ | ⟨h3, v, r, rfl, hvo, hio⟩
  ·rw [if_neg h3] at hic;refine (W.af _ _ _ _).2 ⟨fun e3 => absurd (eq_of_beq e3) h3, fun _ => ?_⟩;refine aI (fun e2 => ?_) fun e2 => ?_
   ·have e2 : x.state = 2 := eq_of_beq e2;rw [if_pos e2] at hic;refine W.ak (tU (Sl.bE (t := (a, n, c)) hG.row (by omega)) hcs.cY hcs.ids (by omega) hxc.1 hxc.2.1 x.dflt) ?_;rintro _ s2 ⟨a2, n2, c2, rfl, hG2⟩;refine ⟨(((a2, n2, c2), ()), ()), rfl, ?_⟩;have hl := iY hcs.cY x.id x.dflt;refine ⟨⟨i + 1, (va, vn, vc), vs, a2, n2, c2, gR cs x.id x.dflt, rfl, by omega, hG2.since hG.md, hVs, hcs.set hxc.1 hxc.2.1 hxc.2.2, by omega, hio, hv64, hic⟩, by simp only [Int.toNat_natCast]; omega⟩
   ·have e2 : ¬ x.state = 2 := by simpa using e2
    rw [if_neg e2] at hic;refine ⟨⟨i + 1, (va, vn, vc), vs, a, n, c, cs, rfl, by omega, hG, hVs, hcs, by omega, hio, hv64, hic⟩, by simp only [Int.toNat_natCast]; omega⟩
  ·rw [if_pos h3] at hic;refine (W.af _ _ _ _).2 ⟨fun _ => ?_, fun e3 => absurd h3 (by simpa using e3)⟩;have hvl : vn = (v :: r).length := hVs.len;have hvle : vn ≤ vc := hVs.le;rw [List.length_cons] at hvl;refine bF ⟨Int.le_refl 0, by omega⟩ ?_;obtain ⟨av, hav, hhv⟩ := (hVs.mono hE1.md.le).el.aA (i := 0) rfl;refine aN hav ?_
   have hhv : s1.has (av.add 0) (dO.f v) := by simpa using hhv
   refine bq (j := 0) (A := av) (by simpa using hhv) (y := bM v) rfl ?_;refine W.ak (tU (Sl.bE (t := (a, n, c)) hG.row (by omega)) hcs.cY hcs.ids (by omega) hxc.1 hxc.2.1 v) ?_;rintro _ s2 ⟨a2, n2, c2, rfl, hG2⟩;refine ⟨(((a2, n2, c2), ()), ()), rfl, ?_⟩;refine bF ⟨by omega, by omega, by omega⟩ ?_;have hl := iY hcs.cY x.id v;refine ⟨⟨i + 1, (if vc = 1 then va else va.map (·.add 3), vn - 1, vc - 1), r, a2, n2, c2, gR cs x.id v, ?_, by omega, hG2.since hG.md, hVs.tail, hcs.set hxc.1 hxc.2.1 ⟨hvo, hv64 v List.mem_cons_self⟩, by omega, hio, fun y hy => hv64 y (List.mem_cons_of_mem _ hy), hic⟩, by simp only [Int.toNat_natCast]; omega⟩;simp only [Int.toNat_natCast]
 ·have e : ¬ (i : Int) < (p.c.2.1 : Int) := of_decide_eq_false e;rw [List.drop_of_length_le (by omega)] at hic;have hic : cs = CS := hic;subst hic
  obtain ⟨k, r, hbv⟩ : ∃ k r, b.vals = k :: r := by
   cases hb : b.vals with
   | nil => exact absurd hb hne
   | cons k r => exact ⟨k, r, rfl⟩
  have hkd : b.vals.headD kT = k := by rw [hbv]; (first | done | rfl)
  have hvl : t.2.1 = b.vals.length := hv.len;rw [hbv, List.length_cons] at hvl;refine bF ⟨Int.le_refl 0, (show (0 : Int) < (t.2.1 : Int) by omega)⟩ ?_;obtain ⟨av, hav, hhv⟩ := (hv.mono hE1.md.le).el.aA (i := 0) (x := k) (by rw [hbv]; (first | done | rfl));refine aN hav ?_;refine bq (j := 0) (A := av) (by simpa using hhv) (y := bM k) rfl ?_;have hn := hG.row.len
  have hins : o5 S p.T b D = (if gC p.T k D ≠ [] then ⟨210, kg, [bP p.T.id k], []⟩
   else if (dr S p.T k [] cs D).1 ≠ 0 then ⟨(dr S p.T k [] cs D).1, kg, bP p.T.id k :: (dr S p.T k [] cs D).2, []⟩
   else ⟨0, ⟨1, []⟩, bP p.T.id k :: (dr S p.T k [] cs D).2, dB p.T [] cs⟩) := by unfold o5; rw [hkd, hCS]
  have hx8 := hT.x8;have hk8 := hT.k8;refine W.ak (zh hB hE1 (by omega) hp hT.ne k) ?_;rintro _ s2 ⟨a2, n2, c2, qs2, rfl, hq2, _, hE2, hk2⟩;refine ⟨(((a2, n2, c2), ()), ()), rfl, ?_⟩;rw [hD] at hq2;have hn2 := hq2.len;have t2 : Kt s s2 := (Kt.of hG.md).trans hk2;dsimp only;refine aI (fun e => ?_) fun e => ?_
  ·have e : (n2 : Int) > 0 := of_decide_eq_true e
   have : gC p.T k D ≠ [] := fun g => by rw [g] at hn2; simp at hn2; omega
   rw [if_pos this] at hins;rw [← hR, hins];exact ⟨_, rfl, nN.none 0 hE2.md, hE2, t2⟩
  have e : ¬ (n2 : Int) > 0 := of_decide_eq_false e;have hnil : ¬ gC p.T k D ≠ [] := fun g => g (List.eq_nil_of_length_eq_zero (by omega));rw [if_neg hnil] at hins;have hadl := sA rds (bP p.T.id k);have hrow2 : bp bz s2 94 a n c cs := hk2.row hG.row (by decide) (by decide);refine W.ak (zg (old := []) (new := cs) hB hE2 hS hp (by omega) hT.par k bp.nil (by simp) hrow2 (by omega)) ?_;rintro _ s3 ⟨rfl, hE3, hk3⟩;rw [hD] at hE3;refine ⟨((_, ()), ()), by rw [hD]; (first | done | rfl), ?_⟩;have t3 := t2.trans hk3;dsimp only;refine aI (fun e => ?_) fun e => ?_
  ·have e : (dr S p.T k [] cs D).1 ≠ 0 := by simpa using e
   rw [if_pos e] at hins;rw [← hR, hins];exact ⟨_, rfl, nN.none 0 hE3.md, hE3, t3⟩
  ·have e : ¬ (dr S p.T k [] cs D).1 ≠ 0 := by simpa using e
   rw [if_neg e] at hins;have hrow3 : bp bz s3 94 a n c cs := hk3.row hrow2 (by decide) (by decide);have hcl2 := kO p.T [] cs;refine W.ak (sK (old := []) (new := cs) hE3 hp (by omega) Sl.nil (Sl.bE (t := (a, n, c)) hrow3 (by omega)) (oR hcs (by omega)) (by omega)) ?_;rintro _ s4 ⟨rfl, hE4, hk4⟩;refine ⟨(), rfl, ?_⟩;rw [← hR, hins];exact ⟨_, rfl, nN.none 1 hE4.md, hE4, t3.trans hk4⟩
end
end
section
attribute [-simp] Fw.W.bC Fw.W.bA
theorem tY {T : aG} {h : Ht} {r : Rw} (e : ff T h = some r) : gA h.val = some r.cells ∧ r.cells ≠ [] ∧ r.key = bh r.cells (eT T) := by
 unfold ff at e
 cases hg : gA h.val with
 | none => rw [hg] at e; cases e
 | some l =>
  rw [hg] at e
  cases l with
  | nil => cases e
  | cons c l => cases e; exact ⟨rfl, by simp, rfl⟩
theorem xh {T : aG} {l : List Ht} {r : Rw} (h : r ∈ iR T l) : ∃ x ∈ l, ff T x = some r := List.mem_filterMap.1 h
theorem Aq {T : aG} {k : aK} {D : List Ht} {r : Rw} (h : r ∈ gC T k D) : ∃ x ∈ D, ff T x = some r := by
 obtain ⟨x, hx, e⟩ := xh h;exact ⟨x, gz hx, e⟩
theorem yU {T : aG} {D : List Ht} {r : Rw} (h : r ∈ (eL T D).2) : ∃ x ∈ D, ff T x = some r := by
 unfold eL at h
 split at h
 ·simp at h
 ·obtain ⟨x, hx, e⟩ := xh h;exact ⟨x, gz hx, e⟩
theorem ux {T : aG} {b : cz} {D : List Ht} {r : Rw} (h : r ∈ (aV T b D).2) : ∃ x ∈ D, ff T x = some r := by
 unfold aV at h
 split at h
 ·exact yU h
 ·split at h
  ·exact Aq h
  ·split at h
   ·exact yU (List.mem_filter.1 h).1
   ·split at h
    ·simp at h
    ·obtain ⟨k, _, hk⟩ := List.mem_flatMap.1 h;exact Aq hk
def kG (N : Nat) (D : List Ht) : Prop := ∀ h ∈ D, ∀ l, gA h.val = some l → l.length ≤ N
theorem zQ : ∀ {x k : List UInt8}, ¬ k < x → k < x ++ [0] → k = x
 | [], [], _, _ => rfl
 | [], b :: k, _, h => by
  simp only [List.nil_append, List.cons_lt_cons_iff] at h;rcases h with h | ⟨_, h⟩
  ·exact absurd h (by simp [UInt8.lt_iff_toNat_lt])
  ·exact absurd h (by simp)
 | a :: x, [], h, _ => absurd (by simp) h
 | a :: x, b :: k, h, g => by
  simp only [List.cons_append, List.cons_lt_cons_iff] at h g;rcases g with g | ⟨rfl, g⟩
  ·exact absurd (.inl g) h
  ·rw [zQ (fun q => h (.inr ⟨rfl, q⟩)) g]
theorem EN {x k : BA} (h : gU k (x, x ++ ⟨#[0]⟩) = true) : k = x := by
 rw [EM] at h;simp only [Bool.and_eq_true, Bool.not_eq_true'] at h;unfold bO at h;simp only [decide_eq_false_iff_not, decide_eq_true_eq] at h;apply qB
 have : kL (x ++ ⟨#[0]⟩) = kL x ++ [0] := by unfold kL; simp
 rw [this] at h;exact zQ h.1 h.2
theorem Jr {D : List Ht} (h : cl D) (x : BA) : (au D (x, x ++ ⟨#[0]⟩)).length ≤ 1 := by
 have hs : cl (au D (x, x ++ ⟨#[0]⟩)) := h.filter _
 cases hl : au D (x, x ++ ⟨#[0]⟩) with
 | nil => simp
 | cons a l =>
  cases l with
  | nil => simp
  | cons b l =>
   rw [hl] at hs;have h1 := (List.pairwise_cons.1 hs).1 b (by simp)
   have ha : a ∈ au D (x, x ++ ⟨#[0]⟩) := by rw [hl]; simp
   have hb : b ∈ au D (x, x ++ ⟨#[0]⟩) := by rw [hl]; simp
   have e1 := EN (List.mem_filter.1 ha).2;have e2 := EN (List.mem_filter.1 hb).2;rw [e1, e2, eU] at h1; cases h1
theorem Ar {T : aG} {k : aK} {D : List Ht} (h : cl D) : (gC T k D).length ≤ 1 := Nat.le_trans (Ap T k D) (Jr h _)
theorem qw {α β : Type} {f : α → List β} : ∀ {l : List α}, (∀ x ∈ l, (f x).length ≤ 1) → (l.flatMap f).length ≤ l.length
 | [], _ => by simp
 | x :: l, h => by
  have h1 := qw (l := l) fun y hy => h y (List.mem_cons_of_mem _ hy);have h2 := h x List.mem_cons_self;rw [List.flatMap_cons, List.length_append, List.length_cons]; omega
theorem sE {T : aG} {D : List Ht} : (eL T D).2.length ≤ 64 := by
 unfold eL
 split
 ·simp
 ·have := qL T (au D (bZ T.id)); show (iR T (au D (bZ T.id))).length ≤ 64; omega
theorem l5 {T : aG} {b : cz} {D : List Ht} (h : cl D) : (aV T b D).2.length ≤ 64 := by
 unfold aV
 split
 ·exact sE
 ·split
  ·have := Ar (T := T) (k := b.is) h; show (gC T b.is D).length ≤ 64; omega
  ·split
   ·exact Nat.le_trans (List.length_filter_le _ _) sE
   ·split
    ·simp
    ·rename_i x hx hn
     refine Nat.le_trans (qw fun k _ => Ar h) ?_;have : (dZ (au D (cH x.id b.is))).length ≤ (au D (cH x.id b.is)).length := List.length_filterMap_le _ _;omega
theorem o7 {T : aG} {b : cz} {D : List Ht} : (bL T b D).length ≤ 65 := by
 unfold bL
 split
 ·simp
 ·split
  ·simp
  ·split
   ·simp
   ·rename_i x hx
    rw [List.length_cons]
    split
    ·simp
    ·have : (dZ (au D (cH x.id b.is))).length ≤ (au D (cH x.id b.is)).length := List.length_filterMap_le _ _;rw [List.length_map]; omega
theorem zl (k : aK) (old new : List aY) (D : List Ht) : ∀ l : List ez, (fI k old new D l).2.length ≤ l.length
 | [] => by simp [fI]
 | x :: l => by
  have := zl k old new D l;unfold fI
  split
  ·split
   ·simp
   ·simp only [List.length_cons]; omega
  ·rw [List.length_cons]; omega
theorem zk (S : aD) (T : aG) (k : aK) (old new : List aY) (D : List Ht) : ∀ l : List For, (fA S T k old new D l).2.length ≤ l.length
 | [] => by simp [fA]
 | x :: l => by
  have := zk S T k old new D l;unfold fA
  split
  ·split
   ·rw [List.length_cons]; omega
   ·split
    ·simp
    ·simp only [List.length_cons]; omega
  ·rw [List.length_cons]; omega
theorem sO (S : aD) (T : aG) (k : aK) (old new : List aY) (D : List Ht) : (dr S T k old new D).2.length ≤ T.idxs.length + T.keys.length := by
 have h1 := zl k old new D T.idxs;have h2 := zk S T k old new D T.keys;unfold dr
 split
 ·omega
 ·rw [List.length_append]; omega
theorem dQ (ts : Int) (l : List Ht) (a b : List Wr) : aq ts l (a ++ b) = aq ts (aq ts l a) b := List.foldl_append
theorem Cg {T : aG} {S : aD} {b : cz} {r : Rw} (hT : gp S T) (hr : fZ r.cells) (h1 : 1 ≤ b.set) (h2 : b.set ≤ 9223372036854775807) (hto : ju b.to) : fZ (jb T b r) ∧ (jb T b r).length ≤ r.cells.length + 9 := by
 have key : ∀ (l : List cw) (cs : List aY), (∀ c ∈ l, 1 ≤ c.id ∧ c.id ≤ 9223372036854775807 ∧ ju c.dflt) → fZ cs → fZ (qq l cs) ∧ (qq l cs).length ≤ cs.length + l.length := by
  intro l
  induction l with
  | nil => intro cs _ h; exact ⟨h, Nat.le_refl _⟩
  | cons c l ih =>
   intro cs hc h;have hc1 := hc c List.mem_cons_self;have hcl : ∀ x ∈ l, 1 ≤ x.id ∧ x.id ≤ 9223372036854775807 ∧ ju x.dflt := fun x hx => hc x (List.mem_cons_of_mem _ hx);unfold qq
   split
   ·have hl := iY h.cY c.id c.dflt;obtain ⟨i1, i2⟩ := ih _ hcl (h.set hc1.1 hc1.2.1 hc1.2.2);exact ⟨i1, by rw [List.length_cons]; omega⟩
   ·obtain ⟨i1, i2⟩ := ih _ hcl h;exact ⟨i1, by rw [List.length_cons]; omega⟩
 have hl := iY hr.cY b.set b.to;have hc8 := hT.c8;obtain ⟨i1, i2⟩ := key T.cols _ hT.cols (hr.set h1 h2 hto);exact ⟨i1, by unfold jb; omega⟩
section
variable {s0 s : PH} {w : Nat} {S : aD} {tt sh : aP} {B : List Ht} {rds : List bJ} {ov : List Wr}
def K0 (s0 s : PH) (w : Nat) (S : aD) (tt sh : aP) (B : List Ht) (rds : List bJ) (ov : List Wr) (f : List Rw → List Ht → Int × List bJ × List Wr) (m k : Nat) (L : List Rw) (D : List Ht) (i : Nat) (s' : PH) : Prop :=
 ∃ A Wl, A.length ≤ i * m ∧ Wl.length ≤ i * k ∧ EJ s0 s' w S tt sh B (bI rds A) (Wl.foldl cI ov) ∧ Kt s s' ∧
  (f L D).1 = (f (L.drop i) (aq 0 D Wl)).1 ∧ (f L D).2.1 = A ++ (f (L.drop i) (aq 0 D Wl)).2.1 ∧ (f L D).2.2 = Wl ++ (f (L.drop i) (aq 0 D Wl)).2.2
theorem Ew {ps : List aC} {N : Nat} (hB : iI s0 sh B) (h : EJ s0 s w S tt sh B rds ov) (hS : dP s0 tt S ps) {p : aC} (hp : fY s0 p) (hT : gp S p.T) {b : cz} {t : aP} (hN : kG N (aq 0 B ov)) (hNl : N ≤ 14000) (hb1 : 1 ≤ b.set) (hb2 : b.set ≤ 9223372036854775807) (hto : ju b.to)
  (hrl : rds.length + 100000 ≤ 4000000) (hol : ov.length + 60000 ≤ 800000) :
  ah 59 #[cp w, dX p.T p.c p.x p.k, nC b t] s (kI s0 s w S tt sh B rds ov (pK S p.T b (aq 0 B ov))) := by
 refine DD w p.T.id p.T.name p.c.1 p.c.2.1 p.c.2.2 p.x.1 p.x.2.1 p.x.2.2 p.k.1 p.k.2.1 p.k.2.2 b.kind b.table t.1 t.2.1 t.2.2 b.set b.to.kind b.to.n b.to.s b.whr b.is.kind b.is.n b.is.s _ s ?_;unfold vu
 obtain ⟨R, hR⟩ : ∃ R : Value → PH → Prop, kI s0 s w S tt sh B rds ov (pK S p.T b (aq 0 B ov)) = R := ⟨_, rfl⟩
 rw [hR]
 obtain ⟨D, hD⟩ : ∃ D, aq 0 B ov = D := ⟨_, rfl⟩
 have hDs : cl D := by rw [← hD]; exact cV _ hB.cY
 have hds := gY hB h.cY h.sm
 have hputs : ∀ Wl : List Wr, aq 0 B (Wl.foldl cI ov) = aq 0 D Wl := fun Wl => by rw [← hD]; exact (k9 hB.cY Wl h.cY).symm
 rw [hD] at hR hN hds;have hcl : p.c.2.1 = p.T.cols.length := hp.c.len;have hc8 := hT.c8;have hx8 := hT.x8;have hk8 := hT.k8;simp only [aQ, aO, aR, aM, bH, aT, aE];have hA65 := o7 (T := p.T) (b := b) (D := D);have hm := sJ hB h (by omega) hp hT.ne b t;rw [hD] at hm;refine W.ak hm ?_;rintro _ s1 ⟨a, n, c, qs, rfl, hq, hE1, t1⟩;refine ⟨(((a, n, c), ()), ((aV p.T b D).1, ()), ()), rfl, ?_⟩;dsimp only
 obtain ⟨L, hL⟩ : ∃ L, (aV p.T b D).2 = L := ⟨_, rfl⟩
 have hLlen : L.length ≤ 64 := by rw [← hL]; exact l5 hDs
 have hLm : ∀ r ∈ L, fZ r.cells ∧ r.cells.length ≤ N := fun r hr => by
  rw [← hL] at hr;obtain ⟨x, hx, e⟩ := ux hr;have hg := (tY e).1;exact ⟨(vO (hds.2 x hx) hg).p, hN x hx _ hg⟩
 have hupd : pK S p.T b D = (if (aV p.T b D).1 ≠ 0 then ⟨(aV p.T b D).1, kg, bL p.T b D, []⟩
  else if (dN S p.T b L D).1 ≠ 0 then ⟨(dN S p.T b L D).1, kg, bL p.T b D ++ (dN S p.T b L D).2.1, (dN S p.T b L D).2.2⟩
  else ⟨0, ⟨L.length, []⟩, bL p.T b D ++ (dN S p.T b L D).2.1, (dN S p.T b L D).2.2⟩) := by unfold pK; rw [hL]
 rw [hL] at hq;have hnl := hq.len;refine aI (fun e => ?_) fun e => ?_
 ·have e : (aV p.T b D).1 ≠ 0 := by simpa using e
  rw [if_pos e] at hupd;rw [← hR, hupd];exact ⟨_, rfl, nN.none 0 hE1.md, hE1, t1⟩
 have e : ¬ (aV p.T b D).1 ≠ 0 := by simpa using e
 rw [if_neg e] at hupd;have hA1 := eH (bL p.T b D) rds;have hqlen : qs.length = n := hq.gw.row.len.symm
 refine ⟨fun z s' => ∃ (i : Nat), z = ((p.T.id, p.T.name, p.c, p.x, p.k, ()), vC b t, ((0 : Int), ((none, 0, 0) : aP), ()), ((a, n, c), ()), ((a, n, c), ()), ((n : Int), ()), ((i : Int), ()), ()) ∧ i ≤ n ∧ K0 s0 s w S tt sh B (bI rds (bL p.T b D)) ov (dN S p.T b) 16 17 L D i s' ∧ fq s0 s' a n c L qs,
  fun z _ => n - z.2.2.2.2.2.2.1.1.toNat, ⟨0, rfl, Nat.zero_le _, ⟨[], [], by simp, by simp, hE1, t1, rfl, rfl, rfl⟩, hq⟩, ?_⟩
 rintro _ s2 ⟨i, rfl, hi, ⟨A, Wl, hA, hW, hE2, t2, u1, u2, u3⟩, hq2⟩;dsimp only;have hA2 := eH A (bI rds (bL p.T b D));have hW2 := lK Wl ov;refine aI (fun e => ?_) fun e => ?_;rotate_left
 ·have e : ¬ (i : Int) < (n : Int) := of_decide_eq_false e;rw [List.drop_of_length_le (by omega)] at u1 u2 u3;have u1 : (dN S p.T b L D).1 = 0 := u1
  have u2 : (dN S p.T b L D).2.1 = A := by rw [u2]; exact List.append_nil _
  have u3 : (dN S p.T b L D).2.2 = Wl := by rw [u3]; exact List.append_nil _
  rw [u1, if_neg (by decide), u2, u3] at hupd;rw [← hR, hupd];refine ⟨_, rfl, ?_, by rw [cN]; exact hE2, t2⟩;have := nN.none (L.length : Int) hE2.md;rw [← hnl] at this ⊢;exact this
 have hlt : (i : Int) < (n : Int) := of_decide_eq_true e
 obtain ⟨q, hqi⟩ : ∃ q, qs[i]? = some q := ⟨_, List.getElem?_eq_getElem (by omega)⟩
 have hqm := List.mem_of_getElem? hqi
 have hLi : L[i]? = some q.r := by rw [← hq.eq, List.getElem?_map, hqi]; (first | done | rfl)
 obtain ⟨hcP, hcN⟩ := hLm q.r (List.mem_of_getElem? hLi);obtain ⟨g, rfl, hh⟩ := hq2.gw.row.at hqi;refine bF ⟨Int.natCast_nonneg i, hlt⟩ ?_;simp only [dj, Int.toNat_natCast, bf, Nat.zero_add];have hh : s2.has ⟨g, i * 4, none⟩ (lW.f q) := hh;refine az hh (y := xl q.r q.u) rfl ?_;rw [ct hLi] at u1 u2 u3;have hqc := (hq2.cs q hqm).1;dsimp only;refine W.ak (tU (Sl.bE (t := q.u) hqc (by omega)) hcP.cY hcP.ids (by have := hqc.len; show q.u.2.1 ≤ 4000000; omega) hb1 hb2 b.to) ?_;rintro _ s3 ⟨a3, n3, c3, rfl, hG3⟩;refine ⟨(((a3, n3, c3), ()), ()), rfl, ?_⟩
 obtain ⟨NW, hNW⟩ : ∃ NW, jb p.T b q.r = NW := ⟨_, rfl⟩
 obtain ⟨hNW1, hNW2⟩ := Cg (r := q.r) hT hcP hb1 hb2 hto;rw [hNW] at hNW1 hNW2;have hcP3 := hcP.set hb1 hb2 hto;have hl3 := iY hcP.cY b.set b.to
 refine ⟨fun z s' => ∃ (j : Nat) (a4 : OA) (n4 c4 : Nat) (cs : List aY), z = ((p.T.id, p.T.name, p.c, p.x, p.k, ()), vC b t, ((0 : Int), ((none, 0, 0) : aP), ()), ((some ⟨g, 0, none⟩, n, c), ()), xl q.r q.u, ((a4, n4, c4), ()), ((some ⟨g, 0, none⟩, n, c), ()), ((n : Int), ()), ((i : Int), ()), (p.c, ()), ((p.c.2.1 : Int), ()), ((j : Int), ()), ()) ∧ j ≤ p.c.2.1 ∧ Gw bz 94 s2 s' a4 n4 c4 cs ∧ fZ cs ∧ cs.length ≤ N + 1 + j ∧ qq (p.T.cols.drop j) cs = NW,
  fun z _ => p.c.2.1 - z.2.2.2.2.2.2.2.2.2.2.2.1.1.toNat, ⟨0, a3, n3, c3, _, rfl, Nat.zero_le _, hG3, hcP3, by omega, hNW⟩, ?_⟩
 rintro _ s4 ⟨j, a4, n4, c4, cs, rfl, hj, hG4, hcs, hcsl, hfil⟩;dsimp only;have hn4 := hG4.row.len;have hE4 := hE2.same hG4.md;refine aI (fun e => ?_) fun e => ?_
 ·have hlj : (j : Int) < (p.c.2.1 : Int) := of_decide_eq_true e
  obtain ⟨x, hx⟩ : ∃ x, p.T.cols[j]? = some x := ⟨_, List.getElem?_eq_getElem (by omega)⟩
  have hxc := hT.cols x (List.mem_of_getElem? hx);obtain ⟨ad, had, hhx⟩ := (hp.c.mono hE4.md.le).el.aA hx;refine bF ⟨Int.natCast_nonneg j, hlj⟩ ?_;refine aN had ?_;simp only [Int.toNat_natCast];have hhx : s4.has (ad.add (j * 7)) (dD.f x) := hhx;refine az hhx (y := zo x) rfl ?_;rw [ct hx] at hfil;unfold qq at hfil;rw [ai (k := j) (by omega)];dsimp only;refine aI (fun e2 => ?_) fun e2 => ?_
  ·have e2 : x.state = 2 := eq_of_beq e2;refine aH ((gZ cs x.id, ()), ()) (J3 (Sl.bE (t := (a4, n4, c4)) hG4.row (by omega)) x.id) rfl ?_;dsimp only;refine aI (fun e3 => ?_) fun e3 => ?_
   ·have e3 : gZ cs x.id = false := by simpa using e3
    rw [if_pos ⟨e2, e3⟩] at hfil;refine W.ak (tU (Sl.bE (t := (a4, n4, c4)) hG4.row (by omega)) hcs.cY hcs.ids (by omega) hxc.1 hxc.2.1 x.dflt) ?_;rintro _ s5 ⟨a5, n5, c5, rfl, hG5⟩;refine ⟨(((a5, n5, c5), ()), ()), rfl, ?_⟩;have hl := iY hcs.cY x.id x.dflt;exact ⟨⟨j + 1, a5, n5, c5, gR cs x.id x.dflt, rfl, by omega, hG5.since hG4.md, hcs.set hxc.1 hxc.2.1 hxc.2.2, by omega, hfil⟩, by simp only [Int.toNat_natCast]; omega⟩
   ·have e3 : gZ cs x.id = true := by simpa using e3
    rw [if_neg (fun g => by rw [e3] at g; cases g.2)] at hfil;exact ⟨⟨j + 1, a4, n4, c4, cs, rfl, by omega, hG4, hcs, by omega, hfil⟩, by simp only [Int.toNat_natCast]; omega⟩
  ·have e2 : ¬ x.state = 2 := by simpa using e2
   rw [if_neg (fun g => e2 g.1)] at hfil;exact ⟨⟨j + 1, a4, n4, c4, cs, rfl, by omega, hG4, hcs, by omega, hfil⟩, by simp only [Int.toNat_natCast]; omega⟩
 ·have e : ¬ (j : Int) < (p.c.2.1 : Int) := of_decide_eq_false e;rw [List.drop_of_length_le (by omega)] at hfil;have hfil : cs = NW := hfil;subst hfil;have hqc4 := hqc.mod hG4.md (by simp);have hqcl := hqc.len;have t4 : Kt s s4 := t2.trans (Kt.of hG4.md);refine W.ak (zg (old := q.r.cells) (new := cs) hB hE4 hS hp (by omega) hT.par q.r.key hqc4 (by omega) hG4.row (by omega)) ?_;rintro _ s5 ⟨rfl, hE5, hk5⟩;rw [hputs Wl] at hE5;have hcpl := sO S p.T q.r.key q.r.cells cs (aq 0 D Wl);refine ⟨(((dr S p.T q.r.key q.r.cells cs (aq 0 D Wl)).1, ()), ()), by rw [hputs Wl]; (first | done | rfl), ?_⟩;have t5 := t4.trans hk5;dsimp only;rw [dN] at u1 u2 u3;rw [hNW] at u1 u2 u3;refine aI (fun e => ?_) fun e => ?_
  ·have e : (dr S p.T q.r.key q.r.cells cs (aq 0 D Wl)).1 ≠ 0 := by simpa using e
   rw [if_pos e] at u1 u2 u3;dsimp only at u1 u2 u3;rw [u1, if_pos e, u2, u3, List.append_nil] at hupd;rw [← hR, hupd];exact ⟨_, rfl, nN.none 0 hE5.md, by rw [cN, cN]; exact hE5, t5⟩
  ·have e : ¬ (dr S p.T q.r.key q.r.cells cs (aq 0 D Wl)).1 ≠ 0 := by simpa using e
   rw [if_neg e] at u1 u2 u3;dsimp only at u1 u2 u3;have hcl2 := kO p.T q.r.cells cs;have hold5 := hk5.row hqc4 (by decide) (by decide);have hnew5 := hk5.row hG4.row (by decide) (by decide);refine W.ak (sK hE5 hp (by omega) (Sl.bE (t := q.u) hold5 (by omega)) (Sl.bE (t := (a4, n4, c4)) hnew5 (by omega)) (oR hcs (by omega)) (by omega)) ?_;rintro _ s6 ⟨rfl, hE6, hk6⟩;refine ⟨(), rfl, ?_⟩;have t6 := t5.trans hk6;rw [ai (k := i) (by omega)];refine ⟨⟨i + 1, rfl, by omega, ⟨A ++ (dr S p.T q.r.key q.r.cells cs (aq 0 D Wl)).2, Wl ++ dB p.T q.r.cells cs, ?_, ?_, ?_, t6, ?_, ?_, ?_⟩, hk6.rws (hk5.rws (hq2.same hG4.md) hE5.md) hE6.md⟩, by simp only [Int.toNat_natCast]; omega⟩
   ·rw [List.length_append]; omega
   ·rw [List.length_append]; omega
   ·rw [cN, List.foldl_append]; exact hE6
   ·rw [dQ, u1]
   ·rw [dQ, u2, List.append_assoc]
   ·rw [dQ, u3, List.append_assoc]
end
end
section
attribute [-simp] Fw.W.bC Fw.W.bA
abbrev DL (r : Rw) (u : aP) : Obj := .cells #[.int .i64 r.key.kind, .int .i64 r.key.n, .string r.key.s, .slice u.1 u.2.1 u.2.2] 234 (0, 0)
abbrev mS (q : aC) : Obj := .cells #[.int .i64 q.T.id, .string q.T.name, .slice q.c.1 q.c.2.1 q.c.2.2, .slice q.x.1 q.x.2.1 q.x.2.2, .slice q.k.1 q.k.2.1 q.k.2.2] 139 (0, 0)
theorem Gt {s : PH} {p q r2 u : Nat} {x : For} {r c : Rw} {ru cu : aP} {U T : aC} (hp : s p = some (vN x)) (hq : s q = some (DL r ru)) (hr : s r2 = some (mS U)) (hu : s u = some (mS T)) (hc : Sl bz s cu c.cells) :
  ah 198 #[Ky c cu, cp p, cp q, cp r2, cp u] s fun y s' => y = .bool (lH T.T U.T r x c) ∧ s' = s := by
 obtain ⟨ca, cn, cc⟩ := cu;refine Fo c.key.kind c.key.n c.key.s ca cn cc p q r2 u _ s ?_;unfold xV lH;simp only [bH, bS, aO, aE, bf, Nat.zero_add];refine (W.aB hp _ _ _ _).2 ⟨(x.column, ()), rfl, ?_⟩;refine W.cr (bM (bh c.cells x.column), ()) (lf hc x.column) rfl ?_;refine (W.aB hq _ _ _ _).2 ⟨bM r.key, rfl, ?_⟩;dsimp only;have h1 := jn (bh c.cells x.column) r.key;have h2 := jn c.key r.key;refine aI (fun e => ?_) fun e => ?_
 ·have e : decide (bh c.cells x.column = r.key) = true := by rw [← h1]; exact e
  rw [e, Bool.true_and];refine (W.aB hr _ _ _ _).2 ⟨(U.T.id, ()), rfl, ?_⟩;refine (W.aB hu _ _ _ _).2 ⟨(T.T.id, ()), rfl, ?_⟩;refine aI (fun e2 => ?_) fun e2 => ?_
  ·have e2 : U.T.id ≠ T.T.id := by simpa using e2
   exact ⟨by rw [decide_eq_true e2]; (first | done | rfl), rfl⟩
  ·have e2 : ¬ U.T.id ≠ T.T.id := by simpa using e2
   refine (W.aB hq _ _ _ _).2 ⟨bM r.key, rfl, ?_⟩;refine ⟨?_, rfl⟩;rw [decide_eq_false e2, Bool.false_or, decide_not, ← h2]
 ·have e : decide (bh c.cells x.column = r.key) = false := by rw [← h1]; exact e
  exact ⟨by rw [e]; (first | done | rfl), rfl⟩
theorem Bb {s : PH} {a : OA} {n c p q r2 u : Nat} {x : For} {r : Rw} {ru : aP} {U T : aC} {qs : List iu} (h : Sl lW s (a, n, c) qs) (hcs : ∀ z ∈ qs, Sl bz s z.u z.r.cells) (hp : s p = some (vN x)) (hq : s q = some (DL r ru)) (hr : s r2 = some (mS U)) (hu : s u = some (mS T)) :
  ah 197 #[.slice a n c, .func (.func 198) #[] #[cp p, cp q, cp r2, cp u]] s fun y s' => y = .bool ((qs.map (·.r)).any (lH T.T U.T r x)) ∧ s' = s := by
 have hidx : ah 238 #[.slice a n c, .func (.func 198) #[] #[cp p, cp q, cp r2, cp u]] s fun y s' => y = .int .i64 (aJ (fun z : iu => lH T.T U.T r x z.r) qs 0) ∧ s' = s := by
  refine vW a n c p q r2 u _ s ?_;unfold ox;exact jK (fun z : iu => xl z.r z.u) h (fun _ => rfl) (fun z hz => Gt hp hq hr hu (hcs z hz)) ⟨rfl, rfl⟩
 refine zZ a n c p q r2 u _ s ?_;unfold qV;simp only [aT, aE];refine aH ((aJ (fun z : iu => lH T.T U.T r x z.r) qs 0, ()), ()) hidx rfl ?_;refine ⟨?_, rfl⟩
 show Value.bool (decide (aJ (fun z : iu => lH T.T U.T r x z.r) qs 0 ≥ 0)) = _
 rw [tv, List.any_map]; (first | done | rfl)
def Lp (s0 s : PH) (w : Nat) (S : aD) (tt sh : aP) (B : List Ht) (rds : List bJ) (ov : List Wr) (T : aG) (r : Rw) (D : List Ht) (i : Nat) (s' : PH) : Prop := ∃ A, A.length ≤ i * 8 ∧ EJ s0 s' w S tt sh B (bI rds A) ov ∧ Kt s s' ∧ (eu T r D S.tabs).1 = (eu T r D (S.tabs.drop i)).1 ∧ (eu T r D S.tabs).2 = A ++ (eu T r D (S.tabs.drop i)).2
def KW (s0 s : PH) (w : Nat) (S : aD) (tt sh : aP) (B : List Ht) (rds : List bJ) (ov : List Wr) (T U : aG) (r : Rw) (D : List Ht) (l : List For) (i : Nat) (s' : PH) : Prop := ∃ A, A.length ≤ i ∧ EJ s0 s' w S tt sh B (bI rds A) ov ∧ Kt s s' ∧ (fL T U r D l).1 = (fL T U r D (l.drop i)).1 ∧ (fL T U r D l).2 = A ++ (fL T U r D (l.drop i)).2
section
variable {s0 s : PH} {w : Nat} {S : aD} {tt sh : aP} {B : List Ht} {rds : List bJ} {ov : List Wr}
theorem IS {ps : List aC} (hB : iI s0 sh B) (h : EJ s0 s w S tt sh B rds ov) (hS : dP s0 tt S ps) (hAll : ∀ T ∈ S.tabs, gp S T) (hT6 : S.tabs.length ≤ 6) (p : aC) {r : Rw} {u : aP} (hrl : rds.length + 1000 ≤ 4000000) :
  ah 126 #[cp w, dX p.T p.c p.x p.k, Ky r u] s fun y s' => y = .int .i64 (eu p.T r (aq 0 B ov) S.tabs).1 ∧ EJ s0 s' w S tt sh B (bI rds (eu p.T r (aq 0 B ov) S.tabs).2) ov ∧ Kt s s' := by
 refine Ho w p.T.id p.T.name p.c.1 p.c.2.1 p.c.2.2 p.x.1 p.x.2.1 p.x.2.2 p.k.1 p.k.2.1 p.k.2.2 r.key.kind r.key.n r.key.s u.1 u.2.1 u.2.2 _ s ?_;unfold A5
 obtain ⟨D, hD⟩ : ∃ D, aq 0 B ov = D := ⟨_, rfl⟩
 obtain ⟨R, hR⟩ : ∃ R : Value → PH → Prop, (fun y s' => y = .int .i64 (eu p.T r (aq 0 B ov) S.tabs).1 ∧ EJ s0 s' w S tt sh B (bI rds (eu p.T r (aq 0 B ov) S.tabs).2) ov ∧ Kt s s') = R := ⟨_, rfl⟩
 rw [hR];rw [hD] at hR;have hds := gY hB h.cY h.sm;have hall := fun {s : PH} {rds : List bJ} {p : aC} (hp : fY s0 p) (hc : p.T.cols ≠ []) (h : EJ s0 s w S tt sh B rds ov) (hrl : rds.length ≤ 4000000) => Em (p := p) hB h hrl hp hc;rw [hD] at hds;simp only [hD] at hall;simp only [cj, bH, gX, aO, aT, aE, aR, aM, aQ, cG, dj, bf, Nat.zero_add];refine W.bK fun r0 s1 hr0 m1 k0 => ?_;refine W.bK fun r1 s2 hr1 m2 k1 => ?_;have m02 : Fw.Mod [] s s2 := m1.trans m2;have h2 := h.same m02;have kk0 : s2 r0 = some (mS p) := m2.at k0 (by simp);have kk1 : s2 r1 = some (DL r u) := k1;have hbl : s2 w = s2 w := rfl;obtain ⟨rr, mb, mo, qs0, bs, f, hx2⟩ := h2.ei;refine (W.aB hx2.aU _ _ _ _).2 ⟨(tt, ()), rfl, ?_⟩
 have hpl : S.tabs.length = ps.length := by rw [hS.eq, List.length_map]
 have htl : tt.2.1 = ps.length := hS.el.len
 refine ⟨fun z s' => ∃ i : Nat, z = ((⟨r0, 0, none⟩, ()), (⟨r1, 0, none⟩, ()), (tt, ()), ((tt.2.1 : Int), ()), ((i : Int), ()), ()) ∧ i ≤ tt.2.1 ∧ Lp s0 s2 w S tt sh B rds ov p.T r D i s',
  fun z _ => tt.2.1 - z.2.2.2.2.1.1.toNat, ⟨0, rfl, Nat.zero_le _, [], Nat.zero_le _, h2, Kt.refl _, by rw [List.drop_zero], by rw [List.drop_zero]; (first | done | rfl)⟩, ?_⟩
 rintro _ s3 ⟨i, rfl, hi, A, hA, hE3, t3, c1, c2⟩;dsimp only;refine aI (fun e => ?_) fun e => ?_;rotate_left
 ·have e : ¬ (i : Int) < (tt.2.1 : Int) := of_decide_eq_false e;rw [List.drop_of_length_le (by omega)] at c1 c2;have c1 : (eu p.T r D S.tabs).1 = 0 := c1
  have c2 : (eu p.T r D S.tabs).2 = A := by rw [c2]; exact List.append_nil _
  rw [← hR, c1, c2];exact ⟨rfl, hE3, (Kt.of m02).trans t3⟩
 have hlt : (i : Int) < (tt.2.1 : Int) := of_decide_eq_true e
 obtain ⟨q, hq⟩ : ∃ q, ps[i]? = some q := ⟨_, List.getElem?_eq_getElem (by omega)⟩
 have hqm := List.mem_of_getElem? hq
 have hti : S.tabs[i]? = some q.T := by rw [hS.eq, List.getElem?_map, hq]; (first | done | rfl)
 have hqT := hAll q.T (List.mem_of_getElem? hti);have hqI := hS.all q hqm;have hk8 := hqT.k8;obtain ⟨at_, hat, hht⟩ := (hS.mono hE3.md.le).el.el.aA hq;refine bF ⟨Int.natCast_nonneg i, hlt⟩ ?_;refine aN hat ?_;simp only [Int.toNat_natCast];have hht : s3.has (at_.add (i * 5)) (ja.f q) := hht;refine az hht (y := mR q) rfl ?_;refine W.bK fun r2 s4 hr2 m4 k4 => ?_;refine ku (c' := #[.int .i64 q.T.id, .string q.T.name, .slice q.c.1 q.c.2.1 q.c.2.2, .slice q.x.1 q.x.2.1 q.x.2.2, .slice q.k.1 q.k.2.1 q.k.2.2]) k4 (by show 0 + 5 ≤ 5; omega) (by simp [Value.oneCell']) rfl ?_;intro s5 hs5
 have k5 : s5 r2 = some (mS q) := by rw [hs5, PH.bB]
 have m5 : Fw.Mod [] s3 s5 := by rw [hs5]; exact m4.bT (.inr hr2)
 have hE5 := hE3.same m5;have t5 : Kt s2 s5 := t3.trans (Kt.of m5);refine (W.aB k5 _ _ _ _).2 ⟨(q.k, ()), rfl, ?_⟩;rw [ct hti, eu] at c1 c2;have hkl : q.k.2.1 = q.T.keys.length := hqI.k.len;have hAl := eH A rds;dsimp only
 refine ⟨fun z s' => ∃ j : Nat, z = ((⟨r0, 0, none⟩, ()), (⟨r1, 0, none⟩, ()), (⟨r2, 0, none⟩, ()), (tt, ()), ((tt.2.1 : Int), ()), ((i : Int), ()), (q.k, ()), ((q.k.2.1 : Int), ()), ((j : Int), ()), ()) ∧ j ≤ q.k.2.1 ∧ KW s0 s5 w S tt sh B (bI rds A) ov p.T q.T r D q.T.keys j s',
  fun z _ => q.k.2.1 - z.2.2.2.2.2.2.2.2.1.1.toNat, ⟨0, rfl, Nat.zero_le _, [], Nat.le_refl _, hE5, Kt.refl _, by rw [List.drop_zero], by rw [List.drop_zero]; (first | done | rfl)⟩, ?_⟩
 rintro _ s6 ⟨j, rfl, hj, A2, hA2, hE6, t6, d1, d2⟩;have hAl2 := eH A2 (bI rds A);dsimp only;refine aI (fun e => ?_) fun e => ?_;rotate_left
 ·have e : ¬ (j : Int) < (q.k.2.1 : Int) := of_decide_eq_false e;rw [List.drop_of_length_le (by omega)] at d1 d2;have d1 : (fL p.T q.T r D q.T.keys).1 = 0 := d1
  have d2 : (fL p.T q.T r D q.T.keys).2 = A2 := by rw [d2]; exact List.append_nil _
  rw [if_neg (by rw [d1]; decide)] at c1 c2;dsimp only at c1 c2;rw [ai (k := i) (by omega)];refine ⟨⟨i + 1, rfl, by omega, A ++ A2, by rw [List.length_append]; omega, by rw [cN]; exact hE6, t5.trans t6, c1, by rw [c2, d2, List.append_assoc]⟩, by simp only [Int.toNat_natCast]; omega⟩
 have hlj : (j : Int) < (q.k.2.1 : Int) := of_decide_eq_true e
 obtain ⟨x, hx⟩ : ∃ x, q.T.keys[j]? = some x := ⟨_, List.getElem?_eq_getElem (by omega)⟩
 obtain ⟨ad, had, hh⟩ := (hqI.k.mono hE6.md.le).el.aA hx;refine bF ⟨Int.natCast_nonneg j, hlj⟩ ?_;refine aN had ?_;simp only [Int.toNat_natCast];have hh : s6.has (ad.add (j * 5)) (lS.f x) := hh;refine az hh (y := Kh x) rfl ?_;refine W.bK fun r3 s7 hr3 m7 k7 => ?_;refine ku (c' := #[.int .i64 x.id, .string x.name, .int .i64 x.column, .int .i64 x.parent, .int .i64 x.state]) k7 (by show 0 + 5 ≤ 5; omega) (by simp [Value.oneCell']) rfl ?_;intro s8 hs8
 have k8 : s8 r3 = some (vN x) := by rw [hs8, PH.bB]
 have m8 : Fw.Mod [] s6 s8 := by rw [hs8]; exact m7.bT (.inr hr3)
 have hE8 := hE6.same m8;have t8 : Kt s5 s8 := t6.trans (Kt.of m8);have k80 : s8 r0 = some (mS p) := t8 r0 _ _ (t5 r0 _ _ kk0 (by decide) (by decide)) (by decide) (by decide);have k81 : s8 r1 = some (DL r u) := t8 r1 _ _ (t5 r1 _ _ kk1 (by decide) (by decide)) (by decide) (by decide);have k82 : s8 r2 = some (mS q) := t8 r2 _ _ k5 (by decide) (by decide);rw [ct hx, fL] at d1 d2;rw [ai (k := j) (by omega)]
 cases hcond : (x.parent == p.T.id && bU x.state) with
 | false =>
  have hno : ¬ (x.parent = p.T.id ∧ bU x.state = true) := fun g => by rw [g.1, g.2] at hcond; simp at hcond
  rw [if_neg hno] at d1 d2
  have hskip : KW s0 s5 w S tt sh B (bI rds A) ov p.T q.T r D q.T.keys (j + 1) s8 := ⟨A2, by omega, hE8, t8, d1, d2⟩
  refine W.bx (fun z s' => False) (fun _ _ hf => hf.elim) ?_;intro J hJ;refine (W.aB k8 _ _ _ _).2 ⟨(x.parent, ()), rfl, ?_⟩;refine (W.aB k80 _ _ _ _).2 ⟨(p.T.id, ()), rfl, ?_⟩;dsimp only;refine (W.af _ _ _ _).2 ⟨fun e1 => ⟨⟨j + 1, rfl, by omega, hskip⟩, by simp only [Int.toNat_natCast]; omega⟩, fun e1 => ?_⟩
  have e1 : x.parent = p.T.id := by simpa using e1
  refine (W.aB k8 _ _ _ _).2 ⟨(x.state, ()), rfl, ?_⟩;refine aH ((bU x.state, ()), ()) (jO x.state s8) rfl ?_;refine (W.af _ _ _ _).2 ⟨fun e3 => ⟨⟨j + 1, rfl, by omega, hskip⟩, by simp only [Int.toNat_natCast]; omega⟩, fun e3 => ?_⟩
  have e3 : bU x.state = true := by simpa using e3
  exact absurd ⟨e1, e3⟩ hno
 | true =>
  simp only [Bool.and_eq_true, beq_iff_eq] at hcond;rw [if_pos hcond] at d1 d2;refine W.bx (fun z s' => z = ((⟨r0, 0, none⟩, ()), (⟨r1, 0, none⟩, ()), (⟨r2, 0, none⟩, ()), (⟨r3, 0, none⟩, ()), (tt, ()), ((tt.2.1 : Int), ()), ((i : Int), ()), (q.k, ()), ((q.k.2.1 : Int), ()), ((j : Int), ()), ()) ∧ s8 = s') ?_ ?_;rotate_left
  ·intro J hJ;refine (W.aB k8 _ _ _ _).2 ⟨(x.parent, ()), rfl, ?_⟩;refine (W.aB k80 _ _ _ _).2 ⟨(p.T.id, ()), rfl, ?_⟩;dsimp only;refine (W.af _ _ _ _).2 ⟨fun e1 => absurd hcond.1 (by simpa using e1), fun e1 => ?_⟩;refine (W.aB k8 _ _ _ _).2 ⟨(x.state, ()), rfl, ?_⟩;refine aH ((bU x.state, ()), ()) (jO x.state s8) rfl ?_;refine (W.af _ _ _ _).2 ⟨fun e3 => (by dsimp only at e3; rw [hcond.2] at e3; cases e3), fun _ => hJ _ _ ⟨rfl, rfl⟩⟩
  rintro _ s8 ⟨rfl, rfl⟩;dsimp only;refine (W.aB k82 _ _ _ _).2 ⟨mR q, rfl, ?_⟩;refine W.ak (hall hqI hqT.ne hE8 (by omega)) ?_;rintro _ s9 ⟨a9, n9, c9, qs9, rfl, hq9, _, hE9, hk9⟩;refine ⟨(((a9, n9, c9), ()), ((eL q.T D).1, ()), ()), rfl, ?_⟩
  have hE9 : EJ s0 s9 w S tt sh B (bI (bI rds A) (A2 ++ [bZ q.T.id])) ov := by rw [cN (bI rds A)]; exact hE9
  have t9 := t8.trans hk9
  have fin : ∀ e : Int, e ≠ 0 → (fL p.T q.T r D q.T.keys).1 = e → (fL p.T q.T r D q.T.keys).2 = A2 ++ [bZ q.T.id] → R (.int .i64 e) s9 := fun e he g1 g2 => by
   rw [if_pos (by rw [g1]; exact he)] at c1 c2;rw [← hR, c1, c2, g1, g2];exact ⟨rfl, by rw [cN]; exact hE9, ((Kt.of m02).trans t5).trans t9⟩
  dsimp only;refine aI (fun e => ?_) fun e => ?_
  ·have e : (eL q.T D).1 ≠ 0 := by simpa using e
   rw [if_pos e] at d1 d2;exact fin _ e d1 d2
  have e : ¬ (eL q.T D).1 ≠ 0 := by simpa using e
  rw [if_neg e] at d1 d2;have hqn := hq9.gw.row.len;have hcont := Bb (Sl.bE (t := (a9, n9, c9)) hq9.gw.row (by have := hq9.len; have := sE (T := q.T) (D := D); omega)) (hq9.cells fun r hr => (qZ hds.2 r hr).cs.cO) (hk9 r3 _ _ k8 (by decide) (by decide)) (hk9 r1 _ _ k81 (by decide) (by decide)) (hk9 r2 _ _ k82 (by decide) (by decide)) (hk9 r0 _ _ k80 (by decide) (by decide));rw [hq9.eq] at hcont;refine aH (((eL q.T D).2.any (lH p.T q.T r x), ()), ()) hcont rfl ?_;dsimp only;refine aI (fun e2 => ?_) fun e2 => ?_
  ·rw [if_pos e2] at d1 d2;exact fin 212 (by decide) d1 d2
  ·rw [if_neg (by rw [e2]; decide)] at d1 d2;rw [ai (k := j) (by omega)];refine ⟨⟨j + 1, rfl, by omega, A2 ++ [bZ q.T.id], by rw [List.length_append]; simp; omega, hE9, t9, d1, by rw [d2]; simp⟩, by simp only [Int.toNat_natCast]; omega⟩
theorem zD (T U : aG) (r : Rw) (D : List Ht) : ∀ l : List For, (fL T U r D l).2.length ≤ l.length
 | [] => by simp [fL]
 | x :: l => by
  have := zD T U r D l;unfold fL
  split
  ·split
   ·simp
   ·split
    ·simp
    ·simp only [List.length_cons]; omega
  ·rw [List.length_cons]; omega
theorem sR (T : aG) (r : Rw) (D : List Ht) : ∀ {l : List aG}, (∀ U ∈ l, U.keys.length ≤ 8) → (eu T r D l).2.length ≤ 8 * l.length
 | [], _ => by simp [eu]
 | U :: l, h => by
  have h1 := sR T r D (l := l) fun V hV => h V (List.mem_cons_of_mem _ hV);have h2 := zD T U r D U.keys;have h3 := h U List.mem_cons_self;unfold eu
  split
  ·rw [List.length_cons]; omega
  ·rw [List.length_append, List.length_cons]; omega
theorem Et {ps : List aC} (hB : iI s0 sh B) (h : EJ s0 s w S tt sh B rds ov) (hS : dP s0 tt S ps) (hAll : ∀ T ∈ S.tabs, gp S T) (hT6 : S.tabs.length ≤ 6) {p : aC} (hp : fY s0 p) (hT : gp S p.T) {b : cz} {t : aP}
  (hrl : rds.length + 100000 ≤ 4000000) (hol : ov.length + 60000 ≤ 800000) :
  ah 60 #[cp w, dX p.T p.c p.x p.k, nC b t] s (kI s0 s w S tt sh B rds ov (pe S p.T b (aq 0 B ov))) := by
 refine DA w p.T.id p.T.name p.c.1 p.c.2.1 p.c.2.2 p.x.1 p.x.2.1 p.x.2.2 p.k.1 p.k.2.1 p.k.2.2 b.kind b.table t.1 t.2.1 t.2.2 b.set b.to.kind b.to.n b.to.s b.whr b.is.kind b.is.n b.is.s _ s ?_;unfold vp
 obtain ⟨R, hR⟩ : ∃ R : Value → PH → Prop, kI s0 s w S tt sh B rds ov (pe S p.T b (aq 0 B ov)) = R := ⟨_, rfl⟩
 rw [hR]
 obtain ⟨D, hD⟩ : ∃ D, aq 0 B ov = D := ⟨_, rfl⟩
 have hDs : cl D := by rw [← hD]; exact cV _ hB.cY
 have hds := gY hB h.cY h.sm
 have hputs : ∀ W : List Wr, aq 0 B (W.foldl cI ov) = aq 0 D W := fun W => by rw [← hD]; exact (k9 hB.cY W h.cY).symm
 rw [hD] at hR hds;have hx8 := hT.x8;simp only [aQ, aO, aR, aM, bH, aT, aE];have hA65 := o7 (T := p.T) (b := b) (D := D);have hm := sJ hB h (by omega) hp hT.ne b t;rw [hD] at hm;refine W.ak hm ?_;rintro _ s1 ⟨a, n, c, qs, rfl, hq, hE1, t1⟩;refine ⟨(((a, n, c), ()), ((aV p.T b D).1, ()), ()), rfl, ?_⟩;dsimp only
 obtain ⟨L, hL⟩ : ∃ L, (aV p.T b D).2 = L := ⟨_, rfl⟩
 have hLlen : L.length ≤ 64 := by rw [← hL]; exact l5 hDs
 have hLm : ∀ r ∈ L, vv r.cells := fun r hr => by
  rw [← hL] at hr;exact (wT hds.2 r hr).cs
 have hrem : pe S p.T b D = (if (aV p.T b D).1 ≠ 0 then ⟨(aV p.T b D).1, kg, bL p.T b D, []⟩
  else if (dL S p.T L D).1 ≠ 0 then ⟨(dL S p.T L D).1, kg, bL p.T b D ++ (dL S p.T L D).2.1, (dL S p.T L D).2.2⟩
  else ⟨0, ⟨L.length, []⟩, bL p.T b D ++ (dL S p.T L D).2.1, (dL S p.T L D).2.2⟩) := by unfold pe; rw [hL]
 rw [hL] at hq;have hnl := hq.len;refine aI (fun e => ?_) fun e => ?_
 ·have e : (aV p.T b D).1 ≠ 0 := by simpa using e
  rw [if_pos e] at hrem;rw [← hR, hrem];exact ⟨_, rfl, nN.none 0 hE1.md, hE1, t1⟩
 have e : ¬ (aV p.T b D).1 ≠ 0 := by simpa using e
 rw [if_neg e] at hrem;have hA1 := eH (bL p.T b D) rds;have hqlen : qs.length = n := hq.gw.row.len.symm
 refine ⟨fun z s' => ∃ (i : Nat), z = ((p.T.id, p.T.name, p.c, p.x, p.k, ()), ((0 : Int), ((none, 0, 0) : aP), ()), ((a, n, c), ()), ((a, n, c), ()), ((n : Int), ()), ((i : Int), ()), ()) ∧ i ≤ n ∧ K0 s0 s w S tt sh B (bI rds (bL p.T b D)) ov (dL S p.T) 48 17 L D i s' ∧ fq s0 s' a n c L qs,
  fun z _ => n - z.2.2.2.2.2.1.1.toNat, ⟨0, rfl, Nat.zero_le _, ⟨[], [], by simp, by simp, hE1, t1, rfl, rfl, rfl⟩, hq⟩, ?_⟩
 rintro _ s2 ⟨i, rfl, hi, ⟨A, Wl, hA, hW, hE2, t2, u1, u2, u3⟩, hq2⟩;dsimp only;have hA2 := eH A (bI rds (bL p.T b D));have hW2 := lK Wl ov;refine aI (fun e => ?_) fun e => ?_;rotate_left
 ·have e : ¬ (i : Int) < (n : Int) := of_decide_eq_false e;rw [List.drop_of_length_le (by omega)] at u1 u2 u3;have u1 : (dL S p.T L D).1 = 0 := u1
  have u2 : (dL S p.T L D).2.1 = A := by rw [u2]; exact List.append_nil _
  have u3 : (dL S p.T L D).2.2 = Wl := by rw [u3]; exact List.append_nil _
  rw [u1, if_neg (by decide), u2, u3] at hrem;rw [← hR, hrem];refine ⟨_, rfl, ?_, by rw [cN]; exact hE2, t2⟩;have := nN.none (L.length : Int) hE2.md;rw [← hnl] at this ⊢;exact this
 have hlt : (i : Int) < (n : Int) := of_decide_eq_true e
 obtain ⟨q, hqi⟩ : ∃ q, qs[i]? = some q := ⟨_, List.getElem?_eq_getElem (by omega)⟩
 have hqm := List.mem_of_getElem? hqi
 have hLi : L[i]? = some q.r := by rw [← hq.eq, List.getElem?_map, hqi]; (first | done | rfl)
 have hcP := hLm q.r (List.mem_of_getElem? hLi);have hcf := hcP.cO;obtain ⟨g, rfl, hh⟩ := hq2.gw.row.at hqi;refine bF ⟨Int.natCast_nonneg i, hlt⟩ ?_;simp only [dj, Int.toNat_natCast, bf, Nat.zero_add];have hh : s2.has ⟨g, i * 4, none⟩ (lW.f q) := hh;refine az hh (y := xl q.r q.u) rfl ?_;rw [ct hLi, dL] at u1 u2 u3;have hqc := (hq2.cs q hqm).1;dsimp only;have hfl := sR p.T q.r (aq 0 D Wl) (l := S.tabs) fun U hU => (hAll U hU).k8;refine W.ak (IS (r := q.r) (u := q.u) hB hE2 hS hAll hT6 p (by omega)) ?_;rintro _ s3 ⟨rfl, hE3, hk3⟩;rw [hputs Wl] at hE3;refine ⟨(((eu p.T q.r (aq 0 D Wl) S.tabs).1, ()), ()), by rw [hputs Wl]; (first | done | rfl), ?_⟩;have t3 := t2.trans hk3;dsimp only;refine aI (fun e => ?_) fun e => ?_
 ·have e : (eu p.T q.r (aq 0 D Wl) S.tabs).1 ≠ 0 := by simpa using e
  rw [if_pos e] at u1 u2 u3;dsimp only at u1 u2 u3;rw [u1, if_pos e, u2, u3, List.append_nil] at hrem;rw [← hR, hrem];exact ⟨_, rfl, nN.none 0 hE3.md, by rw [cN, cN]; exact hE3, t3⟩
 ·have e : ¬ (eu p.T q.r (aq 0 D Wl) S.tabs).1 ≠ 0 := by simpa using e
  rw [if_neg e] at u1 u2 u3;dsimp only at u1 u2 u3;have hcl2 := kO p.T q.r.cells [];have hold5 := hk3.row hqc (by decide) (by decide);refine W.ak (sK (old := q.r.cells) (new := []) hE3 hp (by omega) (Sl.bE (t := q.u) hold5 (by omega)) Sl.nil (oR fZ.nil (by simp)) (by omega)) ?_;rintro _ s6 ⟨rfl, hE6, hk6⟩;refine ⟨(), rfl, ?_⟩;have t6 := t3.trans hk6;rw [ai (k := i) (by omega)];refine ⟨⟨i + 1, rfl, by omega, ⟨A ++ (eu p.T q.r (aq 0 D Wl) S.tabs).2, Wl ++ dB p.T q.r.cells [], ?_, ?_, ?_, t6, ?_, ?_, ?_⟩, hk6.rws (hk3.rws hq2 hE3.md) hE6.md⟩, by simp only [Int.toNat_natCast]; omega⟩
  ·rw [List.length_append]; omega
  ·rw [List.length_append]; omega
  ·rw [cN, List.foldl_append]; exact hE6
  ·rw [dQ, u1]
  ·rw [dQ, u2, List.append_assoc]
  ·rw [dQ, u3, List.append_assoc]
end
end
section
attribute [-simp] Fw.W.bC Fw.W.bA
theorem fH.same {s0 s s' : PH} {a : OA} {n c : Nat} {L : List (List aK)} {qs : List qg} (h : fH s0 s a n c L qs) (hm : Fw.Mod [] s s') : fH s0 s' a n c L qs :=
 ⟨h.gw.same hm, h.eq, fun q hq => ⟨(h.vs q hq).1.mod hm (by simp), (h.vs q hq).2⟩⟩
theorem fH.since {s0 s s' : PH} {a : OA} {n c : Nat} {L : List (List aK)} {qs : List qg} (h : fH s s' a n c L qs) (hm : Fw.Mod [] s0 s) : fH s0 s' a n c L qs :=
 ⟨h.gw.since hm, h.eq, fun q hq => ⟨(h.vs q hq).1, fun g hg => hm.none ((h.vs q hq).2 g hg) (by simp)⟩⟩
theorem fH.push {s0 s : PH} {a : OA} {n c : Nat} {L : List (List aK)} {qs : List qg} {l : List aK} {u : aP} {K : OA → Nat → Nat → W.T} (h : fH s0 s a n c L qs) (hu : bp dO s 28 u.1 u.2.1 u.2.2 l) (hf : ∀ g ∈ Fw.aU u.1, s0 g = none) (hl : n + 1 ≤ 4294967296)
  (hK : ∀ a' c' s' qs', fH s0 s' a' (n + 1) c' (L ++ [l]) qs' → K a' (n + 1) c' s') : W.nw (.cells #[.slice u.1 u.2.1 u.2.2] 125 (0, 0)) (fun r => W.app 125 1 24 [.slice none 0 0] a n c (Src.sl (some ⟨r, 0, none⟩) 1) K) s := by
 refine h.gw.nr [⟨l, u⟩] (k := 1) rfl rfl rfl hl (by omega) fun a' c' s' h1 m1 => hK a' c' s' (qs ++ [⟨l, u⟩]) ⟨h1, by rw [List.map_append, h.eq]; (first | done | rfl), fun q hq => ?_⟩;rcases List.mem_append.1 hq with hq | hq
 ·exact ⟨gQ (h.vs q hq).1 h.gw (by decide) m1, (h.vs q hq).2⟩
 ·simp only [List.mem_singleton] at hq;subst hq;exact ⟨gQ hu h.gw (by decide) m1, hf⟩
theorem Hw {l : List cw} {k : Nat} {x : cw} (cs : List aY) (h : l[k]? = some x) : ((l.take (k + 1)).filter (fun c => c.state == 3)).map (fun c => bh cs c.id) = ((l.take k).filter (fun c => c.state == 3)).map (fun c => bh cs c.id) ++ (if x.state = 3 then [bh cs x.id] else []) := by
 rw [oU h, List.map_append]
 congr 1
 by_cases hx : x.state = 3
 ·simp [hx]
 ·simp [hx]
section
variable {s0 s : PH} {w : Nat} {S : aD} {tt sh : aP} {B : List Ht} {rds : List bJ} {ov : List Wr}
theorem Ep (hB : iI s0 sh B) (h : EJ s0 s w S tt sh B rds ov) {p : aC} (hp : fY s0 p) (hT : gp S p.T) {b : cz} {t : aP} (hrl : rds.length + 100000 ≤ 4000000) :
  ah 61 #[cp w, dX p.T p.c p.x p.k, nC b t] s (kI s0 s w S tt sh B rds ov (pq p.T b (aq 0 B ov))) := by
 refine Dv w p.T.id p.T.name p.c.1 p.c.2.1 p.c.2.2 p.x.1 p.x.2.1 p.x.2.2 p.k.1 p.k.2.1 p.k.2.2 b.kind b.table t.1 t.2.1 t.2.2 b.set b.to.kind b.to.n b.to.s b.whr b.is.kind b.is.n b.is.s _ s ?_;unfold vi
 obtain ⟨R, hR⟩ : ∃ R : Value → PH → Prop, kI s0 s w S tt sh B rds ov (pq p.T b (aq 0 B ov)) = R := ⟨_, rfl⟩
 rw [hR]
 obtain ⟨D, hD⟩ : ∃ D, aq 0 B ov = D := ⟨_, rfl⟩
 have hDs : cl D := by rw [← hD]; exact cV _ hB.cY
 have hds := gY hB h.cY h.sm;rw [hD] at hR hds;have hcl : p.c.2.1 = p.T.cols.length := hp.c.len;have hc8 := hT.c8;simp only [aQ, aO, aR, aM, bH, aT, aE, cj, dg];have hm := sJ hB h (by omega) hp hT.ne b t;rw [hD] at hm;refine W.ak hm ?_;rintro _ s1 ⟨a, n, c, qs, rfl, hq, hE1, t1⟩;refine ⟨(((a, n, c), ()), ((aV p.T b D).1, ()), ()), rfl, ?_⟩;dsimp only
 obtain ⟨L, hL⟩ : ∃ L, (aV p.T b D).2 = L := ⟨_, rfl⟩
 have hLlen : L.length ≤ 64 := by rw [← hL]; exact l5 hDs
 have hLm : ∀ r ∈ L, vv r.cells := fun r hr => by
  rw [← hL] at hr;exact (wT hds.2 r hr).cs
 have hsel : pq p.T b D = (if (aV p.T b D).1 ≠ 0 then ⟨(aV p.T b D).1, kg, bL p.T b D, []⟩ else ⟨0, ⟨0, L.map (kq p.T)⟩, bL p.T b D, []⟩) := by unfold pq; rw [hL]
 rw [hL] at hq;have hnl := hq.len;refine aI (fun e => ?_) fun e => ?_
 ·have e : (aV p.T b D).1 ≠ 0 := by simpa using e
  rw [if_pos e] at hsel;rw [← hR, hsel];exact ⟨_, rfl, nN.none 0 hE1.md, hE1, t1⟩
 have e : ¬ (aV p.T b D).1 ≠ 0 := by simpa using e
 rw [if_neg e] at hsel;have hqlen : qs.length = n := hq.gw.row.len.symm
 refine ⟨fun z s' => ∃ (i : Nat) (a2 : OA) (n2 c2 : Nat) (vs : List qg), z = ((p.T.id, p.T.name, p.c, p.x, p.k, ()), ((0 : Int), ((none, 0, 0) : aP), ()), ((0 : Int), ((a2, n2, c2) : aP), ()), ((a, n, c), ()), ((n : Int), ()), ((i : Int), ()), ()) ∧ i ≤ n ∧ n2 ≤ i ∧ fH s1 s' a2 n2 c2 ((L.take i).map (kq p.T)) vs,
  fun z _ => n - z.2.2.2.2.2.1.1.toNat, ⟨0, none, 0, 0, [], rfl, Nat.zero_le _, Nat.le_refl _, fH.nil (Mod.refl _ _)⟩, ?_⟩
 rintro _ s2 ⟨i, a2, n2, c2, vs, rfl, hi, hn2, hV⟩;dsimp only;have m12 : Fw.Mod [] s1 s2 := hV.gw.md;refine aI (fun e => ?_) fun e => ?_;rotate_left
 ·have e : ¬ (i : Int) < (n : Int) := of_decide_eq_false e;rw [List.take_of_length_le (by omega)] at hV;rw [← hR, hsel];exact ⟨_, rfl, ⟨a2, n2, c2, vs, rfl, hV.since hE1.md⟩, hE1.same m12, t1.trans (Kt.of m12)⟩
 have hlt : (i : Int) < (n : Int) := of_decide_eq_true e
 obtain ⟨q, hqi⟩ : ∃ q, qs[i]? = some q := ⟨_, List.getElem?_eq_getElem (by omega)⟩
 have hqm := List.mem_of_getElem? hqi
 have hLi : L[i]? = some q.r := by rw [← hq.eq, List.getElem?_map, hqi]; (first | done | rfl)
 have hcf := (hLm q.r (List.mem_of_getElem? hLi)).cO;have hq2 := hq.same m12;obtain ⟨g, rfl, hh⟩ := hq2.gw.row.at hqi;refine bF ⟨Int.natCast_nonneg i, hlt⟩ ?_;simp only [dj, Int.toNat_natCast, bf, Nat.zero_add];have hh : s2.has ⟨g, i * 4, none⟩ (lW.f q) := hh;refine az hh (y := xl q.r q.u) rfl ?_;have hqc := (hq2.cs q hqm).1
 have htk : (L.take (i + 1)).map (kq p.T) = (L.take i).map (kq p.T) ++ [kq p.T q.r] := by rw [List.take_add_one, hLi, List.map_append]; (first | done | rfl)
 dsimp only
 refine ⟨fun z s' => ∃ (j : Nat) (a3 : OA) (n3 c3 : Nat), z = ((p.T.id, p.T.name, p.c, p.x, p.k, ()), ((0 : Int), ((none, 0, 0) : aP), ()), ((0 : Int), ((a2, n2, c2) : aP), ()), xl q.r q.u, ((a3, n3, c3), ()), ((some ⟨g, 0, none⟩, n, c), ()), ((n : Int), ()), ((i : Int), ()), (p.c, ()), ((p.c.2.1 : Int), ()), ((j : Int), ()), ()) ∧ j ≤ p.c.2.1 ∧ n3 ≤ j ∧ Gw dO 28 s2 s' a3 n3 c3 (((p.T.cols.take j).filter (fun c => c.state == 3)).map (fun c => bh q.r.cells c.id)),
  fun z _ => p.c.2.1 - z.2.2.2.2.2.2.2.2.2.2.1.1.toNat, ⟨0, none, 0, 0, rfl, Nat.zero_le _, Nat.le_refl _, Gw.nil (Mod.refl _ _)⟩, ?_⟩
 rintro _ s3 ⟨j, a3, n3, c3, rfl, hj, hn3, hG3⟩;dsimp only;have m23 := hG3.md;refine aI (fun e => ?_) fun e => ?_
 ·have hlj : (j : Int) < (p.c.2.1 : Int) := of_decide_eq_true e
  obtain ⟨x, hx⟩ : ∃ x, p.T.cols[j]? = some x := ⟨_, List.getElem?_eq_getElem (by omega)⟩
  obtain ⟨ad, had, hhx⟩ := (hp.c.mono ((hE1.md.trans m12).trans m23).le).el.aA hx;refine bF ⟨Int.natCast_nonneg j, hlj⟩ ?_;refine aN had ?_;simp only [Int.toNat_natCast];have hhx : s3.has (ad.add (j * 7)) (dD.f x) := hhx;refine az hhx (y := zo x) rfl ?_;have hps := Hw q.r.cells hx;rw [ai (k := j) (by omega)];dsimp only;refine aI (fun e2 => ?_) fun e2 => ?_
  ·have e2 : x.state = 3 := eq_of_beq e2;rw [if_pos e2] at hps;refine aH (bM (bh q.r.cells x.id), ()) (lf (Sl.bE (t := q.u) (hqc.mod m23 (by simp)) (by omega)) x.id) rfl ?_;refine hG3.push [bh q.r.cells x.id] (k := 1) rfl rfl rfl (by omega) (by omega) fun a4 c4 s4 h4 => ?_;exact ⟨⟨j + 1, a4, n3 + 1, c4, rfl, by omega, by omega, by rw [hps]; exact h4⟩, by simp only [Int.toNat_natCast]; omega⟩
  ·have e2 : ¬ x.state = 3 := by simpa using e2
   rw [if_neg e2, List.append_nil] at hps;exact ⟨⟨j + 1, a3, n3, c3, rfl, by omega, by omega, by rw [hps]; exact hG3⟩, by simp only [Int.toNat_natCast]; omega⟩
 ·have e : ¬ (j : Int) < (p.c.2.1 : Int) := of_decide_eq_false e;rw [List.take_of_length_le (by omega)] at hG3;have hG3 : Gw dO 28 s2 s3 a3 n3 c3 (kq p.T q.r) := hG3;refine (hV.same m23).push (u := (a3, n3, c3)) hG3.row (fun g hg => m12.none (hG3.fr g hg) (by simp)) (by omega) fun a4 c4 s4 vs4 h4 => ?_;rw [ai (k := i) (by omega)];exact ⟨⟨i + 1, a4, n2 + 1, c4, vs4, rfl, by omega, by omega, by rw [htk]; exact h4⟩, by simp only [Int.toNat_natCast]; omega⟩
end
end
section
attribute [-simp] Fw.W.bC Fw.W.bA
theorem vF (v : aK) (c : cw) (s : PH) : ah 133 #[fm v, zp c] s fun y s' => y = .bool (fits v c.kind) ∧ s' = s := by
 refine Hl v.kind v.n v.s c.id c.name c.kind c.state c.dflt.kind c.dflt.n c.dflt.s _ s ?_;unfold A4;simp only [aT, aO, aE];refine aH ((j3 v, ()), ()) (oP v s) rfl ?_;dsimp only
 have hev : (j3 v == 0) = bD v := by unfold j3; cases bD v <;> rfl
 rw [hev];unfold fits;refine aI (fun e => ?_) fun e => ?_
 ·rw [e, Bool.true_and];refine aI (fun e2 => ?_) fun e2 => ?_
  ·have e2 : v.kind = 0 := eq_of_beq e2;exact ⟨by rw [decide_eq_true e2]; (first | done | rfl), rfl⟩
  ·have e2 : ¬ v.kind = 0 := by simpa using e2
   exact ⟨by rw [decide_eq_false e2, Bool.false_or]; (first | done | rfl), rfl⟩
 ·rw [e]; exact ⟨rfl, rfl⟩
abbrev Lm (v : aK) : Obj := .cells #[.int .i64 v.kind, .int .i64 v.n, .string v.s] 28 (0, 0)
def DJ (T : aG) (id : Int) (v : aK) (key : Bool) (c : cw) : Bool := c.id == id && c.state == 3 && (key || decide (id ≠ eT T)) && fits v c.kind
theorem CQ {s : PH} {p q r2 u : Nat} {id : Int} {v : aK} {key : Bool} {t : aC} (hp : s p = some (.cells #[.int .i64 id] 3 (0, 0))) (hq : s q = some (.cells #[.bool key] 4 (0, 0))) (hr : s r2 = some (mS t)) (hu : s u = some (Lm v)) (ht : Sl dD s t.c t.T.cols) (hc : t.T.cols ≠ []) (c : cw) :
  ah 132 #[zp c, cp p, cp q, cp r2, cp u] s fun y s' => y = .bool (DJ t.T id v key c) ∧ s' = s := by
 refine By c.id c.name c.kind c.state c.dflt.kind c.dflt.n c.dflt.s p q r2 u _ s ?_;unfold sr DJ
 obtain ⟨c0, hc0⟩ : ∃ c0, t.T.cols[0]? = some c0 := by
  cases hT : t.T.cols with
  | nil => exact absurd hT hc
  | cons x r => exact ⟨x, rfl⟩
 have hcol0 : eT t.T = c0.id := by unfold eT; rw [hc0]; (first | done | rfl)
 have hcl : t.c.2.1 = t.T.cols.length := ht.len
 have hcpos : 0 < t.c.2.1 := by rw [hcl]; exact List.length_pos_iff.2 hc
 obtain ⟨ad, had, hh⟩ := ht.el.aA hc0
 have hh : s.has (ad.add 0) (dD.f c0) := by simpa using hh
 simp only [bH, aO, bS, aE, aR, aM, dj, bf, Nat.zero_add];refine (W.aB hp _ _ _ _).2 ⟨(id, ()), rfl, ?_⟩;dsimp only;refine (W.af _ _ _ _).2 ⟨fun e => ?_, fun e => ⟨by rw [e]; (first | done | rfl), rfl⟩⟩;rw [e, Bool.true_and];refine (W.af _ _ _ _).2 ⟨fun e => ?_, fun e => ⟨by rw [e]; (first | done | rfl), rfl⟩⟩;rw [e, Bool.true_and];refine (W.aB hq _ _ _ _).2 ⟨(key, ()), rfl, ?_⟩;dsimp only;refine aI (fun e => ?_) fun e => ?_
 ·refine (W.aB hu _ _ _ _).2 ⟨bM v, rfl, ?_⟩;refine W.cr ((fits v c.kind, ()), ()) (vF v c s) rfl ?_;exact ⟨by rw [e]; (first | done | rfl), rfl⟩
 ·refine (W.aB hp _ _ _ _).2 ⟨(id, ()), rfl, ?_⟩;refine (W.aB hr _ _ _ _).2 ⟨(t.c, ()), rfl, ?_⟩;dsimp only;refine bF ⟨Int.le_refl 0, Int.natCast_pos.2 hcpos⟩ ?_;refine aN had ?_;refine bq (j := 0) hh (y := (c0.id, ())) rfl ?_;rw [hcol0, e, Bool.false_or];refine aI (fun e2 => ?_) fun e2 => ?_
  ·have e2 : id ≠ c0.id := by simpa using e2
   refine (W.aB hu _ _ _ _).2 ⟨bM v, rfl, ?_⟩;refine W.cr ((fits v c.kind, ()), ()) (vF v c s) rfl ?_;exact ⟨by rw [decide_eq_true e2]; (first | done | rfl), rfl⟩
  ·have e2 : ¬ id ≠ c0.id := by simpa using e2
   exact ⟨by rw [decide_eq_false e2]; (first | done | rfl), rfl⟩
theorem Ev {s : PH} {p : Nat} {t : aC} (hp : s p = some (mS t)) (ht : Sl dD s t.c t.T.cols) (hc : t.T.cols ≠ []) (id : Int) (v : aK) (key : Bool) :
  ah 130 #[.int .i64 id, fm v, .bool key, cp p] s fun y s' => y = .bool (gH t.T id v key) ∧ s' = s := by
 refine bu.quiet (DC id v.kind v.n v.s key p _ s ?_);unfold vr;simp only [cj, bH, aT, aE, bf, Nat.zero_add];refine W.bK fun r0 s1 hr0 m1 k0 => ?_;refine W.bK fun r1 s2 hr1 m2 k1 => ?_;refine W.bK fun r2 s3 hr2 m3 k2 => ?_;have m23 := m2.trans m3;have m03 := m1.trans m23;have hp3 := m03.at hp (by simp);refine (W.aB hp3 _ _ _ _).2 ⟨(t.c, ()), rfl, ?_⟩;have ht3 := ht.mono m03.le;refine aH ((gH t.T id v key, ()), ()) ?_ rfl ⟨rfl, m03⟩;refine yo t.c.1 t.c.2.1 t.c.2.2 r0 r2 p r1 _ s3 ?_;unfold pX;simp only [aT, aE];refine aH ((aJ (DJ t.T id v key) t.T.cols 0, ()), ()) ?_ rfl ?_
 ·refine vV t.c.1 t.c.2.1 t.c.2.2 r0 r2 p r1 _ s3 ?_;unfold ow;exact jK zo ht3 (fun _ => rfl) (fun c _ => CQ (m23.at k0 (by simp)) k2 hp3 (m3.at k1 (by simp)) ht3 hc c) ⟨rfl, rfl⟩
 ·refine ⟨?_, rfl⟩
  show Value.bool (decide (aJ (DJ t.T id v key) t.T.cols 0 ≥ 0)) = _
  rw [tv]; (first | done | rfl)
theorem Eu {s : PH} {p : Nat} {b : cz} {t : aP} (hp : s p = some (lP b t)) (q : aC) : ah 129 #[dX q.T q.c q.x q.k, cp p] s fun y s' => y = .bool (q.T.id == b.table) ∧ s' = s := by
 refine DB q.T.id q.T.name q.c.1 q.c.2.1 q.c.2.2 q.x.1 q.x.2.1 q.x.2.2 q.k.1 q.k.2.1 q.k.2.2 p _ s ?_;unfold vq;simp only [bH, aE, bf, Nat.zero_add];refine (W.aB hp _ _ _ _).2 ⟨(b.table, ()), rfl, ?_⟩;exact ⟨rfl, rfl⟩
theorem ye {s : PH} {a : OA} {n c p : Nat} {ps : List aC} {b : cz} {t : aP} (h : Sl ja s (a, n, c) ps) (hp : s p = some (lP b t)) :
  ah 128 #[.slice a n c, .func (.func 129) #[] #[cp p]] s fun y s' => y = .int .i64 (aJ (fun q : aC => q.T.id == b.table) ps 0) ∧ s' = s := by
 refine vY a n c p _ s ?_;unfold oz;exact jK mR h (fun _ => rfl) (fun q _ => Eu hp q) ⟨rfl, rfl⟩
theorem GJ (c : cw) (l : List cw) (k : Nat) (vs : List aK) : fu (c :: l) k vs = if c.state ≠ 3 then fu l (k + 1) vs else match vs with | [] => false | v :: vs => fits v c.kind && !(decide (k = 0) && v.kind == 0) && fu l (k + 1) vs := by rw [fu.eq_def]; (first | done | rfl)
def JO (S : aD) (ps : List aC) (b : cz) (s : PH) (y : Value) (s' : PH) : Prop :=
 Fw.Mod [] s s' ∧ ((fE S b = none ∧ ∃ d : Den [.int .i64, .str, .slice, .slice, .slice], y = .tuple #[.agg (vals [.int .i64, .str, .slice, .slice, .slice] d).toArray, .bool false]) ∨ ∃ q ∈ ps, fE S b = some q.T ∧ y = .tuple #[dX q.T q.c q.x q.k, .bool true])
theorem Gu {s : PH} {w : Nat} {S : aD} {tt sh r : aP} {mb mo : Nat} {ps : List aC} (hw : s w = some (wD S tt sh r mb mo)) (hS : dP s tt S ps) (hc : ∀ T ∈ S.tabs, gp S T) {b : cz} {t : aP} (hv : Sl dO s t b.vals) :
  ah 62 #[cp w, nC b t] s (JO S ps b s) := by
 refine Fq w b.kind b.table t.1 t.2.1 t.2.2 b.set b.to.kind b.to.n b.to.s b.whr b.is.kind b.is.n b.is.s _ s ?_;unfold xX
 obtain ⟨R, hR⟩ : ∃ R, JO S ps b s = R := ⟨_, rfl⟩
 rw [hR];simp only [cj, aM, bH, aT, cG, aO, aE, aR, gX, aQ, bS, mz, mA, dj, bf, Nat.zero_add];refine W.bK fun r0 s1 hr0 m1 k0 => ?_;have k0 : s1 r0 = some (lP b t) := k0;have hw1 := m1.at hw (by simp);have hS1 := hS.mono m1.le
 have no : ∀ {s' : PH}, Fw.Mod [] s s' → fE S b = none → ∀ d : Den [.int .i64, .str, .slice, .slice, .slice], R (.tuple #[.agg (vals [.int .i64, .str, .slice, .slice, .slice] d).toArray, .bool false]) s' := fun hm e d => by
  rw [← hR]; exact ⟨hm, .inl ⟨e, d, rfl⟩⟩
 refine (W.aB hw1 _ _ _ _).2 ⟨(tt, ()), rfl, ?_⟩;refine aH ((aJ (fun q : aC => q.T.id == b.table) ps 0, ()), ()) (ye (c := tt.2.2) hS1.el k0) rfl ?_;have hpl := hS1.el.len
 have htab : gI S b.table = (ps.find? fun q : aC => q.T.id == b.table).map (·.T) := by unfold gI; rw [hS.eq, List.find?_map]; (first | done | rfl)
 rcases nc (fun q : aC => q.T.id == b.table) ps with ⟨f1, f2⟩ | ⟨j, q, f1, f2, f3⟩
 ·rw [f1];rw [f2] at htab;refine W.bx (fun z s' => False) (fun _ _ hf => hf.elim) ?_;intro J hJ;refine (W.af _ _ _ _).2 ⟨fun _ => ?_, fun e => absurd e (by decide)⟩;exact no m1 (by unfold fE; rw [htab]; (first | done | rfl)) (0, ⟨#[]⟩, (none, 0, 0), (none, 0, 0), (none, 0, 0), ())
 rw [f1];rw [f3] at htab;have htab : gI S b.table = some q.T := htab;have hqm := List.mem_of_getElem? f2;have hqT := hc q.T (by rw [hS.eq]; exact List.mem_map_of_mem hqm);have hjl := (List.getElem?_eq_some_iff.1 f2).1;have l0 : ∀ {s2 : PH} (K : Den [CT.int IntKind.i64] → W.T), s2 r0 = some (lP b t) → K (b.kind, ()) s2 → W.ld [.int .i64] ⟨r0, 0, none⟩ K s2 := fun K hk hK => (W.aB hk _ _ _ _).2 ⟨(b.kind, ()), rfl, hK⟩
 have hrt : fE S b = (if b.kind < 1 ∨ 4 < b.kind then none
  else if b.kind = 1 then (if fu q.T.cols 0 b.vals = true then some q.T else none)
  else if b.kind = 2 ∧ gH q.T b.set b.to false = false then none
  else if b.whr = 0 ∨ gH q.T b.whr b.is true = true then some q.T else none) := by unfold fE; rw [htab]
 refine W.bx (fun z s' => z = ((⟨r0, 0, none⟩, ()), (0, ⟨#[]⟩, (none, 0, 0), (none, 0, 0), (none, 0, 0), ()), ((j : Int), ()), ()) ∧ s1 = s' ∧ ¬ (b.kind < 1 ∨ 4 < b.kind)) ?_ ?_;rotate_left
 ·intro J hJ;refine aI (fun e => ?_) fun _ => ?_
  ·have e : (j : Int) < 0 := of_decide_eq_true e;omega
  refine l0 _ k0 ?_;dsimp only;refine aI (fun e => ?_) fun e => ?_
  ·have e : b.kind < 1 := of_decide_eq_true e;exact no m1 (by rw [hrt, if_pos (.inl e)]) (0, ⟨#[]⟩, (none, 0, 0), (none, 0, 0), (none, 0, 0), ())
  have e1 : ¬ b.kind < 1 := of_decide_eq_false e;refine l0 _ k0 ?_;refine aI (fun e => ?_) fun e => ?_
  ·have e : b.kind > 4 := of_decide_eq_true e;exact no m1 (by rw [hrt, if_pos (.inr e)]) (0, ⟨#[]⟩, (none, 0, 0), (none, 0, 0), (none, 0, 0), ())
  have e2 : ¬ b.kind > 4 := of_decide_eq_false e;exact hJ _ _ ⟨rfl, rfl, by omega⟩
 rintro _ _ ⟨rfl, rfl, hkind⟩;rw [if_neg hkind] at hrt;dsimp only;refine (W.aB hw1 _ _ _ _).2 ⟨(tt, ()), rfl, ?_⟩;dsimp only;refine bF ⟨Int.natCast_nonneg j, by show (j : Int) < ((tt.2.1 : Nat) : Int); rw [hpl]; exact Int.ofNat_lt.2 hjl⟩ ?_;obtain ⟨at_, hat, hht⟩ := hS1.el.el.aA f2;refine aN hat ?_;simp only [Int.toNat_natCast];have hht : s1.has (at_.add (j * 5)) (ja.f q) := hht;refine az hht (y := mR q) rfl ?_;refine W.bK fun r1 s2 hr1 m2 k1 => ?_;refine ku (c' := #[.int .i64 q.T.id, .string q.T.name, .slice q.c.1 q.c.2.1 q.c.2.2, .slice q.x.1 q.x.2.1 q.x.2.2, .slice q.k.1 q.k.2.1 q.k.2.2]) k1 (by show 0 + 5 ≤ 5; omega) (by simp [Value.oneCell']) rfl ?_;intro s3 hs3
 have k3 : s3 r1 = some (mS q) := by rw [hs3, PH.bB]
 have m13 : Fw.Mod [] s1 s3 := by rw [hs3]; exact m2.bT (.inr hr1)
 have k30 := m13.at k0 (by simp);have m03 : Fw.Mod [] s s3 := m1.trans m13;have hqI := (hS.all q hqm).mono m03.le;have hv3 := hv.mono m03.le;have lt : ∀ (K : Den [CT.int IntKind.i64, CT.str, CT.slice, CT.slice, CT.slice] → W.T), K (mR q) s3 → W.ld [.int .i64, .str, .slice, .slice, .slice] ⟨r1, 0, none⟩ K s3 := fun K hK => (W.aB k3 _ _ _ _).2 ⟨mR q, rfl, hK⟩
 have yes : fE S b = some q.T → R (.tuple #[dX q.T q.c q.x q.k, .bool true]) s3 := fun e => by rw [← hR]; exact ⟨m03, .inr ⟨q, hqm, e, rfl⟩⟩
 have noq : fE S b = none → R (.tuple #[dX q.T q.c q.x q.k, .bool false]) s3 := fun e => no m03 e (mR q);have hcl : q.c.2.1 = q.T.cols.length := hqI.c.len;have hpub := fun (id : Int) (v : aK) (key : Bool) => Ev k3 hqI.c hqT.ne id v key;refine W.bx (fun z s' => z = ((⟨r0, 0, none⟩, ()), (0, ⟨#[]⟩, (none, 0, 0), (none, 0, 0), (none, 0, 0), ()), (⟨r1, 0, none⟩, ()), ((Value.func (.func 130) #[] #[cp r1]), ()), ()) ∧ s3 = s' ∧ fE S b = (if b.whr = 0 ∨ gH q.T b.whr b.is true = true then some q.T else none)) ?_ ?_
 ·rintro _ s3 ⟨rfl, rfl, hr2⟩;dsimp only;refine lt _ ?_;simp only [bf, Nat.zero_add];refine (W.aB k30 _ _ _ _).2 ⟨(b.whr, ()), rfl, ?_⟩;dsimp only;refine aI (fun e => ?_) fun e => ?_
  ·have e : b.whr = 0 := eq_of_beq e;rw [W.still_at k3];refine ⟨rfl, yes (by rw [hr2, if_pos (.inl e)])⟩
  have e : ¬ b.whr = 0 := by simpa using e
  refine (W.aB k30 _ _ _ _).2 ⟨(b.whr, ()), rfl, ?_⟩;refine (W.aB k30 _ _ _ _).2 ⟨bM b.is, rfl, ?_⟩;refine cT Tryz.func130 (by kernel_rfl) (by kernel_rfl) (hpub b.whr b.is true) ?_;rintro _ _ ⟨rfl, rfl⟩;refine ⟨((gH q.T b.whr b.is true, ()), ()), rfl, ?_⟩;rw [W.still_at k3];refine ⟨rfl, ?_⟩
  cases hpo : gH q.T b.whr b.is true with
  | true => exact yes (by rw [hr2, if_pos (.inr hpo)])
  | false => exact noq (by rw [hr2, if_neg (by rintro (g | g); exact e g; rw [hpo] at g; cases g)])
 intro J hJ;simp only [bf, Nat.zero_add];refine l0 _ k30 ?_;dsimp only;refine aI (fun e => ?_) fun e => ?_;rotate_left
 ·have e : ¬ b.kind = 1 := by simpa using e
  rw [if_neg e] at hrt;refine l0 _ k30 ?_;dsimp only;refine aI (fun e2 => ?_) fun e2 => ?_
  ·have e2 : b.kind = 2 := eq_of_beq e2;refine (W.aB k30 _ _ _ _).2 ⟨(b.set, ()), rfl, ?_⟩;refine (W.aB k30 _ _ _ _).2 ⟨bM b.to, rfl, ?_⟩;refine aH ((gH q.T b.set b.to false, ()), ()) (hpub b.set b.to false) rfl ?_;dsimp only;refine aI (fun e3 => ?_) fun e3 => ?_
   ·have e3 : gH q.T b.set b.to false = false := by simpa using e3
    rw [if_pos ⟨e2, e3⟩] at hrt;exact lt _ (noq hrt)
   ·have e3 : gH q.T b.set b.to false = true := by simpa using e3
    rw [if_neg (fun g => by rw [e3] at g; cases g.2)] at hrt;exact hJ _ _ ⟨rfl, rfl, hrt⟩
  ·have e2 : ¬ b.kind = 2 := by simpa using e2
   rw [if_neg (fun g => e2 g.1)] at hrt;exact hJ _ _ ⟨rfl, rfl, hrt⟩
 have e : b.kind = 1 := eq_of_beq e;rw [if_pos e] at hrt;refine (W.aB k30 _ _ _ _).2 ⟨(t, ()), rfl, ?_⟩;refine (W.aB k3 _ _ _ _).2 ⟨(q.c, ()), rfl, ?_⟩;dsimp only
 refine ⟨fun z s' => ∃ (i : Nat) (vt : aP) (vs : List aK), z = ((0, ⟨#[]⟩, (none, 0, 0), (none, 0, 0), (none, 0, 0), ()), (⟨r1, 0, none⟩, ()), (vt, ()), (q.c, ()), ((q.c.2.1 : Int), ()), ((i : Int), ()), ()) ∧ i ≤ q.c.2.1 ∧ s3 = s' ∧ Sl dO s3 vt vs ∧ fu q.T.cols 0 b.vals = fu (q.T.cols.drop i) i vs,
  fun z _ => q.c.2.1 - z.2.2.2.2.2.1.1.toNat, ⟨0, t, b.vals, rfl, Nat.zero_le _, rfl, hv3, by rw [List.drop_zero]⟩, ?_⟩
 rintro _ s3 ⟨i, ⟨va, vn, vc⟩, vs, rfl, hi, rfl, hVs, hio⟩;dsimp only;have hvl : vn = vs.length := hVs.len;have hvle : vn ≤ vc := hVs.le;refine aI (fun e3 => ?_) fun e3 => ?_;rotate_left
 ·have e3 : ¬ (i : Int) < (q.c.2.1 : Int) := of_decide_eq_false e3;rw [List.drop_of_length_le (by omega)] at hio;have hio : fu q.T.cols 0 b.vals = vs.isEmpty := hio;refine lt _ ?_;dsimp only
  cases hvs : vs with
  | nil =>
   rw [hvs] at hio hvl
   have : ((vn : Int) == 0) = true := by rw [hvl]; (first | done | rfl)
   rw [this];exact yes (by rw [hrt, if_pos (by rw [hio]; (first | done | rfl))])
  | cons v r =>
   rw [hvs] at hio hvl
   have : ((vn : Int) == 0) = false := by rw [beq_eq_false_iff_ne]; rw [List.length_cons] at hvl; omega
   rw [this];exact noq (by rw [hrt, if_neg (by rw [hio]; simp)])
 have hlt : (i : Int) < (q.c.2.1 : Int) := of_decide_eq_true e3
 obtain ⟨x, hx⟩ : ∃ x, q.T.cols[i]? = some x := ⟨_, List.getElem?_eq_getElem (by omega)⟩
 obtain ⟨ad, had, hh⟩ := hqI.c.el.aA hx;have hc8 := hqT.c8;refine bF ⟨Int.natCast_nonneg i, hlt⟩ ?_;refine aN had ?_;simp only [Int.toNat_natCast];have hh : s3.has (ad.add (i * 7)) (dD.f x) := hh;refine az hh (y := zo x) rfl ?_;rw [ct hx, GJ] at hio;rw [ai (k := i) (by omega)];dsimp only;refine aI (fun e4 => ?_) fun e4 => ?_
 ·have e4 : x.state ≠ 3 := by simpa using e4
  rw [if_pos e4] at hio;exact ⟨⟨i + 1, (va, vn, vc), vs, rfl, by omega, rfl, hVs, hio⟩, by simp only [Int.toNat_natCast]; omega⟩
 have e4 : ¬ x.state ≠ 3 := by simpa using e4
 rw [if_neg e4] at hio;refine aI (fun e5 => ?_) fun e5 => ?_
 ·have e5 : (vn : Int) = 0 := eq_of_beq e5;have : vs = [] := List.eq_nil_of_length_eq_zero (by omega);rw [this] at hio;exact lt _ (noq (by rw [hrt, if_neg (by rw [hio]; simp)]))
 have e5 : ¬ (vn : Int) = 0 := by simpa using e5
 cases hvs : vs with
 | nil => rw [hvs] at hvl; simp at hvl; omega
 | cons v r =>
 rw [hvs] at hio hvl hVs;rw [List.length_cons] at hvl;dsimp only at hio;refine bF ⟨Int.le_refl 0, by omega⟩ ?_;obtain ⟨av, hav, hhv⟩ := hVs.el.aA (i := 0) rfl;refine aN hav ?_
 have hhv : s3.has (av.add 0) (dO.f v) := by simpa using hhv
 refine bq (j := 0) (A := av) (by simpa using hhv) (y := bM v) rfl ?_;refine W.cr ((fits v x.kind, ()), ()) (vF v x s3) rfl ?_;dsimp only
 have hgd : (0 : Int) ≤ 1 ∧ (1 : Int) ≤ (vn : Int) ∧ (vn : Int) ≤ (vc : Int) := ⟨by omega, by omega, by omega⟩
 refine aI (fun e6 => ?_) fun e6 => ?_
 ·have e6 : fits v x.kind = false := by simpa using e6
  rw [e6] at hio;exact lt _ (noq (by rw [hrt, if_neg (by rw [hio]; simp)]))
 have e6 : fits v x.kind = true := by simpa using e6
 rw [e6, Bool.true_and] at hio;refine aI (fun e7 => ?_) fun e7 => ?_
 ·have e7 : (i : Int) = 0 := eq_of_beq e7
  have e7 : i = 0 := by omega
  refine bF ⟨Int.le_refl 0, by omega⟩ ?_;refine aN hav ?_;refine bq (j := 0) hhv (y := (v.kind, ())) rfl ?_;dsimp only;refine aI (fun e8 => ?_) fun e8 => ?_
  ·rw [e8, decide_eq_true e7] at hio;exact lt _ (noq (by rw [hrt, if_neg (by rw [hio]; simp)]))
  ·rw [e8, Bool.and_false, Bool.not_false, Bool.true_and] at hio;refine bF hgd ?_;exact ⟨⟨i + 1, (if vc = 1 then va else va.map (·.add 3), vn - 1, vc - 1), r, by simp only [Int.toNat_natCast], by omega, rfl, hVs.tail, hio⟩, by simp only [Int.toNat_natCast]; omega⟩
 ·have e7 : ¬ (i : Int) = 0 := by simpa using e7
  have e7 : ¬ i = 0 := by omega
  rw [decide_eq_false e7, Bool.false_and, Bool.not_false, Bool.true_and] at hio;refine bF hgd ?_;exact ⟨⟨i + 1, (if vc = 1 then va else va.map (·.add 3), vn - 1, vc - 1), r, by simp only [Int.toNat_natCast], by omega, rfl, hVs.tail, hio⟩, by simp only [Int.toNat_natCast]; omega⟩
end
section
def tH (M : Nat) (x : Wr) : Prop := ∀ l, gA x.val = some l → l.length ≤ M
theorem IY {new l : List aY} (h : fZ new) (e : gA (cU new).1 = some l) : l = new := by
 have h1 : (cU new).1 = kB (new.flatMap cW) := by unfold cU; rw [if_pos h.1]
 rw [h1, zF h.2 h.1] at e;exact (Option.some.inj e).symm
theorem GF {l : List aY} (e : gA ⟨#[]⟩ = some l) : l = [] := by
 have h1 : (⟨#[]⟩ : BA) = kB (([] : List aY).flatMap cW) := rfl;rw [h1, zF (by simp) rfl] at e;exact (Option.some.inj e).symm
theorem ql {T : aG} {old new : List aY} {M : Nat} (h : fZ new) (hl : new.length ≤ M) : ∀ x ∈ dB T old new, tH M x := fun x hx l e => by
 rcases zS hx with ⟨_, e2, _⟩ | ⟨e2, _⟩
 ·rw [e2] at e; rw [IY h e]; exact hl
 ·rw [e2] at e; rw [GF e]; simp
theorem EX {ts : Int} {l : List Ht} {x : Wr} {a : Ht} (h : a ∈ eA ts l x) : a = ⟨x.key, ts, x.val⟩ ∨ a ∈ l := by
 unfold eA at h;rw [List.mem_append, List.mem_append] at h;rcases h with (h | h) | h
 ·exact .inr (List.takeWhile_subset _ h)
 ·unfold gO at h
  split at h
  ·simp at h
  ·simp at h; exact .inl h
 ·exact .inr ((List.dropWhile_sublist (fun h : Ht => bO h.key x.key) (l := l)).subset (List.mem_filter.1 h).1)
theorem kG.apply {N : Nat} : ∀ {ws : List Wr} {D : List Ht}, kG N D → (∀ x ∈ ws, tH N x) → kG N (aq 0 D ws)
 | [], D, h, _ => h
 | x :: ws, D, h, hw => by
  show kG N (aq 0 (eA 0 D x) ws)
  refine kG.apply (fun a ha l e => ?_) fun y hy => hw y (List.mem_cons_of_mem _ hy);rcases EX ha with rfl | ha
  ·exact hw x List.mem_cons_self l e
  ·exact h a ha l e
theorem kG.mono {N M : Nat} {D : List Ht} (h : kG N D) (hm : N ≤ M) : kG M D := fun a ha l e => Nat.le_trans (h a ha l e) hm
theorem xy {S : aD} {T : aG} {b : cz} {N : Nat} (hT : gp S T) (h1 : 1 ≤ b.set) (h2 : b.set ≤ 9223372036854775807) (hto : ju b.to) : ∀ (L : List Rw) (D : List Ht), (∀ r ∈ L, fZ r.cells ∧ r.cells.length ≤ N) →
  (dN S T b L D).2.1.length ≤ 16 * L.length ∧ (dN S T b L D).2.2.length ≤ 17 * L.length ∧ ∀ x ∈ (dN S T b L D).2.2, tH (N + 9) x
 | [], D, _ => by simp [dN]
 | r :: L, D, h => by
  obtain ⟨hr1, hr2⟩ := h r List.mem_cons_self;obtain ⟨hn1, hn2⟩ := Cg (r := r) hT hr1 h1 h2 hto;have ih := xy hT h1 h2 hto L (aq 0 D (dB T r.cells (jb T b r))) fun x hx => h x (List.mem_cons_of_mem _ hx);obtain ⟨i1, i2, i3⟩ := ih;have hc := sO S T r.key r.cells (jb T b r) D;have hg := kO T r.cells (jb T b r);have hx8 := hT.x8;have hk8 := hT.k8;unfold dN
  split
  ·refine ⟨by rw [List.length_cons]; dsimp only; omega, by simp, by simp⟩
  ·refine ⟨by rw [List.length_cons]; simp only [List.length_append]; omega, by rw [List.length_cons]; simp only [List.length_append]; omega, fun x hx => ?_⟩;rcases List.mem_append.1 hx with hx | hx
   ·exact ql hn1 (by omega) x hx
   ·exact i3 x hx
theorem xg {S : aD} {T : aG} {N : Nat} (hT : gp S T) (hAll : ∀ U ∈ S.tabs, gp S U) (h6 : S.tabs.length ≤ 6) : ∀ (L : List Rw) (D : List Ht),
  (dL S T L D).2.1.length ≤ 48 * L.length ∧ (dL S T L D).2.2.length ≤ 17 * L.length ∧ ∀ x ∈ (dL S T L D).2.2, tH N x
 | [], D => by simp [dL]
 | r :: L, D => by
  have ih := xg (N := N) hT hAll h6 L (aq 0 D (dB T r.cells []));obtain ⟨i1, i2, i3⟩ := ih;have hc := sR T r D (l := S.tabs) fun U hU => (hAll U hU).k8;have hg := kO T r.cells [];have hx8 := hT.x8;unfold dL
  split
  ·refine ⟨by rw [List.length_cons]; dsimp only; omega, by simp, by simp⟩
  ·refine ⟨by rw [List.length_cons]; simp only [List.length_append]; omega, by rw [List.length_cons]; simp only [List.length_append]; omega, fun x hx => ?_⟩;rcases List.mem_append.1 hx with hx | hx
   ·exact ql fZ.nil (by simp) x hx
   ·exact i3 x hx
structure D3 (b : cz) : Prop where
 to : lC b.to.n
 is : lC b.is.n
 vals : ∀ v ∈ b.vals, lC v.n
theorem FP {S : aD} {i : Int} {T : aG} (h : gI S i = some T) : T ∈ S.tabs ∧ T.id = i := by
 unfold gI at h;exact ⟨List.mem_of_find?_eq_some h, by have := List.find?_some h; simpa using this⟩
theorem w5 {S : aD} {T : aG} (hT : gp S T) {id : Int} {v : aK} {key : Bool} (h : gH T id v key = true) (hv : lC v.n) : 1 ≤ id ∧ id ≤ 9223372036854775807 ∧ ju v := by
 unfold gH at h;obtain ⟨c, hc, h⟩ := List.any_eq_true.1 h;simp only [Bool.and_eq_true, beq_iff_eq] at h;obtain ⟨h1, h2, _⟩ := hT.cols c hc;rw [h.1.1.1] at h1 h2;exact ⟨h1, h2, vL h.2, hv⟩
structure K5 (S : aD) (b : cz) (T : aG) : Prop where
 mem : T ∈ S.tabs
 lo : 1 ≤ b.kind
 hi : b.kind ≤ 4
 ins : b.kind = 1 → fu T.cols 0 b.vals = true
 aS : b.kind = 2 → gH T b.set b.to false = true
theorem rV {S : aD} {b : cz} {T : aG} (h : fE S b = some T) : K5 S b T := by
 unfold fE at h
 cases ht : gI S b.table with
 | none => rw [ht] at h; cases h
 | some U =>
  rw [ht] at h;dsimp only at h;have hm := (FP ht).1
  split at h
  ·cases h
  ·rename_i hk
   split at h
   ·rename_i h1
    split at h
    ·rename_i h2; cases h; exact ⟨hm, by omega, by omega, fun _ => h2, fun e => by omega⟩
    ·cases h
   ·rename_i h1
    split at h
    ·cases h
    ·rename_i h2
     split at h
     ·cases h;refine ⟨hm, by omega, by omega, fun e => absurd e h1, fun e => ?_⟩
      cases hp : gH T b.set b.to false with
      | true => rfl
      | false => exact absurd ⟨e, hp⟩ h2
     ·cases h
theorem Kk {S : aD} {T : aG} {vs : List aK} (hT : gp S T) (h : fu T.cols 0 vs = true) : vs ≠ [] := by
 cases hc : T.cols with
 | nil => exact absurd hc hT.ne
 | cons c l =>
  rw [hc] at h;have h3 : c.state = 3 := hT.pub c (by rw [hc]; (first | done | rfl));rcases o4 h with ⟨g, _⟩ | ⟨_, v, r, rfl, _⟩
  ·exact absurd h3 g
  ·simp
structure K4 (N : Nat) (E : yN) : Prop where
 asks : E.asks.length ≤ 4000
 ws : E.ws.length ≤ 1100
 good : ∀ x ∈ E.ws, tH (N + 9) x
 rep : E.rep.rows.length ≤ 64 ∧ ∀ v ∈ E.rep.rows, v.length ≤ 8
theorem Bl {T : aG} {b : cz} {D : List Ht} {N : Nat} (hv : rN D) (hN : kG N D) : ∀ r ∈ (aV T b D).2, fZ r.cells ∧ r.cells.length ≤ N := fun r hr => by
 obtain ⟨x, hx, e⟩ := ux hr;have hg := (tY e).1;exact ⟨(vO (hv x hx) hg).p, hN x hx _ hg⟩
theorem DE {S : aD} {b : cz} {T : aG} {D : List Ht} {N : Nat} (hAll : ∀ U ∈ S.tabs, gp S U) (h6 : S.tabs.length ≤ 6) (hr : fE S b = some T) (hb : D3 b) (hD : cl D) (hv : rN D) (hN : kG N D) : K4 N (eE S T b D) := by
 have hf := rV hr;have hT := hAll T hf.mem;have hx8 := hT.x8;have hk8 := hT.k8;have hml := l5 (T := T) (b := b) hD;have hal := o7 (T := T) (b := b) (D := D)
 have noR : ∀ {n : Int}, (⟨n, []⟩ : Rp).rows.length ≤ 64 ∧ ∀ v ∈ (⟨n, []⟩ : Rp).rows, v.length ≤ 8 := fun {n} => ⟨by simp, by simp⟩
 unfold eE
 split
 ·rename_i h1
  have hok := hf.ins h1;obtain ⟨hc1, hc2⟩ := nU hT.cols hok hb.vals fZ.nil;have hl1 := sO S T (b.vals.headD kT) [] (kQ T.cols b.vals []) D;have hl2 := kO T [] (kQ T.cols b.vals []);have hc8 := hT.c8;simp only [List.length_nil, Nat.zero_add] at hc2;unfold o5;dsimp only
  split
  ·exact ⟨by simp, by simp, by simp, noR⟩
  ·split
   ·exact ⟨by simp only [List.length_cons]; omega, by simp, by simp, noR⟩
   ·exact ⟨by simp only [List.length_cons]; omega, by dsimp only; omega, ql hc1 (by omega), noR⟩
 ·rename_i h1
  split
  ·rename_i h2
   obtain ⟨p1, p2, p3⟩ := w5 hT (hf.aS h2) hb.to;obtain ⟨u1, u2, u3⟩ := xy hT p1 p2 p3 (aV T b D).2 D (Bl hv hN);unfold pK
   split
   ·exact ⟨by dsimp only; omega, by simp, by simp, noR⟩
   ·split
    ·exact ⟨by simp only [List.length_append]; omega, by dsimp only; omega, u3, noR⟩
    ·exact ⟨by simp only [List.length_append]; omega, by dsimp only; omega, u3, noR⟩
  ·split
   ·obtain ⟨u1, u2, u3⟩ := xg (N := N + 9) hT hAll h6 (aV T b D).2 D;unfold pe
    split
    ·exact ⟨by dsimp only; omega, by simp, by simp, noR⟩
    ·split
     ·exact ⟨by simp only [List.length_append]; omega, by dsimp only; omega, u3, noR⟩
     ·exact ⟨by simp only [List.length_append]; omega, by dsimp only; omega, u3, noR⟩
   ·unfold pq
    split
    ·exact ⟨by dsimp only; omega, by simp, by simp, noR⟩
    ·exact ⟨by dsimp only; omega, by simp, by simp, by show ((aV T b D).2.map (kq T)).length ≤ 64; rw [List.length_map]; exact hml, fun v hv => by
      obtain ⟨r, _, rfl⟩ := List.mem_map.1 hv;have h1 : (B6 T).length ≤ T.cols.length := List.length_filter_le _ _;have h2 := hT.c8;unfold kq
      rw [List.length_map]; omega⟩
theorem BF {f : List (BA × Wr)} {ov : List Wr} (hv : jr ov) (hk : ∀ p ∈ f, p.1 = p.2.key) (hp : (f.map (·.2)).Perm ov) : iq f = ov.map (·.key) := by
 have e1 : (f.map fun p => p.1.data.toList) = (f.map (·.2)).map (fun x => kL x.key) := by
  rw [List.map_map]
  exact List.map_congr_left fun p hp => by rw [hk p hp]; (first | done | rfl)
 unfold iq;rw [e1, mergeSort_of_perm (hp.map fun x => kL x.key)]
 have hs : ((ov.map fun x => kL x.key)).Pairwise fun a b => leB a b = true := by
  rw [List.pairwise_map];refine hv.imp fun {a b} h => ?_;unfold bO at h
  have : kL a.key < kL b.key := by simpa using h
  exact decide_eq_true (List.le_of_lt this)
 rw [List.mergeSort_of_pairwise hs, List.map_map]
 exact List.map_congr_left fun x _ => by show ofBytes (kL x.key) = x.key; exact qB (by unfold ofBytes kL; simp)
theorem C9 {f : List (BA × Wr)} {ov : List Wr} (hv : jr ov) (hk : ∀ p ∈ f, p.1 = p.2.key) (hp : (f.map (·.2)).Perm ov) {x : Wr} (hx : x ∈ ov) : f.lookup x.key = some x := by
 cases hl : f.lookup x.key with
 | none =>
  have := jf.1.1 hl;obtain ⟨p, hpm, rfl⟩ := List.mem_map.1 ((hp.mem_iff).2 hx);exact absurd (List.mem_map.2 ⟨p, hpm, hk p hpm⟩) this
 | some y =>
  have h1 := jf.2 _ hl;have h2 : x.key = y.key := hk _ h1;have h3 : y ∈ ov := (hp.mem_iff).1 (List.mem_map.2 ⟨_, h1, rfl⟩);rw [HM hv h3 hx h2.symm]
end
end Go.Proofs.YtlfdfgokflhdbaaGreat
