/-
  Part 28 for the law: lemmas.
  Conditions: none.
-/
import Derived.Test.YtlfdfgokflhdbaaGreatExecSplitsK27
set_option maxHeartbeats 4000000
set_option maxRecDepth 100000
set_option linter.unusedVariables false
set_option linter.unusedSimpArgs false
set_option linter.unusedSectionVars false
namespace Go.Proofs.YtlfdfgokflhdbaaGreat
open Fw Go Go.IntKind
section
attribute [-simp] Fw.W.bD Fw.W.bB
def su (s : PH) (r n : Nat) : Nat := match s r with | some (.mapIter _ _ seen _) => n - seen.size | _ => 0
theorem Be {K V : Type} [BEq K] [LawfulBEq K] {ke : rM K} {ve : V → Value} {s : PH} {r m : Nat} {f : List (K × V)} {idx : List Nat} (h : oV ke ve s r m f idx) (n : Nat) : su s r n = n - idx.length := by
 obtain ⟨es, c, h1, _⟩ := h
 unfold su; rw [h1]; simp
def gA (p : cq) (e : ByteArray × Wr) : Option Ht := if l9 e.1 p && !e.2.dead then some ⟨e.1, 0, e.2.val⟩ else none
def mu (ov : List Wr) (h : Ht) : Bool := !(ov.any fun x => x.key == h.key)
theorem H6 {B l' : List Ht} {ov : List Wr} {f : List (ByteArray × Wr)} {p : cq} (hB : dO B) (hv : ji ov) (hf : (f.map (·.2)).Perm ov) (hk : ∀ e ∈ f, e.1 = e.2.key)
  (hp : l'.Perm ((aJ B p).filter (mu ov) ++ f.filterMap (gA p))) (hs : l'.Pairwise fun x y => bK y.key x.key = false) : l' = aJ (aj 0 B ov) p := by
 have hD : dO (aj 0 B ov) := fD ov hB
 have hmv : ∀ x, x ∈ ov ↔ ∃ e ∈ f, e.2 = x := fun x => by rw [← hf.mem_iff, List.mem_map]
 have hW : dO (aJ B p) := hB.filter _
 have nod : ∀ {l : List Ht}, dO l → (l.map (·.key)).Nodup := fun {l} h => by
  unfold dO at h
  rw [List.Nodup, List.pairwise_map]
  exact h.imp fun {a b} e1 e2 => by rw [e2, fe] at e1; cases e1
 have nof : (f.map (·.1)).Nodup := by
  have h1 : (ov.map (·.key)).Nodup := by
   unfold ji at hv
   rw [List.Nodup, List.pairwise_map]
   exact hv.imp fun {a b} e1 e2 => by rw [e2, fe] at e1; cases e1
  have h2 : ((f.map (·.2)).map (·.key)).Nodup := ((hf.map _).nodup_iff).2 h1
  rw [List.map_map] at h2
  have : f.map (·.1) = f.map ((fun x : Wr => x.key) ∘ fun e => e.2) := List.map_congr_left fun e he => hk e he
  rw [this]; exact h2
 have nol : (l'.map (·.key)).Nodup := by
  refine ((hp.map (·.key)).nodup_iff).2 ?_
  rw [List.map_append, List.nodup_append]
  refine ⟨nod (hW.filter _), ?_, ?_⟩
  ·have key : ∀ f : List (ByteArray × Wr), (f.map (·.1)).Nodup → ((f.filterMap (gA p)).map (·.key)).Nodup ∧ ∀ h ∈ f.filterMap (gA p), h.key ∈ f.map (·.1) := by
    intro f
    induction f with
    | nil => intro _; simp
    | cons e f ih =>
     intro hn
     simp only [List.map_cons, List.nodup_cons] at hn
     obtain ⟨i1, i2⟩ := ih hn.2
     rw [List.filterMap_cons]
     cases hq : gA p e with
     | none => exact ⟨i1, fun h hh => List.mem_cons_of_mem _ (i2 h hh)⟩
     | some x =>
      have hx : x.key = e.1 := by unfold gA at hq; split at hq <;> simp at hq; rw [← hq]
      refine ⟨?_, ?_⟩
      ·simp only [List.map_cons, List.nodup_cons]
       refine ⟨fun hm => ?_, i1⟩
       obtain ⟨y, hy, e2⟩ := List.mem_map.1 hm
       have := i2 y hy
       rw [e2, hx] at this
       exact hn.1 this
      ·intro h hh
       rcases List.mem_cons.1 hh with rfl | hh
       ·rw [hx]; exact List.mem_cons_self
       ·exact List.mem_cons_of_mem _ (i2 h hh)
   exact (key f nof).1
  ·intro a ha b hb e
   obtain ⟨h1, hh1, rfl⟩ := List.mem_map.1 ha
   obtain ⟨h2, hh2, rfl⟩ := List.mem_map.1 hb
   have h3 := (List.mem_filter.1 hh1).2
   obtain ⟨q, hq, hq2⟩ := List.mem_filterMap.1 hh2
   have hx : h2.key = q.1 := by unfold gA at hq2; split at hq2 <;> simp at hq2; rw [← hq2]
   unfold mu at h3
   simp only [Bool.not_eq_true', List.any_eq_false, beq_iff_eq] at h3
   exact h3 q.2 ((hmv _).2 ⟨q, hq, rfl⟩) (by rw [e, hx, hk q hq])
 have hsl : dO l' := by
  have h2 : l'.Pairwise fun x y => x.key ≠ y.key := by
   have := nol
   rw [List.Nodup, List.pairwise_map] at this; exact this
  refine (hs.and h2).imp fun {a b} ⟨e1, e2⟩ => ?_
  cases e3 : bK a.key b.key with
  | true => rfl
  | false => exact absurd (qO e3 e1) e2
 refine vH (fun h : Ht => h.key) hsl (hD.filter _) fun h => ?_
 rw [hp.mem_iff, List.mem_append]
 unfold aJ
 simp only [List.mem_filter, List.mem_filterMap]
 rw [iZ _ hB hv]
 constructor
 ·rintro (⟨⟨h1, h2⟩, h3⟩ | ⟨q, hq, hq2⟩)
  ·refine ⟨.inr ⟨h1, fun x hx e => ?_⟩, h2⟩
   unfold mu at h3
   simp only [Bool.not_eq_true', List.any_eq_false, beq_iff_eq] at h3
   exact h3 x hx e
  ·unfold gA at hq2
   split at hq2
   ·rename_i hc
    simp only [Option.some.injEq] at hq2
    simp only [Bool.and_eq_true, Bool.not_eq_true'] at hc
    subst hq2
    exact ⟨.inl ⟨q.2, (hmv _).2 ⟨q, hq, rfl⟩, hc.2, by rw [hk q hq]⟩, hc.1⟩
   ·cases hq2
 ·rintro ⟨⟨x, hx, hd, rfl⟩ | ⟨h1, h2⟩, h3⟩
  ·obtain ⟨q, hq, rfl⟩ := (hmv _).1 hx
   refine .inr ⟨q, hq, ?_⟩
   unfold gA
   rw [if_pos (by rw [hk q hq]; simp only [Bool.and_eq_true, Bool.not_eq_true']; exact ⟨h3, hd⟩), hk q hq]
  ·refine .inl ⟨⟨h1, h3⟩, ?_⟩
   unfold mu
   simp only [Bool.not_eq_true', List.any_eq_false, beq_iff_eq]
   exact fun x hx e => h2 x hx e
theorem AA {l : List Ht} {k : Nat} {h : Ht} (q : Ht → Bool) (hk : l[k]? = some h) : (l.take (k + 1)).filter q = (l.take k).filter q ++ (if q h = true then [h] else []) := by
 rw [List.take_add_one, hk, List.filter_append]
 congr 1
 simp only [Option.toList_some, List.filter_cons, List.filter_nil]
theorem GY {f : List (ByteArray × Wr)} {idx : List Nat} {i : Nat} {e : ByteArray × Wr} (h : f[i]? = some e) : kY f (idx ++ [i]) = kY f idx ++ [e] := by
 unfold kY
 rw [List.filterMap_append]; simp [h]
theorem HU {s0 s : PH} {w : Nat} {S : aF} {tt sh : aG} {B : List Ht} {rds : List cq} {ov : List Wr} (hB : iC s0 sh B) (hv : ji ov) (hvl : ov.length ≤ 800000) (h : EI s0 s w S tt sh B rds ov) (hrl : rds.length ≤ 4000000) (p : cq) (hp1 : p.1.size ≤ 4000000) :
  ai 185 #[cp w, mV p] s fun y s' => ∃ a n c, y = .slice a n c ∧ Gw bh 75 s0 s' a n c (aJ (aj 0 B ov) p) ∧ EI s0 s' w S tt sh B (gD rds p) ov ∧ Kt s s' := by
 refine Gs w p.1 p.2 _ s ?_
 unfold Aq
 obtain ⟨R, hR⟩ : ∃ R : Value → PH → Prop, (fun y s' => ∃ a n c, y = .slice a n c ∧ Gw bh 75 s0 s' a n c (aJ (aj 0 B ov) p) ∧ EI s0 s' w S tt sh B (gD rds p) ov ∧ Kt s s') = R := ⟨_, rfl⟩
 rw [hR]
 simp only [aQ, bI, Fc, cE, aN, IX, aU, aS, aP, bU, cZ, Fe, gN, lT, IZ, IY, IV, IW, aE, dh, aY, Nat.zero_add]
 obtain ⟨r, mb, mo, qs, bs, f, h⟩ := h
 refine (W.aA h.aH _ _ _ _).2 ⟨(some mb, ()), rfl, ?_⟩
 refine FY (ks := vF) (ve := ko) h.bm (key := p) ?_
 have hBl : (aJ B p).length ≤ 100000 := by
  have h1 : (aJ B p).length ≤ B.length := List.length_filter_le _ _
  have h2 := hB.sl.len
  have h3 := hB.cF
  omega
 -- what comes behind the first part
 have cont : ∀ (u : aG) (s1 : PH), EI s0 s1 w S tt sh B (gD rds p) ov → aW bh s1 75 u.1 u.2.1 u.2.2 (aJ B p) → Kt s s1 →
   W.loop [(true, [CT.str, CT.str]), (false, [CT.slice]), (false, [CT.slice]), (false, [CT.int IntKind.i64]), (false, [CT.int IntKind.i64])] ((p.1, p.2, ()), ((none, 0, 0), ()), (u, ()), ((u.2.1 : Int), ()), ((0 : Int), ()), ()) (fun x again => W.br (decide (x.2.2.2.2.1.1 < x.2.2.2.1.1))
    (W.guard (0 ≤ x.2.2.2.2.1.1 ∧ x.2.2.2.2.1.1 < (x.2.2.1.1.2.1 : Int)) (W.af x.2.2.1.1.1 fun p66 => W.ld [CT.str, CT.int IntKind.i64, CT.str] (p66.add (Int.toNat x.2.2.2.2.1.1 * 3)) fun y => W.ld [CT.map] ⟨w, 6, none⟩ fun m71 =>
      W.look .string m71.1 (.string y.1) (.agg #[.string ⟨#[]⟩, .string ⟨#[]⟩, .bool false]) (true, [CT.str, CT.str, CT.bool]) fun y73 b72 => W.br (!b72)
       (W.nw (.cells #[.string y.1, .int .i64 y.2.1, .string y.2.2.1] 75 (0, 0)) fun r76 => W.app 75 3 40 [.string ⟨#[]⟩, .int .i64 0, .string ⟨#[]⟩] x.2.1.1.1 x.2.1.1.2.1 x.2.1.1.2.2 (Src.sl (some ⟨r76, 0, none⟩) 1) fun a77 n78 c79 =>
         again ((x.1.1, x.1.2.1, ()), ((a77, n78, c79), ()), ((x.2.2.1.1.1, x.2.2.1.1.2.1, x.2.2.1.1.2.2), ()), (x.2.2.2.1.1, ()), (i64.wrap (x.2.2.2.2.1.1 + 1), ()), ()))
       (again ((x.1.1, x.1.2.1, ()), ((x.2.1.1.1, x.2.1.1.2.1, x.2.1.1.2.2), ()), ((x.2.2.1.1.1, x.2.2.1.1.2.1, x.2.2.1.1.2.2), ()), (x.2.2.2.1.1, ()), (i64.wrap (x.2.2.2.2.1.1 + 1), ()), ()))))
    (W.ld [CT.map] ⟨w, 6, none⟩ fun m81 => W.nN m81.1 fun r82 => W.loop [(true, [CT.str, CT.str]), (false, [CT.slice]), (false, [CT.addr])] ((x.1.1, x.1.2.1, ()), ((x.2.1.1.1, x.2.1.1.2.1, x.2.1.1.2.2), ()), (⟨r82, 0, none⟩, ()), ()) fun z again83 =>
      W.guard (z.2.2.1.1.off = 0) (W.nK z.2.2.1.1.block fun v90 => W.ext v90 0 (false, [CT.bool]) fun b91 => W.br b91.1
       (W.guard (z.2.2.1.1.off = 0) (W.nE z.2.2.1.1.block fun v92 => W.ext v92 0 (false, [CT.str]) fun t93 => W.ext v92 1 (true, [CT.str, CT.str, CT.bool]) fun t94 =>
         W.call Tryz.prog 233 #[.string t93.1, .agg #[.string z.1.1, .string z.1.2.1]] (false, [(false, [CT.bool])]) fun b97 => W.br b97.1.1
          (W.br (!t94.2.2.1) (W.nw (.cells #[.string t93.1, .int .i64 0, .string t94.2.1] 75 (0, 0)) fun r98 => W.app 75 3 40 [.string ⟨#[]⟩, .int .i64 0, .string ⟨#[]⟩] z.2.1.1.1 z.2.1.1.2.1 z.2.1.1.2.2 (Src.sl (some ⟨r98, 0, none⟩) 1) fun a99 n100 c101 =>
              again83 ((z.1.1, z.1.2.1, ()), ((a99, n100, c101), ()), (z.2.2.1.1, ()), ()))
            (again83 ((z.1.1, z.1.2.1, ()), ((z.2.1.1.1, z.2.1.1.2.1, z.2.1.1.2.2), ()), (z.2.2.1.1, ()), ())))
          (again83 ((z.1.1, z.1.2.1, ()), ((z.2.1.1.1, z.2.1.1.2.1, z.2.1.1.2.2), ()), (z.2.2.1.1, ()), ()))))
       (W.call Tryz.prog 234 #[.slice z.2.1.1.1 z.2.1.1.2.1 z.2.1.1.2.2, .func (.func 235) #[] #[]] (true, []) fun _ => W.ret R (.slice z.2.1.1.1 z.2.1.1.2.1 z.2.1.1.2.2))))) s1 := by
  rintro ⟨ua, un, uc⟩ s1 hE hu hkt
  have hun := hu.len
  dsimp only at hu hun
  refine ⟨fun z s' => ∃ (k : Nat) (b : Option Addr) (m d : Nat), z = ((p.1, p.2, ()), ((b, m, d), ()), ((ua, un, uc), ()), ((un : Int), ()), ((k : Int), ()), ()) ∧ k ≤ un ∧ m ≤ k ∧ Gw bh 75 s1 s' b m d (((aJ B p).take k).filter (mu ov)), fun z _ => un - z.2.2.2.2.1.1.toNat, ⟨0, none, 0, 0, rfl, Nat.zero_le _, Nat.le_refl _, Gw.nil (Mod.refl _ _)⟩, ?_⟩
  rintro _ s2 ⟨k, b, m, d, rfl, hk, hm, hG⟩
  dsimp only
  obtain ⟨r1, mb1, mo1, qs1, bs1, f1, hx⟩ := hE.same hG.md
  have hfl : f1.length ≤ 800000 := by
   have := hx.omp.length_eq
   rw [List.length_map] at this; omega
  refine (W.aa _ _ _ _).2 ⟨fun e => ?_, fun e => ?_⟩
  ·have hlt : (k : Int) < (un : Int) := of_decide_eq_true e
   obtain ⟨y, hy⟩ : ∃ y, (aJ B p)[k]? = some y := ⟨_, List.getElem?_eq_getElem (by omega)⟩
   have hfs := AA (mu ov) hy
   obtain ⟨g, rfl, hh⟩ := (hu.mod hG.md (by simp)).at hy
   refine (W.ah _ _ _).2 ⟨⟨Int.natCast_nonneg k, hlt⟩, ?_⟩
   simp only [dh, Int.toNat_natCast, aY, Nat.zero_add]
   have hh : s2.has ⟨g, k * 3, none⟩ (bh.f y) := hh
   refine aC hh (y := oG y) rfl ?_
   refine (W.aA hx.aH _ _ _ _).2 ⟨(some mo1, ()), rfl, ?_⟩
   refine vm (ke := ir) (ve := rL) hx.om (key := y.key) ?_
   rw [ak (k := k) (by omega)]
   have hkeys : f1.map (·.1) = (f1.map (·.2)).map (·.key) := by rw [List.map_map]; exact List.map_congr_left fun e he => hx.omk e he
   have hmem : y.key ∈ f1.map (·.1) ↔ ∃ x ∈ ov, x.key = y.key := by
    rw [hkeys, (hx.omp.map (·.key)).mem_iff, List.mem_map]
   cases hl : f1.lookup y.key with
   | none =>
    have hno : mu ov y = true := by
     have := iX.1.1 hl
     rw [hmem] at this
     unfold mu
     simp only [Bool.not_eq_true', List.any_eq_false, beq_iff_eq]
     exact fun x hx2 e2 => this ⟨x, hx2, e2⟩
    refine ⟨(⟨#[]⟩, ⟨#[]⟩, false, ()), rfl, ?_⟩
    refine (W.aa _ _ _ _).2 ⟨fun _ => ?_, fun e2 => (by cases e2)⟩
    refine hG.push [y] (k := 1) rfl rfl rfl (by omega) (by omega) fun a3 c3 s3 h3 => ?_
    refine ⟨⟨k + 1, a3, m + 1, c3, rfl, by omega, by omega, ?_⟩, by simp only [Int.toNat_natCast]; omega⟩
    rw [hfs, if_pos hno]; exact h3
   | some x =>
    have hyes : mu ov y = false := by
     have := iX.2 _ hl
     have h2 : y.key ∈ f1.map (·.1) := List.mem_map.2 ⟨_, this, rfl⟩
     rw [hmem] at h2
     obtain ⟨x2, hx2, e2⟩ := h2
     unfold mu
     simp only [Bool.not_eq_false', List.any_eq_true, beq_iff_eq]
     exact ⟨x2, hx2, e2⟩
    refine ⟨(x.key, x.val, x.dead, ()), rfl, ?_⟩
    refine (W.aa _ _ _ _).2 ⟨fun e2 => (by cases e2), fun _ => ?_⟩
    refine ⟨⟨k + 1, b, m, d, rfl, by omega, by omega, ?_⟩, by simp only [Int.toNat_natCast]; omega⟩
    rw [hfs, hyes]; simpa using hG
  ·have e : ¬ (k : Int) < (un : Int) := of_decide_eq_false e
   rw [List.take_of_length_le (by omega)] at hG
   have hmB : m ≤ 100000 := by omega
   generalize hL1 : (aJ B p).filter (mu ov) = L1 at hG
   refine (W.aA hx.aH _ _ _ _).2 ⟨(some mo1, ()), rfl, ?_⟩
   refine IG (ke := ir) (ve := rL) hx.om fun ri s3 hri m3 hit => ?_
   have hmo : ∀ {s' : PH}, Gw bh 75 s1 s' b m d L1 → True := fun _ => trivial
   refine ⟨fun z s' => ∃ (idx : List Nat) (b : Option Addr) (m2 d : Nat), z = ((p.1, p.2, ()), ((b, m2, d), ()), (⟨ri, 0, none⟩, ()), ()) ∧ m2 ≤ m + idx.length ∧ idx.length ≤ f1.length ∧ oV ir rL s' ri mo1 f1 idx ∧ s1 ri = none ∧ Gw bh 75 s1 s' b m2 d (L1 ++ (kY f1 idx).filterMap (gA p)), fun z s' => su s' ri f1.length,
    ⟨[], b, m, d, rfl, by simp, Nat.zero_le _, hit, hG.md.none hri (by simp), by simpa [kY] using hG.same m3⟩, ?_⟩
   rintro _ s4 ⟨idx, b4, m4, d4, rfl, hm4, hil, hit4, hri1, hG4⟩
   dsimp only
   refine (W.ah _ _ _).2 ⟨rfl, ?_⟩
   refine Ie hit4 (fun hperm => ?_) fun i e he s5 m5 hit5 hlt hent => ?_
   ·refine ⟨_, (false, ()), rfl, rfl, ?_⟩
    refine (W.aa _ _ _ _).2 ⟨fun e2 => (by cases e2), fun _ => ?_⟩
    refine W.au (HR hG4 (by omega)) ?_
    rintro _ s5 ⟨rfl, l', hp', hs', hG5, m5⟩
    refine ⟨(), rfl, ?_⟩
    have hmd : Fw.Mod [] s1 s5 := hG5.md
    have hl' : l' = aJ (aj 0 B ov) p := by
     refine H6 hB.cV hv hx.omp hx.omk (hp'.trans ?_) hs'
     rw [hL1]
     exact List.Perm.append_left _ (hperm.filterMap _)
    rw [← hR]
    subst hl'
    have hEE := hE.same hmd
    exact ⟨b4, m4, d4, rfl, ⟨hG5.row, fun g hg => hE.md.none (hG5.fr g hg) (by simp), hEE.md⟩, hEE, hkt.trans (Kt.of hmd)⟩
   ·refine ⟨_, (true, ()), rfl, rfl, ?_⟩
    refine (W.aa _ _ _ _).2 ⟨fun _ => ?_, fun e2 => (by cases e2)⟩
    refine (W.ah _ _ _).2 ⟨rfl, ?_⟩
    refine hent _ ?_
    refine ⟨_, (e.1, ()), rfl, rfl, ?_⟩
    refine ⟨_, (e.2.key, e.2.val, e.2.dead, ()), rfl, rfl, ?_⟩
    refine aL ((l9 e.1 p, ()), ()) (JS e.1 p s5) rfl ?_
    have hmd5 : Fw.Mod [] s1 s5 := hG4.md.fresh m5 (by simp [hri1])
    have hG5 : Gw bh 75 s1 s5 b4 m4 d4 (L1 ++ (kY f1 idx).filterMap (gA p)) := ⟨hG4.row.mod m5 fun g hg hr2 => (by
     have hgr : g = ri := by simpa using hr2
     subst hgr
     obtain ⟨es, c, q1, _⟩ := hit4
     rcases hG4.row.shape with ⟨rfl, _⟩ | ⟨g', rfl⟩
     ·simp [Fw.aH] at hg
     ·simp [Fw.aH] at hg; subst hg
      obtain ⟨cur, q2⟩ := hG4.row.ty rfl
      rw [q1] at q2; cases q2), hG4.fr, hmd5⟩
    have hvs := GY (idx := idx) he
    have hmu : ∀ {s6 : PH}, oV ir rL s6 ri mo1 f1 (idx ++ [i]) → su s6 ri f1.length < su s4 ri f1.length := fun h6 => by
     rw [Be h6, Be hit4, List.length_append]; simp only [List.length_cons, List.length_nil]; omega
    have hlen : (idx ++ [i]).length = idx.length + 1 := by simp
    have hskip : gA p e = none → (fun (z : bN [(true, [CT.str, CT.str]), (false, [CT.slice]), (false, [CT.addr])]) s' => (∃ (idx : List Nat) (b : Option Addr) (m2 d : Nat), z = ((p.1, p.2, ()), ((b, m2, d), ()), (⟨ri, 0, none⟩, ()), ()) ∧ m2 ≤ m + idx.length ∧ idx.length ≤ f1.length ∧ oV ir rL s' ri mo1 f1 idx ∧ s1 ri = none ∧ Gw bh 75 s1 s' b m2 d (L1 ++ (kY f1 idx).filterMap (gA p))) ∧ su s' ri f1.length < su s4 ri f1.length) ((p.1, p.2, ()), ((b4, m4, d4), ()), (⟨ri, 0, none⟩, ()), ()) s5 := fun hno => by
     refine ⟨⟨idx ++ [i], b4, m4, d4, rfl, by omega, by omega, hit5, hri1, ?_⟩, hmu hit5⟩
     rw [hvs, List.filterMap_append]
     simpa [hno] using hG5
    refine (W.aa _ _ _ _).2 ⟨fun e2 => ?_, fun e2 => ?_⟩
    ·have e2 : l9 e.1 p = true := e2
     refine (W.aa _ _ _ _).2 ⟨fun e3 => ?_, fun e3 => ?_⟩
     ·have e3 : e.2.dead = false := by simpa using e3
      have hyes : gA p e = some ⟨e.1, 0, e.2.val⟩ := by unfold gA; rw [e2, e3]; (first | done | rfl)
      refine hG5.mS [⟨e.1, 0, e.2.val⟩] (k := 1) rfl rfl rfl (by omega) (by omega) fun a6 c6 s6 h6 m6 => ?_
      have hoff : ∀ k o, s5 k = some o → (∀ c1 e1 f1, o ≠ .cells c1 e1 f1) → k ∉ Fw.aH b4 := fun k o ho hno hb => by
       rcases hG5.row.shape with ⟨rfl, _⟩ | ⟨g', rfl⟩
       ·simp [Fw.aH] at hb
       ·simp [Fw.aH] at hb; subst hb
        obtain ⟨cur, q2⟩ := hG5.row.ty rfl
        rw [ho] at q2; cases q2
        exact hno _ _ _ rfl
      have hit6 : oV ir rL s6 ri mo1 f1 (idx ++ [i]) := by
       obtain ⟨es, c, q1, q2, q3⟩ := hit5
       exact oV.mod ⟨es, c, q1, q2, q3⟩ m6 (hoff _ _ q1 (by simp)) (hoff _ _ q2 (by simp))
      refine ⟨⟨idx ++ [i], a6, m4 + 1, c6, rfl, by omega, by omega, hit6, hri1, ?_⟩, hmu hit6⟩
      rw [hvs, List.filterMap_append, ← List.append_assoc]
      simpa [hyes] using h6
     ·have e3 : e.2.dead = true := by simpa using e3
      exact hskip (by unfold gA; rw [e3]; simp)
    ·have e2 : l9 e.1 p = false := e2
     exact hskip (by unfold gA; rw [e2]; simp)
 cases hl : bs.lookup p with
 | some u =>
  obtain ⟨ua, un, uc⟩ := u
  refine ⟨((ua, un, uc), ()), rfl, ?_⟩
  have hin := iX.2 _ hl
  have hmem : p ∈ rds := by rw [← h.bmq]; exact List.mem_map.2 ⟨_, hin, rfl⟩
  have hadd : gD rds p = rds := by unfold gD; rw [if_pos hmem]
  refine W.bl (fun z s' => z = ((p.1, p.2, ()), ((ua, un, uc), ()), ()) ∧ s = s') ?_ ?_
  ·rintro _ _ ⟨rfl, rfl⟩
   exact cont (ua, un, uc) s (by rw [hadd]; exact ⟨r, mb, mo, qs, bs, f, h⟩) (h.bv _ hin) (Kt.refl s)
  ·intro J hJ
   exact (W.aa _ _ _ _).2 ⟨fun e => (by cases e), fun _ => hJ _ _ ⟨rfl, rfl⟩⟩
 | none =>
  have hnin : p ∉ rds := by
   have := iX.1.1 hl
   rwa [h.bmq] at this
  have hadd : gD rds p = rds ++ [p] := by unfold gD; rw [if_neg hnin]
  refine ⟨((none, 0, 0), ()), rfl, ?_⟩
  refine W.bl (fun z s' => ∃ u : aG, z = ((p.1, p.2, ()), (u, ()), ()) ∧ EI s0 s' w S tt sh B (gD rds p) ov ∧ aW bh s' 75 u.1 u.2.1 u.2.2 (aJ B p) ∧ Kt s s') ?_ ?_
  ·rintro _ s1 ⟨u, rfl, h1, h2, h3⟩
   exact cont u s1 h1 h2 h3
  intro J hJ
  refine (W.aa _ _ _ _).2 ⟨fun _ => ?_, fun e => (by cases e)⟩
  refine (W.aA h.aH _ _ _ _).2 ⟨(zN sh, ()), rfl, ?_⟩
  have hmeth : ∀ w, (method (Tryz.prog.types.size + Made.depth) 73 (ko sh) "Span").run Tryz.prog w = .ok (314, ko sh) w := fun w => by kernel_rfl
  refine ⟨73, ko sh, 314, ko sh, _, rfl, hmeth, Tryz.func314, rfl, by kernel_rfl, ?_⟩
  obtain ⟨sa, sn, sc⟩ := sh
  refine (HN (hB.sl.mono h.md.le) p (by omega) hB.ks (by have := hB.cF; dsimp only at this; omega)).mono ?_
  rintro _ s1 ⟨a1, n1, c1, rfl, hG1⟩
  refine ⟨(((a1, n1, c1), ()), ()), rfl, ?_⟩
  have hn1 := hG1.row.len
  refine W.au (Fp (Sl.bE hG1.row (by omega)) (by dsimp only; omega)) ?_
  rintro _ s2 ⟨a2, n2, c2, rfl, hG2⟩
  refine ⟨(((a2, n2, c2), ()), ()), rfl, ?_⟩
  have hn2 := hG2.row.len
  have m02 : Fw.Mod [] s s2 := hG1.md.trans hG2.md
  dsimp only
  refine ⟨fun z s' => ∃ (k : Nat) (b : Option Addr) (m d : Nat), z = ((p.1, p.2, ()), ((a2, n2, c2), ()), (p.1, p.2, (b, m, d), ()), ((a2, n2, c2), ()), ((n2 : Int), ()), ((k : Int), ()), ()) ∧ k ≤ n2 ∧ m ≤ k ∧ Gw JF 215 s2 s' b m d (stamps ((aJ B p).take k)), fun z _ => n2 - z.2.2.2.2.2.1.1.toNat,
   ⟨0, none, 0, 0, rfl, Nat.zero_le _, Nat.le_refl _, Gw.nil (Mod.refl _ _)⟩, ?_⟩
  rintro _ s3 ⟨k, b, m, d, rfl, hk, hm, hG3⟩
  dsimp only
  refine (W.aa _ _ _ _).2 ⟨fun e => ?_, fun e => ?_⟩
  ·have hlt : (k : Int) < (n2 : Int) := of_decide_eq_true e
   obtain ⟨y, hy⟩ : ∃ y, (aJ B p)[k]? = some y := ⟨_, List.getElem?_eq_getElem (by omega)⟩
   obtain ⟨g, rfl, hh⟩ := (hG2.row.mod hG3.md (by simp)).at hy
   refine (W.ah _ _ _).2 ⟨⟨by omega, hlt⟩, ?_⟩
   simp only [dh, Int.toNat_natCast, aY, Nat.zero_add]
   have hh : s3.has ⟨g, k * 3, none⟩ (bh.f y) := hh
   refine aC hh (y := oG y) rfl ?_
   refine hG3.push [(y.key, y.ts)] (k := 1) rfl rfl rfl (by omega) (by omega) fun a4 c4 s4 h4 => ?_
   rw [ak (k := k) (by omega)]
   refine ⟨⟨k + 1, a4, m + 1, c4, rfl, by omega, by omega, ?_⟩, by simp only [Int.toNat_natCast]; omega⟩
   unfold stamps at h4 ⊢
   rw [List.take_add_one, hy, List.map_append]
   exact h4
  ·have e : ¬ (k : Int) < (n2 : Int) := of_decide_eq_false e
   rw [List.take_of_length_le (by omega)] at hG3
   have m03 : Fw.Mod [] s s3 := m02.trans hG3.md
   have hx := h.same m03
   refine (W.aA hx.aH _ _ _ _).2 ⟨(some mb, ()), rfl, ?_⟩
   refine F0 (ks := vF) (ve := ko) hx.bm (key := p) (v := (a2, n2, c2)) fun o ho => ?_
   rw [ye hl] at ho
   obtain ⟨es, cc, hmbs, _⟩ := hx.bm
   have hmbw : mb ≠ w := fun e => by rw [e, hx.aH] at hmbs; cases hmbs
   have k4 : (s3.aM mb o) w = some (vN S tt (sa, sn, sc) r mb mo) := by rw [PH.bF _ _ hmbw.symm]; exact hx.aH
   have u4 : Fw.Mod [mb] s3 (s3.aM mb o) := Mod.aM (by simp)
   refine (W.aA k4 _ _ _ _).2 ⟨(r, ()), rfl, ?_⟩
   have notmb : ∀ {α : Type} {E : cG α} {e : TypeId} {a : Option Addr} {n c : Nat} {l : List α}, aW E s3 e a n c l → aW E (s3.aM mb o) e a n c l := fun {α E e a n c l} hr => hr.mod u4 fun g hg hb => by
    have : g = mb := by simpa using hb
    subst this
    rcases hr.shape with ⟨rfl, _⟩ | ⟨g', rfl⟩
    ·simp [Fw.aH] at hg
    ·simp [Fw.aH] at hg; subst hg
     obtain ⟨cur, q2⟩ := hr.ty rfl
     rw [hmbs] at q2; cases q2
   have hrd4 : Gw EE 132 s0 (s3.aM mb o) r.1 r.2.1 r.2.2 qs := ⟨notmb hx.rd.row, hx.rd.fr, hx.md.bQ (.inr hx.mb0)⟩
   have hql : r.2.1 = rds.length := by rw [hx.rd.row.len, ← hx.rdq, List.length_map]
   refine hrd4.mS [⟨p, (b, m, d)⟩] (k := 1) rfl rfl rfl (by omega) (by omega) fun a5 c5 s5 h5 m5 => ?_
   have hwoff : w ∉ Fw.aH r.1 := hrd4.off k4 (by decide)
   have k5 : s5 w = some (vN S tt (sa, sn, sc) r mb mo) := m5.at k4 hwoff
   refine kg k5 (by show 4 + 1 ≤ 7; omega) (by simp [Value.oneCell']) rfl ?_
   intro s6 hs6
   have u6 : Fw.Mod [w] s5 s6 := by rw [hs6]; exact Mod.aM (by simp)
   have moff : ∀ {α : Type} {E : cG α} {e : TypeId} {a : Option Addr} {n c : Nat} {l : List α}, aW E s3 e a n c l → e ≠ 132 → e ≠ 147 → aW E s6 e a n c l := fun {α E e a n c l} hr hne hne2 => by
    have h4 := notmb hr
    have h5' := gH h4 hrd4 hne m5
    refine h5'.mod u6 fun g hg hb => ?_
    have : g = w := by simpa using hb
    subst this
    rcases h5'.shape with ⟨rfl, _⟩ | ⟨g', rfl⟩
    ·simp [Fw.aH] at hg
    ·simp [Fw.aH] at hg; subst hg
     obtain ⟨cur, q2⟩ := h5'.ty rfl
     rw [k5] at q2; cases q2; exact hne2 rfl
   have mapoff : ∀ k es c, (s3.aM mb o) k = some (.map es c) → s6 k = some (.map es c) := fun k es c hk => by
    have h5' : s5 k = some (.map es c) := m5.at hk fun hb => by
     rcases hrd4.row.shape with ⟨e0, _⟩ | ⟨g', e0⟩
     ·rw [e0] at hb; simp [Fw.aH] at hb
     ·rw [e0] at hb; simp [Fw.aH] at hb; subst hb
      obtain ⟨cur, q2⟩ := hrd4.row.ty e0
      rw [hk] at q2; cases q2
    refine u6.at h5' fun hb => ?_
    have : k = w := by simpa using hb
    subst this
    rw [k5] at h5'; cases h5'
   have md6 : Fw.Mod [] s0 s6 := h5.md.fresh u6 (by simp [hx.w0])
   have r6 : Gw EE 132 s0 s6 a5 (r.2.1 + 1) c5 (qs ++ [⟨p, (b, m, d)⟩]) := by
    refine ⟨h5.row.mod u6 fun g hg hb => ?_, h5.fr, md6⟩
    have : g = w := by simpa using hb
    subst this
    exact h5.off k5 (by decide) hg
   have k6 : s6 w = some (vN S tt (sa, sn, sc) (a5, r.2.1 + 1, c5) mb mo) := by rw [hs6, PH.bA]; (first | done | rfl)
   have hkt : Kt s s6 := by
    refine (Kt.of m03).trans ?_
    refine Kt.trans (s' := s3.aM mb o) (fun k cur e hk _ _ => ?_) (Kt.trans (s' := s5) (Kt.mod m5 fun g hg cur e hgc => .inr ?_) (Kt.mod u6 fun g hg cur e hgc => .inl ?_))
    ·refine u4.at hk fun hb => ?_
     have : k = mb := by simpa using hb
     subst this
     rw [hmbs] at hk; cases hk
    ·rcases hrd4.row.shape with ⟨e0, _⟩ | ⟨g', e0⟩
     ·rw [e0] at hg; simp [Fw.aH] at hg
     ·rw [e0] at hg; simp [Fw.aH] at hg; subst hg
      obtain ⟨cur2, q2⟩ := hrd4.row.ty e0
      rw [hgc] at q2; cases q2; (first | done | rfl)
    ·have : g = w := by simpa using hg
     subst this
     rw [k5] at hgc; cases hgc; (first | done | rfl)
   refine hJ _ _ ⟨(a2, n2, c2), rfl, ⟨(a5, r.2.1 + 1, c5), mb, mo, qs ++ [⟨p, (b, m, d)⟩], bs ++ [(p, (a2, n2, c2))], f, ?_⟩, moff (hG2.row.mod hG3.md (by simp)) (by decide) (by decide), hkt⟩
   refine ⟨md6, hx.w0, k6, hx.mb0, hx.mo0, hx.ne, r6, ?_, ?_, ?_, ?_, ?_, ?_, hx.omk, hx.omp⟩
   ·rw [hadd, List.map_append, hx.rdq]; (first | done | rfl)
   ·intro q hq
    rcases List.mem_append.1 hq with hq | hq
    ·exact moff (hx.seen q hq) (by decide) (by decide)
    ·simp only [List.mem_singleton] at hq
     subst hq
     exact moff hG3.row (by decide) (by decide)
   ·obtain ⟨es, cc, q1, q2⟩ := ho
    exact ⟨es, cc, mapoff _ _ _ q1, q2⟩
   ·rw [hadd, List.map_append, hx.bmq]; (first | done | rfl)
   ·intro e he
    rcases List.mem_append.1 he with he | he
    ·exact moff (hx.bv e he) (by decide) (by decide)
    ·simp only [List.mem_singleton] at he
     subst he
     exact moff (hG2.row.mod hG3.md (by simp)) (by decide) (by decide)
   ·obtain ⟨es, cc, q1, q2⟩ := hx.om
    exact ⟨es, cc, mapoff _ _ _ (by rw [PH.bF _ _ hx.ne.symm]; exact q1), q2⟩
end
section
attribute [-simp] Fw.W.bD Fw.W.bB
theorem oM {α : Type} {E : cG α} {e : TypeId} {s s' : PH} {a : Option Addr} {n c : Nat} {l : List α} {L : List Nat} (h : aW E s e a n c l) (hm : Fw.Mod L s s') (hL : ∀ g ∈ L, ∃ cur e', s g = some (.cells cur e' (0, 0)) ∧ e' ≠ e) : aW E s' e a n c l := by
 refine h.mod hm fun g hg hb => ?_
 obtain ⟨cur, e', h1, h2⟩ := hL g hb
 rcases h.shape with ⟨rfl, _⟩ | ⟨g', rfl⟩
 ·simp [Fw.aH] at hg
 ·simp [Fw.aH] at hg; subst hg
  obtain ⟨c2, h3⟩ := h.ty rfl
  rw [h1] at h3; cases h3
  exact h2 rfl
def xL (s : PH) (L : List Nat) : Prop := ∀ g ∈ L, ∃ cur e, s g = some (.cells cur e (0, 0)) ∧ e ≠ 147 ∧ e ≠ 132 ∧ e ≠ 215 ∧ e ≠ 75
theorem EI.keep {s0 s s' : PH} {w : Nat} {S : aF} {tt sh : aG} {B : List Ht} {rds : List cq} {ov : List Wr} {L : List Nat} (h : EI s0 s w S tt sh B rds ov) (hm : Fw.Mod L s s') (h0 : ∀ g ∈ L, s0 g = none) (hL : xL s L) : EI s0 s' w S tt sh B rds ov := by
 obtain ⟨r, mb, mo, qs, bs, f, h⟩ := h
 have hmap : ∀ k es c, s k = some (.map es c) → k ∉ L := fun k es c hk hb => by
  obtain ⟨cur, e, h1, _⟩ := hL k hb
  rw [hk] at h1; cases h1
 have md : Fw.Mod [] s0 s' := h.md.fresh hm fun g hg => .inr (h0 g hg)
 refine ⟨r, mb, mo, qs, bs, f, md, h.w0, hm.at h.aH fun hb => ?_, h.mb0, h.mo0, h.ne, ⟨oM h.rd.row hm fun g hg => ?_, h.rd.fr, md⟩, h.rdq, fun q hq => oM (h.seen q hq) hm fun g hg => ?_, ?_, h.bmq, fun e he => oM (h.bv e he) hm fun g hg => ?_, ?_, h.omk, h.omp⟩
 ·obtain ⟨cur, e, h1, h2, _⟩ := hL w hb
  rw [h.aH] at h1; cases h1
  exact h2 rfl
 ·obtain ⟨cur, e, h1, h2, h3, h4, h5⟩ := hL g hg; exact ⟨cur, e, h1, h3⟩
 ·obtain ⟨cur, e, h1, h2, h3, h4, h5⟩ := hL g hg; exact ⟨cur, e, h1, h4⟩
 ·obtain ⟨es, c, h1, h2⟩ := h.bm
  exact ⟨es, c, hm.at h1 (hmap _ _ _ h1), h2⟩
 ·obtain ⟨cur, e', h1, h2, h3, h4, h5⟩ := hL g hg; exact ⟨cur, e', h1, h5⟩
 ·obtain ⟨es, c, h1, h2⟩ := h.om
  exact ⟨es, c, hm.at h1 (hmap _ _ _ h1), h2⟩
structure EJ (s0 s : PH) (w : Nat) (S : aF) (tt sh : aG) (B : List Ht) (rds : List cq) (ov : List Wr) : Prop where
 ei : EI s0 s w S tt sh B rds ov
 cV : ji ov
 sm : ∀ x ∈ ov, x.key.size ≤ 4000000 ∧ x.val.size ≤ 4000000
 ol : ov.length ≤ 800000
section
variable {s0 s s' : PH} {w : Nat} {S : aF} {tt sh : aG} {B : List Ht} {rds : List cq} {ov : List Wr}
theorem EJ.same (h : EJ s0 s w S tt sh B rds ov) (hm : Fw.Mod [] s s') : EJ s0 s' w S tt sh B rds ov := ⟨h.ei.same hm, h.cV, h.sm, h.ol⟩
theorem EJ.keep {L : List Nat} (h : EJ s0 s w S tt sh B rds ov) (hm : Fw.Mod L s s') (h0 : ∀ g ∈ L, s0 g = none) (hL : xL s L) : EJ s0 s' w S tt sh B rds ov := ⟨h.ei.keep hm h0 hL, h.cV, h.sm, h.ol⟩
theorem EJ.md (h : EJ s0 s w S tt sh B rds ov) : Fw.Mod [] s0 s := h.ei.md
end
theorem Dm (ts : Int) (l : List Ht) (x : Wr) : (fC ts l x).length ≤ l.length + 1 := by
 have h1 := congrArg List.length (List.takeWhile_append_dropWhile (p := fun h : Ht => bK h.key x.key) (l := l))
 have h2 := List.length_filter_le (fun h : Ht => decide (h.key ≠ x.key)) (l.dropWhile fun h => bK h.key x.key)
 have h3 : (gV ts x).length ≤ 1 := by unfold gV; split <;> simp
 rw [List.length_append] at h1
 unfold fC
 rw [List.length_append, List.length_append]; omega
theorem jQ (ts : Int) : ∀ (ws : List Wr) (l : List Ht), (aj ts l ws).length ≤ l.length + ws.length
 | [], l => Nat.le_refl _
 | x :: ws, l => by
  have h1 := jQ ts ws (fC ts l x)
  have h2 := Dm ts l x
  show (aj ts (fC ts l x) ws).length ≤ _
  rw [List.length_cons]; omega
theorem gr {l : List Ht} {p : cq} {h : Ht} (hh : h ∈ aJ l p) : h ∈ l := (List.mem_filter.1 hh).1
section
variable {s0 s : PH} {w : Nat} {S : aF} {tt sh : aG} {B : List Ht} {rds : List cq} {ov : List Wr}
theorem gP (hB : iC s0 sh B) (hv : ji ov) (hs : ∀ x ∈ ov, x.key.size ≤ 4000000 ∧ x.val.size ≤ 4000000) : pH (aj 0 B ov) ∧ oW (aj 0 B ov) := by
 refine ⟨fun h hh => ?_, fun h hh => ?_⟩
 ·rcases (iZ _ hB.cV hv h).1 hh with ⟨x, hx, _, rfl⟩ | ⟨hl, _⟩
  ·have := (hs x hx).1; dsimp only; omega
  ·exact hB.ks h hl
 ·rcases (iZ _ hB.cV hv h).1 hh with ⟨x, hx, _, rfl⟩ | ⟨hl, _⟩
  ·exact (hs x hx).2
  ·exact hB.vs h hl
theorem tC (hB : iC s0 sh B) (h : ov.length ≤ 800000) (p : cq) : (aJ (aj 0 B ov) p).length ≤ 900000 := by
 have h1 : (aJ (aj 0 B ov) p).length ≤ (aj 0 B ov).length := List.length_filter_le _ _
 have h2 := jQ 0 ov B
 have h3 := hB.sl.len
 have h4 := hB.cF
 omega
theorem uV (hB : iC s0 sh B) (h : EJ s0 s w S tt sh B rds ov) (hrl : rds.length ≤ 4000000) (p : cq) (hp1 : p.1.size ≤ 4000000) :
  ai 185 #[cp w, mV p] s fun y s' => ∃ a n c, y = .slice a n c ∧ Gw bh 75 s0 s' a n c (aJ (aj 0 B ov) p) ∧ EJ s0 s' w S tt sh B (gD rds p) ov ∧ Kt s s' := by
 refine (HU hB h.cV h.ol h.ei hrl p hp1).mono ?_
 rintro _ s1 ⟨a, n, c, rfl, h1, h2, h3⟩
 exact ⟨a, n, c, rfl, h1, ⟨h2, h.cV, h.sm, h.ol⟩, h3⟩
end
theorem rO (rds : List cq) (p : cq) : (gD rds p).length ≤ rds.length + 1 := by unfold gD; split <;> simp
def bJ (rds : List cq) (l : List cq) : List cq := l.foldl gD rds
theorem ey : ∀ (l rds : List cq), (bJ rds l).length ≤ rds.length + l.length
 | [], rds => Nat.le_refl _
 | p :: l, rds => by
  have h1 := ey l (gD rds p)
  have h2 := rO rds p
  show (bJ (gD rds p) l).length ≤ _
  rw [List.length_cons]; omega
theorem cL (rds l m : List cq) : bJ rds (l ++ m) = bJ (bJ rds l) m := List.foldl_append
def Nw (s : PH) (a : Option Addr) : Prop := ∀ g ∈ Fw.aH a, ∀ cur e, s g = some (.cells cur e (0, 0)) → e = 147 ∨ e = 132
theorem Nw.of {s : PH} {a : Option Addr} (h : ∀ g ∈ Fw.aH a, s g = none) : Nw s a := fun g hg cur e he => by rw [h g hg] at he; cases he
theorem Nw.back {s s' : PH} {a : Option Addr} (hk : Kt s s') (h : Nw s' a) : Nw s a := fun g hg cur e he => by
 by_cases h1 : e = 147
 ·exact .inl h1
 ·by_cases h2 : e = 132
  ·exact .inr h2
  ·exact h g hg cur e (hk g cur e he h1 h2)
theorem Nw.none (s : PH) : Nw s none := fun g hg => by simp [Fw.aH] at hg
theorem Kt.nw {s s1 s2 : PH} {a : Option Addr} (hk : Kt s s1) (hm : Fw.Mod (Fw.aH a) s1 s2) (hn : Nw s a) : Kt s s2 := fun k cur e h1 h2 h3 =>
 hm.at (hk k cur e h1 h2 h3) fun hb => by rcases hn k hb cur e h1 with g | g; exact h2 g; exact h3 g
theorem eY.since {s0 s1 s2 : PH} {a : Option Addr} {n c : Nat} {L : List Rw} {qs : List ic} (h : eY s1 s2 a n c L qs) (hm : Fw.Mod [] s0 s1) : eY s0 s2 a n c L qs :=
 ⟨⟨h.gw.row, fun g hg => hm.none (h.gw.fr g hg) (by simp), hm.trans h.gw.md⟩, h.eq, fun q hq => ⟨(h.cs q hq).1, fun g hg => hm.none ((h.cs q hq).2 g hg) (by simp)⟩⟩
theorem eY.apart {s0 s : PH} {a : Option Addr} {n c : Nat} {L : List Rw} {qs : List ic} (h : eY s0 s a n c L qs) : xL s (Fw.aH a) := fun g hg => by
 rcases h.gw.row.shape with ⟨rfl, _⟩ | ⟨g', rfl⟩
 ·simp [Fw.aH] at hg
 ·simp [Fw.aH] at hg; subst hg
  obtain ⟨cur, hc⟩ := h.gw.row.ty rfl
  exact ⟨cur, _, hc, by decide, by decide, by decide, by decide⟩
theorem CR (t : Int) (v : aR) : (iG t v).size ≤ 1120 := gU _
section
variable {s0 s : PH} {w : Nat} {S : aF} {tt sh : aG} {B : List Ht} {rds : List cq} {ov : List Wr}
theorem yB (hB : iC s0 sh B) (h : EJ s0 s w S tt sh B rds ov) (hrl : rds.length ≤ 4000000) {p : ay} (hp : eZ s0 p) (hc : p.T.cols ≠ []) (v : aR) :
  ai 121 #[cp w, dR p.T p.c p.x p.k, eX v] s fun y s' => ∃ a n c qs, y = .slice a n c ∧ eY s0 s' a n c (iH p.T v (aj 0 B ov)) qs ∧ Nw s a ∧ EJ s0 s' w S tt sh B (gD rds (cA p.T.id v)) ov ∧ Kt s s' := by
 refine Iy w p.T.id p.T.name p.c.1 p.c.2.1 p.c.2.2 p.x.1 p.x.2.1 p.x.2.2 p.k.1 p.k.2.1 p.k.2.2 v.kind v.n v.s _ s ?_
 unfold BK
 simp only [aU, aP, aE]
 refine aL ((iG p.T.id v, ()), ()) (Dz p.T.id v s) rfl ?_
 have hsz := CR p.T.id v
 refine (W.ah _ _ _).2 ⟨by dsimp only; omega, ?_⟩
 refine W.au (uV hB h hrl (cA p.T.id v) (by show (iG p.T.id v).size ≤ 4000000; omega)) ?_
 rintro _ s1 ⟨a, n, c, rfl, hG, hE, hk⟩
 refine ⟨(((a, n, c), ()), ()), rfl, ?_⟩
 have hn := hG.row.len
 have hl := tC hB h.ol (cA p.T.id v)
 have hds := gP hB h.cV h.sm
 refine W.au (tq (hp.mono hE.md.le) hc (Sl.bE hG.row (by omega)) (by dsimp only; omega) (fun x hx => hds.2 x (gr hx))) ?_
 rintro _ s2 ⟨a2, n2, c2, qs, rfl, hR⟩
 refine ⟨(((a2, n2, c2), ()), ()), rfl, ?_⟩
 exact ⟨a2, n2, c2, qs, rfl, hR.since hE.md, Nw.back hk (Nw.of hR.gw.fr), hE.same hR.gw.md, hk.trans (Kt.of hR.gw.md)⟩
theorem A6 (hB : iC s0 sh B) (h : EJ s0 s w S tt sh B rds ov) (hrl : rds.length ≤ 4000000) (p : cq) (hp1 : p.1.size ≤ 4000000) :
  ai 194 #[cp w, mV p] s fun y s' => ∃ a n c, y = .tuple #[.slice a n c, .int .i64 (if 64 < (aJ (aj 0 B ov) p).length then 156 else 0)] ∧ Gw bh 75 s0 s' a n c (if 64 < (aJ (aj 0 B ov) p).length then [] else aJ (aj 0 B ov) p) ∧ EJ s0 s' w S tt sh B (gD rds p) ov ∧ Kt s s' := by
 refine Gt w p.1 p.2 _ s ?_
 unfold Ar
 simp only [aU, aN, aE]
 refine W.au (uV hB h hrl p hp1) ?_
 rintro _ s1 ⟨a, n, c, rfl, hG, hE, hk⟩
 refine ⟨(((a, n, c), ()), ()), rfl, ?_⟩
 have hn := hG.row.len
 refine (W.aa _ _ _ _).2 ⟨fun e => ?_, fun e => ?_⟩
 ·have e : (n : Int) > 64 := of_decide_eq_true e
  rw [if_pos (by omega), if_pos (by omega)]
  exact ⟨none, 0, 0, rfl, Gw.nil hE.md, hE, hk⟩
 ·have e : ¬ (n : Int) > 64 := of_decide_eq_false e
  rw [if_neg (by omega), if_neg (by omega)]
  exact ⟨a, n, c, rfl, hG, hE, hk⟩
theorem Hv (T : aO) (D : List Ht) : fj T D = (if 64 < (aJ D (cC T.id)).length then 156 else 0, iL T (if 64 < (aJ D (cC T.id)).length then [] else aJ D (cC T.id))) := by
 unfold fj; split <;> rfl
theorem DA (hB : iC s0 sh B) (h : EJ s0 s w S tt sh B rds ov) (hrl : rds.length ≤ 4000000) {p : ay} (hp : eZ s0 p) (hc : p.T.cols ≠ []) :
  ai 190 #[cp w, dR p.T p.c p.x p.k] s fun y s' => ∃ a n c qs, y = .tuple #[.slice a n c, .int .i64 (fj p.T (aj 0 B ov)).1] ∧ eY s0 s' a n c (fj p.T (aj 0 B ov)).2 qs ∧ Nw s a ∧ EJ s0 s' w S tt sh B (gD rds (cC p.T.id)) ov ∧ Kt s s' := by
 refine Iw w p.T.id p.T.name p.c.1 p.c.2.1 p.c.2.2 p.x.1 p.x.2.1 p.x.2.2 p.k.1 p.k.2.1 p.k.2.2 _ s ?_
 unfold BI
 simp only [aU, aE]
 rw [Hv]
 refine aL (((cC p.T.id).1, (cC p.T.id).2, ()), ()) (FC p.T.id s) rfl ?_
 refine W.au (A6 hB h hrl (cC p.T.id) (by have : (cC p.T.id).1.size ≤ 1120 := gU _; omega)) ?_
 rintro _ s1 ⟨a, n, c, rfl, hG, hE, hk⟩
 refine ⟨(((a, n, c), ()), (_, ()), ()), rfl, ?_⟩
 have hn := hG.row.len
 have hl := tC hB h.ol (cC p.T.id)
 have hds := gP hB h.cV h.sm
 have hlen : (if 64 < (aJ (aj 0 B ov) (cC p.T.id)).length then [] else aJ (aj 0 B ov) (cC p.T.id)).length ≤ 900000 := by split; exact Nat.zero_le _; exact hl
 refine W.au (tq (hp.mono hE.md.le) hc (Sl.bE hG.row (by omega)) (by dsimp only; omega) (fun x hx => ?_)) ?_
 ·split at hx
  ·simp at hx
  ·exact hds.2 x (gr hx)
 rintro _ s2 ⟨a2, n2, c2, qs, rfl, hR⟩
 refine ⟨(((a2, n2, c2), ()), ()), rfl, ?_⟩
 exact ⟨a2, n2, c2, qs, rfl, hR.since hE.md, Nw.back hk (Nw.of hR.gw.fr), hE.same hR.gw.md, hk.trans (Kt.of hR.gw.md)⟩
end
end
section
attribute [-simp] Fw.W.bD Fw.W.bB
theorem jf (v w : aR) : (v.kind == w.kind && (v.n == w.n && (v.s == w.s && true))) = decide (v = w) := by
 obtain ⟨a, b, c⟩ := v
 obtain ⟨d, e, f⟩ := w
 simp only [aR.mk.injEq, Bool.and_true]
 rw [Bool.eq_iff_iff]
 simp only [Bool.and_eq_true, beq_iff_eq, decide_eq_true_eq]
theorem oB {α : Type} {f : α → Bool} {l : List α} {k : Nat} {x : α} (h : l[k]? = some x) : (l.take (k + 1)).filter f = (l.take k).filter f ++ (if f x = true then [x] else []) := by
 rw [List.take_add_one, h]
 simp only [Option.toList_some, List.filter_append, List.filter_cons, List.filter_nil]
theorem we (a : Option Addr) : a.map (·.add 0) = a := by cases a <;> simp [add_zero]
theorem rq {α : Type} (p : α → Bool) (l : List α) : (aI p l 0 = -1 ∧ ∀ x ∈ l, p x = false) ∨ ∃ (j : Nat) (x : α), aI p l 0 = (j : Int) ∧ l[j]? = some x ∧ p x = true ∧ ∀ j' y, j' < j → l[j']? = some y → p y = false := by
 rcases iR (p := p) l 0 with h | ⟨j, x, h1, h2, h3, h4⟩
 ·exact .inl h
 ·exact .inr ⟨j, x, by simpa using h1, h2, h3, h4⟩
theorem mL {α : Type} (p : α → Bool) (l : List α) : (aI p l 0 = -1 ∧ l.find? p = none) ∨ ∃ (j : Nat) (x : α), aI p l 0 = (j : Int) ∧ l[j]? = some x ∧ l.find? p = some x := by
 rcases rq p l with ⟨h1, h2⟩ | ⟨j, x, h1, h2, h3, h4⟩
 ·exact .inl ⟨h1, List.find?_eq_none.2 fun x hx => by simp [h2 x hx]⟩
 ·refine .inr ⟨j, x, h1, h2, ?_⟩
  obtain ⟨hj, hx⟩ := List.getElem?_eq_some_iff.1 h2
  refine List.find?_eq_some_iff_getElem.2 ⟨h3, j, hj, hx, fun i hi => ?_⟩
  rw [h4 i _ hi (List.getElem?_eq_getElem (by omega))]; (first | done | rfl)
theorem De {zero : List Value} (h : ∀ v ∈ zero, v.oneCell' = true) (N : Nat) : (Builtin.zeroCells zero.toArray N).toList.length = N * zero.length ∧ ∀ v ∈ (Builtin.zeroCells zero.toArray N).toList, v.oneCell' = true := by
 refine ⟨by simp [Builtin.zeroCells], fun v hv => ?_⟩
 simp only [Builtin.zeroCells, Array.toList_map, Array.toList_range, List.mem_map, List.mem_range, List.size_toArray] at hv
 obtain ⟨i, hi, rfl⟩ := hv
 have hpos : 0 < zero.length := by
  rcases Nat.eq_zero_or_pos zero.length with q | q
  ·rw [q] at hi; omega
  ·exact q
 have hlt := Nat.mod_lt i hpos
 rw [getElem!_pos _ _ (by simpa using hlt)]
 exact h _ (by simp)
theorem DM {α : Type} {E : cG α} {s : PH} {e : TypeId} {a : Option Addr} {m c N : Nat} {xs : List α} {zero : List Value} {K : W.T} (h : aW E s e a m c xs) (hz : zero.length = E.sz) (h1 : ∀ v ∈ zero, v.oneCell' = true) (hN : m + N ≤ c)
  (hK : ∀ s', aW E s' e a m c xs → Fw.Mod (Fw.aH a) s s' → K s') : W.nD zero (if c = m then a else a.map (·.add (m * E.sz))) N K s := by
 obtain ⟨hl, ho⟩ := De h1 N
 rw [hz] at hl
 unfold W.nD
 generalize (Builtin.zeroCells zero.toArray N).toList = news at hl ho
 by_cases hc : c = m
 ·subst hc
  have hN0 : N = 0 := by omega
  subst hN0
  have : news = [] := List.length_eq_zero_iff.1 (by rw [hl, Nat.zero_mul])
  subst this
  rw [if_pos rfl]
  cases a with
  | none => exact hK s h (Mod.refl _ _)
  | some a => exact ⟨fun i hi => absurd hi (Nat.not_lt_zero _), fun v hv => by simp at hv, hK s h (Mod.refl _ _)⟩
 ·rw [if_neg hc]
  obtain ⟨g1, g2, g3, ⟨rfl, rfl, rfl⟩ | ⟨g, cur, rfl, hg, hcc, ht⟩⟩ := id h
  ·exact absurd rfl hc
  ·simp only [Option.map_some, aY, Nat.zero_add]
   have hb : (m + N) * E.sz ≤ cur.size := Nat.le_trans (Nat.mul_le_mul_right _ hN) hcc
   rw [Nat.add_mul] at hb
   refine ⟨fun i hi => ?_, ho, ?_⟩
   ·rw [aY]
    refine ⟨?_, ?_⟩
    ·unfold PH.cell?; dsimp only; rw [hg]
     have : m * E.sz + i < cur.size := by omega
     simp [this]
    ·unfold PH.frozen?; dsimp only; rw [hg]; simp
   ·cases news with
    | nil => exact hK s h (Mod.refl _ _)
    | cons v news =>
     rw [PH.jL (e := e) (f := (0, 0)) rfl (v :: news) 0 cur s hg (by simp)]
     refine hK _ ⟨g1, g2, g3, .inr ⟨g, _, rfl, PH.bA _ _ _, by rw [eA]; exact hcc, ?_⟩⟩ (Mod.aM (by simp [Fw.aH]))
     simp only [Nat.add_zero]
     rw [fM _ _ _ (by omega), ← ht]
     rw [List.append_assoc, List.take_append_of_le_length (by simp; omega), List.take_take, Nat.min_self]
structure uP (l : List aX) : Prop where
 put : cY 0 l = true
 ok : ∀ c ∈ l, AY c
 cF : l.length ≤ 4000000
theorem vV {l : List aX} : l.length ≤ (l.flatMap cT).length := by
 induction l with
 | nil => simp
 | cons c l ih =>
  rw [List.flatMap_cons, List.length_append, List.length_cons]
  have : 0 < (cT c).length := by unfold cT; simp
  omega
theorem vi {x : ByteArray} {l : List aX} (hx : x.size ≤ 4000000) (h : gu x = some l) : uP l := by
 obtain ⟨h1, h2, h3, _⟩ := mN h
 refine ⟨h2, h3, ?_⟩
 have h4 := vV (l := l)
 rw [h1, cz] at hx
 omega
structure ya (T : aO) (r : Rw) : Prop where
 cs : uP r.cells
 ne : r.cells ≠ []
 key : r.key = bq r.cells (eJ T)
theorem DP {T : aO} {h : Ht} {r : Rw} (hx : h.val.size ≤ 4000000) (e : eS T h = some r) : ya T r := by
 unfold eS at e
 cases hg : gu h.val with
 | none => rw [hg] at e; cases e
 | some l =>
  rw [hg] at e
  cases l with
  | nil => cases e
  | cons c l =>
   cases e
   exact ⟨vi hx hg, by simp, rfl⟩
theorem zI {T : aO} {l : List Ht} (hv : oW l) : ∀ r ∈ iL T l, ya T r := fun r hr => by
 obtain ⟨h, hh, e⟩ := List.mem_filterMap.1 hr
 exact DP (hv h hh) e
theorem Bn {T : aO} {k : aR} {D : List Ht} (hv : oW D) : ∀ r ∈ iH T k D, ya T r := zI fun h hh => hv h (gr hh)
theorem qD {T : aO} {D : List Ht} (hv : oW D) : ∀ r ∈ (fj T D).2, ya T r := by
 unfold fj
 split
 ·intro r hr; simp at hr
 ·exact zI fun h hh => hv h (gr hh)
theorem wg {T : aO} {b : cD} {D : List Ht} (hv : oW D) : ∀ r ∈ (aZ T b D).2, ya T r := by
 unfold aZ
 split
 ·exact qD hv
 ·split
  ·exact Bn hv
  ·split
   ·intro r hr; exact qD hv r (List.mem_filter.1 hr).1
   ·split
    ·intro r hr; simp at hr
    ·intro r hr
     obtain ⟨k, _, hk⟩ := List.mem_flatMap.1 hr
     exact Bn hv r hk
theorem qk (T : aO) (l : List Ht) : (iL T l).length ≤ l.length := List.length_filterMap_le _ _
abbrev lC (b : cD) (t : aG) : Obj := .cells #[.int .i64 b.kind, .int .i64 b.table, .slice t.1 t.2.1 t.2.2, .int .i64 b.set, .int .i64 b.to.kind, .int .i64 b.to.n, .string b.to.s, .int .i64 b.whr, .int .i64 b.is.kind, .int .i64 b.is.n, .string b.is.s] 127 (0, 0)
abbrev nc (b : cD) (t : aG) : Value := .agg #[.int .i64 b.kind, .int .i64 b.table, .slice t.1 t.2.1 t.2.2, .int .i64 b.set, .int .i64 b.to.kind, .int .i64 b.to.n, .string b.to.s, .int .i64 b.whr, .int .i64 b.is.kind, .int .i64 b.is.n, .string b.is.s]
abbrev qc (x : eu) : Den [.int .i64, .str, .int .i64, .bool, .int .i64] := (x.id, x.name, x.column, x.unique, x.state, ())
theorem DF {s : PH} {p : Nat} {b : cD} {t : aG} (hp : s p = some (lC b t)) (x : eu) : ai 191 #[FQ x, cp p] s fun y s' => y = .bool (qJ b.whr x) ∧ s' = s := by
 refine CE x.id x.name x.column x.unique x.state p _ s ?_
 unfold uJ
 simp only [bI, aN, aE, aY, Nat.zero_add]
 refine (W.aA hp _ _ _ _).2 ⟨(b.whr, ()), rfl, ?_⟩
 dsimp only
 unfold qJ
 refine (W.aa _ _ _ _).2 ⟨fun e => ?_, fun e => ?_⟩
 ·exact ⟨by rw [e, Bool.true_and], rfl⟩
 ·exact ⟨by rw [e, Bool.false_and], rfl⟩
theorem xz {s : PH} {a : Option Addr} {n c p : Nat} {l : List eu} {b : cD} {t : aG} (h : Sl jZ s (a, n, c) l) (hp : s p = some (lC b t)) :
  ai 90 #[.slice a n c, .func (.func 191) #[] #[cp p]] s fun y s' => y = .int .i64 (aI (qJ b.whr) l 0) ∧ s' = s := by
 refine vA a n c p _ s ?_
 unfold oa
 exact jB qc h (fun _ => rfl) (fun x _ => DF hp x) ⟨rfl, rfl⟩
def mO (b : cD) (r : Rw) : Bool := decide (bq r.cells b.whr = b.is)
theorem vS {s : PH} {p : Nat} {b : cD} {t : aG} (hp : s p = some (lC b t)) {r : Rw} {u : aG} (hu : Sl bx s u r.cells) : ai 193 #[JD r u, cp p] s fun y s' => y = .bool (!mO b r) ∧ s' = s := by
 obtain ⟨ua, un, uc⟩ := u
 refine CF r.key.kind r.key.n r.key.s ua un uc p _ s ?_
 unfold uK
 simp only [bI, bP, aE, aY, Nat.zero_add]
 refine (W.aA hp _ _ _ _).2 ⟨(b.whr, ()), rfl, ?_⟩
 refine W.bX (bH (bq r.cells b.whr), ()) (kR hu b.whr) rfl ?_
 refine (W.aA hp _ _ _ _).2 ⟨(b.is.kind, b.is.n, b.is.s, ()), rfl, ?_⟩
 refine ⟨?_, rfl⟩
 dsimp only
 rw [jf]; (first | done | rfl)
theorem xw {s : PH} {a : Option Addr} {n c p : Nat} {qs : List ic} {b : cD} {t : aG} (h : Sl lJ s (a, n, c) qs) (hc : ∀ q ∈ qs, Sl bx s q.u q.r.cells) (hp : s p = some (lC b t)) :
  ai 238 #[.slice a n c, .func (.func 193) #[] #[cp p]] s fun y s' => y = .int .i64 (aI (fun q : ic => !mO b q.r) qs 0) ∧ s' = s := by
 refine vv a n c p _ s ?_
 unfold nX
 exact jB (fun q : ic => wI q.r q.u) h (fun _ => rfl) (fun q hq => vS hp (hc q hq)) ⟨rfl, rfl⟩
theorem eY.cells {s0 s : PH} {a : Option Addr} {n c : Nat} {L : List Rw} {qs : List ic} (h : eY s0 s a n c L qs) (hf : ∀ r ∈ L, r.cells.length ≤ 4000000) : ∀ q ∈ qs, Sl bx s q.u q.r.cells := fun q hq => by
 refine Sl.bE (h.cs q hq).1 ?_
 have := hf q.r (by rw [← h.eq]; exact List.mem_map_of_mem hq)
 omega
theorem I1 {s0 s : PH} {a : Option Addr} {n c p : Nat} {L : List Rw} {qs : List ic} {b : cD} {t : aG} (h : eY s0 s a n c L qs) (hf : ∀ r ∈ L, r.cells.length ≤ 4000000) (hn : n ≤ 100000000) (hp : s p = some (lC b t)) :
  ai 192 #[.slice a n c, .func (.func 193) #[] #[cp p]] s fun y s' =>
   ∃ m qs', y = .slice a m c ∧ eY s0 s' a m c (L.filter (mO b)) qs' ∧ Fw.Mod (Fw.aH a) s s' := by
 refine vp a n c p _ s ?_
 unfold nT
 have hlen : n = qs.length := h.gw.row.len
 have hle := h.gw.row.le
 have hpa : p ∉ Fw.aH a := h.gw.off hp (by decide)
 obtain ⟨keep, hkeep⟩ : ∃ keep : ic → Bool, (fun q => mO b q.r) = keep := ⟨_, rfl⟩
 have hgk : (fun q : ic => !mO b q.r) = fun q => !keep q := by rw [← hkeep]
 have hLf : L.filter (mO b) = (qs.filter keep).map (·.r) := by rw [← h.eq, ← hkeep, List.filter_map]; (first | done | rfl)
 simp only [aN, aU, aE, gN, bI, aQ, aP, aS, pJ]
 have hidx := xw (c := c) (Sl.bE (t := (a, n, c)) h.gw.row (by omega)) (h.cells hf) hp
 rw [hgk] at hidx
 refine aL ((aI (fun q => !keep q) qs 0, ()), ()) hidx rfl ?_
 rcases rq (fun q => !keep q) qs with ⟨h1, h2⟩ | ⟨i0, x0, h1, hx0, h3, h4⟩
 ·rw [h1]
  refine (W.aa _ _ _ _).2 ⟨fun _ => ⟨n, qs, rfl, ?_, Mod.refl _ _⟩, fun e => by cases e⟩
  have : qs.filter keep = qs := List.filter_eq_self.2 fun x hx => by have := h2 x hx; simpa using this
  rw [hLf, this]; exact ⟨h.gw, rfl, h.cs⟩
 rw [h1]
 have hi0 := (List.getElem?_eq_some_iff.1 hx0).1
 refine (W.aa _ _ _ _).2 ⟨fun e => ?_, fun _ => ?_⟩
 ·have e : ((i0 : Int) == -1) = true := e
  have : (i0 : Int) = -1 := eq_of_beq e
  omega
 dsimp only
 rw [ak (k := i0) (by omega)]
 have hbeg : (qs.take (i0 + 1)).filter keep = qs.take i0 := by
  rw [oB hx0]
  have h3' : keep x0 = false := by simpa using h3
  rw [h3']
  simp only [Bool.false_eq_true, if_false, List.append_nil]
  refine List.filter_eq_self.2 fun x hx => ?_
  obtain ⟨j, hj⟩ := List.mem_iff_getElem?.1 hx
  rw [List.getElem?_take] at hj
  split at hj
  ·have := h4 j x ‹_› hj; simpa using this
  ·cases hj
 refine ⟨fun z s' => ∃ (i j : Nat) (ys : List ic), z = (((i : Int), ()), ((j : Int), ()), ()) ∧ i < j ∧ j ≤ n ∧ aW lJ s' 234 a n c ys ∧ Fw.Mod (Fw.aH a) s s' ∧ ys.take i = (qs.take j).filter keep ∧ ys.drop j = qs.drop j, fun z _ => n - z.2.1.1.toNat,
  ⟨i0, i0 + 1, qs, rfl, by omega, by omega, h.gw.row, Mod.refl _ _, hbeg.symm, rfl⟩, ?_⟩
 rintro _ s1 ⟨i, j, ys, rfl, hij, hjn, hrow, m1, htk, hdr⟩
 have hyl : n = ys.length := hrow.len
 have hcs : ∀ q ∈ qs, aW bx s1 94 q.u.1 q.u.2.1 q.u.2.2 q.r.cells := fun q hq => gH (h.cs q hq).1 h.gw (by decide) m1
 dsimp only
 refine (W.aa _ _ _ _).2 ⟨fun hlt => ?_, fun hge => ?_⟩
 ·have hlt : (j : Int) < (n : Int) := of_decide_eq_true hlt
  obtain ⟨x, hx⟩ : ∃ x, qs[j]? = some x := ⟨_, List.getElem?_eq_getElem (by omega)⟩
  have hy : ys[j]? = some x := by
   have e1 : (ys.drop j)[0]? = (qs.drop j)[0]? := by rw [hdr]
   simpa [List.getElem?_drop, hx] using e1
  have hxm := List.mem_of_getElem? hx
  obtain ⟨g, rfl, hh⟩ := hrow.at hy
  have hh' : s1.has ((Addr.mk g 0 none).add (j * 4)) (lJ.f x) := by rw [aY, Nat.zero_add]; exact hh
  refine (W.ah _ _ _).2 ⟨⟨Int.natCast_nonneg j, hlt⟩, ?_⟩
  simp only [dh, Int.toNat_natCast]
  refine aC hh' (y := wI x.r x.u) rfl ?_
  have hcg := vS (m1.at hp hpa) (Sl.bE (t := x.u) (hcs x hxm) (by have := hf x.r (by rw [← h.eq]; exact List.mem_map_of_mem hxm); omega))
  have hgx : (!mO b x.r) = !keep x := congrFun hgk x
  rw [hgx] at hcg
  refine aL ((!keep x, ()), ()) hcg rfl ?_
  have hst := oB (f := keep) hx
  have hdr' : ys.drop (j + 1) = qs.drop (j + 1) := by rw [← List.drop_drop, hdr, List.drop_drop]
  dsimp only
  refine (W.aa _ _ _ _).2 ⟨fun hk => ?_, fun hk => ?_⟩
  ·have hk : keep x = true := by simpa using hk
   refine (W.ah _ _ _).2 ⟨⟨Int.natCast_nonneg i, by omega⟩, ?_⟩
   simp only [dh, Int.toNat_natCast, aY, Nat.zero_add]
   obtain ⟨y, hyi⟩ : ∃ y, ys[i]? = some y := ⟨_, List.getElem?_eq_getElem (by omega)⟩
   refine aW.st (E := lJ) (i := i) (j := 0) (x' := x) (vs := lJ.f x) hrow hyi rfl (by rw [lJ.len]; exact Nat.le_refl _) (by simp [lJ]) (lJ.one x) rfl fun s2 h2 m2 => ?_
   rw [ak (k := i) (by omega), ak (k := j) (by omega)]
   refine ⟨⟨i + 1, j + 1, ys.set i x, rfl, by omega, by omega, h2, m1.trans (m2.mono fun z hz => by simpa [Fw.aH] using hz), ?_, ?_⟩, by simp only [Int.toNat_natCast]; omega⟩
   ·rw [hst, hk, if_pos rfl, ← htk, List.take_add_one, List.getElem?_set_self (by omega), List.take_set_of_le (Nat.le_refl _)]; (first | done | rfl)
   ·rw [List.drop_set_of_lt (by omega)]; exact hdr'
  ·have hk : keep x = false := by simpa using hk
   rw [ak (k := j) (by omega)]
   refine ⟨⟨i, j + 1, ys, rfl, by omega, by omega, hrow, m1, ?_, hdr'⟩, by simp only [Int.toNat_natCast]; omega⟩
   rw [hst, hk]
   simpa using htk
 ·have hge : ¬ (j : Int) < (n : Int) := of_decide_eq_false hge
  have hje : j = n := by omega
  subst hje
  have hall : qs.take j = qs := List.take_of_length_le (by omega)
  rw [hall] at htk
  have hpre : aW lJ s1 234 a i c (ys.take i) := by
   have := hrow.shrink (m := i) (c' := c) (by omega) (by omega) (Nat.le_refl _)
   have e : (if a = none then none else a) = a := by cases a <;> simp
   rwa [e] at this
  rw [htk] at hpre
  refine (W.ah _ _ _).2 ⟨⟨by omega, by omega, by omega⟩, ?_⟩
  simp only [Int.toNat_natCast]
  refine DM hpre rfl (by simp [Value.oneCell']) (by omega) fun s2 h2 m2 => ?_
  refine (W.ah _ _ _).2 ⟨⟨by omega, by omega, by omega⟩, ?_⟩
  have he : (if c = 0 then a else Option.map (fun x => x.add 0) a) = a := by split <;> simp [we]
  refine ⟨i, qs.filter keep, ?_, ⟨⟨h2, h.gw.fr, h.gw.md.fresh (m1.trans m2) fun g hg => .inr (h.gw.fr g hg)⟩, hLf.symm, fun q hq => ?_⟩, m1.trans m2⟩
  ·simp only [he, Nat.sub_zero, Int.toNat_natCast]
  ·have hqm := (List.mem_filter.1 hq).1
   exact ⟨gH (h.cs q hqm).1 h.gw (by decide) (m1.trans m2), (h.cs q hqm).2⟩
theorem eY.cat {s0 s : PH} {a b : Option Addr} {n c m d : Nat} {L M : List Rw} {qs ps : List ic} {K : Option Addr → Nat → Nat → W.T} (h : eY s0 s a n c L qs) (h2 : eY s0 s b m d M ps) (hl : n + m ≤ 1000000000)
  (hK : ∀ a' c' s', eY s0 s' a' (n + m) c' (L ++ M) (qs ++ ps) → Fw.Mod (Fw.aH a) s s' → (a' = a ∨ ∀ g ∈ Fw.aH a', s g = none) → K a' (n + m) c' s') :
  W.app 234 4 56 [.int .i64 0, .int .i64 0, .string ⟨#[]⟩, .slice none 0 0] a n c (Src.sl b m) K s := by
 have hmax : maxLen = 9223372036854775807 := rfl
 have hlp := h2.gw.row.len
 have hsl : Sl lJ s (b, m, d) ps := Sl.bE h2.gw.row (by omega)
 refine fP h.gw.row rfl (ys := ps) (k := m) hsl.el.je rfl hlp.symm (by omega) (by omega) ?_
 intro a' c' s' h' hm
 have m1 : Fw.Mod (Fw.aH a) s s' := by
  rcases hm with ⟨rfl, hm⟩ | ⟨g, rfl, hg, hm⟩
  ·exact hm
  ·exact hm.mono (by simp)
 refine hK a' c' s' ⟨⟨h', ?_, h.gw.md.fresh m1 fun g hg => .inr (h.gw.fr g hg)⟩, by rw [List.map_append, h.eq, h2.eq], fun q hq => ?_⟩ m1 ?_
 ·rcases hm with ⟨rfl, _⟩ | ⟨g, rfl, hg, _⟩
  ·exact h.gw.fr
  ·intro g' hg'
   have : g' = g := by simpa [Fw.aH] using hg'
   subst this
   exact h.gw.md.none hg (by simp)
 ·rcases List.mem_append.1 hq with hq | hq
  ·exact ⟨gH (h.cs q hq).1 h.gw (by decide) m1, (h.cs q hq).2⟩
  ·exact ⟨gH (h2.cs q hq).1 h.gw (by decide) m1, (h2.cs q hq).2⟩
 ·rcases hm with ⟨rfl, _⟩ | ⟨g, rfl, hg, _⟩
  ·exact .inl rfl
  ·exact .inr fun g' hg' => by
    have : g' = g := by simpa [Fw.aH] using hg'
    subst this; exact hg
end
section
attribute [-simp] Fw.W.bD Fw.W.bB
theorem vZ {l : List Ht} {k : Nat} {h : Ht} (hk : l[k]? = some h) : dU (l.take (k + 1)) = dU (l.take k) ++ (oI h.key).toList := by
 unfold dU
 rw [List.take_add_one, hk, List.filterMap_append]
 congr 1
theorem zF (T : aO) (v : aR) (D : List Ht) : (iH T v D).length ≤ (aJ D (cA T.id v)).length := qk _ _
theorem bg {a : Option Addr} {ad : Addr} {k : Addr → W.T} {s : PH} (h : a = some ad) (hk : k ad s) : W.af a k s := by subst h; exact (W.az _ _ _).2 hk
section
variable {s0 s : PH} {w : Nat} {S : aF} {tt sh : aG} {B : List Ht} {rds : List cq} {ov : List Wr}
theorem rW (hB : iC s0 sh B) (h : EJ s0 s w S tt sh B rds ov) (hrl : rds.length ≤ 3900000) {p : ay} (hp : eZ s0 p) (hc : p.T.cols ≠ []) (b : cD) (t : aG) :
  ai 124 #[cp w, dR p.T p.c p.x p.k, nc b t] s fun y s' => ∃ a n c qs, y = .tuple #[.slice a n c, .int .i64 (aZ p.T b (aj 0 B ov)).1] ∧ eY s0 s' a n c (aZ p.T b (aj 0 B ov)).2 qs ∧ EJ s0 s' w S tt sh B (bJ rds (cl p.T b (aj 0 B ov))) ov ∧ Kt s s' := by
 refine Ev w p.T.id p.T.name p.c.1 p.c.2.1 p.c.2.2 p.x.1 p.x.2.1 p.x.2.2 p.k.1 p.k.2.1 p.k.2.2 b.kind b.table t.1 t.2.1 t.2.2 b.set b.to.kind b.to.n b.to.s b.whr b.is.kind b.is.n b.is.s _ s ?_
 unfold xj
 obtain ⟨D, hD⟩ : ∃ D, aj 0 B ov = D := ⟨_, rfl⟩
 obtain ⟨R, hR⟩ : ∃ R : Value → PH → Prop, (fun y s' => ∃ a n c qs, y = .tuple #[.slice a n c, .int .i64 (aZ p.T b (aj 0 B ov)).1] ∧ eY s0 s' a n c (aZ p.T b (aj 0 B ov)).2 qs ∧ EJ s0 s' w S tt sh B (bJ rds (cl p.T b (aj 0 B ov))) ov ∧ Kt s s') = R := ⟨_, rfl⟩
 rw [hR]
 rw [hD] at hR
 have hds := gP hB h.cV h.sm
 have hdl := fun q => tC hB h.ol q
 have hrow := fun {s : PH} {rds : List cq} (h : EJ s0 s w S tt sh B rds ov) (hrl : rds.length ≤ 4000000) => yB (p := p) hB h hrl hp hc
 have hall := fun {s : PH} {rds : List cq} (h : EJ s0 s w S tt sh B rds ov) (hrl : rds.length ≤ 4000000) => DA (p := p) hB h hrl hp hc
 have hmany := fun {s : PH} {rds : List cq} (h : EJ s0 s w S tt sh B rds ov) (hrl : rds.length ≤ 4000000) => A6 hB h hrl
 rw [hD] at hds
 simp only [hD] at hdl hrow hall hmany
 simp only [bU, bI, aN, aU, aE, aP, aQ, aS, bP, cZ, dh, aY, Nat.zero_add]
 refine W.bG fun r0 s1 hr0 m1 k0 => ?_
 have k0 : s1 r0 = some (lC b t) := k0
 have h1 := h.same m1
 have t1 : Kt s s1 := Kt.of m1
 have l0 : ∀ {s2 : PH} (K : Den [CT.int IntKind.i64] → W.T), s2 r0 = some (lC b t) → K (b.whr, ()) s2 → W.ld [.int .i64] ⟨r0, 7, none⟩ K s2 := fun K hk hK => (W.aA hk _ _ _ _).2 ⟨(b.whr, ()), rfl, hK⟩
 have l1 : ∀ {s2 : PH} (K : Den [CT.int IntKind.i64, CT.int IntKind.i64, CT.str] → W.T), s2 r0 = some (lC b t) → K (b.is.kind, b.is.n, b.is.s, ()) s2 → W.ld [.int .i64, .int .i64, .str] ⟨r0, 8, none⟩ K s2 := fun K hk hK => (W.aA hk _ _ _ _).2 ⟨(b.is.kind, b.is.n, b.is.s, ()), rfl, hK⟩
 refine l0 _ k0 ?_
 dsimp only
 refine (W.aa _ _ _ _).2 ⟨fun e => ?_, fun e => ?_⟩
 ·have e : b.whr = 0 := eq_of_beq e
  have e1 : aZ p.T b D = fj p.T D := by unfold aZ; rw [if_pos e]
  have e2 : cl p.T b D = [cC p.T.id] := by unfold cl; rw [if_pos e]
  refine W.au (hall h1 (by omega)) ?_
  rintro _ s2 ⟨a, n, c, qs, rfl, hq, hn, hE, hk⟩
  refine ⟨(((a, n, c), ()), (_, ()), ()), rfl, ?_⟩
  rw [← hR, e1, e2]
  exact ⟨a, n, c, qs, rfl, hq, hE, t1.trans hk⟩
 have hw0 : ¬ b.whr = 0 := by simpa using e
 refine l0 _ k0 ?_
 have hcs := hp.c.mono h1.md.le
 obtain ⟨c0, hc0⟩ : ∃ c0, p.T.cols[0]? = some c0 := by
  cases hT : p.T.cols with
  | nil => exact absurd hT hc
  | cons x r => exact ⟨x, rfl⟩
 have hcol0 : eJ p.T = c0.id := by unfold eJ; rw [hc0]; (first | done | rfl)
 have hclen : p.c.2.1 = p.T.cols.length := hcs.len
 have hcpos : 0 < p.c.2.1 := by rw [hclen]; exact List.length_pos_iff.2 hc
 refine (W.ah _ _ _).2 ⟨⟨by omega, by omega⟩, ?_⟩
 obtain ⟨ac, hac, hhc⟩ := hcs.el.aB hc0
 refine bg hac ?_
 have hhc : s1.has (ac.add 0) (dx.f c0) := by simpa using hhc
 refine bz (j := 0) hhc (y := (c0.id, ())) rfl ?_
 dsimp only
 refine (W.aa _ _ _ _).2 ⟨fun e => ?_, fun e => ?_⟩
 ·have e : b.whr = c0.id := eq_of_beq e
  rw [← hcol0] at e
  have e1 : aZ p.T b D = (0, iH p.T b.is D) := by unfold aZ; rw [if_neg hw0, if_pos e]
  have e2 : cl p.T b D = [cA p.T.id b.is] := by unfold cl; rw [if_neg hw0, if_pos e]
  refine l1 _ k0 ?_
  refine W.au (hrow h1 (by omega) b.is) ?_
  rintro _ s2 ⟨a, n, c, qs, rfl, hq, hn, hE, hk⟩
  refine ⟨(((a, n, c), ()), ()), rfl, ?_⟩
  rw [← hR, e1, e2]
  exact ⟨a, n, c, qs, rfl, hq, hE, t1.trans hk⟩
 have hw1 : ¬ b.whr = eJ p.T := by rw [hcol0]; simpa using e
 have hidx := xz (c := p.x.2.2) (hp.x.mono h1.md.le) k0
 refine aL ((aI (qJ b.whr) p.T.idxs 0, ()), ()) hidx rfl ?_
 rcases mL (qJ b.whr) p.T.idxs with ⟨f1, f2⟩ | ⟨i, x, f1, f2, f3⟩
 ·rw [f1]
  refine (W.aa _ _ _ _).2 ⟨fun _ => ?_, fun e => absurd e (by decide)⟩
  have e1 : aZ p.T b D = ((fj p.T D).1, (fj p.T D).2.filter (mO b)) := by unfold aZ qH; rw [if_neg hw0, if_neg hw1, f2]; (first | done | rfl)
  have e2 : cl p.T b D = [cC p.T.id] := by unfold cl qH; rw [if_neg hw0, if_neg hw1, f2]
  refine W.au (hall h1 (by omega)) ?_
  rintro _ s2 ⟨a, n, c, qs, rfl, hq, hn, hE, hk⟩
  refine ⟨(((a, n, c), ()), (_, ()), ()), rfl, ?_⟩
  have hal : (fj p.T D).2.length ≤ 900000 := by
   have := hdl (cC p.T.id)
   unfold fj; split
   ·exact Nat.zero_le _
   ·exact Nat.le_trans (qk _ _) this
  have hql := hq.len
  refine W.au (I1 hq (fun r hr => (qD hds.2 r hr).cs.cF) (by dsimp only; omega) (hk r0 _ _ k0 (by decide) (by decide))) ?_
  rintro _ s3 ⟨m, qs', rfl, hq3, m3⟩
  refine ⟨(((a, m, c), ()), ()), rfl, ?_⟩
  rw [← hR, e1, e2]
  exact ⟨a, m, c, qs', rfl, hq3, hE.keep m3 hq.gw.fr hq.apart, (t1.trans hk).nw m3 (Nw.back t1 hn)⟩
 rw [f1]
 have hil := (List.getElem?_eq_some_iff.1 f2).1
 refine (W.aa _ _ _ _).2 ⟨fun e => ?_, fun _ => ?_⟩
 ·have e : (i : Int) < 0 := of_decide_eq_true e
  omega
 have hxs := hp.x.mono h1.md.le
 have hxl : p.x.2.1 = p.T.idxs.length := hxs.len
 dsimp only
 refine (W.ah _ _ _).2 ⟨⟨Int.natCast_nonneg i, by omega⟩, ?_⟩
 obtain ⟨ax, hax, hhx⟩ := hxs.el.aB f2
 refine bg hax ?_
 simp only [Int.toNat_natCast]
 have hhx : s1.has (ax.add (i * 5)) (jZ.f x) := hhx
 refine bz (j := 0) hhx (y := (x.id, ())) rfl ?_
 refine l1 _ k0 ?_
 refine W.bX (((cI x.id b.is).1, (cI x.id b.is).2, ()), ()) (yw x.id b.is s1) rfl ?_
 have hes : (cI x.id b.is).1.size ≤ 1120 := gU _
 refine W.au (hmany h1 (by omega) (cI x.id b.is) (by omega)) ?_
 rintro _ s2 ⟨ha, hn, hcp, rfl, hG, hE, hk⟩
 obtain ⟨H, hH⟩ : ∃ H, (if 64 < (aJ D (cI x.id b.is)).length then [] else aJ D (cI x.id b.is)) = H := ⟨_, rfl⟩
 obtain ⟨er, her⟩ : ∃ er : Int, (if 64 < (aJ D (cI x.id b.is)).length then 156 else 0) = er := ⟨_, rfl⟩
 refine ⟨(((ha, hn, hcp), ()), (er, ()), ()), by rw [her]; (first | done | rfl), ?_⟩
 rw [hH] at hG
 have e1 : aZ p.T b D = (er, (dU H).flatMap fun k => iH p.T k D) := by
  unfold aZ qH; rw [if_neg hw0, if_neg hw1, f3, ← hH, ← her]; dsimp only; split <;> rfl
 have e2 : cl p.T b D = cI x.id b.is :: (dU H).map (cA p.T.id) := by
  unfold cl qH; rw [if_neg hw0, if_neg hw1, f3, ← hH]; dsimp only; split <;> rfl
 have hHl : H.length ≤ 64 := by rw [← hH]; split; exact Nat.zero_le _; omega
 have hHk : ∀ y ∈ H, y.key.size ≤ 140737488351232 := fun y hy => by
  rw [← hH] at hy
  split at hy
  ·simp at hy
  ·exact hds.1 y (gr hy)
 have hHn := hG.row.len
 have t2 : Kt s s2 := t1.trans hk
 dsimp only
 refine ⟨fun z s' => ∃ (k : Nat) (a : Option Addr) (n c : Nat) (qs : List ic), z = ((p.T.id, p.T.name, p.c, p.x, p.k, ()), (er, ()), ((a, n, c), ()), ((ha, hn, hcp), ()), ((hn : Int), ()), ((k : Int), ()), ()) ∧ k ≤ hn ∧ n ≤ k * 900000 ∧ eY s0 s' a n c ((dU (H.take k)).flatMap fun v => iH p.T v D) qs ∧ Nw s a ∧ EJ s0 s' w S tt sh B (bJ (gD rds (cI x.id b.is)) ((dU (H.take k)).map (cA p.T.id))) ov ∧ Kt s s' ∧ aW bh s' 75 ha hn hcp H,
  fun z _ => hn - z.2.2.2.2.2.1.1.toNat, ⟨0, none, 0, 0, [], rfl, Nat.zero_le _, Nat.zero_le _, ⟨Gw.nil hE.md, rfl, by simp⟩, Nw.none s, hE, t2, hG.row⟩, ?_⟩
 rintro _ s3 ⟨k, a, n, c, qs, rfl, hkn, hna, hq, hnw, hE3, t3, hH3⟩
 dsimp only
 refine (W.aa _ _ _ _).2 ⟨fun e => ?_, fun e => ?_⟩
 rotate_left
 ·have e : ¬ (k : Int) < (hn : Int) := of_decide_eq_false e
  rw [List.take_of_length_le (by omega)] at hq hE3
  rw [← hR, e1, e2]
  exact ⟨a, n, c, qs, rfl, hq, hE3, t3⟩
 have hlt : (k : Int) < (hn : Int) := of_decide_eq_true e
 obtain ⟨y, hy⟩ : ∃ y, H[k]? = some y := ⟨_, List.getElem?_eq_getElem (by omega)⟩
 obtain ⟨g, rfl, hh⟩ := hH3.at hy
 refine (W.ah _ _ _).2 ⟨⟨Int.natCast_nonneg k, hlt⟩, ?_⟩
 simp only [dh, Int.toNat_natCast, aY, Nat.zero_add]
 have hh : s3.has ⟨g, k * 3, none⟩ (bh.f y) := hh
 refine aC hh (y := oG y) rfl ?_
 have hks := vZ hy
 have hym := List.mem_of_getElem? hy
 have hrd : (bJ (gD rds (cI x.id b.is)) ((dU (H.take k)).map (cA p.T.id))).length ≤ 4000000 := by
  have g1 := ey ((dU (H.take k)).map (cA p.T.id)) (gD rds (cI x.id b.is))
  have g2 := rO rds (cI x.id b.is)
  have g3 : (dU (H.take k)).length ≤ (H.take k).length := List.length_filterMap_le _ _
  rw [List.length_take] at g3
  rw [List.length_map] at g1
  omega
 rw [ak (k := k) (by omega)]
 cases hlv : oI y.key with
 | none =>
  have hwk := yx y.key (hHk y hym) s3
  unfold tI at hwk
  simp only [hlv] at hwk
  refine aL (bH mj, ((20 : Int), ()), ()) hwk (by unfold mj; (first | done | rfl)) ?_
  refine (W.aa _ _ _ _).2 ⟨fun e => (by cases e), fun _ => ?_⟩
  refine ⟨⟨k + 1, a, n, c, qs, rfl, by omega, Nat.le_trans hna (Nat.mul_le_mul_right _ (Nat.le_succ k)), ?_, hnw, ?_, t3, hH3⟩, by simp only [Int.toNat_natCast]; omega⟩
  ·rw [hks, hlv]; simpa using hq
  ·rw [hks, hlv]; simpa using hE3
 | some v =>
  have hwk := yx y.key (hHk y hym) s3
  unfold tI at hwk
  simp only [hlv] at hwk
  refine aL (bH v, (0, ()), ()) hwk rfl ?_
  refine (W.aa _ _ _ _).2 ⟨fun _ => ?_, fun e => (by cases e)⟩
  refine W.au (hrow hE3 hrd v) ?_
  rintro _ s4 ⟨a4, n4, c4, qs4, rfl, hq4, hnw4, hE4, hk4⟩
  refine ⟨(((a4, n4, c4), ()), ()), rfl, ?_⟩
  have hn4 := hq4.len
  have hrl4 := zF p.T v D
  have hdl4 := hdl (cA p.T.id v)
  refine (hk4.rws hq hE4.md).cat hq4 (by dsimp only; omega) fun a5 c5 s5 h5 m5 hn5 => ?_
  have hq3 := hk4.rws hq hE4.md
  have t4 := t3.trans hk4
  refine ⟨⟨k + 1, a5, n + n4, c5, qs ++ qs4, rfl, by omega, by omega, ?_, ?_, ?_, t4.nw m5 hnw, ?_⟩, by simp only [Int.toNat_natCast]; omega⟩
  ·rw [hks, hlv]
   simpa using h5
  ·rcases hn5 with rfl | hn5
   ·exact hnw
   ·exact Nw.back t4 (Nw.of hn5)
  ·rw [hks, hlv, List.map_append, cL]
   exact hE4.keep m5 hq3.gw.fr hq3.apart
  ·exact oM (hk4.row hH3 (by decide) (by decide)) m5 fun g hg => by
    obtain ⟨cur, e, q1, _, _, _, q2⟩ := hq3.apart g hg
    exact ⟨cur, e, q1, q2⟩
end
end
section
attribute [-simp] Fw.W.bD Fw.W.bB
theorem jG (k : Int) (s : PH) : ai 187 #[.int .i64 k] s fun y s' => y = .bool (cj k) ∧ s' = s := by
 refine CC k _ s ?_
 unfold uH cj
 simp only [aN, aE]
 refine (W.aa _ _ _ _).2 ⟨fun e => ⟨?_, rfl⟩, fun e => ⟨?_, rfl⟩⟩
 ·rw [e]; (first | done | rfl)
 ·rw [e]; (first | done | rfl)
abbrev Hq (a : Option Addr) (n c : Nat) : Obj := .cells #[.slice a n c] 95 (0, 0)
theorem DB {s : PH} {p q : Nat} {a b : Option Addr} {an ac bn bc : Nat} {old new : List aX} (hp : s p = some (Hq b bn bc)) (hq : s q = some (Hq a an ac)) (ho : Sl bx s (a, an, ac) old) (hn : Sl bx s (b, bn, bc) new) (k : Int) :
  ai 186 #[.int .i64 k, cp p, cp q] s fun y s' => y = .tuple #[eX (bq new k), .bool (iP old new k)] ∧ s' = s := by
 refine Cz k p q _ s ?_
 unfold uE iP
 have hol : an = old.length := ho.len
 simp only [bI, aU, bP, aN, aE]
 refine (W.aA hp _ _ _ _).2 ⟨((b, bn, bc), ()), rfl, ?_⟩
 refine aL (bH (bq new k), ()) (kR hn k) rfl ?_
 dsimp only
 refine (W.aa _ _ _ _).2 ⟨fun e => ?_, fun e => ?_⟩
 ·have e : (bq new k).kind ≠ 0 := by simpa using e
  refine (W.aA hq _ _ _ _).2 ⟨((a, an, ac), ()), rfl, ?_⟩
  dsimp only
  refine (W.aa _ _ _ _).2 ⟨fun e2 => ?_, fun e2 => ?_⟩
  ·have e2 : (an : Int) = 0 := eq_of_beq e2
   have : old = [] := List.eq_nil_of_length_eq_zero (by omega)
   exact ⟨by rw [decide_eq_true e, decide_eq_true this]; (first | done | rfl), rfl⟩
  ·have e2 : ¬ (an : Int) = 0 := by simpa using e2
   have : ¬ old = [] := fun g => by rw [g] at hol; simp at hol; omega
   refine (W.aA hq _ _ _ _).2 ⟨((a, an, ac), ()), rfl, ?_⟩
   refine W.bX (bH (bq old k), ()) (kR ho k) rfl ?_
   refine ⟨?_, rfl⟩
   dsimp only
   rw [jf, decide_eq_true e, decide_eq_false this, Bool.true_and, Bool.false_or, decide_not]
 ·have e : ¬ (bq new k).kind ≠ 0 := by simpa using e
  exact ⟨by rw [decide_eq_false e]; (first | done | rfl), rfl⟩
abbrev Jn (x : For) : Den [.int .i64, .str, .int .i64, .int .i64, .int .i64] := (x.id, x.name, x.column, x.parent, x.state, ())
abbrev vh (x : For) : Obj := .cells #[.int .i64 x.id, .string x.name, .int .i64 x.column, .int .i64 x.parent, .int .i64 x.state] 173 (0, 0)
abbrev mC (q : ay) : Den [.int .i64, .str, .slice, .slice, .slice] := (q.T.id, q.T.name, q.c, q.x, q.k, ())
theorem DC {s : PH} {p : Nat} {x : For} (hp : s p = some (vh x)) (q : ay) : ai 188 #[dR q.T q.c q.x q.k, cp p] s fun y s' => y = .bool (q.T.id == x.parent) ∧ s' = s := by
 refine CA q.T.id q.T.name q.c.1 q.c.2.1 q.c.2.2 q.x.1 q.x.2.1 q.x.2.2 q.k.1 q.k.2.1 q.k.2.2 p _ s ?_
 unfold uF
 simp only [bI, aE, aY, Nat.zero_add]
 refine (W.aA hp _ _ _ _).2 ⟨(x.parent, ()), rfl, ?_⟩
 exact ⟨rfl, rfl⟩
theorem xy {s : PH} {a : Option Addr} {n c p : Nat} {ps : List ay} {x : For} (h : Sl dQ s (a, n, c) ps) (hp : s p = some (vh x)) :
  ai 128 #[.slice a n c, .func (.func 188) #[] #[cp p]] s fun y s' => y = .int .i64 (aI (fun q : ay => q.T.id == x.parent) ps 0) ∧ s' = s := by
 refine vz a n c p _ s ?_
 unfold nZ
 exact jB mC h (fun _ => rfl) (fun q _ => DC hp q) ⟨rfl, rfl⟩
theorem GR {S : aF} {ps : List ay} (h : S.tabs = ps.map (·.T)) {i : Int} {U : aO} (e : gZ S i = some U) : ∃ j q, aI (fun q : ay => q.T.id == i) ps 0 = ((j : Nat) : Int) ∧ ps[j]? = some q ∧ q.T = U := by
 rcases mL (fun q : ay => q.T.id == i) ps with ⟨_, h2⟩ | ⟨j, q, h1, h2, h3⟩
 ·unfold gZ at e
  rw [h, List.find?_map] at e
  rw [show ((fun u : aO => u.id == i) ∘ fun q : ay => q.T) = fun q : ay => q.T.id == i from rfl, h2] at e
  cases e
 ·refine ⟨j, q, h1, h2, ?_⟩
  unfold gZ at e
  rw [h, List.find?_map] at e
  rw [show ((fun u : aO => u.id == i) ∘ fun q : ay => q.T) = fun q : ay => q.T.id == i from rfl, h3] at e
  exact Option.some.inj e
section
variable (s0 s : PH) (w : Nat) (S : aF) (tt sh : aG) (B : List Ht) (rds : List cq) (ov : List Wr)
def J8 (k : aR) (old new : List aX) (D : List Ht) (l : List eu) (i : Nat) (s' : PH) : Prop := ∃ A, A.length ≤ i ∧ EJ s0 s' w S tt sh B (bJ rds A) ov ∧ Kt s s' ∧ (iD k old new D l).1 = (iD k old new D (l.drop i)).1 ∧ (iD k old new D l).2 = A ++ (iD k old new D (l.drop i)).2
def J5 (T : aO) (k : aR) (old new : List aX) (D : List Ht) (l : List For) (i : Nat) (s' : PH) : Prop := ∃ A, A.length ≤ i ∧ EJ s0 s' w S tt sh B (bJ rds A) ov ∧ Kt s s' ∧ (gO S T k old new D l).1 = (gO S T k old new D (l.drop i)).1 ∧ (gO S T k old new D l).2 = A ++ (gO S T k old new D (l.drop i)).2
end
theorem xC {l : List Ht} {k : Nat} {h : Ht} {v : aR} (hk : l[k]? = some h) : (dU (l.take (k + 1))).any (fun o => decide (o ≠ v)) = ((dU (l.take k)).any (fun o => decide (o ≠ v)) || ((oI h.key).toList).any (fun o => decide (o ≠ v))) := by
 rw [vZ hk, List.any_append]
section
variable {s0 s : PH} {w : Nat} {S : aF} {tt sh : aG} {B : List Ht} {rds : List cq} {ov : List Wr}
theorem yA {ps : List ay} (hB : iC s0 sh B) (h : EJ s0 s w S tt sh B rds ov) (hS : cX s0 tt S ps) {p : ay} (hp : eZ s0 p) (hrl : rds.length + (p.T.idxs.length + p.T.keys.length) ≤ 4000000)
  (hpar : ∀ x ∈ p.T.keys, ∃ U, gZ S x.parent = some U ∧ U.cols ≠ []) (k : aR) {a b : Option Addr} {an ac bn bc : Nat} {old new : List aX} (ho : aW bx s 94 a an ac old) (hol : old.length ≤ 4000000) (hn : aW bx s 94 b bn bc new) (hnl : new.length ≤ 4000000) :
  ai 122 #[cp w, dR p.T p.c p.x p.k, eX k, .slice a an ac, .slice b bn bc] s fun y s' => y = .int .i64 (eC S p.T k old new (aj 0 B ov)).1 ∧ EJ s0 s' w S tt sh B (bJ rds (eC S p.T k old new (aj 0 B ov)).2) ov ∧ Kt s s' := by
 refine Et w p.T.id p.T.name p.c.1 p.c.2.1 p.c.2.2 p.x.1 p.x.2.1 p.x.2.2 p.k.1 p.k.2.1 p.k.2.2 k.kind k.n k.s a an ac b bn bc _ s ?_
 unfold xg
 obtain ⟨D, hD⟩ : ∃ D, aj 0 B ov = D := ⟨_, rfl⟩
 obtain ⟨R, hR⟩ : ∃ R : Value → PH → Prop, (fun y s' => y = .int .i64 (eC S p.T k old new (aj 0 B ov)).1 ∧ EJ s0 s' w S tt sh B (bJ rds (eC S p.T k old new (aj 0 B ov)).2) ov ∧ Kt s s') = R := ⟨_, rfl⟩
 rw [hR]
 rw [hD] at hR
 have hds := gP hB h.cV h.sm
 have hdl := fun q => tC hB h.ol q
 have hrow := fun {s : PH} {rds : List cq} {p : ay} (hp : eZ s0 p) (hc : p.T.cols ≠ []) (h : EJ s0 s w S tt sh B rds ov) (hrl : rds.length ≤ 4000000) => yB (p := p) hB h hrl hp hc
 have hhit := fun {s : PH} {rds : List cq} (h : EJ s0 s w S tt sh B rds ov) (hrl : rds.length ≤ 4000000) => uV hB h hrl
 rw [hD] at hds
 simp only [hD] at hdl hrow hhit
 have hxl : p.x.2.1 = p.T.idxs.length := hp.x.len
 have hkl : p.k.2.1 = p.T.keys.length := hp.k.len
 have hal := ho.len
 have hbl := hn.len
 simp only [bU, bI, gN, aN, aU, lX, aE, aP, aQ, aS, cE, dh, aY, Nat.zero_add]
 refine W.bG fun r0 s1 hr0 m1 k0 => ?_
 refine W.bG fun r1 s2 hr1 m2 k1 => ?_
 have m02 : Fw.Mod [] s s2 := m1.trans m2
 have h2 := h.same m02
 have kk0 : s2 r0 = some (Hq a an ac) := m2.at k0 (by simp)
 have kk1 : s2 r1 = some (Hq b bn bc) := k1
 -- the closure
 have hfr : ∀ {s3 : PH}, Kt s2 s3 → ∀ c : Int, ai 186 #[.int .i64 c, cp r1, cp r0] s3 fun y s' => y = .tuple #[eX (bq new c), .bool (iP old new c)] ∧ s' = s3 := fun {s3} hk c => by
  refine DB (hk r1 _ _ kk1 (by decide) (by decide)) (hk r0 _ _ kk0 (by decide) (by decide)) (Sl.bE (t := (a, an, ac)) (hk.row (ho.mod m02 (by simp)) (by decide) (by decide)) (by omega)) (Sl.bE (t := (b, bn, bc)) (hk.row (hn.mod m02 (by simp)) (by decide) (by decide)) (by omega)) c
 refine ⟨fun z s' => ∃ i : Nat, z = ((p.T.id, p.T.name, p.c, p.x, p.k, ()), (k.kind, k.n, k.s, ()), ((Value.func (.func 186) #[] #[cp r1, cp r0]), ()), (p.x, ()), ((p.x.2.1 : Int), ()), ((i : Int), ()), ()) ∧ i ≤ p.x.2.1 ∧ J8 s0 s2 w S tt sh B rds ov k old new D p.T.idxs i s',
  fun z _ => p.x.2.1 - z.2.2.2.2.2.1.1.toNat, ⟨0, rfl, Nat.zero_le _, [], Nat.le_refl _, h2, Kt.refl _, by rw [List.drop_zero], by rw [List.drop_zero]; (first | done | rfl)⟩, ?_⟩
 rintro _ s3 ⟨i, rfl, hi, A, hA, hE3, t3, c1, c2⟩
 dsimp only
 refine (W.aa _ _ _ _).2 ⟨fun e => ?_, fun e => ?_⟩
 ·have hlt : (i : Int) < (p.x.2.1 : Int) := of_decide_eq_true e
  obtain ⟨x, hx⟩ : ∃ x, p.T.idxs[i]? = some x := ⟨_, List.getElem?_eq_getElem (by omega)⟩
  obtain ⟨ad, had, hh⟩ := (hp.x.mono hE3.md.le).el.aB hx
  refine (W.ah _ _ _).2 ⟨⟨Int.natCast_nonneg i, hlt⟩, ?_⟩
  refine bg had ?_
  simp only [Int.toNat_natCast]
  have hh : s3.has (ad.add (i * 5)) (jZ.f x) := hh
  refine aC hh (y := qc x) rfl ?_
  rw [bO hx] at c1 c2
  refine cQ Tryz.func186 (by kernel_rfl) (by kernel_rfl) (hfr t3 x.column) ?_
  rintro _ s3 ⟨rfl, rfl⟩
  refine ⟨(bH (bq new x.column), (iP old new x.column, ()), ()), rfl, ?_⟩
  dsimp only
  rw [ak (k := i) (by omega)]
  cases hcond : (iP old new x.column && x.unique && cj x.state) with
  | false =>
   rw [iD, if_neg (by rw [hcond]; simp)] at c1 c2
   have hskip : J8 s0 s2 w S tt sh B rds ov k old new D p.T.idxs (i + 1) s3 := ⟨A, by omega, hE3, t3, c1, c2⟩
   refine W.bl (fun z s' => False) (fun _ _ hf => hf.elim) ?_
   intro J hJ
   refine (W.aa _ _ _ _).2 ⟨fun e1 => ⟨⟨i + 1, rfl, by omega, hskip⟩, by simp only [Int.toNat_natCast]; omega⟩, fun e1 => ?_⟩
   have e1 : iP old new x.column = true := by simpa using e1
   refine (W.aa _ _ _ _).2 ⟨fun e2 => ⟨⟨i + 1, rfl, by omega, hskip⟩, by simp only [Int.toNat_natCast]; omega⟩, fun e2 => ?_⟩
   have e2 : x.unique = true := by simpa using e2
   refine aL ((cj x.state, ()), ()) (jG x.state s3) rfl ?_
   refine (W.aa _ _ _ _).2 ⟨fun e3 => ⟨⟨i + 1, rfl, by omega, hskip⟩, by simp only [Int.toNat_natCast]; omega⟩, fun e3 => ?_⟩
   have e3 : cj x.state = true := by simpa using e3
   rw [e1, e2, e3] at hcond; cases hcond
  | true =>
   rw [iD, if_pos hcond] at c1 c2
   simp only [Bool.and_eq_true] at hcond
   obtain ⟨⟨e1, e2⟩, e3⟩ := hcond
   refine W.bl (fun z s' => z = ((p.T.id, p.T.name, p.c, p.x, p.k, ()), (k.kind, k.n, k.s, ()), ((Value.func (.func 186) #[] #[cp r1, cp r0]), ()), qc x, bH (bq new x.column), (p.x, ()), ((p.x.2.1 : Int), ()), ((i : Int), ()), ()) ∧ s3 = s') ?_ ?_
   ·rintro _ _ ⟨rfl, rfl⟩
    dsimp only
    refine aL (((cI x.id (bq new x.column)).1, (cI x.id (bq new x.column)).2, ()), ()) (yw x.id (bq new x.column) s3) rfl ?_
    obtain ⟨sp, hsp⟩ : ∃ sp, cI x.id (bq new x.column) = sp := ⟨_, rfl⟩
    have hspl : sp.1.size ≤ 1120 := by rw [← hsp]; exact gU _
    rw [hsp] at c1 c2 ⊢
    have hAl := ey A rds
    refine W.au (hhit hE3 (by omega) sp (by omega)) ?_
    rintro _ s4 ⟨ha, hn4, hcp, rfl, hG, hE4, hk4⟩
    refine ⟨(((ha, hn4, hcp), ()), ()), rfl, ?_⟩
    have hE4 : EJ s0 s4 w S tt sh B (bJ rds (A ++ [sp])) ov := by rw [cL]; exact hE4
    have t4 := t3.trans hk4
    have hHn := hG.row.len
    have hdl4 := hdl sp
    dsimp only
    refine ⟨fun z s' => ∃ j : Nat, z = ((p.T.id, p.T.name, p.c, p.x, p.k, ()), (k.kind, k.n, k.s, ()), ((Value.func (.func 186) #[] #[cp r1, cp r0]), ()), (p.x, ()), ((p.x.2.1 : Int), ()), ((i : Int), ()), ((ha, hn4, hcp), ()), ((hn4 : Int), ()), ((j : Int), ()), ()) ∧ j ≤ hn4 ∧ s4 = s' ∧ (dU ((aJ D sp).take j)).any (fun o => decide (o ≠ k)) = false,
     fun z _ => hn4 - z.2.2.2.2.2.2.2.2.1.1.toNat, ⟨0, rfl, Nat.zero_le _, rfl, rfl⟩, ?_⟩
    rintro _ _ ⟨j, rfl, hj, rfl, hany⟩
    dsimp only
    refine (W.aa _ _ _ _).2 ⟨fun e => ?_, fun e => ?_⟩
    ·have hlj : (j : Int) < (hn4 : Int) := of_decide_eq_true e
     obtain ⟨y, hy⟩ : ∃ y, (aJ D sp)[j]? = some y := ⟨_, List.getElem?_eq_getElem (by omega)⟩
     obtain ⟨g, rfl, hh4⟩ := hG.row.at hy
     refine (W.ah _ _ _).2 ⟨⟨Int.natCast_nonneg j, hlj⟩, ?_⟩
     simp only [dh, Int.toNat_natCast, aY, Nat.zero_add]
     have hh4 : s4.has ⟨g, j * 3, none⟩ (bh.f y) := hh4
     refine aC hh4 (y := oG y) rfl ?_
     have hks := xC (v := k) hy
     have hwk := yx y.key (hds.1 y (gr (List.mem_of_getElem? hy))) s4
     unfold tI at hwk
     rw [ak (k := j) (by omega)]
     cases hlv : oI y.key with
     | none =>
      simp only [hlv] at hwk hks
      refine aL (bH mj, ((20 : Int), ()), ()) hwk rfl ?_
      refine (W.aa _ _ _ _).2 ⟨fun e => (by cases e), fun _ => ?_⟩
      exact ⟨⟨j + 1, rfl, by omega, rfl, by rw [hks, hany]; (first | done | rfl)⟩, by simp only [Int.toNat_natCast]; omega⟩
     | some v =>
      simp only [hlv] at hwk hks
      refine aL (bH v, ((0 : Int), ()), ()) hwk rfl ?_
      refine (W.aa _ _ _ _).2 ⟨fun _ => ?_, fun e => (by cases e)⟩
      dsimp only
      refine (W.aa _ _ _ _).2 ⟨fun e5 => ?_, fun e5 => ?_⟩
      ·rw [jf] at e5
       have e5 : v ≠ k := by simpa using e5
       have hbad : (dU (aJ D sp)).any (fun o => decide (o ≠ k)) = true := by
        rw [List.any_eq_true]
        refine ⟨v, ?_, decide_eq_true e5⟩
        unfold dU
        exact List.mem_filterMap.2 ⟨y, List.mem_of_getElem? hy, hlv⟩
       rw [if_pos hbad] at c1 c2
       dsimp only at c1 c2
       have e6 : eC S p.T k old new D = iD k old new D p.T.idxs := by unfold eC; rw [if_pos (by rw [c1]; decide)]
       rw [← hR, e6, c1, c2]
       exact ⟨rfl, hE4, (Kt.of m02).trans t4⟩
      ·rw [jf] at e5
       have e5 : v = k := by simpa using e5
       refine ⟨⟨j + 1, rfl, by omega, rfl, ?_⟩, by simp only [Int.toNat_natCast]; omega⟩
       rw [hks, hany, e5]; simp
    ·have e : ¬ (j : Int) < (hn4 : Int) := of_decide_eq_false e
     rw [List.take_of_length_le (by omega)] at hany
     rw [if_neg (by rw [hany]; simp)] at c1 c2
     rw [ak (k := i) (by omega)]
     refine ⟨⟨i + 1, rfl, by omega, A ++ [sp], by rw [List.length_append]; simp; omega, hE4, t4, c1, ?_⟩, by simp only [Int.toNat_natCast]; omega⟩
     rw [c2]; simp
   ·intro J hJ
    refine (W.aa _ _ _ _).2 ⟨fun g => (by rw [e1] at g; cases g), fun _ => ?_⟩
    refine (W.aa _ _ _ _).2 ⟨fun g => (by rw [e2] at g; cases g), fun _ => ?_⟩
    refine aL ((cj x.state, ()), ()) (jG x.state s3) rfl ?_
    refine (W.aa _ _ _ _).2 ⟨fun g => (by dsimp only at g; rw [e3] at g; cases g), fun _ => ?_⟩
    exact hJ _ _ ⟨rfl, rfl⟩
 -- the keys
 have e : ¬ (i : Int) < (p.x.2.1 : Int) := of_decide_eq_false e
 rw [List.drop_of_length_le (by omega)] at c1 c2
 have c1 : (iD k old new D p.T.idxs).1 = 0 := c1
 have c2 : (iD k old new D p.T.idxs).2 = A := by rw [c2]; exact List.append_nil _
 have e6 : eC S p.T k old new D = ((gO S p.T k old new D p.T.keys).1, A ++ (gO S p.T k old new D p.T.keys).2) := by unfold eC; rw [if_neg (by rw [c1]; decide), c2]
 have hAl := ey A rds
 refine ⟨fun z s' => ∃ i : Nat, z = ((p.T.id, p.T.name, p.c, p.x, p.k, ()), (k.kind, k.n, k.s, ()), ((Value.func (.func 186) #[] #[cp r1, cp r0]), ()), (p.k, ()), ((p.k.2.1 : Int), ()), ((i : Int), ()), ()) ∧ i ≤ p.k.2.1 ∧ J5 s0 s2 w S tt sh B (bJ rds A) ov p.T k old new D p.T.keys i s',
  fun z _ => p.k.2.1 - z.2.2.2.2.2.1.1.toNat, ⟨0, rfl, Nat.zero_le _, [], Nat.le_refl _, hE3, t3, by rw [List.drop_zero], by rw [List.drop_zero]; (first | done | rfl)⟩, ?_⟩
 rintro _ s4 ⟨i, rfl, hi2, A2, hA2, hE4, t4, d1, d2⟩
 dsimp only
 refine (W.aa _ _ _ _).2 ⟨fun e => ?_, fun e => ?_⟩
 rotate_left
 ·have e : ¬ (i : Int) < (p.k.2.1 : Int) := of_decide_eq_false e
  rw [List.drop_of_length_le (by omega)] at d1 d2
  have d1 : (gO S p.T k old new D p.T.keys).1 = 0 := d1
  have d2 : (gO S p.T k old new D p.T.keys).2 = A2 := by rw [d2]; exact List.append_nil _
  rw [← hR, e6, d1, d2]
  exact ⟨rfl, by rw [cL]; exact hE4, (Kt.of m02).trans t4⟩
 have hlt : (i : Int) < (p.k.2.1 : Int) := of_decide_eq_true e
 obtain ⟨x, hx⟩ : ∃ x, p.T.keys[i]? = some x := ⟨_, List.getElem?_eq_getElem (by omega)⟩
 have hxm := List.mem_of_getElem? hx
 obtain ⟨ad, had, hh⟩ := (hp.k.mono hE4.md.le).el.aB hx
 refine (W.ah _ _ _).2 ⟨⟨Int.natCast_nonneg i, hlt⟩, ?_⟩
 refine bg had ?_
 simp only [Int.toNat_natCast]
 have hh : s4.has (ad.add (i * 5)) (lF.f x) := hh
 refine aC hh (y := Jn x) rfl ?_
 rw [bO hx] at d1 d2
 refine W.bG fun r2 s5 hr2 m5 k5 => ?_
 refine kg (c' := #[.int .i64 x.id, .string x.name, .int .i64 x.column, .int .i64 x.parent, .int .i64 x.state]) k5 (by show 0 + 5 ≤ 5; omega) (by simp [Value.oneCell']) rfl ?_
 intro s6 hs6
 have k6 : s6 r2 = some (vh x) := by rw [hs6, PH.bA]
 have m6 : Fw.Mod [] s4 s6 := by rw [hs6]; exact m5.bQ (.inr hr2)
 have hE6 := hE4.same m6
 have t6 : Kt s2 s6 := t4.trans (Kt.of m6)
 refine (W.aA k6 _ _ _ _).2 ⟨(x.column, ()), rfl, ?_⟩
 refine cQ Tryz.func186 (by kernel_rfl) (by kernel_rfl) (hfr t6 x.column) ?_
 rintro _ s6 ⟨rfl, rfl⟩
 refine ⟨(bH (bq new x.column), (iP old new x.column, ()), ()), rfl, ?_⟩
 dsimp only
 rw [ak (k := i) (by omega)]
 have hval : (((bq new x.column).kind == k.kind) && (((bq new x.column).n == k.n) && (((bq new x.column).s == k.s) && true))) = decide (bq new x.column = k) := jf _ _
 cases hcond : (iP old new x.column && cj x.state && !(x.parent == p.T.id && decide (bq new x.column = k))) with
 | false =>
  rw [gO, if_neg (by rw [hcond]; simp)] at d1 d2
  have hskip : J5 s0 s2 w S tt sh B (bJ rds A) ov p.T k old new D p.T.keys (i + 1) s6 := ⟨A2, by omega, hE6, t6, d1, d2⟩
  refine W.bl (fun z s' => False) (fun _ _ hf => hf.elim) ?_
  intro J hJ
  refine (W.aa _ _ _ _).2 ⟨fun e1 => ⟨⟨i + 1, rfl, by omega, hskip⟩, by simp only [Int.toNat_natCast]; omega⟩, fun e1 => ?_⟩
  have e1 : iP old new x.column = true := by simpa using e1
  refine (W.aA k6 _ _ _ _).2 ⟨(x.state, ()), rfl, ?_⟩
  refine aL ((cj x.state, ()), ()) (jG x.state s6) rfl ?_
  refine (W.aa _ _ _ _).2 ⟨fun e3 => ⟨⟨i + 1, rfl, by omega, hskip⟩, by simp only [Int.toNat_natCast]; omega⟩, fun e3 => ?_⟩
  have e3 : cj x.state = true := by simpa using e3
  rw [e1, e3] at hcond
  have hcond : (x.parent == p.T.id && decide (bq new x.column = k)) = true := by simpa using hcond
  simp only [Bool.and_eq_true] at hcond
  refine (W.aA k6 _ _ _ _).2 ⟨(x.parent, ()), rfl, ?_⟩
  refine (W.aa _ _ _ _).2 ⟨fun _ => ?_, fun g => (by dsimp only at g; rw [hcond.1] at g; cases g)⟩
  refine (W.aa _ _ _ _).2 ⟨fun _ => ⟨⟨i + 1, rfl, by omega, hskip⟩, by simp only [Int.toNat_natCast]; omega⟩, fun g => ?_⟩
  rw [hval, hcond.2] at g; cases g
 | true =>
  rw [gO, if_pos hcond] at d1 d2
  simp only [Bool.and_eq_true, Bool.not_eq_true'] at hcond
  obtain ⟨⟨e1, e3⟩, e4⟩ := hcond
  refine W.bl (fun z s' => z = ((p.T.id, p.T.name, p.c, p.x, p.k, ()), (k.kind, k.n, k.s, ()), ((Value.func (.func 186) #[] #[cp r1, cp r0]), ()), (⟨r2, 0, none⟩, ()), bH (bq new x.column), (p.k, ()), ((p.k.2.1 : Int), ()), ((i : Int), ()), ()) ∧ s6 = s') ?_ ?_
  ·rintro _ _ ⟨rfl, rfl⟩
   dsimp only
   obtain ⟨U, hU, hUc⟩ := hpar x hxm
   rw [hU] at d1 d2
   dsimp only at d1 d2
   obtain ⟨r, mb, mo, qs, bs, f, hx6⟩ := hE6.ei
   have hld : ∀ (K : Den [CT.slice] → W.T), K (tt, ()) s6 → W.ld [.slice] ⟨w, 2, none⟩ K s6 := fun K hK => (W.aA hx6.aH _ _ _ _).2 ⟨(tt, ()), rfl, hK⟩
   have hS6 := hS.mono hE6.md.le
   obtain ⟨j, q, g1, g2, g3⟩ := GR hS.eq hU
   refine hld _ ?_
   refine aL ((aI (fun q : ay => q.T.id == x.parent) ps 0, ()), ()) (xy (a := tt.1) (n := tt.2.1) (c := tt.2.2) hS6.el k6) rfl ?_
   refine hld _ ?_
   rw [g1]
   have hjl := (List.getElem?_eq_some_iff.1 g2).1
   have hpl := hS6.el.len
   dsimp only
   refine (W.ah _ _ _).2 ⟨⟨Int.natCast_nonneg j, by show (j : Int) < ((tt.2.1 : Nat) : Int); rw [hpl]; exact Int.ofNat_lt.2 hjl⟩, ?_⟩
   obtain ⟨at_, hat, hht⟩ := hS6.el.el.aB g2
   refine bg hat ?_
   simp only [Int.toNat_natCast]
   have hht : s6.has (at_.add (j * 5)) (dQ.f q) := hht
   refine aC hht (y := mC q) rfl ?_
   have hAl2 := ey A2 (bJ rds A)
   subst g3
   refine W.au (hrow (hS.all q (List.mem_of_getElem? g2)) hUc hE6 (by omega) (bq new x.column)) ?_
   rintro _ s7 ⟨a7, n7, c7, qs7, rfl, hq7, _, hE7, hk7⟩
   refine ⟨(((a7, n7, c7), ()), ()), rfl, ?_⟩
   have hn7 := hq7.len
   have t7 := t6.trans hk7
   have hE7 : EJ s0 s7 w S tt sh B (bJ (bJ rds A) (A2 ++ [cA q.T.id (bq new x.column)])) ov := by rw [cL (bJ rds A)]; exact hE7
   dsimp only
   refine (W.aa _ _ _ _).2 ⟨fun e => ?_, fun e => ?_⟩
   ·have e : (n7 : Int) = 0 := eq_of_beq e
    have hnil : iH q.T (bq new x.column) D = [] := List.eq_nil_of_length_eq_zero (by omega)
    rw [if_pos hnil] at d1 d2
    dsimp only at d1 d2
    rw [← hR, e6, d1, d2]
    exact ⟨rfl, by rw [cL]; exact hE7, (Kt.of m02).trans t7⟩
   ·have e : ¬ (n7 : Int) = 0 := by simpa using e
    have hnil : ¬ iH q.T (bq new x.column) D = [] := fun g => by rw [g] at hn7; simp at hn7; omega
    rw [if_neg hnil] at d1 d2
    rw [ak (k := i) (by omega)]
    refine ⟨⟨i + 1, rfl, by omega, A2 ++ [cA q.T.id (bq new x.column)], by rw [List.length_append]; simp; omega, hE7, t7, d1, ?_⟩, by simp only [Int.toNat_natCast]; omega⟩
    rw [d2]; simp
  ·intro J hJ
   refine (W.aa _ _ _ _).2 ⟨fun g => (by rw [e1] at g; cases g), fun _ => ?_⟩
   refine (W.aA k6 _ _ _ _).2 ⟨(x.state, ()), rfl, ?_⟩
   refine aL ((cj x.state, ()), ()) (jG x.state s6) rfl ?_
   refine (W.aa _ _ _ _).2 ⟨fun g => (by dsimp only at g; rw [e3] at g; cases g), fun _ => ?_⟩
   refine (W.aA k6 _ _ _ _).2 ⟨(x.parent, ()), rfl, ?_⟩
   refine (W.aa _ _ _ _).2 ⟨fun g => ?_, fun _ => hJ _ _ ⟨rfl, rfl⟩⟩
   refine (W.aa _ _ _ _).2 ⟨fun g2 => ?_, fun _ => hJ _ _ ⟨rfl, rfl⟩⟩
   dsimp only at g g2
   rw [hval] at g2
   rw [g, g2] at e4; cases e4
end
end
section
attribute [-simp] Fw.W.bD Fw.W.bB
def mZ : cG Wr where
 sz := 3
 f x := [.string x.key, .string x.val, .bool x.dead]
 len _ := rfl
 one q v hv := by simp at hv; rcases hv with rfl | rfl | rfl <;> rfl
 pos := by omega
abbrev KM (x : Wr) : Den [.str, .str, .bool] := (x.key, x.val, x.dead, ())
abbrev Kf (a : Option Addr) (n c : Nat) : Obj := .cells #[.slice a n c] 26 (0, 0)
def Lw (s s' : PH) (r : Nat) (l : List Wr) : Prop := ∃ a n c, Gw mZ 79 s s' a n c l ∧ s' r = some (Kf a n c)
theorem A5 {s0 s : PH} {r : Nat} {l : List Wr} (h : Lw s0 s r l) (r0 : s0 r = none) (hl : l.length ≤ 4000000) (x : Wr) :
  ai 237 #[.string x.key, .string x.val, .bool x.dead, cp r] s fun y s' => y = .tuple #[] ∧ Lw s0 s' r (l ++ [x]) := by
 obtain ⟨a, n, c, hG, hr⟩ := h
 refine Gn x.key x.val x.dead r _ s ?_
 unfold Am
 have hn := hG.row.len
 simp only [bI, bU, cZ, gN, aE]
 refine (W.aA hr _ _ _ _).2 ⟨((a, n, c), ()), rfl, ?_⟩
 refine hG.mS [x] (k := 1) rfl rfl rfl (by omega) (by omega) fun a' c' s1 h1 m1 => ?_
 have k1 : s1 r = some (Kf a n c) := m1.at hr (hG.off hr (by decide))
 refine kg (c' := #[.slice a' (n + 1) c']) k1 (by show 0 + 1 ≤ 1; omega) (by simp [Value.oneCell']) rfl ?_
 intro s2 hs2
 refine ⟨rfl, a', n + 1, c', ?_, by rw [hs2, PH.bA]⟩
 rw [hs2]
 exact h1.aM k1 (by decide) r0
theorem GZ (a b : Nat) (h : a + b ≤ 4611686018427387904) : i64.wrap ((a : Int) + (b : Int)) = ((a + b : Nat) : Int) := by rw [bW (by omega) (by omega)]; omega
theorem FI (k : aR) (old new : List aX) (x : eu) : (kI k old new x).length ≤ 2 := by
 unfold kI
 rw [List.length_append]
 have : ∀ (c : Prop) [Decidable c] (l : List Wr), l.length = 1 → (if c then l else []).length ≤ 1 := fun c _ l h => by split <;> simp [h]
 have h1 := this (old ≠ [] ∧ (new = [] ∨ bq old x.column ≠ bq new x.column)) [⟨jj x.id (bq old x.column) k, ⟨#[]⟩, true⟩] rfl
 have h2 := this (new ≠ [] ∧ cj x.state = true) [⟨jj x.id (bq new x.column) k, ⟨#[]⟩, false⟩] rfl
 omega
theorem r9 (k : aR) (old new : List aX) : ∀ (l : List eu), (l.flatMap (kI k old new)).length ≤ 2 * l.length
 | [] => by simp
 | x :: l => by
  have h1 := r9 k old new l
  have h2 := FI k old new x
  rw [List.flatMap_cons, List.length_append, List.length_cons]; omega
theorem kH (T : aO) (old new : List aX) : (ec T old new).length ≤ 1 + 2 * T.idxs.length := by
 unfold ec
 split
 ·simp
 ·rw [List.length_cons]
  have := r9 (bq (if old = [] then new else old) (eJ T)) old new T.idxs
  omega
theorem yS {α β : Type} {l : List α} {k : Nat} {x : α} (f : α → List β) (h : l[k]? = some x) : (l.take (k + 1)).flatMap f = (l.take k).flatMap f ++ f x := by
 rw [List.take_add_one, h, List.flatMap_append]; simp
theorem BX {s : PH} {p : ay} (hp : eZ s p) (hx : p.T.idxs.length ≤ 1000000) {a b : Option Addr} {an ac bn bc : Nat} {old new : List aX} (ho : Sl bx s (a, an, ac) old) (hn : Sl bx s (b, bn, bc) new) :
  ai 189 #[dR p.T p.c p.x p.k, .slice a an ac, .slice b bn bc] s fun y s' => ∃ a' n' c', y = .slice a' n' c' ∧ Gw mZ 79 s s' a' n' c' (ec p.T old new) := by
 refine AO p.T.id p.T.name p.c.1 p.c.2.1 p.c.2.2 p.x.1 p.x.2.1 p.x.2.2 p.k.1 p.k.2.1 p.k.2.2 a an ac b bn bc _ s ?_
 unfold rH
 obtain ⟨R, hR⟩ : ∃ R : Value → PH → Prop, (fun y s' => ∃ a' n' c', y = .slice a' n' c' ∧ Gw mZ 79 s s' a' n' c' (ec p.T old new)) = R := ⟨_, rfl⟩
 rw [hR]
 have hal : an = old.length := ho.len
 have hbl : bn = new.length := hn.len
 have haf := ho.cF
 have hbf := hn.cF
 have hcl : p.c.2.1 = p.T.cols.length := hp.c.len
 have hxl : p.x.2.1 = p.T.idxs.length := hp.x.len
 have hend : p.T.cols = [] ∨ (old = [] ∧ new = []) ∨ (cR new).2 ≠ 0 → R (.slice none 0 0) s := fun h => by
  rw [← hR]; refine ⟨none, 0, 0, rfl, ?_⟩
  unfold ec; rw [if_pos h]; exact Gw.nil (Mod.refl _ _)
 have nil_of : ∀ {l : List aX} {k : Nat}, k = l.length → ((k : Int) = 0 ↔ l = []) := fun {l k} h => by
  constructor
  ·intro e; exact List.eq_nil_of_length_eq_zero (by omega)
  ·intro e; rw [e] at h; simp at h; omega
 simp only [cE, aN, aE, aU, bP, lX, aP, aQ, bI, bU, aS, uQ, dh, aY, Nat.zero_add]
 refine W.bl (fun z s' => z = ((p.T.id, p.T.name, p.c, p.x, p.k, ()), ()) ∧ s = s' ∧ p.T.cols ≠ [] ∧ ¬ (old = [] ∧ new = [])) ?_ ?_
 rotate_left
 ·intro J hJ
  refine (W.aa _ _ _ _).2 ⟨fun e => ?_, fun e => ?_⟩
  ·have e : (p.c.2.1 : Int) = 0 := eq_of_beq e
   exact hend (.inl (List.eq_nil_of_length_eq_zero (by omega)))
  ·have e : ¬ (p.c.2.1 : Int) = 0 := by simpa using e
   rw [GZ an bn (by omega)]
   refine (W.aa _ _ _ _).2 ⟨fun e2 => ?_, fun e2 => ?_⟩
   ·have e2 : ((an + bn : Nat) : Int) = 0 := eq_of_beq e2
    exact hend (.inr (.inl ⟨List.eq_nil_of_length_eq_zero (by omega), List.eq_nil_of_length_eq_zero (by omega)⟩))
   ·have e2 : ¬ ((an + bn : Nat) : Int) = 0 := by simpa using e2
    refine hJ _ _ ⟨rfl, rfl, fun g => ?_, fun g => ?_⟩
    ·rw [g] at hcl; simp at hcl; omega
    ·rw [g.1] at hal; rw [g.2] at hbl; simp at hal hbl; omega
 rintro _ _ ⟨rfl, rfl, hc, hne⟩
 dsimp only
 refine aL (((cR new).1, ()), ((cR new).2, ()), ()) (Dy hn) rfl ?_
 dsimp only
 refine (W.aa _ _ _ _).2 ⟨fun e => hend (.inr (.inr (by simpa using e))), fun e => ?_⟩
 have hput : (cR new).2 = 0 := by simpa using e
 obtain ⟨c0, hc0⟩ : ∃ c0, p.T.cols[0]? = some c0 := by
  cases hT : p.T.cols with
  | nil => exact absurd hT hc
  | cons x r => exact ⟨x, rfl⟩
 have hcol0 : eJ p.T = c0.id := by unfold eJ; rw [hc0]; (first | done | rfl)
 have hcpos : 0 < p.c.2.1 := by rw [hcl]; exact List.length_pos_iff.2 hc
 obtain ⟨ad, had, hh⟩ := hp.c.el.aB hc0
 have hhc : s.has (ad.add 0) (dx.f c0) := by simpa using hh
 refine (W.ah _ _ _).2 ⟨⟨Int.le_refl 0, Int.natCast_pos.2 hcpos⟩, ?_⟩
 refine bg had ?_
 refine bz (j := 0) hhc (y := (c0.id, ())) rfl ?_
 refine aL (bH (bq new c0.id), ()) (kR hn c0.id) rfl ?_
 obtain ⟨k, hk⟩ : ∃ k, bq (if old = [] then new else old) (eJ p.T) = k := ⟨_, rfl⟩
 have hchg : ec p.T old new = ⟨iG p.T.id k, (cR new).1, decide (new = [])⟩ :: p.T.idxs.flatMap (kI k old new) := by
  unfold ec
  rw [if_neg (by rintro (g | g | g); exact hc g; exact hne g; exact g hput), hk]
 dsimp only
 refine W.bl (fun z s' => z = ((p.T.id, p.T.name, p.c, p.x, p.k, ()), ((cR new).1, ()), bH k, ()) ∧ s = s') ?_ ?_
 rotate_left
 ·intro J hJ
  refine (W.aa _ _ _ _).2 ⟨fun e => ?_, fun e => ?_⟩
  ·have e : (an : Int) > 0 := of_decide_eq_true e
   have : ¬ old = [] := fun g => by rw [g] at hal; simp at hal; omega
   rw [if_neg this, hcol0] at hk
   refine (W.ah _ _ _).2 ⟨⟨Int.le_refl 0, Int.natCast_pos.2 hcpos⟩, ?_⟩
   refine bg had ?_
   refine bz (j := 0) hhc (y := (c0.id, ())) rfl ?_
   refine aL (bH (bq old c0.id), ()) (kR ho c0.id) rfl ?_
   refine hJ _ _ ⟨?_, rfl⟩
   rw [hk]
  ·have e : ¬ (an : Int) > 0 := of_decide_eq_false e
   have : old = [] := List.eq_nil_of_length_eq_zero (by omega)
   rw [if_pos this, hcol0] at hk
   refine hJ _ _ ⟨?_, rfl⟩
   rw [hk]
 rintro _ _ ⟨rfl, rfl⟩
 dsimp only
 refine W.bG fun r s1 hr m1 k1 => ?_
 refine aL ((iG p.T.id k, ()), ()) (Dz p.T.id k s1) rfl ?_
 have hL1 : Lw s s1 r [] := ⟨none, 0, 0, Gw.nil m1, k1⟩
 have hbe : ((bn : Int) == 0) = decide (new = []) := by
  rw [Bool.eq_iff_iff, beq_iff_eq, decide_eq_true_eq]; exact nil_of hbl
 rw [hbe]
 refine W.au (A5 hL1 hr (by simp) ⟨iG p.T.id k, (cR new).1, decide (new = [])⟩) ?_
 rintro _ s2 ⟨rfl, hL2⟩
 refine ⟨(), rfl, ?_⟩
 obtain ⟨e0, he0⟩ : ∃ e0 : Wr, (⟨iG p.T.id k, (cR new).1, decide (new = [])⟩ : Wr) = e0 := ⟨_, rfl⟩
 rw [he0] at hL2 hchg
 refine ⟨fun z s' => ∃ i : Nat, z = (bH k, (⟨r, 0, none⟩, ()), ((Value.func (.func 237) #[] #[cp r]), ()), (p.x, ()), ((p.x.2.1 : Int), ()), ((i : Int), ()), ()) ∧ i ≤ p.x.2.1 ∧ Lw s s' r (e0 :: (p.T.idxs.take i).flatMap (kI k old new)),
  fun z _ => p.x.2.1 - z.2.2.2.2.2.1.1.toNat, ⟨0, rfl, Nat.zero_le _, hL2⟩, ?_⟩
 rintro _ s3 ⟨i, rfl, hi, hL3⟩
 dsimp only
 refine (W.aa _ _ _ _).2 ⟨fun e => ?_, fun e => ?_⟩
 rotate_left
 ·have e : ¬ (i : Int) < (p.x.2.1 : Int) := of_decide_eq_false e
  rw [List.take_of_length_le (by omega), ← hchg] at hL3
  obtain ⟨a', n', c', hG, hr3⟩ := hL3
  refine (W.aA hr3 _ _ _ _).2 ⟨((a', n', c'), ()), rfl, ?_⟩
  rw [← hR]
  exact ⟨a', n', c', rfl, hG⟩
 have hlt : (i : Int) < (p.x.2.1 : Int) := of_decide_eq_true e
 obtain ⟨x, hx2⟩ : ∃ x, p.T.idxs[i]? = some x := ⟨_, List.getElem?_eq_getElem (by omega)⟩
 have hmd3 : Fw.Mod [] s s3 := by obtain ⟨_, _, _, hG, _⟩ := hL3; exact hG.md
 obtain ⟨ax, hax, hhx⟩ := (hp.x.mono hmd3.le).el.aB hx2
 refine (W.ah _ _ _).2 ⟨⟨Int.natCast_nonneg i, hlt⟩, ?_⟩
 refine bg hax ?_
 simp only [Int.toNat_natCast]
 have hhx : s3.has (ax.add (i * 5)) (jZ.f x) := hhx
 refine aC hhx (y := qc x) rfl ?_
 have hfs := yS (kI k old new) hx2
 obtain ⟨L3, hL3e⟩ : ∃ L3, e0 :: (p.T.idxs.take i).flatMap (kI k old new) = L3 := ⟨_, rfl⟩
 have hnext : e0 :: (p.T.idxs.take (i + 1)).flatMap (kI k old new) = L3 ++ kI k old new x := by rw [hfs, ← hL3e]; simp
 rw [hL3e] at hL3
 have hL3l : L3.length ≤ 2000001 := by
  have := r9 k old new (p.T.idxs.take i)
  rw [← hL3e, List.length_cons]
  rw [List.length_take] at this
  omega
 have ho3 := ho.mono hmd3.le
 have hn3 := hn.mono hmd3.le
 have hfn : ∀ {s4 : PH} {l : List Wr} {K : bN [] → W.T}, Lw s s4 r l → l.length ≤ 4000000 → ∀ y : Wr, (∀ s5, Lw s s5 r (l ++ [y]) → K () s5) → W.dK Tryz.prog (Value.func (.func 237) #[] #[cp r]) #[.string y.key, .string y.val, .bool y.dead] (true, []) K s4 := fun {s4 l K} hl4 hll y hK => by
  refine cQ Tryz.func237 (by kernel_rfl) (by kernel_rfl) (A5 hl4 hr hll y) ?_
  rintro _ s5 ⟨rfl, h5⟩
  exact ⟨(), rfl, hK s5 h5⟩
 refine W.bl (fun z s' => z = (bH k, (⟨r, 0, none⟩, ()), ((Value.func (.func 237) #[] #[cp r]), ()), qc x, bH (bq old x.column), bH (bq new x.column), (p.x, ()), ((p.x.2.1 : Int), ()), ((i : Int), ()), ()) ∧ s3 = s') ?_ ?_
 rotate_left
 ·intro J hJ
  refine W.bX (bH (bq old x.column), ()) (kR ho3 x.column) rfl ?_
  refine W.bX (bH (bq new x.column), ()) (kR hn3 x.column) rfl ?_
  refine (W.jy _ _ _).2 ⟨?_, ?_⟩
  ·exact hJ _ _ ⟨rfl, rfl⟩
  ·exact hJ _ _ ⟨rfl, rfl⟩
 rintro _ _ ⟨rfl, rfl⟩
 dsimp only
 obtain ⟨p1, hp1⟩ : ∃ p1 : List Wr, (if old ≠ [] ∧ (new = [] ∨ bq old x.column ≠ bq new x.column) then [⟨jj x.id (bq old x.column) k, ⟨#[]⟩, true⟩] else []) = p1 := ⟨_, rfl⟩
 have hchgx : kI k old new x = p1 ++ (if new ≠ [] ∧ cj x.state = true then [⟨jj x.id (bq new x.column) k, ⟨#[]⟩, false⟩] else []) := by unfold kI; rw [hp1]
 have hp1l : p1.length ≤ 1 := by rw [← hp1]; split <;> simp
 refine W.bl (fun z s' => z = (bH k, (⟨r, 0, none⟩, ()), ((Value.func (.func 237) #[] #[cp r]), ()), qc x, bH (bq new x.column), (p.x, ()), ((p.x.2.1 : Int), ()), ((i : Int), ()), ()) ∧ Lw s s' r (L3 ++ p1)) ?_ ?_
 rotate_left
 ·intro J hJ
  refine W.bl (fun z s' => z = (bH k, (⟨r, 0, none⟩, ()), ((Value.func (.func 237) #[] #[cp r]), ()), qc x, bH (bq old x.column), bH (bq new x.column), (p.x, ()), ((p.x.2.1 : Int), ()), ((i : Int), ()), (decide (old ≠ [] ∧ (new = [] ∨ bq old x.column ≠ bq new x.column)), ()), ()) ∧ s3 = s') ?_ ?_
  rotate_left
  ·intro J2 hJ2
   refine (W.aa _ _ _ _).2 ⟨fun e => ?_, fun e => ?_⟩
   ·have e : (an : Int) > 0 := of_decide_eq_true e
    have ho1 : old ≠ [] := fun g => by rw [g] at hal; simp at hal; omega
    refine (W.aa _ _ _ _).2 ⟨fun e2 => ?_, fun e2 => ?_⟩
    ·have e2 : new = [] := of_decide_eq_true e2
     refine hJ2 _ _ ⟨?_, rfl⟩
     rw [decide_eq_true ⟨ho1, .inl e2⟩]
    ·have e2 : ¬ new = [] := of_decide_eq_false e2
     refine hJ2 _ _ ⟨?_, rfl⟩
     rw [jf]
     have : (!decide (bq new x.column = bq old x.column)) = decide (old ≠ [] ∧ (new = [] ∨ bq old x.column ≠ bq new x.column)) := by
      by_cases g : bq old x.column = bq new x.column
      ·rw [decide_eq_true g.symm, decide_eq_false]; (first | done | rfl)
       rintro ⟨_, g2 | g2⟩; exact e2 g2; exact g2 g
      ·rw [decide_eq_false (fun q => g q.symm), decide_eq_true ⟨ho1, .inr g⟩]; (first | done | rfl)
     first
      | rw [this]
      | (have this2 : (!decide (bq old x.column = bq new x.column)) = decide (old ≠ [] ∧ (new = [] ∨ bq old x.column ≠ bq new x.column)) := by
          rw [← this]; congr 1; rw [decide_eq_decide]; exact ⟨Eq.symm, Eq.symm⟩
         rw [this2])
   ·have e : ¬ (an : Int) > 0 := of_decide_eq_false e
    have ho1 : old = [] := List.eq_nil_of_length_eq_zero (by omega)
    refine hJ2 _ _ ⟨?_, rfl⟩
    rw [decide_eq_false (fun g => g.1 ho1)]
  rintro _ _ ⟨rfl, rfl⟩
  dsimp only
  refine (W.aa _ _ _ _).2 ⟨fun e => ?_, fun e => ?_⟩
  ·have e := of_decide_eq_true e
   rw [if_pos e] at hp1
   refine aL ((jj x.id (bq old x.column) k, ()), ()) (yu x.id (bq old x.column) k s3) rfl ?_
   refine hfn hL3 (by omega) ⟨jj x.id (bq old x.column) k, ⟨#[]⟩, true⟩ fun s4 h4 => ?_
   rw [hp1] at h4
   exact hJ _ _ ⟨rfl, h4⟩
  ·have e := of_decide_eq_false e
   rw [if_neg e] at hp1
   refine hJ _ _ ⟨rfl, ?_⟩
   rw [← hp1, List.append_nil]; exact hL3
 rintro _ s4 ⟨rfl, hL4⟩
 dsimp only
 obtain ⟨L4, hL4e⟩ : ∃ L4, L3 ++ p1 = L4 := ⟨_, rfl⟩
 have hL4l : L4.length ≤ 2000002 := by rw [← hL4e, List.length_append]; omega
 rw [hL4e] at hL4
 refine W.bl (fun z s' => z = (bH k, (⟨r, 0, none⟩, ()), ((Value.func (.func 237) #[] #[cp r]), ()), qc x, bH (bq new x.column), (p.x, ()), ((p.x.2.1 : Int), ()), ((i : Int), ()), (decide (new ≠ [] ∧ cj x.state = true), ()), ()) ∧ s4 = s') ?_ ?_
 rotate_left
 ·intro J2 hJ2
  refine (W.aa _ _ _ _).2 ⟨fun e => ?_, fun e => ?_⟩
  ·have e : (bn : Int) > 0 := of_decide_eq_true e
   have hn1 : new ≠ [] := fun g => by rw [g] at hbl; simp at hbl; omega
   have hdc : decide (new ≠ [] ∧ cj x.state = true) = cj x.state := by
    cases hcb : cj x.state with
    | true => exact decide_eq_true ⟨hn1, rfl⟩
    | false => exact decide_eq_false fun g => by cases g.2
   rw [hdc] at hJ2
   refine (W.aa _ _ _ _).2 ⟨fun e2 => ?_, fun e2 => ?_⟩
   ·refine hJ2 _ _ ⟨?_, rfl⟩
    have : cj x.state = true := by unfold cj; rw [e2]; (first | done | rfl)
    rw [this]
   ·refine hJ2 _ _ ⟨?_, rfl⟩
    have : cj x.state = (x.state == 3) := by unfold cj; rw [e2]; (first | done | rfl)
    rw [this]
  ·have e : ¬ (bn : Int) > 0 := of_decide_eq_false e
   have hn1 : new = [] := List.eq_nil_of_length_eq_zero (by omega)
   refine hJ2 _ _ ⟨?_, rfl⟩
   rw [decide_eq_false (fun g => g.1 hn1)]
 rintro _ _ ⟨rfl, rfl⟩
 dsimp only
 rw [ak (k := i) (by omega)]
 refine (W.aa _ _ _ _).2 ⟨fun e => ?_, fun e => ?_⟩
 ·have e := of_decide_eq_true e
  rw [if_pos e] at hchgx
  refine aL ((jj x.id (bq new x.column) k, ()), ()) (yu x.id (bq new x.column) k s4) rfl ?_
  refine hfn hL4 (by omega) ⟨jj x.id (bq new x.column) k, ⟨#[]⟩, false⟩ fun s5 h5 => ?_
  refine ⟨⟨i + 1, rfl, by omega, ?_⟩, by simp only [Int.toNat_natCast]; omega⟩
  rw [hnext, hchgx, ← List.append_assoc, hL4e]; exact h5
 ·have e := of_decide_eq_false e
  rw [if_neg e] at hchgx
  refine ⟨⟨i + 1, rfl, by omega, ?_⟩, by simp only [Int.toNat_natCast]; omega⟩
  rw [hnext, hchgx, List.append_nil, hL4e]; exact hL4
end
section
attribute [-simp] Fw.W.bD Fw.W.bB
section
variable {K V : Type} [BEq K] [LawfulBEq K]
theorem mh {f : List (K × V)} (hn : (f.map (·.1)).Nodup) (k : K) (v : V) (p : K × V) : p ∈ di f k v ↔ p = (k, v) ∨ (p ∈ f ∧ p.1 ≠ k) := by
 induction f with
 | nil => simp [di]
 | cons q f ih =>
  obtain ⟨a, b⟩ := q
  simp only [List.map_cons, List.nodup_cons] at hn
  simp only [di]
  by_cases h : k = a
  ·subst h
   rw [if_pos (by simp), List.mem_cons]
   constructor
   ·rintro (e | hm)
    ·exact .inl e
    ·refine .inr ⟨List.mem_cons_of_mem _ hm, fun e => hn.1 ?_⟩
     rw [← e]; exact List.mem_map_of_mem hm
   ·rintro (e | ⟨hm, hne⟩)
    ·exact .inl e
    ·rcases List.mem_cons.1 hm with rfl | hm
     ·exact absurd rfl hne
     ·exact .inr hm
  ·rw [if_neg (by simpa using h), List.mem_cons, ih hn.2, List.mem_cons]
   constructor
   ·rintro (rfl | e | ⟨hm, hne⟩)
    ·exact .inr ⟨.inl rfl, fun e => h e.symm⟩
    ·exact .inl e
    ·exact .inr ⟨.inr hm, hne⟩
   ·rintro (e | ⟨rfl | hm, hne⟩)
    ·exact .inr (.inl e)
    ·exact .inl rfl
    ·exact .inr (.inr ⟨hm, hne⟩)
theorem Cj {f : List (K × V)} (hn : (f.map (·.1)).Nodup) (k : K) (v : V) : ((di f k v).map (·.1)).Nodup := by
 induction f with
 | nil => simp [di]
 | cons q f ih =>
  obtain ⟨a, b⟩ := q
  have hn2 := hn
  simp only [List.map_cons, List.nodup_cons] at hn
  simp only [di]
  by_cases h : k = a
  ·subst h
   rw [if_pos (by simp)]; exact hn2
  ·rw [if_neg (by simpa using h), List.map_cons, List.nodup_cons]
   refine ⟨fun hm => ?_, ih hn.2⟩
   obtain ⟨p, hp, e⟩ := List.mem_map.1 hm
   rcases (mh hn.2 k v p).1 hp with rfl | ⟨hp, _⟩
   ·exact h e
   ·exact hn.1 (List.mem_map.2 ⟨p, hp, e⟩)
end
theorem tY {ov : List Wr} (h : ji ov) : (ov.map (·.key)).Nodup := by
 unfold ji at h
 rw [List.Nodup, List.pairwise_map]
 exact h.imp fun {a b} e1 e2 => by rw [e2, fe] at e1; cases e1
theorem IC {f : List (ByteArray × Wr)} {ov : List Wr} (hv : ji ov) (hk : ∀ p ∈ f, p.1 = p.2.key) (hp : (f.map (·.2)).Perm ov) (x : Wr) : (∀ p ∈ di f x.key x, p.1 = p.2.key) ∧ ((di f x.key x).map (·.2)).Perm (cv ov x) := by
 have hkeys : f.map (·.1) = (f.map (·.2)).map (·.key) := by rw [List.map_map]; exact List.map_congr_left fun e he => hk e he
 have hn : (f.map (·.1)).Nodup := by rw [hkeys]; exact ((hp.map (·.key)).nodup_iff).2 (tY hv)
 have h1 : ∀ p ∈ di f x.key x, p.1 = p.2.key := fun p hp => by
  rcases (mh hn _ _ p).1 hp with rfl | ⟨hp, _⟩
  ·rfl
  ·exact hk p hp
 refine ⟨h1, ?_⟩
 obtain ⟨p1, p2⟩ := mT hv x
 have hn1 : ((di f x.key x).map (·.2)).Nodup := by
  have h2 : ((di f x.key x).map (·.1)) = ((di f x.key x).map (·.2)).map (·.key) := by rw [List.map_map]; exact List.map_congr_left fun e he => h1 e he
  have h3 := Cj hn x.key x
  rw [h2] at h3
  exact List.Pairwise.of_map _ (fun a b hab e => hab (by rw [e])) h3
 have hn2 : (cv ov x).Nodup := List.Pairwise.of_map _ (fun a b hab e => hab (by rw [e])) (tY p1)
 refine (List.perm_ext_iff_of_nodup hn1 hn2).2 fun a => ?_
 rw [p2, List.mem_map]
 constructor
 ·rintro ⟨p, hpa, rfl⟩
  rcases (mh hn _ _ p).1 hpa with rfl | ⟨hp2, hne⟩
  ·exact .inl rfl
  ·refine .inr ⟨(hp.mem_iff).1 ?_, by rw [← hk p hp2]; exact hne⟩
   exact List.mem_map_of_mem hp2
 ·rintro (rfl | ⟨ha, hne⟩)
  ·exact ⟨(a.key, a), (mh hn _ _ _).2 (.inl rfl), rfl⟩
  ·obtain ⟨p, hp2, rfl⟩ := List.mem_map.1 ((hp.mem_iff).2 ha)
   exact ⟨p, (mh hn _ _ _).2 (.inr ⟨hp2, by rw [hk p hp2]; exact hne⟩), rfl⟩
theorem zA (l : List Wr) (x : Wr) : (cv l x).length ≤ l.length + 1 := by
 have h1 := congrArg List.length (List.takeWhile_append_dropWhile (p := fun y : Wr => bK y.key x.key) (l := l))
 have h2 := List.length_filter_le (fun y : Wr => decide (y.key ≠ x.key)) (l.dropWhile fun y => bK y.key x.key)
 rw [List.length_append] at h1
 unfold cv
 rw [List.length_append, List.length_append, List.length_singleton]; omega
theorem lu : ∀ (ws ov : List Wr), (ws.foldl cv ov).length ≤ ov.length + ws.length
 | [], ov => Nat.le_refl _
 | x :: ws, ov => by
  have h1 := lu ws (cv ov x)
  have h2 := zA ov x
  rw [List.foldl_cons, List.length_cons]; omega
theorem FZ {ov : List Wr} {x a : Wr} (h : a ∈ cv ov x) : a = x ∨ a ∈ ov := by
 unfold cv at h
 rw [List.mem_append, List.mem_append, List.mem_singleton] at h
 rcases h with (h | h) | h
 ·exact .inr (List.takeWhile_subset _ h)
 ·exact .inl h
 ·exact .inr ((List.dropWhile_sublist _).subset (List.mem_filter.1 h).1)
section
variable {s0 s : PH} {w : Nat} {S : aF} {tt sh : aG} {B : List Ht} {rds : List cq} {ov : List Wr}
theorem EJ.put {r : aG} {mb mo : Nat} {qs : List G3} {bs : List (cq × aG)} {f : List (ByteArray × Wr)} {o : Obj} (h : EJ s0 s w S tt sh B rds ov) (hx : Dg s0 s w S tt sh B rds ov r mb mo qs bs f) (x : Wr) (ho : fH ir rL (s.aM mo o) mo (di f x.key x)) (h1 : x.key.size ≤ 4000000 ∧ x.val.size ≤ 4000000) (h2 : ov.length + 1 ≤ 800000) :
  EJ s0 (s.aM mo o) w S tt sh B rds (cv ov x) ∧ Kt s (s.aM mo o) := by
 obtain ⟨es, c, hmo, _⟩ := hx.om
 have u : Fw.Mod [mo] s (s.aM mo o) := Mod.aM (by simp)
 have md : Fw.Mod [] s0 (s.aM mo o) := hx.md.bQ (.inr hx.mo0)
 have hrow : ∀ {α : Type} {E : cG α} {e : TypeId} {a : Option Addr} {n c : Nat} {l : List α}, aW E s e a n c l → aW E (s.aM mo o) e a n c l := fun {α E e a n c l} hr => hr.mod u fun g hg hb => by
  have : g = mo := by simpa using hb
  subst this
  rcases hr.shape with ⟨rfl, _⟩ | ⟨g', rfl⟩
  ·simp [Fw.aH] at hg
  ·simp [Fw.aH] at hg; subst hg
   obtain ⟨cur, q2⟩ := hr.ty rfl
   rw [hmo] at q2; cases q2
 obtain ⟨p1, p2⟩ := IC h.cV hx.omk hx.omp x
 refine ⟨⟨⟨r, mb, mo, qs, bs, di f x.key x, md, hx.w0, ?_, hx.mb0, hx.mo0, hx.ne, ⟨hrow hx.rd.row, hx.rd.fr, md⟩, hx.rdq, fun q hq => hrow (hx.seen q hq), ?_, hx.bmq, fun e he => hrow (hx.bv e he), ho, p1, p2⟩, (mT h.cV x).1, fun a ha => ?_, ?_⟩, Kt.mod u fun g hg cur e hgc => ?_⟩
 ·rw [PH.bF]; exact hx.aH
  rintro rfl; rw [hx.aH] at hmo; cases hmo
 ·obtain ⟨es2, c2, q1, q2⟩ := hx.bm
  exact ⟨es2, c2, by rw [PH.bF _ _ hx.ne]; exact q1, q2⟩
 ·rcases FZ ha with rfl | ha
  ·exact h1
  ·exact h.sm a ha
 ·have := zA ov x; omega
 ·have : g = mo := by simpa using hg
  subst this
  rw [hmo] at hgc; cases hgc
theorem oC {α β : Type} {l : List α} {k : Nat} {x : α} (f : β → α → β) (b : β) (h : l[k]? = some x) : (l.take (k + 1)).foldl f b = f ((l.take k).foldl f b) x := by
 rw [List.take_add_one, h, List.foldl_append]; (first | done | rfl)
theorem rX (h : EJ s0 s w S tt sh B rds ov) {p : ay} (hp : eZ s0 p) (hx : p.T.idxs.length ≤ 1000000) {a b : Option Addr} {an ac bn bc : Nat} {old new : List aX} (ho : Sl bx s (a, an, ac) old) (hn : Sl bx s (b, bn, bc) new)
  (hsm : ∀ x ∈ ec p.T old new, x.key.size ≤ 4000000 ∧ x.val.size ≤ 4000000) (hl : ov.length + (ec p.T old new).length ≤ 800000) :
  ai 123 #[cp w, dR p.T p.c p.x p.k, .slice a an ac, .slice b bn bc] s fun y s' => y = .tuple #[] ∧ EJ s0 s' w S tt sh B rds ((ec p.T old new).foldl cv ov) ∧ Kt s s' := by
 refine Ex w p.T.id p.T.name p.c.1 p.c.2.1 p.c.2.2 p.x.1 p.x.2.1 p.x.2.2 p.k.1 p.k.2.1 p.k.2.2 a an ac b bn bc _ s ?_
 unfold xl
 simp only [aU, aS, aN, aP, aQ, bI, nt, aE, dh, aY, Nat.zero_add]
 refine W.au (BX (hp.mono h.md.le) hx ho hn) ?_
 rintro _ s1 ⟨ca, cn, cc, rfl, hG⟩
 refine ⟨(((ca, cn, cc), ()), ()), rfl, ?_⟩
 obtain ⟨C, hC⟩ : ∃ C, ec p.T old new = C := ⟨_, rfl⟩
 rw [hC] at hG hsm hl ⊢
 have hcn := hG.row.len
 dsimp only
 refine ⟨fun z s' => ∃ i : Nat, z = (((ca, cn, cc), ()), ((cn : Int), ()), ((i : Int), ()), ()) ∧ i ≤ cn ∧ EJ s0 s' w S tt sh B rds ((C.take i).foldl cv ov) ∧ Kt s s' ∧ aW mZ s' 79 ca cn cc C,
  fun z _ => cn - z.2.2.1.1.toNat, ⟨0, rfl, Nat.zero_le _, h.same hG.md, Kt.of hG.md, hG.row⟩, ?_⟩
 rintro _ s2 ⟨i, rfl, hi, hE, hk, hrow⟩
 dsimp only
 refine (W.aa _ _ _ _).2 ⟨fun e => ?_, fun e => ?_⟩
 rotate_left
 ·have e : ¬ (i : Int) < (cn : Int) := of_decide_eq_false e
  rw [List.take_of_length_le (by omega)] at hE
  exact ⟨rfl, hE, hk⟩
 have hlt : (i : Int) < (cn : Int) := of_decide_eq_true e
 obtain ⟨x, hx2⟩ : ∃ x, C[i]? = some x := ⟨_, List.getElem?_eq_getElem (by omega)⟩
 obtain ⟨g, rfl, hh⟩ := hrow.at hx2
 refine (W.ah _ _ _).2 ⟨⟨Int.natCast_nonneg i, hlt⟩, ?_⟩
 simp only [dh, Int.toNat_natCast, aY, Nat.zero_add]
 have hh : s2.has ⟨g, i * 3, none⟩ (mZ.f x) := hh
 refine aC hh (y := KM x) rfl ?_
 obtain ⟨r, mb, mo, qs, bs, f, hx3⟩ := hE.ei
 refine (W.aA hx3.aH _ _ _ _).2 ⟨(some mo, ()), rfl, ?_⟩
 refine Bh (ke := ir) (ve := rL) hx3.om (key := x.key) (v := x) fun o ho => ?_
 have hfl := lu (C.take i) ov
 rw [List.length_take] at hfl
 obtain ⟨q1, q2⟩ := hE.put hx3 x ho (hsm x (List.mem_of_getElem? hx2)) (by omega)
 rw [ak (k := i) (by omega)]
 refine ⟨⟨i + 1, rfl, by omega, ?_, hk.trans q2, q2.row hrow (by decide) (by decide)⟩, by simp only [Int.toNat_natCast]; omega⟩
 rw [oC cv ov hx2]; exact q1
end
end
section
attribute [-simp] Fw.W.bD Fw.W.bB
def fX (l : List aX) : Prop := cY 0 l = true ∧ ∀ c ∈ l, AY c
theorem lq : ∀ (l : List aX) (last : Int), cY last l = true ↔ (∀ c ∈ l, bC c.v = true ∧ last < c.id) ∧ jh l
 | [], last => by simp [cY, jh]
 | c :: l, last => by
  have ih := lq l c.id
  simp only [cY, Bool.and_eq_true, decide_eq_true_eq, ih, jh, List.pairwise_cons, List.mem_cons]
  constructor
  ·rintro ⟨⟨h1, h2⟩, h3, h4⟩
   refine ⟨fun x hx => ?_, fun x hx => (h3 x hx).2, h4⟩
   rcases hx with rfl | hx
   ·exact ⟨h1, h2⟩
   ·exact ⟨(h3 x hx).1, by have := (h3 x hx).2; omega⟩
  ·rintro ⟨h1, h2, h3⟩
   exact ⟨h1 c (.inl rfl), fun x hx => ⟨(h1 x (.inr hx)).1, h2 x hx⟩, h3⟩
theorem fX.cV {l : List aX} (h : fX l) : jh l := ((lq _ _).1 h.1).2
theorem r64 {n : Int} (h : kZ n) : -9223372036854775808 ≤ n ∧ n ≤ 9223372036854775807 := h
theorem fX.ids {l : List aX} (h : fX l) : BO l := fun c hc => ⟨by have := (((lq _ _).1 h.1).1 c hc).2; omega, (r64 (h.2 c hc).2).2⟩
theorem fX.nil : fX [] := ⟨rfl, by simp⟩
theorem uP.p {l : List aX} (h : uP l) : fX l := ⟨h.put, h.ok⟩
theorem zd {l : List aX} {k : Int} {v : aR} {c : aX} (h : c ∈ gI l k v) : c = ⟨k, v⟩ ∨ c ∈ l := by
 unfold gI at h
 rw [List.mem_append, List.mem_append, List.mem_singleton] at h
 rcases h with (h | h) | h
 ·exact .inr (List.takeWhile_subset _ h)
 ·exact .inl h
 ·refine .inr ((List.dropWhile_sublist (fun c : aX => decide (c.id < k)) (l := l)).subset ?_)
  split at h
  ·simp at h
  ·rename_i x r he
   split at h
   ·rw [he]; exact List.mem_cons_of_mem _ h
   ·rw [he]; exact h
theorem GL {l : List aX} (h : jh l) (k : Int) (v : aR) : jh (gI l k v) := by
 have h1 := List.takeWhile_append_dropWhile (p := fun c : aX => decide (c.id < k)) (l := l)
 have hs := h
 unfold jh at hs
 rw [← h1] at hs
 obtain ⟨p1, p2, p3⟩ := List.pairwise_append.1 hs
 have hlt : ∀ c ∈ l.takeWhile (fun c => decide (c.id < k)), c.id < k := fun c hc => by simpa using List.all_eq_true.1 (List.all_takeWhile (p := fun c : aX => decide (c.id < k)) (l := l)) c hc
 unfold gI jh
 have hrest : ∀ (r : List aX), r = (match l.dropWhile (fun c => decide (c.id < k)) with | [] => [] | c :: r => if c.id = k then r else c :: r) → (∀ c ∈ r, k < c.id) ∧ r.Pairwise (fun a b => a.id < b.id) ∧ ∀ c ∈ r, c ∈ l.dropWhile (fun c => decide (c.id < k)) := by
  intro r hr
  cases hd : l.dropWhile (fun c => decide (c.id < k)) with
  | nil => rw [hd] at hr; subst hr; simp
  | cons c r2 =>
   rw [hd] at hr p2
   have hc : ¬ c.id < k := by
    have := List.head?_dropWhile_not (p := fun c : aX => decide (c.id < k)) (l := l)
    rw [hd] at this
    simpa using this
   have hp := List.pairwise_cons.1 p2
   dsimp only at hr
   split at hr
   ·rename_i hk
    subst hr
    exact ⟨fun x hx => by have := hp.1 x hx; omega, hp.2, fun x hx => List.mem_cons_of_mem _ hx⟩
   ·rename_i hk
    subst hr
    refine ⟨fun x hx => ?_, p2, fun x hx => hx⟩
    rcases List.mem_cons.1 hx with rfl | hx
    ·omega
    ·have := hp.1 x hx; omega
 obtain ⟨q1, q2, q3⟩ := hrest _ rfl
 refine List.pairwise_append.2 ⟨List.pairwise_append.2 ⟨p1, List.pairwise_singleton _ _, ?_⟩, q2, ?_⟩
 ·intro a ha b hb
  simp at hb; subst hb; exact hlt a ha
 ·intro a ha b hb
  rcases List.mem_append.1 ha with ha | ha
  ·exact p3 a ha b (q3 b hb)
  ·simp at ha; subst ha; exact q1 b hb
theorem fX.set {l : List aX} (h : fX l) {k : Int} {v : aR} (h1 : 1 ≤ k) (h2 : k ≤ 9223372036854775807) (hv : jk v) : fX (gI l k v) := by
 refine ⟨(lq _ _).2 ⟨fun c hc => ?_, GL h.cV k v⟩, fun c hc => ?_⟩
 ·rcases zd hc with rfl | hc
  ·exact ⟨hv.1, by dsimp only; omega⟩
  ·exact ((lq _ _).1 h.1).1 c hc
 ·rcases zd hc with rfl | hc
  ·exact ⟨hv, by show -9223372036854775808 ≤ k ∧ k ≤ 9223372036854775807; omega⟩
  ·exact h.2 c hc
theorem iS {l : List aX} (h : jh l) (k : Int) (v : aR) : (gI l k v).length ≤ l.length + 1 := by
 rw [AT l h]; split <;> omega
structure gh (S : aF) (T : aO) : Prop where
 ne : T.cols ≠ []
 pub : ∀ c, T.cols[0]? = some c → c.state = 3
 cols : ∀ c ∈ T.cols, 1 ≤ c.id ∧ c.id ≤ 9223372036854775807 ∧ jk c.dflt
 par : ∀ x ∈ T.keys, ∃ U, gZ S x.parent = some U ∧ U.cols ≠ []
 c8 : T.cols.length ≤ 8
 x8 : T.idxs.length ≤ 8
 k8 : T.keys.length ≤ 8
theorem BZ {l : List aX} (h : fX l) : (cR l).1.size ≤ 256 * l.length := by
 unfold cR
 rw [if_pos h.1]
 show (kB (l.flatMap cT)).size ≤ _
 rw [cz]
 exact vW fun c hc => (h.2 c hc).1.1
theorem zc {T : aO} {old new : List aX} {x : Wr} (h : x ∈ ec T old new) : (x.key = iG T.id (bq (if old = [] then new else old) (eJ T)) ∧ x.val = (cR new).1 ∧ x.dead = decide (new = [])) ∨ (x.val = ⟨#[]⟩ ∧ ∃ i ∈ T.idxs, x.key = jj i.id (bq old i.column) (bq (if old = [] then new else old) (eJ T)) ∨ x.key = jj i.id (bq new i.column) (bq (if old = [] then new else old) (eJ T))) := by
 unfold ec at h
 split at h
 ·simp at h
 ·rcases List.mem_cons.1 h with rfl | h
  ·exact .inl ⟨rfl, rfl, rfl⟩
  ·obtain ⟨i, hi, hx⟩ := List.mem_flatMap.1 h
   unfold kI at hx
   rw [List.mem_append] at hx
   rcases hx with hx | hx
   ·split at hx
    ·simp at hx; subst hx; exact .inr ⟨rfl, i, hi, .inl rfl⟩
    ·simp at hx
   ·split at hx
    ·simp at hx; subst hx; exact .inr ⟨rfl, i, hi, .inr rfl⟩
    ·simp at hx
theorem oy {T : aO} {old new : List aX} (h : fX new) (hl : new.length ≤ 15000) : ∀ x ∈ ec T old new, x.key.size ≤ 4000000 ∧ x.val.size ≤ 4000000 := fun x hx => by
 have hk : ∀ l : List aR, (keyOf l).1.size ≤ 1120 := gU
 have hz := BZ h
 have h0 : (⟨#[]⟩ : ByteArray).size = 0 := rfl
 rcases zc hx with ⟨e1, e2, _⟩ | ⟨e2, i, hi, e1 | e1⟩
 ·refine ⟨?_, ?_⟩
  ·rw [e1]; have := hk [bf 0, bf T.id, bq (if old = [] then new else old) (eJ T)]; unfold iG; omega
  ·rw [e2]; omega
 ·refine ⟨?_, ?_⟩
  ·rw [e1]; have := hk [bf 1, bf i.id, bq old i.column, bq (if old = [] then new else old) (eJ T)]; unfold jj; omega
  ·rw [e2]; omega
 ·refine ⟨?_, ?_⟩
  ·rw [e1]; have := hk [bf 1, bf i.id, bq new i.column, bq (if old = [] then new else old) (eJ T)]; unfold jj; omega
  ·rw [e2]; omega
structure pM where
 l : List aR
 u : aG
def Hu : cG pM where
 sz := 1
 f q := [.slice q.u.1 q.u.2.1 q.u.2.2]
 len _ := rfl
 one q v hv := by simp at hv; subst hv; (first | done | rfl)
 pos := by omega
structure fB (s0 s : PH) (a : Option Addr) (n c : Nat) (L : List (List aR)) (qs : List pM) : Prop where
 gw : Gw Hu 125 s0 s a n c qs
 eq : qs.map (·.l) = L
 vs : ∀ q ∈ qs, aW dJ s 28 q.u.1 q.u.2.1 q.u.2.2 q.l ∧ ∀ g ∈ Fw.aH q.u.1, s0 g = none
def nv (s0 s : PH) (rp : Rp) (y : Value) : Prop := ∃ a n c qs, y = .agg #[.int .i64 rp.n, .slice a n c] ∧ fB s0 s a n c rp.rows qs
theorem fB.nil {s0 s : PH} (h : Fw.Mod [] s0 s) : fB s0 s none 0 0 [] [] := ⟨Gw.nil h, rfl, by simp⟩
theorem nv.none {s0 s : PH} (n : Int) (h : Fw.Mod [] s0 s) : nv s0 s ⟨n, []⟩ (.agg #[.int .i64 n, .slice none 0 0]) := ⟨_, 0, 0, [], rfl, fB.nil h⟩
def kD (s0 s : PH) (w : Nat) (S : aF) (tt sh : aG) (B : List Ht) (rds : List cq) (ov : List Wr) (E : xX) (y : Value) (s' : PH) : Prop :=
 ∃ ry, y = .tuple #[ry, .int .i64 E.err] ∧ nv s0 s' E.rep ry ∧ EJ s0 s' w S tt sh B (bJ rds E.asks) (E.ws.foldl cv ov) ∧ Kt s s'
theorem Sl.tail {α : Type} {E : cG α} {s : PH} {a : Option Addr} {n c : Nat} {x : α} {l : List α} (h : Sl E s (a, n, c) (x :: l)) : Sl E s (if c = 1 then a else a.map (·.add E.sz), n - 1, c - 1) l := by
 have hn : n = l.length + 1 := h.len
 have hle : n ≤ c := h.le
 have hf := h.cF
 rw [List.length_cons] at hf
 refine ⟨⟨by show n - 1 = l.length; omega, fun i y hy => ?_⟩, by show n - 1 ≤ c - 1; omega, by omega⟩
 obtain ⟨ad, h1, h2⟩ := h.el.aB (i := i + 1) (x := y) (by simpa using hy)
 dsimp only at h1
 have hil := (List.getElem?_eq_some_iff.1 hy).1
 refine ⟨ad.add E.sz, E.f y, ?_, rfl, ?_⟩
 ·rw [if_neg (by omega), h1]; (first | done | rfl)
 ·show s.has ((ad.add E.sz).add (i * E.sz)) (E.f y)
  rw [jP]
  rw [show (i + 1) * E.sz = E.sz + i * E.sz by rw [Nat.add_mul]; omega] at h2
  exact h2
theorem Gw.since {α : Type} {E : cG α} {e : TypeId} {s0 s s' : PH} {a : Option Addr} {n c : Nat} {l : List α} (h : Gw E e s s' a n c l) (hm : Fw.Mod [] s0 s) : Gw E e s0 s' a n c l :=
 ⟨h.row, fun g hg => hm.none (h.fr g hg) (by simp), hm.trans h.md⟩
abbrev yI (c : bZ) : Den [.int .i64, .str, .int .i64, .int .i64, .int .i64, .int .i64, .str] := (c.id, c.name, c.kind, c.state, c.dflt.kind, c.dflt.n, c.dflt.s, ())
abbrev uU (b : cD) (t : aG) : Den [.int .i64, .int .i64, .slice, .int .i64, .int .i64, .int .i64, .str, .int .i64, .int .i64, .int .i64, .str] := (b.kind, b.table, t, b.set, b.to.kind, b.to.n, b.to.s, b.whr, b.is.kind, b.is.n, b.is.s, ())
theorem vf {v : aR} {k : Int} (h : fits v k = true) : bC v = true := by unfold fits at h; exact (Bool.and_eq_true _ _ ▸ h).1
theorem oH {c : bZ} {l : List bZ} {k : Nat} {vs : List aR} (h : e9 (c :: l) k vs = true) : (c.state ≠ 3 ∧ e9 l (k + 1) vs = true) ∨ (c.state = 3 ∧ ∃ v r, vs = v :: r ∧ bC v = true ∧ e9 l (k + 1) r = true) := by
 unfold e9 at h
 split at h
 ·rename_i h1; exact .inl ⟨h1, h⟩
 ·rename_i h1
  refine .inr ⟨by omega, ?_⟩
  cases vs with
  | nil => cases h
  | cons v r =>
   simp only [Bool.and_eq_true] at h
   exact ⟨v, r, rfl, vf h.1.1, h.2⟩
section
variable {s0 s : PH} {w : Nat} {S : aF} {tt sh : aG} {B : List Ht} {rds : List cq} {ov : List Wr}
theorem nG : ∀ {l : List bZ} {k : Nat} {vs : List aR} {cs : List aX}, (∀ c ∈ l, 1 ≤ c.id ∧ c.id ≤ 9223372036854775807 ∧ jk c.dflt) → e9 l k vs = true → (∀ v ∈ vs, kZ v.n) → fX cs → fX (kJ l vs cs) ∧ (kJ l vs cs).length ≤ cs.length + l.length
 | [], k, vs, cs, _, _, _, h => ⟨h, Nat.le_refl _⟩
 | c :: l, k, vs, cs, hc, ho, hv, h => by
  have hc1 := hc c List.mem_cons_self
  have hcl : ∀ x ∈ l, 1 ≤ x.id ∧ x.id ≤ 9223372036854775807 ∧ jk x.dflt := fun x hx => hc x (List.mem_cons_of_mem _ hx)
  unfold kJ
  rcases oH ho with ⟨h3, ho⟩ | ⟨h3, v, r, rfl, hvo, ho⟩
  ·rw [if_neg h3]
   split
   ·have hs := h.set hc1.1 hc1.2.1 hc1.2.2
    have hl := iS h.cV c.id c.dflt
    obtain ⟨i1, i2⟩ := nG hcl ho hv hs
    exact ⟨i1, by rw [List.length_cons]; omega⟩
   ·obtain ⟨i1, i2⟩ := nG hcl ho hv h
    exact ⟨i1, by rw [List.length_cons]; omega⟩
  ·rw [if_pos h3]
   have hs := h.set hc1.1 hc1.2.1 (v := v) ⟨hvo, hv v List.mem_cons_self⟩
   have hl := iS h.cV c.id v
   obtain ⟨i1, i2⟩ := nG (vs := r) hcl ho (fun x hx => hv x (List.mem_cons_of_mem _ hx)) hs
   exact ⟨i1, by rw [List.length_cons]; show (kJ l r (gI cs c.id v)).length ≤ _; omega⟩
theorem DE {ps : List ay} (hB : iC s0 sh B) (h : EJ s0 s w S tt sh B rds ov) (hS : cX s0 tt S ps) {p : ay} (hp : eZ s0 p) (hT : gh S p.T) {b : cD} {t : aG} (hv : Sl dJ s0 t b.vals) (hne : b.vals ≠ []) (hok : e9 p.T.cols 0 b.vals = true) (h64 : ∀ v ∈ b.vals, kZ v.n)
  (hrl : rds.length + 100000 ≤ 4000000) (hol : ov.length + 60000 ≤ 800000) :
  ai 58 #[cp w, dR p.T p.c p.x p.k, nc b t] s (kD s0 s w S tt sh B rds ov (sr S p.T b (aj 0 B ov))) := by
 refine CD w p.T.id p.T.name p.c.1 p.c.2.1 p.c.2.2 p.x.1 p.x.2.1 p.x.2.2 p.k.1 p.k.2.1 p.k.2.2 b.kind b.table t.1 t.2.1 t.2.2 b.set b.to.kind b.to.n b.to.s b.whr b.is.kind b.is.n b.is.s _ s ?_
 unfold uI
 obtain ⟨R, hR⟩ : ∃ R : Value → PH → Prop, kD s0 s w S tt sh B rds ov (sr S p.T b (aj 0 B ov)) = R := ⟨_, rfl⟩
 rw [hR]
 obtain ⟨D, hD⟩ : ∃ D, aj 0 B ov = D := ⟨_, rfl⟩
 rw [hD] at hR
 have hcl : p.c.2.1 = p.T.cols.length := hp.c.len
 have hc8 := hT.c8
 obtain ⟨CS, hCS⟩ : ∃ CS, kJ p.T.cols b.vals [] = CS := ⟨_, rfl⟩
 obtain ⟨hCS1, hCS2⟩ := nG hT.cols hok h64 fX.nil
 rw [hCS] at hCS1 hCS2
 have hCS2 : CS.length ≤ 8 := by simp at hCS2; omega
 simp only [aS, aN, aP, aQ, bI, aU, aE]
 refine ⟨fun z s' => ∃ (i : Nat) (vt : aG) (vs : List aR) (a : Option Addr) (n c : Nat) (cs : List aX), z = ((p.T.id, p.T.name, p.c, p.x, p.k, ()), uU b t, ((0 : Int), ((none, 0, 0) : aG), ()), ((a, n, c), ()), (vt, ()), (p.c, ()), ((p.c.2.1 : Int), ()), ((i : Int), ()), ()) ∧ i ≤ p.c.2.1 ∧ Gw bx 94 s s' a n c cs ∧ Sl dJ s0 vt vs ∧ fX cs ∧ cs.length ≤ i ∧ e9 (p.T.cols.drop i) i vs = true ∧ (∀ v ∈ vs, kZ v.n) ∧ kJ (p.T.cols.drop i) vs cs = CS,
  fun z _ => p.c.2.1 - z.2.2.2.2.2.2.2.1.1.toNat, ⟨0, t, b.vals, none, 0, 0, [], rfl, Nat.zero_le _, Gw.nil (Mod.refl _ _), hv, fX.nil, Nat.le_refl _, hok, h64, hCS⟩, ?_⟩
 rintro _ s1 ⟨i, ⟨va, vn, vc⟩, vs, a, n, c, cs, rfl, hi, hG, hVs, hcs, hcsl, hio, hv64, hic⟩
 have hE1 := h.same hG.md
 dsimp only
 refine (W.aa _ _ _ _).2 ⟨fun e => ?_, fun e => ?_⟩
 ·have hlt : (i : Int) < (p.c.2.1 : Int) := of_decide_eq_true e
  obtain ⟨x, hx⟩ : ∃ x, p.T.cols[i]? = some x := ⟨_, List.getElem?_eq_getElem (by omega)⟩
  have hxc := hT.cols x (List.mem_of_getElem? hx)
  obtain ⟨ad, had, hh⟩ := (hp.c.mono hE1.md.le).el.aB hx
  refine (W.ah _ _ _).2 ⟨⟨Int.natCast_nonneg i, hlt⟩, ?_⟩
  refine bg had ?_
  simp only [Int.toNat_natCast]
  have hh : s1.has (ad.add (i * 7)) (dx.f x) := hh
  refine aC hh (y := yI x) rfl ?_
  rw [bO hx] at hio hic
  have hn := hG.row.len
  rw [ak (k := i) (by omega)]
  dsimp only
  unfold kJ at hic
  rcases oH hio with ⟨h3, hio⟩ | ⟨h3, v, r, rfl, hvo, hio⟩
  ·rw [if_neg h3] at hic
   refine (W.aa _ _ _ _).2 ⟨fun e3 => absurd (eq_of_beq e3) h3, fun _ => ?_⟩
   refine (W.aa _ _ _ _).2 ⟨fun e2 => ?_, fun e2 => ?_⟩
   ·have e2 : x.state = 2 := eq_of_beq e2
    rw [if_pos e2] at hic
    refine W.au (tr (Sl.bE (t := (a, n, c)) hG.row (by omega)) hcs.cV hcs.ids (by omega) hxc.1 hxc.2.1 x.dflt) ?_
    rintro _ s2 ⟨a2, n2, c2, rfl, hG2⟩
    refine ⟨(((a2, n2, c2), ()), ()), rfl, ?_⟩
    have hl := iS hcs.cV x.id x.dflt
    refine ⟨⟨i + 1, (va, vn, vc), vs, a2, n2, c2, gI cs x.id x.dflt, rfl, by omega, hG2.since hG.md, hVs, hcs.set hxc.1 hxc.2.1 hxc.2.2, by omega, hio, hv64, hic⟩, by simp only [Int.toNat_natCast]; omega⟩
   ·have e2 : ¬ x.state = 2 := by simpa using e2
    rw [if_neg e2] at hic
    refine ⟨⟨i + 1, (va, vn, vc), vs, a, n, c, cs, rfl, by omega, hG, hVs, hcs, by omega, hio, hv64, hic⟩, by simp only [Int.toNat_natCast]; omega⟩
  ·rw [if_pos h3] at hic
   refine (W.aa _ _ _ _).2 ⟨fun _ => ?_, fun e3 => absurd h3 (by simpa using e3)⟩
   have hvl : vn = (v :: r).length := hVs.len
   have hvle : vn ≤ vc := hVs.le
   rw [List.length_cons] at hvl
   refine (W.ah _ _ _).2 ⟨⟨Int.le_refl 0, by omega⟩, ?_⟩
   obtain ⟨av, hav, hhv⟩ := (hVs.mono hE1.md.le).el.aB (i := 0) rfl
   refine bg hav ?_
   have hhv : s1.has (av.add 0) (dJ.f v) := by simpa using hhv
   refine bz (j := 0) (A := av) (by simpa using hhv) (y := bH v) rfl ?_
   refine W.au (tr (Sl.bE (t := (a, n, c)) hG.row (by omega)) hcs.cV hcs.ids (by omega) hxc.1 hxc.2.1 v) ?_
   rintro _ s2 ⟨a2, n2, c2, rfl, hG2⟩
   refine ⟨(((a2, n2, c2), ()), ()), rfl, ?_⟩
   refine (W.ah _ _ _).2 ⟨⟨by omega, by omega, by omega⟩, ?_⟩
   have hl := iS hcs.cV x.id v
   refine ⟨⟨i + 1, (if vc = 1 then va else va.map (·.add 3), vn - 1, vc - 1), r, a2, n2, c2, gI cs x.id v, ?_, by omega, hG2.since hG.md, hVs.tail, hcs.set hxc.1 hxc.2.1 ⟨hvo, hv64 v List.mem_cons_self⟩, by omega, hio, fun y hy => hv64 y (List.mem_cons_of_mem _ hy), hic⟩, by simp only [Int.toNat_natCast]; omega⟩
   simp only [Int.toNat_natCast]
 ·have e : ¬ (i : Int) < (p.c.2.1 : Int) := of_decide_eq_false e
  rw [List.drop_of_length_le (by omega)] at hic
  have hic : cs = CS := hic
  subst hic
  obtain ⟨k, r, hbv⟩ : ∃ k r, b.vals = k :: r := by
   cases hb : b.vals with
   | nil => exact absurd hb hne
   | cons k r => exact ⟨k, r, rfl⟩
  have hkd : b.vals.headD mj = k := by rw [hbv]; (first | done | rfl)
  have hvl : t.2.1 = b.vals.length := hv.len
  rw [hbv, List.length_cons] at hvl
  refine (W.ah _ _ _).2 ⟨⟨Int.le_refl 0, (show (0 : Int) < (t.2.1 : Int) by omega)⟩, ?_⟩
  obtain ⟨av, hav, hhv⟩ := (hv.mono hE1.md.le).el.aB (i := 0) (x := k) (by rw [hbv]; (first | done | rfl))
  refine bg hav ?_
  refine bz (j := 0) (A := av) (by simpa using hhv) (y := bH k) rfl ?_
  have hn := hG.row.len
  have hins : sr S p.T b D = (if iH p.T k D ≠ [] then ⟨210, j6, [cA p.T.id k], []⟩
   else if (eC S p.T k [] cs D).1 ≠ 0 then ⟨(eC S p.T k [] cs D).1, j6, cA p.T.id k :: (eC S p.T k [] cs D).2, []⟩
   else ⟨0, ⟨1, []⟩, cA p.T.id k :: (eC S p.T k [] cs D).2, ec p.T [] cs⟩) := by unfold sr; rw [hkd, hCS]
  have hx8 := hT.x8
  have hk8 := hT.k8
  refine W.au (yB hB hE1 (by omega) hp hT.ne k) ?_
  rintro _ s2 ⟨a2, n2, c2, qs2, rfl, hq2, _, hE2, hk2⟩
  refine ⟨(((a2, n2, c2), ()), ()), rfl, ?_⟩
  rw [hD] at hq2
  have hn2 := hq2.len
  have t2 : Kt s s2 := (Kt.of hG.md).trans hk2
  dsimp only
  refine (W.aa _ _ _ _).2 ⟨fun e => ?_, fun e => ?_⟩
  ·have e : (n2 : Int) > 0 := of_decide_eq_true e
   have : iH p.T k D ≠ [] := fun g => by rw [g] at hn2; simp at hn2; omega
   rw [if_pos this] at hins
   rw [← hR, hins]
   exact ⟨_, rfl, nv.none 0 hE2.md, hE2, t2⟩
  have e : ¬ (n2 : Int) > 0 := of_decide_eq_false e
  have hnil : ¬ iH p.T k D ≠ [] := fun g => g (List.eq_nil_of_length_eq_zero (by omega))
  rw [if_neg hnil] at hins
  have hadl := rO rds (cA p.T.id k)
  have hrow2 : aW bx s2 94 a n c cs := hk2.row hG.row (by decide) (by decide)
  refine W.au (yA (old := []) (new := cs) hB hE2 hS hp (by omega) hT.par k aW.nil (by simp) hrow2 (by omega)) ?_
  rintro _ s3 ⟨rfl, hE3, hk3⟩
  rw [hD] at hE3
  refine ⟨((_, ()), ()), by rw [hD]; (first | done | rfl), ?_⟩
  have t3 := t2.trans hk3
  dsimp only
  refine (W.aa _ _ _ _).2 ⟨fun e => ?_, fun e => ?_⟩
  ·have e : (eC S p.T k [] cs D).1 ≠ 0 := by simpa using e
   rw [if_pos e] at hins
   rw [← hR, hins]
   exact ⟨_, rfl, nv.none 0 hE3.md, hE3, t3⟩
  ·have e : ¬ (eC S p.T k [] cs D).1 ≠ 0 := by simpa using e
   rw [if_neg e] at hins
   have hrow3 : aW bx s3 94 a n c cs := hk3.row hrow2 (by decide) (by decide)
   have hcl2 := kH p.T [] cs
   refine W.au (rX (old := []) (new := cs) hE3 hp (by omega) Sl.nil (Sl.bE (t := (a, n, c)) hrow3 (by omega)) (oy hcs (by omega)) (by omega)) ?_
   rintro _ s4 ⟨rfl, hE4, hk4⟩
   refine ⟨(), rfl, ?_⟩
   rw [← hR, hins]
   exact ⟨_, rfl, nv.none 1 hE4.md, hE4, t3.trans hk4⟩
end
end
section
attribute [-simp] Fw.W.bD Fw.W.bB
theorem tB {T : aO} {h : Ht} {r : Rw} (e : eS T h = some r) : gu h.val = some r.cells ∧ r.cells ≠ [] ∧ r.key = bq r.cells (eJ T) := by
 unfold eS at e
 cases hg : gu h.val with
 | none => rw [hg] at e; cases e
 | some l =>
  rw [hg] at e
  cases l with
  | nil => cases e
  | cons c l => cases e; exact ⟨rfl, by simp, rfl⟩
theorem wG {T : aO} {l : List Ht} {r : Rw} (h : r ∈ iL T l) : ∃ x ∈ l, eS T x = some r := List.mem_filterMap.1 h
theorem zG {T : aO} {k : aR} {D : List Ht} {r : Rw} (h : r ∈ iH T k D) : ∃ x ∈ D, eS T x = some r := by
 obtain ⟨x, hx, e⟩ := wG h
 exact ⟨x, gr hx, e⟩
theorem yc {T : aO} {D : List Ht} {r : Rw} (h : r ∈ (fj T D).2) : ∃ x ∈ D, eS T x = some r := by
 unfold fj at h
 split at h
 ·simp at h
 ·obtain ⟨x, hx, e⟩ := wG h
  exact ⟨x, gr hx, e⟩
theorem tM {T : aO} {b : cD} {D : List Ht} {r : Rw} (h : r ∈ (aZ T b D).2) : ∃ x ∈ D, eS T x = some r := by
 unfold aZ at h
 split at h
 ·exact yc h
 ·split at h
  ·exact zG h
  ·split at h
   ·exact yc (List.mem_filter.1 h).1
   ·split at h
    ·simp at h
    ·obtain ⟨k, _, hk⟩ := List.mem_flatMap.1 h
     exact zG hk
def jN (N : Nat) (D : List Ht) : Prop := ∀ h ∈ D, ∀ l, gu h.val = some l → l.length ≤ N
theorem za : ∀ {x k : List UInt8}, ¬ k < x → k < x ++ [0] → k = x
 | [], [], _, _ => rfl
 | [], b :: k, _, h => by
  simp only [List.nil_append, List.cons_lt_cons_iff] at h
  rcases h with h | ⟨_, h⟩
  ·exact absurd h (by simp [UInt8.lt_iff_toNat_lt])
  ·exact absurd h (by simp)
 | a :: x, [], h, _ => absurd (by simp) h
 | a :: x, b :: k, h, g => by
  simp only [List.cons_append, List.cons_lt_cons_iff] at h g
  rcases g with g | ⟨rfl, g⟩
  ·exact absurd (.inl g) h
  ·rw [za (fun q => h (.inr ⟨rfl, q⟩)) g]
theorem DY {x k : ByteArray} (h : l9 k (x, x ++ ⟨#[0]⟩) = true) : k = x := by
 rw [DX] at h
 simp only [Bool.and_eq_true, Bool.not_eq_true'] at h
 unfold bK at h
 simp only [decide_eq_false_iff_not, decide_eq_true_eq] at h
 apply qe
 have : kL (x ++ ⟨#[0]⟩) = kL x ++ [0] := by unfold kL; simp
 rw [this] at h
 exact za h.1 h.2
theorem IA {D : List Ht} (h : dO D) (x : ByteArray) : (aJ D (x, x ++ ⟨#[0]⟩)).length ≤ 1 := by
 have hs : dO (aJ D (x, x ++ ⟨#[0]⟩)) := h.filter _
 cases hl : aJ D (x, x ++ ⟨#[0]⟩) with
 | nil => simp
 | cons a l =>
  cases l with
  | nil => simp
  | cons b l =>
   rw [hl] at hs
   have h1 := (List.pairwise_cons.1 hs).1 b (by simp)
   have ha : a ∈ aJ D (x, x ++ ⟨#[0]⟩) := by rw [hl]; simp
   have hb : b ∈ aJ D (x, x ++ ⟨#[0]⟩) := by rw [hl]; simp
   have e1 := DY (List.mem_filter.1 ha).2
   have e2 := DY (List.mem_filter.1 hb).2
   rw [e1, e2, fe] at h1; cases h1
theorem zH {T : aO} {k : aR} {D : List Ht} (h : dO D) : (iH T k D).length ≤ 1 := Nat.le_trans (zF T k D) (IA h _)
theorem pZ {α β : Type} {f : α → List β} : ∀ {l : List α}, (∀ x ∈ l, (f x).length ≤ 1) → (l.flatMap f).length ≤ l.length
 | [], _ => by simp
 | x :: l, h => by
  have h1 := pZ (l := l) fun y hy => h y (List.mem_cons_of_mem _ hy)
  have h2 := h x List.mem_cons_self
  rw [List.flatMap_cons, List.length_append, List.length_cons]; omega
theorem rQ {T : aO} {D : List Ht} : (fj T D).2.length ≤ 64 := by
 unfold fj
 split
 ·simp
 ·have := qk T (aJ D (cC T.id)); show (iL T (aJ D (cC T.id))).length ≤ 64; omega
theorem lN {T : aO} {b : cD} {D : List Ht} (h : dO D) : (aZ T b D).2.length ≤ 64 := by
 unfold aZ
 split
 ·exact rQ
 ·split
  ·have := zH (T := T) (k := b.is) h; show (iH T b.is D).length ≤ 64; omega
  ·split
   ·exact Nat.le_trans (List.length_filter_le _ _) rQ
   ·split
    ·simp
    ·rename_i x hx hn
     refine Nat.le_trans (pZ fun k _ => zH h) ?_
     have : (dU (aJ D (cI x.id b.is))).length ≤ (aJ D (cI x.id b.is)).length := List.length_filterMap_le _ _
     omega
theorem oJ {T : aO} {b : cD} {D : List Ht} : (cl T b D).length ≤ 65 := by
 unfold cl
 split
 ·simp
 ·split
  ·simp
  ·split
   ·simp
   ·rename_i x hx
    rw [List.length_cons]
    split
    ·simp
    ·have : (dU (aJ D (cI x.id b.is))).length ≤ (aJ D (cI x.id b.is)).length := List.length_filterMap_le _ _
     rw [List.length_map]; omega
theorem yF (k : aR) (old new : List aX) (D : List Ht) : ∀ l : List eu, (iD k old new D l).2.length ≤ l.length
 | [] => by simp [iD]
 | x :: l => by
  have := yF k old new D l
  unfold iD
  split
  ·split
   ·simp
   ·simp only [List.length_cons]; omega
  ·rw [List.length_cons]; omega
theorem yE (S : aF) (T : aO) (k : aR) (old new : List aX) (D : List Ht) : ∀ l : List For, (gO S T k old new D l).2.length ≤ l.length
 | [] => by simp [gO]
 | x :: l => by
  have := yE S T k old new D l
  unfold gO
  split
  ·split
   ·rw [List.length_cons]; omega
   ·split
    ·simp
    ·simp only [List.length_cons]; omega
  ·rw [List.length_cons]; omega
theorem sd (S : aF) (T : aO) (k : aR) (old new : List aX) (D : List Ht) : (eC S T k old new D).2.length ≤ T.idxs.length + T.keys.length := by
 have h1 := yF k old new D T.idxs
 have h2 := yE S T k old new D T.keys
 unfold eC
 split
 ·omega
 ·rw [List.length_append]; omega
theorem cS (ts : Int) (l : List Ht) (a b : List Wr) : aj ts l (a ++ b) = aj ts (aj ts l a) b := List.foldl_append
theorem Bs {T : aO} {S : aF} {b : cD} {r : Rw} (hT : gh S T) (hr : fX r.cells) (h1 : 1 ≤ b.set) (h2 : b.set ≤ 9223372036854775807) (hto : jk b.to) : fX (jE T b r) ∧ (jE T b r).length ≤ r.cells.length + 9 := by
 have key : ∀ (l : List bZ) (cs : List aX), (∀ c ∈ l, 1 ≤ c.id ∧ c.id ≤ 9223372036854775807 ∧ jk c.dflt) → fX cs → fX (pV l cs) ∧ (pV l cs).length ≤ cs.length + l.length := by
  intro l
  induction l with
  | nil => intro cs _ h; exact ⟨h, Nat.le_refl _⟩
  | cons c l ih =>
   intro cs hc h
   have hc1 := hc c List.mem_cons_self
   have hcl : ∀ x ∈ l, 1 ≤ x.id ∧ x.id ≤ 9223372036854775807 ∧ jk x.dflt := fun x hx => hc x (List.mem_cons_of_mem _ hx)
   unfold pV
   split
   ·have hl := iS h.cV c.id c.dflt
    obtain ⟨i1, i2⟩ := ih _ hcl (h.set hc1.1 hc1.2.1 hc1.2.2)
    exact ⟨i1, by rw [List.length_cons]; omega⟩
   ·obtain ⟨i1, i2⟩ := ih _ hcl h
    exact ⟨i1, by rw [List.length_cons]; omega⟩
 have hl := iS hr.cV b.set b.to
 have hc8 := hT.c8
 obtain ⟨i1, i2⟩ := key T.cols _ hT.cols (hr.set h1 h2 hto)
 exact ⟨i1, by unfold jE; omega⟩
section
variable {s0 s : PH} {w : Nat} {S : aF} {tt sh : aG} {B : List Ht} {rds : List cq} {ov : List Wr}
def Kd (s0 s : PH) (w : Nat) (S : aF) (tt sh : aG) (B : List Ht) (rds : List cq) (ov : List Wr) (f : List Rw → List Ht → Int × List cq × List Wr) (m k : Nat) (L : List Rw) (D : List Ht) (i : Nat) (s' : PH) : Prop :=
 ∃ A Wl, A.length ≤ i * m ∧ Wl.length ≤ i * k ∧ EJ s0 s' w S tt sh B (bJ rds A) (Wl.foldl cv ov) ∧ Kt s s' ∧
  (f L D).1 = (f (L.drop i) (aj 0 D Wl)).1 ∧ (f L D).2.1 = A ++ (f (L.drop i) (aj 0 D Wl)).2.1 ∧ (f L D).2.2 = Wl ++ (f (L.drop i) (aj 0 D Wl)).2.2
theorem DJ {ps : List ay} {N : Nat} (hB : iC s0 sh B) (h : EJ s0 s w S tt sh B rds ov) (hS : cX s0 tt S ps) {p : ay} (hp : eZ s0 p) (hT : gh S p.T) {b : cD} {t : aG} (hN : jN N (aj 0 B ov)) (hNl : N ≤ 14000) (hb1 : 1 ≤ b.set) (hb2 : b.set ≤ 9223372036854775807) (hto : jk b.to)
  (hrl : rds.length + 100000 ≤ 4000000) (hol : ov.length + 60000 ≤ 800000) :
  ai 59 #[cp w, dR p.T p.c p.x p.k, nc b t] s (kD s0 s w S tt sh B rds ov (sO S p.T b (aj 0 B ov))) := by
 refine CJ w p.T.id p.T.name p.c.1 p.c.2.1 p.c.2.2 p.x.1 p.x.2.1 p.x.2.2 p.k.1 p.k.2.1 p.k.2.2 b.kind b.table t.1 t.2.1 t.2.2 b.set b.to.kind b.to.n b.to.s b.whr b.is.kind b.is.n b.is.s _ s ?_
 unfold uO
 obtain ⟨R, hR⟩ : ∃ R : Value → PH → Prop, kD s0 s w S tt sh B rds ov (sO S p.T b (aj 0 B ov)) = R := ⟨_, rfl⟩
 rw [hR]
 obtain ⟨D, hD⟩ : ∃ D, aj 0 B ov = D := ⟨_, rfl⟩
 have hDs : dO D := by rw [← hD]; exact fD _ hB.cV
 have hds := gP hB h.cV h.sm
 have hputs : ∀ Wl : List Wr, aj 0 B (Wl.foldl cv ov) = aj 0 D Wl := fun Wl => by rw [← hD]; exact (jl hB.cV Wl h.cV).symm
 rw [hD] at hR hN hds
 have hcl : p.c.2.1 = p.T.cols.length := hp.c.len
 have hc8 := hT.c8
 have hx8 := hT.x8
 have hk8 := hT.k8
 simp only [aS, aN, aP, aQ, bI, aU, aE]
 have hA65 := oJ (T := p.T) (b := b) (D := D)
 have hm := rW hB h (by omega) hp hT.ne b t
 rw [hD] at hm
 refine W.au hm ?_
 rintro _ s1 ⟨a, n, c, qs, rfl, hq, hE1, t1⟩
 refine ⟨(((a, n, c), ()), ((aZ p.T b D).1, ()), ()), rfl, ?_⟩
 dsimp only
 obtain ⟨L, hL⟩ : ∃ L, (aZ p.T b D).2 = L := ⟨_, rfl⟩
 have hLlen : L.length ≤ 64 := by rw [← hL]; exact lN hDs
 have hLm : ∀ r ∈ L, fX r.cells ∧ r.cells.length ≤ N := fun r hr => by
  rw [← hL] at hr
  obtain ⟨x, hx, e⟩ := tM hr
  have hg := (tB e).1
  exact ⟨(vi (hds.2 x hx) hg).p, hN x hx _ hg⟩
 have hupd : sO S p.T b D = (if (aZ p.T b D).1 ≠ 0 then ⟨(aZ p.T b D).1, j6, cl p.T b D, []⟩
  else if (fm S p.T b L D).1 ≠ 0 then ⟨(fm S p.T b L D).1, j6, cl p.T b D ++ (fm S p.T b L D).2.1, (fm S p.T b L D).2.2⟩
  else ⟨0, ⟨L.length, []⟩, cl p.T b D ++ (fm S p.T b L D).2.1, (fm S p.T b L D).2.2⟩) := by unfold sO; rw [hL]
 rw [hL] at hq
 have hnl := hq.len
 refine (W.aa _ _ _ _).2 ⟨fun e => ?_, fun e => ?_⟩
 ·have e : (aZ p.T b D).1 ≠ 0 := by simpa using e
  rw [if_pos e] at hupd
  rw [← hR, hupd]
  exact ⟨_, rfl, nv.none 0 hE1.md, hE1, t1⟩
 have e : ¬ (aZ p.T b D).1 ≠ 0 := by simpa using e
 rw [if_neg e] at hupd
 have hA1 := ey (cl p.T b D) rds
 have hqlen : qs.length = n := hq.gw.row.len.symm
 refine ⟨fun z s' => ∃ (i : Nat), z = ((p.T.id, p.T.name, p.c, p.x, p.k, ()), uU b t, ((0 : Int), ((none, 0, 0) : aG), ()), ((a, n, c), ()), ((a, n, c), ()), ((n : Int), ()), ((i : Int), ()), ()) ∧ i ≤ n ∧ Kd s0 s w S tt sh B (bJ rds (cl p.T b D)) ov (fm S p.T b) 16 17 L D i s' ∧ eY s0 s' a n c L qs,
  fun z _ => n - z.2.2.2.2.2.2.1.1.toNat, ⟨0, rfl, Nat.zero_le _, ⟨[], [], by simp, by simp, hE1, t1, rfl, rfl, rfl⟩, hq⟩, ?_⟩
 rintro _ s2 ⟨i, rfl, hi, ⟨A, Wl, hA, hW, hE2, t2, u1, u2, u3⟩, hq2⟩
 dsimp only
 have hA2 := ey A (bJ rds (cl p.T b D))
 have hW2 := lu Wl ov
 refine (W.aa _ _ _ _).2 ⟨fun e => ?_, fun e => ?_⟩
 rotate_left
 ·have e : ¬ (i : Int) < (n : Int) := of_decide_eq_false e
  rw [List.drop_of_length_le (by omega)] at u1 u2 u3
  have u1 : (fm S p.T b L D).1 = 0 := u1
  have u2 : (fm S p.T b L D).2.1 = A := by rw [u2]; exact List.append_nil _
  have u3 : (fm S p.T b L D).2.2 = Wl := by rw [u3]; exact List.append_nil _
  rw [u1, if_neg (by decide), u2, u3] at hupd
  rw [← hR, hupd]
  refine ⟨_, rfl, ?_, by rw [cL]; exact hE2, t2⟩
  have := nv.none (L.length : Int) hE2.md
  rw [← hnl] at this ⊢
  exact this
 have hlt : (i : Int) < (n : Int) := of_decide_eq_true e
 obtain ⟨q, hqi⟩ : ∃ q, qs[i]? = some q := ⟨_, List.getElem?_eq_getElem (by omega)⟩
 have hqm := List.mem_of_getElem? hqi
 have hLi : L[i]? = some q.r := by rw [← hq.eq, List.getElem?_map, hqi]; (first | done | rfl)
 obtain ⟨hcP, hcN⟩ := hLm q.r (List.mem_of_getElem? hLi)
 obtain ⟨g, rfl, hh⟩ := hq2.gw.row.at hqi
 refine (W.ah _ _ _).2 ⟨⟨Int.natCast_nonneg i, hlt⟩, ?_⟩
 simp only [dh, Int.toNat_natCast, aY, Nat.zero_add]
 have hh : s2.has ⟨g, i * 4, none⟩ (lJ.f q) := hh
 refine aC hh (y := wI q.r q.u) rfl ?_
 rw [bO hLi] at u1 u2 u3
 have hqc := (hq2.cs q hqm).1
 dsimp only
 refine W.au (tr (Sl.bE (t := q.u) hqc (by omega)) hcP.cV hcP.ids (by have := hqc.len; show q.u.2.1 ≤ 4000000; omega) hb1 hb2 b.to) ?_
 rintro _ s3 ⟨a3, n3, c3, rfl, hG3⟩
 refine ⟨(((a3, n3, c3), ()), ()), rfl, ?_⟩
 obtain ⟨NW, hNW⟩ : ∃ NW, jE p.T b q.r = NW := ⟨_, rfl⟩
 obtain ⟨hNW1, hNW2⟩ := Bs (r := q.r) hT hcP hb1 hb2 hto
 rw [hNW] at hNW1 hNW2
 have hcP3 := hcP.set hb1 hb2 hto
 have hl3 := iS hcP.cV b.set b.to
 refine ⟨fun z s' => ∃ (j : Nat) (a4 : Option Addr) (n4 c4 : Nat) (cs : List aX), z = ((p.T.id, p.T.name, p.c, p.x, p.k, ()), uU b t, ((0 : Int), ((none, 0, 0) : aG), ()), ((some ⟨g, 0, none⟩, n, c), ()), wI q.r q.u, ((a4, n4, c4), ()), ((some ⟨g, 0, none⟩, n, c), ()), ((n : Int), ()), ((i : Int), ()), (p.c, ()), ((p.c.2.1 : Int), ()), ((j : Int), ()), ()) ∧ j ≤ p.c.2.1 ∧ Gw bx 94 s2 s' a4 n4 c4 cs ∧ fX cs ∧ cs.length ≤ N + 1 + j ∧ pV (p.T.cols.drop j) cs = NW,
  fun z _ => p.c.2.1 - z.2.2.2.2.2.2.2.2.2.2.2.1.1.toNat, ⟨0, a3, n3, c3, _, rfl, Nat.zero_le _, hG3, hcP3, by omega, hNW⟩, ?_⟩
 rintro _ s4 ⟨j, a4, n4, c4, cs, rfl, hj, hG4, hcs, hcsl, hfil⟩
 dsimp only
 have hn4 := hG4.row.len
 have hE4 := hE2.same hG4.md
 refine (W.aa _ _ _ _).2 ⟨fun e => ?_, fun e => ?_⟩
 ·have hlj : (j : Int) < (p.c.2.1 : Int) := of_decide_eq_true e
  obtain ⟨x, hx⟩ : ∃ x, p.T.cols[j]? = some x := ⟨_, List.getElem?_eq_getElem (by omega)⟩
  have hxc := hT.cols x (List.mem_of_getElem? hx)
  obtain ⟨ad, had, hhx⟩ := (hp.c.mono hE4.md.le).el.aB hx
  refine (W.ah _ _ _).2 ⟨⟨Int.natCast_nonneg j, hlj⟩, ?_⟩
  refine bg had ?_
  simp only [Int.toNat_natCast]
  have hhx : s4.has (ad.add (j * 7)) (dx.f x) := hhx
  refine aC hhx (y := yI x) rfl ?_
  rw [bO hx] at hfil
  unfold pV at hfil
  rw [ak (k := j) (by omega)]
  dsimp only
  refine (W.aa _ _ _ _).2 ⟨fun e2 => ?_, fun e2 => ?_⟩
  ·have e2 : x.state = 2 := eq_of_beq e2
   refine aL ((gR cs x.id, ()), ()) (Jb (Sl.bE (t := (a4, n4, c4)) hG4.row (by omega)) x.id) rfl ?_
   dsimp only
   refine (W.aa _ _ _ _).2 ⟨fun e3 => ?_, fun e3 => ?_⟩
   ·have e3 : gR cs x.id = false := by simpa using e3
    rw [if_pos ⟨e2, e3⟩] at hfil
    refine W.au (tr (Sl.bE (t := (a4, n4, c4)) hG4.row (by omega)) hcs.cV hcs.ids (by omega) hxc.1 hxc.2.1 x.dflt) ?_
    rintro _ s5 ⟨a5, n5, c5, rfl, hG5⟩
    refine ⟨(((a5, n5, c5), ()), ()), rfl, ?_⟩
    have hl := iS hcs.cV x.id x.dflt
    exact ⟨⟨j + 1, a5, n5, c5, gI cs x.id x.dflt, rfl, by omega, hG5.since hG4.md, hcs.set hxc.1 hxc.2.1 hxc.2.2, by omega, hfil⟩, by simp only [Int.toNat_natCast]; omega⟩
   ·have e3 : gR cs x.id = true := by simpa using e3
    rw [if_neg (fun g => by rw [e3] at g; cases g.2)] at hfil
    exact ⟨⟨j + 1, a4, n4, c4, cs, rfl, by omega, hG4, hcs, by omega, hfil⟩, by simp only [Int.toNat_natCast]; omega⟩
  ·have e2 : ¬ x.state = 2 := by simpa using e2
   rw [if_neg (fun g => e2 g.1)] at hfil
   exact ⟨⟨j + 1, a4, n4, c4, cs, rfl, by omega, hG4, hcs, by omega, hfil⟩, by simp only [Int.toNat_natCast]; omega⟩
 ·have e : ¬ (j : Int) < (p.c.2.1 : Int) := of_decide_eq_false e
  rw [List.drop_of_length_le (by omega)] at hfil
  have hfil : cs = NW := hfil
  subst hfil
  have hqc4 := hqc.mod hG4.md (by simp)
  have hqcl := hqc.len
  have t4 : Kt s s4 := t2.trans (Kt.of hG4.md)
  refine W.au (yA (old := q.r.cells) (new := cs) hB hE4 hS hp (by omega) hT.par q.r.key hqc4 (by omega) hG4.row (by omega)) ?_
  rintro _ s5 ⟨rfl, hE5, hk5⟩
  rw [hputs Wl] at hE5
  have hcpl := sd S p.T q.r.key q.r.cells cs (aj 0 D Wl)
  refine ⟨(((eC S p.T q.r.key q.r.cells cs (aj 0 D Wl)).1, ()), ()), by rw [hputs Wl]; (first | done | rfl), ?_⟩
  have t5 := t4.trans hk5
  dsimp only
  rw [fm] at u1 u2 u3
  rw [hNW] at u1 u2 u3
  refine (W.aa _ _ _ _).2 ⟨fun e => ?_, fun e => ?_⟩
  ·have e : (eC S p.T q.r.key q.r.cells cs (aj 0 D Wl)).1 ≠ 0 := by simpa using e
   rw [if_pos e] at u1 u2 u3
   dsimp only at u1 u2 u3
   rw [u1, if_pos e, u2, u3, List.append_nil] at hupd
   rw [← hR, hupd]
   exact ⟨_, rfl, nv.none 0 hE5.md, by rw [cL, cL]; exact hE5, t5⟩
  ·have e : ¬ (eC S p.T q.r.key q.r.cells cs (aj 0 D Wl)).1 ≠ 0 := by simpa using e
   rw [if_neg e] at u1 u2 u3
   dsimp only at u1 u2 u3
   have hcl2 := kH p.T q.r.cells cs
   have hold5 := hk5.row hqc4 (by decide) (by decide)
   have hnew5 := hk5.row hG4.row (by decide) (by decide)
   refine W.au (rX hE5 hp (by omega) (Sl.bE (t := q.u) hold5 (by omega)) (Sl.bE (t := (a4, n4, c4)) hnew5 (by omega)) (oy hcs (by omega)) (by omega)) ?_
   rintro _ s6 ⟨rfl, hE6, hk6⟩
   refine ⟨(), rfl, ?_⟩
   have t6 := t5.trans hk6
   rw [ak (k := i) (by omega)]
   refine ⟨⟨i + 1, rfl, by omega, ⟨A ++ (eC S p.T q.r.key q.r.cells cs (aj 0 D Wl)).2, Wl ++ ec p.T q.r.cells cs, ?_, ?_, ?_, t6, ?_, ?_, ?_⟩, hk6.rws (hk5.rws (hq2.same hG4.md) hE5.md) hE6.md⟩, by simp only [Int.toNat_natCast]; omega⟩
   ·rw [List.length_append]; omega
   ·rw [List.length_append]; omega
   ·rw [cL, List.foldl_append]; exact hE6
   ·rw [cS, u1]
   ·rw [cS, u2, List.append_assoc]
   ·rw [cS, u3, List.append_assoc]
end
end
section
attribute [-simp] Fw.W.bD Fw.W.bB
abbrev CU (r : Rw) (u : aG) : Obj := .cells #[.int .i64 r.key.kind, .int .i64 r.key.n, .string r.key.s, .slice u.1 u.2.1 u.2.2] 234 (0, 0)
abbrev mD (q : ay) : Obj := .cells #[.int .i64 q.T.id, .string q.T.name, .slice q.c.1 q.c.2.1 q.c.2.2, .slice q.x.1 q.x.2.1 q.x.2.2, .slice q.k.1 q.k.2.1 q.k.2.2] 139 (0, 0)
theorem FD {s : PH} {p q r2 u : Nat} {x : For} {r c : Rw} {ru cu : aG} {U T : ay} (hp : s p = some (vh x)) (hq : s q = some (CU r ru)) (hr : s r2 = some (mD U)) (hu : s u = some (mD T)) (hc : Sl bx s cu c.cells) :
  ai 198 #[JD c cu, cp p, cp q, cp r2, cp u] s fun y s' => y = .bool (lg T.T U.T r x c) ∧ s' = s := by
 obtain ⟨ca, cn, cc⟩ := cu
 refine Eu c.key.kind c.key.n c.key.s ca cn cc p q r2 u _ s ?_
 unfold xh lg
 simp only [bI, bP, aN, aE, aY, Nat.zero_add]
 refine (W.aA hp _ _ _ _).2 ⟨(x.column, ()), rfl, ?_⟩
 refine W.bX (bH (bq c.cells x.column), ()) (kR hc x.column) rfl ?_
 refine (W.aA hq _ _ _ _).2 ⟨bH r.key, rfl, ?_⟩
 dsimp only
 have h1 := jf (bq c.cells x.column) r.key
 have h2 := jf c.key r.key
 refine (W.aa _ _ _ _).2 ⟨fun e => ?_, fun e => ?_⟩
 ·have e : decide (bq c.cells x.column = r.key) = true := by rw [← h1]; exact e
  rw [e, Bool.true_and]
  refine (W.aA hr _ _ _ _).2 ⟨(U.T.id, ()), rfl, ?_⟩
  refine (W.aA hu _ _ _ _).2 ⟨(T.T.id, ()), rfl, ?_⟩
  refine (W.aa _ _ _ _).2 ⟨fun e2 => ?_, fun e2 => ?_⟩
  ·have e2 : U.T.id ≠ T.T.id := by simpa using e2
   exact ⟨by rw [decide_eq_true e2]; (first | done | rfl), rfl⟩
  ·have e2 : ¬ U.T.id ≠ T.T.id := by simpa using e2
   refine (W.aA hq _ _ _ _).2 ⟨bH r.key, rfl, ?_⟩
   refine ⟨?_, rfl⟩
   rw [decide_eq_false e2, Bool.false_or, decide_not, ← h2]
 ·have e : decide (bq c.cells x.column = r.key) = false := by rw [← h1]; exact e
  exact ⟨by rw [e]; (first | done | rfl), rfl⟩
theorem Au {s : PH} {a : Option Addr} {n c p q r2 u : Nat} {x : For} {r : Rw} {ru : aG} {U T : ay} {qs : List ic} (h : Sl lJ s (a, n, c) qs) (hcs : ∀ z ∈ qs, Sl bx s z.u z.r.cells) (hp : s p = some (vh x)) (hq : s q = some (CU r ru)) (hr : s r2 = some (mD U)) (hu : s u = some (mD T)) :
  ai 197 #[.slice a n c, .func (.func 198) #[] #[cp p, cp q, cp r2, cp u]] s fun y s' => y = .bool ((qs.map (·.r)).any (lg T.T U.T r x)) ∧ s' = s := by
 have hidx : ai 238 #[.slice a n c, .func (.func 198) #[] #[cp p, cp q, cp r2, cp u]] s fun y s' => y = .int .i64 (aI (fun z : ic => lg T.T U.T r x z.r) qs 0) ∧ s' = s := by
  refine vu a n c p q r2 u _ s ?_
  unfold nW
  exact jB (fun z : ic => wI z.r z.u) h (fun _ => rfl) (fun z hz => FD hp hq hr hu (hcs z hz)) ⟨rfl, rfl⟩
 refine zj a n c p q r2 u _ s ?_
 unfold qw
 simp only [aU, aE]
 refine aL ((aI (fun z : ic => lg T.T U.T r x z.r) qs 0, ()), ()) hidx rfl ?_
 refine ⟨?_, rfl⟩
 show Value.bool (decide (aI (fun z : ic => lg T.T U.T r x z.r) qs 0 ≥ 0)) = _
 rw [sK, List.any_map]; (first | done | rfl)
def KD (s0 s : PH) (w : Nat) (S : aF) (tt sh : aG) (B : List Ht) (rds : List cq) (ov : List Wr) (T : aO) (r : Rw) (D : List Ht) (i : Nat) (s' : PH) : Prop := ∃ A, A.length ≤ i * 8 ∧ EJ s0 s' w S tt sh B (bJ rds A) ov ∧ Kt s s' ∧ (fG T r D S.tabs).1 = (fG T r D (S.tabs.drop i)).1 ∧ (fG T r D S.tabs).2 = A ++ (fG T r D (S.tabs.drop i)).2
def J7 (s0 s : PH) (w : Nat) (S : aF) (tt sh : aG) (B : List Ht) (rds : List cq) (ov : List Wr) (T U : aO) (r : Rw) (D : List Ht) (l : List For) (i : Nat) (s' : PH) : Prop := ∃ A, A.length ≤ i ∧ EJ s0 s' w S tt sh B (bJ rds A) ov ∧ Kt s s' ∧ (iE T U r D l).1 = (iE T U r D (l.drop i)).1 ∧ (iE T U r D l).2 = A ++ (iE T U r D (l.drop i)).2
section
variable {s0 s : PH} {w : Nat} {S : aF} {tt sh : aG} {B : List Ht} {rds : List cq} {ov : List Wr}
theorem HS {ps : List ay} (hB : iC s0 sh B) (h : EJ s0 s w S tt sh B rds ov) (hS : cX s0 tt S ps) (hAll : ∀ T ∈ S.tabs, gh S T) (hT6 : S.tabs.length ≤ 6) (p : ay) {r : Rw} {u : aG} (hrl : rds.length + 1000 ≤ 4000000) :
  ai 126 #[cp w, dR p.T p.c p.x p.k, JD r u] s fun y s' => y = .int .i64 (fG p.T r (aj 0 B ov) S.tabs).1 ∧ EJ s0 s' w S tt sh B (bJ rds (fG p.T r (aj 0 B ov) S.tabs).2) ov ∧ Kt s s' := by
 refine Gq w p.T.id p.T.name p.c.1 p.c.2.1 p.c.2.2 p.x.1 p.x.2.1 p.x.2.2 p.k.1 p.k.2.1 p.k.2.2 r.key.kind r.key.n r.key.s u.1 u.2.1 u.2.2 _ s ?_
 unfold Ao
 obtain ⟨D, hD⟩ : ∃ D, aj 0 B ov = D := ⟨_, rfl⟩
 obtain ⟨R, hR⟩ : ∃ R : Value → PH → Prop, (fun y s' => y = .int .i64 (fG p.T r (aj 0 B ov) S.tabs).1 ∧ EJ s0 s' w S tt sh B (bJ rds (fG p.T r (aj 0 B ov) S.tabs).2) ov ∧ Kt s s') = R := ⟨_, rfl⟩
 rw [hR]
 rw [hD] at hR
 have hds := gP hB h.cV h.sm
 have hall := fun {s : PH} {rds : List cq} {p : ay} (hp : eZ s0 p) (hc : p.T.cols ≠ []) (h : EJ s0 s w S tt sh B rds ov) (hrl : rds.length ≤ 4000000) => DA (p := p) hB h hrl hp hc
 rw [hD] at hds
 simp only [hD] at hall
 simp only [bU, bI, gN, aN, aU, aE, aP, aQ, aS, cE, dh, aY, Nat.zero_add]
 refine W.bG fun r0 s1 hr0 m1 k0 => ?_
 refine W.bG fun r1 s2 hr1 m2 k1 => ?_
 have m02 : Fw.Mod [] s s2 := m1.trans m2
 have h2 := h.same m02
 have kk0 : s2 r0 = some (mD p) := m2.at k0 (by simp)
 have kk1 : s2 r1 = some (CU r u) := k1
 have hbl : s2 w = s2 w := rfl
 obtain ⟨rr, mb, mo, qs0, bs, f, hx2⟩ := h2.ei
 refine (W.aA hx2.aH _ _ _ _).2 ⟨(tt, ()), rfl, ?_⟩
 have hpl : S.tabs.length = ps.length := by rw [hS.eq, List.length_map]
 have htl : tt.2.1 = ps.length := hS.el.len
 refine ⟨fun z s' => ∃ i : Nat, z = ((⟨r0, 0, none⟩, ()), (⟨r1, 0, none⟩, ()), (tt, ()), ((tt.2.1 : Int), ()), ((i : Int), ()), ()) ∧ i ≤ tt.2.1 ∧ KD s0 s2 w S tt sh B rds ov p.T r D i s',
  fun z _ => tt.2.1 - z.2.2.2.2.1.1.toNat, ⟨0, rfl, Nat.zero_le _, [], Nat.zero_le _, h2, Kt.refl _, by rw [List.drop_zero], by rw [List.drop_zero]; (first | done | rfl)⟩, ?_⟩
 rintro _ s3 ⟨i, rfl, hi, A, hA, hE3, t3, c1, c2⟩
 dsimp only
 refine (W.aa _ _ _ _).2 ⟨fun e => ?_, fun e => ?_⟩
 rotate_left
 ·have e : ¬ (i : Int) < (tt.2.1 : Int) := of_decide_eq_false e
  rw [List.drop_of_length_le (by omega)] at c1 c2
  have c1 : (fG p.T r D S.tabs).1 = 0 := c1
  have c2 : (fG p.T r D S.tabs).2 = A := by rw [c2]; exact List.append_nil _
  rw [← hR, c1, c2]
  exact ⟨rfl, hE3, (Kt.of m02).trans t3⟩
 have hlt : (i : Int) < (tt.2.1 : Int) := of_decide_eq_true e
 obtain ⟨q, hq⟩ : ∃ q, ps[i]? = some q := ⟨_, List.getElem?_eq_getElem (by omega)⟩
 have hqm := List.mem_of_getElem? hq
 have hti : S.tabs[i]? = some q.T := by rw [hS.eq, List.getElem?_map, hq]; (first | done | rfl)
 have hqT := hAll q.T (List.mem_of_getElem? hti)
 have hqI := hS.all q hqm
 have hk8 := hqT.k8
 obtain ⟨at_, hat, hht⟩ := (hS.mono hE3.md.le).el.el.aB hq
 refine (W.ah _ _ _).2 ⟨⟨Int.natCast_nonneg i, hlt⟩, ?_⟩
 refine bg hat ?_
 simp only [Int.toNat_natCast]
 have hht : s3.has (at_.add (i * 5)) (dQ.f q) := hht
 refine aC hht (y := mC q) rfl ?_
 refine W.bG fun r2 s4 hr2 m4 k4 => ?_
 refine kg (c' := #[.int .i64 q.T.id, .string q.T.name, .slice q.c.1 q.c.2.1 q.c.2.2, .slice q.x.1 q.x.2.1 q.x.2.2, .slice q.k.1 q.k.2.1 q.k.2.2]) k4 (by show 0 + 5 ≤ 5; omega) (by simp [Value.oneCell']) rfl ?_
 intro s5 hs5
 have k5 : s5 r2 = some (mD q) := by rw [hs5, PH.bA]
 have m5 : Fw.Mod [] s3 s5 := by rw [hs5]; exact m4.bQ (.inr hr2)
 have hE5 := hE3.same m5
 have t5 : Kt s2 s5 := t3.trans (Kt.of m5)
 refine (W.aA k5 _ _ _ _).2 ⟨(q.k, ()), rfl, ?_⟩
 rw [bO hti, fG] at c1 c2
 have hkl : q.k.2.1 = q.T.keys.length := hqI.k.len
 have hAl := ey A rds
 dsimp only
 refine ⟨fun z s' => ∃ j : Nat, z = ((⟨r0, 0, none⟩, ()), (⟨r1, 0, none⟩, ()), (⟨r2, 0, none⟩, ()), (tt, ()), ((tt.2.1 : Int), ()), ((i : Int), ()), (q.k, ()), ((q.k.2.1 : Int), ()), ((j : Int), ()), ()) ∧ j ≤ q.k.2.1 ∧ J7 s0 s5 w S tt sh B (bJ rds A) ov p.T q.T r D q.T.keys j s',
  fun z _ => q.k.2.1 - z.2.2.2.2.2.2.2.2.1.1.toNat, ⟨0, rfl, Nat.zero_le _, [], Nat.le_refl _, hE5, Kt.refl _, by rw [List.drop_zero], by rw [List.drop_zero]; (first | done | rfl)⟩, ?_⟩
 rintro _ s6 ⟨j, rfl, hj, A2, hA2, hE6, t6, d1, d2⟩
 have hAl2 := ey A2 (bJ rds A)
 dsimp only
 refine (W.aa _ _ _ _).2 ⟨fun e => ?_, fun e => ?_⟩
 rotate_left
 ·have e : ¬ (j : Int) < (q.k.2.1 : Int) := of_decide_eq_false e
  rw [List.drop_of_length_le (by omega)] at d1 d2
  have d1 : (iE p.T q.T r D q.T.keys).1 = 0 := d1
  have d2 : (iE p.T q.T r D q.T.keys).2 = A2 := by rw [d2]; exact List.append_nil _
  rw [if_neg (by rw [d1]; decide)] at c1 c2
  dsimp only at c1 c2
  rw [ak (k := i) (by omega)]
  refine ⟨⟨i + 1, rfl, by omega, A ++ A2, by rw [List.length_append]; omega, by rw [cL]; exact hE6, t5.trans t6, c1, by rw [c2, d2, List.append_assoc]⟩, by simp only [Int.toNat_natCast]; omega⟩
 have hlj : (j : Int) < (q.k.2.1 : Int) := of_decide_eq_true e
 obtain ⟨x, hx⟩ : ∃ x, q.T.keys[j]? = some x := ⟨_, List.getElem?_eq_getElem (by omega)⟩
 obtain ⟨ad, had, hh⟩ := (hqI.k.mono hE6.md.le).el.aB hx
 refine (W.ah _ _ _).2 ⟨⟨Int.natCast_nonneg j, hlj⟩, ?_⟩
 refine bg had ?_
 simp only [Int.toNat_natCast]
 have hh : s6.has (ad.add (j * 5)) (lF.f x) := hh
 refine aC hh (y := Jn x) rfl ?_
 refine W.bG fun r3 s7 hr3 m7 k7 => ?_
 refine kg (c' := #[.int .i64 x.id, .string x.name, .int .i64 x.column, .int .i64 x.parent, .int .i64 x.state]) k7 (by show 0 + 5 ≤ 5; omega) (by simp [Value.oneCell']) rfl ?_
 intro s8 hs8
 have k8 : s8 r3 = some (vh x) := by rw [hs8, PH.bA]
 have m8 : Fw.Mod [] s6 s8 := by rw [hs8]; exact m7.bQ (.inr hr3)
 have hE8 := hE6.same m8
 have t8 : Kt s5 s8 := t6.trans (Kt.of m8)
 have k80 : s8 r0 = some (mD p) := t8 r0 _ _ (t5 r0 _ _ kk0 (by decide) (by decide)) (by decide) (by decide)
 have k81 : s8 r1 = some (CU r u) := t8 r1 _ _ (t5 r1 _ _ kk1 (by decide) (by decide)) (by decide) (by decide)
 have k82 : s8 r2 = some (mD q) := t8 r2 _ _ k5 (by decide) (by decide)
 rw [bO hx, iE] at d1 d2
 rw [ak (k := j) (by omega)]
 cases hcond : (x.parent == p.T.id && cj x.state) with
 | false =>
  have hno : ¬ (x.parent = p.T.id ∧ cj x.state = true) := fun g => by rw [g.1, g.2] at hcond; simp at hcond
  rw [if_neg hno] at d1 d2
  have hskip : J7 s0 s5 w S tt sh B (bJ rds A) ov p.T q.T r D q.T.keys (j + 1) s8 := ⟨A2, by omega, hE8, t8, d1, d2⟩
  refine W.bl (fun z s' => False) (fun _ _ hf => hf.elim) ?_
  intro J hJ
  refine (W.aA k8 _ _ _ _).2 ⟨(x.parent, ()), rfl, ?_⟩
  refine (W.aA k80 _ _ _ _).2 ⟨(p.T.id, ()), rfl, ?_⟩
  dsimp only
  refine (W.aa _ _ _ _).2 ⟨fun e1 => ⟨⟨j + 1, rfl, by omega, hskip⟩, by simp only [Int.toNat_natCast]; omega⟩, fun e1 => ?_⟩
  have e1 : x.parent = p.T.id := by simpa using e1
  refine (W.aA k8 _ _ _ _).2 ⟨(x.state, ()), rfl, ?_⟩
  refine aL ((cj x.state, ()), ()) (jG x.state s8) rfl ?_
  refine (W.aa _ _ _ _).2 ⟨fun e3 => ⟨⟨j + 1, rfl, by omega, hskip⟩, by simp only [Int.toNat_natCast]; omega⟩, fun e3 => ?_⟩
  have e3 : cj x.state = true := by simpa using e3
  exact absurd ⟨e1, e3⟩ hno
 | true =>
  simp only [Bool.and_eq_true, beq_iff_eq] at hcond
  rw [if_pos hcond] at d1 d2
  refine W.bl (fun z s' => z = ((⟨r0, 0, none⟩, ()), (⟨r1, 0, none⟩, ()), (⟨r2, 0, none⟩, ()), (⟨r3, 0, none⟩, ()), (tt, ()), ((tt.2.1 : Int), ()), ((i : Int), ()), (q.k, ()), ((q.k.2.1 : Int), ()), ((j : Int), ()), ()) ∧ s8 = s') ?_ ?_
  rotate_left
  ·intro J hJ
   refine (W.aA k8 _ _ _ _).2 ⟨(x.parent, ()), rfl, ?_⟩
   refine (W.aA k80 _ _ _ _).2 ⟨(p.T.id, ()), rfl, ?_⟩
   dsimp only
   refine (W.aa _ _ _ _).2 ⟨fun e1 => absurd hcond.1 (by simpa using e1), fun e1 => ?_⟩
   refine (W.aA k8 _ _ _ _).2 ⟨(x.state, ()), rfl, ?_⟩
   refine aL ((cj x.state, ()), ()) (jG x.state s8) rfl ?_
   refine (W.aa _ _ _ _).2 ⟨fun e3 => (by dsimp only at e3; rw [hcond.2] at e3; cases e3), fun _ => hJ _ _ ⟨rfl, rfl⟩⟩
  rintro _ s8 ⟨rfl, rfl⟩
  dsimp only
  refine (W.aA k82 _ _ _ _).2 ⟨mC q, rfl, ?_⟩
  refine W.au (hall hqI hqT.ne hE8 (by omega)) ?_
  rintro _ s9 ⟨a9, n9, c9, qs9, rfl, hq9, _, hE9, hk9⟩
  refine ⟨(((a9, n9, c9), ()), ((fj q.T D).1, ()), ()), rfl, ?_⟩
  have hE9 : EJ s0 s9 w S tt sh B (bJ (bJ rds A) (A2 ++ [cC q.T.id])) ov := by rw [cL (bJ rds A)]; exact hE9
  have t9 := t8.trans hk9
  have fin : ∀ e : Int, e ≠ 0 → (iE p.T q.T r D q.T.keys).1 = e → (iE p.T q.T r D q.T.keys).2 = A2 ++ [cC q.T.id] → R (.int .i64 e) s9 := fun e he g1 g2 => by
   rw [if_pos (by rw [g1]; exact he)] at c1 c2
   rw [← hR, c1, c2, g1, g2]
   exact ⟨rfl, by rw [cL]; exact hE9, ((Kt.of m02).trans t5).trans t9⟩
  dsimp only
  refine (W.aa _ _ _ _).2 ⟨fun e => ?_, fun e => ?_⟩
  ·have e : (fj q.T D).1 ≠ 0 := by simpa using e
   rw [if_pos e] at d1 d2
   exact fin _ e d1 d2
  have e : ¬ (fj q.T D).1 ≠ 0 := by simpa using e
  rw [if_neg e] at d1 d2
  have hqn := hq9.gw.row.len
  have hcont := Au (Sl.bE (t := (a9, n9, c9)) hq9.gw.row (by have := hq9.len; have := rQ (T := q.T) (D := D); omega)) (hq9.cells fun r hr => (qD hds.2 r hr).cs.cF) (hk9 r3 _ _ k8 (by decide) (by decide)) (hk9 r1 _ _ k81 (by decide) (by decide)) (hk9 r2 _ _ k82 (by decide) (by decide)) (hk9 r0 _ _ k80 (by decide) (by decide))
  rw [hq9.eq] at hcont
  refine aL (((fj q.T D).2.any (lg p.T q.T r x), ()), ()) hcont rfl ?_
  dsimp only
  refine (W.aa _ _ _ _).2 ⟨fun e2 => ?_, fun e2 => ?_⟩
  ·rw [if_pos e2] at d1 d2
   exact fin 212 (by decide) d1 d2
  ·rw [if_neg (by rw [e2]; decide)] at d1 d2
   rw [ak (k := j) (by omega)]
   refine ⟨⟨j + 1, rfl, by omega, A2 ++ [cC q.T.id], by rw [List.length_append]; simp; omega, hE9, t9, d1, by rw [d2]; simp⟩, by simp only [Int.toNat_natCast]; omega⟩
theorem yU (T U : aO) (r : Rw) (D : List Ht) : ∀ l : List For, (iE T U r D l).2.length ≤ l.length
 | [] => by simp [iE]
 | x :: l => by
  have := yU T U r D l
  unfold iE
  split
  ·split
   ·simp
   ·split
    ·simp
    ·simp only [List.length_cons]; omega
  ·rw [List.length_cons]; omega
theorem si (T : aO) (r : Rw) (D : List Ht) : ∀ {l : List aO}, (∀ U ∈ l, U.keys.length ≤ 8) → (fG T r D l).2.length ≤ 8 * l.length
 | [], _ => by simp [fG]
 | U :: l, h => by
  have h1 := si T r D (l := l) fun V hV => h V (List.mem_cons_of_mem _ hV)
  have h2 := yU T U r D U.keys
  have h3 := h U List.mem_cons_self
  unfold fG
  split
  ·rw [List.length_cons]; omega
  ·rw [List.length_append, List.length_cons]; omega
theorem DG {ps : List ay} (hB : iC s0 sh B) (h : EJ s0 s w S tt sh B rds ov) (hS : cX s0 tt S ps) (hAll : ∀ T ∈ S.tabs, gh S T) (hT6 : S.tabs.length ≤ 6) {p : ay} (hp : eZ s0 p) (hT : gh S p.T) {b : cD} {t : aG}
  (hrl : rds.length + 100000 ≤ 4000000) (hol : ov.length + 60000 ≤ 800000) :
  ai 60 #[cp w, dR p.T p.c p.x p.k, nc b t] s (kD s0 s w S tt sh B rds ov (sG S p.T b (aj 0 B ov))) := by
 refine CG w p.T.id p.T.name p.c.1 p.c.2.1 p.c.2.2 p.x.1 p.x.2.1 p.x.2.2 p.k.1 p.k.2.1 p.k.2.2 b.kind b.table t.1 t.2.1 t.2.2 b.set b.to.kind b.to.n b.to.s b.whr b.is.kind b.is.n b.is.s _ s ?_
 unfold uL
 obtain ⟨R, hR⟩ : ∃ R : Value → PH → Prop, kD s0 s w S tt sh B rds ov (sG S p.T b (aj 0 B ov)) = R := ⟨_, rfl⟩
 rw [hR]
 obtain ⟨D, hD⟩ : ∃ D, aj 0 B ov = D := ⟨_, rfl⟩
 have hDs : dO D := by rw [← hD]; exact fD _ hB.cV
 have hds := gP hB h.cV h.sm
 have hputs : ∀ W : List Wr, aj 0 B (W.foldl cv ov) = aj 0 D W := fun W => by rw [← hD]; exact (jl hB.cV W h.cV).symm
 rw [hD] at hR hds
 have hx8 := hT.x8
 simp only [aS, aN, aP, aQ, bI, aU, aE]
 have hA65 := oJ (T := p.T) (b := b) (D := D)
 have hm := rW hB h (by omega) hp hT.ne b t
 rw [hD] at hm
 refine W.au hm ?_
 rintro _ s1 ⟨a, n, c, qs, rfl, hq, hE1, t1⟩
 refine ⟨(((a, n, c), ()), ((aZ p.T b D).1, ()), ()), rfl, ?_⟩
 dsimp only
 obtain ⟨L, hL⟩ : ∃ L, (aZ p.T b D).2 = L := ⟨_, rfl⟩
 have hLlen : L.length ≤ 64 := by rw [← hL]; exact lN hDs
 have hLm : ∀ r ∈ L, uP r.cells := fun r hr => by
  rw [← hL] at hr
  exact (wg hds.2 r hr).cs
 have hrem : sG S p.T b D = (if (aZ p.T b D).1 ≠ 0 then ⟨(aZ p.T b D).1, j6, cl p.T b D, []⟩
  else if (fk S p.T L D).1 ≠ 0 then ⟨(fk S p.T L D).1, j6, cl p.T b D ++ (fk S p.T L D).2.1, (fk S p.T L D).2.2⟩
  else ⟨0, ⟨L.length, []⟩, cl p.T b D ++ (fk S p.T L D).2.1, (fk S p.T L D).2.2⟩) := by unfold sG; rw [hL]
 rw [hL] at hq
 have hnl := hq.len
 refine (W.aa _ _ _ _).2 ⟨fun e => ?_, fun e => ?_⟩
 ·have e : (aZ p.T b D).1 ≠ 0 := by simpa using e
  rw [if_pos e] at hrem
  rw [← hR, hrem]
  exact ⟨_, rfl, nv.none 0 hE1.md, hE1, t1⟩
 have e : ¬ (aZ p.T b D).1 ≠ 0 := by simpa using e
 rw [if_neg e] at hrem
 have hA1 := ey (cl p.T b D) rds
 have hqlen : qs.length = n := hq.gw.row.len.symm
 refine ⟨fun z s' => ∃ (i : Nat), z = ((p.T.id, p.T.name, p.c, p.x, p.k, ()), ((0 : Int), ((none, 0, 0) : aG), ()), ((a, n, c), ()), ((a, n, c), ()), ((n : Int), ()), ((i : Int), ()), ()) ∧ i ≤ n ∧ Kd s0 s w S tt sh B (bJ rds (cl p.T b D)) ov (fk S p.T) 48 17 L D i s' ∧ eY s0 s' a n c L qs,
  fun z _ => n - z.2.2.2.2.2.1.1.toNat, ⟨0, rfl, Nat.zero_le _, ⟨[], [], by simp, by simp, hE1, t1, rfl, rfl, rfl⟩, hq⟩, ?_⟩
 rintro _ s2 ⟨i, rfl, hi, ⟨A, Wl, hA, hW, hE2, t2, u1, u2, u3⟩, hq2⟩
 dsimp only
 have hA2 := ey A (bJ rds (cl p.T b D))
 have hW2 := lu Wl ov
 refine (W.aa _ _ _ _).2 ⟨fun e => ?_, fun e => ?_⟩
 rotate_left
 ·have e : ¬ (i : Int) < (n : Int) := of_decide_eq_false e
  rw [List.drop_of_length_le (by omega)] at u1 u2 u3
  have u1 : (fk S p.T L D).1 = 0 := u1
  have u2 : (fk S p.T L D).2.1 = A := by rw [u2]; exact List.append_nil _
  have u3 : (fk S p.T L D).2.2 = Wl := by rw [u3]; exact List.append_nil _
  rw [u1, if_neg (by decide), u2, u3] at hrem
  rw [← hR, hrem]
  refine ⟨_, rfl, ?_, by rw [cL]; exact hE2, t2⟩
  have := nv.none (L.length : Int) hE2.md
  rw [← hnl] at this ⊢
  exact this
 have hlt : (i : Int) < (n : Int) := of_decide_eq_true e
 obtain ⟨q, hqi⟩ : ∃ q, qs[i]? = some q := ⟨_, List.getElem?_eq_getElem (by omega)⟩
 have hqm := List.mem_of_getElem? hqi
 have hLi : L[i]? = some q.r := by rw [← hq.eq, List.getElem?_map, hqi]; (first | done | rfl)
 have hcP := hLm q.r (List.mem_of_getElem? hLi)
 have hcf := hcP.cF
 obtain ⟨g, rfl, hh⟩ := hq2.gw.row.at hqi
 refine (W.ah _ _ _).2 ⟨⟨Int.natCast_nonneg i, hlt⟩, ?_⟩
 simp only [dh, Int.toNat_natCast, aY, Nat.zero_add]
 have hh : s2.has ⟨g, i * 4, none⟩ (lJ.f q) := hh
 refine aC hh (y := wI q.r q.u) rfl ?_
 rw [bO hLi, fk] at u1 u2 u3
 have hqc := (hq2.cs q hqm).1
 dsimp only
 have hfl := si p.T q.r (aj 0 D Wl) (l := S.tabs) fun U hU => (hAll U hU).k8
 refine W.au (HS (r := q.r) (u := q.u) hB hE2 hS hAll hT6 p (by omega)) ?_
 rintro _ s3 ⟨rfl, hE3, hk3⟩
 rw [hputs Wl] at hE3
 refine ⟨(((fG p.T q.r (aj 0 D Wl) S.tabs).1, ()), ()), by rw [hputs Wl]; (first | done | rfl), ?_⟩
 have t3 := t2.trans hk3
 dsimp only
 refine (W.aa _ _ _ _).2 ⟨fun e => ?_, fun e => ?_⟩
 ·have e : (fG p.T q.r (aj 0 D Wl) S.tabs).1 ≠ 0 := by simpa using e
  rw [if_pos e] at u1 u2 u3
  dsimp only at u1 u2 u3
  rw [u1, if_pos e, u2, u3, List.append_nil] at hrem
  rw [← hR, hrem]
  exact ⟨_, rfl, nv.none 0 hE3.md, by rw [cL, cL]; exact hE3, t3⟩
 ·have e : ¬ (fG p.T q.r (aj 0 D Wl) S.tabs).1 ≠ 0 := by simpa using e
  rw [if_neg e] at u1 u2 u3
  dsimp only at u1 u2 u3
  have hcl2 := kH p.T q.r.cells []
  have hold5 := hk3.row hqc (by decide) (by decide)
  refine W.au (rX (old := q.r.cells) (new := []) hE3 hp (by omega) (Sl.bE (t := q.u) hold5 (by omega)) Sl.nil (oy fX.nil (by simp)) (by omega)) ?_
  rintro _ s6 ⟨rfl, hE6, hk6⟩
  refine ⟨(), rfl, ?_⟩
  have t6 := t3.trans hk6
  rw [ak (k := i) (by omega)]
  refine ⟨⟨i + 1, rfl, by omega, ⟨A ++ (fG p.T q.r (aj 0 D Wl) S.tabs).2, Wl ++ ec p.T q.r.cells [], ?_, ?_, ?_, t6, ?_, ?_, ?_⟩, hk6.rws (hk3.rws hq2 hE3.md) hE6.md⟩, by simp only [Int.toNat_natCast]; omega⟩
  ·rw [List.length_append]; omega
  ·rw [List.length_append]; omega
  ·rw [cL, List.foldl_append]; exact hE6
  ·rw [cS, u1]
  ·rw [cS, u2, List.append_assoc]
  ·rw [cS, u3, List.append_assoc]
end
end
section
attribute [-simp] Fw.W.bD Fw.W.bB
theorem fB.same {s0 s s' : PH} {a : Option Addr} {n c : Nat} {L : List (List aR)} {qs : List pM} (h : fB s0 s a n c L qs) (hm : Fw.Mod [] s s') : fB s0 s' a n c L qs :=
 ⟨h.gw.same hm, h.eq, fun q hq => ⟨(h.vs q hq).1.mod hm (by simp), (h.vs q hq).2⟩⟩
theorem fB.since {s0 s s' : PH} {a : Option Addr} {n c : Nat} {L : List (List aR)} {qs : List pM} (h : fB s s' a n c L qs) (hm : Fw.Mod [] s0 s) : fB s0 s' a n c L qs :=
 ⟨h.gw.since hm, h.eq, fun q hq => ⟨(h.vs q hq).1, fun g hg => hm.none ((h.vs q hq).2 g hg) (by simp)⟩⟩
theorem fB.push {s0 s : PH} {a : Option Addr} {n c : Nat} {L : List (List aR)} {qs : List pM} {l : List aR} {u : aG} {K : Option Addr → Nat → Nat → W.T} (h : fB s0 s a n c L qs) (hu : aW dJ s 28 u.1 u.2.1 u.2.2 l) (hf : ∀ g ∈ Fw.aH u.1, s0 g = none) (hl : n + 1 ≤ 4294967296)
  (hK : ∀ a' c' s' qs', fB s0 s' a' (n + 1) c' (L ++ [l]) qs' → K a' (n + 1) c' s') : W.nw (.cells #[.slice u.1 u.2.1 u.2.2] 125 (0, 0)) (fun r => W.app 125 1 24 [.slice none 0 0] a n c (Src.sl (some ⟨r, 0, none⟩) 1) K) s := by
 refine h.gw.mS [⟨l, u⟩] (k := 1) rfl rfl rfl hl (by omega) fun a' c' s' h1 m1 => hK a' c' s' (qs ++ [⟨l, u⟩]) ⟨h1, by rw [List.map_append, h.eq]; (first | done | rfl), fun q hq => ?_⟩
 rcases List.mem_append.1 hq with hq | hq
 ·exact ⟨gH (h.vs q hq).1 h.gw (by decide) m1, (h.vs q hq).2⟩
 ·simp only [List.mem_singleton] at hq
  subst hq
  exact ⟨gH hu h.gw (by decide) m1, hf⟩
theorem Gy {l : List bZ} {k : Nat} {x : bZ} (cs : List aX) (h : l[k]? = some x) : ((l.take (k + 1)).filter (fun c => c.state == 3)).map (fun c => bq cs c.id) = ((l.take k).filter (fun c => c.state == 3)).map (fun c => bq cs c.id) ++ (if x.state = 3 then [bq cs x.id] else []) := by
 rw [oB h, List.map_append]
 congr 1
 by_cases hx : x.state = 3
 ·simp [hx]
 ·simp [hx]
section
variable {s0 s : PH} {w : Nat} {S : aF} {tt sh : aG} {B : List Ht} {rds : List cq} {ov : List Wr}
theorem DD (hB : iC s0 sh B) (h : EJ s0 s w S tt sh B rds ov) {p : ay} (hp : eZ s0 p) (hT : gh S p.T) {b : cD} {t : aG} (hrl : rds.length + 100000 ≤ 4000000) :
  ai 61 #[cp w, dR p.T p.c p.x p.k, nc b t] s (kD s0 s w S tt sh B rds ov (sL p.T b (aj 0 B ov))) := by
 refine CB w p.T.id p.T.name p.c.1 p.c.2.1 p.c.2.2 p.x.1 p.x.2.1 p.x.2.2 p.k.1 p.k.2.1 p.k.2.2 b.kind b.table t.1 t.2.1 t.2.2 b.set b.to.kind b.to.n b.to.s b.whr b.is.kind b.is.n b.is.s _ s ?_
 unfold uG
 obtain ⟨R, hR⟩ : ∃ R : Value → PH → Prop, kD s0 s w S tt sh B rds ov (sL p.T b (aj 0 B ov)) = R := ⟨_, rfl⟩
 rw [hR]
 obtain ⟨D, hD⟩ : ∃ D, aj 0 B ov = D := ⟨_, rfl⟩
 have hDs : dO D := by rw [← hD]; exact fD _ hB.cV
 have hds := gP hB h.cV h.sm
 rw [hD] at hR hds
 have hcl : p.c.2.1 = p.T.cols.length := hp.c.len
 have hc8 := hT.c8
 simp only [aS, aN, aP, aQ, bI, aU, aE, bU, cZ]
 have hm := rW hB h (by omega) hp hT.ne b t
 rw [hD] at hm
 refine W.au hm ?_
 rintro _ s1 ⟨a, n, c, qs, rfl, hq, hE1, t1⟩
 refine ⟨(((a, n, c), ()), ((aZ p.T b D).1, ()), ()), rfl, ?_⟩
 dsimp only
 obtain ⟨L, hL⟩ : ∃ L, (aZ p.T b D).2 = L := ⟨_, rfl⟩
 have hLlen : L.length ≤ 64 := by rw [← hL]; exact lN hDs
 have hLm : ∀ r ∈ L, uP r.cells := fun r hr => by
  rw [← hL] at hr
  exact (wg hds.2 r hr).cs
 have hsel : sL p.T b D = (if (aZ p.T b D).1 ≠ 0 then ⟨(aZ p.T b D).1, j6, cl p.T b D, []⟩ else ⟨0, ⟨0, L.map (kf p.T)⟩, cl p.T b D, []⟩) := by unfold sL; rw [hL]
 rw [hL] at hq
 have hnl := hq.len
 refine (W.aa _ _ _ _).2 ⟨fun e => ?_, fun e => ?_⟩
 ·have e : (aZ p.T b D).1 ≠ 0 := by simpa using e
  rw [if_pos e] at hsel
  rw [← hR, hsel]
  exact ⟨_, rfl, nv.none 0 hE1.md, hE1, t1⟩
 have e : ¬ (aZ p.T b D).1 ≠ 0 := by simpa using e
 rw [if_neg e] at hsel
 have hqlen : qs.length = n := hq.gw.row.len.symm
 refine ⟨fun z s' => ∃ (i : Nat) (a2 : Option Addr) (n2 c2 : Nat) (vs : List pM), z = ((p.T.id, p.T.name, p.c, p.x, p.k, ()), ((0 : Int), ((none, 0, 0) : aG), ()), ((0 : Int), ((a2, n2, c2) : aG), ()), ((a, n, c), ()), ((n : Int), ()), ((i : Int), ()), ()) ∧ i ≤ n ∧ n2 ≤ i ∧ fB s1 s' a2 n2 c2 ((L.take i).map (kf p.T)) vs,
  fun z _ => n - z.2.2.2.2.2.1.1.toNat, ⟨0, none, 0, 0, [], rfl, Nat.zero_le _, Nat.le_refl _, fB.nil (Mod.refl _ _)⟩, ?_⟩
 rintro _ s2 ⟨i, a2, n2, c2, vs, rfl, hi, hn2, hV⟩
 dsimp only
 have m12 : Fw.Mod [] s1 s2 := hV.gw.md
 refine (W.aa _ _ _ _).2 ⟨fun e => ?_, fun e => ?_⟩
 rotate_left
 ·have e : ¬ (i : Int) < (n : Int) := of_decide_eq_false e
  rw [List.take_of_length_le (by omega)] at hV
  rw [← hR, hsel]
  exact ⟨_, rfl, ⟨a2, n2, c2, vs, rfl, hV.since hE1.md⟩, hE1.same m12, t1.trans (Kt.of m12)⟩
 have hlt : (i : Int) < (n : Int) := of_decide_eq_true e
 obtain ⟨q, hqi⟩ : ∃ q, qs[i]? = some q := ⟨_, List.getElem?_eq_getElem (by omega)⟩
 have hqm := List.mem_of_getElem? hqi
 have hLi : L[i]? = some q.r := by rw [← hq.eq, List.getElem?_map, hqi]; (first | done | rfl)
 have hcf := (hLm q.r (List.mem_of_getElem? hLi)).cF
 have hq2 := hq.same m12
 obtain ⟨g, rfl, hh⟩ := hq2.gw.row.at hqi
 refine (W.ah _ _ _).2 ⟨⟨Int.natCast_nonneg i, hlt⟩, ?_⟩
 simp only [dh, Int.toNat_natCast, aY, Nat.zero_add]
 have hh : s2.has ⟨g, i * 4, none⟩ (lJ.f q) := hh
 refine aC hh (y := wI q.r q.u) rfl ?_
 have hqc := (hq2.cs q hqm).1
 have htk : (L.take (i + 1)).map (kf p.T) = (L.take i).map (kf p.T) ++ [kf p.T q.r] := by rw [List.take_add_one, hLi, List.map_append]; (first | done | rfl)
 dsimp only
 refine ⟨fun z s' => ∃ (j : Nat) (a3 : Option Addr) (n3 c3 : Nat), z = ((p.T.id, p.T.name, p.c, p.x, p.k, ()), ((0 : Int), ((none, 0, 0) : aG), ()), ((0 : Int), ((a2, n2, c2) : aG), ()), wI q.r q.u, ((a3, n3, c3), ()), ((some ⟨g, 0, none⟩, n, c), ()), ((n : Int), ()), ((i : Int), ()), (p.c, ()), ((p.c.2.1 : Int), ()), ((j : Int), ()), ()) ∧ j ≤ p.c.2.1 ∧ n3 ≤ j ∧ Gw dJ 28 s2 s' a3 n3 c3 (((p.T.cols.take j).filter (fun c => c.state == 3)).map (fun c => bq q.r.cells c.id)),
  fun z _ => p.c.2.1 - z.2.2.2.2.2.2.2.2.2.2.1.1.toNat, ⟨0, none, 0, 0, rfl, Nat.zero_le _, Nat.le_refl _, Gw.nil (Mod.refl _ _)⟩, ?_⟩
 rintro _ s3 ⟨j, a3, n3, c3, rfl, hj, hn3, hG3⟩
 dsimp only
 have m23 := hG3.md
 refine (W.aa _ _ _ _).2 ⟨fun e => ?_, fun e => ?_⟩
 ·have hlj : (j : Int) < (p.c.2.1 : Int) := of_decide_eq_true e
  obtain ⟨x, hx⟩ : ∃ x, p.T.cols[j]? = some x := ⟨_, List.getElem?_eq_getElem (by omega)⟩
  obtain ⟨ad, had, hhx⟩ := (hp.c.mono ((hE1.md.trans m12).trans m23).le).el.aB hx
  refine (W.ah _ _ _).2 ⟨⟨Int.natCast_nonneg j, hlj⟩, ?_⟩
  refine bg had ?_
  simp only [Int.toNat_natCast]
  have hhx : s3.has (ad.add (j * 7)) (dx.f x) := hhx
  refine aC hhx (y := yI x) rfl ?_
  have hps := Gy q.r.cells hx
  rw [ak (k := j) (by omega)]
  dsimp only
  refine (W.aa _ _ _ _).2 ⟨fun e2 => ?_, fun e2 => ?_⟩
  ·have e2 : x.state = 3 := eq_of_beq e2
   rw [if_pos e2] at hps
   refine aL (bH (bq q.r.cells x.id), ()) (kR (Sl.bE (t := q.u) (hqc.mod m23 (by simp)) (by omega)) x.id) rfl ?_
   refine hG3.push [bq q.r.cells x.id] (k := 1) rfl rfl rfl (by omega) (by omega) fun a4 c4 s4 h4 => ?_
   exact ⟨⟨j + 1, a4, n3 + 1, c4, rfl, by omega, by omega, by rw [hps]; exact h4⟩, by simp only [Int.toNat_natCast]; omega⟩
  ·have e2 : ¬ x.state = 3 := by simpa using e2
   rw [if_neg e2, List.append_nil] at hps
   exact ⟨⟨j + 1, a3, n3, c3, rfl, by omega, by omega, by rw [hps]; exact hG3⟩, by simp only [Int.toNat_natCast]; omega⟩
 ·have e : ¬ (j : Int) < (p.c.2.1 : Int) := of_decide_eq_false e
  rw [List.take_of_length_le (by omega)] at hG3
  have hG3 : Gw dJ 28 s2 s3 a3 n3 c3 (kf p.T q.r) := hG3
  refine (hV.same m23).push (u := (a3, n3, c3)) hG3.row (fun g hg => m12.none (hG3.fr g hg) (by simp)) (by omega) fun a4 c4 s4 vs4 h4 => ?_
  rw [ak (k := i) (by omega)]
  exact ⟨⟨i + 1, a4, n2 + 1, c4, vs4, rfl, by omega, by omega, by rw [htk]; exact h4⟩, by simp only [Int.toNat_natCast]; omega⟩
end
end
section
attribute [-simp] Fw.W.bD Fw.W.bB
theorem uX (v : aR) (c : bZ) (s : PH) : ai 133 #[eX v, yJ c] s fun y s' => y = .bool (fits v c.kind) ∧ s' = s := by
 refine Gp v.kind v.n v.s c.id c.name c.kind c.state c.dflt.kind c.dflt.n c.dflt.s _ s ?_
 unfold An
 simp only [aU, aN, aE]
 refine aL ((jW v, ()), ()) (ow v s) rfl ?_
 dsimp only
 have hev : (jW v == 0) = bC v := by unfold jW; cases bC v <;> rfl
 rw [hev]
 unfold fits
 refine (W.aa _ _ _ _).2 ⟨fun e => ?_, fun e => ?_⟩
 ·rw [e, Bool.true_and]
  refine (W.aa _ _ _ _).2 ⟨fun e2 => ?_, fun e2 => ?_⟩
  ·have e2 : v.kind = 0 := eq_of_beq e2
   exact ⟨by rw [decide_eq_true e2]; (first | done | rfl), rfl⟩
  ·have e2 : ¬ v.kind = 0 := by simpa using e2
   exact ⟨by rw [decide_eq_false e2, Bool.false_or]; (first | done | rfl), rfl⟩
 ·rw [e]; exact ⟨rfl, rfl⟩
abbrev KA (v : aR) : Obj := .cells #[.int .i64 v.kind, .int .i64 v.n, .string v.s] 28 (0, 0)
def CP (T : aO) (id : Int) (v : aR) (key : Bool) (c : bZ) : Bool := c.id == id && c.state == 3 && (key || decide (id ≠ eJ T)) && fits v c.kind
theorem BY {s : PH} {p q r2 u : Nat} {id : Int} {v : aR} {key : Bool} {t : ay} (hp : s p = some (.cells #[.int .i64 id] 3 (0, 0))) (hq : s q = some (.cells #[.bool key] 4 (0, 0))) (hr : s r2 = some (mD t)) (hu : s u = some (KA v)) (ht : Sl dx s t.c t.T.cols) (hc : t.T.cols ≠ []) (c : bZ) :
  ai 132 #[yJ c, cp p, cp q, cp r2, cp u] s fun y s' => y = .bool (CP t.T id v key c) ∧ s' = s := by
 refine AQ c.id c.name c.kind c.state c.dflt.kind c.dflt.n c.dflt.s p q r2 u _ s ?_
 unfold rJ CP
 obtain ⟨c0, hc0⟩ : ∃ c0, t.T.cols[0]? = some c0 := by
  cases hT : t.T.cols with
  | nil => exact absurd hT hc
  | cons x r => exact ⟨x, rfl⟩
 have hcol0 : eJ t.T = c0.id := by unfold eJ; rw [hc0]; (first | done | rfl)
 have hcl : t.c.2.1 = t.T.cols.length := ht.len
 have hcpos : 0 < t.c.2.1 := by rw [hcl]; exact List.length_pos_iff.2 hc
 obtain ⟨ad, had, hh⟩ := ht.el.aB hc0
 have hh : s.has (ad.add 0) (dx.f c0) := by simpa using hh
 simp only [bI, aN, bP, aE, aP, aQ, dh, aY, Nat.zero_add]
 refine (W.aA hp _ _ _ _).2 ⟨(id, ()), rfl, ?_⟩
 dsimp only
 refine (W.aa _ _ _ _).2 ⟨fun e => ?_, fun e => ⟨by rw [e]; (first | done | rfl), rfl⟩⟩
 rw [e, Bool.true_and]
 refine (W.aa _ _ _ _).2 ⟨fun e => ?_, fun e => ⟨by rw [e]; (first | done | rfl), rfl⟩⟩
 rw [e, Bool.true_and]
 refine (W.aA hq _ _ _ _).2 ⟨(key, ()), rfl, ?_⟩
 dsimp only
 refine (W.aa _ _ _ _).2 ⟨fun e => ?_, fun e => ?_⟩
 ·refine (W.aA hu _ _ _ _).2 ⟨bH v, rfl, ?_⟩
  refine W.bX ((fits v c.kind, ()), ()) (uX v c s) rfl ?_
  exact ⟨by rw [e]; (first | done | rfl), rfl⟩
 ·refine (W.aA hp _ _ _ _).2 ⟨(id, ()), rfl, ?_⟩
  refine (W.aA hr _ _ _ _).2 ⟨(t.c, ()), rfl, ?_⟩
  dsimp only
  refine (W.ah _ _ _).2 ⟨⟨Int.le_refl 0, Int.natCast_pos.2 hcpos⟩, ?_⟩
  refine bg had ?_
  refine bz (j := 0) hh (y := (c0.id, ())) rfl ?_
  rw [hcol0, e, Bool.false_or]
  refine (W.aa _ _ _ _).2 ⟨fun e2 => ?_, fun e2 => ?_⟩
  ·have e2 : id ≠ c0.id := by simpa using e2
   refine (W.aA hu _ _ _ _).2 ⟨bH v, rfl, ?_⟩
   refine W.bX ((fits v c.kind, ()), ()) (uX v c s) rfl ?_
   exact ⟨by rw [decide_eq_true e2]; (first | done | rfl), rfl⟩
  ·have e2 : ¬ id ≠ c0.id := by simpa using e2
   exact ⟨by rw [decide_eq_false e2]; (first | done | rfl), rfl⟩
theorem DI {s : PH} {p : Nat} {t : ay} (hp : s p = some (mD t)) (ht : Sl dx s t.c t.T.cols) (hc : t.T.cols ≠ []) (id : Int) (v : aR) (key : Bool) :
  ai 130 #[.int .i64 id, eX v, .bool key, cp p] s fun y s' => y = .bool (gB t.T id v key) ∧ s' = s := by
 refine bu.quiet (CI id v.kind v.n v.s key p _ s ?_)
 unfold uN
 simp only [bU, bI, aU, aE, aY, Nat.zero_add]
 refine W.bG fun r0 s1 hr0 m1 k0 => ?_
 refine W.bG fun r1 s2 hr1 m2 k1 => ?_
 refine W.bG fun r2 s3 hr2 m3 k2 => ?_
 have m23 := m2.trans m3
 have m03 := m1.trans m23
 have hp3 := m03.at hp (by simp)
 refine (W.aA hp3 _ _ _ _).2 ⟨(t.c, ()), rfl, ?_⟩
 have ht3 := ht.mono m03.le
 refine aL ((gB t.T id v key, ()), ()) ?_ rfl ⟨rfl, m03⟩
 refine xD t.c.1 t.c.2.1 t.c.2.2 r0 r2 p r1 _ s3 ?_
 unfold pn
 simp only [aU, aE]
 refine aL ((aI (CP t.T id v key) t.T.cols 0, ()), ()) ?_ rfl ?_
 ·refine vr t.c.1 t.c.2.1 t.c.2.2 r0 r2 p r1 _ s3 ?_
  unfold nV
  exact jB yI ht3 (fun _ => rfl) (fun c _ => BY (m23.at k0 (by simp)) k2 hp3 (m3.at k1 (by simp)) ht3 hc c) ⟨rfl, rfl⟩
 ·refine ⟨?_, rfl⟩
  show Value.bool (decide (aI (CP t.T id v key) t.T.cols 0 ≥ 0)) = _
  rw [sK]; (first | done | rfl)
theorem DH {s : PH} {p : Nat} {b : cD} {t : aG} (hp : s p = some (lC b t)) (q : ay) : ai 129 #[dR q.T q.c q.x q.k, cp p] s fun y s' => y = .bool (q.T.id == b.table) ∧ s' = s := by
 refine CH q.T.id q.T.name q.c.1 q.c.2.1 q.c.2.2 q.x.1 q.x.2.1 q.x.2.2 q.k.1 q.k.2.1 q.k.2.2 p _ s ?_
 unfold uM
 simp only [bI, aE, aY, Nat.zero_add]
 refine (W.aA hp _ _ _ _).2 ⟨(b.table, ()), rfl, ?_⟩
 exact ⟨rfl, rfl⟩
theorem xx {s : PH} {a : Option Addr} {n c p : Nat} {ps : List ay} {b : cD} {t : aG} (h : Sl dQ s (a, n, c) ps) (hp : s p = some (lC b t)) :
  ai 128 #[.slice a n c, .func (.func 129) #[] #[cp p]] s fun y s' => y = .int .i64 (aI (fun q : ay => q.T.id == b.table) ps 0) ∧ s' = s := by
 refine vw a n c p _ s ?_
 unfold nY
 exact jB mC h (fun _ => rfl) (fun q _ => DH hp q) ⟨rfl, rfl⟩
theorem FR (c : bZ) (l : List bZ) (k : Nat) (vs : List aR) : e9 (c :: l) k vs = if c.state ≠ 3 then e9 l (k + 1) vs else match vs with | [] => false | v :: vs => fits v c.kind && !(decide (k = 0) && v.kind == 0) && e9 l (k + 1) vs := by rw [e9.eq_def]; (first | done | rfl)
def I0 (S : aF) (ps : List ay) (b : cD) (s : PH) (y : Value) (s' : PH) : Prop :=
 Fw.Mod [] s s' ∧ ((fy S b = none ∧ ∃ d : Den [.int .i64, .str, .slice, .slice, .slice], y = .tuple #[.agg (vals [.int .i64, .str, .slice, .slice, .slice] d).toArray, .bool false]) ∨ ∃ q ∈ ps, fy S b = some q.T ∧ y = .tuple #[dR q.T q.c q.x q.k, .bool true])
theorem FE {s : PH} {w : Nat} {S : aF} {tt sh r : aG} {mb mo : Nat} {ps : List ay} (hw : s w = some (vN S tt sh r mb mo)) (hS : cX s tt S ps) (hc : ∀ T ∈ S.tabs, gh S T) {b : cD} {t : aG} (hv : Sl dJ s t b.vals) :
  ai 62 #[cp w, nc b t] s (I0 S ps b s) := by
 refine Ew w b.kind b.table t.1 t.2.1 t.2.2 b.set b.to.kind b.to.n b.to.s b.whr b.is.kind b.is.n b.is.s _ s ?_
 unfold xk
 obtain ⟨R, hR⟩ : ∃ R, I0 S ps b s = R := ⟨_, rfl⟩
 rw [hR]
 simp only [bU, aQ, bI, aU, cE, aN, aE, aP, gN, aS, bP, lX, lY, dh, aY, Nat.zero_add]
 refine W.bG fun r0 s1 hr0 m1 k0 => ?_
 have k0 : s1 r0 = some (lC b t) := k0
 have hw1 := m1.at hw (by simp)
 have hS1 := hS.mono m1.le
 have no : ∀ {s' : PH}, Fw.Mod [] s s' → fy S b = none → ∀ d : Den [.int .i64, .str, .slice, .slice, .slice], R (.tuple #[.agg (vals [.int .i64, .str, .slice, .slice, .slice] d).toArray, .bool false]) s' := fun hm e d => by
  rw [← hR]; exact ⟨hm, .inl ⟨e, d, rfl⟩⟩
 refine (W.aA hw1 _ _ _ _).2 ⟨(tt, ()), rfl, ?_⟩
 refine aL ((aI (fun q : ay => q.T.id == b.table) ps 0, ()), ()) (xx (c := tt.2.2) hS1.el k0) rfl ?_
 have hpl := hS1.el.len
 have htab : gZ S b.table = (ps.find? fun q : ay => q.T.id == b.table).map (·.T) := by unfold gZ; rw [hS.eq, List.find?_map]; (first | done | rfl)
 rcases mL (fun q : ay => q.T.id == b.table) ps with ⟨f1, f2⟩ | ⟨j, q, f1, f2, f3⟩
 ·rw [f1]
  rw [f2] at htab
  refine W.bl (fun z s' => False) (fun _ _ hf => hf.elim) ?_
  intro J hJ
  refine (W.aa _ _ _ _).2 ⟨fun _ => ?_, fun e => absurd e (by decide)⟩
  exact no m1 (by unfold fy; rw [htab]; (first | done | rfl)) (0, ⟨#[]⟩, (none, 0, 0), (none, 0, 0), (none, 0, 0), ())
 rw [f1]
 rw [f3] at htab
 have htab : gZ S b.table = some q.T := htab
 have hqm := List.mem_of_getElem? f2
 have hqT := hc q.T (by rw [hS.eq]; exact List.mem_map_of_mem hqm)
 have hjl := (List.getElem?_eq_some_iff.1 f2).1
 have l0 : ∀ {s2 : PH} (K : Den [CT.int IntKind.i64] → W.T), s2 r0 = some (lC b t) → K (b.kind, ()) s2 → W.ld [.int .i64] ⟨r0, 0, none⟩ K s2 := fun K hk hK => (W.aA hk _ _ _ _).2 ⟨(b.kind, ()), rfl, hK⟩
 have hrt : fy S b = (if b.kind < 1 ∨ 4 < b.kind then none
  else if b.kind = 1 then (if e9 q.T.cols 0 b.vals = true then some q.T else none)
  else if b.kind = 2 ∧ gB q.T b.set b.to false = false then none
  else if b.whr = 0 ∨ gB q.T b.whr b.is true = true then some q.T else none) := by unfold fy; rw [htab]
 refine W.bl (fun z s' => z = ((⟨r0, 0, none⟩, ()), (0, ⟨#[]⟩, (none, 0, 0), (none, 0, 0), (none, 0, 0), ()), ((j : Int), ()), ()) ∧ s1 = s' ∧ ¬ (b.kind < 1 ∨ 4 < b.kind)) ?_ ?_
 rotate_left
 ·intro J hJ
  refine (W.aa _ _ _ _).2 ⟨fun e => ?_, fun _ => ?_⟩
  ·have e : (j : Int) < 0 := of_decide_eq_true e
   omega
  refine l0 _ k0 ?_
  dsimp only
  refine (W.aa _ _ _ _).2 ⟨fun e => ?_, fun e => ?_⟩
  ·have e : b.kind < 1 := of_decide_eq_true e
   exact no m1 (by rw [hrt, if_pos (.inl e)]) (0, ⟨#[]⟩, (none, 0, 0), (none, 0, 0), (none, 0, 0), ())
  have e1 : ¬ b.kind < 1 := of_decide_eq_false e
  refine l0 _ k0 ?_
  refine (W.aa _ _ _ _).2 ⟨fun e => ?_, fun e => ?_⟩
  ·have e : b.kind > 4 := of_decide_eq_true e
   exact no m1 (by rw [hrt, if_pos (.inr e)]) (0, ⟨#[]⟩, (none, 0, 0), (none, 0, 0), (none, 0, 0), ())
  have e2 : ¬ b.kind > 4 := of_decide_eq_false e
  exact hJ _ _ ⟨rfl, rfl, by omega⟩
 rintro _ _ ⟨rfl, rfl, hkind⟩
 rw [if_neg hkind] at hrt
 dsimp only
 refine (W.aA hw1 _ _ _ _).2 ⟨(tt, ()), rfl, ?_⟩
 dsimp only
 refine (W.ah _ _ _).2 ⟨⟨Int.natCast_nonneg j, by show (j : Int) < ((tt.2.1 : Nat) : Int); rw [hpl]; exact Int.ofNat_lt.2 hjl⟩, ?_⟩
 obtain ⟨at_, hat, hht⟩ := hS1.el.el.aB f2
 refine bg hat ?_
 simp only [Int.toNat_natCast]
 have hht : s1.has (at_.add (j * 5)) (dQ.f q) := hht
 refine aC hht (y := mC q) rfl ?_
 refine W.bG fun r1 s2 hr1 m2 k1 => ?_
 refine kg (c' := #[.int .i64 q.T.id, .string q.T.name, .slice q.c.1 q.c.2.1 q.c.2.2, .slice q.x.1 q.x.2.1 q.x.2.2, .slice q.k.1 q.k.2.1 q.k.2.2]) k1 (by show 0 + 5 ≤ 5; omega) (by simp [Value.oneCell']) rfl ?_
 intro s3 hs3
 have k3 : s3 r1 = some (mD q) := by rw [hs3, PH.bA]
 have m13 : Fw.Mod [] s1 s3 := by rw [hs3]; exact m2.bQ (.inr hr1)
 have k30 := m13.at k0 (by simp)
 have m03 : Fw.Mod [] s s3 := m1.trans m13
 have hqI := (hS.all q hqm).mono m03.le
 have hv3 := hv.mono m03.le
 have lt : ∀ (K : Den [CT.int IntKind.i64, CT.str, CT.slice, CT.slice, CT.slice] → W.T), K (mC q) s3 → W.ld [.int .i64, .str, .slice, .slice, .slice] ⟨r1, 0, none⟩ K s3 := fun K hK => (W.aA k3 _ _ _ _).2 ⟨mC q, rfl, hK⟩
 have yes : fy S b = some q.T → R (.tuple #[dR q.T q.c q.x q.k, .bool true]) s3 := fun e => by rw [← hR]; exact ⟨m03, .inr ⟨q, hqm, e, rfl⟩⟩
 have noq : fy S b = none → R (.tuple #[dR q.T q.c q.x q.k, .bool false]) s3 := fun e => no m03 e (mC q)
 have hcl : q.c.2.1 = q.T.cols.length := hqI.c.len
 have hpub := fun (id : Int) (v : aR) (key : Bool) => DI k3 hqI.c hqT.ne id v key
 refine W.bl (fun z s' => z = ((⟨r0, 0, none⟩, ()), (0, ⟨#[]⟩, (none, 0, 0), (none, 0, 0), (none, 0, 0), ()), (⟨r1, 0, none⟩, ()), ((Value.func (.func 130) #[] #[cp r1]), ()), ()) ∧ s3 = s' ∧ fy S b = (if b.whr = 0 ∨ gB q.T b.whr b.is true = true then some q.T else none)) ?_ ?_
 ·rintro _ s3 ⟨rfl, rfl, hr2⟩
  dsimp only
  refine lt _ ?_
  simp only [aY, Nat.zero_add]
  refine (W.aA k30 _ _ _ _).2 ⟨(b.whr, ()), rfl, ?_⟩
  dsimp only
  refine (W.aa _ _ _ _).2 ⟨fun e => ?_, fun e => ?_⟩
  ·have e : b.whr = 0 := eq_of_beq e
   rw [W.still_at k3]
   refine ⟨rfl, yes (by rw [hr2, if_pos (.inl e)])⟩
  have e : ¬ b.whr = 0 := by simpa using e
  refine (W.aA k30 _ _ _ _).2 ⟨(b.whr, ()), rfl, ?_⟩
  refine (W.aA k30 _ _ _ _).2 ⟨bH b.is, rfl, ?_⟩
  refine cQ Tryz.func130 (by kernel_rfl) (by kernel_rfl) (hpub b.whr b.is true) ?_
  rintro _ _ ⟨rfl, rfl⟩
  refine ⟨((gB q.T b.whr b.is true, ()), ()), rfl, ?_⟩
  rw [W.still_at k3]
  refine ⟨rfl, ?_⟩
  cases hpo : gB q.T b.whr b.is true with
  | true => exact yes (by rw [hr2, if_pos (.inr hpo)])
  | false => exact noq (by rw [hr2, if_neg (by rintro (g | g); exact e g; rw [hpo] at g; cases g)])
 intro J hJ
 simp only [aY, Nat.zero_add]
 refine l0 _ k30 ?_
 dsimp only
 refine (W.aa _ _ _ _).2 ⟨fun e => ?_, fun e => ?_⟩
 rotate_left
 ·have e : ¬ b.kind = 1 := by simpa using e
  rw [if_neg e] at hrt
  refine l0 _ k30 ?_
  dsimp only
  refine (W.aa _ _ _ _).2 ⟨fun e2 => ?_, fun e2 => ?_⟩
  ·have e2 : b.kind = 2 := eq_of_beq e2
   refine (W.aA k30 _ _ _ _).2 ⟨(b.set, ()), rfl, ?_⟩
   refine (W.aA k30 _ _ _ _).2 ⟨bH b.to, rfl, ?_⟩
   refine aL ((gB q.T b.set b.to false, ()), ()) (hpub b.set b.to false) rfl ?_
   dsimp only
   refine (W.aa _ _ _ _).2 ⟨fun e3 => ?_, fun e3 => ?_⟩
   ·have e3 : gB q.T b.set b.to false = false := by simpa using e3
    rw [if_pos ⟨e2, e3⟩] at hrt
    exact lt _ (noq hrt)
   ·have e3 : gB q.T b.set b.to false = true := by simpa using e3
    rw [if_neg (fun g => by rw [e3] at g; cases g.2)] at hrt
    exact hJ _ _ ⟨rfl, rfl, hrt⟩
  ·have e2 : ¬ b.kind = 2 := by simpa using e2
   rw [if_neg (fun g => e2 g.1)] at hrt
   exact hJ _ _ ⟨rfl, rfl, hrt⟩
 have e : b.kind = 1 := eq_of_beq e
 rw [if_pos e] at hrt
 refine (W.aA k30 _ _ _ _).2 ⟨(t, ()), rfl, ?_⟩
 refine (W.aA k3 _ _ _ _).2 ⟨(q.c, ()), rfl, ?_⟩
 dsimp only
 refine ⟨fun z s' => ∃ (i : Nat) (vt : aG) (vs : List aR), z = ((0, ⟨#[]⟩, (none, 0, 0), (none, 0, 0), (none, 0, 0), ()), (⟨r1, 0, none⟩, ()), (vt, ()), (q.c, ()), ((q.c.2.1 : Int), ()), ((i : Int), ()), ()) ∧ i ≤ q.c.2.1 ∧ s3 = s' ∧ Sl dJ s3 vt vs ∧ e9 q.T.cols 0 b.vals = e9 (q.T.cols.drop i) i vs,
  fun z _ => q.c.2.1 - z.2.2.2.2.2.1.1.toNat, ⟨0, t, b.vals, rfl, Nat.zero_le _, rfl, hv3, by rw [List.drop_zero]⟩, ?_⟩
 rintro _ s3 ⟨i, ⟨va, vn, vc⟩, vs, rfl, hi, rfl, hVs, hio⟩
 dsimp only
 have hvl : vn = vs.length := hVs.len
 have hvle : vn ≤ vc := hVs.le
 refine (W.aa _ _ _ _).2 ⟨fun e3 => ?_, fun e3 => ?_⟩
 rotate_left
 ·have e3 : ¬ (i : Int) < (q.c.2.1 : Int) := of_decide_eq_false e3
  rw [List.drop_of_length_le (by omega)] at hio
  have hio : e9 q.T.cols 0 b.vals = vs.isEmpty := hio
  refine lt _ ?_
  dsimp only
  cases hvs : vs with
  | nil =>
   rw [hvs] at hio hvl
   have : ((vn : Int) == 0) = true := by rw [hvl]; (first | done | rfl)
   rw [this]
   exact yes (by rw [hrt, if_pos (by rw [hio]; (first | done | rfl))])
  | cons v r =>
   rw [hvs] at hio hvl
   have : ((vn : Int) == 0) = false := by rw [beq_eq_false_iff_ne]; rw [List.length_cons] at hvl; omega
   rw [this]
   exact noq (by rw [hrt, if_neg (by rw [hio]; simp)])
 have hlt : (i : Int) < (q.c.2.1 : Int) := of_decide_eq_true e3
 obtain ⟨x, hx⟩ : ∃ x, q.T.cols[i]? = some x := ⟨_, List.getElem?_eq_getElem (by omega)⟩
 obtain ⟨ad, had, hh⟩ := hqI.c.el.aB hx
 have hc8 := hqT.c8
 refine (W.ah _ _ _).2 ⟨⟨Int.natCast_nonneg i, hlt⟩, ?_⟩
 refine bg had ?_
 simp only [Int.toNat_natCast]
 have hh : s3.has (ad.add (i * 7)) (dx.f x) := hh
 refine aC hh (y := yI x) rfl ?_
 rw [bO hx, FR] at hio
 rw [ak (k := i) (by omega)]
 dsimp only
 refine (W.aa _ _ _ _).2 ⟨fun e4 => ?_, fun e4 => ?_⟩
 ·have e4 : x.state ≠ 3 := by simpa using e4
  rw [if_pos e4] at hio
  exact ⟨⟨i + 1, (va, vn, vc), vs, rfl, by omega, rfl, hVs, hio⟩, by simp only [Int.toNat_natCast]; omega⟩
 have e4 : ¬ x.state ≠ 3 := by simpa using e4
 rw [if_neg e4] at hio
 refine (W.aa _ _ _ _).2 ⟨fun e5 => ?_, fun e5 => ?_⟩
 ·have e5 : (vn : Int) = 0 := eq_of_beq e5
  have : vs = [] := List.eq_nil_of_length_eq_zero (by omega)
  rw [this] at hio
  exact lt _ (noq (by rw [hrt, if_neg (by rw [hio]; simp)]))
 have e5 : ¬ (vn : Int) = 0 := by simpa using e5
 cases hvs : vs with
 | nil => rw [hvs] at hvl; simp at hvl; omega
 | cons v r =>
 rw [hvs] at hio hvl hVs
 rw [List.length_cons] at hvl
 dsimp only at hio
 refine (W.ah _ _ _).2 ⟨⟨Int.le_refl 0, by omega⟩, ?_⟩
 obtain ⟨av, hav, hhv⟩ := hVs.el.aB (i := 0) rfl
 refine bg hav ?_
 have hhv : s3.has (av.add 0) (dJ.f v) := by simpa using hhv
 refine bz (j := 0) (A := av) (by simpa using hhv) (y := bH v) rfl ?_
 refine W.bX ((fits v x.kind, ()), ()) (uX v x s3) rfl ?_
 dsimp only
 have hgd : (0 : Int) ≤ 1 ∧ (1 : Int) ≤ (vn : Int) ∧ (vn : Int) ≤ (vc : Int) := ⟨by omega, by omega, by omega⟩
 refine (W.aa _ _ _ _).2 ⟨fun e6 => ?_, fun e6 => ?_⟩
 ·have e6 : fits v x.kind = false := by simpa using e6
  rw [e6] at hio
  exact lt _ (noq (by rw [hrt, if_neg (by rw [hio]; simp)]))
 have e6 : fits v x.kind = true := by simpa using e6
 rw [e6, Bool.true_and] at hio
 refine (W.aa _ _ _ _).2 ⟨fun e7 => ?_, fun e7 => ?_⟩
 ·have e7 : (i : Int) = 0 := eq_of_beq e7
  have e7 : i = 0 := by omega
  refine (W.ah _ _ _).2 ⟨⟨Int.le_refl 0, by omega⟩, ?_⟩
  refine bg hav ?_
  refine bz (j := 0) hhv (y := (v.kind, ())) rfl ?_
  dsimp only
  refine (W.aa _ _ _ _).2 ⟨fun e8 => ?_, fun e8 => ?_⟩
  ·rw [e8, decide_eq_true e7] at hio
   exact lt _ (noq (by rw [hrt, if_neg (by rw [hio]; simp)]))
  ·rw [e8, Bool.and_false, Bool.not_false, Bool.true_and] at hio
   refine (W.ah _ _ _).2 ⟨hgd, ?_⟩
   exact ⟨⟨i + 1, (if vc = 1 then va else va.map (·.add 3), vn - 1, vc - 1), r, by simp only [Int.toNat_natCast], by omega, rfl, hVs.tail, hio⟩, by simp only [Int.toNat_natCast]; omega⟩
 ·have e7 : ¬ (i : Int) = 0 := by simpa using e7
  have e7 : ¬ i = 0 := by omega
  rw [decide_eq_false e7, Bool.false_and, Bool.not_false, Bool.true_and] at hio
  refine (W.ah _ _ _).2 ⟨hgd, ?_⟩
  exact ⟨⟨i + 1, (if vc = 1 then va else va.map (·.add 3), vn - 1, vc - 1), r, by simp only [Int.toNat_natCast], by omega, rfl, hVs.tail, hio⟩, by simp only [Int.toNat_natCast]; omega⟩
end
section
def sW (M : Nat) (x : Wr) : Prop := ∀ l, gu x.val = some l → l.length ≤ M
theorem HY {new l : List aX} (h : fX new) (e : gu (cR new).1 = some l) : l = new := by
 have h1 : (cR new).1 = kB (new.flatMap cT) := by unfold cR; rw [if_pos h.1]
 rw [h1, yW h.2 h.1] at e
 exact (Option.some.inj e).symm
theorem FN {l : List aX} (e : gu ⟨#[]⟩ = some l) : l = [] := by
 have h1 : (⟨#[]⟩ : ByteArray) = kB (([] : List aX).flatMap cT) := rfl
 rw [h1, yW (by simp) rfl] at e
 exact (Option.some.inj e).symm
theorem pQ {T : aO} {old new : List aX} {M : Nat} (h : fX new) (hl : new.length ≤ M) : ∀ x ∈ ec T old new, sW M x := fun x hx l e => by
 rcases zc hx with ⟨_, e2, _⟩ | ⟨e2, _⟩
 ·rw [e2] at e; rw [HY h e]; exact hl
 ·rw [e2] at e; rw [FN e]; simp
theorem D5 {ts : Int} {l : List Ht} {x : Wr} {a : Ht} (h : a ∈ fC ts l x) : a = ⟨x.key, ts, x.val⟩ ∨ a ∈ l := by
 unfold fC at h
 rw [List.mem_append, List.mem_append] at h
 rcases h with (h | h) | h
 ·exact .inr (List.takeWhile_subset _ h)
 ·unfold gV at h
  split at h
  ·simp at h
  ·simp at h; exact .inl h
 ·exact .inr ((List.dropWhile_sublist (fun h : Ht => bK h.key x.key) (l := l)).subset (List.mem_filter.1 h).1)
theorem jN.apply {N : Nat} : ∀ {ws : List Wr} {D : List Ht}, jN N D → (∀ x ∈ ws, sW N x) → jN N (aj 0 D ws)
 | [], D, h, _ => h
 | x :: ws, D, h, hw => by
  show jN N (aj 0 (fC 0 D x) ws)
  refine jN.apply (fun a ha l e => ?_) fun y hy => hw y (List.mem_cons_of_mem _ hy)
  rcases D5 ha with rfl | ha
  ·exact hw x List.mem_cons_self l e
  ·exact h a ha l e
theorem jN.mono {N M : Nat} {D : List Ht} (h : jN N D) (hm : N ≤ M) : jN M D := fun a ha l e => Nat.le_trans (h a ha l e) hm
theorem wN {S : aF} {T : aO} {b : cD} {N : Nat} (hT : gh S T) (h1 : 1 ≤ b.set) (h2 : b.set ≤ 9223372036854775807) (hto : jk b.to) : ∀ (L : List Rw) (D : List Ht), (∀ r ∈ L, fX r.cells ∧ r.cells.length ≤ N) →
  (fm S T b L D).2.1.length ≤ 16 * L.length ∧ (fm S T b L D).2.2.length ≤ 17 * L.length ∧ ∀ x ∈ (fm S T b L D).2.2, sW (N + 9) x
 | [], D, _ => by simp [fm]
 | r :: L, D, h => by
  obtain ⟨hr1, hr2⟩ := h r List.mem_cons_self
  obtain ⟨hn1, hn2⟩ := Bs (r := r) hT hr1 h1 h2 hto
  have ih := wN hT h1 h2 hto L (aj 0 D (ec T r.cells (jE T b r))) fun x hx => h x (List.mem_cons_of_mem _ hx)
  obtain ⟨i1, i2, i3⟩ := ih
  have hc := sd S T r.key r.cells (jE T b r) D
  have hg := kH T r.cells (jE T b r)
  have hx8 := hT.x8
  have hk8 := hT.k8
  unfold fm
  split
  ·refine ⟨by rw [List.length_cons]; dsimp only; omega, by simp, by simp⟩
  ·refine ⟨by rw [List.length_cons]; simp only [List.length_append]; omega, by rw [List.length_cons]; simp only [List.length_append]; omega, fun x hx => ?_⟩
   rcases List.mem_append.1 hx with hx | hx
   ·exact pQ hn1 (by omega) x hx
   ·exact i3 x hx
theorem wF {S : aF} {T : aO} {N : Nat} (hT : gh S T) (hAll : ∀ U ∈ S.tabs, gh S U) (h6 : S.tabs.length ≤ 6) : ∀ (L : List Rw) (D : List Ht),
  (fk S T L D).2.1.length ≤ 48 * L.length ∧ (fk S T L D).2.2.length ≤ 17 * L.length ∧ ∀ x ∈ (fk S T L D).2.2, sW N x
 | [], D => by simp [fk]
 | r :: L, D => by
  have ih := wF (N := N) hT hAll h6 L (aj 0 D (ec T r.cells []))
  obtain ⟨i1, i2, i3⟩ := ih
  have hc := si T r D (l := S.tabs) fun U hU => (hAll U hU).k8
  have hg := kH T r.cells []
  have hx8 := hT.x8
  unfold fk
  split
  ·refine ⟨by rw [List.length_cons]; dsimp only; omega, by simp, by simp⟩
  ·refine ⟨by rw [List.length_cons]; simp only [List.length_append]; omega, by rw [List.length_cons]; simp only [List.length_append]; omega, fun x hx => ?_⟩
   rcases List.mem_append.1 hx with hx | hx
   ·exact pQ fX.nil (by simp) x hx
   ·exact i3 x hx
structure Df (b : cD) : Prop where
 to : kZ b.to.n
 is : kZ b.is.n
 vals : ∀ v ∈ b.vals, kZ v.n
theorem EW {S : aF} {i : Int} {T : aO} (h : gZ S i = some T) : T ∈ S.tabs ∧ T.id = i := by
 unfold gZ at h
 exact ⟨List.mem_of_find?_eq_some h, by have := List.find?_some h; simpa using this⟩
theorem wA {S : aF} {T : aO} (hT : gh S T) {id : Int} {v : aR} {key : Bool} (h : gB T id v key = true) (hv : kZ v.n) : 1 ≤ id ∧ id ≤ 9223372036854775807 ∧ jk v := by
 unfold gB at h
 obtain ⟨c, hc, h⟩ := List.any_eq_true.1 h
 simp only [Bool.and_eq_true, beq_iff_eq] at h
 obtain ⟨h1, h2, _⟩ := hT.cols c hc
 rw [h.1.1.1] at h1 h2
 exact ⟨h1, h2, vf h.2, hv⟩
structure Kh (S : aF) (b : cD) (T : aO) : Prop where
 mem : T ∈ S.tabs
 lo : 1 ≤ b.kind
 hi : b.kind ≤ 4
 ins : b.kind = 1 → e9 T.cols 0 b.vals = true
 aM : b.kind = 2 → gB T b.set b.to false = true
theorem rj {S : aF} {b : cD} {T : aO} (h : fy S b = some T) : Kh S b T := by
 unfold fy at h
 cases ht : gZ S b.table with
 | none => rw [ht] at h; cases h
 | some U =>
  rw [ht] at h
  dsimp only at h
  have hm := (EW ht).1
  split at h
  ·cases h
  ·rename_i hk
   split at h
   ·rename_i h1
    split at h
    ·rename_i h2; cases h; exact ⟨hm, by omega, by omega, fun _ => h2, fun e => by omega⟩
    ·cases h
   ·rename_i h1
    split at h
    ·cases h
    ·rename_i h2
     split at h
     ·cases h
      refine ⟨hm, by omega, by omega, fun e => absurd e h1, fun e => ?_⟩
      cases hp : gB T b.set b.to false with
      | true => rfl
      | false => exact absurd ⟨e, hp⟩ h2
     ·cases h
theorem Jq {S : aF} {T : aO} {vs : List aR} (hT : gh S T) (h : e9 T.cols 0 vs = true) : vs ≠ [] := by
 cases hc : T.cols with
 | nil => exact absurd hc hT.ne
 | cons c l =>
  rw [hc] at h
  have h3 : c.state = 3 := hT.pub c (by rw [hc]; (first | done | rfl))
  rcases oH h with ⟨g, _⟩ | ⟨_, v, r, rfl, _⟩
  ·exact absurd h3 g
  ·simp
structure Kg (N : Nat) (E : xX) : Prop where
 asks : E.asks.length ≤ 4000
 ws : E.ws.length ≤ 1100
 good : ∀ x ∈ E.ws, sW (N + 9) x
 rep : E.rep.rows.length ≤ 64 ∧ ∀ v ∈ E.rep.rows, v.length ≤ 8
theorem AF {T : aO} {b : cD} {D : List Ht} {N : Nat} (hv : oW D) (hN : jN N D) : ∀ r ∈ (aZ T b D).2, fX r.cells ∧ r.cells.length ≤ N := fun r hr => by
 obtain ⟨x, hx, e⟩ := tM hr
 have hg := (tB e).1
 exact ⟨(vi (hv x hx) hg).p, hN x hx _ hg⟩
theorem CK {S : aF} {b : cD} {T : aO} {D : List Ht} {N : Nat} (hAll : ∀ U ∈ S.tabs, gh S U) (h6 : S.tabs.length ≤ 6) (hr : fy S b = some T) (hb : Df b) (hD : dO D) (hv : oW D) (hN : jN N D) : Kg N (fS S T b D) := by
 have hf := rj hr
 have hT := hAll T hf.mem
 have hx8 := hT.x8
 have hk8 := hT.k8
 have hml := lN (T := T) (b := b) hD
 have hal := oJ (T := T) (b := b) (D := D)
 have noR : ∀ {n : Int}, (⟨n, []⟩ : Rp).rows.length ≤ 64 ∧ ∀ v ∈ (⟨n, []⟩ : Rp).rows, v.length ≤ 8 := fun {n} => ⟨by simp, by simp⟩
 unfold fS
 split
 ·rename_i h1
  have hok := hf.ins h1
  obtain ⟨hc1, hc2⟩ := nG hT.cols hok hb.vals fX.nil
  have hl1 := sd S T (b.vals.headD mj) [] (kJ T.cols b.vals []) D
  have hl2 := kH T [] (kJ T.cols b.vals [])
  have hc8 := hT.c8
  simp only [List.length_nil, Nat.zero_add] at hc2
  unfold sr
  dsimp only
  split
  ·exact ⟨by simp, by simp, by simp, noR⟩
  ·split
   ·exact ⟨by simp only [List.length_cons]; omega, by simp, by simp, noR⟩
   ·exact ⟨by simp only [List.length_cons]; omega, by dsimp only; omega, pQ hc1 (by omega), noR⟩
 ·rename_i h1
  split
  ·rename_i h2
   obtain ⟨p1, p2, p3⟩ := wA hT (hf.aM h2) hb.to
   obtain ⟨u1, u2, u3⟩ := wN hT p1 p2 p3 (aZ T b D).2 D (AF hv hN)
   unfold sO
   split
   ·exact ⟨by dsimp only; omega, by simp, by simp, noR⟩
   ·split
    ·exact ⟨by simp only [List.length_append]; omega, by dsimp only; omega, u3, noR⟩
    ·exact ⟨by simp only [List.length_append]; omega, by dsimp only; omega, u3, noR⟩
  ·split
   ·obtain ⟨u1, u2, u3⟩ := wF (N := N + 9) hT hAll h6 (aZ T b D).2 D
    unfold sG
    split
    ·exact ⟨by dsimp only; omega, by simp, by simp, noR⟩
    ·split
     ·exact ⟨by simp only [List.length_append]; omega, by dsimp only; omega, u3, noR⟩
     ·exact ⟨by simp only [List.length_append]; omega, by dsimp only; omega, u3, noR⟩
   ·unfold sL
    split
    ·exact ⟨by dsimp only; omega, by simp, by simp, noR⟩
    ·exact ⟨by dsimp only; omega, by simp, by simp, by show ((aZ T b D).2.map (kf T)).length ≤ 64; rw [List.length_map]; exact hml, fun v hv => by
      obtain ⟨r, _, rfl⟩ := List.mem_map.1 hv
      have h1 : (Bk T).length ≤ T.cols.length := List.length_filter_le _ _
      have h2 := hT.c8
      unfold kf
      rw [List.length_map]; omega⟩
theorem AX {f : List (ByteArray × Wr)} {ov : List Wr} (hv : ji ov) (hk : ∀ p ∈ f, p.1 = p.2.key) (hp : (f.map (·.2)).Perm ov) : gY f = ov.map (·.key) := by
 have e1 : (f.map fun p => p.1.data.toList) = (f.map (·.2)).map (fun x => kL x.key) := by
  rw [List.map_map]
  exact List.map_congr_left fun p hp => by rw [hk p hp]; (first | done | rfl)
 unfold gY
 rw [e1, mergeSort_of_perm (hp.map fun x => kL x.key)]
 have hs : ((ov.map fun x => kL x.key)).Pairwise fun a b => leB a b = true := by
  rw [List.pairwise_map]
  refine hv.imp fun {a b} h => ?_
  unfold bK at h
  have : kL a.key < kL b.key := by simpa using h
  exact decide_eq_true (List.le_of_lt this)
 rw [List.mergeSort_of_pairwise hs, List.map_map]
 exact List.map_congr_left fun x _ => by show ofBytes (kL x.key) = x.key; exact qe (by unfold ofBytes kL; simp)
theorem Cf {f : List (ByteArray × Wr)} {ov : List Wr} (hv : ji ov) (hk : ∀ p ∈ f, p.1 = p.2.key) (hp : (f.map (·.2)).Perm ov) {x : Wr} (hx : x ∈ ov) : f.lookup x.key = some x := by
 cases hl : f.lookup x.key with
 | none =>
  have := iX.1.1 hl
  obtain ⟨p, hpm, rfl⟩ := List.mem_map.1 ((hp.mem_iff).2 hx)
  exact absurd (List.mem_map.2 ⟨p, hpm, hk p hpm⟩) this
 | some y =>
  have h1 := iX.2 _ hl
  have h2 : x.key = y.key := hk _ h1
  have h3 : y ∈ ov := (hp.mem_iff).1 (List.mem_map.2 ⟨_, h1, rfl⟩)
  rw [GO hv h3 hx h2.symm]
end
end Go.Proofs.YtlfdfgokflhdbaaGreat
