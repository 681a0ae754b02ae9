/-
  Schemas: the program's checker.
  Conditions: none; it proves no statement by itself.
-/
import Derived.Test.YthepfbcgpbkbdaaM5
set_option linter.unusedVariables false
set_option linter.unusedSimpArgs false
set_option maxHeartbeats 2000000
set_option maxRecDepth 100000
namespace Go.Proofs.Ythepfbcgpbkbdaa
open Fw Go
attribute [-simp] Fw.W.ld_iff Fw.W.st_iff

theorem runIds_snoc (last : Int) (l : List Int) (n : Int) (seen : List Int) : runIds last (l ++ [n]) seen = (runIds last l seen && ((decide (1 ≤ n) && decide (n ≤ last)) && !decide (n ∈ l.reverse ++ seen))) := by
  rw [runIds_app]; simp [runIds]
theorem Ck.any {s : PH} {c m : Nat} {last : Int} {seen seen' : List Int} (h : Ck s c m last true seen) : Ck s c m last true seen' := by
  obtain ⟨f, hf, _⟩ := h.map
  exact ⟨h.cell, f, hf, fun e => by cases e⟩
theorem ids_take {α : Type} (f : α → Int) {l : List α} {k : Nat} {x : α} (h : l[k]? = some x) : (l.take (k + 1)).map f = (l.take k).map f ++ [f x] := by
  rw [List.take_add_one, h]; simp
/-- one element of a list is looked at: its id, its state, and the rest -/
theorem loop_bool {P1 U R A St Rest : Bool} : ((!(P1 && (U && R)) || !A) || !St || !Rest) = !(P1 && ((U && (St && Rest)) && (R && A))) := by
  cases P1 <;> cases U <;> cases R <;> cases A <;> cases St <;> cases Rest <;> rfl

theorem ck_ld {s : PH} {c m : Nat} {last : Int} {bad : Bool} {seen : List Int} (h : Ck s c m last bad seen) {K : Den [.bool] → W.T} (hK : K (bad, ()) s) : W.unSome (some (Addr.mk c 0 none)) (fun p => W.ld [.bool] (p.add 2) K) s := by
  simp only [W.unSome_some, add_mk, Nat.zero_add]
  rw [W.ld_at h.cell]
  exact ⟨(bad, ()), by simp, hK⟩
theorem ck_st {s : PH} {c m : Nat} {last : Int} {bad b' : Bool} {seen : List Int} (h : Ck s c m last bad seen) {K : W.T} (hK : K (s.upd c (.cells #[.int .i64 last, .map (some m), .bool b'] 114 (0, 0)))) : W.unSome (some (Addr.mk c 0 none)) (fun p => W.st (p.add 2) [.bool b'] K) s := by
  simp only [W.unSome_some, add_mk, Nat.zero_add]
  rw [W.st_at h.cell]
  exact ⟨by simp, by simp, by simp [Value.oneCell'], hK⟩
section
variable {s0 s : PH} {c m : Nat} {last : Int} {bad : Bool} {seen : List Int} {t : Tri} {S : Sch} {ps : List TabP} {p : TabP}
theorem c_ckTable (h : Ck s c m last bad seen) (hS : SchIs s0 t S ps) (hp : p ∈ ps) (m0 : Fw.Mod [] s0 s) (hc0 : s0 c = none) (hm0 : s0 m = none) :
    DCalls Try.prog 56 #[cp c, schV S t, tabV p.T p.c p.x p.k] s (CkPost c m last (bad || !(tabB S p.T && runIds last (idsOf p.T) seen)) ((idsOf p.T).reverse ++ seen) s) := by
  have hP0 := hS.all p hp
  have keep : ∀ {s'}, Fw.Mod [c, m] s s' → Fw.Mod [] s0 s' := fun mm => m0.fresh mm (by simp [hc0, hm0])
  obtain ⟨T, ⟨ca, can, cac⟩, ⟨xa, xan, xac⟩, ⟨ka, kan, kac⟩⟩ := p
  obtain ⟨ta, tn, tc⟩ := t
  dsimp only at hP0 ⊢
  have hcan : can = T.cols.length := hP0.c.len
  have hxan : xan = T.idxs.length := hP0.x.len
  have hkan : kan = T.keys.length := hP0.k.len
  have hcf := hP0.c.few
  have hxf := hP0.x.few
  have hkf := hP0.k.few
  dsimp only at hcf hxf hkf
  obtain ⟨res, hres⟩ : ∃ b, (bad || !(tabB S T && runIds last (idsOf T) seen)) = b := ⟨_, rfl⟩
  obtain ⟨sn, hsn⟩ : ∃ l, (idsOf T).reverse ++ seen = l := ⟨_, rfl⟩
  rw [hres, hsn]
  refine ok_ckTable c S.version S.last ta tn tc T.id T.name ca can cac xa xan xac ka kan kac _ s ?_
  unfold vc_ckTable
  simp only [RP_call]
  refine W.call_of (c_ckId h T.id) ?_
  rintro _ s1 ⟨rfl, h1, m1⟩
  refine ⟨(), rfl, ?_⟩
  refine W.call_of (c_namesC h1 (hP0.c.el.mono (keep m1).le) hcf (fun s' hm => hP0.c.el.mono (keep (m1.trans hm)).le) 1 8) ?_
  rintro _ s2 ⟨rfl, h2, m2'⟩
  have m2 := m1.trans m2'
  refine ⟨(), rfl, ?_⟩
  refine W.call_of (c_namesX h2 (hP0.x.el.mono (keep m2).le) hxf (fun s' hm => hP0.x.el.mono (keep (m2.trans hm)).le) 0 8) ?_
  rintro _ s3 ⟨rfl, h3, m3'⟩
  have m3 := m2.trans m3'
  refine ⟨(), rfl, ?_⟩
  refine W.call_of (c_namesF h3 (hP0.k.el.mono (keep m3).le) hkf (fun s' hm => hP0.k.el.mono (keep (m3.trans hm)).le) 0 8) ?_
  rintro _ s4 ⟨rfl, h4, m4'⟩
  have m4 := m3.trans m4'
  refine ⟨(), rfl, ?_⟩
  have hids : idsOf T = T.id :: (T.cols.map (·.id) ++ (T.idxs.map (·.id) ++ T.keys.map (·.id))) := rfl
  have hrun : runIds last (idsOf T) seen = ((decide (1 ≤ T.id) && decide (T.id ≤ last)) && (!decide (T.id ∈ seen) && (runIds last (T.cols.map (·.id)) (T.id :: seen) &&
      (runIds last (T.idxs.map (·.id)) ((T.cols.map (·.id)).reverse ++ (T.id :: seen)) && runIds last (T.keys.map (·.id)) ((T.idxs.map (·.id)).reverse ++ ((T.cols.map (·.id)).reverse ++ (T.id :: seen))))))) := by
    rw [hids]; simp only [runIds, runIds_app]
  have hseen : (T.keys.map (·.id)).reverse ++ ((T.idxs.map (·.id)).reverse ++ ((T.cols.map (·.id)).reverse ++ (T.id :: seen))) = sn := by
    rw [← hsn, hids]; simp
  obtain ⟨A, hA⟩ : ∃ A, ((decide (1 ≤ T.id) && decide (T.id ≤ last)) && !decide (T.id ∈ seen)) = A := ⟨_, rfl⟩
  rw [← Bool.and_assoc, hA] at hrun
  rw [hA] at h4
  obtain ⟨N1, hN1⟩ : ∃ N, namesB nameC 1 8 T.cols = N := ⟨_, rfl⟩
  obtain ⟨N2, hN2⟩ : ∃ N, namesB nameX 0 8 T.idxs = N := ⟨_, rfl⟩
  obtain ⟨N3, hN3⟩ : ∃ N, namesB nameF 0 8 T.keys = N := ⟨_, rfl⟩
  rw [hN1, hN2, hN3] at h4
  obtain ⟨b4, hb4⟩ : ∃ b, ((((bad || !A) || !N1) || !N2) || !N3) = b := ⟨_, rfl⟩
  rw [hb4] at h4
  have hc4 := h4.cell
  have hres2 : res = (bad || !((N1 && (N2 && (N3 && (first3 T && (allI colB T.cols && (allI (idxB T) T.idxs && allI (keyB S T) T.keys)))))) && runIds last (idsOf T) seen)) := by rw [← hres]; unfold tabB; rw [hN1, hN2, hN3]
  simp [W.ld_at hc4, W.br_iff]
  refine ⟨fun hbad => ?_, fun hbad => ?_⟩
  · subst hbad
    have e1 : res = true := by
      rw [hres2, hrun]
      revert hb4
      cases bad <;> cases A <;> cases N1 <;> cases N2 <;> cases N3 <;> simp
    rw [e1]
    exact ⟨rfl, h4.any, m4⟩
  · subst hbad
    have hall : bad = false ∧ A = true ∧ N1 = true ∧ N2 = true ∧ N3 = true := by
      revert hb4
      cases bad <;> cases A <;> cases N1 <;> cases N2 <;> cases N3 <;> simp
    obtain ⟨rfl, rfl, rfl, rfl, rfl⟩ := hall
    have hcl : 1 ≤ T.cols.length := by
      unfold namesB at hN1
      simp only [Bool.and_eq_true, decide_eq_true_eq] at hN1
      omega
    obtain ⟨c0, cs, hcs⟩ : ∃ c0 cs, T.cols = c0 :: cs := by
      cases hc : T.cols with
      | nil => rw [hc] at hcl; simp at hcl
      | cons a b => exact ⟨a, b, rfl⟩
    have hf3 : first3 T = decide (c0.state = 3) := by unfold first3; rw [hcs]
    obtain ⟨ad, had, hh⟩ := (hP0.c.mono (keep m4).le).el.at_enc (i := 0) (x := c0) (by rw [hcs]; rfl)
    dsimp only at had; subst had
    rw [Nat.zero_mul, add_zero] at hh
    refine ⟨by omega, ?_⟩
    simp only [W.unSome_some]
    refine ld_has (j := 3) hh (cs := [.int .i64]) (y := (c0.state, ())) rfl ?_
    refine ck_st h4 ?_
    have h5 : Ck (s4.upd c (.cells #[.int .i64 last, .map (some m), .bool (c0.state != 3)] 114 (0, 0))) c m last (c0.state != 3) (T.id :: seen) := h4.lay (fun _ => rfl)
    have m5 : Fw.Mod [c, m] s (s4.upd c (.cells #[.int .i64 last, .map (some m), .bool (c0.state != 3)] 114 (0, 0))) := m4.updLater (.inl (by simp))
    generalize s4.upd c (.cells #[.int .i64 last, .map (some m), .bool (c0.state != 3)] 114 (0, 0)) = s5 at h5 m5 ⊢
    have hb5 : (c0.state != 3) = !(first3 T && (upTo (condI colB T.cols) 0 && runIds last ((T.cols.take 0).map (·.id)) (T.id :: seen))) := by
      rw [hf3]
      by_cases h : c0.state = 3 <;> simp [h, upTo_zero, runIds]
    rw [hb5] at h5
    have hgoal : res = !(((first3 T && (allI colB T.cols && runIds last (T.cols.map (·.id)) (T.id :: seen))) && (allI (idxB T) T.idxs && runIds last (T.idxs.map (·.id)) ((T.cols.map (·.id)).reverse ++ (T.id :: seen)))) &&
        (allI (keyB S T) T.keys && runIds last (T.keys.map (·.id)) ((T.idxs.map (·.id)).reverse ++ ((T.cols.map (·.id)).reverse ++ (T.id :: seen))))) := by
      rw [hres2, hrun]
      generalize first3 T = F
      generalize allI colB T.cols = C1
      generalize allI (idxB T) T.idxs = C2
      generalize allI (keyB S T) T.keys = C3
      generalize runIds last (T.cols.map (·.id)) (T.id :: seen) = R1
      generalize runIds last (T.idxs.map (·.id)) _ = R2
      generalize runIds last (T.keys.map (·.id)) _ = R3
      cases F <;> cases C1 <;> cases C2 <;> cases C3 <;> cases R1 <;> cases R2 <;> cases R3 <;> rfl
    clear hres2 hrun hres hb5 hf3 hh hc4 h4
    obtain ⟨sd1, hsd1⟩ : ∃ l, T.id :: seen = l := ⟨_, rfl⟩
    rw [hsd1] at h5 hgoal hseen
    obtain ⟨F, hF⟩ : ∃ F, first3 T = F := ⟨_, rfl⟩
    rw [hF] at h5 hgoal
    refine ⟨fun z s' => ∃ k : Nat, z = ((S.version, S.last, (ta, tn, tc), ()), (T.id, T.name, (some ad, can, cac), (xa, xan, xac), (ka, kan, kac), ()), ((some ad, can, cac), ()), ((can : Int), ()), ((k : Int), ()), ()) ∧ k ≤ can ∧
      Ck s' c m last (!(F && (upTo (condI colB T.cols) k && runIds last ((T.cols.take k).map (·.id)) sd1))) (((T.cols.take k).map (·.id)).reverse ++ sd1) ∧ Fw.Mod [c, m] s s', fun z _ => can - z.2.2.2.2.1.1.toNat, ⟨0, rfl, Nat.zero_le _, by simpa using h5, m5⟩, ?_⟩
    rintro _ s6 ⟨k, rfl, hk, h6, m6⟩
    simp only [W.br_iff, decide_eq_true_eq, decide_eq_false_iff_not]
    refine ⟨fun hlt => ?_, fun hge => ?_⟩
    · have hlt : k < can := by omega
      obtain ⟨x, hx⟩ : ∃ x, T.cols[k]? = some x := ⟨_, List.getElem?_eq_getElem (by omega)⟩
      obtain ⟨ad2, had2, hh⟩ := (hP0.c.mono (keep m6).le).el.at_enc hx
      dsimp only at had2
      cases had2
      have hstep := ids_take (·.id) hx
      have hnext : (!(F && (upTo (condI colB T.cols) (k + 1) && runIds last ((T.cols.take (k + 1)).map (·.id)) sd1))) = (((!(F && (upTo (condI colB T.cols) k && runIds last ((T.cols.take k).map (·.id)) sd1))) || !((decide (1 ≤ x.id) && decide (x.id ≤ last)) && !decide (x.id ∈ ((T.cols.take k).map (·.id)).reverse ++ sd1))) || !stateB x.state || !(typed x.kind && fits x.dflt x.kind)) := by
        rw [upTo_succ, condI_at hx, hstep, runIds_snoc, loop_bool]; rfl
      have hsn2 : (((T.cols.take (k + 1)).map (·.id)).reverse ++ sd1) = x.id :: (((T.cols.take k).map (·.id)).reverse ++ sd1) := by rw [hstep]; simp
      refine ⟨by omega, ?_⟩
      simp only [W.unSome_some]
      refine ld_has_z hh (y := (x.id, x.name, x.kind, x.state, x.dflt.kind, x.dflt.n, x.dflt.s, ())) rfl ?_
      refine W.call_of (c_ckId h6 x.id) ?_
      rintro _ s7 ⟨rfl, h7, m7⟩
      refine ⟨(), rfl, ?_⟩
      refine W.call_of (c_ckState h7 x.state) ?_
      rintro _ s8 ⟨rfl, h8, m8⟩
      refine ⟨(), rfl, ?_⟩
      rw [← hsn2] at h8
      generalize hb8 : ((!(F && (upTo (condI colB T.cols) k && runIds last ((T.cols.take k).map (·.id)) sd1))) || !((decide (1 ≤ x.id) && decide (x.id ≤ last)) && !decide (x.id ∈ ((T.cols.take k).map (·.id)).reverse ++ sd1)) || !stateB x.state) = b8 at h8 hnext
      have m678 := (m6.trans m7).trans m8
      have hc8 := h8.cell
      have hw := wrap_succ (k := k) (by omega)
      have fin : ∀ b', (b' = false → b8 = false) → b' = (b8 || !(typed x.kind && fits x.dflt x.kind)) → ∃ k' : Nat, ((S.version, S.last, (ta, tn, tc), ()), (T.id, T.name, (some ad, can, cac), (xa, xan, xac), (ka, kan, kac), ()), ((some ad, can, cac), ()), ((can : Int), ()), (IntKind.i64.wrap ((k : Int) + 1), ()), ()) =
          (((S.version, S.last, (ta, tn, tc), ()), (T.id, T.name, (some ad, can, cac), (xa, xan, xac), (ka, kan, kac), ()), ((some ad, can, cac), ()), ((can : Int), ()), ((k' : Int), ()), ()) : MDen [(true, [.int .i64, .int .i64, .slice]), (true, [.int .i64, .str, .slice, .slice, .slice]), (false, [.slice]), (false, [.int .i64]), (false, [.int .i64])]) ∧ k' ≤ can ∧
          Ck (s8.upd c (.cells #[.int .i64 last, .map (some m), .bool b'] 114 (0, 0))) c m last (!(F && (upTo (condI colB T.cols) k' && runIds last ((T.cols.take k').map (·.id)) sd1))) (((T.cols.take k').map (·.id)).reverse ++ sd1) ∧ Fw.Mod [c, m] s (s8.upd c (.cells #[.int .i64 last, .map (some m), .bool b'] 114 (0, 0))) := by
        intro b' hb he
        refine ⟨k + 1, by rw [hw], hlt, ?_, m678.updLater (.inl (by simp))⟩
        rw [hnext, ← he]
        exact h8.lay hb
      have hmeas : can - (IntKind.i64.wrap ((k : Int) + 1)).toNat < can - ((k : Int)).toNat := by rw [hw]; simp only [Int.toNat_natCast]; omega
      refine ck_ld h8 ?_
      simp only [W.br_iff]
      refine ⟨fun hb => ck_st h8 ⟨fin true (fun e => by cases e) (by have hb : b8 = true := hb
                                                                     rw [hb]; rfl), hmeas⟩, fun hb => ?_⟩
      have hb : b8 = false := hb
      refine W.call_of (c_kind x.kind s8) ?_
      rintro _ _ ⟨rfl, rfl⟩
      refine ⟨((typed x.kind, ()), ()), rfl, ?_⟩
      simp only [W.br_iff]
      refine ⟨fun ht => ck_st h8 ⟨fin true (fun e => by cases e) (by have ht : typed x.kind = false := by simpa using ht
                                                                     rw [ht]; simp), hmeas⟩, fun ht => ?_⟩
      have ht : typed x.kind = true := by simpa using ht
      refine W.call_of (c_fits x.dflt x.kind _) ?_
      rintro _ _ ⟨rfl, rfl⟩
      refine ⟨((fits x.dflt x.kind, ()), ()), rfl, ?_⟩
      exact ck_st h8 ⟨fin _ (fun _ => hb) (by rw [hb, ht]; simp), hmeas⟩
    · have hall : T.cols.take k = T.cols := List.take_of_length_le (by omega)
      have hku : upTo (condI colB T.cols) k = allI colB T.cols := by unfold allI; rw [show k = T.cols.length by omega]
      rw [hall, hku] at h6
      obtain ⟨P1, hP1⟩ : ∃ P, (F && (allI colB T.cols && runIds last (T.cols.map (·.id)) sd1)) = P := ⟨_, rfl⟩
      obtain ⟨sd2, hsd2⟩ : ∃ l, (T.cols.map (·.id)).reverse ++ sd1 = l := ⟨_, rfl⟩
      rw [hP1, hsd2] at h6 hgoal
      rw [hsd2] at hseen
      refine ⟨fun z s' => ∃ k : Nat, z = ((S.version, S.last, (ta, tn, tc), ()), (T.id, T.name, (some ad, can, cac), (xa, xan, xac), (ka, kan, kac), ()), ((xa, xan, xac), ()), ((xan : Int), ()), ((k : Int), ()), ()) ∧ k ≤ xan ∧
        Ck s' c m last (!(P1 && (upTo (condI (idxB T) T.idxs) k && runIds last ((T.idxs.take k).map (·.id)) sd2))) (((T.idxs.take k).map (·.id)).reverse ++ sd2) ∧ Fw.Mod [c, m] s s', fun z _ => xan - z.2.2.2.2.1.1.toNat, ⟨0, rfl, Nat.zero_le _, by simpa [upTo_zero, runIds] using h6, m6⟩, ?_⟩
      rintro _ s7 ⟨k, rfl, hk, h7, m7⟩
      simp only [W.br_iff, decide_eq_true_eq, decide_eq_false_iff_not]
      refine ⟨fun hlt => ?_, fun hge => ?_⟩
      · have hlt : k < xan := by omega
        obtain ⟨x, hx⟩ : ∃ x, T.idxs[k]? = some x := ⟨_, List.getElem?_eq_getElem (by omega)⟩
        obtain ⟨ad2, had2, hh⟩ := (hP0.x.mono (keep m7).le).el.at_enc hx
        dsimp only at had2
        subst had2
        have hstep := ids_take (·.id) hx
        have hnext : (!(P1 && (upTo (condI (idxB T) T.idxs) (k + 1) && runIds last ((T.idxs.take (k + 1)).map (·.id)) sd2))) = (((!(P1 && (upTo (condI (idxB T) T.idxs) k && runIds last ((T.idxs.take k).map (·.id)) sd2))) || !((decide (1 ≤ x.id) && decide (x.id ≤ last)) && !decide (x.id ∈ ((T.idxs.take k).map (·.id)).reverse ++ sd2))) || !stateB x.state || !(decide (0 ≤ colOf T x.column))) := by
          rw [upTo_succ, condI_at hx, hstep, runIds_snoc, loop_bool]; rfl
        have hsn2 : (((T.idxs.take (k + 1)).map (·.id)).reverse ++ sd2) = x.id :: (((T.idxs.take k).map (·.id)).reverse ++ sd2) := by rw [hstep]; simp
        refine ⟨by omega, ?_⟩
        simp only [W.unSome_some]
        refine ld_has_z hh (y := (x.id, x.name, x.column, x.unique, x.state, ())) rfl ?_
        refine W.call_of (c_ckId h7 x.id) ?_
        rintro _ s8 ⟨rfl, h8, m8⟩
        refine ⟨(), rfl, ?_⟩
        refine W.call_of (c_ckState h8 x.state) ?_
        rintro _ s9 ⟨rfl, h9, m9⟩
        refine ⟨(), rfl, ?_⟩
        rw [← hsn2] at h9
        generalize hb8 : ((!(P1 && (upTo (condI (idxB T) T.idxs) k && runIds last ((T.idxs.take k).map (·.id)) sd2))) || !((decide (1 ≤ x.id) && decide (x.id ≤ last)) && !decide (x.id ∈ ((T.idxs.take k).map (·.id)).reverse ++ sd2)) || !stateB x.state) = b8 at h9 hnext
        have m789 := (m7.trans m8).trans m9
        have hw := wrap_succ (k := k) (by omega)
        have hmeas : xan - (IntKind.i64.wrap ((k : Int) + 1)).toNat < xan - ((k : Int)).toNat := by rw [hw]; simp only [Int.toNat_natCast]; omega
        refine ck_ld h9 ?_
        simp only [W.br_iff]
        refine ⟨fun hb => ck_st h9 ⟨⟨k + 1, by rw [hw], hlt, ?_, m789.updLater (.inl (by simp))⟩, hmeas⟩, fun hb => ?_⟩
        · have hb : b8 = true := hb
          rw [hnext, hb]; exact h9.lay (fun e => by cases e)
        · have hb : b8 = false := hb
          refine W.call_of (c_at (p := ⟨T, (some ad, can, cac), (some ad2, xan, xac), (ka, kan, kac)⟩) (hP0.c.mono (keep m789).le) x.column) ?_
          rintro _ _ ⟨rfl, rfl⟩
          refine ⟨((colOf T x.column, ()), ()), rfl, ?_⟩
          refine ck_st h9 ⟨⟨k + 1, by rw [hw], hlt, ?_, m789.updLater (.inl (by simp))⟩, hmeas⟩
          rw [hnext, hb]
          have e1 : (decide (colOf T x.column < 0)) = (false || !decide (0 ≤ colOf T x.column)) := by
            by_cases hh : colOf T x.column < 0
            · rw [decide_eq_true hh, decide_eq_false (by omega)]; rfl
            · rw [decide_eq_false hh, decide_eq_true (by omega)]; rfl
          rw [← e1]
          exact h9.lay (fun _ => hb)
      · have hall : T.idxs.take k = T.idxs := List.take_of_length_le (by omega)
        have hku : upTo (condI (idxB T) T.idxs) k = allI (idxB T) T.idxs := by unfold allI; rw [show k = T.idxs.length by omega]
        rw [hall, hku] at h7
        obtain ⟨P2, hP2⟩ : ∃ P, (P1 && (allI (idxB T) T.idxs && runIds last (T.idxs.map (·.id)) sd2)) = P := ⟨_, rfl⟩
        obtain ⟨sd3, hsd3⟩ : ∃ l, (T.idxs.map (·.id)).reverse ++ sd2 = l := ⟨_, rfl⟩
        rw [hP2, hsd3] at h7 hgoal
        rw [hsd3] at hseen
        refine ⟨fun z s' => ∃ k : Nat, z = ((S.version, S.last, (ta, tn, tc), ()), (T.id, T.name, (some ad, can, cac), (xa, xan, xac), (ka, kan, kac), ()), ((ka, kan, kac), ()), ((kan : Int), ()), ((k : Int), ()), ()) ∧ k ≤ kan ∧
          Ck s' c m last (!(P2 && (upTo (condI (keyB S T) T.keys) k && runIds last ((T.keys.take k).map (·.id)) sd3))) (((T.keys.take k).map (·.id)).reverse ++ sd3) ∧ Fw.Mod [c, m] s s', fun z _ => kan - z.2.2.2.2.1.1.toNat, ⟨0, rfl, Nat.zero_le _, by simpa [upTo_zero, runIds] using h7, m7⟩, ?_⟩
        rintro _ s8 ⟨k, rfl, hk, h8, m8⟩
        simp only [W.br_iff, decide_eq_true_eq, decide_eq_false_iff_not]
        refine ⟨fun hlt => ?_, fun hge => ?_⟩
        · have hlt : k < kan := by omega
          obtain ⟨x, hx⟩ : ∃ x, T.keys[k]? = some x := ⟨_, List.getElem?_eq_getElem (by omega)⟩
          obtain ⟨ad2, had2, hh⟩ := (hP0.k.mono (keep m8).le).el.at_enc hx
          dsimp only at had2
          subst had2
          have hstep := ids_take (·.id) hx
          have hnext : (!(P2 && (upTo (condI (keyB S T) T.keys) (k + 1) && runIds last ((T.keys.take (k + 1)).map (·.id)) sd3))) = (((!(P2 && (upTo (condI (keyB S T) T.keys) k && runIds last ((T.keys.take k).map (·.id)) sd3))) || !((decide (1 ≤ x.id) && decide (x.id ≤ last)) && !decide (x.id ∈ ((T.keys.take k).map (·.id)).reverse ++ sd3))) || !stateB x.state || !(decide (0 ≤ colOf T x.column) && (decide (0 ≤ tabOf S x.parent) && parB S T x))) := by
            rw [upTo_succ, condI_at hx, hstep, runIds_snoc, loop_bool]; rfl
          have hsn2 : (((T.keys.take (k + 1)).map (·.id)).reverse ++ sd3) = x.id :: (((T.keys.take k).map (·.id)).reverse ++ sd3) := by rw [hstep]; simp
          refine ⟨by omega, ?_⟩
          simp only [W.unSome_some]
          refine ld_has_z hh (y := (x.id, x.name, x.column, x.parent, x.state, ())) rfl ?_
          refine W.call_of (c_ckId h8 x.id) ?_
          rintro _ s9 ⟨rfl, h9, m9⟩
          refine ⟨(), rfl, ?_⟩
          refine W.call_of (c_ckState h9 x.state) ?_
          rintro _ s10 ⟨rfl, h10, m10⟩
          refine ⟨(), rfl, ?_⟩
          rw [← hsn2] at h10
          generalize hb8 : ((!(P2 && (upTo (condI (keyB S T) T.keys) k && runIds last ((T.keys.take k).map (·.id)) sd3))) || !((decide (1 ≤ x.id) && decide (x.id ≤ last)) && !decide (x.id ∈ ((T.keys.take k).map (·.id)).reverse ++ sd3)) || !stateB x.state) = b8 at h10 hnext
          have mall := (m8.trans m9).trans m10
          have hw := wrap_succ (k := k) (by omega)
          have hmeas : kan - (IntKind.i64.wrap ((k : Int) + 1)).toNat < kan - ((k : Int)).toNat := by rw [hw]; simp only [Int.toNat_natCast]; omega
          have fin : ∀ b', (b' = false → b8 = false) → b' = (b8 || !(decide (0 ≤ colOf T x.column) && (decide (0 ≤ tabOf S x.parent) && parB S T x))) →
              Ck (s10.upd c (.cells #[.int .i64 last, .map (some m), .bool b'] 114 (0, 0))) c m last (!(P2 && (upTo (condI (keyB S T) T.keys) (k + 1) && runIds last ((T.keys.take (k + 1)).map (·.id)) sd3))) (((T.keys.take (k + 1)).map (·.id)).reverse ++ sd3) ∧ Fw.Mod [c, m] s (s10.upd c (.cells #[.int .i64 last, .map (some m), .bool b'] 114 (0, 0))) := by
            intro b' hb he
            rw [hnext, ← he]
            exact ⟨h10.lay hb, mall.updLater (.inl (by simp))⟩
          refine W.callQ_of ((colOf T x.column, ()), ()) (c_at (p := ⟨T, (some ad, can, cac), (xa, xan, xac), (some ad2, kan, kac)⟩) (hP0.c.mono (keep mall).le) x.column) rfl ?_
          refine W.callQ_of ((tabOf S x.parent, ()), ()) (c_byId (t := (ta, tn, tc)) (hS.mono (keep mall).le) x.parent) rfl ?_
          refine ck_ld h10 ?_
          simp only [W.br_iff, decide_eq_true_eq, decide_eq_false_iff_not]
          refine ⟨fun hb => ck_st h10 ⟨⟨k + 1, by rw [hw], hlt, fin true (fun e => by cases e) (by have hb : b8 = true := hb
                                                                                                   rw [hb]; rfl)⟩, hmeas⟩, fun hb => ?_⟩
          have hb : b8 = false := hb
          refine ⟨fun h1 => ck_st h10 ⟨⟨k + 1, by rw [hw], hlt, fin true (fun e => by cases e) (by rw [decide_eq_false (p := 0 ≤ colOf T x.column) (by omega)]; simp)⟩, hmeas⟩, fun h1 => ?_⟩
          refine ⟨fun h2 => ck_st h10 ⟨⟨k + 1, by rw [hw], hlt, fin true (fun e => by cases e) (by rw [decide_eq_false (p := 0 ≤ tabOf S x.parent) (by omega)]; simp)⟩, hmeas⟩, fun h2 => ?_⟩
          have hSn := hS.mono (keep mall).le
          obtain ⟨j, P, hj, hPj, _, _⟩ : ∃ (j : Nat) (P : Tab), tabOf S x.parent = (j : Int) ∧ S.tabs[j]? = some P ∧ True ∧ True := by
            rcases seek_spec (p := fun T : Tab => decide (T.id = x.parent)) S.tabs 0 with ⟨e, _⟩ | ⟨j, P, e, e2, _⟩
            · exact absurd e (by unfold tabOf at h2; omega)
            · exact ⟨j, P, by unfold tabOf; rw [e]; simp, e2, trivial, trivial⟩
          obtain ⟨j2, C, hj2, hCj, _, _⟩ : ∃ (j : Nat) (C : Col), colOf T x.column = (j : Int) ∧ T.cols[j]? = some C ∧ True ∧ True := by
            rcases seek_spec (p := fun c : Col => decide (c.id = x.column)) T.cols 0 with ⟨e, _⟩ | ⟨j, P, e, e2, _⟩
            · exact absurd e (by unfold colOf at h1; omega)
            · exact ⟨j, P, by unfold colOf; rw [e]; simp, e2, trivial, trivial⟩
          have hpar : parB S T x = (match P.cols with | c0 :: _ => decide (C.kind = c0.kind) | [] => false) := by unfold parB; rw [hj, hj2]; simp only [Int.toNat_natCast, hPj, hCj]; rfl
          obtain ⟨pp, hpp, hppT⟩ : ∃ pp, ps[j]? = some pp ∧ pp.T = P := by
            rw [hS.eq, List.getElem?_map] at hPj
            cases hq : ps[j]? with
            | none => rw [hq] at hPj; cases hPj
            | some pp => rw [hq] at hPj; exact ⟨pp, rfl, Option.some.inj hPj⟩
          have hjl := (List.getElem?_eq_some_iff.1 hpp).1
          have hj2l := (List.getElem?_eq_some_iff.1 hCj).1
          have htn : tn = ps.length := hSn.el.len
          obtain ⟨ad3, had3, hh3⟩ := hSn.el.el.at_enc hpp
          dsimp only at had3
          subst had3
          have hPP := hSn.all pp (get_mem hpp)
          obtain ⟨PT, ⟨pca, pcn, pcc⟩, ⟨pxa, pxn, pxc⟩, ⟨pka, pkn, pkc⟩⟩ := pp
          dsimp only at hppT
          subst hppT
          have hpcn : pcn = PT.cols.length := hPP.c.len
          simp only [hj, hj2, Int.toNat_natCast]
          refine ⟨by omega, ?_⟩
          simp only [W.unSome_some]
          refine ld_has (j := 2) hh3 (cs := [.slice]) (y := ((pca, pcn, pcc), ())) rfl ?_
          simp only [W.br_iff]
          refine ⟨fun h3 => ck_st h10 ⟨⟨k + 1, by rw [hw], hlt, fin true (fun e => by cases e) ?_⟩, hmeas⟩, fun h3 => ?_⟩
          · have h3 : pcn = 0 := by simpa using h3
            have : PT.cols = [] := List.length_eq_zero_iff.1 (by omega)
            rw [hpar, this]; simp
          · have h3 : pcn ≠ 0 := by simpa using h3
            obtain ⟨c1, cs1, hcs1⟩ : ∃ c0 cs, PT.cols = c0 :: cs := by
              cases hc : PT.cols with
              | nil => rw [hc] at hpcn; simp at hpcn; omega
              | cons a b => exact ⟨a, b, rfl⟩
            obtain ⟨ad4, had4, hh4⟩ := (hP0.c.mono (keep mall).le).el.at_enc hCj
            dsimp only at had4
            cases had4
            obtain ⟨ad5, had5, hh5⟩ := hPP.c.el.at_enc (i := 0) (x := c1) (by rw [hcs1]; rfl)
            dsimp only at had5
            subst had5
            rw [Nat.zero_mul, add_zero] at hh5
            refine ⟨by omega, ?_⟩
            simp only [W.unSome_some]
            refine ld_has (j := 2) hh4 (cs := [.int .i64]) (y := (C.kind, ())) rfl ?_
            refine ⟨by omega, ?_⟩
            simp only [W.unSome_some]
            refine ld_has (j := 2) hh3 (cs := [.slice]) (y := ((some ad5, pcn, pcc), ())) rfl ?_
            refine ⟨by dsimp only; omega, ?_⟩
            simp only [W.unSome_some]
            refine ld_has (j := 2) hh5 (cs := [.int .i64]) (y := (c1.kind, ())) rfl ?_
            refine ck_st h10 ⟨⟨k + 1, by rw [hw], hlt, fin _ (fun _ => hb) ?_⟩, hmeas⟩
            rw [hb, hpar, hcs1, decide_eq_true (p := 0 ≤ colOf T x.column) (by omega), decide_eq_true (p := 0 ≤ tabOf S x.parent) (by omega)]
            by_cases hq : C.kind = c1.kind <;> simp [hq]
        · have hall : T.keys.take k = T.keys := List.take_of_length_le (by omega)
          have hku : upTo (condI (keyB S T) T.keys) k = allI (keyB S T) T.keys := by unfold allI; rw [show k = T.keys.length by omega]
          rw [hall, hku, hseen, ← hgoal] at h8
          exact ⟨rfl, h8, m8⟩
end
def errS (S : Sch) : Int := if right S = true then 0 else 100
theorem ck_start {s : PH} {last : Int} {bad : Bool} {K : Nat → W.T} {m : Nat} (hm : s m = some (.map #[] 0)) (hK : ∀ c s', Ck s' c m last bad [] → Fw.Mod [] s s' → s c = none → K c s') :
    W.nw (.cells #[.int .i64 last, .map (some m), .bool bad] 114 (0, 0)) K s := by
  refine W.nw_of fun c s1 hc m1 k1 => ?_
  refine hK c s1 ⟨k1, [], ⟨#[], 0, m1.at hm (by simp), rfl, Go.MapKept.stamped_empty 0⟩, fun _ n => by simp⟩ m1 hc
theorem c_Check {s : PH} {t : Tri} {S : Sch} {ps : List TabP} (h : SchIs s t S ps) : DCalls Try.prog 20 #[schV S t] s fun y s' => y = .int .i64 (errS S) ∧ s' = s := by
  refine DCalls.quiet ?_
  obtain ⟨ta, tn, tc⟩ := t
  refine ok_Check S.version S.last ta tn tc _ s ?_
  unfold vc_Check
  have htn : tn = ps.length := h.el.len
  have hpl : S.tabs.length = ps.length := by rw [h.eq]; simp
  have hfew := h.el.few
  have hmapeq : ps.map (·.T) = S.tabs := h.eq.symm
  simp only [RP_join]
  refine W.join_gen (fun z s' => ∃ c m, z = ((S.version, S.last, (ta, tn, tc), ()), (some ⟨c, 0, none⟩, ()), ()) ∧ Ck s' c m S.last (!headB S) [] ∧ Fw.Mod [] s s' ∧ s c = none ∧ s m = none) ?_ ?_
  · rintro _ s1 ⟨c, m, rfl, h1, m1, hc, hm⟩
    have keep : ∀ {s'}, Fw.Mod [c, m] s1 s' → Fw.Mod [] s s' := fun mm => m1.fresh mm (by simp [hc, hm])
    simp only [RP_call]
    refine W.call_of (c_namesT h1 (h.el.el.mono m1.le) hfew (fun s' hm => h.el.el.mono (keep hm).le) 0 6) ?_
    rintro _ s2 ⟨rfl, h2, m2⟩
    refine ⟨(), rfl, ?_⟩
    rw [hmapeq] at h2
    obtain ⟨P0, hP0⟩ : ∃ P, (headB S && namesB nameT 0 6 S.tabs) = P := ⟨_, rfl⟩
    have hb2 : (!headB S || !namesB nameT 0 6 S.tabs) = !P0 := by rw [← hP0]; cases headB S <;> cases namesB nameT 0 6 S.tabs <;> rfl
    rw [hb2] at h2
    have hright : right S = (P0 && (allI (fun _ T => tabB S T) S.tabs && runIds S.last (S.tabs.flatMap idsOf) [])) := by
      rw [← hP0]; unfold right; simp only [Bool.and_assoc]
    have hbad : ∀ {b : Bool}, right S = false → errS S = 100 := fun e => by unfold errS; rw [e]; rfl
    simp only [RP_loop]
    refine ⟨fun z s' => ∃ k : Nat, z = ((S.version, S.last, (ta, tn, tc), ()), (some ⟨c, 0, none⟩, ()), ((ta, tn, tc), ()), ((tn : Int), ()), ((k : Int), ()), ()) ∧ k ≤ tn ∧
      Ck s' c m S.last (!(P0 && (upTo (condI (fun _ T => tabB S T) S.tabs) k && runIds S.last ((S.tabs.take k).flatMap idsOf) []))) (((S.tabs.take k).flatMap idsOf).reverse ++ []) ∧ Fw.Mod [c, m] s1 s', fun z _ => tn - z.2.2.2.2.1.1.toNat, ⟨0, rfl, Nat.zero_le _, by simpa [upTo_zero, runIds] using h2, m2⟩, ?_⟩
    rintro _ s3 ⟨k, rfl, hk, h3, m3⟩
    generalize hb3 : (!(P0 && (upTo (condI (fun _ T => tabB S T) S.tabs) k && runIds S.last ((S.tabs.take k).flatMap idsOf) []))) = b3 at h3
    simp only [RP_ite, W.br_iff, decide_eq_true_eq, decide_eq_false_iff_not]
    refine ⟨fun hlt => ?_, fun hge => ?_⟩
    · have hlt : k < tn := by omega
      obtain ⟨p, hp⟩ : ∃ p, ps[k]? = some p := ⟨_, List.getElem?_eq_getElem (by omega)⟩
      have hT : S.tabs[k]? = some p.T := by rw [h.eq, List.getElem?_map, hp]; rfl
      obtain ⟨ad, had, hh⟩ := (h.mono (keep m3).le).el.el.at_enc hp
      dsimp only at had
      subst had
      simp only [RP_guard, W.guard_iff, RP_unSome, W.unSome_some]
      refine ⟨by omega, ?_⟩
      refine ld_has_z hh (y := (p.T.id, p.T.name, p.c, p.x, p.k, ())) rfl ?_
      have := ck_ld h3 (K := fun x => W.br x.1 (W.ret (fun y s' => y = .int .i64 (errS S) ∧ Fw.Mod [] s s') (.int .i64 100)) (W.call Try.prog 56 #[cp c, schV S (some ad, tn, tc), tabV p.T p.c p.x p.k] (true, []) fun _ => fun s' =>
          (∃ k_1 : Nat, ((S.version, S.last, (some ad, tn, tc), ()), (some (Addr.mk c 0 none), ()), ((some ad, tn, tc), ()), ((tn : Int), ()), (IntKind.i64.wrap ((k : Int) + 1), ()), ()) = (((S.version, S.last, (some ad, tn, tc), ()), (some (Addr.mk c 0 none), ()), ((some ad, tn, tc), ()), ((tn : Int), ()), ((k_1 : Int), ()), ()) : MDen [(true, [.int .i64, .int .i64, .slice]), (false, [.ptr]), (false, [.slice]), (false, [.int .i64]), (false, [.int .i64])]) ∧ k_1 ≤ tn ∧
            Ck s' c m S.last (!(P0 && (upTo (condI (fun _ T => tabB S T) S.tabs) k_1 && runIds S.last ((S.tabs.take k_1).flatMap idsOf) []))) (((S.tabs.take k_1).flatMap idsOf).reverse ++ []) ∧ Fw.Mod [c, m] s1 s') ∧ tn - (IntKind.i64.wrap ((k : Int) + 1)).toNat < tn - ((k : Int)).toNat)) (by
        simp only [W.br_iff]
        refine ⟨fun hb => ?_, fun hb => ?_⟩
        · have hb : b3 = true := hb
          refine ⟨?_, keep m3⟩
          have e : right S = false := by
            rw [hright]
            rw [hb] at hb3
            have hu : upTo (condI (fun _ T => tabB S T) S.tabs) k = false → allI (fun _ T => tabB S T) S.tabs = false := by
              intro e
              cases ha : allI (fun _ T => tabB S T) S.tabs with
              | false => rfl
              | true =>
                have hall := upTo_iff.1 ha
                have : upTo (condI (fun _ T => tabB S T) S.tabs) k = true := upTo_iff.2 fun i hi => hall i (by omega)
                rw [e] at this; cases this
            have hr : runIds S.last ((S.tabs.take k).flatMap idsOf) [] = false → runIds S.last (S.tabs.flatMap idsOf) [] = false := by
              intro e
              rw [← List.take_append_drop k S.tabs, List.flatMap_append, runIds_app, List.take_append_drop] at *
              rw [e]; rfl
            revert hb3
            cases P0 <;> cases h1 : upTo (condI (fun _ T => tabB S T) S.tabs) k <;> cases h2 : runIds S.last ((S.tabs.take k).flatMap idsOf) [] <;> simp
            all_goals first | (intro _; exact hr h2) | (intro h; rw [hu h1] at h; cases h)
          rw [hbad (b := true) e]
        · have hb : b3 = false := hb
          refine W.call_of (c_ckTable (p := p) h3 h (get_mem hp) (keep m3) hc hm) ?_
          rintro _ s4 ⟨rfl, h4, m4⟩
          refine ⟨(), rfl, ?_⟩
          have hw := wrap_succ (k := k) (by omega)
          have htk : (S.tabs.take (k + 1)).flatMap idsOf = (S.tabs.take k).flatMap idsOf ++ idsOf p.T := by rw [List.take_add_one, hT]; simp
          refine ⟨⟨k + 1, by rw [hw], hlt, ?_, m3.trans m4⟩, by rw [hw]; simp only [Int.toNat_natCast]; omega⟩
          rw [htk, upTo_succ, condI_at hT, runIds_app, List.reverse_append, List.append_assoc]
          have : (!(P0 && ((upTo (condI (fun _ T => tabB S T) S.tabs) k && tabB S p.T) && (runIds S.last ((S.tabs.take k).flatMap idsOf) [] && runIds S.last (idsOf p.T) (((S.tabs.take k).flatMap idsOf).reverse ++ []))))) = (b3 || !(tabB S p.T && runIds S.last (idsOf p.T) (((S.tabs.take k).flatMap idsOf).reverse ++ []))) := by
            rw [← hb3]
            generalize upTo (condI (fun _ T => tabB S T) S.tabs) k = U
            generalize runIds S.last ((S.tabs.take k).flatMap idsOf) [] = R
            generalize runIds S.last (idsOf p.T) _ = R2
            cases P0 <;> cases U <;> cases R <;> cases R2 <;> cases tabB S p.T <;> rfl
          rw [this]; exact h4)
      exact this
    · have hall : S.tabs.take k = S.tabs := List.take_of_length_le (by omega)
      have hku : upTo (condI (fun _ T => tabB S T) S.tabs) k = allI (fun _ T => tabB S T) S.tabs := by unfold allI; rw [show k = S.tabs.length by omega]
      rw [hall, hku, ← hright] at hb3
      simp only [RP_unSome, RP_ld]
      have := ck_ld h3 (K := fun x => W.br x.1 (W.ret (fun y s' => y = .int .i64 (errS S) ∧ Fw.Mod [] s s') (.int .i64 100)) (W.ret (fun y s' => y = .int .i64 (errS S) ∧ Fw.Mod [] s s') (.int .i64 0))) (by
        simp only [W.br_iff]
        refine ⟨fun hb => ⟨?_, keep m3⟩, fun hb => ⟨?_, keep m3⟩⟩
        · have hb : b3 = true := hb
          rw [hb] at hb3
          rw [hbad (b := true) (by simpa using hb3)]
        · have hb : b3 = false := hb
          rw [hb] at hb3
          have : right S = true := by simpa using hb3
          unfold errS; rw [this]; rfl)
      exact this
  · intro J hJ
    simp only [RP_nw, RP_ite]
    refine W.nw_of fun m s1 hm m1 k1 => ?_
    have fin : ∀ b, b = !headB S → W.nw (.cells #[.int .i64 S.last, .map (some m), .bool b] 114 (0, 0)) (fun r => J ((S.version, S.last, (ta, tn, tc), ()), (some ⟨r, 0, none⟩, ()), ())) s1 := by
      intro b hb
      refine ck_start k1 fun c s2 h2 m2 hc => ?_
      rw [hb] at h2
      exact hJ _ _ ⟨c, m, rfl, h2, m1.trans m2, m1.none hc (by simp), hm⟩
    simp only [W.br_iff, decide_eq_true_eq, decide_eq_false_iff_not]
    unfold headB at fin
    refine ⟨fun h1 => fin true (by rw [decide_eq_false (p := 0 ≤ S.version) (by omega)]; rfl), fun h1 => ⟨fun h2 => fin true (by rw [decide_eq_false (p := S.version ≤ 1125899906842624) (by omega)]; simp), fun h2 => ⟨fun h3 => fin true (by rw [decide_eq_false (p := 0 ≤ S.last) (by omega)]; simp), fun h3 => fin _ ?_⟩⟩⟩
    rw [decide_eq_true (p := 0 ≤ S.version) (by omega), decide_eq_true (p := S.version ≤ 1125899906842624) (by omega), decide_eq_true (p := 0 ≤ S.last) (by omega)]
    by_cases h4 : S.last ≤ 1125899906842624
    · rw [decide_eq_true h4, decide_eq_false (by omega)]; rfl
    · rw [decide_eq_false h4, decide_eq_true (by omega)]; rfl
end Go.Proofs.Ythepfbcgpbkbdaa
