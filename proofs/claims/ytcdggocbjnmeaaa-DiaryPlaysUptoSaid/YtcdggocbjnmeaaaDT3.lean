/-
  Diaries: what their functions do, the program's and the document's.
  Conditions: none; it proves no statement by itself.
-/
import Derived.Test.YtcdggocbjnmeaaaDT2
import Derived.Test.YtcdggocbjnmeaaaDP2
import Derived.Test.YtcdggocbjnmeaaaDC8
set_option linter.unusedVariables false
set_option linter.unusedSimpArgs false
set_option maxHeartbeats 1000000
namespace Go.Proofs.Ytcdggocbjnmeaaa
open Fw Go
attribute [-simp] Fw.W.ld_iff Fw.W.st_iff

theorem recsB_one (t : ByteArray) : recsB [t] = recB t := by
  apply toL_inj; unfold recsB recB; rw [toL_ofL, toL_ofL]; simp [Strip.recs]
theorem recsB_snoc {l : List ByteArray} {i : Nat} {x : ByteArray} (h : l[i]? = some x) : recsB (l.take (i + 1)) = recsB (l.take i) ++ recB x := by
  rw [List.take_add_one, h, ← recsB_one]
  exact recsB_app _ _
theorem recsB_nil : recsB [] = ⟨#[]⟩ := rfl
theorem recsB_take_le (l : List ByteArray) (i : Nat) : (recsB (l.take i)).size ≤ (recsB l).size := by
  have : recsB l = recsB (l.take i) ++ recsB (l.drop i) := by rw [← recsB_app, List.take_append_drop]
  rw [this, ByteArray.size_append]; omega
theorem bigB_at {l : List ByteArray} {i : Nat} {x : ByteArray} (h : l[i]? = some x) (hx : 65536 < x.size) : bigB l = true := by
  unfold bigB; rw [List.any_eq_true]; exact ⟨x, List.mem_of_getElem? h, decide_eq_true hx⟩
theorem bigB_snoc {l : List ByteArray} {i : Nat} {x : ByteArray} (h : l[i]? = some x) (hb : bigB (l.take i) = false) (hx : ¬ 65536 < x.size) : bigB (l.take (i + 1)) = false := by
  rw [List.take_add_one, h, bigB_app, hb]
  simp [bigB, hx]
theorem c_records {s : PH} {x : Nat} {a : Option Addr} {n c : Nat} {l : List ByteArray} (h : elems (Rd.enc strE) s a n l) (hl : l.length ≤ 1099511627776) (hz : (recsB l).size ≤ 4611686018427387904) :
    DCalls Try.prog 30 #[dptr x, .slice a n c] s fun y s' => y = .tuple #[.string (allB l).1, .int .i64 (allB l).2] ∧ s' = s := by
  refine ok_records x a n c _ s ?_
  unfold vc_records
  have hn : n = l.length := h.1
  simp only [RP_ite, Option.isNone_some, W.br_false, RP_ret, RP_guard, RP_loop, RP_unSome, RP_ld, RP_call]
  refine ⟨fun z s' => ∃ i : Nat, z = ((recsB (l.take i), ()), ((a, n, c), ()), ((n : Int), ()), ((i : Int), ()), ()) ∧ i ≤ n ∧ bigB (l.take i) = false ∧ s' = s, fun z _ => n - z.2.2.2.1.1.toNat, ⟨0, by rw [List.take_zero, recsB_nil]; rfl, Nat.zero_le _, rfl, rfl⟩, ?_⟩
  rintro _ s ⟨i, rfl, hi, hb, rfl⟩
  refine (W.br_iff _ _ _ _).2 ⟨fun hlt => ?_, fun hge => ?_⟩
  · have hlt : (i : Int) < (n : Int) := of_decide_eq_true hlt
    obtain ⟨t, ht⟩ : ∃ t, l[i]? = some t := ⟨_, List.getElem?_eq_getElem (by omega)⟩
    obtain ⟨ad, rfl, hh⟩ := h.at_enc ht
    dsimp only
    refine (W.guard_iff _ _ _).2 ⟨by omega, ?_⟩
    simp only [W.unSome_some, Int.toNat_natCast]
    refine ld_has_z hh (cs := [.str]) (y := (t, ())) rfl ?_
    refine W.call_of (c_Put t s) ?_
    rintro _ _ ⟨rfl, rfl⟩
    refine ⟨(((putE t).1, ()), ((putE t).2, ()), ()), rfl, ?_⟩
    refine (W.br_iff _ _ _ _).2 ⟨fun e => ?_, fun e => ?_⟩
    · have e : ((putE t).2 != 0) = true := e
      have hbig : 65536 < t.size := by
        unfold putE at e; split at e
        · assumption
        · simp at e
      have h1 : putE t = (⟨#[]⟩, 30) := by unfold putE; rw [if_pos hbig]
      have h2 : allB l = (⟨#[]⟩, 30) := by unfold allB; rw [if_pos (bigB_at ht hbig)]
      rw [h1, h2]; exact ⟨rfl, rfl⟩
    · have e : ((putE t).2 != 0) = false := e
      have hbig : ¬ 65536 < t.size := by
        intro hb2; unfold putE at e; rw [if_pos hb2] at e; simp at e
      have h1 : putE t = (recB t, 0) := by unfold putE; rw [if_neg hbig]
      rw [h1]
      have hs := recsB_snoc ht
      have hle := recsB_take_le l (i + 1)
      refine (W.guard_iff _ _ _).2 ⟨?_, ?_⟩
      · rw [← ByteArray.size_append, ← hs]; omega
      dsimp only
      rw [← hs, wrap_succ (k := i) (by omega)]
      exact ⟨⟨i + 1, rfl, by omega, bigB_snoc ht hb hbig, rfl⟩, by simp only [Int.toNat_natCast]; omega⟩
  · have hge : ¬ (i : Int) < (n : Int) := of_decide_eq_false hge
    rw [List.take_of_length_le (by omega)] at hb ⊢
    have h2 : allB l = (recsB l, 0) := by unfold allB; rw [if_neg (by rw [hb]; simp)]
    rw [h2]; exact ⟨rfl, rfl⟩
theorem c_rRecords {s : PH} {a : Option Addr} {n c : Nat} {l : List ByteArray} (h : elems (Rd.enc strE) s a n l) (hl : l.length ≤ 1099511627776) (hz : (recsB l).size ≤ 4611686018427387904) :
    DCalls Try.prog 33 #[.slice a n c] s fun y s' => y = .tuple #[.string (allB l).1, .int .i64 (allB l).2] ∧ s' = s := by
  refine ok_rRecords a n c _ s ?_
  unfold vc_rRecords
  have hn : n = l.length := h.1
  simp only [RP_ite, Option.isNone_some, W.br_false, RP_ret, RP_guard, RP_loop, RP_unSome, RP_ld, RP_call]
  refine ⟨fun z s' => ∃ i : Nat, z = ((recsB (l.take i), ()), ((i : Int), ()), ()) ∧ i ≤ n ∧ bigB (l.take i) = false ∧ s' = s, fun z _ => n - z.2.1.1.toNat, ⟨0, by rw [List.take_zero, recsB_nil]; rfl, Nat.zero_le _, rfl, rfl⟩, ?_⟩
  rintro _ s ⟨i, rfl, hi, hb, rfl⟩
  refine (W.br_iff _ _ _ _).2 ⟨fun hlt => ?_, fun hge => ?_⟩
  · have hlt : (i : Int) < (n : Int) := of_decide_eq_true hlt
    obtain ⟨t, ht⟩ : ∃ t, l[i]? = some t := ⟨_, List.getElem?_eq_getElem (by omega)⟩
    obtain ⟨ad, rfl, hh⟩ := h.at_enc ht
    dsimp only
    refine (W.guard_iff _ _ _).2 ⟨by omega, ?_⟩
    simp only [W.unSome_some, Int.toNat_natCast]
    refine ld_has_z hh (cs := [.str]) (y := (t, ())) rfl ?_
    refine W.call_of (c_rPut t s) ?_
    rintro _ _ ⟨rfl, rfl⟩
    refine ⟨(((putE t).1, ()), ((putE t).2, ()), ()), rfl, ?_⟩
    refine (W.br_iff _ _ _ _).2 ⟨fun e => ?_, fun e => ?_⟩
    · have e : ((putE t).2 != 0) = true := e
      have hbig : 65536 < t.size := by
        unfold putE at e; split at e
        · assumption
        · simp at e
      have h1 : putE t = (⟨#[]⟩, 30) := by unfold putE; rw [if_pos hbig]
      have h2 : allB l = (⟨#[]⟩, 30) := by unfold allB; rw [if_pos (bigB_at ht hbig)]
      rw [h1, h2]; exact ⟨rfl, rfl⟩
    · have e : ((putE t).2 != 0) = false := e
      have hbig : ¬ 65536 < t.size := by
        intro hb2; unfold putE at e; rw [if_pos hb2] at e; simp at e
      have h1 : putE t = (recB t, 0) := by unfold putE; rw [if_neg hbig]
      rw [h1]
      have hs := recsB_snoc ht
      have hle := recsB_take_le l (i + 1)
      refine (W.guard_iff _ _ _).2 ⟨?_, ?_⟩
      · rw [← ByteArray.size_append, ← hs]; omega
      dsimp only
      rw [← hs, wrap_succ (k := i) (by omega)]
      exact ⟨⟨i + 1, rfl, by omega, bigB_snoc ht hb hbig, rfl⟩, by simp only [Int.toNat_natCast]; omega⟩
  · have hge : ¬ (i : Int) < (n : Int) := of_decide_eq_false hge
    rw [List.take_of_length_le (by omega)] at hb ⊢
    have h2 : allB l = (recsB l, 0) := by unfold allB; rw [if_neg (by rw [hb]; simp)]
    rw [h2]; exact ⟨rfl, rfl⟩
/-! ## the program's diary -/
def DiaryIs (s : PH) (x b : Nat) (nm : ByteArray) : Prop := s x = some (.cells #[.pointer (some ⟨b, 0, none⟩), .string nm] 66 (0, 0))
/-- what an opening hands out -/
structure Opened (s : PH) (r : List ByteArray × Int) (D : Nat → PH → Prop) (y : Value) (s' : PH) : Prop where
  ex : ∃ px a c, y = .tuple #[.pointer px, .slice a r.1.length c, .int .i64 r.2] ∧ rowE strE s' 9 a r.1.length c r.1 ∧ (∀ g ∈ Fw.blk a, s g = none) ∧ ((r.2 = 0 ∧ ∃ x, px = some ⟨x, 0, none⟩ ∧ D x s' ∧ s x = none) ∨ (r.2 ≠ 0 ∧ px = none))
theorem DriveIs.known {s : PH} {b m : Nat} {d : DS} (h : DriveIs s b m d) : s b ≠ none ∧ s m ≠ none := ⟨by rw [h.blk]; simp, h.map.known⟩
theorem c_Open {s : PH} {b m : Nat} {d : DS} (h : DriveIs s b m d) (nm : ByteArray) (hz : (d.read nm).1.size ≤ 1099511627776) : DCalls Try.prog 10 #[dptr b, .string nm] s fun y s' =>
    Opened s (d.opens nm).1 (fun x s' => DiaryIs s' x b nm) y s' ∧ DriveIs s' b m (d.opens nm).2 ∧ Fw.Mod [b, m] s s' := by
  refine ok_Open b nm _ s ?_
  unfold vc_Open
  obtain ⟨O, ho⟩ : ∃ O, d.opens nm = O := ⟨_, rfl⟩
  rw [ho]
  unfold DS.opens at ho
  obtain ⟨R, hR⟩ : ∃ R : Value → PH → Prop, (fun y s' => Opened s O.1 (fun x s' => DiaryIs s' x b nm) y s' ∧ DriveIs s' b m O.2 ∧ Fw.Mod [b, m] s s') = R := ⟨_, rfl⟩
  rw [hR]
  simp only [RP_ite, RP_ret, RP_guard, RP_call, RP_nw]
  obtain ⟨t, e, hte⟩ : ∃ t e, d.read nm = (t, e) := ⟨_, _, rfl⟩
  have hrd := c_Read h nm
  rw [hte] at hrd hz ho
  dsimp only at hz ho
  refine W.call_of hrd ?_
  rintro _ s ⟨rfl, rfl⟩
  refine ⟨((t, ()), (e, ()), ()), rfl, ?_⟩
  refine (W.br_iff _ _ _ _).2 ⟨fun e1 => ?_, fun e1 => ?_⟩
  · have e1 : (e != 0) = true := e1
    have e1 : e ≠ 0 := by simpa using e1
    rw [if_pos e1] at ho
    rw [← hR]
    refine ⟨⟨none, none, 0, ?_, ?_, by simp [Fw.blk], .inr ?_⟩, ?_, Mod.refl _ _⟩
    · rw [← ho]; rfl
    · rw [← ho]; exact rowE.nil
    · rw [← ho]; exact ⟨e1, rfl⟩
    · rw [← ho]; exact h
  have e1 : (e != 0) = false := e1
  have e1 : e = 0 := by simpa using e1
  subst e1
  rw [if_neg (by simp)] at ho
  obtain ⟨l, k, hlk⟩ : ∃ l k, scanB t = (l, k) := ⟨_, _, rfl⟩
  have hsc := c_Scan t hz s
  have hkt := scanB_le t
  unfold ScanIs at hsc
  rw [hlk] at hsc ho hkt
  dsimp only at hsc ho hkt
  refine W.call_of hsc ?_
  rintro _ s1 ⟨a, c, rfl, hrow, hf, m1⟩
  refine ⟨(((a, l.length, c), ()), ((k : Int), ()), ()), rfl, ?_⟩
  have h1 := h.mod m1 (by simp) (by simp)
  refine (W.br_iff _ _ _ _).2 ⟨fun e2 => ?_, fun e2 => ?_⟩
  · have e2 : (k : Int) < (t.size : Int) := of_decide_eq_true e2
    rw [if_pos (by omega)] at ho
    dsimp only
    refine (W.guard_iff _ _ _).2 ⟨by omega, ?_⟩
    simp only [Int.toNat_natCast]
    obtain ⟨f, d', hd'⟩ : ∃ f d', d.swap nm (t.extract 0 k) = (f, d') := ⟨_, _, rfl⟩
    have hsw := c_Swap h1 nm (t.extract 0 k)
    rw [hd'] at hsw ho
    dsimp only at hsw ho
    refine W.call_of hsw ?_
    rintro _ s2 ⟨rfl, h2, m2⟩
    refine ⟨((f, ()), ()), rfl, ?_⟩
    have m12 : Fw.Mod [b, m] s s2 := (m1.mono (by simp)).trans m2
    refine (W.br_iff _ _ _ _).2 ⟨fun e3 => ?_, fun e3 => ?_⟩
    · have e3 : (f != 0) = true := e3
      have e3 : f ≠ 0 := by simpa using e3
      rw [if_pos e3] at ho
      rw [← hR]
      refine ⟨⟨none, none, 0, ?_, ?_, by simp [Fw.blk], .inr ?_⟩, ?_, m12⟩
      · rw [← ho]; rfl
      · rw [← ho]; exact rowE.nil
      · rw [← ho]; exact ⟨e3, rfl⟩
      · rw [← ho]; exact h2
    · have e3 : (f != 0) = false := e3
      have e3 : f = 0 := by simpa using e3
      subst e3
      rw [if_neg (by simp)] at ho
      refine W.nw_of fun x s3 hx m3 k3 => ?_
      have hdis : ∀ g ∈ Fw.blk a, g ∉ [b, m] := by
        intro g hg hg2
        have := hf g hg
        simp at hg2
        rcases hg2 with rfl | rfl
        · exact h.known.1 this
        · exact h.known.2 this
      rw [← hR]
      refine ⟨⟨some ⟨x, 0, none⟩, a, c, ?_, ?_, hf, .inl ⟨?_, x, rfl, k3, ?_⟩⟩, ?_, m12.trans (m3.mono (by simp))⟩
      · rw [← ho]
      · rw [← ho]; exact (hrow.mod m2 hdis).mod m3 (by simp)
      · rw [← ho]
      · have hxn : x ≠ b ∧ x ≠ m := ⟨fun e => by subst e; exact h2.known.1 hx, fun e => by subst e; exact h2.known.2 hx⟩
        exact m12.none hx (by simp [hxn.1, hxn.2])
      · rw [← ho]; exact h2.mod m3 (by simp) (by simp)
  · have e2 : ¬ (k : Int) < (t.size : Int) := of_decide_eq_false e2
    rw [if_neg (by omega)] at ho
    refine W.nw_of fun x s3 hx m3 k3 => ?_
    rw [← hR]
    refine ⟨⟨some ⟨x, 0, none⟩, a, c, ?_, ?_, hf, .inl ⟨?_, x, rfl, k3, ?_⟩⟩, ?_, (m1.trans m3).mono (by simp)⟩
    · rw [← ho]
    · rw [← ho]; exact hrow.mod m3 (by simp)
    · rw [← ho]
    · exact m1.none hx (by simp)
    · rw [← ho]; exact h1.mod m3 (by simp) (by simp)
theorem DiaryIs.mod {L : List Nat} {s s' : PH} {x b : Nat} {nm : ByteArray} (h : DiaryIs s x b nm) (m : Fw.Mod L s s') (hx : x ∉ L) : DiaryIs s' x b nm := m.at h hx
theorem DiaryIs.off {s : PH} {x b m : Nat} {nm : ByteArray} {d : DS} (h : DiaryIs s x b nm) (hd : DriveIs s b m d) : x ∉ [b, m] := by
  intro hx
  simp at hx
  rcases hx with rfl | rfl
  · have := hd.blk; unfold DiaryIs at h; rw [h] at this; cases this
  · obtain ⟨es, c, h1, _⟩ := hd.map; unfold DiaryIs at h; rw [h] at h1; cases h1
theorem c_dAppend {s : PH} {x b m : Nat} {d : DS} {nm : ByteArray} (hx : DiaryIs s x b nm) (h : DriveIs s b m d) {a : Option Addr} {n c : Nat} {l : List ByteArray} (hl : elems (Rd.enc strE) s a n l) (hll : l.length ≤ 1099511627776) (hz : (d.got nm).1.size + (recsB l).size ≤ 4611686018427387904) :
    DCalls Try.prog 17 #[dptr x, .slice a n c] s fun y s' => y = .int .i64 (d.puts nm l).1 ∧ DriveIs s' b m (d.puts nm l).2 ∧ Fw.Mod [b, m] s s' := by
  refine ok_dAppend x a n c _ s ?_
  unfold vc_dAppend
  have hn : n = l.length := hl.1
  obtain ⟨O, ho⟩ : ∃ O, d.puts nm l = O := ⟨_, rfl⟩
  rw [ho]
  unfold DS.puts at ho
  obtain ⟨R, hR⟩ : ∃ R : Value → PH → Prop, (fun y s' => y = .int .i64 O.1 ∧ DriveIs s' b m O.2 ∧ Fw.Mod [b, m] s s') = R := ⟨_, rfl⟩
  rw [hR]
  simp only [RP_ite, RP_ret, RP_guard, RP_call, RP_nw, RP_join, RP_unSome, RP_ld]
  refine W.call_of (c_records (x := x) (c := c) hl hll (by omega)) ?_
  rintro _ s ⟨rfl, rfl⟩
  refine ⟨(((allB l).1, ()), ((allB l).2, ()), ()), rfl, ?_⟩
  have hall : (allB l).2 = 0 → (allB l).1 = recsB l := by
    intro e; unfold allB at e ⊢
    split
    · rename_i hb; rw [if_pos hb] at e; simp at e
    · rfl
  obtain ⟨t, e, hte⟩ : ∃ t e, allB l = (t, e) := ⟨_, _, rfl⟩
  rw [hte] at ho hall ⊢
  dsimp only at ho hall
  refine W.join_gen (fun z s'' => z = ((t, ()), ()) ∧ s'' = s ∧ ¬ (e ≠ 0 ∨ l.length = 0)) ?_ ?_
  rotate_left
  · intro J hJ
    have hfin : (e ≠ 0 ∨ l.length = 0) → R (.int .i64 e) s := by
      intro hc
      rw [if_pos hc] at ho
      rw [← hR, ← ho]
      exact ⟨rfl, h, Mod.refl _ _⟩
    refine (W.br_iff _ _ _ _).2 ⟨fun e1 => hfin (.inl (by simpa using e1)), fun e1 => (W.br_iff _ _ _ _).2 ⟨fun e2 => hfin (.inr ?_), fun e2 => hJ _ _ ⟨rfl, rfl, ?_⟩⟩⟩
    · have e2 : (((n : Nat) : Int) == 0) = true := e2
      have : ((n : Nat) : Int) = 0 := eq_of_beq e2
      omega
    · have e1 : (e != 0) = false := e1
      have e2 : (((n : Nat) : Int) == 0) = false := e2
      have h1 : e = 0 := by simpa using e1
      have h2 : ((n : Nat) : Int) ≠ 0 := by simpa using e2
      omega
  rintro _ s2 ⟨rfl, rfl, hc⟩
  rw [if_neg hc] at ho
  have he0 : e = 0 := by omega
  have ht := hall he0
  subst ht
  have hb := hx
  unfold DiaryIs at hb
  simp only [W.unSome_some, add_mk, Nat.zero_add]
  rw [W.ld_at hb]
  refine ⟨(some ⟨b, 0, none⟩, ()), rfl, ?_⟩
  simp only [W.unSome_some, add_mk, Nat.zero_add]
  rw [W.ld_at hb]
  refine ⟨(nm, ()), rfl, ?_⟩
  refine W.call_of (c_Append h nm (recsB l) (by omega)) ?_
  rintro _ s3 ⟨rfl, h3, m3⟩
  obtain ⟨f, d', hd'⟩ : ∃ f d', d.append nm (recsB l) = (f, d') := ⟨_, _, rfl⟩
  rw [hd'] at h3 ho ⊢
  dsimp only at h3 ho ⊢
  refine ⟨((f, ()), ()), rfl, ?_⟩
  refine (W.br_iff _ _ _ _).2 ⟨fun e1 => ?_, fun e1 => ?_⟩
  · have e1 : (f != 0) = true := e1
    rw [if_pos (by simpa using e1)] at ho
    rw [← hR, ← ho]
    exact ⟨rfl, h3, m3⟩
  · have e1 : (f != 0) = false := e1
    rw [if_neg (by simpa using e1)] at ho
    have hb3 := hx.mod m3 (hx.off h)
    unfold DiaryIs at hb3
    simp only [W.unSome_some, add_mk, Nat.zero_add]
    rw [W.ld_at hb3]
    refine ⟨(some ⟨b, 0, none⟩, ()), rfl, ?_⟩
    simp only [W.unSome_some, add_mk, Nat.zero_add]
    rw [W.ld_at hb3]
    refine ⟨(nm, ()), rfl, ?_⟩
    refine W.call_of (c_Sync h3 nm) ?_
    rintro _ s4 ⟨rfl, h4, m4⟩
    refine ⟨(((d'.sync nm).1, ()), ()), rfl, ?_⟩
    rw [← hR, ← ho]
    exact ⟨rfl, h4, m3.trans m4⟩
theorem c_dRewrite {s : PH} {x b m : Nat} {d : DS} {nm : ByteArray} (hx : DiaryIs s x b nm) (h : DriveIs s b m d) {a : Option Addr} {n c : Nat} {l : List ByteArray} (hl : elems (Rd.enc strE) s a n l) (hll : l.length ≤ 1099511627776) (hz : (recsB l).size ≤ 4611686018427387904) :
    DCalls Try.prog 19 #[dptr x, .slice a n c] s fun y s' => y = .int .i64 (d.rewrites nm l).1 ∧ DriveIs s' b m (d.rewrites nm l).2 ∧ Fw.Mod [b, m] s s' := by
  refine ok_dRewrite x a n c _ s ?_
  unfold vc_dRewrite
  obtain ⟨O, ho⟩ : ∃ O, d.rewrites nm l = O := ⟨_, rfl⟩
  rw [ho]
  unfold DS.rewrites at ho
  obtain ⟨R, hR⟩ : ∃ R : Value → PH → Prop, (fun y s' => y = .int .i64 O.1 ∧ DriveIs s' b m O.2 ∧ Fw.Mod [b, m] s s') = R := ⟨_, rfl⟩
  rw [hR]
  simp only [RP_ite, RP_ret, RP_guard, RP_call, RP_nw, RP_join, RP_unSome, RP_ld]
  refine W.call_of (c_records (x := x) (c := c) hl hll hz) ?_
  rintro _ s ⟨rfl, rfl⟩
  refine ⟨(((allB l).1, ()), ((allB l).2, ()), ()), rfl, ?_⟩
  obtain ⟨t, e, hte⟩ : ∃ t e, allB l = (t, e) := ⟨_, _, rfl⟩
  rw [hte] at ho ⊢
  dsimp only at ho
  refine (W.br_iff _ _ _ _).2 ⟨fun e1 => ?_, fun e1 => ?_⟩
  · have e1 : (e != 0) = true := e1
    rw [if_pos (by simpa using e1)] at ho
    rw [← hR, ← ho]
    exact ⟨rfl, h, Mod.refl _ _⟩
  · have e1 : (e != 0) = false := e1
    rw [if_neg (by simpa using e1)] at ho
    have hb := hx
    unfold DiaryIs at hb
    simp only [W.unSome_some, add_mk, Nat.zero_add]
    rw [W.ld_at hb]
    refine ⟨(some ⟨b, 0, none⟩, ()), rfl, ?_⟩
    simp only [W.unSome_some, add_mk, Nat.zero_add]
    rw [W.ld_at hb]
    refine ⟨(nm, ()), rfl, ?_⟩
    refine W.call_of (c_Swap h nm t) ?_
    rintro _ s3 ⟨rfl, h3, m3⟩
    refine ⟨(((d.swap nm t).1, ()), ()), rfl, ?_⟩
    rw [← hR, ← ho]
    exact ⟨rfl, h3, m3⟩
end Go.Proofs.Ytcdggocbjnmeaaa
