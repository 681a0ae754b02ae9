/-
  The ballot: both stand alike; the law BallotLoads.
  Conditions: none; it proves no statement by itself.
-/
import Derived.Test.YtfpbiecmobdnnaaC18
import Derived.Test.YtfpbiecmobdnnaaFwV
set_option linter.unusedVariables false
set_option linter.unusedSimpArgs false
set_option maxHeartbeats 1000000
set_option maxRecDepth 100000
namespace Go.Proofs.Ytfpbiecmobdnnaa
open Fw Go
attribute [-simp] Fw.W.ld_iff Fw.W.st_iff

section
variable {s : PH} {b r : Nat} {l v n m lr o : Tri} {ps : List (Msg × Tri)} {B B' : BS} {X : RS}
theorem c_stands (hB : Bal s b l v n m B) (hR : Ref s r lr o ps B' X) (he : B' = B) (hs : B.Small) (hbs : B.base ≤ 4611686016279904256) : DCalls Try.prog 16 #[bptr b, bptr r] s (ValPost (.bool true) s) := by
  subst he
  refine ok_stands2 b r _ s ?_
  unfold vc_stands2
  simp only [RP_call]
  have hnl := num_lst hs hbs
  obtain ⟨q1, q2, q3⟩ := _root_.id hs
  have hd := lst_def B'
  unfold Num at hnl
  refine W.call_of (c_Stand hB hs) ?_
  rintro _ s1 ⟨rfl, m1⟩
  refine ⟨((B'.term, B'.vote, B'.role, B'.lead, B'.base, B'.lst, B'.commit, ()), ()), rfl, ?_⟩
  have hB1 := hB.new m1
  have hR1 := hR.new m1
  have hr1 := hR1.cell
  simp only [RP_join]
  refine W.join_gen (fun _ s' => s' = s1) ?_ ?_
  · rintro _ s1 rfl
    simp [W.ld_at hr1]
    have hll := hR1.log.len
    refine ⟨fun z s' => ∃ k : Nat, z = (((lr.2.1 : Int), ()), ((k : Int), ()), ()) ∧ k ≤ lr.2.1 ∧ Fw.Mod [] s1 s', fun z _ => lr.2.1 - z.2.1.1.toNat, ⟨0, rfl, Nat.zero_le _, Mod.refl _ _⟩, ?_⟩
    rintro _ s2 ⟨k, rfl, hk, m2⟩
    have hB2 := hB1.new m2
    have hR2 := hR1.new m2
    have hr2 := hR2.cell
    have hwk : IntKind.i64.wrap ((k : Int) + 1) = ((k + 1 : Nat) : Int) := by rw [wrap_in (by omega) (by omega)]; simp
    simp [W.br_iff, W.ld_at hr2]
    refine ⟨fun hlt => ?_, fun hge => ?_⟩
    · have hw1 : IntKind.i64.wrap (IntKind.i64.wrap (B'.base + 1) + (k : Int)) = B'.base + 1 + k := by rw [wrap_in (n := B'.base + 1) (by omega) (by omega), wrap_in (by omega) (by omega)]
      rw [hw1]
      refine W.call_of (c_Entry hB2 hs (i := B'.base + 1 + k) (by unfold Num; omega)) ?_
      rintro _ s3 ⟨rfl, m3⟩
      obtain ⟨e, he, he'⟩ := BS.entry_in (B := B') (i := B'.base + 1 + k) (by omega) (by omega)
      rw [he]
      refine ⟨((e.term, e.at_, e.born, e.text, ()), (true, ()), ()), rfl, ?_⟩
      have hR3 := hR2.new m3
      have hr3 := hR3.cell
      simp [W.ld_at hr3, W.br_iff]
      refine ⟨hlt, ?_⟩
      have hk' : (B'.base + 1 + (k : Int) - B'.base - 1).toNat = k := by omega
      rw [hk'] at he'
      obtain ⟨g, hg, hh⟩ := hR3.log.at he'
      rw [hg]
      simp only [W.unSome_some, add_mk, Nat.zero_add]
      refine ld_has_z hh (cs := [.int .i64, .int .i64, .int .i64, .str]) (y := (e.term, e.at_, e.born, e.text, ())) rfl ?_
      simp [W.br_iff, hwk]
      exact ⟨⟨k + 1, by simp, hlt, m2.trans m3⟩, by omega⟩
    · refine W.call_of (c_Entry hB2 hs (i := B'.base) (by unfold Num; omega)) ?_
      rintro _ s3 ⟨rfl, m3⟩
      rw [BS.entry_out (.inl (Int.le_refl _))]
      refine ⟨((0, 0, 0, ⟨#[]⟩, ()), (false, ()), ()), rfl, ?_⟩
      refine W.call_of (c_rLast (hR2.new m3) hs) ?_
      rintro _ s3 ⟨rfl, rfl⟩
      refine ⟨((B'.lst, ()), ()), rfl, ?_⟩
      have hw1 : IntKind.i64.wrap (B'.lst + 1) = B'.lst + 1 := wrap_in (by omega) (by omega)
      simp only [hw1]
      refine W.call_of (c_Entry (hB2.new m3) hs (i := B'.lst + 1) (by unfold Num; omega)) ?_
      rintro _ s4 ⟨rfl, m4⟩
      rw [BS.entry_out (.inr (by omega))]
      refine ⟨((0, 0, 0, ⟨#[]⟩, ()), (false, ()), ()), rfl, ?_⟩
      simp
      exact ⟨rfl, ((m1.trans m2).trans m3).trans m4⟩
  · intro J hJ
    simp [W.ld_at hr1]
    refine W.call_of (c_rLast hR1 hs) ?_
    rintro _ s1 ⟨rfl, rfl⟩
    refine ⟨((B'.lst, ()), ()), rfl, ?_⟩
    simp [W.still_at hr1, W.ld_at hr1]
    refine ⟨?_, ?_⟩
    · refine W.call_of (c_Snap hB1) ?_
      rintro _ s1 ⟨rfl, rfl⟩
      refine ⟨((B'.snap, ()), ()), rfl, ?_⟩
      simp [W.ld_at hr1]
      exact hJ _ _ rfl
    · refine W.call_of (c_Snap hB1) ?_
      rintro _ s1 ⟨rfl, rfl⟩
      refine ⟨((B'.snap, ()), ()), rfl, ?_⟩
      simp
      exact hJ _ _ rfl
end

theorem rdDl_ones : rdDl.Ones := Rd.map_ones (Rd.pair_ones Rd.int_ones (Rd.pair_ones Rd.int_ones (Rd.pair_ones Rd.bool_ones (Rd.pair_ones Rd.int_ones (Rd.pair_ones Rd.int_ones (Rd.pair_ones Rd.str_ones (Rd.pair_ones Rd.int_ones (Rd.pair_ones Rd.sl_ones Rd.unit_ones))))))))
theorem lays_none_id {id size : Int} {ls : List Dl} {B : BS} (h : BS.loaded id size ls = some B) : B.touched = false ∧ B.whole = false ∧ B.from_ = B.lst + 1 := by
  unfold BS.loaded at h
  simp only [Option.map_eq_some_iff] at h
  obtain ⟨B0, _, rfl⟩ := h
  exact ⟨rfl, rfl, rfl⟩
theorem lays_inv : ∀ (ls : List Dl) {B B' : BS}, 0 ≤ B.base → B.base ≤ 2199023255552 → B.lays ls = some B' → 0 ≤ B'.base ∧ B'.base ≤ 2199023255552 ∧ B'.log.length ≤ B.log.length + dtot ls
  | [], B, B', h0, h1, h => by cases h; exact ⟨h0, h1, by simp [dtot]⟩
  | D :: ls, B, B', h0, h1, h => by
    simp only [BS.lays] at h
    have hF : FAR = 1099511627776 := rfl
    have hdt : dtot (D :: ls) = D.list.length + dtot ls := by simp [dtot]
    cases hl : B.lay D with
    | none => rw [hl] at h; cases h
    | some B1 =>
      rw [hl] at h
      have hb : 0 ≤ B1.base ∧ B1.base ≤ 2199023255552 ∧ B1.log.length ≤ B.log.length + D.list.length := by
        unfold BS.lay at hl
        split at hl
        · cases hl
        · split at hl
          · split at hl
            · cases hl
            · cases hl; dsimp only; omega
          · split at hl
            · cases hl
            · cases hl; dsimp only; rw [List.length_append, List.length_take]; omega
      obtain ⟨g1, g2, g3⟩ := lays_inv ls hb.1 hb.2.1 h
      omega
def LlZ (ls : List Dl) (a : Option Addr) (an ac : Nat) (s0 : PH) (z : MDen [(false, [.int .i64]), (false, [.slice]), (false, [.int .i64]), (false, [.int .i64])]) (s' : PH) : Prop :=
  ∃ k : Nat, z = ((((dtot (ls.take k) : Nat) : Int), ()), ((a, an, ac), ()), ((an : Int), ()), ((k : Int), ()), ()) ∧ k ≤ an ∧ dtot (ls.take k) ≤ 4096 ∧ s' = s0
theorem c_BallotLoads {s : PH} (id size : Int) {a : Option Addr} {an ac : Nat} {ls : List Dl} (h : elems rdDl s a an ls) (hn : an ≤ 140737488355328) : DCalls Try.prog 6 #[.int .i64 id, .int .i64 size, .slice a an ac] s fun x s' => x = .bool true ∧ Fw.Mod [] s s' := by
  refine ok_BallotLoads2 id size a an ac _ s ?_
  unfold vc_BallotLoads2
  have hlen := h.1
  simp only [RP_join]
  refine W.join_gen (fun _ s' => Fw.Mod [] s s' ∧ an ≤ 100) ?_ ?_
  · rintro _ s1 ⟨m1, han⟩
    have h1 := h.mono m1.le
    simp only [RP_loop]
    refine ⟨LlZ ls a an ac s1, fun z _ => an - z.2.2.2.1.1.toNat, ⟨0, rfl, Nat.zero_le _, Nat.zero_le _, rfl⟩, ?_⟩
    rintro _ s1 ⟨k, rfl, hk, hkt, rfl⟩
    simp [W.br_iff, -W.nw_iff]
    refine ⟨fun hlt => ⟨hlt, ?_⟩, fun hge => ?_⟩
    · obtain ⟨D, hD⟩ : ∃ D, ls[k]? = some D := ⟨_, List.getElem?_eq_getElem (by omega)⟩
      obtain ⟨ad, t, rfl, hhas, hI⟩ := dl_at h1 hD
      have hvl := hI.view.len
      have hroom := hI.room
      have hdt := dtot_take hD
      simp only [W.unSome_some]
      refine ld_has_z hhas (y := (D.term, D.vote, D.whole, D.base, D.baseTerm, D.snap, D.from_, t, ())) rfl ?_
      have e1 : IntKind.i64.wrap (((dtot (ls.take k) : Nat) : Int) + (t.2.1 : Int)) = ((dtot (ls.take (k + 1)) : Nat) : Int) := by rw [wrap_in (by omega) (by omega), hdt, hvl]; simp
      have hw : IntKind.i64.wrap ((k : Int) + 1) = ((k + 1 : Nat) : Int) := by rw [wrap_in (by omega) (by omega)]; simp
      simp [W.br_iff, e1, hw]
      exact ⟨fun _ => m1, fun hle => ⟨⟨k + 1, by simp, hlt, by omega, rfl⟩, by omega⟩⟩
    · have hall : ls.take k = ls := List.take_of_length_le (by omega)
      rw [hall] at hkt
      refine elems.copy (R := rdDl) h1 rdDl_ones (by decide) rfl (by omega) (by omega) ?_
      intro g c' s2 h2 hgc m2 hg _
      refine W.call_of (c_Load h2 (by omega) (by omega)) ?_
      intro x s3 hx
      obtain ⟨m3, hx⟩ := hx
      have mm3 := (m1.trans m2).trans m3
      have hr := c_rLoad (id := id) (size := size) (ac := ac) (h.mono mm3.le) (by omega) (by omega)
      have fin : ∀ (p : Option Addr) (e1 : Int), x = .tuple #[.pointer p, .int .i64 e1] → (∀ q e2 s4, Fw.Mod [] s3 s4 → rLoadPost id size ls s3 (.tuple #[.pointer q, .int .i64 e2]) s4 →
          W.join [(false, [.ptr]), (false, [.ptr])] (fun J30 => W.br (e1 != e2) (W.br (e1 == e2) (W.ret (fun x s' => x = .bool true ∧ Fw.Mod [] s s') (.bool p.isNone)) (W.ret (fun x s' => x = .bool true ∧ Fw.Mod [] s s') (.bool false)))
            (W.br (e2 != 0) (W.br (e1 == e2) (W.ret (fun x s' => x = .bool true ∧ Fw.Mod [] s s') (.bool p.isNone)) (W.ret (fun x s' => x = .bool true ∧ Fw.Mod [] s s') (.bool false))) (J30 ((p, ()), (q, ()), ()))))
            (fun z => W.call Try.prog 17 #[.pointer z.1.1] (true, [(true, [.int .i64, .int .i64, .bool, .int .i64, .int .i64, .str, .int .i64, .slice]), (false, [.bool])]) fun y =>
              W.call Try.prog 16 #[.pointer z.1.1, .pointer z.2.1.1] (false, [(false, [.bool])]) fun y2 => W.br y2.1.1 (W.ret (fun x s' => x = .bool true ∧ Fw.Mod [] s s') (.bool (!y.2.1.1))) (W.ret (fun x s' => x = .bool true ∧ Fw.Mod [] s s') (.bool false))) s4) →
          ∃ z : MDen [(false, [.ptr]), (false, [.int .i64])], mkRes (true, [(false, [.ptr]), (false, [.int .i64])]) z = x ∧ W.call Try.prog 22 #[.int .i64 id, .int .i64 size, .slice a an ac] (true, [(false, [.ptr]), (false, [.int .i64])]) (fun z2 =>
            W.join [(false, [.ptr]), (false, [.ptr])] (fun J30 => W.br (z.2.1.1 != z2.2.1.1) (W.br (z.2.1.1 == z2.2.1.1) (W.ret (fun x s' => x = .bool true ∧ Fw.Mod [] s s') (.bool z.1.1.isNone)) (W.ret (fun x s' => x = .bool true ∧ Fw.Mod [] s s') (.bool false)))
              (W.br (z2.2.1.1 != 0) (W.br (z.2.1.1 == z2.2.1.1) (W.ret (fun x s' => x = .bool true ∧ Fw.Mod [] s s') (.bool z.1.1.isNone)) (W.ret (fun x s' => x = .bool true ∧ Fw.Mod [] s s') (.bool false))) (J30 ((z.1.1, ()), (z2.1.1, ()), ()))))
              (fun z => W.call Try.prog 17 #[.pointer z.1.1] (true, [(true, [.int .i64, .int .i64, .bool, .int .i64, .int .i64, .str, .int .i64, .slice]), (false, [.bool])]) fun y =>
                W.call Try.prog 16 #[.pointer z.1.1, .pointer z.2.1.1] (false, [(false, [.bool])]) fun y2 => W.br y2.1.1 (W.ret (fun x s' => x = .bool true ∧ Fw.Mod [] s s') (.bool (!y.2.1.1))) (W.ret (fun x s' => x = .bool true ∧ Fw.Mod [] s s') (.bool false)))) s3 := by
        intro p e1 hxe hK
        refine ⟨((p, ()), (e1, ()), ()), hxe.symm, ?_⟩
        refine W.call_of hr ?_
        intro y s4 hy
        have hy' := hy
        obtain ⟨m4, ⟨_, _, _, _, _, rfl, _⟩ | ⟨_, _, rfl⟩ | ⟨_, rfl⟩⟩ := hy'
        · exact ⟨((_, ()), (_, ()), ()), rfl, hK _ _ _ m4 hy⟩
        · exact ⟨((none, ()), (_, ()), ()), rfl, hK _ _ _ m4 hy⟩
        · exact ⟨((none, ()), (_, ()), ()), rfl, hK _ _ _ m4 hy⟩
      rcases hx with ⟨hok, B, hB, b, l, rfl, hBal, hf⟩ | ⟨hok, hB, rfl⟩ | ⟨hok, rfl⟩
      · refine fin _ _ rfl ?_
        rintro q e2 s4 m4 ⟨_, ⟨_, B', hB', r, lr, he, hR, hfr⟩ | ⟨_, hB', _⟩ | ⟨hno, _⟩⟩
        · cases he
          rw [hB] at hB'; cases hB'
          have hBal4 := hBal.new m4
          obtain ⟨t1, t2, t3⟩ := lays_none_id hB
          have hsm : B.Small ∧ B.base ≤ 2199023255552 := by
            unfold BS.loaded at hB
            simp only [Option.map_eq_some_iff] at hB
            obtain ⟨B0, hB0, rfl⟩ := hB
            obtain ⟨g1, g2, g3⟩ := lays_inv ls (by show (0 : Int) ≤ 0; omega) (by show (0 : Int) ≤ _; omega) hB0
            have : (newBS id size).log.length = 0 := rfl
            exact ⟨⟨g1, by show B0.base ≤ _; omega, by show B0.log.length ≤ _; omega⟩, g2⟩
          have hd := lst_def B
          simp only [W.join_iff]
          simp
          refine W.call_of (c_Delta hBal4 hsm.1 (by have := hsm.2; omega) (fun _ => ⟨by omega, by omega⟩)) ?_
          rintro _ s5 (⟨_, rfl, hBal5, m5⟩ | ⟨ht, _⟩)
          · refine ⟨((0, 0, false, 0, 0, ⟨#[]⟩, 0, (none, 0, 0), ()), (false, ()), ()), rfl, ?_⟩
            refine W.call_of (c_stands hBal5 (hR.new m5) rfl hsm.1 (by have := hsm.2; omega)) ?_
            rintro _ s6 ⟨rfl, m6⟩
            refine ⟨((true, ()), ()), rfl, ?_⟩
            simp
            exact ((mm3.trans m4).trans m5).trans m6
          · rw [t1] at ht; cases ht
        · rw [hB] at hB'; cases hB'
        · exact absurd hok hno
      · refine fin _ _ rfl ?_
        rintro q e2 s4 m4 ⟨_, ⟨_, B', hB', _⟩ | ⟨_, hB', he⟩ | ⟨hno, _⟩⟩
        · rw [hB] at hB'; cases hB'
        · cases he
          simp only [W.join_iff]
          simp
          exact mm3.trans m4
        · exact absurd hok hno
      · refine fin _ _ rfl ?_
        rintro q e2 s4 m4 ⟨_, ⟨hno, _⟩ | ⟨hno, _⟩ | ⟨_, he⟩⟩
        · exact absurd hno hok
        · exact absurd hno hok
        · cases he
          simp only [W.join_iff]
          simp
          exact mm3.trans m4
  · intro J hJ
    have hend : ∀ s1, Fw.Mod [] s s1 → W.call Try.prog 8 #[] (false, [(false, [.bool])]) (fun x => W.ret (fun x s' => x = .bool true ∧ Fw.Mod [] s s') (.bool x.1.1)) s1 := by
      intro s1 m1
      refine W.call_of (c_awake s1) ?_
      rintro _ s4 ⟨rfl, m4⟩
      exact ⟨((true, ()), ()), rfl, rfl, m1.trans m4⟩
    refine W.call_of (c_awake s) ?_
    rintro _ s1 ⟨rfl, m1⟩
    refine ⟨((true, ()), ()), rfl, ?_⟩
    simp [W.br_iff]
    refine ⟨fun _ => hend s1 m1, fun hle => hJ _ _ ⟨m1, by omega⟩⟩
end Go.Proofs.Ytfpbiecmobdnnaa
