/-
  The diary that is none; the answers that the document fixes; the laws DiaryNil and DiaryAgain.
  Conditions: none; it proves no statement by itself.
-/
import Derived.Test.YtcdggocbjnmeaaaDT3
import Derived.Test.YtcdggocbjnmeaaaVd4
import Derived.KernelRfl
set_option linter.unusedVariables false
set_option linter.unusedSimpArgs false
set_option maxHeartbeats 1000000
set_option maxRecDepth 100000
namespace Go.Proofs.Ytcdggocbjnmeaaa
open Fw Go
attribute [-simp] Fw.W.ld_iff Fw.W.st_iff

abbrev kF : ByteArray := ⟨#[102]⟩
abbrev kA : ByteArray := ⟨#[97]⟩
abbrev kB : ByteArray := ⟨#[98]⟩
theorem sortedKeys_one {V : Type} (k : ByteArray) (v : V) : sortedKeys [(k, v)] = [k] := by
  simp [sortedKeys, ofBytes_data]
theorem aw1 : (DS.mk [] false 0).opens kF = (([], 0), ⟨[], false, 0⟩) := by kernel_rfl
theorem aw2 : (DS.mk [] false 0).puts kF [kA] = (0, ⟨[(kF, (recsB [kA], 9))], false, 0⟩) := by kernel_rfl
theorem aw3 : (DS.mk [(kF, (recsB [kA], 9))] false 0).arm 2 = ⟨[(kF, (recsB [kA], 9))], false, 2⟩ := by kernel_rfl
theorem aw4 : (DS.mk [(kF, (recsB [kA], 9))] false 2).puts kF [kB] = (50, ⟨[(kF, (recsB [kA, kB], 9))], true, 0⟩) := by kernel_rfl
theorem aw5 : (DS.mk [(kF, (recsB [kA, kB], 9))] true 0).crash [5] = ⟨[(kF, ((recsB [kA, kB]).extract 0 14, 14))], false, 0⟩ := by
  simp only [DS.crash, DS.crashFiles, sortedKeys_one]
  kernel_rfl
theorem aw6 : (DS.mk [(kF, ((recsB [kA, kB]).extract 0 14, 14))] false 0).opens kF = (([kA], 0), ⟨[(kF, (recsB [kA], 9))], false, 0⟩) := by kernel_rfl
theorem aw_ok : (DS.mk [(kF, (recsB [kA, kB], 9))] true 0).Ok := by
  refine ⟨?_, by decide, ?_⟩
  · intro p hp; simp at hp; subst hp; decide
  · intro p hp; simp at hp; subst hp
    have : (recsB [kA, kB]).size = 18 := by kernel_rfl
    dsimp only
    rw [this]; decide
theorem strs_lit {s : PH} {r : Nat} {t : ByteArray} (h : s r = some (.cells #[.string t] 9 (0, 0))) : elems (Rd.enc strE) s (some ⟨r, 0, none⟩) 1 [t] := by
  refine ⟨rfl, fun i x hx => ?_⟩
  cases i with
  | zero =>
    simp at hx; subst hx
    exact ⟨_, _, rfl, rfl, by rw [Nat.zero_mul, add_zero]; exact has_block h⟩
  | succ i => simp at hx
theorem ints_lit {s : PH} {r : Nat} {x : Int} (h : s r = some (.cells #[.int .i64 x] 3 (0, 0))) : intsAt s (some ⟨r, 0, none⟩) 1 [x] := by
  refine ⟨rfl, fun i y hy => ?_⟩
  cases i with
  | zero =>
    simp at hy; subst hy
    refine ⟨_, rfl, ?_⟩
    rw [add_zero]; unfold PH.cell?; dsimp only; rw [h]; rfl
  | succ i => simp at hy
theorem c_awake (s : PH) : DCalls Try.prog 8 #[] s fun y s' => y = .bool true ∧ s' = s := by
  refine DCalls.quiet ?_
  refine ok_awake _ s ?_
  unfold vc_awake
  simp only [RP_ite, RP_ret, RP_guard, RP_call, RP_nw, RP_join, RP_unSome, RP_ld]
  refine W.call_of (c_New s) ?_
  rintro _ s1 ⟨b, m, rfl, h1, m1, hb, hm⟩
  refine ⟨((some ⟨b, 0, none⟩, ()), ()), rfl, ?_⟩
  have ho := c_Open h1 kF (by decide)
  rw [aw1] at ho
  refine W.call_of ho ?_
  rintro _ s2 ⟨⟨px, a, c, rfl, hr, hf, hx⟩, h2, m2⟩
  obtain ⟨x, rfl, hD, hxn⟩ : ∃ x, px = some ⟨x, 0, none⟩ ∧ DiaryIs s2 x b kF ∧ s1 x = none := by
    rcases hx with ⟨_, x, h⟩ | ⟨h, _⟩
    · exact ⟨x, h⟩
    · exact absurd rfl h
  refine ⟨((some ⟨x, 0, none⟩, ()), ((a, 0, c), ()), (0, ()), ()), rfl, ?_⟩
  have m2' : Fw.Mod [] s s2 := m1.fresh m2 (by simp [hb, hm])
  refine W.join_gen (fun z s' => z = ((some (Addr.mk b 0 none), ()), (some (Addr.mk x 0 none), ()), ()) ∧ DriveIs s' b m ⟨[(kF, (recsB [kA], 9))], false, 0⟩ ∧ DiaryIs s' x b kF ∧ Fw.Mod [] s s') ?_ ?_
  rotate_left
  · intro J hJ
    refine (W.br_iff _ _ _ _).2 ⟨fun e => (by cases e), fun _ => ?_⟩
    refine (W.br_iff _ _ _ _).2 ⟨fun e => (by cases e), fun _ => ?_⟩
    refine W.nw_of fun r s3 hr3 m3 k3 => ?_
    have hD3 := hD.mod m3 (by simp)
    have h3 := h2.mod m3 (by simp) (by simp)
    have hp := c_dAppend hD3 h3 (c := 1) (strs_lit k3) (by simp) (by decide)
    rw [aw2] at hp
    refine W.call_of hp ?_
    rintro _ s4 ⟨rfl, h4, m4⟩
    refine ⟨((0, ()), ()), rfl, ?_⟩
    refine (W.br_iff _ _ _ _).2 ⟨fun e => (by cases e), fun _ => ?_⟩
    exact hJ _ _ ⟨rfl, h4, hD3.mod m4 (hD3.off h3), (m2'.trans m3).fresh m4 (by simp [hb, hm])⟩
  rintro _ s5 ⟨rfl, h5, hD5, m5⟩
  refine W.call_of (c_Arm h5 2) ?_
  rw [aw3]
  rintro _ s6 ⟨rfl, h6, m6⟩
  refine ⟨(), rfl, ?_⟩
  have hD6 : DiaryIs s6 x b kF := hD5.mod m6 fun e => hD5.off h5 (by simp at e ⊢; exact .inl e)
  have m6' : Fw.Mod [] s s6 := m5.fresh m6 (by simp [hb])
  refine W.nw_of fun r s7 hr7 m7 k7 => ?_
  have hD7 := hD6.mod m7 (by simp)
  have h7 := h6.mod m7 (by simp) (by simp)
  have hp := c_dAppend hD7 h7 (c := 1) (strs_lit k7) (by simp) (by
    have : (recsB [kA]).size = 9 := by kernel_rfl
    have h2 : (recsB [kB]).size = 9 := by kernel_rfl
    have : ((DS.mk [(kF, (recsB [kA], 9))] false 2).got kF).1 = recsB [kA] := by kernel_rfl
    rw [this, h2]; omega)
  rw [aw4] at hp
  refine W.call_of hp ?_
  rintro _ s8 ⟨rfl, h8, m8⟩
  refine ⟨((50, ()), ()), rfl, ?_⟩
  have m8' : Fw.Mod [] s s8 := (m6'.trans m7).fresh m8 (by simp [hb, hm])
  refine W.nw_of fun r2 s9 hr9 m9 k9 => ?_
  refine W.call_of (c_Crash (h8.mod m9 (by simp) (by simp)) aw_ok (c := 1) (ints_lit k9)) ?_
  rw [aw5]
  rintro _ s10 ⟨b2, m2, rfl, h10, _, m10, hb2, hm2⟩
  refine ⟨((some ⟨b2, 0, none⟩, ()), ()), rfl, ?_⟩
  have m10' : Fw.Mod [] s s10 := (m8'.trans m9).fresh m10 (by simp [hb])
  have hbs : s b2 = none := (m8'.trans m9).none hb2 (by simp)
  have hms : s m2 = none := (m8'.trans m9).none hm2 (by simp)
  have ho := c_Open h10 kF (by
    have : ((DS.mk [(kF, ((recsB [kA, kB]).extract 0 14, 14))] false 0).read kF).1.size = 14 := by kernel_rfl
    rw [this]; omega)
  rw [aw6] at ho
  refine W.call_of ho ?_
  rintro _ s11 ⟨⟨px, a2, c2, rfl, hr2, hf2, hx2⟩, h11, m11⟩
  refine ⟨((px, ()), ((a2, 1, c2), ()), (0, ()), ()), rfl, ?_⟩
  refine (W.br_iff _ _ _ _).2 ⟨fun _ => ?_, fun e => (by cases e)⟩
  refine (W.br_iff _ _ _ _).2 ⟨fun _ => ?_, fun e => (by cases e)⟩
  refine (W.br_iff _ _ _ _).2 ⟨fun _ => ?_, fun e => (by cases e)⟩
  refine (W.guard_iff _ _ _).2 ⟨⟨by omega, by show (0 : Int) < ((1 : Nat) : Int); omega⟩, ?_⟩
  obtain ⟨g, hg, hh⟩ := hr2.at (i := 0) (x := kA) rfl
  subst hg
  simp only [W.unSome_some, add_mk, Nat.zero_add]
  refine ld_has_z hh (cs := [.str]) (y := (kA, ())) rfl ?_
  refine ⟨?_, m10'.fresh m11 (by simp [hbs, hms])⟩
  show Value.bool (kA.toList == kA.toList) = Value.bool true
  rw [beq_self_eq_true]
theorem c_ReadNil (nm : ByteArray) (s : PH) : DCalls Try.prog 11 #[.pointer none, .string nm] s fun v s' => v = .tuple #[.string ⟨#[]⟩, .int .i64 2] ∧ s' = s := by
  refine ok_ReadNil nm _ s ?_
  unfold vc_ReadNil
  simp
theorem c_OpenNil (nm : ByteArray) (s : PH) : DCalls Try.prog 10 #[.pointer none, .string nm] s fun v s' => v = .tuple #[.pointer none, .slice none 0 0, .int .i64 2] ∧ s' = s := by
  refine ok_OpenNil nm _ s ?_
  unfold vc_OpenNil
  simp only [RP_ite, RP_ret, RP_call]
  refine W.call_of (c_ReadNil nm s) ?_
  rintro _ s ⟨rfl, rfl⟩
  refine ⟨((⟨#[]⟩, ()), (2, ()), ()), rfl, ?_⟩
  exact (W.br_iff _ _ _ _).2 ⟨fun _ => ⟨rfl, rfl⟩, fun e => (by cases e)⟩
theorem c_recordsNil (a : Option Addr) (n c : Nat) (s : PH) : DCalls Try.prog 30 #[.pointer none, .slice a n c] s fun v s' => v = .tuple #[.string ⟨#[]⟩, .int .i64 2] ∧ s' = s := by
  refine ok_recordsNil a n c _ s ?_
  unfold vc_recordsNil
  simp
theorem c_dAppendNil (a : Option Addr) (n c : Nat) (s : PH) : DCalls Try.prog 17 #[.pointer none, .slice a n c] s fun v s' => v = .int .i64 2 ∧ s' = s := by
  refine ok_dAppendNil a n c _ s ?_
  unfold vc_dAppendNil
  simp only [RP_ite, RP_ret, RP_call, RP_join]
  refine W.call_of (c_recordsNil a n c s) ?_
  rintro _ s ⟨rfl, rfl⟩
  refine ⟨((⟨#[]⟩, ()), (2, ()), ()), rfl, ?_⟩
  refine W.join_gen (fun _ _ => False) (fun _ _ h => h.elim) ?_
  intro J hJ
  exact (W.br_iff _ _ _ _).2 ⟨fun _ => ⟨rfl, rfl⟩, fun e => (by cases e)⟩
theorem c_dRewriteNil (a : Option Addr) (n c : Nat) (s : PH) : DCalls Try.prog 19 #[.pointer none, .slice a n c] s fun v s' => v = .int .i64 2 ∧ s' = s := by
  refine ok_dRewriteNil a n c _ s ?_
  unfold vc_dRewriteNil
  simp only [RP_ite, RP_ret, RP_call]
  refine W.call_of (c_recordsNil a n c s) ?_
  rintro _ s ⟨rfl, rfl⟩
  refine ⟨((⟨#[]⟩, ()), (2, ()), ()), rfl, ?_⟩
  exact (W.br_iff _ _ _ _).2 ⟨fun _ => ⟨rfl, rfl⟩, fun e => (by cases e)⟩
/-- append([]string{}, l...) -/
theorem copyS {s : PH} {a : Option Addr} {n : Nat} {l : List ByteArray} (h : elems (Rd.enc strE) s a n l) (hl : n ≤ 1099511627776) {K : Option Addr → Nat → Nat → W.T}
    (hK : ∀ g c' s', elems (Rd.enc strE) s' (some ⟨g, 0, none⟩) n l → n ≤ c' → Fw.Mod [] s s' → s g = none → (∃ cs : List (Raw strE.sz), rowE (rawE strE.sz Nat.zero_lt_one) s' 9 (some ⟨g, 0, none⟩) n c' cs) → K (some ⟨g, 0, none⟩) n c' s') :
    W.nw (.cells #[] 9 (0, 0)) (fun r => W.app 9 1 16 [.string ⟨#[]⟩] (some ⟨r, 0, none⟩) 0 0 (.sl a n) K) s :=
  elems.copy (R := Rd.enc strE) h Rd.enc_ones (Nat.zero_lt_one) rfl hl (by omega) hK
theorem c_DiaryNil {s : PH} {a : Option Addr} {n c : Nat} {l : List ByteArray} (h : elems (Rd.enc strE) s a n l) (nm : ByteArray) : DCalls Try.prog 5 #[.slice a n c, .string nm] s fun y s' => y = .bool true ∧ Fw.Mod [] s s' := by
  refine ok_DiaryNil a n c nm _ s ?_
  unfold vc_DiaryNil
  simp only [RP_ite, RP_ret, RP_call, RP_nw, RP_app]
  refine W.call_of (c_OpenNil nm s) ?_
  rintro _ s ⟨rfl, rfl⟩
  refine ⟨((none, ()), ((none, 0, 0), ()), (2, ()), ()), rfl, ?_⟩
  refine W.call_of (c_awake s) ?_
  rintro _ s ⟨rfl, rfl⟩
  refine ⟨((true, ()), ()), rfl, ?_⟩
  refine (W.br_iff _ _ _ _).2 ⟨fun _ => ?_, fun e => (by cases e)⟩
  refine (W.br_iff _ _ _ _).2 ⟨fun e => ?_, fun e => ?_⟩
  · have e : (n : Int) < 1000 := of_decide_eq_true e
    refine copyS h (by omega) ?_
    intro g c' s1 h1 _ m1 _ _
    refine W.call_of (c_dAppendNil _ _ _ s1) ?_
    rintro _ s1 ⟨rfl, rfl⟩
    refine ⟨((2, ()), ()), rfl, ?_⟩
    refine (W.br_iff _ _ _ _).2 ⟨fun _ => ?_, fun e => (by cases e)⟩
    refine copyS (h.mono m1.le) (by omega) ?_
    intro g c' s2 h2 _ m2 _ _
    refine W.call_of (c_dRewriteNil _ _ _ s2) ?_
    rintro _ s2 ⟨rfl, rfl⟩
    refine ⟨((2, ()), ()), rfl, ?_⟩
    refine (W.br_iff _ _ _ _).2 ⟨fun _ => ?_, fun e => (by cases e)⟩
    refine (W.br_iff _ _ _ _).2 ⟨fun _ => ?_, fun e => (by cases e)⟩
    refine (W.br_iff _ _ _ _).2 ⟨fun _ => ?_, fun e => (by cases e)⟩
    exact (W.br_iff _ _ _ _).2 ⟨fun _ => ⟨rfl, m1.trans m2⟩, fun e => (by cases e)⟩
  · have e : ¬ (n : Int) < 1000 := of_decide_eq_false e
    refine ⟨?_, Mod.refl _ _⟩
    rw [decide_eq_true (by omega)]
theorem scanB_again (t : ByteArray) : scanB (t.extract 0 (scanB t).2) = scanB t := by
  rw [scanB_spec, scanB_recs (scanB_small t), ← scanB_spec]
  have := scanB_le t
  rw [ByteArray.size_extract]
  ext1
  · rfl
  · dsimp only; omega
theorem again1 (t : ByteArray) : (DS.mk [(kF, (t, (t.size : Int)))] false 0).opens kF = (((scanB t).1, 0), ⟨[(kF, (t.extract 0 (scanB t).2, ((scanB t).2 : Int)))], false, 0⟩) := by
  have hr : (DS.mk [(kF, (t, (t.size : Int)))] false 0).read kF = (t, 0) := by
    unfold DS.read DS.got; simp
  have hle := scanB_le t
  unfold DS.opens
  rw [hr, if_neg (by simp)]
  dsimp only
  by_cases hc : (scanB t).2 < t.size
  · rw [if_pos hc]
    have hs : (DS.mk [(kF, (t, (t.size : Int)))] false 0).swap kF (t.extract 0 (scanB t).2) = (0, ⟨[(kF, (t.extract 0 (scanB t).2, ((scanB t).2 : Int)))], false, 0⟩) := by
      unfold DS.swap DS.begin
      simp [aset, ByteArray.size_extract]
      omega
    rw [hs, if_neg (by simp)]
  · rw [if_neg hc]
    have : (scanB t).2 = t.size := by omega
    rw [this, ByteArray.extract_zero_size]
theorem again2 (t : ByteArray) : (DS.mk [(kF, (t.extract 0 (scanB t).2, ((scanB t).2 : Int)))] false 1).opens kF = (((scanB t).1, 0), ⟨[(kF, (t.extract 0 (scanB t).2, ((scanB t).2 : Int)))], false, 1⟩) := by
  have hr : (DS.mk [(kF, (t.extract 0 (scanB t).2, ((scanB t).2 : Int)))] false 1).read kF = (t.extract 0 (scanB t).2, 0) := by
    unfold DS.read DS.got; simp
  have hle := scanB_le t
  unfold DS.opens
  rw [hr, if_neg (by simp)]
  dsimp only
  rw [scanB_again, if_neg (by rw [ByteArray.size_extract]; omega)]
theorem c_DiaryAgain (t : ByteArray) (s : PH) : DCalls Try.prog 3 #[.string t] s fun y s' => y = .bool true ∧ Fw.Mod [] s s' := by
  refine ok_DiaryAgain t _ s ?_
  unfold vc_DiaryAgain
  simp only [RP_ite, RP_ret, RP_call, RP_join, RP_guard]
  refine W.call_of (c_New s) ?_
  rintro _ s1 ⟨b, m, rfl, h1, m1, hb, hm⟩
  refine ⟨((some ⟨b, 0, none⟩, ()), ()), rfl, ?_⟩
  refine W.join_gen (fun z s' => z = ((some (Addr.mk b 0 none), ()), ()) ∧ t.size ≤ 65536 ∧ DriveIs s' b m ⟨[(kF, (t, (t.size : Int)))], false, 0⟩ ∧ Fw.Mod [] s s') ?_ ?_
  rotate_left
  · intro J hJ
    refine W.call_of (c_awake s1) ?_
    rintro _ s1 ⟨rfl, rfl⟩
    refine ⟨((true, ()), ()), rfl, ?_⟩
    refine (W.br_iff _ _ _ _).2 ⟨fun e => (by cases e), fun _ => ?_⟩
    refine (W.br_iff _ _ _ _).2 ⟨fun _ => ?_, fun e => ?_⟩
    · refine W.call_of (c_awake s1) ?_
      rintro _ s1 ⟨rfl, rfl⟩
      exact ⟨((true, ()), ()), rfl, rfl, m1⟩
    have e : ¬ (t.size : Int) > 65536 := of_decide_eq_false e
    have hs : (DS.mk [] false 0).swap kF t = (0, ⟨[(kF, (t, (t.size : Int)))], false, 0⟩) := by
      unfold DS.swap DS.begin
      simp [aset]
    have hsw := c_Swap h1 kF t
    rw [hs] at hsw
    refine W.call_of hsw ?_
    rintro _ s2 ⟨rfl, h2, m2⟩
    refine ⟨((0, ()), ()), rfl, ?_⟩
    refine (W.br_iff _ _ _ _).2 ⟨fun e => (by cases e), fun _ => ?_⟩
    exact hJ _ _ ⟨rfl, by omega, h2, m1.fresh m2 (by simp [hb, hm])⟩
  rintro _ s3 ⟨rfl, ht, h3, m3⟩
  have hr0 : ((DS.mk [(kF, (t, (t.size : Int)))] false 0).read kF).1 = t := by
    unfold DS.read DS.got; simp
  have ho := c_Open h3 kF (by rw [hr0]; omega)
  rw [again1] at ho
  refine W.call_of ho ?_
  obtain ⟨l, hl⟩ : ∃ l, (scanB t).1 = l := ⟨_, rfl⟩
  obtain ⟨n, hn⟩ : ∃ n, (scanB t).2 = n := ⟨_, rfl⟩
  have hnt : n ≤ t.size := by rw [← hn]; exact scanB_le t
  have ha2 := again2 t
  rw [hl, hn] at ha2
  rw [hl, hn]
  rintro _ s4 ⟨⟨px, a, c, rfl, hr, hf, hx⟩, h4, m4⟩
  refine ⟨((px, ()), ((a, l.length, c), ()), (0, ()), ()), rfl, ?_⟩
  have m4' : Fw.Mod [] s s4 := m3.fresh m4 (by simp [hb, hm])
  have hll : 8 * l.length ≤ t.size := by
    have h1 := scanB_spec t
    have h2 := recs_len_le l
    rw [hl, hn] at h1
    have h3 : (recsB l).size ≤ t.size := by rw [← h1, ByteArray.size_extract]; omega
    have key : ∀ k : List ByteArray, 8 * k.length ≤ (k.map fun p => 8 + p.size).sum := by
      intro k
      induction k with
      | nil => simp
      | cons p k ih => simp only [List.length_cons, List.map_cons, List.sum_cons]; omega
    have := key l
    omega
  have hrd : (DS.mk [(kF, (t.extract 0 n, (n : Int)))] false 0).read kF = (t.extract 0 n, 0) := by
    unfold DS.read DS.got; simp
  have hrc := c_Read h4 kF
  rw [hrd] at hrc
  refine W.call_of hrc ?_
  rintro _ s4 ⟨rfl, rfl⟩
  refine ⟨((t.extract 0 n, ()), (0, ()), ()), rfl, ?_⟩
  have harm : (DS.mk [(kF, (t.extract 0 n, (n : Int)))] false 0).arm 1 = ⟨[(kF, (t.extract 0 n, (n : Int)))], false, 1⟩ := by
    unfold DS.arm; simp
  refine W.call_of (c_Arm h4 1) ?_
  rw [harm]
  rintro _ s5 ⟨rfl, h5, m5⟩
  refine ⟨(), rfl, ?_⟩
  have hoff : ∀ g ∈ Fw.blk a, g ∉ [b, m] := by
    intro g hg hg2
    simp at hg2
    rcases hg2 with rfl | rfl
    · exact h3.known.1 (hf _ hg)
    · exact h3.known.2 (hf _ hg)
  have hr5 := hr.mod m5 fun g hg e => hoff g hg (by simp at e ⊢; exact .inl e)
  have m5' : Fw.Mod [] s s5 := m4'.fresh m5 (by simp [hb])
  have hr1 : ((DS.mk [(kF, (t.extract 0 n, (n : Int)))] false 1).read kF) = (t.extract 0 n, 0) := by
    unfold DS.read DS.got; simp
  have ho2 := c_Open h5 kF (by rw [hr1]; dsimp only; rw [ByteArray.size_extract]; omega)
  rw [ha2] at ho2
  refine W.call_of ho2 ?_
  rintro _ s6 ⟨⟨px2, a2, c2, rfl, hr2, hf2, hx2⟩, h6, m6⟩
  refine ⟨((px2, ()), ((a2, l.length, c2), ()), (0, ()), ()), rfl, ?_⟩
  have hr6 := hr5.mod m6 hoff
  have m6' : Fw.Mod [] s s6 := m5'.fresh m6 (by simp [hb, hm])
  have hrc2 := c_Read h6 kF
  rw [hr1] at hrc2
  refine W.call_of hrc2 ?_
  rintro _ s6 ⟨rfl, rfl⟩
  refine ⟨((t.extract 0 n, ()), (0, ()), ()), rfl, ?_⟩
  have hrs := c_rScan t (by omega) s6
  unfold ScanIs at hrs
  rw [hl, hn] at hrs
  refine W.call_of hrs ?_
  rintro _ s7 ⟨a3, c3, rfl, hr3, hf3, m7⟩
  refine ⟨(((a3, l.length, c3), ()), ((n : Int), ()), ()), rfl, ?_⟩
  refine (W.br_iff _ _ _ _).2 ⟨fun _ => ?_, fun e => (by cases e)⟩
  refine (W.br_iff _ _ _ _).2 ⟨fun _ => ?_, fun e => (by cases e)⟩
  refine (W.br_iff _ _ _ _).2 ⟨fun _ => ?_, fun e => (by cases e)⟩
  refine (W.br_iff _ _ _ _).2 ⟨fun _ => ?_, fun e => (by cases e)⟩
  have e1 := elems.of_row (hr6.mod m7 (by simp))
  have e2 := elems.of_row (hr2.mod m7 (by simp))
  have e3 := elems.of_row hr3
  have hb1 : l.length ≤ 1099511627776 := by omega
  have hs1 := c_Same (c := c) (d := c2) e1 e2 hb1 hb1
  rw [decide_eq_true rfl] at hs1
  refine W.call_of hs1 ?_
  rintro _ s7 ⟨rfl, rfl⟩
  refine ⟨((true, ()), ()), rfl, ?_⟩
  refine (W.br_iff _ _ _ _).2 ⟨fun _ => ?_, fun e => (by cases e)⟩
  have hs2 := c_Same (c := c) (d := c3) e1 e3 hb1 hb1
  rw [decide_eq_true rfl] at hs2
  refine W.call_of hs2 ?_
  rintro _ s7 ⟨rfl, rfl⟩
  refine ⟨((true, ()), ()), rfl, ?_⟩
  refine (W.br_iff _ _ _ _).2 ⟨fun _ => ?_, fun e => (by cases e)⟩
  refine (W.br_iff _ _ _ _).2 ⟨fun _ => ?_, fun e => ?_⟩
  · dsimp only
    refine (W.guard_iff _ _ _).2 ⟨by omega, ?_⟩
    refine ⟨?_, m6'.trans m7⟩
    rw [Int.toNat_natCast, beq_self_eq_true]
  · have e : ((t.extract 0 n).toList == (t.extract 0 n).toList) = false := e
    rw [beq_self_eq_true] at e; cases e
end Go.Proofs.Ytcdggocbjnmeaaa
