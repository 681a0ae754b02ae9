/-
  The drive that is none; the answers that the document fixes.
  Conditions: none; it proves no statement by itself.
-/
import Derived.Test.YtdbpockkebabiaaC2
set_option linter.unusedVariables false
set_option linter.unusedSimpArgs false
set_option maxHeartbeats 1000000
namespace Go.Proofs.Ytdbpockkebabiaa
open Fw Go

theorem c_beginNil (s : PH) : DCalls Try.prog 21 #[.pointer none] s fun v s' => v = .tuple #[.bool false, .int .i64 2] ∧ s' = s := by
  refine ok_beginNil _ s ?_
  unfold vc_beginNil
  simp
theorem c_AppendNil (nm dt : ByteArray) (s : PH) : DCalls Try.prog 10 #[.pointer none, .string nm, .string dt] s fun v s' => v = .int .i64 2 ∧ s' = s := by
  refine ok_AppendNil nm dt _ s ?_
  unfold vc_AppendNil
  simp only [RP_call]
  refine W.call_of (c_beginNil s) ?_
  rintro _ _ ⟨rfl, rfl⟩
  refine ⟨((false, ()), (2, ()), ()), rfl, ?_⟩
  simp [W.join_iff]
theorem c_SyncNil (nm : ByteArray) (s : PH) : DCalls Try.prog 11 #[.pointer none, .string nm] s fun v s' => v = .int .i64 2 ∧ s' = s := by
  refine ok_SyncNil nm _ s ?_
  unfold vc_SyncNil
  simp only [RP_call]
  refine W.call_of (c_beginNil s) ?_
  rintro _ _ ⟨rfl, rfl⟩
  refine ⟨((false, ()), (2, ()), ()), rfl, ?_⟩
  simp
theorem c_SwapNil (nm dt : ByteArray) (s : PH) : DCalls Try.prog 18 #[.pointer none, .string nm, .string dt] s fun v s' => v = .int .i64 2 ∧ s' = s := by
  refine ok_SwapNil nm dt _ s ?_
  unfold vc_SwapNil
  simp only [RP_call]
  refine W.call_of (c_beginNil s) ?_
  rintro _ _ ⟨rfl, rfl⟩
  refine ⟨((false, ()), (2, ()), ()), rfl, ?_⟩
  simp
theorem c_ReadNil (nm : ByteArray) (s : PH) : DCalls Try.prog 14 #[.pointer none, .string nm] s fun v s' => v = .tuple #[.string ⟨#[]⟩, .int .i64 2] ∧ s' = s := by
  refine ok_ReadNil nm _ s ?_
  unfold vc_ReadNil
  simp
theorem c_ArmNil (n : Int) (s : PH) : DCalls Try.prog 12 #[.pointer none, .int .i64 n] s fun v s' => v = .tuple #[] ∧ s' = s := by
  refine ok_ArmNil n _ s ?_
  unfold vc_ArmNil
  simp
theorem c_DownNil (s : PH) : DCalls Try.prog 20 #[.pointer none] s fun v s' => v = .bool true ∧ s' = s := by
  refine ok_DownNil _ s ?_
  unfold vc_DownNil
  simp
theorem c_NamesNil (s : PH) : DCalls Try.prog 19 #[.pointer none] s fun v s' => v = .slice none 0 0 ∧ s' = s := by
  refine ok_NamesNil _ s ?_
  unfold vc_NamesNil
  simp
theorem c_CrashNil (k : Option Addr) (n c : Nat) (s : PH) : DCalls Try.prog 13 #[.pointer none, .slice k n c] s fun v s' => v = .pointer none ∧ s' = s := by
  refine ok_CrashNil k n c _ s ?_
  unfold vc_CrashNil
  simp

theorem sortedKeys_one {V : Type} (k : ByteArray) (v : V) : sortedKeys [(k, v)] = [k] := by
  simp [sortedKeys, ofBytes_data]

abbrev kA : ByteArray := ⟨#[97]⟩
theorem awake_a : (DS.mk [] false 0).append kA ⟨#[120, 121]⟩ = (0, ⟨[(kA, (⟨#[120, 121]⟩, 0))], false, 0⟩) := by rfl
theorem awake_b : (DS.mk [(kA, (⟨#[120, 121]⟩, 0))] false 0).sync kA = (0, ⟨[(kA, (⟨#[120, 121]⟩, 2))], false, 0⟩) := by rfl
theorem awake_c : (DS.mk [(kA, (⟨#[120, 121]⟩, 2))] false 0).append kA ⟨#[122]⟩ = (0, ⟨[(kA, (⟨#[120, 121, 122]⟩, 2))], false, 0⟩) := by rfl
theorem awake_d : (DS.mk [(kA, (⟨#[120, 121, 122]⟩, 2))] false 0).crash [1] = ⟨[(kA, (⟨#[120, 121, 122]⟩, 3))], false, 0⟩ := by
  simp only [DS.crash, DS.crashFiles, sortedKeys_one]
  rfl
theorem awake_e : (DS.mk [(kA, (⟨#[120, 121, 122]⟩, 3))] false 0).read kA = (⟨#[120, 121, 122]⟩, 0) := by rfl
theorem awake_f : ((DS.mk [(kA, (⟨#[120, 121, 122]⟩, 3))] false 0).arm 1).append kA ⟨#[113]⟩ = (50, ⟨[(kA, (⟨#[120, 121, 122, 113]⟩, 3))], true, 0⟩) := by rfl

theorem c_awake (s : PH) : DCalls Try.prog 9 #[] s fun v s' => v = .bool true ∧ Fw.Mod [] s s' := by
  refine ok_awake _ s ?_
  unfold vc_awake
  simp only [RP_call]
  refine W.call_of (c_New s) ?_
  rintro _ s1 ⟨b, m, rfl, h1, m1, hb, hm⟩
  refine ⟨((some ⟨b, 0, none⟩, ()), ()), rfl, ?_⟩
  refine W.call_of (c_Append h1 kA ⟨#[120, 121]⟩ (by decide)) ?_
  rw [awake_a]
  rintro _ s2 ⟨rfl, h2, m2⟩
  have m2 := m1.fresh m2 (by simp [hb, hm])
  refine ⟨((0, ()), ()), rfl, ?_⟩
  refine W.call_of (c_Sync h2 kA) ?_
  rw [awake_b]
  rintro _ s3 ⟨rfl, h3, m3⟩
  have m3 := m2.fresh m3 (by simp [hb, hm])
  refine ⟨((0, ()), ()), rfl, ?_⟩
  refine W.call_of (c_Append h3 kA ⟨#[122]⟩ (by decide)) ?_
  rw [awake_c]
  rintro _ s4 ⟨rfl, h4, m4⟩
  have m4 := m3.fresh m4 (by simp [hb, hm])
  refine ⟨((0, ()), ()), rfl, ?_⟩
  simp only [RP_nw, W.nw_iff]
  intro r hr
  have m5 := m4.trans (Mod.new (o := Go.Obj.cells #[(Go.Value.int (IntKind.i64) ((1 : Int)))] (3 : Nat) ((0 : Nat), (0 : Nat))) hr)
  have h5 := h4.mod (Mod.new (o := Go.Obj.cells #[(Go.Value.int (IntKind.i64) ((1 : Int)))] (3 : Nat) ((0 : Nat), (0 : Nat))) (L := []) hr) (by simp) (by simp)
  refine W.call_of (c_Crash (k := some ⟨r, 0, none⟩) (n := 1) (c := 1) (keep := [1]) h5 ⟨?_, ?_, ?_⟩ ⟨rfl, ?_⟩) ?_
  · intro p hp; simp at hp; subst hp; decide
  · decide
  · intro p hp; simp at hp; subst hp; decide
  · intro i x hx
    have : i = 0 := by
      cases i with
      | zero => rfl
      | succ i => simp at hx
    subst this
    simp at hx; subst hx
    refine ⟨_, rfl, ?_⟩
    rw [add_zero]; unfold PH.cell?; simp
  rw [awake_d]
  rintro _ s6 ⟨b', m', rfl, h6, _, m6, hb', hm'⟩
  have m6 := m5.fresh m6 (by simp [hb])
  refine ⟨((some ⟨b', 0, none⟩, ()), ()), rfl, ?_⟩
  refine W.call_of (c_Read h6 kA) ?_
  rw [awake_e]
  rintro _ _ ⟨rfl, rfl⟩
  refine ⟨((_, ()), (_, ()), ()), rfl, ?_⟩
  refine W.call_of (c_Arm h6 1) ?_
  rintro _ s7 ⟨rfl, h7, m7⟩
  have hbs : s b' = none := m5.none hb' (by simp)
  have hms : s m' = none := m5.none hm' (by simp)
  have m7 := m6.fresh m7 (by simp [hbs])
  refine ⟨(), rfl, ?_⟩
  refine W.call_of (c_Append h7 kA ⟨#[113]⟩ (by decide)) ?_
  rw [awake_f]
  rintro _ s8 ⟨rfl, h8, m8⟩
  have m8 := m7.fresh m8 (by simp [hbs, hms])
  refine ⟨((50, ()), ()), rfl, ?_⟩
  simp
  refine W.call_of (c_Down h8) ?_
  rintro _ _ ⟨rfl, rfl⟩
  refine ⟨((true, ()), ()), rfl, ?_⟩
  simp [m8]

theorem c_DriveNil (nm dt : ByteArray) (n : Int) (s : PH) : DCalls Try.prog 7 #[.string nm, .string dt, .int .i64 n] s fun v s' => v = .bool true ∧ Fw.Mod [] s s' := by
  refine ok_DriveNil nm dt n _ s ?_
  unfold vc_DriveNil
  simp only [RP_call]
  refine W.call_of (c_ArmNil n s) ?_
  rintro _ _ ⟨rfl, rfl⟩
  refine ⟨(), rfl, ?_⟩
  refine W.call_of (c_ReadNil nm _) ?_
  rintro _ _ ⟨rfl, rfl⟩
  refine ⟨((_, ()), (_, ()), ()), rfl, ?_⟩
  refine W.call_of (c_awake _) ?_
  rintro _ s1 ⟨rfl, m1⟩
  refine ⟨((_, ()), ()), rfl, ?_⟩
  simp
  refine W.call_of (c_AppendNil nm dt _) ?_
  rintro _ _ ⟨rfl, rfl⟩
  refine ⟨((_, ()), ()), rfl, ?_⟩
  simp
  refine W.call_of (c_SyncNil nm _) ?_
  rintro _ _ ⟨rfl, rfl⟩
  refine ⟨((_, ()), ()), rfl, ?_⟩
  simp
  refine W.call_of (c_SwapNil nm dt _) ?_
  rintro _ _ ⟨rfl, rfl⟩
  refine ⟨((_, ()), ()), rfl, ?_⟩
  simp
  refine W.call_of (c_DownNil _) ?_
  rintro _ _ ⟨rfl, rfl⟩
  refine ⟨((_, ()), ()), rfl, ?_⟩
  simp
  refine W.call_of (c_NamesNil _) ?_
  rintro _ _ ⟨rfl, rfl⟩
  refine ⟨(((_, _, _), ()), ()), rfl, ?_⟩
  simp
  refine W.call_of (c_CrashNil _ _ _ _) ?_
  rintro _ _ ⟨rfl, rfl⟩
  refine ⟨((_, ()), ()), rfl, ?_⟩
  simp [m1]
end Go.Proofs.Ytdbpockkebabiaa
