/-
  The law ExecReads: the row.
  Conditions: none; it proves Rows.ExecReadsSaid.
-/
import Derived.Test.YtlfdfgokflhdbaaGreatExecReadsK30
import Derived.Test.YtlfdfgokflhdbaaGreatRows
import Derived.Below
import Derived.ProofKit
import Derived.OpenShut
import Derived.SizedLaws
import Derived.WalkKit
import Derived.ShutString
import Derived.ChangeOld
set_option linter.unusedVariables false
set_option linter.unusedSimpArgs false
namespace Go.Proofs.YtlfdfgokflhdbaaGreat.execReadsDone
open Go.ChangeShapes Go.WideShapes Go.ChangeAt Go.RowKit
open Go.ChangeMaps (open_string shut_string)
open Fw
theorem own : ownKnob Tryz.prog.godebug = none := by kernel_rfl
theorem laidOut : laidOutB Tryz.prog = true := by kernel_rfl
set_option maxRecDepth 100000 in
theorem lifted (os : Os) (started : os.Started) (H : Type) (enc : TypeId × Value → H) :
    ReturnsInHanded {} Tryz.checked os 4 .any (Rows.execReadsSpec.pre6 enc Tryz.prog Tryz.f4 Rows.execReadsRow.domain false) (Rows.execReadsSpec.post enc Tryz.prog Tryz.f4 false true false false) := by
  refine returnsInHanded_of_change_sized (C := Tryz.checked) own started (by kernel_rfl) Tryz.func4
    (ChangeSpec.witness6 (enc := enc) (C := Tryz.checked) false ⟨#[], #[.agg #[.int .i64 0, .int .i64 0, .slice none 0 0], .slice none 0 0, .slice none 0 0, .slice none 0 0], []⟩ 8 (by kernel_rfl) (by kernel_rfl) (by kernel_rfl) (by kernel_rfl)) ?_
  intro W base args ds gs before hval0 hW hcnd hsz _
  have hval : ∀ (j : Nat) t v, Tryz.f4.params[j]? = some t → args[j]? = some v → Value.okWide Tryz.prog W .any base t v := hval0
  have hW' := hW
  obtain ⟨p, q, hA0, hV, rfl, hfz, hnd⟩ := hW
  have hA : DataW.TrodAll enc Tryz.prog W 0 (fun _ => true) true Tryz.f4.params.toList args.toList ds p := hA0
  rw [Tryz.params4] at hA hval hsz
  obtain ⟨v0, vs0, d0, ds0, p0, q0, hargs, rfl, rfl, h0, r0⟩ := trodAll_cons hA
  obtain ⟨v1, vs1, d1, ds1, p1, q1, rfl, rfl, rfl, h1, r1⟩ := trodAll_cons r0
  obtain ⟨v2, vs2, d2, ds2, p2, q2, rfl, rfl, rfl, h2, r2⟩ := trodAll_cons r1
  obtain ⟨v3, vs3, d3, ds3, p3, q3, rfl, rfl, rfl, h3, r3⟩ := trodAll_cons r2
  obtain ⟨rfl, rfl, rfl⟩ := trodAll_nil r3
  obtain rfl : args = #[v0, v1, v2, v3] := by cases args; simp_all
  obtain ⟨rfl, rfl⟩ := trodVars_none hV
  have hs : (DataW.weightsEach Tryz.prog [43, 64, 65, 65] [d0, d1, d2, d3]).all (· ≤ reachBytes) = true := hsz
  simp only [DataW.weightsEach, List.all_append, Bool.and_eq_true] at hs
  obtain ⟨s0, s1, s2, s3, _⟩ := hs
  have k0 := h0
  have lt0 : ∀ x ∈ p0, x.block < W.heap.size := by obtain ⟨m, hm⟩ := k0; exact DataW.trod_lt m _ _ _ hm
  obtain ⟨c0, x0, rfl, w0⟩ := Hv Lc Tryz.underlying43 (hval 0 43 v0 rfl rfl) h0 s0
  have k1 := h1
  have lt1 : ∀ x ∈ p1, x.block < W.heap.size := by obtain ⟨m, hm⟩ := k1; exact DataW.trod_lt m _ _ _ hm
  obtain ⟨a1, n1, c1, l1, rfl, w1, hle1, b1⟩ := qG KT Tryz.underlying64 (by kernel_rfl) rfl (hval 1 64 v1 rfl rfl) h1 s1
  have k2 := h2
  have lt2 : ∀ x ∈ p2, x.block < W.heap.size := by obtain ⟨m, hm⟩ := k2; exact DataW.trod_lt m _ _ _ hm
  obtain ⟨a2, n2, c2, l2, rfl, w2, hle2, b2⟩ := qG Ik Tryz.underlying65 (by kernel_rfl) rfl (hval 2 65 v2 rfl rfl) h2 s2
  have k3 := h3
  have lt3 : ∀ x ∈ p3, x.block < W.heap.size := by obtain ⟨m, hm⟩ := k3; exact DataW.trod_lt m _ _ _ hm
  obtain ⟨a3, n3, c3, l3, rfl, w3, hle3, b3⟩ := qG Ik Tryz.underlying65 (by kernel_rfl) rfl (hval 3 65 v3 rfl rfl) h3 s3
  clear hA0 hval0
  have e1 : Tryz.prog.bytesOf 127 = 120 := by kernel_rfl
  have e2 : Tryz.prog.bytesOf 75 = 40 := by kernel_rfl
  refine (zi (Bc w0 w1 hle1 (e1 ▸ b1) w2 hle2 (e2 ▸ b2) w3 hle3 (e2 ▸ b3))).mono fun e W' ⟨he, bel⟩ => ?_
  subst he
  exact ⟨_, rfl, _, _, _, [], _, [], hW', trodAll_mk1 (shut_bool Tryz.underlying4 _), (trodAll_cons_mk (Below.trod laidOut (by kernel_rfl) (of_decide_eq_true (by kernel_rfl)) k0 bel lt0) (trodAll_cons_mk (Below.trod laidOut (by kernel_rfl) (of_decide_eq_true (by kernel_rfl)) k1 bel lt1) (trodAll_cons_mk (Below.trod laidOut (by kernel_rfl) (of_decide_eq_true (by kernel_rfl)) k2 bel lt2) (trodAll_cons_mk (Below.trod laidOut (by kernel_rfl) (of_decide_eq_true (by kernel_rfl)) k3 bel lt3) trodAll_mk0)))), rfl, bel.frame _, fun h => by cases h⟩
theorem cf1 : Tryz.prog.inPlace 4 = Rows.execReadsRow.inPlace := by kernel_rfl
theorem cf2 : Tryz.prog.unfollowed 4 = Rows.execReadsRow.unfollowed := by kernel_rfl
theorem cf3 : Tryz.prog.recurses 4 = Rows.execReadsRow.recurses := by kernel_rfl
theorem cf4 : Tryz.prog.varsNamed 4 = Rows.execReadsRow.named := by kernel_rfl
theorem closed : joinedFacts Tryz.prog 4 Tryz.f4 Rows.execReadsSpec Rows.execReadsRow = true := by
  unfold joinedFacts
  rw [cf1, cf2, cf3, cf4]
  kernel_rfl
theorem over : Rows.execReadsRow.holds Tryz.pinned (OpenSpec.ofChange Rows.execReadsSpec) :=
  OpenClaim.holds_of_wide 4 Tryz.f4 rfl rfl rfl rfl rfl rfl rfl ⟨rfl, rfl, rfl, rfl, rfl⟩ rfl rfl rfl rfl rfl (by kernel_rfl) Tryz.func4 closed
    (of_decide_eq_true (by kernel_rfl)) (by unfold Func.isWrapper; first | (rw [if_pos (by decide +kernel)]; kernel_rfl) | (rw [if_neg (by decide +kernel)]; exact ⟨rfl, rfl⟩))
    (fun os started H enc _ => lifted os started H enc)
theorem proved : Rows.ExecReadsSaid := over
end Go.Proofs.YtlfdfgokflhdbaaGreat.execReadsDone
