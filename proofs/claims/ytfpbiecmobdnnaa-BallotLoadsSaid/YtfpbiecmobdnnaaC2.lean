/-
  slices.Repeat, over one element.
  Conditions: none; it proves no statement by itself.
-/
import Derived.Test.YtfpbiecmobdnnaaVc2
import Derived.Test.YtfpbiecmobdnnaaC1
set_option linter.unusedVariables false
set_option linter.unusedSimpArgs false
set_option maxHeartbeats 1000000
namespace Go.Proofs.Ytfpbiecmobdnnaa
open Fw Go
attribute [-simp] Fw.W.ld_iff Fw.W.st_iff

theorem c_Mul {c : Int} (h : c = 1 ∨ c = 2 ∨ c = 3 ∨ c = 4 ∨ c = 5) (s : PH) : DCalls Try.prog 73 #[.int .u64 1, .int .u64 c] s fun x s' => x = .tuple #[.int .u64 0, .int .u64 c] ∧ s' = s := by
  refine ok_Mul 1 c _ s ?_
  unfold vc_Mul
  simp only [RP_call]
  refine W.call_of (Q := fun x s' => x = .tuple #[.int .u64 0, .int .u64 c] ∧ s' = s) (ok_Mul64 1 c _ s ?_) ?_
  · rcases h with rfl | rfl | rfl | rfl | rfl <;> exact ⟨by kernel_rfl, rfl⟩
  · rintro _ s ⟨rfl, rfl⟩
    refine ⟨((0, ()), (c, ()), ()), rfl, ?_⟩
    simp

theorem stores_row {s : PH} {g off : Nat} {cur : Array Value} {e : TypeId} {vs : List Value} (h : s g = some (.cells cur e (0, 0))) (hv : vs ≠ []) (hl : off + vs.length ≤ cur.size) :
    s.open_ ⟨g, off, none⟩ vs.length ∧ s.stores ⟨g, off, none⟩ 0 vs = s.upd g (.cells (setL cur off vs) e (0, 0)) := by
  constructor
  · rw [open_iff (a := ⟨g, off, none⟩) h (by cases vs; exact absurd rfl hv; simp)]
    exact ⟨rfl, hl, .inr (.inr (Nat.le_refl _))⟩
  · have := PH.stores_eq (a := ⟨g, off, none⟩) (e := e) (f := (0, 0)) rfl vs 0 cur s h hv
    simpa using this

theorem flat_rep (k : Nat) (x : Int) : (List.replicate k x).flatMap intE.f = List.replicate k (Value.int .i64 x) := by
  induction k with
  | zero => rfl
  | succ k ih => rw [List.replicate_succ, List.flatMap_cons, ih, List.replicate_succ]; rfl
def RepPost (c : Nat) (x : Int) (s : PH) (v : Value) (s' : PH) : Prop := ∃ t : Tri, v = t.v ∧ rowE intE s' 3 t.1 t.2.1 t.2.2 (List.replicate c x) ∧ Fw.Mod [] s s' ∧ ∀ g ∈ Fw.blk t.1, s g = none
theorem c_Repeat {s : PH} {r : Nat} {x : Int} {f : TypeId} (hr : s r = some (.cells #[.int .i64 x] f (0, 0))) {c : Nat} (h1 : 1 ≤ c) (h5 : c ≤ 5) : DCalls Try.prog 70 #[.slice (some ⟨r, 0, none⟩) 1 1, .int .i64 c] s (RepPost c x s) := by
  refine ok_Repeat (some ⟨r, 0, none⟩) 1 1 c _ s ?_
  unfold vc_Repeat
  simp only [RP_join, W.join_iff, RP_ite, W.br_iff, RP_call]
  have hc : IntKind.u64.wrap ((c : Nat) : Int) = c ∧ IntKind.u64.wrap ((1 : Nat) : Int) = 1 ∧ IntKind.i64.wrap ((c : Nat) : Int) = c := by
    refine ⟨?_, by decide, wrap_in (by omega) (by omega)⟩
    have : c = 1 ∨ c = 2 ∨ c = 3 ∨ c = 4 ∨ c = 5 := by omega
    rcases this with rfl | rfl | rfl | rfl | rfl <;> decide
  refine ⟨fun h => by simp at h; omega, fun _ => ?_⟩
  rw [hc.1, hc.2.1]
  refine W.call_of (c_Mul (by omega) s) ?_
  rintro _ s ⟨rfl, rfl⟩
  refine ⟨((0, ()), ((c : Int), ()), ()), rfl, ?_⟩
  simp only [W.join_iff, W.br_iff]
  refine ⟨fun h => by simp at h, fun _ => ⟨fun h => by simp at h; omega, fun _ => ?_⟩⟩
  simp only [hc.2.2, RP_mksl, RP_cpy]
  refine ⟨by omega, Int.le_refl _, by omega, by omega, ?_⟩
  intro b hb
  have hz := zero_one (.int .i64 0) c
  have hz : Builtin.zeroCells [Value.int .i64 0].toArray ((c : Nat) : Int).toNat = (List.replicate c (Value.int .i64 0)).toArray := hz
  rw [hz]
  have hne : r ≠ b := ne_of_known hr hb
  have m1 : Fw.Mod [] s (s.upd b (.cells (List.replicate c (Value.int .i64 0)).toArray 3 (0, 0))) := Mod.new hb
  have hr1 := m1.at hr (by simp)
  have hmin : Nat.min 1 ((c : Nat) : Int).toNat = 1 := Nat.min_eq_left h1
  refine ⟨[.int .i64 x], ?_, by simp [Value.oneCell'], ?_⟩
  · rw [hmin]
    exact ⟨rfl, has_block hr1⟩
  rw [hmin]
  have hst := stores_row (off := 0) (vs := [.int .i64 x]) (PH.upd_same s b (.cells (List.replicate c (Value.int .i64 0)).toArray 3 (0, 0))) (by simp) (by simp; omega)
  refine ⟨hst.1, ?_⟩
  rw [hst.2, PH.upd_upd]
  simp only [RP_loop]
  refine ⟨fun z s' => ∃ k : Nat, z = (((some ⟨b, 0, none⟩, c, c), ()), ((k : Int), ()), ()) ∧ 1 ≤ k ∧ k ≤ c ∧ s' = s.upd b (.cells (List.replicate k (Value.int .i64 x) ++ List.replicate (c - k) (Value.int .i64 0)).toArray 3 (0, 0)), fun z _ => c - z.2.1.1.toNat, ?_, ?_⟩
  · refine ⟨1, rfl, Nat.le_refl _, h1, ?_⟩
    congr 2
    obtain ⟨c', rfl⟩ : ∃ c', c = c' + 1 := ⟨c - 1, by omega⟩
    apply Array.ext'
    simp [List.replicate_succ]
  rintro _ _ ⟨k, rfl, hk1, hkc, rfl⟩
  simp only [W.br_iff, decide_eq_true_eq, decide_eq_false_iff_not]
  refine ⟨fun hlt => ?_, fun hge => ?_⟩
  · have hlt : k < c := by simpa using hlt
    simp
    refine ⟨by omega, ?_⟩
    have hk0 : ¬ c = k := by omega
    have hc0 : ¬ c = 0 := by omega
    simp only [hk0, hc0, if_false, add_mk, Nat.zero_add]
    have q1 : Nat.min k (c - k) ≤ k := Nat.min_le_left _ _
    have q2 : Nat.min k (c - k) ≤ c - k := Nat.min_le_right _ _
    have q3 : 1 ≤ Nat.min k (c - k) := Nat.le_min.2 ⟨hk1, by omega⟩
    generalize hq : Nat.min k (c - k) = q at q1 q2 q3
    refine ⟨List.replicate q (Value.int .i64 x), ?_, ?_, ?_⟩
    · rw [hq]
      refine ⟨by simp, ?_⟩
      intro j v hv
      rw [List.getElem?_replicate] at hv
      split at hv
      · rename_i hj
        cases hv
        rw [add_mk]
        unfold PH.cell?
        simp
        rw [List.getElem?_append_left (by simp; omega), List.getElem?_replicate, if_pos (by omega)]
      · cases hv
    · intro v hv; rw [List.mem_replicate] at hv; rw [hv.2]; rfl
    have hst := stores_row (off := k) (vs := List.replicate q (Value.int .i64 x)) (PH.upd_same s b (.cells (List.replicate k (Value.int .i64 x) ++ List.replicate (c - k) (Value.int .i64 0)).toArray 3 (0, 0))) (by intro e; have := congrArg List.length e; simp at this; omega) (by simp; omega)
    rw [hq]
    simp only [W.cpyK]
    have happ : (List.replicate k (Value.int .i64 x)).toArray ++ (List.replicate (c - k) (Value.int .i64 0)).toArray = (List.replicate k (Value.int .i64 x) ++ List.replicate (c - k) (Value.int .i64 0)).toArray := by simp
    first | rw [happ] | skip
    refine ⟨hst.1, ?_⟩
    rw [hst.2, PH.upd_upd]
    have hw : IntKind.i64.wrap ((k : Int) + ((q : Nat) : Int)) = ((k + q : Nat) : Int) := by rw [wrap_in (by omega) (by omega)]; simp
    refine ⟨⟨k + q, by rw [hw], by omega, by omega, ?_⟩, by rw [hw]; simp only [Int.toNat_natCast]; omega⟩
    congr 2
    apply Array.ext'
    rw [setL_toList _ _ _ (by simp; omega)]
    simp only [List.length_replicate]
    rw [List.take_append_of_le_length (by simp), List.take_of_length_le (by simp), List.drop_append]
    rw [List.drop_eq_nil_of_le (by simp)]
    simp only [List.length_replicate, List.nil_append, List.drop_replicate]
    rw [List.replicate_append_replicate]
    congr 2
    omega
  · have hkc' : k = c := by have : ¬ k < c := by simpa using hge
                            omega
    subst hkc'
    refine ⟨(some ⟨b, 0, none⟩, k, k), rfl, ?_, Mod.new hb, by simp [Fw.blk, hb]⟩
    refine ⟨by rw [flat_len]; simp [intE], Nat.le_refl _, by show k ≤ 9223372036854775807; omega, .inr ⟨b, _, rfl, PH.upd_same _ _ _, by simp [intE], ?_⟩⟩
    rw [flat_rep]; simp [intE]
end Go.Proofs.Ytfpbiecmobdnnaa
