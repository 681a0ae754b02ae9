/-
  The scripts of the laws of the diary, read; how much they hold.
  Conditions: none; it proves no statement by itself.
-/
import Derived.Test.YtcdggocbjnmeaaaDT5
import Derived.Test.YtcdggocbjnmeaaaDP3
import Derived.Test.YtcdggocbjnmeaaaFwX
set_option linter.unusedVariables false
set_option linter.unusedSimpArgs false
set_option maxHeartbeats 1000000
set_option maxRecDepth 100000
namespace Go.Proofs.Ytcdggocbjnmeaaa
open Fw Go
attribute [-simp] Fw.W.ld_iff Fw.W.st_iff

structure Op where
  kd : Int
  l : List ByteArray
  n : Int
  k : List Int
def rdOp : Rd Op := (Rd.pair (Rd.int .i64) (Rd.pair (Rd.sl Rd.str 16) (Rd.pair (Rd.int .i64) (Rd.pair (Rd.sl (Rd.int .i64) 8) Rd.unit)))).map fun x => ⟨x.1, x.2.1, x.2.2.1, x.2.2.2.1⟩
def szS (l : List ByteArray) : Nat := (l.map fun s => s.size + 1).sum
def opC (o : Op) : Nat := szS o.l + o.k.length + 1
theorem ones_sum (l : List Int) : (l.map fun _ => 1).sum = l.length := by induction l with
  | nil => rfl
  | cons x l ih => simp only [List.map_cons, List.sum_cons, ih, List.length_cons]; omega
theorem opOp : OpensM Try.prog 49 rdOp opC := by
  refine openm_map _ (openm_struct (.cons rfl (openm_int Try.underlying3 (by kernel_rfl)) (.cons rfl (openm_sl (openm_str Try.underlying9 (by kernel_rfl)) Try.underlying28 (by kernel_rfl) (by kernel_rfl)) (.cons rfl (openm_int Try.underlying3 (by kernel_rfl))
    (.cons rfl (openm_sl (openm_int Try.underlying3 (by kernel_rfl)) Try.underlying47 (by kernel_rfl) (by kernel_rfl)) (.nil _))))) Try.underlying49 (by kernel_rfl)) ?_
  rintro ⟨a, b, c, d, _⟩
  unfold opC szS
  dsimp only
  rw [ones_sum]
  omega
theorem rdOp_is {s : PH} {cs : List Value} {o : Op} (h : rdOp.is s cs o) : ∃ (a : Option Addr) (n c : Nat) (ka : Option Addr) (kn kc : Nat), cs = [.int .i64 o.kd, .slice a n c, .int .i64 o.n, .slice ka kn kc] ∧ elems (Rd.enc strE) s a n o.l ∧ intsAt s ka kn o.k ∧
    o.n ≤ 9223372036854775807 ∧ n * 16 ≤ 140737488355328 ∧ kn * 8 ≤ 140737488355328 := by
  obtain ⟨⟨x1, x2, x3, x4, _⟩, rfl, h⟩ := h
  obtain ⟨c1, d1, rfl, ⟨rfl, w1⟩, c2, d2, rfl, ⟨a, n, c, rfl, l1, l2, l3, l4⟩, c3, d3, rfl, ⟨rfl, w3⟩, c4, d4, rfl, ⟨ka, kn, kc, rfl, m1, m2, m3, m4⟩, rfl⟩ := h
  have hr : reachBytes ≤ 140737488355328 := by decide
  refine ⟨a, n, c, ka, kn, kc, rfl, str_enc l4, elems_ints m4, (wf_i64 w3).2, ?_, ?_⟩
  · have : n * 16 ≤ c * 16 := Nat.mul_le_mul_right _ l1
    omega
  · have : kn * 8 ≤ kc * 8 := Nat.mul_le_mul_right _ m1
    omega
def sumC (l : List Op) : Nat := (l.map opC).sum
theorem sumC_snoc {l : List Op} {i : Nat} {o : Op} (h : l[i]? = some o) : sumC (l.take (i + 1)) = sumC (l.take i) + opC o := by
  unfold sumC; rw [List.take_add_one, h]; simp
theorem sumC_take_le (l : List Op) (i : Nat) : sumC (l.take i) ≤ sumC l := by
  unfold sumC
  conv => rhs; rw [← List.take_append_drop i l]
  rw [List.map_append, List.sum_append]; omega
theorem szS_snoc {l : List ByteArray} {i : Nat} {t : ByteArray} (h : l[i]? = some t) : szS (l.take (i + 1)) = szS (l.take i) + (t.size + 1) := by
  unfold szS; rw [List.take_add_one, h]; simp
theorem szS_take_le (l : List ByteArray) (i : Nat) : szS (l.take i) ≤ szS l := by
  unfold szS
  conv => rhs; rw [← List.take_append_drop i l]
  rw [List.map_append, List.sum_append]; omega
theorem szS_len (l : List ByteArray) : l.length ≤ szS l := by
  unfold szS
  induction l with
  | nil => simp
  | cons x l ih => simp only [List.length_cons, List.map_cons, List.sum_cons]; omega
theorem recs_szS (l : List ByteArray) : (recsB l).size ≤ 8 * szS l := by
  rw [recs_len_le]
  unfold szS
  induction l with
  | nil => simp
  | cons x l ih => simp only [List.map_cons, List.sum_cons]; omega
theorem op_at {s : PH} {a : Option Addr} {n : Nat} {ops : List Op} (h : elems rdOp s a n ops) {i : Nat} {o : Op} (ho : ops[i]? = some o) : ∃ (ad : Addr) (a' : Option Addr) (n' c' : Nat) (ka : Option Addr) (kn kc : Nat), a = some ad ∧
    s.has (ad.add (i * 4)) [.int .i64 o.kd, .slice a' n' c', .int .i64 o.n, .slice ka kn kc] ∧ elems (Rd.enc strE) s a' n' o.l ∧ intsAt s ka kn o.k ∧ o.n ≤ 9223372036854775807 ∧ n' * 16 ≤ 140737488355328 ∧ kn * 8 ≤ 140737488355328 := by
  obtain ⟨ad, cs, h1, h2, h3⟩ := h.2 i o ho
  obtain ⟨a', n', c', ka, kn, kc, rfl, r⟩ := rdOp_is h2
  exact ⟨ad, a', n', c', ka, kn, kc, h1, h3, r⟩
theorem c_great {s : PH} {a : Option Addr} {n c : Nat} {ops : List Op} (h : elems rdOp s a n ops) (hb : sumC ops ≤ 1048576) : DCalls Try.prog 15 #[.slice a n c] s fun y s' => (∃ b : Bool, y = .bool b ∧ (b = false → ops.length ≤ 100 ∧ sumC ops ≤ 16384)) ∧ s' = s := by
  refine ok_great a n c _ s ?_
  unfold vc_great
  obtain ⟨R, hR⟩ : ∃ R : Value → PH → Prop, (fun y s' => (∃ b : Bool, y = .bool b ∧ (b = false → ops.length ≤ 100 ∧ sumC ops ≤ 16384)) ∧ s' = s) = R := ⟨_, rfl⟩
  rw [hR]
  have hn : n = ops.length := h.1
  have hlen : ops.length ≤ sumC ops := by
    unfold sumC
    clear hR h hb hn
    induction ops with
    | nil => simp
    | cons x l ih => simp only [List.length_cons, List.map_cons, List.sum_cons]; unfold opC at ih ⊢; omega
  simp only [RP_ite, RP_ret, RP_guard, RP_loop, RP_unSome, RP_ld]
  refine ⟨fun z s' => ∃ i : Nat, z = (((sumC (ops.take i) : Int), ()), ((a, n, c), ()), ((n : Int), ()), ((i : Int), ()), ()) ∧ i ≤ n ∧ sumC (ops.take i) ≤ 16384 ∧ s' = s, fun z _ => n - z.2.2.2.1.1.toNat, ⟨0, rfl, Nat.zero_le _, by simp [sumC], rfl⟩, ?_⟩
  rintro _ s ⟨i, rfl, hi, hs, rfl⟩
  refine (W.br_iff _ _ _ _).2 ⟨fun hlt => ?_, fun hge => ?_⟩
  · have hlt : (i : Int) < (n : Int) := of_decide_eq_true hlt
    obtain ⟨o, ho⟩ : ∃ o, ops[i]? = some o := ⟨_, List.getElem?_eq_getElem (by omega)⟩
    obtain ⟨ad, a', n', c', ka, kn, kc, rfl, hh, hl, hk, _, _, _⟩ := op_at h ho
    have hss := sumC_snoc ho
    have hst := sumC_take_le ops (i + 1)
    have hkl : kn = o.k.length := hk.1
    have hnl : n' = o.l.length := hl.1
    have hopc : opC o = szS o.l + o.k.length + 1 := rfl
    dsimp only
    refine (W.guard_iff _ _ _).2 ⟨by omega, ?_⟩
    simp only [W.unSome_some, Int.toNat_natCast]
    refine ld_has_z hh (y := (o.kd, (a', n', c'), o.n, (ka, kn, kc), ())) rfl ?_
    have hw0 : IntKind.i64.wrap ((sumC (ops.take i) : Int) + IntKind.i64.wrap (1 + (kn : Int))) = ((sumC (ops.take i) + (o.k.length + 1) : Nat) : Int) := by
      rw [wrap_in (n := 1 + (kn : Int)) (by omega) (by omega), wrap_in (by omega) (by omega)]; omega
    dsimp only
    rw [hw0]
    refine ⟨fun z s' => ∃ j : Nat, z = ((((sumC (ops.take i) + (o.k.length + 1) + szS (o.l.take j) : Nat) : Int), ()), ((some ad, n, c), ()), ((n : Int), ()), ((i : Int), ()), ((a', n', c'), ()), ((n' : Int), ()), ((j : Int), ()), ()) ∧ j ≤ n' ∧ s' = s, fun z _ => n' - z.2.2.2.2.2.2.1.1.toNat, ⟨0, rfl, Nat.zero_le _, rfl⟩, ?_⟩
    rintro _ s ⟨j, rfl, hj, rfl⟩
    refine (W.br_iff _ _ _ _).2 ⟨fun hjlt => ?_, fun hjge => ?_⟩
    · have hjlt : (j : Int) < (n' : Int) := of_decide_eq_true hjlt
      obtain ⟨t, ht⟩ : ∃ t, o.l[j]? = some t := ⟨_, List.getElem?_eq_getElem (by omega)⟩
      obtain ⟨ad', rfl, hh'⟩ := hl.at_enc ht
      have hsn := szS_snoc ht
      have hst2 := szS_take_le o.l (j + 1)
      dsimp only
      refine (W.guard_iff _ _ _).2 ⟨by omega, ?_⟩
      simp only [W.unSome_some, Int.toNat_natCast]
      refine ld_has_z hh' (cs := [.str]) (y := (t, ())) rfl ?_
      have hw1 : IntKind.i64.wrap (((sumC (ops.take i) + (o.k.length + 1) + szS (o.l.take j) : Nat) : Int) + IntKind.i64.wrap (1 + (t.size : Int))) = ((sumC (ops.take i) + (o.k.length + 1) + szS (o.l.take (j + 1)) : Nat) : Int) := by
        rw [wrap_in (n := 1 + (t.size : Int)) (by omega) (by omega), wrap_in (by omega) (by omega)]; omega
      dsimp only
      rw [hw1, wrap_succ (k := j) (by omega)]
      exact ⟨⟨j + 1, rfl, by omega, rfl⟩, by simp only [Int.toNat_natCast]; omega⟩
    · have hjge : ¬ (j : Int) < (n' : Int) := of_decide_eq_false hjge
      have hfull : szS (o.l.take j) = szS o.l := by rw [List.take_of_length_le (by omega)]
      have hsum : sumC (ops.take i) + (o.k.length + 1) + szS (o.l.take j) = sumC (ops.take (i + 1)) := by omega
      dsimp only
      rw [hsum]
      refine (W.br_iff _ _ _ _).2 ⟨fun hbig => ?_, fun hbig => ?_⟩
      · rw [← hR]; exact ⟨⟨true, rfl, fun e => by cases e⟩, rfl⟩
      · have hbig : ¬ ((sumC (ops.take (i + 1)) : Int) > 16384) := of_decide_eq_false hbig
        rw [wrap_succ (k := i) (by omega)]
        exact ⟨⟨i + 1, rfl, by omega, by omega, rfl⟩, by simp only [Int.toNat_natCast]; omega⟩
  · have hge : ¬ (i : Int) < (n : Int) := of_decide_eq_false hge
    rw [List.take_of_length_le (by omega)] at hs
    rw [← hR]
    refine ⟨⟨_, rfl, fun e => ⟨?_, hs⟩⟩, rfl⟩
    have e : ¬ ((n : Int) > 100) := of_decide_eq_false e
    omega
end Go.Proofs.Ytcdggocbjnmeaaa
