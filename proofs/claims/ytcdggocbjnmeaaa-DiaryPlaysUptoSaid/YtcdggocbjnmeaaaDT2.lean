/-
  Records: what is found in bytes, by the program and by the document.
  Conditions: none; it proves no statement by itself.
-/
import Derived.Test.YtcdggocbjnmeaaaDT1
set_option linter.unusedVariables false
set_option linter.unusedSimpArgs false
set_option maxHeartbeats 1000000
namespace Go.Proofs.Ytcdggocbjnmeaaa
open Fw Go
attribute [-simp] Fw.W.ld_iff Fw.W.st_iff

def strE : Enc ByteArray where
  sz := 1
  f b := [.string b]
  len _ := rfl
  one b v hv := by simp at hv; subst hv; rfl
  pos := by omega
theorem growS {s s0 : PH} {a : Option Addr} {n c : Nat} {xs : List ByteArray} {x : ByteArray} {K : Option Addr → Nat → Nat → W.T} (h : rowE strE s 9 a n c xs) (hf : ∀ g ∈ Fw.blk a, s0 g = none) (m0 : Fw.Mod [] s0 s)
    (hl : xs.length ≤ 1099511627776) (hK : ∀ a' c' s', rowE strE s' 9 a' (n + 1) c' (xs ++ [x]) → (∀ g ∈ Fw.blk a', s0 g = none) → Fw.Mod [] s0 s' → K a' (n + 1) c' s') :
    W.nw (.cells #[.string x] 9 (0, 0)) (fun r => W.app 9 1 16 [.string ⟨#[]⟩] a n c (Src.sl (some ⟨r, 0, none⟩) 1) K) s := by
  refine W.nw_of fun r s1 hr m1 k1 => ?_
  have hmax : maxLen = 9223372036854775807 := rfl
  have hn : n = xs.length := h.len
  refine app_rowE (E := strE) (h.mod m1 (by simp)) rfl (ys := [x]) (k := 1) (src_has (E := strE) (has_block k1) rfl) rfl rfl (by omega) (by omega) ?_
  intro a' c' s2 h' hm
  have m01 := m0.trans m1
  refine hK a' c' s2 h' ?_ ?_
  · rcases hm with ⟨e, _⟩ | ⟨g, e, hg, _⟩
    · rw [e]; exact hf
    · intro g' hg'
      rw [e] at hg'
      have : g' = g := by simpa [Fw.blk] using hg'
      subst this
      exact m01.none hg (by simp)
  · rcases hm with ⟨_, hm⟩ | ⟨_, _, _, hm⟩
    · exact m01.fresh hm fun x hx => .inr (hf x hx)
    · exact m01.trans hm
/-! ## a length in four bytes -/
theorem ofI64 (n : Nat) (h : n < 18446744073709551616) : (BitVec.ofInt 64 (n : Int)).toNat = n := by rw [BitVec.ofInt_natCast, BitVec.toNat_ofNat]; exact Nat.mod_eq_of_lt h
theorem i64n {n : Nat} (h : n < 9223372036854775808) : IntKind.i64.wrap ((n : Nat) : Int) = (n : Int) := wrap_in (by omega) (by omega)
theorem o64 {a b : Nat} (ha : a < 4294967296) (hb : b < 4294967296) : IntKind.i64.wrap ((BitVec.ofInt 64 (a : Int) ||| BitVec.ofInt 64 (b : Int)).toNat : Int) = ((a ||| b : Nat) : Int) := by
  rw [BitVec.toNat_or, ofI64 a (by omega), ofI64 b (by omega)]
  have := Nat.or_lt_two_pow (n := 32) ha hb
  exact i64n (by omega)
theorem or_add {k x y : Nat} (h : y < 2 ^ k) : 2 ^ k * x ||| y = 2 ^ k * x + y := (Nat.two_pow_add_eq_or_of_lt h x).symm
theorem decP (b0 b1 b2 b3 : UInt8) : IntKind.i64.wrap ((BitVec.ofInt 64 (IntKind.i64.wrap ((BitVec.ofInt 64 (IntKind.i64.wrap ((BitVec.ofInt 64 (IntKind.i64.wrap (IntKind.i64.wrap ((b0.toNat : Nat) : Int) * 16777216)) ||| BitVec.ofInt 64 (IntKind.i64.wrap (IntKind.i64.wrap ((b1.toNat : Nat) : Int) * 65536))).toNat : Int)) |||
    BitVec.ofInt 64 (IntKind.i64.wrap (IntKind.i64.wrap ((b2.toNat : Nat) : Int) * 256))).toNat : Int)) ||| BitVec.ofInt 64 (IntKind.i64.wrap ((b3.toNat : Nat) : Int))).toNat : Int) = ((((b0.toNat * 256 + b1.toNat) * 256 + b2.toNat) * 256 + b3.toNat : Nat) : Int) := by
  have h0 := b0.toNat_lt
  have h1 := b1.toNat_lt
  have h2 := b2.toNat_lt
  have h3 := b3.toNat_lt
  rw [i64n (n := b0.toNat) (by omega), i64n (n := b1.toNat) (by omega), i64n (n := b2.toNat) (by omega), i64n (n := b3.toNat) (by omega)]
  have e0 : ((b0.toNat : Nat) : Int) * 16777216 = ((b0.toNat * 16777216 : Nat) : Int) := by omega
  have e1 : ((b1.toNat : Nat) : Int) * 65536 = ((b1.toNat * 65536 : Nat) : Int) := by omega
  have e2 : ((b2.toNat : Nat) : Int) * 256 = ((b2.toNat * 256 : Nat) : Int) := by omega
  rw [e0, e1, e2, i64n (n := b0.toNat * 16777216) (by omega), i64n (n := b1.toNat * 65536) (by omega), i64n (n := b2.toNat * 256) (by omega)]
  rw [o64 (by omega) (by omega)]
  have f1 : b0.toNat * 16777216 ||| b1.toNat * 65536 = (b0.toNat * 256 + b1.toNat) * 65536 := by
    have := or_add (k := 24) (x := b0.toNat) (y := b1.toNat * 65536) (by omega)
    rw [show (2 : Nat) ^ 24 = 16777216 by decide] at this
    rw [Nat.mul_comm b0.toNat, this]; omega
  rw [f1, o64 (by omega) (by omega)]
  have f2 : (b0.toNat * 256 + b1.toNat) * 65536 ||| b2.toNat * 256 = ((b0.toNat * 256 + b1.toNat) * 256 + b2.toNat) * 256 := by
    have := or_add (k := 16) (x := b0.toNat * 256 + b1.toNat) (y := b2.toNat * 256) (by omega)
    rw [show (2 : Nat) ^ 16 = 65536 by decide] at this
    rw [Nat.mul_comm (b0.toNat * 256 + b1.toNat) 65536, this]; omega
  rw [f2, o64 (by omega) (by omega)]
  have f3 : ((b0.toNat * 256 + b1.toNat) * 256 + b2.toNat) * 256 ||| b3.toNat = ((b0.toNat * 256 + b1.toNat) * 256 + b2.toNat) * 256 + b3.toNat := by
    have := or_add (k := 8) (x := (b0.toNat * 256 + b1.toNat) * 256 + b2.toNat) (y := b3.toNat) (by omega)
    rw [show (2 : Nat) ^ 8 = 256 by decide] at this
    rw [Nat.mul_comm _ 256, this]
  rw [f3]
theorem dec_at {l : List UInt8} {a b c d : UInt8} (h0 : l[0]? = some a) (h1 : l[1]? = some b) (h2 : l[2]? = some c) (h3 : l[3]? = some d) : Strip.dec l = ((a.toNat * 256 + b.toNat) * 256 + c.toNat) * 256 + d.toNat := by
  match l with
  | [] => simp at h0
  | [_] => simp at h1
  | [_, _] => simp at h2
  | [_, _, _] => simp at h3
  | w :: x :: y :: z :: l =>
    simp at h0 h1 h2 h3
    subst h0 h1 h2 h3
    rfl
theorem ext_drop (t : ByteArray) (i j : Nat) : toL (t.extract i j) = ((toL t).drop i).take (j - i) := by rw [toL_extract] <;> rfl
/-- what stands first -/
def FirstIs (t : ByteArray) (y : Value) : Prop := ∃ p, y = .tuple #[.string p, .bool (Strip.first (toL t)).isSome] ∧ ∀ q, Strip.first (toL t) = some q → p = ofL q
theorem c_first (t : ByteArray) (ht : t.size ≤ 1099511627776) (s : PH) : DCalls Try.prog 38 #[.string t] s fun y s' => FirstIs t y ∧ s' = s := by
  refine ok_first t _ s ?_
  unfold vc_first
  obtain ⟨R, hR⟩ : ∃ R : Value → PH → Prop, (fun y s' => FirstIs t y ∧ s' = s) = R := ⟨_, rfl⟩
  rw [hR]
  simp only [RP_ite, W.br_iff, decide_eq_true_eq, decide_eq_false_iff_not, RP_ret, RP_call, RP_guard]
  have hno : Strip.first (toL t) = none → R (.tuple #[.string ⟨#[]⟩, .bool false]) s := fun e => by
    rw [← hR]
    exact ⟨⟨⟨#[]⟩, by rw [e]; rfl, fun q hq => by rw [e] at hq; cases hq⟩, rfl⟩
  have hlen := toL_len t
  refine ⟨fun h => hno ?_, fun h => ?_⟩
  · unfold Strip.first; rw [if_pos (by omega)]
  have h8 : 8 ≤ t.size := by omega
  refine ⟨by omega, by omega, by omega, by omega, ?_⟩
  obtain ⟨b0, g0, k0⟩ := getU t 0 (by omega)
  obtain ⟨b1, g1, k1⟩ := getU t 1 (by omega)
  obtain ⟨b2, g2, k2⟩ := getU t 2 (by omega)
  obtain ⟨b3, g3, k3⟩ := getU t 3 (by omega)
  rw [k0, k1, k2, k3, decP]
  have hdec := dec_at g0 g1 g2 g3
  have h0 := b0.toNat_lt
  have h1 := b1.toNat_lt
  have h2 := b2.toNat_lt
  have h3 := b3.toNat_lt
  rw [← hdec]
  obtain ⟨n, hn⟩ : ∃ n, Strip.dec (toL t) = n := ⟨_, rfl⟩
  have hnb : n < 4294967296 := by rw [← hn, hdec]; omega
  rw [hn]
  have hw8 : IntKind.i64.wrap ((t.size : Int) - 8) = ((t.size - 8 : Nat) : Int) := by rw [wrap_in (by omega) (by omega)]; omega
  have hw9 : IntKind.i64.wrap (8 + (n : Int)) = ((8 + n : Nat) : Int) := by rw [wrap_in (by omega) (by omega)]; omega
  rw [hw8, hw9]
  have hf : Strip.first (toL t) = if 65536 < n ∨ t.size < 8 + n then none else if Strip.rec1 (((toL t).drop 8).take n) = (toL t).take (8 + n) then some (((toL t).drop 8).take n) else none := by
    unfold Strip.first
    rw [hn, hlen, if_neg (by omega)]
  refine (W.br_iff _ _ _ _).2 ⟨fun hb => hno ?_, fun hb => (W.br_iff _ _ _ _).2 ⟨fun hb2 => hno ?_, fun hb2 => ?_⟩⟩
  · have hb := of_decide_eq_true hb
    rw [hf, if_pos (.inl (by omega))]
  · have hb2 := of_decide_eq_true hb2
    rw [hf, if_pos (.inr (by omega))]
  have hb := of_decide_eq_false hb
  have hb2 := of_decide_eq_false hb2
  rw [if_neg (by omega)] at hf
  refine ⟨by omega, ?_⟩
  simp only [Int.toNat_natCast]
  have hp : toL (t.extract 8 (8 + n)) = ((toL t).drop 8).take n := by rw [ext_drop, Nat.add_sub_cancel_left]
  have hps : (t.extract 8 (8 + n)).size = n := by rw [ByteArray.size_extract]; omega
  have hput : putE (t.extract 8 (8 + n)) = (recB (t.extract 8 (8 + n)), 0) := by unfold putE; rw [if_neg (by omega)]
  refine W.call_of (c_Put (t.extract 8 (8 + n)) s) ?_
  rintro _ _ ⟨rfl, rfl⟩
  rw [hput]
  refine ⟨((recB (t.extract 8 (8 + n)), ()), (0, ()), ()), rfl, ?_⟩
  refine ⟨by omega, by omega, ?_⟩
  rw [toList_beq, ← hR]
  have hiff : (recB (t.extract 8 (8 + n)) = t.extract 0 (8 + n)) ↔ Strip.rec1 (((toL t).drop 8).take n) = (toL t).take (8 + n) := by
    unfold recB
    rw [hp]
    constructor
    · intro e; rw [← toL_take, ← e, toL_ofL]
    · intro e; apply toL_inj; rw [toL_ofL, toL_take, e]
  refine ⟨⟨t.extract 8 (8 + n), ?_, ?_⟩, rfl⟩
  · rw [hf]
    by_cases he : Strip.rec1 (((toL t).drop 8).take n) = (toL t).take (8 + n)
    · rw [if_pos he, decide_eq_true (hiff.2 he)]; rfl
    · rw [if_neg he, decide_eq_false (fun e => he (hiff.1 e))]; rfl
  · intro q hq
    rw [hf] at hq
    split at hq
    · have := Option.some.inj hq
      rw [← this, ← hp, ofL_toL]
    · cases hq
def ScanIs (t : ByteArray) (s : PH) (y : Value) (s' : PH) : Prop := ∃ a c, y = .tuple #[.slice a (scanB t).1.length c, .int .i64 ((scanB t).2 : Int)] ∧ rowE strE s' 9 a (scanB t).1.length c (scanB t).1 ∧ (∀ g ∈ Fw.blk a, s g = none) ∧ Fw.Mod [] s s'
theorem first_le {l p : List UInt8} (h : Strip.first l = some p) : 8 + p.length ≤ l.length := by
  obtain ⟨_, x, rfl⟩ := Strip.first_some h
  rw [List.length_append, Strip.rec_len]; omega
/-- one record more is found -/
theorem scan_step {t : ByteArray} {k : Nat} {done : List ByteArray} (hdone : scanB t = (done ++ (Strip.scan ((toL t).drop k)).1.map ofL, k + (Strip.scan ((toL t).drop k)).2)) :
    (∀ p, Strip.first ((toL t).drop k) = some p → scanB t = ((done ++ [ofL p]) ++ (Strip.scan ((toL t).drop (k + (8 + p.length)))).1.map ofL, (k + (8 + p.length)) + (Strip.scan ((toL t).drop (k + (8 + p.length)))).2)) ∧
    (Strip.first ((toL t).drop k) = none → scanB t = (done, k)) := by
  refine ⟨fun p hp => ?_, fun hn => ?_⟩
  · rw [hdone, Strip.scan_some hp, List.drop_drop]
    simp [Nat.add_assoc]
  · rw [hdone, Strip.scan_none hn]; simp
theorem c_Scan (t : ByteArray) (ht : t.size ≤ 1099511627776) (s : PH) : DCalls Try.prog 27 #[.string t] s (ScanIs t s) := by
  refine ok_Scan t _ s ?_
  unfold vc_Scan
  obtain ⟨R, hR⟩ : ∃ R, ScanIs t s = R := ⟨_, rfl⟩
  rw [hR]
  simp only [RP_ite, RP_ret, RP_call, RP_guard, RP_loop, RP_nw, RP_app]
  have hlen := toL_len t
  refine ⟨fun z s' => ∃ (k n c : Nat) (a : Option Addr) (done : List ByteArray), z = (((a, n, c), ()), ((k : Int), ()), ()) ∧ k ≤ t.size ∧ 8 * n ≤ k ∧ rowE strE s' 9 a n c done ∧ (∀ g ∈ Fw.blk a, s g = none) ∧ Fw.Mod [] s s' ∧ scanB t = (done ++ (Strip.scan ((toL t).drop k)).1.map ofL, k + (Strip.scan ((toL t).drop k)).2),
    fun z _ => t.size - z.2.1.1.toNat, ⟨0, 0, 0, none, [], rfl, Nat.zero_le _, Nat.le_refl _, rowE.nil, by simp [Fw.blk], Mod.refl _ _, by simp [scanB]⟩, ?_⟩
  rintro _ s1 ⟨k, n, c, a, done, rfl, hk, hnk, hrow, hf, m1, hdone⟩
  obtain ⟨st1, st2⟩ := scan_step hdone
  have hn : n = done.length := hrow.len
  dsimp only
  refine (W.guard_iff _ _ _).2 ⟨by omega, ?_⟩
  simp only [Int.toNat_natCast]
  have hx : toL (t.extract k t.size) = (toL t).drop k := by
    rw [ext_drop, List.take_of_length_le (by rw [List.length_drop]; omega)]
  refine W.call_of (c_first (t.extract k t.size) (by rw [ByteArray.size_extract]; omega) s1) ?_
  rintro _ _ ⟨⟨p, rfl, hp⟩, rfl⟩
  rw [hx] at hp ⊢
  refine ⟨((p, ()), ((Strip.first ((toL t).drop k)).isSome, ()), ()), rfl, ?_⟩
  cases hfi : Strip.first ((toL t).drop k) with
  | none =>
    refine (W.br_iff _ _ _ _).2 ⟨fun _ => ?_, fun e => by (have e : (!(none : Option (List UInt8)).isSome) = false := e; cases e)⟩
    have e := st2 hfi
    rw [← hR]
    refine ⟨a, c, by rw [e, ← hn], by rw [e, ← hn]; exact hrow, hf, m1⟩
  | some q =>
    refine (W.br_iff _ _ _ _).2 ⟨fun e => by (have e : (!(some q : Option (List UInt8)).isSome) = true := e; cases e), fun _ => ?_⟩
    have hpq := hp q hfi
    subst hpq
    have hle := first_le hfi
    rw [List.length_drop, hlen] at hle
    refine growS (x := ofL q) hrow hf m1 (by omega) ?_
    intro a' c' s' h' hf' m'
    have hz : (ofL q).size = q.length := ofL_size q
    have hw : IntKind.i64.wrap ((k : Int) + IntKind.i64.wrap (8 + ((ofL q).size : Int))) = ((k + (8 + q.length) : Nat) : Int) := by
      rw [hz, wrap_in (n := 8 + (q.length : Int)) (by omega) (by omega), wrap_in (by omega) (by omega)]; omega
    dsimp only
    rw [hw]
    refine ⟨⟨k + (8 + q.length), n + 1, c', a', done ++ [ofL q], rfl, by omega, by omega, h', hf', m', st1 q hfi⟩, by simp only [Int.toNat_natCast]; omega⟩
theorem decR (b0 b1 b2 b3 : UInt8) : IntKind.i64.wrap (IntKind.i64.wrap (IntKind.i64.wrap (IntKind.i64.wrap (IntKind.i64.wrap (IntKind.i64.wrap (IntKind.i64.wrap ((b0.toNat : Nat) : Int) * 256) + IntKind.i64.wrap ((b1.toNat : Nat) : Int)) * 256) + IntKind.i64.wrap ((b2.toNat : Nat) : Int)) * 256) + IntKind.i64.wrap ((b3.toNat : Nat) : Int)) =
    ((((b0.toNat * 256 + b1.toNat) * 256 + b2.toNat) * 256 + b3.toNat : Nat) : Int) := by
  have h0 := b0.toNat_lt
  have h1 := b1.toNat_lt
  have h2 := b2.toNat_lt
  have h3 := b3.toNat_lt
  rw [i64n (n := b0.toNat) (by omega), i64n (n := b1.toNat) (by omega), i64n (n := b2.toNat) (by omega), i64n (n := b3.toNat) (by omega)]
  rw [wrap_in (n := (b0.toNat : Int) * 256) (by omega) (by omega), wrap_in (n := (b0.toNat : Int) * 256 + b1.toNat) (by omega) (by omega), wrap_in (n := ((b0.toNat : Int) * 256 + b1.toNat) * 256) (by omega) (by omega), wrap_in (n := ((b0.toNat : Int) * 256 + b1.toNat) * 256 + b2.toNat) (by omega) (by omega),
    wrap_in (n := (((b0.toNat : Int) * 256 + b1.toNat) * 256 + b2.toNat) * 256) (by omega) (by omega), wrap_in (by omega) (by omega)]
  omega
theorem dec_drop {t : ByteArray} {k : Nat} {a b c d : UInt8} (h0 : (toL t)[k]? = some a) (h1 : (toL t)[k + 1]? = some b) (h2 : (toL t)[k + 2]? = some c) (h3 : (toL t)[k + 3]? = some d) : Strip.dec ((toL t).drop k) = ((a.toNat * 256 + b.toNat) * 256 + c.toNat) * 256 + d.toNat :=
  dec_at (by rw [List.getElem?_drop]; exact h0) (by rw [List.getElem?_drop]; exact h1) (by rw [List.getElem?_drop]; exact h2) (by rw [List.getElem?_drop]; exact h3)
theorem c_rScan (t : ByteArray) (ht : t.size ≤ 1099511627776) (s : PH) : DCalls Try.prog 13 #[.string t] s (ScanIs t s) := by
  refine ok_rScan t _ s ?_
  unfold vc_rScan
  obtain ⟨R, hR⟩ : ∃ R, ScanIs t s = R := ⟨_, rfl⟩
  rw [hR]
  simp only [RP_ite, RP_ret, RP_call, RP_guard, RP_loop, RP_nw, RP_app, RP_join]
  have hlen := toL_len t
  refine ⟨fun z s' => ∃ (k n c : Nat) (a : Option Addr) (done : List ByteArray), z = (((a, n, c), ()), ((k : Int), ()), ()) ∧ k ≤ t.size ∧ 8 * n ≤ k ∧ rowE strE s' 9 a n c done ∧ (∀ g ∈ Fw.blk a, s g = none) ∧ Fw.Mod [] s s' ∧ scanB t = (done ++ (Strip.scan ((toL t).drop k)).1.map ofL, k + (Strip.scan ((toL t).drop k)).2),
    fun z _ => t.size - z.2.1.1.toNat, ⟨0, 0, 0, none, [], rfl, Nat.zero_le _, Nat.le_refl _, rowE.nil, by simp [Fw.blk], Mod.refl _ _, by simp [scanB]⟩, ?_⟩
  rintro _ s1 ⟨k, n, c, a, done, rfl, hk, hnk, hrow, hf, m1, hdone⟩
  obtain ⟨st1, st2⟩ := scan_step hdone
  have hn : n = done.length := hrow.len
  have hend : Strip.first ((toL t).drop k) = none → R (.tuple #[.slice a n c, .int .i64 (k : Int)]) s1 := by
    intro hfi
    have e := st2 hfi
    rw [← hR]
    exact ⟨a, c, by rw [e, ← hn], by rw [e, ← hn]; exact hrow, hf, m1⟩
  have w : ∀ j : Nat, j ≤ 8 → IntKind.i64.wrap ((k : Int) + ((j : Nat) : Int)) = ((k + j : Nat) : Int) := fun j hj => by rw [wrap_in (by omega) (by omega)]; omega
  have w8 := w 8 (by omega)
  have w1 := w 1 (by omega)
  have w2 := w 2 (by omega)
  have w3 := w 3 (by omega)
  have hdl : ((toL t).drop k).length = t.size - k := by rw [List.length_drop, hlen]
  dsimp only
  refine (W.br_iff _ _ _ _).2 ⟨fun h8 => ?_, fun h8 => hend ?_⟩
  rotate_left
  · have h8 : ¬ IntKind.i64.wrap ((k : Int) + ((8 : Nat) : Int)) ≤ (t.size : Int) := of_decide_eq_false h8
    rw [w8] at h8
    unfold Strip.first
    rw [if_pos (by omega)]
  have h8 : IntKind.i64.wrap ((k : Int) + ((8 : Nat) : Int)) ≤ (t.size : Int) := of_decide_eq_true h8
  rw [w8] at h8
  have hk8 : k + 8 ≤ t.size := by omega
  have w1' : IntKind.i64.wrap ((k : Int) + 1) = ((k + 1 : Nat) : Int) := w1
  have w2' : IntKind.i64.wrap ((k : Int) + 2) = ((k + 2 : Nat) : Int) := w2
  have w3' : IntKind.i64.wrap ((k : Int) + 3) = ((k + 3 : Nat) : Int) := w3
  have w8' : IntKind.i64.wrap ((k : Int) + 8) = ((k + 8 : Nat) : Int) := w8
  obtain ⟨b0, g0, k0⟩ := getU t k (by omega)
  obtain ⟨b1, g1, k1⟩ := getU t (k + 1) (by omega)
  obtain ⟨b2, g2, k2⟩ := getU t (k + 2) (by omega)
  obtain ⟨b3, g3, k3⟩ := getU t (k + 3) (by omega)
  simp only [w1', w2', w3', w8', Int.toNat_natCast, k0, k1, k2, k3, decR]
  have hdec := dec_drop g0 g1 g2 g3
  have h0 := b0.toNat_lt
  have h1 := b1.toNat_lt
  have h2 := b2.toNat_lt
  have h3 := b3.toNat_lt
  rw [← hdec]
  obtain ⟨d, hd⟩ : ∃ d, Strip.dec ((toL t).drop k) = d := ⟨_, rfl⟩
  have hdb : d < 4294967296 := by rw [← hd, hdec]; omega
  rw [hd]
  have wd : IntKind.i64.wrap (((k + 8 : Nat) : Int) + (d : Int)) = ((k + 8 + d : Nat) : Int) := by rw [wrap_in (by omega) (by omega)]; omega
  have hf0 : Strip.first ((toL t).drop k) = if 65536 < d ∨ t.size - k < 8 + d then none else if Strip.rec1 ((((toL t).drop k).drop 8).take d) = ((toL t).drop k).take (8 + d) then some ((((toL t).drop k).drop 8).take d) else none := by
    unfold Strip.first
    rw [hd, hdl, if_neg (by omega)]
  refine (W.guard_iff _ _ _).2 ⟨by omega, ?_⟩
  refine (W.guard_iff _ _ _).2 ⟨by omega, ?_⟩
  refine (W.guard_iff _ _ _).2 ⟨by omega, ?_⟩
  refine (W.guard_iff _ _ _).2 ⟨by omega, ?_⟩
  refine W.join_gen (fun z s' => z = (((a, n, c), ()), ((k : Int), ()), ((d : Int), ()), ()) ∧ s' = s1 ∧ d ≤ 65536 ∧ k + 8 + d ≤ t.size) ?_ ?_
  rotate_left
  · intro J hJ
    refine (W.br_iff _ _ _ _).2 ⟨fun hb => hend ?_, fun hb => (W.br_iff _ _ _ _).2 ⟨fun hb2 => hend ?_, fun hb2 => hJ _ _ ⟨rfl, rfl, ?_, ?_⟩⟩⟩
    · have hb : (d : Int) > 65536 := of_decide_eq_true hb
      rw [hf0, if_pos (.inl (by omega))]
    · rw [wd] at hb2
      have hb2 : ((k + 8 + d : Nat) : Int) > (t.size : Int) := of_decide_eq_true hb2
      rw [hf0, if_pos (.inr (by omega))]
    · have hb : ¬ (d : Int) > 65536 := of_decide_eq_false hb
      omega
    · rw [wd] at hb2
      have hb2 : ¬ ((k + 8 + d : Nat) : Int) > (t.size : Int) := of_decide_eq_false hb2
      omega
  rintro _ s2 ⟨rfl, rfl, hd1, hd2⟩
  rw [if_neg (by omega)] at hf0
  dsimp only
  simp only [w8', wd, Int.toNat_natCast]
  refine (W.guard_iff _ _ _).2 ⟨by omega, ?_⟩
  have hp : toL (t.extract (k + 8) (k + 8 + d)) = (((toL t).drop k).drop 8).take d := by rw [ext_drop, Nat.add_sub_cancel_left, List.drop_drop]
  have hps : (t.extract (k + 8) (k + 8 + d)).size = d := by rw [ByteArray.size_extract]; omega
  have hput : putE (t.extract (k + 8) (k + 8 + d)) = (recB (t.extract (k + 8) (k + 8 + d)), 0) := by unfold putE; rw [if_neg (by omega)]
  refine W.call_of (c_rPut (t.extract (k + 8) (k + 8 + d)) s2) ?_
  rintro _ _ ⟨rfl, rfl⟩
  rw [hput]
  refine ⟨((recB (t.extract (k + 8) (k + 8 + d)), ()), (0, ()), ()), rfl, ?_⟩
  refine (W.br_iff _ _ _ _).2 ⟨fun e => (by cases e), fun _ => ?_⟩
  refine (W.guard_iff _ _ _).2 ⟨by omega, ?_⟩
  have hiff : (t.extract k (k + 8 + d) = recB (t.extract (k + 8) (k + 8 + d))) ↔ Strip.rec1 ((((toL t).drop k).drop 8).take d) = ((toL t).drop k).take (8 + d) := by
    unfold recB
    rw [hp]
    have e1 : toL (t.extract k (k + 8 + d)) = ((toL t).drop k).take (8 + d) := by rw [ext_drop, show k + 8 + d - k = 8 + d by omega]
    constructor
    · intro e; rw [← e1, e, toL_ofL]
    · intro e; apply toL_inj; rw [toL_ofL, e1, e]
  dsimp only
  rw [toList_beq]
  refine (W.br_iff _ _ _ _).2 ⟨fun e => hend ?_, fun e => ?_⟩
  · have e : (!decide (t.extract k (k + 8 + d) = recB (t.extract (k + 8) (k + 8 + d)))) = true := e
    simp only [Bool.not_eq_true', decide_eq_false_iff_not] at e
    rw [hf0, if_neg (fun e2 => e (hiff.2 e2))]
  · have e : (!decide (t.extract k (k + 8 + d) = recB (t.extract (k + 8) (k + 8 + d)))) = false := e
    simp only [Bool.not_eq_false', decide_eq_true_eq] at e
    have hfi : Strip.first ((toL t).drop k) = some ((((toL t).drop k).drop 8).take d) := by rw [hf0, if_pos (hiff.1 e)]
    have hq : t.extract (k + 8) (k + 8 + d) = ofL ((((toL t).drop k).drop 8).take d) := by rw [← hp, ofL_toL]
    have hql : ((((toL t).drop k).drop 8).take d).length = d := by rw [← hp, toL_len, hps]
    have hs := st1 _ hfi
    rw [hql] at hs
    refine growS (x := t.extract (k + 8) (k + 8 + d)) hrow hf m1 (by omega) ?_
    intro a' c' s' h' hf' m'
    have hw : IntKind.i64.wrap ((k : Int) + IntKind.i64.wrap (8 + (d : Int))) = ((k + (8 + d) : Nat) : Int) := by
      rw [wrap_in (n := 8 + (d : Int)) (by omega) (by omega), wrap_in (by omega) (by omega)]; omega
    rw [hw]
    refine ⟨⟨k + (8 + d), n + 1, c', a', done ++ [t.extract (k + 8) (k + 8 + d)], rfl, by omega, by omega, h', hf', m', by rw [hq]; exact hs⟩, by simp only [Int.toNat_natCast]; omega⟩
theorem c_Same {s : PH} {a b : Option Addr} {n c m d : Nat} {l k : List ByteArray} (h : elems (Rd.enc strE) s a n l) (h' : elems (Rd.enc strE) s b m k) (hl : l.length ≤ 1099511627776) (hk : k.length ≤ 1099511627776) :
    DCalls Try.prog 14 #[.slice a n c, .slice b m d] s fun y s' => y = .bool (decide (l = k)) ∧ s' = s := by
  refine ok_Same a n c b m d _ s ?_
  unfold vc_Same
  have hn : n = l.length := h.1
  have hm : m = k.length := h'.1
  simp only [RP_ite, RP_ret, RP_guard, RP_loop, RP_unSome, RP_ld]
  refine (W.br_iff _ _ _ _).2 ⟨fun e => ?_, fun e => ?_⟩
  · have e : (((n : Nat) : Int) != ((m : Nat) : Int)) = true := e
    refine ⟨?_, rfl⟩
    rw [decide_eq_false]
    intro hlk
    rw [hn, hm, hlk] at e
    simp at e
  · have e : (((n : Nat) : Int) != ((m : Nat) : Int)) = false := e
    have hnm : n = m := by
      have : ((n : Nat) : Int) = (m : Int) := by simpa using e
      omega
    refine ⟨fun z s' => ∃ i : Nat, z = (((i : Int), ()), ()) ∧ i ≤ n ∧ l.take i = k.take i ∧ s' = s, fun z _ => n - z.1.1.toNat, ⟨0, rfl, Nat.zero_le _, by simp, rfl⟩, ?_⟩
    rintro _ s ⟨i, rfl, hi, he, rfl⟩
    refine (W.br_iff _ _ _ _).2 ⟨fun hlt => ?_, fun hge => ?_⟩
    · have hlt : (i : Int) < (n : Int) := of_decide_eq_true hlt
      obtain ⟨x, hx⟩ : ∃ x, l[i]? = some x := ⟨_, List.getElem?_eq_getElem (by omega)⟩
      obtain ⟨y, hy⟩ : ∃ y, k[i]? = some y := ⟨_, List.getElem?_eq_getElem (by omega)⟩
      obtain ⟨ad, rfl, hh⟩ := h.at_enc hx
      obtain ⟨ad', rfl, hh'⟩ := h'.at_enc hy
      dsimp only
      refine (W.guard_iff _ _ _).2 ⟨by omega, ?_⟩
      simp only [W.unSome_some, Int.toNat_natCast]
      refine ld_has_z hh (cs := [.str]) (y := (x, ())) rfl ?_
      refine (W.guard_iff _ _ _).2 ⟨by omega, ?_⟩
      refine ⟨ad', rfl, ?_⟩
      refine ld_has_z hh' (cs := [.str]) (y := (y, ())) rfl ?_
      dsimp only
      rw [toList_beq]
      refine (W.br_iff _ _ _ _).2 ⟨fun e => ⟨?_, rfl⟩, fun e => ?_⟩
      · simp only [Bool.not_eq_true', decide_eq_false_iff_not] at e
        rw [decide_eq_false]
        intro hlk
        rw [hlk, hy] at hx
        exact e (Option.some.inj hx).symm
      · simp only [Bool.not_eq_false', decide_eq_true_eq] at e
        rw [wrap_succ (k := i) (by omega)]
        refine ⟨⟨i + 1, rfl, by omega, by rw [List.take_add_one, List.take_add_one, he, hx, hy, e], rfl⟩, by simp only [Int.toNat_natCast]; omega⟩
    · have hge : ¬ (i : Int) < (n : Int) := of_decide_eq_false hge
      refine ⟨?_, rfl⟩
      rw [List.take_of_length_le (by omega), List.take_of_length_le (by omega)] at he
      rw [decide_eq_true he]
end Go.Proofs.Ytcdggocbjnmeaaa
