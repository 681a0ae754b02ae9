/-
  Records: what the functions of the strip do, the program's and the document's.
  Conditions: none; it proves no statement by itself.
-/
import Derived.Test.YtcdggocbjnmeaaaDP0
import Derived.Test.YtcdggocbjnmeaaaVd3
import Derived.Test.YtcdggocbjnmeaaaFwW
import Derived.Laws.BitsLemmas
set_option linter.unusedVariables false
set_option linter.unusedSimpArgs false
set_option maxHeartbeats 1000000
namespace Go.Proofs.Ytcdggocbjnmeaaa
open Fw Go
attribute [-simp] Fw.W.ld_iff Fw.W.st_iff

theorem u32n {n : Nat} (h : n < 4294967296) : IntKind.u32.wrap ((n : Nat) : Int) = (n : Int) := by rw [IntKind.wrap_u32]; omega
theorem ofI32 (n : Nat) (h : n < 4294967296) : (BitVec.ofInt 32 (n : Int)).toNat = n := by rw [BitVec.ofInt_natCast, BitVec.toNat_ofNat]; exact Nat.mod_eq_of_lt h
theorem x32 {a b : Nat} (ha : a < 4294967296) (hb : b < 4294967296) : IntKind.u32.wrap ((BitVec.ofInt 32 (a : Int) ^^^ BitVec.ofInt 32 (b : Int)).toNat : Int) = ((a ^^^ b : Nat) : Int) := by
  rw [BitVec.toNat_xor, ofI32 a ha, ofI32 b hb]
  exact u32n (Nat.xor_lt_two_pow (n := 32) ha hb)
theorem a32 {a b : Nat} (ha : a < 4294967296) (hb : b < 4294967296) : IntKind.u32.wrap ((BitVec.ofInt 32 (a : Int) &&& BitVec.ofInt 32 (b : Int)).toNat : Int) = ((a &&& b : Nat) : Int) := by
  rw [BitVec.toNat_and, ofI32 a ha, ofI32 b hb]
  exact u32n (Nat.and_lt_two_pow (n := 32) _ hb)
theorem crcBit_lt {n : Nat} (h : n < 4294967296) : Strip.crcBit n < 4294967296 := by
  unfold Strip.crcBit
  split
  · exact Nat.xor_lt_two_pow (n := 32) (by omega) (by decide)
  · omega
/-- the program's step -/
theorem stepP {n : Nat} (h : n < 4294967296) : IntKind.u32.wrap ((BitVec.ofInt 32 (Int.fdiv (n : Int) 2) ^^^ BitVec.ofInt 32 (IntKind.u32.wrap ((BitVec.ofInt 32 3988292384 &&& BitVec.ofInt 32 (IntKind.u32.wrap (0 - IntKind.u32.wrap ((BitVec.ofInt 32 (n : Int) &&& BitVec.ofInt 32 1).toNat : Int)))).toNat : Int))).toNat : Int) = (Strip.crcBit n : Int) := by
  have h1 : IntKind.u32.wrap ((BitVec.ofInt 32 (n : Int) &&& BitVec.ofInt 32 1).toNat : Int) = ((n % 2 : Nat) : Int) := by
    have := a32 h (b := 1) (by decide)
    rw [Nat.and_one_is_mod] at this
    exact this
  have h2 : Int.fdiv (n : Int) 2 = ((n / 2 : Nat) : Int) := by rw [Int.fdiv_eq_ediv_of_nonneg _ (by omega)]; omega
  rw [h1, h2]
  unfold Strip.crcBit
  by_cases ho : n % 2 = 1
  · rw [if_pos ho, ho]
    have h3 : IntKind.u32.wrap (0 - ((1 : Nat) : Int)) = ((4294967295 : Nat) : Int) := by rw [IntKind.wrap_u32]; decide
    rw [h3]
    have h4 : IntKind.u32.wrap ((BitVec.ofInt 32 3988292384 &&& BitVec.ofInt 32 ((4294967295 : Nat) : Int)).toNat : Int) = ((3988292384 : Nat) : Int) := by
      have := a32 (a := 3988292384) (b := 4294967295) (by decide) (by decide)
      rw [show (3988292384 &&& 4294967295 : Nat) = 3988292384 by decide] at this
      exact this
    rw [h4]
    exact x32 (by omega) (by decide)
  · rw [if_neg ho]
    have h0 : n % 2 = 0 := by omega
    rw [h0]
    have h3 : IntKind.u32.wrap (0 - ((0 : Nat) : Int)) = ((0 : Nat) : Int) := by rw [IntKind.wrap_u32]; decide
    rw [h3]
    have h4 : IntKind.u32.wrap ((BitVec.ofInt 32 3988292384 &&& BitVec.ofInt 32 ((0 : Nat) : Int)).toNat : Int) = ((0 : Nat) : Int) := by
      have := a32 (a := 3988292384) (b := 0) (by decide) (by decide)
      rw [Nat.and_zero] at this
      exact this
    rw [h4]
    have := x32 (a := n / 2) (b := 0) (by omega) (by decide)
    rw [Nat.xor_zero] at this
    exact this
theorem crcBits_lt : ∀ (k : Nat) {n : Nat}, n < 4294967296 → Strip.crcBits k n < 4294967296
  | 0, n, h => h
  | k + 1, n, h => crcBits_lt k (crcBit_lt h)
theorem crcBits_succ : ∀ (k n : Nat), Strip.crcBits (k + 1) n = Strip.crcBit (Strip.crcBits k n)
  | 0, n => rfl
  | k + 1, n => by
    show Strip.crcBits (k + 1) (Strip.crcBit n) = _
    rw [crcBits_succ k]; rfl
theorem getU (t : ByteArray) (i : Nat) (h : i < t.size) : ∃ a, (toL t)[i]? = some a ∧ t[i]?.getD 0 = a := by
  refine ⟨t[i], ?_, ?_⟩
  · show t.data.toList[i]? = some t.data[i]
    rw [Array.getElem?_toList]; exact Array.getElem?_eq_getElem h
  · rw [getElem?_pos t i h]; rfl
theorem crcByte_lt {n : Nat} (h : n < 4294967296) (b : UInt8) : Strip.crcByte n b < 4294967296 := by
  have := b.toNat_lt
  exact crcBits_lt 8 (Nat.xor_lt_two_pow (n := 32) h (by omega))
theorem crcRun_lt : ∀ (l : List UInt8) {n : Nat}, n < 4294967296 → l.foldl Strip.crcByte n < 4294967296
  | [], n, h => h
  | b :: l, n, h => crcRun_lt l (crcByte_lt h b)
theorem crcRun_succ {l : List UInt8} {i : Nat} {a : UInt8} (h : l[i]? = some a) : (l.take (i + 1)).foldl Strip.crcByte 4294967295 = Strip.crcByte ((l.take i).foldl Strip.crcByte 4294967295) a := by
  rw [List.take_add_one, h]
  simp
abbrev run (t : ByteArray) (i : Nat) : Nat := ((toL t).take i).foldl Strip.crcByte 4294967295
theorem run_lt (t : ByteArray) (i : Nat) : run t i < 4294967296 := crcRun_lt _ (by decide)
theorem byteI (a : UInt8) : IntKind.u32.wrap ((a.toNat : Nat) : Int) = ((a.toNat : Nat) : Int) := u32n (by have := a.toNat_lt; omega)
def sumB (t : ByteArray) : Nat := Strip.crc (toL t)
theorem c_Sum (t : ByteArray) (ht : t.size ≤ 4611686018427387904) (s : PH) : DCalls Try.prog 46 #[.string t] s fun y s' => y = .int .u32 (sumB t : Int) ∧ s' = s := by
  refine ok_Sum t _ s ?_
  unfold vc_Sum
  simp only [RP_loop]
  refine ⟨fun z s' => ∃ i : Nat, z = ((((run t i : Nat) : Int), ()), ((t.size : Int), ()), ((i : Int), ()), ()) ∧ i ≤ t.size ∧ s' = s, fun z _ => t.size - z.2.2.1.1.toNat, ⟨0, rfl, Nat.zero_le _, rfl⟩, ?_⟩
  rintro _ s ⟨i, rfl, hi, rfl⟩
  simp only [RP_ite, W.br_iff, decide_eq_true_eq, decide_eq_false_iff_not, RP_guard, W.guard_iff, RP_loop, RP_ret]
  refine ⟨fun hlt => ⟨by omega, ?_⟩, fun hge => ?_⟩
  · have hlt : i < t.size := by omega
    obtain ⟨a, ha, ha2⟩ := getU t i hlt
    simp only [Int.toNat_natCast, ha2, byteI]
    have hb := a.toNat_lt
    rw [x32 (run_lt t i) (by omega)]
    have hx : run t i ^^^ a.toNat < 4294967296 := Nat.xor_lt_two_pow (n := 32) (run_lt t i) (by omega)
    refine ⟨fun z s' => ∃ k : Nat, z = (((Strip.crcBits k (run t i ^^^ a.toNat) : Int), ()), ((t.size : Int), ()), ((i : Int), ()), ((k : Int), ()), ()) ∧ k ≤ 8 ∧ s' = s, fun z _ => 8 - z.2.2.2.1.1.toNat, ⟨0, rfl, by omega, rfl⟩, ?_⟩
    rintro _ s ⟨k, rfl, hk, rfl⟩
    simp only [W.br_iff, decide_eq_true_eq, decide_eq_false_iff_not]
    refine ⟨fun hk8 => ?_, fun hk8 => ?_⟩
    · rw [stepP (crcBits_lt k hx), wrap_succ (k := k) (by omega), ← crcBits_succ]
      exact ⟨⟨k + 1, rfl, by omega, by first | trivial | rfl⟩, by simp only [Int.toNat_natCast]; omega⟩
    · have : k = 8 := by omega
      subst this
      have e : run t (i + 1) = Strip.crcBits 8 (run t i ^^^ a.toNat) := crcRun_succ ha
      rw [← e, wrap_succ (k := i) (by omega)]
      exact ⟨⟨i + 1, rfl, by omega, by first | trivial | rfl⟩, by simp only [Int.toNat_natCast]; omega⟩
  · have hie : i = t.size := by omega
    have e : run t i = (toL t).foldl Strip.crcByte 4294967295 := by
      unfold run; rw [List.take_of_length_le (by rw [toL_len]; omega)]
    have := x32 (a := 4294967295) (b := run t i) (by decide) (run_lt t i)
    refine ⟨?_, rfl⟩
    refine congrArg (Value.int IntKind.u32) (this.trans ?_)
    rw [e, Nat.xor_comm]; rfl
theorem c_rSum (t : ByteArray) (ht : t.size ≤ 4611686018427387904) (s : PH) : DCalls Try.prog 39 #[.string t] s fun y s' => y = .int .u32 (sumB t : Int) ∧ s' = s := by
  refine ok_rSum t _ s ?_
  unfold vc_rSum
  simp only [RP_loop]
  refine ⟨fun z s' => ∃ i : Nat, z = ((((run t i : Nat) : Int), ()), ((i : Int), ()), ()) ∧ i ≤ t.size ∧ s' = s, fun z _ => t.size - z.2.1.1.toNat, ⟨0, rfl, Nat.zero_le _, rfl⟩, ?_⟩
  rintro _ s ⟨i, rfl, hi, rfl⟩
  simp only [RP_ite, W.br_iff, decide_eq_true_eq, decide_eq_false_iff_not, RP_guard, W.guard_iff, RP_loop, RP_ret]
  refine ⟨fun hlt => ⟨by omega, ?_⟩, fun hge => ?_⟩
  · have hlt : i < t.size := by omega
    obtain ⟨a, ha, ha2⟩ := getU t i hlt
    simp only [Int.toNat_natCast, ha2, byteI]
    have hb := a.toNat_lt
    rw [x32 (run_lt t i) (by omega)]
    have hx : run t i ^^^ a.toNat < 4294967296 := Nat.xor_lt_two_pow (n := 32) (run_lt t i) (by omega)
    refine ⟨fun z s' => ∃ k : Nat, z = (((Strip.crcBits k (run t i ^^^ a.toNat) : Int), ()), ((i : Int), ()), ((k : Int), ()), ()) ∧ k ≤ 8 ∧ s' = s, fun z _ => 8 - z.2.2.1.1.toNat, ⟨0, rfl, by omega, rfl⟩, ?_⟩
    rintro _ s ⟨k, rfl, hk, rfl⟩
    simp only [W.br_iff, decide_eq_true_eq, decide_eq_false_iff_not]
    have hbk := crcBits_lt k hx
    refine ⟨fun hk8 => ?_, fun hk8 => ?_⟩
    · obtain ⟨n, hn⟩ : ∃ n, Strip.crcBits k (run t i ^^^ a.toNat) = n := ⟨_, rfl⟩
      rw [hn] at hbk
      simp only [hn]
      have hm : Int.tmod (n : Int) 2 = ((n % 2 : Nat) : Int) := by rw [Int.tmod_eq_emod_of_nonneg (by omega)]; omega
      have hd : IntKind.u32.wrap (Int.tdiv (n : Int) 2) = ((n / 2 : Nat) : Int) := by
        rw [Int.tdiv_eq_ediv_of_nonneg (by omega), IntKind.wrap_u32]; omega
      rw [hm, hd, wrap_succ (k := k) (by omega)]
      have hs := crcBits_succ k (run t i ^^^ a.toNat)
      rw [hn] at hs
      refine ⟨fun h1 => ?_, fun h1 => ?_⟩
      · have h1 : ((n % 2 : Nat) : Int) = 1 := eq_of_beq h1
        have h1 : n % 2 = 1 := by omega
        have hx2 := x32 (a := n / 2) (b := 3988292384) (by omega) (by decide)
        refine ⟨⟨k + 1, ?_, by omega, by first | trivial | rfl⟩, by simp only [Int.toNat_natCast]; omega⟩
        rw [hs]
        unfold Strip.crcBit
        rw [if_pos h1]
        exact congrArg (fun x => ((x, ()), ((i : Int), ()), (((k + 1 : Nat) : Int), ()), ())) hx2
      · have h1 : n % 2 ≠ 1 := by
          intro e; rw [e] at h1; simp at h1
        refine ⟨⟨k + 1, ?_, by omega, by first | trivial | rfl⟩, by simp only [Int.toNat_natCast]; omega⟩
        rw [hs]
        unfold Strip.crcBit
        rw [if_neg h1]
    · have : k = 8 := by omega
      subst this
      have e : run t (i + 1) = Strip.crcBits 8 (run t i ^^^ a.toNat) := crcRun_succ ha
      rw [← e, wrap_succ (k := i) (by omega)]
      exact ⟨⟨i + 1, rfl, by omega, by first | trivial | rfl⟩, by simp only [Int.toNat_natCast]; omega⟩
  · have hie : i = t.size := by omega
    have e : run t i = (toL t).foldl Strip.crcByte 4294967295 := by
      unfold run; rw [List.take_of_length_le (by rw [toL_len]; omega)]
    have := x32 (a := run t i) (b := 4294967295) (run_lt t i) (by decide)
    refine ⟨?_, rfl⟩
    refine congrArg (Value.int IntKind.u32) (this.trans ?_)
    rw [e]; rfl
/-! ## four bytes -/
theorem b2s_four {s : PH} {r : Nat} {a b c d : UInt8} {va vb vc' vd : Int} {e : TypeId} (h : s r = some (.cells #[.int .u8 va, .int .u8 vb, .int .u8 vc', .int .u8 vd] e (0, 0))) (ha : va = a.toNat) (hb : vb = b.toNat) (hc : vc' = c.toNat) (hd : vd = d.toNat) {k : ByteArray → W.T}
    (hk : k (ofL [a, b, c, d]) s) : W.b2s (some (Addr.mk r 0 none)) 4 k s := by
  refine ⟨ofL [a, b, c, d], ⟨rfl, ?_⟩, hk⟩
  have hb2 : bytesOf (ofL [a, b, c, d]) = [.int .u8 a.toNat, .int .u8 b.toNat, .int .u8 c.toNat, .int .u8 d.toNat] := by
    unfold bytesOf
    have : (ofL [a, b, c, d]).data.toList = [a, b, c, d] := toL_ofL _
    rw [this]; rfl
  rw [hb2, ← ha, ← hb, ← hc, ← hd]
  have := has_block h
  simpa using this
theorem u8n (n : Nat) : IntKind.u8.wrap ((n : Nat) : Int) = (((UInt8.ofNat n).toNat : Nat) : Int) := by
  rw [IntKind.wrap_u8, UInt8.toNat_ofNat']; omega
theorem fdivn (n k : Nat) : Int.fdiv (n : Int) ((k : Nat) : Int) = ((n / k : Nat) : Int) := by
  rw [Int.fdiv_eq_ediv_of_nonneg _ (by omega)]; omega
theorem c_long (n : Nat) (s : PH) : DCalls Try.prog 47 #[.int .i64 (n : Int)] s fun y s' => y = .string (ofL (Strip.be4 n)) ∧ s' = s := by
  refine DCalls.quiet ?_
  refine ok_long n _ s ?_
  unfold vc_long
  simp only [RP_nw, RP_b2s, RP_ret]
  refine W.nw_of fun r s1 hr m1 k1 => ?_
  have f1 := fdivn n 16777216
  have f2 := fdivn n 65536
  have f3 := fdivn n 256
  refine b2s_four (a := UInt8.ofNat (n / 16777216)) (b := UInt8.ofNat (n / 65536)) (c := UInt8.ofNat (n / 256)) (d := UInt8.ofNat n) k1 ?_ ?_ ?_ (u8n n) ?_
  · exact (congrArg _ f1).trans (u8n _)
  · exact (congrArg _ f2).trans (u8n _)
  · exact (congrArg _ f3).trans (u8n _)
  · exact ⟨rfl, m1⟩
/-- a payload's record -/
def recB (t : ByteArray) : ByteArray := ofL (Strip.rec1 (toL t))
def putE (t : ByteArray) : ByteArray × Int := if 65536 < t.size then (⟨#[]⟩, 30) else (recB t, 0)
theorem crc_lt (l : List UInt8) : Strip.crc l < 4294967296 := Nat.xor_lt_two_pow (n := 32) (crcRun_lt l (by decide)) (by decide)
theorem ofL_app (a b : List UInt8) : ofL a ++ ofL b = ofL (a ++ b) := by apply toL_inj; rw [toL_append, toL_ofL, toL_ofL, toL_ofL]
theorem rec_eq (t : ByteArray) : ofL (Strip.be4 t.size) ++ ofL (Strip.le4 (sumB (ofL (Strip.be4 t.size) ++ t))) ++ t = recB t := by
  apply toL_inj
  unfold recB sumB
  rw [toL_append, toL_append, toL_ofL, toL_ofL, toL_ofL, toL_append, toL_ofL]
  unfold Strip.rec1 Strip.hd
  rw [toL_len]
theorem be4_size (n : Nat) : (ofL (Strip.be4 n)).size = 4 := ofL_size _
theorem le4_size (n : Nat) : (ofL (Strip.le4 n)).size = 4 := ofL_size _
theorem recB_size (t : ByteArray) : (recB t).size = 8 + t.size := by unfold recB; rw [ofL_size, Strip.rec_len, toL_len]
theorem c_Put (t : ByteArray) (s : PH) : DCalls Try.prog 42 #[.string t] s fun y s' => y = .tuple #[.string (putE t).1, .int .i64 (putE t).2] ∧ s' = s := by
  refine DCalls.quiet ?_
  refine ok_Put t _ s ?_
  unfold vc_Put
  simp only [RP_ite, W.br_iff, decide_eq_true_eq, decide_eq_false_iff_not, RP_ret, RP_call, RP_callQ, RP_guard, RP_nw, RP_b2s]
  refine ⟨fun h => ?_, fun h => ?_⟩
  · have : putE t = (⟨#[]⟩, 30) := by unfold putE; rw [if_pos (by omega)]
    rw [this]; exact ⟨rfl, Mod.refl _ _⟩
  have he : putE t = (recB t, 0) := by unfold putE; rw [if_neg (by omega)]
  rw [he]
  refine W.call_of (c_long t.size s) ?_
  rintro _ _ ⟨rfl, rfl⟩
  refine ⟨((ofL (Strip.be4 t.size), ()), ()), rfl, ?_⟩
  have hb4 := be4_size t.size
  refine ⟨by rw [hb4]; omega, ?_⟩
  refine W.call_of (c_Sum (ofL (Strip.be4 t.size) ++ t) (by rw [ByteArray.size_append, hb4]; omega) _) ?_
  rintro _ _ ⟨rfl, rfl⟩
  obtain ⟨x, hx⟩ : ∃ x, sumB (ofL (Strip.be4 t.size) ++ t) = x := ⟨_, rfl⟩
  rw [hx]
  refine ⟨(((x : Int), ()), ()), rfl, ?_⟩
  refine W.callQ_of ((ofL (Strip.be4 t.size), ()), ()) (c_long t.size _) rfl ?_
  refine W.nw_of fun r s1 hr m1 k1 => ?_
  have f1 := fdivn x 16777216
  have f2 := fdivn x 65536
  have f3 := fdivn x 256
  refine b2s_four (a := UInt8.ofNat x) (b := UInt8.ofNat (x / 256)) (c := UInt8.ofNat (x / 65536)) (d := UInt8.ofNat (x / 16777216)) k1 (u8n x) ?_ ?_ ?_ ?_
  · exact (congrArg _ f3).trans (u8n _)
  · exact (congrArg _ f2).trans (u8n _)
  · exact (congrArg _ f1).trans (u8n _)
  have hl4 := le4_size x
  refine ⟨by rw [hb4, show (ofL [UInt8.ofNat x, UInt8.ofNat (x / 256), UInt8.ofNat (x / 65536), UInt8.ofNat (x / 16777216)]).size = 4 from ofL_size _]; omega, ?_⟩
  refine ⟨by rw [ByteArray.size_append, hb4, show (ofL [UInt8.ofNat x, UInt8.ofNat (x / 256), UInt8.ofNat (x / 65536), UInt8.ofNat (x / 16777216)]).size = 4 from ofL_size _]; omega, ?_⟩
  refine ⟨?_, m1⟩
  have := rec_eq t
  rw [hx] at this
  rw [← this]; rfl
theorem c_rPut (t : ByteArray) (s : PH) : DCalls Try.prog 28 #[.string t] s fun y s' => y = .tuple #[.string (putE t).1, .int .i64 (putE t).2] ∧ s' = s := by
  refine DCalls.quiet ?_
  refine ok_rPut t _ s ?_
  unfold vc_rPut
  simp only [RP_ite, W.br_iff, decide_eq_true_eq, decide_eq_false_iff_not, RP_ret, RP_call, RP_callQ, RP_guard, RP_nw, RP_b2s]
  refine ⟨fun h => ?_, fun h => ?_⟩
  · have : putE t = (⟨#[]⟩, 30) := by unfold putE; rw [if_pos (by omega)]
    rw [this]; exact ⟨rfl, Mod.refl _ _⟩
  have he : putE t = (recB t, 0) := by unfold putE; rw [if_neg (by omega)]
  rw [he]
  have hn : t.size < 65537 := by omega
  have hb4 := be4_size t.size
  have td : ∀ (n k : Nat), n < 4294967296 → 0 < k → IntKind.u32.wrap (Int.tdiv (n : Int) ((k : Nat) : Int)) = ((n / k : Nat) : Int) := by
    intro n k h hk
    rw [Int.tdiv_eq_ediv_of_nonneg (by omega), ← Int.natCast_ediv]
    exact u32n (Nat.lt_of_le_of_lt (Nat.div_le_self _ _) h)
  have tm : ∀ (n : Nat), IntKind.u8.wrap (Int.tmod (n : Int) 256) = (((UInt8.ofNat n).toNat : Nat) : Int) := by
    intro n
    rw [Int.tmod_eq_emod_of_nonneg (by omega), IntKind.wrap_u8, UInt8.toNat_ofNat']; omega
  have hsz : IntKind.u32.wrap ((t.size : Nat) : Int) = (t.size : Int) := u32n (by omega)
  rw [hsz]
  refine W.nw_of fun r s1 hr m1 k1 => ?_
  refine b2s_four (a := UInt8.ofNat (t.size / 16777216)) (b := UInt8.ofNat (t.size / 65536)) (c := UInt8.ofNat (t.size / 256)) (d := UInt8.ofNat t.size) k1 ?_ ?_ ?_ (tm _) ?_
  · exact (congrArg _ (td t.size 16777216 (by omega) (by omega))).trans (u8n _)
  · exact (congrArg (fun x => IntKind.u8.wrap (Int.tmod x 256)) (td t.size 65536 (by omega) (by omega))).trans (tm _)
  · exact (congrArg (fun x => IntKind.u8.wrap (Int.tmod x 256)) (td t.size 256 (by omega) (by omega))).trans (tm _)
  have e4 : ofL [UInt8.ofNat (t.size / 16777216), UInt8.ofNat (t.size / 65536), UInt8.ofNat (t.size / 256), UInt8.ofNat t.size] = ofL (Strip.be4 t.size) := rfl
  rw [e4]
  refine ⟨by rw [hb4]; omega, ?_⟩
  refine W.call_of (c_rSum (ofL (Strip.be4 t.size) ++ t) (by rw [ByteArray.size_append, hb4]; omega) _) ?_
  rintro _ _ ⟨rfl, rfl⟩
  have hxl : sumB (ofL (Strip.be4 t.size) ++ t) < 4294967296 := crc_lt _
  obtain ⟨x, hx⟩ : ∃ x, sumB (ofL (Strip.be4 t.size) ++ t) = x := ⟨_, rfl⟩
  rw [hx] at hxl ⊢
  refine ⟨(((x : Int), ()), ()), rfl, ?_⟩
  refine W.nw_of fun r2 s2 hr2 m2 k2 => ?_
  refine b2s_four (a := UInt8.ofNat x) (b := UInt8.ofNat (x / 256)) (c := UInt8.ofNat (x / 65536)) (d := UInt8.ofNat (x / 16777216)) k2 (tm x) ?_ ?_ ?_ ?_
  · exact (congrArg (fun x => IntKind.u8.wrap (Int.tmod x 256)) (td x 256 (by omega) (by omega))).trans (tm _)
  · exact (congrArg (fun x => IntKind.u8.wrap (Int.tmod x 256)) (td x 65536 (by omega) (by omega))).trans (tm _)
  · exact (congrArg _ (td x 16777216 (by omega) (by omega))).trans (u8n _)
  refine ⟨by rw [hb4, show (ofL [UInt8.ofNat x, UInt8.ofNat (x / 256), UInt8.ofNat (x / 65536), UInt8.ofNat (x / 16777216)]).size = 4 from ofL_size _]; omega, ?_⟩
  refine ⟨by rw [ByteArray.size_append, hb4, show (ofL [UInt8.ofNat x, UInt8.ofNat (x / 256), UInt8.ofNat (x / 65536), UInt8.ofNat (x / 16777216)]).size = 4 from ofL_size _]; omega, ?_⟩
  refine ⟨?_, m1.trans m2⟩
  have := rec_eq t
  rw [hx] at this
  rw [← this]; rfl
end Go.Proofs.Ytcdggocbjnmeaaa
