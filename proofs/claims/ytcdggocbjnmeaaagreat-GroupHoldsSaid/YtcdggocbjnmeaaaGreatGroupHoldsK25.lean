/-
  Part 25 for the law: lemmas.
  Conditions: none.
-/
import Derived.Test.YtcdggocbjnmeaaaGreatGroupHoldsK24
set_option maxHeartbeats 4000000
set_option maxRecDepth 100000
set_option linter.unusedVariables false
set_option linter.unusedSimpArgs false
set_option linter.unusedSectionVars false
namespace Go.Proofs.YtcdggocbjnmeaaaGreat
open Fw Go Go.IntKind
section
attribute [-simp] Fw.W.ld_iff Fw.W.st_iff
theorem u32n {n : Nat} (h : n < 4294967296) : u32.wrap ((n : Nat) : Int) = (n : Int) := by rw [IntKind.wrap_u32]; omega
theorem ofI32 (n : Nat) (h : n < 4294967296) : (BitVec.ofInt 32 (n : Int)).toNat = n := by rw [BitVec.ofInt_natCast, BitVec.toNat_ofNat]; exact Nat.mod_eq_of_lt h
theorem x32 {a b : Nat} (ha : a < 4294967296) (hb : b < 4294967296) : u32.wrap ((BitVec.ofInt 32 (a : Int) ^^^ BitVec.ofInt 32 (b : Int)).toNat : Int) = ((a ^^^ b : Nat) : Int) := by
 rw [BitVec.toNat_xor, ofI32 a ha, ofI32 b hb]
 exact u32n (Nat.xor_lt_two_pow (n := 32) ha hb)
theorem a32 {a b : Nat} (ha : a < 4294967296) (hb : b < 4294967296) : u32.wrap ((BitVec.ofInt 32 (a : Int) &&& BitVec.ofInt 32 (b : Int)).toNat : Int) = ((a &&& b : Nat) : Int) := by
 rw [BitVec.toNat_and, ofI32 a ha, ofI32 b hb]
 exact u32n (Nat.and_lt_two_pow (n := 32) _ hb)
theorem crcBit_lt {n : Nat} (h : n < 4294967296) : Strip.crcBit n < 4294967296 := by
 unfold Strip.crcBit
 split
 ·exact Nat.xor_lt_two_pow (n := 32) (by omega) (by decide)
 ·omega
theorem stepP {n : Nat} (h : n < 4294967296) : u32.wrap ((BitVec.ofInt 32 (Int.fdiv (n : Int) 2) ^^^ BitVec.ofInt 32 (u32.wrap ((BitVec.ofInt 32 3988292384 &&& BitVec.ofInt 32 (u32.wrap (0 - u32.wrap ((BitVec.ofInt 32 (n : Int) &&& BitVec.ofInt 32 1).toNat : Int)))).toNat : Int))).toNat : Int) = (Strip.crcBit n : Int) := by
 have h1 : u32.wrap ((BitVec.ofInt 32 (n : Int) &&& BitVec.ofInt 32 1).toNat : Int) = ((n % 2 : Nat) : Int) := by
  have := a32 h (b := 1) (by decide)
  rw [Nat.and_one_is_mod] at this
  exact this
 have h2 : Int.fdiv (n : Int) 2 = ((n / 2 : Nat) : Int) := by rw [Int.fdiv_eq_ediv_of_nonneg _ (by omega)]; omega
 rw [h1, h2]
 unfold Strip.crcBit
 by_cases ho : n % 2 = 1
 ·rw [if_pos ho, ho]
  have h3 : u32.wrap (0 - ((1 : Nat) : Int)) = ((4294967295 : Nat) : Int) := by rw [IntKind.wrap_u32]; decide
  rw [h3]
  have h4 : u32.wrap ((BitVec.ofInt 32 3988292384 &&& BitVec.ofInt 32 ((4294967295 : Nat) : Int)).toNat : Int) = ((3988292384 : Nat) : Int) := by
   have := a32 (a := 3988292384) (b := 4294967295) (by decide) (by decide)
   rw [show (3988292384 &&& 4294967295 : Nat) = 3988292384 by decide] at this
   exact this
  rw [h4]
  exact x32 (by omega) (by decide)
 ·rw [if_neg ho]
  have h0 : n % 2 = 0 := by omega
  rw [h0]
  have h3 : u32.wrap (0 - ((0 : Nat) : Int)) = ((0 : Nat) : Int) := by rw [IntKind.wrap_u32]; decide
  rw [h3]
  have h4 : u32.wrap ((BitVec.ofInt 32 3988292384 &&& BitVec.ofInt 32 ((0 : Nat) : Int)).toNat : Int) = ((0 : Nat) : Int) := by
   have := a32 (a := 3988292384) (b := 0) (by decide) (by decide)
   rw [Nat.and_zero] at this
   exact this
  rw [h4]
  have := x32 (a := n / 2) (b := 0) (by omega) (by decide)
  rw [Nat.xor_zero] at this
  exact this
theorem crcBits_lt : ∀ (k : Nat) {n : Nat}, n < 4294967296 → Strip.crcBits k n < 4294967296
 | 0, n, h => h
 | k + 1, n, h => crcBits_lt k (crcBit_lt h)
theorem crcBits_succ : ∀ (k n : Nat), Strip.crcBits (k + 1) n = Strip.crcBit (Strip.crcBits k n)
 | 0, n => rfl
 | k + 1, n => by
  show Strip.crcBits (k + 1) (Strip.crcBit n) = _
  rw [crcBits_succ k]; (first | done | rfl)
theorem getU (t : ByteArray) (i : Nat) (h : i < t.size) : ∃ a, (toL t)[i]? = some a ∧ t[i]?.getD 0 = a := by
 refine ⟨t[i], ?_, ?_⟩
 ·show t.data.toList[i]? = some t.data[i]
  rw [Array.getElem?_toList]; exact Array.getElem?_eq_getElem h
 ·rw [getElem?_pos t i h]; (first | done | rfl)
theorem crcByte_lt {n : Nat} (h : n < 4294967296) (b : UInt8) : Strip.crcByte n b < 4294967296 := by
 have := b.toNat_lt
 exact crcBits_lt 8 (Nat.xor_lt_two_pow (n := 32) h (by omega))
theorem crcRun_lt : ∀ (l : List UInt8) {n : Nat}, n < 4294967296 → l.foldl Strip.crcByte n < 4294967296
 | [], n, h => h
 | b :: l, n, h => crcRun_lt l (crcByte_lt h b)
theorem crcRun_succ {l : List UInt8} {i : Nat} {a : UInt8} (h : l[i]? = some a) : (l.take (i + 1)).foldl Strip.crcByte 4294967295 = Strip.crcByte ((l.take i).foldl Strip.crcByte 4294967295) a := by
 rw [List.take_add_one, h]
 simp
abbrev run (t : ByteArray) (i : Nat) : Nat := ((toL t).take i).foldl Strip.crcByte 4294967295
theorem run_lt (t : ByteArray) (i : Nat) : run t i < 4294967296 := crcRun_lt _ (by decide)
theorem byteI (a : UInt8) : u32.wrap ((a.toNat : Nat) : Int) = ((a.toNat : Nat) : Int) := u32n (by have := a.toNat_lt; omega)
def sumB (t : ByteArray) : Nat := Strip.crc (toL t)
theorem c_Sum (t : ByteArray) (ht : t.size ≤ 4611686018427387904) (s : PH) : DCalls Tryz.prog 75 #[.string t] s fun y s' => y = .int .u32 (sumB t : Int) ∧ s' = s := by
 refine ok_Sum t _ s ?_
 unfold vc_Sum
 simp only [RP_loop]
 refine ⟨fun z s' => ∃ i : Nat, z = ((((run t i : Nat) : Int), ()), ((t.size : Int), ()), ((i : Int), ()), ()) ∧ i ≤ t.size ∧ s' = s, fun z _ => t.size - z.2.2.1.1.toNat, ⟨0, rfl, Nat.zero_le _, rfl⟩, ?_⟩
 rintro _ s ⟨i, rfl, hi, rfl⟩
 simp only [RP_ite, W.br_iff, decide_eq_true_eq, decide_eq_false_iff_not, RP_guard, W.guard_iff, RP_loop, RP_ret]
 refine ⟨fun hlt => ⟨by omega, ?_⟩, fun hge => ?_⟩
 ·have hlt : i < t.size := by omega
  obtain ⟨a, ha, ha2⟩ := getU t i hlt
  simp only [Int.toNat_natCast, ha2, byteI]
  have hb := a.toNat_lt
  rw [x32 (run_lt t i) (by omega)]
  have hx : run t i ^^^ a.toNat < 4294967296 := Nat.xor_lt_two_pow (n := 32) (run_lt t i) (by omega)
  refine ⟨fun z s' => ∃ k : Nat, z = (((Strip.crcBits k (run t i ^^^ a.toNat) : Int), ()), ((t.size : Int), ()), ((i : Int), ()), ((k : Int), ()), ()) ∧ k ≤ 8 ∧ s' = s, fun z _ => 8 - z.2.2.2.1.1.toNat, ⟨0, rfl, by omega, rfl⟩, ?_⟩
  rintro _ s ⟨k, rfl, hk, rfl⟩
  simp only [W.br_iff, decide_eq_true_eq, decide_eq_false_iff_not]
  refine ⟨fun hk8 => ?_, fun hk8 => ?_⟩
  ·rw [stepP (crcBits_lt k hx), wrap_succ (k := k) (by omega), ← crcBits_succ]
   exact ⟨⟨k + 1, rfl, by omega, by first | trivial | rfl⟩, by simp only [Int.toNat_natCast]; omega⟩
  ·have : k = 8 := by omega
   subst this
   have e : run t (i + 1) = Strip.crcBits 8 (run t i ^^^ a.toNat) := crcRun_succ ha
   rw [← e, wrap_succ (k := i) (by omega)]
   exact ⟨⟨i + 1, rfl, by omega, by first | trivial | rfl⟩, by simp only [Int.toNat_natCast]; omega⟩
 ·have hie : i = t.size := by omega
  have e : run t i = (toL t).foldl Strip.crcByte 4294967295 := by
   unfold run; rw [List.take_of_length_le (by rw [toL_len]; omega)]
  have := x32 (a := 4294967295) (b := run t i) (by decide) (run_lt t i)
  refine ⟨?_, rfl⟩
  refine congrArg (Value.int IntKind.u32) (this.trans ?_)
  rw [e, Nat.xor_comm]; (first | done | rfl)
theorem b2s_four {s : PH} {r : Nat} {a b c d : UInt8} {va vb vc' vd : Int} {e : TypeId} (h : s r = some (.cells #[.int .u8 va, .int .u8 vb, .int .u8 vc', .int .u8 vd] e (0, 0))) (ha : va = a.toNat) (hb : vb = b.toNat) (hc : vc' = c.toNat) (hd : vd = d.toNat) {k : ByteArray → W.T}
  (hk : k (ofL [a, b, c, d]) s) : W.b2s (some (Addr.mk r 0 none)) 4 k s := by
 refine ⟨ofL [a, b, c, d], ⟨rfl, ?_⟩, hk⟩
 have hb2 : bytesOf (ofL [a, b, c, d]) = [.int .u8 a.toNat, .int .u8 b.toNat, .int .u8 c.toNat, .int .u8 d.toNat] := by
  unfold bytesOf
  have : (ofL [a, b, c, d]).data.toList = [a, b, c, d] := toL_ofL _
  rw [this]; (first | done | rfl)
 rw [hb2, ← ha, ← hb, ← hc, ← hd]
 have := has_block h
 simpa using this
theorem u8n (n : Nat) : u8.wrap ((n : Nat) : Int) = (((UInt8.ofNat n).toNat : Nat) : Int) := by
 rw [IntKind.wrap_u8, UInt8.toNat_ofNat']; omega
theorem fdivn (n k : Nat) : Int.fdiv (n : Int) ((k : Nat) : Int) = ((n / k : Nat) : Int) := by
 rw [Int.fdiv_eq_ediv_of_nonneg _ (by omega)]; omega
theorem c_long (n : Nat) (s : PH) : DCalls Tryz.prog 76 #[.int .i64 (n : Int)] s fun y s' => y = .string (ofL (Strip.be4 n)) ∧ s' = s := by
 refine DCalls.quiet ?_
 refine ok_long n _ s ?_
 unfold vc_long
 simp only [RP_nw, RP_b2s, RP_ret]
 refine W.nw_of fun r s1 hr m1 k1 => ?_
 have f1 := fdivn n 16777216
 have f2 := fdivn n 65536
 have f3 := fdivn n 256
 refine b2s_four (a := UInt8.ofNat (n / 16777216)) (b := UInt8.ofNat (n / 65536)) (c := UInt8.ofNat (n / 256)) (d := UInt8.ofNat n) k1 ?_ ?_ ?_ (u8n n) ?_
 ·exact (congrArg _ f1).trans (u8n _)
 ·exact (congrArg _ f2).trans (u8n _)
 ·exact (congrArg _ f3).trans (u8n _)
 ·exact ⟨rfl, m1⟩
def recB (t : ByteArray) : ByteArray := ofL (Strip.rec1 (toL t))
def putE (t : ByteArray) : ByteArray × Int := if 65536 < t.size then (⟨#[]⟩, 30) else (recB t, 0)
theorem rec_eq (t : ByteArray) : ofL (Strip.be4 t.size) ++ ofL (Strip.le4 (sumB (ofL (Strip.be4 t.size) ++ t))) ++ t = recB t := by
 apply toL_inj
 unfold recB sumB
 rw [toL_append, toL_append, toL_ofL, toL_ofL, toL_ofL, toL_append, toL_ofL]
 unfold Strip.rec1 Strip.hd
 rw [toL_len]
theorem be4_size (n : Nat) : (ofL (Strip.be4 n)).size = 4 := ofL_size _
theorem le4_size (n : Nat) : (ofL (Strip.le4 n)).size = 4 := ofL_size _
theorem recB_size (t : ByteArray) : (recB t).size = 8 + t.size := by unfold recB; rw [ofL_size, Strip.rec_len, toL_len]
theorem c_Put (t : ByteArray) (s : PH) : DCalls Tryz.prog 51 #[.string t] s fun y s' => y = .tuple #[.string (putE t).1, .int .i64 (putE t).2] ∧ s' = s := by
 refine DCalls.quiet ?_
 refine ok_Put t _ s ?_
 unfold vc_Put
 simp only [RP_ite, W.br_iff, decide_eq_true_eq, decide_eq_false_iff_not, RP_ret, RP_call, RP_callQ, RP_guard, RP_nw, RP_b2s]
 refine ⟨fun h => ?_, fun h => ?_⟩
 ·have : putE t = (⟨#[]⟩, 30) := by unfold putE; rw [if_pos (by omega)]
  rw [this]; exact ⟨rfl, Mod.refl _ _⟩
 have he : putE t = (recB t, 0) := by unfold putE; rw [if_neg (by omega)]
 rw [he]
 refine W.call_of (c_long t.size s) ?_
 rintro _ _ ⟨rfl, rfl⟩
 refine ⟨((ofL (Strip.be4 t.size), ()), ()), rfl, ?_⟩
 have hb4 := be4_size t.size
 refine ⟨by rw [hb4]; omega, ?_⟩
 refine W.call_of (c_Sum (ofL (Strip.be4 t.size) ++ t) (by rw [ByteArray.size_append, hb4]; omega) _) ?_
 rintro _ _ ⟨rfl, rfl⟩
 obtain ⟨x, hx⟩ : ∃ x, sumB (ofL (Strip.be4 t.size) ++ t) = x := ⟨_, rfl⟩
 rw [hx]
 refine ⟨(((x : Int), ()), ()), rfl, ?_⟩
 refine W.callQ_of ((ofL (Strip.be4 t.size), ()), ()) (c_long t.size _) rfl ?_
 refine W.nw_of fun r s1 hr m1 k1 => ?_
 have f1 := fdivn x 16777216
 have f2 := fdivn x 65536
 have f3 := fdivn x 256
 refine b2s_four (a := UInt8.ofNat x) (b := UInt8.ofNat (x / 256)) (c := UInt8.ofNat (x / 65536)) (d := UInt8.ofNat (x / 16777216)) k1 (u8n x) ?_ ?_ ?_ ?_
 ·exact (congrArg _ f3).trans (u8n _)
 ·exact (congrArg _ f2).trans (u8n _)
 ·exact (congrArg _ f1).trans (u8n _)
 have hl4 := le4_size x
 refine ⟨by rw [hb4, show (ofL [UInt8.ofNat x, UInt8.ofNat (x / 256), UInt8.ofNat (x / 65536), UInt8.ofNat (x / 16777216)]).size = 4 from ofL_size _]; omega, ?_⟩
 refine ⟨by rw [ByteArray.size_append, hb4, show (ofL [UInt8.ofNat x, UInt8.ofNat (x / 256), UInt8.ofNat (x / 65536), UInt8.ofNat (x / 16777216)]).size = 4 from ofL_size _]; omega, ?_⟩
 refine ⟨?_, m1⟩
 have := rec_eq t
 rw [hx] at this
 rw [← this]; (first | done | rfl)
end
section
attribute [-simp] Fw.W.ld_iff Fw.W.st_iff
def strE : Enc ByteArray where
 sz := 1
 f b := [.string b]
 len _ := rfl
 one b v hv := by simp at hv; subst hv; (first | done | rfl)
 pos := by omega
theorem growS {s s0 : PH} {a : Option Addr} {n c : Nat} {xs : List ByteArray} {x : ByteArray} {K : Option Addr → Nat → Nat → W.T} (h : rowE strE s 9 a n c xs) (hf : ∀ g ∈ Fw.blk a, s0 g = none) (m0 : Fw.Mod [] s0 s)
  (hl : xs.length ≤ 1099511627776) (hK : ∀ a' c' s', rowE strE s' 9 a' (n + 1) c' (xs ++ [x]) → (∀ g ∈ Fw.blk a', s0 g = none) → Fw.Mod [] s0 s' → K a' (n + 1) c' s') :
  W.nw (.cells #[.string x] 9 (0, 0)) (fun r => W.app 9 1 16 [.string ⟨#[]⟩] a n c (Src.sl (some ⟨r, 0, none⟩) 1) K) s := by
 refine W.nw_of fun r s1 hr m1 k1 => ?_
 have hmax : maxLen = 9223372036854775807 := rfl
 have hn : n = xs.length := h.len
 refine app_rowE (E := strE) (h.mod m1 (by simp)) rfl (ys := [x]) (k := 1) (src_has (E := strE) (has_block k1) rfl) rfl rfl (by omega) (by omega) ?_
 intro a' c' s2 h' hm
 have m01 := m0.trans m1
 refine hK a' c' s2 h' ?_ ?_
 ·rcases hm with ⟨e, _⟩ | ⟨g, e, hg, _⟩
  ·rw [e]; exact hf
  ·intro g' hg'
   rw [e] at hg'
   have : g' = g := by simpa [Fw.blk] using hg'
   subst this
   exact m01.none hg (by simp)
 ·rcases hm with ⟨_, hm⟩ | ⟨_, _, _, hm⟩
  ·exact m01.fresh hm fun x hx => .inr (hf x hx)
  ·exact m01.trans hm
theorem ofI64 (n : Nat) (h : n < 18446744073709551616) : (BitVec.ofInt 64 (n : Int)).toNat = n := by rw [BitVec.ofInt_natCast, BitVec.toNat_ofNat]; exact Nat.mod_eq_of_lt h
theorem i64n {n : Nat} (h : n < 9223372036854775808) : i64.wrap ((n : Nat) : Int) = (n : Int) := wrap_in (by omega) (by omega)
theorem o64 {a b : Nat} (ha : a < 4294967296) (hb : b < 4294967296) : i64.wrap ((BitVec.ofInt 64 (a : Int) ||| BitVec.ofInt 64 (b : Int)).toNat : Int) = ((a ||| b : Nat) : Int) := by
 rw [BitVec.toNat_or, ofI64 a (by omega), ofI64 b (by omega)]
 have := Nat.or_lt_two_pow (n := 32) ha hb
 exact i64n (by omega)
theorem or_add {k x y : Nat} (h : y < 2 ^ k) : 2 ^ k * x ||| y = 2 ^ k * x + y := (Nat.two_pow_add_eq_or_of_lt h x).symm
theorem decP (b0 b1 b2 b3 : UInt8) : i64.wrap ((BitVec.ofInt 64 (i64.wrap ((BitVec.ofInt 64 (i64.wrap ((BitVec.ofInt 64 (i64.wrap (i64.wrap ((b0.toNat : Nat) : Int) * 16777216)) ||| BitVec.ofInt 64 (i64.wrap (i64.wrap ((b1.toNat : Nat) : Int) * 65536))).toNat : Int)) |||
  BitVec.ofInt 64 (i64.wrap (i64.wrap ((b2.toNat : Nat) : Int) * 256))).toNat : Int)) ||| BitVec.ofInt 64 (i64.wrap ((b3.toNat : Nat) : Int))).toNat : Int) = ((((b0.toNat * 256 + b1.toNat) * 256 + b2.toNat) * 256 + b3.toNat : Nat) : Int) := by
 have h0 := b0.toNat_lt
 have h1 := b1.toNat_lt
 have h2 := b2.toNat_lt
 have h3 := b3.toNat_lt
 rw [i64n (n := b0.toNat) (by omega), i64n (n := b1.toNat) (by omega), i64n (n := b2.toNat) (by omega), i64n (n := b3.toNat) (by omega)]
 have e0 : ((b0.toNat : Nat) : Int) * 16777216 = ((b0.toNat * 16777216 : Nat) : Int) := by omega
 have e1 : ((b1.toNat : Nat) : Int) * 65536 = ((b1.toNat * 65536 : Nat) : Int) := by omega
 have e2 : ((b2.toNat : Nat) : Int) * 256 = ((b2.toNat * 256 : Nat) : Int) := by omega
 rw [e0, e1, e2, i64n (n := b0.toNat * 16777216) (by omega), i64n (n := b1.toNat * 65536) (by omega), i64n (n := b2.toNat * 256) (by omega)]
 rw [o64 (by omega) (by omega)]
 have f1 : b0.toNat * 16777216 ||| b1.toNat * 65536 = (b0.toNat * 256 + b1.toNat) * 65536 := by
  have := or_add (k := 24) (x := b0.toNat) (y := b1.toNat * 65536) (by omega)
  rw [show (2 : Nat) ^ 24 = 16777216 by decide] at this
  rw [Nat.mul_comm b0.toNat, this]; omega
 rw [f1, o64 (by omega) (by omega)]
 have f2 : (b0.toNat * 256 + b1.toNat) * 65536 ||| b2.toNat * 256 = ((b0.toNat * 256 + b1.toNat) * 256 + b2.toNat) * 256 := by
  have := or_add (k := 16) (x := b0.toNat * 256 + b1.toNat) (y := b2.toNat * 256) (by omega)
  rw [show (2 : Nat) ^ 16 = 65536 by decide] at this
  rw [Nat.mul_comm (b0.toNat * 256 + b1.toNat) 65536, this]; omega
 rw [f2, o64 (by omega) (by omega)]
 have f3 : ((b0.toNat * 256 + b1.toNat) * 256 + b2.toNat) * 256 ||| b3.toNat = ((b0.toNat * 256 + b1.toNat) * 256 + b2.toNat) * 256 + b3.toNat := by
  have := or_add (k := 8) (x := (b0.toNat * 256 + b1.toNat) * 256 + b2.toNat) (y := b3.toNat) (by omega)
  rw [show (2 : Nat) ^ 8 = 256 by decide] at this
  rw [Nat.mul_comm _ 256, this]
 rw [f3]
theorem dec_at {l : List UInt8} {a b c d : UInt8} (h0 : l[0]? = some a) (h1 : l[1]? = some b) (h2 : l[2]? = some c) (h3 : l[3]? = some d) : Strip.dec l = ((a.toNat * 256 + b.toNat) * 256 + c.toNat) * 256 + d.toNat := by
 match l with
 | [] => simp at h0
 | [_] => simp at h1
 | [_, _] => simp at h2
 | [_, _, _] => simp at h3
 | w :: x :: y :: z :: l =>
  simp at h0 h1 h2 h3
  subst h0 h1 h2 h3
  first | done | rfl
theorem ext_drop (t : ByteArray) (i j : Nat) : toL (t.extract i j) = ((toL t).drop i).take (j - i) := by rw [toL_extract] <;> rfl
def FirstIs (t : ByteArray) (y : Value) : Prop := ∃ p, y = .tuple #[.string p, .bool (Strip.first (toL t)).isSome] ∧ ∀ q, Strip.first (toL t) = some q → p = ofL q
theorem c_first (t : ByteArray) (ht : t.size ≤ 1099511627776) (s : PH) : DCalls Tryz.prog 80 #[.string t] s fun y s' => FirstIs t y ∧ s' = s := by
 refine ok_first t _ s ?_
 unfold vc_first
 obtain ⟨R, hR⟩ : ∃ R : Value → PH → Prop, (fun y s' => FirstIs t y ∧ s' = s) = R := ⟨_, rfl⟩
 rw [hR]
 simp only [RP_ite, W.br_iff, decide_eq_true_eq, decide_eq_false_iff_not, RP_ret, RP_call, RP_guard]
 have hno : Strip.first (toL t) = none → R (.tuple #[.string ⟨#[]⟩, .bool false]) s := fun e => by
  rw [← hR]
  exact ⟨⟨⟨#[]⟩, by rw [e]; (first | done | rfl), fun q hq => by rw [e] at hq; cases hq⟩, rfl⟩
 have hlen := toL_len t
 refine ⟨fun h => hno ?_, fun h => ?_⟩
 ·unfold Strip.first; rw [if_pos (by omega)]
 have h8 : 8 ≤ t.size := by omega
 refine ⟨by omega, by omega, by omega, by omega, ?_⟩
 obtain ⟨b0, g0, k0⟩ := getU t 0 (by omega)
 obtain ⟨b1, g1, k1⟩ := getU t 1 (by omega)
 obtain ⟨b2, g2, k2⟩ := getU t 2 (by omega)
 obtain ⟨b3, g3, k3⟩ := getU t 3 (by omega)
 rw [k0, k1, k2, k3, decP]
 have hdec := dec_at g0 g1 g2 g3
 have h0 := b0.toNat_lt
 have h1 := b1.toNat_lt
 have h2 := b2.toNat_lt
 have h3 := b3.toNat_lt
 rw [← hdec]
 obtain ⟨n, hn⟩ : ∃ n, Strip.dec (toL t) = n := ⟨_, rfl⟩
 have hnb : n < 4294967296 := by rw [← hn, hdec]; omega
 rw [hn]
 have hw8 : i64.wrap ((t.size : Int) - 8) = ((t.size - 8 : Nat) : Int) := by rw [wrap_in (by omega) (by omega)]; omega
 have hw9 : i64.wrap (8 + (n : Int)) = ((8 + n : Nat) : Int) := by rw [wrap_in (by omega) (by omega)]; omega
 rw [hw8, hw9]
 have hf : Strip.first (toL t) = if 65536 < n ∨ t.size < 8 + n then none else if Strip.rec1 (((toL t).drop 8).take n) = (toL t).take (8 + n) then some (((toL t).drop 8).take n) else none := by
  unfold Strip.first
  rw [hn, hlen, if_neg (by omega)]
 refine (W.br_iff _ _ _ _).2 ⟨fun hb => hno ?_, fun hb => (W.br_iff _ _ _ _).2 ⟨fun hb2 => hno ?_, fun hb2 => ?_⟩⟩
 ·have hb := of_decide_eq_true hb
  rw [hf, if_pos (.inl (by omega))]
 ·have hb2 := of_decide_eq_true hb2
  rw [hf, if_pos (.inr (by omega))]
 have hb := of_decide_eq_false hb
 have hb2 := of_decide_eq_false hb2
 rw [if_neg (by omega)] at hf
 refine ⟨by omega, ?_⟩
 simp only [Int.toNat_natCast]
 have hp : toL (t.extract 8 (8 + n)) = ((toL t).drop 8).take n := by rw [ext_drop, Nat.add_sub_cancel_left]
 have hps : (t.extract 8 (8 + n)).size = n := by rw [ByteArray.size_extract]; omega
 have hput : putE (t.extract 8 (8 + n)) = (recB (t.extract 8 (8 + n)), 0) := by unfold putE; rw [if_neg (by omega)]
 refine W.call_of (c_Put (t.extract 8 (8 + n)) s) ?_
 rintro _ _ ⟨rfl, rfl⟩
 rw [hput]
 refine ⟨((recB (t.extract 8 (8 + n)), ()), (0, ()), ()), rfl, ?_⟩
 refine ⟨by omega, by omega, ?_⟩
 rw [toList_beq, ← hR]
 have hiff : (recB (t.extract 8 (8 + n)) = t.extract 0 (8 + n)) ↔ Strip.rec1 (((toL t).drop 8).take n) = (toL t).take (8 + n) := by
  unfold recB
  rw [hp]
  constructor
  ·intro e; rw [← toL_take, ← e, toL_ofL]
  ·intro e; apply toL_inj; rw [toL_ofL, toL_take, e]
 refine ⟨⟨t.extract 8 (8 + n), ?_, ?_⟩, rfl⟩
 ·rw [hf]
  by_cases he : Strip.rec1 (((toL t).drop 8).take n) = (toL t).take (8 + n)
  ·rw [if_pos he, decide_eq_true (hiff.2 he)]; (first | done | rfl)
  ·rw [if_neg he, decide_eq_false (fun e => he (hiff.1 e))]; (first | done | rfl)
 ·intro q hq
  rw [hf] at hq
  split at hq
  ·have := Option.some.inj hq
   rw [← this, ← hp, ofL_toL]
  ·cases hq
def ScanIs (t : ByteArray) (s : PH) (y : Value) (s' : PH) : Prop := ∃ a c, y = .tuple #[.slice a (scanB t).1.length c, .int .i64 ((scanB t).2 : Int)] ∧ rowE strE s' 9 a (scanB t).1.length c (scanB t).1 ∧ (∀ g ∈ Fw.blk a, s g = none) ∧ Fw.Mod [] s s'
theorem first_le {l p : List UInt8} (h : Strip.first l = some p) : 8 + p.length ≤ l.length := by
 obtain ⟨_, x, rfl⟩ := Strip.first_some h
 rw [List.length_append, Strip.rec_len]; omega
theorem scan_step {t : ByteArray} {k : Nat} {done : List ByteArray} (hdone : scanB t = (done ++ (Strip.scan ((toL t).drop k)).1.map ofL, k + (Strip.scan ((toL t).drop k)).2)) :
  (∀ p, Strip.first ((toL t).drop k) = some p → scanB t = ((done ++ [ofL p]) ++ (Strip.scan ((toL t).drop (k + (8 + p.length)))).1.map ofL, (k + (8 + p.length)) + (Strip.scan ((toL t).drop (k + (8 + p.length)))).2)) ∧
  (Strip.first ((toL t).drop k) = none → scanB t = (done, k)) := by
 refine ⟨fun p hp => ?_, fun hn => ?_⟩
 ·rw [hdone, Strip.scan_some hp, List.drop_drop]
  simp [Nat.add_assoc]
 ·rw [hdone, Strip.scan_none hn]; simp
theorem c_Scan (t : ByteArray) (ht : t.size ≤ 1099511627776) (s : PH) : DCalls Tryz.prog 53 #[.string t] s (ScanIs t s) := by
 refine ok_Scan t _ s ?_
 unfold vc_Scan
 obtain ⟨R, hR⟩ : ∃ R, ScanIs t s = R := ⟨_, rfl⟩
 rw [hR]
 simp only [RP_ite, RP_ret, RP_call, RP_guard, RP_loop, RP_nw, RP_app]
 have hlen := toL_len t
 refine ⟨fun z s' => ∃ (k n c : Nat) (a : Option Addr) (done : List ByteArray), z = (((a, n, c), ()), ((k : Int), ()), ()) ∧ k ≤ t.size ∧ 8 * n ≤ k ∧ rowE strE s' 9 a n c done ∧ (∀ g ∈ Fw.blk a, s g = none) ∧ Fw.Mod [] s s' ∧ scanB t = (done ++ (Strip.scan ((toL t).drop k)).1.map ofL, k + (Strip.scan ((toL t).drop k)).2),
  fun z _ => t.size - z.2.1.1.toNat, ⟨0, 0, 0, none, [], rfl, Nat.zero_le _, Nat.le_refl _, rowE.nil, by simp [Fw.blk], Mod.refl _ _, by simp [scanB]⟩, ?_⟩
 rintro _ s1 ⟨k, n, c, a, done, rfl, hk, hnk, hrow, hf, m1, hdone⟩
 obtain ⟨st1, st2⟩ := scan_step hdone
 have hn : n = done.length := hrow.len
 dsimp only
 refine (W.guard_iff _ _ _).2 ⟨by omega, ?_⟩
 simp only [Int.toNat_natCast]
 have hx : toL (t.extract k t.size) = (toL t).drop k := by
  rw [ext_drop, List.take_of_length_le (by rw [List.length_drop]; omega)]
 refine W.call_of (c_first (t.extract k t.size) (by rw [ByteArray.size_extract]; omega) s1) ?_
 rintro _ _ ⟨⟨p, rfl, hp⟩, rfl⟩
 rw [hx] at hp ⊢
 refine ⟨((p, ()), ((Strip.first ((toL t).drop k)).isSome, ()), ()), rfl, ?_⟩
 cases hfi : Strip.first ((toL t).drop k) with
 | none =>
  refine (W.br_iff _ _ _ _).2 ⟨fun _ => ?_, fun e => by (have e : (!(none : Option (List UInt8)).isSome) = false := e; cases e)⟩
  have e := st2 hfi
  rw [← hR]
  refine ⟨a, c, by rw [e, ← hn], by rw [e, ← hn]; exact hrow, hf, m1⟩
 | some q =>
  refine (W.br_iff _ _ _ _).2 ⟨fun e => by (have e : (!(some q : Option (List UInt8)).isSome) = true := e; cases e), fun _ => ?_⟩
  have hpq := hp q hfi
  subst hpq
  have hle := first_le hfi
  rw [List.length_drop, hlen] at hle
  refine growS (x := ofL q) hrow hf m1 (by omega) ?_
  intro a' c' s' h' hf' m'
  have hz : (ofL q).size = q.length := ofL_size q
  have hw : i64.wrap ((k : Int) + i64.wrap (8 + ((ofL q).size : Int))) = ((k + (8 + q.length) : Nat) : Int) := by
   rw [hz, wrap_in (n := 8 + (q.length : Int)) (by omega) (by omega), wrap_in (by omega) (by omega)]; omega
  dsimp only
  rw [hw]
  refine ⟨⟨k + (8 + q.length), n + 1, c', a', done ++ [ofL q], rfl, by omega, by omega, h', hf', m', st1 q hfi⟩, by simp only [Int.toNat_natCast]; omega⟩
theorem c_Same {s : PH} {a b : Option Addr} {n c m d : Nat} {l k : List ByteArray} (h : elems (Rd.enc strE) s a n l) (h' : elems (Rd.enc strE) s b m k) (hl : l.length ≤ 1099511627776) (hk : k.length ≤ 1099511627776) :
  DCalls Tryz.prog 21 #[.slice a n c, .slice b m d] s fun y s' => y = .bool (decide (l = k)) ∧ s' = s := by
 refine ok_Same a n c b m d _ s ?_
 unfold vc_Same
 have hn : n = l.length := h.1
 have hm : m = k.length := h'.1
 simp only [RP_ite, RP_ret, RP_guard, RP_loop, RP_unSome, RP_ld]
 refine (W.br_iff _ _ _ _).2 ⟨fun e => ?_, fun e => ?_⟩
 ·have e : (((n : Nat) : Int) != ((m : Nat) : Int)) = true := e
  refine ⟨?_, rfl⟩
  rw [decide_eq_false]
  intro hlk
  rw [hn, hm, hlk] at e
  simp at e
 ·have e : (((n : Nat) : Int) != ((m : Nat) : Int)) = false := e
  have hnm : n = m := by
   have : ((n : Nat) : Int) = (m : Int) := by simpa using e
   omega
  refine ⟨fun z s' => ∃ i : Nat, z = (((i : Int), ()), ()) ∧ i ≤ n ∧ l.take i = k.take i ∧ s' = s, fun z _ => n - z.1.1.toNat, ⟨0, rfl, Nat.zero_le _, by simp, rfl⟩, ?_⟩
  rintro _ s ⟨i, rfl, hi, he, rfl⟩
  refine (W.br_iff _ _ _ _).2 ⟨fun hlt => ?_, fun hge => ?_⟩
  ·have hlt : (i : Int) < (n : Int) := of_decide_eq_true hlt
   obtain ⟨x, hx⟩ : ∃ x, l[i]? = some x := ⟨_, List.getElem?_eq_getElem (by omega)⟩
   obtain ⟨y, hy⟩ : ∃ y, k[i]? = some y := ⟨_, List.getElem?_eq_getElem (by omega)⟩
   obtain ⟨ad, rfl, hh⟩ := h.at_enc hx
   obtain ⟨ad', rfl, hh'⟩ := h'.at_enc hy
   dsimp only
   refine (W.guard_iff _ _ _).2 ⟨by omega, ?_⟩
   simp only [W.unSome_some, Int.toNat_natCast]
   refine ld_has_z hh (cs := [.str]) (y := (x, ())) rfl ?_
   refine (W.guard_iff _ _ _).2 ⟨by omega, ?_⟩
   refine ⟨ad', rfl, ?_⟩
   refine ld_has_z hh' (cs := [.str]) (y := (y, ())) rfl ?_
   dsimp only
   rw [toList_beq]
   refine (W.br_iff _ _ _ _).2 ⟨fun e => ⟨?_, rfl⟩, fun e => ?_⟩
   ·simp only [Bool.not_eq_true', decide_eq_false_iff_not] at e
    rw [decide_eq_false]
    intro hlk
    rw [hlk, hy] at hx
    exact e (Option.some.inj hx).symm
   ·simp only [Bool.not_eq_false', decide_eq_true_eq] at e
    rw [wrap_succ (k := i) (by omega)]
    refine ⟨⟨i + 1, rfl, by omega, by rw [List.take_add_one, List.take_add_one, he, hx, hy, e], rfl⟩, by simp only [Int.toNat_natCast]; omega⟩
  ·have hge : ¬ (i : Int) < (n : Int) := of_decide_eq_false hge
   refine ⟨?_, rfl⟩
   rw [List.take_of_length_le (by omega), List.take_of_length_le (by omega)] at he
   rw [decide_eq_true he]
end
section
attribute [-simp] Fw.W.ld_iff Fw.W.st_iff
def zz (n : Int) : Nat := (if n < 0 then -2 * n - 1 else 2 * n).toNat
def digs : Nat → Nat → List UInt8
 | 0, z => [UInt8.ofNat z]
 | f + 1, z => if z ≥ 128 then UInt8.ofNat (z % 128 + 128) :: digs f (z / 128) else [UInt8.ofNat z]
theorem digs_ge {f x : Nat} (h : x ≥ 128) : digs (f + 1) x = UInt8.ofNat (x % 128 + 128) :: digs f (x / 128) := by rw [digs, if_pos h]
theorem digs_lt {f x : Nat} (h : x < 128) : digs f x = [UInt8.ofNat x] := by
 cases f with
 | zero => rfl
 | succ f => rw [digs, if_neg (by omega)]
theorem digs_len : ∀ (f z : Nat), (digs f z).length ≤ f + 1
 | 0, z => by simp [digs]
 | f + 1, z => by unfold digs; split; simp; exact digs_len f _; simp
def encN (n : Int) : List UInt8 := digs 9 (zz n)
def I64 (n : Int) : Prop := -9223372036854775808 ≤ n ∧ n < 9223372036854775808
theorem encN_len (n : Int) : (encN n).length ≤ 10 := digs_len 9 _
theorem zz_lt {n : Int} (h : I64 n) : zz n < 18446744073709551616 := by unfold I64 at h; unfold zz; split <;> omega
theorem w_u64 (n : Int) : u64.wrap n = n % 18446744073709551616 := by simp [IntKind.wrap, IntKind.bits, IntKind.signed]
theorem u64_in {x : Int} (h0 : 0 ≤ x) (h : x < 18446744073709551616) : u64.wrap x = x := by rw [w_u64]; omega
theorem u8_in {x : Int} (h0 : 0 ≤ x) (h : x < 256) : u8.wrap x = x := by rw [IntKind.wrap_u8]; omega
theorem xor_ones (a : Nat) (h : a < 18446744073709551616) : (BitVec.ofInt 64 (a : Int) ^^^ BitVec.ofInt 64 (18446744073709551615 : Int)).toNat = 18446744073709551615 - a := by
 have : BitVec.ofInt 64 (18446744073709551615 : Int) = BitVec.allOnes 64 := by decide
 rw [this, BitVec.xor_allOnes, BitVec.toNat_not, ofI64 a h]
theorem xor_zero (a : Nat) (h : a < 18446744073709551616) : (BitVec.ofInt 64 (a : Int) ^^^ BitVec.ofInt 64 (0 : Int)).toNat = a := by
 have : BitVec.ofInt 64 (0 : Int) = 0#64 := by decide
 rw [this, BitVec.xor_zero, ofI64 a h]
theorem zz_prog {n : Int} (h : I64 n) : u64.wrap (((BitVec.ofInt 64 (u64.wrap (u64.wrap n * 2)) ^^^ BitVec.ofInt 64 (u64.wrap (n.fdiv 9223372036854775808))).toNat : Nat) : Int) = (zz n : Int) := by
 unfold I64 at h
 by_cases hn : n < 0
 ·have e1 : n.fdiv 9223372036854775808 = -1 := by rw [Int.fdiv_eq_ediv_of_nonneg _ (by omega)]; omega
  have e2 : u64.wrap (-1) = 18446744073709551615 := by decide
  have e3 : u64.wrap (u64.wrap n * 2) = ((2 * n + 18446744073709551616).toNat : Int) := by rw [w_u64, w_u64]; omega
  rw [e1, e2, e3, xor_ones _ (by omega)]
  unfold zz
  rw [if_pos hn, u64_in (by omega) (by omega)]
  omega
 ·have e1 : n.fdiv 9223372036854775808 = 0 := by rw [Int.fdiv_eq_ediv_of_nonneg _ (by omega)]; omega
  have e2 : u64.wrap 0 = 0 := by decide
  have e3 : u64.wrap (u64.wrap n * 2) = ((2 * n).toNat : Int) := by rw [w_u64, w_u64]; omega
  rw [e1, e2, e3, xor_zero _ (by omega)]
  unfold zz
  rw [if_neg hn, u64_in (by omega) (by omega)]
theorem zz_back {n : Int} (h : I64 n) : i64.wrap (((BitVec.ofInt 64 (i64.wrap ((zz n : Int).fdiv 2)) ^^^ BitVec.ofInt 64 (i64.wrap (0 - i64.wrap (u64.wrap ((BitVec.ofInt 64 (zz n : Int) &&& BitVec.ofInt 64 (1 : Int)).toNat : Int))))).toNat : Nat) : Int) = n := by
 have hz := zz_lt h
 have ea : (BitVec.ofInt 64 (zz n : Int) &&& BitVec.ofInt 64 (1 : Int)).toNat = zz n % 2 := by
  rw [BitVec.toNat_and, ofI64 _ hz]
  have : (BitVec.ofInt 64 (1 : Int)).toNat = 1 := by decide
  rw [this, Nat.and_one_is_mod]
 rw [ea]
 have ed : ((zz n : Int)).fdiv 2 = ((zz n / 2 : Nat) : Int) := by rw [Int.fdiv_eq_ediv_of_nonneg _ (by omega)]; omega
 rw [ed]
 have hi : i64.wrap ((zz n / 2 : Nat) : Int) = ((zz n / 2 : Nat) : Int) := i64n (by omega)
 rw [hi]
 have hu : i64.wrap (u64.wrap ((zz n % 2 : Nat) : Int)) = ((zz n % 2 : Nat) : Int) := by rw [u64_in (by omega) (by omega)]; exact i64n (by omega)
 rw [hu]
 unfold I64 at h
 by_cases hn : n < 0
 ·have e1 : zz n % 2 = 1 := by unfold zz; rw [if_pos hn]; omega
  have e2 : zz n / 2 = (-n - 1).toNat := by unfold zz; rw [if_pos hn]; omega
  rw [e1]
  have e3 : BitVec.ofInt 64 (i64.wrap (0 - ((1 : Nat) : Int))) = BitVec.ofInt 64 (18446744073709551615 : Int) := by decide
  rw [e3, xor_ones _ (by omega), e2, IntKind.wrap_i64]
  omega
 ·have e1 : zz n % 2 = 0 := by unfold zz; rw [if_neg hn]; omega
  have e2 : zz n / 2 = n.toNat := by unfold zz; rw [if_neg hn]; omega
  rw [e1]
  have e3 : BitVec.ofInt 64 (i64.wrap (0 - ((0 : Nat) : Int))) = BitVec.ofInt 64 (0 : Int) := by decide
  rw [e3, xor_zero _ (by omega), e2, IntKind.wrap_i64]
  omega
theorem acc_step {acc i y : Nat} {x : Int} (hx : 0 ≤ x) (hx2 : x < 256) (ha : acc < 2 ^ i) (hi : i ≤ 63) (hy : x % 128 = y) (hb : acc + 2 ^ i * y < 18446744073709551616) :
  u64.wrap (((BitVec.ofInt 64 (acc : Int) ||| BitVec.ofInt 64 (u64.wrap (u64.wrap (u8.wrap ((BitVec.ofInt 8 x &&& BitVec.ofInt 8 (127 : Int)).toNat : Int)) * (2 : Int) ^ min (i : Int).toNat 64))).toNat : Nat) : Int) = ((acc + 2 ^ i * y : Nat) : Int) := by
 obtain ⟨k, rfl⟩ : ∃ k : Nat, x = (k : Int) := ⟨x.toNat, by omega⟩
 have ea : (BitVec.ofInt 8 (k : Int) &&& BitVec.ofInt 8 (127 : Int)).toNat = y := by
  rw [BitVec.toNat_and, BitVec.ofInt_natCast, BitVec.toNat_ofNat]
  have : (BitVec.ofInt 8 (127 : Int)).toNat = 2 ^ 7 - 1 := by decide
  rw [this, Nat.and_two_pow_sub_one_eq_mod]
  omega
 have hy' : y < 128 := by omega
 rw [ea, u8_in (by omega) (by omega), u64_in (x := (y : Int)) (by omega) (by omega)]
 have em : min (i : Int).toNat 64 = i := by omega
 rw [em]
 have ep : (y : Int) * (2 : Int) ^ i = ((2 ^ i * y : Nat) : Int) := by push_cast; rw [Int.mul_comm]
 have hp : 2 ^ i * y < 18446744073709551616 := by omega
 rw [ep, u64_in (x := ((2 ^ i * y : Nat) : Int)) (by omega) (by omega)]
 rw [BitVec.toNat_or, ofI64 _ (by omega), ofI64 _ hp, Nat.or_comm, or_add ha, Nat.add_comm]
 exact u64_in (by omega) (by omega)
end
section
attribute [-simp] Fw.W.ld_iff Fw.W.st_iff
def u8E : Enc UInt8 where
 sz := 1
 f b := [.int .u8 (b.toNat : Int)]
 len _ := rfl
 one p v hv := by simp at hv; subst hv; (first | done | rfl)
 pos := by omega
def BytesAt (s : PH) (g : List Nat) (a : Option Addr) (n : Nat) (l : List UInt8) : Prop :=
 n = l.length ∧ ∀ i x, l[i]? = some x → ∃ ad, a = some ad ∧ ad.block ∈ g ∧ s.cell? (ad.add i) = some (.int .u8 (x.toNat : Int))
abbrev codO (a : Option Addr) (n cp : Nat) (rd : Bool) : Obj := .cells #[.slice a n cp, .bool rd, .bool false] 173 (0, 0)
structure CodI (s : PH) (c : Nat) (rd : Bool) (g : List Nat) (bs : List UInt8) (a : Option Addr) (n cp : Nat) : Prop where
 cell : s c = some (codO a n cp rd)
 ng : c ∉ g
 len : bs.length ≤ 1099511627776
 rds : rd = true → BytesAt s g a n bs ∧ n ≤ cp
 wrs : rd = false → rowE u8E s 5 a n cp bs ∧ ∀ x ∈ Fw.blk a, x ∈ g
 known : ∀ x ∈ g, s x ≠ none
def Cod (s : PH) (c : Nat) (rd : Bool) (g : List Nat) (bs : List UInt8) : Prop := ∃ a n cp, CodI s c rd g bs a n cp
abbrev cptr (c : Nat) : Value := .pointer (some ⟨c, 0, none⟩)
theorem add_blk (ad : Addr) (i : Nat) : (ad.add i).block = ad.block := add_block ad i
theorem cell_mod {s s' : PH} {L : List Nat} {ad : Addr} {v : Value} (h : s.cell? ad = some v) (hm : Fw.Mod L s s') (hn : ad.block ∉ L) : s'.cell? ad = some v := by
 unfold PH.cell? at h ⊢
 cases hb : s ad.block with
 | none => rw [hb] at h; cases h
 | some o => rw [hm.at hb hn]; rw [hb] at h; exact h
theorem BytesAt.mod {s s' : PH} {L g : List Nat} {a : Option Addr} {n : Nat} {l : List UInt8} (h : BytesAt s g a n l) (hm : Fw.Mod L s s') (hn : ∀ x ∈ g, x ∉ L) : BytesAt s' g a n l :=
 ⟨h.1, fun i x hx => by
  obtain ⟨ad, h1, h2, h3⟩ := h.2 i x hx
  exact ⟨ad, h1, h2, cell_mod h3 hm (by rw [add_blk]; exact hn _ h2)⟩⟩
theorem add_add (ad : Addr) (i j : Nat) : (ad.add i).add j = ad.add (i + j) := by
 unfold Addr.add
 obtain ⟨b, o, p⟩ := ad
 dsimp only
 cases p with
 | none => split <;> split <;> simp_all <;> omega
 | some p => split <;> split <;> simp_all <;> omega
theorem BytesAt.cut {s : PH} {g : List Nat} {a : Option Addr} {n cp : Nat} {l : List UInt8} (h : BytesAt s g a n l) (hc : n ≤ cp) (k : Nat) : BytesAt s g (if cp = k then a else a.map (fun x => x.add k)) (n - k) (l.drop k) := by
 refine ⟨by rw [List.length_drop, h.1], fun i x hx => ?_⟩
 rw [List.getElem?_drop] at hx
 have hlt := (List.getElem?_eq_some_iff.1 hx).1
 have h1 := h.1
 obtain ⟨ad, rfl, h2, h3⟩ := h.2 _ _ hx
 rw [if_neg (by omega)]
 exact ⟨ad.add k, rfl, by rw [add_blk]; exact h2, by rw [add_add]; exact h3⟩
theorem Cod.mod {s s' : PH} {L g : List Nat} {c : Nat} {rd : Bool} {bs : List UInt8} (h : Cod s c rd g bs) (hm : Fw.Mod L s s') (hc : c ∉ L) (hg : ∀ x ∈ g, x ∉ L) : Cod s' c rd g bs := by
 obtain ⟨a, n, cp, h1, h2, h3, h4, h5, h6⟩ := h
 exact ⟨a, n, cp, hm.at h1 hc, h2, h3, fun e => ⟨(h4 e).1.mod hm hg, (h4 e).2⟩, fun e => ⟨(h5 e).1.mod hm fun x hx => hg x ((h5 e).2 x hx), (h5 e).2⟩, fun x hx => by rw [hm x (h6 x hx) (hg x hx)]; exact h6 x hx⟩
theorem Cod.new {s s' : PH} {g : List Nat} {c : Nat} {rd : Bool} {bs : List UInt8} (h : Cod s c rd g bs) (hm : Fw.Mod [] s s') : Cod s' c rd g bs := h.mod hm (by simp) (by simp)
theorem Cod.c_known {s : PH} {g : List Nat} {c : Nat} {rd : Bool} {bs : List UInt8} (h : Cod s c rd g bs) : s c ≠ none := by
 obtain ⟨a, n, cp, h1, _⟩ := h; rw [h1]; simp
theorem Cod.g_known {s : PH} {g : List Nat} {c : Nat} {rd : Bool} {bs : List UInt8} (h : Cod s c rd g bs) : ∀ x ∈ g, s x ≠ none := by
 obtain ⟨a, n, cp, h1, h2, h3, h4, h5, h6⟩ := h; exact h6
theorem Cod.c_ng {s : PH} {g : List Nat} {c : Nat} {rd : Bool} {bs : List UInt8} (h : Cod s c rd g bs) : c ∉ g := by
 obtain ⟨a, n, cp, h1, h2, h3, h4, h5, h6⟩ := h; exact h2
theorem Cod.lenB {s : PH} {g : List Nat} {c : Nat} {rd : Bool} {bs : List UInt8} (h : Cod s c rd g bs) : bs.length ≤ 1099511627776 := by
 obtain ⟨a, n, cp, h1, h2, h3, h4, h5, h6⟩ := h; exact h3
theorem app_byte {s : PH} {a : Option Addr} {n c : Nat} {l : List UInt8} {x : Int} {b : UInt8} {K : Option Addr → Nat → Nat → W.T} (h : rowE u8E s 5 a n c l) (hb : x = b.toNat) (hl : l.length ≤ 1099511627776)
  (hK : ∀ a' c' s', rowE u8E s' 5 a' (n + 1) c' (l ++ [b]) → (∀ g ∈ Fw.blk a', g ∈ Fw.blk a ∨ s g = none) → Fw.Mod (Fw.blk a) s s' → K a' (n + 1) c' s') :
  W.nw (.cells #[.int .u8 x] 5 (0, 0)) (fun r => W.app 5 1 1 [.int .u8 0] a n c (.sl (some ⟨r, 0, none⟩) 1) K) s := by
 subst hb
 refine W.nw_of fun r s1 hr m1 k1 => ?_
 have hmax : maxLen = 9223372036854775807 := rfl
 have hlen := h.len
 have hsrc : srcIs s1 1 (.sl (some ⟨r, 0, none⟩) 1) ([b].flatMap u8E.f) := ⟨rfl, has_block k1⟩
 refine app_rowE (E := u8E) (k := 1) (ys := [b]) (h.mod m1 (by simp)) rfl hsrc rfl rfl (by omega) (by omega) ?_
 intro a' c' s2 hrow hm
 rcases hm with ⟨rfl, hm⟩ | ⟨g, rfl, hg, hm⟩
 ·exact hK _ _ _ hrow (fun g hg => .inl hg) ((m1.mono (by simp)).trans hm)
 ·exact hK _ _ _ hrow (by simp [Fw.blk]; exact .inr (m1.none hg (by simp))) ((m1.trans hm).mono (by simp))
def ByteQ (c : Nat) (g : List Nat) (b : UInt8) (bs : List UInt8) (s : PH) (y : Value) (s' : PH) : Prop := y = .int .u8 (b.toNat : Int) ∧ Cod s' c true g bs ∧ Fw.Mod [c] s s'
theorem c_wbyte {s : PH} {c : Nat} {g : List Nat} {b : UInt8} {bs : List UInt8} (h : Cod s c true g (b :: bs)) : DCalls Tryz.prog 123 #[cptr c] s (ByteQ c g b bs s) := by
 refine ok_wbyte c _ s ?_
 unfold vc_wbyte
 obtain ⟨a, n, cp, hc, hg, hl, hr, hw, hk⟩ := h
 obtain ⟨hb, hcp⟩ := hr rfl
 have hn : n = bs.length + 1 := by simpa using hb.1
 have hcut := hb.cut hcp 1
 obtain ⟨ad, rfl, hin, hcell⟩ := hb.2 0 b rfl
 rw [add_zero] at hcell
 simp [W.ld_at hc, W.br_iff]
 refine ⟨by omega, fun _ => ⟨by omega, ld_one (c := .int .u8) hcell ?_⟩⟩
 simp [W.ld_at hc, W.st_at hc]
 refine ⟨by omega, rfl, ?_, Mod.upd (by simp)⟩
 have m1 : Fw.Mod [c] s (s.upd c (codO (if cp = 1 then some ad else some (ad.add 1)) (n - 1) (cp - 1) true)) := Mod.upd (by simp)
 refine ⟨_, _, _, PH.upd_same _ _ _, hg, by simp at hl; omega, fun _ => ⟨?_, by omega⟩, fun e => by simp at e, fun x hx => ?_⟩
 ·have := hcut.mod m1 (by intro x hx; simp; rintro rfl; exact hg hx)
  simpa using this
 ·rw [m1 x (hk x hx) (by simp; rintro rfl; exact hg hx)]; exact hk x hx
theorem c8 {x : Nat} (h : x < 18446744073709551616) : u8.wrap ((BitVec.ofInt 8 (u8.wrap (x : Int)) ||| BitVec.ofInt 8 (128 : Int)).toNat : Int) = ((UInt8.ofNat (x % 128 + 128)).toNat : Int) := by
 have e1 : BitVec.ofInt 8 (u8.wrap (x : Int)) = BitVec.ofNat 8 x := by
  rw [IntKind.wrap_u8]
  apply BitVec.eq_of_toNat_eq
  rw [BitVec.toNat_ofInt, BitVec.toNat_ofNat]
  omega
 have e2 : (BitVec.ofNat 8 x ||| BitVec.ofInt 8 (128 : Int)).toNat = x % 128 + 128 := by
  have e3 : BitVec.ofNat 8 x = BitVec.ofNat 8 (x % 256) := by
   apply BitVec.eq_of_toNat_eq
   rw [BitVec.toNat_ofNat, BitVec.toNat_ofNat]; omega
  rw [e3]
  have hx : x % 128 = x % 256 % 128 := by omega
  rw [hx]
  have hy : x % 256 < 256 := by omega
  generalize x % 256 = y at hy
  revert hy
  revert y
  decide
 rw [e1, e2, u8_in (by omega) (by omega), UInt8.toNat_ofNat']
 omega
def setI (cur : Array Value) (off : Nat) (n : Int) : Array Value := cur.setIfInBounds off (.int .i64 n)
def Adv (rd : Bool) (e bs bs' : List UInt8) : Prop := if rd = true then bs = e ++ bs' else bs' = bs ++ e
def Went (c pb : Nat) (rd : Bool) (g : List Nat) (bs' : List UInt8) (O : Obj) (s s' : PH) : Prop := ∃ g', Cod s' c rd g' bs' ∧ (∀ x ∈ g', x ∈ g ∨ s x = none) ∧ Fw.Mod (c :: pb :: g) s s' ∧ s' pb = some O
def WentQ (c pb : Nat) (rd : Bool) (g : List Nat) (bs' : List UInt8) (O : Obj) (s : PH) (y : Value) (s' : PH) : Prop := y = .tuple #[] ∧ Went c pb rd g bs' O s s'
theorem set_same {cur : Array Value} {off : Nat} {v : Value} (h : cur[off]? = some v) : cur.setIfInBounds off v = cur := by
 obtain ⟨h1, h2⟩ := Array.getElem?_eq_some_iff.1 h
 apply Array.ext
 ·simp
 ·intro i h3 h4
  rw [Array.getElem_setIfInBounds]
  split
  ·rename_i he; subst he; exact h2.symm
  ·rfl
def LongZ (c pb : Nat) (g : List Nat) (bs : List UInt8) (n : Int) (O : Obj) (s0 : PH) (z : MDen [(false, [.int .u64])]) (s' : PH) : Prop :=
 ∃ (f x : Nat) (l : List UInt8) (g' : List Nat), z = (((x : Int), ()), ()) ∧ f ≤ 9 ∧ l ++ digs f x = encN n ∧ x < 128 ^ (f + 1) ∧ x < 18446744073709551616 ∧ Cod s' c false g' (bs ++ l) ∧ (∀ x ∈ g', x ∈ g ∨ s0 x = none) ∧ Fw.Mod (c :: g) s0 s' ∧ s' pb = some O
theorem c_long_w {s : PH} {c pb off : Nat} {g : List Nat} {bs : List UInt8} {cur : Array Value} {e : TypeId} {n : Int} (h : Cod s c false g bs) (hp : s pb = some (.cells cur e (0, 0))) (hne : pb ≠ c) (hpg : pb ∉ g) (hm : cur[off]? = some (.int .i64 n)) (hn : I64 n) (hl : (bs ++ encN n).length ≤ 1099511627776) :
  DCalls Tryz.prog 117 #[cptr c, .pointer (some ⟨pb, off, none⟩)] s (WentQ c pb false g (bs ++ encN n) (.cells cur e (0, 0)) s) := by
 refine ok_wlong c ⟨pb, off, none⟩ _ s ?_
 unfold vc_wlong
 obtain ⟨a, k, cp, hI⟩ := id h
 have hc := hI.cell
 have hcell : s.cell? ⟨pb, off, none⟩ = some (.int .i64 n) := by unfold PH.cell?; dsimp only; rw [hp]; exact hm
 simp only [RP_unSome, W.unSome_some, add_mk, Nat.zero_add, RP_ld, W.ld_at hc]
 refine ⟨(false, ()), rfl, ?_⟩
 simp only [RP_ite, Bool.not_false, W.br_true, W.unSome_some]
 refine ld_one (c := .int .i64) hcell ?_
 simp only [W.unSome_some]
 refine ld_one (c := .int .i64) hcell ?_
 simp only [RP_loop]
 simp only [zz_prog hn]
 refine ⟨LongZ c pb g bs n (.cells cur e (0, 0)) s, fun z _ => z.1.1.toNat, ⟨9, zz n, [], g, rfl, Nat.le_refl _, rfl, ?_, zz_lt hn, by simpa using h, fun x hx => .inl hx, Mod.refl _ _, hp⟩, ?_⟩
 ·have := zz_lt hn; omega
 rintro _ s1 ⟨f, x, l, g1, rfl, hf, hd, hx, hxl, hC, hg1, m1, hp1⟩
 obtain ⟨a1, k1, cp1, hI1⟩ := id hC
 have hc1 := hI1.cell
 obtain ⟨hrow, hrg⟩ := hI1.wrs rfl
 have hll : (bs ++ l).length + (digs f x).length ≤ 1099511627776 := by rw [← List.length_append, List.append_assoc, hd]; exact hl
 simp only [RP_ite, W.br_iff, decide_eq_true_eq, decide_eq_false_iff_not]
 refine ⟨fun h128 => ?_, fun h128 => ?_⟩
 ·have h128 : x ≥ 128 := by omega
  obtain ⟨f', rfl⟩ : ∃ f', f = f' + 1 := by
   cases f with
   | zero => simp at hx; omega
   | succ f' => exact ⟨f', rfl⟩
  have hx2 : x / 128 < 128 ^ (f' + 1) := by
   rw [Nat.div_lt_iff_lt_mul (by omega)]
   rw [Nat.pow_succ] at hx; exact hx
  have e2 : ((x : Int)).fdiv 128 = ((x / 128 : Nat) : Int) := by rw [Int.fdiv_eq_ediv_of_nonneg _ (by omega)]; simp
  rw [digs_ge h128] at hll hd
  simp only [List.length_cons] at hll
  simp only [RP_unSome, W.unSome_some, add_mk, Nat.zero_add, RP_ld, W.ld_at hc1]
  refine ⟨((a1, k1, cp1), ()), rfl, ?_⟩
  simp only [RP_nw, RP_app, e2]
  refine app_byte (b := UInt8.ofNat (x % 128 + 128)) hrow (by rw [c8 hxl]) (by omega) ?_
  intro a' c' s2 hrow2 hfr2 m2
  have hcn : c ∉ Fw.blk a1 := fun hx => hI1.ng (hrg _ hx)
  have hc2 := m2.at hc1 hcn
  simp [W.st_at hc2]
  have hcn' : c ∉ Fw.blk a' := fun hx => (hfr2 c hx).elim hcn (by rw [hc1]; simp)
  have m3 : Fw.Mod [c] s2 (s2.upd c (codO a' (k1 + 1) c' false)) := Mod.upd (by simp)
  have hpb : pb ∉ g1 := fun hx => (hg1 pb hx).elim hpg (by rw [hp]; simp)
  refine ⟨⟨f', x / 128, l ++ [UInt8.ofNat (x % 128 + 128)], Fw.blk a', rfl, by omega, by rw [List.append_assoc]; exact hd, hx2, by omega, ?_, ?_, ?_, ?_⟩, by omega⟩
  ·refine ⟨a', k1 + 1, c', PH.upd_same _ _ _, hcn', by simp at hll ⊢; omega, fun e => by simp at e, fun _ => ⟨?_, fun x hx => hx⟩, fun x hx => ?_⟩
   ·rw [← List.append_assoc]; exact hrow2.mod m3 (by intro x hx; simp; rintro rfl; exact hcn' hx)
   ·rw [m3 x (hrow2.known x hx) (by simp; rintro rfl; exact hcn' hx)]; exact hrow2.known x hx
  ·intro y hy
   rcases hfr2 y hy with h | h
   ·exact hg1 y (hrg y h)
   ·by_cases hyg : y ∈ c :: g
    ·rcases List.mem_cons.1 hyg with rfl | hyg
     ·exact absurd hy hcn'
     ·exact .inl hyg
    ·exact .inr (m1.none h hyg)
  ·refine Mod.updLater ?_ (.inl (by simp))
   refine m1.fresh m2 fun y hy => ?_
   rcases hg1 y (hrg y hy) with h | h
   ·exact .inl (by simp [h])
   ·exact .inr h
  ·rw [PH.upd_other _ _ hne]
   exact m2.at hp1 fun hx => hpb (hrg _ hx)
 ·have h128 : x < 128 := by omega
  rw [digs_lt h128] at hll hd
  simp only [List.length_singleton] at hll
  simp only [RP_unSome, W.unSome_some, add_mk, Nat.zero_add, RP_ld, W.ld_at hc1]
  refine ⟨((a1, k1, cp1), ()), rfl, ?_⟩
  simp only [RP_nw, RP_app]
  refine app_byte (b := UInt8.ofNat x) hrow (by rw [u8_in (by omega) (by omega), UInt8.toNat_ofNat']; omega) (by omega) ?_
  intro a' c' s2 hrow2 hfr2 m2
  have hcn : c ∉ Fw.blk a1 := fun hx => hI1.ng (hrg _ hx)
  have hc2 := m2.at hc1 hcn
  simp [W.st_at hc2]
  have hcn' : c ∉ Fw.blk a' := fun hx => (hfr2 c hx).elim hcn (by rw [hc1]; simp)
  have m3 : Fw.Mod [c] s2 (s2.upd c (codO a' (k1 + 1) c' false)) := Mod.upd (by simp)
  have hpb : pb ∉ g1 := fun hx => (hg1 pb hx).elim hpg (by rw [hp]; simp)
  refine ⟨rfl, Fw.blk a', ?_, ?_, ?_, ?_⟩
  ·refine ⟨a', k1 + 1, c', PH.upd_same _ _ _, hcn', hl, fun e => by simp at e, fun _ => ⟨?_, fun x hx => hx⟩, fun x hx => ?_⟩
   ·rw [← hd, ← List.append_assoc]; exact hrow2.mod m3 (by intro x hx; simp; rintro rfl; exact hcn' hx)
   ·rw [m3 x (hrow2.known x hx) (by simp; rintro rfl; exact hcn' hx)]; exact hrow2.known x hx
  ·intro y hy
   rcases hfr2 y hy with h | h
   ·exact hg1 y (hrg y h)
   ·by_cases hyg : y ∈ c :: g
    ·rcases List.mem_cons.1 hyg with rfl | hyg
     ·exact absurd hy hcn'
     ·exact .inl hyg
    ·exact .inr (m1.none h hyg)
  ·refine Mod.mono (L := c :: g) (Mod.updLater ?_ (.inl (by simp))) (by simp; intro x hx; exact .inr (.inr hx))
   refine m1.fresh m2 fun y hy => ?_
   rcases hg1 y (hrg y hy) with h | h
   ·exact .inl (by simp [h])
   ·exact .inr h
  ·rw [PH.upd_other _ _ hne]
   exact m2.at hp1 fun hx => hpb (hrg _ hx)
end
section
attribute [-simp] Fw.W.ld_iff Fw.W.st_iff
def RongZ (c pb : Nat) (g : List Nat) (bs : List UInt8) (n : Int) (O : Obj) (s0 : PH) (z : MDen [(false, [.int .u64]), (false, [.int .i64])]) (s' : PH) : Prop :=
 ∃ (j acc x : Nat), z = (((acc : Int), ()), (((7 * j : Nat) : Int), ()), ()) ∧ j ≤ 9 ∧ acc < 2 ^ (7 * j) ∧ acc + 2 ^ (7 * j) * x = zz n ∧ Cod s' c true g (digs (9 - j) x ++ bs) ∧ Fw.Mod [c] s0 s' ∧ s' pb = some O
theorem c_long_r {s : PH} {c pb off : Nat} {g : List Nat} {bs : List UInt8} {cur : Array Value} {e : TypeId} {n : Int} (h : Cod s c true g (encN n ++ bs)) (hp : s pb = some (.cells cur e (0, 0))) (hne : pb ≠ c) (hpg : pb ∉ g) (hm : off < cur.size) (hn : I64 n) :
  DCalls Tryz.prog 117 #[cptr c, .pointer (some ⟨pb, off, none⟩)] s (WentQ c pb true g bs (.cells (setI cur off n) e (0, 0)) s) := by
 refine ok_wlong c ⟨pb, off, none⟩ _ s ?_
 unfold vc_wlong
 obtain ⟨a, k, cp, hI⟩ := id h
 have hc := hI.cell
 have hz := zz_lt hn
 simp only [RP_unSome, W.unSome_some, add_mk, Nat.zero_add, RP_ld, W.ld_at hc]
 refine ⟨(true, ()), rfl, ?_⟩
 simp only [RP_ite, Bool.not_true, W.br_false, RP_loop]
 refine ⟨RongZ c pb g bs n (.cells cur e (0, 0)) s, fun z _ => (70 - z.2.1.1).toNat, ⟨0, 0, zz n, rfl, by omega, by simp, by simp, h, Mod.refl _ _, hp⟩, ?_⟩
 rintro _ s1 ⟨j, acc, x, rfl, hj, hacc, hsum, hC, m1, hp1⟩
 obtain ⟨a1, k1, cp1, hI1⟩ := id hC
 have hc1 := hI1.cell
 have hlt : (((7 * j : Nat) : Int) < 70) := by omega
 simp only [decide_eq_true hlt, W.br_true, W.unSome_some, add_mk, Nat.zero_add, W.ld_at hc1]
 refine ⟨(false, ()), rfl, ?_⟩
 simp only [Bool.not_false, W.br_true, RP_call, RP_guard, W.guard_iff]
 have hbnd : 2 ^ (7 * j) * x ≤ zz n := by omega
 by_cases h128 : x ≥ 128
 ·have hj8 : j ≤ 8 := by
   rcases Nat.lt_or_ge j 9 with q | q
   ·omega
   ·have : j = 9 := by omega
    subst this
    have e : (2 : Nat) ^ (7 * 9) = 9223372036854775808 := by decide
    rw [e] at hbnd; omega
  have hd : digs (9 - j) x = UInt8.ofNat (x % 128 + 128) :: digs (9 - (j + 1)) (x / 128) := by
   rw [show 9 - j = (9 - (j + 1)) + 1 by omega]; exact digs_ge h128
  rw [hd] at hC
  refine W.call_of (c_wbyte hC) ?_
  rintro _ s2 ⟨rfl, hC2, m2⟩
  have hb : ((UInt8.ofNat (x % 128 + 128)).toNat : Int) = ((x % 128 + 128 : Nat) : Int) := by rw [UInt8.toNat_ofNat']; omega
  rw [hb]
  refine ⟨((((x % 128 + 128 : Nat) : Int), ()), ()), rfl, by omega, ?_⟩
  have hnl : ¬ (((x % 128 + 128 : Nat) : Int) < 128) := by omega
  simp only [decide_eq_false hnl, W.br_false, ↓reduceIte]
  have hpow : (2 : Nat) ^ (7 * j) ≤ 2 ^ 63 := Nat.pow_le_pow_right (by omega) (by omega)
  have hxd : x = 128 * (x / 128) + x % 128 := by omega
  have hsplit : 2 ^ (7 * j) * x = 2 ^ (7 * (j + 1)) * (x / 128) + 2 ^ (7 * j) * (x % 128) := by
   have : 2 ^ (7 * (j + 1)) = 2 ^ (7 * j) * 128 := by rw [Nat.mul_add, Nat.pow_add]
   rw [this, Nat.mul_assoc, ← Nat.mul_add, ← hxd]
  rw [acc_step (acc := acc) (i := 7 * j) (y := x % 128) (by omega) (by omega) hacc (by omega) (by omega) (by omega)]
  rw [show i64.wrap (((7 * j : Nat) : Int) + 7) = ((7 * (j + 1) : Nat) : Int) by rw [wrap_in (by omega) (by omega)]; omega]
  refine ⟨⟨j + 1, _, x / 128, rfl, by omega, ?_, by omega, hC2, m1.trans m2, ?_⟩, by show (70 - ((7 * (j + 1) : Nat) : Int)).toNat < (70 - ((7 * j : Nat) : Int)).toNat; omega⟩
  ·have : 2 ^ (7 * (j + 1)) = 2 ^ (7 * j) * 128 := by rw [Nat.mul_add, Nat.pow_add]
   rw [this]
   have h2 : 2 ^ (7 * j) * (x % 128) ≤ 2 ^ (7 * j) * 127 := Nat.mul_le_mul_left _ (by omega)
   omega
  ·exact m2.at hp1 (by simp; exact hne)
 ·have h128 : x < 128 := by omega
  rw [digs_lt h128] at hC
  refine W.call_of (c_wbyte hC) ?_
  rintro _ s2 ⟨rfl, hC2, m2⟩
  have hb : ((UInt8.ofNat x).toNat : Int) = ((x : Nat) : Int) := by rw [UInt8.toNat_ofNat']; omega
  rw [hb]
  refine ⟨(((x : Int), ()), ()), rfl, by omega, ?_⟩
  have hnl : ((x : Int) < 128) := by omega
  simp only [decide_eq_true hnl, W.br_true, W.unSome_some, ↓reduceIte]
  rw [acc_step (acc := acc) (i := 7 * j) (y := x) (by omega) (by omega) hacc (by omega) (by omega) (by omega), hsum, zz_back hn]
  have hp2 := m2.at hp1 (by simp; exact hne)
  simp only [RP_st, W.st_at hp2]
  refine ⟨by simp; omega, by simp, by simp, rfl, g, ?_, fun x hx => .inl hx, ?_, PH.upd_same _ _ _⟩
  ·exact hC2.mod (Mod.upd (L := [pb]) (by simp)) (by simp; exact hne.symm) (by intro x hx; simp; rintro rfl; exact hpg hx)
  ·exact Mod.updLater ((m1.trans m2).mono (by simp)) (.inl (by simp))
theorem c_wlong {s : PH} {c pb off : Nat} {rd : Bool} {g : List Nat} {bs bs' : List UInt8} {cur : Array Value} {e : TypeId} {n m : Int} (h : Cod s c rd g bs) (hp : s pb = some (.cells cur e (0, 0))) (hne : pb ≠ c) (hpg : pb ∉ g) (hm : cur[off]? = some (.int .i64 m)) (hn : I64 n) (hw : rd = false → m = n)
  (ha : Adv rd (encN n) bs bs') (hl : bs'.length ≤ 1099511627776) :
  DCalls Tryz.prog 117 #[cptr c, .pointer (some ⟨pb, off, none⟩)] s (WentQ c pb rd g bs' (.cells (setI cur off n) e (0, 0)) s) := by
 have hlt := (Array.getElem?_eq_some_iff.1 hm).1
 cases rd with
 | true =>
  have : bs = encN n ++ bs' := by simpa [Adv] using ha
  subst this
  exact c_long_r h hp hne hpg hlt hn
 | false =>
  have : bs' = bs ++ encN n := by simpa [Adv] using ha
  subst this
  have := hw rfl
  subst this
  have e : setI cur off m = cur := set_same hm
  rw [e]
  exact c_long_w h hp hne hpg hm hn hl
end
section
attribute [-simp] Fw.W.ld_iff Fw.W.st_iff
theorem setL_snoc : ∀ (l : List Value) (cur : Array Value) (off : Nat) (v : Value), setL cur off (l ++ [v]) = (setL cur off l).setIfInBounds (off + l.length) v
 | [], cur, off, v => by simp [setL]
 | w :: l, cur, off, v => by
  simp only [List.cons_append, setL]
  rw [setL_snoc l _ _ v, List.length_cons]
  congr 1
  omega
theorem setL_get : ∀ (l : List Value) (cur : Array Value) (off j : Nat), j < off ∨ off + l.length ≤ j → (setL cur off l)[j]? = cur[j]?
 | [], cur, off, j, _ => rfl
 | w :: l, cur, off, j, h => by
  simp only [setL, List.length_cons] at h ⊢
  rw [setL_get l _ _ j (by omega), Array.getElem?_setIfInBounds_ne (by omega)]
theorem Adv.split {rd : Bool} {e1 e2 bs bs' : List UInt8} (h : Adv rd (e1 ++ e2) bs bs') (hl : bs.length ≤ 1099511627776) (hl' : bs'.length ≤ 1099511627776) : ∃ m, Adv rd e1 bs m ∧ Adv rd e2 m bs' ∧ m.length ≤ 1099511627776 := by
 unfold Adv at *
 cases rd with
 | true =>
  simp only [if_true] at *
  refine ⟨e2 ++ bs', by rw [h, List.append_assoc], rfl, ?_⟩
  rw [h] at hl; simp only [List.length_append] at hl ⊢; omega
 | false =>
  simp only [Bool.false_eq_true, if_false] at *
  refine ⟨bs ++ e1, rfl, by rw [h, List.append_assoc], ?_⟩
  rw [h] at hl'; simp only [List.length_append] at hl' ⊢; omega
theorem Adv.nil {rd : Bool} {bs bs' : List UInt8} (h : Adv rd [] bs bs') : bs' = bs := by
 unfold Adv at h; split at h
 ·simpa using h.symm
 ·simpa using h
theorem set_blk0 {s : PH} {r : Nat} {v w : Value} {t : TypeId} (k : s r = some (.cells #[v] t (0, 0))) (K : W.T) (hv : w.oneCell' = true) (hK : ∀ s', s' r = some (.cells #[w] t (0, 0)) → Fw.Mod [r] s s' → K s') : W.st ⟨r, 0, none⟩ [w] K s := by
 rw [W.st_at k]
 exact ⟨by simp, by simp, by intro u hu; rw [List.mem_singleton] at hu; subst hu; exact hv, hK _ (by rw [PH.upd_same]; (first | done | rfl)) (Mod.upd (by simp))⟩
theorem ld_blk {s : PH} {b off : Nat} {cur : Array Value} {e : TypeId} {f : Nat × Nat} {c : CT} {x : c.den} {K : Den [c] → W.T} (h : s b = some (.cells cur e f)) (hx : cur[off]? = some (c.val x)) (hK : K (x, ()) s) : W.ld [c] ⟨b, off, none⟩ K s := by
 refine ld_one ?_ hK
 unfold PH.cell?; dsimp only; rw [h]; exact hx
theorem st_blk {s : PH} {b off : Nat} {cur : Array Value} {e : TypeId} {w v : Value} {K : W.T} (h : s b = some (.cells cur e (0, 0))) (ho : cur[off]? = some v) (hw : w.oneCell' = true) (hK : K (s.upd b (.cells (cur.setIfInBounds off w) e (0, 0)))) : W.st ⟨b, off, none⟩ [w] K s := by
 rw [W.st_at h]
 have := (Array.getElem?_eq_some_iff.1 ho).1
 exact ⟨by simp; omega, by simp, by intro u hu; rw [List.mem_singleton] at hu; subst hu; exact hw, hK⟩
def NumsZ (c pb off : Nat) (rd : Bool) (g : List Nat) (bs' : List UInt8) (xs : List Int) (cur : Array Value) (e : TypeId) (ra : Nat) (s0 : PH) (z : MDen [(false, [.slice]), (false, [.int .i64]), (false, [.int .i64])]) (s' : PH) : Prop :=
 ∃ (i : Nat) (b1 : List UInt8) (g1 : List Nat), z = (((some ⟨ra, 0, none⟩, xs.length, xs.length), ()), (((xs.length : Nat) : Int), ()), ((i : Int), ()), ()) ∧ i ≤ xs.length ∧ Cod s' c rd g1 b1 ∧ Adv rd ((xs.drop i).flatMap encN) b1 bs' ∧ (∀ x ∈ g1, x ∈ g ∨ s0 x = none) ∧ Fw.Mod (c :: pb :: g) s0 s' ∧ s' pb = some (.cells (setL cur off ((xs.take i).map (Value.int .i64))) e (0, 0))
theorem c_wnums {s : PH} {c pb off ra : Nat} {rd : Bool} {g : List Nat} {bs bs' : List UInt8} {cur ps : Array Value} {e pt : TypeId} {f : Nat × Nat} {xs old : List Int} (h : Cod s c rd g bs) (hp : s pb = some (.cells cur e (0, 0))) (hne : pb ≠ c) (hpg : pb ∉ g)
  (hra : s ra = some (.cells ps pt f)) (hrc : ra ≠ c) (hrg : ra ∉ g) (hrp : ra ≠ pb) (hps : ∀ i, i < xs.length → ps[i]? = some (.pointer (some ⟨pb, off + i, none⟩))) (ho : ∀ i x, old[i]? = some x → cur[off + i]? = some (.int .i64 x)) (hol : old.length = xs.length) (hk : xs.length ≤ 100)
  (hw : rd = false → old = xs) (hI : ∀ x ∈ xs, I64 x) (ha : Adv rd (xs.flatMap encN) bs bs') (hl : bs'.length ≤ 1099511627776) :
  DCalls Tryz.prog 107 #[cptr c, .slice (some ⟨ra, 0, none⟩) xs.length xs.length] s (WentQ c pb rd g bs' (.cells (setL cur off (xs.map (Value.int .i64))) e (0, 0)) s) := by
 refine ok_wnums c (some ⟨ra, 0, none⟩) xs.length xs.length _ s ?_
 unfold vc_wnums
 simp only [RP_loop]
 refine ⟨NumsZ c pb off rd g bs' xs cur e ra s, fun z _ => ((xs.length : Int) - z.2.2.1.1).toNat, ⟨0, bs, g, rfl, by omega, h, by simpa using ha, fun x hx => .inl hx, Mod.refl _ _, by simpa [setL] using hp⟩, ?_⟩
 rintro _ s1 ⟨i, b1, g1, rfl, hi, hC, hadv, hg1, m1, hp1⟩
 simp only [RP_ite, W.br_iff, decide_eq_true_eq, decide_eq_false_iff_not]
 refine ⟨fun hlt => ?_, fun hge => ?_⟩
 ·have hlt : i < xs.length := by omega
  obtain ⟨x, hx⟩ : ∃ x, xs[i]? = some x := ⟨_, List.getElem?_eq_getElem hlt⟩
  obtain ⟨y, hy⟩ : ∃ y, old[i]? = some y := ⟨_, List.getElem?_eq_getElem (by omega)⟩
  rw [drop_some hx, List.flatMap_cons] at hadv
  obtain ⟨b2, ha1, ha2, hb2⟩ := hadv.split hC.lenB hl
  have hcp : (setL cur off ((xs.take i).map (Value.int .i64)))[off + i]? = some (.int .i64 y) := by
   rw [setL_get _ _ _ _ (.inr (by simp; omega))]; exact ho i y hy
  have hra1 := m1.at hra (by simp; exact ⟨hrc, hrp, hrg⟩)
  simp only [RP_guard, W.guard_iff, RP_unSome, W.unSome_some, add_mk, Nat.zero_add, Int.toNat_natCast, Nat.mul_one, RP_ld]
  refine ⟨by omega, ld_blk (c := .ptr) (x := some ⟨pb, off + i, none⟩) hra1 (hps i hlt) ?_⟩
  simp only [W.unSome_some]
  refine ld_blk (c := .int .i64) hp1 hcp ?_
  simp only [RP_nw]
  refine W.nw_of fun r s2 hr m2 k2 => ?_
  simp only [RP_st]
  refine set_blk0 k2 _ rfl fun s3 k3 m3 => ?_
  have hC3 : Cod s3 c rd g1 b1 := hC.mod (m2.fresh m3 (L := []) (by simp [hr])) (by simp) (by simp)
  have hrc2 : r ≠ c := by rintro rfl; exact hC.c_known hr
  have hrg2 : r ∉ g1 := fun hy => hC.g_known r hy hr
  simp only [RP_call]
  refine W.call_of (c_wlong (m := y) hC3 k3 hrc2 hrg2 rfl (hI x (List.mem_of_getElem? hx)) (fun e => by have := hw e; subst this; rw [hx] at hy; exact (Option.some.inj hy).symm) ha1 hb2) ?_
  rintro _ s4 ⟨rfl, g2, hC4, hg2, m4, k4⟩
  refine ⟨(), rfl, ?_⟩
  refine ld_blk (c := .int .i64) (x := x) k4 (by show (setI _ 0 x)[0]? = some (.int .i64 x); simp [setI]) ?_
  simp only [W.unSome_some]
  have m23 : Fw.Mod [] s1 s3 := m2.fresh m3 (by simp [hr])
  have hpr : pb ≠ r := ne_of_known hp1 hr
  have hpg1 : pb ∉ g1 := fun hy => (hg1 pb hy).elim hpg (by rw [hp]; simp)
  have hp4 := m4.at (m23.at hp1 (by simp)) (by simp; exact ⟨hne, hpr, hpg1⟩)
  refine st_blk hp4 hcp rfl ?_
  have hpg2 : pb ∉ g2 := fun hy => (hg2 pb hy).elim hpg1 (by rw [m23.at hp1 (by simp)]; simp)
  have hcg2 := hC4.c_ng
  have m5 : Fw.Mod [pb] s4 (s4.upd pb (.cells ((setL cur off ((xs.take i).map (Value.int .i64))).setIfInBounds (off + i) (.int .i64 x)) e (0, 0))) := Mod.upd (by simp)
  have mL : Fw.Mod (c :: pb :: g) s s4 := by
   refine (m1.fresh m23 (by simp)).fresh m4 fun y hy => ?_
   rcases List.mem_cons.1 hy with rfl | hy
   ·exact .inl (by simp)
   rcases List.mem_cons.1 hy with rfl | hy
   ·by_cases hyg : y ∈ c :: pb :: g
    ·exact .inl hyg
    ·exact .inr (m1.none hr hyg)
   ·exact (hg1 y hy).imp (fun h => by simp [h]) _root_.id
  refine ⟨⟨i + 1, b2, g2, by rw [wrap_succ (by omega)], hlt, hC4.mod m5 (by simp; exact hne.symm) (by intro y hy; simp; rintro rfl; exact hpg2 hy), ha2, ?_, Mod.updLater mL (.inl (by simp)), ?_⟩, ?_⟩
  ·intro y hy
   rcases hg2 y hy with h | h
   ·exact hg1 y h
   ·by_cases hyg : y ∈ c :: pb :: g
    ·rcases List.mem_cons.1 hyg with rfl | hyg
     ·exact absurd hy hcg2
     rcases List.mem_cons.1 hyg with rfl | hyg
     ·exact absurd hy hpg2
     ·exact .inl hyg
    ·exact .inr ((m1.fresh m23 (by simp)).none h hyg)
  ·rw [PH.upd_same, List.take_add_one, hx]
   simp only [Option.toList_some, List.map_append, List.map_cons, List.map_nil]
   rw [setL_snoc]
   simp only [List.length_map, List.length_take, Nat.min_eq_left (Nat.le_of_lt hlt)]
  ·rw [wrap_succ (by omega)]
   show ((xs.length : Int) - ((i + 1 : Nat) : Int)).toNat < ((xs.length : Int) - ((i : Nat) : Int)).toNat
   omega
 ·have hii : i = xs.length := by omega
  subst hii
  rw [List.drop_of_length_le (Nat.le_refl _)] at hadv
  have := hadv.nil
  subst this
  rw [List.take_of_length_le (Nat.le_refl _)] at hp1
  exact ⟨rfl, g1, hC, hg1, m1, hp1⟩
end
section
attribute [-simp] Fw.W.ld_iff Fw.W.st_iff
theorem upd_id {s : PH} {b : Nat} {o : Obj} (h : s b = some o) : s.upd b o = s := by
 funext k
 by_cases hk : k = b
 ·subst hk; rw [PH.upd_same, h]
 ·rw [PH.upd_other _ _ hk]
theorem went_over {c r : Nat} {rd : Bool} {g : List Nat} {b1 : List UInt8} {O : Obj} {s s1 s2 : PH} (h : s r = none) (m1 : Fw.Mod [] s s1) (hg : ∀ x ∈ g, s x ≠ none) (w : Went c r rd g b1 O s1 s2) : ∃ g', Cod s2 c rd g' b1 ∧ (∀ x ∈ g', x ∈ g ∨ s x = none) ∧ Fw.Mod (c :: g) s s2 ∧ s2 r = some O := by
 obtain ⟨g', h1, h2, h3, h4⟩ := w
 refine ⟨g', h1, fun x hx => (h2 x hx).imp_right fun h => m1.none h (by simp), (show Fw.Mod (c :: g) s s1 from m1.mono (by simp)).fresh h3 ?_, h4⟩
 intro x hx
 simp only [List.mem_cons] at hx
 rcases hx with rfl | rfl | hx
 ·exact .inl (by simp)
 ·exact .inr h
 ·exact .inl (by simp [hx])
def encB (b : Bool) : List UInt8 := encN (if b then 1 else 0)
theorem c_wflag {s : PH} {c pb off : Nat} {rd : Bool} {g : List Nat} {bs bs' : List UInt8} {cur : Array Value} {e : TypeId} {b y : Bool} (h : Cod s c rd g bs) (hp : s pb = some (.cells cur e (0, 0))) (hne : pb ≠ c) (hpg : pb ∉ g) (hm : cur[off]? = some (.bool y)) (hw : rd = false → y = b)
  (ha : Adv rd (encB b) bs bs') (hl : bs'.length ≤ 1099511627776) :
  DCalls Tryz.prog 108 #[cptr c, .pointer (some ⟨pb, off, none⟩)] s (WentQ c pb rd g bs' (.cells (cur.setIfInBounds off (.bool b)) e (0, 0)) s) := by
 refine ok_wflag c ⟨pb, off, none⟩ _ s ?_
 unfold vc_wflag
 simp only [RP_nw]
 refine W.nw_of fun r s1 hr m1 k1 => ?_
 simp only [RP_st]
 refine set_blk0 k1 _ rfl fun s2 k2 m2 => ?_
 have m12 : Fw.Mod [] s s2 := m1.fresh m2 (by simp [hr])
 have hp2 := m12.at hp (by simp)
 have hrp : r ≠ pb := ne_of_known' hp hr
 simp only [RP_join]
 refine W.join_gen (fun z s' => z = ((Addr.mk r 0 none, ()), ()) ∧ s' r = some (.cells #[.int .i64 (if y then 1 else 0)] 3 (0, 0)) ∧ Fw.Mod [] s s') ?_ ?_
 ·rintro _ s3 ⟨rfl, k3, m3⟩
  simp only [RP_nw]
  refine W.nw_of fun q s4 hq m4 k4 => ?_
  have hqr : q ≠ r := ne_of_known' k3 hq
  have k3' := m4.at k3 (by simp)
  have m04 := m3.trans m4
  have hC4 := h.new m04
  have hqs : s q = none := m3.none hq (by simp)
  have hrs : s r = none := hr
  simp only [RP_call]
  refine W.call_of (c_wnums (pb := r) (off := 0) (xs := [if b then 1 else 0]) (old := [if y then 1 else 0]) hC4 k3' (by rintro rfl; exact h.c_known hrs) (fun hx => h.g_known r hx hrs) k4 (by rintro rfl; exact h.c_known hqs) (fun hx => h.g_known q hx hqs) hqr
   (by intro i hi; have : i = 0 := by simpa using hi
       subst this; (first | done | rfl)) (by intro i x hx; cases i with
    | zero => simpa using hx
    | succ i => simp at hx) rfl (by simp) (fun e => by rw [hw e]) (by intro x hx; rw [List.mem_singleton] at hx; subst hx; unfold I64; split <;> omega) (by simpa [encB] using ha) hl) ?_
  rintro _ s5 ⟨rfl, w5⟩
  obtain ⟨g', hC5, hg5, m5, k5⟩ := went_over hrs m04 h.g_known w5
  refine ⟨(), rfl, ?_⟩
  simp only [RP_ld]
  refine ld_blk (c := .int .i64) (x := if b then 1 else 0) k5 rfl ?_
  have hp5 : s5 pb = some (.cells cur e (0, 0)) := m5.at hp (by simp; exact ⟨hne, hpg⟩)
  simp only [RP_unSome, W.unSome_some, RP_st]
  have hbv : ((if b = true then (1 : Int) else 0) == 1) = b := by cases b <;> rfl
  rw [hbv]
  refine st_blk hp5 hm rfl ?_
  have m6 : Fw.Mod [pb] s5 (s5.upd pb (.cells (cur.setIfInBounds off (.bool b)) e (0, 0))) := Mod.upd (by simp)
  have hpg' : pb ∉ g' := fun hx => (hg5 pb hx).elim hpg (by rw [hp]; simp)
  have hC6 := hC5.mod m6 (by simp; exact hne.symm) (by intro x hx; simp; rintro rfl; exact hpg' hx)
  have k6 := m6.at k5 (by simp; exact hrp)
  obtain ⟨s6, hs6⟩ : ∃ s6, s5.upd pb (.cells (cur.setIfInBounds off (.bool b)) e (0, 0)) = s6 := ⟨_, rfl⟩
  have p6 : s6 pb = some (.cells (cur.setIfInBounds off (.bool b)) e (0, 0)) := by rw [← hs6]; exact PH.upd_same _ _ _
  have mm : Fw.Mod (c :: pb :: g) s s6 := by rw [← hs6]; exact Mod.updLater (m5.mono (by simp; intro x hx; exact .inr (.inr hx))) (.inl (by simp))
  rw [hs6] at hC6 k6 ⊢
  obtain ⟨a, n, cp, hI⟩ := id hC6
  have hc6 := hI.cell
  simp only [W.unSome_some, add_mk, Nat.zero_add]
  refine ld_blk (c := .bool) (x := false) hc6 rfl ?_
  simp only [RP_ite, W.br_false]
  refine ld_blk (c := .int .i64) (x := if b then 1 else 0) k6 rfl ?_
  have hn0 : ¬ ((if b = true then (1 : Int) else 0) < 0) := by split <;> omega
  have hn1 : ¬ ((if b = true then (1 : Int) else 0) > 1) := by split <;> omega
  simp only [decide_eq_false hn0, W.br_false]
  refine ld_blk (c := .int .i64) (x := if b then 1 else 0) k6 rfl ?_
  simp only [W.unSome_some, decide_eq_false hn1]
  refine st_blk (v := .bool false) hc6 rfl rfl ?_
  rw [show (#[Value.slice a n cp, Value.bool rd, Value.bool false] : Array Value).setIfInBounds 2 (.bool false) = #[Value.slice a n cp, Value.bool rd, Value.bool false] from rfl, upd_id hc6]
  exact ⟨rfl, g', hC6, hg5, mm, p6⟩
 ·intro J hJ
  simp only [RP_unSome, W.unSome_some, RP_ld]
  refine ld_blk (c := .bool) (x := y) hp2 hm ?_
  simp only [RP_ite, W.br_iff, RP_st]
  refine ⟨fun hy => ?_, fun hy => ?_⟩
  ·refine set_blk0 k2 _ rfl fun s3 k3 m3 => hJ _ _ ⟨rfl, by rw [k3, if_pos hy], m12.fresh m3 (by simp [hr])⟩
  ·exact hJ _ _ ⟨rfl, by rw [k2, hy]; (first | done | rfl), m12⟩
def encT (t : ByteArray) : List UInt8 := encN t.size ++ toL t
theorem flat_u8 (l : List UInt8) : l.flatMap u8E.f = l.map fun b => Value.int .u8 (b.toNat : Int) := by
 induction l with
 | nil => rfl
 | cons b l ih => rw [List.flatMap_cons, ih]; (first | done | rfl)
theorem has_bytes {s : PH} {ad : Addr} {g : List Nat} {n : Nat} {t : ByteArray} {bs : List UInt8} (h : BytesAt s g (some ad) n (toL t ++ bs)) : s.has ad (bytesOf t) := by
 intro i v hv
 unfold bytesOf at hv
 rw [List.getElem?_map, Option.map_eq_some_iff] at hv
 obtain ⟨x, hx, rfl⟩ := hv
 have hlt := (List.getElem?_eq_some_iff.1 hx).1
 obtain ⟨ad', h1, h2, h3⟩ := h.2 i x (by rw [List.getElem?_append_left hlt]; exact hx)
 cases h1; exact h3
def TextsZ (c pb : Nat) (rd : Bool) (g : List Nat) (bs' : List UInt8) (O : Obj) (ra : Nat) (s0 : PH) (z : MDen [(false, [.slice]), (false, [.int .i64]), (false, [.int .i64])]) (s' : PH) : Prop :=
 ∃ i : Nat, z = (((some ⟨ra, 0, none⟩, 1, 1), ()), (1, ()), ((i : Int), ()), ()) ∧ (i = 0 ∧ s' = s0 ∨ i = 1 ∧ Went c pb rd g bs' O s0 s')
theorem c_wtexts {s : PH} {c pb off ra : Nat} {rd : Bool} {g : List Nat} {bs bs' : List UInt8} {cur ps : Array Value} {e pt : TypeId} {f : Nat × Nat} {t y : ByteArray} (h : Cod s c rd g bs) (hp : s pb = some (.cells cur e (0, 0))) (hne : pb ≠ c) (hpg : pb ∉ g)
  (hra : s ra = some (.cells ps pt f)) (hrc : ra ≠ c) (hrg : ra ∉ g) (hrp : ra ≠ pb) (hps : ps[0]? = some (.pointer (some ⟨pb, off, none⟩))) (hm : cur[off]? = some (.string y))
  (hw : rd = false → y = t) (ha : Adv rd (encT t) bs bs') (hl : bs'.length ≤ 1099511627776) :
  DCalls Tryz.prog 109 #[cptr c, .slice (some ⟨ra, 0, none⟩) 1 1] s (WentQ c pb rd g bs' (.cells (cur.setIfInBounds off (.string t)) e (0, 0)) s) := by
 refine ok_wtexts c (some ⟨ra, 0, none⟩) 1 1 _ s ?_
 unfold vc_wtexts
 simp only [RP_loop]
 refine ⟨TextsZ c pb rd g bs' (.cells (cur.setIfInBounds off (.string t)) e (0, 0)) ra s, fun z _ => ((1 : Int) - z.2.2.1.1).toNat, ⟨0, rfl, .inl ⟨rfl, rfl⟩⟩, ?_⟩
 rintro _ s1 ⟨i, rfl, hi⟩
 simp only [RP_ite, W.br_iff, decide_eq_true_eq, decide_eq_false_iff_not]
 refine ⟨fun hlt => ?_, fun hge => ?_⟩
 rotate_left
 ·rcases hi with ⟨rfl, rfl⟩ | ⟨rfl, hW⟩
  ·exact absurd (by decide) hge
  ·exact ⟨rfl, hW⟩
 obtain ⟨rfl, rfl⟩ : i = 0 ∧ s1 = s := by
  rcases hi with h | ⟨rfl, _⟩
  ·exact h
  ·exact absurd hlt (by decide)
 have hrs := h.g_known
 simp only [RP_guard, W.guard_iff, RP_unSome, W.unSome_some, add_mk, Nat.zero_add, Int.toNat_natCast, Nat.mul_one, RP_ld]
 refine ⟨by omega, ld_blk (c := .ptr) (x := some ⟨pb, off, none⟩) hra hps ?_⟩
 simp only [W.unSome_some]
 refine ld_blk (c := .str) (x := y) hp hm ?_
 simp only [RP_nw]
 refine W.nw_of fun r s2 hr m2 k2 => ?_
 simp only [RP_st]
 refine set_blk0 k2 _ rfl fun s3 k3 m3 => ?_
 have m13 : Fw.Mod [] s1 s3 := m2.fresh m3 (by simp [hr])
 refine W.nw_of fun q s4 hq m4 k4 => ?_
 have hqr : q ≠ r := ne_of_known' k3 hq
 have k3' := m4.at k3 (by simp)
 have m14 := m13.trans m4
 have hqs : s1 q = none := m13.none hq (by simp)
 have hrp' : r ≠ pb := ne_of_known' hp hr
 obtain ⟨b1, ha1, ha2, hb1⟩ := ha.split h.lenB hl
 have hts : t.size ≤ 1099511627776 := by
  rw [← toL_len]
  have h1 := h.lenB
  unfold Adv at ha2
  split at ha2
  ·rw [ha2] at hb1; simp only [List.length_append] at hb1; omega
  ·rw [ha2] at hl; simp only [List.length_append] at hl; omega
 have hyi : ∀ e : rd = false, ((y.size : Nat) : Int) = (t.size : Int) := fun e => by rw [hw e]
 simp only [RP_call]
 refine W.call_of (c_wnums (pb := r) (off := 0) (xs := [(t.size : Int)]) (old := [(y.size : Int)]) (h.new m14) k3' (by rintro rfl; exact h.c_known hr) (fun hx => h.g_known r hx hr) k4 (by rintro rfl; exact h.c_known hqs) (fun hx => h.g_known q hx hqs) hqr
   (by intro i hi; have : i = 0 := by simpa using hi
       subst this; (first | done | rfl)) (by intro i x hx; cases i with
    | zero => simpa using hx
    | succ i => simp at hx) rfl (by simp) (fun e => by rw [hyi e]) (by intro x hx; rw [List.mem_singleton] at hx; subst hx; unfold I64; omega) (by simpa using ha1) hb1) ?_
 rintro _ s5 ⟨rfl, w5⟩
 obtain ⟨g', hC5, hg5, m5, k5⟩ := went_over hr m14 h.g_known w5
 refine ⟨(), rfl, ?_⟩
 obtain ⟨a, n, cp, hI⟩ := id hC5
 have hc5 := hI.cell
 have hp5 : s5 pb = some (.cells cur e (0, 0)) := m5.at hp (by simp; exact ⟨hne, hpg⟩)
 have hpg' : pb ∉ g' := fun hx => (hg5 pb hx).elim hpg (by rw [hp]; simp)
 have hcg := hI.ng
 simp only [W.unSome_some, add_mk, Nat.zero_add]
 refine ld_blk (c := .bool) (x := rd) hc5 rfl ?_
 have hnext : i64.wrap (((0 : Nat) : Int) + 1) = ((1 : Nat) : Int) := by decide
 cases rd with
 | false =>
  have hbs' : bs' = b1 ++ toL t := by simpa [Adv] using ha2
  have hyt := hw rfl
  subst hyt
  obtain ⟨hrow, hrg2⟩ := hI.wrs rfl
  simp only [Bool.not_false, W.br_true, W.unSome_some, add_mk, Nat.zero_add]
  refine ld_blk (c := .slice) (x := (a, n, cp)) hc5 rfl ?_
  simp only [W.unSome_some]
  refine ld_blk (c := .str) (x := y) hp5 hm ?_
  simp only [RP_app]
  have hmax : maxLen = 9223372036854775807 := rfl
  have hn := hrow.len
  have hll : b1.length + y.size ≤ 1099511627776 := by rw [hbs'] at hl; simp only [List.length_append, toL_len] at hl; exact hl
  refine app_rowE (E := u8E) (k := y.size) (ys := toL y) hrow rfl (by rw [flat_u8]; (first | done | rfl)) rfl (toL_len y) (by omega) (by omega) ?_
  intro a' c' s6 hrow6 hm6
  have hcn : c ∉ Fw.blk a := fun hx => hcg (hrg2 _ hx)
  have m56 : Fw.Mod (Fw.blk a) s5 s6 ∧ ∀ x ∈ Fw.blk a', x ∈ Fw.blk a ∨ s5 x = none := by
   rcases hm6 with ⟨rfl, hm⟩ | ⟨g, rfl, hg, hm⟩
   ·exact ⟨hm, fun x hx => .inl hx⟩
   ·exact ⟨hm.mono (by simp), by intro x hx; simp [Fw.blk] at hx; subst hx; exact .inr hg⟩
  obtain ⟨m6, hf6⟩ := m56
  have hc6 := m6.at hc5 hcn
  have hcn' : c ∉ Fw.blk a' := fun hx => (hf6 c hx).elim hcn (by rw [hc5]; simp)
  simp only [W.unSome_some, add_mk, Nat.zero_add]
  refine st_blk (v := .slice a n cp) hc6 rfl rfl ?_
  rw [hnext]
  refine ⟨⟨1, rfl, .inr ⟨rfl, Fw.blk a', ?_, ?_, ?_, ?_⟩⟩, by decide⟩
  ·refine ⟨a', n + y.size, c', PH.upd_same _ _ _, hcn', hl, fun e => by simp at e, fun _ => ⟨?_, fun x hx => hx⟩, fun x hx => ?_⟩
   ·rw [hbs']
    exact hrow6.mod (Mod.upd (L := [c]) (by simp)) (by intro x hx; simp; rintro rfl; exact hcn' hx)
   ·rw [PH.upd_other _ _ (by rintro rfl; exact hcn' hx)]; exact hrow6.known x hx
  ·intro x hx
   rcases hf6 x hx with h | h
   ·exact hg5 x (hrg2 x h)
   ·by_cases hyg : x ∈ c :: g
    ·rcases List.mem_cons.1 hyg with rfl | hyg
     ·exact absurd hx hcn'
     ·exact .inl hyg
    ·exact .inr (m5.none h hyg)
  ·refine Mod.mono (L := c :: g) (Mod.updLater ?_ (.inl (by simp))) (by simp; intro x hx; exact .inr (.inr hx))
   refine m5.fresh m6 fun x hx => ?_
   rcases hg5 x (hrg2 x hx) with h | h
   ·exact .inl (by simp [h])
   ·exact .inr h
  ·rw [PH.upd_other _ _ hne, set_same hm]
   exact m6.at hp5 fun hx => hpg' (hrg2 _ hx)
 | true =>
  have hb1' : b1 = toL t ++ bs' := by simpa [Adv] using ha2
  obtain ⟨hB, hcp⟩ := hI.rds rfl
  have hn : n = t.size + bs'.length := by have := hB.1; rw [hb1', List.length_append, toL_len] at this; exact this
  rw [hb1'] at hB
  simp only [Bool.not_true, W.br_false]
  simp only [RP_join]
  refine W.join_gen (fun z s' => z = ((some ⟨pb, off, none⟩, ()), (Addr.mk r 0 none, ()), ((some ⟨ra, 0, none⟩, 1, 1), ()), (1, ()), (0, ()), (false, ()), ()) ∧ s' = s5) ?_ ?_
  ·rintro _ s5 ⟨rfl, rfl⟩
   simp only [W.br_false, W.unSome_some, add_mk, Nat.zero_add]
   refine ld_blk (c := .slice) (x := (a, n, cp)) hc5 rfl ?_
   refine ld_blk (c := .int .i64) (x := (t.size : Int)) k5 rfl ?_
   refine ⟨⟨by omega, by show (0 : Int) ≤ (t.size : Int); omega, by show (t.size : Int) ≤ (cp : Int); omega⟩, ?_⟩
   simp only [RP_b2s]
   refine ⟨t, ?_, ?_⟩
   ·have hz := hB.cut (cp := cp) hcp 0
    simp only [List.drop_zero, Nat.sub_zero] at hz
    generalize (if cp = 0 then a else Option.map (fun x => x.add 0) a) = A at hz
    have e : ((t.size : Nat) : Int).toNat - 0 = t.size := by omega
    rw [e]
    cases A with
    | none =>
     have : toL t = [] := by
      cases ht : toL t with
      | nil => rfl
      | cons b l => rw [ht] at hz; obtain ⟨ad, h1, _⟩ := hz.2 0 b rfl; cases h1
     show t = .empty
     apply toL_inj; rw [this]; (first | done | rfl)
    | some ad => exact ⟨rfl, has_bytes hz⟩
   simp only [W.unSome_some]
   refine st_blk hp5 hm rfl ?_
   have m6 : Fw.Mod [pb] s5 (s5.upd pb (.cells (cur.setIfInBounds off (.string t)) e (0, 0))) := Mod.upd (by simp)
   obtain ⟨s6, hs6⟩ : ∃ s6, s5.upd pb (.cells (cur.setIfInBounds off (.string t)) e (0, 0)) = s6 := ⟨_, rfl⟩
   have p6 : s6 pb = some (.cells (cur.setIfInBounds off (.string t)) e (0, 0)) := by rw [← hs6]; exact PH.upd_same _ _ _
   rw [hs6] at m6 ⊢
   have hc6 := m6.at hc5 (by simp; exact hne.symm)
   have k6 := m6.at k5 (by simp; exact hrp')
   simp only [W.unSome_some, add_mk, Nat.zero_add]
   refine ld_blk (c := .slice) (x := (a, n, cp)) hc6 rfl ?_
   refine ld_blk (c := .int .i64) (x := (t.size : Int)) k6 rfl ?_
   refine ⟨⟨by show (0 : Int) ≤ (t.size : Int); omega, by show (t.size : Int) ≤ (n : Int); omega, by show (n : Int) ≤ (cp : Int); omega⟩, ?_⟩
   simp only [W.unSome_some, add_mk, Nat.zero_add]
   refine st_blk (v := .slice a n cp) hc6 rfl rfl ?_
   have hcut := hB.cut hcp t.size
   rw [show (toL t ++ bs').drop t.size = bs' by rw [← toL_len, List.drop_left]] at hcut
   rw [show i64.wrap (0 + 1) = ((1 : Nat) : Int) by decide]
   have eT : ((t.size : Nat) : Int).toNat = t.size := by omega
   simp only [Int.toNat_natCast]
   have m7 : ∀ o, Fw.Mod [c] s6 (s6.upd c o) := fun o => Mod.upd (by simp)
   refine ⟨⟨1, rfl, .inr ⟨rfl, g', ?_, hg5, ?_, ?_⟩⟩, by decide⟩
   ·refine ⟨_, _, _, PH.upd_same _ _ _, hcg, hl, fun _ => ⟨?_, by omega⟩, fun e => by simp at e, fun x hx => ?_⟩
    ·exact (hcut.mod m6 (by intro x hx; simp; rintro rfl; exact hpg' hx)).mod (m7 _) (by intro x hx; simp; rintro rfl; exact hcg hx)
    ·rw [m7 _ x (by rw [m6 x (hI.known x hx) (by simp; rintro rfl; exact hpg' hx)]; exact hI.known x hx) (by simp; rintro rfl; exact hcg hx), m6 x (hI.known x hx) (by simp; rintro rfl; exact hpg' hx)]
     exact hI.known x hx
   ·refine Mod.updLater ?_ (.inl (by simp))
    exact (m5.mono (by simp; intro x hx; exact .inr (.inr hx))).trans (m6.mono (by simp))
   ·rw [PH.upd_other _ _ hne]; exact p6
  ·intro J hJ
   simp only [W.unSome_some, add_mk, Nat.zero_add]
   refine ld_blk (c := .bool) (x := false) hc5 rfl ?_
   simp only [W.br_false]
   refine ld_blk (c := .int .i64) (x := (t.size : Int)) k5 rfl ?_
   have hn0 : ¬ ((t.size : Int) < 0) := by omega
   simp only [decide_eq_false hn0, W.br_false]
   refine ld_blk (c := .int .i64) (x := (t.size : Int)) k5 rfl ?_
   simp only [W.unSome_some, add_mk, Nat.zero_add]
   refine ld_blk (c := .slice) (x := (a, n, cp)) hc5 rfl ?_
   refine hJ _ _ ⟨?_, rfl⟩
   have : ¬ ((t.size : Int) > (n : Int)) := by omega
   simp only [decide_eq_false this]
   first | done | rfl
end
section
attribute [-simp] Fw.W.ld_iff Fw.W.st_iff
theorem went_trans {c pb : Nat} {rd : Bool} {g g1 b2 : List _} {O2 : Obj} {s s1 s2 s3 : PH} (hg1 : ∀ x ∈ g1, x ∈ g ∨ s x = none) (m1 : Fw.Mod (c :: pb :: g) s s1) (m12 : Fw.Mod [] s1 s2) (hp : s2 pb ≠ none) (w : Went c pb rd g1 b2 O2 s2 s3) : Went c pb rd g b2 O2 s s3 := by
 obtain ⟨g2, hC, hg2, m, hO⟩ := w
 refine ⟨g2, hC, fun x hx => ?_, ?_, hO⟩
 ·rcases hg2 x hx with h | h
  ·exact hg1 x h
  ·by_cases hL : x ∈ c :: pb :: g
   ·rcases List.mem_cons.1 hL with rfl | hL
    ·exact absurd hx hC.c_ng
    rcases List.mem_cons.1 hL with rfl | hL
    ·exact absurd h hp
    ·exact .inl hL
   ·exact .inr ((m1.fresh m12 (by simp)).none h hL)
 ·refine (m1.fresh m12 (by simp)).fresh m fun y hy => ?_
  rcases List.mem_cons.1 hy with rfl | hy
  ·exact .inl (by simp)
  rcases List.mem_cons.1 hy with rfl | hy
  ·exact .inl (by simp)
  ·exact (hg1 y hy).imp (fun h => by simp [h]) _root_.id
theorem went_over' {c r : Nat} {rd : Bool} {g : List Nat} {b1 : List UInt8} {O : Obj} {s s1 s2 : PH} (h : s r = none) (m1 : Fw.Mod [] s s1) (hg : ∀ x ∈ g, s x ≠ none) (hk : s1 r ≠ none) (w : Went c r rd g b1 O s1 s2) : ∃ g', Cod s2 c rd g' b1 ∧ (∀ x ∈ g', x ∈ g ∨ s x = none) ∧ Fw.Mod (c :: g) s s2 ∧ s2 r = some O ∧ r ∉ g' := by
 obtain ⟨g', h1, h2, h3, h4⟩ := w
 refine ⟨g', h1, fun x hx => (h2 x hx).imp_right fun h => m1.none h (by simp), (show Fw.Mod (c :: g) s s1 from m1.mono (by simp)).fresh h3 ?_, h4, fun hx => (h2 r hx).elim (fun hrg => hg r hrg h) hk⟩
 intro x hx
 simp only [List.mem_cons] at hx
 rcases hx with rfl | rfl | hx
 ·exact .inl (by simp)
 ·exact .inr h
 ·exact .inl (by simp [hx])
theorem Went.ok {c pb : Nat} {rd : Bool} {g b : List _} {O : Obj} {s s' : PH} (w : Went c pb rd g b O s s') (hp : s pb ≠ none) (hpg : pb ∉ g) : ∃ g', Cod s' c rd g' b ∧ (∀ x ∈ g', x ∈ g ∨ s x = none) ∧ Fw.Mod (c :: pb :: g) s s' ∧ s' pb = some O ∧ pb ∉ g' := by
 obtain ⟨g', h1, h2, h3, h4⟩ := w
 exact ⟨g', h1, h2, h3, h4, fun hx => (h2 pb hx).elim hpg hp⟩
def Ent.I (x : Ent) : Prop := I64 x.term ∧ I64 x.at_ ∧ I64 x.born
def encE (x : Ent) : List UInt8 := [x.term, x.at_, x.born].flatMap encN ++ encT x.text
abbrev entCells (x : Ent) : Array Value := #[.int .i64 x.term, .int .i64 x.at_, .int .i64 x.born, .string x.text]
theorem c_wentry {s : PH} {c pb : Nat} {rd : Bool} {g : List Nat} {bs bs' : List UInt8} {e : TypeId} {x old : Ent} (h : Cod s c rd g bs) (hp : s pb = some (.cells (entCells old) e (0, 0))) (hne : pb ≠ c) (hpg : pb ∉ g)
  (hw : rd = false → old = x) (hI : x.I) (ha : Adv rd (encE x) bs bs') (hl : bs'.length ≤ 1099511627776) :
  DCalls Tryz.prog 111 #[cptr c, .pointer (some ⟨pb, 0, none⟩)] s (WentQ c pb rd g bs' (.cells (entCells x) e (0, 0)) s) := by
 refine ok_wentry c ⟨pb, 0, none⟩ _ s ?_
 unfold vc_wentry
 obtain ⟨b1, ha1, ha2, hb1⟩ := ha.split h.lenB hl
 simp only [RP_unSome, W.unSome_some, add_mk, Nat.zero_add, RP_nw]
 refine W.nw_of fun r s1 hr m1 k1 => ?_
 have hrc : r ≠ c := by rintro rfl; exact h.c_known hr
 have hrg : r ∉ g := fun hx => h.g_known r hx hr
 have hrp : r ≠ pb := ne_of_known' hp hr
 simp only [RP_call]
 refine W.call_of (c_wnums (pb := pb) (off := 0) (xs := [x.term, x.at_, x.born]) (old := [old.term, old.at_, old.born]) (h.new m1) (m1.at hp (by simp)) hne hpg k1 hrc hrg hrp ?_ ?_ rfl (by simp) (fun e => by rw [hw e]) ?_ ha1 hb1) ?_
 ·intro i hi
  match i, hi with
  | 0, _ => rfl
  | 1, _ => rfl
  | 2, _ => rfl
  | i + 3, hi => simp at hi; omega
 ·intro i x hx
  match i, hx with
  | 0, hx => simpa using hx
  | 1, hx => simpa using hx
  | 2, hx => simpa using hx
  | i + 3, hx => simp at hx
 ·intro y hy
  obtain ⟨h1, h2, h3⟩ := hI
  simp only [List.mem_cons, List.not_mem_nil, or_false] at hy
  rcases hy with rfl | rfl | rfl <;> assumption
 rintro _ s2 ⟨rfl, w2⟩
 refine ⟨(), rfl, ?_⟩
 obtain ⟨g2, hC2, hg2, m2, k2, hpg2⟩ := w2.ok (by rw [m1.at hp (by simp)]; simp) hpg
 simp only [W.unSome_some, add_mk, Nat.zero_add]
 refine W.nw_of fun q s3 hq m3 k3 => ?_
 have hk2 : s2 pb = some (.cells #[.int .i64 x.term, .int .i64 x.at_, .int .i64 x.born, .string old.text] e (0, 0)) := k2
 have hk3 := m3.at hk2 (by simp)
 have hC3 := hC2.new m3
 refine W.call_of (c_wtexts (pb := pb) (off := 3) (t := x.text) (y := old.text) hC3 hk3 hne hpg2 k3 (by rintro rfl; exact hC2.c_known hq) (fun hx => hC2.g_known q hx hq) (ne_of_known' hk2 hq) rfl rfl (fun e => by rw [hw e]) ha2 hl) ?_
 rintro _ s4 ⟨rfl, w4⟩
 refine ⟨(), rfl, rfl, ?_⟩
 have m02 : Fw.Mod (c :: pb :: g) s s2 := (m1.mono (by simp) : Fw.Mod (c :: pb :: g) s s1).trans m2
 exact went_trans (fun y hy => (hg2 y hy).imp_right fun h => m1.none h (by simp)) m02 m3 (by rw [hk3]; simp) w4
theorem encN_ne (n : Int) : encN n ≠ [] := by
 unfold encN digs; split <;> simp
theorem encE_ne (x : Ent) : encE x ≠ [] := by
 unfold encE; simp only [List.flatMap_cons, List.append_assoc]
 intro h; exact encN_ne _ (List.append_eq_nil_iff.1 h).1
def encL (l : List Ent) : List UInt8 := encN l.length ++ l.flatMap encE
def ItemsQ (c pb off : Nat) (rd : Bool) (g : List Nat) (bs' : List UInt8) (cur : Array Value) (e : TypeId) (t0 : Tri) (l : List Ent) (s : PH) (y : Value) (s' : PH) : Prop :=
 y = .tuple #[] ∧ ∃ (t : Tri) (g' : List Nat), Cod s' c rd g' bs' ∧ (∀ x ∈ g', x ∈ g ∨ s x = none) ∧ Fw.Mod (c :: pb :: g) s s' ∧ s' pb = some (.cells (cur.setIfInBounds off (.slice t.1 t.2.1 t.2.2)) e (0, 0)) ∧ rowE entE s' 43 t.1 t.2.1 t.2.2 l ∧
  (rd = false → t = t0) ∧ (rd = true → ∀ x ∈ Fw.blk t.1, s x = none ∨ x ∈ g) ∧ ∀ x ∈ Fw.blk t.1, x ∉ g'
def ItWZ (c : Nat) (g : List Nat) (bs' : List UInt8) (l : List Ent) (n : Nat) (s0 : PH) (z : MDen [(false, [.int .i64]), (false, [.int .i64])]) (s' : PH) : Prop :=
 ∃ (i : Nat) (b1 : List UInt8) (g1 : List Nat), z = (((n : Int), ()), ((i : Int), ()), ()) ∧ i ≤ n ∧ Cod s' c false g1 b1 ∧ Adv false ((l.drop i).flatMap encE) b1 bs' ∧ (∀ x ∈ g1, x ∈ g ∨ s0 x = none) ∧ Fw.Mod (c :: g) s0 s'
def ItRZ (c pb off : Nat) (g : List Nat) (bs' : List UInt8) (l : List Ent) (cur : Array Value) (e : TypeId) (r : Nat) (s0 : PH) (z : MDen [(false, [.addr]), (false, [.int .i64]), (false, [.int .i64])]) (s' : PH) : Prop :=
 ∃ (i : Nat) (b1 : List UInt8) (g1 : List Nat) (t : Tri), z = ((Addr.mk r 0 none, ()), ((l.length : Int), ()), ((i : Int), ()), ()) ∧ i ≤ l.length ∧ Cod s' c true g1 b1 ∧ Adv true ((l.drop i).flatMap encE) b1 bs' ∧ (∀ x ∈ g1, x ∈ g ∨ s0 x = none) ∧ Fw.Mod (c :: pb :: g) s0 s' ∧
  s' pb = some (.cells (cur.setIfInBounds off (.slice t.1 t.2.1 t.2.2)) e (0, 0)) ∧ rowE entE s' 43 t.1 t.2.1 t.2.2 (l.take i) ∧ (∀ x ∈ Fw.blk t.1, s0 x = none ∨ x ∈ g) ∧ (∀ x ∈ Fw.blk t.1, x ∉ g1) ∧ pb ∉ g1 ∧ s' r = some (.cells #[.int .i64 (l.length : Int)] 3 (0, 0)) ∧ r ∉ g1 ∧ r ∉ Fw.blk t.1
theorem set_blk4 {s : PH} {r : Nat} {c : Array Value} {t : TypeId} {vs : List Value} (k : s r = some (.cells c t (0, 0))) (hs : c.size = vs.length) (hv : vs ≠ []) (K : W.T) (h1 : ∀ v ∈ vs, v.oneCell' = true) (hK : ∀ s', s' r = some (.cells (setL c 0 vs) t (0, 0)) → Fw.Mod [r] s s' → K s') : W.st ⟨r, 0, none⟩ vs K s := by
 cases vs with
 | nil => exact absurd rfl hv
 | cons v vs =>
  rw [W.st_at k]
  exact ⟨by omega, by simp, h1, hK _ (PH.upd_same _ _ _) (Mod.upd (by simp))⟩
theorem row_at4 {s : PH} {t : Tri} {l : List Ent} (h : rowE entE s 43 t.1 t.2.1 t.2.2 l) {i : Nat} {x : Ent} (hx : l[i]? = some x) : ∃ ad, t.1 = some ad ∧ s.has (ad.add (i * 4)) (entE.f x) := by
 obtain ⟨g', hg', hh⟩ := h.at hx
 exact ⟨_, hg', by rw [add_mk, Nat.zero_add]; exact hh⟩
theorem c_witems {s : PH} {c pb off : Nat} {rd : Bool} {g : List Nat} {bs bs' : List UInt8} {cur : Array Value} {e : TypeId} {t0 : Tri} {l : List Ent} (h : Cod s c rd g bs) (hp : s pb = some (.cells cur e (0, 0))) (hne : pb ≠ c) (hpg : pb ∉ g) (hm : cur[off]? = some (.slice t0.1 t0.2.1 t0.2.2))
  (hw : rd = false → rowE entE s 43 t0.1 t0.2.1 t0.2.2 l ∧ ∀ x ∈ Fw.blk t0.1, x ≠ c ∧ x ≠ pb ∧ x ∉ g) (hrd : rd = true → t0 = noTri) (hI : ∀ x ∈ l, x.I) (ha : Adv rd (encL l) bs bs') (hl : bs'.length ≤ 1099511627776) (hll : l.length ≤ 1099511627776) :
  DCalls Tryz.prog 110 #[cptr c, .pointer (some ⟨pb, off, none⟩), .func (.func 111) #[] #[]] s (ItemsQ c pb off rd g bs' cur e t0 l s) := by
 refine ok_witems c ⟨pb, off, none⟩ _ s ?_
 unfold vc_witems
 obtain ⟨b1, ha1, ha2, hb1⟩ := ha.split h.lenB hl
 simp only [RP_unSome, W.unSome_some, add_mk, Nat.zero_add, RP_ld]
 refine ld_blk (c := .slice) (x := t0) hp hm ?_
 simp only [RP_nw, RP_st]
 refine W.nw_of fun r s2 hr m2 k2 => ?_
 refine set_blk0 k2 _ rfl fun s3 k3 m3 => ?_
 have m13 : Fw.Mod [] s s3 := m2.fresh m3 (by simp [hr])
 refine W.nw_of fun q s4 hq m4 k4 => ?_
 have k3' := m4.at k3 (by simp)
 have m14 := m13.trans m4
 have hqs : s q = none := m13.none hq (by simp)
 have hrp : r ≠ pb := ne_of_known' hp hr
 have hrc : r ≠ c := by rintro rfl; exact h.c_known hr
 simp only [RP_call]
 refine W.call_of (c_wnums (pb := r) (off := 0) (xs := [(l.length : Int)]) (old := [(t0.2.1 : Int)]) (h.new m14) k3' hrc (fun hx => h.g_known r hx hr) k4 (by rintro rfl; exact h.c_known hqs) (fun hx => h.g_known q hx hqs) (ne_of_known' k3 hq)
   (by intro i hi; have : i = 0 := by simpa using hi
       subst this; (first | done | rfl)) (by intro i x hx; cases i with
    | zero => simpa using hx
    | succ i => simp at hx) rfl (by simp) (fun e => by rw [(hw e).1.len]) (by intro x hx; rw [List.mem_singleton] at hx; subst hx; unfold I64; omega) (by simpa using ha1) hb1) ?_
 rintro _ s5 ⟨rfl, w5⟩
 obtain ⟨g', hC5, hg5, m5, k5, hrg'⟩ := went_over' hr m14 h.g_known (by rw [k3']; simp) w5
 refine ⟨(), rfl, ?_⟩
 have hp5 : s5 pb = some (.cells cur e (0, 0)) := m5.at hp (by simp; exact ⟨hne, hpg⟩)
 have hpg' : pb ∉ g' := fun hx => (hg5 pb hx).elim hpg (by rw [hp]; simp)
 obtain ⟨a, n, cp, hCI⟩ := id hC5
 have hc5 := hCI.cell
 simp only [W.unSome_some, add_mk, Nat.zero_add]
 refine ld_blk (c := .bool) (x := rd) hc5 rfl ?_
 cases rd with
 | false =>
  obtain ⟨hrow, hap⟩ := hw rfl
  simp only [RP_ite, Bool.not_false, W.br_true, W.unSome_some]
  refine ld_blk (c := .slice) (x := t0) hp5 hm ?_
  have hlen := hrow.len
  simp only [RP_loop]
  refine ⟨ItWZ c g bs' l t0.2.1 s, fun z _ => ((t0.2.1 : Int) - z.2.1.1).toNat, ⟨0, b1, g', rfl, by omega, hC5, ha2, hg5, m5⟩, ?_⟩
  rintro _ s1 ⟨i, b2, g1, rfl, hi, hC, hadv, hg1, m1⟩
  have hp1 : s1 pb = some (.cells cur e (0, 0)) := m1.at hp (by simp; exact ⟨hne, hpg⟩)
  have hrow1 := hrow.mod m1 (by intro x hx; simp; exact ⟨(hap x hx).1, (hap x hx).2.2⟩)
  simp only [W.br_iff, decide_eq_true_eq, decide_eq_false_iff_not]
  refine ⟨fun hlt => ?_, fun hge => ?_⟩
  ·have hlt : i < t0.2.1 := by omega
   obtain ⟨x, hx⟩ : ∃ x, l[i]? = some x := ⟨_, List.getElem?_eq_getElem (by omega)⟩
   rw [drop_some hx, List.flatMap_cons] at hadv
   obtain ⟨b3, ha3, ha4, hb3⟩ := hadv.split hC.lenB hl
   obtain ⟨ad, had, hhas⟩ := row_at4 hrow1 hx
   simp only [W.unSome_some]
   refine ld_blk (c := .slice) (x := t0) hp1 hm ?_
   simp only [RP_guard, W.guard_iff, had, W.unSome_some, Int.toNat_natCast]
   refine ⟨by constructor <;> omega, (x.term, x.at_, x.born, x.text, ()), hhas, ?_⟩
   refine W.nw_of fun r2 s6 hr2 m6 k6 => ?_
   refine set_blk4 (vs := [.int .i64 x.term, .int .i64 x.at_, .int .i64 x.born, .string x.text]) k6 rfl (by simp) _ (by intro v hv; simp at hv; rcases hv with rfl | rfl | rfl | rfl <;> rfl) fun s7 k7 m7 => ?_
   have m17 : Fw.Mod [] s1 s7 := m6.fresh m7 (by simp [hr2])
   have k7' : s7 r2 = some (.cells (entCells x) 43 (0, 0)) := k7
   refine W.call_of (c_wentry (x := x) (old := x) (hC.new m17) k7' (by rintro rfl; exact hC.c_known hr2) (fun hx => hC.g_known r2 hx hr2) (fun _ => rfl) (hI x (List.mem_of_getElem? hx)) ha3 hb3) ?_
   rintro _ s8 ⟨rfl, w8⟩
   obtain ⟨g2, hC8, hg8, m8, k8⟩ := went_over hr2 m17 hC.g_known w8
   refine ⟨(), rfl, ?_⟩
   refine ⟨⟨i + 1, b3, g2, by rw [wrap_succ (by have := hrow.le; omega)], hlt, hC8, ha4, ?_, ?_⟩, ?_⟩
   ·intro y hy
    rcases hg8 y hy with h' | h'
    ·exact hg1 y h'
    ·by_cases hyg : y ∈ c :: g
     ·rcases List.mem_cons.1 hyg with rfl | hyg
      ·exact absurd hy hC8.c_ng
      ·exact .inl hyg
     ·exact .inr (m1.none h' hyg)
   ·refine m1.fresh m8 fun y hy => ?_
    rcases List.mem_cons.1 hy with rfl | hy
    ·exact .inl (by simp)
    ·exact (hg1 y hy).imp (fun h => by simp [h]) _root_.id
   ·rw [wrap_succ (by omega)]
    show ((t0.2.1 : Int) - ((i + 1 : Nat) : Int)).toNat < ((t0.2.1 : Int) - ((i : Nat) : Int)).toNat
    omega
  ·have hii : i = t0.2.1 := by omega
   rw [List.drop_of_length_le (by omega)] at hadv
   have := hadv.nil
   subst this
   refine ⟨rfl, t0, g1, hC, hg1, m1.mono (by simp; intro x hx; exact .inr (.inr hx)), by rw [set_same hm]; exact hp1, hrow1, fun _ => rfl, fun e => (by cases e), fun x hx hxg => ?_⟩
   exact (hg1 x hxg).elim (hap x hx).2.2 (hrow.known x hx)
 | true =>
  obtain rfl := hrd rfl
  simp only [RP_ite, Bool.not_true, W.br_false]
  refine ld_blk (c := .int .i64) (x := (l.length : Int)) k5 rfl ?_
  simp only [RP_loop]
  refine ⟨ItRZ c pb off g bs' l cur e r s, fun z _ => ((l.length : Int) - z.2.2.1.1).toNat, ⟨0, b1, g', noTri, rfl, by omega, hC5, ha2, hg5, m5.mono (by simp; intro x hx; exact .inr (.inr hx)), by rw [set_same hm]; exact hp5, rowE.nil, by simp [Fw.blk], by simp [Fw.blk], hpg', k5, hrg', by simp [Fw.blk]⟩, ?_⟩
  rintro _ s1 ⟨i, b2, g1, t, rfl, hi, hC, hadv, hg1, m1, hp1, hrow1, hf1, hng1, hpg1, k1, hrg1, hrt1⟩
  obtain ⟨a1, n1, cp1, hI1⟩ := id hC
  have hc1 := hI1.cell
  simp only [W.br_iff, decide_eq_true_eq, decide_eq_false_iff_not]
  refine ⟨fun hlt => ?_, fun hge => ?_⟩
  ·have hlt : i < l.length := by omega
   obtain ⟨x, hx⟩ : ∃ x, l[i]? = some x := ⟨_, List.getElem?_eq_getElem hlt⟩
   rw [drop_some hx, List.flatMap_cons] at hadv
   obtain ⟨b3, ha3, ha4, hb3⟩ := hadv.split hC.lenB hl
   simp only [RP_join]
   refine W.join_gen (fun z s' => z = ((Addr.mk r 0 none, ()), ((l.length : Int), ()), ((i : Int), ()), ()) ∧ s' = s1) ?_ ?_
   ·rintro _ s1 ⟨rfl, rfl⟩
    refine W.nw_of fun r2 s6 hr2 m6 k6 => ?_
    have k6' : s6 r2 = some (.cells (entCells ⟨0, 0, 0, ⟨#[]⟩⟩) 43 (0, 0)) := k6
    refine W.call_of (c_wentry (x := x) (hC.new m6) k6' (by rintro rfl; exact hC.c_known hr2) (fun hx => hC.g_known r2 hx hr2) (fun e => by cases e) (hI x (List.mem_of_getElem? hx)) ha3 hb3) ?_
    rintro _ s8 ⟨rfl, w8⟩
    obtain ⟨g2, hC8, hg8, m8, k8⟩ := went_over hr2 m6 hC.g_known w8
    refine ⟨(), rfl, ?_⟩
    have hp8 := m8.at hp1 (by simp; exact ⟨hne, hpg1⟩)
    have hct : c ∉ Fw.blk t.1 := fun hx => (hf1 c hx).elim h.c_known h.c_ng
    have hrow8 := hrow1.mod m8 (by intro y hy; simp; exact ⟨fun e => hct (e ▸ hy), hng1 y hy⟩)
    have hmlt : off < cur.size := (Array.getElem?_eq_some_iff.1 hm).1
    simp only [W.unSome_some]
    refine ld_blk (c := .slice) (x := t) hp8 (by rw [Array.getElem?_setIfInBounds_self_of_lt hmlt]; (first | done | rfl)) ?_
    have hh8 : s8.has ⟨r2, 0, none⟩ (entE.f x) := has_block k8
    refine ⟨(x.term, x.at_, x.born, x.text, ()), hh8, ?_⟩
    refine W.nw_of fun r3 s9 hr3 m9 k9 => ?_
    have hpb8 : s8 pb ≠ none := by rw [hp8]; simp
    have hrow9 := hrow8.mod m9 (by simp)
    have hmax : maxLen = 9223372036854775807 := rfl
    have hlen := hrow8.len
    rw [List.length_take, Nat.min_eq_left hi] at hlen
    have hpt : pb ∉ Fw.blk t.1 := fun hx => (hf1 pb hx).elim (by rw [hp]; simp) hpg
    simp only [RP_app]
    refine app_rowE (E := entE) (k := 1) (ys := [x]) hrow9 rfl (src_has (E := entE) (has_block k9) rfl) rfl rfl (by show t.2.1 + 1 ≤ maxLen; omega) (by show (t.2.1 + 1) * 40 ≤ 140737488355328; omega) ?_
    intro a' c' s10 hrow10 hm10
    have m10 : Fw.Mod (Fw.blk t.1) s9 s10 ∧ ∀ y ∈ Fw.blk a', y ∈ Fw.blk t.1 ∨ s9 y = none := by
     rcases hm10 with ⟨rfl, hm⟩ | ⟨g, rfl, hg, hm⟩
     ·exact ⟨hm, fun x hx => .inl hx⟩
     ·exact ⟨hm.mono (by simp), by intro x hx; simp [Fw.blk] at hx; subst hx; exact .inr hg⟩
    obtain ⟨m10, hf10⟩ := m10
    have hp10 := m10.at (m9.at hp8 (by simp)) hpt
    simp only [W.unSome_some]
    refine st_blk (v := .slice t.1 t.2.1 t.2.2) hp10 (by rw [Array.getElem?_setIfInBounds_self_of_lt hmlt]) rfl ?_
    have hpa : pb ∉ Fw.blk a' := fun hx => (hf10 pb hx).elim hpt (by rw [m9.at hp8 (by simp)]; simp)
    have hset : (cur.setIfInBounds off (.slice t.1 t.2.1 t.2.2)).setIfInBounds off (.slice a' (t.2.1 + 1) c') = cur.setIfInBounds off (.slice a' (t.2.1 + 1) c') := by
     exact Array.setIfInBounds_setIfInBounds _
    rw [hset]
    obtain ⟨s11, hs11⟩ : ∃ s11, s10.upd pb (.cells (cur.setIfInBounds off (.slice a' (t.2.1 + 1) c')) e (0, 0)) = s11 := ⟨_, rfl⟩
    have m11 : Fw.Mod [pb] s10 s11 := by rw [← hs11]; exact Mod.upd (by simp)
    have p11 : s11 pb = some (.cells (cur.setIfInBounds off (.slice a' (t.2.1 + 1) c')) e (0, 0)) := by rw [← hs11]; exact PH.upd_same _ _ _
    rw [hs11]
    have hg2t : ∀ y ∈ Fw.blk t.1, y ∉ g2 := fun y hy hyg => (hg8 y hyg).elim (hng1 y hy) (hrow1.known y hy)
    have hpg2 : pb ∉ g2 := fun hy => (hg8 pb hy).elim hpg1 (by rw [hp1]; simp)
    have hrg2 : r ∉ g2 := fun hy => (hg8 r hy).elim hrg1 (by rw [k1]; simp)
    have hrc1 : r ∉ c :: g1 := by simp; exact ⟨hrc, hrg1⟩
    have k8r := m8.at k1 hrc1
    have k9r := m9.at k8r (by simp)
    have k10r := m10.at k9r hrt1
    have k11r := m11.at k10r (by simp; exact hrp)
    have hra' : r ∉ Fw.blk a' := fun hx => (hf10 r hx).elim hrt1 (by rw [k9r]; simp)
    have hC9 : Cod s9 c true g2 b3 := hC8.new m9
    have hC10 : Cod s10 c true g2 b3 := hC9.mod m10 hct (fun y hy hyt => hg2t y hyt hy)
    have hC11 : Cod s11 c true g2 b3 := hC10.mod m11 (by simp; exact hne.symm) (by intro y hy; simp; rintro rfl; exact hpg2 hy)
    have m08 : Fw.Mod (c :: pb :: g) s s8 := by
     refine m1.fresh m8 fun y hy => ?_
     rcases List.mem_cons.1 hy with rfl | hy
     ·exact .inl (by simp)
     ·exact (hg1 y hy).imp (fun h => by simp [h]) _root_.id
    have m09 := m08.fresh m9 (by simp)
    have m0a : Fw.Mod (c :: pb :: g) s s10 := m09.fresh m10 fun y hy => (hf1 y hy).elim .inr (fun h => .inl (by simp [h]))
    have m0b : Fw.Mod (c :: pb :: g) s s11 := m0a.fresh m11 (by simp)
    refine ⟨⟨i + 1, b3, g2, (a', t.2.1 + 1, c'), by rw [wrap_succ (by omega)], hlt, hC11, ha4, ?_, m0b, p11, ?_, ?_, ?_, hpg2, k11r, hrg2, hra'⟩, ?_⟩
    ·intro y hy
     rcases hg8 y hy with h' | h'
     ·exact hg1 y h'
     ·by_cases hyg : y ∈ c :: pb :: g
      ·rcases List.mem_cons.1 hyg with rfl | hyg
       ·exact absurd hy hC8.c_ng
       rcases List.mem_cons.1 hyg with rfl | hyg
       ·exact absurd hy hpg2
       ·exact .inl hyg
      ·exact .inr (m1.none h' hyg)
    ·rw [List.take_add_one, hx]
     exact hrow10.mod m11 (by intro y hy; simp; rintro rfl; exact hpa hy)
    ·intro y hy
     rcases hf10 y hy with h' | h'
     ·exact hf1 y h'
     ·by_cases hyg : y ∈ c :: pb :: g
      ·rcases List.mem_cons.1 hyg with rfl | hyg
       ·exact absurd h' hC9.c_known
       rcases List.mem_cons.1 hyg with rfl | hyg
       ·rw [m9.at hp8 (by simp)] at h'; cases h'
       ·exact .inr hyg
      ·exact .inl (m09.none h' hyg)
    ·intro y hy hyg
     rcases hf10 y hy with h' | h'
     ·exact hg2t y h' hyg
     ·exact hC9.g_known y hyg h'
    ·rw [wrap_succ (by omega)]
     show ((l.length : Int) - ((i + 1 : Nat) : Int)).toNat < ((l.length : Int) - ((i : Nat) : Int)).toNat
     omega
   ·intro J hJ
    simp only [W.unSome_some, add_mk, Nat.zero_add]
    refine ld_blk (c := .bool) (x := false) hc1 rfl ?_
    simp only [W.br_false, W.unSome_some, add_mk, Nat.zero_add]
    refine ld_blk (c := .slice) (x := (a1, n1, cp1)) hc1 rfl ?_
    have hn1 := (hI1.rds rfl).1.1
    have hb2 : b2 = encE x ++ b3 := by simpa [Adv] using ha3
    have hpos : 0 < (encE x).length := List.length_pos_iff.2 (encE_ne x)
    have hnz : ¬ ((n1 : Int) = 0) := by rw [hb2, List.length_append] at hn1; omega
    have hb : ((n1 : Int) == 0) = false := by simpa using hnz
    simp only [hb, W.br_false]
    exact hJ _ _ ⟨rfl, rfl⟩
  ·have hii : i = l.length := by omega
   subst hii
   rw [List.drop_of_length_le (Nat.le_refl _)] at hadv
   rw [List.take_of_length_le (Nat.le_refl _)] at hrow1
   have := hadv.nil
   subst this
   simp only [W.unSome_some, add_mk, Nat.zero_add]
   refine ld_blk (c := .bool) (x := false) hc1 rfl ?_
   simp only [W.br_false]
   refine ld_blk (c := .int .i64) (x := (l.length : Int)) k1 rfl ?_
   have hn0 : ¬ ((l.length : Int) < 0) := by omega
   simp only [W.unSome_some, decide_eq_false hn0, add_mk, Nat.zero_add]
   refine st_blk (v := .bool false) hc1 rfl rfl ?_
   rw [show (#[Value.slice a1 n1 cp1, Value.bool true, Value.bool false] : Array Value).setIfInBounds 2 (.bool false) = #[Value.slice a1 n1 cp1, Value.bool true, Value.bool false] from rfl, upd_id hc1]
   exact ⟨rfl, t, g1, hC, hg1, m1, hp1, hrow1, fun e => (by cases e), fun _ => hf1, hng1⟩
end
section
attribute [-simp] Fw.W.ld_iff Fw.W.st_iff
def BS.cnt (B : BS) (i : Int) (k : Nat) : Nat := ((List.range k).filter fun (j : Nat) => !((j : Int) == B.id) && decide (i ≤ (B.mat[j]?).getD 0)).length
theorem BS.cnt_succ (B : BS) (i : Int) (k : Nat) : B.cnt i (k + 1) = if (k : Int) ≠ B.id ∧ i ≤ (B.mat[k]?).getD 0 then B.cnt i k + 1 else B.cnt i k := by
 unfold BS.cnt
 rw [List.range_succ, List.filter_append, List.length_append]
 by_cases h : (k : Int) = B.id
 ·simp [h]
 ·have h' : ((k : Int) == B.id) = false := by simpa using h
  by_cases g : i ≤ (B.mat[k]?).getD 0
  ·simp [h, h', g]
  ·simp [h, h', g]
theorem BS.cnt_le (B : BS) (i : Int) (k : Nat) : B.cnt i k ≤ k := by
 unfold BS.cnt
 exact Nat.le_trans (List.length_filter_le _ _) (by simp)
def BS.wins (B : BS) (i : Int) : Bool := ((B.termAt i).1 == B.term) && decide (B.size < 2 * (1 + B.cnt i B.mat.length : Nat))
def BS.best (B : BS) : Nat → Option Int
 | 0 => none
 | d + 1 => if B.wins (B.commit + (d + 1 : Nat)) then some (B.commit + (d + 1 : Nat)) else B.best d
def BS.settled (B : BS) : BS × List Msg := match B.best (B.lst - B.commit).toNat with
 | some i => ({ B with commit := i }, { B with commit := i }.feeds)
 | none => (B, [])
theorem settled_len (B : BS) : B.settled.2.length ≤ B.size.toNat := by
 unfold BS.settled
 split
 ·exact BS.others_len _ _ _
 ·exact Nat.zero_le _
structure BS.Ok (B : BS) : Prop where
 small : B.Small
 base : B.base ≤ 4611686016279904256
 size : 1 ≤ B.size ∧ B.size ≤ 5
 id : 0 ≤ B.id ∧ B.id < B.size
 com : B.base ≤ B.commit
section
variable {s : PH} {b : Nat} {l v n m : Tri} {B : BS}
def SetlPost (B : BS) (b : Nat) (l v n m : Tri) (s : PH) (x : Value) (s' : PH) : Prop := ∃ t ps, x = Tri.v t ∧ Msgs s' t ps ∧ ps.map (·.1) = B.settled.2 ∧ Bal s' b l v n m B.settled.1 ∧ Fw.Mod [b] s s' ∧ ∀ y ∈ mF t ps, s y = none
def SetlZ (B : BS) (s : PH) (z : MDen [(false, [.int .i64])]) (s' : PH) : Prop := ∃ d : Nat, z = ((B.commit + (d : Int), ()), ()) ∧ B.commit + d ≤ B.lst ∧ B.best (B.lst - B.commit).toNat = B.best d ∧ Fw.Mod [] s s'
def CntZ (B : BS) (m : Tri) (i : Int) (s : PH) (z : MDen [(false, [.int .i64]), (false, [.int .i64]), (false, [.slice]), (false, [.int .i64]), (false, [.int .i64])]) (s' : PH) : Prop :=
 ∃ k : Nat, z = ((i, ()), (((1 + B.cnt i k : Nat) : Int), ()), (m, ()), ((m.2.1 : Int), ()), ((k : Int), ()), ()) ∧ k ≤ m.2.1 ∧ s' = s
theorem c_settle (h : Bal s b l v n m B) (hok : B.Ok) (hF : B.Fed) (hm : B.mat.length = B.size.toNat) (hlc : B.commit ≤ B.lst) : DCalls Tryz.prog 74 #[bptr b] s (SetlPost B b l v n m s) := by
 refine ok_settle b _ s ?_
 unfold vc_settle
 have hs := hok.small
 have hnl := num_lst hs hok.base
 have hsz := hok.size
 have hcb := hok.com
 obtain ⟨q1, q2, q3⟩ := id hs
 unfold Num at hnl
 simp only [RP_call]
 refine W.call_of (c_last h hs) ?_
 rintro _ s ⟨rfl, rfl⟩
 refine ⟨((B.lst, ()), ()), rfl, ?_⟩
 simp only [RP_loop]
 refine ⟨SetlZ B s, fun z _ => (z.1.1 - B.commit).toNat, ⟨(B.lst - B.commit).toNat, ?_, by omega, rfl, Mod.refl _ _⟩, ?_⟩
 ·have : B.commit + ((B.lst - B.commit).toNat : Int) = B.lst := by omega
  rw [this]
 rintro _ s1 ⟨d, rfl, hd, hbest, m1⟩
 have hB1 := h.new m1
 have hb1 := hB1.cell
 simp [W.ld_at hb1, W.br_iff]
 refine ⟨fun hlt => ?_, fun hge => ?_⟩
 ·obtain ⟨d', rfl⟩ : ∃ d', d = d' + 1 := ⟨d - 1, by omega⟩
  generalize hi : B.commit + ((d' + 1 : Nat) : Int) = i
  have hi' : B.commit + ((d' : Int) + 1) = i := by omega
  have hml := hB1.mat.len
  refine ⟨CntZ B m i s1, fun z _ => m.2.1 - z.2.2.2.2.1.1.toNat, ⟨0, by simp [BS.cnt], Nat.zero_le _, rfl⟩, ?_⟩
  rintro _ s1 ⟨k, rfl, hk, rfl⟩
  have hcl := B.cnt_le i k
  have hw : i64.wrap ((k : Int) + 1) = ((k + 1 : Nat) : Int) := by rw [wrap_in (by omega) (by omega)]; simp
  have hwc : i64.wrap (((1 + B.cnt i k : Nat) : Int) + 1) = ((1 + (B.cnt i k + 1) : Nat) : Int) := by rw [wrap_in (by omega) (by omega)]; simp; omega
  have hb1' := hB1.cell
  simp [W.br_iff, W.ld_at hb1']
  refine ⟨fun hkn => ⟨hkn, ?_⟩, fun hkn => ?_⟩
  ·obtain ⟨x, hx⟩ : ∃ x, B.mat[k]? = some x := ⟨_, List.getElem?_eq_getElem (by omega)⟩
   obtain ⟨g, hg, hhas⟩ := hB1.mat.at hx
   have hmt : (some (Addr.mk g 0 none), m.2.1, m.2.2) = m := by rw [← hg]
   rw [hg]
   simp only [W.unSome_some, add_mk, Nat.zero_add]
   have hhas : s1.has ⟨g, k, none⟩ [.int .i64 x] := by
    have : k * intE.sz = k := Nat.mul_one _
    rw [this] at hhas; exact hhas
   refine ld_has_z hhas (cs := [.int .i64]) (y := (x, ())) rfl ?_
   simp [W.br_iff, W.ld_at hb1']
   have hgx : (B.mat[k]?).getD 0 = x := by rw [hx]; (first | done | rfl)
   refine ⟨fun hne => ⟨fun hge => ⟨⟨k + 1, ?_, by omega, rfl⟩, by rw [hw]; simp only [Int.toNat_natCast]; omega⟩, fun hlt2 => ⟨⟨k + 1, ?_, by omega, rfl⟩, by rw [hw]; simp only [Int.toNat_natCast]; omega⟩⟩,
    fun he => ⟨⟨k + 1, ?_, by omega, rfl⟩, by rw [hw]; simp only [Int.toNat_natCast]; omega⟩⟩
   ·rw [B.cnt_succ, if_pos ⟨hne, by rw [hgx]; exact hge⟩, hw, ← hwc]; simp; exact hmt
   ·rw [B.cnt_succ, if_neg (by rw [hgx]; omega), hw]; simp; exact hmt
   ·rw [B.cnt_succ, if_neg (by intro h; exact h.1 he), hw]; simp; exact hmt
  ·have hkm : k = B.mat.length := by omega
   refine W.call_of (c_term hB1 hs (i := i) (by unfold Num; omega)) ?_
   rintro _ s2 ⟨rfl, m2⟩
   refine ⟨(((B.termAt i).1, ()), ((B.termAt i).2, ()), ()), rfl, ?_⟩
   have hB2 := hB1.new m2
   have hb2 := hB2.cell
   have m12 := m1.trans m2
   have hwi : i64.wrap (i - 1) = B.commit + (d' : Int) := by rw [wrap_in (by omega) (by omega)]; omega
   have hw2 : i64.wrap (2 * (1 + (B.cnt i k : Int))) = 2 * (1 + (B.cnt i k : Int)) := wrap_in (by omega) (by omega)
   have hno : B.wins i = false → SetlZ B s ((i64.wrap (i - 1), ()), ()) s2 ∧ max (i64.wrap (i - 1) - B.commit) 0 < i - B.commit := by
    intro hwin
    rw [hwi]
    refine ⟨⟨d', rfl, by omega, ?_, m12⟩, by omega⟩
    rw [hbest]
    show (if B.wins (B.commit + ((d' + 1 : Nat) : Int)) then _ else _) = _
    rw [hi, hwin]; (first | done | rfl)
   simp [W.br_iff, W.ld_at hb2, hw2]
   refine ⟨fun ht => ⟨fun hmaj => ?_, fun hmaj => ?_⟩, fun ht => ?_⟩
   ·have hwin : B.wins i = true := by
     unfold BS.wins
     rw [ht, ← hkm]
     simp; omega
    have hset : B.settled = ({ B with commit := i }, { B with commit := i }.feeds) := by
     unfold BS.settled; rw [hbest]
     have : B.best (d' + 1) = some i := by
      show (if B.wins (B.commit + ((d' + 1 : Nat) : Int)) then _ else _) = _
      rw [hi, hwin]; (first | done | rfl)
     rw [this]
    simp [W.st_at hb2]
    have hB3 : Bal (s2.upd b (.cells ({ B with commit := i }.cells l v n m) 101 (0, 0))) b l v n m { B with commit := i } := hB2.lay
    have m3 : Fw.Mod [b] s (s2.upd b (.cells ({ B with commit := i }.cells l v n m) 101 (0, 0))) := (m12.mono (by simp)).updLater (.inl (by simp))
    refine W.call_of (c_othersFeed hB3 ⟨q1, q2, q3⟩ hok.base ⟨by have := hsz.1; show 0 ≤ B.size; omega, hsz.2⟩ ⟨hF.len, hF.rng⟩) ?_
    rintro _ s4 ⟨t, ps, rfl, hms, hps, m4, hf⟩
    refine ⟨((t, ()), ()), rfl, ?_⟩
    refine ⟨t, ps, rfl, hms, by rw [hset]; exact hps, by rw [hset]; exact hB3.new m4, m3.trans (m4.mono (by simp)), fun y hy => ?_⟩
    have hyb : y ≠ b := by rintro rfl; have := hf y hy; rw [PH.upd_same] at this; cases this
    exact m3.none (hf y hy) (by simpa using hyb)
   ·exact hno (by unfold BS.wins; rw [← hkm]; simp; intro _; omega)
   ·exact hno (by unfold BS.wins; simp [ht])
 ·have hd0 : d = 0 := by omega
  subst hd0
  have hset : B.settled = (B, []) := by unfold BS.settled; rw [hbest]; (first | done | rfl)
  refine ⟨noTri, [], rfl, Msgs.nil _, by rw [hset]; (first | done | rfl), by rw [hset]; exact hB1, m1.mono (by simp), by simp [mF, Fw.blk]⟩
def BS.nvotes (B : BS) : Nat := (B.votes.filter _root_.id).length
def BS.lead2 (B : BS) : BS := { B with role := 2, lead := B.id, next := List.replicate B.size.toNat (B.lst + 1), mat := List.replicate B.size.toNat 0 }
def BS.counted (B : BS) : BS × List Msg :=
 if 2 * (B.nvotes : Int) ≤ B.size then (B, []) else
  let B3 := B.lead2.set (B.lst + 1) [{ noEnt with term := B.term }]
  (B3.settled.1, B3.feeds ++ B3.settled.2)
def OpPost (R : BS × List Msg) (b : Nat) (L : List Nat) (s : PH) (x : Value) (s' : PH) : Prop :=
 ∃ t ps l' v' n' m', x = Tri.v t ∧ Bal s' b l' v' n' m' R.1 ∧ Step L (bL b l' v' n' m') s s' ∧ Msgs s' t ps ∧ ps.map (·.1) = R.2 ∧ ∀ y ∈ mF t ps, (y ∈ L ∨ s y = none) ∧ y ∉ bL b l' v' n' m'
theorem mksl_int {k : Nat → W.T} {s : PH} {c : Nat} (hc : c ≤ 1000) (h : ∀ r s1, s r = none → Fw.Mod [] s s1 → rowE intE s1 3 (some ⟨r, 0, none⟩) c c (List.replicate c 0) → k r s1) : W.mksl 3 1 8 [.int .i64 0] (c : Int) (c : Int) k s := by
 refine ⟨by omega, Int.le_refl _, by omega, by omega, fun r hr => ?_⟩
 have hz : Builtin.zeroCells [Value.int .i64 0].toArray ((c : Nat) : Int).toNat = (List.replicate c (Value.int .i64 0)).toArray := zero_one (.int .i64 0) c
 rw [hz]
 refine h r _ hr (Mod.new hr) ⟨by rw [flat_len]; simp [intE], Nat.le_refl _, by show c ≤ 9223372036854775807; omega, .inr ⟨r, _, rfl, PH.upd_same _ _ _, by simp [intE], ?_⟩⟩
 rw [flat_rep]; simp [intE]
theorem lay_rows {s s1 : PH} {t1 t2 : Tri} {x y : List Int} {K : W.T} (h : Bal s b l v n m B) (m1 : Fw.Mod [] s s1) (h1 : rowE intE s1 3 t1.1 t1.2.1 t1.2.2 x) (h2 : rowE intE s1 3 t2.1 t2.2.1 t2.2.2 y)
  (f1 : ∀ z ∈ Fw.blk t1.1, s z = none) (f2 : ∀ z ∈ Fw.blk t2.1, s z = none) (hd : ∀ z ∈ Fw.blk t1.1, z ∉ Fw.blk t2.1) (hK : ∀ s', Bal s' b l v t1 t2 { B with next := x, mat := y } → Step (bL b l v n m) (bL b l v t1 t2) s s' → K s') :
  W.st ⟨b, 13, none⟩ [.slice t1.1 t1.2.1 t1.2.2] (W.unSome (some ⟨b, 0, none⟩) fun p => W.st (p.add 14) [.slice t2.1 t2.2.1 t2.2.2] K) s1 := by
 have hB1 := h.new m1
 have hb1 := hB1.cell
 simp [W.st_at hb1]
 have hbn : s b ≠ none := by rw [h.cell]; simp
 refine hK _ (balOf (B' := { B with next := x, mat := y }) (n' := t1) (m' := t2) hb1 hB1.log hB1.votes h1 h2 hd) ⟨(m1.mono (by simp)).updLater (.inl (by simp [bL])), ?_⟩
 intro z hz
 simp only [bL, List.mem_cons, List.mem_append] at hz ⊢
 rcases hz with hz | hz | hz | hz | hz
 ·exact .inl (.inl hz)
 ·exact .inl (.inr (.inl hz))
 ·exact .inl (.inr (.inr (.inl hz)))
 ·exact .inr (f1 z hz)
 ·exact .inr (f2 z hz)
def VotZ (B : BS) (v : Tri) (s : PH) (z : MDen [(false, [.int .i64]), (false, [.slice]), (false, [.int .i64]), (false, [.int .i64])]) (s' : PH) : Prop :=
 ∃ k : Nat, z = (((((B.votes.take k).filter id).length : Int), ()), (v, ()), ((v.2.1 : Int), ()), ((k : Int), ()), ()) ∧ k ≤ v.2.1 ∧ s' = s
theorem c_counted (h : Bal s b l v n m B) (hok : B.Ok) (hv : B.votes.length = B.size.toNat) (hlc : B.commit ≤ B.lst) (hl1 : B.log.length + 1 ≤ 1073741824) : DCalls Tryz.prog 71 #[bptr b] s (OpPost B.counted b (bL b l v n m) s) := by
 refine ok_counted b _ s ?_
 unfold vc_counted
 have hb := h.cell
 have hs := hok.small
 have hsz := hok.size
 have hvl := h.votes.len
 obtain ⟨q1, q2, q3⟩ := id hs
 simp [W.ld_at hb]
 refine ⟨VotZ B v s, fun z _ => v.2.1 - z.2.2.2.1.1.toNat, ⟨0, rfl, Nat.zero_le _, rfl⟩, ?_⟩
 rintro _ s ⟨k, rfl, hk, rfl⟩
 have hcl : ((B.votes.take k).filter id).length ≤ k := Nat.le_trans (List.length_filter_le _ _) (by simp; omega)
 have hw : i64.wrap ((k : Int) + 1) = ((k + 1 : Nat) : Int) := by rw [wrap_in (by omega) (by omega)]; simp
 have hwc : i64.wrap ((((B.votes.take k).filter id).length : Int) + 1) = ((((B.votes.take k).filter id).length + 1 : Nat) : Int) := by rw [wrap_in (by omega) (by omega)]; simp
 simp [W.br_iff, W.ld_at hb]
 refine ⟨fun hkn => ⟨hkn, ?_⟩, fun hkn => ?_⟩
 ·obtain ⟨x, hx⟩ : ∃ x, B.votes[k]? = some x := ⟨_, List.getElem?_eq_getElem (by omega)⟩
  obtain ⟨g, hg, hhas⟩ := h.votes.at hx
  have hmt : (some (Addr.mk g 0 none), v.2.1, v.2.2) = v := by rw [← hg]
  rw [hg]
  simp only [W.unSome_some, add_mk, Nat.zero_add]
  have hhas : s.has ⟨g, k, none⟩ [.bool x] := by
   have : k * boolE.sz = k := Nat.mul_one _
   rw [this] at hhas; exact hhas
  refine ld_has_z hhas (cs := [.bool]) (y := (x, ())) rfl ?_
  simp only [RP_ite, W.br_iff]
  refine ⟨fun hxt => ⟨⟨k + 1, ?_, by omega, rfl⟩, by rw [hw]; simp only [Int.toNat_natCast]; omega⟩, fun hxf => ⟨⟨k + 1, ?_, by omega, rfl⟩, by rw [hw]; simp only [Int.toNat_natCast]; omega⟩⟩
  ·have hxt : x = true := hxt
   rw [hwc, hw, List.take_add_one, hx, hxt]; simp; exact hmt
  ·have hxf : x = false := hxf
   rw [hw, List.take_add_one, hx, hxf]; simp; exact hmt
 ·have hfull : B.votes.take k = B.votes := List.take_of_length_le (by omega)
  have hnv : ((B.votes.take k).filter id).length = B.nvotes := by rw [hfull]; (first | done | rfl)
  have hnv5 : B.nvotes ≤ 5 := by rw [← hnv]; omega
  rw [hnv]
  have hw2 : i64.wrap (2 * (B.nvotes : Int)) = 2 * (B.nvotes : Int) := wrap_in (by omega) (by omega)
  rw [hw2]
  refine ⟨fun hle => ?_, fun hgt => ?_⟩
  ·have : B.counted = (B, []) := by unfold BS.counted; rw [if_pos hle]
   rw [this]
   exact ⟨noTri, [], l, v, n, m, rfl, h, Step.refl _ _, Msgs.nil _, rfl, by simp [mF, Fw.blk]⟩
  have hcnt : B.counted = ((B.lead2.set (B.lst + 1) [{ noEnt with term := B.term }]).settled.1, (B.lead2.set (B.lst + 1) [{ noEnt with term := B.term }]).feeds ++ (B.lead2.set (B.lst + 1) [{ noEnt with term := B.term }]).settled.2) := by
   unfold BS.counted; rw [if_neg (by omega)]
  simp [W.st_at hb]
  have h2 : Bal (s.upd b (.cells ({ B with role := 2, lead := B.id }.cells l v n m) 101 (0, 0))) b l v n m { B with role := 2, lead := B.id } := h.lay
  have m2 : Fw.Mod [b] s (s.upd b (.cells ({ B with role := 2, lead := B.id }.cells l v n m) 101 (0, 0))) := Mod.upd (by simp)
  generalize hs2 : s.upd b (.cells ({ B with role := 2, lead := B.id }.cells l v n m) 101 (0, 0)) = s2 at h2 m2
  clear hs2
  have hs' : { B with role := 2, lead := B.id }.Small := ⟨q1, q2, q3⟩
  obtain ⟨c, hc⟩ : ∃ c : Nat, B.size = c := ⟨B.size.toNat, by omega⟩
  have hct : B.size.toNat = c := by omega
  have hlst : B.lst = B.base + B.log.length := rfl
  have hbase := hok.base
  refine W.join_gen (fun _ s' => ∃ n' m', Bal s' b l v n' m' B.lead2 ∧ Step (bL b l v n m) (bL b l v n' m') s2 s') ?_ ?_
  ·rintro _ s3 ⟨n', m', h3, st3⟩
   have hwl : i64.wrap (B.lst + 1) = B.lst + 1 := wrap_in (by omega) (by omega)
   have hsm : B.lead2.Small := ⟨q1, q2, q3⟩
   refine W.callQ_of ((B.lst, ()), ()) (c_last h3 hsm) rfl ?_
   have hb3 := h3.cell
   simp [W.ld_at hb3, -W.nw_iff, hwl]
   refine W.nw_of fun r50 s4 hr4 m4 k4 => ?_
   have st1 : Step (bL b l v n m) (bL b l v n' m') s s4 := (Step.trans (L' := bL b l v n m) ⟨m2.mono (by simp [bL]), fun x hx => .inl hx⟩ st3).trans ⟨m4.mono (by simp), fun x hx => .inl hx⟩
   refine W.call_of (c_set (h3.new m4) hsm (i := B.lst + 1) (ys := [{ noEnt with term := B.term }]) (by show B.base < _; omega) (Int.le_refl _) (row_one (E := entE) (x := { noEnt with term := B.term }) k4 rfl).src0 rfl (by omega)) ?_
   rintro _ s5 ⟨l', rfl, h5, st5⟩
   refine ⟨(), rfl, ?_⟩
   have st2 := st1.trans st5
   have hB3s : (B.lead2.set (B.lst + 1) [{ noEnt with term := B.term }]).log.length ≤ B.log.length + 1 := by
    unfold BS.set BS.lead2
    simp only [List.length_append, List.length_take, List.length_cons, List.length_nil]; omega
   have hl3 : (B.lead2.set (B.lst + 1) [{ noEnt with term := B.term }]).log.length = B.log.length + 1 := by
    unfold BS.set BS.lead2
    simp only [List.length_append, List.length_take, List.length_cons, List.length_nil]; omega
   have hlst3 : (B.lead2.set (B.lst + 1) [{ noEnt with term := B.term }]).lst = B.lst + 1 := by
    have e : (B.lead2.set (B.lst + 1) [{ noEnt with term := B.term }]).lst = B.base + ((B.lead2.set (B.lst + 1) [{ noEnt with term := B.term }]).log.length : Int) := rfl
    rw [e, hl3, hlst]; omega
   have hok3 : (B.lead2.set (B.lst + 1) [{ noEnt with term := B.term }]).Ok := ⟨⟨q1, q2, by omega⟩, hbase, hsz, hok.id, hok.com⟩
   have hF3 : (B.lead2.set (B.lst + 1) [{ noEnt with term := B.term }]).Fed := by
    refine ⟨by show (List.replicate _ _).length = _; simp; (first | done | rfl), fun i nx hnx => ?_⟩
    have : (List.replicate B.size.toNat (B.lst + 1))[i]? = some nx := hnx
    rw [List.getElem?_replicate] at this
    split at this
    ·cases this
     right
     rw [hlst3]
     exact ⟨by show B.base < _; omega, by omega⟩
    ·cases this
   have hm3 : (B.lead2.set (B.lst + 1) [{ noEnt with term := B.term }]).mat.length = (B.lead2.set (B.lst + 1) [{ noEnt with term := B.term }]).size.toNat := by show (List.replicate _ _).length = _; simp; (first | done | rfl)
   have hlc3 : (B.lead2.set (B.lst + 1) [{ noEnt with term := B.term }]).commit ≤ (B.lead2.set (B.lst + 1) [{ noEnt with term := B.term }]).lst := by rw [hlst3]; show B.commit ≤ _; omega
   generalize B.lead2.set (B.lst + 1) [{ noEnt with term := B.term }] = B3 at h5 hok3 hF3 hm3 hlc3 hcnt
   rw [hcnt]
   have hz3 := hok3.size
   refine W.call_of (c_othersFeed h5 hok3.small hok3.base ⟨by omega, hz3.2⟩ hF3) ?_
   rintro _ s6 ⟨t1, ps1, rfl, hms1, hps1, m6, hf1⟩
   refine ⟨((t1, ()), ()), rfl, ?_⟩
   have h6 := h5.new m6
   refine W.call_of (c_settle h6 hok3 hF3 hm3 hlc3) ?_
   rintro _ s7 ⟨t2, ps2, rfl, hms2, hps2, h7, m7, hf2⟩
   refine ⟨((t2, ()), ()), rfl, ?_⟩
   have hb1 : ∀ y ∈ mF t1 ps1, y ≠ b := fun y hy e => by subst e; have := hf1 y hy; rw [h5.cell] at this; cases this
   have hms1' := hms1.mod m7 (fun y hy => by simpa using hb1 y hy)
   have st3 : Step (bL b l v n m) (bL b l' v n' m') s s7 := (st2.trans ⟨m6.mono (by simp), fun x hx => .inl hx⟩).trans ⟨m7.mono (by simp [bL]), fun x hx => .inl hx⟩
   have hl1' : t1.2.1 ≤ 5 := by
    have h1 := hms1.row.len
    have h2 := congrArg List.length hps1
    have h3 := B3.others_len (fun to => B3.feedM to ((B3.next[to]?).getD 0)) B3.size.toNat
    simp only [List.length_map] at h2
    have h4 : B3.feeds.length = (B3.others (fun to => B3.feedM to ((B3.next[to]?).getD 0)) B3.size.toNat).length := rfl
    omega
   have hl2' : t2.2.1 ≤ 5 := by
    have h1 := hms2.row.len
    have h2 := congrArg List.length hps2
    have h5 := settled_len B3
    simp only [List.length_map] at h2
    omega
   refine app_msgs (fun y => (y ∈ bL b l v n m ∨ s y = none) ∧ y ∉ bL b l' v n' m') ?_ hms1' hms2 ?_ ?_ ?_ hms1.apart (by omega) (by omega) ?_
   ·intro g hg
    refine ⟨?_, fun hx => h7.known g hx hg⟩
    by_cases hx : g ∈ bL b l v n m
    ·exact .inl hx
    ·exact .inr (st3.mod.none hg hx)
   ·intro y hy
    have h0 := hf1 y hy
    refine ⟨?_, fun hx => h5.known y hx h0⟩
    by_cases hx : y ∈ bL b l v n m
    ·exact .inl hx
    ·exact .inr (st2.mod.none h0 hx)
   ·intro y hy
    have h0 := hf2 y hy
    refine ⟨?_, fun hx => h6.known y hx h0⟩
    by_cases hx : y ∈ bL b l v n m
    ·exact .inl hx
    ·exact .inr (st2.mod.none (m6.none h0 (by simp)) hx)
   ·intro y hy hy'
    exact hms1.known y (by simp [mF, hy']) (hf2 y hy)
   ·intro a' n'' c' s' g1 g2 g3
    have hdis : ∀ x ∈ bL b l' v n' m', x ∉ Fw.blk t1.1 := fun x hx hx' => h5.known x hx (hf1 x (by simp [mF, hx']))
    refine ⟨(a', n'', c'), ps1 ++ ps2, l', v, n', m', rfl, h7.mod g3 hdis, ?_, g1, by rw [List.map_append, hps1, hps2], g2⟩
    refine ⟨fun x h1 h2 => ?_, st3.new⟩
    rw [g3 x ?_ ?_, st3.mod x h1 h2]
    ·rw [st3.mod x h1 h2]; exact h1
    ·intro hx'
     have := hf1 x (by simp [mF, hx'])
     have h3 := st2.mod.none this h2
     exact h1 h3
  ·intro J hJ
   have hb2 := h2.cell
   have hfin : ∀ {s1 : PH} {t1 t2 : Tri}, Fw.Mod [] s2 s1 → rowE intE s1 3 t1.1 t1.2.1 t1.2.2 (List.replicate c (B.lst + 1)) → rowE intE s1 3 t2.1 t2.2.1 t2.2.2 (List.replicate c 0) → (∀ z ∈ Fw.blk t1.1, s2 z = none) → (∀ z ∈ Fw.blk t2.1, s2 z = none) → (∀ z ∈ Fw.blk t1.1, z ∉ Fw.blk t2.1) →
     W.st ⟨b, 13, none⟩ [.slice t1.1 t1.2.1 t1.2.2] (W.unSome (some ⟨b, 0, none⟩) fun p => W.st (p.add 14) [.slice t2.1 t2.2.1 t2.2.2] (J ())) s1 := by
    intro s1 t1 t2 m1 h1 h2' f1 f2 hd
    refine lay_rows h2 m1 h1 h2' f1 f2 hd fun s' hB hst => hJ _ _ ⟨t1, t2, ?_, hst⟩
    have : B.lead2 = { { B with role := 2, lead := B.id } with next := List.replicate c (B.lst + 1), mat := List.replicate c 0 } := by unfold BS.lead2; rw [hct]
    rw [this]; exact hB
   refine W.callQ_of ((B.lst, ()), ()) (c_last h2 hs') rfl ?_
   have hwl : i64.wrap (B.lst + 1) = B.lst + 1 := wrap_in (by omega) (by omega)
   simp [W.ld_at hb2, -W.nw_iff, hwl]
   rw [hc]
   simp only [Int.toNat_natCast]
   have hc1 : 1 ≤ c := by omega
   have hc5 : c ≤ 5 := by omega
   have frs : ∀ {s4 s5 : PH} {x : Nat}, Fw.Mod [] s2 s4 → s4 x = none → s2 x = none := fun m e => m.none e (by simp)
   refine ⟨?_, ?_⟩
   ·refine W.nw_of fun r25 s4 hr4 m4 k4 => ?_
    refine ⟨?_, ?_⟩
    ·refine W.call_of (c_Repeat k4 hc1 hc5) ?_
     rintro _ s5 ⟨t1, rfl, h1, m5, f1⟩
     refine ⟨((t1, ()), ()), rfl, ?_⟩
     have m25 := m4.trans m5
     have hb5 := (h2.new m25).cell
     have f1' : ∀ z ∈ Fw.blk t1.1, s2 z = none := fun z hz => m4.none (f1 z hz) (by simp)
     simp [W.still_at hb5, hc, -W.nw_iff]
     refine ⟨?_, ?_⟩
     ·refine mksl_int (by omega) fun r30 s6 hr6 m6 h6 => ?_
      refine hfin (t2 := (some ⟨r30, 0, none⟩, c, c)) (m25.trans m6) (h1.mod m6 (by simp)) h6 f1' (by simp [Fw.blk]; exact m25.none hr6 (by simp)) (fun z hz => ?_)
      simp [Fw.blk]; rintro rfl; exact h1.known z hz hr6
     ·simp [W.st_at hb5]
      have hdm : ∀ z ∈ Fw.blk t1.1, z ∉ Fw.blk m.1 := fun z hz hz' => h2.mat.known z hz' (f1' z hz)
      have h6 : Bal (s5.upd b (.cells ({ B with role := 2, lead := B.id, next := List.replicate c (B.lst + 1) }.cells l v t1 m) 101 (0, 0))) b l v t1 m { B with role := 2, lead := B.id, next := List.replicate c (B.lst + 1) } :=
       balOf (B' := { B with role := 2, lead := B.id, next := List.replicate c (B.lst + 1) }) hb5 (h2.new m25).log (h2.new m25).votes h1 (h2.new m25).mat hdm
      have m6 : Fw.Mod [b] s2 (s5.upd b (.cells ({ B with role := 2, lead := B.id, next := List.replicate c (B.lst + 1) }.cells l v t1 m) 101 (0, 0))) := (m25.mono (by simp)).updLater (.inl (by simp))
      refine mksl_int (by omega) fun r32 s7 hr7 m7 h7 => ?_
      have h67 := h6.new m7
      have hb7 := h67.cell
      simp [W.st_at hb7]
      have hr2 : s2 r32 = none := by
       have : r32 ≠ b := by rintro rfl; rw [PH.upd_same] at hr7; cases hr7
       exact m6.none hr7 (by simpa using this)
      refine hJ _ _ ⟨t1, (some ⟨r32, 0, none⟩, c, c), ?_, ⟨((m6.trans (m7.mono (by simp))).updLater (.inl (by simp))).mono (by simp [bL]), ?_⟩⟩
      ·have : B.lead2 = { { B with role := 2, lead := B.id } with next := List.replicate c (B.lst + 1), mat := List.replicate c 0 } := by unfold BS.lead2; rw [hct]
       rw [this]
       refine balOf (B' := { B with role := 2, lead := B.id, next := List.replicate c (B.lst + 1), mat := List.replicate c 0 }) (m' := (some ⟨r32, 0, none⟩, c, c)) hb7 h67.log h67.votes h67.next h7 (fun z hz => ?_)
       simp [Fw.blk]; rintro rfl
       exact h6.next.known z hz hr7
      ·intro z hz
       simp only [bL, List.mem_cons, List.mem_append] at hz ⊢
       rcases hz with hz | hz | hz | hz | hz
       ·exact .inl (.inl hz)
       ·exact .inl (.inr (.inl hz))
       ·exact .inl (.inr (.inr (.inl hz)))
       ·exact .inr (f1' z hz)
       ·simp [Fw.blk] at hz; subst hz; exact .inr hr2
    ·refine mksl_int (by omega) fun r34 s5 hr5 m5 h5 => ?_
     have m25 := m4.trans m5
     refine W.call_of (c_Repeat (m5.at k4 (by simp)) hc1 hc5) ?_
     rintro _ s6 ⟨t1, rfl, h1, m6, f1⟩
     refine ⟨((t1, ()), ()), rfl, ?_⟩
     have m26 := m25.trans m6
     have hb6 := (h2.new m26).cell
     simp only [W.still_iff]
     refine ⟨?_, ?_⟩
     ·have := (W.still_at hb6 (.int .i64) [] 1 ((c : Int), ()) (fun _ => True)).2 ⟨by simp [hc], trivial⟩
      exact this.1
     simp only [W.unSome_some, add_mk, Nat.zero_add]
     refine hfin (t2 := (some ⟨r34, 0, none⟩, c, c)) m26 h1 (h5.mod m6 (by simp)) (fun z hz => m25.none (f1 z hz) (by simp)) (by simp [Fw.blk]; exact m4.none hr5 (by simp)) (fun z hz => ?_)
     simp [Fw.blk]; rintro rfl
     have := f1 z hz
     exact h5.known z (by simp [Fw.blk]) this
   ·refine mksl_int (by omega) fun r40 s4 hr4 m4 h4 => ?_
    refine W.nw_of fun r41 s5 hr5 m5 k5 => ?_
    have m25 := m4.trans m5
    refine W.call_of (c_Repeat k5 hc1 hc5) ?_
    rintro _ s6 ⟨t1, rfl, h1, m6, f1⟩
    refine ⟨((t1, ()), ()), rfl, ?_⟩
    have m26 := m25.trans m6
    have hb6 := (h2.new m26).cell
    simp only [W.still_iff]
    refine ⟨?_, ?_⟩
    ·have := (W.still_at hb6 (.int .i64) [] 1 ((c : Int), ()) (fun _ => True)).2 ⟨by simp [hc], trivial⟩
     exact this.1
    simp only [W.unSome_some, add_mk, Nat.zero_add]
    refine hfin (t2 := (some ⟨r40, 0, none⟩, c, c)) m26 h1 ((h4.mod m5 (by simp)).mod m6 (by simp)) (fun z hz => m25.none (f1 z hz) (by simp)) (by simp [Fw.blk]; exact hr4) (fun z hz => ?_)
    simp [Fw.blk]; rintro rfl
    have := f1 z hz
    exact (h4.mod m5 (by simp)).known z (by simp [Fw.blk]) this
end
end
section
attribute [-simp] Fw.W.ld_iff Fw.W.st_iff
def FAR : Int := 1099511627776
def Msg.strange (M : Msg) (id size : Int) : Bool :=
 M.to != id || (M.from_ == id || (decide (M.from_ < 0) || (decide (M.from_ ≥ size) || (decide (M.kind < 1) || (decide (M.kind > 5) || (decide (M.term < 1) || (decide (M.term > FAR) ||
  (decide (M.index < (if M.kind == 4 then -1 else 0)) || (decide (M.index > FAR) || ((decide (M.prev < 0) || decide (M.prev > FAR)) || (decide (M.commit < 0) || decide (M.commit > FAR))))))))))))
section
variable {s : PH} {b : Nat} {l v n m : Tri} {B : BS}
theorem c_strange1 (x : Int) (s : PH) : DCalls Tryz.prog 112 #[.int .i64 x] s fun y s' => y = .bool (decide (x < 0) || decide (x > FAR)) ∧ s' = s := by
 refine ok_strange1 x _ s ?_
 unfold vc_strange1
 simp [W.br_iff, FAR]
 omega
theorem c_strange (h : Bal s b l v n m B) (M : Msg) (t : Tri) : DCalls Tryz.prog 90 #[bptr b, msgV M t] s (ValPost (.bool (M.strange B.id B.size)) s) := by
 refine ok_strange b M.kind M.from_ M.to M.term M.index M.prev M.commit M.good t.1 t.2.1 t.2.2 M.snap _ s ?_
 unfold vc_strange
 simp only [RP_nw]
 refine W.nw_of fun r s1 hr m1 k1 => ?_
 have hb1 := (h.new m1).cell
 have fin : ∀ x, x = M.strange B.id B.size → ValPost (.bool (M.strange B.id B.size)) s (.bool x) s1 := by rintro x rfl; exact ⟨rfl, m1⟩
 simp only [RP_join]
 refine W.join_gen (fun z s' => s' = s1 ∧ z = ((Addr.mk r 0 none, ()), ((if M.kind == 4 then -1 else 0), ()), ())) ?_ ?_
 ·rintro _ s1 ⟨rfl, rfl⟩
  simp only [RP_ld, RP_ite, RP_unSome, RP_ret, RP_call, add_mk, Nat.zero_add, W.ld_at k1, W.ld_at hb1, W.unSome_some, W.br_iff, W.ret_iff]
  have hstr : M.strange B.id B.size = (M.to != B.id || (M.from_ == B.id || (decide (M.from_ < 0) || (decide (M.from_ ≥ B.size) || (decide (M.kind < 1) || (decide (M.kind > 5) || (decide (M.term < 1) || (decide (M.term > FAR) ||
   (decide (M.index < (if M.kind == 4 then -1 else 0)) || (decide (M.index > FAR) || ((decide (M.prev < 0) || decide (M.prev > FAR)) || (decide (M.commit < 0) || decide (M.commit > FAR)))))))))))) ) := rfl
  simp
  refine ⟨fun h1 => fin _ (by rw [hstr]; simp [h1]), fun h1 => ⟨fun h2 => fin _ (by rw [hstr]; simp [h2]), fun h2 => ⟨fun h3 => fin _ (by rw [hstr]; simp [h3]), fun h3 => ⟨fun h4 => fin _ (by rw [hstr]; simp [h4]), fun h4 => ⟨fun h5 => fin _ (by rw [hstr]; simp [h5]), fun h5 => ⟨fun h6 => fin _ (by rw [hstr]; simp [h6]), fun h6 =>
   ⟨fun h7 => fin _ (by rw [hstr]; simp [h7]), fun h7 => ⟨fun h8 => fin _ (by rw [hstr]; simp [h8, FAR]), fun h8 => ⟨fun h9 => fin _ (by rw [hstr]; simp [h9]), fun h9 => ⟨fun h10 => fin _ (by rw [hstr]; simp [h10, FAR]), fun h10 => ?_⟩⟩⟩⟩⟩⟩⟩⟩⟩⟩
  refine W.call_of (c_strange1 M.prev s1) ?_
  rintro _ s1 ⟨rfl, rfl⟩
  generalize hp : (decide (M.prev < 0) || decide (M.prev > FAR)) = bp at hstr
  refine ⟨((bp, ()), ()), rfl, ?_⟩
  simp only [W.br_iff, W.ret_iff, W.ld_at k1]
  refine ⟨fun h11 => fin _ (by have h11 : bp = true := h11; rw [hstr]; simp [h11]), fun h11 => ?_⟩
  have h11 : bp = false := h11
  simp
  refine W.call_of (c_strange1 M.commit s1) ?_
  rintro _ s1 ⟨rfl, rfl⟩
  refine ⟨((decide (M.commit < 0) || decide (M.commit > FAR), ()), ()), rfl, ?_⟩
  refine fin _ ?_
  rw [hstr]
  have e1 : (M.to != B.id) = false := by simpa using h1
  have e2 : (M.from_ == B.id) = false := by simpa using h2
  have e3 : decide (M.from_ < 0) = false := decide_eq_false (by omega)
  have e4 : decide (M.from_ ≥ B.size) = false := decide_eq_false (by omega)
  have e5 : decide (M.kind < 1) = false := decide_eq_false (by omega)
  have e6 : decide (M.kind > 5) = false := decide_eq_false (by omega)
  have e7 : decide (M.term < 1) = false := decide_eq_false (by omega)
  have e8 : decide (M.term > FAR) = false := decide_eq_false (by unfold FAR; omega)
  have e9 : decide (M.index < (if M.kind == 4 then -1 else 0)) = false := decide_eq_false (by simp; exact h9)
  have e10 : decide (M.index > FAR) = false := decide_eq_false (by unfold FAR; omega)
  rw [h11, e1, e2, e3, e4, e5, e6, e7, e8, e9, e10]
  first | done | rfl
 ·intro K hK
  simp [W.br_iff, W.ld_at k1]
  refine ⟨fun h => hK _ _ ⟨rfl, by simp [h]⟩, fun h => hK _ _ ⟨rfl, by simp [h]⟩⟩
def BS.askGood (B : BS) (M : Msg) : Bool := (decide (B.vote < 0) || B.vote == M.from_) && (decide (M.prev > (B.termAt B.lst).1) || (M.prev == (B.termAt B.lst).1 && decide (M.index ≥ B.lst)))
def BS.asked (B : BS) (M : Msg) : BS × List Msg := (if B.askGood M then { B with vote := M.from_, touched := true } else B, [{ B.msg 2 M.from_ with good := B.askGood M }])
def OnePost (B' : BS) (ms : List Msg) (b : Nat) (l v n m : Tri) (s : PH) (x : Value) (s' : PH) : Prop := ∃ t ps, x = Tri.v t ∧ Msgs s' t ps ∧ ps.map (·.1) = ms ∧ Bal s' b l v n m B' ∧ Fw.Mod [b] s s' ∧ ∀ y ∈ mF t ps, s y = none
theorem one_of {s s5 s6 : PH} {M : Msg} {r : Nat} {B' : BS} (h : Bal s5 b l v n m B') (m5 : Fw.Mod [b] s s5) (hb : s b ≠ none) (hr : s5 r = none) (m6 : Fw.Mod [] s5 s6) (k6 : s6 r = some (.cells (msgCells M noTri).toArray 119 (0, 0))) (hl : M.list = []) : OnePost B' [M] b l v n m s (.slice (some ⟨r, 0, none⟩) 1 1) s6 := by
 refine ⟨(some ⟨r, 0, none⟩, 1, 1), [(M, noTri)], rfl, ⟨row_one k6 rfl, ?_⟩, rfl, h.new m6, m5.trans (m6.mono (by simp)), ?_⟩
 ·intro p hp; simp at hp; subst hp; rw [hl]; exact rowE.nil
 ·intro y hy
  simp [mF, Fw.blk] at hy
  subst hy
  refine m5.none hr ?_
  simp; rintro rfl; rw [h.cell] at hr; cases hr
theorem c_asked (h : Bal s b l v n m B) (hok : B.Ok) (M : Msg) (t : Tri) : DCalls Tryz.prog 93 #[bptr b, msgV M t] s (OnePost (B.asked M).1 (B.asked M).2 b l v n m s) := by
 refine ok_asked b M.kind M.from_ M.to M.term M.index M.prev M.commit M.good t.1 t.2.1 t.2.2 M.snap _ s ?_
 unfold vc_asked
 simp only [RP_nw]
 refine W.nw_of fun r s1 hr m1 k1 => ?_
 have hbs : s b ≠ none := by rw [h.cell]; simp
 simp only [RP_call]
 refine W.call_of (c_last (h.new m1) hok.small) ?_
 rintro _ s1 ⟨rfl, rfl⟩
 refine ⟨((B.lst, ()), ()), rfl, ?_⟩
 refine W.call_of (c_term (h.new m1) hok.small (num_lst hok.small hok.base)) ?_
 rintro _ s2 ⟨rfl, m2⟩
 generalize hlt : (B.termAt B.lst).1 = lt
 refine ⟨((lt, ()), ((B.termAt B.lst).2, ()), ()), by rw [← hlt]; (first | done | rfl), ?_⟩
 have k2 := m2.at k1 (by simp)
 simp [W.ld_at k2, -W.nw_iff]
 refine W.call_of (c_msg (h.new (m1.trans m2)) 2 M.from_) ?_
 rintro _ s3 ⟨rfl, m3⟩
 refine ⟨((2, B.id, M.from_, B.term, 0, 0, 0, false, (none, 0, 0), ⟨#[]⟩, ()), ()), rfl, ?_⟩
 have m13 := (m1.trans m2).trans m3
 have k3 := m3.at k2 (by simp)
 refine W.nw_of fun r17 s4 hr4 m4 k4 => ?_
 have hne : r ≠ r17 := ne_of_known k3 hr4
 have hbr : b ≠ r17 := ne_of_known (h.new m13).cell hr4
 have hb4 := ((h.new m13).new m4).cell
 have k34 := m4.at k3 (by simp)
 have hgood : B.askGood M = ((decide (B.vote < 0) || B.vote == M.from_) && (decide (M.prev > lt) || (M.prev == lt && decide (M.index ≥ B.lst)))) := by unfold BS.askGood; rw [hlt]
 have hr17 : s r17 = none := m13.none hr4 (by simp)
 have m14 := m13.trans m4
 -- the answer, good
 have yes : B.askGood M = true → ∀ s5, s5 = ((s4.upd r17 (.cells (msgCells { B.msg 2 M.from_ with good := true } noTri).toArray 119 (0, 0))).upd b (.cells ({ B with vote := M.from_, touched := true }.cells l v n m) 101 (0, 0))) → ∀ r', s5 r' = none →
   OnePost (B.asked M).1 (B.asked M).2 b l v n m s (.slice (some ⟨r', 0, none⟩) 1 1) (s5.upd r' (.cells (msgCells { B.msg 2 M.from_ with good := true } noTri).toArray 119 (0, 0))) := by
  rintro hg s5 rfl r' hr'
  have e : B.asked M = ({ B with vote := M.from_, touched := true }, [{ B.msg 2 M.from_ with good := true }]) := by unfold BS.asked; rw [hg]; (first | done | rfl)
  rw [e]
  exact one_of (((h.new (m14.updLater (.inr hr17)))).lay) (((m14.updLater (.inr hr17)).mono (by simp)).updLater (.inl (by simp))) hbs hr' (Mod.new hr') (PH.upd_same _ _ _) rfl
 have no : B.askGood M = false → ∀ s5, s5 = (s4.upd r17 (.cells (msgCells { B.msg 2 M.from_ with good := false } noTri).toArray 119 (0, 0))) → ∀ r', s5 r' = none →
   OnePost (B.asked M).1 (B.asked M).2 b l v n m s (.slice (some ⟨r', 0, none⟩) 1 1) (s5.upd r' (.cells (msgCells { B.msg 2 M.from_ with good := false } noTri).toArray 119 (0, 0))) := by
  rintro hg s5 rfl r' hr'
  have e : B.asked M = (B, [{ B.msg 2 M.from_ with good := false }]) := by unfold BS.asked; rw [hg]; (first | done | rfl)
  rw [e]
  exact one_of (h.new (m14.updLater (.inr hr17))) ((m14.updLater (.inr hr17)).mono (by simp)) hbs hr' (Mod.new hr') (PH.upd_same _ _ _) rfl
 have k17 : ∀ (c : Array Value) (e : TypeId) (o' : Obj), ((s4.upd r17 (.cells c e (0, 0))).upd b o') r17 = some (.cells c e (0, 0)) := fun c e o' => upd_at (PH.upd_same _ _ _) hbr.symm o'
 have hB17 : ∀ o, Bal (s4.upd r17 o) b l v n m B := fun o => h.new (m14.updLater (.inr hr17))
 have hwn : ∀ x y : Int, ¬ x < y → ¬ x = y → y < x := fun x y h1 h2 => by omega
 have key : (M.prev = lt → ¬ lt < M.prev) := by intro h; omega
 simp [W.st_at k4, fun o => W.ld_at (upd_at hb4 hbr o), fun o => W.ld_at (upd_at k34 hne o), fun o => W.st_at (upd_at hb4 hbr o), fun c e o' => W.ld_at (k17 c e o'), W.br_iff]
 have last : ((decide (B.vote < 0) || B.vote == M.from_) = true) → M.prev = lt → (B.lst ≤ M.index → B.askGood M = true) ∧ (M.index < B.lst → B.askGood M = false) := by
  intro h1 h2
  rw [hgood, h1, h2]
  constructor
  ·intro h3; simp [h3]
  ·intro h3; simp; exact h3
 refine ⟨fun h1 => ⟨fun h2 => yes ?_ _ rfl, fun h2 => ⟨fun h3 => ?_, fun h3 => no ?_ _ rfl⟩⟩, fun h1 => ⟨fun h2 => ⟨fun h3 => yes ?_ _ rfl, fun h3 => ⟨fun h4 => ?_, fun h4 => no ?_ _ rfl⟩⟩, fun h2 => no ?_ _ rfl⟩⟩
 ·rw [hgood]; simp [h1, h2]
 ·have hl := last (by simp [h1]) h3
  refine W.callQ_of ((B.lst, ()), ()) (c_last (hB17 _) hok.small) rfl ?_
  simp [fun o => W.ld_at (upd_at hb4 hbr o), fun o => W.ld_at (upd_at k34 hne o), fun o => W.st_at (upd_at hb4 hbr o), fun c e o' => W.ld_at (k17 c e o'), W.br_iff]
  exact ⟨fun h => by simp only [h, decide_true]; exact yes (hl.1 h) _ rfl, fun h => by have h' : decide (B.lst ≤ M.index) = false := decide_eq_false (by omega)
                                                                                       simp only [h']; exact no (hl.2 h) _ rfl⟩
 ·rw [hgood]; simp [h3]; omega
 ·rw [hgood]; simp [h2, h3]
 ·have hl := last (by simp [h2]) h4
  refine W.callQ_of ((B.lst, ()), ()) (c_last (hB17 _) hok.small) rfl ?_
  simp [fun o => W.ld_at (upd_at hb4 hbr o), fun o => W.ld_at (upd_at k34 hne o), fun o => W.st_at (upd_at hb4 hbr o), fun c e o' => W.ld_at (k17 c e o'), W.br_iff]
  exact ⟨fun h => by simp only [h, decide_true]; exact yes (hl.1 h) _ rfl, fun h => by have h' : decide (B.lst ≤ M.index) = false := decide_eq_false (by omega)
                                                                                       simp only [h']; exact no (hl.2 h) _ rfl⟩
 ·rw [hgood]; simp [h4]; omega
 ·rw [hgood]; simp [h2]; omega
theorem Bal.setVote (h : Bal s b l v n m B) {f : Nat} {x : Bool} (hx : B.votes[f]? = some x) (y : Bool) : ∃ g, v.1 = some ⟨g, 0, none⟩ ∧ g ∈ bL b l v n m ∧
  ∀ K : W.T, (∀ s', Bal s' b l v n m { B with votes := B.votes.set f y } → Fw.Mod [g] s s' → K s') → W.st ⟨g, f, none⟩ [.bool y] K s := by
 obtain ⟨g, hg, _⟩ := h.votes.at hx
 have hgb : g ∈ Fw.blk v.1 := by rw [hg]; simp [Fw.blk]
 refine ⟨g, hg, by simp [bL, hgb], fun K hK => ?_⟩
 have : W.st ⟨g, f * boolE.sz + 0, none⟩ [.bool y] K s := by
  refine h.votes.st hx (x' := y) rfl (by show 0 + 1 ≤ 1; omega) (by simp) (by simp [Value.oneCell']) hg ?_
  intro s' hr hm
  have hdis : ∀ {z}, z ∈ [g] → z ∈ Fw.blk v.1 := fun hz => by simp at hz; subst hz; exact hgb
  refine hK s' ⟨hm.at h.cell fun hz => h.ne.2.1 (hdis hz), h.log.mod hm fun z hz hz' => row_ne3 h.log h.votes (by decide) z (hdis hz') hz, hr, h.next.mod hm fun z hz hz' => row_ne3 h.next h.votes (by decide) z (hdis hz') hz,
   h.mat.mod hm fun z hz hz' => row_ne3 h.mat h.votes (by decide) z (hdis hz') hz, h.nm⟩ hm
 rwa [show f * boolE.sz + 0 = f from by show f * 1 + 0 = f; omega] at this
theorem Bal.getNext (h : Bal s b l v n m B) {f : Nat} {x : Int} (hx : B.next[f]? = some x) : ∃ g, n.1 = some ⟨g, 0, none⟩ ∧ g ∈ bL b l v n m ∧ s.has ⟨g, f, none⟩ [.int .i64 x] ∧
  ∀ (y : Int) (K : W.T), (∀ s', Bal s' b l v n m { B with next := B.next.set f y } → Fw.Mod [g] s s' → K s') → W.st ⟨g, f, none⟩ [.int .i64 y] K s := by
 obtain ⟨g, hg, hh⟩ := h.next.at hx
 have hgb : g ∈ Fw.blk n.1 := by rw [hg]; simp [Fw.blk]
 have e : f * intE.sz = f := Nat.mul_one _
 rw [e] at hh
 refine ⟨g, hg, by simp [bL, hgb], hh, fun y K hK => ?_⟩
 have : W.st ⟨g, f * intE.sz + 0, none⟩ [.int .i64 y] K s := by
  refine h.next.st hx (x' := y) rfl (by show 0 + 1 ≤ 1; omega) (by simp) (by simp [Value.oneCell']) hg ?_
  intro s' hr hm
  have hdis : ∀ {z}, z ∈ [g] → z ∈ Fw.blk n.1 := fun hz => by simp at hz; subst hz; exact hgb
  refine hK s' ⟨hm.at h.cell fun hz => h.ne.2.2.1 (hdis hz), h.log.mod hm fun z hz hz' => row_ne3 h.log h.next (by decide) z (hdis hz') hz, h.votes.mod hm fun z hz hz' => row_ne3 h.votes h.next (by decide) z (hdis hz') hz, hr,
   h.mat.mod hm fun z hz hz' => h.nm z (hdis hz') hz, h.nm⟩ hm
 rwa [e, Nat.add_zero] at this
theorem Bal.getMat (h : Bal s b l v n m B) {f : Nat} {x : Int} (hx : B.mat[f]? = some x) : ∃ g, m.1 = some ⟨g, 0, none⟩ ∧ g ∈ bL b l v n m ∧ s.has ⟨g, f, none⟩ [.int .i64 x] ∧
  ∀ (y : Int) (K : W.T), (∀ s', Bal s' b l v n m { B with mat := B.mat.set f y } → Fw.Mod [g] s s' → K s') → W.st ⟨g, f, none⟩ [.int .i64 y] K s := by
 obtain ⟨g, hg, hh⟩ := h.mat.at hx
 have hgb : g ∈ Fw.blk m.1 := by rw [hg]; simp [Fw.blk]
 have e : f * intE.sz = f := Nat.mul_one _
 rw [e] at hh
 refine ⟨g, hg, by simp [bL, hgb], hh, fun y K hK => ?_⟩
 have : W.st ⟨g, f * intE.sz + 0, none⟩ [.int .i64 y] K s := by
  refine h.mat.st hx (x' := y) rfl (by show 0 + 1 ≤ 1; omega) (by simp) (by simp [Value.oneCell']) hg ?_
  intro s' hr hm
  have hdis : ∀ {z}, z ∈ [g] → z ∈ Fw.blk m.1 := fun hz => by simp at hz; subst hz; exact hgb
  refine hK s' ⟨hm.at h.cell fun hz => h.ne.2.2.2 (hdis hz), h.log.mod hm fun z hz hz' => row_ne3 h.log h.mat (by decide) z (hdis hz') hz, h.votes.mod hm fun z hz hz' => row_ne3 h.votes h.mat (by decide) z (hdis hz') hz,
   h.next.mod hm fun z hz hz' => h.nm z hz (hdis hz'), hr, h.nm⟩ hm
 rwa [e, Nat.add_zero] at this
def BS.voted (B : BS) (M : Msg) : BS × List Msg := if B.role ≠ 1 ∨ M.good = false then (B, []) else { B with votes := B.votes.set M.from_.toNat true }.counted
theorem OpPost.start {R : BS × List Msg} {L L' : List Nat} {s0 : PH} {x : Value} {s' : PH} (h : OpPost R b L' s x s') (st : Step L L' s0 s) : OpPost R b L s0 x s' := by
 obtain ⟨t, ps, l', v', n', m', h1, h2, h3, h4, h5, h6⟩ := h
 refine ⟨t, ps, l', v', n', m', h1, h2, st.trans h3, h4, h5, fun y hy => ⟨?_, (h6 y hy).2⟩⟩
 rcases (h6 y hy).1 with g | g
 ·exact st.new y g
 ·by_cases hl : y ∈ L
  ·exact .inl hl
  ·exact .inr (st.mod.none g hl)
theorem OpPost.noMsgs {B' : BS} {L : List Nat} {s0 s' : PH} {l v n m : Tri} (h : Bal s' b l v n m B') (st : Step L (bL b l v n m) s0 s') : OpPost (B', []) b L s0 (.slice none 0 0) s' :=
 ⟨noTri, [], l, v, n, m, rfl, h, st, Msgs.nil _, rfl, by simp [mF, Fw.blk]⟩
theorem c_voted (h : Bal s b l v n m B) (hok : B.Ok) (hv : B.role = 1 → B.votes.length = B.size.toNat) (hlc : B.commit ≤ B.lst) (hl1 : B.log.length + 1 ≤ 1073741824) (M : Msg) (t : Tri) (hf0 : 0 ≤ M.from_) (hf1 : M.from_ < B.size) :
  DCalls Tryz.prog 94 #[bptr b, msgV M t] s (OpPost (B.voted M) b (bL b l v n m) s) := by
 refine ok_voted b M.kind M.from_ M.to M.term M.index M.prev M.commit M.good t.1 t.2.1 t.2.2 M.snap _ s ?_
 unfold vc_voted
 simp only [RP_nw]
 refine W.nw_of fun r s1 hr m1 k1 => ?_
 have h1 := h.new m1
 have hb1 := h1.cell
 have st1 : Step (bL b l v n m) (bL b l v n m) s s1 := ⟨m1.mono (by simp), fun x hx => .inl hx⟩
 have no : (B.role ≠ 1 ∨ M.good = false) → OpPost (B.voted M) b (bL b l v n m) s (.slice none 0 0) s1 := by
  intro hc
  have : B.voted M = (B, []) := by unfold BS.voted; rw [if_pos hc]
  rw [this]; exact OpPost.noMsgs h1 st1
 simp only [RP_join]
 refine W.join_gen (fun z s' => s' = s1 ∧ z = ((Addr.mk r 0 none, ()), ()) ∧ B.role = 1 ∧ M.good = true) ?_ ?_
 ·rintro _ s1 ⟨rfl, rfl, hr1, hg⟩
  have hvl := hv hr1
  obtain ⟨f, hf⟩ : ∃ f : Nat, M.from_ = f := ⟨M.from_.toNat, by omega⟩
  obtain ⟨x, hx⟩ : ∃ x, B.votes[f]? = some x := ⟨_, List.getElem?_eq_getElem (by omega)⟩
  obtain ⟨g, hgv, hgm, hst⟩ := h1.setVote hx true
  have hvn := h1.votes.len
  simp [W.ld_at hb1, W.ld_at k1, hf]
  refine ⟨by omega, ?_⟩
  rw [hgv]
  simp only [W.unSome_some, add_mk, Nat.zero_add]
  refine hst _ fun s2 h2 m2 => ?_
  have hvd : B.voted M = { B with votes := B.votes.set f true }.counted := by
   unfold BS.voted
   rw [if_neg (by rw [hr1, hg]; simp), hf]; (first | done | rfl)
  have st2 : Step (bL b l v n m) (bL b l v n m) s s2 := st1.trans ⟨m2.mono (by simpa using hgm), fun x hx => .inl hx⟩
  refine W.call_of (c_counted h2 ⟨⟨hok.small.base0, hok.small.base1, hok.small.log1⟩, hok.base, hok.size, hok.id, hok.com⟩ (by show (B.votes.set f true).length = _; simp [hvl]) hlc hl1) ?_
  rintro x s3 hp
  obtain ⟨t', ps, l', v', n', m', rfl, q⟩ := hp
  refine ⟨((t', ()), ()), rfl, ?_⟩
  rw [hvd]
  exact OpPost.start ⟨t', ps, l', v', n', m', rfl, q⟩ st2
 ·intro K hK
  simp [W.ld_at hb1, W.ld_at k1, W.br_iff]
  refine ⟨fun h => no (.inl h), fun h => ⟨fun hg => no (.inr hg), fun hg => hK _ _ ⟨rfl, rfl, h, hg⟩⟩⟩
end
end
section
attribute [-simp] Fw.W.ld_iff Fw.W.st_iff
def mx (a b : Int) : Int := if b > a then b else a
def mn (a b : Int) : Int := if b < a then b else a
structure BS.Ldr (B : BS) : Prop where
 nlen : B.next.length = B.size.toNat
 mlen : B.mat.length = B.size.toNat
 nr : ∀ (i : Nat) x, B.next[i]? = some x → 0 ≤ x ∧ x ≤ B.lst + 1
 mr : ∀ (i : Nat) x, B.mat[i]? = some x → 0 ≤ x ∧ x ≤ B.lst
theorem BS.Ldr.fed {B : BS} (h : B.Ldr) : B.Fed := ⟨h.nlen, fun i nx hn => by have := (h.nr i nx hn).2; omega⟩
def BS.nx (B : BS) (f : Nat) : Int := (B.next[f]?).getD 0
def BS.mt (B : BS) (f : Nat) : Int := (B.mat[f]?).getD 0
def BS.unfed (B : BS) (f : Nat) (i : Int) : BS := { B with next := B.next.set f (mx (B.mt f + 1) (mn (B.nx f - 1) (i + 1))) }
def BS.fedTo (B : BS) (f : Nat) (i : Int) : BS := { B with mat := B.mat.set f (mx (B.mt f) (mn i B.lst)), next := B.next.set f (mx (B.mt f) (mn i B.lst) + 1) }
def BS.heard (B : BS) (M : Msg) : BS × List Msg :=
 if B.role ≠ 2 then (B, []) else
 let f := M.from_.toNat
 if M.good = false then (B.unfed f M.index, [(B.unfed f M.index).feedM M.from_ ((B.unfed f M.index).nx f)])
 else
  let R := (B.fedTo f M.index).settled
  if R.1.mt f > B.mt f ∧ R.1.nx f ≤ R.1.lst then (R.1, R.2 ++ [R.1.feedM M.from_ (R.1.nx f)]) else R
theorem BS.Ldr.unfed {B : BS} (h : B.Ldr) {f : Nat} (hf : f < B.size.toNat) (i : Int) : (B.unfed f i).Ldr := by
 refine ⟨by show (B.next.set _ _).length = _; rw [List.length_set]; exact h.nlen, h.mlen, fun j x hx => ?_, h.mr⟩
 have hx : (B.next.set f (mx (B.mt f + 1) (mn (B.nx f - 1) (i + 1))))[j]? = some x := hx
 show 0 ≤ x ∧ x ≤ B.lst + 1
 rw [List.getElem?_set] at hx
 split at hx
 ·split at hx
  ·cases hx
   have h1 : B.mat[f]? = some (B.mt f) := by unfold BS.mt; rw [List.getElem?_eq_getElem (by rw [h.mlen]; exact hf)]; (first | done | rfl)
   have h2 : B.next[f]? = some (B.nx f) := by unfold BS.nx; rw [List.getElem?_eq_getElem (by rw [h.nlen]; exact hf)]; (first | done | rfl)
   have g1 := h.mr _ _ h1
   have g2 := h.nr _ _ h2
   unfold mx mn
   repeat' split
   all_goals omega
  ·cases hx
 ·exact h.nr j x hx
theorem BS.Ldr.fedTo {B : BS} (h : B.Ldr) {f : Nat} (hf : f < B.size.toNat) (i : Int) (hl : 0 ≤ B.lst) : (B.fedTo f i).Ldr := by
 have h1 : B.mat[f]? = some (B.mt f) := by unfold BS.mt; rw [List.getElem?_eq_getElem (by rw [h.mlen]; exact hf)]; (first | done | rfl)
 have g1 := h.mr _ _ h1
 have hb : 0 ≤ mx (B.mt f) (mn i B.lst) ∧ mx (B.mt f) (mn i B.lst) ≤ B.lst := by
  unfold mx mn
  repeat' split
  all_goals omega
 refine ⟨by show (B.next.set _ _).length = _; rw [List.length_set]; exact h.nlen, by show (B.mat.set _ _).length = _; rw [List.length_set]; exact h.mlen, fun j x hx => ?_, fun j x hx => ?_⟩
 ·have hx : (B.next.set f (mx (B.mt f) (mn i B.lst) + 1))[j]? = some x := hx
  show 0 ≤ x ∧ x ≤ B.lst + 1
  rw [List.getElem?_set] at hx
  split at hx
  ·split at hx
   ·cases hx; omega
   ·cases hx
  ·exact h.nr j x hx
 ·have hx : (B.mat.set f (mx (B.mt f) (mn i B.lst)))[j]? = some x := hx
  show 0 ≤ x ∧ x ≤ B.lst
  rw [List.getElem?_set] at hx
  split at hx
  ·split at hx
   ·cases hx; omega
   ·cases hx
  ·exact h.mr j x hx
section
variable {s : PH} {b : Nat} {l v n m : Tri} {B : BS}
theorem op_one {s0 s2 s3 s4 : PH} {B2 : BS} {M2 : Msg} {t' : Tri} {r : Nat} (h2 : Bal s2 b l v n m B2) {L : List Nat} (st : Step L (bL b l v n m) s0 s2) (m3 : Fw.Mod [] s2 s3) (hrow : rowE entE s3 43 t'.1 t'.2.1 t'.2.2 M2.list) (hf : ∀ y ∈ Fw.blk t'.1, s2 y = none)
  (hr : s3 r = none) (m4 : Fw.Mod [] s3 s4) (k4 : s4 r = some (.cells (msgCells M2 t').toArray 119 (0, 0))) : OpPost (B2, [M2]) b L s0 (.slice (some ⟨r, 0, none⟩) 1 1) s4 := by
 have m24 := m3.trans m4
 refine ⟨(some ⟨r, 0, none⟩, 1, 1), [(M2, t')], l, v, n, m, rfl, h2.new m24, st.trans ⟨m24.mono (by simp), fun x hx => .inl hx⟩, ⟨row_one k4 rfl, fun p hp => by simp at hp; subst hp; exact hrow.mod m4 (by simp)⟩, rfl, ?_⟩
 intro y hy
 have hy2 : s2 y = none := by
  simp [mF, Fw.blk] at hy
  rcases hy with rfl | hy
  ·exact m3.none hr (by simp)
  ·exact hf y (by simpa [Fw.blk] using hy)
 refine ⟨?_, fun hx => h2.known y hx hy2⟩
 by_cases hl : y ∈ L
 ·exact .inl hl
 ·exact .inr (st.mod.none hy2 hl)
theorem push_msg2 {s1 s2 : PH} {t t' : Tri} {ps : List (Msg × Tri)} {M : Msg} (Fr : Nat → Prop) (hFr : ∀ g, s1 g = none → Fr g) (h : Msgs s1 t ps) (hf : ∀ y ∈ mF t ps, Fr y) (hrow : rowE entE s2 43 t'.1 t'.2.1 t'.2.2 M.list) (m2 : Fw.Mod [] s1 s2) (hf' : ∀ y ∈ Fw.blk t'.1, s1 y = none) (hc : t.2.1 ≤ 1000)
  {K : Option Addr → Nat → Nat → W.T} (hK : ∀ a n c s', Msgs s' (a, n, c) (ps ++ [(M, t')]) → Fw.Mod (Fw.blk t.1) s1 s' → (∀ y ∈ mF (a, n, c) (ps ++ [(M, t')]), Fr y) → K a n c s') :
  W.nw (.cells (msgCells M t').toArray 119 (0, 0)) (fun r => W.app 119 10 104 zeroMsg t.1 t.2.1 t.2.2 (.sl (some ⟨r, 0, none⟩) 1) K) s2 := by
 refine W.nw_of fun r s3 hr m3 k3 => ?_
 have m23 := m2.trans m3
 have hms : Msgs s3 (some ⟨r, 0, none⟩, 1, 1) [(M, t')] := ⟨row_one k3 rfl, fun p hp => by simp at hp; subst hp; exact hrow.mod m3 (by simp)⟩
 have hd : ∀ y ∈ mF (some ⟨r, 0, none⟩, 1, 1) [(M, t')], s1 y = none := by
  intro y hy
  simp [mF, Fw.blk] at hy
  rcases hy with rfl | hy
  ·exact m2.none hr (by simp)
  ·exact hf' y (by simpa [Fw.blk] using hy)
 exact app_msgs Fr (fun g hg => hFr g (m23.none hg (by simp))) (h.mod m23 (by simp)) hms hf (fun y hy => hFr y (hd y hy)) (fun y hy hy' => (h.known y (by simp [mF, hy'])) (hd y hy)) h.apart hc (by show 1 ≤ 1000; omega)
  fun a n c s' g1 g2 g3 => hK a n c s' g1 ((m23.mono (by simp)).trans g3) g2
theorem c_heard (h : Bal s b l v n m B) (hok : B.Ok) (hL : B.role = 2 → B.Ldr) (hlc : B.commit ≤ B.lst) (M : Msg) (t : Tri) (hf0 : 0 ≤ M.from_) (hf1 : M.from_ < B.size) (hi : -1 ≤ M.index ∧ M.index ≤ FAR) :
  DCalls Tryz.prog 96 #[bptr b, msgV M t] s (OpPost (B.heard M) b (bL b l v n m) s) := by
 refine ok_heard b M.kind M.from_ M.to M.term M.index M.prev M.commit M.good t.1 t.2.1 t.2.2 M.snap _ s ?_
 unfold vc_heard
 simp only [RP_nw]
 refine W.nw_of fun r s1 hr m1 k1 => ?_
 have h1 := h.new m1
 have hb1 := h1.cell
 have hbr : b ≠ r := ne_of_known h.cell hr
 have st1 : Step (bL b l v n m) (bL b l v n m) s s1 := ⟨m1.mono (by simp), fun x hx => .inl hx⟩
 have hs := hok.small
 obtain ⟨q1, q2, q3⟩ := id hs
 have hnl := num_lst hs hok.base
 unfold Num at hnl
 unfold FAR at hi
 simp [W.ld_at hb1, W.ld_at k1, W.br_iff, -W.nw_iff]
 refine ⟨fun hrole => ?_, fun hrole => ?_⟩
 ·have : B.heard M = (B, []) := by unfold BS.heard; rw [if_pos hrole]
  rw [this]; exact OpPost.noMsgs h1 st1
 have hL := hL hrole
 obtain ⟨f, hf⟩ : ∃ f : Nat, M.from_ = f := ⟨M.from_.toNat, by omega⟩
 have hfs : f < B.size.toNat := by omega
 have hnx : B.next[f]? = some (B.nx f) := by unfold BS.nx; rw [List.getElem?_eq_getElem (by rw [hL.nlen]; exact hfs)]; (first | done | rfl)
 have hmt : B.mat[f]? = some (B.mt f) := by unfold BS.mt; rw [List.getElem?_eq_getElem (by rw [hL.mlen]; exact hfs)]; (first | done | rfl)
 have gn := hL.nr _ _ hnx
 have gm := hL.mr _ _ hmt
 have hnn := h1.next.len
 have hmn := h1.mat.len
 obtain ⟨g, hg, hgm, hhas, hst⟩ := h1.getNext hnx
 obtain ⟨g2, hg2, hgm2, hhas2, hst2⟩ := h1.getMat hmt
 have hn1 := hL.nlen
 have hm1 := hL.mlen
 refine ⟨fun hgood => ?_, fun hgood => ?_⟩
 ·rw [hf]
  refine ⟨by omega, ?_⟩
  rw [hg2]
  simp only [W.unSome_some, add_mk, Nat.zero_add, Int.toNat_natCast]
  refine ld_has_z hhas2 (cs := [.int .i64]) (y := (B.mt f, ())) rfl ?_
  simp [W.ld_at hb1, -W.nw_iff]
  refine ⟨by omega, ?_⟩
  rw [hg]
  simp only [W.unSome_some, add_mk, Nat.zero_add]
  refine ld_has_z hhas (cs := [.int .i64]) (y := (B.nx f, ())) rfl ?_
  simp [W.ld_at k1, -W.nw_iff]
  refine ⟨by omega, ?_⟩
  have e1 : i64.wrap (M.index + 1) = M.index + 1 := wrap_in (by omega) (by omega)
  have e2 : i64.wrap (B.nx f - 1) = B.nx f - 1 := wrap_in (by omega) (by omega)
  have e3 : i64.wrap (B.mt f + 1) = B.mt f + 1 := wrap_in (by omega) (by omega)
  rw [e1, e2, e3]
  have e4 : (if B.mt f + 1 < (if M.index + 1 < B.nx f - 1 then M.index + 1 else B.nx f - 1) then (if M.index + 1 < B.nx f - 1 then M.index + 1 else B.nx f - 1) else B.mt f + 1) = mx (B.mt f + 1) (mn (B.nx f - 1) (M.index + 1)) := by unfold mx mn; (first | done | rfl)
  rw [e4]
  refine hst _ _ fun s2 h2 m2 => ?_
  have h2 : Bal s2 b l v n m (B.unfed f M.index) := h2
  have hL2 := hL.unfed hfs M.index
  have st2 : Step (bL b l v n m) (bL b l v n m) s s2 := st1.trans ⟨m2.mono (by simpa using hgm), fun x hx => .inl hx⟩
  have hnx2 : (B.unfed f M.index).next[f]? = some ((B.unfed f M.index).nx f) := by unfold BS.nx; rw [List.getElem?_eq_getElem (by rw [hL2.nlen]; exact hfs)]; (first | done | rfl)
  have hh : B.heard M = (B.unfed f M.index, [(B.unfed f M.index).feedM M.from_ ((B.unfed f M.index).nx f)]) := by
   unfold BS.heard
   rw [if_neg (by simp [hrole])]
   simp only [hgood, if_true, hf, Int.toNat_natCast]
  rw [hh, hf]
  have hs2 : (B.unfed f M.index).Small := ⟨q1, q2, q3⟩
  have hbb : (B.unfed f M.index).base ≤ 4611686016279904256 := hok.base
  generalize B.unfed f M.index = B2 at h2 hL2 hnx2 hs2 hbb
  refine W.call_of (c_feed h2 hs2 hbb hnx2 (hL2.fed.rng f _ hnx2)) ?_
  rintro _ s3 ⟨t', rfl, hrow, m3, hf'⟩
  generalize B2.feedM f (B2.nx f) = M2 at hrow
  refine ⟨((M2.kind, M2.from_, M2.to, M2.term, M2.index, M2.prev, M2.commit, M2.good, t', M2.snap, ()), ()), rfl, ?_⟩
  refine W.nw_of fun r35 s4 hr4 m4 k4 => ?_
  exact op_one h2 st2 m3 hrow hf' hr4 m4 k4
 ·rw [hf]
  refine ⟨by omega, ?_⟩
  rw [hg2]
  simp only [W.unSome_some, add_mk, Nat.zero_add, Int.toNat_natCast]
  refine ld_has_z hhas2 (cs := [.int .i64]) (y := (B.mt f, ())) rfl ?_
  simp [W.ld_at hb1, W.ld_at k1, -W.nw_iff]
  refine W.callQ_of ((B.lst, ()), ()) (c_last h1 hs) rfl ?_
  simp [W.ld_at hb1, W.ld_at k1, -W.nw_iff]
  refine ⟨by omega, ?_⟩
  rw [hg2]
  have e4 : (if B.mt f < (if B.lst < M.index then B.lst else M.index) then (if B.lst < M.index then B.lst else M.index) else B.mt f) = mx (B.mt f) (mn M.index B.lst) := by unfold mx mn; (first | done | rfl)
  simp only [W.unSome_some, add_mk, Nat.zero_add, e4]
  refine hst2 _ _ fun s2 h2 m2 => ?_
  have hb2 := h2.cell
  obtain ⟨g3, hg3, hgm3, hhas3, hst3⟩ := h2.getNext (f := f) (x := B.nx f) hnx
  obtain ⟨g4, hg4, hgm4, hhas4, hst4⟩ := h2.getMat (f := f) (x := mx (B.mt f) (mn M.index B.lst)) (by show (B.mat.set f _)[f]? = _; rw [List.getElem?_set_self (by omega)])
  simp [W.ld_at hb2, -W.nw_iff]
  refine ⟨by omega, ?_⟩
  rw [hg4]
  simp only [W.unSome_some, add_mk, Nat.zero_add]
  refine ld_has_z hhas4 (cs := [.int .i64]) (y := (mx (B.mt f) (mn M.index B.lst), ())) rfl ?_
  simp only [W.guard_iff]
  refine ⟨by omega, ?_⟩
  rw [hg3]
  have hb5 : 0 ≤ mx (B.mt f) (mn M.index B.lst) ∧ mx (B.mt f) (mn M.index B.lst) ≤ B.lst := by
   unfold mx mn
   repeat' split
   all_goals omega
  have e5 : i64.wrap (mx (B.mt f) (mn M.index B.lst) + 1) = mx (B.mt f) (mn M.index B.lst) + 1 := wrap_in (by omega) (by omega)
  simp only [W.unSome_some, add_mk, Nat.zero_add, e5]
  refine hst3 _ _ fun s3 h3 m3 => ?_
  have h3 : Bal s3 b l v n m (B.fedTo f M.index) := h3
  have hL3 := hL.fedTo hfs M.index (by omega)
  have hh : B.heard M = (if (B.fedTo f M.index).settled.1.mt f > B.mt f ∧ (B.fedTo f M.index).settled.1.nx f ≤ (B.fedTo f M.index).settled.1.lst then ((B.fedTo f M.index).settled.1, (B.fedTo f M.index).settled.2 ++ [(B.fedTo f M.index).settled.1.feedM M.from_ ((B.fedTo f M.index).settled.1.nx f)]) else (B.fedTo f M.index).settled) := by
   unfold BS.heard
   rw [if_neg (by simp [hrole])]
   simp only [hgood, hf, Int.toNat_natCast, Bool.true_eq_false, if_false]
  rw [hh, hf]
  have hok3 : (B.fedTo f M.index).Ok := ⟨⟨q1, q2, q3⟩, hok.base, hok.size, hok.id, hok.com⟩
  have hlc3 : (B.fedTo f M.index).commit ≤ (B.fedTo f M.index).lst := hlc
  have hsz3 : (B.fedTo f M.index).size = B.size := rfl
  have st3 : Step (bL b l v n m) (bL b l v n m) s s3 := (st1.trans ⟨m2.mono (by simpa using hgm2), fun x hx => .inl hx⟩).trans ⟨m3.mono (by simpa using hgm3), fun x hx => .inl hx⟩
  generalize B.fedTo f M.index = B3 at h3 hL3 hok3 hlc3 hsz3
  refine W.call_of (c_settle h3 hok3 hL3.fed hL3.mlen hlc3) ?_
  rintro _ s4 ⟨t4, ps4, rfl, hms4, hps4, h4, m4, hf4⟩
  refine ⟨((t4, ()), ()), rfl, ?_⟩
  have hset : B3.settled.1.next = B3.next ∧ B3.settled.1.mat = B3.mat ∧ B3.settled.1.base = B3.base ∧ B3.settled.1.log = B3.log := by
   unfold BS.settled; split <;> exact ⟨rfl, rfl, rfl, rfl⟩
  have hlen4 := settled_len B3
  generalize hR : B3.settled = R at h4 hset hps4 hlen4
  obtain ⟨e6, e7, e8, e9⟩ := hset
  have hb4 := h4.cell
  have st4 : Step (bL b l v n m) (bL b l v n m) s s4 := st3.trans ⟨m4.mono (by simp [bL]), fun x hx => .inl hx⟩
  have hmt4 : R.1.mat[f]? = some (R.1.mt f) := by unfold BS.mt; rw [e7, List.getElem?_eq_getElem (by rw [hL3.mlen, hsz3]; exact hfs)]; (first | done | rfl)
  have hnx4 : R.1.next[f]? = some (R.1.nx f) := by unfold BS.nx; rw [e6, List.getElem?_eq_getElem (by rw [hL3.nlen, hsz3]; exact hfs)]; (first | done | rfl)
  have hl4 : R.1.lst = B3.lst := by unfold BS.lst; rw [e8, e9]
  have hs4 : R.1.Small := ⟨by rw [e8]; exact hok3.small.base0, by rw [e8]; exact hok3.small.base1, by rw [e9]; exact hok3.small.log1⟩
  have hnn4 := h4.next.len
  have hmn4 := h4.mat.len
  have hm4l := hL3.mlen
  have hn4l := hL3.nlen
  rw [e7] at hmn4
  rw [e6] at hnn4
  obtain ⟨g5, hg5, hgm5, hhas5, _⟩ := h4.getMat hmt4
  obtain ⟨g6, hg6, hgm6, hhas6, _⟩ := h4.getNext hnx4
  have htl : t4.2.1 ≤ 5 := by
   have a1 := hms4.row.len
   have a2 := congrArg List.length hps4
   simp only [List.length_map] at a2
   have := hok3.size.2
   omega
  -- the messages are new
  have hnew : ∀ y, (s3 y = none ∨ s4 y = none) → (y ∈ bL b l v n m ∨ s y = none) ∧ y ∉ bL b l v n m := by
   intro y hy
   have hn : y ∉ bL b l v n m := fun hx => by
    rcases hy with hy | hy
    ·exact h3.known y hx hy
    ·exact h4.known y hx hy
   refine ⟨.inr ?_, hn⟩
   rcases hy with hy | hy
   ·exact st3.mod.none hy hn
   ·exact st4.mod.none hy hn
  have stop : OpPost R b (bL b l v n m) s t4.v s4 := ⟨t4, ps4, l, v, n, m, rfl, h4, st4, hms4, hps4, fun y hy => hnew y (.inl (hf4 y hy))⟩
  simp [W.ld_at hb4, -W.nw_iff]
  refine ⟨by omega, ?_⟩
  rw [hg5]
  simp only [W.unSome_some, add_mk, Nat.zero_add]
  refine ld_has_z hhas5 (cs := [.int .i64]) (y := (R.1.mt f, ())) rfl ?_
  simp [W.ld_at hb4, W.br_iff, -W.nw_iff]
  refine ⟨fun hgt => ⟨by omega, ?_⟩, fun hle => ?_⟩
  ·rw [hg6]
   simp only [W.unSome_some, add_mk, Nat.zero_add]
   refine ld_has_z hhas6 (cs := [.int .i64]) (y := (R.1.nx f, ())) rfl ?_
   refine W.callQ_of ((R.1.lst, ()), ()) (c_last h4 hs4) rfl ?_
   simp [W.br_iff, -W.nw_iff]
   refine ⟨fun hle => ?_, fun hgt2 => ?_⟩
   ·rw [if_pos ⟨hgt, hle⟩]
    refine W.call_of (c_feed h4 hs4 (by rw [e8]; exact hok3.base) hnx4 (by omega)) ?_
    rintro _ s5 ⟨t', rfl, hrow, m5, hf'⟩
    generalize R.1.feedM f (R.1.nx f) = M2 at hrow
    refine ⟨((M2.kind, M2.from_, M2.to, M2.term, M2.index, M2.prev, M2.commit, M2.good, t', M2.snap, ()), ()), rfl, ?_⟩
    refine push_msg2 (M := M2) (fun y => (y ∈ bL b l v n m ∨ s y = none) ∧ y ∉ bL b l v n m) (fun g hg => hnew g (.inr hg)) hms4 (fun y hy => hnew y (.inl (hf4 y hy))) hrow m5 hf' (by omega) ?_
    intro a' n' c' s6 k1 k2 k3
    have hdis : ∀ x ∈ bL b l v n m, x ∉ Fw.blk t4.1 := fun x hx hx' => (hnew x (.inl (hf4 x (by simp [mF, hx'])))).2 hx
    refine ⟨(a', n', c'), ps4 ++ [(M2, t')], l, v, n, m, rfl, h4.mod k2 hdis, ?_, k1, by rw [List.map_append, hps4]; (first | done | rfl), k3⟩
    refine ⟨fun x g1 g2 => ?_, fun x hx => .inl hx⟩
    rw [k2 x ?_ ?_, st4.mod x g1 g2]
    ·rw [st4.mod x g1 g2]; exact g1
    ·intro hx'
     rcases (hnew x (.inl (hf4 x (by simp [mF, hx'])))).1 with a | a
     ·exact g2 a
     ·exact g1 a
   ·rw [if_neg (by intro hc; omega)]
    exact stop
  ·rw [if_neg (by intro hc; omega)]
   exact stop
end
end
section
attribute [-simp] Fw.W.ld_iff Fw.W.st_iff
section
variable {s : PH} {b : Nat} {l v n m : Tri} {B : BS}
theorem op_msgs {s0 s2 s3 : PH} {B2 : BS} {L : List Nat} {ms : List Msg} {x : Value} (h2 : Bal s2 b l v n m B2) (st : Step L (bL b l v n m) s0 s2) (hp : MsgsPost ms s2 x s3) : OpPost (B2, ms) b L s0 x s3 := by
 obtain ⟨t, ps, rfl, hms, hps, m3, hf⟩ := hp
 refine ⟨t, ps, l, v, n, m, rfl, h2.new m3, st.trans ⟨m3.mono (by simp), fun x hx => .inl hx⟩, hms, hps, fun y hy => ⟨?_, fun hx => h2.known y hx (hf y hy)⟩⟩
 by_cases hl : y ∈ L
 ·exact .inl hl
 ·exact .inr (st.mod.none (hf y hy) hl)
def BS.toldM (B : BS) (to : Int) (good : Bool) (i : Int) : Msg := { B.msg 4 to with good := good, index := i }
def BS.given (B : BS) (M : Msg) : BS × List Msg :=
 if B.role = 2 then (B, []) else
 if M.index ≤ B.commit then ({ B with role := 0, lead := M.from_ }, [B.toldM M.from_ true M.index]) else
 ({ ({ B with role := 0, lead := M.from_ }.rebase M.index M.prev M.snap (if B.termAt M.index = (M.prev, true) then B.log.drop (M.index - B.base).toNat else [])) with commit := M.index }, [B.toldM M.from_ true M.index])
theorem termAt_le {B : BS} {i : Int} (h : (B.termAt i).2 = true) (hb : B.base ≤ i) : i ≤ B.lst := by
 unfold BS.termAt at h
 split at h
 ·rename_i e; unfold BS.lst; omega
 ·by_cases hl : B.lst < i
  ·rw [BS.entry_out (.inr hl)] at h; cases h
  ·omega
def GivJ (B2 : BS) (b : Nat) (v n m : Tri) (rest : List Ent) (r : Nat) (c : Array Value) (s1 : PH) (z : MDen [(false, [.addr]), (false, [.slice])]) (s' : PH) : Prop :=
 ∃ t : Tri, z = ((Addr.mk r 0 none, ()), (t, ()), ()) ∧ rowE entE s' 43 t.1 t.2.1 t.2.2 rest ∧ (∀ y ∈ Fw.blk t.1, s1 y = none) ∧ Fw.Mod [] s1 s'
theorem c_given (h : Bal s b l v n m B) (hok : B.Ok) (hlc : B.commit ≤ B.lst) (M : Msg) (t : Tri) (hi : -1 ≤ M.index ∧ M.index ≤ FAR) :
  DCalls Tryz.prog 97 #[bptr b, msgV M t] s (OpPost (B.given M) b (bL b l v n m) s) := by
 refine ok_given b M.kind M.from_ M.to M.term M.index M.prev M.commit M.good t.1 t.2.1 t.2.2 M.snap _ s ?_
 unfold vc_given
 simp only [RP_nw]
 refine W.nw_of fun r s1 hr m1 k1 => ?_
 have h1 := h.new m1
 have hb1 := h1.cell
 have hbr : b ≠ r := ne_of_known h.cell hr
 have hs := hok.small
 obtain ⟨q1, q2, q3⟩ := id hs
 have hcb := hok.com
 unfold FAR at hi
 have st1 : Step (bL b l v n m) (bL b l v n m) s s1 := ⟨m1.mono (by simp), fun x hx => .inl hx⟩
 have k1' : ∀ o, (s1.upd b o) r = some (.cells (msgCells M t).toArray 119 (0, 0)) := fun o => upd_at k1 hbr.symm o
 simp [W.ld_at hb1, W.ld_at k1, W.br_iff, W.st_at hb1, fun o => W.ld_at (k1' o), fun o => W.still_at (k1' o)]
 refine ⟨fun hrole => ?_, fun hrole => ?_⟩
 ·have : B.given M = (B, []) := by unfold BS.given; rw [if_pos hrole]
  rw [this]; exact OpPost.noMsgs h1 st1
 have hB2 : Bal (s1.upd b (.cells ({ B with role := 0, lead := M.from_ }.cells l v n m) 101 (0, 0))) b l v n m { B with role := 0, lead := M.from_ } := h1.lay
 have st2 : Step (bL b l v n m) (bL b l v n m) s (s1.upd b (.cells ({ B with role := 0, lead := M.from_ }.cells l v n m) 101 (0, 0))) := st1.trans ⟨Mod.upd (by simp [bL]), fun x hx => .inl hx⟩
 have k2 := k1' (.cells ({ B with role := 0, lead := M.from_ }.cells l v n m) 101 (0, 0))
 generalize hs2 : s1.upd b (.cells ({ B with role := 0, lead := M.from_ }.cells l v n m) 101 (0, 0)) = s2 at hB2 st2 k2
 have hs2' : { B with role := 0, lead := M.from_ }.Small := ⟨q1, q2, q3⟩
 refine ⟨fun hle => ?_, fun hgt => ?_⟩
 ·have : B.given M = ({ B with role := 0, lead := M.from_ }, [B.toldM M.from_ true M.index]) := by unfold BS.given; rw [if_neg hrole, if_pos hle]
  rw [this]
  refine W.call_of (c_told hB2 M.from_ true M.index) ?_
  intro x s3 hp
  obtain ⟨t3, ps, rfl, q⟩ := hp
  refine ⟨((t3, ()), ()), rfl, ?_⟩
  exact op_msgs hB2 st2 ⟨t3, ps, rfl, q⟩
 have hg : B.given M = ({ ({ B with role := 0, lead := M.from_ }.rebase M.index M.prev M.snap (if B.termAt M.index = (M.prev, true) then B.log.drop (M.index - B.base).toNat else [])) with commit := M.index }, [B.toldM M.from_ true M.index]) := by
  unfold BS.given; rw [if_neg hrole, if_neg (by omega)]
 rw [hg]
 refine W.join_gen (GivJ { B with role := 0, lead := M.from_ } b v n m (if B.termAt M.index = (M.prev, true) then B.log.drop (M.index - B.base).toNat else []) r (msgCells M t).toArray s2) ?_ ?_
 ·rintro _ s3 ⟨t3, rfl, hrow, hf3, m3⟩
  have h3 := hB2.new m3
  have k3 := m3.at k2 (by simp)
  simp [W.ld_at k3]
  refine W.call_of (c_rebase h3 M.index M.prev M.snap hrow) ?_
  rintro _ s4 ⟨rfl, h4, m4⟩
  refine ⟨(), rfl, ?_⟩
  have k4 := m4.at k3 (by simpa using hbr.symm)
  have hb4 := h4.cell
  simp [W.ld_at k4, W.st_at hb4, fun o => W.ld_at (upd_at k4 hbr.symm o)]
  have h5 : Bal (s4.upd b (.cells ({ ({ B with role := 0, lead := M.from_ }.rebase M.index M.prev M.snap (if B.termAt M.index = (M.prev, true) then B.log.drop (M.index - B.base).toNat else [])) with commit := M.index }.cells (t3.1, t3.2.1, t3.2.2) v n m) 101 (0, 0))) b (t3.1, t3.2.1, t3.2.2) v n m
    { ({ B with role := 0, lead := M.from_ }.rebase M.index M.prev M.snap (if B.termAt M.index = (M.prev, true) then B.log.drop (M.index - B.base).toNat else [])) with commit := M.index } := h4.lay
  have st5 : Step (bL b l v n m) (bL b (t3.1, t3.2.1, t3.2.2) v n m) s (s4.upd b (.cells ({ ({ B with role := 0, lead := M.from_ }.rebase M.index M.prev M.snap (if B.termAt M.index = (M.prev, true) then B.log.drop (M.index - B.base).toNat else [])) with commit := M.index }.cells (t3.1, t3.2.1, t3.2.2) v n m) 101 (0, 0))) := by
   refine st2.trans ⟨(((m3.mono (by simp)).trans (m4.mono (by simp [bL]))).updLater (.inl (by simp [bL]))), ?_⟩
   intro y hy
   simp only [bL, List.mem_cons, List.mem_append] at hy ⊢
   rcases hy with hy | hy | hy
   ·exact .inl (.inl hy)
   ·exact .inr (hf3 y hy)
   ·exact .inl (.inr (.inr hy))
  refine W.call_of (c_told h5 M.from_ true M.index) ?_
  intro x s6 hp
  obtain ⟨t6, ps, rfl, q⟩ := hp
  refine ⟨((t6, ()), ()), rfl, ?_⟩
  exact op_msgs h5 st5 ⟨t6, ps, rfl, q⟩
 ·intro J hJ
  simp [W.ld_at k2]
  refine W.call_of (c_term hB2 hs2' (i := M.index) (by unfold Num; omega)) ?_
  rintro _ s3 ⟨rfl, m3⟩
  have hte : ({ B with role := 0, lead := M.from_ } : BS).termAt M.index = B.termAt M.index := rfl
  rw [hte]
  refine ⟨(((B.termAt M.index).1, ()), ((B.termAt M.index).2, ()), ()), rfl, ?_⟩
  have k3 := m3.at k2 (by simp)
  have h3 := hB2.new m3
  have hb3 := h3.cell
  have hnone : B.termAt M.index ≠ (M.prev, true) → J ((Addr.mk r 0 none, ()), ((none, 0, 0), ()), ()) s3 := by
   intro hne
   exact hJ _ _ ⟨noTri, rfl, by rw [if_neg hne]; exact rowE.nil, by simp [Fw.blk], m3⟩
  simp [W.ld_at k3, W.ld_at hb3, W.br_iff]
  refine ⟨fun hok2 => ⟨fun hpe => ?_, fun hpn => ?_⟩, fun hno => ?_⟩
  ·have hlle := termAt_le hok2 (by omega)
   have hlst : B.lst = B.base + B.log.length := rfl
   obtain ⟨k, hk⟩ : ∃ k : Nat, (M.index - B.base).toNat = k := ⟨_, rfl⟩
   have hw : i64.wrap (M.index - B.base) = (k : Int) := by rw [wrap_in (by omega) (by omega)]; omega
   have hll := h3.log.len
   have hlc2 := h3.log.le
   have hll : l.2.1 = B.log.length := hll
   simp [hw]
   refine ⟨⟨by omega, by omega⟩, ?_⟩
   have hsrc := h3.log.src (i := k) (m := l.2.1 - k) (by omega)
   rw [List.take_of_length_le (by rw [List.length_drop, hll]; exact Nat.le_refl _)] at hsrc
   refine W.call_of (c_Clone (ys := B.log.drop k) hsrc (by rw [List.length_drop, hll]) (by omega)) ?_
   rintro _ s4 ⟨t4, rfl, _, hrow4, m4, hf4⟩
   refine ⟨((t4, ()), ()), rfl, ?_⟩
   refine hJ _ _ ⟨t4, rfl, ?_, fun y hy => m3.none (hf4 y hy) (by simp), m3.trans m4⟩
   rw [if_pos (Prod.ext hpe hok2), hk]; exact hrow4
  ·exact hnone (by intro e; rw [e] at hpn; exact hpn rfl)
  ·exact hnone (by intro e; rw [e] at hno; cases hno)
end
end
section
attribute [-simp] Fw.W.ld_iff Fw.W.st_iff
structure View (s : PH) (a : Option Addr) (n c : Nat) (xs : List Ent) : Prop where
 len : n = xs.length
 le : n ≤ c
 all : ∀ j x, xs[j]? = some x → ∃ ad, a = some ad ∧ s.has (ad.add (j * 4)) (entE.f x)
theorem View.of {s : PH} {t : Tri} {xs : List Ent} (h : rowE entE s 43 t.1 t.2.1 t.2.2 xs) : View s t.1 t.2.1 t.2.2 xs := by
 refine ⟨h.len, h.le, fun j x hx => ?_⟩
 obtain ⟨g, hg, hh⟩ := h.at hx
 exact ⟨_, hg, by rw [add_mk, Nat.zero_add]; exact hh⟩
theorem View.mono {s s' : PH} {a : Option Addr} {n c : Nat} {xs : List Ent} (h : View s a n c xs) (hm : s.le s') : View s' a n c xs :=
 ⟨h.len, h.le, fun j x hx => by obtain ⟨ad, h1, h2⟩ := h.all j x hx; exact ⟨ad, h1, h2.mono hm⟩⟩
theorem View.sub {s : PH} {a : Option Addr} {n c : Nat} {xs : List Ent} (h : View s a n c xs) {k : Nat} (hk : k ≤ n) : View s (if c = k then a else a.map (·.add (k * 4))) (n - k) (c - k) (xs.drop k) := by
 have hl := h.len
 have hc := h.le
 refine ⟨by rw [List.length_drop]; omega, by omega, fun j x hx => ?_⟩
 rw [List.getElem?_drop] at hx
 have hj := (List.getElem?_eq_some_iff.1 hx).1
 obtain ⟨ad, h1, h2⟩ := h.all _ x hx
 rw [if_neg (by omega), h1]
 refine ⟨_, rfl, ?_⟩
 have : (ad.add (k * 4)).add (j * 4) = ad.add ((k + j) * 4) := by
  rw [Nat.add_mul]
  unfold Addr.add
  by_cases e1 : k * 4 = 0 <;> by_cases e2 : j * 4 = 0 <;> simp [e1, e2, Nat.add_assoc]
 rw [this]; exact h2
theorem View.src {s : PH} {a : Option Addr} {n c : Nat} {xs : List Ent} (h : View s a n c xs) : srcIs s 4 (.sl a n) (xs.flatMap entE.f) := by
 have hl := h.len
 cases a with
 | none =>
  have : xs = [] := by
   cases xs with
   | nil => rfl
   | cons x xs => obtain ⟨ad, h1, _⟩ := h.all 0 x rfl; cases h1
  subst this
  exact ⟨rfl, by rw [hl]; (first | done | rfl)⟩
 | some ad =>
  refine ⟨by rw [flat_len, hl]; (first | done | rfl), ?_⟩
  intro i v hv
  have hi := (List.getElem?_eq_some_iff.1 hv).1
  rw [flat_len] at hi
  have hi : i < xs.length * 4 := hi
  have hq : i / 4 < xs.length := by omega
  have hx : xs[i / 4]? = some xs[i / 4] := List.getElem?_eq_getElem hq
  obtain ⟨l, r, he, hll, _, _⟩ := flat_at (E := entE) hx
  obtain ⟨ad', h1, h2⟩ := h.all _ _ hx
  cases h1
  have hlen4 : (entE.f xs[i / 4]).length = 4 := entE.len _
  have hll : l.length = i / 4 * 4 := hll
  rw [he, List.append_assoc, List.getElem?_append_right (by omega), List.getElem?_append_left (by omega), hll] at hv
  have := h2 _ _ hv
  rwa [show (ad.add (i / 4 * 4)).add (i - i / 4 * 4) = ad.add i from ?_] at this
  unfold Addr.add
  by_cases e1 : i / 4 * 4 = 0
  ·have e3 : i - i / 4 * 4 = i := by omega
   simp [e1]
  ·by_cases e2 : i - i / 4 * 4 = 0
   ·have e3 : i / 4 * 4 = i := by omega
    simp [e2, e3]
   ·have e3 : i ≠ 0 := by omega
    have e4 : i / 4 * 4 + (i - i / 4 * 4) = i := by omega
    simp [e1, e2, e3, Nat.add_assoc, e4]
def BS.merge (B : BS) (i : Int) : List Ent → BS
 | [] => B
 | e :: r => if B.termAt (i + 1) = (e.term, true) then B.merge (i + 1) r else B.set (i + 1) (e :: r)
def BS.fed (B : BS) (M : Msg) : BS × List Msg :=
 if B.role = 2 then (B, []) else
 let B1 := { B with role := 0, lead := M.from_ }
 let e := M.index + M.list.length
 if e ≤ B.commit then (B1, [B.toldM M.from_ true e]) else
 if ¬ M.index < B.commit ∧ B.termAt M.index ≠ (M.prev, true) then (B1, [B.toldM M.from_ false (mn B.lst (M.index - 1))]) else
 let B2 := if M.index < B.commit then B1.merge B.commit (M.list.drop (B.commit - M.index).toNat) else B1.merge M.index M.list
 ({ B2 with commit := mx B2.commit (mn M.commit e) }, [B.toldM M.from_ true e])
theorem merge_same (B : BS) : ∀ (L : List Ent) (i : Int), (B.merge i L).id = B.id ∧ (B.merge i L).term = B.term ∧ (B.merge i L).commit = B.commit ∧ (B.merge i L).base = B.base
 | [], _ => ⟨rfl, rfl, rfl, rfl⟩
 | e :: r, i => by
  simp only [BS.merge]
  split
  ·exact merge_same B r (i + 1)
  ·exact ⟨rfl, rfl, rfl, rfl⟩
section
variable {s : PH} {b : Nat} {l v n m : Tri} {B : BS}
def fedX (B : BS) (M : Msg) : List Ent := if M.index < B.commit then M.list.drop (B.commit - M.index).toNat else M.list
def fedI (B : BS) (M : Msg) : Int := if M.index < B.commit then B.commit else M.index
def FedJ (B : BS) (b : Nat) (l v n m : Tri) (M : Msg) (t0 : Tri) (r : Nat) (L : List Nat) (s0 : PH) (z : MDen [(false, [.addr]), (false, [.int .i64]), (false, [.slice]), (false, [.int .i64])]) (s' : PH) : Prop :=
 ∃ t : Tri, z = ((Addr.mk r 0 none, ()), (M.index + M.list.length, ()), (t, ()), (fedI B M, ()), ()) ∧ View s' t.1 t.2.1 t.2.2 (fedX B M) ∧ Bal s' b l v n m { B with role := 0, lead := M.from_ } ∧ Step L (bL b l v n m) s0 s' ∧
  s' r = some (.cells (msgCells M t0).toArray 119 (0, 0)) ∧ B.base ≤ fedI B M ∧ fedI B M ≤ B.lst ∧ ¬ (¬ M.index < B.commit ∧ B.termAt M.index ≠ (M.prev, true))
def FedK (B : BS) (b : Nat) (v n m : Tri) (M : Msg) (t0 : Tri) (r : Nat) (L : List Nat) (s0 : PH) (z : MDen [(false, [.addr]), (false, [.int .i64])]) (s' : PH) : Prop :=
 ∃ l' : Tri, z = ((Addr.mk r 0 none, ()), (M.index + M.list.length, ()), ()) ∧ Bal s' b l' v n m ({ B with role := 0, lead := M.from_ }.merge (fedI B M) (fedX B M)) ∧ Step L (bL b l' v n m) s0 s' ∧
  s' r = some (.cells (msgCells M t0).toArray 119 (0, 0))
def FedZ (B : BS) (b : Nat) (l v n m : Tri) (M : Msg) (t0 t : Tri) (r : Nat) (L : List Nat) (s0 : PH) (z : MDen [(false, [.addr]), (false, [.int .i64]), (false, [.slice]), (false, [.int .i64]), (false, [.slice]), (false, [.int .i64]), (false, [.int .i64])]) (s' : PH) : Prop :=
 ∃ k : Nat, z = ((Addr.mk r 0 none, ()), (M.index + M.list.length, ()), (t, ()), (fedI B M, ()), (t, ()), ((t.2.1 : Int), ()), ((k : Int), ()), ()) ∧ k ≤ t.2.1 ∧ View s' t.1 t.2.1 t.2.2 (fedX B M) ∧ Bal s' b l v n m { B with role := 0, lead := M.from_ } ∧
  Step L (bL b l v n m) s0 s' ∧ s' r = some (.cells (msgCells M t0).toArray 119 (0, 0)) ∧ fedI B M + k ≤ B.lst ∧ { B with role := 0, lead := M.from_ }.merge (fedI B M) (fedX B M) = { B with role := 0, lead := M.from_ }.merge (fedI B M + k) ((fedX B M).drop k)
theorem c_fed (h : Bal s b l v n m B) (hok : B.Ok) (hlc : B.commit ≤ B.lst) (M : Msg) (t : Tri) (hrow : rowE entE s 43 t.1 t.2.1 t.2.2 M.list) (hll : M.list.length ≤ 1000000) (hi : 0 ≤ M.index ∧ M.index ≤ FAR) :
  DCalls Tryz.prog 95 #[bptr b, msgV M t] s (OpPost (B.fed M) b (bL b l v n m) s) := by
 refine ok_fed b M.kind M.from_ M.to M.term M.index M.prev M.commit M.good t.1 t.2.1 t.2.2 M.snap _ s ?_
 unfold vc_fed
 simp only [RP_nw]
 refine W.nw_of fun r s1 hr m1 k1 => ?_
 have h1 := h.new m1
 have hb1 := h1.cell
 have hbr : b ≠ r := ne_of_known h.cell hr
 have hs := hok.small
 obtain ⟨q1, q2, q3⟩ := id hs
 have hcb := hok.com
 have hbb := hok.base
 have hlst : B.lst = B.base + B.log.length := rfl
 have hnl := num_lst hs hok.base
 unfold Num at hnl
 unfold FAR at hi
 have htn : t.2.1 = M.list.length := hrow.len
 have htc := hrow.le
 have st1 : Step (bL b l v n m) (bL b l v n m) s s1 := ⟨m1.mono (by simp), fun x hx => .inl hx⟩
 have k1' : ∀ o, (s1.upd b o) r = some (.cells (msgCells M t).toArray 119 (0, 0)) := fun o => upd_at k1 hbr.symm o
 have hwe : i64.wrap (M.index + (t.2.1 : Int)) = M.index + M.list.length := by rw [htn, wrap_in (by omega) (by omega)]
 simp [W.ld_at hb1, W.ld_at k1, W.br_iff, W.st_at hb1, fun o => W.ld_at (k1' o), fun o => W.still_at (k1' o), hwe]
 refine ⟨fun hrole => ?_, fun hrole => ?_⟩
 ·have : B.fed M = (B, []) := by unfold BS.fed; rw [if_pos hrole]
  rw [this]; exact OpPost.noMsgs h1 st1
 have hB2 : Bal (s1.upd b (.cells ({ B with role := 0, lead := M.from_ }.cells l v n m) 101 (0, 0))) b l v n m { B with role := 0, lead := M.from_ } := h1.lay
 have st2 : Step (bL b l v n m) (bL b l v n m) s (s1.upd b (.cells ({ B with role := 0, lead := M.from_ }.cells l v n m) 101 (0, 0))) := st1.trans ⟨Mod.upd (by simp [bL]), fun x hx => .inl hx⟩
 have k2 := k1' (.cells ({ B with role := 0, lead := M.from_ }.cells l v n m) 101 (0, 0))
 have hrow2 : rowE entE (s1.upd b (.cells ({ B with role := 0, lead := M.from_ }.cells l v n m) 101 (0, 0))) 43 t.1 t.2.1 t.2.2 M.list := (hrow.mod m1 (by simp)).mod (L := [b]) (Mod.upd (by simp)) fun x hx => by simp; rintro rfl; exact row_ne2 (hrow.mod m1 (by simp)) hb1 (by decide) hx
 generalize hs2 : s1.upd b (.cells ({ B with role := 0, lead := M.from_ }.cells l v n m) 101 (0, 0)) = s2 at hB2 st2 k2 hrow2
 clear hs2
 have hs2' : { B with role := 0, lead := M.from_ }.Small := ⟨q1, q2, q3⟩
 have hb2 := hB2.cell
 refine ⟨fun hle => ?_, fun hgt => ?_⟩
 ·have : B.fed M = ({ B with role := 0, lead := M.from_ }, [B.toldM M.from_ true (M.index + M.list.length)]) := by unfold BS.fed; rw [if_neg hrole]; simp only [hle, if_true]
  rw [this]
  refine W.call_of (c_told hB2 M.from_ true (M.index + M.list.length)) ?_
  intro x s3 hp
  obtain ⟨t3, ps, rfl, q⟩ := hp
  refine ⟨((t3, ()), ()), rfl, ?_⟩
  exact op_msgs hB2 st2 ⟨t3, ps, rfl, q⟩
 have hgt' : ¬ M.index + (M.list.length : Int) ≤ B.commit := by omega
 refine W.join_gen (FedJ B b l v n m M t r (bL b l v n m) s) ?_ ?_
 ·rintro _ s3 ⟨t3, rfl, hv3, h3, st3, k3, hI0, hI1, hc⟩
  have hxl : (fedX B M).length ≤ 1000000 := by
   unfold fedX; split
   ·rw [List.length_drop]; omega
   ·exact hll
  have hIn : Num (fedI B M) := by unfold Num; omega
  have hg : ¬ (¬ M.index < B.commit ∧ B.termAt M.index ≠ (M.prev, true)) → B.fed M = ({ ({ B with role := 0, lead := M.from_ }.merge (fedI B M) (fedX B M)) with commit := mx B.commit (mn M.commit (M.index + M.list.length)) }, [B.toldM M.from_ true (M.index + M.list.length)]) := by
   intro hc
   have e2 : (if M.index < B.commit then { B with role := 0, lead := M.from_ }.merge B.commit (M.list.drop (B.commit - M.index).toNat) else { B with role := 0, lead := M.from_ }.merge M.index M.list) = { B with role := 0, lead := M.from_ }.merge (fedI B M) (fedX B M) := by
    unfold fedI fedX; split <;> rfl
   unfold BS.fed; rw [if_neg hrole]; simp only [hgt', if_false]
   rw [if_neg hc]
   simp only [e2, (merge_same { B with role := 0, lead := M.from_ } (fedX B M) (fedI B M)).2.2.1]
  refine W.join_gen (FedK B b v n m M t r (bL b l v n m) s) ?_ ?_
  ·rintro _ s4 ⟨l', rfl, h4, st4, k4⟩
   have hb4 := h4.cell
   obtain ⟨e1, e2, e3, e4⟩ := merge_same { B with role := 0, lead := M.from_ } (fedX B M) (fedI B M)
   have k4' : ∀ o, (s4.upd b o) r = some (.cells (msgCells M t).toArray 119 (0, 0)) := fun o => upd_at k4 hbr.symm o
   rw [hg hc]
   dsimp only at e1 e2 e3 e4
   generalize hBB : BS.merge { B with role := 0, lead := M.from_ } (fedI B M) (fedX B M) = B3 at h4 hb4 e1 e2 e3 e4 ⊢
   have hmm : (if (if M.index + (M.list.length : Int) < M.commit then M.index + (M.list.length : Int) else M.commit) > B3.commit then (if M.index + (M.list.length : Int) < M.commit then M.index + (M.list.length : Int) else M.commit) else B3.commit) = mx B.commit (mn M.commit (M.index + M.list.length)) := by rw [e3]; (first | done | rfl)
   simp [W.ld_at hb4, W.ld_at k4, W.br_iff, W.st_at hb4, fun o => W.ld_at (k4' o)]
   simp only [gt_iff_lt] at hmm
   rw [hmm]
   have h5 : Bal (s4.upd b (.cells ({ B3 with commit := mx B.commit (mn M.commit (M.index + M.list.length)) }.cells l' v n m) 101 (0, 0))) b l' v n m { B3 with commit := mx B.commit (mn M.commit (M.index + M.list.length)) } := h4.lay
   have st5 : Step (bL b l v n m) (bL b l' v n m) s (s4.upd b (.cells ({ B3 with commit := mx B.commit (mn M.commit (M.index + M.list.length)) }.cells l' v n m) 101 (0, 0))) := st4.trans ⟨Mod.upd (by simp [bL]), fun x hx => .inl hx⟩
   refine W.call_of (c_told h5 M.from_ true (M.index + M.list.length)) ?_
   intro x s6 hp
   obtain ⟨t6, ps, rfl, q⟩ := hp
   refine ⟨((t6, ()), ()), rfl, ?_⟩
   have hmsg : ({ BS.msg { B3 with commit := mx B.commit (mn M.commit (M.index + M.list.length)) } 4 M.from_ with good := true, index := M.index + M.list.length } : Msg) = B.toldM M.from_ true (M.index + M.list.length) := by
    unfold BS.toldM BS.msg; simp only [e1, e2]
   rw [← hmsg]
   exact op_msgs h5 st5 ⟨t6, ps, rfl, q⟩
  ·intro J hJ
   simp only [RP_loop]
   refine ⟨FedZ B b l v n m M t t3 r (bL b l v n m) s, fun z _ => t3.2.1 - z.2.2.2.2.2.2.1.1.toNat, ⟨0, rfl, by omega, hv3, h3, st3, k3, by simpa using hI1, by simp⟩, ?_⟩
   rintro _ s4 ⟨k, rfl, hk, hv4, h4, st4, k4, hIk, hmg⟩
   have hb4 := h4.cell
   have hvl := hv4.len
   have hvc := hv4.le
   have hw12 : i64.wrap (i64.wrap (fedI B M + 1) + (k : Int)) = fedI B M + k + 1 := by
    unfold Num at hIn
    rw [wrap_in (n := fedI B M + 1) (by omega) (by omega), wrap_in (by omega) (by omega)]; omega
   have hwk : i64.wrap ((k : Int) + 1) = ((k + 1 : Nat) : Int) := by rw [wrap_in (by omega) (by omega)]; simp
   simp [W.br_iff, -W.nw_iff]
   refine ⟨fun hkn => ⟨hkn, ?_⟩, fun hkn => ?_⟩
   ·obtain ⟨e, he⟩ : ∃ e, (fedX B M)[k]? = some e := ⟨_, List.getElem?_eq_getElem (by omega)⟩
    obtain ⟨ad, had, hhas⟩ := hv4.all _ _ he
    have htri : (some ad, t3.2.1, t3.2.2) = t3 := by rw [← had]
    have hdrop : (fedX B M).drop k = e :: (fedX B M).drop (k + 1) := by
     have hlt := (List.getElem?_eq_some_iff.1 he).1
     rw [List.drop_eq_getElem_cons hlt, (List.getElem?_eq_some_iff.1 he).2]
    have hsub := (hv4.sub (k := k) (by omega))
    rw [had]
    simp only [W.unSome_some]
    refine ld_has_z hhas (cs := [.int .i64, .int .i64, .int .i64, .str]) (y := (e.term, e.at_, e.born, e.text, ())) rfl ?_
    refine W.nw_of fun q s5 hq m5 k5 => ?_
    simp [W.st_at k5, hw12]
    have m6 : Fw.Mod [] s4 (s5.upd q (.cells #[.int .i64 e.term, .int .i64 e.at_, .int .i64 e.born, .string e.text] 43 (0, 0))) := m5.updLater (.inr hq)
    have k6 : (s5.upd q (.cells #[.int .i64 e.term, .int .i64 e.at_, .int .i64 e.born, .string e.text] 43 (0, 0))) q = some (.cells #[.int .i64 e.term, .int .i64 e.at_, .int .i64 e.born, .string e.text] 43 (0, 0)) := PH.upd_same _ _ _
    generalize s5.upd q (.cells #[.int .i64 e.term, .int .i64 e.at_, .int .i64 e.born, .string e.text] 43 (0, 0)) = s6 at m6 k6 ⊢
    have h6 := h4.new m6
    refine W.call_of (c_term h6 hs2' (i := fedI B M + k + 1) (by unfold Num at hIn ⊢; omega)) ?_
    rintro _ s7 ⟨rfl, m7⟩
    have hte : ({ B with role := 0, lead := M.from_ } : BS).termAt (fedI B M + k + 1) = B.termAt (fedI B M + k + 1) := rfl
    rw [hte]
    generalize hT : B.termAt (fedI B M + k + 1) = T at hte ⊢
    obtain ⟨T1, T2⟩ := T
    refine ⟨((T1, ()), (T2, ()), ()), rfl, ?_⟩
    have m67 := m6.trans m7
    have h7 := h4.new m67
    have k7 := m7.at k6 (by simp)
    have kr7 := m67.at k4 (by simp)
    have hv7 : View s7 (if t3.2.2 = k then some ad else some (ad.add (k * 4))) (t3.2.1 - k) (t3.2.2 - k) ((fedX B M).drop k) := by
     have := hsub.mono m67.le
     rw [had] at this; exact this
    have st7 : Step (bL b l v n m) (bL b l v n m) s s7 := st4.trans ⟨m67.mono (by simp), fun x hx => .inl hx⟩
    have hset : (T1, T2) ≠ (e.term, true) → ∀ (x : Value) (s8 : PH), SetPost ({ B with role := 0, lead := M.from_ }.set (fedI B M + k + 1) ((fedX B M).drop k)) b l v n m s7 x s8 → x = .tuple #[] ∧ J ((Addr.mk r 0 none, ()), (M.index + M.list.length, ()), ()) s8 := by
     rintro hne x s8 ⟨l', rfl, h8, st8⟩
     refine ⟨rfl, hJ _ _ ⟨l', rfl, ?_, st7.trans st8, ?_⟩⟩
     ·rw [hmg, hdrop]
      simp only [BS.merge]
      rw [hte, if_neg hne, ← hdrop]; exact h8
     ·exact st8.mod.at kr7 (fun hx => by
       have hh := h7.log
       simp only [bL, List.mem_cons, List.mem_append] at hx
       rcases hx with hx | hx | hx | hx | hx
       ·exact hbr hx.symm
       ·exact row_ne2 h7.log kr7 (by decide) hx
       ·exact row_ne2 h7.votes kr7 (by decide) hx
       ·exact row_ne2 h7.next kr7 (by decide) hx
       ·exact row_ne2 h7.mat kr7 (by decide) hx)
    simp [W.br_iff, W.ld_at k7]
    have hcall : ∀ (R : Value → PH → Prop), (∀ x s8, SetPost ({ B with role := 0, lead := M.from_ }.set (fedI B M + k + 1) ((fedX B M).drop k)) b l v n m s7 x s8 → R x s8) → DCalls Tryz.prog 73 #[bptr b, .int .i64 (fedI B M + k + 1), .slice (if t3.2.2 = k then some ad else some (ad.add (k * 4))) (t3.2.1 - k) (t3.2.2 - k)] s7 R := by
     intro R hR
     refine (c_set h7 hs2' (i := fedI B M + k + 1) ?_ ?_ hv7.src (by rw [List.length_drop]; omega) (by omega)).mono hR
     ·show B.base < _; omega
     ·show _ ≤ B.lst + 1; omega
    refine ⟨fun h0 => ⟨⟨by omega, by omega⟩, ?_⟩, fun h1 => ⟨fun hne => ⟨⟨by omega, by omega⟩, ?_⟩, fun heq => ⟨⟨k + 1, ?_, by omega, hv4.mono m67.le, h7, st7, kr7, ?_, ?_⟩, by rw [hwk]; simp only [Int.toNat_natCast]; omega⟩⟩⟩
    ·refine W.call_of (hcall _ (hset (by rw [h0]; intro h; cases h))) ?_
     rintro _ s8 ⟨rfl, hJ8⟩
     exact ⟨(), rfl, hJ8⟩
    ·refine W.call_of (hcall _ (hset (by intro h; exact hne (congrArg Prod.fst h)))) ?_
     rintro _ s8 ⟨rfl, hJ8⟩
     exact ⟨(), rfl, hJ8⟩
    ·rw [hwk, htri]
    ·have : fedI B M + k + 1 ≤ B.lst := termAt_le (B := B) (by rw [hT]; exact h1) (by omega)
     push_cast; omega
    ·rw [hmg, hdrop]
     simp only [BS.merge]
     rw [hte, if_pos (by rw [heq, h1])]
     rw [show ((k + 1 : Nat) : Int) = (k : Int) + 1 by push_cast; (first | done | rfl), ← Int.add_assoc]
   ·refine hJ _ _ ⟨l, rfl, ?_, st4, k4⟩
    have : (fedX B M).drop k = [] := List.drop_eq_nil_of_le (by omega)
    rw [hmg, this]
    exact h4
 ·intro J hJ
  simp [W.ld_at hb2, W.br_iff]
  refine ⟨fun hlt => ?_, fun hge => ?_⟩
  ·obtain ⟨k, hk⟩ : ∃ k : Nat, (B.commit - M.index).toNat = k := ⟨_, rfl⟩
   have hw : i64.wrap (B.commit - M.index) = (k : Int) := by rw [wrap_in (by omega) (by omega)]; omega
   rw [hw]
   refine ⟨⟨by omega, by omega, by omega⟩, ?_⟩
   simp only [Int.toNat_natCast]
   have hX : fedX B M = M.list.drop k := by unfold fedX; rw [if_pos hlt, hk]
   have hI : fedI B M = B.commit := by unfold fedI; rw [if_pos hlt]
   refine hJ _ _ ⟨(if t.2.2 = k then t.1 else t.1.map (·.add (k * 4)), t.2.1 - k, t.2.2 - k), by rw [hI], by rw [hX]; exact (View.of hrow2).sub (by omega), hB2, st2, k2, by rw [hI]; exact hcb, by rw [hI]; exact hlc, fun q => q.1 hlt⟩
  ·have hX : fedX B M = M.list := by unfold fedX; rw [if_neg (by omega)]
   have hI : fedI B M = M.index := by unfold fedI; rw [if_neg (by omega)]
   refine W.call_of (c_term hB2 hs2' (i := M.index) (by unfold Num; omega)) ?_
   rintro _ s3 ⟨rfl, m3⟩
   have hte : ({ B with role := 0, lead := M.from_ } : BS).termAt M.index = B.termAt M.index := rfl
   rw [hte]
   refine ⟨(((B.termAt M.index).1, ()), ((B.termAt M.index).2, ()), ()), rfl, ?_⟩
   have k3 := m3.at k2 (by simp)
   have h3 := hB2.new m3
   have hb3 := h3.cell
   have st3 : Step (bL b l v n m) (bL b l v n m) s s3 := st2.trans ⟨m3.mono (by simp), fun x hx => .inl hx⟩
   refine W.join_gen (fun z s' => s' = s3 ∧ z = ((Addr.mk r 0 none, ()), (M.index + M.list.length, ()), (t, ()), (M.index, ()), (!decide (B.termAt M.index = (M.prev, true)), ()), ())) ?_ ?_
   ·rintro _ s3 ⟨rfl, rfl⟩
    simp [W.br_iff, W.ld_at k3]
    refine ⟨fun hno => ?_, fun hyes => ?_⟩
    ·have hno : B.termAt M.index ≠ (M.prev, true) := hno
     have hg : B.fed M = ({ B with role := 0, lead := M.from_ }, [B.toldM M.from_ false (mn B.lst (M.index - 1))]) := by
      unfold BS.fed; rw [if_neg hrole]; simp only [hgt', if_false]; rw [if_pos ⟨by omega, hno⟩]
     rw [hg]
     refine W.callQ_of ((B.lst, ()), ()) (c_last h3 hs2') rfl ?_
     have hw1 : i64.wrap (M.index - 1) = M.index - 1 := wrap_in (by omega) (by omega)
     have e4 : (if M.index - 1 < B.lst then M.index - 1 else B.lst) = mn B.lst (M.index - 1) := rfl
     simp [hw1, e4]
     refine W.call_of (c_told h3 M.from_ false (mn B.lst (M.index - 1))) ?_
     intro x s6 hp
     obtain ⟨t6, ps, rfl, q⟩ := hp
     refine ⟨((t6, ()), ()), rfl, ?_⟩
     exact op_msgs h3 st3 ⟨t6, ps, rfl, q⟩
    ·have hyes : B.termAt M.index = (M.prev, true) := hyes
     refine hJ _ _ ⟨t, by rw [hI], by rw [hX]; exact View.of (hrow2.mod m3 (by simp)), h3, st3, k3, by rw [hI]; omega, by rw [hI]; exact termAt_le (by rw [hyes]) (by omega), fun q => q.2 hyes⟩
   ·intro K hK
    simp [W.br_iff, W.ld_at k3]
    refine ⟨fun hf => hK _ _ ⟨rfl, ?_⟩, fun ht => hK _ _ ⟨rfl, ?_⟩⟩
    ·have : B.termAt M.index ≠ (M.prev, true) := by intro e; rw [e] at hf; cases hf
     simp [this]
    ·have : (decide (B.termAt M.index = (M.prev, true))) = ((B.termAt M.index).1 == M.prev) := by
      by_cases e : (B.termAt M.index).1 = M.prev
      ·have : B.termAt M.index = (M.prev, true) := Prod.ext e ht
       simp [this]
      ·have h' : B.termAt M.index ≠ (M.prev, true) := by intro e2; rw [e2] at e; exact e rfl
       simp [h', e]
     rw [this]; (first | done | rfl)
end
end
section
attribute [-simp] Fw.W.ld_iff Fw.W.st_iff
section
variable {s : PH} {b : Nat} {l v n m : Tri} {B : BS}
theorem op_app {s1 s2 s3 : PH} {B1 : BS} {R : BS × List Msg} {t1 t2 l' v' n' m' : Tri} {ps1 ps2 : List (Msg × Tri)} (h1 : Bal s1 b l v n m B1) (hms1 : Msgs s2 t1 ps1) (m2 : Fw.Mod [] s1 s2) (hf1 : ∀ y ∈ mF t1 ps1, s1 y = none)
  (h3 : Bal s3 b l' v' n' m' R.1) (st3 : Step (bL b l v n m) (bL b l' v' n' m') s2 s3) (hms2 : Msgs s3 t2 ps2) (hf2 : ∀ y ∈ mF t2 ps2, (y ∈ bL b l v n m ∨ s2 y = none) ∧ y ∉ bL b l' v' n' m') (c1 : t1.2.1 ≤ 1000) (c2 : t2.2.1 ≤ 1000)
  {K : Option Addr → Nat → Nat → W.T} (hK : ∀ a kk c s', OpPost (R.1, ps1.map (·.1) ++ ps2.map (·.1)) b (bL b l v n m) s1 (.slice a kk c) s' → K a kk c s') : W.app 119 10 104 zeroMsg t1.1 t1.2.1 t1.2.2 (.sl t2.1 t2.2.1) K s3 := by
 have hno : ∀ y ∈ mF t1 ps1, ¬ (y ∈ bL b l v n m ∨ s2 y = none) := fun y hy hx => by
  rcases hx with hx | hx
  ·exact h1.known y hx (hf1 y hy)
  ·exact hms1.known y hy hx
 have hno' : ∀ y ∈ mF t1 ps1, y ∉ bL b l' v' n' m' := fun y hy hx => hno y hy (st3.new y hx)
 have hb1 : ∀ y ∈ Fw.blk t1.1, y ∈ mF t1 ps1 := fun y hy => by simp [mF, hy]
 have hms1' := hms1.mod st3.mod (fun y hy hx => hno y hy (.inl hx))
 have st : Step (bL b l v n m) (bL b l' v' n' m') s1 s3 := Step.trans (L' := bL b l v n m) ⟨m2.mono (by simp), fun x hx => .inl hx⟩ st3
 refine app_msgs (fun y => (y ∈ bL b l v n m ∨ s1 y = none) ∧ y ∉ bL b l' v' n' m') ?_ hms1' hms2 ?_ ?_ ?_ hms1.apart c1 c2 ?_
 ·intro g hg
  refine ⟨?_, fun hx => h3.known g hx hg⟩
  by_cases hx : g ∈ bL b l v n m
  ·exact .inl hx
  ·exact .inr (st.mod.none hg hx)
 ·exact fun y hy => ⟨.inr (hf1 y hy), hno' y hy⟩
 ·intro y hy
  refine ⟨?_, (hf2 y hy).2⟩
  rcases (hf2 y hy).1 with g | g
  ·exact .inl g
  ·exact .inr (m2.none g (by simp))
 ·intro y hy hx
  exact hno y (hb1 y hx) (hf2 y hy).1
 ·intro a k c s' g1 g2 g3
  refine hK a k c s' ⟨(a, k, c), ps1 ++ ps2, l', v', n', m', rfl, h3.mod g3 (fun x hx hx' => hno' x (hb1 x hx') hx), ⟨st.mod.fresh g3 (fun y hy => .inr (hf1 y (hb1 y hy))), st.new⟩, g1, by simp, g2⟩
def BS.turned (B : BS) (t v r : Int) : BS := { B with term := t, vote := v, role := r, lead := -1, touched := true }
def BS.stood (B : BS) : BS := { B.turned (B.term + 1) B.id 1 with votes := (List.replicate B.size.toNat false).set B.id.toNat true }
def BS.timeout (B : BS) : BS × List Msg := if B.role = 2 then (B, []) else (B.stood.counted.1, B.stood.asks ++ B.stood.counted.2)
theorem mksl_bool {k : Nat → W.T} {s : PH} {c : Nat} (hc : c ≤ 1000) (h : ∀ r s1, s r = none → Fw.Mod [] s s1 → rowE boolE s1 4 (some ⟨r, 0, none⟩) c c (List.replicate c false) → k r s1) : W.mksl 4 1 1 [.bool false] (c : Int) (c : Int) k s := by
 refine ⟨by omega, Int.le_refl _, by omega, by omega, fun r hr => ?_⟩
 have hz : Builtin.zeroCells [Value.bool false].toArray ((c : Nat) : Int).toNat = (List.replicate c (Value.bool false)).toArray := zero_one (.bool false) c
 rw [hz]
 refine h r _ hr (Mod.new hr) ⟨by rw [flat_len]; simp [boolE], Nat.le_refl _, by show c ≤ 9223372036854775807; omega, .inr ⟨r, _, rfl, PH.upd_same _ _ _, by simp [boolE], ?_⟩⟩
 have : ∀ c : Nat, (List.replicate c false).flatMap boolE.f = List.replicate c (Value.bool false) := by
  intro c
  induction c with
  | zero => rfl
  | succ c ih => rw [List.replicate_succ, List.flatMap_cons, ih, List.replicate_succ]; (first | done | rfl)
 rw [this]; simp [boolE]
theorem counted_len (B : BS) (h : B.size ≤ 5) : B.counted.2.length ≤ 10 := by
 unfold BS.counted
 split
 ·simp
 ·have h3 : (B.lead2.set (B.lst + 1) [{ noEnt with term := B.term }]).size = B.size := rfl
  generalize B.lead2.set (B.lst + 1) [{ noEnt with term := B.term }] = B3 at h3 ⊢
  have h1 := BS.others_len B3 (fun to => B3.feedM to ((B3.next[to]?).getD 0)) B3.size.toNat
  have h2 := settled_len B3
  have h4 : B3.feeds.length = (B3.others (fun to => B3.feedM to ((B3.next[to]?).getD 0)) B3.size.toNat).length := rfl
  show (B3.feeds ++ B3.settled.2).length ≤ 10
  rw [List.length_append]
  omega
theorem c_Timeout (h : Bal s b l v n m B) (hok : B.Ok) (hlc : B.commit ≤ B.lst) (hl1 : B.log.length + 1 ≤ 1073741824) (ht : Num B.term) : DCalls Tryz.prog 47 #[bptr b] s (OpPost B.timeout b (bL b l v n m) s) := by
 refine ok_Timeout b _ s ?_
 unfold vc_Timeout
 have hb := h.cell
 have hsz := hok.size
 have hid := hok.id
 simp only [RP_join]
 refine W.join_gen (fun z s' => s' = s ∧ z = () ∧ B.role ≠ 2) ?_ ?_
 ·rintro _ s ⟨rfl, rfl, hr⟩
  have ht1 : i64.wrap (B.term + 1) = B.term + 1 := by unfold Num at ht; exact wrap_in (by omega) (by omega)
  simp [W.ld_at hb, ht1]
  refine W.call_of (c_turn h (B.term + 1) B.id 1) ?_
  rintro _ s1 ⟨rfl, h1, m1⟩
  refine ⟨(), rfl, ?_⟩
  have hb1 := h1.cell
  obtain ⟨c, hc⟩ : ∃ c : Nat, B.size = c := ⟨B.size.toNat, by omega⟩
  have hct : B.size.toNat = c := by omega
  obtain ⟨f, hf⟩ : ∃ f : Nat, B.id = f := ⟨B.id.toNat, by omega⟩
  simp [W.ld_at hb1, hc]
  refine mksl_bool (by omega) fun r s2 hr2 m2 hrow => ?_
  have h2 := h1.new m2
  have hb2 := h2.cell
  have hidt : B.id.toNat = f := by omega
  simp [W.st_at hb2]
  have h3 : Bal (s2.upd b (.cells ({ B.turned (B.term + 1) B.id 1 with votes := List.replicate c false }.cells l (some ⟨r, 0, none⟩, c, c) n m) 101 (0, 0))) b l (some ⟨r, 0, none⟩, c, c) n m { B.turned (B.term + 1) B.id 1 with votes := List.replicate c false } :=
   balOf (B' := { B.turned (B.term + 1) B.id 1 with votes := List.replicate c false }) (v' := (some ⟨r, 0, none⟩, c, c)) hb2 h2.log hrow h2.next h2.mat h2.nm
  have hr1 : r ∉ bL b l v n m := fun hx => h1.known r hx hr2
  have st3 : Step (bL b l v n m) (bL b l (some ⟨r, 0, none⟩, c, c) n m) s (s2.upd b (.cells ({ B.turned (B.term + 1) B.id 1 with votes := List.replicate c false }.cells l (some ⟨r, 0, none⟩, c, c) n m) 101 (0, 0))) := by
   refine ⟨((m1.mono (by simp [bL])).trans (m2.mono (by simp))).updLater (.inl (by simp [bL])), ?_⟩
   intro z hz
   simp only [bL, List.mem_cons, List.mem_append] at hz ⊢
   rcases hz with hz | hz | hz | hz
   ·exact .inl (.inl hz)
   ·exact .inl (.inr (.inl hz))
   ·simp [Fw.blk] at hz; subst hz
    exact .inr (m1.none hr2 (by simpa using (ne_of_known hb1 hr2).symm))
   ·exact .inl (.inr (.inr (.inr hz)))
  have hx : ({ B.turned (B.term + 1) B.id 1 with votes := List.replicate c false } : BS).votes[f]? = some false := by
   show (List.replicate c false)[f]? = _
   rw [List.getElem?_replicate, if_pos (by omega)]
  obtain ⟨g, hgv, hgm, hst⟩ := h3.setVote hx true
  have hgr : g = r := by simp at hgv; exact hgv.symm
  subst hgr
  have hw : B.stood = { ({ B.turned (B.term + 1) B.id 1 with votes := List.replicate c false } : BS) with votes := (List.replicate c false).set f true } := by unfold BS.stood; rw [hct, hidt]
  simp only [hidt]
  refine ⟨by omega, hst _ fun s4 h4 m4 => ?_⟩
  have st4 : Step (bL b l v n m) (bL b l (some ⟨g, 0, none⟩, c, c) n m) s s4 := st3.trans ⟨m4.mono (by simpa using hgm), fun x hx => .inl hx⟩
  have hto : B.timeout = (B.stood.counted.1, B.stood.asks ++ B.stood.counted.2) := by unfold BS.timeout; rw [if_neg hr]
  have hok4 : B.stood.Ok := ⟨⟨hok.small.base0, hok.small.base1, hok.small.log1⟩, hok.base, hok.size, hok.id, hok.com⟩
  have hv4 : B.stood.votes.length = B.stood.size.toNat := by rw [hw]; show (List.set _ _ _).length = B.size.toNat; simp [hct]
  have hlc4 : B.stood.commit ≤ B.stood.lst := hlc
  have hl4 : B.stood.log.length + 1 ≤ 1073741824 := hl1
  have h4 : Bal s4 b l (some ⟨g, 0, none⟩, c, c) n m B.stood := by rw [hw]; exact h4
  have hs4 : B.stood.size = B.size := rfl
  rw [hto]
  generalize B.stood = B4 at h4 hok4 hv4 hlc4 hl4 hs4
  refine W.call_of (c_othersAsk h4 hok4.small hok4.base ⟨by omega, by omega⟩) ?_
  rintro _ s5 ⟨t1, ps1, rfl, hms1, hps1, m5, hf1⟩
  refine ⟨((t1, ()), ()), rfl, ?_⟩
  have h5 := h4.new m5
  refine W.call_of (c_counted h5 hok4 hv4 hlc4 hl4) ?_
  rintro _ s6 ⟨t2, ps2, l', v', n', m', rfl, h6, st6, hms2, hps2, hf2⟩
  refine ⟨((t2, ()), ()), rfl, ?_⟩
  have c1 : t1.2.1 ≤ 1000 := by
   have g1 := hms1.row.len
   have g2 := congrArg List.length hps1
   have g3 := B4.others_len (fun to => B4.askM to) B4.size.toNat
   simp only [List.length_map] at g2
   have g4 : B4.asks.length = (B4.others (fun to => B4.askM to) B4.size.toNat).length := rfl
   omega
  have c2 : t2.2.1 ≤ 1000 := by
   have g1 := hms2.row.len
   have g2 := congrArg List.length hps2
   have g3 := counted_len B4 (by omega)
   simp only [List.length_map] at g2
   omega
  refine op_app h4 hms1 m5 hf1 h6 st6 hms2 hf2 c1 c2 ?_
  intro a kk c' s7 hp
  rw [hps1, hps2] at hp
  exact OpPost.start hp st4
 ·intro J hJ
  simp [W.ld_at hb, W.br_iff]
  refine ⟨fun h2 => ?_, fun h2 => hJ _ _ ⟨rfl, rfl, h2⟩⟩
  have : B.timeout = (B, []) := by unfold BS.timeout; rw [if_pos h2]
  rw [this]; exact OpPost.noMsgs h (Step.refl _ _)
theorem c_Beat (h : Bal s b l v n m B) (hok : B.Ok) (hF : B.role = 2 → B.Fed) : DCalls Tryz.prog 48 #[bptr b] s (OpPost (B, if B.role = 2 then B.feeds else []) b (bL b l v n m) s) := by
 refine ok_Beat b _ s ?_
 unfold vc_Beat
 have hb := h.cell
 have hsz := hok.size
 simp [W.ld_at hb, W.br_iff]
 refine ⟨fun hr => ?_, fun hr => ?_⟩
 ·rw [if_neg hr]; exact OpPost.noMsgs h (Step.refl _ _)
 ·rw [if_pos hr]
  refine W.call_of (c_othersFeed h hok.small hok.base ⟨by omega, hsz.2⟩ (hF hr)) ?_
  rintro x s5 ⟨t1, ps1, rfl, q⟩
  refine ⟨((t1, ()), ()), rfl, ?_⟩
  exact op_msgs h (Step.refl _ _) ⟨t1, ps1, rfl, q⟩
def BS.proposed (B : BS) (at_ born : Int) (text : ByteArray) : BS := B.set (B.lst + 1) [⟨B.term, at_, born, text⟩]
def BS.propose (B : BS) (at_ born : Int) (text : ByteArray) : Int × BS × List Msg :=
 if B.role = 2 then ((B.proposed at_ born text).lst, (B.proposed at_ born text).settled.1, (B.proposed at_ born text).feeds ++ (B.proposed at_ born text).settled.2) else (0, B, [])
def ProPost (R : Int × BS × List Msg) (b : Nat) (L : List Nat) (s : PH) (x : Value) (s' : PH) : Prop := ∃ y, x = .tuple #[.int .i64 R.1, y] ∧ OpPost R.2 b L s y s'
theorem c_Propose (h : Bal s b l v n m B) (hok : B.Ok) (hL : B.role = 2 → B.Ldr) (hlc : B.commit ≤ B.lst) (hl1 : B.log.length + 1 ≤ 1073741824) (at_ born : Int) (text : ByteArray) :
  DCalls Tryz.prog 49 #[bptr b, .int .i64 at_, .int .i64 born, .string text] s (ProPost (B.propose at_ born text) b (bL b l v n m) s) := by
 refine ok_Propose b at_ born text _ s ?_
 unfold vc_Propose
 have hb := h.cell
 have hsz := hok.size
 have hs := hok.small
 obtain ⟨q1, q2, q3⟩ := id hs
 have hlst : B.lst = B.base + B.log.length := rfl
 have hbase := hok.base
 simp only [RP_join]
 refine W.join_gen (fun z s' => s' = s ∧ z = () ∧ B.role = 2) ?_ ?_
 ·rintro _ s ⟨rfl, rfl, hr⟩
  have hl := hL hr
  have hwl : i64.wrap (B.lst + 1) = B.lst + 1 := wrap_in (by omega) (by omega)
  refine W.callQ_of ((B.lst, ()), ()) (c_last h hs) rfl ?_
  simp [W.ld_at hb, -W.nw_iff, hwl]
  refine W.nw_of fun r s1 hr1 m1 k1 => ?_
  have hpr : B.propose at_ born text = ((B.proposed at_ born text).lst, (B.proposed at_ born text).settled.1, (B.proposed at_ born text).feeds ++ (B.proposed at_ born text).settled.2) := by unfold BS.propose; rw [if_pos hr]
  rw [hpr]
  refine W.call_of (c_set (h.new m1) hs (i := B.lst + 1) (ys := [⟨B.term, at_, born, text⟩]) (by omega) (Int.le_refl _) (row_one (E := entE) (x := ⟨B.term, at_, born, text⟩) k1 rfl).src0 rfl (by omega)) ?_
  rintro _ s2 ⟨l', rfl, h2, st2⟩
  refine ⟨(), rfl, ?_⟩
  have hl3 : (B.proposed at_ born text).log.length = B.log.length + 1 := by
   unfold BS.proposed BS.set
   simp only [List.length_append, List.length_take, List.length_cons, List.length_nil]; omega
  have hlst3 : (B.proposed at_ born text).lst = B.lst + 1 := by
   have e : (B.proposed at_ born text).lst = B.base + ((B.proposed at_ born text).log.length : Int) := rfl
   rw [e, hl3, hlst]; omega
  have hok3 : (B.proposed at_ born text).Ok := ⟨⟨q1, q2, by omega⟩, hbase, hsz, hok.id, hok.com⟩
  have hF3 : (B.proposed at_ born text).Fed := by
   refine ⟨hl.nlen, fun i nx hnx => ?_⟩
   have g := (hl.nr i nx hnx).2
   rw [hlst3]
   have e : (B.proposed at_ born text).base = B.base := rfl
   rw [e]; omega
  have hm3 : (B.proposed at_ born text).mat.length = (B.proposed at_ born text).size.toNat := hl.mlen
  have hlc3 : (B.proposed at_ born text).commit ≤ (B.proposed at_ born text).lst := by rw [hlst3]; show B.commit ≤ _; omega
  have st3 : Step (bL b l v n m) (bL b l' v n m) s s2 := Step.trans (L' := bL b l v n m) ⟨m1.mono (by simp), fun x hx => .inl hx⟩ st2
  have h2 : Bal s2 b l' v n m (B.proposed at_ born text) := h2
  have hsz3 : (B.proposed at_ born text).size = B.size := rfl
  generalize B.proposed at_ born text = B3 at h2 hok3 hF3 hm3 hlc3 hsz3
  refine W.call_of (c_last h2 hok3.small) ?_
  rintro _ s2 ⟨rfl, rfl⟩
  refine ⟨((B3.lst, ()), ()), rfl, ?_⟩
  refine W.call_of (c_othersFeed h2 hok3.small hok3.base ⟨by omega, by omega⟩ hF3) ?_
  rintro _ s6 ⟨t1, ps1, rfl, hms1, hps1, m6, hf1⟩
  refine ⟨((t1, ()), ()), rfl, ?_⟩
  have h6 := h2.new m6
  refine W.call_of (c_settle h6 hok3 hF3 hm3 hlc3) ?_
  rintro _ s7 ⟨t2, ps2, rfl, hms2, hps2, h7, m7, hf2⟩
  refine ⟨((t2, ()), ()), rfl, ?_⟩
  have c1 : t1.2.1 ≤ 1000 := by
   have g1 := hms1.row.len
   have g2 := congrArg List.length hps1
   have g3 := B3.others_len (fun to => B3.feedM to ((B3.next[to]?).getD 0)) B3.size.toNat
   simp only [List.length_map] at g2
   have g4 : B3.feeds.length = (B3.others (fun to => B3.feedM to ((B3.next[to]?).getD 0)) B3.size.toNat).length := rfl
   omega
  have c2 : t2.2.1 ≤ 1000 := by
   have g1 := hms2.row.len
   have g2 := congrArg List.length hps2
   have g3 := settled_len B3
   simp only [List.length_map] at g2
   omega
  refine op_app (R := B3.settled) h2 hms1 m6 hf1 h7 ⟨m7.mono (by simp [bL]), fun x hx => .inl hx⟩ hms2 (fun y hy => ⟨.inr (hf2 y hy), fun hx => h6.known y hx (hf2 y hy)⟩) c1 c2 ?_
  intro a kk c' s8 hp
  rw [hps1, hps2] at hp
  exact ⟨_, rfl, OpPost.start hp st3⟩
 ·intro J hJ
  have no : B.role ≠ 2 → ProPost (B.propose at_ born text) b (bL b l v n m) s (.tuple #[.int .i64 0, .slice none 0 0]) s := by
   intro h2
   have : B.propose at_ born text = (0, B, []) := by unfold BS.propose; rw [if_neg h2]
   rw [this]; exact ⟨_, rfl, OpPost.noMsgs h (Step.refl _ _)⟩
  simp [W.ld_at hb, W.br_iff]
  exact ⟨fun h2 => no h2, fun h2 => hJ _ _ ⟨rfl, rfl, h2⟩⟩
end
end
section
attribute [-simp] Fw.W.ld_iff Fw.W.st_iff
theorem callV_of {g : FuncId} {args : Array Value} {r : Bool × List Shape} {k : MDen r.2 → W.T} {s : PH} {fn : Func} (hfn : Tryz.prog.funcs[g]? = some fn) (hb : fn.body.isSome = true) (hn : (fn.name == "runtime.NumGoroutine") = false) {Q : Value → PH → Prop}
  (h : DCalls Tryz.prog g args s Q) (hk : ∀ v s', Q v s' → ∃ x, mkRes r x = v ∧ k x s') : W.callV Tryz.prog (.func (.func g) #[] #[]) args r k s := by
 refine ⟨g, #[], #[], rfl, ⟨fn, hfn, hb, hn⟩, ?_⟩
 have : (#[] : Array Value) ++ args ++ #[] = args := by simp
 rw [this]; exact h.mono hk
section
variable {s : PH} {b : Nat} {l v n m : Tri} {B : BS}
theorem OnePost.op {B' : BS} {ms : List Msg} {x : Value} {s' : PH} (hk : ∀ x ∈ bL b l v n m, s x ≠ none) (h : OnePost B' ms b l v n m s x s') : OpPost (B', ms) b (bL b l v n m) s x s' := by
 obtain ⟨t, ps, rfl, hms, hps, hB, hm, hf⟩ := h
 exact ⟨t, ps, l, v, n, m, rfl, hB, ⟨hm.mono (by simp [bL]), fun x hx => .inl hx⟩, hms, hps, fun y hy => ⟨.inr (hf y hy), fun hx => hk y hx (hf y hy)⟩⟩
def BS.seen (B : BS) (M : Msg) : BS := if M.term > B.term then B.turned M.term (-1) 0 else B
def BS.does (B : BS) (M : Msg) : BS × List Msg :=
 if M.kind = 1 then B.asked M else if M.kind = 2 then B.voted M else if M.kind = 3 then B.fed M else if M.kind = 4 then B.heard M else B.given M
def BS.late (B : BS) (M : Msg) : List Msg := if M.kind = 1 then [B.msg 2 M.from_] else if M.kind = 3 ∨ M.kind = 5 then [B.toldM M.from_ false B.lst] else []
def BS.take (B : BS) (M : Msg) : BS × List Msg :=
 if M.strange B.id B.size = true then (B, []) else
 if M.term < (B.seen M).term then (B.seen M, (B.seen M).late M) else (B.seen M).does M
structure BS.Run (B : BS) : Prop where
 ok : B.Ok
 lc : B.commit ≤ B.lst
 vt : B.role = 1 → B.votes.length = B.size.toNat
 ld : B.role = 2 → B.Ldr
theorem BS.Run.seen {B : BS} (h : B.Run) (M : Msg) : (B.seen M).Run := by
 unfold BS.seen
 split
 ·exact ⟨⟨⟨h.ok.small.base0, h.ok.small.base1, h.ok.small.log1⟩, h.ok.base, h.ok.size, h.ok.id, h.ok.com⟩, h.lc, fun e => absurd e (by show ¬ (0 : Int) = 1; omega), fun e => absurd e (by show ¬ (0 : Int) = 2; omega)⟩
 ·exact h
theorem c_Take (h : Bal s b l v n m B) (hR : B.Run) (hl1 : B.log.length + 1 ≤ 1073741824) (M : Msg) (t : Tri) (hrow : rowE entE s 43 t.1 t.2.1 t.2.2 M.list) (hll : M.list.length ≤ 1000000) :
  DCalls Tryz.prog 61 #[bptr b, msgV M t] s (OpPost (B.take M) b (bL b l v n m) s) := by
 refine ok_Take b M.kind M.from_ M.to M.term M.index M.prev M.commit M.good t.1 t.2.1 t.2.2 M.snap _ s ?_
 unfold vc_Take
 simp only [RP_nw]
 refine W.nw_of fun r s1 hr m1 k1 => ?_
 have h1 := h.new m1
 have hb1 := h1.cell
 have hbr : b ≠ r := ne_of_known h.cell hr
 have st1 : Step (bL b l v n m) (bL b l v n m) s s1 := ⟨m1.mono (by simp), fun x hx => .inl hx⟩
 have hrow1 := hrow.mod m1 (by simp)
 simp only [RP_join]
 refine W.join_gen (fun z s' => z = ((Addr.mk r 0 none, ()), ()) ∧ M.strange B.id B.size = false ∧ Fw.Mod [] s1 s') ?_ ?_
 ·rintro _ s2 ⟨rfl, hst, m2⟩
  have hst' := hst
  unfold Msg.strange at hst'
  simp only [Bool.or_eq_false_iff, decide_eq_false_iff_not] at hst'
  obtain ⟨f1, f2, f3, f4, f5, f6, f7, f8, f9, f10, ⟨f11, f12⟩, f13, f14⟩ := hst'
  have h2 := h1.new m2
  have hb2 := h2.cell
  have k2 := m2.at k1 (by simp)
  have hrow2 := hrow1.mod m2 (by simp)
  refine W.join_gen (fun z s' => z = ((Addr.mk r 0 none, ()), ()) ∧ Bal s' b l v n m (B.seen M) ∧ Step (bL b l v n m) (bL b l v n m) s s' ∧ s' r = some (.cells (msgCells M t).toArray 119 (0, 0)) ∧ rowE entE s' 43 t.1 t.2.1 t.2.2 M.list) ?_ ?_
  ·rintro _ s3 ⟨rfl, h3, st3, k3, hrow3⟩
   have htk : B.take M = if M.term < (B.seen M).term then (B.seen M, (B.seen M).late M) else (B.seen M).does M := by unfold BS.take; rw [if_neg (by rw [hst]; simp)]
   rw [htk]
   have hR3 := hR.seen M
   have hsz : (B.seen M).size = B.size ∧ (B.seen M).log = B.log := by unfold BS.seen; split <;> exact ⟨rfl, rfl⟩
   rw [← hsz.2] at hl1
   rw [← hsz.1] at f4
   generalize B.seen M = B3 at h3 hR3 hl1 f4 ⊢
   have hb3 := h3.cell
   simp [W.ld_at hb3, W.ld_at k3, W.br_iff, -W.nw_iff]
   refine ⟨fun hlt => ?_, fun hge => ?_⟩
   ·rw [if_pos hlt]
    unfold BS.late
    refine ⟨fun hk => ?_, fun hk => ?_⟩
    ·rw [if_pos hk]
     refine W.call_of (c_msg h3 2 M.from_) ?_
     rintro _ s4 ⟨rfl, m4⟩
     refine ⟨((2, B3.id, M.from_, B3.term, 0, 0, 0, false, (none, 0, 0), ⟨#[]⟩, ()), ()), rfl, ?_⟩
     refine W.nw_of fun q s5 hq m5 k5 => ?_
     have h4 := h3.new m4
     have st4 : Step (bL b l v n m) (bL b l v n m) s s4 := st3.trans ⟨m4.mono (by simp), fun x hx => .inl hx⟩
     exact OpPost.start ((one_of (M := B3.msg 2 M.from_) h4 (Mod.refl _ _) (by rw [h4.cell]; simp) hq m5 k5 rfl).op h4.known) st4
    ·rw [if_neg hk]
     refine W.join_gen (fun z s' => z = ((Addr.mk r 0 none, ()), (decide (M.kind = 3 ∨ M.kind = 5), ()), ()) ∧ s' = s3) ?_ ?_
     ·rintro _ s3 ⟨rfl, rfl⟩
      simp only [W.br_iff, decide_eq_true_eq, decide_eq_false_iff_not]
      refine ⟨fun h35 => ?_, fun h35 => ?_⟩
      ·rw [if_pos h35]
       simp [W.ld_at k3]
       refine W.callQ_of ((B3.lst, ()), ()) (c_last h3 hR3.ok.small) rfl ?_
       refine W.call_of (c_told h3 M.from_ false B3.lst) ?_
       intro x s6 hp
       obtain ⟨t6, ps, rfl, q⟩ := hp
       refine ⟨((t6, ()), ()), rfl, ?_⟩
       exact op_msgs h3 st3 ⟨t6, ps, rfl, q⟩
      ·rw [if_neg h35]
       exact OpPost.noMsgs h3 st3
     ·intro J hJ
      simp only [W.br_iff]
      refine ⟨fun h3' => hJ _ _ ⟨?_, rfl⟩, fun h3' => hJ _ _ ⟨?_, rfl⟩⟩
      ·have : M.kind = 3 := by simpa using h3'
       simp [this]
      ·have : ¬ M.kind = 3 := by simpa using h3'
       simp [this]; rw [Bool.eq_iff_iff]; simp
   ·rw [if_neg (by omega)]
    refine W.nw_of fun q s4 hq m4 k4 => ?_
    have k3' := m4.at k3 (by simp)
    have hrq : r ≠ q := ne_of_known k3 hq
    have hsame : (s4.upd q (.cells #[.func (.func 93) #[] #[], .func (.func 94) #[] #[], .func (.func 95) #[] #[], .func (.func 96) #[] #[], .func (.func 97) #[] #[]] 160 (0, 0))) q = some (.cells #[.func (.func 93) #[] #[], .func (.func 94) #[] #[], .func (.func 95) #[] #[], .func (.func 96) #[] #[], .func (.func 97) #[] #[]] 160 (0, 0)) := PH.upd_same _ _ _
    simp [W.st_at k4]
    have m5 : Fw.Mod [] s3 (s4.upd q (.cells #[.func (.func 93) #[] #[], .func (.func 94) #[] #[], .func (.func 95) #[] #[], .func (.func 96) #[] #[], .func (.func 97) #[] #[]] 160 (0, 0))) := m4.updLater (.inr hq)
    generalize s4.upd q (.cells #[.func (.func 93) #[] #[], .func (.func 94) #[] #[], .func (.func 95) #[] #[], .func (.func 96) #[] #[], .func (.func 97) #[] #[]] 160 (0, 0)) = s5 at hsame m5 ⊢
    have k5 := m5.at k3 (by simp)
    have h5 := h3.new m5
    have hrow5 := hrow3.mod m5 (by simp)
    have st5 : Step (bL b l v n m) (bL b l v n m) s s5 := st3.trans ⟨m5.mono (by simp), fun x hx => .inl hx⟩
    have hFAR : FAR = 1099511627776 := rfl
    have hi1 : -1 ≤ M.index := by split at f9 <;> omega
    have hkind : M.kind = 1 ∨ M.kind = 2 ∨ M.kind = 3 ∨ M.kind = 4 ∨ M.kind = 5 := by omega
    unfold BS.does
    rcases hkind with hk | hk | hk | hk | hk
    ·have hw : i64.wrap (M.kind - 1) = 0 := by rw [hk]; kernel_rfl
     simp [W.ld_at k5, hw, W.ld_at hsame]
     rw [if_pos hk]
     refine callV_of Tryz.func93 rfl (by kernel_rfl) ((c_asked h5 hR3.ok M t).mono fun x s' hp => OnePost.op h5.known hp) ?_
     intro x s6 hp
     obtain ⟨t', ps, l', v', n', m', rfl, q⟩ := hp
     exact ⟨((t', ()), ()), rfl, OpPost.start ⟨t', ps, l', v', n', m', rfl, q⟩ st5⟩
    ·have hw : i64.wrap (M.kind - 1) = 1 := by rw [hk]; kernel_rfl
     simp [W.ld_at k5, hw, W.ld_at hsame]
     rw [if_neg (by omega), if_pos hk]
     refine callV_of Tryz.func94 rfl (by kernel_rfl) (c_voted h5 hR3.ok hR3.vt hR3.lc hl1 M t (by omega) (by omega)) ?_
     intro x s6 hp
     obtain ⟨t', ps, l', v', n', m', rfl, q⟩ := hp
     exact ⟨((t', ()), ()), rfl, OpPost.start ⟨t', ps, l', v', n', m', rfl, q⟩ st5⟩
    ·have hw : i64.wrap (M.kind - 1) = 2 := by rw [hk]; kernel_rfl
     simp [W.ld_at k5, hw, W.ld_at hsame]
     rw [if_neg (by omega), if_neg (by omega), if_pos hk]
     refine callV_of Tryz.func95 rfl (by kernel_rfl) (c_fed h5 hR3.ok hR3.lc M t hrow5 hll ⟨by simp [hk] at f9; omega, by omega⟩) ?_
     intro x s6 hp
     obtain ⟨t', ps, l', v', n', m', rfl, q⟩ := hp
     exact ⟨((t', ()), ()), rfl, OpPost.start ⟨t', ps, l', v', n', m', rfl, q⟩ st5⟩
    ·have hw : i64.wrap (M.kind - 1) = 3 := by rw [hk]; kernel_rfl
     simp [W.ld_at k5, hw, W.ld_at hsame]
     rw [if_neg (by omega), if_neg (by omega), if_neg (by omega), if_pos hk]
     refine callV_of Tryz.func96 rfl (by kernel_rfl) (c_heard h5 hR3.ok hR3.ld hR3.lc M t (by omega) (by omega) ⟨by omega, by omega⟩) ?_
     intro x s6 hp
     obtain ⟨t', ps, l', v', n', m', rfl, q⟩ := hp
     exact ⟨((t', ()), ()), rfl, OpPost.start ⟨t', ps, l', v', n', m', rfl, q⟩ st5⟩
    ·have hw : i64.wrap (M.kind - 1) = 4 := by rw [hk]; kernel_rfl
     simp [W.ld_at k5, hw, W.ld_at hsame]
     rw [if_neg (by omega), if_neg (by omega), if_neg (by omega), if_neg (by omega)]
     refine callV_of Tryz.func97 rfl (by kernel_rfl) (c_given h5 hR3.ok hR3.lc M t ⟨by omega, by omega⟩) ?_
     intro x s6 hp
     obtain ⟨t', ps, l', v', n', m', rfl, q⟩ := hp
     exact ⟨((t', ()), ()), rfl, OpPost.start ⟨t', ps, l', v', n', m', rfl, q⟩ st5⟩
  ·intro J hJ
   simp [W.ld_at hb2, W.ld_at k2, W.br_iff]
   refine ⟨fun hlt => ?_, fun hge => ?_⟩
   ·refine W.call_of (c_turn h2 M.term (-1) 0) ?_
    rintro _ s3 ⟨rfl, h3, m3⟩
    refine ⟨(), rfl, ?_⟩
    have : B.seen M = B.turned M.term (-1) 0 := by unfold BS.seen; rw [if_pos hlt]
    refine hJ _ _ ⟨rfl, by rw [this]; exact h3, ?_, m3.at k2 (by simpa using hbr.symm), ?_⟩
    ·exact (st1.trans ⟨m2.mono (by simp), fun x hx => .inl hx⟩).trans ⟨m3.mono (by simp [bL]), fun x hx => .inl hx⟩
    ·refine hrow2.mod m3 fun x hx hx' => ?_
     simp at hx'; subst hx'; exact row_ne2 hrow2 hb2 (by decide) hx
   ·have : B.seen M = B := by unfold BS.seen; rw [if_neg (by omega)]
    refine hJ _ _ ⟨rfl, by rw [this]; exact h2, ?_, k2, hrow2⟩
    exact st1.trans ⟨m2.mono (by simp), fun x hx => .inl hx⟩
 ·intro J hJ
  simp [W.ld_at k1, W.br_iff]
  refine W.call_of (c_strange h1 M t) ?_
  rintro _ s2 ⟨rfl, m2⟩
  refine ⟨((M.strange B.id B.size, ()), ()), rfl, ?_⟩
  simp only [W.br_iff]
  refine ⟨fun hs => ?_, fun hs => hJ _ _ ⟨rfl, hs, m2⟩⟩
  have hs : M.strange B.id B.size = true := hs
  have : B.take M = (B, []) := by unfold BS.take; rw [if_pos hs]
  rw [this]; exact OpPost.noMsgs (h1.new m2) (st1.trans ⟨m2.mono (by simp), fun x hx => .inl hx⟩)
end
end
section
attribute [-simp] Fw.W.ld_iff Fw.W.st_iff
structure OpD where
 kind : Int
 a : Int
 b : Int
 text : ByteArray
 M : Msg
abbrev noDelta : Value := .agg #[.int .i64 0, .int .i64 0, .bool false, .int .i64 0, .int .i64 0, .string ⟨#[]⟩, .int .i64 0, .slice none 0 0]
theorem n_Entry (i : Int) (s : PH) : DCalls Tryz.prog 35 #[.pointer none, .int .i64 i] s fun x s' => x = .tuple #[entV noEnt, .bool false] ∧ Fw.Mod [] s s' := by
 refine ok_EntryN i _ s ?_
 unfold vc_EntryN
 simp only [RP_nw]
 refine W.nw_of fun r s1 hr m1 k1 => ?_
 simp [W.br_iff, W.st_at k1]
 exact ⟨rfl, m1.updLater (.inr hr)⟩
theorem n_Stand (s : PH) : DCalls Tryz.prog 34 #[.pointer none] s fun x s' => x = .agg #[.int .i64 0, .int .i64 0, .int .i64 0, .int .i64 0, .int .i64 0, .int .i64 0, .int .i64 0] ∧ Fw.Mod [] s s' := by
 refine ok_StandN _ s ?_
 unfold vc_StandN
 simp only [RP_nw]
 refine W.nw_of fun r s1 hr m1 k1 => ?_
 simp [W.br_iff, W.st_at k1]
 exact m1.updLater (.inr hr)
abbrev opV (o : OpD) (t : Tri) : Value := .agg #[.int .i64 o.kind, .int .i64 o.a, .int .i64 o.b, .string o.text, .int .i64 o.M.kind, .int .i64 o.M.from_, .int .i64 o.M.to, .int .i64 o.M.term, .int .i64 o.M.index, .int .i64 o.M.prev, .int .i64 o.M.commit, .bool o.M.good, .slice t.1 t.2.1 t.2.2, .string o.M.snap]
end
section
attribute [-simp] Fw.W.ld_iff Fw.W.st_iff
def BS.runB (B : BS) : Bool :=
 decide (0 ≤ B.base ∧ B.base ≤ 4611686016279904256 ∧ B.log.length ≤ 1073741824 ∧ 1 ≤ B.size ∧ B.size ≤ 5 ∧ 0 ≤ B.id ∧ B.id < B.size ∧ B.base ≤ B.commit ∧ B.commit ≤ B.lst) &&
 (decide (B.role = 1 → B.votes.length = B.size.toNat) && decide (B.role = 2 → B.next.length = B.size.toNat ∧ B.mat.length = B.size.toNat ∧ (∀ x ∈ B.next, 0 ≤ x ∧ x ≤ B.lst + 1) ∧ ∀ x ∈ B.mat, 0 ≤ x ∧ x ≤ B.lst))
theorem BS.runB_run {B : BS} (h : B.runB = true) : B.Run := by
 unfold BS.runB at h
 simp only [Bool.and_eq_true, decide_eq_true_eq] at h
 obtain ⟨⟨h1, h2, h3, h4, h5, h6, h7, h8, h9⟩, hv, hl⟩ := h
 refine ⟨⟨⟨h1, by omega, h3⟩, h2, ⟨h4, h5⟩, ⟨h6, h7⟩, h8⟩, h9, hv, fun hr => ?_⟩
 obtain ⟨g1, g2, g3, g4⟩ := hl hr
 exact ⟨g1, g2, fun i x hx => g3 x (List.mem_of_getElem? hx), fun i x hx => g4 x (List.mem_of_getElem? hx)⟩
end
end Go.Proofs.YtcdggocbjnmeaaaGreat
