/-
  Part 26 for the law: lemmas.
  Conditions: none.
-/
import Derived.Test.YtlfdfgokflhdbaaGreatExecExactK25
set_option maxHeartbeats 4000000
set_option maxRecDepth 100000
set_option linter.unusedVariables false
set_option linter.unusedSimpArgs false
set_option linter.unusedSectionVars false
namespace Go.Proofs.YtlfdfgokflhdbaaGreat
open Fw Go Go.IntKind
section
attribute [-simp] Fw.W.bD Fw.W.bB
structure Gw {α : Type} (E : cO α) (e : TypeId) (s0 s : PH) (a : OA) (n c : Nat) (l : List α) : Prop where
 row : bq E s e a n c l
 fr : ∀ g ∈ Fw.aW a, s0 g = none
 md : Fw.Mod [] s0 s
theorem Gw.nil {α : Type} {E : cO α} {e : TypeId} {s0 s : PH} (h : Fw.Mod [] s0 s) : Gw E e s0 s none 0 0 ([] : List α) := ⟨bq.nil, by simp [Fw.aW], h⟩
theorem Gw.same {α : Type} {E : cO α} {e : TypeId} {s0 s s' : PH} {a : OA} {n c : Nat} {l : List α} (h : Gw E e s0 s a n c l) (hm : Fw.Mod [] s s') : Gw E e s0 s' a n c l :=
 ⟨h.row.mod hm (by simp), h.fr, h.md.trans hm⟩
theorem Gw.DZ {α : Type} {E : cO α} {e : TypeId} {s0 s : PH} {a : OA} {n c bytes k : Nat} {l : List α} {zero : List Value} {K : OA → Nat → Nat → W.T} (h : Gw E e s0 s a n c l) (ys : List α) {cs : Array Value}
  (hc : cs.toList = ys.flatMap E.f) (hk : ys.length = k) (hz : zero.length = E.sz) (hl : n + k ≤ 9223372036854775807) (hbb : (n + k) * bytes ≤ 140737488355328)
  (hK : ∀ a' c' s', Gw E e s0 s' a' (n + k) c' (l ++ ys) → Fw.Mod (Fw.aW a) s s' → K a' (n + k) c' s') : W.nw (.cells cs e (0, 0)) (fun r => W.app e E.sz bytes zero a n c (Src.sl (some ⟨r, 0, none⟩) k) K) s := by
 refine W.bI fun r s1 hr m1 k1 => ?_;have hmax : maxLen = 9223372036854775807 := rfl;have hrow := h.row.mod m1 (by simp);refine jk hrow hz (ys := ys) (k := k) (wP (by rw [← hc]; exact j8 k1) hk) rfl hk (by omega) (by omega) ?_;intro a' c' s' h' hm;refine hK a' c' s' ⟨h', ?_, ?_⟩ ?_
 ·rcases hm with ⟨rfl, _⟩ | ⟨g, rfl, hg, _⟩
  ·exact h.fr
  ·intro g' hg'
   have : g' = g := by simpa [Fw.aW] using hg'
   subst this;exact (h.md.trans m1).none hg (by simp)
 ·rcases hm with ⟨rfl, hm⟩ | ⟨g, rfl, hg, hm⟩
  ·exact (h.md.trans m1).fresh hm fun g hg => .inr (h.fr g hg)
  ·exact (h.md.trans m1).trans hm
 ·rcases hm with ⟨rfl, hm⟩ | ⟨g, rfl, hg, hm⟩
  ·exact (m1.mono (by simp)).trans hm
  ·exact (m1.trans hm).mono (by simp)
theorem Gw.nN {α : Type} {E : cO α} {e : TypeId} {s0 s : PH} {a : OA} {n c bytes k : Nat} {l : List α} {zero : List Value} {K : OA → Nat → Nat → W.T} (h : Gw E e s0 s a n c l) (ys : List α) {cs : Array Value}
  (hc : cs.toList = ys.flatMap E.f) (hk : ys.length = k) (hz : zero.length = E.sz) (hl : n + k ≤ 4294967296) (hb : bytes ≤ 1000)
  (hK : ∀ a' c' s', Gw E e s0 s' a' (n + k) c' (l ++ ys) → Fw.Mod (Fw.aW a) s s' → K a' (n + k) c' s') : W.nw (.cells cs e (0, 0)) (fun r => W.app e E.sz bytes zero a n c (Src.sl (some ⟨r, 0, none⟩) k) K) s := by
 have hbb : (n + k) * bytes ≤ 4294967296 * 1000 := Nat.mul_le_mul hl hb;exact h.DZ ys hc hk hz (by omega) (by omega) hK
theorem Gw.push {α : Type} {E : cO α} {e : TypeId} {s0 s : PH} {a : OA} {n c bytes k : Nat} {l : List α} {zero : List Value} {K : OA → Nat → Nat → W.T} (h : Gw E e s0 s a n c l) (ys : List α) {cs : Array Value}
  (hc : cs.toList = ys.flatMap E.f) (hk : ys.length = k) (hz : zero.length = E.sz) (hl : n + k ≤ 4294967296) (hb : bytes ≤ 1000)
  (hK : ∀ a' c' s', Gw E e s0 s' a' (n + k) c' (l ++ ys) → K a' (n + k) c' s') : W.nw (.cells cs e (0, 0)) (fun r => W.app e E.sz bytes zero a n c (Src.sl (some ⟨r, 0, none⟩) k) K) s :=
 h.nN ys hc hk hz hl hb fun a' c' s' h1 _ => hK a' c' s' h1
theorem Gw.off {α : Type} {E : cO α} {e e' : TypeId} {s0 s : PH} {a : OA} {n c r : Nat} {l : List α} {cur : Array Value} {f : Nat × Nat} (h : Gw E e s0 s a n c l) (hr : s r = some (.cells cur e' f)) (hne : e' ≠ e) : r ∉ Fw.aW a := by
 intro hg;rcases h.row.shape with ⟨rfl, _⟩ | ⟨g', rfl⟩
 ·simp [Fw.aW] at hg
 ·simp [Fw.aW] at hg; subst hg;obtain ⟨c2, h2⟩ := h.row.ty rfl;rw [hr] at h2; cases h2;exact hne rfl
def nB : cO UInt8 where
 sz := 1
 f b := [.int .u8 (b.toNat : Int)]
 len _ := rfl
 one p v hv := by simp at hv; subst hv; (first | done | rfl)
 pos := by omega
def ew : cO aH where
 sz := 3
 f v := [.int .i64 v.kind, .int .i64 v.n, .string v.s]
 len _ := rfl
 one p v hv := by simp at hv; rcases hv with rfl | rfl | rfl <;> rfl
 pos := by omega
abbrev bC (v : aH) : Den [.int .i64, .int .i64, .str] := (v.kind, v.n, v.s, ())
theorem GH (l : List UInt8) : l.flatMap nB.f = bytesOf (kB l) := by
 unfold bytesOf;have : (kB l).data.toList = l := dA l;rw [this]
 induction l with
 | nil => rfl
 | cons b l ih => rw [List.flatMap_cons, List.map_cons, ih (dA l)]; (first | done | rfl)
theorem mJ {s : PH} {e : TypeId} {a : OA} {n c : Nat} {l : List UInt8} {K : BA → W.T} (h : bq nB s e a n c l) (hK : K (kB l) s) : W.j4 a n K s := by
 refine ⟨kB l, ?_, hK⟩;have hlen := h.len;have hs := h.Md
 cases a with
 | none =>
  have : l = [] := by
   rcases h.shape with ⟨_, rfl, _⟩ | ⟨g, e⟩
   ·exact List.eq_nil_of_length_eq_zero (by omega)
   ·cases e
  subst this
  first | done | rfl
 | some ad =>
  refine ⟨by rw [bR]; omega, ?_⟩;rw [← GH];exact hs.2
theorem CO {a : Nat} (h : a < 18446744073709551616) : (BitVec.ofInt 64 (a : Int) ^^^ BitVec.ofInt 64 (9223372036854775808 : Int)).toNat = (a + 9223372036854775808) % 18446744073709551616 := by
 have e1 : (BitVec.ofInt 64 (a : Int)).toNat = a := by
  rw [BitVec.toNat_ofInt]; simp; omega
 have e2 : (BitVec.ofInt 64 (9223372036854775808 : Int)).toNat = 2 ^ 63 := rfl;rw [BitVec.toNat_xor, e1, e2]
 have key : ∀ b : Nat, b < 2 ^ 63 → b ^^^ 2 ^ 63 = 2 ^ 63 + b := by
  intro b hb;apply Nat.eq_of_testBit_eq;intro i;rw [Nat.testBit_xor, Nat.testBit_two_pow];rcases Nat.lt_trichotomy i 63 with hi | hi | hi
  ·rw [Nat.testBit_two_pow_add_gt hi]
   have : ¬ 63 = i := by omega
   simp [this]
  ·subst hi;rw [Nat.testBit_two_pow_add_eq]; simp
  ·have h1 : b < 2 ^ i := Nat.lt_trans hb (Nat.pow_lt_pow_right (by omega) hi)
   have h2 : 2 ^ 63 + b < 2 ^ i := by
    have : 2 ^ 64 ≤ 2 ^ i := Nat.pow_le_pow_right (by omega) hi;omega
   rw [Nat.testBit_lt_two_pow h1, Nat.testBit_lt_two_pow h2]
   have : ¬ 63 = i := by omega
   simp [this]
 rcases Nat.lt_or_ge a (2 ^ 63) with ha | ha
 ·rw [key a ha]; omega
 ·obtain ⟨b, rfl⟩ : ∃ b, a = 2 ^ 63 + b := ⟨a - 2 ^ 63, by omega⟩
  have hb : b < 2 ^ 63 := by omega
  rw [← key b hb, Nat.xor_assoc, Nat.xor_self, Nat.xor_zero];rw [key b hb]; omega
theorem rO (n : Int) : u64.wrap n = n % 18446744073709551616 := by simp [IntKind.wrap, IntKind.bits, IntKind.signed]
theorem w8 (n : Int) : u8.wrap n = n % 256 := by rw [IntKind.wrap_u8]
theorem Lj (n : Int) : u64.wrap (((BitVec.ofInt 64 (u64.wrap n) ^^^ BitVec.ofInt 64 9223372036854775808).toNat : Nat) : Int) = ((n64 n : Nat) : Int) := by
 obtain ⟨a, ha⟩ : ∃ a : Nat, u64.wrap n = (a : Int) := ⟨(n % 18446744073709551616).toNat, by rw [rO]; omega⟩
 have hl : a < 18446744073709551616 := by rw [rO] at ha; omega
 rw [ha, CO hl, rO];unfold n64;rw [rO] at ha;omega
theorem Is {a : Nat} (h : a < 18446744073709551616) : i64.wrap (u64.wrap (((BitVec.ofInt 64 (a : Int) ^^^ BitVec.ofInt 64 9223372036854775808).toNat : Nat) : Int)) = jh a := by
 rw [CO h, rO, IntKind.wrap_i64];unfold jh;omega
theorem La {a b : Nat} (ha : a < 72057594037927936) (hb : b < 256) : (BitVec.ofInt 64 ((a * 256 : Nat) : Int) ||| BitVec.ofInt 64 (b : Int)).toNat = a * 256 + b := by
 rw [BitVec.toNat_or, BitVec.toNat_ofInt, BitVec.toNat_ofInt]
 have e1 : ((((a * 256 : Nat) : Int)) % ((2 ^ 64 : Nat) : Int)).toNat = 2 ^ 8 * a := by simp; omega
 have e2 : ((b : Int) % ((2 ^ 64 : Nat) : Int)).toNat = b := by simp; omega
 rw [e1, e2, ← Nat.two_pow_add_eq_or_of_lt (by omega : b < 2 ^ 8)];omega
theorem mV : ∀ (x y : List UInt8), eG (x ++ y) = eG x ++ eG y
 | [], y => rfl
 | b :: x, y => by
  simp only [List.cons_append, eG, mV x y]
  split <;> rfl
theorem zN : ∀ l : List UInt8, (eG l).length ≤ 2 * l.length
 | [] => by simp [eG]
 | b :: l => by
  have := zN l;simp only [eG]
  split <;> simp <;> omega
theorem AW {v : aH} (h : bA v = true) : (bP v).length ≤ 140 := by
 unfold bP;unfold bA at h;have h2 := zN (kL v.s);rw [dj] at h2
 split
 ·simp [fM]
 ·split
  ·rename_i h1 h3
   rw [if_neg (by omega), if_neg h1, if_pos h3] at h;simp at h;simp; omega
  ·simp
theorem uo {l : List aH} (h : ∀ v ∈ l, bA v = true) : (l.flatMap bP).length ≤ 140 * l.length := by
 induction l with
 | nil => simp
 | cons v l ih =>
  have h1 := AW (h v (by simp));have h2 := ih fun x hx => h x (by simp [hx]);rw [List.flatMap_cons, List.length_append, List.length_cons]; omega
theorem Ky {s0 s : PH} {a : OA} {n c : Nat} {l : List UInt8} {v : aH} (h : Gw nB 5 s0 s a n c l) (hv : bA v = true) (hl : n ≤ 1000000) :
  ah 255 #[.slice a n c, dV v] s fun y s' => ∃ a' n' c', y = .slice a' n' c' ∧ Gw nB 5 s0 s' a' n' c' (l ++ bP v) := by
 refine JG a n c v.kind v.n v.s _ s ?_;unfold Cx;have hk := pY hv;simp only [bY, cX, aR, aQ, aP, aF]
 have hd : u8.wrap (i64.wrap (1 + v.kind)) = ((UInt8.ofNat ((1 + v.kind) % 256).toNat).toNat : Int) := by
  rcases hk with e | e | e <;> rw [e] <;> rfl
 refine h.push [UInt8.ofNat ((1 + v.kind) % 256).toNat] (k := 1) (by rw [hd]; (first | done | rfl)) rfl rfl (by omega) (by omega) fun a1 c1 s1 h1 => ?_;refine (W.af _ _ _ _).2 ⟨fun e1 => ?_, fun e1 => aC (fun e2 => ?_) fun e2 => ?_⟩
 ·have e1 : v.kind = 1 := eq_of_beq e1;rw [Lj]
  obtain ⟨N, hN⟩ : ∃ N, n64 v.n = N := ⟨_, rfl⟩
  have hNl : N < 18446744073709551616 := by rw [← hN]; exact Ah _
  have hend : l ++ bP v = l ++ [UInt8.ofNat ((1 + v.kind) % 256).toNat] ++ fM N := by unfold bP; rw [if_pos e1, hN]; simp
  rw [hend, hN]
  generalize l ++ [UInt8.ofNat ((1 + v.kind) % 256).toNat] = m at h1 ⊢
  refine ⟨fun z s' => ∃ (a : OA) (j c : Nat), z = (((a, n + 1 + j, c), ()), ((N : Int), ()), ((56 - 8 * j : Int), ()), ()) ∧ j ≤ 8 ∧ Gw nB 5 s0 s' a (n + 1 + j) c (m ++ (fM N).take j), fun z _ => (z.2.2.1.1 + 8).toNat, ⟨a1, 0, c1, rfl, by omega, by simpa using h1⟩, ?_⟩;rintro _ s2 ⟨a2, j, c2, rfl, hj, h2⟩;refine aC (fun e => ?_) fun e => ?_
  ·have e : (56 - 8 * j : Int) ≥ 0 := of_decide_eq_true e
   have hj8 : j < 8 := by omega
   refine bg e ?_
   obtain ⟨b, hb⟩ : ∃ b, (fM N)[j]? = some b := ⟨_, List.getElem?_eq_getElem (by show j < 8; exact hj8)⟩
   have hbv : u8.wrap (if false = true then u64.wrap ((N : Int) * 2 ^ min (56 - 8 * j : Int).toNat 64) else ((N : Int)).fdiv (2 ^ min (56 - 8 * j : Int).toNat 64)) = (b.toNat : Int) := by
    rw [if_neg (by decide)]
    have hq : ∀ d : Nat, 0 < d → u8.wrap ((N : Int).fdiv (d : Int)) = ((UInt8.ofNat (N / d)).toNat : Int) := by
     intro d hd;rw [UInt8.toNat_ofNat', w8, Int.fdiv_eq_ediv_of_nonneg _ (by omega)];simp
    match j, hj8, hb with
    | 0, _, hb => simp only [fM, List.getElem?_cons_zero, Option.some.injEq] at hb; subst hb; exact hq 72057594037927936 (by decide)
    | 1, _, hb => simp only [fM, List.getElem?_cons_zero, List.getElem?_cons_succ, Option.some.injEq] at hb; subst hb; exact hq 281474976710656 (by decide)
    | 2, _, hb => simp only [fM, List.getElem?_cons_zero, List.getElem?_cons_succ, Option.some.injEq] at hb; subst hb; exact hq 1099511627776 (by decide)
    | 3, _, hb => simp only [fM, List.getElem?_cons_zero, List.getElem?_cons_succ, Option.some.injEq] at hb; subst hb; exact hq 4294967296 (by decide)
    | 4, _, hb => simp only [fM, List.getElem?_cons_zero, List.getElem?_cons_succ, Option.some.injEq] at hb; subst hb; exact hq 16777216 (by decide)
    | 5, _, hb => simp only [fM, List.getElem?_cons_zero, List.getElem?_cons_succ, Option.some.injEq] at hb; subst hb; exact hq 65536 (by decide)
    | 6, _, hb => simp only [fM, List.getElem?_cons_zero, List.getElem?_cons_succ, Option.some.injEq] at hb; subst hb; exact hq 256 (by decide)
    | 7, _, hb => simp only [fM, List.getElem?_cons_zero, List.getElem?_cons_succ, Option.some.injEq] at hb; subst hb; have := hq 1 (by omega); simpa using this
   rw [hbv];refine h2.push [b] (k := 1) rfl rfl rfl (by omega) (by omega) fun a3 c3 s3 h3 => ?_
   have hw : i64.wrap ((56 - 8 * j : Int) - 8) = (56 - 8 * ((j + 1 : Nat) : Int)) := by rw [bQ (by omega) (by omega)]; omega
   rw [hw];refine ⟨⟨a3, j + 1, c3, rfl, by omega, ?_⟩, by dsimp only; omega⟩;rw [List.take_add_one, hb];rw [List.append_assoc] at h3;exact h3
  ·have e : ¬ (56 - 8 * j : Int) ≥ 0 := of_decide_eq_false e
   have : j = 8 := by omega
   subst this;exact ⟨a2, _, c2, rfl, by simpa [fM] using h2⟩
 ·have e2 : v.kind = 2 := eq_of_beq e2
  have e1 : v.kind ≠ 1 := by omega
  have hvs : v.s.size ≤ 64 := by
   unfold bA at hv;rw [if_neg (by omega), if_neg e1, if_pos e2] at hv;simp at hv; exact hv.2
  have hend : l ++ bP v = l ++ [UInt8.ofNat ((1 + v.kind) % 256).toNat] ++ (eG (kL v.s) ++ [0, 1]) := by unfold bP; rw [if_neg e1, if_pos e2]; simp
  rw [hend];have hn1 := h1.row.len
  generalize l ++ [UInt8.ofNat ((1 + v.kind) % 256).toNat] = m at h1 hn1 ⊢
  refine ⟨fun z s' => ∃ (a : OA) (N k c : Nat), z = (((a, N, c), ()), bC v, ((v.s.size : Int), ()), ((k : Int), ()), ()) ∧ k ≤ v.s.size ∧ N ≤ n + 1 + 2 * k ∧ Gw nB 5 s0 s' a N c (m ++ eG ((kL v.s).take k)), fun z _ => v.s.size - z.2.2.2.1.1.toNat, ⟨a1, n + 1, 0, c1, rfl, Nat.zero_le _, by omega, by simpa [eG] using h1⟩, ?_⟩;rintro _ s2 ⟨a2, N, k, c2, rfl, hk2, hN, h2⟩;refine aC (fun e => ?_) fun e => ?_
  ·have e : (k : Int) < (v.s.size : Int) := of_decide_eq_true e;obtain ⟨b, hb, hb2⟩ := iD (s := v.s) (i := k) (by omega)
   have htk : (kL v.s).take (k + 1) = (kL v.s).take k ++ [b] := by rw [List.take_add_one, hb]; (first | done | rfl)
   dsimp only;refine bg ⟨by omega, e⟩ ?_;simp only [Int.toNat_natCast, hb2];refine h2.push [b] (k := 1) rfl rfl rfl (by omega) (by omega) fun a3 c3 s3 h3 => ?_;refine bg ⟨Int.natCast_nonneg k, e⟩ ?_;rw [aj (k := k) (by omega)];refine aC (fun e0 => ?_) fun e0 => ?_
   ·have e0 : (b.toNat : Int) = 0 := eq_of_beq e0
    have e0 : b = 0 := by apply UInt8.toNat_inj.1; show b.toNat = 0; omega
    refine h3.push [255] (k := 1) rfl rfl rfl (by omega) (by omega) fun a4 c4 s4 h4 => ?_;refine ⟨⟨a4, N + 1 + 1, k + 1, c4, rfl, by omega, by omega, ?_⟩, by simp only [Int.toNat_natCast]; omega⟩;rw [htk, mV];subst e0;simpa [eG] using h4
   ·have e0 : ¬ b = 0 := by rintro rfl; exact absurd e0 (by decide)
    refine ⟨⟨a3, N + 1, k + 1, c3, rfl, by omega, by omega, ?_⟩, by simp only [Int.toNat_natCast]; omega⟩;rw [htk, mV];simpa [eG, e0] using h3
  ·have e : ¬ (k : Int) < (v.s.size : Int) := of_decide_eq_false e
   have hk3 : k = v.s.size := by omega
   rw [List.take_of_length_le (by rw [dj]; omega)] at h2;refine h2.push [0, 1] (k := 2) rfl rfl rfl (by omega) (by omega) fun a3 c3 s3 h3 => ?_;exact ⟨a3, _, c3, rfl, by rw [← List.append_assoc]; exact h3⟩
 ·have e1 : v.kind ≠ 1 := by simpa using e1
  have e2 : v.kind ≠ 2 := by simpa using e2
  have hend : l ++ bP v = l ++ [UInt8.ofNat ((1 + v.kind) % 256).toNat] := by unfold bP; rw [if_neg e1, if_neg e2]
  rw [hend];exact ⟨a1, _, c1, rfl, h1⟩
theorem zg {l : List aH} {k : Nat} {v : aH} (h : l[k]? = some v) (e : bA v = false) : nA l = true := by
 unfold nA;rw [List.any_eq_true];exact ⟨v, List.mem_of_getElem? h, by simp [e]⟩
def Em (s : PH) (a : OA) (n c : Nat) (l : List aH) : Prop := Sl ew s (a, n, c) l
theorem w6 {s : PH} {a : OA} {n c : Nat} {l : List aH} (h : Em s a n c l) : ah 216 #[.slice a n c] s fun y s' => y = .tuple #[.string (keyOf l).1, .int .i64 (keyOf l).2] ∧ s' = s := by
 refine bx.quiet (DA a n c _ s ?_);unfold vu;have hlen : n = l.length := h.len;simp only [aR, aF, aQ, aP, aT, bL, aY, bM, qq];refine aC (fun e => ?_) fun e => ?_
 ·have e : (n : Int) > 8 := of_decide_eq_true e
  have : keyOf l = (⟨#[]⟩, 21) := by unfold keyOf; rw [if_pos (by omega)]
  rw [this];exact ⟨rfl, Mod.refl _ _⟩
 have e : ¬ (n : Int) > 8 := of_decide_eq_false e;refine ⟨fun z s' => ∃ (b : OA) (m d k : Nat), z = (((b, m, d), ()), ((a, n, c), ()), ((n : Int), ()), ((k : Int), ()), ()) ∧ k ≤ n ∧ Gw nB 5 s s' b m d ((l.take k).flatMap bP) ∧ ∀ v ∈ l.take k, bA v = true, fun z _ => n - z.2.2.2.1.1.toNat, ⟨none, 0, 0, 0, rfl, Nat.zero_le _, Gw.nil (Mod.refl _ _), by simp⟩, ?_⟩;rintro _ s1 ⟨b, m, d, k, rfl, hk, h1, hok⟩;have hvl := uo hok;have hml : m = _ := h1.row.len;rw [List.length_take] at hvl;refine aC (fun e => ?_) fun e => ?_
 ·have hlt : (k : Int) < (n : Int) := of_decide_eq_true e
  obtain ⟨v, hv⟩ : ∃ v, l[k]? = some v := ⟨_, List.getElem?_eq_getElem (by omega)⟩
  obtain ⟨ad, had, hh⟩ := (h.el.mono h1.md.le).aG hv;dsimp only at had;subst had;dsimp only;refine bg ⟨by omega, hlt⟩ ?_;simp only [W.ay, Int.toNat_natCast];have hh : s1.has (ad.add (k * 3)) (ew.f v) := hh;refine aE hh (y := bC v) rfl ?_;refine aN ((kF v, ()), ()) (oZ v s1) rfl ?_;refine aC (fun e1 => ?_) fun e1 => ?_
  ·have hno : bA v = false := by
    cases hq : bA v with
    | false => rfl
    | true => unfold kF at e1; rw [hq] at e1; exact absurd e1 (by decide)
   have : keyOf l = (⟨#[]⟩, 10) := by unfold keyOf; rw [if_neg (by omega), if_pos (zg hv hno)]
   rw [this];refine ⟨?_, h1.md⟩;unfold kF;rw [hno]; (first | done | rfl)
  ·have hyes : bA v = true := by
    cases hq : bA v with
    | true => rfl
    | false => unfold kF at e1; rw [hq] at e1; exact absurd e1 (by decide)
   refine W.aq (Ky (v := v) h1 hyes (by omega)) ?_;rintro _ s2 ⟨a2, n2, c2, rfl, h2⟩;refine ⟨((((a2, n2, c2), ()), ())), rfl, ?_⟩;dsimp only;rw [aj (k := k) (by omega)];refine ⟨⟨a2, n2, c2, k + 1, rfl, by omega, ?_, ?_⟩, by simp only [Int.toNat_natCast]; omega⟩
   ·rw [List.take_add_one, hv];simpa using h2
   ·intro x hx;rw [List.take_add_one, hv] at hx;simp only [Option.toList_some, List.mem_append, List.mem_singleton] at hx;rcases hx with hx | rfl
    ·exact hok x hx
    ·exact hyes
 ·have e : ¬ (k : Int) < (n : Int) := of_decide_eq_false e;rw [List.take_of_length_le (by omega)] at h1 hok;refine mJ h1.row ?_;rw [jq hok (by omega)];exact ⟨rfl, h1.md⟩
end
section
attribute [-simp] Fw.W.bD Fw.W.bB
theorem cR (a : Addr) (k : Addr → W.T) : W.aa (some a) k = k a := by funext s; exact propext (W.ay a k s)
theorem kS {s : PH} {b : Nat} {c c' : Array Value} {e : TypeId} {v : Value} {vs : List Value} {off : Nat} {k : W.T} (h : s b = some (.cells c e (0, 0))) (hs : off + (v :: vs).length ≤ c.size) (h1 : ∀ w ∈ v :: vs, w.oneCell' = true)
  (hc : gC c off (v :: vs) = c') (hk : ∀ s', s' = s.aS b (.cells c' e (0, 0)) → k s') : W.st ⟨b, off, none⟩ (v :: vs) k s :=
 (W.dZ h v vs off k).2 ⟨hs, by simp [zR], h1, hc ▸ hk _ rfl⟩
abbrev xD (t : BA) : Obj := .cells #[.string t] 339 (0, 0)
def BW (r : Nat) (o : Option (aH × List UInt8)) (s : PH) (y : Value) (s' : PH) : Prop :=
 match o with
 | none => (∃ v : aH, y = .tuple #[dV v, .bool false]) ∧ Fw.Mod [r] s s'
 | some (v, l) => y = .tuple #[dV v, .bool true] ∧ Fw.Mod [r] s s' ∧ s' r = some (xD (kB l))
def tP (l : List UInt8) : Option (aH × List UInt8) := if l.length < 8 then none else some (⟨1, jh (hY (l.take 8)), ⟨#[]⟩⟩, l.drop 8)
def sr (l : List UInt8) : Option (aH × List UInt8) := (dS l).map fun p => (⟨2, 0, kB p.1⟩, p.2)
theorem Jg {r : Nat} {t : BA} {s : PH} (h : s r = some (xD t)) : ah 251 #[cp r] s (BW r (some (⟨0, 0, ⟨#[]⟩⟩, kL t)) s) := by
 refine HI r _ s ?_;unfold Bb;simp only [aF, W.oB];exact ⟨rfl, Mod.refl _ _, by rw [jy]; exact h⟩
theorem uf {l : List UInt8} {k : Nat} {b : UInt8} (h : l[k]? = some b) : hY (l.take (k + 1)) = hY (l.take k) * 256 + b.toNat := by
 unfold hY;rw [List.take_add_one, h]; simp
theorem l5 : ∀ (l : List UInt8) (k : Nat), hY (l.take k) < 256 ^ k
 | l, 0 => by simp [hY]
 | l, k + 1 => by
  have ih := l5 l k
  cases hb : l[k]? with
  | none =>
   rw [List.take_add_one, hb];simp only [Option.toList_none, List.append_nil];exact Nat.lt_of_lt_of_le ih (Nat.pow_le_pow_right (by omega) (by omega))
  | some b =>
   rw [uf hb, Nat.pow_succ];have := b.toNat_lt;omega
theorem oI {n : Nat} (h : n < 18446744073709551616) : u64.wrap (n : Int) = (n : Int) := by rw [rO]; omega
theorem Ey {r : Nat} {t : BA} {s : PH} (h : s r = some (xD t)) (hs : t.size ≤ 140737488351232) : ah 252 #[cp r] s (BW r (tP (kL t)) s) := by
 refine DB r _ s ?_;unfold vv
 obtain ⟨R, hR⟩ : ∃ R, BW r (tP (kL t)) s = R := ⟨_, rfl⟩
 rw [hR];simp only [aT, bL, aR, aF, aQ, aP, ir, cE, cR, aV, Nat.zero_add];have hld : ∀ (K : Den [CT.str] → W.T), K (t, ()) s → W.ld [.str] ⟨r, 0, none⟩ K s := fun K hk => (W.aA h _ _ _ _).2 ⟨(t, ()), rfl, hk⟩;refine hld _ ?_;dsimp only;refine aC (fun e => ?_) fun e => ?_
 ·have e : (t.size : Int) < 8 := of_decide_eq_true e
  have : tP (kL t) = none := by unfold tP; rw [if_pos (by rw [dj]; omega)]
  rw [this] at hR;rw [← hR];exact ⟨⟨⟨0, 0, ⟨#[]⟩⟩, rfl⟩, Mod.refl _ _⟩
 have e : ¬ (t.size : Int) < 8 := of_decide_eq_false e;refine ⟨fun z s' => ∃ k : Nat, z = ((0, 0, ⟨#[]⟩, ()), ((hY ((kL t).take k) : Int), ()), ((k : Int), ()), ()) ∧ k ≤ 8 ∧ s' = s, fun z _ => 8 - z.2.2.1.1.toNat, ⟨0, rfl, Nat.zero_le _, rfl⟩, ?_⟩;rintro _ s ⟨k, rfl, hk, rfl⟩;dsimp only;refine aC (fun e1 => ?_) fun e1 => ?_
 ·have e1 : (k : Int) < 8 := of_decide_eq_true e1;refine hld _ ?_;dsimp only;obtain ⟨b, hb, hb2⟩ := iD (s := t) (i := k) (by omega);refine bg ⟨by omega, by omega⟩ ?_;have hsm := l5 (kL t) k
  have hpw : 256 ^ k ≤ 72057594037927936 := by
   have : 256 ^ k ≤ 256 ^ 7 := Nat.pow_le_pow_right (by omega) (by omega);simpa using this
  have hv : u64.wrap (((BitVec.ofInt 64 (u64.wrap ((hY ((kL t).take k) : Int) * 256)) ||| BitVec.ofInt 64 (u64.wrap (((t[((k : Int)).toNat]?.getD (0 : UInt8)).toNat : Nat) : Int))).toNat : Nat) : Int) = (hY ((kL t).take (k + 1)) : Int) := by
   rw [uf hb, Int.toNat_natCast, hb2]
   generalize hY ((kL t).take k) = m at hsm ⊢
   have hbl := b.toNat_lt;rw [show (m : Int) * 256 = ((m * 256 : Nat) : Int) by omega, oI (n := m * 256) (by omega), oI (n := b.toNat) (by omega), La (by omega) (by omega), oI (by omega)]
  rw [hv, aj (k := k) (by omega)];exact ⟨⟨k + 1, rfl, by omega, rfl⟩, by simp only [Int.toNat_natCast]; omega⟩
 ·have e1 : ¬ (k : Int) < 8 := of_decide_eq_false e1
  have hk8 : k = 8 := by omega
  subst hk8;refine hld _ ?_;dsimp only;refine bg ⟨by omega, by omega, by omega⟩ ?_;refine kS h (Nat.le_refl _) (by simp [Value.oneCell']) rfl ?_;rintro s' rfl;rw [← hR]
  have hlt : hY ((kL t).take 8) < 18446744073709551616 := by have := l5 (kL t) 8; simpa using this
  have : tP (kL t) = some (⟨1, jh (hY ((kL t).take 8)), ⟨#[]⟩⟩, (kL t).drop 8) := by unfold tP; rw [if_neg (by rw [dj]; omega)]
  rw [this];refine ⟨?_, Mod.aS (by simp), ?_⟩
  ·rw [Is hlt]
  ·rw [PH.bE]
   congr 3
   rw [Int.toNat_natCast]
   show #[Value.string (t.extract 8 t.size)] = _
   rw [← ox, jy]
theorem Jh {r : Nat} {t : BA} {s : PH} (h : s r = some (xD t)) (hs : t.size ≤ 140737488351232) : ah 253 #[cp r] s (BW r (sr (kL t)) s) := by
 refine HJ r _ s ?_;unfold Bc
 obtain ⟨R, hR⟩ : ∃ R, BW r (sr (kL t)) s = R := ⟨_, rfl⟩
 rw [hR];simp only [aT, bL, aR, aF, aQ, aP, ir, bY, cX, qq, cE, cR, aV, Nat.zero_add];have hld : ∀ {s1 : PH} (K : Den [CT.str] → W.T), Fw.Mod [] s s1 → K (t, ()) s1 → W.ld [.str] ⟨r, 0, none⟩ K s1 := fun K hm hk => (W.aA (hm.at h (by simp)) _ _ _ _).2 ⟨(t, ()), rfl, hk⟩
 have hno : ∀ {s1 : PH}, Fw.Mod [] s s1 → dS (kL t) = none → R (.tuple #[.agg #[.int .i64 0, .int .i64 0, .string ⟨#[]⟩], .bool false]) s1 := fun hm e => by
  rw [← hR];unfold sr; rw [e];exact ⟨⟨⟨0, 0, ⟨#[]⟩⟩, rfl⟩, hm.mono (by simp)⟩
 refine ⟨fun z s' => ∃ (i : Nat) (a : OA) (n c : Nat) (acc : List UInt8), z = ((0, 0, ⟨#[]⟩, ()), ((a, n, c), ()), ((i : Int), ()), ()) ∧ i ≤ t.size ∧ n ≤ i ∧ Gw nB 5 s s' a n c acc ∧ dS (kL t) = (dS ((kL t).drop i)).map fun p => (acc ++ p.1, p.2), fun z _ => t.size - z.2.2.1.1.toNat,
  ⟨0, none, 0, 0, [], rfl, Nat.zero_le _, Nat.le_refl _, Gw.nil (Mod.refl _ _), by simp⟩, ?_⟩
 rintro _ s1 ⟨i, a, n, c, acc, rfl, hi, hn, hG, hu⟩;dsimp only;refine hld _ hG.md ?_;dsimp only;refine aC (fun e1 => ?_) fun e1 => ?_;rotate_left
 ·have e1 : ¬ (i : Int) < (t.size : Int) := of_decide_eq_false e1;refine hno hG.md ?_;rw [hu, List.drop_of_length_le (by rw [dj]; omega)]; (first | done | rfl)
 have e1 : (i : Int) < (t.size : Int) := of_decide_eq_true e1;obtain ⟨b, hb, hb2⟩ := iD (s := t) (i := i) (by omega);rw [bW hb] at hu;refine hld _ hG.md ?_;dsimp only;refine bg ⟨by omega, e1⟩ ?_;simp only [Int.toNat_natCast, hb2];refine aC (fun e2 => ?_) fun e2 => ?_
 ·have e2 : b ≠ 0 := by rintro rfl; exact absurd e2 (by decide)
  rw [pV e2] at hu;refine hld _ hG.md ?_;dsimp only;refine bg ⟨by omega, e1⟩ ?_;rw [hb2];refine hG.DZ [b] (k := 1) rfl rfl rfl (by omega) (by omega) fun a3 c3 s3 h3 _ => ?_;rw [aj (k := i) (by omega)];refine ⟨⟨i + 1, a3, n + 1, c3, acc ++ [b], rfl, by omega, by omega, h3, ?_⟩, by simp only [Int.toNat_natCast]; omega⟩;rw [hu, Option.map_map]
  congr 1
  funext p
  simp
 have e2 : b = 0 := by
  have : (b.toNat : Int) = 0 := by simpa using e2
  apply UInt8.toNat_inj.1; show b.toNat = 0; omega
 subst e2;rw [aj (k := i) (by omega)];refine W.bp (fun x s' => ∃ f : Bool, x = ((0, 0, ⟨#[]⟩, ()), ((a, n, c), ()), (((i + 1 : Nat) : Int), ()), (f, ()), ()) ∧ s1 = s' ∧ f = (((kL t)[i + 1]?).map (· == 255)).getD false) ?_ ?_
 ·rintro _ _ ⟨f, rfl, rfl, hf⟩;dsimp only;refine aC (fun e3 => ?_) fun e3 => ?_
  ·subst e3
   cases hq : (kL t)[i + 1]? with
   | none => rw [hq] at hf; cases hf
   | some q =>
    rw [hq] at hf
    have hq2 : q = 255 := by simpa using hf.symm
    subst hq2;have hil := (List.getElem?_eq_some_iff.1 hq).1;rw [dj] at hil;rw [bW hq, mN, if_pos rfl] at hu;refine hG.DZ [0] (k := 1) rfl rfl rfl (by omega) (by omega) fun a3 c3 s3 h3 _ => ?_;rw [aj (k := i + 1) (by omega)];refine ⟨⟨i + 2, a3, n + 1, c3, acc ++ [0], rfl, by omega, by omega, h3, ?_⟩, by simp only [Int.toNat_natCast]; omega⟩;rw [hu, Option.map_map]
    congr 1
    funext p
    simp
  ·refine hld _ hG.md ?_;dsimp only;refine aC (fun e4 => ?_) fun e4 => ?_;rotate_left
   ·have e4 : ¬ ((i + 1 : Nat) : Int) < (t.size : Int) := of_decide_eq_false e4;refine hno hG.md ?_;rw [hu, List.drop_of_length_le (by rw [dj]; omega)]
    first | done | rfl
   have e4 : ((i + 1 : Nat) : Int) < (t.size : Int) := of_decide_eq_true e4;obtain ⟨q, hq, hq2⟩ := iD (s := t) (i := i + 1) (by omega);rw [hq, e3] at hf
   have hq255 : ¬ q = 255 := by rintro rfl; exact absurd hf (by decide)
   rw [bW hq, mN, if_neg hq255] at hu;refine hld _ hG.md ?_;dsimp only;refine bg ⟨by omega, e4⟩ ?_;simp only [Int.toNat_natCast, hq2];refine aC (fun e5 => ?_) fun e5 => ?_
   ·have e5 : q = 1 := by
     have : (q.toNat : Int) = 1 := eq_of_beq e5
     apply UInt8.toNat_inj.1; show q.toNat = 1; omega
    rw [if_pos e5] at hu;refine hld _ hG.md ?_;dsimp only;rw [aj (k := i + 1) (by omega)];refine bg ⟨by omega, by omega, by omega⟩ ?_;refine kS (hG.md.at h (by simp)) (Nat.le_refl _) (by simp [Value.oneCell']) rfl ?_;rintro s' rfl
    have hrow := hG.row.mod (Mod.aS (L := [r]) (by simp)) (s' := s1.aS r (.cells #[.string (t.extract ((i + 1 + 1 : Nat) : Int).toNat ((t.size : Nat) : Int).toNat)] 339 (0, 0))) (fun g hg hr => by
     have h1 := hG.fr g hg
     have : g = r := by simpa using hr
     subst this
     rw [h] at h1; cases h1)
    refine mJ hrow ?_;rw [← hR]
    have : sr (kL t) = some (⟨2, 0, kB acc⟩, (kL t).drop (i + 1 + 1)) := by
     unfold sr; rw [hu]; simp
    rw [this];refine ⟨rfl, (hG.md.mono (by simp)).trans (Mod.aS (by simp)), ?_⟩;rw [PH.bE]
    show some (Obj.cells #[Value.string (t.extract (i + 1 + 1) t.size)] _ _) = _
    rw [← ox, jy]
   ·have e5 : ¬ q = 1 := by rintro rfl; exact absurd e5 (by decide)
    rw [if_neg e5] at hu;exact hno hG.md (by rw [hu]; (first | done | rfl))
 ·intro J hJ;refine hld _ hG.md ?_;dsimp only;refine aC (fun e3 => ?_) fun e3 => ?_
  ·have e3 : ((i + 1 : Nat) : Int) < (t.size : Int) := of_decide_eq_true e3;obtain ⟨q, hq, hq2⟩ := iD (s := t) (i := i + 1) (by omega);refine hld _ hG.md ?_;dsimp only;refine bg ⟨by omega, e3⟩ ?_;simp only [Int.toNat_natCast, hq2];refine hJ _ _ ⟨_, rfl, rfl, ?_⟩;rw [hq]
   show ((q.toNat : Int) == 255) = (q == 255)
   by_cases hc : q = 255
   ·subst hc; (first | done | rfl)
   ·have h1 : (q == 255) = false := by simpa using hc
    rw [h1]
    have : ¬ (q.toNat : Int) = 255 := by
     intro he;exact hc (UInt8.toNat_inj.1 (by show q.toNat = 255; omega))
    simpa using this
  ·have e3 : ¬ ((i + 1 : Nat) : Int) < (t.size : Int) := of_decide_eq_false e3;refine hJ _ _ ⟨false, rfl, rfl, ?_⟩;rw [List.getElem?_eq_none (by rw [dj]; omega)]; (first | done | rfl)
end
section
attribute [-simp] Fw.W.bD Fw.W.bB
theorem Gw.mod {α : Type} {E : cO α} {e e' : TypeId} {s0 s s' : PH} {a : OA} {n c r : Nat} {l : List α} {cur : Array Value} {f : Nat × Nat} (h : Gw E e s0 s a n c l) (hr : s r = some (.cells cur e' f)) (hne : e' ≠ e) (h0 : s0 r = none) (hm : Fw.Mod [r] s s') : Gw E e s0 s' a n c l := by
 refine ⟨h.row.mod hm fun g hg hr2 => ?_, h.fr, h.md.fresh hm (by simp [h0])⟩
 have : g = r := by simpa using hr2
 subst this;exact h.off hr hne hg
theorem Gw.aS {α : Type} {E : cO α} {e e' : TypeId} {s0 s : PH} {a : OA} {n c r : Nat} {l : List α} {cur : Array Value} {f : Nat × Nat} {o : Obj} (h : Gw E e s0 s a n c l) (hr : s r = some (.cells cur e' f)) (hne : e' ≠ e) (h0 : s0 r = none) : Gw E e s0 (s.aS r o) a n c l :=
 h.mod hr hne h0 (Mod.aS (by simp))
theorem GZ {P : Program} {g : FuncId} {first args : Array Value} {r : Bool × List Shape} {k : bX r.2 → W.T} {s : PH} {fn : Func} (hfn : P.funcs[g]? = some fn) (hb : fn.body.isSome = true) (hn : (fn.name == "runtime.NumGoroutine") = false) {Q : Value → PH → Prop}
  (h : bx P g (first ++ args) s Q) (hk : ∀ v s', Q v s' → ∃ x, gI r x = v ∧ k x s') : W.dW P (.func (.func g) first #[]) args r k s := by
 refine ⟨g, first, #[], rfl, ⟨fn, hfn, hb, hn⟩, ?_⟩
 have : first ++ args ++ #[] = first ++ args := by simp
 rw [this]; exact h.mono hk
def CP (o : Option (List aH)) (s : PH) (y : Value) (s' : PH) : Prop :=
 match o with
 | none => y = .tuple #[.slice none 0 0, .int .i64 20] ∧ Fw.Mod [] s s'
 | some l => ∃ a n c, y = .tuple #[.slice a n c, .int .i64 0] ∧ Gw ew 28 s s' a n c l
def Eg : Nat → List UInt8 → Option (aH × List UInt8)
 | 0, l => some (⟨0, 0, ⟨#[]⟩⟩, l)
 | 1, l => tP l
 | _, l => sr l
theorem zJ {b : UInt8} {l : List UInt8} (h : 1 ≤ b.toNat) (h2 : b.toNat ≤ 3) : gB (b :: l) = Eg (b.toNat - 1) l := by
 have : b = 1 ∨ b = 2 ∨ b = 3 := by
  have : b.toNat = 1 ∨ b.toNat = 2 ∨ b.toNat = 3 := by omega
  rcases this with e | e | e
  ·exact .inl (UInt8.toNat_inj.1 e)
  ·exact .inr (.inl (UInt8.toNat_inj.1 e))
  ·exact .inr (.inr (UInt8.toNat_inj.1 e))
 rcases this with rfl | rfl | rfl <;> rfl
theorem B7 {b : UInt8} {l : List UInt8} (h : b.toNat = 0 ∨ 4 ≤ b.toNat) : gB (b :: l) = none := by
 rw [gB, if_neg, if_neg, if_neg]
 ·rintro rfl; exact absurd h (by decide)
 ·rintro rfl; exact absurd h (by decide)
 ·rintro rfl; exact absurd h (by decide)
def AE (s : PH) (r : Nat) : Nat :=
 match s r with
 | some (.cells c _ _) => match c[0]? with
  | some (Value.string t) => t.size
  | _ => 0
 | _ => 0
theorem xE {s : PH} {r : Nat} {t : BA} (h : s r = some (xD t)) : AE s r = t.size := by unfold AE; rw [h]; (first | done | rfl)
abbrev Eh (r0 : Nat) : Obj := .cells #[.func (.func 251) #[cp r0] #[], .func (.func 252) #[cp r0] #[], .func (.func 253) #[cp r0] #[]] 341 (0, 0)
theorem w5 {s : PH} (x : BA) (hx : x.size ≤ 140737488351232) : ah 212 #[.string x] s (CP (de x) s) := by
 refine Dz x _ s ?_;unfold vr
 obtain ⟨R, hR⟩ : ∃ R, CP (de x) s = R := ⟨_, rfl⟩
 rw [hR];simp only [aT, bL, aR, aF, aQ, aP, ir, bY, cX, aY, bM, mP, cE, cR, aV, Nat.zero_add];refine W.bI fun r0 s1 hr0 m1 k0 => ?_;refine W.bI fun r1 s2 hr1 m2 k1 => ?_;have hne : r0 ≠ r1 := BB k0 hr1;have hn1 : s r1 = none := m1.none hr1 (by simp);refine kS k1 (Nat.le_refl _) (by intro w hw; simp at hw; rcases hw with rfl | rfl | rfl <;> simp [Value.oneCell']) rfl ?_;intro s3 hs3
 have k0' : s3 r0 = some (xD x) := by rw [hs3, PH.bJ _ _ hne]; exact m2.at k0 (by simp)
 have k1' : s3 r1 = some (Eh r0) := by rw [hs3, PH.bE]; (first | done | rfl)
 have m3 : Fw.Mod [] s s3 := by rw [hs3]; exact (m1.trans m2).cj (.inr hn1)
 have hbad : ∀ {s' : PH}, Fw.Mod [] s s' → de x = none → R (.tuple #[.slice none 0 0, .int .i64 20]) s' := fun hm e => by
  rw [← hR, e]; exact ⟨rfl, hm⟩
 refine ⟨fun z s' => ∃ (a : OA) (n c f : Nat) (acc : List aH) (rest : List UInt8), z = ((some ⟨r0, 0, none⟩, ()), (⟨r1, 0, none⟩, ()), ((a, n, c), ()), ()) ∧ Gw ew 28 s s' a n c acc ∧ s' r0 = some (xD (kB rest)) ∧ s' r1 = some (Eh r0) ∧ rest.length < f ∧ rest.length ≤ x.size ∧ acc.length ≤ 8 ∧ lq f rest acc = de x,
  fun z s' => AE s' r0, ⟨none, 0, 0, x.size + 1, [], kL x, rfl, Gw.nil m3, by rw [jy]; exact k0', k1', by rw [dj]; omega, by rw [dj]; omega, by simp, rfl⟩, ?_⟩
 rintro _ s4 ⟨a, n, c, f, acc, rest, rfl, hG, hr, hw, hf, hrl, h8, hd⟩;have hld : ∀ (K : Den [CT.str] → W.T), K (kB rest, ()) s4 → W.ld [.str] ⟨r0, 0, none⟩ K s4 := fun K hk => (W.aA hr _ _ _ _).2 ⟨(kB rest, ()), rfl, hk⟩;have hlen := hG.row.len;simp only [cR, aV, Nat.zero_add];refine hld _ ?_;dsimp only;refine aC (fun e1 => ?_) fun e1 => ?_;rotate_left
 ·have e1 : ¬ (((kB rest).size : Nat) : Int) > 0 := of_decide_eq_false e1;rw [bR] at e1;have : rest = [] := List.eq_nil_of_length_eq_zero (by omega);subst this
  obtain ⟨g, rfl⟩ : ∃ g, f = g + 1 := ⟨f - 1, by omega⟩
  rw [lq, if_pos rfl] at hd;rw [← hR, ← hd];exact ⟨a, n, c, rfl, hG⟩
 have e1 : (((kB rest).size : Nat) : Int) > 0 := of_decide_eq_true e1;rw [bR] at e1
 obtain ⟨b, l, rfl⟩ : ∃ b l, rest = b :: l := by
  cases rest with
  | nil => simp at e1
  | cons b l => exact ⟨b, l, rfl⟩
 simp only [List.length_cons] at hf hrl e1
 obtain ⟨g, rfl⟩ : ∃ g, f = g + 1 := ⟨f - 1, by omega⟩
 have hbz : (kB (b :: l)).size = l.length + 1 := by rw [bR]; (first | done | rfl)
 refine hld _ ?_;dsimp only;refine bg ⟨by omega, by rw [hbz]; omega⟩ ?_;refine hld _ ?_;dsimp only;refine bg ⟨by omega, by rw [hbz]; omega, by omega⟩ ?_;refine kS hr (Nat.le_refl _) (by simp [Value.oneCell']) rfl ?_;intro s5 hs5
 have hb : (kB (b :: l))[0]?.getD 0 = b := by
  obtain ⟨q, h1, h2⟩ := iD (s := kB (b :: l)) (i := 0) (by rw [hbz]; omega);rw [dA] at h1;simp at h1;rw [h2, h1]
 have hr5 : s5 r0 = some (xD (kB l)) := by
  rw [hs5, PH.bE]
  congr 3
  have : kL ((kB (b :: l)).extract 1 (kB (b :: l)).size) = l := by rw [ox, dA]; (first | done | rfl)
  rw [Int.toNat_natCast]
  show #[Value.string ((kB (b :: l)).extract 1 (kB (b :: l)).size)] = _
  rw [← this, jy, this]
 have hG5 : Gw ew 28 s s5 a n c acc := by rw [hs5]; exact hG.aS hr (by decide) hr0
 have h15 : s5 r1 = some (Eh r0) := by rw [hs5, PH.bJ _ _ hne.symm]; exact hw
 rw [hb];have hbl := b.toNat_lt;have hw1 : i64.wrap ((b.toNat : Nat) : Int) = (b.toNat : Int) := bQ (by omega) (by omega);have hw2 : i64.wrap (((b.toNat : Nat) : Int) - 1) = (b.toNat : Int) - 1 := bQ (by omega) (by omega);rw [hw1, hw2];rw [lq, if_neg (by simp)] at hd;refine W.bp (fun x s' => x = ((some ⟨r0, 0, none⟩, ()), (⟨r1, 0, none⟩, ()), ((a, n, c), ()), (((b.toNat - 1 : Nat) : Int), ()), ()) ∧ s5 = s' ∧ 1 ≤ b.toNat ∧ b.toNat ≤ 3 ∧ ¬ acc.length = 8) ?_ ?_
 ·rintro _ s5 ⟨rfl, rfl, h1, h3, ha8⟩;dsimp only;rw [if_neg ha8, zJ h1 h3] at hd;refine bg ⟨by omega, by omega⟩ ?_;simp only [Int.toNat_natCast, Nat.mul_one, aV, Nat.zero_add]
  obtain ⟨F, hF⟩ : ∃ F : Nat, #[Value.func (.func 251) #[cp r0] #[], .func (.func 252) #[cp r0] #[], .func (.func 253) #[cp r0] #[]][b.toNat - 1]? = some (Value.func (.func F) #[cp r0] #[]) ∧
    (∃ fn, Tryz.prog.funcs[F]? = some fn ∧ fn.body.isSome = true ∧ (fn.name == "runtime.NumGoroutine") = false) ∧ ah F #[cp r0] s5 (BW r0 (Eg (b.toNat - 1) l) s5) := by
   have : b.toNat - 1 = 0 ∨ b.toNat - 1 = 1 ∨ b.toNat - 1 = 2 := by omega
   rcases this with e | e | e <;> rw [e]
   ·exact ⟨_, rfl, ⟨_, Tryz.func251, rfl, by kernel_rfl⟩, by have := Jg hr5; rw [dA] at this; exact this⟩
   ·exact ⟨_, rfl, ⟨_, Tryz.func252, rfl, by kernel_rfl⟩, by have := Ey hr5 (by rw [bR]; omega); rw [dA] at this; exact this⟩
   ·exact ⟨_, rfl, ⟨_, Tryz.func253, rfl, by kernel_rfl⟩, by have := Jh hr5 (by rw [bR]; omega); rw [dA] at this; exact this⟩
  obtain ⟨hF1, ⟨fn, hfn, hfb, hfn2⟩, hc⟩ := hF;refine (W.aA h15 _ _ _ _).2 ⟨(.func (.func F) #[cp r0] #[], ()), ?_, ?_⟩
  ·have hlt : b.toNat - 1 < 3 := by omega
   unfold Cm;rw [if_pos (by simp; omega)]
   have : ((#[Value.func (.func 251) #[cp r0] #[], .func (.func 252) #[cp r0] #[], .func (.func 253) #[cp r0] #[]].toList.drop (b.toNat - 1)).take 1) = [Value.func (.func F) #[cp r0] #[]] := by
    rw [bW (x := Value.func (.func F) #[cp r0] #[]) (by rw [Array.getElem?_toList]; exact hF1)]; (first | done | rfl)
   rw [List.length_nil, this]; (first | done | rfl)
  dsimp only;refine GZ hfn hfb hfn2 hc ?_;intro v s6 hq
  cases hw : Eg (b.toNat - 1) l with
  | none =>
   rw [hw] at hq hd;obtain ⟨⟨v0, rfl⟩, mq⟩ := hq;refine ⟨(bC v0, (false, ()), ()), rfl, ?_⟩;dsimp only;refine (W.af _ _ _ _).2 ⟨fun _ => hbad (hG5.md.fresh mq (by simp [hr0])) hd.symm, fun e => (by cases e)⟩
  | some q =>
   obtain ⟨v0, l2⟩ := q;rw [hw] at hq hd;obtain ⟨rfl, mq, hq2⟩ := hq;refine ⟨(bC v0, (true, ()), ()), rfl, ?_⟩;dsimp only;have hG6 := hG5.mod hr5 (by decide) hr0 mq;refine (W.af _ _ _ _).2 ⟨fun e => (by cases e), fun _ => ?_⟩;refine aN ((kF v0, ()), ()) (oZ v0 s6) rfl ?_;dsimp only at hd;have hl2 := qE (l := b :: l) (by rw [zJ h1 h3, hw]);simp only [List.length_cons] at hl2;refine aC (fun e => ?_) fun e => ?_
   ·have hno : ¬ bA v0 = true := by intro hy; unfold kF at e; rw [if_pos hy] at e; exact absurd e (by decide)
    rw [if_neg hno] at hd;exact hbad hG6.md hd.symm
   ·have hyes : bA v0 = true := by
     cases hy : bA v0 with
     | true => rfl
     | false => unfold kF at e; rw [hy] at e; exact absurd e (by decide)
    rw [if_pos hyes] at hd;refine hG6.nN [v0] (k := 1) rfl rfl rfl (by omega) (by omega) fun a3 c3 s7 h7 m7 => ?_;have hr7 := m7.at hq2 (hG6.off hq2 (by decide));refine ⟨⟨a3, n + 1, c3, g, acc ++ [v0], l2, rfl, h7, hr7, ?_, by omega, by omega, by simp; omega, hd⟩, ?_⟩
    ·have h16 := mq.at h15 (by simp; exact hne.symm);exact m7.at h16 (hG6.off h16 (by decide))
    ·rw [xE hr7, xE hr, bR, bR, List.length_cons]; omega
 ·intro J hJ;refine aC (fun e => ?_) fun e => ?_
  ·have e : (b.toNat : Int) - 1 < 0 := of_decide_eq_true e;refine hbad hG5.md ?_
   rw [← hd, B7 (.inl (by omega))]; split <;> rfl
  have e : ¬ (b.toNat : Int) - 1 < 0 := of_decide_eq_false e;refine aC (fun e2 => ?_) fun e2 => ?_
  ·have e2 : (b.toNat : Int) - 1 ≥ 3 := of_decide_eq_true e2;refine hbad hG5.md ?_
   rw [← hd, B7 (.inr (by omega))]; split <;> rfl
  have e2 : ¬ (b.toNat : Int) - 1 ≥ 3 := of_decide_eq_false e2;refine aC (fun e3 => ?_) fun e3 => ?_
  ·have e3 : (n : Int) = 8 := eq_of_beq e3;refine hbad hG5.md ?_;rw [← hd, if_pos (by omega)]
  have e3 : ¬ (n : Int) = 8 := by simpa using e3
  exact hJ _ _ ⟨by rw [show ((b.toNat - 1 : Nat) : Int) = (b.toNat : Int) - 1 by omega], rfl, by omega, by omega, by omega⟩
end
section
abbrev aB (n : Int) : aH := ⟨1, n, ⟨#[]⟩⟩
abbrev gm : aH := ⟨0, 0, ⟨#[]⟩⟩
def cH (t : Int) (v : aH) : BA := (keyOf [aB 0, aB t, v]).1
def eF (i : Int) (v k : aH) : BA := (keyOf [aB 1, aB i, v, k]).1
def oG (x : BA) : BA × BA := (x, x ++ ⟨#[255]⟩)
def under (l : List aH) : BA × BA := oG (keyOf l).1
def nK (x : BA) : Option aH := (de x).bind fun l => l.getLast?
structure aL where
 id : Int
 v : aH
 deriving DecidableEq
def di (c : aL) : List UInt8 := UInt8.ofNat ([aB c.id, c.v].flatMap bP).length :: [aB c.id, c.v].flatMap bP
def dr : Int → List aL → Bool
 | _, [] => true
 | last, c :: l => bA c.v && decide (last < c.id) && dr c.id l
def cK (l : List aL) : BA × Int := if dr 0 l = true then (kB (l.flatMap di), 0) else (⟨#[]⟩, 100)
def gT : Nat → List UInt8 → Int → List aL → Option (List aL)
 | 0, _, _, _ => none
 | _ + 1, [], _, acc => some acc
 | f + 1, n :: r, last, acc => if r.length < n.toNat then none else match de (kB (r.take n.toNat)) with
  | some [a, b] => if a.kind = 1 ∧ 1 ≤ a.n ∧ last < a.n then gT f (r.drop n.toNat) a.n (acc ++ [⟨a.n, b⟩]) else none
  | _ => none
def eM (x : BA) : Option (List aL) := gT (x.size + 1) (kL x) 0 []
def kH : Nat → List UInt8 → List aL → Option (List aL)
 | 0, _, _ => none
 | _ + 1, [], acc => some acc
 | f + 1, n :: r, acc => if r.length < n.toNat then none else match de (kB (r.take n.toNat)) with
  | some [a, b] => kH f (r.drop n.toNat) (acc ++ [⟨a.n, b⟩])
  | _ => none
def Cb (x : BA) : Option (List aL) := (kH (x.size + 1) (kL x) []).bind fun l => if (cK l).2 = 0 ∧ (cK l).1 = x then some l else none
def au (l : List aL) (id : Int) : aH := ((l.find? fun c => c.id == id).map (·.v)).getD gm
theorem iT {n : Int} (h : gf n) : dg (aB n) := ⟨rfl, h⟩
theorem Iw (n : Int) : (bP (aB n)).length = 9 := rfl
theorem tA {c : aL} (h : bA c.v = true) : ([aB c.id, c.v].flatMap bP).length < 256 := by
 have h1 : (bP c.v).length ≤ 140 := by
  have e : ∀ l : List UInt8, (eG l).length ≤ 2 * l.length := by
   intro l
   induction l with
   | nil => simp [eG]
   | cons b l ih =>
    simp only [eG]
    split <;> simp <;> omega
  have h2 := e (kL c.v.s);rw [dj] at h2;unfold bA at h;unfold bP
  split
  ·simp [fM]
  ·split
   ·rename_i g1 g3
    rw [if_neg (by omega), if_neg g1, if_pos g3] at h;simp at h;simp; omega
   ·simp
 simp only [List.flatMap_cons, List.flatMap_nil, List.append_nil, List.length_append, Iw];omega
theorem xd {c : aL} (h : bA c.v = true) (r : List UInt8) : ∃ n t, di c ++ r = n :: t ∧ n.toNat = ([aB c.id, c.v].flatMap bP).length ∧ t.take n.toNat = [aB c.id, c.v].flatMap bP ∧ t.drop n.toNat = r ∧ n.toNat ≤ t.length := by
 have hl := tA h;refine ⟨UInt8.ofNat ([aB c.id, c.v].flatMap bP).length, [aB c.id, c.v].flatMap bP ++ r, rfl, ?_, ?_, ?_, ?_⟩
 ·rw [UInt8.toNat_ofNat']; omega
 ·rw [UInt8.toNat_ofNat', Nat.mod_eq_of_lt (by omega), List.take_append_of_le_length (Nat.le_refl _), List.take_length]
 ·rw [UInt8.toNat_ofNat', Nat.mod_eq_of_lt (by omega), List.drop_append_of_le_length (Nat.le_refl _), List.drop_length]; (first | done | rfl)
 ·rw [UInt8.toNat_ofNat', Nat.mod_eq_of_lt (by omega), List.length_append]; omega
def sA (c : aL) : Prop := dg c.v ∧ gf c.id
theorem FR {a b : aH} {l : List UInt8} (ha : dg a) (hb : dg b) (h : l = [a, b].flatMap bP) : de (kB l) = some [a, b] := by
 rw [h];refine pJ ?_ (by simp);intro v hv;simp at hv;rcases hv with rfl | rfl
 ·exact ha
 ·exact hb
theorem zT : ∀ (l : List aL) (f : Nat) (last : Int) (acc : List aL), (∀ c ∈ l, sA c) → 0 ≤ last → dr last l = true → (l.flatMap di).length < f → gT f (l.flatMap di) last acc = some (acc ++ l)
 | [], f, last, acc, _, _, _, hf => by
  obtain ⟨g, rfl⟩ : ∃ g, f = g + 1 := ⟨f - 1, by omega⟩
  simp [gT]
 | c :: l, f, last, acc, h, h0, hp, hf => by
  obtain ⟨g, rfl⟩ : ∃ g, f = g + 1 := ⟨f - 1, by omega⟩
  simp only [dr, Bool.and_eq_true, decide_eq_true_eq] at hp;obtain ⟨⟨hp1, hp2⟩, hp3⟩ := hp;obtain ⟨n, t, e1, e2, e3, e4, e5⟩ := xd hp1 (l.flatMap di);rw [List.flatMap_cons, e1] at hf;simp only [List.length_cons] at hf;have hc := h c (by simp);rw [List.flatMap_cons, e1, gT, if_neg (by omega), FR (iT hc.2) hc.1 e3];simp only;rw [if_pos ⟨trivial, by omega, hp2⟩, e4]
  have hdl : (l.flatMap di).length ≤ t.length := by rw [← e4, List.length_drop]; omega
  show gT g (l.flatMap di) c.id (acc ++ [c]) = _
  rw [zT l g c.id (acc ++ [c]) (fun x hx => h x (by simp [hx])) (by omega) hp3 (by omega)];simp
theorem AD : ∀ (f : Nat) (x : List UInt8) (last : Int) (acc l : List aL), gT f x last acc = some l → 0 ≤ last → ∃ m, l = acc ++ m ∧ x = m.flatMap di ∧ dr last m = true ∧ ∀ c ∈ m, sA c
 | 0, x, last, acc, l, h, _ => by simp [gT] at h
 | f + 1, [], last, acc, l, h, _ => by
  simp only [gT, Option.some.injEq] at h;subst h;exact ⟨[], by simp, rfl, rfl, by simp⟩
 | f + 1, n :: r, last, acc, l, h, h0 => by
  rw [gT] at h
  split at h
  ·cases h
  ·rename_i hn
   split at h
   ·rename_i a b hk
    split at h
    ·rename_i hc
     obtain ⟨hk1, hk2, _⟩ := gU hk;have ha := hk2 a (by simp);have hb := hk2 b (by simp);obtain ⟨m, e1, e2, e3, e4⟩ := AD f _ _ _ _ h (by omega)
     have hcv : a = aB a.n := by
      have h1 := ha.1;obtain ⟨ka, na, sa⟩ := a;simp only at hc;obtain ⟨rfl, _, _⟩ := hc;unfold bA at h1;simp at h1;subst h1; (first | done | rfl)
     have hbytes : r.take n.toNat = [aB a.n, b].flatMap bP := by
      have := E8 hk1;rw [this, ← hcv]
     have hlen : n.toNat = ([aB a.n, b].flatMap bP).length := by
      rw [← hbytes, List.length_take]; omega
     refine ⟨⟨a.n, b⟩ :: m, by rw [e1]; simp, ?_, ?_, ?_⟩
     ·rw [List.flatMap_cons, ← e2];unfold di
      show n :: r = _
      rw [← hlen, ← hbytes]
      have : UInt8.ofNat n.toNat = n := by simp
      rw [this, List.cons_append, List.take_append_drop]
     ·simp only [dr, Bool.and_eq_true, decide_eq_true_eq];exact ⟨⟨hb.1, hc.2.2⟩, e3⟩
     ·intro c hc2;rcases List.mem_cons.1 hc2 with rfl | hc2
      ·exact ⟨hb, ha.2⟩
      ·exact e4 c hc2
    ·cases h
   ·cases h
theorem tK {l : List aL} (h : ∀ c ∈ l, sA c) (hp : dr 0 l = true) : eM (kB (l.flatMap di)) = some l := by
 unfold eM;rw [bR, dA, zT l _ 0 [] h (by omega) hp (by omega)];simp
theorem j7 {x : BA} {l : List aL} (h : eM x = some l) : x = kB (l.flatMap di) ∧ dr 0 l = true ∧ (∀ c ∈ l, sA c) ∧ cK l = (x, 0) := by
 obtain ⟨m, e1, e2, e3, e4⟩ := AD _ _ _ _ _ h (by omega);simp only [List.nil_append] at e1;subst e1
 have : x = kB (l.flatMap di) := by rw [← e2, jy]
 refine ⟨this, e3, e4, ?_⟩;unfold cK;rw [if_pos e3, ← this]
theorem pz : ∀ (f : Nat) (x : List UInt8) (last : Int) (acc l : List aL), gT f x last acc = some l → kH f x acc = some l
 | 0, x, last, acc, l, h => by simp [gT] at h
 | f + 1, [], last, acc, l, h => by simpa [gT, kH] using h
 | f + 1, n :: r, last, acc, l, h => by
  rw [gT] at h;rw [kH]
  split at h
  ·cases h
  ·rename_i hn
   rw [if_neg hn]
   split at h
   ·rename_i a b hk
    split at h
    ·exact pz f _ _ _ _ h
    ·cases h
   ·cases h
theorem xj : ∀ (f : Nat) (x : List UInt8) (last : Int) (acc l : List aL), kH f x acc = some l → 0 ≤ last → ∀ m, l = acc ++ m → dr last m = true → x = m.flatMap di → gT f x last acc = some l
 | 0, x, last, acc, l, h, _, _, _, _, _ => by simp [kH] at h
 | f + 1, [], last, acc, l, h, _, _, _, _, _ => by simpa [gT, kH] using h
 | f + 1, n :: r, last, acc, l, h, h0, m, hm, hp, hx => by
  rw [kH] at h;rw [gT]
  split at h
  ·cases h
  ·rename_i hn
   rw [if_neg hn]
   split at h
   ·rename_i a b hk
    obtain ⟨hk1, hk2, _⟩ := gU hk;have hk1 := E8 hk1;have ha := hk2 a (by simp);have hb := hk2 b (by simp)
    -- the first cell that was written
    have hpre : ∀ (f : Nat) (x : List UInt8) (acc l : List aL), kH f x acc = some l → ∃ m, l = acc ++ m := by
     intro f
     induction f with
     | zero => intro x acc l h; simp [kH] at h
     | succ f ih =>
      intro x acc l h
      cases x with
      | nil => simp only [kH, Option.some.injEq] at h; exact ⟨[], by simp [h]⟩
      | cons n r =>
       rw [kH] at h
       split at h
       ·cases h
       ·split at h
        ·obtain ⟨m, e⟩ := ih _ _ _ h;exact ⟨_ :: m, by rw [e]; simp; (first | done | rfl)⟩
        ·cases h
    obtain ⟨m', hm'⟩ := hpre _ _ _ _ h
    have hmm : m = ⟨a.n, b⟩ :: m' := by
     rw [hm, List.append_assoc] at hm';exact List.append_cancel_left hm'
    subst hmm;simp only [dr, Bool.and_eq_true, decide_eq_true_eq] at hp;obtain ⟨⟨hp1, hp2⟩, hp3⟩ := hp;rw [List.flatMap_cons] at hx;obtain ⟨n', t, e1, e2, e3, e4, e5⟩ := xd (c := ⟨a.n, b⟩) hp1 (m'.flatMap di);rw [e1] at hx;simp only [List.cons.injEq] at hx;obtain ⟨rfl, rfl⟩ := hx;rw [e3] at hk1
    have hk1' : [aB a.n, b].flatMap bP ++ [] = [a, b].flatMap bP ++ [] := by rw [List.append_nil, List.append_nil]; exact hk1
    have := (tG (l := [aB a.n, b]) (m := [a, b]) (by intro v hv; simp at hv; rcases hv with rfl | rfl; exact iT ha.2; exact hb) (by intro v hv; simp at hv; rcases hv with rfl | rfl; exact ha; exact hb) rfl hk1').1;simp only [List.cons.injEq, and_true] at this;rw [if_pos ⟨by rw [← this], by omega, hp2⟩];exact xj f _ _ _ _ h (by omega) m' hm' hp3 e4
   ·cases h
theorem go_eq (x : BA) : Cb x = eM x := by
 unfold Cb
 cases hg : kH (x.size + 1) (kL x) [] with
 | none =>
  cases h2 : eM x with
  | none => rfl
  | some l => rw [pz _ _ _ _ _ h2] at hg; cases hg
 | some l =>
  simp only [Option.bind_some]
  split
  ·rename_i h
   obtain ⟨h1, h2⟩ := h
   have hp : dr 0 l = true := by
    unfold cK at h1
    split at h1
    ·assumption
    ·simp at h1
   unfold cK at h2;rw [if_pos hp] at h2
   have hx : kL x = l.flatMap di := by rw [← h2, dA]
   exact (xj _ _ 0 [] l hg (by omega) l (by simp) hp hx).symm
  ·rename_i h
   cases h2 : eM x with
   | none => rfl
   | some m =>
    have := pz _ _ _ _ _ h2;rw [hg] at this;cases this;obtain ⟨_, _, _, e⟩ := j7 h2;rw [e] at h;exact absurd ⟨rfl, rfl⟩ h
end
section
attribute [-simp] Fw.W.bD Fw.W.bB
theorem lD {α : Type} {E : cO α} {s : PH} {r : Nat} {cur : Array Value} {e : TypeId} {l : List α} {n : Nat} (h : s r = some (.cells cur e (0, 0))) (hc : cur.toList = l.flatMap E.f) (hn : l.length = n) (hl : n ≤ 4294967296) : bq E s e (some ⟨r, 0, none⟩) n n l := by
 have hlen : cur.size = n * E.sz := by rw [← Array.length_toList, hc, ec, hn]
 refine ⟨by rw [ec, hn], Nat.le_refl _, by show n ≤ 9223372036854775807; omega, .inr ⟨r, cur, rfl, h, by omega, ?_⟩⟩;rw [List.take_of_length_le (by rw [Array.length_toList]; omega), hc]
theorem jv {s : PH} {r : Nat} {cur : Array Value} {e : TypeId} {l : List aH} {n : Nat} (h : s r = some (.cells cur e (0, 0))) (hc : cur.toList = l.flatMap ew.f) (hn : l.length = n) (hl : n ≤ 4294967296) : Em s (some ⟨r, 0, none⟩) n n l :=
 Sl.bN (lD h hc hn hl) (by omega)
abbrev nt (p : BA × BA) : Value := .agg #[.string p.1, .string p.2]
theorem fu (l : List aH) : (keyOf l).1.size ≤ 1120 := by
 unfold keyOf
 split
 ·exact Nat.zero_le _
 ·split
  ·exact Nat.zero_le _
  ·rename_i h1 h2
   rw [bR]
   have : ∀ v ∈ l, bA v = true := fun v hv => by
    have h3 : nA l = false := by simpa using h2
    unfold nA at h3;rw [List.any_eq_false] at h3;simpa using h3 v hv
   have := uo this;omega
theorem uF {s : PH} {a : OA} {n c : Nat} {l : List aH} (h : Em s a n c l) : ah 208 #[.slice a n c] s fun y s' => y = .string (keyOf l).1 ∧ s' = s := by
 refine JQ a n c _ s ?_;unfold CH;simp only [aY, aF];exact aN (((keyOf l).1, ()), ((keyOf l).2, ()), ()) (w6 h) rfl ⟨rfl, rfl⟩
theorem kD (n : Int) (s : PH) : ah 209 #[.int .i64 n] s fun y s' => y = dV (aB n) ∧ s' = s := by
 refine JR n _ s ?_;unfold CI;exact ⟨rfl, rfl⟩
theorem zo (x : BA) (hx : x.size ≤ 1000000) (s : PH) : ah 207 #[.string x] s fun y s' => y = nt (oG x) ∧ s' = s := by
 refine Fp x _ s ?_;unfold xW;exact ⟨by omega, rfl, rfl⟩
theorem ED (t : Int) (v : aH) (s : PH) : ah 162 #[.int .i64 t, dV v] s fun y s' => y = .string (cH t v) ∧ s' = s := by
 refine bx.quiet (JP t v.kind v.n v.s _ s ?_);unfold CG;simp only [bM, aY, bY, aF];refine W.bF (bC (aB 0), ()) (kD 0 s) rfl ?_;refine W.bF (bC (aB t), ()) (kD t s) rfl ?_;refine W.bI fun r s1 hr m1 k1 => ?_;exact aN ((cH t v, ()), ()) (uF (jv (l := [aB 0, aB t, v]) k1 rfl rfl (by omega))) rfl ⟨rfl, m1⟩
theorem zu (i : Int) (v k : aH) (s : PH) : ah 154 #[.int .i64 i, dV v, dV k] s fun y s' => y = .string (eF i v k) ∧ s' = s := by
 refine bx.quiet (FF i v.kind v.n v.s k.kind k.n k.s _ s ?_);unfold ym;simp only [bM, aY, bY, aF];refine W.bF (bC (aB 1), ()) (kD 1 s) rfl ?_;refine W.bF (bC (aB i), ()) (kD i s) rfl ?_;refine W.bI fun r s1 hr m1 k1 => ?_;exact aN ((eF i v k, ()), ()) (uF (jv (l := [aB 1, aB i, v, k]) k1 rfl rfl (by omega))) rfl ⟨rfl, m1⟩
theorem GW (t : Int) (s : PH) : ah 210 #[.int .i64 t] s fun y s' => y = nt (under [aB 0, aB t]) ∧ s' = s := by
 refine bx.quiet (FH t _ s ?_);unfold yp;simp only [bM, aY, bY, aF];refine aN (bC (aB 0), ()) (kD 0 s) rfl ?_;refine aN (bC (aB t), ()) (kD t s) rfl ?_;refine W.bI fun r s1 hr m1 k1 => ?_;refine aN (((keyOf [aB 0, aB t]).1, ()), ()) (uF (jv (l := [aB 0, aB t]) k1 rfl rfl (by omega))) rfl ?_;have hs := fu [aB 0, aB t];exact aN (((under [aB 0, aB t]).1, (under [aB 0, aB t]).2, ()), ()) (zo _ (by dsimp only; omega) s1) rfl ⟨rfl, m1⟩
theorem zv (i : Int) (v : aH) (s : PH) : ah 153 #[.int .i64 i, dV v] s fun y s' => y = nt (under [aB 1, aB i, v]) ∧ s' = s := by
 refine bx.quiet (FG i v.kind v.n v.s _ s ?_);unfold yo;simp only [bM, aY, bY, aF];refine W.bF (bC (aB 1), ()) (kD 1 s) rfl ?_;refine W.bF (bC (aB i), ()) (kD i s) rfl ?_;refine W.bI fun r s1 hr m1 k1 => ?_;refine aN (((keyOf [aB 1, aB i, v]).1, ()), ()) (uF (jv (l := [aB 1, aB i, v]) k1 rfl rfl (by omega))) rfl ?_;have hs := fu [aB 1, aB i, v];exact aN (((under [aB 1, aB i, v]).1, (under [aB 1, aB i, v]).2, ()), ()) (zo _ (by dsimp only; omega) s1) rfl ⟨rfl, m1⟩
def uQ (x : BA) : Value := match nK x with | some v => .tuple #[dV v, .int .i64 0] | none => .tuple #[dV gm, .int .i64 20]
theorem zw (x : BA) (hx : x.size ≤ 140737488351232) (s : PH) : ah 150 #[.string x] s fun y s' => y = uQ x ∧ s' = s := by
 refine bx.quiet (JN x _ s ?_);unfold CE uQ nK
 obtain ⟨O, hO⟩ : ∃ O, de x = O := ⟨_, rfl⟩
 simp only [aY, aR, aF, aP, aT, bL];refine W.aq (w5 x hx) ?_;rw [hO];intro y s1 hq
 cases O with
 | none =>
  obtain ⟨rfl, m1⟩ := hq;refine ⟨(((none, 0, 0), ()), (20, ()), ()), rfl, ?_⟩;exact (W.af _ _ _ _).2 ⟨fun _ => ⟨rfl, m1⟩, fun e => (by cases e)⟩
 | some l =>
  obtain ⟨a, n, c, rfl, hG⟩ := hq;have hlen := hG.row.len;have h8 := (gU hO).2.2;refine ⟨(((a, n, c), ()), (0, ()), ()), rfl, ?_⟩;dsimp only;refine (W.af _ _ _ _).2 ⟨fun e => (by cases e), fun _ => aC (fun e => ?_) fun e => ?_⟩
  ·have e : (n : Int) = 0 := eq_of_beq e;have : l = [] := List.eq_nil_of_length_eq_zero (by omega);subst this;exact ⟨rfl, hG.md⟩
  ·have e : ¬ (n : Int) = 0 := by simpa using e
   have hw : i64.wrap ((n : Int) - 1) = ((n - 1 : Nat) : Int) := by rw [bQ (by omega) (by omega)]; omega
   rw [hw];refine bg ⟨by omega, by omega⟩ ?_
   obtain ⟨v, hv⟩ : ∃ v, l[n - 1]? = some v := ⟨_, List.getElem?_eq_getElem (by omega)⟩
   obtain ⟨g, rfl, hh⟩ := hG.row.at hv;simp only [cR, Int.toNat_natCast, aV, Nat.zero_add];have hh : s1.has ⟨g, (n - 1) * 3, none⟩ (ew.f v) := hh;refine aE hh (y := bC v) rfl ?_
   have : l.getLast? = some v := by rw [List.getLast?_eq_getElem?, ← hlen, hv]
   show _ ∧ _
   simp only [Option.bind_some, this];exact ⟨trivial, hG.md⟩
def bu : cO aL where
 sz := 4
 f c := [.int .i64 c.id, .int .i64 c.v.kind, .int .i64 c.v.n, .string c.v.s]
 len _ := rfl
 one p v hv := by simp at hv; rcases hv with rfl | rfl | rfl | rfl <;> rfl
 pos := by omega
abbrev zB (c : aL) : Den [.int .i64, .int .i64, .int .i64, .str] := (c.id, c.v.kind, c.v.n, c.v.s, ())
theorem lH {s : PH} {a : OA} {n c : Nat} {l : List aL} (h : Sl bu s (a, n, c) l) (id : Int) : ah 127 #[.slice a n c, .int .i64 id] s fun y s' => y = dV (au l id) ∧ s' = s := by
 refine K7 a n c id _ s ?_;unfold Gl
 obtain ⟨R, hR⟩ : ∃ R : Value → PH → Prop, (fun y s' => y = dV (au l id) ∧ s' = s) = R := ⟨_, rfl⟩
 rw [hR];have hlen : n = l.length := h.len;have hfew := h.dF;simp only [aQ, aR, aF, aP, aT, bL];refine ⟨fun z s' => ∃ k : Nat, z = ((0, 0, ⟨#[]⟩, ()), ((a, n, c), ()), ((n : Int), ()), ((k : Int), ()), ()) ∧ k ≤ n ∧ s' = s ∧ au (l.drop k) id = au l id, fun z _ => n - z.2.2.2.1.1.toNat, ⟨0, rfl, Nat.zero_le _, rfl, rfl⟩, ?_⟩;rintro _ s ⟨k, rfl, hk, rfl, ho⟩;dsimp only;refine aC (fun e => ?_) fun e => ?_
 ·have hlt : (k : Int) < (n : Int) := of_decide_eq_true e
  obtain ⟨x, hx⟩ : ∃ x, l[k]? = some x := ⟨_, List.getElem?_eq_getElem (by omega)⟩
  obtain ⟨ad, had, hh⟩ := h.el.aG hx;dsimp only at had;subst had;refine bg ⟨by omega, hlt⟩ ?_;simp only [cR, Int.toNat_natCast];have hh : s.has (ad.add (k * 4)) (bu.f x) := hh;refine aE hh (y := zB x) rfl ?_;rw [bW hx] at ho;unfold au at ho;rw [List.find?_cons] at ho;refine aC (fun e2 => ?_) fun e2 => ?_
  ·have e2 : (x.id == id) = true := e2;rw [e2] at ho;rw [← hR];refine ⟨?_, rfl⟩;unfold au;rw [← ho]; (first | done | rfl)
  ·have e2 : (x.id == id) = false := e2;rw [e2] at ho;rw [aj (k := k) (by omega)];exact ⟨⟨k + 1, rfl, by omega, rfl, ho⟩, by simp only [Int.toNat_natCast]; omega⟩
 ·have e : ¬ (k : Int) < (n : Int) := of_decide_eq_false e;rw [List.drop_of_length_le (by omega)] at ho;rw [← hR];exact ⟨by rw [← ho]; (first | done | rfl), rfl⟩
theorem keyOf_pair {c : aL} (h : bA c.v = true) : keyOf [aB c.id, c.v] = (kB ([aB c.id, c.v].flatMap bP), 0) := jq (by intro v hv; simp at hv; rcases hv with rfl | rfl; rfl; exact h) (by simp)
theorem wv {c : aL} (h : ¬ bA c.v = true) : (keyOf [aB c.id, c.v]).2 = 10 := by
 unfold keyOf;rw [if_neg (by simp), if_pos];unfold nA;simp [h]
theorem pO : ∀ (l : List aL) (c : aL) (last : Int), dr last (l ++ [c]) = (dr last l && (bA c.v && decide (((l.getLast?).map (·.id)).getD last < c.id)))
 | [], c, last => by
  show (bA c.v && decide (last < c.id) && true) = (true && (bA c.v && decide (last < c.id)))
  rw [Bool.and_true, Bool.true_and]
 | x :: l, c, last => by
  have e : (((x :: l).getLast?).map (·.id)).getD last = ((l.getLast?).map (·.id)).getD x.id := by
   rw [List.getLast?_cons]
   cases l.getLast? <;> rfl
  rw [e];simp only [List.cons_append, dr, pO l c x.id, Bool.and_assoc]
theorem xC : ∀ (l m : List aL) (last : Int), dr last (l ++ m) = true → dr last l = true
 | [], m, last, _ => rfl
 | x :: l, m, last, h => by
  simp only [List.cons_append, dr, Bool.and_eq_true] at h ⊢;exact ⟨h.1, xC l m x.id h.2⟩
theorem Cl {l : List aL} {k : Nat} (h : dr 0 (l.take k) = false) : cK l = (⟨#[]⟩, 100) := by
 unfold cK;rw [if_neg];intro hy;have := xC (l.take k) (l.drop k) 0 (by rw [List.take_append_drop]; exact hy);rw [h] at this; cases this
theorem xg {l : List aL} (h : ∀ c ∈ l, bA c.v = true) : (l.flatMap di).length ≤ 256 * l.length := by
 induction l with
 | nil => simp
 | cons c l ih =>
  have h1 := tA (h c (by simp));have h2 := ih fun x hx => h x (by simp [hx]);rw [List.flatMap_cons, List.length_append, List.length_cons];have : (di c).length = ([aB c.id, c.v].flatMap bP).length + 1 := rfl;omega
theorem uW : ∀ {l : List aL} {last : Int}, dr last l = true → ∀ c ∈ l, bA c.v = true
 | [], last, _ => by simp
 | x :: l, last, h => by
  simp only [dr, Bool.and_eq_true] at h;intro c hc;rcases List.mem_cons.1 hc with rfl | hc
  ·exact h.1.1
  ·exact uW h.2 c hc
def iO (l : List aL) : Int := ((l.getLast?).map (·.id)).getD 0
theorem Hl {n : Nat} (h : n < 256) : u8.wrap ((n : Nat) : Int) = ((UInt8.ofNat n).toNat : Int) := by
 rw [w8, UInt8.toNat_ofNat']; omega
theorem EC {s : PH} {a : OA} {n c : Nat} {l : List aL} (h : Sl bu s (a, n, c) l) : ah 158 #[.slice a n c] s fun y s' => y = .tuple #[.string (cK l).1, .int .i64 (cK l).2] ∧ s' = s := by
 refine bx.quiet (JO a n c _ s ?_);unfold CF
 obtain ⟨R, hR⟩ : ∃ R : Value → PH → Prop, (fun y s' => y = .tuple #[.string (cK l).1, .int .i64 (cK l).2] ∧ Fw.Mod [] s s') = R := ⟨_, rfl⟩
 rw [hR];have hlen : n = l.length := h.len;have hfew := h.dF;simp only [aQ, aR, aF, aP, aT, bL, bM, aY, bY, qq];refine ⟨fun z s' => ∃ k : Nat, z = ((kB ((l.take k).flatMap di), ()), (iO (l.take k), ()), ((a, n, c), ()), ((n : Int), ()), ((k : Int), ()), ()) ∧ k ≤ n ∧ Fw.Mod [] s s' ∧ dr 0 (l.take k) = true, fun z _ => n - z.2.2.2.2.1.1.toNat, ⟨0, rfl, Nat.zero_le _, Mod.refl _ _, rfl⟩, ?_⟩;rintro _ s1 ⟨k, rfl, hk, m1, hp⟩;dsimp only;refine aC (fun e => ?_) fun e => ?_
 ·have hlt : (k : Int) < (n : Int) := of_decide_eq_true e
  obtain ⟨x, hx⟩ : ∃ x, l[k]? = some x := ⟨_, List.getElem?_eq_getElem (by omega)⟩
  have htk : l.take (k + 1) = l.take k ++ [x] := by rw [List.take_add_one, hx]; (first | done | rfl)
  obtain ⟨ad, had, hh⟩ := (h.el.mono m1.le).aG hx;dsimp only at had;subst had;refine bg ⟨by omega, hlt⟩ ?_;simp only [cR, Int.toNat_natCast];have hh : s1.has (ad.add (k * 4)) (bu.f x) := hh;refine aE hh (y := zB x) rfl ?_;dsimp only;refine W.bF (bC (aB x.id), ()) (kD _ s1) rfl ?_;refine W.bI fun r s2 hr m2 k2 => ?_;refine aN (((keyOf [aB x.id, x.v]).1, ()), ((keyOf [aB x.id, x.v]).2, ()), ()) (w6 (jv (l := [aB x.id, x.v]) k2 rfl rfl (by omega))) rfl ?_;have m12 := m1.trans m2
  have hpk : dr 0 (l.take (k + 1)) = (bA x.v && decide (iO (l.take k) < x.id)) := by
   rw [htk, pO, hp]; (first | done | rfl)
  dsimp only;refine aC (fun e1 => ?_) fun e1 => ?_
  ·have hno : ¬ bA x.v = true := by intro hy; rw [keyOf_pair hy] at e1; simp at e1
   rw [← hR, Cl (k := k + 1) (by rw [hpk]; simp [hno])];exact ⟨rfl, m12⟩
  have hyes : bA x.v = true := by
   cases hy : bA x.v with
   | true => rfl
   | false => rw [wv (by rw [hy]; decide)] at e1; simp at e1
  rw [hyes, Bool.true_and] at hpk;refine aC (fun e2 => ?_) fun e2 => ?_
  ·have e2 : x.id ≤ iO (l.take k) := of_decide_eq_true e2;rw [← hR, Cl (k := k + 1) (by rw [hpk]; simp; omega)];exact ⟨rfl, m12⟩
  have e2 : ¬ x.id ≤ iO (l.take k) := of_decide_eq_false e2
  have hpk : dr 0 (l.take (k + 1)) = true := by rw [hpk]; simp; omega
  rw [keyOf_pair hyes];have hcl := tA hyes;have hkl := xg (uW hp);rw [List.length_take] at hkl;dsimp only;rw [bR, Hl hcl];refine W.bI fun r2 s3 hr2 m3 k3 => ?_;refine mJ (lD (E := nB) (l := [UInt8.ofNat ([aB x.id, x.v].flatMap bP).length]) k3 rfl rfl (by omega)) ?_;rw [← qW, ← qW, bR, bR];refine (W.cI _ _ _).2 ⟨by simp only [List.length_cons, List.length_nil]; omega, (W.cI _ _ _).2 ⟨?_, ?_⟩⟩
  ·rw [bR, List.length_append];simp only [List.length_cons, List.length_nil]; omega
  rw [aj (k := k) (by omega)];refine ⟨⟨k + 1, ?_, by omega, m12.trans m3, hpk⟩, by simp only [Int.toNat_natCast]; omega⟩
  have h1 : iO (l.take (k + 1)) = x.id := by unfold iO; rw [htk]; simp
  rw [h1, htk, List.flatMap_append];simp [di]
 ·have e : ¬ (k : Int) < (n : Int) := of_decide_eq_false e;rw [List.take_of_length_le (by omega)] at hp ⊢;rw [← hR];refine ⟨?_, m1⟩;unfold cK;rw [if_pos hp]
end
section
attribute [-simp] Fw.W.bD Fw.W.bB
def CR (o : Option (List aL)) (s : PH) (y : Value) (s' : PH) : Prop :=
 match o with
 | none => y = .tuple #[.slice none 0 0, .int .i64 100] ∧ Fw.Mod [] s s'
 | some l => ∃ a n c, y = .tuple #[.slice a n c, .int .i64 0] ∧ Gw bu 94 s s' a n c l
theorem KX {b : UInt8} {r : List UInt8} {n : Nat} : (kB (b :: r)).extract 1 (1 + n) = kB (r.take n) := by
 apply mY;rw [pI, dA, dA, List.extract_eq_take_drop, List.drop_one, List.tail_cons, show 1 + n - 1 = n by omega]
theorem Cd {b : UInt8} {r : List UInt8} {n : Nat} : (kB (b :: r)).extract (1 + n) (kB (b :: r)).size = kB (r.drop n) := by
 apply mY;rw [ox, dA, dA, show 1 + n = n + 1 by omega, List.drop_succ_cons]
theorem Jw (b : UInt8) (r : List UInt8) : (kB (b :: r))[0]?.getD 0 = b := by
 obtain ⟨q, h1, h2⟩ := iD (s := kB (b :: r)) (i := 0) (by rw [bR]; simp);rw [dA] at h1;simp at h1;rw [h2, h1]
theorem KC {s : PH} (x : BA) (hx : x.size ≤ 4000000) : ah 211 #[.string x] s (CR (eM x) s) := by
 refine JM x _ s ?_;unfold CD;rw [← go_eq]
 obtain ⟨R, hR⟩ : ∃ R, CR (Cb x) s = R := ⟨_, rfl⟩
 rw [hR];simp only [aQ, aR, aF, aP, aT, bL, bM, aY, bY, cX, cE]
 have hbad : ∀ {s' : PH}, Fw.Mod [] s s' → kH (x.size + 1) (kL x) [] = none → R (.tuple #[.slice none 0 0, .int .i64 100]) s' := fun hm e => by
  rw [← hR]; unfold Cb; rw [e]; exact ⟨rfl, hm⟩
 refine ⟨fun z s' => ∃ (a : OA) (n c f : Nat) (acc : List aL) (rest : List UInt8), z = (((a, n, c), ()), (kB rest, ()), ()) ∧ Gw bu 94 s s' a n c acc ∧ rest.length < f ∧ n + rest.length ≤ x.size ∧ kH f rest acc = kH (x.size + 1) (kL x) [],
  fun z _ => z.2.1.1.size, ⟨none, 0, 0, x.size + 1, [], kL x, by rw [jy], Gw.nil (Mod.refl _ _), by rw [dj]; omega, by rw [dj]; omega, rfl⟩, ?_⟩
 rintro _ s1 ⟨a, n, c, f, acc, rest, rfl, hG, hf, hn, hg⟩;have hlen := hG.row.len;dsimp only;refine aC (fun e1 => ?_) fun e1 => ?_;rotate_left
 ·have e1 : ¬ (((kB rest).size : Nat) : Int) > 0 := of_decide_eq_false e1;rw [bR] at e1;have : rest = [] := List.eq_nil_of_length_eq_zero (by omega);subst this
  obtain ⟨g, rfl⟩ : ∃ g, f = g + 1 := ⟨f - 1, by omega⟩
  rw [kH] at hg;refine aN (((cK acc).1, ()), ((cK acc).2, ()), ()) (EC (Sl.bN hG.row (by omega))) rfl ?_
  have hgo : Cb x = if (cK acc).2 = 0 ∧ (cK acc).1 = x then some acc else none := by unfold Cb; rw [← hg]; (first | done | rfl)
  dsimp only;refine (W.af _ _ _ _).2 ⟨fun e2 => ?_, fun e2 => aC (fun e3 => ?_) fun e3 => ?_⟩
  ·have e2 : ¬ (cK acc).2 = 0 := by simpa using e2
   rw [if_neg (by simp [e2])] at hgo;rw [← hR, hgo]; exact ⟨rfl, hG.md⟩
  ·have e3 : ¬ (cK acc).1 = x := by rw [bO] at e3; simpa using e3
   rw [if_neg (by simp [e3])] at hgo;rw [← hR, hgo]; exact ⟨rfl, hG.md⟩
  ·have e2 : (cK acc).2 = 0 := by simpa using e2
   have e3 : (cK acc).1 = x := by rw [bO] at e3; simpa using e3
   rw [if_pos ⟨e2, e3⟩] at hgo;rw [← hR, hgo]; exact ⟨a, n, c, rfl, hG⟩
 have e1 : (((kB rest).size : Nat) : Int) > 0 := of_decide_eq_true e1;rw [bR] at e1
 obtain ⟨b, r, rfl⟩ : ∃ b r, rest = b :: r := by
  cases rest with
  | nil => simp at e1
  | cons b r => exact ⟨b, r, rfl⟩
 simp only [List.length_cons] at hf hn e1
 obtain ⟨g, rfl⟩ : ∃ g, f = g + 1 := ⟨f - 1, by omega⟩
 have hbz : (kB (b :: r)).size = r.length + 1 := by rw [bR]; (first | done | rfl)
 rw [kH] at hg;refine bg ⟨by omega, by rw [hbz]; omega⟩ ?_;rw [Jw];have hbl := b.toNat_lt;have hw1 : i64.wrap ((b.toNat : Nat) : Int) = (b.toNat : Int) := bQ (by omega) (by omega);rw [hw1]
 have hw2 : i64.wrap (1 + ((b.toNat : Nat) : Int)) = ((1 + b.toNat : Nat) : Int) := by rw [bQ (by omega) (by omega)]; omega
 refine aC (fun e2 => ?_) fun e2 => ?_
 ·have e2 : (b.toNat : Int) ≥ (((kB (b :: r)).size : Nat) : Int) := of_decide_eq_true e2;rw [hbz] at e2;rw [if_pos (by omega)] at hg;exact hbad hG.md hg.symm
 have e2 : ¬ (b.toNat : Int) ≥ (((kB (b :: r)).size : Nat) : Int) := of_decide_eq_false e2;rw [hbz] at e2;rw [if_neg (by omega)] at hg;rw [hw2, Int.toNat_natCast, KX];refine bg ⟨by omega, by omega, by rw [hbz]; omega⟩ ?_;refine W.aq (w5 (kB (r.take b.toNat)) (by rw [bR, List.length_take]; omega)) ?_;intro y s2 hq
 cases hk : de (kB (r.take b.toNat)) with
 | none =>
  rw [hk] at hq hg;obtain ⟨rfl, m2⟩ := hq;refine ⟨(((none, 0, 0), ()), (20, ()), ()), rfl, ?_⟩;dsimp only;refine W.bp (fun _ _ => False) (fun _ _ h => h.elim) fun J hJ => ?_;exact (W.af _ _ _ _).2 ⟨fun _ => hbad (hG.md.trans m2) hg.symm, fun e => (by cases e)⟩
 | some l =>
  rw [hk] at hq hg;obtain ⟨a2, n2, c2, rfl, hV⟩ := hq;have hl2 := hV.row.len;have h8 := (gU hk).2.2;refine ⟨(((a2, n2, c2), ()), (0, ()), ()), rfl, ?_⟩;dsimp only;have hG2 := hG.same hV.md;refine W.bp (fun z s' => ∃ p q, z = (((a, n, c), ()), (kB (b :: r), ()), ((b.toNat : Int), ()), ((a2, 2, c2), ()), ()) ∧ l = [p, q] ∧ s2 = s') ?_ ?_
  ·rintro _ s2 ⟨p, q, rfl, rfl, rfl⟩;have hn2 : n2 = 2 := hl2;subst hn2;simp only at hg;dsimp only;refine bg ⟨by omega, by omega⟩ ?_;obtain ⟨gb, rfl, hh0⟩ := hV.row.at (i := 0) (x := p) rfl;obtain ⟨_, h1, hh1⟩ := hV.row.at (i := 1) (x := q) rfl;cases h1;simp only [cR, aV, Nat.zero_add];have hh0 : s2.has ⟨gb, 0, none⟩ (ew.f p) := hh0;have hh1 : s2.has ⟨gb, 3, none⟩ (ew.f q) := hh1;refine bl (j := 1) hh0 (y := (p.n, ())) rfl ?_;refine bg ⟨by omega, by omega⟩ ?_;refine aE hh1 (y := bC q) rfl ?_;refine hG2.push [⟨p.n, q⟩] (k := 1) rfl rfl rfl (by omega) (by omega) fun a3 c3 s3 h3 => ?_;rw [hw2, Int.toNat_natCast, Int.toNat_natCast];refine bg ⟨by omega, by rw [hbz]; omega, by omega⟩ ?_;refine ⟨⟨a3, n + 1, c3, g, acc ++ [⟨p.n, q⟩], r.drop b.toNat, ?_, h3, by rw [List.length_drop]; omega, by rw [List.length_drop]; omega, hg⟩, ?_⟩
   ·rw [Cd]
   ·rw [Cd, hbz, bR, List.length_drop]; omega
  ·intro J hJ;refine (W.af _ _ _ _).2 ⟨fun e => (by cases e), fun _ => aC (fun e => ?_) fun e => ?_⟩
   ·have e : ¬ (n2 : Int) = 2 := by simpa using e
    refine hbad hG2.md ?_;rw [← hg]
    match l, hl2 with
    | [], _ => rfl
    | [_], _ => rfl
    | [_, _], h => exact absurd (by simp at h; omega) e
    | _ :: _ :: _ :: _, _ => rfl
   ·have e : (n2 : Int) = 2 := by simpa using e
    have hn2 : n2 = 2 := by omega
    subst hn2
    match l, hl2 with
    | [p, q], _ => exact hJ _ _ ⟨p, q, rfl, rfl, rfl⟩
end
section
attribute [-simp] Fw.W.bD Fw.W.bB
def fO : List UInt8 → List UInt8 → Int
 | [], [] => 0
 | [], _ :: _ => -1
 | _ :: _, [] => 1
 | a :: x, b :: y => if a.toNat < b.toNat then -1 else if b.toNat < a.toNat then 1 else fO x y
def cZ (x y : BA) : Int := fO (kL x) (kL y)
theorem nC (x y : BA) (hx : x.size ≤ 9223372036854775806) (s : PH) : ah 44 #[.string x, .string y] s fun v s' => v = .int .i64 (cZ x y) ∧ s' = s := by
 refine DE x y _ s ?_;unfold vA;simp only [aQ];refine ⟨fun z s' => s' = s ∧ ∃ i : Nat, z = (((i : Int), ()), ()) ∧ i ≤ x.size ∧ i ≤ y.size ∧ cZ x y = fO ((kL x).drop i) ((kL y).drop i), fun z _ => x.size - z.1.1.toNat, ⟨rfl, 0, rfl, Nat.zero_le _, Nat.zero_le _, rfl⟩, ?_⟩;rintro _ s ⟨rfl, i, rfl, h1, h2, h3⟩;have hdx : x.size ≤ i → (kL x).drop i = [] := fun h => List.drop_eq_nil_of_le (by rw [dj]; exact h);have hdy : y.size ≤ i → (kL y).drop i = [] := fun h => List.drop_eq_nil_of_le (by rw [dj]; exact h);have hl : ∀ {u v : Nat}, u ≤ v → v ≤ u → u = v := fun a b => Nat.le_antisymm a b;simp only [aR, W.af, aP, W.cI, aF, W.oB, decide_eq_true_eq, decide_eq_false_iff_not]
 have tail : ¬ (i < x.size ∧ i < y.size) → ((↑x.size : Int) < ↑y.size → Value.int IntKind.i64 (-1) = Value.int IntKind.i64 (cZ x y) ∧ True) ∧
   (¬ (↑x.size : Int) < ↑y.size → ((↑x.size : Int) > ↑y.size → Value.int IntKind.i64 1 = Value.int IntKind.i64 (cZ x y) ∧ True) ∧ (¬ (↑x.size : Int) > ↑y.size → Value.int IntKind.i64 0 = Value.int IntKind.i64 (cZ x y) ∧ True)) := by
  intro hnot;rcases Nat.lt_or_ge i x.size with a | a
  ·have b : y.size ≤ i := by omega
   obtain ⟨u, hu, _⟩ := iD (s := x) (i := i) a;rw [hdy b, bW hu] at h3;simp only [fO] at h3
   refine ⟨fun h => ?_, fun _ => ⟨fun _ => by rw [h3]; exact ⟨rfl, trivial⟩, fun h => ?_⟩⟩ <;> omega
  ·rcases Nat.lt_or_ge i y.size with b | b
   ·obtain ⟨u, hu, _⟩ := iD (s := y) (i := i) b;rw [hdx a, bW hu] at h3;simp only [fO] at h3;refine ⟨fun h => by rw [h3]; exact ⟨rfl, trivial⟩, fun h => ?_⟩;omega
   ·rw [hdx a, hdy b] at h3;simp only [fO] at h3;refine ⟨fun h => by omega, fun h => ⟨fun h => by omega, fun h => by rw [h3]; exact ⟨rfl, trivial⟩⟩⟩
 refine ⟨fun a => ⟨fun b => ?_, fun b => tail (by omega)⟩, fun a => tail (by omega)⟩
 have a' : i < x.size := by omega
 have b' : i < y.size := by omega
 obtain ⟨u, hu, hu2⟩ := iD (s := x) (i := i) a';obtain ⟨v, hv, hv2⟩ := iD (s := y) (i := i) b';rw [bW hu, bW hv] at h3;simp only [fO] at h3;have e : ((i : Int)).toNat = i := rfl;simp only [e, hu2, hv2]
 have hw : i64.wrap ((i : Int) + 1) = ((i + 1 : Nat) : Int) := by rw [bQ (by omega) (by omega)]; simp
 refine ⟨⟨by omega, a⟩, ⟨by omega, b⟩, fun h => ?_, fun h => ⟨⟨by omega, a⟩, ⟨by omega, b⟩, fun g => ?_, fun g => ?_⟩⟩
 ·rw [if_pos (by omega)] at h3; rw [h3]; exact ⟨rfl, trivial⟩
 ·rw [if_neg (by omega), if_pos (by omega)] at h3; rw [h3]; exact ⟨rfl, trivial⟩
 ·rw [if_neg (by omega), if_neg (by omega)] at h3;rw [hw];refine ⟨⟨trivial, i + 1, rfl, by omega, by omega, h3⟩, ?_⟩;simp only [Int.toNat_natCast]; omega
theorem lR (n : Int) (s : PH) : ah 30 #[.int .i64 n] s fun y s' => y = dV (aB n) ∧ s' = s := by
 refine JJ n _ s ?_;unfold CA;exact ⟨rfl, rfl⟩
theorem KB {v : aH} (hv : bA v = true) (s : PH) : ah 141 #[dV v] s fun y s' => y = .string (kB (bP v)) ∧ s' = s := by
 refine bx.quiet (JK v.kind v.n v.s _ s ?_);unfold CB;have hk := pY hv;simp only [bY, cX, aR, aQ, aP, aF, cE, qq]
 have hd : u8.wrap (i64.wrap (v.kind + 1)) = ((UInt8.ofNat ((1 + v.kind) % 256).toNat).toNat : Int) := by
  rcases hk with e | e | e <;> rw [e] <;> rfl
 refine W.bI fun r s1 hr m1 k1 => ?_
 obtain ⟨D, hD⟩ : ∃ D, UInt8.ofNat ((1 + v.kind) % 256).toNat = D := ⟨_, rfl⟩
 rw [hD] at hd;rw [hd] at k1
 have h1 : Gw nB 5 s s1 (some ⟨r, 0, none⟩) 1 1 [D] := ⟨lD k1 rfl rfl (by omega), by intro g hg; simp [Fw.aW] at hg; subst hg; exact hr, m1⟩
 refine W.bp (fun z s' => ∃ a n c, z = (bC v, ((a, n, c), ()), ()) ∧ Gw nB 5 s s' a n c (D :: if v.kind = 1 then fM (n64 v.n) else [])) ?_ ?_
 ·rintro _ s2 ⟨a2, n2, c2, rfl, h2⟩;dsimp only;have hn2 := h2.row.len
  have hn3 : n2 ≤ 9 := by rw [hn2]; split <;> simp [fM]
  refine aC (fun e => ?_) fun e => ?_
  ·have e2 : v.kind = 2 := eq_of_beq e
   have e1 : v.kind ≠ 1 := by omega
   rw [if_neg e1] at h2
   have hvs : v.s.size ≤ 64 := by
    unfold bA at hv;rw [if_neg (by omega), if_neg e1, if_pos e2] at hv;simp at hv; exact hv.2
   refine ⟨fun z s' => ∃ (a : OA) (N k c : Nat), z = (bC v, ((a, N, c), ()), ((k : Int), ()), ()) ∧ k ≤ v.s.size ∧ N ≤ n2 + 2 * k ∧ Gw nB 5 s s' a N c ([D] ++ eG ((kL v.s).take k)), fun z _ => v.s.size - z.2.2.1.1.toNat, ⟨a2, n2, 0, c2, rfl, Nat.zero_le _, by omega, by simpa [eG] using h2⟩, ?_⟩;rintro _ s3 ⟨a3, N, k, c3, rfl, hk2, hN, h3⟩;dsimp only;refine aC (fun e => ?_) fun e => ?_
   ·have e : (k : Int) < (v.s.size : Int) := of_decide_eq_true e;obtain ⟨b, hb, hb2⟩ := iD (s := v.s) (i := k) (by omega)
    have htk : (kL v.s).take (k + 1) = (kL v.s).take k ++ [b] := by rw [List.take_add_one, hb]; (first | done | rfl)
    refine bg ⟨by omega, e⟩ ?_;simp only [Int.toNat_natCast, hb2];refine h3.push [b] (k := 1) rfl rfl rfl (by omega) (by omega) fun a4 c4 s4 h4 => ?_;refine bg ⟨Int.natCast_nonneg k, e⟩ ?_;rw [aj (k := k) (by omega)];refine aC (fun e0 => ?_) fun e0 => ?_
    ·have e0 : (b.toNat : Int) = 0 := eq_of_beq e0
     have e0 : b = 0 := by apply UInt8.toNat_inj.1; show b.toNat = 0; omega
     refine h4.push [255] (k := 1) rfl rfl rfl (by omega) (by omega) fun a5 c5 s5 h5 => ?_;refine ⟨⟨a5, N + 1 + 1, k + 1, c5, rfl, by omega, by omega, ?_⟩, by simp only [Int.toNat_natCast]; omega⟩;rw [htk, mV];subst e0;simpa [eG] using h5
    ·have e0 : ¬ b = 0 := by rintro rfl; exact absurd e0 (by decide)
     refine ⟨⟨a4, N + 1, k + 1, c4, rfl, by omega, by omega, ?_⟩, by simp only [Int.toNat_natCast]; omega⟩;rw [htk, mV];simpa [eG, e0] using h4
   ·have e : ¬ (k : Int) < (v.s.size : Int) := of_decide_eq_false e
    have hk3 : k = v.s.size := by omega
    rw [List.take_of_length_le (by rw [dj]; omega)] at h3;refine h3.push [0, 1] (k := 2) rfl rfl rfl (by omega) (by omega) fun a4 c4 s4 h4 => ?_;refine mJ h4.row ?_;refine ⟨?_, h4.md⟩;unfold bP;rw [if_neg e1, if_pos e2, hD];simp
  ·have e2 : ¬ v.kind = 2 := by simpa using e
   refine mJ h2.row ?_;refine ⟨?_, h2.md⟩;unfold bP;rw [if_neg e2, hD]
 ·intro J hJ;refine aC (fun e => ?_) fun e => ?_
  ·have e1 : v.kind = 1 := eq_of_beq e
   obtain ⟨N, hN⟩ : ∃ N, n64 v.n = N := ⟨_, rfl⟩
   have hNl : N < 18446744073709551616 := by rw [← hN]; exact Ah _
   have hw : u64.wrap (u64.wrap v.n + 9223372036854775808) = (N : Int) := by
    rw [rO, rO, ← hN]; unfold n64; omega
   rw [hw];rw [if_pos e1, hN] at hJ;refine ⟨fun z s' => ∃ (a : OA) (j c : Nat), z = (bC v, ((a, 1 + j, c), ()), ((N : Int), ()), ((j : Int), ()), ()) ∧ j ≤ 8 ∧ Gw nB 5 s s' a (1 + j) c ([D] ++ (fM N).take j), fun z _ => 8 - z.2.2.2.1.1.toNat, ⟨some ⟨r, 0, none⟩, 0, 1, rfl, by omega, by simpa using h1⟩, ?_⟩;rintro _ s2 ⟨a2, j, c2, rfl, hj, h2⟩;dsimp only;refine aC (fun e => ?_) fun e => ?_
   ·have e : (j : Int) < 8 := of_decide_eq_true e
    have hj8 : j < 8 := by omega
    have hsh : u64.wrap (i64.wrap (56 - i64.wrap (8 * (j : Int)))) = ((56 - 8 * j : Nat) : Int) := by
     rw [bQ (n := 8 * (j : Int)) (by omega) (by omega), bQ (by omega) (by omega), rO]; omega
    rw [hsh];refine (W.cI _ _ _).2 ⟨by omega, ?_⟩
    obtain ⟨b, hb⟩ : ∃ b, (fM N)[j]? = some b := ⟨_, List.getElem?_eq_getElem (by show j < 8; exact hj8)⟩
    have hbv : u8.wrap (if false = true then u64.wrap ((N : Int) * 2 ^ min ((56 - 8 * j : Nat) : Int).toNat 64) else ((N : Int)).fdiv (2 ^ min ((56 - 8 * j : Nat) : Int).toNat 64)) = (b.toNat : Int) := by
     rw [if_neg (by decide)]
     have hq : ∀ d : Nat, 0 < d → u8.wrap ((N : Int).fdiv (d : Int)) = ((UInt8.ofNat (N / d)).toNat : Int) := by
      intro d hd;rw [UInt8.toNat_ofNat', w8, Int.fdiv_eq_ediv_of_nonneg _ (by omega)];simp
     match j, hj8, hb with
     | 0, _, hb => simp only [fM, List.getElem?_cons_zero, Option.some.injEq] at hb; subst hb; exact hq 72057594037927936 (by decide)
     | 1, _, hb => simp only [fM, List.getElem?_cons_zero, List.getElem?_cons_succ, Option.some.injEq] at hb; subst hb; exact hq 281474976710656 (by decide)
     | 2, _, hb => simp only [fM, List.getElem?_cons_zero, List.getElem?_cons_succ, Option.some.injEq] at hb; subst hb; exact hq 1099511627776 (by decide)
     | 3, _, hb => simp only [fM, List.getElem?_cons_zero, List.getElem?_cons_succ, Option.some.injEq] at hb; subst hb; exact hq 4294967296 (by decide)
     | 4, _, hb => simp only [fM, List.getElem?_cons_zero, List.getElem?_cons_succ, Option.some.injEq] at hb; subst hb; exact hq 16777216 (by decide)
     | 5, _, hb => simp only [fM, List.getElem?_cons_zero, List.getElem?_cons_succ, Option.some.injEq] at hb; subst hb; exact hq 65536 (by decide)
     | 6, _, hb => simp only [fM, List.getElem?_cons_zero, List.getElem?_cons_succ, Option.some.injEq] at hb; subst hb; exact hq 256 (by decide)
     | 7, _, hb => simp only [fM, List.getElem?_cons_zero, List.getElem?_cons_succ, Option.some.injEq] at hb; subst hb; have := hq 1 (by omega); simpa using this
    rw [hbv];refine h2.push [b] (k := 1) rfl rfl rfl (by omega) (by omega) fun a3 c3 s3 h3 => ?_;rw [aj (k := j) (by omega)];refine ⟨⟨a3, j + 1, c3, rfl, by omega, ?_⟩, by simp only [Int.toNat_natCast]; omega⟩;rw [List.take_add_one, hb];rw [List.append_assoc] at h3;exact h3
   ·have e : ¬ (j : Int) < 8 := of_decide_eq_false e
    have : j = 8 := by omega
    subst this;exact hJ _ _ ⟨a2, _, c2, rfl, by simpa [fM] using h2⟩
  ·have e1 : ¬ v.kind = 1 := by simpa using e
   rw [if_neg e1] at hJ;exact hJ _ _ ⟨_, 1, 1, rfl, h1⟩
theorem qz {s : PH} {a : OA} {n c : Nat} {l : List aH} (h : Em s a n c l) : ah 88 #[.slice a n c] s fun y s' => y = .tuple #[.string (keyOf l).1, .int .i64 (keyOf l).2] ∧ s' = s := by
 refine DD a n c _ s ?_;unfold vz;have hlen : n = l.length := h.len
 obtain ⟨R, hR⟩ : ∃ R : Value → PH → Prop, (fun y s' => y = .tuple #[.string (keyOf l).1, .int .i64 (keyOf l).2] ∧ s' = s) = R := ⟨_, rfl⟩
 rw [hR];simp only [aR, aF, aQ, aP, aT, bL, aY, bM];refine aC (fun e => ?_) fun e => ?_
 ·have e : (n : Int) > 8 := of_decide_eq_true e
  have : keyOf l = (⟨#[]⟩, 21) := by unfold keyOf; rw [if_pos (by omega)]
  rw [← hR, this];exact ⟨rfl, rfl⟩
 have e : ¬ (n : Int) > 8 := of_decide_eq_false e;refine ⟨fun z s' => ∃ k : Nat, z = ((kB ((l.take k).flatMap bP), ()), ((k : Int), ()), ()) ∧ k ≤ n ∧ s = s' ∧ ∀ v ∈ l.take k, bA v = true, fun z _ => n - z.2.1.1.toNat, ⟨0, rfl, Nat.zero_le _, rfl, by simp⟩, ?_⟩;rintro _ s1 ⟨k, rfl, hk, rfl, hok⟩;have hvl := uo hok;rw [List.length_take] at hvl;dsimp only;refine aC (fun e => ?_) fun e => ?_
 ·have hlt : (k : Int) < (n : Int) := of_decide_eq_true e
  obtain ⟨v, hv⟩ : ∃ v, l[k]? = some v := ⟨_, List.getElem?_eq_getElem (by omega)⟩
  obtain ⟨ad, had, hh⟩ := h.el.aG hv;dsimp only at had;subst had;refine bg ⟨by omega, hlt⟩ ?_;simp only [cR, Int.toNat_natCast];have hh : s.has (ad.add (k * 3)) (ew.f v) := hh;refine aE hh (y := bC v) rfl ?_;refine aN ((bA v, ()), ()) (qA v s) rfl ?_;dsimp only;refine aC (fun e1 => ?_) fun e1 => ?_
  ·have hno : bA v = false := by simpa using e1
   have : keyOf l = (⟨#[]⟩, 10) := by unfold keyOf; rw [if_neg (by omega), if_pos (zg hv hno)]
   rw [← hR, this];exact ⟨rfl, rfl⟩
  ·have hyes : bA v = true := by simpa using e1
   refine bg ⟨by omega, hlt⟩ ?_;refine aE hh (y := bC v) rfl ?_;refine aN ((kB (bP v), ()), ()) (KB hyes s) rfl ?_;dsimp only;have hl1 := AW hyes;refine (W.cI _ _ _).2 ⟨by rw [bR, bR]; omega, ?_⟩;rw [aj (k := k) (by omega)];refine ⟨⟨k + 1, ?_, by omega, rfl, ?_⟩, by simp only [Int.toNat_natCast]; omega⟩
   ·rw [List.take_add_one, hv, ← qW];simp
   ·intro x hx;rw [List.take_add_one, hv] at hx;simp only [Option.toList_some, List.mem_append, List.mem_singleton] at hx;rcases hx with hx | rfl
    ·exact hok x hx
    ·exact hyes
 ·have e : ¬ (k : Int) < (n : Int) := of_decide_eq_false e;rw [List.take_of_length_le (by omega)] at hok ⊢;rw [← hR, jq hok (by omega)];exact ⟨rfl, rfl⟩
theorem EA (t : Int) (v : aH) (s : PH) : ah 31 #[.int .i64 t, dV v] s fun y s' => y = .string (cH t v) ∧ s' = s := by
 refine bx.quiet (JL t v.kind v.n v.s _ s ?_);unfold CC;simp only [bM, aY, bY, aF];refine W.bF (bC (aB 0), ()) (lR 0 s) rfl ?_;refine W.bF (bC (aB t), ()) (lR t s) rfl ?_;refine W.bI fun r s1 hr m1 k1 => ?_;exact aN ((cH t v, ()), ((keyOf [aB 0, aB t, v]).2, ()), ()) (qz (jv (l := [aB 0, aB t, v]) k1 rfl rfl (by omega))) rfl ⟨rfl, m1⟩
theorem GQ (i : Int) (v k : aH) (s : PH) : ah 81 #[.int .i64 i, dV v, dV k] s fun y s' => y = .string (eF i v k) ∧ s' = s := by
 refine bx.quiet (Fv i v.kind v.n v.s k.kind k.n k.s _ s ?_);unfold yb;simp only [bM, aY, bY, aF];refine W.bF (bC (aB 1), ()) (lR 1 s) rfl ?_;refine W.bF (bC (aB i), ()) (lR i s) rfl ?_;refine W.bI fun r s1 hr m1 k1 => ?_;exact aN ((eF i v k, ()), ((keyOf [aB 1, aB i, v, k]).2, ()), ()) (qz (jv (l := [aB 1, aB i, v, k]) k1 rfl rfl (by omega))) rfl ⟨rfl, m1⟩
theorem GR {s : PH} {a : OA} {n c : Nat} {l : List aH} (h : Em s a n c l) : ah 78 #[.slice a n c] s fun y s' => y = nt (under l) ∧ s' = s := by
 refine Fy a n c _ s ?_;unfold yd;simp only [aY, aF, aP];refine aN (((keyOf l).1, ()), ((keyOf l).2, ()), ()) (qz h) rfl ?_;have hs := fu l;exact ⟨by dsimp only; omega, rfl, rfl⟩
end
section
attribute [-simp] Fw.W.bD Fw.W.bB
def Ki (o : Option (aH × List UInt8)) (n : Nat) (s : PH) (y : Value) (s' : PH) : Prop :=
 match o with
 | none => (∃ v : aH, y = .tuple #[dV v, .int .i64 0]) ∧ Fw.Mod [] s s'
 | some (v, r) => y = .tuple #[dV v, .int .i64 ((n - r.length : Nat) : Int)] ∧ Fw.Mod [] s s'
theorem GS {s : PH} (x : BA) (hx : 0 < x.size) (hs : x.size ≤ 1000000000) : ah 203 #[.string x] s (Ki (gB (kL x)) x.size s) := by
 refine Fz x _ s ?_;unfold ye
 obtain ⟨R, hR⟩ : ∃ R, Ki (gB (kL x)) x.size s = R := ⟨_, rfl⟩
 rw [hR]
 obtain ⟨b, l, hxl⟩ : ∃ b l, kL x = b :: l := by
  cases h : kL x with
  | nil => rw [← dj, h] at hx; simp at hx
  | cons b l => exact ⟨b, l, rfl⟩
 have hsz : x.size = l.length + 1 := by rw [← dj, hxl]; (first | done | rfl)
 have hat : ∀ i, i < l.length → ∃ c, l[i]? = some c ∧ x[i + 1]?.getD 0 = c := by
  intro i hi;obtain ⟨c, h1, h2⟩ := iD (s := x) (i := i + 1) (by omega);rw [hxl] at h1;exact ⟨c, by simpa using h1, h2⟩
 have hb : x[0]?.getD 0 = b := by
  obtain ⟨c, h1, h2⟩ := iD (s := x) (i := 0) (by omega);rw [hxl] at h1;simp at h1;rw [h2, h1]
 rw [hxl] at hR;simp only [aP, aR, aF, cE, aQ, bY, cX, qq, hb]
 have hbn : ∀ {n : UInt8}, (((b.toNat : Nat) : Int) == (n.toNat : Int)) = decide (b = n) := by
  intro n
  by_cases h : b = n
  ·subst h; simp
  ·have : ¬ (b.toNat : Int) = (n.toNat : Int) := fun e => h (UInt8.toNat_inj.1 (by omega));simp [h, this]
 have h1 : (((b.toNat : Nat) : Int) == 1) = decide (b = 1) := hbn (n := 1);have h2 : (((b.toNat : Nat) : Int) == 2) = decide (b = 2) := hbn (n := 2);have h3 : (((b.toNat : Nat) : Int) == 3) = decide (b = 3) := hbn (n := 3);refine bg ⟨by omega, by omega⟩ ?_;refine aC (fun e => ?_) fun e => ?_
 ·have e : b = 1 := by rw [h1] at e; exact of_decide_eq_true e
  subst e;rw [← hR];have : gB (1 :: l) = some (⟨0, 0, ⟨#[]⟩⟩, l) := rfl;rw [this];refine ⟨?_, Mod.refl _ _⟩
  show _ = Value.tuple #[_, .int .i64 ((x.size - l.length : Nat) : Int)]
  rw [show x.size - l.length = 1 by omega]
  first | done | rfl
 have n1 : ¬ b = 1 := by rw [h1] at e; exact of_decide_eq_false e
 refine W.bp (fun z s' => z = (bC gm, ()) ∧ s = s' ∧ (b = 2 → l.length < 8)) ?_ ?_
 ·rintro _ _ ⟨rfl, rfl, hb2⟩;dsimp only;refine bg ⟨by omega, by omega⟩ ?_
  have hno : ∀ {s' : PH}, Fw.Mod [] s s' → gB (b :: l) = none → R (.tuple #[.agg #[.int .i64 0, .int .i64 0, .string ⟨#[]⟩], .int .i64 0]) s' := fun hm e => by
   rw [← hR, e]; exact ⟨⟨gm, rfl⟩, hm⟩
  refine aC (fun e3 => ?_) fun e3 => ?_
  ·have n3 : ¬ b = 3 := by
    intro hq; subst hq; exact absurd e3 (by decide)
   refine hno (Mod.refl _ _) ?_;rw [gB, if_neg n1, if_neg n3]
   by_cases hq : b = 2
   ·rw [if_pos hq, if_pos (hb2 hq)]
   ·rw [if_neg hq]
  have y3 : b = 3 := by
   have : (((b.toNat : Nat) : Int) == 3) = true := by simpa using e3
   rw [h3] at this; exact of_decide_eq_true this
  subst y3;have hdu : gB (3 :: l) = (dS l).map fun p => (⟨2, 0, kB p.1⟩, p.2) := rfl
  refine ⟨fun z s' => ∃ (j : Nat) (a : OA) (n c : Nat) (acc : List UInt8), z = (bC gm, ((a, n, c), ()), (((j + 1 : Nat) : Int), ()), ()) ∧ j ≤ l.length ∧ n ≤ j ∧ Gw nB 5 s s' a n c acc ∧ dS l = (dS (l.drop j)).map fun p => (acc ++ p.1, p.2), fun z _ => x.size + 1 - z.2.2.1.1.toNat,
   ⟨0, none, 0, 0, [], rfl, Nat.zero_le _, Nat.le_refl _, Gw.nil (Mod.refl _ _), by simp⟩, ?_⟩
  rintro _ s1 ⟨j, a, n, c, acc, rfl, hj, hn, hG, hu⟩;dsimp only;rw [aj (k := j + 1) (by omega)];refine aC (fun e1 => ?_) fun e1 => ?_;rotate_left
  ·have e1 : ¬ ((j + 1 + 1 : Nat) : Int) < (x.size : Int) := of_decide_eq_false e1;refine hno hG.md ?_
   have hsm : (l.drop j).length ≤ 1 := by rw [List.length_drop]; omega
   rw [hdu, hu]
   match l.drop j, hsm with
   | [], _ => rfl
   | [_], _ => rfl
  have e1 : ((j + 1 + 1 : Nat) : Int) < (x.size : Int) := of_decide_eq_true e1;obtain ⟨p, hp, hp2⟩ := hat j (by omega);obtain ⟨q, hq, hq2⟩ := hat (j + 1) (by omega);rw [bW hp] at hu;simp only [Int.toNat_natCast, hp2, hq2]
  have hg1 : (0 : Int) ≤ ((j + 1 : Nat) : Int) ∧ ((j + 1 : Nat) : Int) < (x.size : Int) := ⟨by omega, by omega⟩
  have hg2 : (0 : Int) ≤ ((j + 1 + 1 : Nat) : Int) ∧ ((j + 1 + 1 : Nat) : Int) < (x.size : Int) := ⟨by omega, by omega⟩
  refine bg hg1 ?_;refine aC (fun e2 => ?_) fun e2 => ?_
  ·have e2 : p = 0 := by
    have : (p.toNat : Int) = 0 := eq_of_beq e2
    apply UInt8.toNat_inj.1; show p.toNat = 0; omega
   subst e2;rw [bW hq, mN] at hu;refine bg hg2 ?_;refine aC (fun e3 => ?_) fun e3 => ?_
   ·have e3 : q = 1 := by
     have : (q.toNat : Int) = 1 := eq_of_beq e3
     apply UInt8.toNat_inj.1; show q.toNat = 1; omega
    subst e3;rw [if_neg (by decide), if_pos rfl] at hu;refine mJ hG.row ?_;rw [← hR, hdu, hu]
    have hw : i64.wrap (((j + 1 : Nat) : Int) + 2) = ((j + 3 : Nat) : Int) := by rw [bQ (by omega) (by omega)]; omega
    rw [hw];refine ⟨?_, hG.md⟩
    show Value.tuple #[.agg #[_, _, .string (kB acc)], _] = Value.tuple #[.agg #[_, _, .string (kB (acc ++ []))], .int .i64 ((x.size - (l.drop (j + 1 + 1)).length : Nat) : Int)]
    rw [List.append_nil, List.length_drop, show x.size - (l.length - (j + 1 + 1)) = j + 3 by omega]
   ·have e3 : ¬ q = 1 := by rintro rfl; exact absurd e3 (by decide)
    refine bg hg1 ?_;refine hG.push [0] (k := 1) rfl rfl rfl (by omega) (by omega) fun a3 c3 s3 hG3 => ?_;refine bg hg1 ?_;refine (W.af _ _ _ _).2 ⟨fun _ => ?_, fun e => absurd e (by decide)⟩;refine bg hg2 ?_;refine aC (fun e4 => ?_) fun e4 => ?_
    ·have e4 : ¬ q = 255 := by rintro rfl; exact absurd e4 (by decide)
     rw [if_neg e4, if_neg e3] at hu;exact hno hG3.md (by rw [hdu, hu]; (first | done | rfl))
    ·have e4 : q = 255 := by
      have : (q.toNat : Int) = 255 := by simpa using e4
      apply UInt8.toNat_inj.1; show q.toNat = 255; omega
     rw [if_pos e4] at hu;rw [aj (k := j + 1 + 1) (by omega)];refine ⟨⟨j + 2, a3, n + 1, c3, acc ++ [0], rfl, by omega, by omega, hG3, ?_⟩, by (try simp only [Int.toNat_natCast]); omega⟩;rw [hu, Option.map_map]
     congr 1
     funext p
     simp
  ·have e2 : p ≠ 0 := by rintro rfl; exact absurd e2 (by decide)
   rw [pV e2] at hu;refine bg hg1 ?_;refine hG.push [p] (k := 1) rfl rfl rfl (by omega) (by omega) fun a3 c3 s3 hG3 => ?_;refine bg hg1 ?_;refine aC (fun e4 => ?_) fun e4 => ?_
   ·exfalso
    have : (p.toNat : Int) = 0 := eq_of_beq e4;exact e2 (UInt8.toNat_inj.1 (by show p.toNat = 0; omega))
   ·refine ⟨⟨j + 1, a3, n + 1, c3, acc ++ [p], rfl, by omega, by omega, hG3, ?_⟩, by (try simp only [Int.toNat_natCast]); omega⟩;rw [hu, Option.map_map]
    congr 1
    funext p
    simp
 ·intro J hJ;refine bg ⟨by omega, by omega⟩ ?_;refine aC (fun e2 => ?_) fun e2 => ?_
  ·have y2 : b = 2 := by rw [h2] at e2; exact of_decide_eq_true e2
   subst y2;refine aC (fun e3 => ?_) fun e3 => ?_
   ·have e3 : (x.size : Int) ≥ 9 := of_decide_eq_true e3;refine ⟨fun z s' => ∃ k : Nat, z = (bC gm, ((hY (l.take k) : Int), ()), (((k + 1 : Nat) : Int), ()), ()) ∧ k ≤ 8 ∧ s = s', fun z _ => 9 - z.2.2.1.1.toNat, ⟨0, rfl, Nat.zero_le _, rfl⟩, ?_⟩;rintro _ _ ⟨k, rfl, hk, rfl⟩;dsimp only;refine aC (fun e4 => ?_) fun e4 => ?_
    ·have e4 : ((k + 1 : Nat) : Int) < 9 := of_decide_eq_true e4;obtain ⟨p, hp, hp2⟩ := hat k (by omega);refine bg ⟨by omega, by omega⟩ ?_;have hsm := l5 l k
     have hpw : 256 ^ k ≤ 72057594037927936 := by
      have : 256 ^ k ≤ 256 ^ 7 := Nat.pow_le_pow_right (by omega) (by omega);simpa using this
     have hv : u64.wrap (u64.wrap ((hY (l.take k) : Int) * 256) + u64.wrap (((x[((k + 1 : Nat) : Int).toNat]?.getD (0 : UInt8)).toNat : Nat) : Int)) = (hY (l.take (k + 1)) : Int) := by
      rw [uf hp, Int.toNat_natCast, hp2]
      generalize hY (l.take k) = m at hsm ⊢
      have hbl := p.toNat_lt;rw [show (m : Int) * 256 = ((m * 256 : Nat) : Int) by omega, oI (n := m * 256) (by omega), oI (n := p.toNat) (by omega)];rw [show ((m * 256 : Nat) : Int) + ((p.toNat : Nat) : Int) = ((m * 256 + p.toNat : Nat) : Int) by omega, oI (by omega)]
     rw [hv, aj (k := k + 1) (by omega)];exact ⟨⟨k + 1, rfl, by omega, rfl⟩, by simp only [Int.toNat_natCast]; omega⟩
    ·have e4 : ¬ ((k + 1 : Nat) : Int) < 9 := of_decide_eq_false e4
     have hk8 : k = 8 := by omega
     subst hk8
     have hlt : hY (l.take 8) < 18446744073709551616 := by have := l5 l 8; simpa using this
     rw [← hR]
     have : gB (2 :: l) = some (⟨1, jh (hY (l.take 8)), ⟨#[]⟩⟩, l.drop 8) := by rw [gB, if_neg (by decide), if_pos rfl, if_neg (by omega)]
     rw [this];refine ⟨?_, Mod.refl _ _⟩
     have hv : i64.wrap (u64.wrap ((hY (l.take 8) : Int) - 9223372036854775808)) = jh (hY (l.take 8)) := by
      rw [rO, IntKind.wrap_i64]; unfold jh; omega
     show Value.tuple #[.agg #[_, .int .i64 _, _], _] = Value.tuple #[.agg #[_, .int .i64 _, _], .int .i64 ((x.size - (l.drop 8).length : Nat) : Int)]
     rw [hv, List.length_drop, show x.size - (l.length - 8) = 9 by omega]
     first | done | rfl
   ·have e3 : ¬ (x.size : Int) ≥ 9 := of_decide_eq_false e3;exact hJ _ _ ⟨rfl, rfl, fun _ => by omega⟩
  ·have n2 : ¬ b = 2 := by rw [h2] at e2; exact of_decide_eq_false e2
   exact hJ _ _ ⟨rfl, rfl, fun h => absurd h n2⟩
theorem Jv {rest r : List UInt8} {v : aH} (h : gB rest = some (v, r)) : (kB rest).extract (rest.length - r.length) (kB rest).size = kB r := by
 apply mY;rw [ox, dA, dA];obtain ⟨e, _⟩ := um h;rw [e, List.length_append, Nat.add_sub_cancel, List.drop_append_of_le_length (Nat.le_refl _), List.drop_length, List.nil_append]
theorem Ez {s : PH} (x : BA) (hx : x.size ≤ 1000000000) : ah 138 #[.string x] s (CP (de x) s) := by
 refine DC x _ s ?_;unfold vw
 obtain ⟨R, hR⟩ : ∃ R, CP (de x) s = R := ⟨_, rfl⟩
 rw [hR];simp only [aR, aF, aQ, aP, bY, cX, aY, bM]
 have hbad : ∀ {s' : PH}, Fw.Mod [] s s' → de x = none → R (.tuple #[.slice none 0 0, .int .i64 20]) s' := fun hm e => by
  rw [← hR, e]; exact ⟨rfl, hm⟩
 refine ⟨fun z s' => ∃ (a : OA) (n c f : Nat) (acc : List aH) (rest : List UInt8), z = ((kB rest, ()), ((a, n, c), ()), ()) ∧ Gw ew 28 s s' a n c acc ∧ rest.length < f ∧ rest.length ≤ x.size ∧ acc.length ≤ 8 ∧ lq f rest acc = de x,
  fun z s' => z.1.1.size, ⟨none, 0, 0, x.size + 1, [], kL x, by rw [jy], Gw.nil (Mod.refl _ _), by rw [dj]; omega, by rw [dj]; omega, by simp, rfl⟩, ?_⟩
 rintro _ s4 ⟨a, n, c, f, acc, rest, rfl, hG, hf, hrl, h8, hd⟩;have hlen := hG.row.len;dsimp only
 obtain ⟨g, rfl⟩ : ∃ g, f = g + 1 := ⟨f - 1, by omega⟩
 rw [lq] at hd;refine aC (fun e1 => ?_) fun e1 => ?_;rotate_left
 ·have e1 : ¬ (((kB rest).size : Nat) : Int) > 0 := of_decide_eq_false e1;rw [bR] at e1;have : rest = [] := List.eq_nil_of_length_eq_zero (by omega);rw [if_pos this] at hd;rw [← hR, ← hd];exact ⟨a, n, c, rfl, hG⟩
 have e1 : (((kB rest).size : Nat) : Int) > 0 := of_decide_eq_true e1;rw [if_neg (by rintro rfl; exact absurd e1 (by decide))] at hd;rw [bR] at e1;refine W.aq (GS (kB rest) (by rw [bR]; omega) (by rw [bR]; omega)) ?_;rw [dA];intro y s5 hq
 cases hw : gB rest with
 | none =>
  rw [hw] at hq hd;obtain ⟨⟨v0, rfl⟩, mq⟩ := hq;refine ⟨(bC v0, (0, ()), ()), rfl, ?_⟩;dsimp only;exact (W.af _ _ _ _).2 ⟨fun _ => hbad (hG.md.trans mq) (by rw [← hd]; split <;> rfl), fun e => (by cases e)⟩
 | some q =>
  obtain ⟨v0, l2⟩ := q;rw [hw] at hq hd;obtain ⟨rfl, mq⟩ := hq;have hl2 := qE hw;refine ⟨(bC v0, ((((kB rest).size - l2.length : Nat) : Int), ()), ()), rfl, ?_⟩;dsimp only at hd ⊢;rw [bR];have hG6 := hG.same mq;refine aC (fun e => ?_) fun _ => ?_
  ·have e : ((rest.length - l2.length : Nat) : Int) = 0 := eq_of_beq e;omega
  refine aN ((bA v0, ()), ()) (qA v0 s5) rfl ?_;dsimp only;refine aC (fun e => ?_) fun e => ?_
  ·have hno : bA v0 = false := by simpa using e
   rw [hno] at hd;exact hbad hG6.md (by rw [← hd]; split <;> rfl)
  ·have hyes : bA v0 = true := by simpa using e
   rw [if_pos hyes] at hd;refine aC (fun e3 => ?_) fun e3 => ?_
   ·have e3 : (n : Int) = 8 := eq_of_beq e3;rw [if_pos (by omega)] at hd;exact hbad hG6.md hd.symm
   ·have e3 : ¬ (n : Int) = 8 := by simpa using e3
    rw [if_neg (by omega)] at hd;refine hG6.push [v0] (k := 1) rfl rfl rfl (by omega) (by omega) fun a3 c3 s7 h7 => ?_;refine bg ⟨by omega, by omega, by omega⟩ ?_;rw [Int.toNat_natCast, Int.toNat_natCast];have hfrom := Jv hw;rw [bR] at hfrom;rw [hfrom];exact ⟨⟨a3, n + 1, c3, g, acc ++ [v0], l2, rfl, h7, by omega, by omega, by simp; omega, hd⟩, by rw [bR]; omega⟩
end
section
attribute [-simp] Fw.W.bD Fw.W.bB
theorem C0 {s : PH} {a : OA} {n c : Nat} {l : List aL} (h : Sl bu s (a, n, c) l) (id : Int) : ah 80 #[.slice a n c, .int .i64 id] s fun y s' => y = dV (au l id) ∧ s' = s := by
 refine K6 a n c id _ s ?_;unfold Gk
 obtain ⟨R, hR⟩ : ∃ R : Value → PH → Prop, (fun y s' => y = dV (au l id) ∧ s' = s) = R := ⟨_, rfl⟩
 rw [hR];have hlen : n = l.length := h.len;have hfew := h.dF;simp only [aQ, aR, aF, aP, aT, bL];refine ⟨fun z s' => ∃ k : Nat, z = (bC gm, ((k : Int), ()), ()) ∧ k ≤ n ∧ s = s' ∧ au (l.drop k) id = au l id, fun z _ => n - z.2.1.1.toNat, ⟨0, rfl, Nat.zero_le _, rfl, rfl⟩, ?_⟩;rintro _ _ ⟨k, rfl, hk, rfl, ho⟩;dsimp only;refine aC (fun e => ?_) fun e => ?_
 ·have hlt : (k : Int) < (n : Int) := of_decide_eq_true e
  obtain ⟨x, hx⟩ : ∃ x, l[k]? = some x := ⟨_, List.getElem?_eq_getElem (by omega)⟩
  obtain ⟨ad, had, hh⟩ := h.el.aG hx;dsimp only at had;subst had;refine bg ⟨by omega, hlt⟩ ?_;simp only [cR, Int.toNat_natCast];have hh : s.has (ad.add (k * 4)) (bu.f x) := hh;refine bl (j := 0) hh (y := (x.id, ())) rfl ?_;rw [bW hx] at ho;unfold au at ho;rw [List.find?_cons] at ho;refine aC (fun e2 => ?_) fun e2 => ?_
  ·have e2 : (x.id == id) = true := e2;rw [e2] at ho;refine bg ⟨by omega, hlt⟩ ?_;refine bl (j := 1) hh (y := bC x.v) rfl ?_;rw [← hR];refine ⟨?_, rfl⟩;unfold au;rw [← ho]; (first | done | rfl)
  ·have e2 : (x.id == id) = false := e2;rw [e2] at ho;rw [aj (k := k) (by omega)];exact ⟨⟨k + 1, rfl, by omega, rfl, ho⟩, by simp only [Int.toNat_natCast]; omega⟩
 ·have e : ¬ (k : Int) < (n : Int) := of_decide_eq_false e;rw [List.drop_of_length_le (by omega)] at ho;rw [← hR];exact ⟨by rw [← ho]; (first | done | rfl), rfl⟩
theorem Jz {l : List aL} (h : l ≠ []) : ∃ y, l[l.length - 1]? = some y ∧ iO l = y.id := by
 rcases List.eq_nil_or_concat l with rfl | ⟨m, c, rfl⟩
 ·exact absurd rfl h
 ·refine ⟨c, by simp, ?_⟩;unfold iO; simp
theorem KA {s : PH} (x : BA) (hx : x.size ≤ 4000000) : ah 79 #[.string x] s (CR (eM x) s) := by
 refine JI x _ s ?_;unfold Cz
 obtain ⟨R, hR⟩ : ∃ R, CR (eM x) s = R := ⟨_, rfl⟩
 rw [hR];simp only [aQ, aR, aF, aP, aT, bL, bM, aY, bY, cX, cE]
 have hbad : ∀ {s' : PH}, Fw.Mod [] s s' → eM x = none → R (.tuple #[.slice none 0 0, .int .i64 100]) s' := fun hm e => by
  rw [← hR, e]; exact ⟨rfl, hm⟩
 refine ⟨fun z s' => ∃ (a : OA) (n c f i : Nat) (acc : List aL) (rest : List UInt8), z = (((a, n, c), ()), ((i : Int), ()), ()) ∧ Gw bu 94 s s' a n c acc ∧ rest.length < f ∧ n ≤ i ∧ i + rest.length = x.size ∧ (kL x).drop i = rest ∧ dr 0 acc = true ∧ gT f rest (iO acc) acc = eM x,
  fun z _ => x.size - z.2.1.1.toNat, ⟨none, 0, 0, x.size + 1, 0, [], kL x, rfl, Gw.nil (Mod.refl _ _), by rw [dj]; omega, by omega, by rw [dj]; omega, rfl, rfl, rfl⟩, ?_⟩
 rintro _ s1 ⟨a, n, c, f, i, acc, rest, rfl, hG, hf, hni, hn, hdr, hpa, hg⟩;have hlen := hG.row.len;dsimp only
 obtain ⟨g, rfl⟩ : ∃ g, f = g + 1 := ⟨f - 1, by omega⟩
 refine aC (fun e1 => ?_) fun e1 => ?_;rotate_left
 ·have e1 : ¬ (i : Int) < (x.size : Int) := of_decide_eq_false e1;have : rest = [] := List.eq_nil_of_length_eq_zero (by omega);subst this;rw [gT] at hg;rw [← hR, ← hg];exact ⟨a, n, c, rfl, hG⟩
 have e1 : (i : Int) < (x.size : Int) := of_decide_eq_true e1;obtain ⟨b, hb, hb2⟩ := iD (s := x) (i := i) (by omega);have hcons := bW hb;rw [hdr] at hcons
 obtain ⟨r, hr⟩ : ∃ r, (kL x).drop (i + 1) = r := ⟨_, rfl⟩
 rw [hr] at hcons;subst hcons;simp only [List.length_cons] at hf hn;rw [gT] at hg;refine bg ⟨by omega, e1⟩ ?_;rw [Int.toNat_natCast, hb2];have hbl := b.toNat_lt;have hw1 : i64.wrap ((b.toNat : Nat) : Int) = (b.toNat : Int) := bQ (by omega) (by omega)
 have hw2 : i64.wrap (i64.wrap ((i : Int) + 1) + ((b.toNat : Nat) : Int)) = ((i + 1 + b.toNat : Nat) : Int) := by rw [aj (k := i) (by omega), bQ (by omega) (by omega)]; omega
 rw [hw1, hw2];refine aC (fun e2 => ?_) fun e2 => ?_
 ·have e2 : ((i + 1 + b.toNat : Nat) : Int) > (x.size : Int) := of_decide_eq_true e2;rw [if_pos (by omega)] at hg;exact hbad hG.md hg.symm
 have e2 : ¬ ((i + 1 + b.toNat : Nat) : Int) > (x.size : Int) := of_decide_eq_false e2;rw [if_neg (by omega)] at hg;rw [aj (k := i) (by omega), Int.toNat_natCast, Int.toNat_natCast]
 have hcut : x.extract (i + 1) (i + 1 + b.toNat) = kB (r.take b.toNat) := by
  apply mY;rw [pI, dA, List.extract_eq_take_drop, hr, show i + 1 + b.toNat - (i + 1) = b.toNat by omega]
 rw [hcut];refine bg ⟨by omega, by omega, by omega⟩ ?_;refine W.aq (Ez (kB (r.take b.toNat)) (by rw [bR, List.length_take]; omega)) ?_;intro y s2 hq
 cases hk : de (kB (r.take b.toNat)) with
 | none =>
  rw [hk] at hq hg;obtain ⟨rfl, m2⟩ := hq;refine ⟨(((none, 0, 0), ()), (20, ()), ()), rfl, ?_⟩;dsimp only;refine W.bp (fun _ _ => False) (fun _ _ h => h.elim) fun J hJ => ?_;exact (W.af _ _ _ _).2 ⟨fun _ => hbad (hG.md.trans m2) hg.symm, fun e => (by cases e)⟩
 | some l =>
  rw [hk] at hq hg;obtain ⟨a2, n2, c2, rfl, hV⟩ := hq;have hl2 := hV.row.len;refine ⟨(((a2, n2, c2), ()), (0, ()), ()), rfl, ?_⟩;dsimp only;have hG2 := hG.same hV.md;refine W.bp (fun z s' => ∃ p q, z = (((a, n, c), ()), ((i : Int), ()), ((b.toNat : Int), ()), ((a2, 2, c2), ()), ()) ∧ l = [p, q] ∧ s2 = s' ∧ p.kind = 1 ∧ 1 ≤ p.n ∧ iO acc < p.n) ?_ ?_
  ·rintro _ s2 ⟨p, q, rfl, rfl, rfl, hp1, hp2, hp3⟩;have hn2 : n2 = 2 := hl2;subst hn2;simp only at hg;rw [if_pos ⟨hp1, hp2, hp3⟩] at hg;dsimp only;refine bg ⟨by omega, by omega⟩ ?_;obtain ⟨gb, rfl, hh0⟩ := hV.row.at (i := 0) (x := p) rfl;obtain ⟨_, h1, hh1⟩ := hV.row.at (i := 1) (x := q) rfl;cases h1;simp only [cR, aV, Nat.zero_add];have hh0 : s2.has ⟨gb, 0, none⟩ (ew.f p) := hh0;have hh1 : s2.has ⟨gb, 3, none⟩ (ew.f q) := hh1;refine bl (j := 1) hh0 (y := (p.n, ())) rfl ?_;refine bg ⟨by omega, by omega⟩ ?_;refine aE hh1 (y := bC q) rfl ?_;refine hG2.push [⟨p.n, q⟩] (k := 1) rfl rfl rfl (by omega) (by omega) fun a3 c3 s3 h3 => ?_
   have hw3 : i64.wrap ((i : Int) + i64.wrap (1 + ((b.toNat : Nat) : Int))) = ((i + (1 + b.toNat) : Nat) : Int) := by
    rw [bQ (n := 1 + ((b.toNat : Nat) : Int)) (by omega) (by omega), bQ (by omega) (by omega)]; omega
   rw [hw3];obtain ⟨_, hvv, _⟩ := gU hk;have hq2 := hvv q (by simp);refine ⟨⟨a3, n + 1, c3, g, i + (1 + b.toNat), acc ++ [⟨p.n, q⟩], r.drop b.toNat, rfl, h3, by rw [List.length_drop]; omega, by omega, by rw [List.length_drop]; omega, ?_, ?_, ?_⟩, by simp only [Int.toNat_natCast]; omega⟩
   ·rw [← hr, List.drop_drop]
    congr 1; omega
   ·rw [pO, hpa];simp only [Bool.true_and, Bool.and_eq_true, decide_eq_true_eq];exact ⟨hq2.1, hp3⟩
   ·have : iO (acc ++ [⟨p.n, q⟩]) = p.n := by unfold iO; simp
    rw [this]; exact hg
  ·intro J hJ;refine (W.af _ _ _ _).2 ⟨fun e => (by cases e), fun _ => aC (fun e => ?_) fun e => ?_⟩
   ·have e : ¬ (n2 : Int) = 2 := by simpa using e
    refine hbad hG2.md ?_;rw [← hg]
    match l, hl2 with
    | [], _ => rfl
    | [_], _ => rfl
    | [_, _], h => exact absurd (by simp at h; omega) e
    | _ :: _ :: _ :: _, _ => rfl
   ·have e : (n2 : Int) = 2 := by simpa using e
    have hn2 : n2 = 2 := by omega
    subst hn2
    match l, hl2, hV, hg with
    | [p, q], _, hV, hg =>
     simp only at hg;obtain ⟨gb, rfl, hh0⟩ := hV.row.at (i := 0) (x := p) rfl
     have hh0 : s2.has ⟨gb, 0, none⟩ (ew.f p) := by simpa using hh0
     simp only [cR, aV, Nat.zero_add]
     have hg0 : (0 : Int) ≤ 0 ∧ (0 : Int) < ((2 : Nat) : Int) := by omega
     refine bg hg0 ?_;refine bl (j := 0) hh0 (y := (p.kind, ())) rfl ?_;refine aC (fun e3 => ?_) fun e3 => ?_
     ·have e3 : ¬ p.kind = 1 := by simpa using e3
      exact hbad hG2.md (by rw [← hg, if_neg]; intro hh; exact e3 hh.1)
     have e3 : p.kind = 1 := by simpa using e3
     refine bg hg0 ?_;refine bl (j := 1) hh0 (y := (p.n, ())) rfl ?_;refine aC (fun e4 => ?_) fun e4 => ?_
     ·have e4 : p.n < 1 := of_decide_eq_true e4;exact hbad hG2.md (by rw [← hg, if_neg]; intro hh; have := hh.2.1; omega)
     have e4 : ¬ p.n < 1 := of_decide_eq_false e4;refine aC (fun e5 => ?_) fun e5 => ?_
     ·have e5 : (n : Int) > 0 := of_decide_eq_true e5;refine bg hg0 ?_;refine bl (j := 1) hh0 (y := (p.n, ())) rfl ?_
      have hw : i64.wrap ((n : Int) - 1) = ((n - 1 : Nat) : Int) := by rw [bQ (by omega) (by omega)]; omega
      rw [hw];refine bg ⟨by omega, by omega⟩ ?_;obtain ⟨y, hy, hyl⟩ := Jz (l := acc) (by rintro rfl; simp at hlen; omega);obtain ⟨ga, rfl, hhy⟩ := hG2.row.at hy;simp only [cR, aV, Nat.zero_add, Int.toNat_natCast]
      have hhy : s2.has ⟨ga, (n - 1) * 4, none⟩ (bu.f y) := by rw [hlen]; exact hhy
      refine aE hhy (cs := [.int .i64]) (y := (y.id, ())) rfl ?_;refine aC (fun e6 => ?_) fun e6 => ?_
      ·have e6 : p.n ≤ y.id := of_decide_eq_true e6;exact hbad hG2.md (by rw [← hg, if_neg]; intro hh; have := hh.2.2; omega)
      ·have e6 : ¬ p.n ≤ y.id := of_decide_eq_false e6;exact hJ _ _ ⟨p, q, rfl, rfl, rfl, e3, by omega, by omega⟩
     ·have e5 : ¬ (n : Int) > 0 := of_decide_eq_false e5;have : acc = [] := List.eq_nil_of_length_eq_zero (by omega);exact hJ _ _ ⟨p, q, rfl, rfl, rfl, e3, by omega, by rw [this]; show (0 : Int) < p.n; omega⟩
structure Ht where
 key : BA
 ts : Int
 val : BA
 deriving DecidableEq
def bh : cO Ht where
 sz := 3
 f h := [.string h.key, .int .i64 h.ts, .string h.val]
 len _ := rfl
 one p v hv := by simp at hv; rcases hv with rfl | rfl | rfl <;> rfl
 pos := by omega
abbrev pG (h : Ht) : Den [.str, .int .i64, .str] := (h.key, h.ts, h.val, ())
def jo (x : BA) (p : BA × BA) : Bool := decide (cZ p.1 x ≤ 0) && decide (cZ x p.2 < 0)
def aI (l : List Ht) (p : BA × BA) : List Ht := l.filter fun h => jo h.key p
theorem Lt (x : BA) (p : BA × BA) (hx : x.size ≤ 281474976710656) (hp : p.1.size ≤ 281474976710656) (s : PH) : ah 65 #[.string x, nt p] s fun y s' => y = .bool (jo x p) ∧ s' = s := by
 refine K5 x p.1 p.2 _ s ?_;unfold Gj jo;simp only [aY, aR, aF];refine aN ((cZ p.1 x, ()), ()) (nC _ _ (by omega) s) rfl ?_;refine aC (fun e => ?_) fun e => ?_
 ·rw [show decide (cZ p.1 x ≤ 0) = true from e];exact aN ((cZ x p.2, ()), ()) (nC _ _ (by omega) s) rfl ⟨by rw [Bool.true_and], rfl⟩
 ·rw [show decide (cZ p.1 x ≤ 0) = false from e];exact ⟨rfl, rfl⟩
def oa (l : List Ht) : Prop := ∀ h ∈ l, h.key.size ≤ 140737488351232
theorem w7 {s : PH} {a : OA} {n c : Nat} {l : List Ht} (h : Sl bh s (a, n, c) l) (p : BA × BA) (hp : p.1.size ≤ 281474976710656) (hl : oa l) (hn : n ≤ 4000000) :
  ah 77 #[.slice a n c, nt p] s fun y s' => ∃ a' n' c', y = .slice a' n' c' ∧ Gw bh 75 s s' a' n' c' (aI l p) := by
 refine DF a n c p.1 p.2 _ s ?_;unfold vB;have hlen : n = l.length := h.len;simp only [aQ, aR, aF, aP, aT, bL, bM, bY, cX];refine ⟨fun z s' => ∃ (k : Nat) (b : OA) (m d : Nat), z = ((p.1, p.2, ()), ((b, m, d), ()), ((k : Int), ()), ()) ∧ k ≤ n ∧ m ≤ k ∧ Gw bh 75 s s' b m d (aI (l.take k) p), fun z _ => n - z.2.2.1.1.toNat, ⟨0, none, 0, 0, rfl, Nat.zero_le _, Nat.le_refl _, Gw.nil (Mod.refl _ _)⟩, ?_⟩;rintro _ s1 ⟨k, b, m, d, rfl, hk, hm, hG⟩;dsimp only;refine aC (fun e => ?_) fun e => ?_
 ·have hlt : (k : Int) < (n : Int) := of_decide_eq_true e
  obtain ⟨x, hx⟩ : ∃ x, l[k]? = some x := ⟨_, List.getElem?_eq_getElem (by omega)⟩
  have htk : aI (l.take (k + 1)) p = aI (l.take k) p ++ (if jo x.key p = true then [x] else []) := by
   unfold aI;rw [List.take_add_one, hx, List.filter_append]
   congr 1
   simp only [Option.toList_some, List.filter_cons, List.filter_nil]
  obtain ⟨ad, had, hh⟩ := (h.el.mono hG.md.le).aG hx;dsimp only at had;subst had
  have hg : (0 : Int) ≤ (k : Int) ∧ (k : Int) < (n : Int) := ⟨by omega, hlt⟩
  refine bg hg ?_;simp only [cR, Int.toNat_natCast];have hh : s1.has (ad.add (k * 3)) (bh.f x) := hh;refine bl (j := 0) hh (y := (x.key, ())) rfl ?_;dsimp only;refine W.bF ((jo x.key p, ()), ()) (Lt x.key p (by have := hl x (List.mem_of_getElem? hx); omega) hp s1) rfl ?_;rw [aj (k := k) (by omega)];refine aC (fun e2 => ?_) fun e2 => ?_
  ·have e2 : jo x.key p = true := e2;refine bg hg ?_;refine aE hh (y := pG x) rfl ?_;refine hG.push [x] (k := 1) rfl rfl rfl (by omega) (by omega) fun a3 c3 s3 h3 => ?_;refine ⟨⟨k + 1, a3, m + 1, c3, rfl, by omega, by omega, ?_⟩, by simp only [Int.toNat_natCast]; omega⟩;rw [htk, if_pos e2]; exact h3
  ·have e2 : jo x.key p = false := e2;refine ⟨⟨k + 1, b, m, d, rfl, by omega, by omega, ?_⟩, by simp only [Int.toNat_natCast]; omega⟩;rw [htk, e2]; simpa using hG
 ·have e : ¬ (k : Int) < (n : Int) := of_decide_eq_false e;rw [List.take_of_length_le (by omega)] at hG;exact ⟨b, m, d, rfl, hG⟩
theorem Jf {s : PH} {a : OA} {n c : Nat} {l : List Ht} (h : Sl bh s (a, n, c) l) (p : BA × BA) (hp : p.1.size ≤ 281474976710656) (hl : oa l) (hn : n ≤ 4000000) :
  ah 314 #[.slice a n c, nt p] s fun y s' => ∃ a' n' c', y = .slice a' n' c' ∧ Gw bh 75 s s' a' n' c' (aI l p) := by
 refine HH a n c p.1 p.2 _ s ?_;unfold Ba;simp only [aY, aF];refine W.aq (w7 h p hp hl hn) ?_;rintro _ s1 ⟨a1, n1, c1, rfl, hG⟩;exact ⟨((((a1, n1, c1), ()), ())), rfl, a1, n1, c1, rfl, hG⟩
end
section
def bK (a b : BA) : Bool := decide (kL a < kL b)
theorem eA (a : BA) : bK a a = false := by unfold bK; simp
theorem q7 {a b c : BA} (h : bK a b = true) (k : bK b c = true) : bK a c = true := by
 unfold bK at *;simp only [decide_eq_true_eq] at *;exact List.lt_trans h k
theorem sd {a b : BA} (h : bK a b = false) (k : bK b a = false) : a = b := by
 unfold bK at *;simp only [decide_eq_false_iff_not] at *;exact mY (List.le_antisymm k h)
theorem Fc {a b : BA} (h : bK a b = true) : bK b a = false := by
 cases k : bK b a with
 | false => rfl
 | true => have := q7 h k; rw [eA] at this; cases this
theorem rF : ∀ (x y : List UInt8), (fO x y < 0 ↔ x < y) ∧ (fO x y = 0 ↔ x = y) ∧ (0 < fO x y ↔ y < x)
 | [], [] => by simp [fO]
 | [], b :: y => by simp [fO]
 | a :: x, [] => by simp [fO]
 | a :: x, b :: y => by
  obtain ⟨h1, h2, h3⟩ := rF x y;simp only [fO, List.cons_lt_cons_iff, List.cons.injEq];have e : ∀ u v : UInt8, u < v ↔ u.toNat < v.toNat := fun u v => UInt8.lt_iff_toNat_lt;have q : ∀ u v : UInt8, u = v ↔ u.toNat = v.toNat := fun u v => UInt8.toNat_inj.symm;rw [e, e, q, q]
  by_cases g1 : a.toNat < b.toNat
  ·rw [if_pos g1]; omega
  ·by_cases g2 : b.toNat < a.toNat
   ·rw [if_neg g1, if_pos g2]; omega
   ·rw [if_neg g1, if_neg g2]
    have g3 : a.toNat = b.toNat := by omega
    simp only [g3, Nat.lt_irrefl, false_or, true_and, h1, h2, h3]
theorem pT (a b : BA) : cZ a b < 0 ↔ bK a b = true := by
 unfold cZ bK; rw [decide_eq_true_eq]; exact (rF _ _).1
theorem Ip (a b : BA) : 0 < cZ a b ↔ bK b a = true := by
 unfold cZ bK; rw [decide_eq_true_eq]; exact (rF _ _).2.2
theorem qU (x : BA) (p : BA × BA) : jo x p = (!bK x p.1 && bK x p.2) := by
 unfold jo
 have h1 : decide (cZ p.1 x ≤ 0) = !bK x p.1 := by
  have := Ip p.1 x
  by_cases h : bK x p.1 = true
  ·rw [h]; simp; exact this.2 h
  ·have h' : bK x p.1 = false := by simpa using h
   rw [h']; simp;have : ¬ 0 < cZ p.1 x := fun g => h (this.1 g);omega
 have h2 : decide (cZ x p.2 < 0) = bK x p.2 := by
  have := pT x p.2
  cases h : bK x p.2 with
  | true => simp; exact this.2 h
  | false =>
   have h3 : ¬ cZ x p.2 < 0 := fun g => by have := this.1 g; rw [h] at this; cases this
   simp; omega
 rw [h1, h2]
theorem uB (a b : BA) : Op.bytesLess a.toList b.toList = bK a b := by
 rw [bytesLess_eq, ByteArray.toList_eq, ByteArray.toList_eq]; (first | done | rfl)
structure Wr where
 key : BA
 val : BA
 dead : Bool
 deriving DecidableEq
def gW (ts : Int) (x : Wr) : List Ht := if x.dead = true then [] else [⟨x.key, ts, x.val⟩]
def eV (ts : Int) (l : List Ht) (x : Wr) : List Ht := l.takeWhile (fun h => bK h.key x.key) ++ gW ts x ++ (l.dropWhile fun h => bK h.key x.key).filter fun h => decide (h.key ≠ x.key)
def ai (ts : Int) (l : List Ht) (ws : List Wr) : List Ht := ws.foldl (eV ts) l
def cL (l : List Wr) (x : Wr) : List Wr := l.takeWhile (fun y => bK y.key x.key) ++ [x] ++ (l.dropWhile fun y => bK y.key x.key).filter fun y => decide (y.key ≠ x.key)
def cz (l : List Ht) : Prop := l.Pairwise fun a b => bK a.key b.key = true
def jK (l : List Wr) : Prop := l.Pairwise fun a b => bK a.key b.key = true
section
variable {α : Type} (key : α → BA)
def vS (l : List α) : Prop := l.Pairwise fun a b => bK (key a) (key b) = true
theorem F8 {l : List α} (k : BA) (h : vS key l) : (∀ a ∈ l.takeWhile (fun a => bK (key a) k), bK (key a) k = true) ∧ (∀ a ∈ l.dropWhile (fun a => bK (key a) k), bK (key a) k = false) := by
 induction l with
 | nil => simp
 | cons b l ih =>
  have h2 := List.pairwise_cons.1 h;obtain ⟨i1, i2⟩ := ih h2.2
  by_cases hb : bK (key b) k = true
  ·rw [List.takeWhile_cons_of_pos (p := fun a => bK (key a) k) hb, List.dropWhile_cons_of_pos (p := fun a => bK (key a) k) hb];exact ⟨fun a ha => by rcases List.mem_cons.1 ha with rfl | ha; exact hb; exact i1 a ha, i2⟩
  ·rw [List.takeWhile_cons_of_neg (p := fun a => bK (key a) k) hb, List.dropWhile_cons_of_neg (p := fun a => bK (key a) k) hb];refine ⟨by simp, fun a ha => ?_⟩
   have hb' : bK (key b) k = false := by simpa using hb
   rcases List.mem_cons.1 ha with rfl | ha
   ·exact hb'
   ·cases hc : bK (key a) k with
    | false => rfl
    | true => rw [q7 (h2.1 a ha) hc] at hb'; cases hb'
theorem Cs {l m : List α} {k : BA} (h : vS key l) (hm : ∀ a ∈ m, key a = k) (h1 : m.length ≤ 1) :
  vS key (l.takeWhile (fun a => bK (key a) k) ++ m ++ (l.dropWhile fun a => bK (key a) k).filter fun a => decide (key a ≠ k)) ∧
  ∀ a, a ∈ l.takeWhile (fun a => bK (key a) k) ++ m ++ (l.dropWhile fun a => bK (key a) k).filter (fun a => decide (key a ≠ k)) ↔ a ∈ m ∨ (a ∈ l ∧ key a ≠ k) := by
 obtain ⟨i1, i2⟩ := F8 key k h
 have hs : vS key (l.takeWhile (fun a => bK (key a) k) ++ l.dropWhile (fun a => bK (key a) k)) := by rw [List.takeWhile_append_dropWhile]; exact h
 obtain ⟨p1, p2, p3⟩ := List.pairwise_append.1 hs
 have hgt : ∀ a ∈ (l.dropWhile fun a => bK (key a) k).filter (fun a => decide (key a ≠ k)), bK k (key a) = true := by
  intro a ha;simp only [List.mem_filter, decide_eq_true_eq] at ha
  cases hc : bK k (key a) with
  | true => rfl
  | false => exact absurd (sd (i2 a ha.1) hc) ha.2
 refine ⟨?_, fun a => ?_⟩
 ·refine List.pairwise_append.2 ⟨List.pairwise_append.2 ⟨p1, ?_, ?_⟩, p2.filter _, ?_⟩
  ·match m, h1 with
   | [], _ => exact .nil
   | [x], _ => exact List.pairwise_singleton _ _
  ·intro a ha b hb; rw [hm b hb]; exact i1 a ha
  ·intro a ha b hb;rcases List.mem_append.1 ha with ha | ha
   ·exact p3 a ha b (List.mem_filter.1 hb).1
   ·rw [hm a ha]; exact hgt b hb
 ·have hl : a ∈ l ↔ a ∈ l.takeWhile (fun a => bK (key a) k) ∨ a ∈ l.dropWhile (fun a => bK (key a) k) := by
   rw [← List.mem_append, List.takeWhile_append_dropWhile]
  simp only [List.mem_append, List.mem_filter, decide_eq_true_eq, hl]
  constructor
  ·rintro ((h | h) | ⟨h, g⟩)
   ·refine .inr ⟨.inl h, fun e => ?_⟩;have := i1 a h;rw [e, eA] at this; cases this
   ·exact .inl h
   ·exact .inr ⟨.inr h, g⟩
  ·rintro (h | ⟨h | h, g⟩)
   ·exact .inl (.inr h)
   ·exact .inl (.inl h)
   ·exact .inr ⟨h, g⟩
theorem sq : ∀ {l m : List α}, vS key l → vS key m → (∀ a, a ∈ l ↔ a ∈ m) → l = m
 | [], [], _, _, _ => rfl
 | [], b :: m, _, _, h => by have := (h b).2 (by simp); simp at this
 | a :: l, [], _, _, h => by have := (h a).1 (by simp); simp at this
 | a :: l, b :: m, h1, h2, h => by
  have c1 := List.pairwise_cons.1 h1;have c2 := List.pairwise_cons.1 h2
  have e : a = b := by
   rcases List.mem_cons.1 ((h a).1 (by simp)) with e | e
   ·exact e
   ·rcases List.mem_cons.1 ((h b).2 (by simp)) with e2 | e2
    ·exact e2.symm
    ·have g1 := c2.1 a e;have g2 := c1.1 b e2;rw [Fc g1] at g2; cases g2
  subst e
  congr 1
  refine sq c1.2 c2.2 fun x => ⟨fun hx => ?_, fun hx => ?_⟩
  ·rcases List.mem_cons.1 ((h x).1 (by simp [hx])) with rfl | g
   ·have := c1.1 x hx; rw [eA] at this; cases this
   ·exact g
  ·rcases List.mem_cons.1 ((h x).2 (by simp [hx])) with rfl | g
   ·have := c2.1 x hx; rw [eA] at this; cases this
   ·exact g
end
theorem iu {ts : Int} {l : List Ht} (h : cz l) (x : Wr) : cz (eV ts l x) ∧ ∀ a, a ∈ eV ts l x ↔ (x.dead = false ∧ a = ⟨x.key, ts, x.val⟩) ∨ (a ∈ l ∧ a.key ≠ x.key) := by
 obtain ⟨h1, h2⟩ := Cs (fun a : Ht => a.key) (m := gW ts x) (k := x.key) h (by intro a ha; unfold gW at ha; split at ha <;> simp at ha; rw [ha]) (by unfold gW; split <;> simp);refine ⟨h1, fun a => (h2 a).trans ?_⟩;unfold gW
 cases x.dead <;> simp
theorem fq {ts : Int} : ∀ (ws : List Wr) {l : List Ht}, cz l → cz (ai ts l ws)
 | [], l, h => h
 | x :: ws, l, h => fq ws (iu h x).1
theorem nO {l : List Wr} (h : jK l) (x : Wr) : jK (cL l x) ∧ ∀ a, a ∈ cL l x ↔ a = x ∨ (a ∈ l ∧ a.key ≠ x.key) := by
 obtain ⟨h1, h2⟩ := Cs (fun a : Wr => a.key) (m := [x]) (k := x.key) h (by simp) (by simp);exact ⟨h1, fun a => (h2 a).trans (by simp)⟩
theorem Io {l : List Wr} (h : jK l) {a b : Wr} (ha : a ∈ l) (hb : b ∈ l) (e : a.key = b.key) : a = b := by
 obtain ⟨i, hi, rfl⟩ := List.getElem_of_mem ha;obtain ⟨j, hj, rfl⟩ := List.getElem_of_mem hb;rcases Nat.lt_trichotomy i j with g | g | g
 ·have := List.pairwise_iff_getElem.1 h i j hi hj g;rw [e, eA] at this; cases this
 ·subst g; (first | done | rfl)
 ·have := List.pairwise_iff_getElem.1 h j i hj hi g;rw [e, eA] at this; cases this
theorem jB {ts : Int} : ∀ (ws : List Wr) {l : List Ht}, cz l → jK ws → ∀ a, a ∈ ai ts l ws ↔ (∃ x ∈ ws, x.dead = false ∧ a = ⟨x.key, ts, x.val⟩) ∨ (a ∈ l ∧ ∀ x ∈ ws, x.key ≠ a.key)
 | [], l, h, hw, a => by simp [ai]
 | x :: ws, l, h, hw, a => by
  have hc := List.pairwise_cons.1 hw;obtain ⟨g1, g2⟩ := iu (ts := ts) h x
  show a ∈ ai ts (eV ts l x) ws ↔ _
  rw [jB ws g1 hc.2 a, g2]
  constructor
  ·rintro (⟨y, hy, e⟩ | ⟨⟨hd, rfl⟩ | ⟨hl, hk⟩, hn⟩)
   ·exact .inl ⟨y, by simp [hy], e⟩
   ·exact .inl ⟨x, by simp, hd, rfl⟩
   ·refine .inr ⟨hl, fun y hy => ?_⟩;rcases List.mem_cons.1 hy with rfl | hy
    ·exact Ne.symm hk
    ·exact hn y hy
  ·rintro (⟨y, hy, hd, rfl⟩ | ⟨hl, hn⟩)
   ·rcases List.mem_cons.1 hy with rfl | hy
    ·refine .inr ⟨.inl ⟨hd, rfl⟩, fun z hz e => ?_⟩;have := hc.1 z hz;rw [show z.key = y.key from e, eA] at this; cases this
    ·exact .inl ⟨y, hy, hd, rfl⟩
   ·exact .inr ⟨.inr ⟨hl, Ne.symm (hn x (by simp))⟩, fun z hz => hn z (by simp [hz])⟩
theorem CX {ts : Int} {B : List Ht} {ov : List Wr} (hB : cz B) (hv : jK ov) (x : Wr) : eV ts (ai ts B ov) x = ai ts B (cL ov x) := by
 obtain ⟨p1, p2⟩ := nO hv x;obtain ⟨a1, a2⟩ := iu (ts := ts) (fq ov hB) x;refine sq (fun a : Ht => a.key) a1 (fq _ hB) fun a => ?_;rw [a2, jB _ hB p1, jB _ hB hv]
 constructor
 ·rintro (⟨hd, rfl⟩ | ⟨⟨y, hy, hd, rfl⟩ | ⟨hl, hn⟩, hk⟩)
  ·exact .inl ⟨x, (p2 x).2 (.inl rfl), hd, rfl⟩
  ·exact .inl ⟨y, (p2 y).2 (.inr ⟨hy, hk⟩), hd, rfl⟩
  ·refine .inr ⟨hl, fun y hy => ?_⟩;rcases (p2 y).1 hy with rfl | ⟨hy, _⟩
   ·exact Ne.symm hk
   ·exact hn y hy
 ·rintro (⟨y, hy, hd, rfl⟩ | ⟨hl, hn⟩)
  ·rcases (p2 y).1 hy with rfl | ⟨hy, hk⟩
   ·exact .inl ⟨hd, rfl⟩
   ·exact .inr ⟨.inl ⟨y, hy, hd, rfl⟩, hk⟩
  ·have hx := hn x ((p2 x).2 (.inl rfl));refine .inr ⟨.inr ⟨hl, fun y hy e => ?_⟩, Ne.symm hx⟩;exact hn y ((p2 y).2 (.inr ⟨hy, by rw [e]; exact Ne.symm hx⟩)) e
theorem jM {ts : Int} {B : List Ht} (hB : cz B) : ∀ (ws : List Wr) {ov : List Wr}, jK ov → ai ts (ai ts B ov) ws = ai ts B (ws.foldl cL ov)
 | [], ov, _ => rfl
 | x :: ws, ov, hv => by
  show ai ts (eV ts (ai ts B ov) x) ws = ai ts B (ws.foldl cL (cL ov x))
  rw [CX hB hv, jM hB ws (nO hv x).1]
structure cG where
 kind : Int
 table : Int
 vals : List aH
 set : Int
 to : aH
 whr : Int
 is : aH
structure Rw where
 key : aH
 cells : List aL
structure Rp where
 n : Int
 rows : List (List aH)
abbrev cx := BA × BA
def bz (T : az) : Int := ((T.cols[0]?).map (·.id)).getD 0
def cF (t : Int) (k : aH) : cx := (cH t k, cH t k ++ ⟨#[0]⟩)
def bG (t : Int) : cx := under [aB 0, aB t]
def cP (i : Int) (v : aH) : cx := under [aB 1, aB i, v]
def eL (T : az) (h : Ht) : Option Rw := match eM h.val with
 | some (c :: cs) => some ⟨au (c :: cs) (bz T), c :: cs⟩
 | _ => none
def jg (T : az) (l : List Ht) : List Rw := l.filterMap (eL T)
def gY (T : az) (k : aH) (D : List Ht) : List Rw := jg T (aI D (cF T.id k))
def ff (T : az) (D : List Ht) : Int × List Rw := if 64 < (aI D (bG T.id)).length then (156, []) else (0, jg T (aI D (bG T.id)))
def rY (w : Int) (x : dx) : Bool := x.column == w && x.state == 3
def rV (T : az) (w : Int) : Option dx := T.idxs.find? (rY w)
def ez (l : List Ht) : List aH := l.filterMap fun h => nK h.key
def aX (T : az) (b : cG) (D : List Ht) : Int × List Rw :=
 if b.whr = 0 then ff T D
 else if b.whr = bz T then (0, gY T b.is D)
 else match rV T b.whr with
 | none => ((ff T D).1, (ff T D).2.filter fun r => decide (au r.cells b.whr = b.is))
 | some x => if 64 < (aI D (cP x.id b.is)).length then (156, []) else (0, (ez (aI D (cP x.id b.is))).flatMap fun k => gY T k D)
def cy (T : az) (b : cG) (D : List Ht) : List cx :=
 if b.whr = 0 then [bG T.id]
 else if b.whr = bz T then [cF T.id b.is]
 else match rV T b.whr with
 | none => [bG T.id]
 | some x => cP x.id b.is :: (if 64 < (aI D (cP x.id b.is)).length then [] else (ez (aI D (cP x.id b.is))).map (cF T.id))
def cl (st : Int) : Bool := st == 2 || st == 3
def jn (old new : List aL) (c : Int) : Bool := decide ((au new c).kind ≠ 0) && (decide (old = []) || decide (au old c ≠ au new c))
def iY (k : aH) (old new : List aL) (D : List Ht) : List dx → Int × List cx
 | [] => (0, [])
 | x :: l => if jn old new x.column && x.unique && cl x.state then
   (if (ez (aI D (cP x.id (au new x.column)))).any (fun o => decide (o ≠ k)) then (210, [cP x.id (au new x.column)])
    else ((iY k old new D l).1, cP x.id (au new x.column) :: (iY k old new D l).2))
  else iY k old new D l
def iI (S : aK) (i : Int) : Option az := S.tabs.find? fun u => u.id == i
def iw (S : aK) (T : az) (k : aH) (old new : List aL) (D : List Ht) : List For → Int × List cx
 | [] => (0, [])
 | x :: l => if jn old new x.column && cl x.state && !(x.parent == T.id && decide (au new x.column = k)) then
   match iI S x.parent with
   | none => iw S T k old new D l
   | some U => if gY U (au new x.column) D = [] then (211, [cF U.id (au new x.column)])
    else ((iw S T k old new D l).1, cF U.id (au new x.column) :: (iw S T k old new D l).2)
  else iw S T k old new D l
def eU (S : aK) (T : az) (k : aH) (old new : List aL) (D : List Ht) : Int × List cx :=
 if (iY k old new D T.idxs).1 ≠ 0 then iY k old new D T.idxs
 else ((iw S T k old new D T.keys).1, (iY k old new D T.idxs).2 ++ (iw S T k old new D T.keys).2)
def jL (k : aH) (old new : List aL) (x : dx) : List Wr :=
 (if old ≠ [] ∧ (new = [] ∨ au old x.column ≠ au new x.column) then [⟨eF x.id (au old x.column) k, ⟨#[]⟩, true⟩] else []) ++
 (if new ≠ [] ∧ cl x.state = true then [⟨eF x.id (au new x.column) k, ⟨#[]⟩, false⟩] else [])
def cM (T : az) (old new : List aL) : List Wr :=
 if T.cols = [] ∨ (old = [] ∧ new = []) ∨ (cK new).2 ≠ 0 then []
 else ⟨cH T.id (au (if old = [] then new else old) (bz T)), (cK new).1, decide (new = [])⟩ :: T.idxs.flatMap (jL (au (if old = [] then new else old) (bz T)) old new)
def eo (l : List aL) (id : Int) (v : aH) : List aL := l.takeWhile (fun c => decide (c.id < id)) ++ [⟨id, v⟩] ++ (match l.dropWhile (fun c => decide (c.id < id)) with | [] => [] | c :: r => if c.id = id then r else c :: r)
def eN (l : List aL) (id : Int) : Bool := l.any fun c => c.id == id
def iB : List cm → List aH → List aL → List aL
 | [], _, cs => cs
 | c :: l, vs, cs => if c.state = 3 then iB l vs.tail (eo cs c.id (vs.headD gm)) else if c.state = 2 then iB l vs (eo cs c.id c.dflt) else iB l vs cs
structure y9 where
 err : Int
 rep : Rp
 asks : List cx
 ws : List Wr
abbrev kN : Rp := ⟨0, []⟩
def qV (S : aK) (T : az) (b : cG) (D : List Ht) : y9 :=
 let k := b.vals.headD gm
 let cs := iB T.cols b.vals []
 if gY T k D ≠ [] then ⟨210, kN, [cF T.id k], []⟩
 else if (eU S T k [] cs D).1 ≠ 0 then ⟨(eU S T k [] cs D).1, kN, cF T.id k :: (eU S T k [] cs D).2, []⟩
 else ⟨0, ⟨1, []⟩, cF T.id k :: (eU S T k [] cs D).2, cM T [] cs⟩
def mW : List cm → List aL → List aL
 | [], cs => cs
 | c :: l, cs => if c.state = 2 ∧ eN cs c.id = false then mW l (eo cs c.id c.dflt) else mW l cs
def ic (T : az) (b : cG) (r : Rw) : List aL := mW T.cols (eo r.cells b.set b.to)
def eu (S : aK) (T : az) (b : cG) : List Rw → List Ht → Int × List cx × List Wr
 | [], D => (0, [], [])
 | r :: l, D => if (eU S T r.key r.cells (ic T b r) D).1 ≠ 0 then ((eU S T r.key r.cells (ic T b r) D).1, (eU S T r.key r.cells (ic T b r) D).2, [])
  else ((eu S T b l (ai 0 D (cM T r.cells (ic T b r)))).1, (eU S T r.key r.cells (ic T b r) D).2 ++ (eu S T b l (ai 0 D (cM T r.cells (ic T b r)))).2.1,
   cM T r.cells (ic T b r) ++ (eu S T b l (ai 0 D (cM T r.cells (ic T b r)))).2.2)
def rJ (S : aK) (T : az) (b : cG) (D : List Ht) : y9 :=
 if (aX T b D).1 ≠ 0 then ⟨(aX T b D).1, kN, cy T b D, []⟩
 else if (eu S T b (aX T b D).2 D).1 ≠ 0 then ⟨(eu S T b (aX T b D).2 D).1, kN, cy T b D ++ (eu S T b (aX T b D).2 D).2.1, (eu S T b (aX T b D).2 D).2.2⟩
 else ⟨0, ⟨(aX T b D).2.length, []⟩, cy T b D ++ (eu S T b (aX T b D).2 D).2.1, (eu S T b (aX T b D).2 D).2.2⟩
def lV (T U : az) (r : Rw) (x : For) (c : Rw) : Bool := decide (au c.cells x.column = r.key) && (decide (U.id ≠ T.id) || decide (c.key ≠ r.key))
def iZ (T U : az) (r : Rw) (D : List Ht) : List For → Int × List cx
 | [] => (0, [])
 | x :: l => if x.parent = T.id ∧ cl x.state = true then
   (if (ff U D).1 ≠ 0 then ((ff U D).1, [bG U.id]) else if (ff U D).2.any (lV T U r x) then (212, [bG U.id])
    else ((iZ T U r D l).1, bG U.id :: (iZ T U r D l).2))
  else iZ T U r D l
def fU (T : az) (r : Rw) (D : List Ht) : List az → Int × List cx
 | [] => (0, [])
 | U :: l => if (iZ T U r D U.keys).1 ≠ 0 then iZ T U r D U.keys else ((fU T r D l).1, (iZ T U r D U.keys).2 ++ (fU T r D l).2)
def ef (S : aK) (T : az) : List Rw → List Ht → Int × List cx × List Wr
 | [], D => (0, [], [])
 | r :: l, D => if (fU T r D S.tabs).1 ≠ 0 then ((fU T r D S.tabs).1, (fU T r D S.tabs).2, [])
  else ((ef S T l (ai 0 D (cM T r.cells []))).1, (fU T r D S.tabs).2 ++ (ef S T l (ai 0 D (cM T r.cells []))).2.1, cM T r.cells [] ++ (ef S T l (ai 0 D (cM T r.cells []))).2.2)
def rm (S : aK) (T : az) (b : cG) (D : List Ht) : y9 :=
 if (aX T b D).1 ≠ 0 then ⟨(aX T b D).1, kN, cy T b D, []⟩
 else if (ef S T (aX T b D).2 D).1 ≠ 0 then ⟨(ef S T (aX T b D).2 D).1, kN, cy T b D ++ (ef S T (aX T b D).2 D).2.1, (ef S T (aX T b D).2 D).2.2⟩
 else ⟨0, ⟨(aX T b D).2.length, []⟩, cy T b D ++ (ef S T (aX T b D).2 D).2.1, (ef S T (aX T b D).2 D).2.2⟩
def Cj (T : az) : List cm := T.cols.filter fun c => c.state == 3
def kR (T : az) (r : Rw) : List aH := (Cj T).map fun c => au r.cells c.id
def rD (T : az) (b : cG) (D : List Ht) : y9 :=
 if (aX T b D).1 ≠ 0 then ⟨(aX T b D).1, kN, cy T b D, []⟩ else ⟨0, ⟨0, (aX T b D).2.map (kR T)⟩, cy T b D, []⟩
def gJ (T : az) (id : Int) (v : aH) (key : Bool) : Bool := T.cols.any fun c => c.id == id && c.state == 3 && (key || decide (id ≠ bz T)) && fits v c.kind
def fH : List cm → Nat → List aH → Bool
 | [], _, vs => vs.isEmpty
 | c :: l, k, vs => if c.state ≠ 3 then fH l (k + 1) vs else match vs with
  | [] => false
  | v :: vs => fits v c.kind && !(decide (k = 0) && v.kind == 0) && fH l (k + 1) vs
def fe (S : aK) (b : cG) : Option az :=
 match iI S b.table with
 | none => none
 | some T => if b.kind < 1 ∨ 4 < b.kind then none
  else if b.kind = 1 then (if fH T.cols 0 b.vals = true then some T else none)
  else if b.kind = 2 ∧ gJ T b.set b.to false = false then none
  else if b.whr = 0 ∨ gJ T b.whr b.is true = true then some T else none
def gp (S : aK) (T : az) (b : cG) (D : List Ht) : y9 :=
 if b.kind = 1 then qV S T b D else if b.kind = 2 then rJ S T b D else if b.kind = 3 then rm S T b D else rD T b D
structure Ml where
 err : Int
 at_ : Int
 reps : List Rp
 asks : List cx
 ws : List Wr
def bZ (S : aK) : Int → List cG → List Ht → Ml
 | i, [], D => ⟨0, 0, [], [], []⟩
 | i, b :: l, D => match fe S b with
  | none => ⟨1, i, [], [], []⟩
  | some T => let e := gp S T b D
   if e.err ≠ 0 then ⟨e.err, i, [], e.asks, e.ws⟩
   else let r := bZ S (i + 1) l (ai 0 D e.ws)
    ⟨r.err, r.at_, e.rep :: r.reps, e.asks ++ r.asks, e.ws ++ r.ws⟩
end
section
theorem jC {D : List Ht} {p : cx} {a : Ht} : a ∈ aI D p ↔ a ∈ D ∧ jo a.key p = true := List.mem_filter
section
variable {D D' : List Ht} (h : cz D) (h' : cz D')
end
def fK (l : List Ht) (h : Ht) : List Ht := eV h.ts l ⟨h.key, h.val, false⟩
theorem FT {l : List Ht} (h : cz l) (x : Ht) : cz (fK l x) ∧ ∀ a, a ∈ fK l x ↔ a = x ∨ (a ∈ l ∧ a.key ≠ x.key) := by
 obtain ⟨h1, h2⟩ := iu (ts := x.ts) h ⟨x.key, x.val, false⟩;exact ⟨h1, fun a => (h2 a).trans (by simp)⟩
end
end Go.Proofs.YtlfdfgokflhdbaaGreat
