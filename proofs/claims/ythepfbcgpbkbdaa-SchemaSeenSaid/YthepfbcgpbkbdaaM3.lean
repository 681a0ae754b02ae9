/-
  Schemas, written as texts by the document; two schemas compared.
  Conditions: none; it proves no statement by itself.
-/
import Derived.Test.YthepfbcgpbkbdaaM2
set_option linter.unusedVariables false
set_option linter.unusedSimpArgs false
set_option maxHeartbeats 1000000
set_option maxRecDepth 100000
namespace Go.Proofs.Ythepfbcgpbkbdaa
open Fw Go
attribute [-simp] Fw.W.ld_iff Fw.W.st_iff

def u8E : Enc UInt8 where
  sz := 1
  f b := [.int .u8 (b.toNat : Int)]
  len _ := rfl
  one p v hv := by simp at hv; subst hv; rfl
  pos := by omega
def intE : Enc Int where
  sz := 1
  f n := [.int .i64 n]
  len _ := rfl
  one p v hv := by simp at hv; subst hv; rfl
  pos := by omega
def zig (n : Int) : Nat := (if n < 0 then IntKind.u64.wrap (IntKind.u64.wrap (IntKind.u64.wrap (IntKind.i64.wrap (0 - IntKind.i64.wrap (n + 1))) * 2) + 1) else IntKind.u64.wrap (IntKind.u64.wrap n * 2)).toNat
def digs : Nat → Nat → List UInt8
  | 0, z => [UInt8.ofNat z]
  | f + 1, z => if z ≥ 128 then UInt8.ofNat (z % 128 + 128) :: digs f (z / 128) else [UInt8.ofNat z]
theorem digs_ge {f x : Nat} (h : x ≥ 128) : digs (f + 1) x = UInt8.ofNat (x % 128 + 128) :: digs f (x / 128) := by rw [digs, if_pos h]
def num (n : Int) : ByteArray := ⟨(digs 9 (zig n)).toArray⟩
theorem digs_len : ∀ (f z : Nat), (digs f z).length ≤ f + 1
  | 0, z => by simp [digs]
  | f + 1, z => by unfold digs; split; simp; exact digs_len f _; simp
theorem num_size (n : Int) : (num n).size ≤ 10 := by
  show ((digs 9 (zig n)).toArray).size ≤ 10
  rw [List.size_toArray]; exact digs_len 9 _
theorem w_u64 (n : Int) : IntKind.u64.wrap n = n % 18446744073709551616 := by simp [IntKind.wrap, IntKind.bits, IntKind.signed]
theorem u64_range (x : Int) : 0 ≤ IntKind.u64.wrap x ∧ IntKind.u64.wrap x < 18446744073709551616 := by
  rw [w_u64]; omega
theorem u64_in {x : Int} (h0 : 0 ≤ x) (h : x < 18446744073709551616) : IntKind.u64.wrap x = x := by rw [w_u64]; omega
theorem u8_in {x : Int} (h0 : 0 ≤ x) (h : x < 256) : IntKind.u8.wrap x = x := by rw [IntKind.wrap_u8]; omega
theorem zig_eq (n : Int) : ((zig n : Nat) : Int) = if n < 0 then IntKind.u64.wrap (IntKind.u64.wrap (IntKind.u64.wrap (IntKind.i64.wrap (0 - IntKind.i64.wrap (n + 1))) * 2) + 1) else IntKind.u64.wrap (IntKind.u64.wrap n * 2) := by
  unfold zig
  split
  · exact Int.toNat_of_nonneg (u64_range _).1
  · exact Int.toNat_of_nonneg (u64_range _).1
theorem zig_lt (n : Int) : zig n < 18446744073709551616 := by
  have h := zig_eq n
  split at h
  · have := (u64_range (IntKind.u64.wrap (IntKind.u64.wrap (IntKind.i64.wrap (0 - IntKind.i64.wrap (n + 1))) * 2) + 1)).2; omega
  · have := (u64_range (IntKind.u64.wrap n * 2)).2; omega
/-- one byte more -/
theorem app_byte {s : PH} {a : Option Addr} {n c : Nat} {l : List UInt8} {x : Int} {b : UInt8} {K : Option Addr → Nat → Nat → W.T} (h : rowE u8E s 5 a n c l) (hb : x = b.toNat) (hl : l.length ≤ 1000)
    (hK : ∀ a' c' s', rowE u8E s' 5 a' (n + 1) c' (l ++ [b]) → (∀ g ∈ Fw.blk a', g ∈ Fw.blk a ∨ s g = none) → Fw.Mod (Fw.blk a) s s' → K a' (n + 1) c' s') :
    W.nw (.cells #[.int .u8 x] 5 (0, 0)) (fun r => W.app 5 1 1 [.int .u8 0] a n c (.sl (some ⟨r, 0, none⟩) 1) K) s := by
  subst hb
  refine W.nw_of fun r s1 hr m1 k1 => ?_
  have hmax : maxLen = 9223372036854775807 := rfl
  have hlen := h.len
  have hsrc : srcIs s1 1 (.sl (some ⟨r, 0, none⟩) 1) ([b].flatMap u8E.f) := ⟨rfl, has_block k1⟩
  refine app_rowE (E := u8E) (k := 1) (ys := [b]) (h.mod m1 (by simp)) rfl hsrc rfl rfl (by omega) (by omega) ?_
  intro a' c' s2 hrow hm
  rcases hm with ⟨rfl, hm⟩ | ⟨g, rfl, hg, hm⟩
  · exact hK _ _ _ hrow (fun g hg => .inl hg) ((m1.mono (by simp)).trans hm)
  · exact hK _ _ _ hrow (by simp [Fw.blk]; exact .inr (m1.none hg (by simp))) ((m1.trans hm).mono (by simp))
def NumZ (n : Int) (s0 : PH) (z : MDen [(false, [.int .u64]), (false, [.slice])]) (s' : PH) : Prop :=
  ∃ (f x : Nat) (a : Option Addr) (k c : Nat) (l : List UInt8), z = (((x : Int), ()), ((a, k, c), ()), ()) ∧ f ≤ 9 ∧ l.length = 9 - f ∧ l ++ digs f x = digs 9 (zig n) ∧ x < 128 ^ (f + 1) ∧ x < 18446744073709551616 ∧ rowE u8E s' 5 a k c l ∧ Fw.Mod [] s0 s' ∧ ∀ g ∈ Fw.blk a, s0 g = none
theorem c_Num (n : Int) (s : PH) : DCalls Try.prog 84 #[.int .i64 n] s fun y s' => y = .string (num n) ∧ s' = s := by
  refine DCalls.quiet (ok_Num n _ s ?_)
  unfold vc_Num
  simp only [RP_join]
  refine W.join_gen (fun z s' => s' = s ∧ z = ((((zig n : Nat) : Int), ()), ())) ?_ ?_
  · rintro _ s ⟨rfl, rfl⟩
    simp only [RP_loop]
    have hz := zig_lt n
    refine ⟨NumZ n s, fun z _ => z.1.1.toNat, ⟨9, zig n, none, 0, 0, [], rfl, Nat.le_refl _, rfl, rfl, by omega, hz, rowE.nil, Mod.refl _ _, by simp [Fw.blk]⟩, ?_⟩
    rintro _ s1 ⟨f, x, a, k, c, l, rfl, hf, hl, hd, hx, hxl, hrow, m1, hfr⟩
    simp only [RP_ite, W.br_iff, decide_eq_true_eq, decide_eq_false_iff_not]
    refine ⟨fun h128 => ?_, fun h128 => ?_⟩
    · have h128 : x ≥ 128 := by omega
      have hf0 : ∃ f', f = f' + 1 := by
        cases f with
        | zero => simp at hx; omega
        | succ f' => exact ⟨f', rfl⟩
      obtain ⟨f', rfl⟩ := hf0
      have e1 : ((x : Int)).tmod 128 = ((x % 128 : Nat) : Int) := by rw [Int.tmod_eq_emod_of_nonneg (by omega)]; simp
      have e2 : ((x : Int)).tdiv 128 = ((x / 128 : Nat) : Int) := by rw [Int.tdiv_eq_ediv_of_nonneg (by omega)]; simp
      have hx2 : x / 128 < 128 ^ (f' + 1) := by
        rw [Nat.div_lt_iff_lt_mul (by omega)]
        rw [Nat.pow_succ] at hx; exact hx
      simp only [RP_nw, RP_app, e1, e2]
      refine app_byte (b := UInt8.ofNat (x % 128 + 128)) hrow ?_ (by omega) ?_
      · rw [u64_in (by omega) (by omega), u8_in (by omega) (by omega), UInt8.toNat_ofNat']
        omega
      · intro a' c' s2 hrow2 hfr2 m2
        rw [u64_in (by omega) (by omega)]
        refine ⟨⟨f', x / 128, a', k + 1, c', _, rfl, by omega, by rw [List.length_append]; simp; omega, ?_, hx2, by omega, hrow2, m1.fresh m2 (fun g hg => .inr (hfr g hg)), ?_⟩, by simp only [Int.toNat_natCast]; omega⟩
        · rw [← hd, List.append_assoc]
          rw [digs_ge h128]; rfl
        · intro g hg
          rcases hfr2 g hg with h | h
          · exact hfr g h
          · exact m1.none h (by simp)
    · have h128 : ¬ x ≥ 128 := by omega
      simp only [RP_nw, RP_app, RP_b2s]
      refine app_byte (b := UInt8.ofNat x) hrow ?_ (by omega) ?_
      · rw [u8_in (by omega) (by omega), UInt8.toNat_ofNat']; omega
      · intro a' c' s2 hrow2 hfr2 m2
        have hall : l ++ [UInt8.ofNat x] = digs 9 (zig n) := by
          rw [← hd]
          congr 1
          cases f with
          | zero => rfl
          | succ f' => unfold digs; rw [if_neg h128]
        refine ⟨num n, ?_, rfl, m1.fresh m2 (fun g hg => .inr (hfr g hg))⟩
        have hlen := hrow2.len
        rw [hall] at hrow2 hlen
        rcases hrow2.shape with ⟨rfl, h0, _⟩ | ⟨g, rfl⟩
        · omega
        · refine ⟨by show (digs 9 (zig n)).toArray.size = _; rw [List.size_toArray, hlen], ?_⟩
          have := hrow2.src0
          have hb : bytesOf (num n) = (digs 9 (zig n)).flatMap u8E.f := by
            unfold bytesOf num
            simp only [List.toList_toArray]
            generalize digs 9 (zig n) = l
            induction l with
            | nil => rfl
            | cons b l ih => rw [List.map_cons, ih, List.flatMap_cons]; rfl
          rw [hb]; exact this.2
  · intro J hJ
    have hz := zig_eq n
    simp only [RP_ite, W.br_iff, decide_eq_true_eq, decide_eq_false_iff_not]
    refine ⟨fun h => ?_, fun h => ?_⟩
    · rw [if_pos h] at hz; rw [← hz]; exact hJ _ _ ⟨rfl, rfl⟩
    · rw [if_neg h] at hz; rw [← hz]; exact hJ _ _ ⟨rfl, rfl⟩

def numsB (l : List Int) : ByteArray := l.foldl (fun t n => t ++ num n) ⟨#[]⟩
theorem foldl_take {α β : Type} (f : β → α → β) (b : β) {l : List α} {k : Nat} {x : α} (h : l[k]? = some x) : (l.take (k + 1)).foldl f b = f ((l.take k).foldl f b) x := by
  rw [List.take_add_one, h, List.foldl_append]; rfl
theorem size_app (a b : ByteArray) : (a ++ b).size = a.size + b.size := ByteArray.size_append
theorem numsB_le : ∀ (l : List Int) (t : ByteArray), (l.foldl (fun t n => t ++ num n) t).size ≤ t.size + 10 * l.length
  | [], t => by simp
  | n :: l, t => by
    have h1 := numsB_le l (t ++ num n)
    have h2 := num_size n
    rw [size_app] at h1
    simp only [List.foldl_cons, List.length_cons]; omega
theorem numsB_size (l : List Int) : (numsB l).size ≤ 10 * l.length := by
  have := numsB_le l ⟨#[]⟩
  have e : (ByteArray.mk #[]).size = 0 := rfl
  unfold numsB; omega
theorem c_nums {s : PH} {a : Option Addr} {an ac : Nat} {l : List Int} (h : elems (Rd.enc intE) s a an l) (hl : l.length ≤ 1000) : DCalls Try.prog 83 #[.slice a an ac] s fun y s' => y = .string (numsB l) ∧ s' = s := by
  refine ok_nums a an ac _ s ?_
  unfold vc_nums
  have hlen := h.1
  simp only [RP_loop]
  refine ⟨fun z s' => ∃ k : Nat, z = ((numsB (l.take k), ()), ((k : Int), ()), ()) ∧ k ≤ an ∧ s' = s, fun z _ => an - z.2.1.1.toNat, ⟨0, rfl, Nat.zero_le _, rfl⟩, ?_⟩
  rintro _ s ⟨k, rfl, hk, rfl⟩
  simp [W.br_iff]
  refine ⟨fun hlt => ⟨hlt, ?_⟩, fun hge => ?_⟩
  · obtain ⟨x, hx⟩ : ∃ x, l[k]? = some x := ⟨_, List.getElem?_eq_getElem (by omega)⟩
    obtain ⟨ad, rfl, hh⟩ := h.at_enc hx
    simp only [W.unSome_some]
    have hh : s.has (ad.add k) [.int .i64 x] := by have : k * intE.sz = k := Nat.mul_one _; rw [this] at hh; exact hh
    refine ld_has_z hh (cs := [.int .i64]) (y := (x, ())) rfl ?_
    refine W.call_of (c_Num x s) ?_
    rintro _ s ⟨rfl, rfl⟩
    refine ⟨((num x, ()), ()), rfl, ?_⟩
    have h1 := numsB_size (l.take k)
    have h2 := num_size x
    rw [List.length_take] at h1
    simp [wrap_succ (k := k) (by omega)]
    refine ⟨by omega, ⟨k + 1, ⟨?_, by simp⟩, hlt⟩, by omega⟩
    unfold numsB; rw [foldl_take _ _ hx]
  · have : l.take k = l := List.take_of_length_le (by omega)
    rw [this]
theorem nums_lit {s : PH} {r : Nat} {l : List Int} {e : TypeId} (h : s r = some (.cells (l.map (Value.int .i64)).toArray e (0, 0))) : elems (Rd.enc intE) s (some ⟨r, 0, none⟩) l.length l := by
  refine ⟨rfl, fun i x hx => ⟨⟨r, 0, none⟩, _, rfl, rfl, ?_⟩⟩
  have e1 : i * (Rd.enc intE).sz = i := Nat.mul_one _
  rw [e1, add_mk, Nat.zero_add]
  refine has_one ?_
  have := has_block h i (.int .i64 x) (by simp [hx])
  rwa [add_mk, Nat.zero_add] at this
def txt (t : ByteArray) : ByteArray := num t.size ++ t
theorem txt_size (t : ByteArray) : (txt t).size ≤ 10 + t.size := by
  have := num_size t.size
  unfold txt; rw [size_app]; omega
theorem c_text {t : ByteArray} (ht : t.size ≤ 281474976710656) (s : PH) : DCalls Try.prog 85 #[.string t] s fun y s' => y = .string (txt t) ∧ s' = s := by
  refine ok_text t _ s ?_
  unfold vc_text
  simp only [RP_call]
  refine W.call_of (c_Num _ s) ?_
  rintro _ s ⟨rfl, rfl⟩
  refine ⟨((num t.size, ()), ()), rfl, ?_⟩
  have := num_size t.size
  simp
  exact ⟨by omega, rfl⟩
def flagB (b : Bool) : ByteArray := if b = true then num 1 else num 0
theorem flag_size (b : Bool) : (flagB b).size ≤ 10 := by unfold flagB; split <;> exact num_size _
theorem c_flag (b : Bool) (s : PH) : DCalls Try.prog 87 #[.bool b] s fun y s' => y = .string (flagB b) ∧ s' = s := by
  refine ok_flag b _ s ?_
  unfold vc_flag flagB
  simp only [RP_ite, W.br_iff, RP_call]
  refine ⟨fun h => ?_, fun h => ?_⟩
  · refine W.call_of (c_Num 1 s) ?_
    rintro _ s ⟨rfl, rfl⟩
    refine ⟨((num 1, ()), ()), rfl, ?_⟩
    simp [h]
  · refine W.call_of (c_Num 0 s) ?_
    rintro _ s ⟨rfl, rfl⟩
    refine ⟨((num 0, ()), ()), rfl, ?_⟩
    simp [h]
def encV (v : Val) : ByteArray := num v.kind ++ num v.n ++ txt v.s
theorem encV_size (v : Val) : (encV v).size ≤ 30 + v.s.size := by
  have h1 := num_size v.kind
  have h2 := num_size v.n
  have h3 := txt_size v.s
  unfold encV; rw [size_app, size_app]; omega
theorem c_encV {v : Val} (hv : v.s.size ≤ 281474976710656) (s : PH) : DCalls Try.prog 132 #[valV v] s fun y s' => y = .string (encV v) ∧ s' = s := by
  refine ok_encV v.kind v.n v.s _ s ?_
  unfold vc_encV
  have h1 := num_size v.kind
  have h2 := num_size v.n
  have h3 := txt_size v.s
  simp only [RP_callQ]
  refine W.callQ_of ((num v.kind, ()), ()) (c_Num _ s) rfl ?_
  refine W.callQ_of ((num v.n, ()), ()) (c_Num _ s) rfl ?_
  simp
  refine ⟨by omega, ?_⟩
  refine W.callQ_of ((txt v.s, ()), ()) (c_text hv s) rfl ?_
  simp
  exact ⟨by omega, rfl⟩
end Go.Proofs.Ythepfbcgpbkbdaa
