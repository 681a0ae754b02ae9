/-
  Part 26 for the law: lemmas.
  Conditions: none.
-/
import Derived.Test.YtlfdfgokflhdbaaGreatExecSplitsK25
set_option maxHeartbeats 4000000
set_option maxRecDepth 100000
set_option linter.unusedVariables false
set_option linter.unusedSimpArgs false
set_option linter.unusedSectionVars false
namespace Go.Proofs.YtlfdfgokflhdbaaGreat
open Fw Go Go.IntKind
section
attribute [-simp] Fw.W.bD Fw.W.bB
theorem dh (a : Addr) (k : Addr → W.T) : W.af (some a) k = k a := by funext s; exact propext (W.az a k s)
theorem kg {s : PH} {b : Nat} {c c' : Array Value} {e : TypeId} {v : Value} {vs : List Value} {off : Nat} {k : W.T} (h : s b = some (.cells c e (0, 0))) (hs : off + (v :: vs).length ≤ c.size) (h1 : ∀ w ∈ v :: vs, w.oneCell' = true)
  (hc : fZ c off (v :: vs) = c') (hk : ∀ s', s' = s.aM b (.cells c' e (0, 0)) → k s') : W.st ⟨b, off, none⟩ (v :: vs) k s :=
 (W.dN h v vs off k).2 ⟨hs, by simp [yV], h1, hc ▸ hk _ rfl⟩
abbrev wC (t : ByteArray) : Obj := .cells #[.string t] 339 (0, 0)
def A1 (r : Nat) (o : Option (aR × List UInt8)) (s : PH) (y : Value) (s' : PH) : Prop :=
 match o with
 | none => (∃ v : aR, y = .tuple #[eX v, .bool false]) ∧ Fw.Mod [r] s s'
 | some (v, l) => y = .tuple #[eX v, .bool true] ∧ Fw.Mod [r] s s' ∧ s' r = some (wC (kB l))
def sA (l : List UInt8) : Option (aR × List UInt8) := if l.length < 8 then none else some (⟨1, kj (kq (l.take 8)), ⟨#[]⟩⟩, l.drop 8)
def qU (l : List UInt8) : Option (aR × List UInt8) := (ep l).map fun p => (⟨2, 0, kB p.1⟩, p.2)
theorem HO {r : Nat} {t : ByteArray} {s : PH} (h : s r = some (wC t)) : ai 251 #[cp r] s (A1 r (some (⟨0, 0, ⟨#[]⟩⟩, kL t)) s) := by
 refine Gh r _ s ?_
 unfold Ag
 simp only [aE, W.nM]
 exact ⟨rfl, Mod.refl _ _, by rw [jt]; exact h⟩
theorem zU {l : List UInt8} {k : Nat} {b : UInt8} (h : l[k]? = some b) : kq (l.take (k + 1)) = kq (l.take k) * 256 + b.toNat := by
 unfold kq
 rw [List.take_add_one, h]; simp
theorem qu : ∀ (l : List UInt8) (k : Nat), kq (l.take k) < 256 ^ k
 | l, 0 => by simp [kq]
 | l, k + 1 => by
  have ih := qu l k
  cases hb : l[k]? with
  | none =>
   rw [List.take_add_one, hb]
   simp only [Option.toList_none, List.append_nil]
   exact Nat.lt_of_lt_of_le ih (Nat.pow_le_pow_right (by omega) (by omega))
  | some b =>
   rw [zU hb, Nat.pow_succ]
   have := b.toNat_lt
   omega
theorem zT {n : Nat} (h : n < 18446744073709551616) : u64.wrap (n : Int) = (n : Int) := by rw [rK]; omega
theorem Du {r : Nat} {t : ByteArray} {s : PH} (h : s r = some (wC t)) (hs : t.size ≤ 140737488351232) : ai 252 #[cp r] s (A1 r (sA (kL t)) s) := by
 refine Ct r _ s ?_
 unfold uy
 obtain ⟨R, hR⟩ : ∃ R, A1 r (sA (kL t)) s = R := ⟨_, rfl⟩
 rw [hR]
 simp only [aQ, bI, aN, aE, aS, aP, gN, cE, dh, aY, Nat.zero_add]
 have hld : ∀ (K : Den [CT.str] → W.T), K (t, ()) s → W.ld [.str] ⟨r, 0, none⟩ K s := fun K hk => (W.aA h _ _ _ _).2 ⟨(t, ()), rfl, hk⟩
 refine hld _ ?_
 dsimp only
 refine (W.aa _ _ _ _).2 ⟨fun e => ?_, fun e => ?_⟩
 ·have e : (t.size : Int) < 8 := of_decide_eq_true e
  have : sA (kL t) = none := by unfold sA; rw [if_pos (by rw [eG]; omega)]
  rw [this] at hR
  rw [← hR]
  exact ⟨⟨⟨0, 0, ⟨#[]⟩⟩, rfl⟩, Mod.refl _ _⟩
 have e : ¬ (t.size : Int) < 8 := of_decide_eq_false e
 refine ⟨fun z s' => ∃ k : Nat, z = ((0, 0, ⟨#[]⟩, ()), ((kq ((kL t).take k) : Int), ()), ((k : Int), ()), ()) ∧ k ≤ 8 ∧ s' = s, fun z _ => 8 - z.2.2.1.1.toNat, ⟨0, rfl, Nat.zero_le _, rfl⟩, ?_⟩
 rintro _ s ⟨k, rfl, hk, rfl⟩
 dsimp only
 refine (W.aa _ _ _ _).2 ⟨fun e1 => ?_, fun e1 => ?_⟩
 ·have e1 : (k : Int) < 8 := of_decide_eq_true e1
  refine hld _ ?_
  dsimp only
  obtain ⟨b, hb, hb2⟩ := ju (s := t) (i := k) (by omega)
  refine (W.ah _ _ _).2 ⟨⟨by omega, by omega⟩, ?_⟩
  have hsm := qu (kL t) k
  have hpw : 256 ^ k ≤ 72057594037927936 := by
   have : 256 ^ k ≤ 256 ^ 7 := Nat.pow_le_pow_right (by omega) (by omega)
   simpa using this
  have hv : u64.wrap (((BitVec.ofInt 64 (u64.wrap ((kq ((kL t).take k) : Int) * 256)) ||| BitVec.ofInt 64 (u64.wrap (((t[((k : Int)).toNat]?.getD (0 : UInt8)).toNat : Nat) : Int))).toNat : Nat) : Int) = (kq ((kL t).take (k + 1)) : Int) := by
   rw [zU hb, Int.toNat_natCast, hb2]
   generalize kq ((kL t).take k) = m at hsm ⊢
   have hbl := b.toNat_lt
   rw [show (m : Int) * 256 = ((m * 256 : Nat) : Int) by omega, zT (n := m * 256) (by omega), zT (n := b.toNat) (by omega), JB (by omega) (by omega), zT (by omega)]
  rw [hv, ak (k := k) (by omega)]
  exact ⟨⟨k + 1, rfl, by omega, rfl⟩, by simp only [Int.toNat_natCast]; omega⟩
 ·have e1 : ¬ (k : Int) < 8 := of_decide_eq_false e1
  have hk8 : k = 8 := by omega
  subst hk8
  refine hld _ ?_
  dsimp only
  refine (W.ah _ _ _).2 ⟨⟨by omega, by omega, by omega⟩, ?_⟩
  refine kg h (Nat.le_refl _) (by simp [Value.oneCell']) rfl ?_
  rintro s' rfl
  rw [← hR]
  have hlt : kq ((kL t).take 8) < 18446744073709551616 := by have := qu (kL t) 8; simpa using this
  have : sA (kL t) = some (⟨1, kj (kq ((kL t).take 8)), ⟨#[]⟩⟩, (kL t).drop 8) := by unfold sA; rw [if_neg (by rw [eG]; omega)]
  rw [this]
  refine ⟨?_, Mod.aM (by simp), ?_⟩
  ·rw [GS hlt]
  ·rw [PH.bA]
   congr 3
   rw [Int.toNat_natCast]
   show #[Value.string (t.extract 8 t.size)] = _
   rw [← qK, jt]
theorem HP {r : Nat} {t : ByteArray} {s : PH} (h : s r = some (wC t)) (hs : t.size ≤ 140737488351232) : ai 253 #[cp r] s (A1 r (qU (kL t)) s) := by
 refine Gi r _ s ?_
 unfold Ah
 obtain ⟨R, hR⟩ : ∃ R, A1 r (qU (kL t)) s = R := ⟨_, rfl⟩
 rw [hR]
 simp only [aQ, bI, aN, aE, aS, aP, gN, bU, cZ, sX, cE, dh, aY, Nat.zero_add]
 have hld : ∀ {s1 : PH} (K : Den [CT.str] → W.T), Fw.Mod [] s s1 → K (t, ()) s1 → W.ld [.str] ⟨r, 0, none⟩ K s1 := fun K hm hk => (W.aA (hm.at h (by simp)) _ _ _ _).2 ⟨(t, ()), rfl, hk⟩
 have hno : ∀ {s1 : PH}, Fw.Mod [] s s1 → ep (kL t) = none → R (.tuple #[.agg #[.int .i64 0, .int .i64 0, .string ⟨#[]⟩], .bool false]) s1 := fun hm e => by
  rw [← hR]
  unfold qU; rw [e]
  exact ⟨⟨⟨0, 0, ⟨#[]⟩⟩, rfl⟩, hm.mono (by simp)⟩
 refine ⟨fun z s' => ∃ (i : Nat) (a : Option Addr) (n c : Nat) (acc : List UInt8), z = ((0, 0, ⟨#[]⟩, ()), ((a, n, c), ()), ((i : Int), ()), ()) ∧ i ≤ t.size ∧ n ≤ i ∧ Gw nB 5 s s' a n c acc ∧ ep (kL t) = (ep ((kL t).drop i)).map fun p => (acc ++ p.1, p.2), fun z _ => t.size - z.2.2.1.1.toNat,
  ⟨0, none, 0, 0, [], rfl, Nat.zero_le _, Nat.le_refl _, Gw.nil (Mod.refl _ _), by simp⟩, ?_⟩
 rintro _ s1 ⟨i, a, n, c, acc, rfl, hi, hn, hG, hu⟩
 dsimp only
 refine hld _ hG.md ?_
 dsimp only
 refine (W.aa _ _ _ _).2 ⟨fun e1 => ?_, fun e1 => ?_⟩
 rotate_left
 ·have e1 : ¬ (i : Int) < (t.size : Int) := of_decide_eq_false e1
  refine hno hG.md ?_
  rw [hu, List.drop_of_length_le (by rw [eG]; omega)]; (first | done | rfl)
 have e1 : (i : Int) < (t.size : Int) := of_decide_eq_true e1
 obtain ⟨b, hb, hb2⟩ := ju (s := t) (i := i) (by omega)
 rw [bO hb] at hu
 refine hld _ hG.md ?_
 dsimp only
 refine (W.ah _ _ _).2 ⟨⟨by omega, e1⟩, ?_⟩
 simp only [Int.toNat_natCast, hb2]
 refine (W.aa _ _ _ _).2 ⟨fun e2 => ?_, fun e2 => ?_⟩
 ·have e2 : b ≠ 0 := by rintro rfl; exact absurd e2 (by decide)
  rw [sM e2] at hu
  refine hld _ hG.md ?_
  dsimp only
  refine (W.ah _ _ _).2 ⟨⟨by omega, e1⟩, ?_⟩
  rw [hb2]
  refine hG.CQ [b] (k := 1) rfl rfl rfl (by omega) (by omega) fun a3 c3 s3 h3 _ => ?_
  rw [ak (k := i) (by omega)]
  refine ⟨⟨i + 1, a3, n + 1, c3, acc ++ [b], rfl, by omega, by omega, h3, ?_⟩, by simp only [Int.toNat_natCast]; omega⟩
  rw [hu, Option.map_map]
  congr 1
  funext p
  simp
 have e2 : b = 0 := by
  have : (b.toNat : Int) = 0 := by simpa using e2
  apply UInt8.toNat_inj.1; show b.toNat = 0; omega
 subst e2
 rw [ak (k := i) (by omega)]
 refine W.bl (fun x s' => ∃ f : Bool, x = ((0, 0, ⟨#[]⟩, ()), ((a, n, c), ()), (((i + 1 : Nat) : Int), ()), (f, ()), ()) ∧ s1 = s' ∧ f = (((kL t)[i + 1]?).map (· == 255)).getD false) ?_ ?_
 ·rintro _ _ ⟨f, rfl, rfl, hf⟩
  dsimp only
  refine (W.aa _ _ _ _).2 ⟨fun e3 => ?_, fun e3 => ?_⟩
  ·subst e3
   cases hq : (kL t)[i + 1]? with
   | none => rw [hq] at hf; cases hf
   | some q =>
    rw [hq] at hf
    have hq2 : q = 255 := by simpa using hf.symm
    subst hq2
    have hil := (List.getElem?_eq_some_iff.1 hq).1
    rw [eG] at hil
    rw [bO hq, nR, if_pos rfl] at hu
    refine hG.CQ [0] (k := 1) rfl rfl rfl (by omega) (by omega) fun a3 c3 s3 h3 _ => ?_
    rw [ak (k := i + 1) (by omega)]
    refine ⟨⟨i + 2, a3, n + 1, c3, acc ++ [0], rfl, by omega, by omega, h3, ?_⟩, by simp only [Int.toNat_natCast]; omega⟩
    rw [hu, Option.map_map]
    congr 1
    funext p
    simp
  ·refine hld _ hG.md ?_
   dsimp only
   refine (W.aa _ _ _ _).2 ⟨fun e4 => ?_, fun e4 => ?_⟩
   rotate_left
   ·have e4 : ¬ ((i + 1 : Nat) : Int) < (t.size : Int) := of_decide_eq_false e4
    refine hno hG.md ?_
    rw [hu, List.drop_of_length_le (by rw [eG]; omega)]
    first | done | rfl
   have e4 : ((i + 1 : Nat) : Int) < (t.size : Int) := of_decide_eq_true e4
   obtain ⟨q, hq, hq2⟩ := ju (s := t) (i := i + 1) (by omega)
   rw [hq, e3] at hf
   have hq255 : ¬ q = 255 := by rintro rfl; exact absurd hf (by decide)
   rw [bO hq, nR, if_neg hq255] at hu
   refine hld _ hG.md ?_
   dsimp only
   refine (W.ah _ _ _).2 ⟨⟨by omega, e4⟩, ?_⟩
   simp only [Int.toNat_natCast, hq2]
   refine (W.aa _ _ _ _).2 ⟨fun e5 => ?_, fun e5 => ?_⟩
   ·have e5 : q = 1 := by
     have : (q.toNat : Int) = 1 := eq_of_beq e5
     apply UInt8.toNat_inj.1; show q.toNat = 1; omega
    rw [if_pos e5] at hu
    refine hld _ hG.md ?_
    dsimp only
    rw [ak (k := i + 1) (by omega)]
    refine (W.ah _ _ _).2 ⟨⟨by omega, by omega, by omega⟩, ?_⟩
    refine kg (hG.md.at h (by simp)) (Nat.le_refl _) (by simp [Value.oneCell']) rfl ?_
    rintro s' rfl
    have hrow := hG.row.mod (Mod.aM (L := [r]) (by simp)) (s' := s1.aM r (.cells #[.string (t.extract ((i + 1 + 1 : Nat) : Int).toNat ((t.size : Nat) : Int).toNat)] 339 (0, 0))) (fun g hg hr => by
     have h1 := hG.fr g hg
     have : g = r := by simpa using hr
     subst this
     rw [h] at h1; cases h1)
    refine nA hrow ?_
    rw [← hR]
    have : qU (kL t) = some (⟨2, 0, kB acc⟩, (kL t).drop (i + 1 + 1)) := by
     unfold qU; rw [hu]; simp
    rw [this]
    refine ⟨rfl, (hG.md.mono (by simp)).trans (Mod.aM (by simp)), ?_⟩
    rw [PH.bA]
    show some (Obj.cells #[Value.string (t.extract (i + 1 + 1) t.size)] _ _) = _
    rw [← qK, jt]
   ·have e5 : ¬ q = 1 := by rintro rfl; exact absurd e5 (by decide)
    rw [if_neg e5] at hu
    exact hno hG.md (by rw [hu]; (first | done | rfl))
 ·intro J hJ
  refine hld _ hG.md ?_
  dsimp only
  refine (W.aa _ _ _ _).2 ⟨fun e3 => ?_, fun e3 => ?_⟩
  ·have e3 : ((i + 1 : Nat) : Int) < (t.size : Int) := of_decide_eq_true e3
   obtain ⟨q, hq, hq2⟩ := ju (s := t) (i := i + 1) (by omega)
   refine hld _ hG.md ?_
   dsimp only
   refine (W.ah _ _ _).2 ⟨⟨by omega, e3⟩, ?_⟩
   simp only [Int.toNat_natCast, hq2]
   refine hJ _ _ ⟨_, rfl, rfl, ?_⟩
   rw [hq]
   show ((q.toNat : Int) == 255) = (q == 255)
   by_cases hc : q = 255
   ·subst hc; (first | done | rfl)
   ·have h1 : (q == 255) = false := by simpa using hc
    rw [h1]
    have : ¬ (q.toNat : Int) = 255 := by
     intro he
     exact hc (UInt8.toNat_inj.1 (by show q.toNat = 255; omega))
    simpa using this
  ·have e3 : ¬ ((i + 1 : Nat) : Int) < (t.size : Int) := of_decide_eq_false e3
   refine hJ _ _ ⟨false, rfl, rfl, ?_⟩
   rw [List.getElem?_eq_none (by rw [eG]; omega)]; (first | done | rfl)
end
section
attribute [-simp] Fw.W.bD Fw.W.bB
theorem Gw.mod {α : Type} {E : cG α} {e e' : TypeId} {s0 s s' : PH} {a : Option Addr} {n c r : Nat} {l : List α} {cur : Array Value} {f : Nat × Nat} (h : Gw E e s0 s a n c l) (hr : s r = some (.cells cur e' f)) (hne : e' ≠ e) (h0 : s0 r = none) (hm : Fw.Mod [r] s s') : Gw E e s0 s' a n c l := by
 refine ⟨h.row.mod hm fun g hg hr2 => ?_, h.fr, h.md.fresh hm (by simp [h0])⟩
 have : g = r := by simpa using hr2
 subst this
 exact h.off hr hne hg
theorem Gw.aM {α : Type} {E : cG α} {e e' : TypeId} {s0 s : PH} {a : Option Addr} {n c r : Nat} {l : List α} {cur : Array Value} {f : Nat × Nat} {o : Obj} (h : Gw E e s0 s a n c l) (hr : s r = some (.cells cur e' f)) (hne : e' ≠ e) (h0 : s0 r = none) : Gw E e s0 (s.aM r o) a n c l :=
 h.mod hr hne h0 (Mod.aM (by simp))
theorem FF {P : Program} {g : FuncId} {first args : Array Value} {r : Bool × List Shape} {k : bN r.2 → W.T} {s : PH} {fn : Func} (hfn : P.funcs[g]? = some fn) (hb : fn.body.isSome = true) (hn : (fn.name == "runtime.NumGoroutine") = false) {Q : Value → PH → Prop}
  (h : bu P g (first ++ args) s Q) (hk : ∀ v s', Q v s' → ∃ x, gp r x = v ∧ k x s') : W.dK P (.func (.func g) first #[]) args r k s := by
 refine ⟨g, first, #[], rfl, ⟨fn, hfn, hb, hn⟩, ?_⟩
 have : first ++ args ++ #[] = first ++ args := by simp
 rw [this]; exact h.mono hk
def IP (o : Option (List aR)) (s : PH) (y : Value) (s' : PH) : Prop :=
 match o with
 | none => y = .tuple #[.slice none 0 0, .int .i64 20] ∧ Fw.Mod [] s s'
 | some l => ∃ a n c, y = .tuple #[.slice a n c, .int .i64 0] ∧ Gw dJ 28 s s' a n c l
def Da : Nat → List UInt8 → Option (aR × List UInt8)
 | 0, l => some (⟨0, 0, ⟨#[]⟩⟩, l)
 | 1, l => sA l
 | _, l => qU l
theorem yM {b : UInt8} {l : List UInt8} (h : 1 ≤ b.toNat) (h2 : b.toNat ≤ 3) : lD (b :: l) = Da (b.toNat - 1) l := by
 have : b = 1 ∨ b = 2 ∨ b = 3 := by
  have : b.toNat = 1 ∨ b.toNat = 2 ∨ b.toNat = 3 := by omega
  rcases this with e | e | e
  ·exact .inl (UInt8.toNat_inj.1 e)
  ·exact .inr (.inl (UInt8.toNat_inj.1 e))
  ·exact .inr (.inr (UInt8.toNat_inj.1 e))
 rcases this with rfl | rfl | rfl <;> rfl
theorem A9 {b : UInt8} {l : List UInt8} (h : b.toNat = 0 ∨ 4 ≤ b.toNat) : lD (b :: l) = none := by
 rw [lD, if_neg, if_neg, if_neg]
 ·rintro rfl; exact absurd h (by decide)
 ·rintro rfl; exact absurd h (by decide)
 ·rintro rfl; exact absurd h (by decide)
def zD (s : PH) (r : Nat) : Nat :=
 match s r with
 | some (.cells c _ _) => match c[0]? with
  | some (Value.string t) => t.size
  | _ => 0
 | _ => 0
theorem wD {s : PH} {r : Nat} {t : ByteArray} (h : s r = some (wC t)) : zD s r = t.size := by unfold zD; rw [h]; (first | done | rfl)
abbrev Db (r0 : Nat) : Obj := .cells #[.func (.func 251) #[cp r0] #[], .func (.func 252) #[cp r0] #[], .func (.func 253) #[cp r0] #[]] 341 (0, 0)
theorem vP {s : PH} (x : ByteArray) (hx : x.size ≤ 140737488351232) : ai 212 #[.string x] s (IP (fO x) s) := by
 refine Cr x _ s ?_
 unfold uv
 obtain ⟨R, hR⟩ : ∃ R, IP (fO x) s = R := ⟨_, rfl⟩
 rw [hR]
 simp only [aQ, bI, aN, aE, aS, aP, gN, bU, cZ, aU, bP, lX, cE, dh, aY, Nat.zero_add]
 refine W.bG fun r0 s1 hr0 m1 k0 => ?_
 refine W.bG fun r1 s2 hr1 m2 k1 => ?_
 have hne : r0 ≠ r1 := AG k0 hr1
 have hn1 : s r1 = none := m1.none hr1 (by simp)
 refine kg k1 (Nat.le_refl _) (by intro w hw; simp at hw; rcases hw with rfl | rfl | rfl <;> simp [Value.oneCell']) rfl ?_
 intro s3 hs3
 have k0' : s3 r0 = some (wC x) := by rw [hs3, PH.bF _ _ hne]; exact m2.at k0 (by simp)
 have k1' : s3 r1 = some (Db r0) := by rw [hs3, PH.bA]; (first | done | rfl)
 have m3 : Fw.Mod [] s s3 := by rw [hs3]; exact (m1.trans m2).bQ (.inr hn1)
 have hbad : ∀ {s' : PH}, Fw.Mod [] s s' → fO x = none → R (.tuple #[.slice none 0 0, .int .i64 20]) s' := fun hm e => by
  rw [← hR, e]; exact ⟨rfl, hm⟩
 refine ⟨fun z s' => ∃ (a : Option Addr) (n c f : Nat) (acc : List aR) (rest : List UInt8), z = ((some ⟨r0, 0, none⟩, ()), (⟨r1, 0, none⟩, ()), ((a, n, c), ()), ()) ∧ Gw dJ 28 s s' a n c acc ∧ s' r0 = some (wC (kB rest)) ∧ s' r1 = some (Db r0) ∧ rest.length < f ∧ rest.length ≤ x.size ∧ acc.length ≤ 8 ∧ mc f rest acc = fO x,
  fun z s' => zD s' r0, ⟨none, 0, 0, x.size + 1, [], kL x, rfl, Gw.nil m3, by rw [jt]; exact k0', k1', by rw [eG]; omega, by rw [eG]; omega, by simp, rfl⟩, ?_⟩
 rintro _ s4 ⟨a, n, c, f, acc, rest, rfl, hG, hr, hw, hf, hrl, h8, hd⟩
 have hld : ∀ (K : Den [CT.str] → W.T), K (kB rest, ()) s4 → W.ld [.str] ⟨r0, 0, none⟩ K s4 := fun K hk => (W.aA hr _ _ _ _).2 ⟨(kB rest, ()), rfl, hk⟩
 have hlen := hG.row.len
 simp only [dh, aY, Nat.zero_add]
 refine hld _ ?_
 dsimp only
 refine (W.aa _ _ _ _).2 ⟨fun e1 => ?_, fun e1 => ?_⟩
 rotate_left
 ·have e1 : ¬ (((kB rest).size : Nat) : Int) > 0 := of_decide_eq_false e1
  rw [cz] at e1
  have : rest = [] := List.eq_nil_of_length_eq_zero (by omega)
  subst this
  obtain ⟨g, rfl⟩ : ∃ g, f = g + 1 := ⟨f - 1, by omega⟩
  rw [mc, if_pos rfl] at hd
  rw [← hR, ← hd]
  exact ⟨a, n, c, rfl, hG⟩
 have e1 : (((kB rest).size : Nat) : Int) > 0 := of_decide_eq_true e1
 rw [cz] at e1
 obtain ⟨b, l, rfl⟩ : ∃ b l, rest = b :: l := by
  cases rest with
  | nil => simp at e1
  | cons b l => exact ⟨b, l, rfl⟩
 simp only [List.length_cons] at hf hrl e1
 obtain ⟨g, rfl⟩ : ∃ g, f = g + 1 := ⟨f - 1, by omega⟩
 have hbz : (kB (b :: l)).size = l.length + 1 := by rw [cz]; (first | done | rfl)
 refine hld _ ?_
 dsimp only
 refine (W.ah _ _ _).2 ⟨⟨by omega, by rw [hbz]; omega⟩, ?_⟩
 refine hld _ ?_
 dsimp only
 refine (W.ah _ _ _).2 ⟨⟨by omega, by rw [hbz]; omega, by omega⟩, ?_⟩
 refine kg hr (Nat.le_refl _) (by simp [Value.oneCell']) rfl ?_
 intro s5 hs5
 have hb : (kB (b :: l))[0]?.getD 0 = b := by
  obtain ⟨q, h1, h2⟩ := ju (s := kB (b :: l)) (i := 0) (by rw [hbz]; omega)
  rw [eN] at h1
  simp at h1
  rw [h2, h1]
 have hr5 : s5 r0 = some (wC (kB l)) := by
  rw [hs5, PH.bA]
  congr 3
  have : kL ((kB (b :: l)).extract 1 (kB (b :: l)).size) = l := by rw [qK, eN]; (first | done | rfl)
  rw [Int.toNat_natCast]
  show #[Value.string ((kB (b :: l)).extract 1 (kB (b :: l)).size)] = _
  rw [← this, jt, this]
 have hG5 : Gw dJ 28 s s5 a n c acc := by rw [hs5]; exact hG.aM hr (by decide) hr0
 have h15 : s5 r1 = some (Db r0) := by rw [hs5, PH.bF _ _ hne.symm]; exact hw
 rw [hb]
 have hbl := b.toNat_lt
 have hw1 : i64.wrap ((b.toNat : Nat) : Int) = (b.toNat : Int) := bW (by omega) (by omega)
 have hw2 : i64.wrap (((b.toNat : Nat) : Int) - 1) = (b.toNat : Int) - 1 := bW (by omega) (by omega)
 rw [hw1, hw2]
 rw [mc, if_neg (by simp)] at hd
 refine W.bl (fun x s' => x = ((some ⟨r0, 0, none⟩, ()), (⟨r1, 0, none⟩, ()), ((a, n, c), ()), (((b.toNat - 1 : Nat) : Int), ()), ()) ∧ s5 = s' ∧ 1 ≤ b.toNat ∧ b.toNat ≤ 3 ∧ ¬ acc.length = 8) ?_ ?_
 ·rintro _ s5 ⟨rfl, rfl, h1, h3, ha8⟩
  dsimp only
  rw [if_neg ha8, yM h1 h3] at hd
  refine (W.ah _ _ _).2 ⟨⟨by omega, by omega⟩, ?_⟩
  simp only [Int.toNat_natCast, Nat.mul_one, aY, Nat.zero_add]
  obtain ⟨F, hF⟩ : ∃ F : Nat, #[Value.func (.func 251) #[cp r0] #[], .func (.func 252) #[cp r0] #[], .func (.func 253) #[cp r0] #[]][b.toNat - 1]? = some (Value.func (.func F) #[cp r0] #[]) ∧
    (∃ fn, Tryz.prog.funcs[F]? = some fn ∧ fn.body.isSome = true ∧ (fn.name == "runtime.NumGoroutine") = false) ∧ ai F #[cp r0] s5 (A1 r0 (Da (b.toNat - 1) l) s5) := by
   have : b.toNat - 1 = 0 ∨ b.toNat - 1 = 1 ∨ b.toNat - 1 = 2 := by omega
   rcases this with e | e | e <;> rw [e]
   ·exact ⟨_, rfl, ⟨_, Tryz.func251, rfl, by kernel_rfl⟩, by have := HO hr5; rw [eN] at this; exact this⟩
   ·exact ⟨_, rfl, ⟨_, Tryz.func252, rfl, by kernel_rfl⟩, by have := Du hr5 (by rw [cz]; omega); rw [eN] at this; exact this⟩
   ·exact ⟨_, rfl, ⟨_, Tryz.func253, rfl, by kernel_rfl⟩, by have := HP hr5 (by rw [cz]; omega); rw [eN] at this; exact this⟩
  obtain ⟨hF1, ⟨fn, hfn, hfb, hfn2⟩, hc⟩ := hF
  refine (W.aA h15 _ _ _ _).2 ⟨(.func (.func F) #[cp r0] #[], ()), ?_, ?_⟩
  ·have hlt : b.toNat - 1 < 3 := by omega
   unfold Bm
   rw [if_pos (by simp; omega)]
   have : ((#[Value.func (.func 251) #[cp r0] #[], .func (.func 252) #[cp r0] #[], .func (.func 253) #[cp r0] #[]].toList.drop (b.toNat - 1)).take 1) = [Value.func (.func F) #[cp r0] #[]] := by
    rw [bO (x := Value.func (.func F) #[cp r0] #[]) (by rw [Array.getElem?_toList]; exact hF1)]; (first | done | rfl)
   rw [List.length_nil, this]; (first | done | rfl)
  dsimp only
  refine FF hfn hfb hfn2 hc ?_
  intro v s6 hq
  cases hw : Da (b.toNat - 1) l with
  | none =>
   rw [hw] at hq hd
   obtain ⟨⟨v0, rfl⟩, mq⟩ := hq
   refine ⟨(bH v0, (false, ()), ()), rfl, ?_⟩
   dsimp only
   refine (W.aa _ _ _ _).2 ⟨fun _ => hbad (hG5.md.fresh mq (by simp [hr0])) hd.symm, fun e => (by cases e)⟩
  | some q =>
   obtain ⟨v0, l2⟩ := q
   rw [hw] at hq hd
   obtain ⟨rfl, mq, hq2⟩ := hq
   refine ⟨(bH v0, (true, ()), ()), rfl, ?_⟩
   dsimp only
   have hG6 := hG5.mod hr5 (by decide) hr0 mq
   refine (W.aa _ _ _ _).2 ⟨fun e => (by cases e), fun _ => ?_⟩
   refine aL ((jW v0, ()), ()) (ow v0 s6) rfl ?_
   dsimp only at hd
   have hl2 := yL (l := b :: l) (by rw [yM h1 h3, hw])
   simp only [List.length_cons] at hl2
   refine (W.aa _ _ _ _).2 ⟨fun e => ?_, fun e => ?_⟩
   ·have hno : ¬ bC v0 = true := by intro hy; unfold jW at e; rw [if_pos hy] at e; exact absurd e (by decide)
    rw [if_neg hno] at hd
    exact hbad hG6.md hd.symm
   ·have hyes : bC v0 = true := by
     cases hy : bC v0 with
     | true => rfl
     | false => unfold jW at e; rw [hy] at e; exact absurd e (by decide)
    rw [if_pos hyes] at hd
    refine hG6.mS [v0] (k := 1) rfl rfl rfl (by omega) (by omega) fun a3 c3 s7 h7 m7 => ?_
    have hr7 := m7.at hq2 (hG6.off hq2 (by decide))
    refine ⟨⟨a3, n + 1, c3, g, acc ++ [v0], l2, rfl, h7, hr7, ?_, by omega, by omega, by simp; omega, hd⟩, ?_⟩
    ·have h16 := mq.at h15 (by simp; exact hne.symm)
     exact m7.at h16 (hG6.off h16 (by decide))
    ·rw [wD hr7, wD hr, cz, cz, List.length_cons]; omega
 ·intro J hJ
  refine (W.aa _ _ _ _).2 ⟨fun e => ?_, fun e => ?_⟩
  ·have e : (b.toNat : Int) - 1 < 0 := of_decide_eq_true e
   refine hbad hG5.md ?_
   rw [← hd, A9 (.inl (by omega))]; split <;> rfl
  have e : ¬ (b.toNat : Int) - 1 < 0 := of_decide_eq_false e
  refine (W.aa _ _ _ _).2 ⟨fun e2 => ?_, fun e2 => ?_⟩
  ·have e2 : (b.toNat : Int) - 1 ≥ 3 := of_decide_eq_true e2
   refine hbad hG5.md ?_
   rw [← hd, A9 (.inr (by omega))]; split <;> rfl
  have e2 : ¬ (b.toNat : Int) - 1 ≥ 3 := of_decide_eq_false e2
  refine (W.aa _ _ _ _).2 ⟨fun e3 => ?_, fun e3 => ?_⟩
  ·have e3 : (n : Int) = 8 := eq_of_beq e3
   refine hbad hG5.md ?_
   rw [← hd, if_pos (by omega)]
  have e3 : ¬ (n : Int) = 8 := by simpa using e3
  exact hJ _ _ ⟨by rw [show ((b.toNat - 1 : Nat) : Int) = (b.toNat : Int) - 1 by omega], rfl, by omega, by omega, by omega⟩
end
section
abbrev bf (n : Int) : aR := ⟨1, n, ⟨#[]⟩⟩
abbrev mj : aR := ⟨0, 0, ⟨#[]⟩⟩
def iG (t : Int) (v : aR) : ByteArray := (keyOf [bf 0, bf t, v]).1
def jj (i : Int) (v k : aR) : ByteArray := (keyOf [bf 1, bf i, v, k]).1
def ES (x : ByteArray) : ByteArray × ByteArray := (x, x ++ ⟨#[255]⟩)
def under (l : List aR) : ByteArray × ByteArray := ES (keyOf l).1
def oI (x : ByteArray) : Option aR := (fO x).bind fun l => l.getLast?
structure aX where
 id : Int
 v : aR
 deriving DecidableEq
def cT (c : aX) : List UInt8 := UInt8.ofNat ([bf c.id, c.v].flatMap bR).length :: [bf c.id, c.v].flatMap bR
def cY : Int → List aX → Bool
 | _, [] => true
 | last, c :: l => bC c.v && decide (last < c.id) && cY c.id l
def cR (l : List aX) : ByteArray × Int := if cY 0 l = true then (kB (l.flatMap cT), 0) else (⟨#[]⟩, 100)
def iQ : Nat → List UInt8 → Int → List aX → Option (List aX)
 | 0, _, _, _ => none
 | _ + 1, [], _, acc => some acc
 | f + 1, n :: r, last, acc => if r.length < n.toNat then none else match fO (kB (r.take n.toNat)) with
  | some [a, b] => if a.kind = 1 ∧ 1 ≤ a.n ∧ last < a.n then iQ f (r.drop n.toNat) a.n (acc ++ [⟨a.n, b⟩]) else none
  | _ => none
def gu (x : ByteArray) : Option (List aX) := iQ (x.size + 1) (kL x) 0 []
def jX : Nat → List UInt8 → List aX → Option (List aX)
 | 0, _, _ => none
 | _ + 1, [], acc => some acc
 | f + 1, n :: r, acc => if r.length < n.toNat then none else match fO (kB (r.take n.toNat)) with
  | some [a, b] => jX f (r.drop n.toNat) (acc ++ [⟨a.n, b⟩])
  | _ => none
def Bc (x : ByteArray) : Option (List aX) := (jX (x.size + 1) (kL x) []).bind fun l => if (cR l).2 = 0 ∧ (cR l).1 = x then some l else none
def bq (l : List aX) (id : Int) : aR := ((l.find? fun c => c.id == id).map (·.v)).getD mj
theorem Bj {n : Int} (h : kZ n) : jk (bf n) := ⟨rfl, h⟩
theorem GW (n : Int) : (bR (bf n)).length = 9 := rfl
theorem rY {c : aX} (h : bC c.v = true) : ([bf c.id, c.v].flatMap bR).length < 256 := by
 have h1 : (bR c.v).length ≤ 140 := by
  have e : ∀ l : List UInt8, (dY l).length ≤ 2 * l.length := by
   intro l
   induction l with
   | nil => simp [dY]
   | cons b l ih =>
    simp only [dY]
    split <;> simp <;> omega
  have h2 := e (kL c.v.s)
  rw [eG] at h2
  unfold bC at h
  unfold bR
  split
  ·simp [fq]
  ·split
   ·rename_i g1 g3
    rw [if_neg (by omega), if_neg g1, if_pos g3] at h
    simp at h
    simp; omega
   ·simp
 simp only [List.flatMap_cons, List.flatMap_nil, List.append_nil, List.length_append, GW]
 omega
theorem vU {c : aX} (h : bC c.v = true) (r : List UInt8) : ∃ n t, cT c ++ r = n :: t ∧ n.toNat = ([bf c.id, c.v].flatMap bR).length ∧ t.take n.toNat = [bf c.id, c.v].flatMap bR ∧ t.drop n.toNat = r ∧ n.toNat ≤ t.length := by
 have hl := rY h
 refine ⟨UInt8.ofNat ([bf c.id, c.v].flatMap bR).length, [bf c.id, c.v].flatMap bR ++ r, rfl, ?_, ?_, ?_, ?_⟩
 ·rw [UInt8.toNat_ofNat']; omega
 ·rw [UInt8.toNat_ofNat', Nat.mod_eq_of_lt (by omega), List.take_append_of_le_length (Nat.le_refl _), List.take_length]
 ·rw [UInt8.toNat_ofNat', Nat.mod_eq_of_lt (by omega), List.drop_append_of_le_length (Nat.le_refl _), List.drop_length]; (first | done | rfl)
 ·rw [UInt8.toNat_ofNat', Nat.mod_eq_of_lt (by omega), List.length_append]; omega
def AY (c : aX) : Prop := jk c.v ∧ kZ c.id
theorem EC {a b : aR} {l : List UInt8} (ha : jk a) (hb : jk b) (h : l = [a, b].flatMap bR) : fO (kB l) = some [a, b] := by
 rw [h]
 refine B8 ?_ (by simp)
 intro v hv
 simp at hv
 rcases hv with rfl | rfl
 ·exact ha
 ·exact hb
theorem yX : ∀ (l : List aX) (f : Nat) (last : Int) (acc : List aX), (∀ c ∈ l, AY c) → 0 ≤ last → cY last l = true → (l.flatMap cT).length < f → iQ f (l.flatMap cT) last acc = some (acc ++ l)
 | [], f, last, acc, _, _, _, hf => by
  obtain ⟨g, rfl⟩ : ∃ g, f = g + 1 := ⟨f - 1, by omega⟩
  simp [iQ]
 | c :: l, f, last, acc, h, h0, hp, hf => by
  obtain ⟨g, rfl⟩ : ∃ g, f = g + 1 := ⟨f - 1, by omega⟩
  simp only [cY, Bool.and_eq_true, decide_eq_true_eq] at hp
  obtain ⟨⟨hp1, hp2⟩, hp3⟩ := hp
  obtain ⟨n, t, e1, e2, e3, e4, e5⟩ := vU hp1 (l.flatMap cT)
  rw [List.flatMap_cons, e1] at hf
  simp only [List.length_cons] at hf
  have hc := h c (by simp)
  rw [List.flatMap_cons, e1, iQ, if_neg (by omega), EC (Bj hc.2) hc.1 e3]
  simp only
  rw [if_pos ⟨trivial, by omega, hp2⟩, e4]
  have hdl : (l.flatMap cT).length ≤ t.length := by rw [← e4, List.length_drop]; omega
  show iQ g (l.flatMap cT) c.id (acc ++ [c]) = _
  rw [yX l g c.id (acc ++ [c]) (fun x hx => h x (by simp [hx])) (by omega) hp3 (by omega)]
  simp
theorem zB : ∀ (f : Nat) (x : List UInt8) (last : Int) (acc l : List aX), iQ f x last acc = some l → 0 ≤ last → ∃ m, l = acc ++ m ∧ x = m.flatMap cT ∧ cY last m = true ∧ ∀ c ∈ m, AY c
 | 0, x, last, acc, l, h, _ => by simp [iQ] at h
 | f + 1, [], last, acc, l, h, _ => by
  simp only [iQ, Option.some.injEq] at h
  subst h
  exact ⟨[], by simp, rfl, rfl, by simp⟩
 | f + 1, n :: r, last, acc, l, h, h0 => by
  rw [iQ] at h
  split at h
  ·cases h
  ·rename_i hn
   split at h
   ·rename_i a b hk
    split at h
    ·rename_i hc
     obtain ⟨hk1, hk2, _⟩ := j0 hk
     have ha := hk2 a (by simp)
     have hb := hk2 b (by simp)
     obtain ⟨m, e1, e2, e3, e4⟩ := zB f _ _ _ _ h (by omega)
     have hcv : a = bf a.n := by
      have h1 := ha.1
      obtain ⟨ka, na, sa⟩ := a
      simp only at hc
      obtain ⟨rfl, _, _⟩ := hc
      unfold bC at h1
      simp at h1
      subst h1; (first | done | rfl)
     have hbytes : r.take n.toNat = [bf a.n, b].flatMap bR := by
      have := D1 hk1
      rw [this, ← hcv]
     have hlen : n.toNat = ([bf a.n, b].flatMap bR).length := by
      rw [← hbytes, List.length_take]; omega
     refine ⟨⟨a.n, b⟩ :: m, by rw [e1]; simp, ?_, ?_, ?_⟩
     ·rw [List.flatMap_cons, ← e2]
      unfold cT
      show n :: r = _
      rw [← hlen, ← hbytes]
      have : UInt8.ofNat n.toNat = n := by simp
      rw [this, List.cons_append, List.take_append_drop]
     ·simp only [cY, Bool.and_eq_true, decide_eq_true_eq]
      exact ⟨⟨hb.1, hc.2.2⟩, e3⟩
     ·intro c hc2
      rcases List.mem_cons.1 hc2 with rfl | hc2
      ·exact ⟨hb, ha.2⟩
      ·exact e4 c hc2
    ·cases h
   ·cases h
theorem yW {l : List aX} (h : ∀ c ∈ l, AY c) (hp : cY 0 l = true) : gu (kB (l.flatMap cT)) = some l := by
 unfold gu
 rw [cz, eN, yX l _ 0 [] h (by omega) hp (by omega)]
 simp
theorem mN {x : ByteArray} {l : List aX} (h : gu x = some l) : x = kB (l.flatMap cT) ∧ cY 0 l = true ∧ (∀ c ∈ l, AY c) ∧ cR l = (x, 0) := by
 obtain ⟨m, e1, e2, e3, e4⟩ := zB _ _ _ _ _ h (by omega)
 simp only [List.nil_append] at e1
 subst e1
 have : x = kB (l.flatMap cT) := by rw [← e2, jt]
 refine ⟨this, e3, e4, ?_⟩
 unfold cR
 rw [if_pos e3, ← this]
theorem oD : ∀ (f : Nat) (x : List UInt8) (last : Int) (acc l : List aX), iQ f x last acc = some l → jX f x acc = some l
 | 0, x, last, acc, l, h => by simp [iQ] at h
 | f + 1, [], last, acc, l, h => by simpa [iQ, jX] using h
 | f + 1, n :: r, last, acc, l, h => by
  rw [iQ] at h
  rw [jX]
  split at h
  ·cases h
  ·rename_i hn
   rw [if_neg hn]
   split at h
   ·rename_i a b hk
    split at h
    ·exact oD f _ _ _ _ h
    ·cases h
   ·cases h
theorem vY : ∀ (f : Nat) (x : List UInt8) (last : Int) (acc l : List aX), jX f x acc = some l → 0 ≤ last → ∀ m, l = acc ++ m → cY last m = true → x = m.flatMap cT → iQ f x last acc = some l
 | 0, x, last, acc, l, h, _, _, _, _, _ => by simp [jX] at h
 | f + 1, [], last, acc, l, h, _, _, _, _, _ => by simpa [iQ, jX] using h
 | f + 1, n :: r, last, acc, l, h, h0, m, hm, hp, hx => by
  rw [jX] at h
  rw [iQ]
  split at h
  ·cases h
  ·rename_i hn
   rw [if_neg hn]
   split at h
   ·rename_i a b hk
    obtain ⟨hk1, hk2, _⟩ := j0 hk
    have hk1 := D1 hk1
    have ha := hk2 a (by simp)
    have hb := hk2 b (by simp)
    -- the first cell that was written
    have hpre : ∀ (f : Nat) (x : List UInt8) (acc l : List aX), jX f x acc = some l → ∃ m, l = acc ++ m := by
     intro f
     induction f with
     | zero => intro x acc l h; simp [jX] at h
     | succ f ih =>
      intro x acc l h
      cases x with
      | nil => simp only [jX, Option.some.injEq] at h; exact ⟨[], by simp [h]⟩
      | cons n r =>
       rw [jX] at h
       split at h
       ·cases h
       ·split at h
        ·obtain ⟨m, e⟩ := ih _ _ _ h
         exact ⟨_ :: m, by rw [e]; simp; (first | done | rfl)⟩
        ·cases h
    obtain ⟨m', hm'⟩ := hpre _ _ _ _ h
    have hmm : m = ⟨a.n, b⟩ :: m' := by
     rw [hm, List.append_assoc] at hm'
     exact List.append_cancel_left hm'
    subst hmm
    simp only [cY, Bool.and_eq_true, decide_eq_true_eq] at hp
    obtain ⟨⟨hp1, hp2⟩, hp3⟩ := hp
    rw [List.flatMap_cons] at hx
    obtain ⟨n', t, e1, e2, e3, e4, e5⟩ := vU (c := ⟨a.n, b⟩) hp1 (m'.flatMap cT)
    rw [e1] at hx
    simp only [List.cons.injEq] at hx
    obtain ⟨rfl, rfl⟩ := hx
    rw [e3] at hk1
    have hk1' : [bf a.n, b].flatMap bR ++ [] = [a, b].flatMap bR ++ [] := by rw [List.append_nil, List.append_nil]; exact hk1
    have := (yT (l := [bf a.n, b]) (m := [a, b]) (by intro v hv; simp at hv; rcases hv with rfl | rfl; exact Bj ha.2; exact hb) (by intro v hv; simp at hv; rcases hv with rfl | rfl; exact ha; exact hb) rfl hk1').1
    simp only [List.cons.injEq, and_true] at this
    rw [if_pos ⟨by rw [← this], by omega, hp2⟩]
    exact vY f _ _ _ _ h (by omega) m' hm' hp3 e4
   ·cases h
theorem go_eq (x : ByteArray) : Bc x = gu x := by
 unfold Bc
 cases hg : jX (x.size + 1) (kL x) [] with
 | none =>
  cases h2 : gu x with
  | none => rfl
  | some l => rw [oD _ _ _ _ _ h2] at hg; cases hg
 | some l =>
  simp only [Option.bind_some]
  split
  ·rename_i h
   obtain ⟨h1, h2⟩ := h
   have hp : cY 0 l = true := by
    unfold cR at h1
    split at h1
    ·assumption
    ·simp at h1
   unfold cR at h2
   rw [if_pos hp] at h2
   have hx : kL x = l.flatMap cT := by rw [← h2, eN]
   exact (vY _ _ 0 [] l hg (by omega) l (by simp) hp hx).symm
  ·rename_i h
   cases h2 : gu x with
   | none => rfl
   | some m =>
    have := oD _ _ _ _ _ h2
    rw [hg] at this
    cases this
    obtain ⟨_, _, _, e⟩ := mN h2
    rw [e] at h
    exact absurd ⟨rfl, rfl⟩ h
end
section
attribute [-simp] Fw.W.bD Fw.W.bB
theorem lV {α : Type} {E : cG α} {s : PH} {r : Nat} {cur : Array Value} {e : TypeId} {l : List α} {n : Nat} (h : s r = some (.cells cur e (0, 0))) (hc : cur.toList = l.flatMap E.f) (hn : l.length = n) (hl : n ≤ 4294967296) : aW E s e (some ⟨r, 0, none⟩) n n l := by
 have hlen : cur.size = n * E.sz := by rw [← Array.length_toList, hc, dz, hn]
 refine ⟨by rw [dz, hn], Nat.le_refl _, by show n ≤ 9223372036854775807; omega, .inr ⟨r, cur, rfl, h, by omega, ?_⟩⟩
 rw [List.take_of_length_le (by rw [Array.length_toList]; omega), hc]
theorem kQ {s : PH} {r : Nat} {cur : Array Value} {e : TypeId} {l : List aR} {n : Nat} (h : s r = some (.cells cur e (0, 0))) (hc : cur.toList = l.flatMap dJ.f) (hn : l.length = n) (hl : n ≤ 4294967296) : G5 s (some ⟨r, 0, none⟩) n n l :=
 Sl.bE (lV h hc hn hl) (by omega)
abbrev mV (p : ByteArray × ByteArray) : Value := .agg #[.string p.1, .string p.2]
theorem gU (l : List aR) : (keyOf l).1.size ≤ 1120 := by
 unfold keyOf
 split
 ·exact Nat.zero_le _
 ·split
  ·exact Nat.zero_le _
  ·rename_i h1 h2
   rw [cz]
   have : ∀ v ∈ l, bC v = true := fun v hv => by
    have h3 : mF l = false := by simpa using h2
    unfold mF at h3
    rw [List.any_eq_false] at h3
    simpa using h3 v hv
   have := sQ this
   omega
theorem tj {s : PH} {a : Option Addr} {n c : Nat} {l : List aR} (h : G5 s a n c l) : ai 208 #[.slice a n c] s fun y s' => y = .string (keyOf l).1 ∧ s' = s := by
 refine It a n c _ s ?_
 unfold BF
 simp only [aU, aE]
 exact aL (((keyOf l).1, ()), ((keyOf l).2, ()), ()) (vQ h) rfl ⟨rfl, rfl⟩
theorem jU (n : Int) (s : PH) : ai 209 #[.int .i64 n] s fun y s' => y = eX (bf n) ∧ s' = s := by
 refine Iu n _ s ?_
 unfold BG
 exact ⟨rfl, rfl⟩
theorem yt (x : ByteArray) (hx : x.size ≤ 1000000) (s : PH) : ai 207 #[.string x] s fun y s' => y = mV (ES x) ∧ s' = s := by
 refine Ee x _ s ?_
 unfold wU
 exact ⟨by omega, rfl, rfl⟩
theorem Dz (t : Int) (v : aR) (s : PH) : ai 162 #[.int .i64 t, eX v] s fun y s' => y = .string (iG t v) ∧ s' = s := by
 refine bu.quiet (Is t v.kind v.n v.s _ s ?_)
 unfold BE
 simp only [bP, aU, bU, aE]
 refine W.bX (bH (bf 0), ()) (jU 0 s) rfl ?_
 refine W.bX (bH (bf t), ()) (jU t s) rfl ?_
 refine W.bG fun r s1 hr m1 k1 => ?_
 exact aL ((iG t v, ()), ()) (tj (kQ (l := [bf 0, bf t, v]) k1 rfl rfl (by omega))) rfl ⟨rfl, m1⟩
theorem yu (i : Int) (v k : aR) (s : PH) : ai 154 #[.int .i64 i, eX v, eX k] s fun y s' => y = .string (jj i v k) ∧ s' = s := by
 refine bu.quiet (Ep i v.kind v.n v.s k.kind k.n k.s _ s ?_)
 unfold xb
 simp only [bP, aU, bU, aE]
 refine W.bX (bH (bf 1), ()) (jU 1 s) rfl ?_
 refine W.bX (bH (bf i), ()) (jU i s) rfl ?_
 refine W.bG fun r s1 hr m1 k1 => ?_
 exact aL ((jj i v k, ()), ()) (tj (kQ (l := [bf 1, bf i, v, k]) k1 rfl rfl (by omega))) rfl ⟨rfl, m1⟩
theorem FC (t : Int) (s : PH) : ai 210 #[.int .i64 t] s fun y s' => y = mV (under [bf 0, bf t]) ∧ s' = s := by
 refine bu.quiet (Es t _ s ?_)
 unfold xe
 simp only [bP, aU, bU, aE]
 refine aL (bH (bf 0), ()) (jU 0 s) rfl ?_
 refine aL (bH (bf t), ()) (jU t s) rfl ?_
 refine W.bG fun r s1 hr m1 k1 => ?_
 refine aL (((keyOf [bf 0, bf t]).1, ()), ()) (tj (kQ (l := [bf 0, bf t]) k1 rfl rfl (by omega))) rfl ?_
 have hs := gU [bf 0, bf t]
 exact aL (((under [bf 0, bf t]).1, (under [bf 0, bf t]).2, ()), ()) (yt _ (by dsimp only; omega) s1) rfl ⟨rfl, m1⟩
theorem yw (i : Int) (v : aR) (s : PH) : ai 153 #[.int .i64 i, eX v] s fun y s' => y = mV (under [bf 1, bf i, v]) ∧ s' = s := by
 refine bu.quiet (Er i v.kind v.n v.s _ s ?_)
 unfold xd
 simp only [bP, aU, bU, aE]
 refine W.bX (bH (bf 1), ()) (jU 1 s) rfl ?_
 refine W.bX (bH (bf i), ()) (jU i s) rfl ?_
 refine W.bG fun r s1 hr m1 k1 => ?_
 refine aL (((keyOf [bf 1, bf i, v]).1, ()), ()) (tj (kQ (l := [bf 1, bf i, v]) k1 rfl rfl (by omega))) rfl ?_
 have hs := gU [bf 1, bf i, v]
 exact aL (((under [bf 1, bf i, v]).1, (under [bf 1, bf i, v]).2, ()), ()) (yt _ (by dsimp only; omega) s1) rfl ⟨rfl, m1⟩
def tI (x : ByteArray) : Value := match oI x with | some v => .tuple #[eX v, .int .i64 0] | none => .tuple #[eX mj, .int .i64 20]
theorem yx (x : ByteArray) (hx : x.size ≤ 140737488351232) (s : PH) : ai 150 #[.string x] s fun y s' => y = tI x ∧ s' = s := by
 refine bu.quiet (Iq x _ s ?_)
 unfold BC tI oI
 obtain ⟨O, hO⟩ : ∃ O, fO x = O := ⟨_, rfl⟩
 simp only [aU, aN, aE, aP, aQ, bI]
 refine W.au (vP x hx) ?_
 rw [hO]
 intro y s1 hq
 cases O with
 | none =>
  obtain ⟨rfl, m1⟩ := hq
  refine ⟨(((none, 0, 0), ()), (20, ()), ()), rfl, ?_⟩
  exact (W.aa _ _ _ _).2 ⟨fun _ => ⟨rfl, m1⟩, fun e => (by cases e)⟩
 | some l =>
  obtain ⟨a, n, c, rfl, hG⟩ := hq
  have hlen := hG.row.len
  have h8 := (j0 hO).2.2
  refine ⟨(((a, n, c), ()), (0, ()), ()), rfl, ?_⟩
  dsimp only
  refine (W.aa _ _ _ _).2 ⟨fun e => (by cases e), fun _ => (W.aa _ _ _ _).2 ⟨fun e => ?_, fun e => ?_⟩⟩
  ·have e : (n : Int) = 0 := eq_of_beq e
   have : l = [] := List.eq_nil_of_length_eq_zero (by omega)
   subst this
   exact ⟨rfl, hG.md⟩
  ·have e : ¬ (n : Int) = 0 := by simpa using e
   have hw : i64.wrap ((n : Int) - 1) = ((n - 1 : Nat) : Int) := by rw [bW (by omega) (by omega)]; omega
   rw [hw]
   refine (W.ah _ _ _).2 ⟨⟨by omega, by omega⟩, ?_⟩
   obtain ⟨v, hv⟩ : ∃ v, l[n - 1]? = some v := ⟨_, List.getElem?_eq_getElem (by omega)⟩
   obtain ⟨g, rfl, hh⟩ := hG.row.at hv
   simp only [dh, Int.toNat_natCast, aY, Nat.zero_add]
   have hh : s1.has ⟨g, (n - 1) * 3, none⟩ (dJ.f v) := hh
   refine aC hh (y := bH v) rfl ?_
   have : l.getLast? = some v := by rw [List.getLast?_eq_getElem?, ← hlen, hv]
   show _ ∧ _
   simp only [Option.bind_some, this]
   exact ⟨trivial, hG.md⟩
def bx : cG aX where
 sz := 4
 f c := [.int .i64 c.id, .int .i64 c.v.kind, .int .i64 c.v.n, .string c.v.s]
 len _ := rfl
 one p v hv := by simp at hv; rcases hv with rfl | rfl | rfl | rfl <;> rfl
 pos := by omega
abbrev yD (c : aX) : Den [.int .i64, .int .i64, .int .i64, .str] := (c.id, c.v.kind, c.v.n, c.v.s, ())
theorem kR {s : PH} {a : Option Addr} {n c : Nat} {l : List aX} (h : Sl bx s (a, n, c) l) (id : Int) : ai 127 #[.slice a n c, .int .i64 id] s fun y s' => y = eX (bq l id) ∧ s' = s := by
 refine Jy a n c id _ s ?_
 unfold E4
 obtain ⟨R, hR⟩ : ∃ R : Value → PH → Prop, (fun y s' => y = eX (bq l id) ∧ s' = s) = R := ⟨_, rfl⟩
 rw [hR]
 have hlen : n = l.length := h.len
 have hfew := h.cF
 simp only [aS, aN, aE, aP, aQ, bI]
 refine ⟨fun z s' => ∃ k : Nat, z = ((0, 0, ⟨#[]⟩, ()), ((a, n, c), ()), ((n : Int), ()), ((k : Int), ()), ()) ∧ k ≤ n ∧ s' = s ∧ bq (l.drop k) id = bq l id, fun z _ => n - z.2.2.2.1.1.toNat, ⟨0, rfl, Nat.zero_le _, rfl, rfl⟩, ?_⟩
 rintro _ s ⟨k, rfl, hk, rfl, ho⟩
 dsimp only
 refine (W.aa _ _ _ _).2 ⟨fun e => ?_, fun e => ?_⟩
 ·have hlt : (k : Int) < (n : Int) := of_decide_eq_true e
  obtain ⟨x, hx⟩ : ∃ x, l[k]? = some x := ⟨_, List.getElem?_eq_getElem (by omega)⟩
  obtain ⟨ad, had, hh⟩ := h.el.aB hx
  dsimp only at had
  subst had
  refine (W.ah _ _ _).2 ⟨⟨by omega, hlt⟩, ?_⟩
  simp only [dh, Int.toNat_natCast]
  have hh : s.has (ad.add (k * 4)) (bx.f x) := hh
  refine aC hh (y := yD x) rfl ?_
  rw [bO hx] at ho
  unfold bq at ho
  rw [List.find?_cons] at ho
  refine (W.aa _ _ _ _).2 ⟨fun e2 => ?_, fun e2 => ?_⟩
  ·have e2 : (x.id == id) = true := e2
   rw [e2] at ho
   rw [← hR]
   refine ⟨?_, rfl⟩
   unfold bq
   rw [← ho]; (first | done | rfl)
  ·have e2 : (x.id == id) = false := e2
   rw [e2] at ho
   rw [ak (k := k) (by omega)]
   exact ⟨⟨k + 1, rfl, by omega, rfl, ho⟩, by simp only [Int.toNat_natCast]; omega⟩
 ·have e : ¬ (k : Int) < (n : Int) := of_decide_eq_false e
  rw [List.drop_of_length_le (by omega)] at ho
  rw [← hR]
  exact ⟨by rw [← ho]; (first | done | rfl), rfl⟩
theorem keyOf_pair {c : aX} (h : bC c.v = true) : keyOf [bf c.id, c.v] = (kB ([bf c.id, c.v].flatMap bR), 0) := sw (by intro v hv; simp at hv; rcases hv with rfl | rfl; rfl; exact h) (by simp)
theorem vl {c : aX} (h : ¬ bC c.v = true) : (keyOf [bf c.id, c.v]).2 = 10 := by
 unfold keyOf
 rw [if_neg (by simp), if_pos]
 unfold mF
 simp [h]
theorem tP : ∀ (l : List aX) (c : aX) (last : Int), cY last (l ++ [c]) = (cY last l && (bC c.v && decide (((l.getLast?).map (·.id)).getD last < c.id)))
 | [], c, last => by
  show (bC c.v && decide (last < c.id) && true) = (true && (bC c.v && decide (last < c.id)))
  rw [Bool.and_true, Bool.true_and]
 | x :: l, c, last => by
  have e : (((x :: l).getLast?).map (·.id)).getD last = ((l.getLast?).map (·.id)).getD x.id := by
   rw [List.getLast?_cons]
   cases l.getLast? <;> rfl
  rw [e]
  simp only [List.cons_append, cY, tP l c x.id, Bool.and_assoc]
theorem wB : ∀ (l m : List aX) (last : Int), cY last (l ++ m) = true → cY last l = true
 | [], m, last, _ => rfl
 | x :: l, m, last, h => by
  simp only [List.cons_append, cY, Bool.and_eq_true] at h ⊢
  exact ⟨h.1, wB l m x.id h.2⟩
theorem Bl {l : List aX} {k : Nat} (h : cY 0 (l.take k) = false) : cR l = (⟨#[]⟩, 100) := by
 unfold cR
 rw [if_neg]
 intro hy
 have := wB (l.take k) (l.drop k) 0 (by rw [List.take_append_drop]; exact hy)
 rw [h] at this; cases this
theorem vW {l : List aX} (h : ∀ c ∈ l, bC c.v = true) : (l.flatMap cT).length ≤ 256 * l.length := by
 induction l with
 | nil => simp
 | cons c l ih =>
  have h1 := rY (h c (by simp))
  have h2 := ih fun x hx => h x (by simp [hx])
  rw [List.flatMap_cons, List.length_append, List.length_cons]
  have : (cT c).length = ([bf c.id, c.v].flatMap bR).length + 1 := rfl
  omega
theorem tQ : ∀ {l : List aX} {last : Int}, cY last l = true → ∀ c ∈ l, bC c.v = true
 | [], last, _ => by simp
 | x :: l, last, h => by
  simp only [cY, Bool.and_eq_true] at h
  intro c hc
  rcases List.mem_cons.1 hc with rfl | hc
  ·exact h.1.1
  ·exact tQ h.2 c hc
def nI (l : List aX) : Int := ((l.getLast?).map (·.id)).getD 0
theorem FX {n : Nat} (h : n < 256) : u8.wrap ((n : Nat) : Int) = ((UInt8.ofNat n).toNat : Int) := by
 rw [w8, UInt8.toNat_ofNat']; omega
theorem Dy {s : PH} {a : Option Addr} {n c : Nat} {l : List aX} (h : Sl bx s (a, n, c) l) : ai 158 #[.slice a n c] s fun y s' => y = .tuple #[.string (cR l).1, .int .i64 (cR l).2] ∧ s' = s := by
 refine bu.quiet (Ir a n c _ s ?_)
 unfold BD
 obtain ⟨R, hR⟩ : ∃ R : Value → PH → Prop, (fun y s' => y = .tuple #[.string (cR l).1, .int .i64 (cR l).2] ∧ Fw.Mod [] s s') = R := ⟨_, rfl⟩
 rw [hR]
 have hlen : n = l.length := h.len
 have hfew := h.cF
 simp only [aS, aN, aE, aP, aQ, bI, bP, aU, bU, sX]
 refine ⟨fun z s' => ∃ k : Nat, z = ((kB ((l.take k).flatMap cT), ()), (nI (l.take k), ()), ((a, n, c), ()), ((n : Int), ()), ((k : Int), ()), ()) ∧ k ≤ n ∧ Fw.Mod [] s s' ∧ cY 0 (l.take k) = true, fun z _ => n - z.2.2.2.2.1.1.toNat, ⟨0, rfl, Nat.zero_le _, Mod.refl _ _, rfl⟩, ?_⟩
 rintro _ s1 ⟨k, rfl, hk, m1, hp⟩
 dsimp only
 refine (W.aa _ _ _ _).2 ⟨fun e => ?_, fun e => ?_⟩
 ·have hlt : (k : Int) < (n : Int) := of_decide_eq_true e
  obtain ⟨x, hx⟩ : ∃ x, l[k]? = some x := ⟨_, List.getElem?_eq_getElem (by omega)⟩
  have htk : l.take (k + 1) = l.take k ++ [x] := by rw [List.take_add_one, hx]; (first | done | rfl)
  obtain ⟨ad, had, hh⟩ := (h.el.mono m1.le).aB hx
  dsimp only at had
  subst had
  refine (W.ah _ _ _).2 ⟨⟨by omega, hlt⟩, ?_⟩
  simp only [dh, Int.toNat_natCast]
  have hh : s1.has (ad.add (k * 4)) (bx.f x) := hh
  refine aC hh (y := yD x) rfl ?_
  dsimp only
  refine W.bX (bH (bf x.id), ()) (jU _ s1) rfl ?_
  refine W.bG fun r s2 hr m2 k2 => ?_
  refine aL (((keyOf [bf x.id, x.v]).1, ()), ((keyOf [bf x.id, x.v]).2, ()), ()) (vQ (kQ (l := [bf x.id, x.v]) k2 rfl rfl (by omega))) rfl ?_
  have m12 := m1.trans m2
  have hpk : cY 0 (l.take (k + 1)) = (bC x.v && decide (nI (l.take k) < x.id)) := by
   rw [htk, tP, hp]; (first | done | rfl)
  dsimp only
  refine (W.aa _ _ _ _).2 ⟨fun e1 => ?_, fun e1 => ?_⟩
  ·have hno : ¬ bC x.v = true := by intro hy; rw [keyOf_pair hy] at e1; simp at e1
   rw [← hR, Bl (k := k + 1) (by rw [hpk]; simp [hno])]
   exact ⟨rfl, m12⟩
  have hyes : bC x.v = true := by
   cases hy : bC x.v with
   | true => rfl
   | false => rw [vl (by rw [hy]; decide)] at e1; simp at e1
  rw [hyes, Bool.true_and] at hpk
  refine (W.aa _ _ _ _).2 ⟨fun e2 => ?_, fun e2 => ?_⟩
  ·have e2 : x.id ≤ nI (l.take k) := of_decide_eq_true e2
   rw [← hR, Bl (k := k + 1) (by rw [hpk]; simp; omega)]
   exact ⟨rfl, m12⟩
  have e2 : ¬ x.id ≤ nI (l.take k) := of_decide_eq_false e2
  have hpk : cY 0 (l.take (k + 1)) = true := by rw [hpk]; simp; omega
  rw [keyOf_pair hyes]
  have hcl := rY hyes
  have hkl := vW (tQ hp)
  rw [List.length_take] at hkl
  dsimp only
  rw [cz, FX hcl]
  refine W.bG fun r2 s3 hr2 m3 k3 => ?_
  refine nA (lV (E := nB) (l := [UInt8.ofNat ([bf x.id, x.v].flatMap bR).length]) k3 rfl rfl (by omega)) ?_
  rw [← qd, ← qd, cz, cz]
  refine (W.ah _ _ _).2 ⟨by simp only [List.length_cons, List.length_nil]; omega, (W.ah _ _ _).2 ⟨?_, ?_⟩⟩
  ·rw [cz, List.length_append]
   simp only [List.length_cons, List.length_nil]; omega
  rw [ak (k := k) (by omega)]
  refine ⟨⟨k + 1, ?_, by omega, m12.trans m3, hpk⟩, by simp only [Int.toNat_natCast]; omega⟩
  have h1 : nI (l.take (k + 1)) = x.id := by unfold nI; rw [htk]; simp
  rw [h1, htk, List.flatMap_append]
  simp [cT]
 ·have e : ¬ (k : Int) < (n : Int) := of_decide_eq_false e
  rw [List.take_of_length_le (by omega)] at hp ⊢
  rw [← hR]
  refine ⟨?_, m1⟩
  unfold cR
  rw [if_pos hp]
end
section
attribute [-simp] Fw.W.bD Fw.W.bB
def IQ (o : Option (List aX)) (s : PH) (y : Value) (s' : PH) : Prop :=
 match o with
 | none => y = .tuple #[.slice none 0 0, .int .i64 100] ∧ Fw.Mod [] s s'
 | some l => ∃ a n c, y = .tuple #[.slice a n c, .int .i64 0] ∧ Gw bx 94 s s' a n c l
theorem Jr {b : UInt8} {r : List UInt8} {n : Nat} : (kB (b :: r)).extract 1 (1 + n) = kB (r.take n) := by
 apply qe
 rw [tF, eN, eN, List.extract_eq_take_drop, List.drop_one, List.tail_cons, show 1 + n - 1 = n by omega]
theorem Bf {b : UInt8} {r : List UInt8} {n : Nat} : (kB (b :: r)).extract (1 + n) (kB (b :: r)).size = kB (r.drop n) := by
 apply qe
 rw [qK, eN, eN, show 1 + n = n + 1 by omega, List.drop_succ_cons]
theorem Ia (b : UInt8) (r : List UInt8) : (kB (b :: r))[0]?.getD 0 = b := by
 obtain ⟨q, h1, h2⟩ := ju (s := kB (b :: r)) (i := 0) (by rw [cz]; simp)
 rw [eN] at h1
 simp at h1
 rw [h2, h1]
theorem Ja {s : PH} (x : ByteArray) (hx : x.size ≤ 4000000) : ai 211 #[.string x] s (IQ (gu x) s) := by
 refine Ip x _ s ?_
 unfold BB
 rw [← go_eq]
 obtain ⟨R, hR⟩ : ∃ R, IQ (Bc x) s = R := ⟨_, rfl⟩
 rw [hR]
 simp only [aS, aN, aE, aP, aQ, bI, bP, aU, bU, cZ, cE]
 have hbad : ∀ {s' : PH}, Fw.Mod [] s s' → jX (x.size + 1) (kL x) [] = none → R (.tuple #[.slice none 0 0, .int .i64 100]) s' := fun hm e => by
  rw [← hR]; unfold Bc; rw [e]; exact ⟨rfl, hm⟩
 refine ⟨fun z s' => ∃ (a : Option Addr) (n c f : Nat) (acc : List aX) (rest : List UInt8), z = (((a, n, c), ()), (kB rest, ()), ()) ∧ Gw bx 94 s s' a n c acc ∧ rest.length < f ∧ n + rest.length ≤ x.size ∧ jX f rest acc = jX (x.size + 1) (kL x) [],
  fun z _ => z.2.1.1.size, ⟨none, 0, 0, x.size + 1, [], kL x, by rw [jt], Gw.nil (Mod.refl _ _), by rw [eG]; omega, by rw [eG]; omega, rfl⟩, ?_⟩
 rintro _ s1 ⟨a, n, c, f, acc, rest, rfl, hG, hf, hn, hg⟩
 have hlen := hG.row.len
 dsimp only
 refine (W.aa _ _ _ _).2 ⟨fun e1 => ?_, fun e1 => ?_⟩
 rotate_left
 ·have e1 : ¬ (((kB rest).size : Nat) : Int) > 0 := of_decide_eq_false e1
  rw [cz] at e1
  have : rest = [] := List.eq_nil_of_length_eq_zero (by omega)
  subst this
  obtain ⟨g, rfl⟩ : ∃ g, f = g + 1 := ⟨f - 1, by omega⟩
  rw [jX] at hg
  refine aL (((cR acc).1, ()), ((cR acc).2, ()), ()) (Dy (Sl.bE hG.row (by omega))) rfl ?_
  have hgo : Bc x = if (cR acc).2 = 0 ∧ (cR acc).1 = x then some acc else none := by unfold Bc; rw [← hg]; (first | done | rfl)
  dsimp only
  refine (W.aa _ _ _ _).2 ⟨fun e2 => ?_, fun e2 => (W.aa _ _ _ _).2 ⟨fun e3 => ?_, fun e3 => ?_⟩⟩
  ·have e2 : ¬ (cR acc).2 = 0 := by simpa using e2
   rw [if_neg (by simp [e2])] at hgo
   rw [← hR, hgo]; exact ⟨rfl, hG.md⟩
  ·have e3 : ¬ (cR acc).1 = x := by rw [bL] at e3; simpa using e3
   rw [if_neg (by simp [e3])] at hgo
   rw [← hR, hgo]; exact ⟨rfl, hG.md⟩
  ·have e2 : (cR acc).2 = 0 := by simpa using e2
   have e3 : (cR acc).1 = x := by rw [bL] at e3; simpa using e3
   rw [if_pos ⟨e2, e3⟩] at hgo
   rw [← hR, hgo]; exact ⟨a, n, c, rfl, hG⟩
 have e1 : (((kB rest).size : Nat) : Int) > 0 := of_decide_eq_true e1
 rw [cz] at e1
 obtain ⟨b, r, rfl⟩ : ∃ b r, rest = b :: r := by
  cases rest with
  | nil => simp at e1
  | cons b r => exact ⟨b, r, rfl⟩
 simp only [List.length_cons] at hf hn e1
 obtain ⟨g, rfl⟩ : ∃ g, f = g + 1 := ⟨f - 1, by omega⟩
 have hbz : (kB (b :: r)).size = r.length + 1 := by rw [cz]; (first | done | rfl)
 rw [jX] at hg
 refine (W.ah _ _ _).2 ⟨⟨by omega, by rw [hbz]; omega⟩, ?_⟩
 rw [Ia]
 have hbl := b.toNat_lt
 have hw1 : i64.wrap ((b.toNat : Nat) : Int) = (b.toNat : Int) := bW (by omega) (by omega)
 rw [hw1]
 have hw2 : i64.wrap (1 + ((b.toNat : Nat) : Int)) = ((1 + b.toNat : Nat) : Int) := by rw [bW (by omega) (by omega)]; omega
 refine (W.aa _ _ _ _).2 ⟨fun e2 => ?_, fun e2 => ?_⟩
 ·have e2 : (b.toNat : Int) ≥ (((kB (b :: r)).size : Nat) : Int) := of_decide_eq_true e2
  rw [hbz] at e2
  rw [if_pos (by omega)] at hg
  exact hbad hG.md hg.symm
 have e2 : ¬ (b.toNat : Int) ≥ (((kB (b :: r)).size : Nat) : Int) := of_decide_eq_false e2
 rw [hbz] at e2
 rw [if_neg (by omega)] at hg
 rw [hw2, Int.toNat_natCast, Jr]
 refine (W.ah _ _ _).2 ⟨⟨by omega, by omega, by rw [hbz]; omega⟩, ?_⟩
 refine W.au (vP (kB (r.take b.toNat)) (by rw [cz, List.length_take]; omega)) ?_
 intro y s2 hq
 cases hk : fO (kB (r.take b.toNat)) with
 | none =>
  rw [hk] at hq hg
  obtain ⟨rfl, m2⟩ := hq
  refine ⟨(((none, 0, 0), ()), (20, ()), ()), rfl, ?_⟩
  dsimp only
  refine W.bl (fun _ _ => False) (fun _ _ h => h.elim) fun J hJ => ?_
  exact (W.aa _ _ _ _).2 ⟨fun _ => hbad (hG.md.trans m2) hg.symm, fun e => (by cases e)⟩
 | some l =>
  rw [hk] at hq hg
  obtain ⟨a2, n2, c2, rfl, hV⟩ := hq
  have hl2 := hV.row.len
  have h8 := (j0 hk).2.2
  refine ⟨(((a2, n2, c2), ()), (0, ()), ()), rfl, ?_⟩
  dsimp only
  have hG2 := hG.same hV.md
  refine W.bl (fun z s' => ∃ p q, z = (((a, n, c), ()), (kB (b :: r), ()), ((b.toNat : Int), ()), ((a2, 2, c2), ()), ()) ∧ l = [p, q] ∧ s2 = s') ?_ ?_
  ·rintro _ s2 ⟨p, q, rfl, rfl, rfl⟩
   have hn2 : n2 = 2 := hl2
   subst hn2
   simp only at hg
   dsimp only
   refine (W.ah _ _ _).2 ⟨⟨by omega, by omega⟩, ?_⟩
   obtain ⟨gb, rfl, hh0⟩ := hV.row.at (i := 0) (x := p) rfl
   obtain ⟨_, h1, hh1⟩ := hV.row.at (i := 1) (x := q) rfl
   cases h1
   simp only [dh, aY, Nat.zero_add]
   have hh0 : s2.has ⟨gb, 0, none⟩ (dJ.f p) := hh0
   have hh1 : s2.has ⟨gb, 3, none⟩ (dJ.f q) := hh1
   refine bz (j := 1) hh0 (y := (p.n, ())) rfl ?_
   refine (W.ah _ _ _).2 ⟨⟨by omega, by omega⟩, ?_⟩
   refine aC hh1 (y := bH q) rfl ?_
   refine hG2.push [⟨p.n, q⟩] (k := 1) rfl rfl rfl (by omega) (by omega) fun a3 c3 s3 h3 => ?_
   rw [hw2, Int.toNat_natCast, Int.toNat_natCast]
   refine (W.ah _ _ _).2 ⟨⟨by omega, by rw [hbz]; omega, by omega⟩, ?_⟩
   refine ⟨⟨a3, n + 1, c3, g, acc ++ [⟨p.n, q⟩], r.drop b.toNat, ?_, h3, by rw [List.length_drop]; omega, by rw [List.length_drop]; omega, hg⟩, ?_⟩
   ·rw [Bf]
   ·rw [Bf, hbz, cz, List.length_drop]; omega
  ·intro J hJ
   refine (W.aa _ _ _ _).2 ⟨fun e => (by cases e), fun _ => (W.aa _ _ _ _).2 ⟨fun e => ?_, fun e => ?_⟩⟩
   ·have e : ¬ (n2 : Int) = 2 := by simpa using e
    refine hbad hG2.md ?_
    rw [← hg]
    match l, hl2 with
    | [], _ => rfl
    | [_], _ => rfl
    | [_, _], h => exact absurd (by simp at h; omega) e
    | _ :: _ :: _ :: _, _ => rfl
   ·have e : (n2 : Int) = 2 := by simpa using e
    have hn2 : n2 = 2 := by omega
    subst hn2
    match l, hl2 with
    | [p, q], _ => exact hJ _ _ ⟨p, q, rfl, rfl, rfl⟩
end
section
attribute [-simp] Fw.W.bD Fw.W.bB
def fz : List UInt8 → List UInt8 → Int
 | [], [] => 0
 | [], _ :: _ => -1
 | _ :: _, [] => 1
 | a :: x, b :: y => if a.toNat < b.toNat then -1 else if b.toNat < a.toNat then 1 else fz x y
def cP (x y : ByteArray) : Int := fz (kL x) (kL y)
theorem mH (x y : ByteArray) (hx : x.size ≤ 9223372036854775806) (s : PH) : ai 44 #[.string x, .string y] s fun v s' => v = .int .i64 (cP x y) ∧ s' = s := by
 refine Cv x y _ s ?_
 unfold uA
 simp only [aS]
 refine ⟨fun z s' => s' = s ∧ ∃ i : Nat, z = (((i : Int), ()), ()) ∧ i ≤ x.size ∧ i ≤ y.size ∧ cP x y = fz ((kL x).drop i) ((kL y).drop i), fun z _ => x.size - z.1.1.toNat, ⟨rfl, 0, rfl, Nat.zero_le _, Nat.zero_le _, rfl⟩, ?_⟩
 rintro _ s ⟨rfl, i, rfl, h1, h2, h3⟩
 have hdx : x.size ≤ i → (kL x).drop i = [] := fun h => List.drop_eq_nil_of_le (by rw [eG]; exact h)
 have hdy : y.size ≤ i → (kL y).drop i = [] := fun h => List.drop_eq_nil_of_le (by rw [eG]; exact h)
 have hl : ∀ {u v : Nat}, u ≤ v → v ≤ u → u = v := fun a b => Nat.le_antisymm a b
 simp only [aN, W.aa, aP, W.ah, aE, W.nM, decide_eq_true_eq, decide_eq_false_iff_not]
 have tail : ¬ (i < x.size ∧ i < y.size) → ((↑x.size : Int) < ↑y.size → Value.int IntKind.i64 (-1) = Value.int IntKind.i64 (cP x y) ∧ True) ∧
   (¬ (↑x.size : Int) < ↑y.size → ((↑x.size : Int) > ↑y.size → Value.int IntKind.i64 1 = Value.int IntKind.i64 (cP x y) ∧ True) ∧ (¬ (↑x.size : Int) > ↑y.size → Value.int IntKind.i64 0 = Value.int IntKind.i64 (cP x y) ∧ True)) := by
  intro hnot
  rcases Nat.lt_or_ge i x.size with a | a
  ·have b : y.size ≤ i := by omega
   obtain ⟨u, hu, _⟩ := ju (s := x) (i := i) a
   rw [hdy b, bO hu] at h3
   simp only [fz] at h3
   refine ⟨fun h => ?_, fun _ => ⟨fun _ => by rw [h3]; exact ⟨rfl, trivial⟩, fun h => ?_⟩⟩ <;> omega
  ·rcases Nat.lt_or_ge i y.size with b | b
   ·obtain ⟨u, hu, _⟩ := ju (s := y) (i := i) b
    rw [hdx a, bO hu] at h3
    simp only [fz] at h3
    refine ⟨fun h => by rw [h3]; exact ⟨rfl, trivial⟩, fun h => ?_⟩
    omega
   ·rw [hdx a, hdy b] at h3
    simp only [fz] at h3
    refine ⟨fun h => by omega, fun h => ⟨fun h => by omega, fun h => by rw [h3]; exact ⟨rfl, trivial⟩⟩⟩
 refine ⟨fun a => ⟨fun b => ?_, fun b => tail (by omega)⟩, fun a => tail (by omega)⟩
 have a' : i < x.size := by omega
 have b' : i < y.size := by omega
 obtain ⟨u, hu, hu2⟩ := ju (s := x) (i := i) a'
 obtain ⟨v, hv, hv2⟩ := ju (s := y) (i := i) b'
 rw [bO hu, bO hv] at h3
 simp only [fz] at h3
 have e : ((i : Int)).toNat = i := rfl
 simp only [e, hu2, hv2]
 have hw : i64.wrap ((i : Int) + 1) = ((i + 1 : Nat) : Int) := by rw [bW (by omega) (by omega)]; simp
 refine ⟨⟨by omega, a⟩, ⟨by omega, b⟩, fun h => ?_, fun h => ⟨⟨by omega, a⟩, ⟨by omega, b⟩, fun g => ?_, fun g => ?_⟩⟩
 ·rw [if_pos (by omega)] at h3; rw [h3]; exact ⟨rfl, trivial⟩
 ·rw [if_neg (by omega), if_pos (by omega)] at h3; rw [h3]; exact ⟨rfl, trivial⟩
 ·rw [if_neg (by omega), if_neg (by omega)] at h3
  rw [hw]
  refine ⟨⟨trivial, i + 1, rfl, by omega, by omega, h3⟩, ?_⟩
  simp only [Int.toNat_natCast]; omega
theorem th (n : Int) (s : PH) : ai 30 #[.int .i64 n] s fun y s' => y = eX (bf n) ∧ s' = s := by
 refine Il n _ s ?_
 unfold By
 exact ⟨rfl, rfl⟩
theorem I8 {v : aR} (hv : bC v = true) (s : PH) : ai 141 #[eX v] s fun y s' => y = .string (kB (bR v)) ∧ s' = s := by
 refine bu.quiet (Im v.kind v.n v.s _ s ?_)
 unfold Bz
 have hk := uh hv
 simp only [bU, cZ, aN, aS, aP, aE, cE, sX]
 have hd : u8.wrap (i64.wrap (v.kind + 1)) = ((UInt8.ofNat ((1 + v.kind) % 256).toNat).toNat : Int) := by
  rcases hk with e | e | e <;> rw [e] <;> rfl
 refine W.bG fun r s1 hr m1 k1 => ?_
 obtain ⟨D, hD⟩ : ∃ D, UInt8.ofNat ((1 + v.kind) % 256).toNat = D := ⟨_, rfl⟩
 rw [hD] at hd
 rw [hd] at k1
 have h1 : Gw nB 5 s s1 (some ⟨r, 0, none⟩) 1 1 [D] := ⟨lV k1 rfl rfl (by omega), by intro g hg; simp [Fw.aH] at hg; subst hg; exact hr, m1⟩
 refine W.bl (fun z s' => ∃ a n c, z = (bH v, ((a, n, c), ()), ()) ∧ Gw nB 5 s s' a n c (D :: if v.kind = 1 then fq (n64 v.n) else [])) ?_ ?_
 ·rintro _ s2 ⟨a2, n2, c2, rfl, h2⟩
  dsimp only
  have hn2 := h2.row.len
  have hn3 : n2 ≤ 9 := by rw [hn2]; split <;> simp [fq]
  refine (W.aa _ _ _ _).2 ⟨fun e => ?_, fun e => ?_⟩
  ·have e2 : v.kind = 2 := eq_of_beq e
   have e1 : v.kind ≠ 1 := by omega
   rw [if_neg e1] at h2
   have hvs : v.s.size ≤ 64 := by
    unfold bC at hv
    rw [if_neg (by omega), if_neg e1, if_pos e2] at hv
    simp at hv; exact hv.2
   refine ⟨fun z s' => ∃ (a : Option Addr) (N k c : Nat), z = (bH v, ((a, N, c), ()), ((k : Int), ()), ()) ∧ k ≤ v.s.size ∧ N ≤ n2 + 2 * k ∧ Gw nB 5 s s' a N c ([D] ++ dY ((kL v.s).take k)), fun z _ => v.s.size - z.2.2.1.1.toNat, ⟨a2, n2, 0, c2, rfl, Nat.zero_le _, by omega, by simpa [dY] using h2⟩, ?_⟩
   rintro _ s3 ⟨a3, N, k, c3, rfl, hk2, hN, h3⟩
   dsimp only
   refine (W.aa _ _ _ _).2 ⟨fun e => ?_, fun e => ?_⟩
   ·have e : (k : Int) < (v.s.size : Int) := of_decide_eq_true e
    obtain ⟨b, hb, hb2⟩ := ju (s := v.s) (i := k) (by omega)
    have htk : (kL v.s).take (k + 1) = (kL v.s).take k ++ [b] := by rw [List.take_add_one, hb]; (first | done | rfl)
    refine (W.ah _ _ _).2 ⟨⟨by omega, e⟩, ?_⟩
    simp only [Int.toNat_natCast, hb2]
    refine h3.push [b] (k := 1) rfl rfl rfl (by omega) (by omega) fun a4 c4 s4 h4 => ?_
    refine (W.ah _ _ _).2 ⟨⟨Int.natCast_nonneg k, e⟩, ?_⟩
    rw [ak (k := k) (by omega)]
    refine (W.aa _ _ _ _).2 ⟨fun e0 => ?_, fun e0 => ?_⟩
    ·have e0 : (b.toNat : Int) = 0 := eq_of_beq e0
     have e0 : b = 0 := by apply UInt8.toNat_inj.1; show b.toNat = 0; omega
     refine h4.push [255] (k := 1) rfl rfl rfl (by omega) (by omega) fun a5 c5 s5 h5 => ?_
     refine ⟨⟨a5, N + 1 + 1, k + 1, c5, rfl, by omega, by omega, ?_⟩, by simp only [Int.toNat_natCast]; omega⟩
     rw [htk, l7]
     subst e0
     simpa [dY] using h5
    ·have e0 : ¬ b = 0 := by rintro rfl; exact absurd e0 (by decide)
     refine ⟨⟨a4, N + 1, k + 1, c4, rfl, by omega, by omega, ?_⟩, by simp only [Int.toNat_natCast]; omega⟩
     rw [htk, l7]
     simpa [dY, e0] using h4
   ·have e : ¬ (k : Int) < (v.s.size : Int) := of_decide_eq_false e
    have hk3 : k = v.s.size := by omega
    rw [List.take_of_length_le (by rw [eG]; omega)] at h3
    refine h3.push [0, 1] (k := 2) rfl rfl rfl (by omega) (by omega) fun a4 c4 s4 h4 => ?_
    refine nA h4.row ?_
    refine ⟨?_, h4.md⟩
    unfold bR
    rw [if_neg e1, if_pos e2, hD]
    simp
  ·have e2 : ¬ v.kind = 2 := by simpa using e
   refine nA h2.row ?_
   refine ⟨?_, h2.md⟩
   unfold bR
   rw [if_neg e2, hD]
 ·intro J hJ
  refine (W.aa _ _ _ _).2 ⟨fun e => ?_, fun e => ?_⟩
  ·have e1 : v.kind = 1 := eq_of_beq e
   obtain ⟨N, hN⟩ : ∃ N, n64 v.n = N := ⟨_, rfl⟩
   have hNl : N < 18446744073709551616 := by rw [← hN]; exact zf _
   have hw : u64.wrap (u64.wrap v.n + 9223372036854775808) = (N : Int) := by
    rw [rK, rK, ← hN]; unfold n64; omega
   rw [hw]
   rw [if_pos e1, hN] at hJ
   refine ⟨fun z s' => ∃ (a : Option Addr) (j c : Nat), z = (bH v, ((a, 1 + j, c), ()), ((N : Int), ()), ((j : Int), ()), ()) ∧ j ≤ 8 ∧ Gw nB 5 s s' a (1 + j) c ([D] ++ (fq N).take j), fun z _ => 8 - z.2.2.2.1.1.toNat, ⟨some ⟨r, 0, none⟩, 0, 1, rfl, by omega, by simpa using h1⟩, ?_⟩
   rintro _ s2 ⟨a2, j, c2, rfl, hj, h2⟩
   dsimp only
   refine (W.aa _ _ _ _).2 ⟨fun e => ?_, fun e => ?_⟩
   ·have e : (j : Int) < 8 := of_decide_eq_true e
    have hj8 : j < 8 := by omega
    have hsh : u64.wrap (i64.wrap (56 - i64.wrap (8 * (j : Int)))) = ((56 - 8 * j : Nat) : Int) := by
     rw [bW (n := 8 * (j : Int)) (by omega) (by omega), bW (by omega) (by omega), rK]; omega
    rw [hsh]
    refine (W.ah _ _ _).2 ⟨by omega, ?_⟩
    obtain ⟨b, hb⟩ : ∃ b, (fq N)[j]? = some b := ⟨_, List.getElem?_eq_getElem (by show j < 8; exact hj8)⟩
    have hbv : u8.wrap (if false = true then u64.wrap ((N : Int) * 2 ^ min ((56 - 8 * j : Nat) : Int).toNat 64) else ((N : Int)).fdiv (2 ^ min ((56 - 8 * j : Nat) : Int).toNat 64)) = (b.toNat : Int) := by
     rw [if_neg (by decide)]
     have hq : ∀ d : Nat, 0 < d → u8.wrap ((N : Int).fdiv (d : Int)) = ((UInt8.ofNat (N / d)).toNat : Int) := by
      intro d hd
      rw [UInt8.toNat_ofNat', w8, Int.fdiv_eq_ediv_of_nonneg _ (by omega)]
      simp
     match j, hj8, hb with
     | 0, _, hb => simp only [fq, List.getElem?_cons_zero, Option.some.injEq] at hb; subst hb; exact hq 72057594037927936 (by decide)
     | 1, _, hb => simp only [fq, List.getElem?_cons_zero, List.getElem?_cons_succ, Option.some.injEq] at hb; subst hb; exact hq 281474976710656 (by decide)
     | 2, _, hb => simp only [fq, List.getElem?_cons_zero, List.getElem?_cons_succ, Option.some.injEq] at hb; subst hb; exact hq 1099511627776 (by decide)
     | 3, _, hb => simp only [fq, List.getElem?_cons_zero, List.getElem?_cons_succ, Option.some.injEq] at hb; subst hb; exact hq 4294967296 (by decide)
     | 4, _, hb => simp only [fq, List.getElem?_cons_zero, List.getElem?_cons_succ, Option.some.injEq] at hb; subst hb; exact hq 16777216 (by decide)
     | 5, _, hb => simp only [fq, List.getElem?_cons_zero, List.getElem?_cons_succ, Option.some.injEq] at hb; subst hb; exact hq 65536 (by decide)
     | 6, _, hb => simp only [fq, List.getElem?_cons_zero, List.getElem?_cons_succ, Option.some.injEq] at hb; subst hb; exact hq 256 (by decide)
     | 7, _, hb => simp only [fq, List.getElem?_cons_zero, List.getElem?_cons_succ, Option.some.injEq] at hb; subst hb; have := hq 1 (by omega); simpa using this
    rw [hbv]
    refine h2.push [b] (k := 1) rfl rfl rfl (by omega) (by omega) fun a3 c3 s3 h3 => ?_
    rw [ak (k := j) (by omega)]
    refine ⟨⟨a3, j + 1, c3, rfl, by omega, ?_⟩, by simp only [Int.toNat_natCast]; omega⟩
    rw [List.take_add_one, hb]
    rw [List.append_assoc] at h3
    exact h3
   ·have e : ¬ (j : Int) < 8 := of_decide_eq_false e
    have : j = 8 := by omega
    subst this
    exact hJ _ _ ⟨a2, _, c2, rfl, by simpa [fq] using h2⟩
  ·have e1 : ¬ v.kind = 1 := by simpa using e
   rw [if_neg e1] at hJ
   exact hJ _ _ ⟨_, 1, 1, rfl, h1⟩
theorem Dv {s : PH} {a : Option Addr} {n c : Nat} {l : List aR} (h : G5 s a n c l) : ai 88 #[.slice a n c] s fun y s' => y = .tuple #[.string (keyOf l).1, .int .i64 (keyOf l).2] ∧ s' = s := by
 refine Cu a n c _ s ?_
 unfold uz
 have hlen : n = l.length := h.len
 obtain ⟨R, hR⟩ : ∃ R : Value → PH → Prop, (fun y s' => y = .tuple #[.string (keyOf l).1, .int .i64 (keyOf l).2] ∧ s' = s) = R := ⟨_, rfl⟩
 rw [hR]
 simp only [aN, aE, aS, aP, aQ, bI, aU, bP]
 refine (W.aa _ _ _ _).2 ⟨fun e => ?_, fun e => ?_⟩
 ·have e : (n : Int) > 8 := of_decide_eq_true e
  have : keyOf l = (⟨#[]⟩, 21) := by unfold keyOf; rw [if_pos (by omega)]
  rw [← hR, this]
  exact ⟨rfl, rfl⟩
 have e : ¬ (n : Int) > 8 := of_decide_eq_false e
 refine ⟨fun z s' => ∃ k : Nat, z = ((kB ((l.take k).flatMap bR), ()), ((k : Int), ()), ()) ∧ k ≤ n ∧ s = s' ∧ ∀ v ∈ l.take k, bC v = true, fun z _ => n - z.2.1.1.toNat, ⟨0, rfl, Nat.zero_le _, rfl, by simp⟩, ?_⟩
 rintro _ s1 ⟨k, rfl, hk, rfl, hok⟩
 have hvl := sQ hok
 rw [List.length_take] at hvl
 dsimp only
 refine (W.aa _ _ _ _).2 ⟨fun e => ?_, fun e => ?_⟩
 ·have hlt : (k : Int) < (n : Int) := of_decide_eq_true e
  obtain ⟨v, hv⟩ : ∃ v, l[k]? = some v := ⟨_, List.getElem?_eq_getElem (by omega)⟩
  obtain ⟨ad, had, hh⟩ := h.el.aB hv
  dsimp only at had
  subst had
  refine (W.ah _ _ _).2 ⟨⟨by omega, hlt⟩, ?_⟩
  simp only [dh, Int.toNat_natCast]
  have hh : s.has (ad.add (k * 3)) (dJ.f v) := hh
  refine aC hh (y := bH v) rfl ?_
  refine aL ((bC v, ()), ()) (vR v s) rfl ?_
  dsimp only
  refine (W.aa _ _ _ _).2 ⟨fun e1 => ?_, fun e1 => ?_⟩
  ·have hno : bC v = false := by simpa using e1
   have : keyOf l = (⟨#[]⟩, 10) := by unfold keyOf; rw [if_neg (by omega), if_pos (yf hv hno)]
   rw [← hR, this]
   exact ⟨rfl, rfl⟩
  ·have hyes : bC v = true := by simpa using e1
   refine (W.ah _ _ _).2 ⟨⟨by omega, hlt⟩, ?_⟩
   refine aC hh (y := bH v) rfl ?_
   refine aL ((kB (bR v), ()), ()) (I8 hyes s) rfl ?_
   dsimp only
   have hl1 := zV hyes
   refine (W.ah _ _ _).2 ⟨by rw [cz, cz]; omega, ?_⟩
   rw [ak (k := k) (by omega)]
   refine ⟨⟨k + 1, ?_, by omega, rfl, ?_⟩, by simp only [Int.toNat_natCast]; omega⟩
   ·rw [List.take_add_one, hv, ← qd]
    simp
   ·intro x hx
    rw [List.take_add_one, hv] at hx
    simp only [Option.toList_some, List.mem_append, List.mem_singleton] at hx
    rcases hx with hx | rfl
    ·exact hok x hx
    ·exact hyes
 ·have e : ¬ (k : Int) < (n : Int) := of_decide_eq_false e
  rw [List.take_of_length_le (by omega)] at hok ⊢
  rw [← hR, sw hok (by omega)]
  exact ⟨rfl, rfl⟩
theorem I9 (t : Int) (v : aR) (s : PH) : ai 31 #[.int .i64 t, eX v] s fun y s' => y = .string (iG t v) ∧ s' = s := by
 refine bu.quiet (Io t v.kind v.n v.s _ s ?_)
 unfold BA
 simp only [bP, aU, bU, aE]
 refine W.bX (bH (bf 0), ()) (th 0 s) rfl ?_
 refine W.bX (bH (bf t), ()) (th t s) rfl ?_
 refine W.bG fun r s1 hr m1 k1 => ?_
 exact aL ((iG t v, ()), ((keyOf [bf 0, bf t, v]).2, ()), ()) (Dv (kQ (l := [bf 0, bf t, v]) k1 rfl rfl (by omega))) rfl ⟨rfl, m1⟩
end
section
attribute [-simp] Fw.W.bD Fw.W.bB
end
section
attribute [-simp] Fw.W.bD Fw.W.bB
structure Ht where
 key : ByteArray
 ts : Int
 val : ByteArray
 deriving DecidableEq
def bh : cG Ht where
 sz := 3
 f h := [.string h.key, .int .i64 h.ts, .string h.val]
 len _ := rfl
 one p v hv := by simp at hv; rcases hv with rfl | rfl | rfl <;> rfl
 pos := by omega
abbrev oG (h : Ht) : Den [.str, .int .i64, .str] := (h.key, h.ts, h.val, ())
def l9 (x : ByteArray) (p : ByteArray × ByteArray) : Bool := decide (cP p.1 x ≤ 0) && decide (cP x p.2 < 0)
def aJ (l : List Ht) (p : ByteArray × ByteArray) : List Ht := l.filter fun h => l9 h.key p
theorem JR (x : ByteArray) (p : ByteArray × ByteArray) (hx : x.size ≤ 281474976710656) (hp : p.1.size ≤ 281474976710656) (s : PH) : ai 65 #[.string x, mV p] s fun y s' => y = .bool (l9 x p) ∧ s' = s := by
 refine Jx x p.1 p.2 _ s ?_
 unfold E3 l9
 simp only [aU, aN, aE]
 refine aL ((cP p.1 x, ()), ()) (mH _ _ (by omega) s) rfl ?_
 refine (W.aa _ _ _ _).2 ⟨fun e => ?_, fun e => ?_⟩
 ·rw [show decide (cP p.1 x ≤ 0) = true from e]
  exact aL ((cP x p.2, ()), ()) (mH _ _ (by omega) s) rfl ⟨by rw [Bool.true_and], rfl⟩
 ·rw [show decide (cP p.1 x ≤ 0) = false from e]
  exact ⟨rfl, rfl⟩
def pH (l : List Ht) : Prop := ∀ h ∈ l, h.key.size ≤ 140737488351232
theorem Dw {s : PH} {a : Option Addr} {n c : Nat} {l : List Ht} (h : Sl bh s (a, n, c) l) (p : ByteArray × ByteArray) (hp : p.1.size ≤ 281474976710656) (hl : pH l) (hn : n ≤ 4000000) :
  ai 77 #[.slice a n c, mV p] s fun y s' => ∃ a' n' c', y = .slice a' n' c' ∧ Gw bh 75 s s' a' n' c' (aJ l p) := by
 refine Cw a n c p.1 p.2 _ s ?_
 unfold uB
 have hlen : n = l.length := h.len
 simp only [aS, aN, aE, aP, aQ, bI, bP, bU, cZ]
 refine ⟨fun z s' => ∃ (k : Nat) (b : Option Addr) (m d : Nat), z = ((p.1, p.2, ()), ((b, m, d), ()), ((k : Int), ()), ()) ∧ k ≤ n ∧ m ≤ k ∧ Gw bh 75 s s' b m d (aJ (l.take k) p), fun z _ => n - z.2.2.1.1.toNat, ⟨0, none, 0, 0, rfl, Nat.zero_le _, Nat.le_refl _, Gw.nil (Mod.refl _ _)⟩, ?_⟩
 rintro _ s1 ⟨k, b, m, d, rfl, hk, hm, hG⟩
 dsimp only
 refine (W.aa _ _ _ _).2 ⟨fun e => ?_, fun e => ?_⟩
 ·have hlt : (k : Int) < (n : Int) := of_decide_eq_true e
  obtain ⟨x, hx⟩ : ∃ x, l[k]? = some x := ⟨_, List.getElem?_eq_getElem (by omega)⟩
  have htk : aJ (l.take (k + 1)) p = aJ (l.take k) p ++ (if l9 x.key p = true then [x] else []) := by
   unfold aJ
   rw [List.take_add_one, hx, List.filter_append]
   congr 1
   simp only [Option.toList_some, List.filter_cons, List.filter_nil]
  obtain ⟨ad, had, hh⟩ := (h.el.mono hG.md.le).aB hx
  dsimp only at had
  subst had
  have hg : (0 : Int) ≤ (k : Int) ∧ (k : Int) < (n : Int) := ⟨by omega, hlt⟩
  refine (W.ah _ _ _).2 ⟨hg, ?_⟩
  simp only [dh, Int.toNat_natCast]
  have hh : s1.has (ad.add (k * 3)) (bh.f x) := hh
  refine bz (j := 0) hh (y := (x.key, ())) rfl ?_
  dsimp only
  refine W.bX ((l9 x.key p, ()), ()) (JR x.key p (by have := hl x (List.mem_of_getElem? hx); omega) hp s1) rfl ?_
  rw [ak (k := k) (by omega)]
  refine (W.aa _ _ _ _).2 ⟨fun e2 => ?_, fun e2 => ?_⟩
  ·have e2 : l9 x.key p = true := e2
   refine (W.ah _ _ _).2 ⟨hg, ?_⟩
   refine aC hh (y := oG x) rfl ?_
   refine hG.push [x] (k := 1) rfl rfl rfl (by omega) (by omega) fun a3 c3 s3 h3 => ?_
   refine ⟨⟨k + 1, a3, m + 1, c3, rfl, by omega, by omega, ?_⟩, by simp only [Int.toNat_natCast]; omega⟩
   rw [htk, if_pos e2]; exact h3
  ·have e2 : l9 x.key p = false := e2
   refine ⟨⟨k + 1, b, m, d, rfl, by omega, by omega, ?_⟩, by simp only [Int.toNat_natCast]; omega⟩
   rw [htk, e2]; simpa using hG
 ·have e : ¬ (k : Int) < (n : Int) := of_decide_eq_false e
  rw [List.take_of_length_le (by omega)] at hG
  exact ⟨b, m, d, rfl, hG⟩
theorem HN {s : PH} {a : Option Addr} {n c : Nat} {l : List Ht} (h : Sl bh s (a, n, c) l) (p : ByteArray × ByteArray) (hp : p.1.size ≤ 281474976710656) (hl : pH l) (hn : n ≤ 4000000) :
  ai 314 #[.slice a n c, mV p] s fun y s' => ∃ a' n' c', y = .slice a' n' c' ∧ Gw bh 75 s s' a' n' c' (aJ l p) := by
 refine Gg a n c p.1 p.2 _ s ?_
 unfold Af
 simp only [aU, aE]
 refine W.au (Dw h p hp hl hn) ?_
 rintro _ s1 ⟨a1, n1, c1, rfl, hG⟩
 exact ⟨((((a1, n1, c1), ()), ())), rfl, a1, n1, c1, rfl, hG⟩
end
section
def bK (a b : ByteArray) : Bool := decide (kL a < kL b)
theorem fe (a : ByteArray) : bK a a = false := by unfold bK; simp
theorem qh {a b c : ByteArray} (h : bK a b = true) (k : bK b c = true) : bK a c = true := by
 unfold bK at *
 simp only [decide_eq_true_eq] at *
 exact List.lt_trans h k
theorem qO {a b : ByteArray} (h : bK a b = false) (k : bK b a = false) : a = b := by
 unfold bK at *
 simp only [decide_eq_false_iff_not] at *
 exact qe (List.le_antisymm k h)
theorem D4 {a b : ByteArray} (h : bK a b = true) : bK b a = false := by
 cases k : bK b a with
 | false => rfl
 | true => have := qh h k; rw [fe] at this; cases this
theorem qo : ∀ (x y : List UInt8), (fz x y < 0 ↔ x < y) ∧ (fz x y = 0 ↔ x = y) ∧ (0 < fz x y ↔ y < x)
 | [], [] => by simp [fz]
 | [], b :: y => by simp [fz]
 | a :: x, [] => by simp [fz]
 | a :: x, b :: y => by
  obtain ⟨h1, h2, h3⟩ := qo x y
  simp only [fz, List.cons_lt_cons_iff, List.cons.injEq]
  have e : ∀ u v : UInt8, u < v ↔ u.toNat < v.toNat := fun u v => UInt8.lt_iff_toNat_lt
  have q : ∀ u v : UInt8, u = v ↔ u.toNat = v.toNat := fun u v => UInt8.toNat_inj.symm
  rw [e, e, q, q]
  by_cases g1 : a.toNat < b.toNat
  ·rw [if_pos g1]; omega
  ·by_cases g2 : b.toNat < a.toNat
   ·rw [if_neg g1, if_pos g2]; omega
   ·rw [if_neg g1, if_neg g2]
    have g3 : a.toNat = b.toNat := by omega
    simp only [g3, Nat.lt_irrefl, false_or, true_and, h1, h2, h3]
theorem oR (a b : ByteArray) : cP a b < 0 ↔ bK a b = true := by
 unfold cP bK; rw [decide_eq_true_eq]; exact (qo _ _).1
theorem GP (a b : ByteArray) : 0 < cP a b ↔ bK b a = true := by
 unfold cP bK; rw [decide_eq_true_eq]; exact (qo _ _).2.2
theorem DX (x : ByteArray) (p : ByteArray × ByteArray) : l9 x p = (!bK x p.1 && bK x p.2) := by
 unfold l9
 have h1 : decide (cP p.1 x ≤ 0) = !bK x p.1 := by
  have := GP p.1 x
  by_cases h : bK x p.1 = true
  ·rw [h]; simp; exact this.2 h
  ·have h' : bK x p.1 = false := by simpa using h
   rw [h']; simp
   have : ¬ 0 < cP p.1 x := fun g => h (this.1 g)
   omega
 have h2 : decide (cP x p.2 < 0) = bK x p.2 := by
  have := oR x p.2
  cases h : bK x p.2 with
  | true => simp; exact this.2 h
  | false =>
   have h3 : ¬ cP x p.2 < 0 := fun g => by have := this.1 g; rw [h] at this; cases this
   simp; omega
 rw [h1, h2]
theorem td (a b : ByteArray) : Op.bytesLess a.toList b.toList = bK a b := by
 rw [bytesLess_eq, ByteArray.toList_eq, ByteArray.toList_eq]; (first | done | rfl)
structure Wr where
 key : ByteArray
 val : ByteArray
 dead : Bool
 deriving DecidableEq
def gV (ts : Int) (x : Wr) : List Ht := if x.dead = true then [] else [⟨x.key, ts, x.val⟩]
def fC (ts : Int) (l : List Ht) (x : Wr) : List Ht := l.takeWhile (fun h => bK h.key x.key) ++ gV ts x ++ (l.dropWhile fun h => bK h.key x.key).filter fun h => decide (h.key ≠ x.key)
def aj (ts : Int) (l : List Ht) (ws : List Wr) : List Ht := ws.foldl (fC ts) l
def cv (l : List Wr) (x : Wr) : List Wr := l.takeWhile (fun y => bK y.key x.key) ++ [x] ++ (l.dropWhile fun y => bK y.key x.key).filter fun y => decide (y.key ≠ x.key)
def dO (l : List Ht) : Prop := l.Pairwise fun a b => bK a.key b.key = true
def ji (l : List Wr) : Prop := l.Pairwise fun a b => bK a.key b.key = true
section
variable {α : Type} (key : α → ByteArray)
def uS (l : List α) : Prop := l.Pairwise fun a b => bK (key a) (key b) = true
theorem ET {l : List α} (k : ByteArray) (h : uS key l) : (∀ a ∈ l.takeWhile (fun a => bK (key a) k), bK (key a) k = true) ∧ (∀ a ∈ l.dropWhile (fun a => bK (key a) k), bK (key a) k = false) := by
 induction l with
 | nil => simp
 | cons b l ih =>
  have h2 := List.pairwise_cons.1 h
  obtain ⟨i1, i2⟩ := ih h2.2
  by_cases hb : bK (key b) k = true
  ·rw [List.takeWhile_cons_of_pos (p := fun a => bK (key a) k) hb, List.dropWhile_cons_of_pos (p := fun a => bK (key a) k) hb]
   exact ⟨fun a ha => by rcases List.mem_cons.1 ha with rfl | ha; exact hb; exact i1 a ha, i2⟩
  ·rw [List.takeWhile_cons_of_neg (p := fun a => bK (key a) k) hb, List.dropWhile_cons_of_neg (p := fun a => bK (key a) k) hb]
   refine ⟨by simp, fun a ha => ?_⟩
   have hb' : bK (key b) k = false := by simpa using hb
   rcases List.mem_cons.1 ha with rfl | ha
   ·exact hb'
   ·cases hc : bK (key a) k with
    | false => rfl
    | true => rw [qh (h2.1 a ha) hc] at hb'; cases hb'
theorem Br {l m : List α} {k : ByteArray} (h : uS key l) (hm : ∀ a ∈ m, key a = k) (h1 : m.length ≤ 1) :
  uS key (l.takeWhile (fun a => bK (key a) k) ++ m ++ (l.dropWhile fun a => bK (key a) k).filter fun a => decide (key a ≠ k)) ∧
  ∀ a, a ∈ l.takeWhile (fun a => bK (key a) k) ++ m ++ (l.dropWhile fun a => bK (key a) k).filter (fun a => decide (key a ≠ k)) ↔ a ∈ m ∨ (a ∈ l ∧ key a ≠ k) := by
 obtain ⟨i1, i2⟩ := ET key k h
 have hs : uS key (l.takeWhile (fun a => bK (key a) k) ++ l.dropWhile (fun a => bK (key a) k)) := by rw [List.takeWhile_append_dropWhile]; exact h
 obtain ⟨p1, p2, p3⟩ := List.pairwise_append.1 hs
 have hgt : ∀ a ∈ (l.dropWhile fun a => bK (key a) k).filter (fun a => decide (key a ≠ k)), bK k (key a) = true := by
  intro a ha
  simp only [List.mem_filter, decide_eq_true_eq] at ha
  cases hc : bK k (key a) with
  | true => rfl
  | false => exact absurd (qO (i2 a ha.1) hc) ha.2
 refine ⟨?_, fun a => ?_⟩
 ·refine List.pairwise_append.2 ⟨List.pairwise_append.2 ⟨p1, ?_, ?_⟩, p2.filter _, ?_⟩
  ·match m, h1 with
   | [], _ => exact .nil
   | [x], _ => exact List.pairwise_singleton _ _
  ·intro a ha b hb; rw [hm b hb]; exact i1 a ha
  ·intro a ha b hb
   rcases List.mem_append.1 ha with ha | ha
   ·exact p3 a ha b (List.mem_filter.1 hb).1
   ·rw [hm a ha]; exact hgt b hb
 ·have hl : a ∈ l ↔ a ∈ l.takeWhile (fun a => bK (key a) k) ∨ a ∈ l.dropWhile (fun a => bK (key a) k) := by
   rw [← List.mem_append, List.takeWhile_append_dropWhile]
  simp only [List.mem_append, List.mem_filter, decide_eq_true_eq, hl]
  constructor
  ·rintro ((h | h) | ⟨h, g⟩)
   ·refine .inr ⟨.inl h, fun e => ?_⟩
    have := i1 a h
    rw [e, fe] at this; cases this
   ·exact .inl h
   ·exact .inr ⟨.inr h, g⟩
  ·rintro (h | ⟨h | h, g⟩)
   ·exact .inl (.inr h)
   ·exact .inl (.inl h)
   ·exact .inr ⟨h, g⟩
theorem vH : ∀ {l m : List α}, uS key l → uS key m → (∀ a, a ∈ l ↔ a ∈ m) → l = m
 | [], [], _, _, _ => rfl
 | [], b :: m, _, _, h => by have := (h b).2 (by simp); simp at this
 | a :: l, [], _, _, h => by have := (h a).1 (by simp); simp at this
 | a :: l, b :: m, h1, h2, h => by
  have c1 := List.pairwise_cons.1 h1
  have c2 := List.pairwise_cons.1 h2
  have e : a = b := by
   rcases List.mem_cons.1 ((h a).1 (by simp)) with e | e
   ·exact e
   ·rcases List.mem_cons.1 ((h b).2 (by simp)) with e2 | e2
    ·exact e2.symm
    ·have g1 := c2.1 a e
     have g2 := c1.1 b e2
     rw [D4 g1] at g2; cases g2
  subst e
  congr 1
  refine vH c1.2 c2.2 fun x => ⟨fun hx => ?_, fun hx => ?_⟩
  ·rcases List.mem_cons.1 ((h x).1 (by simp [hx])) with rfl | g
   ·have := c1.1 x hx; rw [fe] at this; cases this
   ·exact g
  ·rcases List.mem_cons.1 ((h x).2 (by simp [hx])) with rfl | g
   ·have := c2.1 x hx; rw [fe] at this; cases this
   ·exact g
end
theorem oo {ts : Int} {l : List Ht} (h : dO l) (x : Wr) : dO (fC ts l x) ∧ ∀ a, a ∈ fC ts l x ↔ (x.dead = false ∧ a = ⟨x.key, ts, x.val⟩) ∨ (a ∈ l ∧ a.key ≠ x.key) := by
 obtain ⟨h1, h2⟩ := Br (fun a : Ht => a.key) (m := gV ts x) (k := x.key) h (by intro a ha; unfold gV at ha; split at ha <;> simp at ha; rw [ha]) (by unfold gV; split <;> simp)
 refine ⟨h1, fun a => (h2 a).trans ?_⟩
 unfold gV
 cases x.dead <;> simp
theorem fD {ts : Int} : ∀ (ws : List Wr) {l : List Ht}, dO l → dO (aj ts l ws)
 | [], l, h => h
 | x :: ws, l, h => fD ws (oo h x).1
theorem mT {l : List Wr} (h : ji l) (x : Wr) : ji (cv l x) ∧ ∀ a, a ∈ cv l x ↔ a = x ∨ (a ∈ l ∧ a.key ≠ x.key) := by
 obtain ⟨h1, h2⟩ := Br (fun a : Wr => a.key) (m := [x]) (k := x.key) h (by simp) (by simp)
 exact ⟨h1, fun a => (h2 a).trans (by simp)⟩
theorem GO {l : List Wr} (h : ji l) {a b : Wr} (ha : a ∈ l) (hb : b ∈ l) (e : a.key = b.key) : a = b := by
 obtain ⟨i, hi, rfl⟩ := List.getElem_of_mem ha
 obtain ⟨j, hj, rfl⟩ := List.getElem_of_mem hb
 rcases Nat.lt_trichotomy i j with g | g | g
 ·have := List.pairwise_iff_getElem.1 h i j hi hj g
  rw [e, fe] at this; cases this
 ·subst g; (first | done | rfl)
 ·have := List.pairwise_iff_getElem.1 h j i hj hi g
  rw [e, fe] at this; cases this
theorem iZ {ts : Int} : ∀ (ws : List Wr) {l : List Ht}, dO l → ji ws → ∀ a, a ∈ aj ts l ws ↔ (∃ x ∈ ws, x.dead = false ∧ a = ⟨x.key, ts, x.val⟩) ∨ (a ∈ l ∧ ∀ x ∈ ws, x.key ≠ a.key)
 | [], l, h, hw, a => by simp [aj]
 | x :: ws, l, h, hw, a => by
  have hc := List.pairwise_cons.1 hw
  obtain ⟨g1, g2⟩ := oo (ts := ts) h x
  show a ∈ aj ts (fC ts l x) ws ↔ _
  rw [iZ ws g1 hc.2 a, g2]
  constructor
  ·rintro (⟨y, hy, e⟩ | ⟨⟨hd, rfl⟩ | ⟨hl, hk⟩, hn⟩)
   ·exact .inl ⟨y, by simp [hy], e⟩
   ·exact .inl ⟨x, by simp, hd, rfl⟩
   ·refine .inr ⟨hl, fun y hy => ?_⟩
    rcases List.mem_cons.1 hy with rfl | hy
    ·exact Ne.symm hk
    ·exact hn y hy
  ·rintro (⟨y, hy, hd, rfl⟩ | ⟨hl, hn⟩)
   ·rcases List.mem_cons.1 hy with rfl | hy
    ·refine .inr ⟨.inl ⟨hd, rfl⟩, fun z hz e => ?_⟩
     have := hc.1 z hz
     rw [show z.key = y.key from e, fe] at this; cases this
    ·exact .inl ⟨y, hy, hd, rfl⟩
   ·exact .inr ⟨.inr ⟨hl, Ne.symm (hn x (by simp))⟩, fun z hz => hn z (by simp [hz])⟩
theorem BS {ts : Int} {B : List Ht} {ov : List Wr} (hB : dO B) (hv : ji ov) (x : Wr) : fC ts (aj ts B ov) x = aj ts B (cv ov x) := by
 obtain ⟨p1, p2⟩ := mT hv x
 obtain ⟨a1, a2⟩ := oo (ts := ts) (fD ov hB) x
 refine vH (fun a : Ht => a.key) a1 (fD _ hB) fun a => ?_
 rw [a2, iZ _ hB p1, iZ _ hB hv]
 constructor
 ·rintro (⟨hd, rfl⟩ | ⟨⟨y, hy, hd, rfl⟩ | ⟨hl, hn⟩, hk⟩)
  ·exact .inl ⟨x, (p2 x).2 (.inl rfl), hd, rfl⟩
  ·exact .inl ⟨y, (p2 y).2 (.inr ⟨hy, hk⟩), hd, rfl⟩
  ·refine .inr ⟨hl, fun y hy => ?_⟩
   rcases (p2 y).1 hy with rfl | ⟨hy, _⟩
   ·exact Ne.symm hk
   ·exact hn y hy
 ·rintro (⟨y, hy, hd, rfl⟩ | ⟨hl, hn⟩)
  ·rcases (p2 y).1 hy with rfl | ⟨hy, hk⟩
   ·exact .inl ⟨hd, rfl⟩
   ·exact .inr ⟨.inl ⟨y, hy, hd, rfl⟩, hk⟩
  ·have hx := hn x ((p2 x).2 (.inl rfl))
   refine .inr ⟨.inr ⟨hl, fun y hy e => ?_⟩, Ne.symm hx⟩
   exact hn y ((p2 y).2 (.inr ⟨hy, by rw [e]; exact Ne.symm hx⟩)) e
theorem jl {ts : Int} {B : List Ht} (hB : dO B) : ∀ (ws : List Wr) {ov : List Wr}, ji ov → aj ts (aj ts B ov) ws = aj ts B (ws.foldl cv ov)
 | [], ov, _ => rfl
 | x :: ws, ov, hv => by
  show aj ts (fC ts (aj ts B ov) x) ws = aj ts B (ws.foldl cv (cv ov x))
  rw [BS hB hv, jl hB ws (mT hv x).1]
structure cD where
 kind : Int
 table : Int
 vals : List aR
 set : Int
 to : aR
 whr : Int
 is : aR
structure Rw where
 key : aR
 cells : List aX
structure Rp where
 n : Int
 rows : List (List aR)
abbrev cq := ByteArray × ByteArray
def eJ (T : aO) : Int := ((T.cols[0]?).map (·.id)).getD 0
def cA (t : Int) (k : aR) : cq := (iG t k, iG t k ++ ⟨#[0]⟩)
def cC (t : Int) : cq := under [bf 0, bf t]
def cI (i : Int) (v : aR) : cq := under [bf 1, bf i, v]
def eS (T : aO) (h : Ht) : Option Rw := match gu h.val with
 | some (c :: cs) => some ⟨bq (c :: cs) (eJ T), c :: cs⟩
 | _ => none
def iL (T : aO) (l : List Ht) : List Rw := l.filterMap (eS T)
def iH (T : aO) (k : aR) (D : List Ht) : List Rw := iL T (aJ D (cA T.id k))
def fj (T : aO) (D : List Ht) : Int × List Rw := if 64 < (aJ D (cC T.id)).length then (156, []) else (0, iL T (aJ D (cC T.id)))
def qJ (w : Int) (x : eu) : Bool := x.column == w && x.state == 3
def qH (T : aO) (w : Int) : Option eu := T.idxs.find? (qJ w)
def dU (l : List Ht) : List aR := l.filterMap fun h => oI h.key
def aZ (T : aO) (b : cD) (D : List Ht) : Int × List Rw :=
 if b.whr = 0 then fj T D
 else if b.whr = eJ T then (0, iH T b.is D)
 else match qH T b.whr with
 | none => ((fj T D).1, (fj T D).2.filter fun r => decide (bq r.cells b.whr = b.is))
 | some x => if 64 < (aJ D (cI x.id b.is)).length then (156, []) else (0, (dU (aJ D (cI x.id b.is))).flatMap fun k => iH T k D)
def cl (T : aO) (b : cD) (D : List Ht) : List cq :=
 if b.whr = 0 then [cC T.id]
 else if b.whr = eJ T then [cA T.id b.is]
 else match qH T b.whr with
 | none => [cC T.id]
 | some x => cI x.id b.is :: (if 64 < (aJ D (cI x.id b.is)).length then [] else (dU (aJ D (cI x.id b.is))).map (cA T.id))
def cj (st : Int) : Bool := st == 2 || st == 3
def iP (old new : List aX) (c : Int) : Bool := decide ((bq new c).kind ≠ 0) && (decide (old = []) || decide (bq old c ≠ bq new c))
def iD (k : aR) (old new : List aX) (D : List Ht) : List eu → Int × List cq
 | [] => (0, [])
 | x :: l => if iP old new x.column && x.unique && cj x.state then
   (if (dU (aJ D (cI x.id (bq new x.column)))).any (fun o => decide (o ≠ k)) then (210, [cI x.id (bq new x.column)])
    else ((iD k old new D l).1, cI x.id (bq new x.column) :: (iD k old new D l).2))
  else iD k old new D l
def gZ (S : aF) (i : Int) : Option aO := S.tabs.find? fun u => u.id == i
def gO (S : aF) (T : aO) (k : aR) (old new : List aX) (D : List Ht) : List For → Int × List cq
 | [] => (0, [])
 | x :: l => if iP old new x.column && cj x.state && !(x.parent == T.id && decide (bq new x.column = k)) then
   match gZ S x.parent with
   | none => gO S T k old new D l
   | some U => if iH U (bq new x.column) D = [] then (211, [cA U.id (bq new x.column)])
    else ((gO S T k old new D l).1, cA U.id (bq new x.column) :: (gO S T k old new D l).2)
  else gO S T k old new D l
def eC (S : aF) (T : aO) (k : aR) (old new : List aX) (D : List Ht) : Int × List cq :=
 if (iD k old new D T.idxs).1 ≠ 0 then iD k old new D T.idxs
 else ((gO S T k old new D T.keys).1, (iD k old new D T.idxs).2 ++ (gO S T k old new D T.keys).2)
def kI (k : aR) (old new : List aX) (x : eu) : List Wr :=
 (if old ≠ [] ∧ (new = [] ∨ bq old x.column ≠ bq new x.column) then [⟨jj x.id (bq old x.column) k, ⟨#[]⟩, true⟩] else []) ++
 (if new ≠ [] ∧ cj x.state = true then [⟨jj x.id (bq new x.column) k, ⟨#[]⟩, false⟩] else [])
def ec (T : aO) (old new : List aX) : List Wr :=
 if T.cols = [] ∨ (old = [] ∧ new = []) ∨ (cR new).2 ≠ 0 then []
 else ⟨iG T.id (bq (if old = [] then new else old) (eJ T)), (cR new).1, decide (new = [])⟩ :: T.idxs.flatMap (kI (bq (if old = [] then new else old) (eJ T)) old new)
def gI (l : List aX) (id : Int) (v : aR) : List aX := l.takeWhile (fun c => decide (c.id < id)) ++ [⟨id, v⟩] ++ (match l.dropWhile (fun c => decide (c.id < id)) with | [] => [] | c :: r => if c.id = id then r else c :: r)
def gR (l : List aX) (id : Int) : Bool := l.any fun c => c.id == id
def kJ : List bZ → List aR → List aX → List aX
 | [], _, cs => cs
 | c :: l, vs, cs => if c.state = 3 then kJ l vs.tail (gI cs c.id (vs.headD mj)) else if c.state = 2 then kJ l vs (gI cs c.id c.dflt) else kJ l vs cs
structure xX where
 err : Int
 rep : Rp
 asks : List cq
 ws : List Wr
abbrev j6 : Rp := ⟨0, []⟩
def sr (S : aF) (T : aO) (b : cD) (D : List Ht) : xX :=
 let k := b.vals.headD mj
 let cs := kJ T.cols b.vals []
 if iH T k D ≠ [] then ⟨210, j6, [cA T.id k], []⟩
 else if (eC S T k [] cs D).1 ≠ 0 then ⟨(eC S T k [] cs D).1, j6, cA T.id k :: (eC S T k [] cs D).2, []⟩
 else ⟨0, ⟨1, []⟩, cA T.id k :: (eC S T k [] cs D).2, ec T [] cs⟩
def pV : List bZ → List aX → List aX
 | [], cs => cs
 | c :: l, cs => if c.state = 2 ∧ gR cs c.id = false then pV l (gI cs c.id c.dflt) else pV l cs
def jE (T : aO) (b : cD) (r : Rw) : List aX := pV T.cols (gI r.cells b.set b.to)
def fm (S : aF) (T : aO) (b : cD) : List Rw → List Ht → Int × List cq × List Wr
 | [], D => (0, [], [])
 | r :: l, D => if (eC S T r.key r.cells (jE T b r) D).1 ≠ 0 then ((eC S T r.key r.cells (jE T b r) D).1, (eC S T r.key r.cells (jE T b r) D).2, [])
  else ((fm S T b l (aj 0 D (ec T r.cells (jE T b r)))).1, (eC S T r.key r.cells (jE T b r) D).2 ++ (fm S T b l (aj 0 D (ec T r.cells (jE T b r)))).2.1,
   ec T r.cells (jE T b r) ++ (fm S T b l (aj 0 D (ec T r.cells (jE T b r)))).2.2)
def sO (S : aF) (T : aO) (b : cD) (D : List Ht) : xX :=
 if (aZ T b D).1 ≠ 0 then ⟨(aZ T b D).1, j6, cl T b D, []⟩
 else if (fm S T b (aZ T b D).2 D).1 ≠ 0 then ⟨(fm S T b (aZ T b D).2 D).1, j6, cl T b D ++ (fm S T b (aZ T b D).2 D).2.1, (fm S T b (aZ T b D).2 D).2.2⟩
 else ⟨0, ⟨(aZ T b D).2.length, []⟩, cl T b D ++ (fm S T b (aZ T b D).2 D).2.1, (fm S T b (aZ T b D).2 D).2.2⟩
def lg (T U : aO) (r : Rw) (x : For) (c : Rw) : Bool := decide (bq c.cells x.column = r.key) && (decide (U.id ≠ T.id) || decide (c.key ≠ r.key))
def iE (T U : aO) (r : Rw) (D : List Ht) : List For → Int × List cq
 | [] => (0, [])
 | x :: l => if x.parent = T.id ∧ cj x.state = true then
   (if (fj U D).1 ≠ 0 then ((fj U D).1, [cC U.id]) else if (fj U D).2.any (lg T U r x) then (212, [cC U.id])
    else ((iE T U r D l).1, cC U.id :: (iE T U r D l).2))
  else iE T U r D l
def fG (T : aO) (r : Rw) (D : List Ht) : List aO → Int × List cq
 | [] => (0, [])
 | U :: l => if (iE T U r D U.keys).1 ≠ 0 then iE T U r D U.keys else ((fG T r D l).1, (iE T U r D U.keys).2 ++ (fG T r D l).2)
def fk (S : aF) (T : aO) : List Rw → List Ht → Int × List cq × List Wr
 | [], D => (0, [], [])
 | r :: l, D => if (fG T r D S.tabs).1 ≠ 0 then ((fG T r D S.tabs).1, (fG T r D S.tabs).2, [])
  else ((fk S T l (aj 0 D (ec T r.cells []))).1, (fG T r D S.tabs).2 ++ (fk S T l (aj 0 D (ec T r.cells []))).2.1, ec T r.cells [] ++ (fk S T l (aj 0 D (ec T r.cells []))).2.2)
def sG (S : aF) (T : aO) (b : cD) (D : List Ht) : xX :=
 if (aZ T b D).1 ≠ 0 then ⟨(aZ T b D).1, j6, cl T b D, []⟩
 else if (fk S T (aZ T b D).2 D).1 ≠ 0 then ⟨(fk S T (aZ T b D).2 D).1, j6, cl T b D ++ (fk S T (aZ T b D).2 D).2.1, (fk S T (aZ T b D).2 D).2.2⟩
 else ⟨0, ⟨(aZ T b D).2.length, []⟩, cl T b D ++ (fk S T (aZ T b D).2 D).2.1, (fk S T (aZ T b D).2 D).2.2⟩
def Bk (T : aO) : List bZ := T.cols.filter fun c => c.state == 3
def kf (T : aO) (r : Rw) : List aR := (Bk T).map fun c => bq r.cells c.id
def sL (T : aO) (b : cD) (D : List Ht) : xX :=
 if (aZ T b D).1 ≠ 0 then ⟨(aZ T b D).1, j6, cl T b D, []⟩ else ⟨0, ⟨0, (aZ T b D).2.map (kf T)⟩, cl T b D, []⟩
def gB (T : aO) (id : Int) (v : aR) (key : Bool) : Bool := T.cols.any fun c => c.id == id && c.state == 3 && (key || decide (id ≠ eJ T)) && fits v c.kind
def e9 : List bZ → Nat → List aR → Bool
 | [], _, vs => vs.isEmpty
 | c :: l, k, vs => if c.state ≠ 3 then e9 l (k + 1) vs else match vs with
  | [] => false
  | v :: vs => fits v c.kind && !(decide (k = 0) && v.kind == 0) && e9 l (k + 1) vs
def fy (S : aF) (b : cD) : Option aO :=
 match gZ S b.table with
 | none => none
 | some T => if b.kind < 1 ∨ 4 < b.kind then none
  else if b.kind = 1 then (if e9 T.cols 0 b.vals = true then some T else none)
  else if b.kind = 2 ∧ gB T b.set b.to false = false then none
  else if b.whr = 0 ∨ gB T b.whr b.is true = true then some T else none
def fS (S : aF) (T : aO) (b : cD) (D : List Ht) : xX :=
 if b.kind = 1 then sr S T b D else if b.kind = 2 then sO S T b D else if b.kind = 3 then sG S T b D else sL T b D
structure Kc where
 err : Int
 at_ : Int
 reps : List Rp
 asks : List cq
 ws : List Wr
def bp (S : aF) : Int → List cD → List Ht → Kc
 | i, [], D => ⟨0, 0, [], [], []⟩
 | i, b :: l, D => match fy S b with
  | none => ⟨1, i, [], [], []⟩
  | some T => let e := fS S T b D
   if e.err ≠ 0 then ⟨e.err, i, [], e.asks, e.ws⟩
   else let r := bp S (i + 1) l (aj 0 D e.ws)
    ⟨r.err, r.at_, e.rep :: r.reps, e.asks ++ r.asks, e.ws ++ r.ws⟩
end
end Go.Proofs.YtlfdfgokflhdbaaGreat
