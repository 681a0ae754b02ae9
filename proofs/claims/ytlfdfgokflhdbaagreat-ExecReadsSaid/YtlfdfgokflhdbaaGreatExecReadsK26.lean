/-
  Part 26 for the law: lemmas.
  Conditions: none.
-/
import Derived.Test.YtlfdfgokflhdbaaGreatExecReadsK25
set_option maxHeartbeats 4000000
set_option maxRecDepth 100000
set_option linter.unusedVariables false
set_option linter.unusedSimpArgs false
set_option linter.unusedSectionVars false
namespace Go.Proofs.YtlfdfgokflhdbaaGreat
open Fw Go Go.IntKind
section
attribute [-simp] Fw.W.bC Fw.W.bA
theorem dj (a : Addr) (k : Addr → W.T) : W.aa (some a) k = k a := by funext s; exact propext (W.ay a k s)
theorem ku {s : PH} {b : Nat} {c c' : Array Value} {e : TypeId} {v : Value} {vs : List Value} {off : Nat} {k : W.T} (h : s b = some (.cells c e (0, 0))) (hs : off + (v :: vs).length ≤ c.size) (h1 : ∀ w ∈ v :: vs, w.oneCell' = true)
  (hc : gh c off (v :: vs) = c') (hk : ∀ s', s' = s.aS b (.cells c' e (0, 0)) → k s') : W.st ⟨b, off, none⟩ (v :: vs) k s :=
 (W.dU h v vs off k).2 ⟨hs, by simp [zE], h1, hc ▸ hk _ rfl⟩
abbrev xb (t : BA) : Obj := .cells #[.string t] 339 (0, 0)
def BI (r : Nat) (o : Option (aK × List UInt8)) (s : PH) (y : Value) (s' : PH) : Prop :=
 match o with
 | none => (∃ v : aK, y = .tuple #[fm v, .bool false]) ∧ Fw.Mod [r] s s'
 | some (v, l) => y = .tuple #[fm v, .bool true] ∧ Fw.Mod [r] s s' ∧ s' r = some (xb (kB l))
def td (l : List UInt8) : Option (aK × List UInt8) := if l.length < 8 then none else some (⟨1, kC (kD (l.take 8)), ⟨#[]⟩⟩, l.drop 8)
def rI (l : List UInt8) : Option (aK × List UInt8) := (eG l).map fun p => (⟨2, 0, kB p.1⟩, p.2)
theorem IM {r : Nat} {t : BA} {s : PH} (h : s r = some (xb t)) : ah 251 #[cp r] s (BI r (some (⟨0, 0, ⟨#[]⟩⟩, kL t)) s) := by
 refine G9 r _ s ?_;unfold AU;simp only [aE, W.oa];exact ⟨rfl, Mod.refl _ _, by rw [jE]; exact h⟩
theorem AF {l : List UInt8} {k : Nat} {b : UInt8} (h : l[k]? = some b) : kD (l.take (k + 1)) = kD (l.take k) * 256 + b.toNat := by
 unfold kD;rw [List.take_add_one, h]; simp
theorem qT : ∀ (l : List UInt8) (k : Nat), kD (l.take k) < 256 ^ k
 | l, 0 => by simp [kD]
 | l, k + 1 => by
  have ih := qT l k
  cases hb : l[k]? with
  | none =>
   rw [List.take_add_one, hb];simp only [Option.toList_none, List.append_nil];exact Nat.lt_of_lt_of_le ih (Nat.pow_le_pow_right (by omega) (by omega))
  | some b =>
   rw [AF hb, Nat.pow_succ];have := b.toNat_lt;omega
theorem AE {n : Nat} (h : n < 18446744073709551616) : u64.wrap (n : Int) = (n : Int) := by rw [su]; omega
theorem Eg {r : Nat} {t : BA} {s : PH} (h : s r = some (xb t)) (hs : t.size ≤ 140737488351232) : ah 252 #[cp r] s (BI r (td (kL t)) s) := by
 refine Dm r _ s ?_;unfold uY
 obtain ⟨R, hR⟩ : ∃ R, BI r (td (kL t)) s = R := ⟨_, rfl⟩
 rw [hR];simp only [aM, bH, aO, aE, aQ, aR, gX, cG, dj, bf, Nat.zero_add];have hld : ∀ (K : Den [CT.str] → W.T), K (t, ()) s → W.ld [.str] ⟨r, 0, none⟩ K s := fun K hk => (W.aB h _ _ _ _).2 ⟨(t, ()), rfl, hk⟩;refine hld _ ?_;dsimp only;refine aI (fun e => ?_) fun e => ?_
 ·have e : (t.size : Int) < 8 := of_decide_eq_true e
  have : td (kL t) = none := by unfold td; rw [if_pos (by rw [eP]; omega)]
  rw [this] at hR;rw [← hR];exact ⟨⟨⟨0, 0, ⟨#[]⟩⟩, rfl⟩, Mod.refl _ _⟩
 have e : ¬ (t.size : Int) < 8 := of_decide_eq_false e;refine ⟨fun z s' => ∃ k : Nat, z = ((0, 0, ⟨#[]⟩, ()), ((kD ((kL t).take k) : Int), ()), ((k : Int), ()), ()) ∧ k ≤ 8 ∧ s' = s, fun z _ => 8 - z.2.2.1.1.toNat, ⟨0, rfl, Nat.zero_le _, rfl⟩, ?_⟩;rintro _ s ⟨k, rfl, hk, rfl⟩;dsimp only;refine aI (fun e1 => ?_) fun e1 => ?_
 ·have e1 : (k : Int) < 8 := of_decide_eq_true e1;refine hld _ ?_;dsimp only;obtain ⟨b, hb, hb2⟩ := jF (s := t) (i := k) (by omega);refine bF ⟨by omega, by omega⟩ ?_;have hsm := qT (kL t) k
  have hpw : 256 ^ k ≤ 72057594037927936 := by
   have : 256 ^ k ≤ 256 ^ 7 := Nat.pow_le_pow_right (by omega) (by omega);simpa using this
  have hv : u64.wrap (((BitVec.ofInt 64 (u64.wrap ((kD ((kL t).take k) : Int) * 256)) ||| BitVec.ofInt 64 (u64.wrap (((t[((k : Int)).toNat]?.getD (0 : UInt8)).toNat : Nat) : Int))).toNat : Nat) : Int) = (kD ((kL t).take (k + 1)) : Int) := by
   rw [AF hb, Int.toNat_natCast, hb2]
   generalize kD ((kL t).take k) = m at hsm ⊢
   have hbl := b.toNat_lt;rw [show (m : Int) * 256 = ((m * 256 : Nat) : Int) by omega, AE (n := m * 256) (by omega), AE (n := b.toNat) (by omega), Kw (by omega) (by omega), AE (by omega)]
  rw [hv, ai (k := k) (by omega)];exact ⟨⟨k + 1, rfl, by omega, rfl⟩, by simp only [Int.toNat_natCast]; omega⟩
 ·have e1 : ¬ (k : Int) < 8 := of_decide_eq_false e1
  have hk8 : k = 8 := by omega
  subst hk8;refine hld _ ?_;dsimp only;refine bF ⟨by omega, by omega, by omega⟩ ?_;refine ku h (Nat.le_refl _) (by simp [Value.oneCell']) rfl ?_;rintro s' rfl;rw [← hR]
  have hlt : kD ((kL t).take 8) < 18446744073709551616 := by have := qT (kL t) 8; simpa using this
  have : td (kL t) = some (⟨1, kC (kD ((kL t).take 8)), ⟨#[]⟩⟩, (kL t).drop 8) := by unfold td; rw [if_neg (by rw [eP]; omega)]
  rw [this];refine ⟨?_, Mod.aS (by simp), ?_⟩
  ·rw [HQ hlt]
  ·rw [PH.bB]
   congr 3
   rw [Int.toNat_natCast]
   show #[Value.string (t.extract 8 t.size)] = _
   rw [← rm, jE]
theorem IN {r : Nat} {t : BA} {s : PH} (h : s r = some (xb t)) (hs : t.size ≤ 140737488351232) : ah 253 #[cp r] s (BI r (rI (kL t)) s) := by
 refine He r _ s ?_;unfold AW
 obtain ⟨R, hR⟩ : ∃ R, BI r (rI (kL t)) s = R := ⟨_, rfl⟩
 rw [hR];simp only [aM, bH, aO, aE, aQ, aR, gX, cj, dg, tK, cG, dj, bf, Nat.zero_add];have hld : ∀ {s1 : PH} (K : Den [CT.str] → W.T), Fw.Mod [] s s1 → K (t, ()) s1 → W.ld [.str] ⟨r, 0, none⟩ K s1 := fun K hm hk => (W.aB (hm.at h (by simp)) _ _ _ _).2 ⟨(t, ()), rfl, hk⟩
 have hno : ∀ {s1 : PH}, Fw.Mod [] s s1 → eG (kL t) = none → R (.tuple #[.agg #[.int .i64 0, .int .i64 0, .string ⟨#[]⟩], .bool false]) s1 := fun hm e => by
  rw [← hR];unfold rI; rw [e];exact ⟨⟨⟨0, 0, ⟨#[]⟩⟩, rfl⟩, hm.mono (by simp)⟩
 refine ⟨fun z s' => ∃ (i : Nat) (a : OA) (n c : Nat) (acc : List UInt8), z = ((0, 0, ⟨#[]⟩, ()), ((a, n, c), ()), ((i : Int), ()), ()) ∧ i ≤ t.size ∧ n ≤ i ∧ Gw nP 5 s s' a n c acc ∧ eG (kL t) = (eG ((kL t).drop i)).map fun p => (acc ++ p.1, p.2), fun z _ => t.size - z.2.2.1.1.toNat,
  ⟨0, none, 0, 0, [], rfl, Nat.zero_le _, Nat.le_refl _, Gw.nil (Mod.refl _ _), by simp⟩, ?_⟩
 rintro _ s1 ⟨i, a, n, c, acc, rfl, hi, hn, hG, hu⟩;dsimp only;refine hld _ hG.md ?_;dsimp only;refine aI (fun e1 => ?_) fun e1 => ?_;rotate_left
 ·have e1 : ¬ (i : Int) < (t.size : Int) := of_decide_eq_false e1;refine hno hG.md ?_;rw [hu, List.drop_of_length_le (by rw [eP]; omega)]; (first | done | rfl)
 have e1 : (i : Int) < (t.size : Int) := of_decide_eq_true e1;obtain ⟨b, hb, hb2⟩ := jF (s := t) (i := i) (by omega);rw [ct hb] at hu;refine hld _ hG.md ?_;dsimp only;refine bF ⟨by omega, e1⟩ ?_;simp only [Int.toNat_natCast, hb2];refine aI (fun e2 => ?_) fun e2 => ?_
 ·have e2 : b ≠ 0 := by rintro rfl; exact absurd e2 (by decide)
  rw [tB e2] at hu;refine hld _ hG.md ?_;dsimp only;refine bF ⟨by omega, e1⟩ ?_;rw [hb2];refine hG.DK [b] (k := 1) rfl rfl rfl (by omega) (by omega) fun a3 c3 s3 h3 _ => ?_;rw [ai (k := i) (by omega)];refine ⟨⟨i + 1, a3, n + 1, c3, acc ++ [b], rfl, by omega, by omega, h3, ?_⟩, by simp only [Int.toNat_natCast]; omega⟩;rw [hu, Option.map_map]
  congr 1
  funext p
  simp
 have e2 : b = 0 := by
  have : (b.toNat : Int) = 0 := by simpa using e2
  apply UInt8.toNat_inj.1; show b.toNat = 0; omega
 subst e2;rw [ai (k := i) (by omega)];refine W.bx (fun x s' => ∃ f : Bool, x = ((0, 0, ⟨#[]⟩, ()), ((a, n, c), ()), (((i + 1 : Nat) : Int), ()), (f, ()), ()) ∧ s1 = s' ∧ f = (((kL t)[i + 1]?).map (· == 255)).getD false) ?_ ?_
 ·rintro _ _ ⟨f, rfl, rfl, hf⟩;dsimp only;refine aI (fun e3 => ?_) fun e3 => ?_
  ·subst e3
   cases hq : (kL t)[i + 1]? with
   | none => rw [hq] at hf; cases hf
   | some q =>
    rw [hq] at hf
    have hq2 : q = 255 := by simpa using hf.symm
    subst hq2;have hil := (List.getElem?_eq_some_iff.1 hq).1;rw [eP] at hil;rw [ct hq, oo, if_pos rfl] at hu;refine hG.DK [0] (k := 1) rfl rfl rfl (by omega) (by omega) fun a3 c3 s3 h3 _ => ?_;rw [ai (k := i + 1) (by omega)];refine ⟨⟨i + 2, a3, n + 1, c3, acc ++ [0], rfl, by omega, by omega, h3, ?_⟩, by simp only [Int.toNat_natCast]; omega⟩;rw [hu, Option.map_map]
    congr 1
    funext p
    simp
  ·refine hld _ hG.md ?_;dsimp only;refine aI (fun e4 => ?_) fun e4 => ?_;rotate_left
   ·have e4 : ¬ ((i + 1 : Nat) : Int) < (t.size : Int) := of_decide_eq_false e4;refine hno hG.md ?_;rw [hu, List.drop_of_length_le (by rw [eP]; omega)]
    first | done | rfl
   have e4 : ((i + 1 : Nat) : Int) < (t.size : Int) := of_decide_eq_true e4;obtain ⟨q, hq, hq2⟩ := jF (s := t) (i := i + 1) (by omega);rw [hq, e3] at hf
   have hq255 : ¬ q = 255 := by rintro rfl; exact absurd hf (by decide)
   rw [ct hq, oo, if_neg hq255] at hu;refine hld _ hG.md ?_;dsimp only;refine bF ⟨by omega, e4⟩ ?_;simp only [Int.toNat_natCast, hq2];refine aI (fun e5 => ?_) fun e5 => ?_
   ·have e5 : q = 1 := by
     have : (q.toNat : Int) = 1 := eq_of_beq e5
     apply UInt8.toNat_inj.1; show q.toNat = 1; omega
    rw [if_pos e5] at hu;refine hld _ hG.md ?_;dsimp only;rw [ai (k := i + 1) (by omega)];refine bF ⟨by omega, by omega, by omega⟩ ?_;refine ku (hG.md.at h (by simp)) (Nat.le_refl _) (by simp [Value.oneCell']) rfl ?_;rintro s' rfl
    have hrow := hG.row.mod (Mod.aS (L := [r]) (by simp)) (s' := s1.aS r (.cells #[.string (t.extract ((i + 1 + 1 : Nat) : Int).toNat ((t.size : Nat) : Int).toNat)] 339 (0, 0))) (fun g hg hr => by
     have h1 := hG.fr g hg
     have : g = r := by simpa using hr
     subst this
     rw [h] at h1; cases h1)
    refine nO hrow ?_;rw [← hR]
    have : rI (kL t) = some (⟨2, 0, kB acc⟩, (kL t).drop (i + 1 + 1)) := by
     unfold rI; rw [hu]; simp
    rw [this];refine ⟨rfl, (hG.md.mono (by simp)).trans (Mod.aS (by simp)), ?_⟩;rw [PH.bB]
    show some (Obj.cells #[Value.string (t.extract (i + 1 + 1) t.size)] _ _) = _
    rw [← rm, jE]
   ·have e5 : ¬ q = 1 := by rintro rfl; exact absurd e5 (by decide)
    rw [if_neg e5] at hu;exact hno hG.md (by rw [hu]; (first | done | rfl))
 ·intro J hJ;refine hld _ hG.md ?_;dsimp only;refine aI (fun e3 => ?_) fun e3 => ?_
  ·have e3 : ((i + 1 : Nat) : Int) < (t.size : Int) := of_decide_eq_true e3;obtain ⟨q, hq, hq2⟩ := jF (s := t) (i := i + 1) (by omega);refine hld _ hG.md ?_;dsimp only;refine bF ⟨by omega, e3⟩ ?_;simp only [Int.toNat_natCast, hq2];refine hJ _ _ ⟨_, rfl, rfl, ?_⟩;rw [hq]
   show ((q.toNat : Int) == 255) = (q == 255)
   by_cases hc : q = 255
   ·subst hc; (first | done | rfl)
   ·have h1 : (q == 255) = false := by simpa using hc
    rw [h1]
    have : ¬ (q.toNat : Int) = 255 := by
     intro he;exact hc (UInt8.toNat_inj.1 (by show q.toNat = 255; omega))
    simpa using this
  ·have e3 : ¬ ((i + 1 : Nat) : Int) < (t.size : Int) := of_decide_eq_false e3;refine hJ _ _ ⟨false, rfl, rfl, ?_⟩;rw [List.getElem?_eq_none (by rw [eP]; omega)]; (first | done | rfl)
end
section
attribute [-simp] Fw.W.bC Fw.W.bA
theorem Gw.mod {α : Type} {E : cK α} {e e' : TypeId} {s0 s s' : PH} {a : OA} {n c r : Nat} {l : List α} {cur : Array Value} {f : Nat × Nat} (h : Gw E e s0 s a n c l) (hr : s r = some (.cells cur e' f)) (hne : e' ≠ e) (h0 : s0 r = none) (hm : Fw.Mod [r] s s') : Gw E e s0 s' a n c l := by
 refine ⟨h.row.mod hm fun g hg hr2 => ?_, h.fr, h.md.fresh hm (by simp [h0])⟩
 have : g = r := by simpa using hr2
 subst this;exact h.off hr hne hg
theorem Gw.aS {α : Type} {E : cK α} {e e' : TypeId} {s0 s : PH} {a : OA} {n c r : Nat} {l : List α} {cur : Array Value} {f : Nat × Nat} {o : Obj} (h : Gw E e s0 s a n c l) (hr : s r = some (.cells cur e' f)) (hne : e' ≠ e) (h0 : s0 r = none) : Gw E e s0 (s.aS r o) a n c l :=
 h.mod hr hne h0 (Mod.aS (by simp))
theorem Gv {P : Program} {g : FuncId} {first args : Array Value} {r : Bool × List Shape} {k : bR r.2 → W.T} {s : PH} {fn : Func} (hfn : P.funcs[g]? = some fn) (hb : fn.body.isSome = true) (hn : (fn.name == "runtime.NumGoroutine") = false) {Q : Value → PH → Prop}
  (h : bu P g (first ++ args) s Q) (hk : ∀ v s', Q v s' → ∃ x, gx r x = v ∧ k x s') : W.dR P (.func (.func g) first #[]) args r k s := by
 refine ⟨g, first, #[], rfl, ⟨fn, hfn, hb, hn⟩, ?_⟩
 have : first ++ args ++ #[] = first ++ args := by simp
 rw [this]; exact h.mono hk
def JE (o : Option (List aK)) (s : PH) (y : Value) (s' : PH) : Prop :=
 match o with
 | none => y = .tuple #[.slice none 0 0, .int .i64 20] ∧ Fw.Mod [] s s'
 | some l => ∃ a n c, y = .tuple #[.slice a n c, .int .i64 0] ∧ Gw dO 28 s s' a n c l
def DY : Nat → List UInt8 → Option (aK × List UInt8)
 | 0, l => some (⟨0, 0, ⟨#[]⟩⟩, l)
 | 1, l => td l
 | _, l => rI l
theorem zv {b : UInt8} {l : List UInt8} (h : 1 ≤ b.toNat) (h2 : b.toNat ≤ 3) : lQ (b :: l) = DY (b.toNat - 1) l := by
 have : b = 1 ∨ b = 2 ∨ b = 3 := by
  have : b.toNat = 1 ∨ b.toNat = 2 ∨ b.toNat = 3 := by omega
  rcases this with e | e | e
  ·exact .inl (UInt8.toNat_inj.1 e)
  ·exact .inr (.inl (UInt8.toNat_inj.1 e))
  ·exact .inr (.inr (UInt8.toNat_inj.1 e))
 rcases this with rfl | rfl | rfl <;> rfl
theorem BT {b : UInt8} {l : List UInt8} (h : b.toNat = 0 ∨ 4 ≤ b.toNat) : lQ (b :: l) = none := by
 rw [lQ, if_neg, if_neg, if_neg]
 ·rintro rfl; exact absurd h (by decide)
 ·rintro rfl; exact absurd h (by decide)
 ·rintro rfl; exact absurd h (by decide)
def An (s : PH) (r : Nat) : Nat :=
 match s r with
 | some (.cells c _ _) => match c[0]? with
  | some (Value.string t) => t.size
  | _ => 0
 | _ => 0
theorem xd {s : PH} {r : Nat} {t : BA} (h : s r = some (xb t)) : An s r = t.size := by unfold An; rw [h]; (first | done | rfl)
abbrev DZ (r0 : Nat) : Obj := .cells #[.func (.func 251) #[cp r0] #[], .func (.func 252) #[cp r0] #[], .func (.func 253) #[cp r0] #[]] 341 (0, 0)
theorem wH {s : PH} (x : BA) (hx : x.size ≤ 140737488351232) : ah 212 #[.string x] s (JE (fS x) s) := by
 refine Dk x _ s ?_;unfold uW
 obtain ⟨R, hR⟩ : ∃ R, JE (fS x) s = R := ⟨_, rfl⟩
 rw [hR];simp only [aM, bH, aO, aE, aQ, aR, gX, cj, dg, aT, bS, mz, cG, dj, bf, Nat.zero_add];refine W.bK fun r0 s1 hr0 m1 k0 => ?_;refine W.bK fun r1 s2 hr1 m2 k1 => ?_;have hne : r0 ≠ r1 := Bm k0 hr1;have hn1 : s r1 = none := m1.none hr1 (by simp);refine ku k1 (Nat.le_refl _) (by intro w hw; simp at hw; rcases hw with rfl | rfl | rfl <;> simp [Value.oneCell']) rfl ?_;intro s3 hs3
 have k0' : s3 r0 = some (xb x) := by rw [hs3, PH.bG _ _ hne]; exact m2.at k0 (by simp)
 have k1' : s3 r1 = some (DZ r0) := by rw [hs3, PH.bB]; (first | done | rfl)
 have m3 : Fw.Mod [] s s3 := by rw [hs3]; exact (m1.trans m2).bT (.inr hn1)
 have hbad : ∀ {s' : PH}, Fw.Mod [] s s' → fS x = none → R (.tuple #[.slice none 0 0, .int .i64 20]) s' := fun hm e => by
  rw [← hR, e]; exact ⟨rfl, hm⟩
 refine ⟨fun z s' => ∃ (a : OA) (n c f : Nat) (acc : List aK) (rest : List UInt8), z = ((some ⟨r0, 0, none⟩, ()), (⟨r1, 0, none⟩, ()), ((a, n, c), ()), ()) ∧ Gw dO 28 s s' a n c acc ∧ s' r0 = some (xb (kB rest)) ∧ s' r1 = some (DZ r0) ∧ rest.length < f ∧ rest.length ≤ x.size ∧ acc.length ≤ 8 ∧ mI f rest acc = fS x,
  fun z s' => An s' r0, ⟨none, 0, 0, x.size + 1, [], kL x, rfl, Gw.nil m3, by rw [jE]; exact k0', k1', by rw [eP]; omega, by rw [eP]; omega, by simp, rfl⟩, ?_⟩
 rintro _ s4 ⟨a, n, c, f, acc, rest, rfl, hG, hr, hw, hf, hrl, h8, hd⟩;have hld : ∀ (K : Den [CT.str] → W.T), K (kB rest, ()) s4 → W.ld [.str] ⟨r0, 0, none⟩ K s4 := fun K hk => (W.aB hr _ _ _ _).2 ⟨(kB rest, ()), rfl, hk⟩;have hlen := hG.row.len;simp only [dj, bf, Nat.zero_add];refine hld _ ?_;dsimp only;refine aI (fun e1 => ?_) fun e1 => ?_;rotate_left
 ·have e1 : ¬ (((kB rest).size : Nat) : Int) > 0 := of_decide_eq_false e1;rw [cE] at e1;have : rest = [] := List.eq_nil_of_length_eq_zero (by omega);subst this
  obtain ⟨g, rfl⟩ : ∃ g, f = g + 1 := ⟨f - 1, by omega⟩
  rw [mI, if_pos rfl] at hd;rw [← hR, ← hd];exact ⟨a, n, c, rfl, hG⟩
 have e1 : (((kB rest).size : Nat) : Int) > 0 := of_decide_eq_true e1;rw [cE] at e1
 obtain ⟨b, l, rfl⟩ : ∃ b l, rest = b :: l := by
  cases rest with
  | nil => simp at e1
  | cons b l => exact ⟨b, l, rfl⟩
 simp only [List.length_cons] at hf hrl e1
 obtain ⟨g, rfl⟩ : ∃ g, f = g + 1 := ⟨f - 1, by omega⟩
 have hbz : (kB (b :: l)).size = l.length + 1 := by rw [cE]; (first | done | rfl)
 refine hld _ ?_;dsimp only;refine bF ⟨by omega, by rw [hbz]; omega⟩ ?_;refine hld _ ?_;dsimp only;refine bF ⟨by omega, by rw [hbz]; omega, by omega⟩ ?_;refine ku hr (Nat.le_refl _) (by simp [Value.oneCell']) rfl ?_;intro s5 hs5
 have hb : (kB (b :: l))[0]?.getD 0 = b := by
  obtain ⟨q, h1, h2⟩ := jF (s := kB (b :: l)) (i := 0) (by rw [hbz]; omega);rw [eY] at h1;simp at h1;rw [h2, h1]
 have hr5 : s5 r0 = some (xb (kB l)) := by
  rw [hs5, PH.bB]
  congr 3
  have : kL ((kB (b :: l)).extract 1 (kB (b :: l)).size) = l := by rw [rm, eY]; (first | done | rfl)
  rw [Int.toNat_natCast]
  show #[Value.string ((kB (b :: l)).extract 1 (kB (b :: l)).size)] = _
  rw [← this, jE, this]
 have hG5 : Gw dO 28 s s5 a n c acc := by rw [hs5]; exact hG.aS hr (by decide) hr0
 have h15 : s5 r1 = some (DZ r0) := by rw [hs5, PH.bG _ _ hne.symm]; exact hw
 rw [hb];have hbl := b.toNat_lt;have hw1 : i64.wrap ((b.toNat : Nat) : Int) = (b.toNat : Int) := cq (by omega) (by omega);have hw2 : i64.wrap (((b.toNat : Nat) : Int) - 1) = (b.toNat : Int) - 1 := cq (by omega) (by omega);rw [hw1, hw2];rw [mI, if_neg (by simp)] at hd;refine W.bx (fun x s' => x = ((some ⟨r0, 0, none⟩, ()), (⟨r1, 0, none⟩, ()), ((a, n, c), ()), (((b.toNat - 1 : Nat) : Int), ()), ()) ∧ s5 = s' ∧ 1 ≤ b.toNat ∧ b.toNat ≤ 3 ∧ ¬ acc.length = 8) ?_ ?_
 ·rintro _ s5 ⟨rfl, rfl, h1, h3, ha8⟩;dsimp only;rw [if_neg ha8, zv h1 h3] at hd;refine bF ⟨by omega, by omega⟩ ?_;simp only [Int.toNat_natCast, Nat.mul_one, bf, Nat.zero_add]
  obtain ⟨F, hF⟩ : ∃ F : Nat, #[Value.func (.func 251) #[cp r0] #[], .func (.func 252) #[cp r0] #[], .func (.func 253) #[cp r0] #[]][b.toNat - 1]? = some (Value.func (.func F) #[cp r0] #[]) ∧
    (∃ fn, Tryz.prog.funcs[F]? = some fn ∧ fn.body.isSome = true ∧ (fn.name == "runtime.NumGoroutine") = false) ∧ ah F #[cp r0] s5 (BI r0 (DY (b.toNat - 1) l) s5) := by
   have : b.toNat - 1 = 0 ∨ b.toNat - 1 = 1 ∨ b.toNat - 1 = 2 := by omega
   rcases this with e | e | e <;> rw [e]
   ·exact ⟨_, rfl, ⟨_, Tryz.func251, rfl, by kernel_rfl⟩, by have := IM hr5; rw [eY] at this; exact this⟩
   ·exact ⟨_, rfl, ⟨_, Tryz.func252, rfl, by kernel_rfl⟩, by have := Eg hr5 (by rw [cE]; omega); rw [eY] at this; exact this⟩
   ·exact ⟨_, rfl, ⟨_, Tryz.func253, rfl, by kernel_rfl⟩, by have := IN hr5 (by rw [cE]; omega); rw [eY] at this; exact this⟩
  obtain ⟨hF1, ⟨fn, hfn, hfb, hfn2⟩, hc⟩ := hF;refine (W.aB h15 _ _ _ _).2 ⟨(.func (.func F) #[cp r0] #[], ()), ?_, ?_⟩
  ·have hlt : b.toNat - 1 < 3 := by omega
   unfold B8;rw [if_pos (by simp; omega)]
   have : ((#[Value.func (.func 251) #[cp r0] #[], .func (.func 252) #[cp r0] #[], .func (.func 253) #[cp r0] #[]].toList.drop (b.toNat - 1)).take 1) = [Value.func (.func F) #[cp r0] #[]] := by
    rw [ct (x := Value.func (.func F) #[cp r0] #[]) (by rw [Array.getElem?_toList]; exact hF1)]; (first | done | rfl)
   rw [List.length_nil, this]; (first | done | rfl)
  dsimp only;refine Gv hfn hfb hfn2 hc ?_;intro v s6 hq
  cases hw : DY (b.toNat - 1) l with
  | none =>
   rw [hw] at hq hd;obtain ⟨⟨v0, rfl⟩, mq⟩ := hq;refine ⟨(bM v0, (false, ()), ()), rfl, ?_⟩;dsimp only;refine (W.af _ _ _ _).2 ⟨fun _ => hbad (hG5.md.fresh mq (by simp [hr0])) hd.symm, fun e => (by cases e)⟩
  | some q =>
   obtain ⟨v0, l2⟩ := q;rw [hw] at hq hd;obtain ⟨rfl, mq, hq2⟩ := hq;refine ⟨(bM v0, (true, ()), ()), rfl, ?_⟩;dsimp only;have hG6 := hG5.mod hr5 (by decide) hr0 mq;refine (W.af _ _ _ _).2 ⟨fun e => (by cases e), fun _ => ?_⟩;refine aH ((j3 v0, ()), ()) (oP v0 s6) rfl ?_;dsimp only at hd;have hl2 := zu (l := b :: l) (by rw [zv h1 h3, hw]);simp only [List.length_cons] at hl2;refine aI (fun e => ?_) fun e => ?_
   ·have hno : ¬ bD v0 = true := by intro hy; unfold j3 at e; rw [if_pos hy] at e; exact absurd e (by decide)
    rw [if_neg hno] at hd;exact hbad hG6.md hd.symm
   ·have hyes : bD v0 = true := by
     cases hy : bD v0 with
     | true => rfl
     | false => unfold j3 at e; rw [hy] at e; exact absurd e (by decide)
    rw [if_pos hyes] at hd;refine hG6.nr [v0] (k := 1) rfl rfl rfl (by omega) (by omega) fun a3 c3 s7 h7 m7 => ?_;have hr7 := m7.at hq2 (hG6.off hq2 (by decide));refine ⟨⟨a3, n + 1, c3, g, acc ++ [v0], l2, rfl, h7, hr7, ?_, by omega, by omega, by simp; omega, hd⟩, ?_⟩
    ·have h16 := mq.at h15 (by simp; exact hne.symm);exact m7.at h16 (hG6.off h16 (by decide))
    ·rw [xd hr7, xd hr, cE, cE, List.length_cons]; omega
 ·intro J hJ;refine aI (fun e => ?_) fun e => ?_
  ·have e : (b.toNat : Int) - 1 < 0 := of_decide_eq_true e;refine hbad hG5.md ?_
   rw [← hd, BT (.inl (by omega))]; split <;> rfl
  have e : ¬ (b.toNat : Int) - 1 < 0 := of_decide_eq_false e;refine aI (fun e2 => ?_) fun e2 => ?_
  ·have e2 : (b.toNat : Int) - 1 ≥ 3 := of_decide_eq_true e2;refine hbad hG5.md ?_
   rw [← hd, BT (.inr (by omega))]; split <;> rfl
  have e2 : ¬ (b.toNat : Int) - 1 ≥ 3 := of_decide_eq_false e2;refine aI (fun e3 => ?_) fun e3 => ?_
  ·have e3 : (n : Int) = 8 := eq_of_beq e3;refine hbad hG5.md ?_;rw [← hd, if_pos (by omega)]
  have e3 : ¬ (n : Int) = 8 := by simpa using e3
  exact hJ _ _ ⟨by rw [show ((b.toNat - 1 : Nat) : Int) = (b.toNat : Int) - 1 by omega], rfl, by omega, by omega, by omega⟩
end
section
abbrev bg (n : Int) : aK := ⟨1, n, ⟨#[]⟩⟩
abbrev kT : aK := ⟨0, 0, ⟨#[]⟩⟩
def iL (t : Int) (v : aK) : BA := (keyOf [bg 0, bg t, v]).1
def js (i : Int) (v k : aK) : BA := (keyOf [bg 1, bg i, v, k]).1
def FL (x : BA) : BA × BA := (x, x ++ ⟨#[255]⟩)
def under (l : List aK) : BA × BA := FL (keyOf l).1
def o6 (x : BA) : Option aK := (fS x).bind fun l => l.getLast?
structure aY where
 id : Int
 v : aK
 deriving DecidableEq
def cW (c : aY) : List UInt8 := UInt8.ofNat ([bg c.id, c.v].flatMap bW).length :: [bg c.id, c.v].flatMap bW
def de : Int → List aY → Bool
 | _, [] => true
 | last, c :: l => bD c.v && decide (last < c.id) && de c.id l
def cU (l : List aY) : BA × Int := if de 0 l = true then (kB (l.flatMap cW), 0) else (⟨#[]⟩, 100)
def iW : Nat → List UInt8 → Int → List aY → Option (List aY)
 | 0, _, _, _ => none
 | _ + 1, [], _, acc => some acc
 | f + 1, n :: r, last, acc => if r.length < n.toNat then none else match fS (kB (r.take n.toNat)) with
  | some [a, b] => if a.kind = 1 ∧ 1 ≤ a.n ∧ last < a.n then iW f (r.drop n.toNat) a.n (acc ++ [⟨a.n, b⟩]) else none
  | _ => none
def gA (x : BA) : Option (List aY) := iW (x.size + 1) (kL x) 0 []
def j4 : Nat → List UInt8 → List aY → Option (List aY)
 | 0, _, _ => none
 | _ + 1, [], acc => some acc
 | f + 1, n :: r, acc => if r.length < n.toNat then none else match fS (kB (r.take n.toNat)) with
  | some [a, b] => j4 f (r.drop n.toNat) (acc ++ [⟨a.n, b⟩])
  | _ => none
def BW (x : BA) : Option (List aY) := (j4 (x.size + 1) (kL x) []).bind fun l => if (cU l).2 = 0 ∧ (cU l).1 = x then some l else none
def bh (l : List aY) (id : Int) : aK := ((l.find? fun c => c.id == id).map (·.v)).getD kT
theorem B5 {n : Int} (h : lC n) : ju (bg n) := ⟨rfl, h⟩
theorem HT (n : Int) : (bW (bg n)).length = 9 := rfl
theorem sL {c : aY} (h : bD c.v = true) : ([bg c.id, c.v].flatMap bW).length < 256 := by
 have h1 : (bW c.v).length ≤ 140 := by
  have e : ∀ l : List UInt8, (eo l).length ≤ 2 * l.length := by
   intro l
   induction l with
   | nil => simp [eo]
   | cons b l ih =>
    simp only [eo]
    split <;> simp <;> omega
  have h2 := e (kL c.v.s);rw [eP] at h2;unfold bD at h;unfold bW
  split
  ·simp [fC]
  ·split
   ·rename_i g1 g3
    rw [if_neg (by omega), if_neg g1, if_pos g3] at h;simp at h;simp; omega
   ·simp
 simp only [List.flatMap_cons, List.flatMap_nil, List.append_nil, List.length_append, HT];omega
theorem wM {c : aY} (h : bD c.v = true) (r : List UInt8) : ∃ n t, cW c ++ r = n :: t ∧ n.toNat = ([bg c.id, c.v].flatMap bW).length ∧ t.take n.toNat = [bg c.id, c.v].flatMap bW ∧ t.drop n.toNat = r ∧ n.toNat ≤ t.length := by
 have hl := sL h;refine ⟨UInt8.ofNat ([bg c.id, c.v].flatMap bW).length, [bg c.id, c.v].flatMap bW ++ r, rfl, ?_, ?_, ?_, ?_⟩
 ·rw [UInt8.toNat_ofNat']; omega
 ·rw [UInt8.toNat_ofNat', Nat.mod_eq_of_lt (by omega), List.take_append_of_le_length (Nat.le_refl _), List.take_length]
 ·rw [UInt8.toNat_ofNat', Nat.mod_eq_of_lt (by omega), List.drop_append_of_le_length (Nat.le_refl _), List.drop_length]; (first | done | rfl)
 ·rw [UInt8.toNat_ofNat', Nat.mod_eq_of_lt (by omega), List.length_append]; omega
def BG (c : aY) : Prop := ju c.v ∧ lC c.id
theorem Fy {a b : aK} {l : List UInt8} (ha : ju a) (hb : ju b) (h : l = [a, b].flatMap bW) : fS (kB l) = some [a, b] := by
 rw [h];refine C0 ?_ (by simp);intro v hv;simp at hv;rcases hv with rfl | rfl
 ·exact ha
 ·exact hb
theorem zG : ∀ (l : List aY) (f : Nat) (last : Int) (acc : List aY), (∀ c ∈ l, BG c) → 0 ≤ last → de last l = true → (l.flatMap cW).length < f → iW f (l.flatMap cW) last acc = some (acc ++ l)
 | [], f, last, acc, _, _, _, hf => by
  obtain ⟨g, rfl⟩ : ∃ g, f = g + 1 := ⟨f - 1, by omega⟩
  simp [iW]
 | c :: l, f, last, acc, h, h0, hp, hf => by
  obtain ⟨g, rfl⟩ : ∃ g, f = g + 1 := ⟨f - 1, by omega⟩
  simp only [de, Bool.and_eq_true, decide_eq_true_eq] at hp;obtain ⟨⟨hp1, hp2⟩, hp3⟩ := hp;obtain ⟨n, t, e1, e2, e3, e4, e5⟩ := wM hp1 (l.flatMap cW);rw [List.flatMap_cons, e1] at hf;simp only [List.length_cons] at hf;have hc := h c (by simp);rw [List.flatMap_cons, e1, iW, if_neg (by omega), Fy (B5 hc.2) hc.1 e3];simp only;rw [if_pos ⟨trivial, by omega, hp2⟩, e4]
  have hdl : (l.flatMap cW).length ≤ t.length := by rw [← e4, List.length_drop]; omega
  show iW g (l.flatMap cW) c.id (acc ++ [c]) = _
  rw [zG l g c.id (acc ++ [c]) (fun x hx => h x (by simp [hx])) (by omega) hp3 (by omega)];simp
theorem Ak : ∀ (f : Nat) (x : List UInt8) (last : Int) (acc l : List aY), iW f x last acc = some l → 0 ≤ last → ∃ m, l = acc ++ m ∧ x = m.flatMap cW ∧ de last m = true ∧ ∀ c ∈ m, BG c
 | 0, x, last, acc, l, h, _ => by simp [iW] at h
 | f + 1, [], last, acc, l, h, _ => by
  simp only [iW, Option.some.injEq] at h;subst h;exact ⟨[], by simp, rfl, rfl, by simp⟩
 | f + 1, n :: r, last, acc, l, h, h0 => by
  rw [iW] at h
  split at h
  ·cases h
  ·rename_i hn
   split at h
   ·rename_i a b hk
    split at h
    ·rename_i hc
     obtain ⟨hk1, hk2, _⟩ := j7 hk;have ha := hk2 a (by simp);have hb := hk2 b (by simp);obtain ⟨m, e1, e2, e3, e4⟩ := Ak f _ _ _ _ h (by omega)
     have hcv : a = bg a.n := by
      have h1 := ha.1;obtain ⟨ka, na, sa⟩ := a;simp only at hc;obtain ⟨rfl, _, _⟩ := hc;unfold bD at h1;simp at h1;subst h1; (first | done | rfl)
     have hbytes : r.take n.toNat = [bg a.n, b].flatMap bW := by
      have := ER hk1;rw [this, ← hcv]
     have hlen : n.toNat = ([bg a.n, b].flatMap bW).length := by
      rw [← hbytes, List.length_take]; omega
     refine ⟨⟨a.n, b⟩ :: m, by rw [e1]; simp, ?_, ?_, ?_⟩
     ·rw [List.flatMap_cons, ← e2];unfold cW
      show n :: r = _
      rw [← hlen, ← hbytes]
      have : UInt8.ofNat n.toNat = n := by simp
      rw [this, List.cons_append, List.take_append_drop]
     ·simp only [de, Bool.and_eq_true, decide_eq_true_eq];exact ⟨⟨hb.1, hc.2.2⟩, e3⟩
     ·intro c hc2;rcases List.mem_cons.1 hc2 with rfl | hc2
      ·exact ⟨hb, ha.2⟩
      ·exact e4 c hc2
    ·cases h
   ·cases h
theorem zF {l : List aY} (h : ∀ c ∈ l, BG c) (hp : de 0 l = true) : gA (kB (l.flatMap cW)) = some l := by
 unfold gA;rw [cE, eY, zG l _ 0 [] h (by omega) hp (by omega)];simp
theorem nh {x : BA} {l : List aY} (h : gA x = some l) : x = kB (l.flatMap cW) ∧ de 0 l = true ∧ (∀ c ∈ l, BG c) ∧ cU l = (x, 0) := by
 obtain ⟨m, e1, e2, e3, e4⟩ := Ak _ _ _ _ _ h (by omega);simp only [List.nil_append] at e1;subst e1
 have : x = kB (l.flatMap cW) := by rw [← e2, jE]
 refine ⟨this, e3, e4, ?_⟩;unfold cU;rw [if_pos e3, ← this]
theorem oX : ∀ (f : Nat) (x : List UInt8) (last : Int) (acc l : List aY), iW f x last acc = some l → j4 f x acc = some l
 | 0, x, last, acc, l, h => by simp [iW] at h
 | f + 1, [], last, acc, l, h => by simpa [iW, j4] using h
 | f + 1, n :: r, last, acc, l, h => by
  rw [iW] at h;rw [j4]
  split at h
  ·cases h
  ·rename_i hn
   rw [if_neg hn]
   split at h
   ·rename_i a b hk
    split at h
    ·exact oX f _ _ _ _ h
    ·cases h
   ·cases h
theorem wQ : ∀ (f : Nat) (x : List UInt8) (last : Int) (acc l : List aY), j4 f x acc = some l → 0 ≤ last → ∀ m, l = acc ++ m → de last m = true → x = m.flatMap cW → iW f x last acc = some l
 | 0, x, last, acc, l, h, _, _, _, _, _ => by simp [j4] at h
 | f + 1, [], last, acc, l, h, _, _, _, _, _ => by simpa [iW, j4] using h
 | f + 1, n :: r, last, acc, l, h, h0, m, hm, hp, hx => by
  rw [j4] at h;rw [iW]
  split at h
  ·cases h
  ·rename_i hn
   rw [if_neg hn]
   split at h
   ·rename_i a b hk
    obtain ⟨hk1, hk2, _⟩ := j7 hk;have hk1 := ER hk1;have ha := hk2 a (by simp);have hb := hk2 b (by simp)
    -- the first cell that was written
    have hpre : ∀ (f : Nat) (x : List UInt8) (acc l : List aY), j4 f x acc = some l → ∃ m, l = acc ++ m := by
     intro f
     induction f with
     | zero => intro x acc l h; simp [j4] at h
     | succ f ih =>
      intro x acc l h
      cases x with
      | nil => simp only [j4, Option.some.injEq] at h; exact ⟨[], by simp [h]⟩
      | cons n r =>
       rw [j4] at h
       split at h
       ·cases h
       ·split at h
        ·obtain ⟨m, e⟩ := ih _ _ _ h;exact ⟨_ :: m, by rw [e]; simp; (first | done | rfl)⟩
        ·cases h
    obtain ⟨m', hm'⟩ := hpre _ _ _ _ h
    have hmm : m = ⟨a.n, b⟩ :: m' := by
     rw [hm, List.append_assoc] at hm';exact List.append_cancel_left hm'
    subst hmm;simp only [de, Bool.and_eq_true, decide_eq_true_eq] at hp;obtain ⟨⟨hp1, hp2⟩, hp3⟩ := hp;rw [List.flatMap_cons] at hx;obtain ⟨n', t, e1, e2, e3, e4, e5⟩ := wM (c := ⟨a.n, b⟩) hp1 (m'.flatMap cW);rw [e1] at hx;simp only [List.cons.injEq] at hx;obtain ⟨rfl, rfl⟩ := hx;rw [e3] at hk1
    have hk1' : [bg a.n, b].flatMap bW ++ [] = [a, b].flatMap bW ++ [] := by rw [List.append_nil, List.append_nil]; exact hk1
    have := (zC (l := [bg a.n, b]) (m := [a, b]) (by intro v hv; simp at hv; rcases hv with rfl | rfl; exact B5 ha.2; exact hb) (by intro v hv; simp at hv; rcases hv with rfl | rfl; exact ha; exact hb) rfl hk1').1;simp only [List.cons.injEq, and_true] at this;rw [if_pos ⟨by rw [← this], by omega, hp2⟩];exact wQ f _ _ _ _ h (by omega) m' hm' hp3 e4
   ·cases h
theorem go_eq (x : BA) : BW x = gA x := by
 unfold BW
 cases hg : j4 (x.size + 1) (kL x) [] with
 | none =>
  cases h2 : gA x with
  | none => rfl
  | some l => rw [oX _ _ _ _ _ h2] at hg; cases hg
 | some l =>
  simp only [Option.bind_some]
  split
  ·rename_i h
   obtain ⟨h1, h2⟩ := h
   have hp : de 0 l = true := by
    unfold cU at h1
    split at h1
    ·assumption
    ·simp at h1
   unfold cU at h2;rw [if_pos hp] at h2
   have hx : kL x = l.flatMap cW := by rw [← h2, eY]
   exact (wQ _ _ 0 [] l hg (by omega) l (by simp) hp hx).symm
  ·rename_i h
   cases h2 : gA x with
   | none => rfl
   | some m =>
    have := oX _ _ _ _ _ h2;rw [hg] at this;cases this;obtain ⟨_, _, _, e⟩ := nh h2;rw [e] at h;exact absurd ⟨rfl, rfl⟩ h
end
section
attribute [-simp] Fw.W.bC Fw.W.bA
theorem kW {α : Type} {E : cK α} {s : PH} {r : Nat} {cur : Array Value} {e : TypeId} {l : List α} {n : Nat} (h : s r = some (.cells cur e (0, 0))) (hc : cur.toList = l.flatMap E.f) (hn : l.length = n) (hl : n ≤ 4294967296) : bp E s e (some ⟨r, 0, none⟩) n n l := by
 have hlen : cur.size = n * E.sz := by rw [← Array.length_toList, hc, dV, hn]
 refine ⟨by rw [dV, hn], Nat.le_refl _, by show n ≤ 9223372036854775807; omega, .inr ⟨r, cur, rfl, h, by omega, ?_⟩⟩;rw [List.take_of_length_le (by rw [Array.length_toList]; omega), hc]
theorem kZ {s : PH} {r : Nat} {cur : Array Value} {e : TypeId} {l : List aK} {n : Nat} (h : s r = some (.cells cur e (0, 0))) (hc : cur.toList = l.flatMap dO.f) (hn : l.length = n) (hl : n ≤ 4294967296) : H6 s (some ⟨r, 0, none⟩) n n l :=
 Sl.bE (kW h hc hn hl) (by omega)
abbrev nv (p : BA × BA) : Value := .agg #[.string p.1, .string p.2]
theorem gu (l : List aK) : (keyOf l).1.size ≤ 1120 := by
 unfold keyOf
 split
 ·exact Nat.zero_le _
 ·split
  ·exact Nat.zero_le _
  ·rename_i h1 h2
   rw [cE]
   have : ∀ v ∈ l, bD v = true := fun v hv => by
    have h3 : mV l = false := by simpa using h2
    unfold mV at h3;rw [List.any_eq_false] at h3;simpa using h3 v hv
   have := tE this;omega
theorem tS {s : PH} {a : OA} {n c : Nat} {l : List aK} (h : H6 s a n c l) : ah 208 #[.slice a n c] s fun y s' => y = .string (keyOf l).1 ∧ s' = s := by
 refine Jk a n c _ s ?_;unfold Cu;simp only [aT, aE];exact aH (((keyOf l).1, ()), ((keyOf l).2, ()), ()) (wI h) rfl ⟨rfl, rfl⟩
theorem jZ (n : Int) (s : PH) : ah 209 #[.int .i64 n] s fun y s' => y = fm (bg n) ∧ s' = s := by
 refine Jl n _ s ?_;unfold Cv;exact ⟨rfl, rfl⟩
theorem za (x : BA) (hx : x.size ≤ 1000000) (s : PH) : ah 207 #[.string x] s fun y s' => y = nv (FL x) ∧ s' = s := by
 refine E6 x _ s ?_;unfold xF;exact ⟨by omega, rfl, rfl⟩
theorem El (t : Int) (v : aK) (s : PH) : ah 162 #[.int .i64 t, fm v] s fun y s' => y = .string (iL t v) ∧ s' = s := by
 refine bu.quiet (Jj t v.kind v.n v.s _ s ?_);unfold Ct;simp only [bS, aT, cj, aE];refine W.cr (bM (bg 0), ()) (jZ 0 s) rfl ?_;refine W.cr (bM (bg t), ()) (jZ t s) rfl ?_;refine W.bK fun r s1 hr m1 k1 => ?_;exact aH ((iL t v, ()), ()) (tS (kZ (l := [bg 0, bg t, v]) k1 rfl rfl (by omega))) rfl ⟨rfl, m1⟩
theorem zc (i : Int) (v k : aK) (s : PH) : ah 154 #[.int .i64 i, fm v, fm k] s fun y s' => y = .string (js i v k) ∧ s' = s := by
 refine bu.quiet (Fj i v.kind v.n v.s k.kind k.n k.s _ s ?_);unfold xR;simp only [bS, aT, cj, aE];refine W.cr (bM (bg 1), ()) (jZ 1 s) rfl ?_;refine W.cr (bM (bg i), ()) (jZ i s) rfl ?_;refine W.bK fun r s1 hr m1 k1 => ?_;exact aH ((js i v k, ()), ()) (tS (kZ (l := [bg 1, bg i, v, k]) k1 rfl rfl (by omega))) rfl ⟨rfl, m1⟩
theorem Gs (t : Int) (s : PH) : ah 210 #[.int .i64 t] s fun y s' => y = nv (under [bg 0, bg t]) ∧ s' = s := by
 refine bu.quiet (Fl t _ s ?_);unfold xT;simp only [bS, aT, cj, aE];refine aH (bM (bg 0), ()) (jZ 0 s) rfl ?_;refine aH (bM (bg t), ()) (jZ t s) rfl ?_;refine W.bK fun r s1 hr m1 k1 => ?_;refine aH (((keyOf [bg 0, bg t]).1, ()), ()) (tS (kZ (l := [bg 0, bg t]) k1 rfl rfl (by omega))) rfl ?_;have hs := gu [bg 0, bg t];exact aH (((under [bg 0, bg t]).1, (under [bg 0, bg t]).2, ()), ()) (za _ (by dsimp only; omega) s1) rfl ⟨rfl, m1⟩
theorem zd (i : Int) (v : aK) (s : PH) : ah 153 #[.int .i64 i, fm v] s fun y s' => y = nv (under [bg 1, bg i, v]) ∧ s' = s := by
 refine bu.quiet (Fk i v.kind v.n v.s _ s ?_);unfold xS;simp only [bS, aT, cj, aE];refine W.cr (bM (bg 1), ()) (jZ 1 s) rfl ?_;refine W.cr (bM (bg i), ()) (jZ i s) rfl ?_;refine W.bK fun r s1 hr m1 k1 => ?_;refine aH (((keyOf [bg 1, bg i, v]).1, ()), ()) (tS (kZ (l := [bg 1, bg i, v]) k1 rfl rfl (by omega))) rfl ?_;have hs := gu [bg 1, bg i, v];exact aH (((under [bg 1, bg i, v]).1, (under [bg 1, bg i, v]).2, ()), ()) (za _ (by dsimp only; omega) s1) rfl ⟨rfl, m1⟩
def uo (x : BA) : Value := match o6 x with | some v => .tuple #[fm v, .int .i64 0] | none => .tuple #[fm kT, .int .i64 20]
theorem ze (x : BA) (hx : x.size ≤ 140737488351232) (s : PH) : ah 150 #[.string x] s fun y s' => y = uo x ∧ s' = s := by
 refine bu.quiet (Jh x _ s ?_);unfold Cr uo o6
 obtain ⟨O, hO⟩ : ∃ O, fS x = O := ⟨_, rfl⟩
 simp only [aT, aO, aE, aR, aM, bH];refine W.ak (wH x hx) ?_;rw [hO];intro y s1 hq
 cases O with
 | none =>
  obtain ⟨rfl, m1⟩ := hq;refine ⟨(((none, 0, 0), ()), (20, ()), ()), rfl, ?_⟩;exact (W.af _ _ _ _).2 ⟨fun _ => ⟨rfl, m1⟩, fun e => (by cases e)⟩
 | some l =>
  obtain ⟨a, n, c, rfl, hG⟩ := hq;have hlen := hG.row.len;have h8 := (j7 hO).2.2;refine ⟨(((a, n, c), ()), (0, ()), ()), rfl, ?_⟩;dsimp only;refine (W.af _ _ _ _).2 ⟨fun e => (by cases e), fun _ => aI (fun e => ?_) fun e => ?_⟩
  ·have e : (n : Int) = 0 := eq_of_beq e;have : l = [] := List.eq_nil_of_length_eq_zero (by omega);subst this;exact ⟨rfl, hG.md⟩
  ·have e : ¬ (n : Int) = 0 := by simpa using e
   have hw : i64.wrap ((n : Int) - 1) = ((n - 1 : Nat) : Int) := by rw [cq (by omega) (by omega)]; omega
   rw [hw];refine bF ⟨by omega, by omega⟩ ?_
   obtain ⟨v, hv⟩ : ∃ v, l[n - 1]? = some v := ⟨_, List.getElem?_eq_getElem (by omega)⟩
   obtain ⟨g, rfl, hh⟩ := hG.row.at hv;simp only [dj, Int.toNat_natCast, bf, Nat.zero_add];have hh : s1.has ⟨g, (n - 1) * 3, none⟩ (dO.f v) := hh;refine az hh (y := bM v) rfl ?_
   have : l.getLast? = some v := by rw [List.getLast?_eq_getElem?, ← hlen, hv]
   show _ ∧ _
   simp only [Option.bind_some, this];exact ⟨trivial, hG.md⟩
def bz : cK aY where
 sz := 4
 f c := [.int .i64 c.id, .int .i64 c.v.kind, .int .i64 c.v.n, .string c.v.s]
 len _ := rfl
 one p v hv := by simp at hv; rcases hv with rfl | rfl | rfl | rfl <;> rfl
 pos := by omega
abbrev zj (c : aY) : Den [.int .i64, .int .i64, .int .i64, .str] := (c.id, c.v.kind, c.v.n, c.v.s, ())
theorem lf {s : PH} {a : OA} {n c : Nat} {l : List aY} (h : Sl bz s (a, n, c) l) (id : Int) : ah 127 #[.slice a n c, .int .i64 id] s fun y s' => y = fm (bh l id) ∧ s' = s := by
 refine Ks a n c id _ s ?_;unfold FY
 obtain ⟨R, hR⟩ : ∃ R : Value → PH → Prop, (fun y s' => y = fm (bh l id) ∧ s' = s) = R := ⟨_, rfl⟩
 rw [hR];have hlen : n = l.length := h.len;have hfew := h.cO;simp only [aQ, aO, aE, aR, aM, bH];refine ⟨fun z s' => ∃ k : Nat, z = ((0, 0, ⟨#[]⟩, ()), ((a, n, c), ()), ((n : Int), ()), ((k : Int), ()), ()) ∧ k ≤ n ∧ s' = s ∧ bh (l.drop k) id = bh l id, fun z _ => n - z.2.2.2.1.1.toNat, ⟨0, rfl, Nat.zero_le _, rfl, rfl⟩, ?_⟩;rintro _ s ⟨k, rfl, hk, rfl, ho⟩;dsimp only;refine aI (fun e => ?_) fun e => ?_
 ·have hlt : (k : Int) < (n : Int) := of_decide_eq_true e
  obtain ⟨x, hx⟩ : ∃ x, l[k]? = some x := ⟨_, List.getElem?_eq_getElem (by omega)⟩
  obtain ⟨ad, had, hh⟩ := h.el.aA hx;dsimp only at had;subst had;refine bF ⟨by omega, hlt⟩ ?_;simp only [dj, Int.toNat_natCast];have hh : s.has (ad.add (k * 4)) (bz.f x) := hh;refine az hh (y := zj x) rfl ?_;rw [ct hx] at ho;unfold bh at ho;rw [List.find?_cons] at ho;refine aI (fun e2 => ?_) fun e2 => ?_
  ·have e2 : (x.id == id) = true := e2;rw [e2] at ho;rw [← hR];refine ⟨?_, rfl⟩;unfold bh;rw [← ho]; (first | done | rfl)
  ·have e2 : (x.id == id) = false := e2;rw [e2] at ho;rw [ai (k := k) (by omega)];exact ⟨⟨k + 1, rfl, by omega, rfl, ho⟩, by simp only [Int.toNat_natCast]; omega⟩
 ·have e : ¬ (k : Int) < (n : Int) := of_decide_eq_false e;rw [List.drop_of_length_le (by omega)] at ho;rw [← hR];exact ⟨by rw [← ho]; (first | done | rfl), rfl⟩
theorem keyOf_pair {c : aY} (h : bD c.v = true) : keyOf [bg c.id, c.v] = (kB ([bg c.id, c.v].flatMap bW), 0) := sX (by intro v hv; simp at hv; rcases hv with rfl | rfl; rfl; exact h) (by simp)
theorem vQ {c : aY} (h : ¬ bD c.v = true) : (keyOf [bg c.id, c.v]).2 = 10 := by
 unfold keyOf;rw [if_neg (by simp), if_pos];unfold mV;simp [h]
theorem uA : ∀ (l : List aY) (c : aY) (last : Int), de last (l ++ [c]) = (de last l && (bD c.v && decide (((l.getLast?).map (·.id)).getD last < c.id)))
 | [], c, last => by
  show (bD c.v && decide (last < c.id) && true) = (true && (bD c.v && decide (last < c.id)))
  rw [Bool.and_true, Bool.true_and]
 | x :: l, c, last => by
  have e : (((x :: l).getLast?).map (·.id)).getD last = ((l.getLast?).map (·.id)).getD x.id := by
   rw [List.getLast?_cons]
   cases l.getLast? <;> rfl
  rw [e];simp only [List.cons_append, de, uA l c x.id, Bool.and_assoc]
theorem w6 : ∀ (l m : List aY) (last : Int), de last (l ++ m) = true → de last l = true
 | [], m, last, _ => rfl
 | x :: l, m, last, h => by
  simp only [List.cons_append, de, Bool.and_eq_true] at h ⊢;exact ⟨h.1, w6 l m x.id h.2⟩
theorem B7 {l : List aY} {k : Nat} (h : de 0 (l.take k) = false) : cU l = (⟨#[]⟩, 100) := by
 unfold cU;rw [if_neg];intro hy;have := w6 (l.take k) (l.drop k) 0 (by rw [List.take_append_drop]; exact hy);rw [h] at this; cases this
theorem wO {l : List aY} (h : ∀ c ∈ l, bD c.v = true) : (l.flatMap cW).length ≤ 256 * l.length := by
 induction l with
 | nil => simp
 | cons c l ih =>
  have h1 := sL (h c (by simp));have h2 := ih fun x hx => h x (by simp [hx]);rw [List.flatMap_cons, List.length_append, List.length_cons];have : (cW c).length = ([bg c.id, c.v].flatMap bW).length + 1 := rfl;omega
theorem uB : ∀ {l : List aY} {last : Int}, de last l = true → ∀ c ∈ l, bD c.v = true
 | [], last, _ => by simp
 | x :: l, last, h => by
  simp only [de, Bool.and_eq_true] at h;intro c hc;rcases List.mem_cons.1 hc with rfl | hc
  ·exact h.1.1
  ·exact uB h.2 c hc
def nW (l : List aY) : Int := ((l.getLast?).map (·.id)).getD 0
theorem GO {n : Nat} (h : n < 256) : u8.wrap ((n : Nat) : Int) = ((UInt8.ofNat n).toNat : Int) := by
 rw [w8, UInt8.toNat_ofNat']; omega
theorem Ek {s : PH} {a : OA} {n c : Nat} {l : List aY} (h : Sl bz s (a, n, c) l) : ah 158 #[.slice a n c] s fun y s' => y = .tuple #[.string (cU l).1, .int .i64 (cU l).2] ∧ s' = s := by
 refine bu.quiet (Ji a n c _ s ?_);unfold Cs
 obtain ⟨R, hR⟩ : ∃ R : Value → PH → Prop, (fun y s' => y = .tuple #[.string (cU l).1, .int .i64 (cU l).2] ∧ Fw.Mod [] s s') = R := ⟨_, rfl⟩
 rw [hR];have hlen : n = l.length := h.len;have hfew := h.cO;simp only [aQ, aO, aE, aR, aM, bH, bS, aT, cj, tK];refine ⟨fun z s' => ∃ k : Nat, z = ((kB ((l.take k).flatMap cW), ()), (nW (l.take k), ()), ((a, n, c), ()), ((n : Int), ()), ((k : Int), ()), ()) ∧ k ≤ n ∧ Fw.Mod [] s s' ∧ de 0 (l.take k) = true, fun z _ => n - z.2.2.2.2.1.1.toNat, ⟨0, rfl, Nat.zero_le _, Mod.refl _ _, rfl⟩, ?_⟩;rintro _ s1 ⟨k, rfl, hk, m1, hp⟩;dsimp only;refine aI (fun e => ?_) fun e => ?_
 ·have hlt : (k : Int) < (n : Int) := of_decide_eq_true e
  obtain ⟨x, hx⟩ : ∃ x, l[k]? = some x := ⟨_, List.getElem?_eq_getElem (by omega)⟩
  have htk : l.take (k + 1) = l.take k ++ [x] := by rw [List.take_add_one, hx]; (first | done | rfl)
  obtain ⟨ad, had, hh⟩ := (h.el.mono m1.le).aA hx;dsimp only at had;subst had;refine bF ⟨by omega, hlt⟩ ?_;simp only [dj, Int.toNat_natCast];have hh : s1.has (ad.add (k * 4)) (bz.f x) := hh;refine az hh (y := zj x) rfl ?_;dsimp only;refine W.cr (bM (bg x.id), ()) (jZ _ s1) rfl ?_;refine W.bK fun r s2 hr m2 k2 => ?_;refine aH (((keyOf [bg x.id, x.v]).1, ()), ((keyOf [bg x.id, x.v]).2, ()), ()) (wI (kZ (l := [bg x.id, x.v]) k2 rfl rfl (by omega))) rfl ?_;have m12 := m1.trans m2
  have hpk : de 0 (l.take (k + 1)) = (bD x.v && decide (nW (l.take k) < x.id)) := by
   rw [htk, uA, hp]; (first | done | rfl)
  dsimp only;refine aI (fun e1 => ?_) fun e1 => ?_
  ·have hno : ¬ bD x.v = true := by intro hy; rw [keyOf_pair hy] at e1; simp at e1
   rw [← hR, B7 (k := k + 1) (by rw [hpk]; simp [hno])];exact ⟨rfl, m12⟩
  have hyes : bD x.v = true := by
   cases hy : bD x.v with
   | true => rfl
   | false => rw [vQ (by rw [hy]; decide)] at e1; simp at e1
  rw [hyes, Bool.true_and] at hpk;refine aI (fun e2 => ?_) fun e2 => ?_
  ·have e2 : x.id ≤ nW (l.take k) := of_decide_eq_true e2;rw [← hR, B7 (k := k + 1) (by rw [hpk]; simp; omega)];exact ⟨rfl, m12⟩
  have e2 : ¬ x.id ≤ nW (l.take k) := of_decide_eq_false e2
  have hpk : de 0 (l.take (k + 1)) = true := by rw [hpk]; simp; omega
  rw [keyOf_pair hyes];have hcl := sL hyes;have hkl := wO (uB hp);rw [List.length_take] at hkl;dsimp only;rw [cE, GO hcl];refine W.bK fun r2 s3 hr2 m3 k3 => ?_;refine nO (kW (E := nP) (l := [UInt8.ofNat ([bg x.id, x.v].flatMap bW).length]) k3 rfl rfl (by omega)) ?_;rw [← qA, ← qA, cE, cE];refine (W.aZ _ _ _).2 ⟨by simp only [List.length_cons, List.length_nil]; omega, (W.aZ _ _ _).2 ⟨?_, ?_⟩⟩
  ·rw [cE, List.length_append];simp only [List.length_cons, List.length_nil]; omega
  rw [ai (k := k) (by omega)];refine ⟨⟨k + 1, ?_, by omega, m12.trans m3, hpk⟩, by simp only [Int.toNat_natCast]; omega⟩
  have h1 : nW (l.take (k + 1)) = x.id := by unfold nW; rw [htk]; simp
  rw [h1, htk, List.flatMap_append];simp [cW]
 ·have e : ¬ (k : Int) < (n : Int) := of_decide_eq_false e;rw [List.take_of_length_le (by omega)] at hp ⊢;rw [← hR];refine ⟨?_, m1⟩;unfold cU;rw [if_pos hp]
end
section
attribute [-simp] Fw.W.bC Fw.W.bA
def JG (o : Option (List aY)) (s : PH) (y : Value) (s' : PH) : Prop :=
 match o with
 | none => y = .tuple #[.slice none 0 0, .int .i64 100] ∧ Fw.Mod [] s s'
 | some l => ∃ a n c, y = .tuple #[.slice a n c, .int .i64 0] ∧ Gw bz 94 s s' a n c l
theorem Kl {b : UInt8} {r : List UInt8} {n : Nat} : (kB (b :: r)).extract 1 (1 + n) = kB (r.take n) := by
 apply qB;rw [uj, eY, eY, List.extract_eq_take_drop, List.drop_one, List.tail_cons, show 1 + n - 1 = n by omega]
theorem BZ {b : UInt8} {r : List UInt8} {n : Nat} : (kB (b :: r)).extract (1 + n) (kB (b :: r)).size = kB (r.drop n) := by
 apply qB;rw [rm, eY, eY, show 1 + n = n + 1 by omega, List.drop_succ_cons]
theorem I3 (b : UInt8) (r : List UInt8) : (kB (b :: r))[0]?.getD 0 = b := by
 obtain ⟨q, h1, h2⟩ := jF (s := kB (b :: r)) (i := 0) (by rw [cE]; simp);rw [eY] at h1;simp at h1;rw [h2, h1]
theorem JZ {s : PH} (x : BA) (hx : x.size ≤ 4000000) : ah 211 #[.string x] s (JG (gA x) s) := by
 refine Jg x _ s ?_;unfold Cq;rw [← go_eq]
 obtain ⟨R, hR⟩ : ∃ R, JG (BW x) s = R := ⟨_, rfl⟩
 rw [hR];simp only [aQ, aO, aE, aR, aM, bH, bS, aT, cj, dg, cG]
 have hbad : ∀ {s' : PH}, Fw.Mod [] s s' → j4 (x.size + 1) (kL x) [] = none → R (.tuple #[.slice none 0 0, .int .i64 100]) s' := fun hm e => by
  rw [← hR]; unfold BW; rw [e]; exact ⟨rfl, hm⟩
 refine ⟨fun z s' => ∃ (a : OA) (n c f : Nat) (acc : List aY) (rest : List UInt8), z = (((a, n, c), ()), (kB rest, ()), ()) ∧ Gw bz 94 s s' a n c acc ∧ rest.length < f ∧ n + rest.length ≤ x.size ∧ j4 f rest acc = j4 (x.size + 1) (kL x) [],
  fun z _ => z.2.1.1.size, ⟨none, 0, 0, x.size + 1, [], kL x, by rw [jE], Gw.nil (Mod.refl _ _), by rw [eP]; omega, by rw [eP]; omega, rfl⟩, ?_⟩
 rintro _ s1 ⟨a, n, c, f, acc, rest, rfl, hG, hf, hn, hg⟩;have hlen := hG.row.len;dsimp only;refine aI (fun e1 => ?_) fun e1 => ?_;rotate_left
 ·have e1 : ¬ (((kB rest).size : Nat) : Int) > 0 := of_decide_eq_false e1;rw [cE] at e1;have : rest = [] := List.eq_nil_of_length_eq_zero (by omega);subst this
  obtain ⟨g, rfl⟩ : ∃ g, f = g + 1 := ⟨f - 1, by omega⟩
  rw [j4] at hg;refine aH (((cU acc).1, ()), ((cU acc).2, ()), ()) (Ek (Sl.bE hG.row (by omega))) rfl ?_
  have hgo : BW x = if (cU acc).2 = 0 ∧ (cU acc).1 = x then some acc else none := by unfold BW; rw [← hg]; (first | done | rfl)
  dsimp only;refine (W.af _ _ _ _).2 ⟨fun e2 => ?_, fun e2 => aI (fun e3 => ?_) fun e3 => ?_⟩
  ·have e2 : ¬ (cU acc).2 = 0 := by simpa using e2
   rw [if_neg (by simp [e2])] at hgo;rw [← hR, hgo]; exact ⟨rfl, hG.md⟩
  ·have e3 : ¬ (cU acc).1 = x := by rw [bV] at e3; simpa using e3
   rw [if_neg (by simp [e3])] at hgo;rw [← hR, hgo]; exact ⟨rfl, hG.md⟩
  ·have e2 : (cU acc).2 = 0 := by simpa using e2
   have e3 : (cU acc).1 = x := by rw [bV] at e3; simpa using e3
   rw [if_pos ⟨e2, e3⟩] at hgo;rw [← hR, hgo]; exact ⟨a, n, c, rfl, hG⟩
 have e1 : (((kB rest).size : Nat) : Int) > 0 := of_decide_eq_true e1;rw [cE] at e1
 obtain ⟨b, r, rfl⟩ : ∃ b r, rest = b :: r := by
  cases rest with
  | nil => simp at e1
  | cons b r => exact ⟨b, r, rfl⟩
 simp only [List.length_cons] at hf hn e1
 obtain ⟨g, rfl⟩ : ∃ g, f = g + 1 := ⟨f - 1, by omega⟩
 have hbz : (kB (b :: r)).size = r.length + 1 := by rw [cE]; (first | done | rfl)
 rw [j4] at hg;refine bF ⟨by omega, by rw [hbz]; omega⟩ ?_;rw [I3];have hbl := b.toNat_lt;have hw1 : i64.wrap ((b.toNat : Nat) : Int) = (b.toNat : Int) := cq (by omega) (by omega);rw [hw1]
 have hw2 : i64.wrap (1 + ((b.toNat : Nat) : Int)) = ((1 + b.toNat : Nat) : Int) := by rw [cq (by omega) (by omega)]; omega
 refine aI (fun e2 => ?_) fun e2 => ?_
 ·have e2 : (b.toNat : Int) ≥ (((kB (b :: r)).size : Nat) : Int) := of_decide_eq_true e2;rw [hbz] at e2;rw [if_pos (by omega)] at hg;exact hbad hG.md hg.symm
 have e2 : ¬ (b.toNat : Int) ≥ (((kB (b :: r)).size : Nat) : Int) := of_decide_eq_false e2;rw [hbz] at e2;rw [if_neg (by omega)] at hg;rw [hw2, Int.toNat_natCast, Kl];refine bF ⟨by omega, by omega, by rw [hbz]; omega⟩ ?_;refine W.ak (wH (kB (r.take b.toNat)) (by rw [cE, List.length_take]; omega)) ?_;intro y s2 hq
 cases hk : fS (kB (r.take b.toNat)) with
 | none =>
  rw [hk] at hq hg;obtain ⟨rfl, m2⟩ := hq;refine ⟨(((none, 0, 0), ()), (20, ()), ()), rfl, ?_⟩;dsimp only;refine W.bx (fun _ _ => False) (fun _ _ h => h.elim) fun J hJ => ?_;exact (W.af _ _ _ _).2 ⟨fun _ => hbad (hG.md.trans m2) hg.symm, fun e => (by cases e)⟩
 | some l =>
  rw [hk] at hq hg;obtain ⟨a2, n2, c2, rfl, hV⟩ := hq;have hl2 := hV.row.len;have h8 := (j7 hk).2.2;refine ⟨(((a2, n2, c2), ()), (0, ()), ()), rfl, ?_⟩;dsimp only;have hG2 := hG.same hV.md;refine W.bx (fun z s' => ∃ p q, z = (((a, n, c), ()), (kB (b :: r), ()), ((b.toNat : Int), ()), ((a2, 2, c2), ()), ()) ∧ l = [p, q] ∧ s2 = s') ?_ ?_
  ·rintro _ s2 ⟨p, q, rfl, rfl, rfl⟩;have hn2 : n2 = 2 := hl2;subst hn2;simp only at hg;dsimp only;refine bF ⟨by omega, by omega⟩ ?_;obtain ⟨gb, rfl, hh0⟩ := hV.row.at (i := 0) (x := p) rfl;obtain ⟨_, h1, hh1⟩ := hV.row.at (i := 1) (x := q) rfl;cases h1;simp only [dj, bf, Nat.zero_add];have hh0 : s2.has ⟨gb, 0, none⟩ (dO.f p) := hh0;have hh1 : s2.has ⟨gb, 3, none⟩ (dO.f q) := hh1;refine bq (j := 1) hh0 (y := (p.n, ())) rfl ?_;refine bF ⟨by omega, by omega⟩ ?_;refine az hh1 (y := bM q) rfl ?_;refine hG2.push [⟨p.n, q⟩] (k := 1) rfl rfl rfl (by omega) (by omega) fun a3 c3 s3 h3 => ?_;rw [hw2, Int.toNat_natCast, Int.toNat_natCast];refine bF ⟨by omega, by rw [hbz]; omega, by omega⟩ ?_;refine ⟨⟨a3, n + 1, c3, g, acc ++ [⟨p.n, q⟩], r.drop b.toNat, ?_, h3, by rw [List.length_drop]; omega, by rw [List.length_drop]; omega, hg⟩, ?_⟩
   ·rw [BZ]
   ·rw [BZ, hbz, cE, List.length_drop]; omega
  ·intro J hJ;refine (W.af _ _ _ _).2 ⟨fun e => (by cases e), fun _ => aI (fun e => ?_) fun e => ?_⟩
   ·have e : ¬ (n2 : Int) = 2 := by simpa using e
    refine hbad hG2.md ?_;rw [← hg]
    match l, hl2 with
    | [], _ => rfl
    | [_], _ => rfl
    | [_, _], h => exact absurd (by simp at h; omega) e
    | _ :: _ :: _ :: _, _ => rfl
   ·have e : (n2 : Int) = 2 := by simpa using e
    have hn2 : n2 = 2 := by omega
    subst hn2
    match l, hl2 with
    | [p, q], _ => exact hJ _ _ ⟨p, q, rfl, rfl, rfl⟩
end
section
attribute [-simp] Fw.W.bC Fw.W.bA
def fF : List UInt8 → List UInt8 → Int
 | [], [] => 0
 | [], _ :: _ => -1
 | _ :: _, [] => 1
 | a :: x, b :: y => if a.toNat < b.toNat then -1 else if b.toNat < a.toNat then 1 else fF x y
def cS (x y : BA) : Int := fF (kL x) (kL y)
theorem mW (x y : BA) (hx : x.size ≤ 9223372036854775806) (s : PH) : ah 44 #[.string x, .string y] s fun v s' => v = .int .i64 (cS x y) ∧ s' = s := by
 refine Dp x y _ s ?_;unfold u5;simp only [aQ];refine ⟨fun z s' => s' = s ∧ ∃ i : Nat, z = (((i : Int), ()), ()) ∧ i ≤ x.size ∧ i ≤ y.size ∧ cS x y = fF ((kL x).drop i) ((kL y).drop i), fun z _ => x.size - z.1.1.toNat, ⟨rfl, 0, rfl, Nat.zero_le _, Nat.zero_le _, rfl⟩, ?_⟩;rintro _ s ⟨rfl, i, rfl, h1, h2, h3⟩;have hdx : x.size ≤ i → (kL x).drop i = [] := fun h => List.drop_eq_nil_of_le (by rw [eP]; exact h);have hdy : y.size ≤ i → (kL y).drop i = [] := fun h => List.drop_eq_nil_of_le (by rw [eP]; exact h);have hl : ∀ {u v : Nat}, u ≤ v → v ≤ u → u = v := fun a b => Nat.le_antisymm a b;simp only [aO, W.af, aR, W.aZ, aE, W.oa, decide_eq_true_eq, decide_eq_false_iff_not]
 have tail : ¬ (i < x.size ∧ i < y.size) → ((↑x.size : Int) < ↑y.size → Value.int IntKind.i64 (-1) = Value.int IntKind.i64 (cS x y) ∧ True) ∧
   (¬ (↑x.size : Int) < ↑y.size → ((↑x.size : Int) > ↑y.size → Value.int IntKind.i64 1 = Value.int IntKind.i64 (cS x y) ∧ True) ∧ (¬ (↑x.size : Int) > ↑y.size → Value.int IntKind.i64 0 = Value.int IntKind.i64 (cS x y) ∧ True)) := by
  intro hnot;rcases Nat.lt_or_ge i x.size with a | a
  ·have b : y.size ≤ i := by omega
   obtain ⟨u, hu, _⟩ := jF (s := x) (i := i) a;rw [hdy b, ct hu] at h3;simp only [fF] at h3
   refine ⟨fun h => ?_, fun _ => ⟨fun _ => by rw [h3]; exact ⟨rfl, trivial⟩, fun h => ?_⟩⟩ <;> omega
  ·rcases Nat.lt_or_ge i y.size with b | b
   ·obtain ⟨u, hu, _⟩ := jF (s := y) (i := i) b;rw [hdx a, ct hu] at h3;simp only [fF] at h3;refine ⟨fun h => by rw [h3]; exact ⟨rfl, trivial⟩, fun h => ?_⟩;omega
   ·rw [hdx a, hdy b] at h3;simp only [fF] at h3;refine ⟨fun h => by omega, fun h => ⟨fun h => by omega, fun h => by rw [h3]; exact ⟨rfl, trivial⟩⟩⟩
 refine ⟨fun a => ⟨fun b => ?_, fun b => tail (by omega)⟩, fun a => tail (by omega)⟩
 have a' : i < x.size := by omega
 have b' : i < y.size := by omega
 obtain ⟨u, hu, hu2⟩ := jF (s := x) (i := i) a';obtain ⟨v, hv, hv2⟩ := jF (s := y) (i := i) b';rw [ct hu, ct hv] at h3;simp only [fF] at h3;have e : ((i : Int)).toNat = i := rfl;simp only [e, hu2, hv2]
 have hw : i64.wrap ((i : Int) + 1) = ((i + 1 : Nat) : Int) := by rw [cq (by omega) (by omega)]; simp
 refine ⟨⟨by omega, a⟩, ⟨by omega, b⟩, fun h => ?_, fun h => ⟨⟨by omega, a⟩, ⟨by omega, b⟩, fun g => ?_, fun g => ?_⟩⟩
 ·rw [if_pos (by omega)] at h3; rw [h3]; exact ⟨rfl, trivial⟩
 ·rw [if_neg (by omega), if_pos (by omega)] at h3; rw [h3]; exact ⟨rfl, trivial⟩
 ·rw [if_neg (by omega), if_neg (by omega)] at h3;rw [hw];refine ⟨⟨trivial, i + 1, rfl, by omega, by omega, h3⟩, ?_⟩;simp only [Int.toNat_natCast]; omega
theorem tR (n : Int) (s : PH) : ah 30 #[.int .i64 n] s fun y s' => y = fm (bg n) ∧ s' = s := by
 refine Jd n _ s ?_;unfold Cn;exact ⟨rfl, rfl⟩
theorem JX {v : aK} (hv : bD v = true) (s : PH) : ah 141 #[fm v] s fun y s' => y = .string (kB (bW v)) ∧ s' = s := by
 refine bu.quiet (Je v.kind v.n v.s _ s ?_);unfold Co;have hk := uP hv;simp only [cj, dg, aO, aQ, aR, aE, cG, tK]
 have hd : u8.wrap (i64.wrap (v.kind + 1)) = ((UInt8.ofNat ((1 + v.kind) % 256).toNat).toNat : Int) := by
  rcases hk with e | e | e <;> rw [e] <;> rfl
 refine W.bK fun r s1 hr m1 k1 => ?_
 obtain ⟨D, hD⟩ : ∃ D, UInt8.ofNat ((1 + v.kind) % 256).toNat = D := ⟨_, rfl⟩
 rw [hD] at hd;rw [hd] at k1
 have h1 : Gw nP 5 s s1 (some ⟨r, 0, none⟩) 1 1 [D] := ⟨kW k1 rfl rfl (by omega), by intro g hg; simp [Fw.aU] at hg; subst hg; exact hr, m1⟩
 refine W.bx (fun z s' => ∃ a n c, z = (bM v, ((a, n, c), ()), ()) ∧ Gw nP 5 s s' a n c (D :: if v.kind = 1 then fC (n64 v.n) else [])) ?_ ?_
 ·rintro _ s2 ⟨a2, n2, c2, rfl, h2⟩;dsimp only;have hn2 := h2.row.len
  have hn3 : n2 ≤ 9 := by rw [hn2]; split <;> simp [fC]
  refine aI (fun e => ?_) fun e => ?_
  ·have e2 : v.kind = 2 := eq_of_beq e
   have e1 : v.kind ≠ 1 := by omega
   rw [if_neg e1] at h2
   have hvs : v.s.size ≤ 64 := by
    unfold bD at hv;rw [if_neg (by omega), if_neg e1, if_pos e2] at hv;simp at hv; exact hv.2
   refine ⟨fun z s' => ∃ (a : OA) (N k c : Nat), z = (bM v, ((a, N, c), ()), ((k : Int), ()), ()) ∧ k ≤ v.s.size ∧ N ≤ n2 + 2 * k ∧ Gw nP 5 s s' a N c ([D] ++ eo ((kL v.s).take k)), fun z _ => v.s.size - z.2.2.1.1.toNat, ⟨a2, n2, 0, c2, rfl, Nat.zero_le _, by omega, by simpa [eo] using h2⟩, ?_⟩;rintro _ s3 ⟨a3, N, k, c3, rfl, hk2, hN, h3⟩;dsimp only;refine aI (fun e => ?_) fun e => ?_
   ·have e : (k : Int) < (v.s.size : Int) := of_decide_eq_true e;obtain ⟨b, hb, hb2⟩ := jF (s := v.s) (i := k) (by omega)
    have htk : (kL v.s).take (k + 1) = (kL v.s).take k ++ [b] := by rw [List.take_add_one, hb]; (first | done | rfl)
    refine bF ⟨by omega, e⟩ ?_;simp only [Int.toNat_natCast, hb2];refine h3.push [b] (k := 1) rfl rfl rfl (by omega) (by omega) fun a4 c4 s4 h4 => ?_;refine bF ⟨Int.natCast_nonneg k, e⟩ ?_;rw [ai (k := k) (by omega)];refine aI (fun e0 => ?_) fun e0 => ?_
    ·have e0 : (b.toNat : Int) = 0 := eq_of_beq e0
     have e0 : b = 0 := by apply UInt8.toNat_inj.1; show b.toNat = 0; omega
     refine h4.push [255] (k := 1) rfl rfl rfl (by omega) (by omega) fun a5 c5 s5 h5 => ?_;refine ⟨⟨a5, N + 1 + 1, k + 1, c5, rfl, by omega, by omega, ?_⟩, by simp only [Int.toNat_natCast]; omega⟩;rw [htk, mF];subst e0;simpa [eo] using h5
    ·have e0 : ¬ b = 0 := by rintro rfl; exact absurd e0 (by decide)
     refine ⟨⟨a4, N + 1, k + 1, c4, rfl, by omega, by omega, ?_⟩, by simp only [Int.toNat_natCast]; omega⟩;rw [htk, mF];simpa [eo, e0] using h4
   ·have e : ¬ (k : Int) < (v.s.size : Int) := of_decide_eq_false e
    have hk3 : k = v.s.size := by omega
    rw [List.take_of_length_le (by rw [eP]; omega)] at h3;refine h3.push [0, 1] (k := 2) rfl rfl rfl (by omega) (by omega) fun a4 c4 s4 h4 => ?_;refine nO h4.row ?_;refine ⟨?_, h4.md⟩;unfold bW;rw [if_neg e1, if_pos e2, hD];simp
  ·have e2 : ¬ v.kind = 2 := by simpa using e
   refine nO h2.row ?_;refine ⟨?_, h2.md⟩;unfold bW;rw [if_neg e2, hD]
 ·intro J hJ;refine aI (fun e => ?_) fun e => ?_
  ·have e1 : v.kind = 1 := eq_of_beq e
   obtain ⟨N, hN⟩ : ∃ N, n64 v.n = N := ⟨_, rfl⟩
   have hNl : N < 18446744073709551616 := by rw [← hN]; exact zV _
   have hw : u64.wrap (u64.wrap v.n + 9223372036854775808) = (N : Int) := by
    rw [su, su, ← hN]; unfold n64; omega
   rw [hw];rw [if_pos e1, hN] at hJ;refine ⟨fun z s' => ∃ (a : OA) (j c : Nat), z = (bM v, ((a, 1 + j, c), ()), ((N : Int), ()), ((j : Int), ()), ()) ∧ j ≤ 8 ∧ Gw nP 5 s s' a (1 + j) c ([D] ++ (fC N).take j), fun z _ => 8 - z.2.2.2.1.1.toNat, ⟨some ⟨r, 0, none⟩, 0, 1, rfl, by omega, by simpa using h1⟩, ?_⟩;rintro _ s2 ⟨a2, j, c2, rfl, hj, h2⟩;dsimp only;refine aI (fun e => ?_) fun e => ?_
   ·have e : (j : Int) < 8 := of_decide_eq_true e
    have hj8 : j < 8 := by omega
    have hsh : u64.wrap (i64.wrap (56 - i64.wrap (8 * (j : Int)))) = ((56 - 8 * j : Nat) : Int) := by
     rw [cq (n := 8 * (j : Int)) (by omega) (by omega), cq (by omega) (by omega), su]; omega
    rw [hsh];refine (W.aZ _ _ _).2 ⟨by omega, ?_⟩
    obtain ⟨b, hb⟩ : ∃ b, (fC N)[j]? = some b := ⟨_, List.getElem?_eq_getElem (by show j < 8; exact hj8)⟩
    have hbv : u8.wrap (if false = true then u64.wrap ((N : Int) * 2 ^ min ((56 - 8 * j : Nat) : Int).toNat 64) else ((N : Int)).fdiv (2 ^ min ((56 - 8 * j : Nat) : Int).toNat 64)) = (b.toNat : Int) := by
     rw [if_neg (by decide)]
     have hq : ∀ d : Nat, 0 < d → u8.wrap ((N : Int).fdiv (d : Int)) = ((UInt8.ofNat (N / d)).toNat : Int) := by
      intro d hd;rw [UInt8.toNat_ofNat', w8, Int.fdiv_eq_ediv_of_nonneg _ (by omega)];simp
     match j, hj8, hb with
     | 0, _, hb => simp only [fC, List.getElem?_cons_zero, Option.some.injEq] at hb; subst hb; exact hq 72057594037927936 (by decide)
     | 1, _, hb => simp only [fC, List.getElem?_cons_zero, List.getElem?_cons_succ, Option.some.injEq] at hb; subst hb; exact hq 281474976710656 (by decide)
     | 2, _, hb => simp only [fC, List.getElem?_cons_zero, List.getElem?_cons_succ, Option.some.injEq] at hb; subst hb; exact hq 1099511627776 (by decide)
     | 3, _, hb => simp only [fC, List.getElem?_cons_zero, List.getElem?_cons_succ, Option.some.injEq] at hb; subst hb; exact hq 4294967296 (by decide)
     | 4, _, hb => simp only [fC, List.getElem?_cons_zero, List.getElem?_cons_succ, Option.some.injEq] at hb; subst hb; exact hq 16777216 (by decide)
     | 5, _, hb => simp only [fC, List.getElem?_cons_zero, List.getElem?_cons_succ, Option.some.injEq] at hb; subst hb; exact hq 65536 (by decide)
     | 6, _, hb => simp only [fC, List.getElem?_cons_zero, List.getElem?_cons_succ, Option.some.injEq] at hb; subst hb; exact hq 256 (by decide)
     | 7, _, hb => simp only [fC, List.getElem?_cons_zero, List.getElem?_cons_succ, Option.some.injEq] at hb; subst hb; have := hq 1 (by omega); simpa using this
    rw [hbv];refine h2.push [b] (k := 1) rfl rfl rfl (by omega) (by omega) fun a3 c3 s3 h3 => ?_;rw [ai (k := j) (by omega)];refine ⟨⟨a3, j + 1, c3, rfl, by omega, ?_⟩, by simp only [Int.toNat_natCast]; omega⟩;rw [List.take_add_one, hb];rw [List.append_assoc] at h3;exact h3
   ·have e : ¬ (j : Int) < 8 := of_decide_eq_false e
    have : j = 8 := by omega
    subst this;exact hJ _ _ ⟨a2, _, c2, rfl, by simpa [fC] using h2⟩
  ·have e1 : ¬ v.kind = 1 := by simpa using e
   rw [if_neg e1] at hJ;exact hJ _ _ ⟨_, 1, 1, rfl, h1⟩
theorem Eh {s : PH} {a : OA} {n c : Nat} {l : List aK} (h : H6 s a n c l) : ah 88 #[.slice a n c] s fun y s' => y = .tuple #[.string (keyOf l).1, .int .i64 (keyOf l).2] ∧ s' = s := by
 refine Dn a n c _ s ?_;unfold uZ;have hlen : n = l.length := h.len
 obtain ⟨R, hR⟩ : ∃ R : Value → PH → Prop, (fun y s' => y = .tuple #[.string (keyOf l).1, .int .i64 (keyOf l).2] ∧ s' = s) = R := ⟨_, rfl⟩
 rw [hR];simp only [aO, aE, aQ, aR, aM, bH, aT, bS];refine aI (fun e => ?_) fun e => ?_
 ·have e : (n : Int) > 8 := of_decide_eq_true e
  have : keyOf l = (⟨#[]⟩, 21) := by unfold keyOf; rw [if_pos (by omega)]
  rw [← hR, this];exact ⟨rfl, rfl⟩
 have e : ¬ (n : Int) > 8 := of_decide_eq_false e;refine ⟨fun z s' => ∃ k : Nat, z = ((kB ((l.take k).flatMap bW), ()), ((k : Int), ()), ()) ∧ k ≤ n ∧ s = s' ∧ ∀ v ∈ l.take k, bD v = true, fun z _ => n - z.2.1.1.toNat, ⟨0, rfl, Nat.zero_le _, rfl, by simp⟩, ?_⟩;rintro _ s1 ⟨k, rfl, hk, rfl, hok⟩;have hvl := tE hok;rw [List.length_take] at hvl;dsimp only;refine aI (fun e => ?_) fun e => ?_
 ·have hlt : (k : Int) < (n : Int) := of_decide_eq_true e
  obtain ⟨v, hv⟩ : ∃ v, l[k]? = some v := ⟨_, List.getElem?_eq_getElem (by omega)⟩
  obtain ⟨ad, had, hh⟩ := h.el.aA hv;dsimp only at had;subst had;refine bF ⟨by omega, hlt⟩ ?_;simp only [dj, Int.toNat_natCast];have hh : s.has (ad.add (k * 3)) (dO.f v) := hh;refine az hh (y := bM v) rfl ?_;refine aH ((bD v, ()), ()) (wJ v s) rfl ?_;dsimp only;refine aI (fun e1 => ?_) fun e1 => ?_
  ·have hno : bD v = false := by simpa using e1
   have : keyOf l = (⟨#[]⟩, 10) := by unfold keyOf; rw [if_neg (by omega), if_pos (yX hv hno)]
   rw [← hR, this];exact ⟨rfl, rfl⟩
  ·have hyes : bD v = true := by simpa using e1
   refine bF ⟨by omega, hlt⟩ ?_;refine az hh (y := bM v) rfl ?_;refine aH ((kB (bW v), ()), ()) (JX hyes s) rfl ?_;dsimp only;have hl1 := AG hyes;refine (W.aZ _ _ _).2 ⟨by rw [cE, cE]; omega, ?_⟩;rw [ai (k := k) (by omega)];refine ⟨⟨k + 1, ?_, by omega, rfl, ?_⟩, by simp only [Int.toNat_natCast]; omega⟩
   ·rw [List.take_add_one, hv, ← qA];simp
   ·intro x hx;rw [List.take_add_one, hv] at hx;simp only [Option.toList_some, List.mem_append, List.mem_singleton] at hx;rcases hx with hx | rfl
    ·exact hok x hx
    ·exact hyes
 ·have e : ¬ (k : Int) < (n : Int) := of_decide_eq_false e;rw [List.take_of_length_le (by omega)] at hok ⊢;rw [← hR, sX hok (by omega)];exact ⟨rfl, rfl⟩
theorem JY (t : Int) (v : aK) (s : PH) : ah 31 #[.int .i64 t, fm v] s fun y s' => y = .string (iL t v) ∧ s' = s := by
 refine bu.quiet (Jf t v.kind v.n v.s _ s ?_);unfold Cp;simp only [bS, aT, cj, aE];refine W.cr (bM (bg 0), ()) (tR 0 s) rfl ?_;refine W.cr (bM (bg t), ()) (tR t s) rfl ?_;refine W.bK fun r s1 hr m1 k1 => ?_;exact aH ((iL t v, ()), ((keyOf [bg 0, bg t, v]).2, ()), ()) (Eh (kZ (l := [bg 0, bg t, v]) k1 rfl rfl (by omega))) rfl ⟨rfl, m1⟩
end
section
attribute [-simp] Fw.W.bC Fw.W.bA
end
section
attribute [-simp] Fw.W.bC Fw.W.bA
structure Ht where
 key : BA
 ts : Int
 val : BA
 deriving DecidableEq
def bl : cK Ht where
 sz := 3
 f h := [.string h.key, .int .i64 h.ts, .string h.val]
 len _ := rfl
 one p v hv := by simp at hv; rcases hv with rfl | rfl | rfl <;> rfl
 pos := by omega
abbrev mH (h : Ht) : Den [.str, .int .i64, .str] := (h.key, h.ts, h.val, ())
def gU (x : BA) (p : BA × BA) : Bool := decide (cS p.1 x ≤ 0) && decide (cS x p.2 < 0)
def au (l : List Ht) (p : BA × BA) : List Ht := l.filter fun h => gU h.key p
theorem Ia (x : BA) (p : BA × BA) (hx : x.size ≤ 281474976710656) (hp : p.1.size ≤ 281474976710656) (s : PH) : ah 65 #[.string x, nv p] s fun y s' => y = .bool (gU x p) ∧ s' = s := by
 refine Kr x p.1 p.2 _ s ?_;unfold FX gU;simp only [aT, aO, aE];refine aH ((cS p.1 x, ()), ()) (mW _ _ (by omega) s) rfl ?_;refine aI (fun e => ?_) fun e => ?_
 ·rw [show decide (cS p.1 x ≤ 0) = true from e];exact aH ((cS x p.2, ()), ()) (mW _ _ (by omega) s) rfl ⟨by rw [Bool.true_and], rfl⟩
 ·rw [show decide (cS p.1 x ≤ 0) = false from e];exact ⟨rfl, rfl⟩
def rM (l : List Ht) : Prop := ∀ h ∈ l, h.key.size ≤ 140737488351232
theorem Ei {s : PH} {a : OA} {n c : Nat} {l : List Ht} (h : Sl bl s (a, n, c) l) (p : BA × BA) (hp : p.1.size ≤ 281474976710656) (hl : rM l) (hn : n ≤ 4000000) :
  ah 77 #[.slice a n c, nv p] s fun y s' => ∃ a' n' c', y = .slice a' n' c' ∧ Gw bl 75 s s' a' n' c' (au l p) := by
 refine Dq a n c p.1 p.2 _ s ?_;unfold u9;have hlen : n = l.length := h.len;simp only [aQ, aO, aE, aR, aM, bH, bS, cj, dg];refine ⟨fun z s' => ∃ (k : Nat) (b : OA) (m d : Nat), z = ((p.1, p.2, ()), ((b, m, d), ()), ((k : Int), ()), ()) ∧ k ≤ n ∧ m ≤ k ∧ Gw bl 75 s s' b m d (au (l.take k) p), fun z _ => n - z.2.2.1.1.toNat, ⟨0, none, 0, 0, rfl, Nat.zero_le _, Nat.le_refl _, Gw.nil (Mod.refl _ _)⟩, ?_⟩;rintro _ s1 ⟨k, b, m, d, rfl, hk, hm, hG⟩;dsimp only;refine aI (fun e => ?_) fun e => ?_
 ·have hlt : (k : Int) < (n : Int) := of_decide_eq_true e
  obtain ⟨x, hx⟩ : ∃ x, l[k]? = some x := ⟨_, List.getElem?_eq_getElem (by omega)⟩
  have htk : au (l.take (k + 1)) p = au (l.take k) p ++ (if gU x.key p = true then [x] else []) := by
   unfold au;rw [List.take_add_one, hx, List.filter_append]
   congr 1
   simp only [Option.toList_some, List.filter_cons, List.filter_nil]
  obtain ⟨ad, had, hh⟩ := (h.el.mono hG.md.le).aA hx;dsimp only at had;subst had
  have hg : (0 : Int) ≤ (k : Int) ∧ (k : Int) < (n : Int) := ⟨by omega, hlt⟩
  refine bF hg ?_;simp only [dj, Int.toNat_natCast];have hh : s1.has (ad.add (k * 3)) (bl.f x) := hh;refine bq (j := 0) hh (y := (x.key, ())) rfl ?_;dsimp only;refine W.cr ((gU x.key p, ()), ()) (Ia x.key p (by have := hl x (List.mem_of_getElem? hx); omega) hp s1) rfl ?_;rw [ai (k := k) (by omega)];refine aI (fun e2 => ?_) fun e2 => ?_
  ·have e2 : gU x.key p = true := e2;refine bF hg ?_;refine az hh (y := mH x) rfl ?_;refine hG.push [x] (k := 1) rfl rfl rfl (by omega) (by omega) fun a3 c3 s3 h3 => ?_;refine ⟨⟨k + 1, a3, m + 1, c3, rfl, by omega, by omega, ?_⟩, by simp only [Int.toNat_natCast]; omega⟩;rw [htk, if_pos e2]; exact h3
  ·have e2 : gU x.key p = false := e2;refine ⟨⟨k + 1, b, m, d, rfl, by omega, by omega, ?_⟩, by simp only [Int.toNat_natCast]; omega⟩;rw [htk, e2]; simpa using hG
 ·have e : ¬ (k : Int) < (n : Int) := of_decide_eq_false e;rw [List.take_of_length_le (by omega)] at hG;exact ⟨b, m, d, rfl, hG⟩
theorem IL {s : PH} {a : OA} {n c : Nat} {l : List Ht} (h : Sl bl s (a, n, c) l) (p : BA × BA) (hp : p.1.size ≤ 281474976710656) (hl : rM l) (hn : n ≤ 4000000) :
  ah 314 #[.slice a n c, nv p] s fun y s' => ∃ a' n' c', y = .slice a' n' c' ∧ Gw bl 75 s s' a' n' c' (au l p) := by
 refine G8 a n c p.1 p.2 _ s ?_;unfold AT;simp only [aT, aE];refine W.ak (Ei h p hp hl hn) ?_;rintro _ s1 ⟨a1, n1, c1, rfl, hG⟩;exact ⟨((((a1, n1, c1), ()), ())), rfl, a1, n1, c1, rfl, hG⟩
end
section
def bO (a b : BA) : Bool := decide (kL a < kL b)
theorem eU (a : BA) : bO a a = false := by unfold bO; simp
theorem qE {a b c : BA} (h : bO a b = true) (k : bO b c = true) : bO a c = true := by
 unfold bO at *;simp only [decide_eq_true_eq] at *;exact List.lt_trans h k
theorem rB {a b : BA} (h : bO a b = false) (k : bO b a = false) : a = b := by
 unfold bO at *;simp only [decide_eq_false_iff_not] at *;exact qB (List.le_antisymm k h)
theorem EV {a b : BA} (h : bO a b = true) : bO b a = false := by
 cases k : bO b a with
 | false => rfl
 | true => have := qE h k; rw [eU] at this; cases this
theorem qP : ∀ (x y : List UInt8), (fF x y < 0 ↔ x < y) ∧ (fF x y = 0 ↔ x = y) ∧ (0 < fF x y ↔ y < x)
 | [], [] => by simp [fF]
 | [], b :: y => by simp [fF]
 | a :: x, [] => by simp [fF]
 | a :: x, b :: y => by
  obtain ⟨h1, h2, h3⟩ := qP x y;simp only [fF, List.cons_lt_cons_iff, List.cons.injEq];have e : ∀ u v : UInt8, u < v ↔ u.toNat < v.toNat := fun u v => UInt8.lt_iff_toNat_lt;have q : ∀ u v : UInt8, u = v ↔ u.toNat = v.toNat := fun u v => UInt8.toNat_inj.symm;rw [e, e, q, q]
  by_cases g1 : a.toNat < b.toNat
  ·rw [if_pos g1]; omega
  ·by_cases g2 : b.toNat < a.toNat
   ·rw [if_neg g1, if_pos g2]; omega
   ·rw [if_neg g1, if_neg g2]
    have g3 : a.toNat = b.toNat := by omega
    simp only [g3, Nat.lt_irrefl, false_or, true_and, h1, h2, h3]
theorem pH (a b : BA) : cS a b < 0 ↔ bO a b = true := by
 unfold cS bO; rw [decide_eq_true_eq]; exact (qP _ _).1
theorem HN (a b : BA) : 0 < cS a b ↔ bO b a = true := by
 unfold cS bO; rw [decide_eq_true_eq]; exact (qP _ _).2.2
theorem EM (x : BA) (p : BA × BA) : gU x p = (!bO x p.1 && bO x p.2) := by
 unfold gU
 have h1 : decide (cS p.1 x ≤ 0) = !bO x p.1 := by
  have := HN p.1 x
  by_cases h : bO x p.1 = true
  ·rw [h]; simp; exact this.2 h
  ·have h' : bO x p.1 = false := by simpa using h
   rw [h']; simp;have : ¬ 0 < cS p.1 x := fun g => h (this.1 g);omega
 have h2 : decide (cS x p.2 < 0) = bO x p.2 := by
  have := pH x p.2
  cases h : bO x p.2 with
  | true => simp; exact this.2 h
  | false =>
   have h3 : ¬ cS x p.2 < 0 := fun g => by have := this.1 g; rw [h] at this; cases this
   simp; omega
 rw [h1, h2]
theorem tN (a b : BA) : Op.bytesLess a.toList b.toList = bO a b := by
 rw [bytesLess_eq, ByteArray.toList_eq, ByteArray.toList_eq]; (first | done | rfl)
structure Wr where
 key : BA
 val : BA
 dead : Bool
 deriving DecidableEq
def gO (ts : Int) (x : Wr) : List Ht := if x.dead = true then [] else [⟨x.key, ts, x.val⟩]
def eA (ts : Int) (l : List Ht) (x : Wr) : List Ht := l.takeWhile (fun h => bO h.key x.key) ++ gO ts x ++ (l.dropWhile fun h => bO h.key x.key).filter fun h => decide (h.key ≠ x.key)
def aq (ts : Int) (l : List Ht) (ws : List Wr) : List Ht := ws.foldl (eA ts) l
def cI (l : List Wr) (x : Wr) : List Wr := l.takeWhile (fun y => bO y.key x.key) ++ [x] ++ (l.dropWhile fun y => bO y.key x.key).filter fun y => decide (y.key ≠ x.key)
def cl (l : List Ht) : Prop := l.Pairwise fun a b => bO a.key b.key = true
def jr (l : List Wr) : Prop := l.Pairwise fun a b => bO a.key b.key = true
section
variable {α : Type} (key : α → BA)
def vA (l : List α) : Prop := l.Pairwise fun a b => bO (key a) (key b) = true
theorem FM {l : List α} (k : BA) (h : vA key l) : (∀ a ∈ l.takeWhile (fun a => bO (key a) k), bO (key a) k = true) ∧ (∀ a ∈ l.dropWhile (fun a => bO (key a) k), bO (key a) k = false) := by
 induction l with
 | nil => simp
 | cons b l ih =>
  have h2 := List.pairwise_cons.1 h;obtain ⟨i1, i2⟩ := ih h2.2
  by_cases hb : bO (key b) k = true
  ·rw [List.takeWhile_cons_of_pos (p := fun a => bO (key a) k) hb, List.dropWhile_cons_of_pos (p := fun a => bO (key a) k) hb];exact ⟨fun a ha => by rcases List.mem_cons.1 ha with rfl | ha; exact hb; exact i1 a ha, i2⟩
  ·rw [List.takeWhile_cons_of_neg (p := fun a => bO (key a) k) hb, List.dropWhile_cons_of_neg (p := fun a => bO (key a) k) hb];refine ⟨by simp, fun a ha => ?_⟩
   have hb' : bO (key b) k = false := by simpa using hb
   rcases List.mem_cons.1 ha with rfl | ha
   ·exact hb'
   ·cases hc : bO (key a) k with
    | false => rfl
    | true => rw [qE (h2.1 a ha) hc] at hb'; cases hb'
theorem Ce {l m : List α} {k : BA} (h : vA key l) (hm : ∀ a ∈ m, key a = k) (h1 : m.length ≤ 1) :
  vA key (l.takeWhile (fun a => bO (key a) k) ++ m ++ (l.dropWhile fun a => bO (key a) k).filter fun a => decide (key a ≠ k)) ∧
  ∀ a, a ∈ l.takeWhile (fun a => bO (key a) k) ++ m ++ (l.dropWhile fun a => bO (key a) k).filter (fun a => decide (key a ≠ k)) ↔ a ∈ m ∨ (a ∈ l ∧ key a ≠ k) := by
 obtain ⟨i1, i2⟩ := FM key k h
 have hs : vA key (l.takeWhile (fun a => bO (key a) k) ++ l.dropWhile (fun a => bO (key a) k)) := by rw [List.takeWhile_append_dropWhile]; exact h
 obtain ⟨p1, p2, p3⟩ := List.pairwise_append.1 hs
 have hgt : ∀ a ∈ (l.dropWhile fun a => bO (key a) k).filter (fun a => decide (key a ≠ k)), bO k (key a) = true := by
  intro a ha;simp only [List.mem_filter, decide_eq_true_eq] at ha
  cases hc : bO k (key a) with
  | true => rfl
  | false => exact absurd (rB (i2 a ha.1) hc) ha.2
 refine ⟨?_, fun a => ?_⟩
 ·refine List.pairwise_append.2 ⟨List.pairwise_append.2 ⟨p1, ?_, ?_⟩, p2.filter _, ?_⟩
  ·match m, h1 with
   | [], _ => exact .nil
   | [x], _ => exact List.pairwise_singleton _ _
  ·intro a ha b hb; rw [hm b hb]; exact i1 a ha
  ·intro a ha b hb;rcases List.mem_append.1 ha with ha | ha
   ·exact p3 a ha b (List.mem_filter.1 hb).1
   ·rw [hm a ha]; exact hgt b hb
 ·have hl : a ∈ l ↔ a ∈ l.takeWhile (fun a => bO (key a) k) ∨ a ∈ l.dropWhile (fun a => bO (key a) k) := by
   rw [← List.mem_append, List.takeWhile_append_dropWhile]
  simp only [List.mem_append, List.mem_filter, decide_eq_true_eq, hl]
  constructor
  ·rintro ((h | h) | ⟨h, g⟩)
   ·refine .inr ⟨.inl h, fun e => ?_⟩;have := i1 a h;rw [e, eU] at this; cases this
   ·exact .inl h
   ·exact .inr ⟨.inr h, g⟩
  ·rintro (h | ⟨h | h, g⟩)
   ·exact .inl (.inr h)
   ·exact .inl (.inl h)
   ·exact .inr ⟨h, g⟩
theorem og : ∀ {l m : List α}, vA key l → vA key m → (∀ a, a ∈ l ↔ a ∈ m) → l = m
 | [], [], _, _, _ => rfl
 | [], b :: m, _, _, h => by have := (h b).2 (by simp); simp at this
 | a :: l, [], _, _, h => by have := (h a).1 (by simp); simp at this
 | a :: l, b :: m, h1, h2, h => by
  have c1 := List.pairwise_cons.1 h1;have c2 := List.pairwise_cons.1 h2
  have e : a = b := by
   rcases List.mem_cons.1 ((h a).1 (by simp)) with e | e
   ·exact e
   ·rcases List.mem_cons.1 ((h b).2 (by simp)) with e2 | e2
    ·exact e2.symm
    ·have g1 := c2.1 a e;have g2 := c1.1 b e2;rw [EV g1] at g2; cases g2
  subst e
  congr 1
  refine og c1.2 c2.2 fun x => ⟨fun hx => ?_, fun hx => ?_⟩
  ·rcases List.mem_cons.1 ((h x).1 (by simp [hx])) with rfl | g
   ·have := c1.1 x hx; rw [eU] at this; cases this
   ·exact g
  ·rcases List.mem_cons.1 ((h x).2 (by simp [hx])) with rfl | g
   ·have := c2.1 x hx; rw [eU] at this; cases this
   ·exact g
end
theorem gq {ts : Int} {l : List Ht} (h : cl l) (x : Wr) : cl (eA ts l x) ∧ ∀ a, a ∈ eA ts l x ↔ (x.dead = false ∧ a = ⟨x.key, ts, x.val⟩) ∨ (a ∈ l ∧ a.key ≠ x.key) := by
 obtain ⟨h1, h2⟩ := Ce (fun a : Ht => a.key) (m := gO ts x) (k := x.key) h (by intro a ha; unfold gO at ha; split at ha <;> simp at ha; rw [ha]) (by unfold gO; split <;> simp);refine ⟨h1, fun a => (h2 a).trans ?_⟩;unfold gO
 cases x.dead <;> simp
theorem cV {ts : Int} : ∀ (ws : List Wr) {l : List Ht}, cl l → cl (aq ts l ws)
 | [], l, h => h
 | x :: ws, l, h => cV ws (gq h x).1
theorem nt {l : List Wr} (h : jr l) (x : Wr) : jr (cI l x) ∧ ∀ a, a ∈ cI l x ↔ a = x ∨ (a ∈ l ∧ a.key ≠ x.key) := by
 obtain ⟨h1, h2⟩ := Ce (fun a : Wr => a.key) (m := [x]) (k := x.key) h (by simp) (by simp);exact ⟨h1, fun a => (h2 a).trans (by simp)⟩
theorem HM {l : List Wr} (h : jr l) {a b : Wr} (ha : a ∈ l) (hb : b ∈ l) (e : a.key = b.key) : a = b := by
 obtain ⟨i, hi, rfl⟩ := List.getElem_of_mem ha;obtain ⟨j, hj, rfl⟩ := List.getElem_of_mem hb;rcases Nat.lt_trichotomy i j with g | g | g
 ·have := List.pairwise_iff_getElem.1 h i j hi hj g;rw [e, eU] at this; cases this
 ·subst g; (first | done | rfl)
 ·have := List.pairwise_iff_getElem.1 h j i hj hi g;rw [e, eU] at this; cases this
theorem jh {ts : Int} : ∀ (ws : List Wr) {l : List Ht}, cl l → jr ws → ∀ a, a ∈ aq ts l ws ↔ (∃ x ∈ ws, x.dead = false ∧ a = ⟨x.key, ts, x.val⟩) ∨ (a ∈ l ∧ ∀ x ∈ ws, x.key ≠ a.key)
 | [], l, h, hw, a => by simp [aq]
 | x :: ws, l, h, hw, a => by
  have hc := List.pairwise_cons.1 hw;obtain ⟨g1, g2⟩ := gq (ts := ts) h x
  show a ∈ aq ts (eA ts l x) ws ↔ _
  rw [jh ws g1 hc.2 a, g2]
  constructor
  ·rintro (⟨y, hy, e⟩ | ⟨⟨hd, rfl⟩ | ⟨hl, hk⟩, hn⟩)
   ·exact .inl ⟨y, by simp [hy], e⟩
   ·exact .inl ⟨x, by simp, hd, rfl⟩
   ·refine .inr ⟨hl, fun y hy => ?_⟩;rcases List.mem_cons.1 hy with rfl | hy
    ·exact Ne.symm hk
    ·exact hn y hy
  ·rintro (⟨y, hy, hd, rfl⟩ | ⟨hl, hn⟩)
   ·rcases List.mem_cons.1 hy with rfl | hy
    ·refine .inr ⟨.inl ⟨hd, rfl⟩, fun z hz e => ?_⟩;have := hc.1 z hz;rw [show z.key = y.key from e, eU] at this; cases this
    ·exact .inl ⟨y, hy, hd, rfl⟩
   ·exact .inr ⟨.inr ⟨hl, Ne.symm (hn x (by simp))⟩, fun z hz => hn z (by simp [hz])⟩
theorem CJ {ts : Int} {B : List Ht} {ov : List Wr} (hB : cl B) (hv : jr ov) (x : Wr) : eA ts (aq ts B ov) x = aq ts B (cI ov x) := by
 obtain ⟨p1, p2⟩ := nt hv x;obtain ⟨a1, a2⟩ := gq (ts := ts) (cV ov hB) x;refine og (fun a : Ht => a.key) a1 (cV _ hB) fun a => ?_;rw [a2, jh _ hB p1, jh _ hB hv]
 constructor
 ·rintro (⟨hd, rfl⟩ | ⟨⟨y, hy, hd, rfl⟩ | ⟨hl, hn⟩, hk⟩)
  ·exact .inl ⟨x, (p2 x).2 (.inl rfl), hd, rfl⟩
  ·exact .inl ⟨y, (p2 y).2 (.inr ⟨hy, hk⟩), hd, rfl⟩
  ·refine .inr ⟨hl, fun y hy => ?_⟩;rcases (p2 y).1 hy with rfl | ⟨hy, _⟩
   ·exact Ne.symm hk
   ·exact hn y hy
 ·rintro (⟨y, hy, hd, rfl⟩ | ⟨hl, hn⟩)
  ·rcases (p2 y).1 hy with rfl | ⟨hy, hk⟩
   ·exact .inl ⟨hd, rfl⟩
   ·exact .inr ⟨.inl ⟨y, hy, hd, rfl⟩, hk⟩
  ·have hx := hn x ((p2 x).2 (.inl rfl));refine .inr ⟨.inr ⟨hl, fun y hy e => ?_⟩, Ne.symm hx⟩;exact hn y ((p2 y).2 (.inr ⟨hy, by rw [e]; exact Ne.symm hx⟩)) e
theorem k9 {ts : Int} {B : List Ht} (hB : cl B) : ∀ (ws : List Wr) {ov : List Wr}, jr ov → aq ts (aq ts B ov) ws = aq ts B (ws.foldl cI ov)
 | [], ov, _ => rfl
 | x :: ws, ov, hv => by
  show aq ts (eA ts (aq ts B ov) x) ws = aq ts B (ws.foldl cI (cI ov x))
  rw [CJ hB hv, k9 hB ws (nt hv x).1]
structure cz where
 kind : Int
 table : Int
 vals : List aK
 set : Int
 to : aK
 whr : Int
 is : aK
structure Rw where
 key : aK
 cells : List aY
structure Rp where
 n : Int
 rows : List (List aK)
abbrev bJ := BA × BA
def eT (T : aG) : Int := ((T.cols[0]?).map (·.id)).getD 0
def bP (t : Int) (k : aK) : bJ := (iL t k, iL t k ++ ⟨#[0]⟩)
def bZ (t : Int) : bJ := under [bg 0, bg t]
def cH (i : Int) (v : aK) : bJ := under [bg 1, bg i, v]
def ff (T : aG) (h : Ht) : Option Rw := match gA h.val with
 | some (c :: cs) => some ⟨bh (c :: cs) (eT T), c :: cs⟩
 | _ => none
def iR (T : aG) (l : List Ht) : List Rw := l.filterMap (ff T)
def gC (T : aG) (k : aK) (D : List Ht) : List Rw := iR T (au D (bP T.id k))
def eL (T : aG) (D : List Ht) : Int × List Rw := if 64 < (au D (bZ T.id)).length then (156, []) else (0, iR T (au D (bZ T.id)))
def rj (w : Int) (x : ez) : Bool := x.column == w && x.state == 3
def oV (T : aG) (w : Int) : Option ez := T.idxs.find? (rj w)
def dZ (l : List Ht) : List aK := l.filterMap fun h => o6 h.key
def aV (T : aG) (b : cz) (D : List Ht) : Int × List Rw :=
 if b.whr = 0 then eL T D
 else if b.whr = eT T then (0, gC T b.is D)
 else match oV T b.whr with
 | none => ((eL T D).1, (eL T D).2.filter fun r => decide (bh r.cells b.whr = b.is))
 | some x => if 64 < (au D (cH x.id b.is)).length then (156, []) else (0, (dZ (au D (cH x.id b.is))).flatMap fun k => gC T k D)
def bL (T : aG) (b : cz) (D : List Ht) : List bJ :=
 if b.whr = 0 then [bZ T.id]
 else if b.whr = eT T then [bP T.id b.is]
 else match oV T b.whr with
 | none => [bZ T.id]
 | some x => cH x.id b.is :: (if 64 < (au D (cH x.id b.is)).length then [] else (dZ (au D (cH x.id b.is))).map (bP T.id))
def bU (st : Int) : Bool := st == 2 || st == 3
def gM (old new : List aY) (c : Int) : Bool := decide ((bh new c).kind ≠ 0) && (decide (old = []) || decide (bh old c ≠ bh new c))
def fI (k : aK) (old new : List aY) (D : List Ht) : List ez → Int × List bJ
 | [] => (0, [])
 | x :: l => if gM old new x.column && x.unique && bU x.state then
   (if (dZ (au D (cH x.id (bh new x.column)))).any (fun o => decide (o ≠ k)) then (210, [cH x.id (bh new x.column)])
    else ((fI k old new D l).1, cH x.id (bh new x.column) :: (fI k old new D l).2))
  else fI k old new D l
def gI (S : aD) (i : Int) : Option aG := S.tabs.find? fun u => u.id == i
def fA (S : aD) (T : aG) (k : aK) (old new : List aY) (D : List Ht) : List For → Int × List bJ
 | [] => (0, [])
 | x :: l => if gM old new x.column && bU x.state && !(x.parent == T.id && decide (bh new x.column = k)) then
   match gI S x.parent with
   | none => fA S T k old new D l
   | some U => if gC U (bh new x.column) D = [] then (211, [bP U.id (bh new x.column)])
    else ((fA S T k old new D l).1, bP U.id (bh new x.column) :: (fA S T k old new D l).2)
  else fA S T k old new D l
def dr (S : aD) (T : aG) (k : aK) (old new : List aY) (D : List Ht) : Int × List bJ :=
 if (fI k old new D T.idxs).1 ≠ 0 then fI k old new D T.idxs
 else ((fA S T k old new D T.keys).1, (fI k old new D T.idxs).2 ++ (fA S T k old new D T.keys).2)
def kP (k : aK) (old new : List aY) (x : ez) : List Wr :=
 (if old ≠ [] ∧ (new = [] ∨ bh old x.column ≠ bh new x.column) then [⟨js x.id (bh old x.column) k, ⟨#[]⟩, true⟩] else []) ++
 (if new ≠ [] ∧ bU x.state = true then [⟨js x.id (bh new x.column) k, ⟨#[]⟩, false⟩] else [])
def dB (T : aG) (old new : List aY) : List Wr :=
 if T.cols = [] ∨ (old = [] ∧ new = []) ∨ (cU new).2 ≠ 0 then []
 else ⟨iL T.id (bh (if old = [] then new else old) (eT T)), (cU new).1, decide (new = [])⟩ :: T.idxs.flatMap (kP (bh (if old = [] then new else old) (eT T)) old new)
def gR (l : List aY) (id : Int) (v : aK) : List aY := l.takeWhile (fun c => decide (c.id < id)) ++ [⟨id, v⟩] ++ (match l.dropWhile (fun c => decide (c.id < id)) with | [] => [] | c :: r => if c.id = id then r else c :: r)
def gZ (l : List aY) (id : Int) : Bool := l.any fun c => c.id == id
def kQ : List cw → List aK → List aY → List aY
 | [], _, cs => cs
 | c :: l, vs, cs => if c.state = 3 then kQ l vs.tail (gR cs c.id (vs.headD kT)) else if c.state = 2 then kQ l vs (gR cs c.id c.dflt) else kQ l vs cs
structure yN where
 err : Int
 rep : Rp
 asks : List bJ
 ws : List Wr
abbrev kg : Rp := ⟨0, []⟩
def o5 (S : aD) (T : aG) (b : cz) (D : List Ht) : yN :=
 let k := b.vals.headD kT
 let cs := kQ T.cols b.vals []
 if gC T k D ≠ [] then ⟨210, kg, [bP T.id k], []⟩
 else if (dr S T k [] cs D).1 ≠ 0 then ⟨(dr S T k [] cs D).1, kg, bP T.id k :: (dr S T k [] cs D).2, []⟩
 else ⟨0, ⟨1, []⟩, bP T.id k :: (dr S T k [] cs D).2, dB T [] cs⟩
def qq : List cw → List aY → List aY
 | [], cs => cs
 | c :: l, cs => if c.state = 2 ∧ gZ cs c.id = false then qq l (gR cs c.id c.dflt) else qq l cs
def jb (T : aG) (b : cz) (r : Rw) : List aY := qq T.cols (gR r.cells b.set b.to)
def dN (S : aD) (T : aG) (b : cz) : List Rw → List Ht → Int × List bJ × List Wr
 | [], D => (0, [], [])
 | r :: l, D => if (dr S T r.key r.cells (jb T b r) D).1 ≠ 0 then ((dr S T r.key r.cells (jb T b r) D).1, (dr S T r.key r.cells (jb T b r) D).2, [])
  else ((dN S T b l (aq 0 D (dB T r.cells (jb T b r)))).1, (dr S T r.key r.cells (jb T b r) D).2 ++ (dN S T b l (aq 0 D (dB T r.cells (jb T b r)))).2.1,
   dB T r.cells (jb T b r) ++ (dN S T b l (aq 0 D (dB T r.cells (jb T b r)))).2.2)
def pK (S : aD) (T : aG) (b : cz) (D : List Ht) : yN :=
 if (aV T b D).1 ≠ 0 then ⟨(aV T b D).1, kg, bL T b D, []⟩
 else if (dN S T b (aV T b D).2 D).1 ≠ 0 then ⟨(dN S T b (aV T b D).2 D).1, kg, bL T b D ++ (dN S T b (aV T b D).2 D).2.1, (dN S T b (aV T b D).2 D).2.2⟩
 else ⟨0, ⟨(aV T b D).2.length, []⟩, bL T b D ++ (dN S T b (aV T b D).2 D).2.1, (dN S T b (aV T b D).2 D).2.2⟩
def lH (T U : aG) (r : Rw) (x : For) (c : Rw) : Bool := decide (bh c.cells x.column = r.key) && (decide (U.id ≠ T.id) || decide (c.key ≠ r.key))
def fL (T U : aG) (r : Rw) (D : List Ht) : List For → Int × List bJ
 | [] => (0, [])
 | x :: l => if x.parent = T.id ∧ bU x.state = true then
   (if (eL U D).1 ≠ 0 then ((eL U D).1, [bZ U.id]) else if (eL U D).2.any (lH T U r x) then (212, [bZ U.id])
    else ((fL T U r D l).1, bZ U.id :: (fL T U r D l).2))
  else fL T U r D l
def eu (T : aG) (r : Rw) (D : List Ht) : List aG → Int × List bJ
 | [] => (0, [])
 | U :: l => if (fL T U r D U.keys).1 ≠ 0 then fL T U r D U.keys else ((eu T r D l).1, (fL T U r D U.keys).2 ++ (eu T r D l).2)
def dL (S : aD) (T : aG) : List Rw → List Ht → Int × List bJ × List Wr
 | [], D => (0, [], [])
 | r :: l, D => if (eu T r D S.tabs).1 ≠ 0 then ((eu T r D S.tabs).1, (eu T r D S.tabs).2, [])
  else ((dL S T l (aq 0 D (dB T r.cells []))).1, (eu T r D S.tabs).2 ++ (dL S T l (aq 0 D (dB T r.cells []))).2.1, dB T r.cells [] ++ (dL S T l (aq 0 D (dB T r.cells []))).2.2)
def pe (S : aD) (T : aG) (b : cz) (D : List Ht) : yN :=
 if (aV T b D).1 ≠ 0 then ⟨(aV T b D).1, kg, bL T b D, []⟩
 else if (dL S T (aV T b D).2 D).1 ≠ 0 then ⟨(dL S T (aV T b D).2 D).1, kg, bL T b D ++ (dL S T (aV T b D).2 D).2.1, (dL S T (aV T b D).2 D).2.2⟩
 else ⟨0, ⟨(aV T b D).2.length, []⟩, bL T b D ++ (dL S T (aV T b D).2 D).2.1, (dL S T (aV T b D).2 D).2.2⟩
def B6 (T : aG) : List cw := T.cols.filter fun c => c.state == 3
def kq (T : aG) (r : Rw) : List aK := (B6 T).map fun c => bh r.cells c.id
def pq (T : aG) (b : cz) (D : List Ht) : yN :=
 if (aV T b D).1 ≠ 0 then ⟨(aV T b D).1, kg, bL T b D, []⟩ else ⟨0, ⟨0, (aV T b D).2.map (kq T)⟩, bL T b D, []⟩
def gH (T : aG) (id : Int) (v : aK) (key : Bool) : Bool := T.cols.any fun c => c.id == id && c.state == 3 && (key || decide (id ≠ eT T)) && fits v c.kind
def fu : List cw → Nat → List aK → Bool
 | [], _, vs => vs.isEmpty
 | c :: l, k, vs => if c.state ≠ 3 then fu l (k + 1) vs else match vs with
  | [] => false
  | v :: vs => fits v c.kind && !(decide (k = 0) && v.kind == 0) && fu l (k + 1) vs
def fE (S : aD) (b : cz) : Option aG :=
 match gI S b.table with
 | none => none
 | some T => if b.kind < 1 ∨ 4 < b.kind then none
  else if b.kind = 1 then (if fu T.cols 0 b.vals = true then some T else none)
  else if b.kind = 2 ∧ gH T b.set b.to false = false then none
  else if b.whr = 0 ∨ gH T b.whr b.is true = true then some T else none
def eE (S : aD) (T : aG) (b : cz) (D : List Ht) : yN :=
 if b.kind = 1 then o5 S T b D else if b.kind = 2 then pK S T b D else if b.kind = 3 then pe S T b D else pq T b D
structure Ls where
 err : Int
 at_ : Int
 reps : List Rp
 asks : List bJ
 ws : List Wr
def bN (S : aD) : Int → List cz → List Ht → Ls
 | i, [], D => ⟨0, 0, [], [], []⟩
 | i, b :: l, D => match fE S b with
  | none => ⟨1, i, [], [], []⟩
  | some T => let e := eE S T b D
   if e.err ≠ 0 then ⟨e.err, i, [], e.asks, e.ws⟩
   else let r := bN S (i + 1) l (aq 0 D e.ws)
    ⟨r.err, r.at_, e.rep :: r.reps, e.asks ++ r.asks, e.ws ++ r.ws⟩
end
section
def gJ (A : List bJ) (D D' : List Ht) : Prop := ∀ p ∈ A, au D p = au D' p
theorem gJ.cons {p : bJ} {A : List bJ} {D D' : List Ht} (h : gJ (p :: A) D D') : au D p = au D' p ∧ gJ A D D' := ⟨h p List.mem_cons_self, fun q hq => h q (List.mem_cons_of_mem _ hq)⟩
theorem gJ.app {A C : List bJ} {D D' : List Ht} (h : gJ (A ++ C) D D') : gJ A D D' ∧ gJ C D D' := ⟨fun q hq => h q (List.mem_append.2 (.inl hq)), fun q hq => h q (List.mem_append.2 (.inr hq))⟩
theorem lz {D : List Ht} (h : cl D) (p : bJ) : cl (au D p) := List.Pairwise.filter _ h
theorem ji {D : List Ht} {p : bJ} {a : Ht} : a ∈ au D p ↔ a ∈ D ∧ gU a.key p = true := List.mem_filter
theorem CH {ts : Int} {D D' : List Ht} (h : cl D) (h' : cl D') (x : Wr) {p : bJ} (e : au D p = au D' p) : au (eA ts D x) p = au (eA ts D' x) p := by
 obtain ⟨s1, m1⟩ := gq (ts := ts) h x;obtain ⟨s2, m2⟩ := gq (ts := ts) h' x;refine og (fun a : Ht => a.key) (lz s1 p) (lz s2 p) fun a => ?_
 have key : (a ∈ D ∧ gU a.key p = true) ↔ (a ∈ D' ∧ gU a.key p = true) := by rw [← ji, ← ji, e]
 rw [ji, ji, m1, m2]
 constructor
 ·rintro ⟨h1 | ⟨h1, h2⟩, h3⟩
  ·exact ⟨.inl h1, h3⟩
  ·exact ⟨.inr ⟨(key.1 ⟨h1, h3⟩).1, h2⟩, h3⟩
 ·rintro ⟨h1 | ⟨h1, h2⟩, h3⟩
  ·exact ⟨.inl h1, h3⟩
  ·exact ⟨.inr ⟨(key.2 ⟨h1, h3⟩).1, h2⟩, h3⟩
theorem lX {ts : Int} : ∀ (ws : List Wr) {D D' : List Ht} {A : List bJ}, cl D → cl D' → gJ A D D' → gJ A (aq ts D ws) (aq ts D' ws)
 | [], D, D', A, _, _, e => e
 | x :: ws, D, D', A, h, h', e => lX ws (gq h x).1 (gq h' x).1 fun p hp => CH h h' x (e p hp)
section
variable {D D' : List Ht} (h : cl D) (h' : cl D')
theorem oK {T : aG} {k : aK} {A : List bJ} (e : au D (bP T.id k) = au D' (bP T.id k)) : gC T k D = gC T k D' := by unfold gC; rw [e]
theorem sC {T : aG} (e : au D (bZ T.id) = au D' (bZ T.id)) : eL T D = eL T D' := by unfold eL; rw [e]
theorem uf {α β : Type} {f g : α → List β} : ∀ l : List α, (∀ k ∈ l, f k = g k) → l.flatMap f = l.flatMap g
 | [], _ => rfl
 | a :: l, h => by rw [List.flatMap_cons, List.flatMap_cons, h a List.mem_cons_self, uf l fun k hk => h k (List.mem_cons_of_mem _ hk)]
theorem lD {T : aG} {b : cz} (e : gJ (bL T b D) D D') : aV T b D = aV T b D' ∧ bL T b D = bL T b D' := by
 unfold aV bL at *
 split at e
 ·rename_i h1; rw [if_pos h1, if_pos h1, if_pos h1, if_pos h1]
  exact ⟨sC (e _ List.mem_cons_self), rfl⟩
 rename_i h1
 rw [if_neg h1, if_neg h1, if_neg h1, if_neg h1]
 split at e
 ·rename_i h2; rw [if_pos h2, if_pos h2, if_pos h2, if_pos h2]
  exact ⟨by rw [oK (A := []) (e _ List.mem_cons_self)], rfl⟩
 rename_i h2
 rw [if_neg h2, if_neg h2, if_neg h2, if_neg h2]
 cases hf : oV T b.whr with
 | none =>
  rw [hf] at e;dsimp only at e ⊢;rw [sC (e _ List.mem_cons_self)];exact ⟨rfl, rfl⟩
 | some x =>
  rw [hf] at e;dsimp only at e ⊢;obtain ⟨e1, e2⟩ := e.cons;rw [← e1];refine ⟨?_, rfl⟩
  split at e2
  ·rename_i h3; rw [if_pos h3, if_pos h3]
  ·rename_i h3
   rw [if_neg h3, if_neg h3]
   congr 1
   exact uf _ fun k hk => oK (A := []) (e2 _ (List.mem_map_of_mem hk))
theorem oI {k : aK} {old new : List aY} : ∀ (l : List ez), gJ (fI k old new D l).2 D D' → fI k old new D l = fI k old new D' l
 | [], _ => rfl
 | x :: l, e => by
  unfold fI at e ⊢
  by_cases c : (gM old new x.column && x.unique && bU x.state) = true
  ·rw [if_pos c] at e ⊢;rw [if_pos c]
   have e0 : au D (cH x.id (bh new x.column)) = au D' (cH x.id (bh new x.column)) := by
    split at e
    ·exact e _ List.mem_cons_self
    ·exact e _ List.mem_cons_self
   rw [← e0]
   split at e
   ·rename_i h1; rw [if_pos h1, if_pos h1]
   ·rename_i h1; rw [if_neg h1, if_neg h1, oI l e.cons.2]
  ·rw [if_neg c] at e ⊢;rw [if_neg c];exact oI l e
theorem oG {S : aD} {T : aG} {k : aK} {old new : List aY} : ∀ (l : List For), gJ (fA S T k old new D l).2 D D' → fA S T k old new D l = fA S T k old new D' l
 | [], _ => rfl
 | x :: l, e => by
  unfold fA at e ⊢
  by_cases c : (gM old new x.column && bU x.state && !(x.parent == T.id && decide (bh new x.column = k))) = true
  ·rw [if_pos c] at e ⊢;rw [if_pos c]
   cases hU : gI S x.parent with
   | none => rw [hU] at e; exact oG l e
   | some U =>
    rw [hU] at e;dsimp only at e ⊢
    have e0 : au D (bP U.id (bh new x.column)) = au D' (bP U.id (bh new x.column)) := by
     split at e
     ·exact e _ List.mem_cons_self
     ·exact e _ List.mem_cons_self
    rw [← oK (A := []) e0]
    split at e
    ·rename_i h1; rw [if_pos h1, if_pos h1]
    ·rename_i h1; rw [if_neg h1, if_neg h1, oG l e.cons.2]
  ·rw [if_neg c] at e ⊢;rw [if_neg c];exact oG l e
theorem oH {S : aD} {T : aG} {k : aK} {old new : List aY} (e : gJ (dr S T k old new D).2 D D') : dr S T k old new D = dr S T k old new D' := by
 unfold dr at e ⊢
 split at e
 ·rename_i h1
  rw [if_pos h1, ← oI T.idxs e, if_pos h1]
 ·rename_i h1
  obtain ⟨e1, e2⟩ := e.app;rw [if_neg h1, ← oI T.idxs e1, if_neg h1, ← oG T.keys e2]
theorem oJ {T U : aG} {r : Rw} : ∀ (l : List For), gJ (fL T U r D l).2 D D' → fL T U r D l = fL T U r D' l
 | [], _ => rfl
 | x :: l, e => by
  unfold fL at e ⊢
  by_cases c : x.parent = T.id ∧ bU x.state = true
  ·rw [if_pos c] at e ⊢;rw [if_pos c]
   have e0 : au D (bZ U.id) = au D' (bZ U.id) := by
    split at e
    ·exact e _ List.mem_cons_self
    ·split at e <;> exact e _ List.mem_cons_self
   rw [← sC e0]
   split at e
   ·rename_i h1; rw [if_pos h1, if_pos h1]
   ·rename_i h1
    rw [if_neg h1, if_neg h1]
    split at e
    ·rename_i h2; rw [if_pos h2, if_pos h2]
    ·rename_i h2; rw [if_neg h2, if_neg h2, oJ l e.cons.2]
  ·rw [if_neg c] at e ⊢;rw [if_neg c];exact oJ l e
theorem sD {T : aG} {r : Rw} : ∀ (l : List aG), gJ (eu T r D l).2 D D' → eu T r D l = eu T r D' l
 | [], _ => rfl
 | U :: l, e => by
  unfold eu at e ⊢
  split at e
  ·rename_i h1; rw [if_pos h1, ← oJ U.keys e, if_pos h1]
  ·rename_i h1
   obtain ⟨e1, e2⟩ := e.app;rw [if_neg h1, ← oJ U.keys e1, if_neg h1, ← sD l e2]
end
theorem yT {S : aD} {T : aG} {b : cz} : ∀ (l : List Rw) {D D' : List Ht}, cl D → cl D' → gJ (dN S T b l D).2.1 D D' → dN S T b l D = dN S T b l D'
 | [], D, D', _, _, _ => rfl
 | r :: l, D, D', h, h', e => by
  unfold dN at e ⊢
  split at e
  ·rename_i h1; rw [if_pos h1, ← oH e, if_pos h1]
  ·rename_i h1
   obtain ⟨e1, e2⟩ := e.app;rw [if_neg h1, ← oH e1, if_neg h1];have := yT l (cV (dB T r.cells (jb T b r)) h) (cV (dB T r.cells (jb T b r)) h') (lX _ h h' e2);rw [this]
theorem yS {S : aD} {T : aG} : ∀ (l : List Rw) {D D' : List Ht}, cl D → cl D' → gJ (dL S T l D).2.1 D D' → dL S T l D = dL S T l D'
 | [], D, D', _, _, _ => rfl
 | r :: l, D, D', h, h', e => by
  unfold dL at e ⊢
  split at e
  ·rename_i h1; rw [if_pos h1, ← sD S.tabs e, if_pos h1]
  ·rename_i h1
   obtain ⟨e1, e2⟩ := e.app;rw [if_neg h1, ← sD S.tabs e1, if_neg h1];have := yS (S := S) (T := T) l (cV (dB T r.cells []) h) (cV (dB T r.cells []) h') (lX _ h h' e2);rw [this]
theorem It {S : aD} {T : aG} {b : cz} {D D' : List Ht} (h : cl D) (h' : cl D') (e : gJ (eE S T b D).asks D D') : eE S T b D = eE S T b D' := by
 unfold eE at e ⊢
 split at e
 ·rename_i c; rw [if_pos c, if_pos c]
  unfold o5 at e ⊢;dsimp only at e ⊢
  have e0 : au D (bP T.id (b.vals.headD kT)) = au D' (bP T.id (b.vals.headD kT)) := by
   split at e
   ·exact e _ List.mem_cons_self
   ·split at e <;> exact e _ List.mem_cons_self
  rw [← oK (A := []) e0]
  split at e
  ·rename_i c1; rw [if_pos c1, if_pos c1]
  ·rename_i c1
   rw [if_neg c1, if_neg c1]
   split at e
   ·rename_i c2; rw [if_pos c2, ← oH e.cons.2, if_pos c2]
   ·rename_i c2; rw [if_neg c2, ← oH e.cons.2, if_neg c2]
 rename_i c; rw [if_neg c, if_neg c]
 split at e
 ·rename_i c; rw [if_pos c, if_pos c]
  unfold pK at e ⊢
  split at e
  ·rename_i c1
   obtain ⟨g1, g2⟩ := lD e;rw [if_pos c1, ← g1, ← g2, if_pos c1]
  ·rename_i c1
   rw [if_neg c1]
   have e1 : gJ (bL T b D) D D' ∧ gJ (dN S T b (aV T b D).2 D).2.1 D D' := by split at e <;> exact e.app
   obtain ⟨g1, g2⟩ := lD e1.1;rw [← g1, ← g2, if_neg c1, ← yT _ h h' e1.2]
 rename_i c; rw [if_neg c, if_neg c]
 split at e
 ·rename_i c; rw [if_pos c, if_pos c]
  unfold pe at e ⊢
  split at e
  ·rename_i c1
   obtain ⟨g1, g2⟩ := lD e;rw [if_pos c1, ← g1, ← g2, if_pos c1]
  ·rename_i c1
   rw [if_neg c1]
   have e1 : gJ (bL T b D) D D' ∧ gJ (dL S T (aV T b D).2 D).2.1 D D' := by split at e <;> exact e.app
   obtain ⟨g1, g2⟩ := lD e1.1;rw [← g1, ← g2, if_neg c1, ← yS _ h h' e1.2]
 rename_i c; rw [if_neg c, if_neg c]
 unfold pq at e ⊢
 have e1 : gJ (bL T b D) D D' := by split at e <;> exact e
 obtain ⟨g1, g2⟩ := lD e1;rw [← g1, ← g2]
theorem BK {S : aD} : ∀ (L : List cz) (i : Int) {D D' : List Ht}, cl D → cl D' → gJ (bN S i L D).asks D D' → bN S i L D = bN S i L D'
 | [], i, D, D', _, _, _ => by rw [bN.eq_def, bN.eq_def]
 | b :: L, i, D, D', h, h', e => by
  rw [bN.eq_def] at e ⊢;rw [bN.eq_def S i (b :: L) D'];dsimp only at e ⊢
  cases hr : fE S b with
  | none => rfl
  | some T =>
   rw [hr] at e;dsimp only at e ⊢
   have e1 : gJ (eE S T b D).asks D D' := by
    split at e
    ·exact e
    ·exact e.app.1
   rw [← It h h' e1]
   split at e
   ·rename_i c; rw [if_pos c, if_pos c]
   ·rename_i c
    rw [if_neg c, if_neg c, BK L (i + 1) (cV (eE S T b D).ws h) (cV (eE S T b D).ws h') (lX _ h h' e.app.2)]
def fV (A : List bJ) (k : BA) : Bool := A.any fun p => gU k p
def jt (l : List Ht) (h : Ht) : List Ht := eA h.ts l ⟨h.key, h.val, false⟩
def zU (A : List bJ) (B O : List Ht) : List Ht := (B.filter fun h => fV A h.key).foldl jt (O.filter fun h => !fV A h.key)
theorem Fz {l : List Ht} (h : cl l) (x : Ht) : cl (jt l x) ∧ ∀ a, a ∈ jt l x ↔ a = x ∨ (a ∈ l ∧ a.key ≠ x.key) := by
 obtain ⟨h1, h2⟩ := gq (ts := x.ts) h ⟨x.key, x.val, false⟩;exact ⟨h1, fun a => (h2 a).trans (by simp)⟩
theorem w9 : ∀ (B : List Ht) {l : List Ht}, cl l → cl B → cl (B.foldl jt l) ∧ ∀ a, a ∈ B.foldl jt l ↔ a ∈ B ∨ (a ∈ l ∧ ∀ x ∈ B, a.key ≠ x.key)
 | [], l, h, _ => ⟨h, fun a => by simp⟩
 | x :: B, l, h, hB => by
  obtain ⟨p1, p2⟩ := Fz h x;have hc := List.pairwise_cons.1 hB;obtain ⟨i1, i2⟩ := w9 B p1 hc.2;refine ⟨i1, fun a => ?_⟩;rw [List.foldl_cons, i2, p2]
  constructor
  ·rintro (g | ⟨rfl | ⟨g1, g2⟩, g3⟩)
   ·exact .inl (List.mem_cons_of_mem _ g)
   ·exact .inl List.mem_cons_self
   ·refine .inr ⟨g1, fun y hy => ?_⟩;rcases List.mem_cons.1 hy with rfl | hy
    ·exact g2
    ·exact g3 y hy
  ·rintro (g | ⟨g1, g2⟩)
   ·rcases List.mem_cons.1 g with rfl | g
    ·refine .inr ⟨.inl rfl, fun y hy e => ?_⟩;have := hc.1 y hy;rw [e, eU] at this; cases this
    ·exact .inl g
   ·exact .inr ⟨.inr ⟨g1, g2 x List.mem_cons_self⟩, fun y hy => g2 y (List.mem_cons_of_mem _ hy)⟩
theorem I5 {A : List bJ} {B O : List Ht} (hB : cl B) (hO : cl O) : cl (zU A B O) ∧ (∀ x ∈ zU A B O, x ∈ B ∨ x ∈ O) ∧ gJ A B (zU A B O) := by
 obtain ⟨h1, h2⟩ := w9 (B.filter fun h => fV A h.key) (List.Pairwise.filter (fun h : Ht => !fV A h.key) hO) (List.Pairwise.filter _ hB);refine ⟨h1, fun x hx => ?_, fun p hp => ?_⟩
 ·rcases (h2 x).1 hx with g | ⟨g, _⟩
  ·exact .inl (List.mem_filter.1 g).1
  ·exact .inr (List.mem_filter.1 g).1
 ·refine og (fun a : Ht => a.key) (lz hB p) (lz h1 p) fun a => ?_;rw [ji, ji, show zU A B O = (B.filter fun h => fV A h.key).foldl jt (O.filter fun h => !fV A h.key) from rfl, h2];have hc : gU a.key p = true → fV A a.key = true := fun g => List.any_eq_true.2 ⟨p, hp, g⟩
  constructor
  ·rintro ⟨g1, g2⟩;exact ⟨.inl (List.mem_filter.2 ⟨g1, hc g2⟩), g2⟩
  ·rintro ⟨g1 | ⟨g1, _⟩, g2⟩
   ·exact ⟨(List.mem_filter.1 g1).1, g2⟩
   ·have := (List.mem_filter.1 g1).2;rw [hc g2] at this;cases this
end
end Go.Proofs.YtlfdfgokflhdbaaGreat
