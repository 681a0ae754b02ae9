/-
  Part 25 for the law: lemmas.
  Conditions: none.
-/
import Derived.Test.YtlfdfgokflhdbaaGreatExecExactK24
set_option maxHeartbeats 4000000
set_option maxRecDepth 100000
set_option linter.unusedVariables false
set_option linter.unusedSimpArgs false
set_option linter.unusedSectionVars false
namespace Go.Proofs.YtlfdfgokflhdbaaGreat
open Fw Go Go.IntKind
section
attribute [-simp] Fw.W.bD Fw.W.bB
structure aH where
 kind : Int
 n : Int
 s : BA
 deriving DecidableEq
structure cm where
 id : Int
 name : BA
 kind : Int
 state : Int
 dflt : aH
 deriving DecidableEq
structure dx where
 id : Int
 name : BA
 column : Int
 unique : Bool
 state : Int
 deriving DecidableEq
structure For where
 id : Int
 name : BA
 column : Int
 parent : Int
 state : Int
 deriving DecidableEq
structure az where
 id : Int
 name : BA
 cols : List cm
 idxs : List dx
 keys : List For
 deriving DecidableEq
structure aK where
 version : Int
 last : Int
 tabs : List az
 deriving DecidableEq
structure nZ where
 kind : Int
 table : BA
 name : BA
 column : BA
 parent : BA
 unique : Bool
 type : Int
 dflt : aH
 cols : List cm
abbrev aU := OA × Nat × Nat
abbrev dQ : aU := (none, 0, 0)
abbrev aU.v (t : aU) : Value := .slice t.1 t.2.1 t.2.2
abbrev cp (b : Nat) : Value := .pointer (some ⟨b, 0, none⟩)
abbrev dV (v : aH) : Value := .agg #[.int .i64 v.kind, .int .i64 v.n, .string v.s]
def dw : cO cm where
 sz := 7
 f c := [.int .i64 c.id, .string c.name, .int .i64 c.kind, .int .i64 c.state, .int .i64 c.dflt.kind, .int .i64 c.dflt.n, .string c.dflt.s]
 len _ := rfl
 one p v hv := by simp at hv; rcases hv with rfl | rfl | rfl | rfl | rfl | rfl | rfl <;> rfl
 pos := by omega
abbrev zH (c : cm) : Value := .agg #[.int .i64 c.id, .string c.name, .int .i64 c.kind, .int .i64 c.state, .int .i64 c.dflt.kind, .int .i64 c.dflt.n, .string c.dflt.s]
def jY : cO dx where
 sz := 5
 f x := [.int .i64 x.id, .string x.name, .int .i64 x.column, .bool x.unique, .int .i64 x.state]
 len _ := rfl
 one p v hv := by simp at hv; rcases hv with rfl | rfl | rfl | rfl | rfl <;> rfl
 pos := by omega
abbrev G9 (x : dx) : Value := .agg #[.int .i64 x.id, .string x.name, .int .i64 x.column, .bool x.unique, .int .i64 x.state]
def l9 : cO For where
 sz := 5
 f x := [.int .i64 x.id, .string x.name, .int .i64 x.column, .int .i64 x.parent, .int .i64 x.state]
 len _ := rfl
 one p v hv := by simp at hv; rcases hv with rfl | rfl | rfl | rfl | rfl <;> rfl
 pos := by omega
abbrev KR (x : For) : Value := .agg #[.int .i64 x.id, .string x.name, .int .i64 x.column, .int .i64 x.parent, .int .i64 x.state]
structure aD where
 T : az
 c : aU
 x : aU
 k : aU
def ja : cO aD where
 sz := 5
 f p := [.int .i64 p.T.id, .string p.T.name, .slice p.c.1 p.c.2.1 p.c.2.2, .slice p.x.1 p.x.2.1 p.x.2.2, .slice p.k.1 p.k.2.1 p.k.2.2]
 len _ := rfl
 one p v hv := by simp at hv; rcases hv with rfl | rfl | rfl | rfl | rfl <;> rfl
 pos := by omega
abbrev ep (T : az) (c x k : aU) : Value := .agg #[.int .i64 T.id, .string T.name, .slice c.1 c.2.1 c.2.2, .slice x.1 x.2.1 x.2.2, .slice k.1 k.2.1 k.2.2]
abbrev fj (S : aK) (t : aU) : Value := .agg #[.int .i64 S.version, .int .i64 S.last, .slice t.1 t.2.1 t.2.2]
abbrev G5 (D : nZ) (t : aU) : Value := .agg #[.int .i64 D.kind, .string D.table, .string D.name, .string D.column, .string D.parent, .bool D.unique, .int .i64 D.type, .int .i64 D.dflt.kind, .int .i64 D.dflt.n, .string D.dflt.s, .slice t.1 t.2.1 t.2.2]
structure Sl {α : Type} (E : cO α) (s : PH) (t : aU) (xs : List α) : Prop where
 el : elems (Rd.enc E) s t.1 t.2.1 xs
 le : t.2.1 ≤ t.2.2
 dF : xs.length ≤ 4294967296
theorem Sl.len {α : Type} {E : cO α} {s : PH} {t : aU} {xs : List α} (h : Sl E s t xs) : t.2.1 = xs.length := h.el.1
theorem Sl.mono {α : Type} {E : cO α} {s s' : PH} {t : aU} {xs : List α} (h : Sl E s t xs) (hm : s.le s') : Sl E s' t xs := ⟨h.el.mono hm, h.le, h.dF⟩
theorem Sl.nil {α : Type} {E : cO α} {s : PH} : Sl E s dQ ([] : List α) := ⟨⟨rfl, fun i x hx => by simp at hx⟩, Nat.le_refl _, by simp⟩
structure gz (s : PH) (p : aD) : Prop where
 c : Sl dw s p.c p.T.cols
 x : Sl jY s p.x p.T.idxs
 k : Sl l9 s p.k p.T.keys
theorem gz.mono {s s' : PH} {p : aD} (h : gz s p) (hm : s.le s') : gz s' p := ⟨h.c.mono hm, h.x.mono hm, h.k.mono hm⟩
structure dO (s : PH) (t : aU) (S : aK) (ps : List aD) : Prop where
 el : Sl ja s t ps
 eq : S.tabs = ps.map (·.T)
 all : ∀ p ∈ ps, gz s p
theorem dO.mono {s s' : PH} {t : aU} {S : aK} {ps : List aD} (h : dO s t S ps) (hm : s.le s') : dO s' t S ps := ⟨h.el.mono hm, h.eq, fun p hp => (h.all p hp).mono hm⟩
def qB (i c : Nat) : Bool := (decide (97 ≤ c) && decide (c ≤ 122)) || (!decide (i = 0) && (decide (c = 95) || (decide (48 ≤ c) && decide (c ≤ 57))))
def iS (s : BA) (k : Nat) : Bool := (List.range k).all fun i => qB i (s[i]?.getD 0).toNat
def named (s : BA) : Bool := decide (1 ≤ s.size) && (decide (s.size ≤ 16) && iS s s.size)
theorem kM (s : BA) (k : Nat) : iS s (k + 1) = (iS s k && qB k (s[k]?.getD 0).toNat) := by
 unfold iS; rw [List.range_succ, List.all_append]; simp
theorem Dq {s : BA} {k : Nat} (h : qB k (s[k]?.getD 0).toNat = false) (hk : k < s.size) : iS s s.size = false := by
 have key : ∀ d, k + 1 + d ≤ s.size → iS s (k + 1 + d) = false := by
  intro d
  induction d with
  | zero => intro _; rw [Nat.add_zero, kM, h, Bool.and_false]
  | succ d ih => intro hd; rw [← Nat.add_assoc, kM, ih (by omega), Bool.false_and]
 have := key (s.size - (k + 1)) (by omega)
 rwa [show k + 1 + (s.size - (k + 1)) = s.size by omega] at this
theorem Ai {tx : BA} {k : Nat} (h : qB k (tx[k]?.getD 0).toNat = false) (hk : k < tx.size) : named tx = false := by
 unfold named; rw [Dq h hk]; simp
theorem tB (i c : Nat) : qB i c = true ↔ (97 ≤ c ∧ c ≤ 122) ∨ (i ≠ 0 ∧ (c = 95 ∨ (48 ≤ c ∧ c ≤ 57))) := by simp [qB]
theorem B5 (i c : Nat) (h : ¬ ((97 ≤ c ∧ c ≤ 122) ∨ (i ≠ 0 ∧ (c = 95 ∨ (48 ≤ c ∧ c ≤ 57))))) : qB i c = false := by
 cases e : qB i c with
 | false => rfl
 | true => exact absurd ((tB i c).1 e) h
theorem rS (tx : BA) (s : PH) : ah 169 #[.string tx] s fun x s' => x = .bool (named tx) ∧ s' = s := by
 refine HK tx _ s ?_;unfold Be;simp only [aR, W.af, decide_eq_true_eq, decide_eq_false_iff_not, aF, W.oB, aQ];refine ⟨fun h => ⟨by unfold named; rw [decide_eq_false (by omega)]; (first | done | rfl), trivial⟩, fun h1 => ⟨fun h => ⟨by unfold named; rw [decide_eq_false (p := tx.size ≤ 16) (by omega)]; simp, trivial⟩, fun h2 => ?_⟩⟩;refine ⟨fun z s' => ∃ k : Nat, z = (((tx.size : Int), ()), ((k : Int), ()), ()) ∧ k ≤ tx.size ∧ s' = s ∧ iS tx k = true, fun z _ => tx.size - z.2.1.1.toNat, ⟨0, rfl, Nat.zero_le _, rfl, rfl⟩, ?_⟩;rintro _ s0 ⟨k, rfl, hk, hs0, hn⟩;simp only [W.af, decide_eq_true_eq, decide_eq_false_iff_not];refine ⟨fun hlt => ?_, fun hge => ?_⟩
 ·have hlt : k < tx.size := by omega
  have hw := aj (k := k) (by omega);simp only [aP, W.cI, Int.toNat_natCast, hw];refine ⟨by omega, ?_⟩
  obtain ⟨c, hc⟩ : ∃ c, (tx[k]?.getD 0).toNat = c := ⟨_, rfl⟩
  have hno : ¬ ((97 ≤ c ∧ c ≤ 122) ∨ (k ≠ 0 ∧ (c = 95 ∨ (48 ≤ c ∧ c ≤ 57)))) → (false = named tx ∧ s0 = s) := fun h => ⟨by rw [Ai (by rw [hc]; exact B5 k c h) hlt], hs0⟩
  have hyes : ((97 ≤ c ∧ c ≤ 122) ∨ (k ≠ 0 ∧ (c = 95 ∨ (48 ≤ c ∧ c ≤ 57)))) → (k + 1 ≤ tx.size ∧ s0 = s ∧ iS tx (k + 1) = true) ∧ tx.size - (k + 1) < tx.size - k := fun h => ⟨⟨hlt, hs0, by rw [kM, hn, hc, (tB k c).2 h]; (first | done | rfl)⟩, by omega⟩
  simp [hc, W.af]
  repeat' (first | (refine And.intro ?_ ?_) | intro _)
  all_goals first | exact hs0 | exact (hno (by omega)).1.symm | exact ⟨k + 1, by simp, (hyes (by omega)).1⟩ | omega
 ·have : k = tx.size := by omega
  subst this;refine ⟨?_, hs0⟩;unfold named; rw [hn, decide_eq_true (by omega), decide_eq_true (by omega)]; (first | done | rfl)
theorem lf (tx : BA) (s : PH) : ah 68 #[.string tx] s fun x s' => x = .bool (named tx) ∧ s' = s := by
 refine FB tx _ s ?_;unfold yg;simp only [aR, W.af, decide_eq_true_eq, decide_eq_false_iff_not, aF, W.oB, aQ];refine ⟨fun h => ⟨by unfold named; rw [decide_eq_false (by have h0 : tx.size = 0 := (by simpa using h); omega)]; (first | done | rfl), trivial⟩, fun h1 => ⟨fun h => ⟨by unfold named; rw [decide_eq_false (p := tx.size ≤ 16) (by omega)]; simp, trivial⟩, fun h2 => ?_⟩⟩
 have h1 : tx.size ≠ 0 := by simpa using h1
 refine ⟨fun z s' => ∃ k : Nat, z = (((k : Int), ()), ()) ∧ k ≤ tx.size ∧ s' = s ∧ iS tx k = true, fun z _ => tx.size - z.1.1.toNat, ⟨0, rfl, Nat.zero_le _, rfl, rfl⟩, ?_⟩;rintro _ s0 ⟨k, rfl, hk, hs0, hn⟩;simp only [W.af, decide_eq_true_eq, decide_eq_false_iff_not];refine ⟨fun hlt => ?_, fun hge => ?_⟩
 ·have hlt : k < tx.size := by omega
  have hw := aj (k := k) (by omega);simp only [aP, W.cI, Int.toNat_natCast, hw];refine ⟨by omega, ?_⟩
  obtain ⟨c, hc⟩ : ∃ c, (tx[k]?.getD 0).toNat = c := ⟨_, rfl⟩
  have hno : ¬ ((97 ≤ c ∧ c ≤ 122) ∨ (k ≠ 0 ∧ (c = 95 ∨ (48 ≤ c ∧ c ≤ 57)))) → (false = named tx ∧ s0 = s) := fun h => ⟨by rw [Ai (by rw [hc]; exact B5 k c h) hlt], hs0⟩
  have hyes : ((97 ≤ c ∧ c ≤ 122) ∨ (k ≠ 0 ∧ (c = 95 ∨ (48 ≤ c ∧ c ≤ 57)))) → (k + 1 ≤ tx.size ∧ s0 = s ∧ iS tx (k + 1) = true) ∧ tx.size - (k + 1) < tx.size - k := fun h => ⟨⟨hlt, hs0, by rw [kM, hn, hc, (tB k c).2 h]; (first | done | rfl)⟩, by omega⟩
  simp [hc, W.af]
  repeat' (first | (refine And.intro ?_ ?_) | intro _)
  all_goals first | exact hs0 | exact (hno (by omega)).1.symm | exact ⟨k + 1, by simp, (hyes (by omega)).1⟩ | omega
 ·have : k = tx.size := by omega
  subst this;refine ⟨?_, hs0⟩;unfold named; rw [hn, decide_eq_true (by omega), decide_eq_true (by omega)]; (first | done | rfl)
theorem gD (a b : Int) : (a == b) = decide (a = b) := by by_cases h : a = b <;> simp [h]
theorem qG (t : BA) : t.toList.isEmpty = decide (t = ⟨#[]⟩) := by
 have := bO t ⟨#[]⟩;rw [← this]
 have : (ByteArray.mk #[]).toList = [] := by simp [ByteArray.toList_eq]
 rw [this]
 cases t.toList <;> rfl
def typed (k : Int) : Bool := decide (k = 1) || decide (k = 2)
theorem Kz (k : Int) (s : PH) : ah 178 #[.int .i64 k] s fun x s' => x = .bool (typed k) ∧ s' = s := by
 refine JH k _ s ?_;unfold Cy typed;simp [W.af, gD]
 by_cases h : k = 1 <;> simp [h]
theorem tr (k : Int) (s : PH) : ah 71 #[.int .i64 k] s fun x s' => x = .bool (typed k) ∧ s' = s := by
 refine FD k _ s ?_;unfold yj typed;simp [W.af, gD]
 by_cases h : k = 1 <;> simp [h]
def bA (v : aH) : Bool := if v.kind = 0 then decide (v.n = 0) && decide (v.s = ⟨#[]⟩) else if v.kind = 1 then decide (v.s = ⟨#[]⟩) else if v.kind = 2 then decide (v.n = 0) && decide (v.s.size ≤ 64) else false
def kF (v : aH) : Int := if bA v = true then 0 else 10
theorem oZ (v : aH) (s : PH) : ah 199 #[dV v] s fun x s' => x = .int .i64 (kF v) ∧ s' = s := by
 refine FE v.kind v.n v.s _ s ?_;unfold yl kF bA;simp [W.af, bO, qG]
 repeat' (first | (refine And.intro ?_ ?_) | intro _)
 all_goals simp_all
 all_goals omega
theorem qA (v : aH) (s : PH) : ah 137 #[dV v] s fun x s' => x = .bool (bA v) ∧ s' = s := by
 refine DH v.kind v.n v.s _ s ?_;unfold vD bA;simp [W.af, bO, qG]
 repeat' (first | (refine And.intro ?_ ?_) | intro _)
 all_goals simp_all
 all_goals omega
def fits (v : aH) (k : Int) : Bool := bA v && (decide (v.kind = 0) || decide (v.kind = k))
theorem Kx (v : aH) (k : Int) (s : PH) : ah 179 #[dV v, .int .i64 k] s fun x s' => x = .bool (fits v k) ∧ s' = s := by
 refine JF v.kind v.n v.s k _ s ?_;unfold Cw;simp only [bM, aY];refine W.aq (oZ v s) ?_;rintro _ s ⟨rfl, rfl⟩;refine ⟨((kF v, ()), ()), rfl, ?_⟩;unfold fits kF
 cases hv : bA v <;> simp [W.af, gD]
 by_cases h : v.kind = 0 <;> simp [h]
theorem BY (v : aH) (k : Int) (s : PH) : ah 72 #[dV v, .int .i64 k] s fun x s' => x = .bool (fits v k) ∧ s' = s := by
 refine HM v.kind v.n v.s k _ s ?_;unfold Bg;simp only [bM, aY];refine W.aq (qA v s) ?_;rintro _ s ⟨rfl, rfl⟩;refine ⟨((bA v, ()), ()), rfl, ?_⟩;unfold fits
 cases hv : bA v <;> simp [W.af, gD]
 by_cases h : v.kind = 0 <;> simp [h]
def lS (name : BA) (n : Int) : Int := if named name = false then 100 else if n ≥ 8 then 156 else 0
theorem qy (x : cm) (s : PH) : ah 172 #[zH x] s fun y s' => y = .string x.name ∧ s' = s := by
 refine Dy x.id x.name x.kind x.state x.dflt.kind x.dflt.n x.dflt.s _ s ?_;unfold vq;simp
theorem I7 (x : cm) {p q : Nat} {s : PH} {name : BA} {ft : TypeId} (hp : s p = some (.cells #[.func (.func 172) #[] #[]] ft (0, 0))) (hq : s q = some (.cells #[.string name] 9 (0, 0))) :
  ah 270 #[zH x, cp p, cp q] s fun y s' => y = .bool (decide (x.name = name)) ∧ s' = s := by
 refine Hz x.id x.name x.kind x.state x.dflt.kind x.dflt.n x.dflt.s p q _ s ?_;unfold A1;simp [W.aA hp, W.aA hq, bO];refine dh (cap := #[]) Tryz.func172 rfl (by kernel_rfl) (qy x s) ?_;rintro _ s ⟨rfl, rfl⟩;refine ⟨((x.name, ()), ()), rfl, ?_⟩;simp [W.still_at hq, bO]
theorem zi {a : OA} {an ac p q : Nat} {s : PH} {name : BA} {ft : TypeId} {xs : List cm} (h : elems (Rd.enc dw) s a an xs) (hn : xs.length ≤ 4294967296) (hp : s p = some (.cells #[.func (.func 172) #[] #[]] ft (0, 0))) (hq : s q = some (.cells #[.string name] 9 (0, 0))) :
  ah 92 #[.slice a an ac, .func (.func 270) #[] #[cp p, cp q]] s fun y s' => y = .int .i64 (aM (fun x => decide (x.name = name)) xs 0) ∧ s' = s := by
 refine yL a an ac p q _ s ?_;unfold ql;have hlen := h.1;simp only [aQ];refine ⟨fun z s' => ∃ k : Nat, z = (((an : Int), ()), ((k : Int), ()), ()) ∧ k ≤ an ∧ s' = s ∧ aM (fun x => decide (x.name = name)) (xs.drop k) k = aM (fun x => decide (x.name = name)) xs 0, fun z _ => an - z.2.1.1.toNat, ⟨0, rfl, Nat.zero_le _, rfl, rfl⟩, ?_⟩;rintro _ s ⟨k, rfl, hk, rfl, hs⟩;simp [W.af];refine ⟨fun hlt => ⟨hlt, ?_⟩, fun hge => ?_⟩
 ·obtain ⟨x, hx⟩ : ∃ x, xs[k]? = some x := ⟨_, List.getElem?_eq_getElem (by omega)⟩
  obtain ⟨ad, rfl, hh⟩ := h.aG hx;simp only [W.ay];refine aE hh (y := (x.id, x.name, x.kind, x.state, x.dflt.kind, x.dflt.n, x.dflt.s, ())) rfl ?_;refine W.aq (I7 x hp hq) ?_;rintro _ s ⟨rfl, rfl⟩;refine ⟨((decide (x.name = name), ()), ()), rfl, ?_⟩;rw [eC hx] at hs;simp [W.af, aj (k := k) (by omega)];refine ⟨fun he => ?_, fun he => ⟨⟨k + 1, by simp, hlt, ?_⟩, by omega⟩⟩
  ·rw [← hs, if_pos (by simpa using he)]
  ·rw [← hs, if_neg (by simpa using he)]
 ·rw [← hs, fk (by omega)]
theorem Ja {a : OA} {an ac : Nat} {s : PH} {xs : List cm} (h : elems (Rd.enc dw) s a an xs) (hn : xs.length ≤ 4294967296) (name : BA) :
  ah 227 #[.slice a an ac, .string name, .func (.func 172) #[] #[]] s fun y s' => y = .int .i64 (aM (fun x => decide (x.name = name)) xs 0) ∧ s' = s := by
 refine bx.quiet (HC a an ac name _ s ?_);unfold A5;simp only [bY];refine W.bI fun r s1 hr m1 k1 => ?_;refine W.bI fun r2 s2 hr2 m2 k2 => ?_;have m12 := m1.trans m2;refine W.aq (zi (h.mono m12.le) hn k2 (m2.at k1 (by simp))) ?_;rintro _ s3 ⟨rfl, rfl⟩;exact ⟨((aM (fun x => decide (x.name = name)) xs 0, ()), ()), rfl, rfl, m12⟩
theorem tj (x : dx) (s : PH) : ah 174 #[G9 x] s fun y s' => y = .string x.name ∧ s' = s := by
 refine Fk x.id x.name x.column x.unique x.state _ s ?_;unfold xS;simp
theorem I8 (x : dx) {p q : Nat} {s : PH} {name : BA} {ft : TypeId} (hp : s p = some (.cells #[.func (.func 174) #[] #[]] ft (0, 0))) (hq : s q = some (.cells #[.string name] 9 (0, 0))) :
  ah 271 #[G9 x, cp p, cp q] s fun y s' => y = .bool (decide (x.name = name)) ∧ s' = s := by
 refine HA x.id x.name x.column x.unique x.state p q _ s ?_;unfold A3;simp [W.aA hp, W.aA hq, bO];refine dh (cap := #[]) Tryz.func174 rfl (by kernel_rfl) (tj x s) ?_;rintro _ s ⟨rfl, rfl⟩;refine ⟨((x.name, ()), ()), rfl, ?_⟩;simp [W.still_at hq, bO]
theorem zm {a : OA} {an ac p q : Nat} {s : PH} {name : BA} {ft : TypeId} {xs : List dx} (h : elems (Rd.enc jY) s a an xs) (hn : xs.length ≤ 4294967296) (hp : s p = some (.cells #[.func (.func 174) #[] #[]] ft (0, 0))) (hq : s q = some (.cells #[.string name] 9 (0, 0))) :
  ah 90 #[.slice a an ac, .func (.func 271) #[] #[cp p, cp q]] s fun y s' => y = .int .i64 (aM (fun x => decide (x.name = name)) xs 0) ∧ s' = s := by
 refine yP a an ac p q _ s ?_;unfold qp;have hlen := h.1;simp only [aQ];refine ⟨fun z s' => ∃ k : Nat, z = (((an : Int), ()), ((k : Int), ()), ()) ∧ k ≤ an ∧ s' = s ∧ aM (fun x => decide (x.name = name)) (xs.drop k) k = aM (fun x => decide (x.name = name)) xs 0, fun z _ => an - z.2.1.1.toNat, ⟨0, rfl, Nat.zero_le _, rfl, rfl⟩, ?_⟩;rintro _ s ⟨k, rfl, hk, rfl, hs⟩;simp [W.af];refine ⟨fun hlt => ⟨hlt, ?_⟩, fun hge => ?_⟩
 ·obtain ⟨x, hx⟩ : ∃ x, xs[k]? = some x := ⟨_, List.getElem?_eq_getElem (by omega)⟩
  obtain ⟨ad, rfl, hh⟩ := h.aG hx;simp only [W.ay];refine aE hh (y := (x.id, x.name, x.column, x.unique, x.state, ())) rfl ?_;refine W.aq (I8 x hp hq) ?_;rintro _ s ⟨rfl, rfl⟩;refine ⟨((decide (x.name = name), ()), ()), rfl, ?_⟩;rw [eC hx] at hs;simp [W.af, aj (k := k) (by omega)];refine ⟨fun he => ?_, fun he => ⟨⟨k + 1, by simp, hlt, ?_⟩, by omega⟩⟩
  ·rw [← hs, if_pos (by simpa using he)]
  ·rw [← hs, if_neg (by simpa using he)]
 ·rw [← hs, fk (by omega)]
theorem Jd {a : OA} {an ac : Nat} {s : PH} {xs : List dx} (h : elems (Rd.enc jY) s a an xs) (hn : xs.length ≤ 4294967296) (name : BA) :
  ah 228 #[.slice a an ac, .string name, .func (.func 174) #[] #[]] s fun y s' => y = .int .i64 (aM (fun x => decide (x.name = name)) xs 0) ∧ s' = s := by
 refine bx.quiet (HF a an ac name _ s ?_);unfold A8;simp only [bY];refine W.bI fun r s1 hr m1 k1 => ?_;refine W.bI fun r2 s2 hr2 m2 k2 => ?_;have m12 := m1.trans m2;refine W.aq (zm (h.mono m12.le) hn k2 (m2.at k1 (by simp))) ?_;rintro _ s3 ⟨rfl, rfl⟩;exact ⟨((aM (fun x => decide (x.name = name)) xs 0, ()), ()), rfl, rfl, m12⟩
theorem oX (x : For) (s : PH) : ah 176 #[KR x] s fun y s' => y = .string x.name ∧ s' = s := by
 refine BF x.id x.name x.column x.parent x.state _ s ?_;unfold sO;simp
theorem I9 (x : For) {p q : Nat} {s : PH} {name : BA} {ft : TypeId} (hp : s p = some (.cells #[.func (.func 176) #[] #[]] ft (0, 0))) (hq : s q = some (.cells #[.string name] 9 (0, 0))) :
  ah 272 #[KR x, cp p, cp q] s fun y s' => y = .bool (decide (x.name = name)) ∧ s' = s := by
 refine HB x.id x.name x.column x.parent x.state p q _ s ?_;unfold A4;simp [W.aA hp, W.aA hq, bO];refine dh (cap := #[]) Tryz.func176 rfl (by kernel_rfl) (oX x s) ?_;rintro _ s ⟨rfl, rfl⟩;refine ⟨((x.name, ()), ()), rfl, ?_⟩;simp [W.still_at hq, bO]
theorem zk {a : OA} {an ac p q : Nat} {s : PH} {name : BA} {ft : TypeId} {xs : List For} (h : elems (Rd.enc l9) s a an xs) (hn : xs.length ≤ 4294967296) (hp : s p = some (.cells #[.func (.func 176) #[] #[]] ft (0, 0))) (hq : s q = some (.cells #[.string name] 9 (0, 0))) :
  ah 94 #[.slice a an ac, .func (.func 272) #[] #[cp p, cp q]] s fun y s' => y = .int .i64 (aM (fun x => decide (x.name = name)) xs 0) ∧ s' = s := by
 refine yN a an ac p q _ s ?_;unfold qn;have hlen := h.1;simp only [aQ];refine ⟨fun z s' => ∃ k : Nat, z = (((an : Int), ()), ((k : Int), ()), ()) ∧ k ≤ an ∧ s' = s ∧ aM (fun x => decide (x.name = name)) (xs.drop k) k = aM (fun x => decide (x.name = name)) xs 0, fun z _ => an - z.2.1.1.toNat, ⟨0, rfl, Nat.zero_le _, rfl, rfl⟩, ?_⟩;rintro _ s ⟨k, rfl, hk, rfl, hs⟩;simp [W.af];refine ⟨fun hlt => ⟨hlt, ?_⟩, fun hge => ?_⟩
 ·obtain ⟨x, hx⟩ : ∃ x, xs[k]? = some x := ⟨_, List.getElem?_eq_getElem (by omega)⟩
  obtain ⟨ad, rfl, hh⟩ := h.aG hx;simp only [W.ay];refine aE hh (y := (x.id, x.name, x.column, x.parent, x.state, ())) rfl ?_;refine W.aq (I9 x hp hq) ?_;rintro _ s ⟨rfl, rfl⟩;refine ⟨((decide (x.name = name), ()), ()), rfl, ?_⟩;rw [eC hx] at hs;simp [W.af, aj (k := k) (by omega)];refine ⟨fun he => ?_, fun he => ⟨⟨k + 1, by simp, hlt, ?_⟩, by omega⟩⟩
  ·rw [← hs, if_pos (by simpa using he)]
  ·rw [← hs, if_neg (by simpa using he)]
 ·rw [← hs, fk (by omega)]
theorem Jb {a : OA} {an ac : Nat} {s : PH} {xs : List For} (h : elems (Rd.enc l9) s a an xs) (hn : xs.length ≤ 4294967296) (name : BA) :
  ah 229 #[.slice a an ac, .string name, .func (.func 176) #[] #[]] s fun y s' => y = .int .i64 (aM (fun x => decide (x.name = name)) xs 0) ∧ s' = s := by
 refine bx.quiet (HD a an ac name _ s ?_);unfold A6;simp only [bY];refine W.bI fun r s1 hr m1 k1 => ?_;refine W.bI fun r2 s2 hr2 m2 k2 => ?_;have m12 := m1.trans m2;refine W.aq (zk (h.mono m12.le) hn k2 (m2.at k1 (by simp))) ?_;rintro _ s3 ⟨rfl, rfl⟩;exact ⟨((aM (fun x => decide (x.name = name)) xs 0, ()), ()), rfl, rfl, m12⟩
theorem tq (x : aD) (s : PH) : ah 118 #[ep x.T x.c x.x x.k] s fun y s' => y = .string x.T.name ∧ s' = s := by
 refine Fl x.T.id x.T.name x.c.1 x.c.2.1 x.c.2.2 x.x.1 x.x.2.1 x.x.2.2 x.k.1 x.k.2.1 x.k.2.2 _ s ?_;unfold xT;simp
theorem I6 (x : aD) {p q : Nat} {s : PH} {name : BA} {ft : TypeId} (hp : s p = some (.cells #[.func (.func 118) #[] #[]] ft (0, 0))) (hq : s q = some (.cells #[.string name] 9 (0, 0))) :
  ah 204 #[ep x.T x.c x.x x.k, cp p, cp q] s fun y s' => y = .bool (decide (x.T.name = name)) ∧ s' = s := by
 refine Hy x.T.id x.T.name x.c.1 x.c.2.1 x.c.2.2 x.x.1 x.x.2.1 x.x.2.2 x.k.1 x.k.2.1 x.k.2.2 p q _ s ?_;unfold AZ;simp [W.aA hp, W.aA hq, bO];refine dh (cap := #[]) Tryz.func118 rfl (by kernel_rfl) (tq x s) ?_;rintro _ s ⟨rfl, rfl⟩;refine ⟨((x.T.name, ()), ()), rfl, ?_⟩;simp [W.still_at hq, bO]
theorem zl {a : OA} {an ac p q : Nat} {s : PH} {name : BA} {ft : TypeId} {xs : List aD} (h : elems (Rd.enc ja) s a an xs) (hn : xs.length ≤ 4294967296) (hp : s p = some (.cells #[.func (.func 118) #[] #[]] ft (0, 0))) (hq : s q = some (.cells #[.string name] 9 (0, 0))) :
  ah 128 #[.slice a an ac, .func (.func 204) #[] #[cp p, cp q]] s fun y s' => y = .int .i64 (aM (fun x => decide (x.T.name = name)) xs 0) ∧ s' = s := by
 refine yO a an ac p q _ s ?_;unfold qo;have hlen := h.1;simp only [aQ];refine ⟨fun z s' => ∃ k : Nat, z = (((an : Int), ()), ((k : Int), ()), ()) ∧ k ≤ an ∧ s' = s ∧ aM (fun x => decide (x.T.name = name)) (xs.drop k) k = aM (fun x => decide (x.T.name = name)) xs 0, fun z _ => an - z.2.1.1.toNat, ⟨0, rfl, Nat.zero_le _, rfl, rfl⟩, ?_⟩;rintro _ s ⟨k, rfl, hk, rfl, hs⟩;simp [W.af];refine ⟨fun hlt => ⟨hlt, ?_⟩, fun hge => ?_⟩
 ·obtain ⟨x, hx⟩ : ∃ x, xs[k]? = some x := ⟨_, List.getElem?_eq_getElem (by omega)⟩
  obtain ⟨ad, rfl, hh⟩ := h.aG hx;simp only [W.ay];refine aE hh (y := (x.T.id, x.T.name, x.c, x.x, x.k, ())) rfl ?_;refine W.aq (I6 x hp hq) ?_;rintro _ s ⟨rfl, rfl⟩;refine ⟨((decide (x.T.name = name), ()), ()), rfl, ?_⟩;rw [eC hx] at hs;simp [W.af, aj (k := k) (by omega)];refine ⟨fun he => ?_, fun he => ⟨⟨k + 1, by simp, hlt, ?_⟩, by omega⟩⟩
  ·rw [← hs, if_pos (by simpa using he)]
  ·rw [← hs, if_neg (by simpa using he)]
 ·rw [← hs, fk (by omega)]
theorem Jc {a : OA} {an ac : Nat} {s : PH} {xs : List aD} (h : elems (Rd.enc ja) s a an xs) (hn : xs.length ≤ 4294967296) (name : BA) :
  ah 142 #[.slice a an ac, .string name, .func (.func 118) #[] #[]] s fun y s' => y = .int .i64 (aM (fun x => decide (x.T.name = name)) xs 0) ∧ s' = s := by
 refine bx.quiet (HE a an ac name _ s ?_);unfold A7;simp only [bY];refine W.bI fun r s1 hr m1 k1 => ?_;refine W.bI fun r2 s2 hr2 m2 k2 => ?_;have m12 := m1.trans m2;refine W.aq (zl (h.mono m12.le) hn k2 (m2.at k1 (by simp))) ?_;rintro _ s3 ⟨rfl, rfl⟩;exact ⟨((aM (fun x => decide (x.T.name = name)) xs 0, ()), ()), rfl, rfl, m12⟩
end
section
attribute [-simp] Fw.W.bD Fw.W.bB
theorem nr {α β : Type} (f : α → β) (p : β → Bool) : ∀ (l : List α) (i : Nat), aM p (l.map f) i = aM (fun x => p (f x)) l i
 | [], i => rfl
 | x :: l, i => by simp only [List.map_cons, aM, nr f p l]
def fI (S : aK) (name : BA) : Int := aM (fun T : az => decide (T.name = name)) S.tabs 0
def dK (S : aK) (id : Int) : Int := aM (fun T : az => decide (T.id = id)) S.tabs 0
def fT (T : az) (name : BA) : Int := aM (fun c : cm => decide (c.name = name)) T.cols 0
def cS (T : az) (id : Int) : Int := aM (fun c : cm => decide (c.id = id)) T.cols 0
def kI (T : az) (name : BA) : Int := aM (fun c : dx => decide (c.name = name)) T.idxs 0
def jU (T : az) (name : BA) : Int := aM (fun c : For => decide (c.name = name)) T.keys 0
theorem Ls (x : cm) {p : Nat} {s : PH} {id : Int} (hp : s p = some (.cells #[.int .i64 id] 3 (0, 0))) : ah 230 #[zH x, cp p] s fun y s' => y = .bool (decide (x.id = id)) ∧ s' = s := by
 refine K4 x.id x.name x.kind x.state x.dflt.kind x.dflt.n x.dflt.s p _ s ?_;unfold Gi;simp [W.aA hp, gD]
theorem yC {a : OA} {an ac p : Nat} {s : PH} {id : Int} {xs : List cm} (h : elems (Rd.enc dw) s a an xs) (hn : xs.length ≤ 4294967296) (hp : s p = some (.cells #[.int .i64 id] 3 (0, 0))) :
  ah 92 #[.slice a an ac, .func (.func 230) #[] #[cp p]] s fun y s' => y = .int .i64 (aM (fun x => decide (x.id = id)) xs 0) ∧ s' = s := by
 refine wD a an ac p _ s ?_;unfold oL;have hlen := h.1;simp only [aQ];refine ⟨fun z s' => ∃ k : Nat, z = (((an : Int), ()), ((k : Int), ()), ()) ∧ k ≤ an ∧ s' = s ∧ aM (fun x => decide (x.id = id)) (xs.drop k) k = aM (fun x => decide (x.id = id)) xs 0, fun z _ => an - z.2.1.1.toNat, ⟨0, rfl, Nat.zero_le _, rfl, rfl⟩, ?_⟩;rintro _ s ⟨k, rfl, hk, rfl, hs⟩;simp [W.af];refine ⟨fun hlt => ⟨hlt, ?_⟩, fun hge => ?_⟩
 ·obtain ⟨x, hx⟩ : ∃ x, xs[k]? = some x := ⟨_, List.getElem?_eq_getElem (by omega)⟩
  obtain ⟨ad, rfl, hh⟩ := h.aG hx;simp only [W.ay];refine aE hh (y := (x.id, x.name, x.kind, x.state, x.dflt.kind, x.dflt.n, x.dflt.s, ())) rfl ?_;refine W.aq (Ls x hp) ?_;rintro _ s ⟨rfl, rfl⟩;refine ⟨((decide (x.id = id), ()), ()), rfl, ?_⟩;rw [eC hx] at hs;simp [W.af, aj (k := k) (by omega)];refine ⟨fun he => ?_, fun he => ⟨⟨k + 1, by simp, hlt, ?_⟩, by omega⟩⟩
  ·rw [← hs, if_pos (by simpa using he)]
  ·rw [← hs, if_neg (by simpa using he)]
 ·rw [← hs, fk (by omega)]
theorem I5 (x : aD) {p : Nat} {s : PH} {id : Int} (hp : s p = some (.cells #[.int .i64 id] 3 (0, 0))) : ah 231 #[ep x.T x.c x.x x.k, cp p] s fun y s' => y = .bool (decide (x.T.id = id)) ∧ s' = s := by
 refine Hx x.T.id x.T.name x.c.1 x.c.2.1 x.c.2.2 x.x.1 x.x.2.1 x.x.2.2 x.k.1 x.k.2.1 x.k.2.2 p _ s ?_;unfold AY;simp [W.aA hp, gD]
theorem uC {a : OA} {an ac p : Nat} {s : PH} {id : Int} {xs : List aD} (h : elems (Rd.enc ja) s a an xs) (hn : xs.length ≤ 4294967296) (hp : s p = some (.cells #[.int .i64 id] 3 (0, 0))) :
  ah 128 #[.slice a an ac, .func (.func 231) #[] #[cp p]] s fun y s' => y = .int .i64 (aM (fun x => decide (x.T.id = id)) xs 0) ∧ s' = s := by
 refine tQ a an ac p _ s ?_;unfold nv;have hlen := h.1;simp only [aQ];refine ⟨fun z s' => ∃ k : Nat, z = (((an : Int), ()), ((k : Int), ()), ()) ∧ k ≤ an ∧ s' = s ∧ aM (fun x => decide (x.T.id = id)) (xs.drop k) k = aM (fun x => decide (x.T.id = id)) xs 0, fun z _ => an - z.2.1.1.toNat, ⟨0, rfl, Nat.zero_le _, rfl, rfl⟩, ?_⟩;rintro _ s ⟨k, rfl, hk, rfl, hs⟩;simp [W.af];refine ⟨fun hlt => ⟨hlt, ?_⟩, fun hge => ?_⟩
 ·obtain ⟨x, hx⟩ : ∃ x, xs[k]? = some x := ⟨_, List.getElem?_eq_getElem (by omega)⟩
  obtain ⟨ad, rfl, hh⟩ := h.aG hx;simp only [W.ay];refine aE hh (y := (x.T.id, x.T.name, x.c, x.x, x.k, ())) rfl ?_;refine W.aq (I5 x hp) ?_;rintro _ s ⟨rfl, rfl⟩;refine ⟨((decide (x.T.id = id), ()), ()), rfl, ?_⟩;rw [eC hx] at hs;simp [W.af, aj (k := k) (by omega)];refine ⟨fun he => ?_, fun he => ⟨⟨k + 1, by simp, hlt, ?_⟩, by omega⟩⟩
  ·rw [← hs, if_pos (by simpa using he)]
  ·rw [← hs, if_neg (by simpa using he)]
 ·rw [← hs, fk (by omega)]
theorem Ku {s : PH} {p : aD} (h : Sl dw s p.c p.T.cols) (id : Int) : ah 180 #[ep p.T p.c p.x p.k, .int .i64 id] s fun y s' => y = .int .i64 (cS p.T id) ∧ s' = s := by
 refine bx.quiet (Lz p.T.id p.T.name p.c.1 p.c.2.1 p.c.2.2 p.x.1 p.x.2.1 p.x.2.2 p.k.1 p.k.2.1 p.k.2.2 id _ s ?_);unfold IW;simp only [bY];refine W.bI fun r s1 hr m1 k1 => ?_;refine W.aq (yC (h.el.mono m1.le) h.dF k1) ?_;rintro _ s3 ⟨rfl, rfl⟩;exact ⟨((cS p.T id, ()), ()), rfl, rfl, m1⟩
theorem Kw {s : PH} {t : aU} {S : aK} {ps : List aD} (h : dO s t S ps) (id : Int) : ah 181 #[fj S t, .int .i64 id] s fun y s' => y = .int .i64 (dK S id) ∧ s' = s := by
 refine bx.quiet (JD S.version S.last t.1 t.2.1 t.2.2 id _ s ?_);unfold Cu;simp only [bY];refine W.bI fun r s1 hr m1 k1 => ?_;refine W.aq (uC (h.el.el.mono m1.le) h.el.dF k1) ?_;rintro _ s3 ⟨rfl, rfl⟩;refine ⟨((dK S id, ()), ()), ?_, rfl, m1⟩;unfold dK; rw [h.eq, nr]; (first | done | rfl)
theorem oY {s : PH} {t : aU} {S : aK} {ps : List aD} (h : dO s t S ps) (name : BA) : ah 69 #[fj S t, .string name] s fun y s' => y = .int .i64 (fI S name) ∧ s' = s := by
 have hres : fI S name = aM (fun x : aD => decide (x.T.name = name)) ps 0 := by unfold fI; rw [h.eq, nr]
 rw [hres];obtain ⟨ta, tn, tc⟩ := t;refine BI S.version S.last ta tn tc name _ s ?_;unfold sR;have hlen : tn = _ := h.el.len;have hfew := h.el.dF;simp only [aQ];refine ⟨fun z s' => ∃ k : Nat, z = ((S.version, S.last, (ta, tn, tc), ()), ((k : Int), ()), ()) ∧ k ≤ tn ∧ s' = s ∧ aM (fun x : aD => decide (x.T.name = name)) (ps.drop k) k = aM (fun x : aD => decide (x.T.name = name)) ps 0, fun z _ => tn - z.2.1.1.toNat, ⟨0, rfl, Nat.zero_le _, rfl, rfl⟩, ?_⟩;rintro _ s ⟨k, rfl, hk, rfl, hs⟩;simp [W.af];refine ⟨fun hlt => ⟨hlt, ?_⟩, fun hge => ?_⟩
 ·obtain ⟨x, hx⟩ : ∃ x, ps[k]? = some x := ⟨_, List.getElem?_eq_getElem (by omega)⟩
  obtain ⟨ad, had, hh⟩ := h.el.el.aG hx;dsimp only at had; subst had;simp only [W.ay];refine bl (j := 1) hh (cs := [.str]) (y := (x.T.name, ())) rfl ?_;rw [eC hx] at hs;simp [W.af, aj (k := k) (by omega), bO, gD];refine ⟨fun he => ?_, fun he => ⟨⟨k + 1, by simp, hlt, ?_⟩, by omega⟩⟩
  ·rw [← hs, if_pos (by simpa using he)]
  ·rw [← hs, if_neg (by simpa using he)]
 ·rw [← hs, fk (by omega)]
theorem C5 {s : PH} {t : aU} {S : aK} {ps : List aD} (h : dO s t S ps) (id : Int) : ah 75 #[fj S t, .int .i64 id] s fun y s' => y = .int .i64 (dK S id) ∧ s' = s := by
 have hres : dK S id = aM (fun x : aD => decide (x.T.id = id)) ps 0 := by unfold dK; rw [h.eq, nr]
 rw [hres];obtain ⟨ta, tn, tc⟩ := t;refine BJ S.version S.last ta tn tc id _ s ?_;unfold sU;have hlen : tn = _ := h.el.len;have hfew := h.el.dF;simp only [aQ];refine ⟨fun z s' => ∃ k : Nat, z = ((S.version, S.last, (ta, tn, tc), ()), ((k : Int), ()), ()) ∧ k ≤ tn ∧ s' = s ∧ aM (fun x : aD => decide (x.T.id = id)) (ps.drop k) k = aM (fun x : aD => decide (x.T.id = id)) ps 0, fun z _ => tn - z.2.1.1.toNat, ⟨0, rfl, Nat.zero_le _, rfl, rfl⟩, ?_⟩;rintro _ s ⟨k, rfl, hk, rfl, hs⟩;simp [W.af];refine ⟨fun hlt => ⟨hlt, ?_⟩, fun hge => ?_⟩
 ·obtain ⟨x, hx⟩ : ∃ x, ps[k]? = some x := ⟨_, List.getElem?_eq_getElem (by omega)⟩
  obtain ⟨ad, had, hh⟩ := h.el.el.aG hx;dsimp only at had; subst had;simp only [W.ay];refine bl (j := 0) hh (cs := [.int .i64]) (y := (x.T.id, ())) rfl ?_;rw [eC hx] at hs;simp [W.af, aj (k := k) (by omega), bO, gD];refine ⟨fun he => ?_, fun he => ⟨⟨k + 1, by simp, hlt, ?_⟩, by omega⟩⟩
  ·rw [← hs, if_pos (by simpa using he)]
  ·rw [← hs, if_neg (by simpa using he)]
 ·rw [← hs, fk (by omega)]
theorem sC {s : PH} {p : aD} (h : Sl dw s p.c p.T.cols) (name : BA) : ah 70 #[ep p.T p.c p.x p.k, .string name] s fun y s' => y = .int .i64 (fT p.T name) ∧ s' = s := by
 obtain ⟨T, ⟨ca, can, cac⟩, ⟨xa, xan, xac⟩, ⟨ka, kan, kac⟩⟩ := p;dsimp only at h ⊢;have hres : fT T name = aM (fun x : cm => decide (x.name = name)) T.cols 0 := rfl;rw [hres];refine Ao T.id T.name ca can cac xa xan xac ka kan kac name _ s ?_;unfold rM;have hlen : can = _ := h.len;have hfew := h.dF;simp only [aQ];refine ⟨fun z s' => ∃ k : Nat, z = ((T.id, T.name, (ca, can, cac), (xa, xan, xac), (ka, kan, kac), ()), ((k : Int), ()), ()) ∧ k ≤ can ∧ s' = s ∧ aM (fun x : cm => decide (x.name = name)) (T.cols.drop k) k = aM (fun x : cm => decide (x.name = name)) T.cols 0, fun z _ => can - z.2.1.1.toNat, ⟨0, rfl, Nat.zero_le _, rfl, rfl⟩, ?_⟩;rintro _ s ⟨k, rfl, hk, rfl, hs⟩;simp [W.af];refine ⟨fun hlt => ⟨hlt, ?_⟩, fun hge => ?_⟩
 ·obtain ⟨x, hx⟩ : ∃ x, T.cols[k]? = some x := ⟨_, List.getElem?_eq_getElem (by omega)⟩
  obtain ⟨ad, had, hh⟩ := h.el.aG hx;dsimp only at had; subst had;simp only [W.ay];refine bl (j := 1) hh (cs := [.str]) (y := (x.name, ())) rfl ?_;rw [eC hx] at hs;simp [W.af, aj (k := k) (by omega), bO, gD];refine ⟨fun he => ?_, fun he => ⟨⟨k + 1, by simp, hlt, ?_⟩, by omega⟩⟩
  ·rw [← hs, if_pos (by simpa using he)]
  ·rw [← hs, if_neg (by simpa using he)]
 ·rw [← hs, fk (by omega)]
theorem sD {s : PH} {p : aD} (h : Sl dw s p.c p.T.cols) (id : Int) : ah 74 #[ep p.T p.c p.x p.k, .int .i64 id] s fun y s' => y = .int .i64 (cS p.T id) ∧ s' = s := by
 obtain ⟨T, ⟨ca, can, cac⟩, ⟨xa, xan, xac⟩, ⟨ka, kan, kac⟩⟩ := p;dsimp only at h ⊢;have hres : cS T id = aM (fun x : cm => decide (x.id = id)) T.cols 0 := rfl;rw [hres];refine Ap T.id T.name ca can cac xa xan xac ka kan kac id _ s ?_;unfold rN;have hlen : can = _ := h.len;have hfew := h.dF;simp only [aQ];refine ⟨fun z s' => ∃ k : Nat, z = ((T.id, T.name, (ca, can, cac), (xa, xan, xac), (ka, kan, kac), ()), ((k : Int), ()), ()) ∧ k ≤ can ∧ s' = s ∧ aM (fun x : cm => decide (x.id = id)) (T.cols.drop k) k = aM (fun x : cm => decide (x.id = id)) T.cols 0, fun z _ => can - z.2.1.1.toNat, ⟨0, rfl, Nat.zero_le _, rfl, rfl⟩, ?_⟩;rintro _ s ⟨k, rfl, hk, rfl, hs⟩;simp [W.af];refine ⟨fun hlt => ⟨hlt, ?_⟩, fun hge => ?_⟩
 ·obtain ⟨x, hx⟩ : ∃ x, T.cols[k]? = some x := ⟨_, List.getElem?_eq_getElem (by omega)⟩
  obtain ⟨ad, had, hh⟩ := h.el.aG hx;dsimp only at had; subst had;simp only [W.ay];refine bl (j := 0) hh (cs := [.int .i64]) (y := (x.id, ())) rfl ?_;rw [eC hx] at hs;simp [W.af, aj (k := k) (by omega), bO, gD];refine ⟨fun he => ?_, fun he => ⟨⟨k + 1, by simp, hlt, ?_⟩, by omega⟩⟩
  ·rw [← hs, if_pos (by simpa using he)]
  ·rw [← hs, if_neg (by simpa using he)]
 ·rw [← hs, fk (by omega)]
theorem C4 {s : PH} {p : aD} (h : Sl jY s p.x p.T.idxs) (name : BA) : ah 73 #[ep p.T p.c p.x p.k, .string name] s fun y s' => y = .int .i64 (kI p.T name) ∧ s' = s := by
 obtain ⟨T, ⟨ca, can, cac⟩, ⟨xa, xan, xac⟩, ⟨ka, kan, kac⟩⟩ := p;dsimp only at h ⊢;have hres : kI T name = aM (fun x : dx => decide (x.name = name)) T.idxs 0 := rfl;rw [hres];refine BH T.id T.name ca can cac xa xan xac ka kan kac name _ s ?_;unfold sQ;have hlen : xan = _ := h.len;have hfew := h.dF;simp only [aQ];refine ⟨fun z s' => ∃ k : Nat, z = ((T.id, T.name, (ca, can, cac), (xa, xan, xac), (ka, kan, kac), ()), ((k : Int), ()), ()) ∧ k ≤ xan ∧ s' = s ∧ aM (fun x : dx => decide (x.name = name)) (T.idxs.drop k) k = aM (fun x : dx => decide (x.name = name)) T.idxs 0, fun z _ => xan - z.2.1.1.toNat, ⟨0, rfl, Nat.zero_le _, rfl, rfl⟩, ?_⟩;rintro _ s ⟨k, rfl, hk, rfl, hs⟩;simp [W.af];refine ⟨fun hlt => ⟨hlt, ?_⟩, fun hge => ?_⟩
 ·obtain ⟨x, hx⟩ : ∃ x, T.idxs[k]? = some x := ⟨_, List.getElem?_eq_getElem (by omega)⟩
  obtain ⟨ad, had, hh⟩ := h.el.aG hx;dsimp only at had; subst had;simp only [W.ay];refine bl (j := 1) hh (cs := [.str]) (y := (x.name, ())) rfl ?_;rw [eC hx] at hs;simp [W.af, aj (k := k) (by omega), bO, gD];refine ⟨fun he => ?_, fun he => ⟨⟨k + 1, by simp, hlt, ?_⟩, by omega⟩⟩
  ·rw [← hs, if_pos (by simpa using he)]
  ·rw [← hs, if_neg (by simpa using he)]
 ·rw [← hs, fk (by omega)]
theorem GU {s : PH} {p : aD} (h : Sl l9 s p.k p.T.keys) (name : BA) : ah 76 #[ep p.T p.c p.x p.k, .string name] s fun y s' => y = .int .i64 (jU p.T name) ∧ s' = s := by
 obtain ⟨T, ⟨ca, can, cac⟩, ⟨xa, xan, xac⟩, ⟨ka, kan, kac⟩⟩ := p;dsimp only at h ⊢;have hres : jU T name = aM (fun x : For => decide (x.name = name)) T.keys 0 := rfl;rw [hres];refine FA T.id T.name ca can cac xa xan xac ka kan kac name _ s ?_;unfold yf;have hlen : kan = _ := h.len;have hfew := h.dF;simp only [aQ];refine ⟨fun z s' => ∃ k : Nat, z = ((T.id, T.name, (ca, can, cac), (xa, xan, xac), (ka, kan, kac), ()), ((k : Int), ()), ()) ∧ k ≤ kan ∧ s' = s ∧ aM (fun x : For => decide (x.name = name)) (T.keys.drop k) k = aM (fun x : For => decide (x.name = name)) T.keys 0, fun z _ => kan - z.2.1.1.toNat, ⟨0, rfl, Nat.zero_le _, rfl, rfl⟩, ?_⟩;rintro _ s ⟨k, rfl, hk, rfl, hs⟩;simp [W.af];refine ⟨fun hlt => ⟨hlt, ?_⟩, fun hge => ?_⟩
 ·obtain ⟨x, hx⟩ : ∃ x, T.keys[k]? = some x := ⟨_, List.getElem?_eq_getElem (by omega)⟩
  obtain ⟨ad, had, hh⟩ := h.el.aG hx;dsimp only at had; subst had;simp only [W.ay];refine bl (j := 1) hh (cs := [.str]) (y := (x.name, ())) rfl ?_;rw [eC hx] at hs;simp [W.af, aj (k := k) (by omega), bO, gD];refine ⟨fun he => ?_, fun he => ⟨⟨k + 1, by simp, hlt, ?_⟩, by omega⟩⟩
  ·rw [← hs, if_pos (by simpa using he)]
  ·rw [← hs, if_neg (by simpa using he)]
 ·rw [← hs, fk (by omega)]
theorem nq {α : Type} {E : cO α} {s : PH} {e : TypeId} {bytes k : Nat} {zero : List Value} {src : Src} {xs : List α} {K : OA → Nat → Nat → W.T} (hs : eP s E.sz src (xs.flatMap E.f)) (hk : src.len = k) (hn : xs.length = k) (hl : k ≤ 4294967296) (hb : k * bytes ≤ 140737488355328) (hz : zero.length = E.sz)
  (hK : ∀ a' c' s', bq E s' e a' k c' xs → Fw.Mod [] s s' → (∀ g ∈ Fw.aW a', s g = none) → K a' k c' s') : W.nw (.cells #[] e (0, 0)) (fun r => W.app e E.sz bytes zero (some ⟨r, 0, none⟩) 0 0 src K) s := by
 refine W.bI fun r s1 hr m1 k1 => ?_;have hmax : maxLen = 9223372036854775807 := rfl
 have hsrc : eP s1 E.sz src (xs.flatMap E.f) := by
  cases src with
  | sl a m => cases a with
   | none => exact hs
   | some a => exact ⟨hs.1, hs.2.mono m1.le⟩
  | str b => exact hs
  | zer z l => exact hs
 have hnil : bq E s1 e (some ⟨r, 0, none⟩) 0 0 ([] : List α) := ⟨by simp, Nat.le_refl _, Nat.zero_le _, .inr ⟨r, _, rfl, k1, by simp, by simp⟩⟩
 refine jk (E := E) (k := k) (ys := xs) hnil hz hsrc hk hn (by omega) (by simpa using hb) ?_;intro a' c' s2 hrow hm;simp only [List.nil_append, Nat.zero_add] at hrow ⊢;rcases hm with ⟨rfl, hm⟩ | ⟨g, rfl, hg, hm⟩
 ·exact hK _ _ _ hrow (m1.fresh hm (by simp [Fw.aW, hr])) (by simp [Fw.aW, hr])
 ·exact hK _ _ _ hrow (m1.trans hm) (by simp [Fw.aW]; exact m1.none hg (by simp))
structure uy (s : PH) (p : aD) : Prop where
 c : bq dw s 165 p.c.1 p.c.2.1 p.c.2.2 p.T.cols
 x : bq jY s 170 p.x.1 p.x.2.1 p.x.2.2 p.T.idxs
 k : bq l9 s 173 p.k.1 p.k.2.1 p.k.2.2 p.T.keys
def aD.L (p : aD) : List Nat := Fw.aW p.c.1 ++ (Fw.aW p.x.1 ++ Fw.aW p.k.1)
theorem uy.known {s : PH} {p : aD} (h : uy s p) : ∀ g ∈ p.L, s g ≠ none := by
 intro g hg;simp only [aD.L, List.mem_append] at hg;rcases hg with hg | hg | hg
 ·exact h.c.known g hg
 ·exact h.x.known g hg
 ·exact h.k.known g hg
theorem uy.mod {s s' : PH} {p : aD} {M : List Nat} (h : uy s p) (hm : Fw.Mod M s s') (hd : ∀ g ∈ p.L, g ∉ M) : uy s' p := by
 simp only [aD.L, List.mem_append] at hd;exact ⟨h.c.mod hm fun g hg => hd g (.inl hg), h.x.mod hm fun g hg => hd g (.inr (.inl hg)), h.k.mod hm fun g hg => hd g (.inr (.inr hg))⟩
theorem Sl.bN {α : Type} {E : cO α} {s : PH} {e : TypeId} {t : aU} {xs : List α} (h : bq E s e t.1 t.2.1 t.2.2 xs) (hf : xs.length ≤ 4294967296) : Sl E s t xs := ⟨elems.bN h, h.le, hf⟩
def az.Kh (T : az) : Prop := T.cols.length ≤ 4294967296 ∧ T.idxs.length ≤ 4294967296 ∧ T.keys.length ≤ 4294967296
theorem uy.is {s : PH} {p : aD} (h : uy s p) (hf : p.T.Kh) : gz s p := ⟨.bN h.c hf.1, .bN h.x hf.2.1, .bN h.k hf.2.2⟩
theorem j5 (a : OA) : (Fw.aW a).Nodup := by cases a <;> simp [Fw.aW]
end
section
attribute [-simp] Fw.W.bD Fw.W.bB
def LZ : cO Int where
 sz := 1
 f n := [.int .i64 n]
 len _ := rfl
 one p v hv := by simp at hv; subst hv; (first | done | rfl)
 pos := by omega
def Mu (n : Int) : Nat := (if n < 0 then u64.wrap (u64.wrap (u64.wrap (i64.wrap (0 - i64.wrap (n + 1))) * 2) + 1) else u64.wrap (u64.wrap n * 2)).toNat
def KK : Nat → Nat → List UInt8
 | 0, z => [UInt8.ofNat z]
 | f + 1, z => if z ≥ 128 then UInt8.ofNat (z % 128 + 128) :: KK f (z / 128) else [UInt8.ofNat z]
def num (n : Int) : BA := ⟨(KK 9 (Mu n)).toArray⟩
end
section
attribute [-simp] Fw.W.bD Fw.W.bB
def Sm (t : BA) : Prop := t.size ≤ 281474976710656
def cm.Sm (c : cm) : Prop := c.name.size ≤ 281474976710656 ∧ c.dflt.s.size ≤ 281474976710656
theorem get_mem {α : Type} {l : List α} {k : Nat} {x : α} (h : l[k]? = some x) : x ∈ l := List.mem_of_getElem? h
structure az.Sm (T : az) : Prop where
 name : T.name.size ≤ 281474976710656
 cols : ∀ c ∈ T.cols, c.Sm
 idxs : ∀ x ∈ T.idxs, x.name.size ≤ 281474976710656
 keys : ∀ x ∈ T.keys, x.name.size ≤ 281474976710656
def az.cost (T : az) : Nat := 1 + T.cols.length + T.idxs.length + T.keys.length
def aK.cost (S : aK) : Nat := (S.tabs.map az.cost).sum
structure aK.Sm (S : aK) : Prop where
 tabs : ∀ T ∈ S.tabs, T.Sm
 cost : S.cost ≤ 1000
end
section
attribute [-simp] Fw.W.bD Fw.W.bB
def upTo (c : Nat → Bool) (k : Nat) : Bool := (List.range k).all c
theorem nS (c : Nat → Bool) : upTo c 0 = true := rfl
theorem eT (c : Nat → Bool) (k : Nat) : upTo c (k + 1) = (upTo c k && c k) := by
 unfold upTo; rw [List.range_succ, List.all_append]; simp
theorem su {c : Nat → Bool} {k n : Nat} (h : c k = false) (hk : k < n) : upTo c n = false := by
 have key : ∀ d, upTo c (k + 1 + d) = false := by
  intro d
  induction d with
  | zero => rw [Nat.add_zero, eT, h, Bool.and_false]
  | succ d ih => rw [← Nat.add_assoc, eT, ih, Bool.false_and]
 have := key (n - (k + 1))
 rwa [show k + 1 + (n - (k + 1)) = n by omega] at this
theorem pX {c : Nat → Bool} {n : Nat} : upTo c n = true ↔ ∀ i, i < n → c i = true := by
 unfold upTo; simp [List.all_eq_true]
def cq {α : Type} (p : Nat → α → Bool) (xs : List α) (i : Nat) : Bool := match xs[i]? with | some x => p i x | none => true
theorem dD {α : Type} {p : Nat → α → Bool} {xs : List α} {i : Nat} {x : α} (h : xs[i]? = some x) : cq p xs i = p i x := by unfold cq; rw [h]
def allI {α : Type} (p : Nat → α → Bool) (xs : List α) : Bool := upTo (cq p xs) xs.length
def dL (n : Int) : Bool := decide (1 ≤ n) && decide (n ≤ 3)
def eO (xs : List cm) (i : Nat) (x : cm) : Bool := named x.name && decide (aM (fun y : cm => decide (y.name = x.name)) xs 0 = i)
def eX (xs : List dx) (i : Nat) (x : dx) : Bool := named x.name && decide (aM (fun y : dx => decide (y.name = x.name)) xs 0 = i)
def eW (xs : List For) (i : Nat) (x : For) : Bool := named x.name && decide (aM (fun y : For => decide (y.name = x.name)) xs 0 = i)
def dP (xs : List az) (i : Nat) (x : az) : Bool := named x.name && decide (aM (fun y : az => decide (y.name = x.name)) xs 0 = i)
def cY {α : Type} (p : List α → Nat → α → Bool) (least most : Int) (xs : List α) : Bool := decide (least ≤ xs.length) && (decide ((xs.length : Int) ≤ most) && allI (p xs) xs)
def bf (last : Int) : List Int → List Int → Bool
 | [], _ => true
 | n :: l, seen => (decide (1 ≤ n) && decide (n ≤ last)) && (!decide (n ∈ seen) && bf last l (n :: seen))
def bH (T : az) : List Int := T.id :: (T.cols.map (·.id) ++ (T.idxs.map (·.id) ++ T.keys.map (·.id)))
def gl (_ : Nat) (c : cm) : Bool := dL c.state && (typed c.kind && fits c.dflt c.kind)
def iA (T : az) (_ : Nat) (x : dx) : Bool := dL x.state && decide (0 ≤ cS T x.column)
def pM (S : aK) (T : az) (x : For) : Bool :=
 match S.tabs[(dK S x.parent).toNat]?, T.cols[(cS T x.column).toNat]? with
 | some P, some c => (match P.cols with | c0 :: _ => decide (c.kind = c0.kind) | [] => false)
 | _, _ => false
def iE (S : aK) (T : az) (_ : Nat) (x : For) : Bool := dL x.state && (decide (0 ≤ cS T x.column) && (decide (0 ≤ dK S x.parent) && pM S T x))
def fC (T : az) : Bool := match T.cols with | c :: _ => decide (c.state = 3) | [] => false
def eH (S : aK) (T : az) : Bool := cY eO 1 8 T.cols && (cY eX 0 8 T.idxs && (cY eW 0 8 T.keys && (fC T && (allI gl T.cols && (allI (iA T) T.idxs && allI (iE S T) T.keys)))))
def jS (S : aK) : Bool := decide (0 ≤ S.version) && (decide (S.version ≤ 1125899906842624) && (decide (0 ≤ S.last) && decide (S.last ≤ 1125899906842624)))
def right (S : aK) : Bool := jS S && (cY dP 0 6 S.tabs && (allI (fun _ T => eH S T) S.tabs && bf S.last (S.tabs.flatMap bH) []))
theorem jF (last : Int) : ∀ (a b seen : List Int), bf last (a ++ b) seen = (bf last a seen && bf last b (a.reverse ++ seen))
 | [], b, seen => by simp [bf]
 | n :: a, b, seen => by
  simp only [List.cons_append, bf, jF last a b, List.reverse_cons, List.append_assoc, List.nil_append, List.cons_append]
  cases decide (1 ≤ n) && decide (n ≤ last) <;> cases !decide (n ∈ seen) <;> simp
def Lr (b : Bool) : Value := .bool b
structure Ck (s : PH) (c m : Nat) (last : Int) (bad : Bool) (seen : List Int) : Prop where
 cell : s c = some (.cells #[.int .i64 last, .map (some m), .bool bad] 222 (0, 0))
 map : ∃ f, iC (zZ .i64) Lr s m f ∧ (bad = false → ∀ n, f.lookup n = if n ∈ seen then some true else none)
theorem Ck.ne {s : PH} {c m : Nat} {last : Int} {bad : Bool} {seen : List Int} (h : Ck s c m last bad seen) : c ≠ m := by
 rintro rfl;obtain ⟨f, ⟨es, k, h1, _⟩, _⟩ := h.map;rw [h.cell] at h1; cases h1
theorem Ck.lay {s : PH} {c m : Nat} {last : Int} {bad bad' : Bool} {seen : List Int} (h : Ck s c m last bad seen) (hb : bad' = false → bad = false) {o : Obj} (ho : o = .cells #[.int .i64 last, .map (some m), .bool bad'] 222 (0, 0) := by rfl) : Ck (s.aS c o) c m last bad' seen := by
 subst ho;obtain ⟨f, hf, hs⟩ := h.map;exact ⟨PH.bE _ _ _, f, hf.other h.ne.symm, fun e => hs (hb e)⟩
def gQ (c m : Nat) (last : Int) (bad : Bool) (seen : List Int) (s : PH) (x : Value) (s' : PH) : Prop := x = .tuple #[] ∧ Ck s' c m last bad seen ∧ Fw.Mod [c, m] s s'
section
variable {s : PH} {c m : Nat} {last : Int} {bad : Bool} {seen : List Int}
theorem KG {n : Int} {bad' : Bool} {K : W.T} (h : Ck s c m last bad seen) (hb : bad' = false → bad = false) (hK : ∀ s', Ck s' c m last bad' (n :: seen) → Fw.Mod [c, m] s s' → K s') :
  W.aa (some (Addr.mk c 0 none)) (fun p => W.st (p.add 2) [.bool bad'] (W.aa (some (Addr.mk c 0 none)) fun p => W.ld [.map] (p.add 1) fun x => W.gV (TypeDesc.int .i64) x.1 (.int .i64 n) (.bool true) K)) s := by
 have hc := h.cell;simp only [W.ay, aV, Nat.zero_add];rw [W.dZ hc];refine ⟨by simp, by simp, by simp [Value.oneCell'], ?_⟩
 show W.aa _ _ (s.aS c (.cells #[.int .i64 last, .map (some m), .bool bad'] 222 (0, 0)))
 have h1 : Ck (s.aS c (.cells #[.int .i64 last, .map (some m), .bool bad'] 222 (0, 0))) c m last bad' seen := h.lay hb;have hc1 := h1.cell;simp [W.aA hc1];obtain ⟨f, hf, hs⟩ := h1.map;refine Cg (ke := zZ .i64) hf (v := true) fun o ho => ?_;refine hK _ ⟨Lk hc1 h1.ne o, _, ho, fun e k => ?_⟩ ((Mod.aS (L := [c, m]) (by simp)).cj (.inl (by simp)));rw [By, hs e]
 by_cases hk : k = n
 ·subst hk; simp
 ·have : (k == n) = false := by simpa using hk
  simp [this, hk]
theorem uD (h : Ck s c m last bad seen) (n : Int) : ah 170 #[cp c, .int .i64 n] s (gQ c m last (bad || !((decide (1 ≤ n) && decide (n ≤ last)) && !decide (n ∈ seen))) (n :: seen) s) := by
 refine JE c n _ s ?_;unfold Cv;have hc := h.cell;simp [W.af, W.aA hc]
 have fin : ∀ b', (b' = false → bad = false) → b' = (bad || !((decide (1 ≤ n) && decide (n ≤ last)) && !decide (n ∈ seen))) → W.aa (some (Addr.mk c 0 none)) (fun p => W.st (p.add 2) [.bool b'] (W.aa (some (Addr.mk c 0 none)) fun p => W.ld [.map] (p.add 1) fun x => W.gV (TypeDesc.int .i64) x.1 (.int .i64 n) (.bool true)
   (W.ret (gQ c m last (bad || !((decide (1 ≤ n) && decide (n ≤ last)) && !decide (n ∈ seen))) (n :: seen) s) (.tuple #[])))) s := by
  intro b' hb he;refine KG h hb fun s' h' m' => ?_;rw [he] at h';exact ⟨rfl, h', m'⟩
 have fin' := fun b' h1 h2 => by have := fin b' h1 h2; simp at this; exact this
 refine ⟨fun hb => fin' true (fun e => by cases e) (by rw [hb]; (first | done | rfl)), fun hb => ⟨fun h1 => fin' true (fun e => by cases e) (by rw [decide_eq_false (p := 1 ≤ n) (by omega)]; simp), fun h1 => ⟨fun h2 => fin' true (fun e => by cases e) (by rw [decide_eq_false (p := n ≤ last) (by omega)]; simp), fun h2 => ?_⟩⟩⟩;obtain ⟨f, hf, hs⟩ := h.map;refine wA (ke := zZ .i64) hf (key := n) ?_;rw [hs hb n]
 by_cases hn : n ∈ seen
 ·rw [if_pos hn];refine ⟨(true, ()), rfl, ?_⟩;simp only [W.ay, aV, Nat.zero_add];exact fin' true (fun e => by cases e) (by simp [hn])
 ·rw [if_neg hn];refine ⟨(false, ()), rfl, ?_⟩;simp only [W.ay, aV, Nat.zero_add];exact fin' false (fun _ => hb) (by simp [hn, hb]; omega)
theorem qx (h : Ck s c m last bad seen) (n : Int) : ah 177 #[cp c, .int .i64 n] s (gQ c m last (bad || !dL n) seen s) := by
 refine Dw c n _ s ?_;unfold vo;have hc := h.cell;simp [W.aA hc, W.af, W.dZ hc]
 have fin : ∀ b', (b' = false → bad = false) → b' = (bad || !dL n) → gQ c m last (bad || !dL n) seen s (.tuple #[]) (s.aS c (.cells #[.int .i64 last, .map (some m), .bool b'] 222 (0, 0))) := by
  intro b' hb he;rw [← he];exact ⟨rfl, h.lay hb, Mod.aS (by simp)⟩
 unfold dL at fin ⊢;refine ⟨fun hb => fin true (fun e => by cases e) (by rw [hb]; (first | done | rfl)), fun hb => ⟨fun h1 => fin true (fun e => by cases e) (by rw [decide_eq_false (p := 1 ≤ n) (by omega)]; simp), fun h1 => fin _ (fun _ => hb) ?_⟩⟩;rw [hb, decide_eq_true (p := 1 ≤ n) (by omega)]
 by_cases h3 : n ≤ 3
 ·rw [decide_eq_true h3, decide_eq_false (by omega)]; (first | done | rfl)
 ·rw [decide_eq_false h3, decide_eq_true (by omega)]; (first | done | rfl)
end
theorem GM {s : PH} {c m : Nat} {last : Int} {bad : Bool} {seen : List Int} (h : Ck s c m last bad seen) {a : OA} {an ac : Nat} {xs : List cm} (hx : elems (Rd.enc dw) s a an xs) (hn : xs.length ≤ 4294967296)
  (hd : ∀ s', Fw.Mod [c, m] s s' → elems (Rd.enc dw) s' a an xs) (least most : Int) : ah 171 #[cp c, .slice a an ac, .int .i64 least, .int .i64 most, .func (.func 172) #[] #[]] s (gQ c m last (bad || !cY eO least most xs) seen s) := by
 refine Fq c a an ac least most _ s ?_;unfold xX;have hc := h.cell;have hlen := hx.1
 have hll : xs.length = xs.length := by simp
 simp only [cE];refine W.bp (fun _ s' => Ck s' c m last (bad || !(decide (least ≤ xs.length) && decide ((xs.length : Int) ≤ most))) seen ∧ Fw.Mod [c, m] s s') ?_ ?_
 ·rintro _ s1 ⟨h1, m1⟩
  obtain ⟨bad1, hb1⟩ : ∃ b, b = (bad || !(decide (least ≤ xs.length) && decide ((xs.length : Int) ≤ most))) := ⟨_, rfl⟩
  rw [← hb1] at h1
  have hgoal : (bad || !cY eO least most xs) = (bad1 || !allI (eO xs) xs) := by
   rw [hb1]; unfold cY
   cases bad <;> cases decide (least ≤ xs.length) <;> cases decide ((xs.length : Int) ≤ most) <;> simp
  rw [hgoal];simp only [aQ];refine ⟨fun z s' => ∃ k : Nat, z = (((a, an, ac), ()), ((an : Int), ()), ((k : Int), ()), ()) ∧ k ≤ an ∧ Ck s' c m last bad1 seen ∧ Fw.Mod [c, m] s s' ∧ (0 < k → bad1 = false) ∧ upTo (cq (eO xs) xs) k = true, fun z _ => an - z.2.2.1.1.toNat, ⟨0, rfl, Nat.zero_le _, h1, m1, by omega, rfl⟩, ?_⟩;rintro _ s2 ⟨k, rfl, hk, h2, m2, hkb, hup⟩;have hc2 := h2.cell
  have hfin : ∀ b', b' = (bad1 || !allI (eO xs) xs) → (b' = false → bad1 = false) → gQ c m last (bad1 || !allI (eO xs) xs) seen s (.tuple #[]) (s2.aS c (.cells #[.int .i64 last, .map (some m), .bool b'] 222 (0, 0))) := by
   intro b' he hb; rw [← he]; exact ⟨rfl, h2.lay hb, m2.cj (.inl (by simp))⟩
  simp [W.af, W.aA hc2, W.dZ hc2];refine ⟨fun hlt => ⟨hlt, ?_⟩, fun hge => ?_⟩
  ·obtain ⟨x, hxk⟩ : ∃ x, xs[k]? = some x := ⟨_, List.getElem?_eq_getElem (by omega)⟩
   have hx2 := hd s2 m2;obtain ⟨ad, rfl, hh⟩ := hx2.aG hxk
   have hpk : xs[k]? = some x := by simp [hxk]
   simp only [W.ay];refine aE hh (y := (x.id, x.name, x.kind, x.state, x.dflt.kind, x.dflt.n, x.dflt.s, ())) rfl ?_;simp [W.af, W.aA hc2, W.dZ hc2];have hno : eO xs k x = false → allI (eO xs) xs = false := fun e => su (k := k) (by rw [dD hpk]; exact e) (by omega);refine ⟨fun hb => ?_, fun hb => ?_⟩
   ·exact hfin true (by rw [hb]; (first | done | rfl)) (fun e => by cases e)
   ·refine W.aq (qy x s2) ?_;rintro _ s2' ⟨rfl, rfl⟩;refine ⟨((x.name, ()), ()), rfl, ?_⟩;refine W.aq (rS x.name _) ?_;rintro _ s2' ⟨rfl, rfl⟩;refine ⟨((named x.name, ()), ()), rfl, ?_⟩;simp [W.af, W.aA hc2, W.dZ hc2];refine ⟨fun h3 => hfin true (by rw [hno (by unfold eO; rw [h3]; (first | done | rfl))]; simp) (fun e => by cases e), fun h3 => ?_⟩;refine W.aq (qy x _) ?_;rintro _ s2' ⟨rfl, rfl⟩;refine ⟨((x.name, ()), ()), rfl, ?_⟩;refine W.aq (Ja hx2 hn x.name) ?_;rintro _ s2' ⟨rfl, rfl⟩;refine ⟨((aM (fun y : cm => decide (y.name = x.name)) xs 0, ()), ()), rfl, ?_⟩
    have hseek : aM (fun y : cm => decide (y.name = x.name)) xs 0 = aM (fun y : cm => decide (y.name = x.name)) xs 0 := by rfl
    simp [W.af, W.aA hc2, W.dZ hc2, aj (k := k) (by omega)];refine ⟨fun h4 => ?_, fun h4 => ?_⟩
    ·have e4 : (aM (fun y : cm => decide (y.name = x.name)) xs 0 != (k : Int)) = true := by simpa using h4
     rw [e4];exact hfin true (by rw [hno (by unfold eO; rw [h3, hseek]; simpa using h4)]; simp) (fun e => by cases e)
    ·have e4 : (aM (fun y : cm => decide (y.name = x.name)) xs 0 != (k : Int)) = false := by simpa using h4
     rw [e4]
     have hyes : eO xs k x = true := by unfold eO; rw [h3, hseek]; simpa using h4
     refine ⟨⟨k + 1, by simp, hlt, ?_, m2.cj (.inl (by simp)), fun _ => hb, by rw [eT, hup, dD hpk, hyes]; (first | done | rfl)⟩, by omega⟩;rw [hb]; exact h2.lay (fun _ => hb)
  ·have hke : k = xs.length := by omega
   have hall : allI (eO xs) xs = true := by unfold allI; rw [← hke]; exact hup
   rw [hall];refine ⟨rfl, ?_, m2⟩;simpa using h2
 ·intro J hJ;simp [W.aA hc, W.af, W.dZ hc]
  have fin : ∀ b', (b' = false → bad = false) → b' = (bad || !(decide (least ≤ xs.length) && decide ((xs.length : Int) ≤ most))) → J () (s.aS c (.cells #[.int .i64 last, .map (some m), .bool b'] 222 (0, 0))) := by
   intro b' hb he;refine hJ _ _ ⟨?_, Mod.aS (by simp)⟩;rw [← he]; exact h.lay hb
  refine ⟨fun hb => fin true (fun e => by cases e) (by rw [hb]; (first | done | rfl)), fun hb => ⟨fun h1 => fin true (fun e => by cases e) (by rw [decide_eq_false (p := least ≤ xs.length) (by omega)]; simp), fun h1 => fin _ (fun _ => hb) ?_⟩⟩;rw [hb, decide_eq_true (p := least ≤ xs.length) (by omega)]
  by_cases h3 : (xs.length : Int) ≤ most
  ·rw [decide_eq_true h3, decide_eq_false (by omega)]; (first | done | rfl)
  ·rw [decide_eq_false h3, decide_eq_true (by omega)]; (first | done | rfl)
theorem GP {s : PH} {c m : Nat} {last : Int} {bad : Bool} {seen : List Int} (h : Ck s c m last bad seen) {a : OA} {an ac : Nat} {xs : List dx} (hx : elems (Rd.enc jY) s a an xs) (hn : xs.length ≤ 4294967296)
  (hd : ∀ s', Fw.Mod [c, m] s s' → elems (Rd.enc jY) s' a an xs) (least most : Int) : ah 173 #[cp c, .slice a an ac, .int .i64 least, .int .i64 most, .func (.func 174) #[] #[]] s (gQ c m last (bad || !cY eX least most xs) seen s) := by
 refine Fu c a an ac least most _ s ?_;unfold ya;have hc := h.cell;have hlen := hx.1
 have hll : xs.length = xs.length := by simp
 simp only [cE];refine W.bp (fun _ s' => Ck s' c m last (bad || !(decide (least ≤ xs.length) && decide ((xs.length : Int) ≤ most))) seen ∧ Fw.Mod [c, m] s s') ?_ ?_
 ·rintro _ s1 ⟨h1, m1⟩
  obtain ⟨bad1, hb1⟩ : ∃ b, b = (bad || !(decide (least ≤ xs.length) && decide ((xs.length : Int) ≤ most))) := ⟨_, rfl⟩
  rw [← hb1] at h1
  have hgoal : (bad || !cY eX least most xs) = (bad1 || !allI (eX xs) xs) := by
   rw [hb1]; unfold cY
   cases bad <;> cases decide (least ≤ xs.length) <;> cases decide ((xs.length : Int) ≤ most) <;> simp
  rw [hgoal];simp only [aQ];refine ⟨fun z s' => ∃ k : Nat, z = (((a, an, ac), ()), ((an : Int), ()), ((k : Int), ()), ()) ∧ k ≤ an ∧ Ck s' c m last bad1 seen ∧ Fw.Mod [c, m] s s' ∧ (0 < k → bad1 = false) ∧ upTo (cq (eX xs) xs) k = true, fun z _ => an - z.2.2.1.1.toNat, ⟨0, rfl, Nat.zero_le _, h1, m1, by omega, rfl⟩, ?_⟩;rintro _ s2 ⟨k, rfl, hk, h2, m2, hkb, hup⟩;have hc2 := h2.cell
  have hfin : ∀ b', b' = (bad1 || !allI (eX xs) xs) → (b' = false → bad1 = false) → gQ c m last (bad1 || !allI (eX xs) xs) seen s (.tuple #[]) (s2.aS c (.cells #[.int .i64 last, .map (some m), .bool b'] 222 (0, 0))) := by
   intro b' he hb; rw [← he]; exact ⟨rfl, h2.lay hb, m2.cj (.inl (by simp))⟩
  simp [W.af, W.aA hc2, W.dZ hc2];refine ⟨fun hlt => ⟨hlt, ?_⟩, fun hge => ?_⟩
  ·obtain ⟨x, hxk⟩ : ∃ x, xs[k]? = some x := ⟨_, List.getElem?_eq_getElem (by omega)⟩
   have hx2 := hd s2 m2;obtain ⟨ad, rfl, hh⟩ := hx2.aG hxk
   have hpk : xs[k]? = some x := by simp [hxk]
   simp only [W.ay];refine aE hh (y := (x.id, x.name, x.column, x.unique, x.state, ())) rfl ?_;simp [W.af, W.aA hc2, W.dZ hc2];have hno : eX xs k x = false → allI (eX xs) xs = false := fun e => su (k := k) (by rw [dD hpk]; exact e) (by omega);refine ⟨fun hb => ?_, fun hb => ?_⟩
   ·exact hfin true (by rw [hb]; (first | done | rfl)) (fun e => by cases e)
   ·refine W.aq (tj x s2) ?_;rintro _ s2' ⟨rfl, rfl⟩;refine ⟨((x.name, ()), ()), rfl, ?_⟩;refine W.aq (rS x.name _) ?_;rintro _ s2' ⟨rfl, rfl⟩;refine ⟨((named x.name, ()), ()), rfl, ?_⟩;simp [W.af, W.aA hc2, W.dZ hc2];refine ⟨fun h3 => hfin true (by rw [hno (by unfold eX; rw [h3]; (first | done | rfl))]; simp) (fun e => by cases e), fun h3 => ?_⟩;refine W.aq (tj x _) ?_;rintro _ s2' ⟨rfl, rfl⟩;refine ⟨((x.name, ()), ()), rfl, ?_⟩;refine W.aq (Jd hx2 hn x.name) ?_;rintro _ s2' ⟨rfl, rfl⟩;refine ⟨((aM (fun y : dx => decide (y.name = x.name)) xs 0, ()), ()), rfl, ?_⟩
    have hseek : aM (fun y : dx => decide (y.name = x.name)) xs 0 = aM (fun y : dx => decide (y.name = x.name)) xs 0 := by rfl
    simp [W.af, W.aA hc2, W.dZ hc2, aj (k := k) (by omega)];refine ⟨fun h4 => ?_, fun h4 => ?_⟩
    ·have e4 : (aM (fun y : dx => decide (y.name = x.name)) xs 0 != (k : Int)) = true := by simpa using h4
     rw [e4];exact hfin true (by rw [hno (by unfold eX; rw [h3, hseek]; simpa using h4)]; simp) (fun e => by cases e)
    ·have e4 : (aM (fun y : dx => decide (y.name = x.name)) xs 0 != (k : Int)) = false := by simpa using h4
     rw [e4]
     have hyes : eX xs k x = true := by unfold eX; rw [h3, hseek]; simpa using h4
     refine ⟨⟨k + 1, by simp, hlt, ?_, m2.cj (.inl (by simp)), fun _ => hb, by rw [eT, hup, dD hpk, hyes]; (first | done | rfl)⟩, by omega⟩;rw [hb]; exact h2.lay (fun _ => hb)
  ·have hke : k = xs.length := by omega
   have hall : allI (eX xs) xs = true := by unfold allI; rw [← hke]; exact hup
   rw [hall];refine ⟨rfl, ?_, m2⟩;simpa using h2
 ·intro J hJ;simp [W.aA hc, W.af, W.dZ hc]
  have fin : ∀ b', (b' = false → bad = false) → b' = (bad || !(decide (least ≤ xs.length) && decide ((xs.length : Int) ≤ most))) → J () (s.aS c (.cells #[.int .i64 last, .map (some m), .bool b'] 222 (0, 0))) := by
   intro b' hb he;refine hJ _ _ ⟨?_, Mod.aS (by simp)⟩;rw [← he]; exact h.lay hb
  refine ⟨fun hb => fin true (fun e => by cases e) (by rw [hb]; (first | done | rfl)), fun hb => ⟨fun h1 => fin true (fun e => by cases e) (by rw [decide_eq_false (p := least ≤ xs.length) (by omega)]; simp), fun h1 => fin _ (fun _ => hb) ?_⟩⟩;rw [hb, decide_eq_true (p := least ≤ xs.length) (by omega)]
  by_cases h3 : (xs.length : Int) ≤ most
  ·rw [decide_eq_true h3, decide_eq_false (by omega)]; (first | done | rfl)
  ·rw [decide_eq_false h3, decide_eq_true (by omega)]; (first | done | rfl)
theorem GN {s : PH} {c m : Nat} {last : Int} {bad : Bool} {seen : List Int} (h : Ck s c m last bad seen) {a : OA} {an ac : Nat} {xs : List For} (hx : elems (Rd.enc l9) s a an xs) (hn : xs.length ≤ 4294967296)
  (hd : ∀ s', Fw.Mod [c, m] s s' → elems (Rd.enc l9) s' a an xs) (least most : Int) : ah 175 #[cp c, .slice a an ac, .int .i64 least, .int .i64 most, .func (.func 176) #[] #[]] s (gQ c m last (bad || !cY eW least most xs) seen s) := by
 refine Fs c a an ac least most _ s ?_;unfold xY;have hc := h.cell;have hlen := hx.1
 have hll : xs.length = xs.length := by simp
 simp only [cE];refine W.bp (fun _ s' => Ck s' c m last (bad || !(decide (least ≤ xs.length) && decide ((xs.length : Int) ≤ most))) seen ∧ Fw.Mod [c, m] s s') ?_ ?_
 ·rintro _ s1 ⟨h1, m1⟩
  obtain ⟨bad1, hb1⟩ : ∃ b, b = (bad || !(decide (least ≤ xs.length) && decide ((xs.length : Int) ≤ most))) := ⟨_, rfl⟩
  rw [← hb1] at h1
  have hgoal : (bad || !cY eW least most xs) = (bad1 || !allI (eW xs) xs) := by
   rw [hb1]; unfold cY
   cases bad <;> cases decide (least ≤ xs.length) <;> cases decide ((xs.length : Int) ≤ most) <;> simp
  rw [hgoal];simp only [aQ];refine ⟨fun z s' => ∃ k : Nat, z = (((a, an, ac), ()), ((an : Int), ()), ((k : Int), ()), ()) ∧ k ≤ an ∧ Ck s' c m last bad1 seen ∧ Fw.Mod [c, m] s s' ∧ (0 < k → bad1 = false) ∧ upTo (cq (eW xs) xs) k = true, fun z _ => an - z.2.2.1.1.toNat, ⟨0, rfl, Nat.zero_le _, h1, m1, by omega, rfl⟩, ?_⟩;rintro _ s2 ⟨k, rfl, hk, h2, m2, hkb, hup⟩;have hc2 := h2.cell
  have hfin : ∀ b', b' = (bad1 || !allI (eW xs) xs) → (b' = false → bad1 = false) → gQ c m last (bad1 || !allI (eW xs) xs) seen s (.tuple #[]) (s2.aS c (.cells #[.int .i64 last, .map (some m), .bool b'] 222 (0, 0))) := by
   intro b' he hb; rw [← he]; exact ⟨rfl, h2.lay hb, m2.cj (.inl (by simp))⟩
  simp [W.af, W.aA hc2, W.dZ hc2];refine ⟨fun hlt => ⟨hlt, ?_⟩, fun hge => ?_⟩
  ·obtain ⟨x, hxk⟩ : ∃ x, xs[k]? = some x := ⟨_, List.getElem?_eq_getElem (by omega)⟩
   have hx2 := hd s2 m2;obtain ⟨ad, rfl, hh⟩ := hx2.aG hxk
   have hpk : xs[k]? = some x := by simp [hxk]
   simp only [W.ay];refine aE hh (y := (x.id, x.name, x.column, x.parent, x.state, ())) rfl ?_;simp [W.af, W.aA hc2, W.dZ hc2];have hno : eW xs k x = false → allI (eW xs) xs = false := fun e => su (k := k) (by rw [dD hpk]; exact e) (by omega);refine ⟨fun hb => ?_, fun hb => ?_⟩
   ·exact hfin true (by rw [hb]; (first | done | rfl)) (fun e => by cases e)
   ·refine W.aq (oX x s2) ?_;rintro _ s2' ⟨rfl, rfl⟩;refine ⟨((x.name, ()), ()), rfl, ?_⟩;refine W.aq (rS x.name _) ?_;rintro _ s2' ⟨rfl, rfl⟩;refine ⟨((named x.name, ()), ()), rfl, ?_⟩;simp [W.af, W.aA hc2, W.dZ hc2];refine ⟨fun h3 => hfin true (by rw [hno (by unfold eW; rw [h3]; (first | done | rfl))]; simp) (fun e => by cases e), fun h3 => ?_⟩;refine W.aq (oX x _) ?_;rintro _ s2' ⟨rfl, rfl⟩;refine ⟨((x.name, ()), ()), rfl, ?_⟩;refine W.aq (Jb hx2 hn x.name) ?_;rintro _ s2' ⟨rfl, rfl⟩;refine ⟨((aM (fun y : For => decide (y.name = x.name)) xs 0, ()), ()), rfl, ?_⟩
    have hseek : aM (fun y : For => decide (y.name = x.name)) xs 0 = aM (fun y : For => decide (y.name = x.name)) xs 0 := by rfl
    simp [W.af, W.aA hc2, W.dZ hc2, aj (k := k) (by omega)];refine ⟨fun h4 => ?_, fun h4 => ?_⟩
    ·have e4 : (aM (fun y : For => decide (y.name = x.name)) xs 0 != (k : Int)) = true := by simpa using h4
     rw [e4];exact hfin true (by rw [hno (by unfold eW; rw [h3, hseek]; simpa using h4)]; simp) (fun e => by cases e)
    ·have e4 : (aM (fun y : For => decide (y.name = x.name)) xs 0 != (k : Int)) = false := by simpa using h4
     rw [e4]
     have hyes : eW xs k x = true := by unfold eW; rw [h3, hseek]; simpa using h4
     refine ⟨⟨k + 1, by simp, hlt, ?_, m2.cj (.inl (by simp)), fun _ => hb, by rw [eT, hup, dD hpk, hyes]; (first | done | rfl)⟩, by omega⟩;rw [hb]; exact h2.lay (fun _ => hb)
  ·have hke : k = xs.length := by omega
   have hall : allI (eW xs) xs = true := by unfold allI; rw [← hke]; exact hup
   rw [hall];refine ⟨rfl, ?_, m2⟩;simpa using h2
 ·intro J hJ;simp [W.aA hc, W.af, W.dZ hc]
  have fin : ∀ b', (b' = false → bad = false) → b' = (bad || !(decide (least ≤ xs.length) && decide ((xs.length : Int) ≤ most))) → J () (s.aS c (.cells #[.int .i64 last, .map (some m), .bool b'] 222 (0, 0))) := by
   intro b' hb he;refine hJ _ _ ⟨?_, Mod.aS (by simp)⟩;rw [← he]; exact h.lay hb
  refine ⟨fun hb => fin true (fun e => by cases e) (by rw [hb]; (first | done | rfl)), fun hb => ⟨fun h1 => fin true (fun e => by cases e) (by rw [decide_eq_false (p := least ≤ xs.length) (by omega)]; simp), fun h1 => fin _ (fun _ => hb) ?_⟩⟩;rw [hb, decide_eq_true (p := least ≤ xs.length) (by omega)]
  by_cases h3 : (xs.length : Int) ≤ most
  ·rw [decide_eq_true h3, decide_eq_false (by omega)]; (first | done | rfl)
  ·rw [decide_eq_false h3, decide_eq_true (by omega)]; (first | done | rfl)
theorem GO {s : PH} {c m : Nat} {last : Int} {bad : Bool} {seen : List Int} (h : Ck s c m last bad seen) {a : OA} {an ac : Nat} {xs : List aD} (hx : elems (Rd.enc ja) s a an xs) (hn : xs.length ≤ 4294967296)
  (hd : ∀ s', Fw.Mod [c, m] s s' → elems (Rd.enc ja) s' a an xs) (least most : Int) : ah 117 #[cp c, .slice a an ac, .int .i64 least, .int .i64 most, .func (.func 118) #[] #[]] s (gQ c m last (bad || !cY dP least most (xs.map (·.T))) seen s) := by
 refine Ft c a an ac least most _ s ?_;unfold xZ;have hc := h.cell;have hlen := hx.1
 have hll : (xs.map (·.T)).length = xs.length := by simp
 simp only [cE];refine W.bp (fun _ s' => Ck s' c m last (bad || !(decide (least ≤ (xs.map (·.T)).length) && decide (((xs.map (·.T)).length : Int) ≤ most))) seen ∧ Fw.Mod [c, m] s s') ?_ ?_
 ·rintro _ s1 ⟨h1, m1⟩
  obtain ⟨bad1, hb1⟩ : ∃ b, b = (bad || !(decide (least ≤ (xs.map (·.T)).length) && decide (((xs.map (·.T)).length : Int) ≤ most))) := ⟨_, rfl⟩
  rw [← hb1] at h1
  have hgoal : (bad || !cY dP least most (xs.map (·.T))) = (bad1 || !allI (dP (xs.map (·.T))) (xs.map (·.T))) := by
   rw [hb1]; unfold cY
   cases bad <;> cases decide (least ≤ (xs.map (·.T)).length) <;> cases decide (((xs.map (·.T)).length : Int) ≤ most) <;> simp
  rw [hgoal];simp only [aQ];refine ⟨fun z s' => ∃ k : Nat, z = (((a, an, ac), ()), ((an : Int), ()), ((k : Int), ()), ()) ∧ k ≤ an ∧ Ck s' c m last bad1 seen ∧ Fw.Mod [c, m] s s' ∧ (0 < k → bad1 = false) ∧ upTo (cq (dP (xs.map (·.T))) (xs.map (·.T))) k = true, fun z _ => an - z.2.2.1.1.toNat, ⟨0, rfl, Nat.zero_le _, h1, m1, by omega, rfl⟩, ?_⟩;rintro _ s2 ⟨k, rfl, hk, h2, m2, hkb, hup⟩;have hc2 := h2.cell
  have hfin : ∀ b', b' = (bad1 || !allI (dP (xs.map (·.T))) (xs.map (·.T))) → (b' = false → bad1 = false) → gQ c m last (bad1 || !allI (dP (xs.map (·.T))) (xs.map (·.T))) seen s (.tuple #[]) (s2.aS c (.cells #[.int .i64 last, .map (some m), .bool b'] 222 (0, 0))) := by
   intro b' he hb; rw [← he]; exact ⟨rfl, h2.lay hb, m2.cj (.inl (by simp))⟩
  simp [W.af, W.aA hc2, W.dZ hc2];refine ⟨fun hlt => ⟨hlt, ?_⟩, fun hge => ?_⟩
  ·obtain ⟨x, hxk⟩ : ∃ x, xs[k]? = some x := ⟨_, List.getElem?_eq_getElem (by omega)⟩
   have hx2 := hd s2 m2;obtain ⟨ad, rfl, hh⟩ := hx2.aG hxk
   have hpk : (xs.map (·.T))[k]? = some x.T := by simp [hxk]
   simp only [W.ay];refine aE hh (y := (x.T.id, x.T.name, x.c, x.x, x.k, ())) rfl ?_;simp [W.af, W.aA hc2, W.dZ hc2];have hno : dP (xs.map (·.T)) k x.T = false → allI (dP (xs.map (·.T))) (xs.map (·.T)) = false := fun e => su (k := k) (by rw [dD hpk]; exact e) (by omega);refine ⟨fun hb => ?_, fun hb => ?_⟩
   ·exact hfin true (by rw [hb]; (first | done | rfl)) (fun e => by cases e)
   ·refine W.aq (tq x s2) ?_;rintro _ s2' ⟨rfl, rfl⟩;refine ⟨((x.T.name, ()), ()), rfl, ?_⟩;refine W.aq (rS x.T.name _) ?_;rintro _ s2' ⟨rfl, rfl⟩;refine ⟨((named x.T.name, ()), ()), rfl, ?_⟩;simp [W.af, W.aA hc2, W.dZ hc2];refine ⟨fun h3 => hfin true (by rw [hno (by unfold dP; rw [h3]; (first | done | rfl))]; simp) (fun e => by cases e), fun h3 => ?_⟩;refine W.aq (tq x _) ?_;rintro _ s2' ⟨rfl, rfl⟩;refine ⟨((x.T.name, ()), ()), rfl, ?_⟩;refine W.aq (Jc hx2 hn x.T.name) ?_;rintro _ s2' ⟨rfl, rfl⟩;refine ⟨((aM (fun y : aD => decide (y.T.name = x.T.name)) xs 0, ()), ()), rfl, ?_⟩
    have hseek : aM (fun y : az => decide (y.name = x.T.name)) (xs.map (·.T)) 0 = aM (fun y : aD => decide (y.T.name = x.T.name)) xs 0 := by rw [nr]
    simp [W.af, W.aA hc2, W.dZ hc2, aj (k := k) (by omega)];refine ⟨fun h4 => ?_, fun h4 => ?_⟩
    ·have e4 : (aM (fun y : aD => decide (y.T.name = x.T.name)) xs 0 != (k : Int)) = true := by simpa using h4
     rw [e4];exact hfin true (by rw [hno (by unfold dP; rw [h3, hseek]; simpa using h4)]; simp) (fun e => by cases e)
    ·have e4 : (aM (fun y : aD => decide (y.T.name = x.T.name)) xs 0 != (k : Int)) = false := by simpa using h4
     rw [e4]
     have hyes : dP (xs.map (·.T)) k x.T = true := by unfold dP; rw [h3, hseek]; simpa using h4
     refine ⟨⟨k + 1, by simp, hlt, ?_, m2.cj (.inl (by simp)), fun _ => hb, by rw [eT, hup, dD hpk, hyes]; (first | done | rfl)⟩, by omega⟩;rw [hb]; exact h2.lay (fun _ => hb)
  ·have hke : k = (xs.map (·.T)).length := by omega
   have hall : allI (dP (xs.map (·.T))) (xs.map (·.T)) = true := by unfold allI; rw [← hke]; exact hup
   rw [hall];refine ⟨rfl, ?_, m2⟩;simpa using h2
 ·intro J hJ;simp [W.aA hc, W.af, W.dZ hc]
  have fin : ∀ b', (b' = false → bad = false) → b' = (bad || !(decide (least ≤ (xs.map (·.T)).length) && decide (((xs.map (·.T)).length : Int) ≤ most))) → J () (s.aS c (.cells #[.int .i64 last, .map (some m), .bool b'] 222 (0, 0))) := by
   intro b' hb he;refine hJ _ _ ⟨?_, Mod.aS (by simp)⟩;rw [← he]; exact h.lay hb
  refine ⟨fun hb => fin true (fun e => by cases e) (by rw [hb]; (first | done | rfl)), fun hb => ⟨fun h1 => fin true (fun e => by cases e) (by rw [decide_eq_false (p := least ≤ (xs.map (·.T)).length) (by omega)]; simp), fun h1 => fin _ (fun _ => hb) ?_⟩⟩;rw [hb, decide_eq_true (p := least ≤ (xs.map (·.T)).length) (by omega)]
  by_cases h3 : ((xs.map (·.T)).length : Int) ≤ most
  ·rw [decide_eq_true h3, decide_eq_false (by omega)]; (first | done | rfl)
  ·rw [decide_eq_false h3, decide_eq_true (by omega)]; (first | done | rfl)
end
section
attribute [-simp] Fw.W.bD Fw.W.bB
theorem lO (last : Int) (l : List Int) (n : Int) (seen : List Int) : bf last (l ++ [n]) seen = (bf last l seen && ((decide (1 ≤ n) && decide (n ≤ last)) && !decide (n ∈ l.reverse ++ seen))) := by
 rw [jF]; simp [bf]
theorem Ck.any {s : PH} {c m : Nat} {last : Int} {seen seen' : List Int} (h : Ck s c m last true seen) : Ck s c m last true seen' := by
 obtain ⟨f, hf, _⟩ := h.map;exact ⟨h.cell, f, hf, fun e => by cases e⟩
theorem jX {α : Type} (f : α → Int) {l : List α} {k : Nat} {x : α} (h : l[k]? = some x) : (l.take (k + 1)).map f = (l.take k).map f ++ [f x] := by
 rw [List.take_add_one, h]; simp
theorem q6 {P1 U R A St Rest : Bool} : ((!(P1 && (U && R)) || !A) || !St || !Rest) = !(P1 && ((U && (St && Rest)) && (R && A))) := by
 cases P1 <;> cases U <;> cases R <;> cases A <;> cases St <;> cases Rest <;> rfl
theorem uJ {s : PH} {c m : Nat} {last : Int} {bad : Bool} {seen : List Int} (h : Ck s c m last bad seen) {K : Den [.bool] → W.T} (hK : K (bad, ()) s) : W.aa (some (Addr.mk c 0 none)) (fun p => W.ld [.bool] (p.add 2) K) s := by
 simp only [W.ay, aV, Nat.zero_add];rw [W.aA h.cell];exact ⟨(bad, ()), by simp, hK⟩
theorem kE {s : PH} {c m : Nat} {last : Int} {bad b' : Bool} {seen : List Int} (h : Ck s c m last bad seen) {K : W.T} (hK : K (s.aS c (.cells #[.int .i64 last, .map (some m), .bool b'] 222 (0, 0)))) : W.aa (some (Addr.mk c 0 none)) (fun p => W.st (p.add 2) [.bool b'] K) s := by
 simp only [W.ay, aV, Nat.zero_add];rw [W.dZ h.cell];exact ⟨by simp, by simp, by simp [Value.oneCell'], hK⟩
section
variable {s0 s : PH} {c m : Nat} {last : Int} {bad : Bool} {seen : List Int} {t : aU} {S : aK} {ps : List aD} {p : aD}
theorem Ex (h : Ck s c m last bad seen) (hS : dO s0 t S ps) (hp : p ∈ ps) (m0 : Fw.Mod [] s0 s) (hc0 : s0 c = none) (hm0 : s0 m = none) :
  ah 119 #[cp c, fj S t, ep p.T p.c p.x p.k] s (gQ c m last (bad || !(eH S p.T && bf last (bH p.T) seen)) ((bH p.T).reverse ++ seen) s) := by
 have hP0 := hS.all p hp;have keep : ∀ {s'}, Fw.Mod [c, m] s s' → Fw.Mod [] s0 s' := fun mm => m0.fresh mm (by simp [hc0, hm0]);obtain ⟨T, ⟨ca, can, cac⟩, ⟨xa, xan, xac⟩, ⟨ka, kan, kac⟩⟩ := p;obtain ⟨ta, tn, tc⟩ := t;dsimp only at hP0 ⊢;have hcan : can = T.cols.length := hP0.c.len;have hxan : xan = T.idxs.length := hP0.x.len;have hkan : kan = T.keys.length := hP0.k.len;have hcf := hP0.c.dF;have hxf := hP0.x.dF;have hkf := hP0.k.dF;dsimp only at hcf hxf hkf
 obtain ⟨res, hres⟩ : ∃ b, (bad || !(eH S T && bf last (bH T) seen)) = b := ⟨_, rfl⟩
 obtain ⟨sn, hsn⟩ : ∃ l, (bH T).reverse ++ seen = l := ⟨_, rfl⟩
 rw [hres, hsn];refine Dx c S.version S.last ta tn tc T.id T.name ca can cac xa xan xac ka kan kac _ s ?_;unfold vp;simp only [aY];refine W.aq (uD h T.id) ?_;rintro _ s1 ⟨rfl, h1, m1⟩;refine ⟨(), rfl, ?_⟩;refine W.aq (GM h1 (hP0.c.el.mono (keep m1).le) hcf (fun s' hm => hP0.c.el.mono (keep (m1.trans hm)).le) 1 8) ?_;rintro _ s2 ⟨rfl, h2, m2'⟩;have m2 := m1.trans m2';refine ⟨(), rfl, ?_⟩;refine W.aq (GP h2 (hP0.x.el.mono (keep m2).le) hxf (fun s' hm => hP0.x.el.mono (keep (m2.trans hm)).le) 0 8) ?_;rintro _ s3 ⟨rfl, h3, m3'⟩;have m3 := m2.trans m3';refine ⟨(), rfl, ?_⟩;refine W.aq (GN h3 (hP0.k.el.mono (keep m3).le) hkf (fun s' hm => hP0.k.el.mono (keep (m3.trans hm)).le) 0 8) ?_;rintro _ s4 ⟨rfl, h4, m4'⟩;have m4 := m3.trans m4';refine ⟨(), rfl, ?_⟩;have hids : bH T = T.id :: (T.cols.map (·.id) ++ (T.idxs.map (·.id) ++ T.keys.map (·.id))) := rfl
 have hrun : bf last (bH T) seen = ((decide (1 ≤ T.id) && decide (T.id ≤ last)) && (!decide (T.id ∈ seen) && (bf last (T.cols.map (·.id)) (T.id :: seen) &&
   (bf last (T.idxs.map (·.id)) ((T.cols.map (·.id)).reverse ++ (T.id :: seen)) && bf last (T.keys.map (·.id)) ((T.idxs.map (·.id)).reverse ++ ((T.cols.map (·.id)).reverse ++ (T.id :: seen))))))) := by
  rw [hids]; simp only [bf, jF]
 have hseen : (T.keys.map (·.id)).reverse ++ ((T.idxs.map (·.id)).reverse ++ ((T.cols.map (·.id)).reverse ++ (T.id :: seen))) = sn := by
  rw [← hsn, hids]; simp
 obtain ⟨A, hA⟩ : ∃ A, ((decide (1 ≤ T.id) && decide (T.id ≤ last)) && !decide (T.id ∈ seen)) = A := ⟨_, rfl⟩
 rw [← Bool.and_assoc, hA] at hrun;rw [hA] at h4
 obtain ⟨N1, hN1⟩ : ∃ N, cY eO 1 8 T.cols = N := ⟨_, rfl⟩
 obtain ⟨N2, hN2⟩ : ∃ N, cY eX 0 8 T.idxs = N := ⟨_, rfl⟩
 obtain ⟨N3, hN3⟩ : ∃ N, cY eW 0 8 T.keys = N := ⟨_, rfl⟩
 rw [hN1, hN2, hN3] at h4
 obtain ⟨b4, hb4⟩ : ∃ b, ((((bad || !A) || !N1) || !N2) || !N3) = b := ⟨_, rfl⟩
 rw [hb4] at h4;have hc4 := h4.cell
 have hres2 : res = (bad || !((N1 && (N2 && (N3 && (fC T && (allI gl T.cols && (allI (iA T) T.idxs && allI (iE S T) T.keys)))))) && bf last (bH T) seen)) := by rw [← hres]; unfold eH; rw [hN1, hN2, hN3]
 simp [W.aA hc4, W.af];refine ⟨fun hbad => ?_, fun hbad => ?_⟩
 ·subst hbad
  have e1 : res = true := by
   rw [hres2, hrun]
   revert hb4
   cases bad <;> cases A <;> cases N1 <;> cases N2 <;> cases N3 <;> simp
  rw [e1];exact ⟨rfl, h4.any, m4⟩
 ·subst hbad
  have hall : bad = false ∧ A = true ∧ N1 = true ∧ N2 = true ∧ N3 = true := by
   revert hb4
   cases bad <;> cases A <;> cases N1 <;> cases N2 <;> cases N3 <;> simp
  obtain ⟨rfl, rfl, rfl, rfl, rfl⟩ := hall
  have hcl : 1 ≤ T.cols.length := by
   unfold cY at hN1;simp only [Bool.and_eq_true, decide_eq_true_eq] at hN1;omega
  obtain ⟨c0, cs, hcs⟩ : ∃ c0 cs, T.cols = c0 :: cs := by
   cases hc : T.cols with
   | nil => rw [hc] at hcl; simp at hcl
   | cons a b => exact ⟨a, b, rfl⟩
  have hf3 : fC T = decide (c0.state = 3) := by unfold fC; rw [hcs]
  obtain ⟨ad, had, hh⟩ := (hP0.c.mono (keep m4).le).el.aG (i := 0) (x := c0) (by rw [hcs]; (first | done | rfl));dsimp only at had; subst had;rw [Nat.zero_mul, add_zero] at hh;refine ⟨by omega, ?_⟩;simp only [W.ay];refine bl (j := 3) hh (cs := [.int .i64]) (y := (c0.state, ())) rfl ?_;refine kE h4 ?_;have h5 : Ck (s4.aS c (.cells #[.int .i64 last, .map (some m), .bool (c0.state != 3)] 222 (0, 0))) c m last (c0.state != 3) (T.id :: seen) := h4.lay (fun _ => rfl);have m5 : Fw.Mod [c, m] s (s4.aS c (.cells #[.int .i64 last, .map (some m), .bool (c0.state != 3)] 222 (0, 0))) := m4.cj (.inl (by simp))
  generalize s4.aS c (.cells #[.int .i64 last, .map (some m), .bool (c0.state != 3)] 222 (0, 0)) = s5 at h5 m5 ⊢
  have hb5 : (c0.state != 3) = !(fC T && (upTo (cq gl T.cols) 0 && bf last ((T.cols.take 0).map (·.id)) (T.id :: seen))) := by
   rw [hf3]
   by_cases h : c0.state = 3 <;> simp [h, nS, bf]
  rw [hb5] at h5
  have hgoal : res = !(((fC T && (allI gl T.cols && bf last (T.cols.map (·.id)) (T.id :: seen))) && (allI (iA T) T.idxs && bf last (T.idxs.map (·.id)) ((T.cols.map (·.id)).reverse ++ (T.id :: seen)))) &&
    (allI (iE S T) T.keys && bf last (T.keys.map (·.id)) ((T.idxs.map (·.id)).reverse ++ ((T.cols.map (·.id)).reverse ++ (T.id :: seen))))) := by
   rw [hres2, hrun]
   generalize fC T = F
   generalize allI gl T.cols = C1
   generalize allI (iA T) T.idxs = C2
   generalize allI (iE S T) T.keys = C3
   generalize bf last (T.cols.map (·.id)) (T.id :: seen) = R1
   generalize bf last (T.idxs.map (·.id)) _ = R2
   generalize bf last (T.keys.map (·.id)) _ = R3
   cases F <;> cases C1 <;> cases C2 <;> cases C3 <;> cases R1 <;> cases R2 <;> cases R3 <;> rfl
  clear hres2 hrun hres hb5 hf3 hh hc4 h4
  obtain ⟨sd1, hsd1⟩ : ∃ l, T.id :: seen = l := ⟨_, rfl⟩
  rw [hsd1] at h5 hgoal hseen
  obtain ⟨F, hF⟩ : ∃ F, fC T = F := ⟨_, rfl⟩
  rw [hF] at h5 hgoal
  refine ⟨fun z s' => ∃ k : Nat, z = ((S.version, S.last, (ta, tn, tc), ()), (T.id, T.name, (some ad, can, cac), (xa, xan, xac), (ka, kan, kac), ()), ((some ad, can, cac), ()), ((can : Int), ()), ((k : Int), ()), ()) ∧ k ≤ can ∧
   Ck s' c m last (!(F && (upTo (cq gl T.cols) k && bf last ((T.cols.take k).map (·.id)) sd1))) (((T.cols.take k).map (·.id)).reverse ++ sd1) ∧ Fw.Mod [c, m] s s', fun z _ => can - z.2.2.2.2.1.1.toNat, ⟨0, rfl, Nat.zero_le _, by simpa using h5, m5⟩, ?_⟩
  rintro _ s6 ⟨k, rfl, hk, h6, m6⟩;simp only [W.af, decide_eq_true_eq, decide_eq_false_iff_not];refine ⟨fun hlt => ?_, fun hge => ?_⟩
  ·have hlt : k < can := by omega
   obtain ⟨x, hx⟩ : ∃ x, T.cols[k]? = some x := ⟨_, List.getElem?_eq_getElem (by omega)⟩
   obtain ⟨ad2, had2, hh⟩ := (hP0.c.mono (keep m6).le).el.aG hx;dsimp only at had2;cases had2;have hstep := jX (·.id) hx
   have hnext : (!(F && (upTo (cq gl T.cols) (k + 1) && bf last ((T.cols.take (k + 1)).map (·.id)) sd1))) = (((!(F && (upTo (cq gl T.cols) k && bf last ((T.cols.take k).map (·.id)) sd1))) || !((decide (1 ≤ x.id) && decide (x.id ≤ last)) && !decide (x.id ∈ ((T.cols.take k).map (·.id)).reverse ++ sd1))) || !dL x.state || !(typed x.kind && fits x.dflt x.kind)) := by
    rw [eT, dD hx, hstep, lO, q6]; (first | done | rfl)
   have hsn2 : (((T.cols.take (k + 1)).map (·.id)).reverse ++ sd1) = x.id :: (((T.cols.take k).map (·.id)).reverse ++ sd1) := by rw [hstep]; simp
   refine ⟨by omega, ?_⟩;simp only [W.ay];refine aE hh (y := (x.id, x.name, x.kind, x.state, x.dflt.kind, x.dflt.n, x.dflt.s, ())) rfl ?_;refine W.aq (uD h6 x.id) ?_;rintro _ s7 ⟨rfl, h7, m7⟩;refine ⟨(), rfl, ?_⟩;refine W.aq (qx h7 x.state) ?_;rintro _ s8 ⟨rfl, h8, m8⟩;refine ⟨(), rfl, ?_⟩;rw [← hsn2] at h8
   generalize hb8 : ((!(F && (upTo (cq gl T.cols) k && bf last ((T.cols.take k).map (·.id)) sd1))) || !((decide (1 ≤ x.id) && decide (x.id ≤ last)) && !decide (x.id ∈ ((T.cols.take k).map (·.id)).reverse ++ sd1)) || !dL x.state) = b8 at h8 hnext
   have m678 := (m6.trans m7).trans m8;have hc8 := h8.cell;have hw := aj (k := k) (by omega)
   have fin : ∀ b', (b' = false → b8 = false) → b' = (b8 || !(typed x.kind && fits x.dflt x.kind)) → ∃ k' : Nat, ((S.version, S.last, (ta, tn, tc), ()), (T.id, T.name, (some ad, can, cac), (xa, xan, xac), (ka, kan, kac), ()), ((some ad, can, cac), ()), ((can : Int), ()), (i64.wrap ((k : Int) + 1), ()), ()) =
     (((S.version, S.last, (ta, tn, tc), ()), (T.id, T.name, (some ad, can, cac), (xa, xan, xac), (ka, kan, kac), ()), ((some ad, can, cac), ()), ((can : Int), ()), ((k' : Int), ()), ()) : bX [(true, [.int .i64, .int .i64, .slice]), (true, [.int .i64, .str, .slice, .slice, .slice]), (false, [.slice]), (false, [.int .i64]), (false, [.int .i64])]) ∧ k' ≤ can ∧
     Ck (s8.aS c (.cells #[.int .i64 last, .map (some m), .bool b'] 222 (0, 0))) c m last (!(F && (upTo (cq gl T.cols) k' && bf last ((T.cols.take k').map (·.id)) sd1))) (((T.cols.take k').map (·.id)).reverse ++ sd1) ∧ Fw.Mod [c, m] s (s8.aS c (.cells #[.int .i64 last, .map (some m), .bool b'] 222 (0, 0))) := by
    intro b' hb he;refine ⟨k + 1, by rw [hw], hlt, ?_, m678.cj (.inl (by simp))⟩;rw [hnext, ← he];exact h8.lay hb
   have hmeas : can - (i64.wrap ((k : Int) + 1)).toNat < can - ((k : Int)).toNat := by rw [hw]; simp only [Int.toNat_natCast]; omega
   refine uJ h8 ?_;simp only [W.af]
   refine ⟨fun hb => kE h8 ⟨fin true (fun e => by cases e) (by have hb : b8 = true := hb
                                                               rw [hb]; (first | done | rfl)), hmeas⟩, fun hb => ?_⟩
   have hb : b8 = false := hb;refine W.aq (Kz x.kind s8) ?_;rintro _ _ ⟨rfl, rfl⟩;refine ⟨((typed x.kind, ()), ()), rfl, ?_⟩;simp only [W.af]
   refine ⟨fun ht => kE h8 ⟨fin true (fun e => by cases e) (by have ht : typed x.kind = false := by simpa using ht
                                                               rw [ht]; simp), hmeas⟩, fun ht => ?_⟩
   have ht : typed x.kind = true := by simpa using ht
   refine W.aq (Kx x.dflt x.kind _) ?_;rintro _ _ ⟨rfl, rfl⟩;refine ⟨((fits x.dflt x.kind, ()), ()), rfl, ?_⟩;exact kE h8 ⟨fin _ (fun _ => hb) (by rw [hb, ht]; simp), hmeas⟩
  ·have hall : T.cols.take k = T.cols := List.take_of_length_le (by omega)
   have hku : upTo (cq gl T.cols) k = allI gl T.cols := by unfold allI; rw [show k = T.cols.length by omega]
   rw [hall, hku] at h6
   obtain ⟨P1, hP1⟩ : ∃ P, (F && (allI gl T.cols && bf last (T.cols.map (·.id)) sd1)) = P := ⟨_, rfl⟩
   obtain ⟨sd2, hsd2⟩ : ∃ l, (T.cols.map (·.id)).reverse ++ sd1 = l := ⟨_, rfl⟩
   rw [hP1, hsd2] at h6 hgoal;rw [hsd2] at hseen
   refine ⟨fun z s' => ∃ k : Nat, z = ((S.version, S.last, (ta, tn, tc), ()), (T.id, T.name, (some ad, can, cac), (xa, xan, xac), (ka, kan, kac), ()), ((xa, xan, xac), ()), ((xan : Int), ()), ((k : Int), ()), ()) ∧ k ≤ xan ∧
    Ck s' c m last (!(P1 && (upTo (cq (iA T) T.idxs) k && bf last ((T.idxs.take k).map (·.id)) sd2))) (((T.idxs.take k).map (·.id)).reverse ++ sd2) ∧ Fw.Mod [c, m] s s', fun z _ => xan - z.2.2.2.2.1.1.toNat, ⟨0, rfl, Nat.zero_le _, by simpa [nS, bf] using h6, m6⟩, ?_⟩
   rintro _ s7 ⟨k, rfl, hk, h7, m7⟩;simp only [W.af, decide_eq_true_eq, decide_eq_false_iff_not];refine ⟨fun hlt => ?_, fun hge => ?_⟩
   ·have hlt : k < xan := by omega
    obtain ⟨x, hx⟩ : ∃ x, T.idxs[k]? = some x := ⟨_, List.getElem?_eq_getElem (by omega)⟩
    obtain ⟨ad2, had2, hh⟩ := (hP0.x.mono (keep m7).le).el.aG hx;dsimp only at had2;subst had2;have hstep := jX (·.id) hx
    have hnext : (!(P1 && (upTo (cq (iA T) T.idxs) (k + 1) && bf last ((T.idxs.take (k + 1)).map (·.id)) sd2))) = (((!(P1 && (upTo (cq (iA T) T.idxs) k && bf last ((T.idxs.take k).map (·.id)) sd2))) || !((decide (1 ≤ x.id) && decide (x.id ≤ last)) && !decide (x.id ∈ ((T.idxs.take k).map (·.id)).reverse ++ sd2))) || !dL x.state || !(decide (0 ≤ cS T x.column))) := by
     rw [eT, dD hx, hstep, lO, q6]; (first | done | rfl)
    have hsn2 : (((T.idxs.take (k + 1)).map (·.id)).reverse ++ sd2) = x.id :: (((T.idxs.take k).map (·.id)).reverse ++ sd2) := by rw [hstep]; simp
    refine ⟨by omega, ?_⟩;simp only [W.ay];refine aE hh (y := (x.id, x.name, x.column, x.unique, x.state, ())) rfl ?_;refine W.aq (uD h7 x.id) ?_;rintro _ s8 ⟨rfl, h8, m8⟩;refine ⟨(), rfl, ?_⟩;refine W.aq (qx h8 x.state) ?_;rintro _ s9 ⟨rfl, h9, m9⟩;refine ⟨(), rfl, ?_⟩;rw [← hsn2] at h9
    generalize hb8 : ((!(P1 && (upTo (cq (iA T) T.idxs) k && bf last ((T.idxs.take k).map (·.id)) sd2))) || !((decide (1 ≤ x.id) && decide (x.id ≤ last)) && !decide (x.id ∈ ((T.idxs.take k).map (·.id)).reverse ++ sd2)) || !dL x.state) = b8 at h9 hnext
    have m789 := (m7.trans m8).trans m9;have hw := aj (k := k) (by omega)
    have hmeas : xan - (i64.wrap ((k : Int) + 1)).toNat < xan - ((k : Int)).toNat := by rw [hw]; simp only [Int.toNat_natCast]; omega
    refine uJ h9 ?_;simp only [W.af];refine ⟨fun hb => kE h9 ⟨⟨k + 1, by rw [hw], hlt, ?_, m789.cj (.inl (by simp))⟩, hmeas⟩, fun hb => ?_⟩
    ·have hb : b8 = true := hb;rw [hnext, hb]; exact h9.lay (fun e => by cases e)
    ·have hb : b8 = false := hb;refine W.aq (Ku (p := ⟨T, (some ad, can, cac), (some ad2, xan, xac), (ka, kan, kac)⟩) (hP0.c.mono (keep m789).le) x.column) ?_;rintro _ _ ⟨rfl, rfl⟩;refine ⟨((cS T x.column, ()), ()), rfl, ?_⟩;refine kE h9 ⟨⟨k + 1, by rw [hw], hlt, ?_, m789.cj (.inl (by simp))⟩, hmeas⟩;rw [hnext, hb]
     have e1 : (decide (cS T x.column < 0)) = (false || !decide (0 ≤ cS T x.column)) := by
      by_cases hh : cS T x.column < 0
      ·rw [decide_eq_true hh, decide_eq_false (by omega)]; (first | done | rfl)
      ·rw [decide_eq_false hh, decide_eq_true (by omega)]; (first | done | rfl)
     rw [← e1];exact h9.lay (fun _ => hb)
   ·have hall : T.idxs.take k = T.idxs := List.take_of_length_le (by omega)
    have hku : upTo (cq (iA T) T.idxs) k = allI (iA T) T.idxs := by unfold allI; rw [show k = T.idxs.length by omega]
    rw [hall, hku] at h7
    obtain ⟨P2, hP2⟩ : ∃ P, (P1 && (allI (iA T) T.idxs && bf last (T.idxs.map (·.id)) sd2)) = P := ⟨_, rfl⟩
    obtain ⟨sd3, hsd3⟩ : ∃ l, (T.idxs.map (·.id)).reverse ++ sd2 = l := ⟨_, rfl⟩
    rw [hP2, hsd3] at h7 hgoal;rw [hsd3] at hseen
    refine ⟨fun z s' => ∃ k : Nat, z = ((S.version, S.last, (ta, tn, tc), ()), (T.id, T.name, (some ad, can, cac), (xa, xan, xac), (ka, kan, kac), ()), ((ka, kan, kac), ()), ((kan : Int), ()), ((k : Int), ()), ()) ∧ k ≤ kan ∧
     Ck s' c m last (!(P2 && (upTo (cq (iE S T) T.keys) k && bf last ((T.keys.take k).map (·.id)) sd3))) (((T.keys.take k).map (·.id)).reverse ++ sd3) ∧ Fw.Mod [c, m] s s', fun z _ => kan - z.2.2.2.2.1.1.toNat, ⟨0, rfl, Nat.zero_le _, by simpa [nS, bf] using h7, m7⟩, ?_⟩
    rintro _ s8 ⟨k, rfl, hk, h8, m8⟩;simp only [W.af, decide_eq_true_eq, decide_eq_false_iff_not];refine ⟨fun hlt => ?_, fun hge => ?_⟩
    ·have hlt : k < kan := by omega
     obtain ⟨x, hx⟩ : ∃ x, T.keys[k]? = some x := ⟨_, List.getElem?_eq_getElem (by omega)⟩
     obtain ⟨ad2, had2, hh⟩ := (hP0.k.mono (keep m8).le).el.aG hx;dsimp only at had2;subst had2;have hstep := jX (·.id) hx
     have hnext : (!(P2 && (upTo (cq (iE S T) T.keys) (k + 1) && bf last ((T.keys.take (k + 1)).map (·.id)) sd3))) = (((!(P2 && (upTo (cq (iE S T) T.keys) k && bf last ((T.keys.take k).map (·.id)) sd3))) || !((decide (1 ≤ x.id) && decide (x.id ≤ last)) && !decide (x.id ∈ ((T.keys.take k).map (·.id)).reverse ++ sd3))) || !dL x.state || !(decide (0 ≤ cS T x.column) && (decide (0 ≤ dK S x.parent) && pM S T x))) := by
      rw [eT, dD hx, hstep, lO, q6]; (first | done | rfl)
     have hsn2 : (((T.keys.take (k + 1)).map (·.id)).reverse ++ sd3) = x.id :: (((T.keys.take k).map (·.id)).reverse ++ sd3) := by rw [hstep]; simp
     refine ⟨by omega, ?_⟩;simp only [W.ay];refine aE hh (y := (x.id, x.name, x.column, x.parent, x.state, ())) rfl ?_;refine W.aq (uD h8 x.id) ?_;rintro _ s9 ⟨rfl, h9, m9⟩;refine ⟨(), rfl, ?_⟩;refine W.aq (qx h9 x.state) ?_;rintro _ s10 ⟨rfl, h10, m10⟩;refine ⟨(), rfl, ?_⟩;rw [← hsn2] at h10
     generalize hb8 : ((!(P2 && (upTo (cq (iE S T) T.keys) k && bf last ((T.keys.take k).map (·.id)) sd3))) || !((decide (1 ≤ x.id) && decide (x.id ≤ last)) && !decide (x.id ∈ ((T.keys.take k).map (·.id)).reverse ++ sd3)) || !dL x.state) = b8 at h10 hnext
     have mall := (m8.trans m9).trans m10;have hw := aj (k := k) (by omega)
     have hmeas : kan - (i64.wrap ((k : Int) + 1)).toNat < kan - ((k : Int)).toNat := by rw [hw]; simp only [Int.toNat_natCast]; omega
     have fin : ∀ b', (b' = false → b8 = false) → b' = (b8 || !(decide (0 ≤ cS T x.column) && (decide (0 ≤ dK S x.parent) && pM S T x))) →
       Ck (s10.aS c (.cells #[.int .i64 last, .map (some m), .bool b'] 222 (0, 0))) c m last (!(P2 && (upTo (cq (iE S T) T.keys) (k + 1) && bf last ((T.keys.take (k + 1)).map (·.id)) sd3))) (((T.keys.take (k + 1)).map (·.id)).reverse ++ sd3) ∧ Fw.Mod [c, m] s (s10.aS c (.cells #[.int .i64 last, .map (some m), .bool b'] 222 (0, 0))) := by
      intro b' hb he;rw [hnext, ← he];exact ⟨h10.lay hb, mall.cj (.inl (by simp))⟩
     refine W.bF ((cS T x.column, ()), ()) (Ku (p := ⟨T, (some ad, can, cac), (xa, xan, xac), (some ad2, kan, kac)⟩) (hP0.c.mono (keep mall).le) x.column) rfl ?_;refine W.bF ((dK S x.parent, ()), ()) (Kw (t := (ta, tn, tc)) (hS.mono (keep mall).le) x.parent) rfl ?_;refine uJ h10 ?_;simp only [W.af, decide_eq_true_eq, decide_eq_false_iff_not]
     refine ⟨fun hb => kE h10 ⟨⟨k + 1, by rw [hw], hlt, fin true (fun e => by cases e) (by have hb : b8 = true := hb
                                                                                           rw [hb]; (first | done | rfl))⟩, hmeas⟩, fun hb => ?_⟩
     have hb : b8 = false := hb;refine ⟨fun h1 => kE h10 ⟨⟨k + 1, by rw [hw], hlt, fin true (fun e => by cases e) (by rw [decide_eq_false (p := 0 ≤ cS T x.column) (by omega)]; simp)⟩, hmeas⟩, fun h1 => ?_⟩;refine ⟨fun h2 => kE h10 ⟨⟨k + 1, by rw [hw], hlt, fin true (fun e => by cases e) (by rw [decide_eq_false (p := 0 ≤ dK S x.parent) (by omega)]; simp)⟩, hmeas⟩, fun h2 => ?_⟩;have hSn := hS.mono (keep mall).le
     obtain ⟨j, P, hj, hPj, _, _⟩ : ∃ (j : Nat) (P : az), dK S x.parent = (j : Int) ∧ S.tabs[j]? = some P ∧ True ∧ True := by
      rcases jr (p := fun T : az => decide (T.id = x.parent)) S.tabs 0 with ⟨e, _⟩ | ⟨j, P, e, e2, _⟩
      ·exact absurd e (by unfold dK at h2; omega)
      ·exact ⟨j, P, by unfold dK; rw [e]; simp, e2, trivial, trivial⟩
     obtain ⟨j2, C, hj2, hCj, _, _⟩ : ∃ (j : Nat) (C : cm), cS T x.column = (j : Int) ∧ T.cols[j]? = some C ∧ True ∧ True := by
      rcases jr (p := fun c : cm => decide (c.id = x.column)) T.cols 0 with ⟨e, _⟩ | ⟨j, P, e, e2, _⟩
      ·exact absurd e (by unfold cS at h1; omega)
      ·exact ⟨j, P, by unfold cS; rw [e]; simp, e2, trivial, trivial⟩
     have hpar : pM S T x = (match P.cols with | c0 :: _ => decide (C.kind = c0.kind) | [] => false) := by unfold pM; rw [hj, hj2]; simp only [Int.toNat_natCast, hPj, hCj] <;> rfl
     obtain ⟨pp, hpp, hppT⟩ : ∃ pp, ps[j]? = some pp ∧ pp.T = P := by
      rw [hS.eq, List.getElem?_map] at hPj
      cases hq : ps[j]? with
      | none => rw [hq] at hPj; cases hPj
      | some pp => rw [hq] at hPj; exact ⟨pp, rfl, Option.some.inj hPj⟩
     have hjl := (List.getElem?_eq_some_iff.1 hpp).1;have hj2l := (List.getElem?_eq_some_iff.1 hCj).1;have htn : tn = ps.length := hSn.el.len;obtain ⟨ad3, had3, hh3⟩ := hSn.el.el.aG hpp;dsimp only at had3;subst had3;have hPP := hSn.all pp (get_mem hpp);obtain ⟨PT, ⟨pca, pcn, pcc⟩, ⟨pxa, pxn, pxc⟩, ⟨pka, pkn, pkc⟩⟩ := pp;dsimp only at hppT;subst hppT;have hpcn : pcn = PT.cols.length := hPP.c.len;simp only [hj, hj2, Int.toNat_natCast];refine ⟨by omega, ?_⟩;simp only [W.ay];refine bl (j := 2) hh3 (cs := [.slice]) (y := ((pca, pcn, pcc), ())) rfl ?_;simp only [W.af];refine ⟨fun h3 => kE h10 ⟨⟨k + 1, by rw [hw], hlt, fin true (fun e => by cases e) ?_⟩, hmeas⟩, fun h3 => ?_⟩
     ·have h3 : pcn = 0 := by simpa using h3
      have : PT.cols = [] := List.length_eq_zero_iff.1 (by omega);rw [hpar, this]; simp
     ·have h3 : pcn ≠ 0 := by simpa using h3
      obtain ⟨c1, cs1, hcs1⟩ : ∃ c0 cs, PT.cols = c0 :: cs := by
       cases hc : PT.cols with
       | nil => rw [hc] at hpcn; simp at hpcn; omega
       | cons a b => exact ⟨a, b, rfl⟩
      obtain ⟨ad4, had4, hh4⟩ := (hP0.c.mono (keep mall).le).el.aG hCj;dsimp only at had4;cases had4;obtain ⟨ad5, had5, hh5⟩ := hPP.c.el.aG (i := 0) (x := c1) (by rw [hcs1]; (first | done | rfl));dsimp only at had5;subst had5;rw [Nat.zero_mul, add_zero] at hh5;refine ⟨by omega, ?_⟩;simp only [W.ay];refine bl (j := 2) hh4 (cs := [.int .i64]) (y := (C.kind, ())) rfl ?_;refine ⟨by omega, ?_⟩;simp only [W.ay];refine bl (j := 2) hh3 (cs := [.slice]) (y := ((some ad5, pcn, pcc), ())) rfl ?_;refine ⟨by dsimp only; omega, ?_⟩;simp only [W.ay];refine bl (j := 2) hh5 (cs := [.int .i64]) (y := (c1.kind, ())) rfl ?_;refine kE h10 ⟨⟨k + 1, by rw [hw], hlt, fin _ (fun _ => hb) ?_⟩, hmeas⟩;rw [hb, hpar, hcs1, decide_eq_true (p := 0 ≤ cS T x.column) (by omega), decide_eq_true (p := 0 ≤ dK S x.parent) (by omega)]
      by_cases hq : C.kind = c1.kind <;> simp [hq]
    ·have hall : T.keys.take k = T.keys := List.take_of_length_le (by omega)
     have hku : upTo (cq (iE S T) T.keys) k = allI (iE S T) T.keys := by unfold allI; rw [show k = T.keys.length by omega]
     rw [hall, hku, hseen, ← hgoal] at h8;exact ⟨rfl, h8, m8⟩
end
def jm (S : aK) : Int := if right S = true then 0 else 100
theorem G4 {s : PH} {last : Int} {bad : Bool} {K : Nat → W.T} {m : Nat} (hm : s m = some (.map #[] 0)) (hK : ∀ c s', Ck s' c m last bad [] → Fw.Mod [] s s' → s c = none → K c s') :
  W.nw (.cells #[.int .i64 last, .map (some m), .bool bad] 222 (0, 0)) K s := by
 refine W.bI fun c s1 hc m1 k1 => ?_;refine hK c s1 ⟨k1, [], ⟨#[], 0, m1.at hm (by simp), rfl, Go.MapKept.stamped_empty 0⟩, fun _ n => by simp⟩ m1 hc
theorem I4 {s : PH} {t : aU} {S : aK} {ps : List aD} (h : dO s t S ps) : ah 57 #[fj S t] s fun y s' => y = .int .i64 (jm S) ∧ s' = s := by
 refine bx.quiet ?_;obtain ⟨ta, tn, tc⟩ := t;refine Hw S.version S.last ta tn tc _ s ?_;unfold AX;have htn : tn = ps.length := h.el.len
 have hpl : S.tabs.length = ps.length := by rw [h.eq]; simp
 have hfew := h.el.dF;have hmapeq : ps.map (·.T) = S.tabs := h.eq.symm;simp only [cE];refine W.bp (fun z s' => ∃ c m, z = ((S.version, S.last, (ta, tn, tc), ()), (some ⟨c, 0, none⟩, ()), ()) ∧ Ck s' c m S.last (!jS S) [] ∧ Fw.Mod [] s s' ∧ s c = none ∧ s m = none) ?_ ?_
 ·rintro _ s1 ⟨c, m, rfl, h1, m1, hc, hm⟩;have keep : ∀ {s'}, Fw.Mod [c, m] s1 s' → Fw.Mod [] s s' := fun mm => m1.fresh mm (by simp [hc, hm]);simp only [aY];refine W.aq (GO h1 (h.el.el.mono m1.le) hfew (fun s' hm => h.el.el.mono (keep hm).le) 0 6) ?_;rintro _ s2 ⟨rfl, h2, m2⟩;refine ⟨(), rfl, ?_⟩;rw [hmapeq] at h2
  obtain ⟨P0, hP0⟩ : ∃ P, (jS S && cY dP 0 6 S.tabs) = P := ⟨_, rfl⟩
  have hb2 : (!jS S || !cY dP 0 6 S.tabs) = !P0 := by rw [← hP0]; cases jS S <;> cases cY dP 0 6 S.tabs <;> rfl
  rw [hb2] at h2
  have hright : right S = (P0 && (allI (fun _ T => eH S T) S.tabs && bf S.last (S.tabs.flatMap bH) [])) := by
   rw [← hP0]; unfold right; simp only [Bool.and_assoc]
  have hbad : ∀ {b : Bool}, right S = false → jm S = 100 := fun e => by unfold jm; rw [e]; (first | done | rfl)
  simp only [aQ]
  refine ⟨fun z s' => ∃ k : Nat, z = ((S.version, S.last, (ta, tn, tc), ()), (some ⟨c, 0, none⟩, ()), ((ta, tn, tc), ()), ((tn : Int), ()), ((k : Int), ()), ()) ∧ k ≤ tn ∧
   Ck s' c m S.last (!(P0 && (upTo (cq (fun _ T => eH S T) S.tabs) k && bf S.last ((S.tabs.take k).flatMap bH) []))) (((S.tabs.take k).flatMap bH).reverse ++ []) ∧ Fw.Mod [c, m] s1 s', fun z _ => tn - z.2.2.2.2.1.1.toNat, ⟨0, rfl, Nat.zero_le _, by simpa [nS, bf] using h2, m2⟩, ?_⟩
  rintro _ s3 ⟨k, rfl, hk, h3, m3⟩
  generalize hb3 : (!(P0 && (upTo (cq (fun _ T => eH S T) S.tabs) k && bf S.last ((S.tabs.take k).flatMap bH) []))) = b3 at h3
  simp only [aR, W.af, decide_eq_true_eq, decide_eq_false_iff_not];refine ⟨fun hlt => ?_, fun hge => ?_⟩
  ·have hlt : k < tn := by omega
   obtain ⟨p, hp⟩ : ∃ p, ps[k]? = some p := ⟨_, List.getElem?_eq_getElem (by omega)⟩
   have hT : S.tabs[k]? = some p.T := by rw [h.eq, List.getElem?_map, hp]; (first | done | rfl)
   obtain ⟨ad, had, hh⟩ := (h.mono (keep m3).le).el.el.aG hp;dsimp only at had;subst had;simp only [aP, W.cI, aT, W.ay];refine ⟨by omega, ?_⟩;refine aE hh (y := (p.T.id, p.T.name, p.c, p.x, p.k, ())) rfl ?_
   have := uJ h3 (K := fun x => W.br x.1 (W.ret (fun y s' => y = .int .i64 (jm S) ∧ Fw.Mod [] s s') (.int .i64 100)) (W.call Tryz.prog 119 #[cp c, fj S (some ad, tn, tc), ep p.T p.c p.x p.k] (true, []) fun _ => fun s' =>
     (∃ k_1 : Nat, ((S.version, S.last, (some ad, tn, tc), ()), (some (Addr.mk c 0 none), ()), ((some ad, tn, tc), ()), ((tn : Int), ()), (i64.wrap ((k : Int) + 1), ()), ()) = (((S.version, S.last, (some ad, tn, tc), ()), (some (Addr.mk c 0 none), ()), ((some ad, tn, tc), ()), ((tn : Int), ()), ((k_1 : Int), ()), ()) : bX [(true, [.int .i64, .int .i64, .slice]), (false, [.ptr]), (false, [.slice]), (false, [.int .i64]), (false, [.int .i64])]) ∧ k_1 ≤ tn ∧
       Ck s' c m S.last (!(P0 && (upTo (cq (fun _ T => eH S T) S.tabs) k_1 && bf S.last ((S.tabs.take k_1).flatMap bH) []))) (((S.tabs.take k_1).flatMap bH).reverse ++ []) ∧ Fw.Mod [c, m] s1 s') ∧ tn - (i64.wrap ((k : Int) + 1)).toNat < tn - ((k : Int)).toNat)) (by
    simp only [W.af];refine ⟨fun hb => ?_, fun hb => ?_⟩
    ·have hb : b3 = true := hb;refine ⟨?_, keep m3⟩
     have e : right S = false := by
      rw [hright];rw [hb] at hb3
      have hu : upTo (cq (fun _ T => eH S T) S.tabs) k = false → allI (fun _ T => eH S T) S.tabs = false := by
       intro e
       cases ha : allI (fun _ T => eH S T) S.tabs with
       | false => rfl
       | true =>
        have hall := pX.1 ha;have : upTo (cq (fun _ T => eH S T) S.tabs) k = true := pX.2 fun i hi => hall i (by omega);rw [e] at this; cases this
      have hr : bf S.last ((S.tabs.take k).flatMap bH) [] = false → bf S.last (S.tabs.flatMap bH) [] = false := by
       intro e;rw [← List.take_append_drop k S.tabs, List.flatMap_append, jF, List.take_append_drop] at *;rw [e]; (first | done | rfl)
      revert hb3
      cases P0 <;> cases h1 : upTo (cq (fun _ T => eH S T) S.tabs) k <;> cases h2 : bf S.last ((S.tabs.take k).flatMap bH) [] <;> simp
      all_goals first | (intro _; exact hr h2) | (intro h; rw [hu h1] at h; cases h)
     rw [hbad (b := true) e]
    ·have hb : b3 = false := hb;refine W.aq (Ex (p := p) h3 h (get_mem hp) (keep m3) hc hm) ?_;rintro _ s4 ⟨rfl, h4, m4⟩;refine ⟨(), rfl, ?_⟩;have hw := aj (k := k) (by omega)
     have htk : (S.tabs.take (k + 1)).flatMap bH = (S.tabs.take k).flatMap bH ++ bH p.T := by rw [List.take_add_one, hT]; simp
     refine ⟨⟨k + 1, by rw [hw], hlt, ?_, m3.trans m4⟩, by rw [hw]; simp only [Int.toNat_natCast]; omega⟩;rw [htk, eT, dD hT, jF, List.reverse_append, List.append_assoc]
     have : (!(P0 && ((upTo (cq (fun _ T => eH S T) S.tabs) k && eH S p.T) && (bf S.last ((S.tabs.take k).flatMap bH) [] && bf S.last (bH p.T) (((S.tabs.take k).flatMap bH).reverse ++ []))))) = (b3 || !(eH S p.T && bf S.last (bH p.T) (((S.tabs.take k).flatMap bH).reverse ++ []))) := by
      rw [← hb3]
      generalize upTo (cq (fun _ T => eH S T) S.tabs) k = U
      generalize bf S.last ((S.tabs.take k).flatMap bH) [] = R
      generalize bf S.last (bH p.T) _ = R2
      cases P0 <;> cases U <;> cases R <;> cases R2 <;> cases eH S p.T <;> rfl
     rw [this]; exact h4)
   exact this
  ·have hall : S.tabs.take k = S.tabs := List.take_of_length_le (by omega)
   have hku : upTo (cq (fun _ T => eH S T) S.tabs) k = allI (fun _ T => eH S T) S.tabs := by unfold allI; rw [show k = S.tabs.length by omega]
   rw [hall, hku, ← hright] at hb3;simp only [aT, bL]
   have := uJ h3 (K := fun x => W.br x.1 (W.ret (fun y s' => y = .int .i64 (jm S) ∧ Fw.Mod [] s s') (.int .i64 100)) (W.ret (fun y s' => y = .int .i64 (jm S) ∧ Fw.Mod [] s s') (.int .i64 0))) (by
    simp only [W.af];refine ⟨fun hb => ⟨?_, keep m3⟩, fun hb => ⟨?_, keep m3⟩⟩
    ·have hb : b3 = true := hb;rw [hb] at hb3;rw [hbad (b := true) (by simpa using hb3)]
    ·have hb : b3 = false := hb;rw [hb] at hb3
     have : right S = true := by simpa using hb3
     unfold jm; rw [this]; (first | done | rfl))
   exact this
 ·intro J hJ;simp only [bY, aR];refine W.bI fun m s1 hm m1 k1 => ?_
  have fin : ∀ b, b = !jS S → W.nw (.cells #[.int .i64 S.last, .map (some m), .bool b] 222 (0, 0)) (fun r => J ((S.version, S.last, (ta, tn, tc), ()), (some ⟨r, 0, none⟩, ()), ())) s1 := by
   intro b hb;refine G4 k1 fun c s2 h2 m2 hc => ?_;rw [hb] at h2;exact hJ _ _ ⟨c, m, rfl, h2, m1.trans m2, m1.none hc (by simp), hm⟩
  simp only [W.af, decide_eq_true_eq, decide_eq_false_iff_not];unfold jS at fin;refine ⟨fun h1 => fin true (by rw [decide_eq_false (p := 0 ≤ S.version) (by omega)]; (first | done | rfl)), fun h1 => ⟨fun h2 => fin true (by rw [decide_eq_false (p := S.version ≤ 1125899906842624) (by omega)]; simp), fun h2 => ⟨fun h3 => fin true (by rw [decide_eq_false (p := 0 ≤ S.last) (by omega)]; simp), fun h3 => fin _ ?_⟩⟩⟩;rw [decide_eq_true (p := 0 ≤ S.version) (by omega), decide_eq_true (p := S.version ≤ 1125899906842624) (by omega), decide_eq_true (p := 0 ≤ S.last) (by omega)]
  by_cases h4 : S.last ≤ 1125899906842624
  ·rw [decide_eq_true h4, decide_eq_false (by omega)]; (first | done | rfl)
  ·rw [decide_eq_false h4, decide_eq_true (by omega)]; (first | done | rfl)
end
section
variable {W : Type} (π : gv W)
open Fw.W
def yh (sv sl : Int) (sa : OA) (san sac : Nat) : W :=
 π.join [(true, [.int .i64, .int .i64, .slice])] (fun J0 => π.ite (decide (sv < 0)) (π.ret (.bool false)) (π.ite (decide (sv > 1125899906842624)) (π.ret (.bool false)) (π.ite (decide (sl < 0)) (π.ret (.bool false)) (π.ite (decide (sl > 1125899906842624)) (π.ret (.bool false)) (π.ite (decide ((↑san : Int) > 6)) (π.ret (.bool false)) (J0 ((sv, sl, (sa, san, sac), ()), ()))))))) (fun (((x1 : Int), (x2 : Int), ((a3 : OA), (n4 : Nat), (c5 : Nat)), _), _) => π.loop [(true, [.int .i64, .int .i64, .slice]), (false, [.slice]), (false, [.int .i64])] ((x1, x2, (a3, n4, c5), ()), ((none, (0 : Nat), (0 : Nat)), ()), ((0 : Int), ()), ()) fun (((x7 : Int), (x8 : Int), ((a9 : OA), (n10 : Nat), (c11 : Nat)), _), (((a12 : OA), (n13 : Nat), (c14 : Nat)), _), ((x15 : Int), _), _) again6 => π.ite (decide (x15 < (↑n10 : Int))) (π.guard (0 ≤ x15 ∧ x15 < (↑n10 : Int)) <| π.aa a9 fun p16 => π.ld [.int .i64, .str, .slice, .slice, .slice] (p16.add (x15.toNat * 5)) fun ((x17 : Int), (t18 : BA), ((a19 : OA), (n20 : Nat), (c21 : Nat)), ((a22 : OA), (n23 : Nat), (c24 : Nat)), ((a25 : OA), (n26 : Nat), (c27 : Nat)), _) => π.join [(true, [.int .i64, .int .i64, .slice]), (false, [.slice]), (false, [.int .i64]), (true, [.int .i64, .str, .slice, .slice, .slice])] (fun J28 => π.call 68 #[(.string t18)] (false, [(false, [.bool])]) fun (((b29 : Bool), _), _) => π.ite (!b29) (π.ret (.bool false)) (π.call 69 #[(.agg #[(.int .i64 x7), (.int .i64 x8), (.slice a9 n10 c11)]), (.string t18)] (false, [(false, [.int .i64])]) fun (((x30 : Int), _), _) =>
 π.ite (x30 != x15) (π.ret (.bool false)) (π.ite (decide ((↑n20 : Int) < 1)) (π.ret (.bool false)) (π.ite (decide ((↑n20 : Int) > 8)) (π.ret (.bool false)) (π.ite (decide ((↑n23 : Int) > 8)) (π.ret (.bool false)) (π.ite (decide ((↑n26 : Int) > 8)) (π.ret (.bool false)) (J28 ((x7, x8, (a9, n10, c11), ()), ((a12, n13, c14), ()), (x15, ()), (x17, t18, (a19, n20, c21), (a22, n23, c24), (a25, n26, c27), ()), ())))))))) (fun (((x31 : Int), (x32 : Int), ((a33 : OA), (n34 : Nat), (c35 : Nat)), _), (((a36 : OA), (n37 : Nat), (c38 : Nat)), _), ((x39 : Int), _), ((x40 : Int), (t41 : BA), ((a42 : OA), (n43 : Nat), (c44 : Nat)), ((a45 : OA), (n46 : Nat), (c47 : Nat)), ((a48 : OA), (n49 : Nat), (c50 : Nat)), _), _) => π.nw (Obj.cells #[(.int .i64 x40)] 3 (0, 0)) fun r51 => π.app 3 1 8 [(.int .i64 0)] a36 n37 c38 (Src.sl (some (Addr.mk r51 0 none)) 1) fun a52 n53 c54 => π.loop [(true, [.int .i64, .int .i64, .slice]), (false, [.slice]), (false, [.int .i64]), (true, [.int .i64, .str, .slice, .slice, .slice]), (false, [.int .i64])] ((x31, x32, (a33, n34, c35), ()), ((a52, n53, c54), ()), (x39, ()), (x40, t41, (a42, n43, c44), (a45, n46, c47), (a48, n49, c50), ()), ((0 : Int), ()), ()) fun (((x56 : Int), (x57 : Int), ((a58 : OA), (n59 : Nat), (c60 : Nat)), _), (((a61 : OA), (n62 : Nat), (c63 : Nat)), _), ((x64 : Int), _), ((x65 : Int), (t66 : BA), ((a67 : OA), (n68 : Nat), (c69 : Nat)), ((a70 : OA), (n71 : Nat), (c72 : Nat)), ((a73 : OA), (n74 : Nat), (c75 : Nat)), _), ((x76 : Int), _), _) again55 =>
 π.ite (decide (x76 < (↑n68 : Int))) (π.guard (0 ≤ x76 ∧ x76 < (↑n68 : Int)) <| π.aa a67 fun p77 => π.ld [.int .i64, .str, .int .i64, .int .i64, .int .i64, .int .i64, .str] (p77.add (x76.toNat * 7)) fun ((x78 : Int), (t79 : BA), (x80 : Int), (x81 : Int), (x82 : Int), (x83 : Int), (t84 : BA), _) => π.call 68 #[(.string t79)] (false, [(false, [.bool])]) fun (((b85 : Bool), _), _) => π.ite (!b85) (π.ret (.bool false)) (π.call 70 #[(.agg #[(.int .i64 x65), (.string t66), (.slice a67 n68 c69), (.slice a70 n71 c72), (.slice a73 n74 c75)]), (.string t79)] (false, [(false, [.int .i64])]) fun (((x86 : Int), _), _) => π.ite (x86 != x76) (π.ret (.bool false)) (π.ite (decide (x81 < 1)) (π.ret (.bool false)) (π.ite (decide (x81 > 3)) (π.ret (.bool false)) (π.ite (x76 == 0) (π.ite (x81 != 3) (π.ret (.bool false)) (π.call 71 #[(.int .i64 x80)] (false, [(false, [.bool])]) fun (((b87 : Bool), _), _) => π.ite (!b87) (π.ret (.bool false)) (π.call 72 #[(.agg #[(.int .i64 x82), (.int .i64 x83), (.string t84)]), (.int .i64 x80)] (false, [(false, [.bool])]) fun (((b88 : Bool), _), _) => π.ite (!b88) (π.ret (.bool false)) (π.nw (Obj.cells #[(.int .i64 x78)] 3 (0, 0)) fun r89 => π.app 3 1 8 [(.int .i64 0)] a61 n62 c63 (Src.sl (some (Addr.mk r89 0 none)) 1) fun a90 n91 c92 => again55 ((x56, x57, (a58, n59, c60), ()), ((a90, n91, c92), ()), (x64, ()), (x65, t66, (a67, n68, c69), (a70, n71, c72), (a73, n74, c75), ()), (i64.wrap (x76 + 1), ()), ()))))) (π.call 71 #[(.int .i64 x80)] (false, [(false, [.bool])]) fun (((b93 : Bool), _), _) =>
 π.ite (!b93) (π.ret (.bool false)) (π.call 72 #[(.agg #[(.int .i64 x82), (.int .i64 x83), (.string t84)]), (.int .i64 x80)] (false, [(false, [.bool])]) fun (((b94 : Bool), _), _) => π.ite (!b94) (π.ret (.bool false)) (π.nw (Obj.cells #[(.int .i64 x78)] 3 (0, 0)) fun r95 => π.app 3 1 8 [(.int .i64 0)] a61 n62 c63 (Src.sl (some (Addr.mk r95 0 none)) 1) fun a96 n97 c98 => again55 ((x56, x57, (a58, n59, c60), ()), ((a96, n97, c98), ()), (x64, ()), (x65, t66, (a67, n68, c69), (a70, n71, c72), (a73, n74, c75), ()), (i64.wrap (x76 + 1), ()), ()))))))))) (π.loop [(true, [.int .i64, .int .i64, .slice]), (false, [.slice]), (false, [.int .i64]), (true, [.int .i64, .str, .slice, .slice, .slice]), (false, [.int .i64])] ((x56, x57, (a58, n59, c60), ()), ((a61, n62, c63), ()), (x64, ()), (x65, t66, (a67, n68, c69), (a70, n71, c72), (a73, n74, c75), ()), ((0 : Int), ()), ()) fun (((x100 : Int), (x101 : Int), ((a102 : OA), (n103 : Nat), (c104 : Nat)), _), (((a105 : OA), (n106 : Nat), (c107 : Nat)), _), ((x108 : Int), _), ((x109 : Int), (t110 : BA), ((a111 : OA), (n112 : Nat), (c113 : Nat)), ((a114 : OA), (n115 : Nat), (c116 : Nat)), ((a117 : OA), (n118 : Nat), (c119 : Nat)), _), ((x120 : Int), _), _) again99 => π.ite (decide (x120 < (↑n115 : Int))) (π.guard (0 ≤ x120 ∧ x120 < (↑n115 : Int)) <| π.aa a114 fun p121 => π.ld [.int .i64, .str, .int .i64, .bool, .int .i64] (p121.add (x120.toNat * 5)) fun ((x122 : Int), (t123 : BA), (x124 : Int), (b125 : Bool), (x126 : Int), _) =>
 π.call 68 #[(.string t123)] (false, [(false, [.bool])]) fun (((b127 : Bool), _), _) => π.ite (!b127) (π.ret (.bool false)) (π.call 73 #[(.agg #[(.int .i64 x109), (.string t110), (.slice a111 n112 c113), (.slice a114 n115 c116), (.slice a117 n118 c119)]), (.string t123)] (false, [(false, [.int .i64])]) fun (((x128 : Int), _), _) => π.ite (x128 != x120) (π.ret (.bool false)) (π.ite (decide (x126 < 1)) (π.ret (.bool false)) (π.ite (decide (x126 > 3)) (π.ret (.bool false)) (π.call 74 #[(.agg #[(.int .i64 x109), (.string t110), (.slice a111 n112 c113), (.slice a114 n115 c116), (.slice a117 n118 c119)]), (.int .i64 x124)] (false, [(false, [.int .i64])]) fun (((x129 : Int), _), _) => π.ite (decide (x129 < 0)) (π.ret (.bool false)) (π.nw (Obj.cells #[(.int .i64 x122)] 3 (0, 0)) fun r130 => π.app 3 1 8 [(.int .i64 0)] a105 n106 c107 (Src.sl (some (Addr.mk r130 0 none)) 1) fun a131 n132 c133 => again99 ((x100, x101, (a102, n103, c104), ()), ((a131, n132, c133), ()), (x108, ()), (x109, t110, (a111, n112, c113), (a114, n115, c116), (a117, n118, c119), ()), (i64.wrap (x120 + 1), ()), ()))))))) (π.loop [(true, [.int .i64, .int .i64, .slice]), (false, [.slice]), (false, [.int .i64]), (true, [.int .i64, .str, .slice, .slice, .slice]), (false, [.int .i64])] ((x100, x101, (a102, n103, c104), ()), ((a105, n106, c107), ()), (x108, ()), (x109, t110, (a111, n112, c113), (a114, n115, c116), (a117, n118, c119), ()), ((0 : Int), ()), ()) fun (((x135 : Int), (x136 : Int), ((a137 : OA), (n138 : Nat), (c139 : Nat)), _), (((a140 : OA), (n141 : Nat), (c142 : Nat)), _), ((x143 : Int), _), ((x144 : Int), (t145 : BA), ((a146 : OA), (n147 : Nat), (c148 : Nat)), ((a149 : OA), (n150 : Nat), (c151 : Nat)), ((a152 : OA), (n153 : Nat), (c154 : Nat)), _), ((x155 : Int), _), _) again134 =>
 π.ite (decide (x155 < (↑n153 : Int))) (π.guard (0 ≤ x155 ∧ x155 < (↑n153 : Int)) <| π.aa a152 fun p156 => π.ld [.int .i64, .str, .int .i64, .int .i64, .int .i64] (p156.add (x155.toNat * 5)) fun ((x157 : Int), (t158 : BA), (x159 : Int), (x160 : Int), (x161 : Int), _) => π.call 75 #[(.agg #[(.int .i64 x135), (.int .i64 x136), (.slice a137 n138 c139)]), (.int .i64 x160)] (false, [(false, [.int .i64])]) fun (((x162 : Int), _), _) => π.call 74 #[(.agg #[(.int .i64 x144), (.string t145), (.slice a146 n147 c148), (.slice a149 n150 c151), (.slice a152 n153 c154)]), (.int .i64 x159)] (false, [(false, [.int .i64])]) fun (((x163 : Int), _), _) => π.join [(true, [.int .i64, .int .i64, .slice]), (false, [.slice]), (false, [.int .i64]), (true, [.int .i64, .str, .slice, .slice, .slice]), (false, [.int .i64]), (true, [.int .i64, .str, .int .i64, .int .i64, .int .i64]), (false, [.int .i64]), (false, [.int .i64])] (fun J164 => π.call 68 #[(.string t158)] (false, [(false, [.bool])]) fun (((b165 : Bool), _), _) => π.ite (!b165) (π.ret (.bool false)) (π.call 76 #[(.agg #[(.int .i64 x144), (.string t145), (.slice a146 n147 c148), (.slice a149 n150 c151), (.slice a152 n153 c154)]), (.string t158)] (false, [(false, [.int .i64])]) fun (((x166 : Int), _), _) => π.ite (x166 != x155) (π.ret (.bool false)) (π.ite (decide (x161 < 1)) (π.ret (.bool false)) (π.ite (decide (x161 > 3)) (π.ret (.bool false)) (π.ite (decide (x163 < 0)) (π.ret (.bool false)) (π.ite (decide (x162 < 0)) (π.ret (.bool false)) (J164 ((x135, x136, (a137, n138, c139), ()), ((a140, n141, c142), ()), (x143, ()), (x144, t145, (a146, n147, c148), (a149, n150, c151), (a152, n153, c154), ()), (x155, ()), (x157, t158, x159, x160, x161, ()), (x162, ()), (x163, ()), ())))))))) (fun (((x167 : Int), (x168 : Int), ((a169 : OA), (n170 : Nat), (c171 : Nat)), _), (((a172 : OA), (n173 : Nat), (c174 : Nat)), _), ((x175 : Int), _), ((x176 : Int), (t177 : BA), ((a178 : OA), (n179 : Nat), (c180 : Nat)), ((a181 : OA), (n182 : Nat), (c183 : Nat)), ((a184 : OA), (n185 : Nat), (c186 : Nat)), _), ((x187 : Int), _), ((x188 : Int), (t189 : BA), (x190 : Int), (x191 : Int), (x192 : Int), _), ((x193 : Int), _), ((x194 : Int), _), _) =>
 π.guard (0 ≤ x193 ∧ x193 < (↑n170 : Int)) <| π.aa a169 fun p195 => π.ld [.slice] ((p195.add (x193.toNat * 5)).add 2) fun (((a196 : OA), (n197 : Nat), (c198 : Nat)), _) => π.ite ((↑n197 : Int) == 0) (π.ret (.bool false)) (π.guard (0 ≤ x193 ∧ x193 < (↑n170 : Int)) <| π.aa a169 fun p199 => π.ld [.slice] ((p199.add (x193.toNat * 5)).add 2) fun (((a200 : OA), (n201 : Nat), (c202 : Nat)), _) => π.guard ((0 : Int) ≤ 0 ∧ 0 < (↑n201 : Int)) <| π.aa a200 fun p203 => π.ld [.int .i64] ((p203.add 0).add 2) fun ((x204 : Int), _) => π.guard (0 ≤ x194 ∧ x194 < (↑n179 : Int)) <| π.aa a178 fun p205 => π.ld [.int .i64] ((p205.add (x194.toNat * 7)).add 2) fun ((x206 : Int), _) => π.ite (x204 != x206) (π.ret (.bool false)) (π.nw (Obj.cells #[(.int .i64 x188)] 3 (0, 0)) fun r207 => π.app 3 1 8 [(.int .i64 0)] a172 n173 c174 (Src.sl (some (Addr.mk r207 0 none)) 1) fun a208 n209 c210 => again134 ((x167, x168, (a169, n170, c171), ()), ((a208, n209, c210), ()), (x175, ()), (x176, t177, (a178, n179, c180), (a181, n182, c183), (a184, n185, c186), ()), (i64.wrap (x187 + 1), ()), ()))))) (again6 ((x135, x136, (a137, n138, c139), ()), ((a140, n141, c142), ()), (i64.wrap (x143 + 1), ()), ())))))) (π.loop [(true, [.int .i64, .int .i64, .slice]), (false, [.slice]), (false, [.int .i64])] ((x7, x8, (a9, n10, c11), ()), ((a12, n13, c14), ()), ((0 : Int), ()), ()) fun (((x212 : Int), (x213 : Int), ((a214 : OA), (n215 : Nat), (c216 : Nat)), _), (((a217 : OA), (n218 : Nat), (c219 : Nat)), _), ((x220 : Int), _), _) again211 =>
 π.ite (decide (x220 < (↑n218 : Int))) (π.join [(true, [.int .i64, .int .i64, .slice]), (false, [.slice]), (false, [.int .i64])] (fun J221 => π.guard (0 ≤ x220 ∧ x220 < (↑n218 : Int)) <| π.aa a217 fun p222 => π.ld [.int .i64] (p222.add (x220.toNat * 1)) fun ((x223 : Int), _) => π.ite (decide (x223 < 1)) (π.ret (.bool false)) (π.guard (0 ≤ x220 ∧ x220 < (↑n218 : Int)) <| π.aa a217 fun p224 => π.ld [.int .i64] (p224.add (x220.toNat * 1)) fun ((x225 : Int), _) => π.ite (decide (x225 > x213)) (π.ret (.bool false)) (J221 ((x212, x213, (a214, n215, c216), ()), ((a217, n218, c219), ()), (x220, ()), ())))) (fun (((x226 : Int), (x227 : Int), ((a228 : OA), (n229 : Nat), (c230 : Nat)), _), (((a231 : OA), (n232 : Nat), (c233 : Nat)), _), ((x234 : Int), _), _) => π.loop [(true, [.int .i64, .int .i64, .slice]), (false, [.slice]), (false, [.int .i64]), (false, [.int .i64])] ((x226, x227, (a228, n229, c230), ()), ((a231, n232, c233), ()), (x234, ()), ((0 : Int), ()), ()) fun (((x236 : Int), (x237 : Int), ((a238 : OA), (n239 : Nat), (c240 : Nat)), _), (((a241 : OA), (n242 : Nat), (c243 : Nat)), _), ((x244 : Int), _), ((x245 : Int), _), _) again235 => π.ite (decide (x245 < x244)) (π.guard (0 ≤ x245 ∧ x245 < (↑n242 : Int)) <| π.aa a241 fun p246 => π.ld [.int .i64] (p246.add (x245.toNat * 1)) fun ((x247 : Int), _) => π.guard (0 ≤ x244 ∧ x244 < (↑n242 : Int)) <| π.aa a241 fun p248 => π.ld [.int .i64] (p248.add (x244.toNat * 1)) fun ((x249 : Int), _) =>
 π.ite (x247 == x249) (π.ret (.bool false)) (again235 ((x236, x237, (a238, n239, c240), ()), ((a241, n242, c243), ()), (x244, ()), (i64.wrap (x245 + 1), ()), ()))) (again211 ((x236, x237, (a238, n239, c240), ()), ((a241, n242, c243), ()), (i64.wrap (x244 + 1), ()), ())))) (π.ret (.bool true))))
theorem FC (sv sl : Int) (sa : OA) (san sac : Nat) : OK 23 [.v (.agg #[.int .i64 sv, .int .i64 sl, .slice sa san sac])] fun _ π => yh π sv sl sa san sac :=
 aZ { ptr := [(1, 1, 0), (5, 5, 0), (7, 7, 0), (9, 9, 0), (11, 11, 0), (16, 1, 0), (20, 1, 0), (25, 1, 1), (30, 1, 1), (35, 1, 2), (41, 1, 2), (47, 1, 2), (52, 5, 1), (58, 5, 1), (65, 5, 2), (71, 5, 2), (77, 5, 3), (83, 5, 4), (89, 5, 0), (94, 5, 2), (100, 5, 2), (105, 7, 1), (111, 7, 1), (118, 7, 3), (123, 7, 3), (131, 7, 3), (137, 7, 2), (143, 7, 4), (145, 7, 2), (151, 7, 0), (156, 5, 3), (162, 5, 3), (167, 9, 1), (173, 9, 1), (180, 9, 4), (185, 9, 4), (191, 9, 2), (197, 9, 0), (202, 5, 4), (208, 5, 4), (214, 11, 3), (218, 11, 2), (221, 11, 1), (227, 11, 1), (234, 11, 4), (239, 11, 4), (251, 1, 2), (260, 1, 2), (269, 5, 2), (278, 11, 0), (298, 1, 1)], ty := [(1, 43), (5, 139), (7, 165), (9, 170), (11, 173)] } { draws := [(33, { A := [0, 1, 2, 3, 4, 5, 6, 7, 8, 9, 10, 11, 12, 13, 14, 15, 16, 17, 18, 19, 20, 21, 22, 23, 24, 25] }), (39, { A := [0, 1, 2, 3, 4, 5, 6, 7, 8, 9, 10, 11, 12, 13] }), (44, { A := [0, 1, 2, 3, 4, 5, 6, 7, 8] })], join := [(3, [(1, 43)]), (10, [(1, 43), (3, 122), (4, 3), (5, 139)]), (33, [(1, 43), (3, 122), (4, 3), (5, 139), (10, 3), (11, 173), (12, 3), (13, 3)]), (41, [(1, 43), (3, 122), (14, 3)])], loop := [(5, [(1, 43), (3, 122), (4, 3)]), (12, [(1, 43), (3, 122), (4, 3), (5, 139), (6, 3)]), (19, [(1, 43), (3, 122), (4, 3), (5, 139), (8, 3)]), (26, [(1, 43), (3, 122), (4, 3), (5, 139), (10, 3)]), (37, [(1, 43), (3, 122), (14, 3)]), (42, [(1, 43), (3, 122), (14, 3), (15, 3)])] } [] Tryz.func23 Tryz.ntmps23 rfl (by kernel_rfl) fun _ π => by kernel_rfl
def vC (sv sl : Int) (sa : OA) (san sac : Nat) (dk : Int) (dt dn dc dp : BA) (du : Bool) (dy vk vn : Int) (vs : BA) (da : OA) (dan dac : Nat) (state : Int) : W :=
 π.call 68 #[(.string dt)] (false, [(false, [.bool])]) fun (((b0 : Bool), _), _) => π.ite (!b0) (π.ret (.tuple #[(.agg #[(.int .i64 sv), (.int .i64 sl), (.slice sa san sac)]), (.int .i64 100)])) (π.loop [(true, [.int .i64, .int .i64, .slice]), (true, [.int .i64, .str, .str, .str, .str, .bool, .int .i64, .int .i64, .int .i64, .str, .slice]), (true, [.int .i64, .int .i64, .slice]), (false, [.int .i64])] ((sv, sl, (sa, san, sac), ()), (dk, dt, dn, dc, dp, du, dy, vk, vn, vs, (da, dan, dac), ()), ((0 : Int), (0 : Int), (none, (0 : Nat), (0 : Nat)), ()), ((0 : Int), ()), ()) fun (((x2 : Int), (x3 : Int), ((a4 : OA), (n5 : Nat), (c6 : Nat)), _), ((x7 : Int), (t8 : BA), (t9 : BA), (t10 : BA), (t11 : BA), (b12 : Bool), (x13 : Int), (x14 : Int), (x15 : Int), (t16 : BA), ((a17 : OA), (n18 : Nat), (c19 : Nat)), _), ((x20 : Int), (x21 : Int), ((a22 : OA), (n23 : Nat), (c24 : Nat)), _), ((x25 : Int), _), _) again1 => π.ite (decide (x25 < (↑n18 : Int))) (π.guard (0 ≤ x25 ∧ x25 < (↑n18 : Int)) <| π.aa a17 fun p26 => π.ld [.str] ((p26.add (x25.toNat * 7)).add 1) fun ((t27 : BA), _) => π.call 68 #[(.string t27)] (false, [(false, [.bool])]) fun (((b28 : Bool), _), _) => π.ite (!b28) (π.ret (.tuple #[(.agg #[(.int .i64 x2), (.int .i64 x3), (.slice a4 n5 c6)]), (.int .i64 100)])) (again1 ((x2, x3, (a4, n5, c6), ()), (x7, t8, t9, t10, t11, b12, x13, x14, x15, t16, (a17, n18, c19), ()), (x20, x21, (a22, n23, c24), ()), (i64.wrap (x25 + 1), ()), ()))) (π.call 69 #[(.agg #[(.int .i64 x2), (.int .i64 x3), (.slice a4 n5 c6)]), (.string t8)] (false, [(false, [.int .i64])]) fun (((x29 : Int), _), _) =>
 π.ite (decide (x29 ≥ 0)) (π.ret (.tuple #[(.agg #[(.int .i64 x2), (.int .i64 x3), (.slice a4 n5 c6)]), (.int .i64 152)])) (π.loop [(true, [.int .i64, .int .i64, .slice]), (true, [.int .i64, .str, .str, .str, .str, .bool, .int .i64, .int .i64, .int .i64, .str, .slice]), (true, [.int .i64, .int .i64, .slice]), (true, [.int .i64, .str, .slice, .slice, .slice]), (false, [.int .i64])] ((x2, x3, (a4, n5, c6), ()), (x7, t8, t9, t10, t11, b12, x13, x14, x15, t16, (a17, n18, c19), ()), (x20, x21, (a22, n23, c24), ()), (i64.wrap (x3 + 1), t8, (a17, n18, c19), (none, (0 : Nat), (0 : Nat)), (none, (0 : Nat), (0 : Nat)), ()), ((0 : Int), ()), ()) fun (((x31 : Int), (x32 : Int), ((a33 : OA), (n34 : Nat), (c35 : Nat)), _), ((x36 : Int), (t37 : BA), (t38 : BA), (t39 : BA), (t40 : BA), (b41 : Bool), (x42 : Int), (x43 : Int), (x44 : Int), (t45 : BA), ((a46 : OA), (n47 : Nat), (c48 : Nat)), _), ((x49 : Int), (x50 : Int), ((a51 : OA), (n52 : Nat), (c53 : Nat)), _), ((x54 : Int), (t55 : BA), ((a56 : OA), (n57 : Nat), (c58 : Nat)), ((a59 : OA), (n60 : Nat), (c61 : Nat)), ((a62 : OA), (n63 : Nat), (c64 : Nat)), _), ((x65 : Int), _), _) again30 => π.ite (decide (x65 < (↑n47 : Int))) (π.guard (0 ≤ x65 ∧ x65 < (↑n47 : Int)) <| π.aa a46 fun p66 => π.ld [.str] ((p66.add (x65.toNat * 7)).add 1) fun ((t67 : BA), _) => π.bU 70 #[(.agg #[(.int .i64 x54), (.string t55), (.slice a56 n57 c58), (.slice a59 n60 c61), (.slice a62 n63 c64)]), (.string t67)] (false, [(false, [.int .i64])]) fun (((x68 : Int), _), _) =>
 π.ite (x68 != x65) (π.ret (.tuple #[(.agg #[(.int .i64 x31), (.int .i64 x32), (.slice a33 n34 c35)]), (.int .i64 152)])) (again30 ((x31, x32, (a33, n34, c35), ()), (x36, t37, t38, t39, t40, b41, x42, x43, x44, t45, (a46, n47, c48), ()), (x49, x50, (a51, n52, c53), ()), (x54, t55, (a56, n57, c58), (a59, n60, c61), (a62, n63, c64), ()), (i64.wrap (x65 + 1), ()), ()))) (π.join [(true, [.int .i64, .int .i64, .slice]), (true, [.int .i64, .str, .str, .str, .str, .bool, .int .i64, .int .i64, .int .i64, .str, .slice]), (true, [.int .i64, .int .i64, .slice]), (true, [.int .i64, .str, .slice, .slice, .slice])] (fun J69 => π.ite (decide ((↑n34 : Int) ≥ 6)) (π.ret (.tuple #[(.agg #[(.int .i64 x31), (.int .i64 x32), (.slice a33 n34 c35)]), (.int .i64 156)])) (π.ite ((↑n47 : Int) == 0) (π.ret (.tuple #[(.agg #[(.int .i64 x31), (.int .i64 x32), (.slice a33 n34 c35)]), (.int .i64 156)])) (π.ite (decide ((↑n47 : Int) > 8)) (π.ret (.tuple #[(.agg #[(.int .i64 x31), (.int .i64 x32), (.slice a33 n34 c35)]), (.int .i64 156)])) (J69 ((x31, x32, (a33, n34, c35), ()), (x36, t37, t38, t39, t40, b41, x42, x43, x44, t45, (a46, n47, c48), ()), (x49, x50, (a51, n52, c53), ()), (x54, t55, (a56, n57, c58), (a59, n60, c61), (a62, n63, c64), ()), ()))))) (fun (((x70 : Int), (x71 : Int), ((a72 : OA), (n73 : Nat), (c74 : Nat)), _), ((x75 : Int), (t76 : BA), (t77 : BA), (t78 : BA), (t79 : BA), (b80 : Bool), (x81 : Int), (x82 : Int), (x83 : Int), (t84 : BA), ((a85 : OA), (n86 : Nat), (c87 : Nat)), _), ((x88 : Int), (x89 : Int), ((a90 : OA), (n91 : Nat), (c92 : Nat)), _), ((x93 : Int), (t94 : BA), ((a95 : OA), (n96 : Nat), (c97 : Nat)), ((a98 : OA), (n99 : Nat), (c100 : Nat)), ((a101 : OA), (n102 : Nat), (c103 : Nat)), _), _) =>
 π.loop [(true, [.int .i64, .int .i64, .slice]), (true, [.int .i64, .str, .str, .str, .str, .bool, .int .i64, .int .i64, .int .i64, .str, .slice]), (true, [.int .i64, .int .i64, .slice]), (true, [.int .i64, .str, .slice, .slice, .slice]), (false, [.int .i64])] ((x70, x71, (a72, n73, c74), ()), (x75, t76, t77, t78, t79, b80, x81, x82, x83, t84, (a85, n86, c87), ()), (x88, x89, (a90, n91, c92), ()), (x93, t94, (none, (0 : Nat), (0 : Nat)), (a98, n99, c100), (a101, n102, c103), ()), ((0 : Int), ()), ()) fun (((x105 : Int), (x106 : Int), ((a107 : OA), (n108 : Nat), (c109 : Nat)), _), ((x110 : Int), (t111 : BA), (t112 : BA), (t113 : BA), (t114 : BA), (b115 : Bool), (x116 : Int), (x117 : Int), (x118 : Int), (t119 : BA), ((a120 : OA), (n121 : Nat), (c122 : Nat)), _), ((x123 : Int), (x124 : Int), ((a125 : OA), (n126 : Nat), (c127 : Nat)), _), ((x128 : Int), (t129 : BA), ((a130 : OA), (n131 : Nat), (c132 : Nat)), ((a133 : OA), (n134 : Nat), (c135 : Nat)), ((a136 : OA), (n137 : Nat), (c138 : Nat)), _), ((x139 : Int), _), _) again104 => π.ite (decide (x139 < (↑n121 : Int))) (π.guard (0 ≤ x139 ∧ x139 < (↑n121 : Int)) <| π.aa a120 fun p140 => π.ld [.int .i64] ((p140.add (x139.toNat * 7)).add 2) fun ((x141 : Int), _) => π.call 71 #[(.int .i64 x141)] (false, [(false, [.bool])]) fun (((b142 : Bool), _), _) => π.ite (!b142) (π.ret (.tuple #[(.agg #[(.int .i64 x105), (.int .i64 x106), (.slice a107 n108 c109)]), (.int .i64 154)])) (π.guard (0 ≤ x139 ∧ x139 < (↑n121 : Int)) <| π.aa a120 fun p143 =>
 π.ld [.str] ((p143.add (x139.toNat * 7)).add 1) fun ((t144 : BA), _) => π.guard (0 ≤ x139 ∧ x139 < (↑n121 : Int)) <| π.aa a120 fun p145 => π.ld [.int .i64] ((p145.add (x139.toNat * 7)).add 2) fun ((x146 : Int), _) => π.nw (Obj.cells #[(.int .i64 (i64.wrap (i64.wrap (x106 + 2) + x139))), (.string t144), (.int .i64 x146), (.int .i64 3), (.int .i64 0), (.int .i64 0), (.string ⟨#[]⟩)] 165 (0, 0)) fun r147 => π.app 165 7 72 [(.int .i64 0), (.string ⟨#[]⟩), (.int .i64 0), (.int .i64 0), (.int .i64 0), (.int .i64 0), (.string ⟨#[]⟩)] a130 n131 c132 (Src.sl (some (Addr.mk r147 0 none)) 1) fun a148 n149 c150 => again104 ((x105, x106, (a107, n108, c109), ()), (x110, t111, t112, t113, t114, b115, x116, x117, x118, t119, (a120, n121, c122), ()), (x123, x124, (a125, n126, c127), ()), (x128, t129, (a148, n149, c150), (a133, n134, c135), (a136, n137, c138), ()), (i64.wrap (x139 + 1), ()), ()))) (π.ite (state != 3) (π.ret (.tuple #[(.agg #[(.int .i64 x105), (.int .i64 x106), (.slice a107 n108 c109)]), (.int .i64 1)])) (π.nw (Obj.cells #[(.int .i64 x128), (.string t129), (.slice a130 n131 c132), (.slice a133 n134 c135), (.slice a136 n137 c138)] 139 (0, 0)) fun r151 => π.app 139 5 96 [(.int .i64 0), (.string ⟨#[]⟩), (.slice none 0 0), (.slice none 0 0), (.slice none 0 0)] a107 n108 c109 (Src.sl (some (Addr.mk r151 0 none)) 1) fun a152 n153 c154 => π.ret (.tuple #[(.agg #[(.int .i64 x105), (.int .i64 (i64.wrap (i64.wrap (x106 + 1) + (↑n121 : Int)))), (.slice a152 n153 c154)]), (.int .i64 0)]))))))))
theorem DG (sv sl : Int) (sa : OA) (san sac : Nat) (dk : Int) (dt dn dc dp : BA) (du : Bool) (dy vk vn : Int) (vs : BA) (da : OA) (dan dac : Nat) (state : Int) : OK 84 [.v (.agg #[.int .i64 sv, .int .i64 sl, .slice sa san sac]), .v (.agg #[.int .i64 dk, .string dt, .string dn, .string dc, .string dp, .bool du, .int .i64 dy, .int .i64 vk, .int .i64 vn, .string vs, .slice da dan dac]), .v (.int .i64 state)] fun _ π => vC π sv sl sa san sac dk dt dn dc dp du dy vk vn vs da dan dac state :=
 aZ { ptr := [(3, 3, 0), (4, 4, 0), (6, 6, 0), (9, 9, 0), (12, 4, 1), (18, 4, 10), (24, 4, 10), (34, 4, 1), (39, 3, 1), (42, 4, 1), (44, 4, 10), (48, 4, 10), (55, 4, 10), (65, 3, 2), (70, 4, 10), (76, 4, 10), (82, 9, 2), (84, 4, 10), (90, 4, 10), (99, 9, 2), (101, 3, 1), (106, 4, 10), (112, 4, 10), (121, 9, 2), (125, 3, 1), (128, 4, 10), (132, 3, 1), (133, 3, 2), (138, 3, 2)], ty := [(3, 43), (4, 31), (6, 43), (9, 139)] } { draws := [(14, { A := [0, 1, 2, 3, 4, 5, 6, 7, 8, 9], quiet := [7] }), (24, { A := [0, 1, 2, 3, 4, 5, 6, 7, 8, 9, 10, 11, 12, 13, 14, 15, 16, 17, 18, 19], eag := [22] })], join := [(18, [(3, 43), (4, 31), (6, 43), (9, 139)])], loop := [(4, [(3, 43), (4, 31), (6, 43), (8, 3)]), (12, [(3, 43), (4, 31), (6, 43), (9, 139), (10, 3)]), (20, [(3, 43), (4, 31), (6, 43), (9, 139), (11, 3)])] } [] Tryz.func84 Tryz.ntmps84 rfl (by kernel_rfl) fun _ π => by kernel_rfl
def Bh (sv sl : Int) (sa : OA) (san sac : Nat) (dk : Int) (dt dn dc dp : BA) (du : Bool) (dy vk vn : Int) (vs : BA) (da : OA) (dan dac : Nat) (state : Int) : W :=
 π.join [(true, [.int .i64, .int .i64, .slice]), (true, [.int .i64, .str, .str, .str, .str, .bool, .int .i64, .int .i64, .int .i64, .str, .slice]), (true, [.int .i64, .int .i64, .slice])] (fun J0 => π.call 23 #[(.agg #[(.int .i64 sv), (.int .i64 sl), (.slice sa san sac)])] (false, [(false, [.bool])]) fun (((b1 : Bool), _), _) => π.ite (!b1) (π.ret (.tuple #[(.agg #[(.int .i64 0), (.int .i64 0), (.slice none 0 0)]), (.int .i64 100)])) (π.ite (decide (state < 0)) (π.ret (.tuple #[(.agg #[(.int .i64 0), (.int .i64 0), (.slice none 0 0)]), (.int .i64 100)])) (π.ite (decide (state > 3)) (π.ret (.tuple #[(.agg #[(.int .i64 0), (.int .i64 0), (.slice none 0 0)]), (.int .i64 100)])) (J0 ((sv, sl, (sa, san, sac), ()), (dk, dt, dn, dc, dp, du, dy, vk, vn, vs, (da, dan, dac), ()), ((0 : Int), (0 : Int), (none, (0 : Nat), (0 : Nat)), ()), ()))))) (fun (((x2 : Int), (x3 : Int), ((a4 : OA), (n5 : Nat), (c6 : Nat)), _), ((x7 : Int), (t8 : BA), (t9 : BA), (t10 : BA), (t11 : BA), (b12 : Bool), (x13 : Int), (x14 : Int), (x15 : Int), (t16 : BA), ((a17 : OA), (n18 : Nat), (c19 : Nat)), _), ((x20 : Int), (x21 : Int), ((a22 : OA), (n23 : Nat), (c24 : Nat)), _), _) => π.join [(true, [.int .i64, .int .i64, .slice]), (true, [.int .i64, .str, .str, .str, .str, .bool, .int .i64, .int .i64, .int .i64, .str, .slice]), (true, [.int .i64, .int .i64, .slice])] (fun J25 => π.ite (decide (x7 < 1)) (π.ret (.tuple #[(.agg #[(.int .i64 0), (.int .i64 0), (.slice none 0 0)]), (.int .i64 1)])) (π.ite (decide (x7 > 7)) (π.ret (.tuple #[(.agg #[(.int .i64 0), (.int .i64 0), (.slice none 0 0)]), (.int .i64 1)])) (J25 ((x2, x3, (a4, n5, c6), ()), (x7, t8, t9, t10, t11, b12, x13, x14, x15, t16, (a17, n18, c19), ()), (x20, x21, (a22, n23, c24), ()), ())))) (fun (((x26 : Int), (x27 : Int), ((a28 : OA), (n29 : Nat), (c30 : Nat)), _), ((x31 : Int), (t32 : BA), (t33 : BA), (t34 : BA), (t35 : BA), (b36 : Bool), (x37 : Int), (x38 : Int), (x39 : Int), (t40 : BA), ((a41 : OA), (n42 : Nat), (c43 : Nat)), _), ((x44 : Int), (x45 : Int), ((a46 : OA), (n47 : Nat), (c48 : Nat)), _), _) =>
 π.call 83 #[(.agg #[(.int .i64 x26), (.int .i64 x27), (.slice a28 n29 c30)])] (false, [(true, [.int .i64, .int .i64, .slice])]) fun (((x49 : Int), (x50 : Int), ((a51 : OA), (n52 : Nat), (c53 : Nat)), _), _) => π.call 69 #[(.agg #[(.int .i64 (i64.wrap (x49 + 1))), (.int .i64 x50), (.slice a51 n52 c53)]), (.string t32)] (false, [(false, [.int .i64])]) fun (((x54 : Int), _), _) => π.ite (x31 == 1) (π.call 84 #[(.agg #[(.int .i64 (i64.wrap (x49 + 1))), (.int .i64 x50), (.slice a51 n52 c53)]), (.agg #[(.int .i64 x31), (.string t32), (.string t33), (.string t34), (.string t35), (.bool b36), (.int .i64 x37), (.int .i64 x38), (.int .i64 x39), (.string t40), (.slice a41 n42 c43)]), (.int .i64 state)] (true, [(true, [.int .i64, .int .i64, .slice]), (false, [.int .i64])]) fun (((x55 : Int), (x56 : Int), ((a57 : OA), (n58 : Nat), (c59 : Nat)), _), ((x60 : Int), _), _) => π.ite (x60 != 0) (π.ret (.tuple #[(.agg #[(.int .i64 0), (.int .i64 0), (.slice none 0 0)]), (.int .i64 x60)])) (π.ret (.tuple #[(.agg #[(.int .i64 x55), (.int .i64 x56), (.slice a57 n58 c59)]), (.int .i64 0)]))) (π.ite (decide (x54 < 0)) (π.ite true (π.ret (.tuple #[(.agg #[(.int .i64 0), (.int .i64 0), (.slice none 0 0)]), (.int .i64 150)])) (π.ret (.tuple #[(.agg #[(.int .i64 (i64.wrap (x49 + 1))), (.int .i64 x50), (.slice a51 n52 c53)]), (.int .i64 0)]))) (π.join [(true, [.int .i64, .str, .str, .str, .str, .bool, .int .i64, .int .i64, .int .i64, .str, .slice]), (true, [.int .i64, .int .i64, .slice]), (true, [.int .i64, .int .i64, .slice]), (false, [.int .i64]), (false, [.bool])] (fun J61 =>
 π.ite (x31 == 4) (J61 ((x31, t32, t33, t34, t35, b36, x37, x38, x39, t40, (a41, n42, c43), ()), (x44, x45, (a46, n47, c48), ()), (i64.wrap (x49 + 1), x50, (a51, n52, c53), ()), (x54, ()), (true, ()), ())) (J61 ((x31, t32, t33, t34, t35, b36, x37, x38, x39, t40, (a41, n42, c43), ()), (x44, x45, (a46, n47, c48), ()), (i64.wrap (x49 + 1), x50, (a51, n52, c53), ()), (x54, ()), (x31 == 5, ()), ()))) (fun (((x62 : Int), (t63 : BA), (t64 : BA), (t65 : BA), (t66 : BA), (b67 : Bool), (x68 : Int), (x69 : Int), (x70 : Int), (t71 : BA), ((a72 : OA), (n73 : Nat), (c74 : Nat)), _), ((x75 : Int), (x76 : Int), ((a77 : OA), (n78 : Nat), (c79 : Nat)), _), ((x80 : Int), (x81 : Int), ((a82 : OA), (n83 : Nat), (c84 : Nat)), _), ((x85 : Int), _), ((b86 : Bool), _), _) => π.ite b86 (π.call 85 #[(.agg #[(.int .i64 x80), (.int .i64 x81), (.slice a82 n83 c84)]), (.int .i64 x85), (.agg #[(.int .i64 x62), (.string t63), (.string t64), (.string t65), (.string t66), (.bool b67), (.int .i64 x68), (.int .i64 x69), (.int .i64 x70), (.string t71), (.slice a72 n73 c74)]), (.int .i64 state)] (true, [(true, [.int .i64, .int .i64, .slice]), (false, [.int .i64])]) fun (((x87 : Int), (x88 : Int), ((a89 : OA), (n90 : Nat), (c91 : Nat)), _), ((x92 : Int), _), _) => π.ite (x92 != 0) (π.ret (.tuple #[(.agg #[(.int .i64 0), (.int .i64 0), (.slice none 0 0)]), (.int .i64 x92)])) (π.ret (.tuple #[(.agg #[(.int .i64 x87), (.int .i64 x88), (.slice a89 n90 c91)]), (.int .i64 0)]))) (π.join [(true, [.int .i64, .str, .str, .str, .str, .bool, .int .i64, .int .i64, .int .i64, .str, .slice]), (true, [.int .i64, .int .i64, .slice]), (true, [.int .i64, .int .i64, .slice]), (false, [.int .i64]), (false, [.bool])] (fun J93 =>
 π.ite (x62 == 2) (J93 ((x62, t63, t64, t65, t66, b67, x68, x69, x70, t71, (a72, n73, c74), ()), (x75, x76, (a77, n78, c79), ()), (x80, x81, (a82, n83, c84), ()), (x85, ()), (true, ()), ())) (J93 ((x62, t63, t64, t65, t66, b67, x68, x69, x70, t71, (a72, n73, c74), ()), (x75, x76, (a77, n78, c79), ()), (x80, x81, (a82, n83, c84), ()), (x85, ()), (x62 == 3, ()), ()))) (fun (((x94 : Int), (t95 : BA), (t96 : BA), (t97 : BA), (t98 : BA), (b99 : Bool), (x100 : Int), (x101 : Int), (x102 : Int), (t103 : BA), ((a104 : OA), (n105 : Nat), (c106 : Nat)), _), ((x107 : Int), (x108 : Int), ((a109 : OA), (n110 : Nat), (c111 : Nat)), _), ((x112 : Int), (x113 : Int), ((a114 : OA), (n115 : Nat), (c116 : Nat)), _), ((x117 : Int), _), ((b118 : Bool), _), _) => π.ite b118 (π.call 86 #[(.agg #[(.int .i64 x112), (.int .i64 x113), (.slice a114 n115 c116)]), (.int .i64 x117), (.agg #[(.int .i64 x94), (.string t95), (.string t96), (.string t97), (.string t98), (.bool b99), (.int .i64 x100), (.int .i64 x101), (.int .i64 x102), (.string t103), (.slice a104 n105 c106)]), (.int .i64 state)] (true, [(true, [.int .i64, .int .i64, .slice]), (false, [.int .i64])]) fun (((x119 : Int), (x120 : Int), ((a121 : OA), (n122 : Nat), (c123 : Nat)), _), ((x124 : Int), _), _) => π.ite (x124 != 0) (π.ret (.tuple #[(.agg #[(.int .i64 0), (.int .i64 0), (.slice none 0 0)]), (.int .i64 x124)])) (π.ret (.tuple #[(.agg #[(.int .i64 x119), (.int .i64 x120), (.slice a121 n122 c123)]), (.int .i64 0)]))) (π.call 87 #[(.agg #[(.int .i64 x112), (.int .i64 x113), (.slice a114 n115 c116)]), (.int .i64 x117), (.agg #[(.int .i64 x94), (.string t95), (.string t96), (.string t97), (.string t98), (.bool b99), (.int .i64 x100), (.int .i64 x101), (.int .i64 x102), (.string t103), (.slice a104 n105 c106)]), (.int .i64 state)] (true, [(true, [.int .i64, .int .i64, .slice]), (false, [.int .i64])]) fun (((x125 : Int), (x126 : Int), ((a127 : OA), (n128 : Nat), (c129 : Nat)), _), ((x130 : Int), _), _) =>
 π.ite (x130 != 0) (π.ret (.tuple #[(.agg #[(.int .i64 0), (.int .i64 0), (.slice none 0 0)]), (.int .i64 x130)])) (π.ret (.tuple #[(.agg #[(.int .i64 x125), (.int .i64 x126), (.slice a127 n128 c129)]), (.int .i64 0)]))))))))))
theorem HN (sv sl : Int) (sa : OA) (san sac : Nat) (dk : Int) (dt dn dc dp : BA) (du : Bool) (dy vk vn : Int) (vs : BA) (da : OA) (dan dac : Nat) (state : Int) : OK 27 [.v (.agg #[.int .i64 sv, .int .i64 sl, .slice sa san sac]), .v (.agg #[.int .i64 dk, .string dt, .string dn, .string dc, .string dp, .bool du, .int .i64 dy, .int .i64 vk, .int .i64 vn, .string vs, .slice da dan dac]), .v (.int .i64 state)] fun _ π => Bh π sv sl sa san sac dk dt dn dc dp du dy vk vn vs da dan dac state :=
 aZ { ptr := [(3, 3, 0), (4, 4, 0), (6, 6, 0), (8, 8, 0), (23, 4, 0), (27, 4, 0), (34, 8, 0), (37, 8, 0), (39, 4, 1), (51, 4, 0), (65, 4, 0), (69, 4, 0), (82, 4, 0), (86, 4, 0)], ty := [(3, 43), (4, 31), (6, 43), (8, 43)] } { join := [(3, [(3, 43), (4, 31), (6, 43)]), (5, [(3, 43), (4, 31), (6, 43)]), (15, [(4, 31), (6, 43), (8, 43), (10, 3), (64, 4)]), (17, [(4, 31), (6, 43), (8, 43), (10, 3), (81, 4)])],  } [] Tryz.func27 Tryz.ntmps27 rfl (by kernel_rfl) fun _ π => by kernel_rfl
def vl : W :=
 π.nw (Obj.cells #[(.int .i64 0), (.string (ByteArray.mk #[(97 : UInt8)])), (.int .i64 1), (.int .i64 0), (.int .i64 0), (.int .i64 0), (.string ⟨#[]⟩), (.int .i64 0), (.string (ByteArray.mk #[(98 : UInt8)])), (.int .i64 2), (.int .i64 0), (.int .i64 0), (.int .i64 0), (.string ⟨#[]⟩)] 165 (0, 0)) fun r0 => π.ret (.agg #[(.int .i64 1), (.string (ByteArray.mk #[(116 : UInt8)])), (.string ⟨#[]⟩), (.string ⟨#[]⟩), (.string ⟨#[]⟩), (.bool false), (.int .i64 0), (.int .i64 0), (.int .i64 0), (.string ⟨#[]⟩), (.slice (some (Addr.mk r0 0 none)) 2 2)])
theorem Du : OK 28 [] fun _ π => vl π :=
 aZ { ptr := [(0, 0, 0)], ty := [(0, 31)] } {} [] Tryz.func28 Tryz.ntmps28 rfl (by kernel_rfl) fun _ π => by kernel_rfl
end
section
attribute [-simp] Fw.W.bD Fw.W.bB
theorem aN {P : Program} {f : FuncId} {args : Array Value} {r : Bool × List Shape} {k : bX r.2 → W.T} {s : PH} {v0 : Value} (x : bX r.2) (h : bx P f args s fun v s' => v = v0 ∧ s' = s) (hx : gI r x = v0) (hk : k x s) : W.call P f args r k s :=
 W.aq h (by rintro v s' ⟨rfl, rfl⟩; exact ⟨x, hx, hk⟩)
structure pZ (s0 s : PH) (a : OA) (n c : Nat) (l : List Int) : Prop where
 row : bq LZ s 3 a n c l
 fr : ∀ g ∈ Fw.aW a, s0 g = none
 md : Fw.Mod [] s0 s
theorem pZ.nil (s : PH) : pZ s s none 0 0 [] := ⟨⟨by simp, Nat.le_refl _, Nat.zero_le _, .inl ⟨rfl, rfl, rfl⟩⟩, by simp [Fw.aW], Mod.refl _ _⟩
theorem pZ.push {s0 s : PH} {a : OA} {n c : Nat} {l : List Int} {x : Int} {K : OA → Nat → Nat → W.T} (h : pZ s0 s a n c l) (hl : l.length ≤ 4294967296)
  (hK : ∀ a' c' s', pZ s0 s' a' (n + 1) c' (l ++ [x]) → K a' (n + 1) c' s') : W.nw (.cells #[.int .i64 x] 3 (0, 0)) (fun r => W.app 3 1 8 [.int .i64 0] a n c (Src.sl (some ⟨r, 0, none⟩) 1) K) s := by
 refine W.bI fun r s1 hr m1 k1 => ?_;have hmax : maxLen = 9223372036854775807 := rfl;have hn : n = l.length := h.row.len;have hrow := h.row.mod m1 (by simp);refine jk hrow rfl (ys := [x]) (k := 1) ⟨rfl, ?_⟩ rfl rfl (by omega) (by omega) ?_
 ·refine Jq ?_;have := j8 k1 0 (.int .i64 x) (by simp)
  rwa [aV, Nat.zero_add] at this
 ·intro a' c' s' h' hm;refine hK a' c' s' ⟨h', ?_, ?_⟩
  ·rcases hm with ⟨rfl, _⟩ | ⟨g, rfl, hg, _⟩
   ·exact h.fr
   ·intro g' hg'
    have : g' = g := by simpa [Fw.aW] using hg'
    subst this;exact (h.md.trans m1).none hg (by simp)
  ·rcases hm with ⟨rfl, hm⟩ | ⟨g, rfl, hg, hm⟩
   ·exact (h.md.trans m1).fresh hm fun g hg => .inr (h.fr g hg)
   ·exact (h.md.trans m1).trans hm
theorem ct {α : Type} {p : Nat → α → Bool} {xs : List α} : allI p xs = true ↔ ∀ i x, xs[i]? = some x → p i x = true := by
 unfold allI; rw [pX]
 constructor
 ·intro h i x hx; have := h i (List.getElem?_eq_some_iff.1 hx).1; rwa [dD hx] at this
 ·intro h i hi
  obtain ⟨x, hx⟩ : ∃ x, xs[i]? = some x := ⟨_, List.getElem?_eq_getElem hi⟩
  rw [dD hx]; exact h i x hx
theorem jj {α : Type} {p q : Nat → α → Bool} {xs : List α} (h : allI (fun i x => p i x && q i x) xs = true) : allI p xs = true ∧ allI q xs = true := by
 rw [ct] at h;exact ⟨ct.2 fun i x hx => by have := h i x hx; simp only [Bool.and_eq_true] at this; exact this.1, ct.2 fun i x hx => by have := h i x hx; simp only [Bool.and_eq_true] at this; exact this.2⟩
theorem eB {S : aK} : right S = true ↔ jS S = true ∧ S.tabs.length ≤ 6 ∧ allI (dP S.tabs) S.tabs = true ∧ allI (fun _ T => eH S T) S.tabs = true ∧ bf S.last (S.tabs.flatMap bH) [] = true := by
 unfold right cY;simp only [Bool.and_eq_true, decide_eq_true_eq]
 constructor
 ·rintro ⟨a, ⟨_, b, c⟩, d, e⟩; exact ⟨a, by omega, c, d, e⟩
 ·rintro ⟨a, b, c, d, e⟩; exact ⟨a, ⟨by omega, by omega, c⟩, d, e⟩
theorem gr {S : aK} {T : az} : eH S T = true ↔ 1 ≤ T.cols.length ∧ T.cols.length ≤ 8 ∧ T.idxs.length ≤ 8 ∧ T.keys.length ≤ 8 ∧ allI (eO T.cols) T.cols = true ∧ allI (eX T.idxs) T.idxs = true ∧ allI (eW T.keys) T.keys = true ∧
  fC T = true ∧ allI gl T.cols = true ∧ allI (iA T) T.idxs = true ∧ allI (iE S T) T.keys = true := by
 unfold eH cY;simp only [Bool.and_eq_true, decide_eq_true_eq]
 constructor
 ·rintro ⟨⟨a, b, c⟩, ⟨d, e, f⟩, ⟨g, h, i⟩, j, k, l, m⟩; exact ⟨by omega, by omega, by omega, by omega, c, f, i, j, k, l, m⟩
 ·rintro ⟨a, b, c, d, e, f, g, h, i, j, k⟩; exact ⟨⟨by omega, by omega, e⟩, ⟨by omega, by omega, f⟩, ⟨by omega, by omega, g⟩, h, i, j, k⟩
theorem Ig {S : aK} (h : ¬ right S = true) : right S = false := by cases e : right S with
 | false => rfl
 | true => exact absurd e h
theorem K0 {S : aK} {T : az} {j : Nat} {x : cm} (hx : T.cols[j]? = some x) (e : ¬ (eO T.cols j x = true ∧ gl j x = true)) : ¬ eH S T = true := fun r => by
 obtain ⟨_, _, _, _, a, _, _, _, b, _, _⟩ := gr.1 r;exact e ⟨ct.1 a j x hx, ct.1 b j x hx⟩
theorem K1 {S : aK} {T : az} {j : Nat} {x : dx} (hx : T.idxs[j]? = some x) (e : ¬ (eX T.idxs j x = true ∧ iA T j x = true)) : ¬ eH S T = true := fun r => by
 obtain ⟨_, _, _, _, _, a, _, _, _, b, _⟩ := gr.1 r;exact e ⟨ct.1 a j x hx, ct.1 b j x hx⟩
theorem K2 {S : aK} {T : az} {j : Nat} {x : For} (hx : T.keys[j]? = some x) (e : ¬ (eW T.keys j x = true ∧ iE S T j x = true)) : ¬ eH S T = true := fun r => by
 obtain ⟨_, _, _, _, _, _, a, _, _, _, b⟩ := gr.1 r;exact e ⟨ct.1 a j x hx, ct.1 b j x hx⟩
theorem D3 {last : Int} {l : List Int} {k : Nat} (h : bf last l [] = true) : bf last (l.take k) [] = true := by
 rw [← List.take_append_drop k l, jF] at h;simp only [Bool.and_eq_true] at h;exact h.1
theorem sx {α : Type} {p : Nat → α → Bool} {xs : List α} {k : Nat} {x : α} (h : upTo (cq p xs) k = true) (hx : xs[k]? = some x) (hp : p k x = true) : upTo (cq p xs) (k + 1) = true := by
 rw [eT, h, dD hx, hp]; (first | done | rfl)
end
section
abbrev kL (s : BA) : List UInt8 := s.data.toList
def kB (l : List UInt8) : BA := ⟨l.toArray⟩
theorem jy (s : BA) : kB (kL s) = s := by cases s; simp [kB]
theorem dA (l : List UInt8) : kL (kB l) = l := by simp [kL, kB]
theorem dj (s : BA) : (kL s).length = s.size := by rw [Array.length_toList]; (first | done | rfl)
theorem bR (l : List UInt8) : (kB l).size = l.length := by rw [← dj, dA]
theorem qX (a b : BA) : kL (a ++ b) = kL a ++ kL b := by simp [kL]
theorem qW (a b : List UInt8) : kB (a ++ b) = kB a ++ kB b := by
 rw [← jy (kB a ++ kB b), qX, dA, dA]
theorem pI (s : BA) (i j : Nat) : kL (s.extract i j) = (kL s).extract i j := by simp [kL]
theorem mY {a b : BA} (h : kL a = kL b) : a = b := by rw [← jy a, ← jy b, h]
theorem E8 {a b : List UInt8} (h : kB a = kB b) : a = b := by rw [← dA a, ← dA b, h]
theorem ox (s : BA) (i : Nat) : kL (s.extract i s.size) = (kL s).drop i := by
 rw [pI, List.extract_eq_take_drop, List.take_of_length_le (by rw [List.length_drop, dj]; omega)]
theorem iD {s : BA} {i : Nat} (h : i < s.size) : ∃ a, (kL s)[i]? = some a ∧ s[i]?.getD 0 = a := by
 refine ⟨s[i], ?_, ?_⟩
 ·show s.data.toList[i]? = some s.data[i]
  rw [Array.getElem?_toList]; exact Array.getElem?_eq_getElem h
 ·rw [getElem?_pos s i h]; (first | done | rfl)
def fM (n : Nat) : List UInt8 := [UInt8.ofNat (n / 72057594037927936), UInt8.ofNat (n / 281474976710656), UInt8.ofNat (n / 1099511627776), UInt8.ofNat (n / 4294967296), UInt8.ofNat (n / 16777216), UInt8.ofNat (n / 65536), UInt8.ofNat (n / 256), UInt8.ofNat n]
def hY (l : List UInt8) : Nat := l.foldl (fun a b => a * 256 + b.toNat) 0
def n64 (n : Int) : Nat := ((n + 9223372036854775808) % 18446744073709551616).toNat
def jh (n : Nat) : Int := (n : Int) - 9223372036854775808
def eG : List UInt8 → List UInt8
 | [] => []
 | b :: l => if b = 0 then 0 :: 255 :: eG l else b :: eG l
def dS : List UInt8 → Option (List UInt8 × List UInt8)
 | [] => none
 | [_] => none
 | b :: c :: r => if b ≠ 0 then (dS (c :: r)).map fun p => (b :: p.1, p.2) else if c = 255 then (dS r).map fun p => (0 :: p.1, p.2) else if c = 1 then some ([], r) else none
theorem pV {b : UInt8} (h : b ≠ 0) (l : List UInt8) : dS (b :: l) = (dS l).map fun p => (b :: p.1, p.2) := by
 cases l with
 | nil => rfl
 | cons c r => rw [dS, if_pos h]
theorem mN (c : UInt8) (r : List UInt8) : dS (0 :: c :: r) = if c = 255 then (dS r).map fun p => (0 :: p.1, p.2) else if c = 1 then some ([], r) else none := by
 rw [dS, if_neg (by simp)]
def bP (v : aH) : List UInt8 := UInt8.ofNat ((1 + v.kind) % 256).toNat :: (if v.kind = 1 then fM (n64 v.n) else if v.kind = 2 then eG (kL v.s) ++ [0, 1] else [])
def gB : List UInt8 → Option (aH × List UInt8)
 | [] => none
 | b :: l => if b = 1 then some (⟨0, 0, ⟨#[]⟩⟩, l) else if b = 2 then (if l.length < 8 then none else some (⟨1, jh (hY (l.take 8)), ⟨#[]⟩⟩, l.drop 8))
  else if b = 3 then (dS l).map fun p => (⟨2, 0, kB p.1⟩, p.2) else none
def lq : Nat → List UInt8 → List aH → Option (List aH)
 | 0, _, _ => none
 | f + 1, l, acc => if l = [] then some acc else if acc.length = 8 then none else match gB l with
  | none => none
  | some (v, r) => if bA v = true then lq f r (acc ++ [v]) else none
def de (x : BA) : Option (List aH) := lq (x.size + 1) (kL x) []
def nA (l : List aH) : Bool := l.any fun v => !bA v
def keyOf (l : List aH) : BA × Int := if 8 < l.length then (⟨#[]⟩, 21) else if nA l = true then (⟨#[]⟩, 10) else (kB (l.flatMap bP), 0)
theorem Ke {n : Nat} (h : n < 18446744073709551616) : hY (fM n) = n := by
 simp only [hY, fM, List.foldl_cons, List.foldl_nil, UInt8.toNat_ofNat'];omega
theorem I1 {l : List UInt8} (h : l.length = 8) : fM (hY l) = l := by
 match l, h with
 | [a, b, c, d, e, f, g, i], _ =>
  simp only [hY, fM, List.foldl_cons, List.foldl_nil];have ha := a.toNat_lt;have hb := b.toNat_lt;have hc := c.toNat_lt;have hd := d.toNat_lt;have he := e.toNat_lt;have hf := f.toNat_lt;have hg := g.toNat_lt;have hi := i.toNat_lt
  refine List.cons_eq_cons.2 ⟨?_, List.cons_eq_cons.2 ⟨?_, List.cons_eq_cons.2 ⟨?_, List.cons_eq_cons.2 ⟨?_, List.cons_eq_cons.2 ⟨?_, List.cons_eq_cons.2 ⟨?_, List.cons_eq_cons.2 ⟨?_, List.cons_eq_cons.2 ⟨?_, rfl⟩⟩⟩⟩⟩⟩⟩⟩ <;>
   (apply UInt8.toNat_inj.1; rw [UInt8.toNat_ofNat']; omega)
theorem Gf {l : List UInt8} (h : l.length = 8) : hY l < 18446744073709551616 := by
 match l, h with
 | [a, b, c, d, e, f, g, i], _ =>
  simp only [hY, List.foldl_cons, List.foldl_nil];have ha := a.toNat_lt;have hb := b.toNat_lt;have hc := c.toNat_lt;have hd := d.toNat_lt;have he := e.toNat_lt;have hf := f.toNat_lt;have hg := g.toNat_lt;have hi := i.toNat_lt;omega
def gf (n : Int) : Prop := -9223372036854775808 ≤ n ∧ n ≤ 9223372036854775807
theorem Jt {n : Int} (h : gf n) : jh (n64 n) = n := by unfold jh n64; obtain ⟨h1, h2⟩ := h; omega
theorem JA {n : Nat} (h : n < 18446744073709551616) : n64 (jh n) = n := by unfold jh n64; omega
theorem Ah (n : Int) : n64 n < 18446744073709551616 := by unfold n64; omega
theorem Lv {n : Nat} (h : n < 18446744073709551616) : gf (jh n) := by unfold gf jh; omega
theorem xO : ∀ (l r : List UInt8), dS (eG l ++ 0 :: 1 :: r) = some (l, r)
 | [], r => by
  show dS (0 :: 1 :: r) = _
  rw [mN]; (first | done | rfl)
 | b :: l, r => by
  have ih := xO l r
  by_cases hb : b = 0
  ·subst hb
   show dS (0 :: 255 :: (eG l ++ 0 :: 1 :: r)) = _
   rw [mN, if_pos rfl, ih]; (first | done | rfl)
  ·rw [eG, if_neg hb, List.cons_append, pV hb, ih]; (first | done | rfl)
theorem qI : ∀ (n : Nat) (l p r : List UInt8), l.length ≤ n → dS l = some (p, r) → l = eG p ++ 0 :: 1 :: r
 | 0, [], p, r, _, h => by simp [dS] at h
 | 0, _ :: _, p, r, hn, h => by simp at hn
 | n + 1, [], p, r, _, h => by simp [dS] at h
 | n + 1, b :: l, p, r, hn, h => by
  simp only [List.length_cons] at hn
  by_cases hb : b = 0
  ·subst hb
   match l, h, hn with
   | [], h, _ => simp [dS] at h
   | c :: l, h, hn =>
    simp only [List.length_cons] at hn;rw [mN] at h
    split at h
    ·rename_i hc
     subst hc
     cases hu : dS l with
     | none => rw [hu] at h; simp at h
     | some q =>
      obtain ⟨q1, q2⟩ := q;rw [hu] at h;simp only [Option.map_some, Option.some.injEq, Prod.mk.injEq] at h;obtain ⟨rfl, rfl⟩ := h;have := qI n l _ _ (by omega) hu;simp [eG, ← this]
    ·split at h
     ·rename_i hc
      simp only [Option.some.injEq, Prod.mk.injEq] at h;obtain ⟨rfl, rfl⟩ := h;subst hc;simp [eG]
     ·cases h
  ·rw [pV hb] at h
   cases hu : dS l with
   | none => rw [hu] at h; simp at h
   | some q =>
    obtain ⟨q1, q2⟩ := q;rw [hu] at h;simp only [Option.map_some, Option.some.injEq, Prod.mk.injEq] at h;obtain ⟨rfl, rfl⟩ := h;have := qI n l _ _ (by omega) hu;simp [eG, hb, ← this]
theorem pY {v : aH} (h : bA v = true) : v.kind = 0 ∨ v.kind = 1 ∨ v.kind = 2 := by
 unfold bA at h
 split at h
 ·exact .inl ‹_›
 ·split at h
  ·exact .inr (.inl ‹_›)
  ·split at h
   ·exact .inr (.inr ‹_›)
   ·cases h
def dg (v : aH) : Prop := bA v = true ∧ gf v.n
theorem tE {v : aH} (h : dg v) (r : List UInt8) : gB (bP v ++ r) = some (v, r) := by
 obtain ⟨h, hn⟩ := h;obtain ⟨k, n, s⟩ := v;unfold bA at h;dsimp only at h hn;rcases Decidable.em (k = 0) with hk | hk
 ·subst hk;simp at h;obtain ⟨rfl, rfl⟩ := h;simp [bP, gB]
 ·rcases Decidable.em (k = 1) with hk1 | hk1
  ·subst hk1;simp at h;subst h;have hl : (fM (n64 n)).length = 8 := rfl;have h2 : (UInt8.ofNat ((1 + (1 : Int)) % 256).toNat) = 2 := rfl;simp only [bP, h2, List.cons_append, gB, if_true];rw [if_neg (by decide), if_neg (by simp [hl])];rw [List.take_append_of_le_length (by omega), List.drop_append_of_le_length (by omega), List.take_of_length_le (by omega), List.drop_of_length_le (by omega), Ke (Ah n), Jt hn]
   first | done | rfl
  ·rcases Decidable.em (k = 2) with hk2 | hk2
   ·subst hk2;simp at h;obtain ⟨rfl, h2⟩ := h;have h3 : (UInt8.ofNat ((1 + (2 : Int)) % 256).toNat) = 3 := rfl
    have h4 : bP ⟨2, 0, s⟩ ++ r = 3 :: (eG (kL s) ++ 0 :: 1 :: r) := by
     unfold bP;dsimp only;rw [if_neg (by decide : ¬ (2 : Int) = 1), if_pos rfl, h3];simp
    rw [h4, gB, if_neg (by decide), if_neg (by decide), if_pos rfl, xO];simp [jy]
   ·rw [if_neg hk, if_neg hk1, if_neg hk2] at h;cases h
theorem um {l r : List UInt8} {v : aH} (h : gB l = some (v, r)) : l = bP v ++ r ∧ gf v.n ∧ (v.kind = 0 ∨ v.kind = 1 ∨ v.kind = 2) := by
 match l, h with
 | b :: l, h =>
  rw [gB] at h
  split at h
  ·rename_i hb
   subst hb;simp only [Option.some.injEq, Prod.mk.injEq] at h;obtain ⟨rfl, rfl⟩ := h;exact ⟨rfl, ⟨by decide, by decide⟩, .inl rfl⟩
  ·split at h
   ·rename_i hb
    subst hb
    split at h
    ·cases h
    ·rename_i hl
     simp only [Option.some.injEq, Prod.mk.injEq] at h;obtain ⟨rfl, rfl⟩ := h
     have h8 : (l.take 8).length = 8 := by rw [List.length_take]; omega
     refine ⟨?_, Lv (Gf h8), .inr (.inl rfl)⟩;simp only [bP, if_true];rw [JA (Gf h8), I1 h8]
     show (2 : UInt8) :: l = 2 :: (l.take 8 ++ l.drop 8)
     rw [List.take_append_drop]
   ·split at h
    ·rename_i hb
     subst hb
     cases hu : dS l with
     | none => rw [hu] at h; simp at h
     | some q =>
      obtain ⟨q1, q2⟩ := q;rw [hu] at h;simp only [Option.map_some, Option.some.injEq, Prod.mk.injEq] at h;obtain ⟨rfl, rfl⟩ := h;refine ⟨?_, ⟨(by decide : (-9223372036854775808 : Int) ≤ 0), (by decide : (0 : Int) ≤ 9223372036854775807)⟩, .inr (.inr rfl)⟩;have := qI _ l _ _ (Nat.le_refl _) hu;rw [this];unfold bP;dsimp only;rw [if_neg (by decide : ¬ (2 : Int) = 1), if_pos rfl, dA, List.cons_append, List.append_assoc]
      first | done | rfl
    ·cases h
theorem uk (v : aH) : 0 < (bP v).length := by unfold bP; simp
theorem qE {l r : List UInt8} {v : aH} (h : gB l = some (v, r)) : r.length < l.length := by
 have := (um h).1;have h2 := uk v;rw [this, List.length_append]; omega
theorem z6 : ∀ (f : Nat) (l acc : List aH), (∀ v ∈ l, dg v) → acc.length + l.length ≤ 8 → l.length < f → lq f (l.flatMap bP) acc = some (acc ++ l)
 | 0, l, acc, _, _, h => by omega
 | f + 1, [], acc, _, _, _ => by simp [lq]
 | f + 1, v :: l, acc, h, hl, hf => by
  simp only [List.length_cons] at hl hf
  have hne : (v :: l).flatMap bP ≠ [] := by
   have := uk v;intro e;rw [List.flatMap_cons, List.append_eq_nil_iff] at e;rw [e.1] at this; simp at this
  rw [lq, if_neg hne, if_neg (by omega), List.flatMap_cons, tE (h v (by simp))];simp only [(h v (by simp)).1, if_true];rw [z6 f l (acc ++ [v]) (fun x hx => h x (by simp [hx])) (by simp; omega) (by omega)];simp
theorem zK : ∀ (f : Nat) (x : List UInt8) (acc l : List aH), lq f x acc = some l → acc.length ≤ 8 → ∃ m, l = acc ++ m ∧ x = m.flatMap bP ∧ (∀ v ∈ m, dg v) ∧ l.length ≤ 8
 | 0, x, acc, l, h, _ => by simp [lq] at h
 | f + 1, x, acc, l, h, h8 => by
  rw [lq] at h
  split at h
  ·rename_i hx
   simp only [Option.some.injEq] at h;subst h;exact ⟨[], by simp, by simp [hx], by simp, h8⟩
  ·split at h
   ·cases h
   ·rename_i ha
    cases hd : gB x with
    | none => rw [hd] at h; simp at h
    | some q =>
     obtain ⟨v, r⟩ := q;rw [hd] at h;simp only at h
     split at h
     ·rename_i hv
      obtain ⟨m, e1, e2, e3, e4⟩ := zK f r (acc ++ [v]) l h (by simp; omega);obtain ⟨g1, g2, _⟩ := um hd;refine ⟨v :: m, by simp [e1], by rw [g1, e2]; simp, ?_, e4⟩;intro y hy;rcases List.mem_cons.1 hy with rfl | hy
      ·exact ⟨hv, g2⟩
      ·exact e3 y hy
     ·cases h
theorem pJ {l : List aH} (h : ∀ v ∈ l, dg v) (h8 : l.length ≤ 8) : de (kB (l.flatMap bP)) = some l := by
 unfold de;rw [bR, dA]
 have hlen : ∀ l : List aH, l.length ≤ (l.flatMap bP).length := by
  intro l
  induction l with
  | nil => simp
  | cons v l ih =>
   have := uk v;rw [List.flatMap_cons, List.length_append, List.length_cons]; omega
 rw [z6 _ l [] h (by simpa using h8) (by have := hlen l; omega)];simp
theorem gU {x : BA} {l : List aH} (h : de x = some l) : x = kB (l.flatMap bP) ∧ (∀ v ∈ l, dg v) ∧ l.length ≤ 8 := by
 obtain ⟨m, e1, e2, e3, e4⟩ := zK _ _ _ _ h (by simp);simp only [List.nil_append] at e1;subst e1;exact ⟨by rw [← e2, jy], e3, e4⟩
theorem GC {l : List aH} (h : ∀ v ∈ l, bA v = true) : nA l = false := by
 unfold nA;rw [List.any_eq_false];intro v hv;simp [h v hv]
theorem jq {l : List aH} (h : ∀ v ∈ l, bA v = true) (h8 : l.length ≤ 8) : keyOf l = (kB (l.flatMap bP), 0) := by
 unfold keyOf;rw [if_neg (by omega), if_neg (by rw [GC h]; decide)]
theorem tG : ∀ {l m : List aH} {x y : List UInt8}, (∀ v ∈ l, dg v) → (∀ v ∈ m, dg v) → l.length = m.length → l.flatMap bP ++ x = m.flatMap bP ++ y → l = m ∧ x = y
 | [], [], x, y, _, _, _, h => ⟨rfl, by simpa using h⟩
 | v :: l, w :: m, x, y, h1, h2, hl, h => by
  rw [List.flatMap_cons, List.flatMap_cons, List.append_assoc, List.append_assoc] at h;have e1 := tE (h1 v (by simp)) (l.flatMap bP ++ x);have e2 := tE (h2 w (by simp)) (m.flatMap bP ++ y);rw [h, e2] at e1;simp only [Option.some.injEq, Prod.mk.injEq] at e1;obtain ⟨rfl, e⟩ := e1;obtain ⟨rfl, rfl⟩ := tG (fun v hv => h1 v (by simp [hv])) (fun v hv => h2 v (by simp [hv])) (by simpa using hl) e.symm;exact ⟨rfl, rfl⟩
end
section
variable {W : Type} (π : gv W)
open Fw.W
def Cx (b : OA) (bn bc : Nat) (vk vn : Int) (vs : BA) : W :=
 π.nw (Obj.cells #[(.int .u8 (u8.wrap (i64.wrap ((1 : Int) + vk))))] 5 (0, 0)) fun r0 => π.app 5 1 1 [(.int .u8 0)] b bn bc (Src.sl (some (Addr.mk r0 0 none)) 1) fun a1 n2 c3 => π.ite (vk == 1) (π.loop [(false, [.slice]), (false, [.int .u64]), (false, [.int .i64])] (((a1, n2, c3), ()), (u64.wrap (↑(BitVec.ofInt (64 : Nat) (u64.wrap vn) ^^^ BitVec.ofInt (64 : Nat) (9223372036854775808 : Int)).toNat : Int), ()), ((56 : Int), ()), ()) fun ((((a5 : OA), (n6 : Nat), (c7 : Nat)), _), ((x8 : Int), _), ((x9 : Int), _), _) again4 => π.ite (decide (x9 ≥ 0)) (π.guard (0 ≤ x9) <| π.nw (Obj.cells #[(.int .u8 (u8.wrap (if false = true then u64.wrap (x8 * 2 ^ min x9.toNat (64 : Nat)) else x8.fdiv ((2 : Int) ^ min x9.toNat (64 : Nat)))))] 5 (0, 0)) fun r10 => π.app 5 1 1 [(.int .u8 0)] a5 n6 c7 (Src.sl (some (Addr.mk r10 0 none)) 1) fun a11 n12 c13 => again4 (((a11, n12, c13), ()), (x8, ()), (i64.wrap (x9 - 8), ()), ())) (π.ret (.slice a5 n6 c7))) (π.ite (vk == 2) (π.loop [(false, [.slice]), (true, [.int .i64, .int .i64, .str]), (false, [.int .i64]), (false, [.int .i64])] (((a1, n2, c3), ()), (vk, vn, vs, ()), ((↑vs.size : Int), ()), ((0 : Int), ()), ()) fun ((((a15 : OA), (n16 : Nat), (c17 : Nat)), _), ((x18 : Int), (x19 : Int), (t20 : BA), _), ((x21 : Int), _), ((x22 : Int), _), _) again14 => π.ite (decide (x22 < x21)) (π.guard (0 ≤ x22 ∧ x22 < (↑t20.size : Int)) <| π.nw (Obj.cells #[(.int .u8 ((↑(t20[x22.toNat]?.getD 0).toNat : Int)))] 5 (0, 0)) fun r23 =>
 π.app 5 1 1 [(.int .u8 0)] a15 n16 c17 (Src.sl (some (Addr.mk r23 0 none)) 1) fun a24 n25 c26 => π.guard (0 ≤ x22 ∧ x22 < (↑t20.size : Int)) <| π.ite ((↑(t20[x22.toNat]?.getD 0).toNat : Int) == 0) (π.nw (Obj.cells #[(.int .u8 255)] 5 (0, 0)) fun r27 => π.app 5 1 1 [(.int .u8 0)] a24 n25 c26 (Src.sl (some (Addr.mk r27 0 none)) 1) fun a28 n29 c30 => again14 (((a28, n29, c30), ()), (x18, x19, t20, ()), (x21, ()), (i64.wrap (x22 + 1), ()), ())) (again14 (((a24, n25, c26), ()), (x18, x19, t20, ()), (x21, ()), (i64.wrap (x22 + 1), ()), ()))) (π.nw (Obj.cells #[(.int .u8 0), (.int .u8 1)] 5 (0, 0)) fun r31 => π.app 5 1 1 [(.int .u8 0)] a15 n16 c17 (Src.sl (some (Addr.mk r31 0 none)) 2) fun a32 n33 c34 => π.ret (.slice a32 n33 c34))) (π.ret (.slice a1 n2 c3)))
theorem JG (b : OA) (bn bc : Nat) (vk vn : Int) (vs : BA) : OK 255 [.v (.slice b bn bc), .v (.agg #[.int .i64 vk, .int .i64 vn, .string vs])] fun _ π => Cx π b bn bc vk vn vs :=
 aZ { ptr := [(3, 3, 0), (9, 3, 0), (15, 3, 0), (19, 3, 1), (36, 3, 2), (43, 3, 2), (49, 3, 2)], ty := [(3, 28)] } { loop := [(11, [(0, 185), (3, 28), (38, 3), (39, 3)]), (6, [(0, 185), (5, 213), (6, 3)])] } [0] Tryz.func255 Tryz.ntmps255 rfl (by kernel_rfl) fun _ π => by kernel_rfl
def vu (a : OA) (an ac : Nat) : W :=
 π.ite (decide ((↑an : Int) > 8)) (π.ret (.tuple #[(.string ⟨#[]⟩), (.int .i64 21)])) (π.loop [(false, [.slice]), (false, [.slice]), (false, [.int .i64]), (false, [.int .i64])] (((none, (0 : Nat), (0 : Nat)), ()), ((a, an, ac), ()), ((↑an : Int), ()), ((0 : Int), ()), ()) fun ((((a1 : OA), (n2 : Nat), (c3 : Nat)), _), (((a4 : OA), (n5 : Nat), (c6 : Nat)), _), ((x7 : Int), _), ((x8 : Int), _), _) again0 => π.ite (decide (x8 < x7)) (π.guard (0 ≤ x8 ∧ x8 < (↑n5 : Int)) <| π.aa a4 fun p9 => π.ld [.int .i64, .int .i64, .str] (p9.add (x8.toNat * 3)) fun ((x10 : Int), (x11 : Int), (t12 : BA), _) => π.call 199 #[(.agg #[(.int .i64 x10), (.int .i64 x11), (.string t12)])] (false, [(false, [.int .i64])]) fun (((x13 : Int), _), _) => π.ite (x13 != 0) (π.ret (.tuple #[(.string ⟨#[]⟩), (.int .i64 x13)])) (π.call 255 #[(.slice a1 n2 c3), (.agg #[(.int .i64 x10), (.int .i64 x11), (.string t12)])] (false, [(false, [.slice])]) fun ((((a14 : OA), (n15 : Nat), (c16 : Nat)), _), _) => again0 (((a14, n15, c16), ()), ((a4, n5, c6), ()), (x7, ()), (i64.wrap (x8 + 1), ()), ()))) (π.j4 a1 n2 fun t17 => π.ret (.tuple #[(.string t17), (.int .i64 0)])))
theorem DA (a : OA) (an ac : Nat) : OK 216 [.v (.slice a an ac)] fun _ π => vu π a an ac :=
 aZ { ptr := [(6, 6, 0)], ty := [(6, 28)] } { loop := [(5, [(4, 185), (11, 125), (12, 3), (13, 3)])] } [] Tryz.func216 Tryz.ntmps216 rfl (by kernel_rfl) fun _ π => by kernel_rfl
def Bb (r : Nat) : W :=
 π.ret (.tuple #[(.agg #[(.int .i64 0), (.int .i64 0), (.string ⟨#[]⟩)]), (.bool true)])
theorem HI (r : Nat) : OK 251 [.v (.pointer (some ⟨r, 0, none⟩))] fun _ π => Bb π r :=
 aZ { ptr := [(2, 2, 0)], ty := [(2, 28)] } {} [] Tryz.func251 Tryz.ntmps251 rfl (by kernel_rfl) fun _ π => by kernel_rfl
def vv (r : Nat) : W :=
 π.aa (some (Addr.mk r 0 none)) fun p0 => π.ld [.str] (p0.add 0) fun ((t1 : BA), _) => π.ite (decide ((↑t1.size : Int) < 8)) (π.ret (.tuple #[(.agg #[(.int .i64 0), (.int .i64 0), (.string ⟨#[]⟩)]), (.bool false)])) (π.loop [(true, [.int .i64, .int .i64, .str]), (false, [.int .u64]), (false, [.int .i64])] (((0 : Int), (0 : Int), ByteArray.mk #[], ()), ((0 : Int), ()), ((0 : Int), ()), ()) fun (((x3 : Int), (x4 : Int), (t5 : BA), _), ((x6 : Int), _), ((x7 : Int), _), _) again2 => π.ite (decide (x7 < 8)) (π.aa (some (Addr.mk r 0 none)) fun p8 => π.ld [.str] (p8.add 0) fun ((t9 : BA), _) => π.guard (0 ≤ x7 ∧ x7 < (↑t9.size : Int)) <| again2 ((x3, x4, t5, ()), (u64.wrap (↑(BitVec.ofInt (64 : Nat) (u64.wrap (x6 * 256)) ||| BitVec.ofInt (64 : Nat) (u64.wrap (↑(t9[x7.toNat]?.getD 0).toNat : Int))).toNat : Int), ()), (i64.wrap (x7 + 1), ()), ())) (π.aa (some (Addr.mk r 0 none)) fun p10 => π.ld [.str] (p10.add 0) fun ((t11 : BA), _) => π.guard ((0 : Int) ≤ 8 ∧ 8 ≤ (↑t11.size : Int) ∧ (↑t11.size : Int) ≤ (↑t11.size : Int)) <| π.aa (some (Addr.mk r 0 none)) fun p12 => π.st (p12.add 0) [(.string (t11.extract (8 : Nat) (↑t11.size : Int).toNat))] <| π.ret (.tuple #[(.agg #[(.int .i64 1), (.int .i64 (i64.wrap (u64.wrap (↑(BitVec.ofInt (64 : Nat) x6 ^^^ BitVec.ofInt (64 : Nat) (9223372036854775808 : Int)).toNat : Int)))), (.string ⟨#[]⟩)]), (.bool true)])))
theorem DB (r : Nat) : OK 252 [.v (.pointer (some ⟨r, 0, none⟩))] fun _ π => vv π r :=
 aZ { ptr := [(2, 2, 0)], ty := [(2, 28)] } { loop := [(5, [(2, 28), (4, 213), (13, 3)])] } [] Tryz.func252 Tryz.ntmps252 rfl (by kernel_rfl) fun _ π => by kernel_rfl
def Bc (r : Nat) : W :=
 π.loop [(true, [.int .i64, .int .i64, .str]), (false, [.slice]), (false, [.int .i64])] (((0 : Int), (0 : Int), ByteArray.mk #[], ()), ((none, (0 : Nat), (0 : Nat)), ()), ((0 : Int), ()), ()) fun (((x1 : Int), (x2 : Int), (t3 : BA), _), (((a4 : OA), (n5 : Nat), (c6 : Nat)), _), ((x7 : Int), _), _) again0 => π.aa (some (Addr.mk r 0 none)) fun p8 => π.ld [.str] (p8.add 0) fun ((t9 : BA), _) => π.ite (decide (x7 < (↑t9.size : Int))) (π.aa (some (Addr.mk r 0 none)) fun p10 => π.ld [.str] (p10.add 0) fun ((t11 : BA), _) => π.guard (0 ≤ x7 ∧ x7 < (↑t11.size : Int)) <| π.ite ((↑(t11[x7.toNat]?.getD 0).toNat : Int) != 0) (π.aa (some (Addr.mk r 0 none)) fun p12 => π.ld [.str] (p12.add 0) fun ((t13 : BA), _) => π.guard (0 ≤ x7 ∧ x7 < (↑t13.size : Int)) <| π.nw (Obj.cells #[(.int .u8 ((↑(t13[x7.toNat]?.getD 0).toNat : Int)))] 5 (0, 0)) fun r14 => π.app 5 1 1 [(.int .u8 0)] a4 n5 c6 (Src.sl (some (Addr.mk r14 0 none)) 1) fun a15 n16 c17 => again0 ((x1, x2, t3, ()), ((a15, n16, c17), ()), (i64.wrap (x7 + 1), ()), ())) (π.join [(true, [.int .i64, .int .i64, .str]), (false, [.slice]), (false, [.int .i64]), (false, [.bool])] (fun J18 => π.aa (some (Addr.mk r 0 none)) fun p19 => π.ld [.str] (p19.add 0) fun ((t20 : BA), _) => π.ite (decide (i64.wrap (x7 + 1) < (↑t20.size : Int))) (π.aa (some (Addr.mk r 0 none)) fun p21 => π.ld [.str] (p21.add 0) fun ((t22 : BA), _) => π.guard (0 ≤ i64.wrap (x7 + 1) ∧ i64.wrap (x7 + 1) < (↑t22.size : Int)) <| J18 ((x1, x2, t3, ()), ((a4, n5, c6), ()), (i64.wrap (x7 + 1), ()), ((↑(t22[(i64.wrap (x7 + 1)).toNat]?.getD 0).toNat : Int) == 255, ()), ())) (J18 ((x1, x2, t3, ()), ((a4, n5, c6), ()), (i64.wrap (x7 + 1), ()), (false, ()), ()))) (fun (((x23 : Int), (x24 : Int), (t25 : BA), _), (((a26 : OA), (n27 : Nat), (c28 : Nat)), _), ((x29 : Int), _), ((b30 : Bool), _), _) =>
 π.ite b30 (π.nw (Obj.cells #[(.int .u8 0)] 5 (0, 0)) fun r31 => π.app 5 1 1 [(.int .u8 0)] a26 n27 c28 (Src.sl (some (Addr.mk r31 0 none)) 1) fun a32 n33 c34 => again0 ((x23, x24, t25, ()), ((a32, n33, c34), ()), (i64.wrap (x29 + 1), ()), ())) (π.aa (some (Addr.mk r 0 none)) fun p35 => π.ld [.str] (p35.add 0) fun ((t36 : BA), _) => π.ite (decide (x29 < (↑t36.size : Int))) (π.aa (some (Addr.mk r 0 none)) fun p37 => π.ld [.str] (p37.add 0) fun ((t38 : BA), _) => π.guard (0 ≤ x29 ∧ x29 < (↑t38.size : Int)) <| π.ite ((↑(t38[x29.toNat]?.getD 0).toNat : Int) == 1) (π.aa (some (Addr.mk r 0 none)) fun p39 => π.ld [.str] (p39.add 0) fun ((t40 : BA), _) => π.guard (0 ≤ i64.wrap (x29 + 1) ∧ i64.wrap (x29 + 1) ≤ (↑t40.size : Int) ∧ (↑t40.size : Int) ≤ (↑t40.size : Int)) <| π.aa (some (Addr.mk r 0 none)) fun p41 => π.st (p41.add 0) [(.string (t40.extract (i64.wrap (x29 + 1)).toNat (↑t40.size : Int).toNat))] <| π.j4 a26 n27 fun t42 => π.ret (.tuple #[(.agg #[(.int .i64 2), (.int .i64 0), (.string t42)]), (.bool true)])) (π.ret (.tuple #[(.agg #[(.int .i64 0), (.int .i64 0), (.string ⟨#[]⟩)]), (.bool false)]))) (π.ret (.tuple #[(.agg #[(.int .i64 0), (.int .i64 0), (.string ⟨#[]⟩)]), (.bool false)])))))) (π.ret (.tuple #[(.agg #[(.int .i64 0), (.int .i64 0), (.string ⟨#[]⟩)]), (.bool false)]))
theorem HJ (r : Nat) : OK 253 [.v (.pointer (some ⟨r, 0, none⟩))] fun _ π => Bc π r :=
 aZ { ptr := [(2, 2, 0)], ty := [(2, 28)] } { join := [(10, [(2, 28), (4, 185), (5, 3), (34, 4)])], loop := [(3, [(2, 28), (4, 185), (5, 3)])] } [] Tryz.func253 Tryz.ntmps253 rfl (by kernel_rfl) fun _ π => by kernel_rfl
def vr (x : BA) : W :=
 π.nw (Obj.cells #[(.string x)] 339 (0, 0)) fun r0 => π.nw (Obj.cells #[(Value.nilFunc), (Value.nilFunc), (Value.nilFunc)] 341 (0, 0)) fun r1 => π.st (Addr.mk r1 0 none) [(.func (Fn.func 251) #[(.pointer (some (Addr.mk r0 0 none)))] #[]), (.func (Fn.func 252) #[(.pointer (some (Addr.mk r0 0 none)))] #[]), (.func (Fn.func 253) #[(.pointer (some (Addr.mk r0 0 none)))] #[])] <| π.loop [(false, [.ptr]), (false, [.addr]), (false, [.slice])] ((some (Addr.mk r0 0 none), ()), (Addr.mk r1 0 none, ()), ((none, (0 : Nat), (0 : Nat)), ()), ()) fun ((p3, _), (p4, _), (((a5 : OA), (n6 : Nat), (c7 : Nat)), _), _) again2 => π.aa p3 fun p8 => π.ld [.str] (p8.add 0) fun ((t9 : BA), _) => π.ite (decide ((↑t9.size : Int) > 0)) (π.aa p3 fun p10 => π.ld [.str] (p10.add 0) fun ((t11 : BA), _) => π.guard ((0 : Int) ≤ 0 ∧ 0 < (↑t11.size : Int)) <| π.aa p3 fun p12 => π.ld [.str] (p12.add 0) fun ((t13 : BA), _) => π.guard ((0 : Int) ≤ 1 ∧ 1 ≤ (↑t13.size : Int) ∧ (↑t13.size : Int) ≤ (↑t13.size : Int)) <| π.aa p3 fun p14 => π.st (p14.add 0) [(.string (t13.extract (1 : Nat) (↑t13.size : Int).toNat))] <| π.join [(false, [.ptr]), (false, [.addr]), (false, [.slice]), (false, [.int .i64])] (fun J15 => π.ite (decide (i64.wrap (i64.wrap (↑(t11[(0 : Nat)]?.getD 0).toNat : Int) - 1) < 0)) (π.ret (.tuple #[(.slice none 0 0), (.int .i64 20)])) (π.ite (decide (i64.wrap (i64.wrap (↑(t11[(0 : Nat)]?.getD 0).toNat : Int) - 1) ≥ 3)) (π.ret (.tuple #[(.slice none 0 0), (.int .i64 20)])) (π.ite ((↑n6 : Int) == 8) (π.ret (.tuple #[(.slice none 0 0), (.int .i64 20)])) (J15 ((p3, ()), (p4, ()), ((a5, n6, c7), ()), (i64.wrap (i64.wrap (↑(t11[(0 : Nat)]?.getD 0).toNat : Int) - 1), ()), ()))))) (fun ((p16, _), (p17, _), (((a18 : OA), (n19 : Nat), (c20 : Nat)), _), ((x21 : Int), _), _) =>
 π.guard (0 ≤ x21 ∧ x21 < 3) <| π.ld [.raw] (p17.add (x21.toNat * 1)) fun ((v22 : Value), _) => π.dW v22 #[] (true, [(true, [.int .i64, .int .i64, .str]), (false, [.bool])]) fun (((x23 : Int), (x24 : Int), (t25 : BA), _), ((b26 : Bool), _), _) => π.ite (!b26) (π.ret (.tuple #[(.slice none 0 0), (.int .i64 20)])) (π.call 199 #[(.agg #[(.int .i64 x23), (.int .i64 x24), (.string t25)])] (false, [(false, [.int .i64])]) fun (((x27 : Int), _), _) => π.ite (x27 != 0) (π.ret (.tuple #[(.slice none 0 0), (.int .i64 20)])) (π.nw (Obj.cells #[(.int .i64 x23), (.int .i64 x24), (.string t25)] 28 (0, 0)) fun r28 => π.app 28 3 32 [(.int .i64 0), (.int .i64 0), (.string ⟨#[]⟩)] a18 n19 c20 (Src.sl (some (Addr.mk r28 0 none)) 1) fun a29 n30 c31 => again2 ((p16, ()), (p17, ()), ((a29, n30, c31), ()), ()))))) (π.ret (.tuple #[(.slice a5 n6 c7), (.int .i64 0)]))
theorem Dz (x : BA) : OK 212 [.v (.string x)] fun _ π => vr π x :=
 aZ { ptr := [(8, 8, 0)], ty := [(8, 28)] } { join := [(9, [(4, 337), (5, 1000000), (6, 125), (7, 3)])], loop := [(4, [(4, 337), (5, 1000000), (6, 125)])] } [] Tryz.func212 Tryz.ntmps212 rfl (by kernel_rfl) fun _ π => by kernel_rfl
def xW (x : BA) : W :=
 π.guard ((↑(x.size + (1 : Nat)) : Int) ≤ 9223372036854775807) <| π.ret (.agg #[(.string x), (.string (x ++ ByteArray.mk #[(255 : UInt8)]))])
theorem Fp (x : BA) : OK 207 [.v (.string x)] fun _ π => xW π x :=
 aZ { ptr := [(2, 2, 0)], ty := [(2, 129)] } {} [] Tryz.func207 Tryz.ntmps207 rfl (by kernel_rfl) fun _ π => by kernel_rfl
def CH (a : OA) (an ac : Nat) : W :=
 π.call 216 #[(.slice a an ac)] (true, [(false, [.str]), (false, [.int .i64])]) fun (((t0 : BA), _), ((x1 : Int), _), _) => π.ret (.string t0)
theorem JQ (a : OA) (an ac : Nat) : OK 208 [.v (.slice a an ac)] fun _ π => CH π a an ac :=
 aZ {} {} [] Tryz.func208 Tryz.ntmps208 rfl (by kernel_rfl) fun _ π => by kernel_rfl
def CI (n : Int) : W :=
 π.ret (.agg #[(.int .i64 1), (.int .i64 n), (.string ⟨#[]⟩)])
theorem JR (n : Int) : OK 209 [.v (.int .i64 n)] fun _ π => CI π n :=
 aZ { ptr := [(2, 2, 0)], ty := [(2, 28)] } {} [] Tryz.func209 Tryz.ntmps209 rfl (by kernel_rfl) fun _ π => by kernel_rfl
def CG (t : Int) (vk vn : Int) (vs : BA) : W :=
 π.bU 209 #[(.int .i64 0)] (false, [(true, [.int .i64, .int .i64, .str])]) fun (((x0 : Int), (x1 : Int), (t2 : BA), _), _) => π.bU 209 #[(.int .i64 t)] (false, [(true, [.int .i64, .int .i64, .str])]) fun (((x3 : Int), (x4 : Int), (t5 : BA), _), _) => π.nw (Obj.cells #[(.int .i64 x0), (.int .i64 x1), (.string t2), (.int .i64 x3), (.int .i64 x4), (.string t5), (.int .i64 vk), (.int .i64 vn), (.string vs)] 28 (0, 0)) fun r6 => π.call 208 #[(.slice (some (Addr.mk r6 0 none)) 3 3)] (false, [(false, [.str])]) fun (((t7 : BA), _), _) => π.ret (.string t7)
theorem JP (t : Int) (vk vn : Int) (vs : BA) : OK 162 [.v (.int .i64 t), .v (.agg #[.int .i64 vk, .int .i64 vn, .string vs])] fun _ π => CG π t vk vn vs :=
 aZ { ptr := [(3, 3, 0)], ty := [(3, 28)] } { draws := [(1, { A := [0, 1, 2, 3], quiet := [0, 2], eag := [6] })],  } [] Tryz.func162 Tryz.ntmps162 rfl (by kernel_rfl) fun _ π => by kernel_rfl
def yp (t : Int) : W :=
 π.call 209 #[(.int .i64 0)] (false, [(true, [.int .i64, .int .i64, .str])]) fun (((x0 : Int), (x1 : Int), (t2 : BA), _), _) => π.call 209 #[(.int .i64 t)] (false, [(true, [.int .i64, .int .i64, .str])]) fun (((x3 : Int), (x4 : Int), (t5 : BA), _), _) => π.nw (Obj.cells #[(.int .i64 x0), (.int .i64 x1), (.string t2), (.int .i64 x3), (.int .i64 x4), (.string t5)] 28 (0, 0)) fun r6 => π.call 208 #[(.slice (some (Addr.mk r6 0 none)) 2 2)] (false, [(false, [.str])]) fun (((t7 : BA), _), _) => π.call 207 #[(.string t7)] (false, [(true, [.str, .str])]) fun (((t8 : BA), (t9 : BA), _), _) => π.ret (.agg #[(.string t8), (.string t9)])
theorem FH (t : Int) : OK 210 [.v (.int .i64 t)] fun _ π => yp π t :=
 aZ { ptr := [(2, 2, 0)], ty := [(2, 129)] } {} [] Tryz.func210 Tryz.ntmps210 rfl (by kernel_rfl) fun _ π => by kernel_rfl
def ym (t : Int) (vk vn : Int) (vs : BA) (wk wn : Int) (ws : BA) : W :=
 π.bU 209 #[(.int .i64 1)] (false, [(true, [.int .i64, .int .i64, .str])]) fun (((x0 : Int), (x1 : Int), (t2 : BA), _), _) => π.bU 209 #[(.int .i64 t)] (false, [(true, [.int .i64, .int .i64, .str])]) fun (((x3 : Int), (x4 : Int), (t5 : BA), _), _) => π.nw (Obj.cells #[(.int .i64 x0), (.int .i64 x1), (.string t2), (.int .i64 x3), (.int .i64 x4), (.string t5), (.int .i64 vk), (.int .i64 vn), (.string vs), (.int .i64 wk), (.int .i64 wn), (.string ws)] 28 (0, 0)) fun r6 => π.call 208 #[(.slice (some (Addr.mk r6 0 none)) 4 4)] (false, [(false, [.str])]) fun (((t7 : BA), _), _) => π.ret (.string t7)
theorem FF (t : Int) (vk vn : Int) (vs : BA) (wk wn : Int) (ws : BA) : OK 154 [.v (.int .i64 t), .v (.agg #[.int .i64 vk, .int .i64 vn, .string vs]), .v (.agg #[.int .i64 wk, .int .i64 wn, .string ws])] fun _ π => ym π t vk vn vs wk wn ws :=
 aZ { ptr := [(4, 4, 0), (5, 5, 0)], ty := [(4, 28), (5, 28)] } { draws := [(1, { A := [0, 1, 2, 3, 4], quiet := [0, 2], eag := [7] })],  } [] Tryz.func154 Tryz.ntmps154 rfl (by kernel_rfl) fun _ π => by kernel_rfl
def yo (t : Int) (vk vn : Int) (vs : BA) : W :=
 π.bU 209 #[(.int .i64 1)] (false, [(true, [.int .i64, .int .i64, .str])]) fun (((x0 : Int), (x1 : Int), (t2 : BA), _), _) => π.bU 209 #[(.int .i64 t)] (false, [(true, [.int .i64, .int .i64, .str])]) fun (((x3 : Int), (x4 : Int), (t5 : BA), _), _) => π.nw (Obj.cells #[(.int .i64 x0), (.int .i64 x1), (.string t2), (.int .i64 x3), (.int .i64 x4), (.string t5), (.int .i64 vk), (.int .i64 vn), (.string vs)] 28 (0, 0)) fun r6 => π.call 208 #[(.slice (some (Addr.mk r6 0 none)) 3 3)] (false, [(false, [.str])]) fun (((t7 : BA), _), _) => π.call 207 #[(.string t7)] (false, [(true, [.str, .str])]) fun (((t8 : BA), (t9 : BA), _), _) => π.ret (.agg #[(.string t8), (.string t9)])
theorem FG (t : Int) (vk vn : Int) (vs : BA) : OK 153 [.v (.int .i64 t), .v (.agg #[.int .i64 vk, .int .i64 vn, .string vs])] fun _ π => yo π t vk vn vs :=
 aZ { ptr := [(3, 3, 0), (4, 4, 0)], ty := [(3, 28), (4, 129)] } { draws := [(1, { A := [0, 1, 2, 3], quiet := [0, 2, 6] })],  } [] Tryz.func153 Tryz.ntmps153 rfl (by kernel_rfl) fun _ π => by kernel_rfl
def CE (x : BA) : W :=
 π.call 212 #[(.string x)] (true, [(false, [.slice]), (false, [.int .i64])]) fun ((((a0 : OA), (n1 : Nat), (c2 : Nat)), _), ((x3 : Int), _), _) => π.ite (x3 != 0) (π.ret (.tuple #[(.agg #[(.int .i64 0), (.int .i64 0), (.string ⟨#[]⟩)]), (.int .i64 20)])) (π.ite ((↑n1 : Int) == 0) (π.ret (.tuple #[(.agg #[(.int .i64 0), (.int .i64 0), (.string ⟨#[]⟩)]), (.int .i64 20)])) (π.guard (0 ≤ i64.wrap ((↑n1 : Int) - 1) ∧ i64.wrap ((↑n1 : Int) - 1) < (↑n1 : Int)) <| π.aa a0 fun p4 => π.ld [.int .i64, .int .i64, .str] (p4.add ((i64.wrap ((↑n1 : Int) - 1)).toNat * 3)) fun ((x5 : Int), (x6 : Int), (t7 : BA), _) => π.ret (.tuple #[(.agg #[(.int .i64 x5), (.int .i64 x6), (.string t7)]), (.int .i64 0)])))
theorem JN (x : BA) : OK 150 [.v (.string x)] fun _ π => CE π x :=
 aZ { ptr := [(2, 2, 0)], ty := [(2, 28)] } {} [] Tryz.func150 Tryz.ntmps150 rfl (by kernel_rfl) fun _ π => by kernel_rfl
def CF (a : OA) (an ac : Nat) : W :=
 π.loop [(false, [.str]), (false, [.int .i64]), (false, [.slice]), (false, [.int .i64]), (false, [.int .i64])] ((ByteArray.mk #[], ()), ((0 : Int), ()), ((a, an, ac), ()), ((↑an : Int), ()), ((0 : Int), ()), ()) fun (((t1 : BA), _), ((x2 : Int), _), (((a3 : OA), (n4 : Nat), (c5 : Nat)), _), ((x6 : Int), _), ((x7 : Int), _), _) again0 => π.ite (decide (x7 < x6)) (π.guard (0 ≤ x7 ∧ x7 < (↑n4 : Int)) <| π.aa a3 fun p8 => π.ld [.int .i64, .int .i64, .int .i64, .str] (p8.add (x7.toNat * 4)) fun ((x9 : Int), (x10 : Int), (x11 : Int), (t12 : BA), _) => π.bU 209 #[(.int .i64 x9)] (false, [(true, [.int .i64, .int .i64, .str])]) fun (((x13 : Int), (x14 : Int), (t15 : BA), _), _) => π.nw (Obj.cells #[(.int .i64 x13), (.int .i64 x14), (.string t15), (.int .i64 x10), (.int .i64 x11), (.string t12)] 28 (0, 0)) fun r16 => π.call 216 #[(.slice (some (Addr.mk r16 0 none)) 2 2)] (true, [(false, [.str]), (false, [.int .i64])]) fun (((t17 : BA), _), ((x18 : Int), _), _) => π.ite (x18 != 0) (π.ret (.tuple #[(.string ⟨#[]⟩), (.int .i64 100)])) (π.ite (decide (x9 ≤ x2)) (π.ret (.tuple #[(.string ⟨#[]⟩), (.int .i64 100)])) (π.nw (Obj.cells #[(.int .u8 (u8.wrap (↑t17.size : Int)))] 5 (0, 0)) fun r19 => π.j4 (some (Addr.mk r19 0 none)) ((1 : Nat)) fun t20 => π.guard ((↑(t20.size + t17.size) : Int) ≤ 9223372036854775807) <| π.guard ((↑(t1.size + (t20 ++ t17).size) : Int) ≤ 9223372036854775807) <| again0 ((t1 ++ (t20 ++ t17), ()), (x9, ()), ((a3, n4, c5), ()), (x6, ()), (i64.wrap (x7 + 1), ()), ())))) (π.ret (.tuple #[(.string t1), (.int .i64 0)]))
theorem JO (a : OA) (an ac : Nat) : OK 158 [.v (.slice a an ac)] fun _ π => CF π a an ac :=
 aZ { ptr := [(7, 7, 0), (17, 7, 0), (20, 7, 1), (29, 7, 0), (34, 7, 0)], ty := [(7, 94)] } { draws := [(5, { A := [0, 1, 2, 3, 4], quiet := [2], eag := [7, 8, 9, 10, 11] })], loop := [(3, [(4, 9), (5, 3), (10, 95), (11, 3), (12, 3)])] } [] Tryz.func158 Tryz.ntmps158 rfl (by kernel_rfl) fun _ π => by kernel_rfl
def CD (x : BA) : W :=
 π.loop [(false, [.slice]), (false, [.str])] (((none, (0 : Nat), (0 : Nat)), ()), (x, ()), ()) fun ((((a1 : OA), (n2 : Nat), (c3 : Nat)), _), ((t4 : BA), _), _) again0 => π.ite (decide ((↑t4.size : Int) > 0)) (π.guard ((0 : Int) ≤ 0 ∧ 0 < (↑t4.size : Int)) <| π.ite (decide (i64.wrap (↑(t4[(0 : Nat)]?.getD 0).toNat : Int) ≥ (↑t4.size : Int))) (π.ret (.tuple #[(.slice none 0 0), (.int .i64 100)])) (π.guard ((0 : Int) ≤ 1 ∧ 1 ≤ i64.wrap ((1 : Int) + i64.wrap (↑(t4[(0 : Nat)]?.getD 0).toNat : Int)) ∧ i64.wrap ((1 : Int) + i64.wrap (↑(t4[(0 : Nat)]?.getD 0).toNat : Int)) ≤ (↑t4.size : Int)) <| π.call 212 #[(.string (t4.extract (1 : Nat) (i64.wrap ((1 : Int) + i64.wrap (↑(t4[(0 : Nat)]?.getD 0).toNat : Int))).toNat))] (true, [(false, [.slice]), (false, [.int .i64])]) fun ((((a5 : OA), (n6 : Nat), (c7 : Nat)), _), ((x8 : Int), _), _) => π.join [(false, [.slice]), (false, [.str]), (false, [.int .i64]), (false, [.slice])] (fun J9 => π.ite (x8 != 0) (π.ret (.tuple #[(.slice none 0 0), (.int .i64 100)])) (π.ite ((↑n6 : Int) != 2) (π.ret (.tuple #[(.slice none 0 0), (.int .i64 100)])) (J9 (((a1, n2, c3), ()), (t4, ()), (i64.wrap (↑(t4[(0 : Nat)]?.getD 0).toNat : Int), ()), ((a5, n6, c7), ()), ())))) (fun ((((a10 : OA), (n11 : Nat), (c12 : Nat)), _), ((t13 : BA), _), ((x14 : Int), _), (((a15 : OA), (n16 : Nat), (c17 : Nat)), _), _) => π.guard ((0 : Int) ≤ 0 ∧ 0 < (↑n16 : Int)) <| π.aa a15 fun p18 =>
 π.ld [.int .i64] ((p18.add 0).add 1) fun ((x19 : Int), _) => π.guard ((0 : Int) ≤ 1 ∧ 1 < (↑n16 : Int)) <| π.aa a15 fun p20 => π.ld [.int .i64, .int .i64, .str] (p20.add 3) fun ((x21 : Int), (x22 : Int), (t23 : BA), _) => π.nw (Obj.cells #[(.int .i64 x19), (.int .i64 x21), (.int .i64 x22), (.string t23)] 94 (0, 0)) fun r24 => π.app 94 4 40 [(.int .i64 0), (.int .i64 0), (.int .i64 0), (.string ⟨#[]⟩)] a10 n11 c12 (Src.sl (some (Addr.mk r24 0 none)) 1) fun a25 n26 c27 => π.guard (0 ≤ i64.wrap ((1 : Int) + x14) ∧ i64.wrap ((1 : Int) + x14) ≤ (↑t13.size : Int) ∧ (↑t13.size : Int) ≤ (↑t13.size : Int)) <| again0 (((a25, n26, c27), ()), (t13.extract (i64.wrap ((1 : Int) + x14)).toNat (↑t13.size : Int).toNat, ()), ())))) (π.call 158 #[(.slice a1 n2 c3)] (true, [(false, [.str]), (false, [.int .i64])]) fun (((t28 : BA), _), ((x29 : Int), _), _) => π.ite (x29 != 0) (π.ret (.tuple #[(.slice none 0 0), (.int .i64 100)])) (π.ite (!t28.toList == x.toList) (π.ret (.tuple #[(.slice none 0 0), (.int .i64 100)])) (π.ret (.tuple #[(.slice a1 n2 c3), (.int .i64 0)]))))
theorem JM (x : BA) : OK 211 [.v (.string x)] fun _ π => CD π x :=
 aZ {} { draws := [(10, { A := [0, 1, 2, 3, 4, 5, 6, 7, 8] })], join := [(10, [(4, 95), (5, 9), (6, 3), (7, 125)])], loop := [(3, [(4, 95), (5, 9)])] } [] Tryz.func211 Tryz.ntmps211 rfl (by kernel_rfl) fun _ π => by kernel_rfl
def Gl (a : OA) (an ac : Nat) (i : Int) : W :=
 π.loop [(true, [.int .i64, .int .i64, .str]), (false, [.slice]), (false, [.int .i64]), (false, [.int .i64])] (((0 : Int), (0 : Int), ByteArray.mk #[], ()), ((a, an, ac), ()), ((↑an : Int), ()), ((0 : Int), ()), ()) fun (((x1 : Int), (x2 : Int), (t3 : BA), _), (((a4 : OA), (n5 : Nat), (c6 : Nat)), _), ((x7 : Int), _), ((x8 : Int), _), _) again0 => π.ite (decide (x8 < x7)) (π.guard (0 ≤ x8 ∧ x8 < (↑n5 : Int)) <| π.aa a4 fun p9 => π.ld [.int .i64, .int .i64, .int .i64, .str] (p9.add (x8.toNat * 4)) fun ((x10 : Int), (x11 : Int), (x12 : Int), (t13 : BA), _) => π.ite (x10 == i) (π.ret (.agg #[(.int .i64 x11), (.int .i64 x12), (.string t13)])) (again0 ((x1, x2, t3, ()), ((a4, n5, c6), ()), (x7, ()), (i64.wrap (x8 + 1), ()), ()))) (π.ret (.agg #[(.int .i64 0), (.int .i64 0), (.string ⟨#[]⟩)]))
theorem K7 (a : OA) (an ac : Nat) (i : Int) : OK 127 [.v (.slice a an ac), .v (.int .i64 i)] fun _ π => Gl π a an ac i :=
 aZ { ptr := [(4, 4, 0), (6, 6, 0), (13, 6, 0), (17, 6, 1)], ty := [(4, 28), (6, 94)] } { loop := [(2, [(4, 28), (7, 95), (8, 3), (9, 3)])] } [] Tryz.func127 Tryz.ntmps127 rfl (by kernel_rfl) fun _ π => by kernel_rfl
def vA (x y : BA) : W :=
 π.join [] (fun J0 => π.loop [(false, [.int .i64])] (((0 : Int), ()), ()) fun (((x2 : Int), _), _) again1 => π.ite (decide (x2 < (↑x.size : Int))) (π.ite (decide (x2 < (↑y.size : Int))) (π.guard (0 ≤ x2 ∧ x2 < (↑x.size : Int)) <| π.guard (0 ≤ x2 ∧ x2 < (↑y.size : Int)) <| π.ite (decide ((↑(x[x2.toNat]?.getD 0).toNat : Int) < (↑(y[x2.toNat]?.getD 0).toNat : Int))) (π.ret (.int .i64 (-1))) (π.guard (0 ≤ x2 ∧ x2 < (↑x.size : Int)) <| π.guard (0 ≤ x2 ∧ x2 < (↑y.size : Int)) <| π.ite (decide ((↑(x[x2.toNat]?.getD 0).toNat : Int) > (↑(y[x2.toNat]?.getD 0).toNat : Int))) (π.ret (.int .i64 1)) (again1 ((i64.wrap (x2 + 1), ()), ())))) (J0 (()))) (J0 (()))) (fun _ => π.ite (decide ((↑x.size : Int) < (↑y.size : Int))) (π.ret (.int .i64 (-1))) (π.ite (decide ((↑x.size : Int) > (↑y.size : Int))) (π.ret (.int .i64 1)) (π.ret (.int .i64 0))))
theorem DE (x y : BA) : OK 44 [.v (.string x), .v (.string y)] fun _ π => vA π x y :=
 aZ {} { draws := [(4, { A := [0, 1, 2, 3, 4, 5, 6] }), (6, { A := [0, 1, 2, 3, 4, 5, 6] })], join := [(8, [])], loop := [(2, [(5, 3)])] } [] Tryz.func44 Tryz.ntmps44 rfl (by kernel_rfl) fun _ π => by kernel_rfl
def CB (vk vn : Int) (vs : BA) : W :=
 π.nw (Obj.cells #[(.int .u8 (u8.wrap (i64.wrap (vk + 1))))] 5 (0, 0)) fun r0 => π.join [(true, [.int .i64, .int .i64, .str]), (false, [.slice])] (fun J1 => π.ite (vk == 1) (π.loop [(true, [.int .i64, .int .i64, .str]), (false, [.slice]), (false, [.int .u64]), (false, [.int .i64])] ((vk, vn, vs, ()), ((some (Addr.mk r0 0 none), (1 : Nat), (1 : Nat)), ()), (u64.wrap (u64.wrap vn + 9223372036854775808), ()), ((0 : Int), ()), ()) fun (((x3 : Int), (x4 : Int), (t5 : BA), _), (((a6 : OA), (n7 : Nat), (c8 : Nat)), _), ((x9 : Int), _), ((x10 : Int), _), _) again2 => π.ite (decide (x10 < 8)) (π.guard (0 ≤ u64.wrap (i64.wrap ((56 : Int) - i64.wrap ((8 : Int) * x10)))) <| π.nw (Obj.cells #[(.int .u8 (u8.wrap (if false = true then u64.wrap (x9 * 2 ^ min (u64.wrap (i64.wrap ((56 : Int) - i64.wrap ((8 : Int) * x10)))).toNat (64 : Nat)) else x9.fdiv ((2 : Int) ^ min (u64.wrap (i64.wrap ((56 : Int) - i64.wrap ((8 : Int) * x10)))).toNat (64 : Nat)))))] 5 (0, 0)) fun r11 => π.app 5 1 1 [(.int .u8 0)] a6 n7 c8 (Src.sl (some (Addr.mk r11 0 none)) 1) fun a12 n13 c14 => again2 ((x3, x4, t5, ()), ((a12, n13, c14), ()), (x9, ()), (i64.wrap (x10 + 1), ()), ())) (J1 ((x3, x4, t5, ()), ((a6, n7, c8), ()), ()))) (J1 ((vk, vn, vs, ()), ((some (Addr.mk r0 0 none), (1 : Nat), (1 : Nat)), ()), ()))) (fun (((x15 : Int), (x16 : Int), (t17 : BA), _), (((a18 : OA), (n19 : Nat), (c20 : Nat)), _), _) =>
 π.ite (x15 == 2) (π.loop [(true, [.int .i64, .int .i64, .str]), (false, [.slice]), (false, [.int .i64])] ((x15, x16, t17, ()), ((a18, n19, c20), ()), ((0 : Int), ()), ()) fun (((x22 : Int), (x23 : Int), (t24 : BA), _), (((a25 : OA), (n26 : Nat), (c27 : Nat)), _), ((x28 : Int), _), _) again21 => π.ite (decide (x28 < (↑t24.size : Int))) (π.guard (0 ≤ x28 ∧ x28 < (↑t24.size : Int)) <| π.nw (Obj.cells #[(.int .u8 ((↑(t24[x28.toNat]?.getD 0).toNat : Int)))] 5 (0, 0)) fun r29 => π.app 5 1 1 [(.int .u8 0)] a25 n26 c27 (Src.sl (some (Addr.mk r29 0 none)) 1) fun a30 n31 c32 => π.guard (0 ≤ x28 ∧ x28 < (↑t24.size : Int)) <| π.ite ((↑(t24[x28.toNat]?.getD 0).toNat : Int) == 0) (π.nw (Obj.cells #[(.int .u8 255)] 5 (0, 0)) fun r33 => π.app 5 1 1 [(.int .u8 0)] a30 n31 c32 (Src.sl (some (Addr.mk r33 0 none)) 1) fun a34 n35 c36 => again21 ((x22, x23, t24, ()), ((a34, n35, c36), ()), (i64.wrap (x28 + 1), ()), ())) (again21 ((x22, x23, t24, ()), ((a30, n31, c32), ()), (i64.wrap (x28 + 1), ()), ()))) (π.nw (Obj.cells #[(.int .u8 0), (.int .u8 1)] 5 (0, 0)) fun r37 => π.app 5 1 1 [(.int .u8 0)] a25 n26 c27 (Src.sl (some (Addr.mk r37 0 none)) 2) fun a38 n39 c40 => π.j4 a38 n39 fun t41 => π.ret (.string t41))) (π.j4 a18 n19 fun t42 => π.ret (.string t42)))
theorem JK (vk vn : Int) (vs : BA) : OK 141 [.v (.agg #[.int .i64 vk, .int .i64 vn, .string vs])] fun _ π => CB π vk vn vs :=
 aZ { ptr := [(1, 1, 0), (7, 1, 0), (12, 1, 0), (15, 1, 1), (33, 1, 0), (37, 1, 2), (44, 1, 2), (50, 1, 2)], ty := [(1, 28)] } { join := [(8, [(1, 28), (3, 185)])], loop := [(5, [(1, 28), (3, 185), (4, 213), (5, 3)]), (10, [(1, 28), (3, 185), (6, 3)])] } [] Tryz.func141 Tryz.ntmps141 rfl (by kernel_rfl) fun _ π => by kernel_rfl
def vz (a : OA) (an ac : Nat) : W :=
 π.ite (decide ((↑an : Int) > 8)) (π.ret (.tuple #[(.string ⟨#[]⟩), (.int .i64 21)])) (π.loop [(false, [.str]), (false, [.int .i64])] ((ByteArray.mk #[], ()), ((0 : Int), ()), ()) fun (((t1 : BA), _), ((x2 : Int), _), _) again0 => π.ite (decide (x2 < (↑an : Int))) (π.guard (0 ≤ x2 ∧ x2 < (↑an : Int)) <| π.aa a fun p3 => π.ld [.int .i64, .int .i64, .str] (p3.add (x2.toNat * 3)) fun ((x4 : Int), (x5 : Int), (t6 : BA), _) => π.call 137 #[(.agg #[(.int .i64 x4), (.int .i64 x5), (.string t6)])] (false, [(false, [.bool])]) fun (((b7 : Bool), _), _) => π.ite (!b7) (π.ret (.tuple #[(.string ⟨#[]⟩), (.int .i64 10)])) (π.guard (0 ≤ x2 ∧ x2 < (↑an : Int)) <| π.aa a fun p8 => π.ld [.int .i64, .int .i64, .str] (p8.add (x2.toNat * 3)) fun ((x9 : Int), (x10 : Int), (t11 : BA), _) => π.call 141 #[(.agg #[(.int .i64 x9), (.int .i64 x10), (.string t11)])] (false, [(false, [.str])]) fun (((t12 : BA), _), _) => π.guard ((↑(t1.size + t12.size) : Int) ≤ 9223372036854775807) <| again0 ((t1 ++ t12, ()), (i64.wrap (x2 + 1), ()), ()))) (π.ret (.tuple #[(.string t1), (.int .i64 0)])))
theorem DD (a : OA) (an ac : Nat) : OK 88 [.v (.slice a an ac)] fun _ π => vz π a an ac :=
 aZ {} { loop := [(5, [(4, 9), (5, 3)])] } [] Tryz.func88 Tryz.ntmps88 rfl (by kernel_rfl) fun _ π => by kernel_rfl
def ye (x : BA) : W :=
 π.guard ((0 : Int) ≤ 0 ∧ 0 < (↑x.size : Int)) <| π.ite ((↑(x[(0 : Nat)]?.getD 0).toNat : Int) == 1) (π.ret (.tuple #[(.agg #[(.int .i64 0), (.int .i64 0), (.string ⟨#[]⟩)]), (.int .i64 1)])) (π.join [(true, [.int .i64, .int .i64, .str])] (fun J0 => π.guard ((0 : Int) ≤ 0 ∧ 0 < (↑x.size : Int)) <| π.ite ((↑(x[(0 : Nat)]?.getD 0).toNat : Int) == 2) (π.ite (decide ((↑x.size : Int) ≥ 9)) (π.loop [(true, [.int .i64, .int .i64, .str]), (false, [.int .u64]), (false, [.int .i64])] (((0 : Int), (0 : Int), ByteArray.mk #[], ()), ((0 : Int), ()), ((1 : Int), ()), ()) fun (((x2 : Int), (x3 : Int), (t4 : BA), _), ((x5 : Int), _), ((x6 : Int), _), _) again1 => π.ite (decide (x6 < 9)) (π.guard (0 ≤ x6 ∧ x6 < (↑x.size : Int)) <| again1 ((x2, x3, t4, ()), (u64.wrap (u64.wrap (x5 * 256) + u64.wrap (↑(x[x6.toNat]?.getD 0).toNat : Int)), ()), (i64.wrap (x6 + 1), ()), ())) (π.ret (.tuple #[(.agg #[(.int .i64 1), (.int .i64 (i64.wrap (u64.wrap (x5 - 9223372036854775808)))), (.string ⟨#[]⟩)]), (.int .i64 9)]))) (J0 (((0 : Int), (0 : Int), ByteArray.mk #[], ()), ()))) (J0 (((0 : Int), (0 : Int), ByteArray.mk #[], ()), ()))) (fun (((x7 : Int), (x8 : Int), (t9 : BA), _), _) => π.guard ((0 : Int) ≤ 0 ∧ 0 < (↑x.size : Int)) <| π.ite ((↑(x[(0 : Nat)]?.getD 0).toNat : Int) != 3) (π.ret (.tuple #[(.agg #[(.int .i64 0), (.int .i64 0), (.string ⟨#[]⟩)]), (.int .i64 0)])) (π.loop [(true, [.int .i64, .int .i64, .str]), (false, [.slice]), (false, [.int .i64])] ((x7, x8, t9, ()), ((none, (0 : Nat), (0 : Nat)), ()), ((1 : Int), ()), ()) fun (((x11 : Int), (x12 : Int), (t13 : BA), _), (((a14 : OA), (n15 : Nat), (c16 : Nat)), _), ((x17 : Int), _), _) again10 =>
 π.ite (decide (i64.wrap (x17 + 1) < (↑x.size : Int))) (π.guard (0 ≤ x17 ∧ x17 < (↑x.size : Int)) <| π.ite ((↑(x[x17.toNat]?.getD 0).toNat : Int) == 0) (π.guard (0 ≤ i64.wrap (x17 + 1) ∧ i64.wrap (x17 + 1) < (↑x.size : Int)) <| π.ite ((↑(x[(i64.wrap (x17 + 1)).toNat]?.getD 0).toNat : Int) == 1) (π.j4 a14 n15 fun t18 => π.ret (.tuple #[(.agg #[(.int .i64 2), (.int .i64 0), (.string t18)]), (.int .i64 (i64.wrap (x17 + 2)))])) (π.guard (0 ≤ x17 ∧ x17 < (↑x.size : Int)) <| π.nw (Obj.cells #[(.int .u8 ((↑(x[x17.toNat]?.getD 0).toNat : Int)))] 5 (0, 0)) fun r19 => π.app 5 1 1 [(.int .u8 0)] a14 n15 c16 (Src.sl (some (Addr.mk r19 0 none)) 1) fun a20 n21 c22 => π.guard (0 ≤ x17 ∧ x17 < (↑x.size : Int)) <| π.ite ((↑(x[x17.toNat]?.getD 0).toNat : Int) == 0) (π.guard (0 ≤ i64.wrap (x17 + 1) ∧ i64.wrap (x17 + 1) < (↑x.size : Int)) <| π.ite ((↑(x[(i64.wrap (x17 + 1)).toNat]?.getD 0).toNat : Int) != 255) (π.ret (.tuple #[(.agg #[(.int .i64 0), (.int .i64 0), (.string ⟨#[]⟩)]), (.int .i64 0)])) (again10 ((x11, x12, t13, ()), ((a20, n21, c22), ()), (i64.wrap (i64.wrap (x17 + 1) + 1), ()), ()))) (again10 ((x11, x12, t13, ()), ((a20, n21, c22), ()), (i64.wrap (x17 + 1), ()), ())))) (π.guard (0 ≤ x17 ∧ x17 < (↑x.size : Int)) <| π.nw (Obj.cells #[(.int .u8 ((↑(x[x17.toNat]?.getD 0).toNat : Int)))] 5 (0, 0)) fun r23 => π.app 5 1 1 [(.int .u8 0)] a14 n15 c16 (Src.sl (some (Addr.mk r23 0 none)) 1) fun a24 n25 c26 =>
 π.guard (0 ≤ x17 ∧ x17 < (↑x.size : Int)) <| π.ite ((↑(x[x17.toNat]?.getD 0).toNat : Int) == 0) (π.guard (0 ≤ i64.wrap (x17 + 1) ∧ i64.wrap (x17 + 1) < (↑x.size : Int)) <| π.ite ((↑(x[(i64.wrap (x17 + 1)).toNat]?.getD 0).toNat : Int) != 255) (π.ret (.tuple #[(.agg #[(.int .i64 0), (.int .i64 0), (.string ⟨#[]⟩)]), (.int .i64 0)])) (again10 ((x11, x12, t13, ()), ((a24, n25, c26), ()), (i64.wrap (i64.wrap (x17 + 1) + 1), ()), ()))) (again10 ((x11, x12, t13, ()), ((a24, n25, c26), ()), (i64.wrap (x17 + 1), ()), ())))) (π.ret (.tuple #[(.agg #[(.int .i64 0), (.int .i64 0), (.string ⟨#[]⟩)]), (.int .i64 0)])))))
theorem Fz (x : BA) : OK 203 [.v (.string x)] fun _ π => ye π x :=
 aZ { ptr := [(2, 2, 0)], ty := [(2, 28)] } { join := [(10, [(2, 28)])], loop := [(6, [(2, 28), (4, 213), (5, 3)]), (14, [(2, 28), (6, 185), (7, 3)])] } [] Tryz.func203 Tryz.ntmps203 rfl (by kernel_rfl) fun _ π => by kernel_rfl
def vw (x : BA) : W :=
 π.loop [(false, [.str]), (false, [.slice])] ((x, ()), ((none, (0 : Nat), (0 : Nat)), ()), ()) fun (((t1 : BA), _), (((a2 : OA), (n3 : Nat), (c4 : Nat)), _), _) again0 => π.ite (decide ((↑t1.size : Int) > 0)) (π.call 203 #[(.string t1)] (true, [(true, [.int .i64, .int .i64, .str]), (false, [.int .i64])]) fun (((x5 : Int), (x6 : Int), (t7 : BA), _), ((x8 : Int), _), _) => π.ite (x8 == 0) (π.ret (.tuple #[(.slice none 0 0), (.int .i64 20)])) (π.call 137 #[(.agg #[(.int .i64 x5), (.int .i64 x6), (.string t7)])] (false, [(false, [.bool])]) fun (((b9 : Bool), _), _) => π.ite (!b9) (π.ret (.tuple #[(.slice none 0 0), (.int .i64 20)])) (π.ite ((↑n3 : Int) == 8) (π.ret (.tuple #[(.slice none 0 0), (.int .i64 20)])) (π.nw (Obj.cells #[(.int .i64 x5), (.int .i64 x6), (.string t7)] 28 (0, 0)) fun r10 => π.app 28 3 32 [(.int .i64 0), (.int .i64 0), (.string ⟨#[]⟩)] a2 n3 c4 (Src.sl (some (Addr.mk r10 0 none)) 1) fun a11 n12 c13 => π.guard (0 ≤ x8 ∧ x8 ≤ (↑t1.size : Int) ∧ (↑t1.size : Int) ≤ (↑t1.size : Int)) <| again0 ((t1.extract x8.toNat (↑t1.size : Int).toNat, ()), ((a11, n12, c13), ()), ()))))) (π.ret (.tuple #[(.slice a2 n3 c4), (.int .i64 0)]))
theorem DC (x : BA) : OK 138 [.v (.string x)] fun _ π => vw π x :=
 aZ { ptr := [(5, 5, 0)], ty := [(5, 28)] } { loop := [(2, [(0, 9), (4, 125)])] } [0] Tryz.func138 Tryz.ntmps138 rfl (by kernel_rfl) fun _ π => by kernel_rfl
def CA (n : Int) : W :=
 π.ret (.agg #[(.int .i64 1), (.int .i64 n), (.string ⟨#[]⟩)])
theorem JJ (n : Int) : OK 30 [.v (.int .i64 n)] fun _ π => CA π n :=
 aZ { ptr := [(2, 2, 0)], ty := [(2, 28)] } {} [] Tryz.func30 Tryz.ntmps30 rfl (by kernel_rfl) fun _ π => by kernel_rfl
def CC (t : Int) (vk vn : Int) (vs : BA) : W :=
 π.bU 30 #[(.int .i64 0)] (false, [(true, [.int .i64, .int .i64, .str])]) fun (((x0 : Int), (x1 : Int), (t2 : BA), _), _) => π.bU 30 #[(.int .i64 t)] (false, [(true, [.int .i64, .int .i64, .str])]) fun (((x3 : Int), (x4 : Int), (t5 : BA), _), _) => π.nw (Obj.cells #[(.int .i64 x0), (.int .i64 x1), (.string t2), (.int .i64 x3), (.int .i64 x4), (.string t5), (.int .i64 vk), (.int .i64 vn), (.string vs)] 28 (0, 0)) fun r6 => π.call 88 #[(.slice (some (Addr.mk r6 0 none)) 3 3)] (true, [(false, [.str]), (false, [.int .i64])]) fun (((t7 : BA), _), ((x8 : Int), _), _) => π.ret (.string t7)
theorem JL (t : Int) (vk vn : Int) (vs : BA) : OK 31 [.v (.int .i64 t), .v (.agg #[.int .i64 vk, .int .i64 vn, .string vs])] fun _ π => CC π t vk vn vs :=
 aZ { ptr := [(3, 3, 0)], ty := [(3, 28)] } { draws := [(1, { A := [0, 1, 2, 3], quiet := [0, 2], eag := [6, 7, 8, 9, 10] })],  } [] Tryz.func31 Tryz.ntmps31 rfl (by kernel_rfl) fun _ π => by kernel_rfl
def yb (t : Int) (vk vn : Int) (vs : BA) (wk wn : Int) (ws : BA) : W :=
 π.bU 30 #[(.int .i64 1)] (false, [(true, [.int .i64, .int .i64, .str])]) fun (((x0 : Int), (x1 : Int), (t2 : BA), _), _) => π.bU 30 #[(.int .i64 t)] (false, [(true, [.int .i64, .int .i64, .str])]) fun (((x3 : Int), (x4 : Int), (t5 : BA), _), _) => π.nw (Obj.cells #[(.int .i64 x0), (.int .i64 x1), (.string t2), (.int .i64 x3), (.int .i64 x4), (.string t5), (.int .i64 vk), (.int .i64 vn), (.string vs), (.int .i64 wk), (.int .i64 wn), (.string ws)] 28 (0, 0)) fun r6 => π.call 88 #[(.slice (some (Addr.mk r6 0 none)) 4 4)] (true, [(false, [.str]), (false, [.int .i64])]) fun (((t7 : BA), _), ((x8 : Int), _), _) => π.ret (.string t7)
theorem Fv (t : Int) (vk vn : Int) (vs : BA) (wk wn : Int) (ws : BA) : OK 81 [.v (.int .i64 t), .v (.agg #[.int .i64 vk, .int .i64 vn, .string vs]), .v (.agg #[.int .i64 wk, .int .i64 wn, .string ws])] fun _ π => yb π t vk vn vs wk wn ws :=
 aZ { ptr := [(4, 4, 0), (5, 5, 0)], ty := [(4, 28), (5, 28)] } { draws := [(1, { A := [0, 1, 2, 3, 4], quiet := [0, 2], eag := [7, 8, 9, 10, 11] })],  } [] Tryz.func81 Tryz.ntmps81 rfl (by kernel_rfl) fun _ π => by kernel_rfl
def yd (a : OA) (an ac : Nat) : W :=
 π.call 88 #[(.slice a an ac)] (true, [(false, [.str]), (false, [.int .i64])]) fun (((t0 : BA), _), ((x1 : Int), _), _) => π.guard ((↑(t0.size + (1 : Nat)) : Int) ≤ 9223372036854775807) <| π.ret (.agg #[(.string t0), (.string (t0 ++ ByteArray.mk #[(255 : UInt8)]))])
theorem Fy (a : OA) (an ac : Nat) : OK 78 [.v (.slice a an ac)] fun _ π => yd π a an ac :=
 aZ { ptr := [(2, 2, 0)], ty := [(2, 129)] } {} [] Tryz.func78 Tryz.ntmps78 rfl (by kernel_rfl) fun _ π => by kernel_rfl
def Cz (x : BA) : W :=
 π.loop [(false, [.slice]), (false, [.int .i64])] (((none, (0 : Nat), (0 : Nat)), ()), ((0 : Int), ()), ()) fun ((((a1 : OA), (n2 : Nat), (c3 : Nat)), _), ((x4 : Int), _), _) again0 => π.ite (decide (x4 < (↑x.size : Int))) (π.guard (0 ≤ x4 ∧ x4 < (↑x.size : Int)) <| π.ite (decide (i64.wrap (i64.wrap (x4 + 1) + i64.wrap (↑(x[x4.toNat]?.getD 0).toNat : Int)) > (↑x.size : Int))) (π.ret (.tuple #[(.slice none 0 0), (.int .i64 100)])) (π.guard (0 ≤ i64.wrap (x4 + 1) ∧ i64.wrap (x4 + 1) ≤ i64.wrap (i64.wrap (x4 + 1) + i64.wrap (↑(x[x4.toNat]?.getD 0).toNat : Int)) ∧ i64.wrap (i64.wrap (x4 + 1) + i64.wrap (↑(x[x4.toNat]?.getD 0).toNat : Int)) ≤ (↑x.size : Int)) <| π.call 138 #[(.string (x.extract (i64.wrap (x4 + 1)).toNat (i64.wrap (i64.wrap (x4 + 1) + i64.wrap (↑(x[x4.toNat]?.getD 0).toNat : Int))).toNat))] (true, [(false, [.slice]), (false, [.int .i64])]) fun ((((a5 : OA), (n6 : Nat), (c7 : Nat)), _), ((x8 : Int), _), _) => π.join [(false, [.slice]), (false, [.int .i64]), (false, [.int .i64]), (false, [.slice])] (fun J9 => π.ite (x8 != 0) (π.ret (.tuple #[(.slice none 0 0), (.int .i64 100)])) (π.ite ((↑n6 : Int) != 2) (π.ret (.tuple #[(.slice none 0 0), (.int .i64 100)])) (π.guard ((0 : Int) ≤ 0 ∧ 0 < (↑n6 : Int)) <| π.aa a5 fun p10 => π.ld [.int .i64] ((p10.add 0).add 0) fun ((x11 : Int), _) => π.ite (x11 != 1) (π.ret (.tuple #[(.slice none 0 0), (.int .i64 100)])) (π.guard ((0 : Int) ≤ 0 ∧ 0 < (↑n6 : Int)) <| π.aa a5 fun p12 =>
 π.ld [.int .i64] ((p12.add 0).add 1) fun ((x13 : Int), _) => π.ite (decide (x13 < 1)) (π.ret (.tuple #[(.slice none 0 0), (.int .i64 100)])) (π.ite (decide ((↑n2 : Int) > 0)) (π.guard ((0 : Int) ≤ 0 ∧ 0 < (↑n6 : Int)) <| π.aa a5 fun p14 => π.ld [.int .i64] ((p14.add 0).add 1) fun ((x15 : Int), _) => π.guard (0 ≤ i64.wrap ((↑n2 : Int) - 1) ∧ i64.wrap ((↑n2 : Int) - 1) < (↑n2 : Int)) <| π.aa a1 fun p16 => π.ld [.int .i64] ((p16.add ((i64.wrap ((↑n2 : Int) - 1)).toNat * 4)).add 0) fun ((x17 : Int), _) => π.ite (decide (x15 ≤ x17)) (π.ret (.tuple #[(.slice none 0 0), (.int .i64 100)])) (J9 (((a1, n2, c3), ()), (x4, ()), (i64.wrap (↑(x[x4.toNat]?.getD 0).toNat : Int), ()), ((a5, n6, c7), ()), ()))) (J9 (((a1, n2, c3), ()), (x4, ()), (i64.wrap (↑(x[x4.toNat]?.getD 0).toNat : Int), ()), ((a5, n6, c7), ()), ()))))))) (fun ((((a18 : OA), (n19 : Nat), (c20 : Nat)), _), ((x21 : Int), _), ((x22 : Int), _), (((a23 : OA), (n24 : Nat), (c25 : Nat)), _), _) => π.guard ((0 : Int) ≤ 0 ∧ 0 < (↑n24 : Int)) <| π.aa a23 fun p26 => π.ld [.int .i64] ((p26.add 0).add 1) fun ((x27 : Int), _) => π.guard ((0 : Int) ≤ 1 ∧ 1 < (↑n24 : Int)) <| π.aa a23 fun p28 => π.ld [.int .i64, .int .i64, .str] (p28.add 3) fun ((x29 : Int), (x30 : Int), (t31 : BA), _) => π.nw (Obj.cells #[(.int .i64 x27), (.int .i64 x29), (.int .i64 x30), (.string t31)] 94 (0, 0)) fun r32 => π.app 94 4 40 [(.int .i64 0), (.int .i64 0), (.int .i64 0), (.string ⟨#[]⟩)] a18 n19 c20 (Src.sl (some (Addr.mk r32 0 none)) 1) fun a33 n34 c35 =>
 again0 (((a33, n34, c35), ()), (i64.wrap (x21 + i64.wrap ((1 : Int) + x22)), ()), ())))) (π.ret (.tuple #[(.slice a1 n2 c3), (.int .i64 0)]))
theorem JI (x : BA) : OK 79 [.v (.string x)] fun _ π => Cz π x :=
 aZ {} { draws := [(8, { A := [0, 1, 2, 3, 4, 5, 6, 7, 8, 9, 10, 11, 12, 13, 14, 15, 16, 17, 18, 19, 20, 21, 22, 23, 24, 25, 26, 27, 28, 29, 30, 31, 32, 33, 34, 35, 36, 37, 38, 39] }), (10, { A := [0, 1, 2, 3, 4, 5, 6, 7, 8] })], join := [(10, [(4, 95), (5, 3), (6, 3), (7, 125)])], loop := [(3, [(4, 95), (5, 3)])] } [] Tryz.func79 Tryz.ntmps79 rfl (by kernel_rfl) fun _ π => by kernel_rfl
def Gk (a : OA) (an ac : Nat) (i : Int) : W :=
 π.loop [(true, [.int .i64, .int .i64, .str]), (false, [.int .i64])] (((0 : Int), (0 : Int), ByteArray.mk #[], ()), ((0 : Int), ()), ()) fun (((x1 : Int), (x2 : Int), (t3 : BA), _), ((x4 : Int), _), _) again0 => π.ite (decide (x4 < (↑an : Int))) (π.guard (0 ≤ x4 ∧ x4 < (↑an : Int)) <| π.aa a fun p5 => π.ld [.int .i64] ((p5.add (x4.toNat * 4)).add 0) fun ((x6 : Int), _) => π.ite (x6 == i) (π.guard (0 ≤ x4 ∧ x4 < (↑an : Int)) <| π.aa a fun p7 => π.ld [.int .i64, .int .i64, .str] ((p7.add (x4.toNat * 4)).add 1) fun ((x8 : Int), (x9 : Int), (t10 : BA), _) => π.ret (.agg #[(.int .i64 x8), (.int .i64 x9), (.string t10)])) (again0 ((x1, x2, t3, ()), (i64.wrap (x4 + 1), ()), ()))) (π.ret (.agg #[(.int .i64 0), (.int .i64 0), (.string ⟨#[]⟩)]))
theorem K6 (a : OA) (an ac : Nat) (i : Int) : OK 80 [.v (.slice a an ac), .v (.int .i64 i)] fun _ π => Gk π a an ac i :=
 aZ { ptr := [(4, 4, 0)], ty := [(4, 28)] } { loop := [(2, [(4, 28), (5, 3)])] } [] Tryz.func80 Tryz.ntmps80 rfl (by kernel_rfl) fun _ π => by kernel_rfl
def Gj (x : BA) (pf pt : BA) : W :=
 π.call 44 #[(.string pf), (.string x)] (false, [(false, [.int .i64])]) fun (((x0 : Int), _), _) => π.ite (decide (x0 ≤ 0)) (π.call 44 #[(.string x), (.string pt)] (false, [(false, [.int .i64])]) fun (((x1 : Int), _), _) => π.ret (.bool (decide (x1 < 0)))) (π.ret (.bool false))
theorem K5 (x : BA) (pf pt : BA) : OK 65 [.v (.string x), .v (.agg #[.string pf, .string pt])] fun _ π => Gj π x pf pt :=
 aZ { ptr := [(3, 3, 0), (5, 3, 0), (12, 3, 1)], ty := [(3, 129)] } {} [] Tryz.func65 Tryz.ntmps65 rfl (by kernel_rfl) fun _ π => by kernel_rfl
def vB (a : OA) (an ac : Nat) (pf pt : BA) : W :=
 π.loop [(true, [.str, .str]), (false, [.slice]), (false, [.int .i64])] ((pf, pt, ()), ((none, (0 : Nat), (0 : Nat)), ()), ((0 : Int), ()), ()) fun (((t1 : BA), (t2 : BA), _), (((a3 : OA), (n4 : Nat), (c5 : Nat)), _), ((x6 : Int), _), _) again0 => π.ite (decide (x6 < (↑an : Int))) (π.guard (0 ≤ x6 ∧ x6 < (↑an : Int)) <| π.aa a fun p7 => π.ld [.str] ((p7.add (x6.toNat * 3)).add 0) fun ((t8 : BA), _) => π.bU 65 #[(.string t8), (.agg #[(.string t1), (.string t2)])] (false, [(false, [.bool])]) fun (((b9 : Bool), _), _) => π.ite b9 (π.guard (0 ≤ x6 ∧ x6 < (↑an : Int)) <| π.aa a fun p10 => π.ld [.str, .int .i64, .str] (p10.add (x6.toNat * 3)) fun ((t11 : BA), (x12 : Int), (t13 : BA), _) => π.nw (Obj.cells #[(.string t11), (.int .i64 x12), (.string t13)] 75 (0, 0)) fun r14 => π.app 75 3 40 [(.string ⟨#[]⟩), (.int .i64 0), (.string ⟨#[]⟩)] a3 n4 c5 (Src.sl (some (Addr.mk r14 0 none)) 1) fun a15 n16 c17 => again0 ((t1, t2, ()), ((a15, n16, c17), ()), (i64.wrap (x6 + 1), ()), ())) (again0 ((t1, t2, ()), ((a3, n4, c5), ()), (i64.wrap (x6 + 1), ()), ()))) (π.ret (.slice a3 n4 c5))
theorem DF (a : OA) (an ac : Nat) (pf pt : BA) : OK 77 [.v (.slice a an ac), .v (.agg #[.string pf, .string pt])] fun _ π => vB π a an ac pf pt :=
 aZ { ptr := [(3, 3, 0)], ty := [(3, 129)] } { draws := [(5, { A := [0, 1, 2, 3, 4, 5, 6], quiet := [6] })], loop := [(3, [(3, 129), (5, 65), (6, 3)])] } [] Tryz.func77 Tryz.ntmps77 rfl (by kernel_rfl) fun _ π => by kernel_rfl
def Ba (a : OA) (an ac : Nat) (pf pt : BA) : W :=
 π.call 77 #[(.slice a an ac), (.agg #[(.string pf), (.string pt)])] (false, [(false, [.slice])]) fun ((((a0 : OA), (n1 : Nat), (c2 : Nat)), _), _) => π.ret (.slice a0 n1 c2)
theorem HH (a : OA) (an ac : Nat) (pf pt : BA) : OK 314 [.v (.slice a an ac), .v (.agg #[.string pf, .string pt])] fun _ π => Ba π a an ac pf pt :=
 aZ { ptr := [(3, 3, 0)], ty := [(3, 129)] } {} [] Tryz.func314 Tryz.ntmps314 rfl (by kernel_rfl) fun _ π => by kernel_rfl
end
end Go.Proofs.YtlfdfgokflhdbaaGreat
