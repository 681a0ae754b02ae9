/-
  Part 25 for the law: lemmas.
  Conditions: none.
-/
import Derived.Test.YtlfdfgokflhdbaaGreatExecReadsK24
set_option maxHeartbeats 4000000
set_option maxRecDepth 100000
set_option linter.unusedVariables false
set_option linter.unusedSimpArgs false
set_option linter.unusedSectionVars false
namespace Go.Proofs.YtlfdfgokflhdbaaGreat
open Fw Go Go.IntKind
section
attribute [-simp] Fw.W.bC Fw.W.bA
structure aK where
 kind : Int
 n : Int
 s : BA
 deriving DecidableEq
structure cw where
 id : Int
 name : BA
 kind : Int
 state : Int
 dflt : aK
 deriving DecidableEq
structure ez where
 id : Int
 name : BA
 column : Int
 unique : Bool
 state : Int
 deriving DecidableEq
structure For where
 id : Int
 name : BA
 column : Int
 parent : Int
 state : Int
 deriving DecidableEq
structure aG where
 id : Int
 name : BA
 cols : List cw
 idxs : List ez
 keys : List For
 deriving DecidableEq
structure aD where
 version : Int
 last : Int
 tabs : List aG
 deriving DecidableEq
structure nI where
 kind : Int
 table : BA
 name : BA
 column : BA
 parent : BA
 unique : Bool
 type : Int
 dflt : aK
 cols : List cw
abbrev aP := OA × Nat × Nat
abbrev dI : aP := (none, 0, 0)
abbrev aP.v (t : aP) : Value := .slice t.1 t.2.1 t.2.2
abbrev cp (b : Nat) : Value := .pointer (some ⟨b, 0, none⟩)
abbrev fm (v : aK) : Value := .agg #[.int .i64 v.kind, .int .i64 v.n, .string v.s]
def dD : cK cw where
 sz := 7
 f c := [.int .i64 c.id, .string c.name, .int .i64 c.kind, .int .i64 c.state, .int .i64 c.dflt.kind, .int .i64 c.dflt.n, .string c.dflt.s]
 len _ := rfl
 one p v hv := by simp at hv; rcases hv with rfl | rfl | rfl | rfl | rfl | rfl | rfl <;> rfl
 pos := by omega
abbrev zp (c : cw) : Value := .agg #[.int .i64 c.id, .string c.name, .int .i64 c.kind, .int .i64 c.state, .int .i64 c.dflt.kind, .int .i64 c.dflt.n, .string c.dflt.s]
def j6 : cK ez where
 sz := 5
 f x := [.int .i64 x.id, .string x.name, .int .i64 x.column, .bool x.unique, .int .i64 x.state]
 len _ := rfl
 one p v hv := by simp at hv; rcases hv with rfl | rfl | rfl | rfl | rfl <;> rfl
 pos := by omega
abbrev GI (x : ez) : Value := .agg #[.int .i64 x.id, .string x.name, .int .i64 x.column, .bool x.unique, .int .i64 x.state]
def lS : cK For where
 sz := 5
 f x := [.int .i64 x.id, .string x.name, .int .i64 x.column, .int .i64 x.parent, .int .i64 x.state]
 len _ := rfl
 one p v hv := by simp at hv; rcases hv with rfl | rfl | rfl | rfl | rfl <;> rfl
 pos := by omega
abbrev Ki (x : For) : Value := .agg #[.int .i64 x.id, .string x.name, .int .i64 x.column, .int .i64 x.parent, .int .i64 x.state]
structure aC where
 T : aG
 c : aP
 x : aP
 k : aP
def ja : cK aC where
 sz := 5
 f p := [.int .i64 p.T.id, .string p.T.name, .slice p.c.1 p.c.2.1 p.c.2.2, .slice p.x.1 p.x.2.1 p.x.2.2, .slice p.k.1 p.k.2.1 p.k.2.2]
 len _ := rfl
 one p v hv := by simp at hv; rcases hv with rfl | rfl | rfl | rfl | rfl <;> rfl
 pos := by omega
abbrev dX (T : aG) (c x k : aP) : Value := .agg #[.int .i64 T.id, .string T.name, .slice c.1 c.2.1 c.2.2, .slice x.1 x.2.1 x.2.2, .slice k.1 k.2.1 k.2.2]
abbrev eV (S : aD) (t : aP) : Value := .agg #[.int .i64 S.version, .int .i64 S.last, .slice t.1 t.2.1 t.2.2]
abbrev GC (D : nI) (t : aP) : Value := .agg #[.int .i64 D.kind, .string D.table, .string D.name, .string D.column, .string D.parent, .bool D.unique, .int .i64 D.type, .int .i64 D.dflt.kind, .int .i64 D.dflt.n, .string D.dflt.s, .slice t.1 t.2.1 t.2.2]
structure Sl {α : Type} (E : cK α) (s : PH) (t : aP) (xs : List α) : Prop where
 el : elems (Rd.enc E) s t.1 t.2.1 xs
 le : t.2.1 ≤ t.2.2
 cO : xs.length ≤ 4294967296
theorem Sl.len {α : Type} {E : cK α} {s : PH} {t : aP} {xs : List α} (h : Sl E s t xs) : t.2.1 = xs.length := h.el.1
theorem Sl.mono {α : Type} {E : cK α} {s s' : PH} {t : aP} {xs : List α} (h : Sl E s t xs) (hm : s.le s') : Sl E s' t xs := ⟨h.el.mono hm, h.le, h.cO⟩
theorem Sl.nil {α : Type} {E : cK α} {s : PH} : Sl E s dI ([] : List α) := ⟨⟨rfl, fun i x hx => by simp at hx⟩, Nat.le_refl _, by simp⟩
structure fY (s : PH) (p : aC) : Prop where
 c : Sl dD s p.c p.T.cols
 x : Sl j6 s p.x p.T.idxs
 k : Sl lS s p.k p.T.keys
theorem fY.mono {s s' : PH} {p : aC} (h : fY s p) (hm : s.le s') : fY s' p := ⟨h.c.mono hm, h.x.mono hm, h.k.mono hm⟩
structure dP (s : PH) (t : aP) (S : aD) (ps : List aC) : Prop where
 el : Sl ja s t ps
 eq : S.tabs = ps.map (·.T)
 all : ∀ p ∈ ps, fY s p
theorem dP.mono {s s' : PH} {t : aP} {S : aD} {ps : List aC} (h : dP s t S ps) (hm : s.le s') : dP s' t S ps := ⟨h.el.mono hm, h.eq, fun p hp => (h.all p hp).mono hm⟩
def qk (i c : Nat) : Bool := (decide (97 ≤ c) && decide (c ≤ 122)) || (!decide (i = 0) && (decide (c = 95) || (decide (48 ≤ c) && decide (c ≤ 57))))
def iD (s : BA) (k : Nat) : Bool := (List.range k).all fun i => qk i (s[i]?.getD 0).toNat
def named (s : BA) : Bool := decide (1 ≤ s.size) && (decide (s.size ≤ 16) && iD s s.size)
theorem kf (s : BA) (k : Nat) : iD s (k + 1) = (iD s k && qk k (s[k]?.getD 0).toNat) := by
 unfold iD; rw [List.range_succ, List.all_append]; simp
theorem Db {s : BA} {k : Nat} (h : qk k (s[k]?.getD 0).toNat = false) (hk : k < s.size) : iD s s.size = false := by
 have key : ∀ d, k + 1 + d ≤ s.size → iD s (k + 1 + d) = false := by
  intro d
  induction d with
  | zero => intro _; rw [Nat.add_zero, kf, h, Bool.and_false]
  | succ d ih => intro hd; rw [← Nat.add_assoc, kf, ih (by omega), Bool.false_and]
 have := key (s.size - (k + 1)) (by omega)
 rwa [show k + 1 + (s.size - (k + 1)) = s.size by omega] at this
theorem zW {tx : BA} {k : Nat} (h : qk k (tx[k]?.getD 0).toNat = false) (hk : k < tx.size) : named tx = false := by
 unfold named; rw [Db h hk]; simp
theorem sM (i c : Nat) : qk i c = true ↔ (97 ≤ c ∧ c ≤ 122) ∨ (i ≠ 0 ∧ (c = 95 ∨ (48 ≤ c ∧ c ≤ 57))) := by simp [qk]
theorem BS (i c : Nat) (h : ¬ ((97 ≤ c ∧ c ≤ 122) ∨ (i ≠ 0 ∧ (c = 95 ∨ (48 ≤ c ∧ c ≤ 57))))) : qk i c = false := by
 cases e : qk i c with
 | false => rfl
 | true => exact absurd ((sM i c).1 e) h
theorem q6 (tx : BA) (s : PH) : ah 169 #[.string tx] s fun x s' => x = .bool (named tx) ∧ s' = s := by
 refine Hf tx _ s ?_;unfold AX;simp only [aO, W.af, decide_eq_true_eq, decide_eq_false_iff_not, aE, W.oa, aQ];refine ⟨fun h => ⟨by unfold named; rw [decide_eq_false (by omega)]; (first | done | rfl), trivial⟩, fun h1 => ⟨fun h => ⟨by unfold named; rw [decide_eq_false (p := tx.size ≤ 16) (by omega)]; simp, trivial⟩, fun h2 => ?_⟩⟩;refine ⟨fun z s' => ∃ k : Nat, z = (((tx.size : Int), ()), ((k : Int), ()), ()) ∧ k ≤ tx.size ∧ s' = s ∧ iD tx k = true, fun z _ => tx.size - z.2.1.1.toNat, ⟨0, rfl, Nat.zero_le _, rfl, rfl⟩, ?_⟩;rintro _ s0 ⟨k, rfl, hk, hs0, hn⟩;simp only [W.af, decide_eq_true_eq, decide_eq_false_iff_not];refine ⟨fun hlt => ?_, fun hge => ?_⟩
 ·have hlt : k < tx.size := by omega
  have hw := ai (k := k) (by omega);simp only [aR, W.aZ, Int.toNat_natCast, hw];refine ⟨by omega, ?_⟩
  obtain ⟨c, hc⟩ : ∃ c, (tx[k]?.getD 0).toNat = c := ⟨_, rfl⟩
  have hno : ¬ ((97 ≤ c ∧ c ≤ 122) ∨ (k ≠ 0 ∧ (c = 95 ∨ (48 ≤ c ∧ c ≤ 57)))) → (false = named tx ∧ s0 = s) := fun h => ⟨by rw [zW (by rw [hc]; exact BS k c h) hlt], hs0⟩
  have hyes : ((97 ≤ c ∧ c ≤ 122) ∨ (k ≠ 0 ∧ (c = 95 ∨ (48 ≤ c ∧ c ≤ 57)))) → (k + 1 ≤ tx.size ∧ s0 = s ∧ iD tx (k + 1) = true) ∧ tx.size - (k + 1) < tx.size - k := fun h => ⟨⟨hlt, hs0, by rw [kf, hn, hc, (sM k c).2 h]; (first | done | rfl)⟩, by omega⟩
  simp [hc, W.af]
  repeat' (first | (refine And.intro ?_ ?_) | intro _)
  all_goals first | exact hs0 | exact (hno (by omega)).1.symm | exact ⟨k + 1, by simp, (hyes (by omega)).1⟩ | omega
 ·have : k = tx.size := by omega
  subst this;refine ⟨?_, hs0⟩;unfold named; rw [hn, decide_eq_true (by omega), decide_eq_true (by omega)]; (first | done | rfl)
theorem kM (tx : BA) (s : PH) : ah 68 #[.string tx] s fun x s' => x = .bool (named tx) ∧ s' = s := by
 refine Ff tx _ s ?_;unfold xN;simp only [aO, W.af, decide_eq_true_eq, decide_eq_false_iff_not, aE, W.oa, aQ];refine ⟨fun h => ⟨by unfold named; rw [decide_eq_false (by have h0 : tx.size = 0 := (by simpa using h); omega)]; (first | done | rfl), trivial⟩, fun h1 => ⟨fun h => ⟨by unfold named; rw [decide_eq_false (p := tx.size ≤ 16) (by omega)]; simp, trivial⟩, fun h2 => ?_⟩⟩
 have h1 : tx.size ≠ 0 := by simpa using h1
 refine ⟨fun z s' => ∃ k : Nat, z = (((k : Int), ()), ()) ∧ k ≤ tx.size ∧ s' = s ∧ iD tx k = true, fun z _ => tx.size - z.1.1.toNat, ⟨0, rfl, Nat.zero_le _, rfl, rfl⟩, ?_⟩;rintro _ s0 ⟨k, rfl, hk, hs0, hn⟩;simp only [W.af, decide_eq_true_eq, decide_eq_false_iff_not];refine ⟨fun hlt => ?_, fun hge => ?_⟩
 ·have hlt : k < tx.size := by omega
  have hw := ai (k := k) (by omega);simp only [aR, W.aZ, Int.toNat_natCast, hw];refine ⟨by omega, ?_⟩
  obtain ⟨c, hc⟩ : ∃ c, (tx[k]?.getD 0).toNat = c := ⟨_, rfl⟩
  have hno : ¬ ((97 ≤ c ∧ c ≤ 122) ∨ (k ≠ 0 ∧ (c = 95 ∨ (48 ≤ c ∧ c ≤ 57)))) → (false = named tx ∧ s0 = s) := fun h => ⟨by rw [zW (by rw [hc]; exact BS k c h) hlt], hs0⟩
  have hyes : ((97 ≤ c ∧ c ≤ 122) ∨ (k ≠ 0 ∧ (c = 95 ∨ (48 ≤ c ∧ c ≤ 57)))) → (k + 1 ≤ tx.size ∧ s0 = s ∧ iD tx (k + 1) = true) ∧ tx.size - (k + 1) < tx.size - k := fun h => ⟨⟨hlt, hs0, by rw [kf, hn, hc, (sM k c).2 h]; (first | done | rfl)⟩, by omega⟩
  simp [hc, W.af]
  repeat' (first | (refine And.intro ?_ ?_) | intro _)
  all_goals first | exact hs0 | exact (hno (by omega)).1.symm | exact ⟨k + 1, by simp, (hyes (by omega)).1⟩ | omega
 ·have : k = tx.size := by omega
  subst this;refine ⟨?_, hs0⟩;unfold named; rw [hn, decide_eq_true (by omega), decide_eq_true (by omega)]; (first | done | rfl)
theorem gl (a b : Int) : (a == b) = decide (a = b) := by by_cases h : a = b <;> simp [h]
theorem qo (t : BA) : t.toList.isEmpty = decide (t = ⟨#[]⟩) := by
 have := bV t ⟨#[]⟩;rw [← this]
 have : (ByteArray.mk #[]).toList = [] := by simp [ByteArray.toList_eq]
 rw [this]
 cases t.toList <;> rfl
def typed (k : Int) : Bool := decide (k = 1) || decide (k = 2)
theorem JW (k : Int) (s : PH) : ah 178 #[.int .i64 k] s fun x s' => x = .bool (typed k) ∧ s' = s := by
 refine Jc k _ s ?_;unfold Cm typed;simp [W.af, gl]
 by_cases h : k = 1 <;> simp [h]
theorem sI (k : Int) (s : PH) : ah 71 #[.int .i64 k] s fun x s' => x = .bool (typed k) ∧ s' = s := by
 refine Fh k _ s ?_;unfold xP typed;simp [W.af, gl]
 by_cases h : k = 1 <;> simp [h]
def bD (v : aK) : Bool := if v.kind = 0 then decide (v.n = 0) && decide (v.s = ⟨#[]⟩) else if v.kind = 1 then decide (v.s = ⟨#[]⟩) else if v.kind = 2 then decide (v.n = 0) && decide (v.s.size ≤ 64) else false
def j3 (v : aK) : Int := if bD v = true then 0 else 10
theorem oP (v : aK) (s : PH) : ah 199 #[fm v] s fun x s' => x = .int .i64 (j3 v) ∧ s' = s := by
 refine Fi v.kind v.n v.s _ s ?_;unfold xQ j3 bD;simp [W.af, bV, qo]
 repeat' (first | (refine And.intro ?_ ?_) | intro _)
 all_goals simp_all
 all_goals omega
theorem wJ (v : aK) (s : PH) : ah 137 #[fm v] s fun x s' => x = .bool (bD v) ∧ s' = s := by
 refine Ds v.kind v.n v.s _ s ?_;unfold vf bD;simp [W.af, bV, qo]
 repeat' (first | (refine And.intro ?_ ?_) | intro _)
 all_goals simp_all
 all_goals omega
def fits (v : aK) (k : Int) : Bool := bD v && (decide (v.kind = 0) || decide (v.kind = k))
theorem JU (v : aK) (k : Int) (s : PH) : ah 179 #[fm v, .int .i64 k] s fun x s' => x = .bool (fits v k) ∧ s' = s := by
 refine Ja v.kind v.n v.s k _ s ?_;unfold Cj;simp only [bS, aT];refine W.ak (oP v s) ?_;rintro _ s ⟨rfl, rfl⟩;refine ⟨((j3 v, ()), ()), rfl, ?_⟩;unfold fits j3
 cases hv : bD v <;> simp [W.af, gl]
 by_cases h : v.kind = 0 <;> simp [h]
theorem BO (v : aK) (k : Int) (s : PH) : ah 72 #[fm v, .int .i64 k] s fun x s' => x = .bool (fits v k) ∧ s' = s := by
 refine Hh v.kind v.n v.s k _ s ?_;unfold AZ;simp only [bS, aT];refine W.ak (wJ v s) ?_;rintro _ s ⟨rfl, rfl⟩;refine ⟨((bD v, ()), ()), rfl, ?_⟩;unfold fits
 cases hv : bD v <;> simp [W.af, gl]
 by_cases h : v.kind = 0 <;> simp [h]
def lE (name : BA) (n : Int) : Int := if named name = false then 100 else if n ≥ 8 then 156 else 0
theorem qj (x : cw) (s : PH) : ah 172 #[zp x] s fun y s' => y = .string x.name ∧ s' = s := by
 refine Dj x.id x.name x.kind x.state x.dflt.kind x.dflt.n x.dflt.s _ s ?_;unfold uV;simp
theorem ID (x : cw) {p q : Nat} {s : PH} {name : BA} {ft : TypeId} (hp : s p = some (.cells #[.func (.func 172) #[] #[]] ft (0, 0))) (hq : s q = some (.cells #[.string name] 9 (0, 0))) :
  ah 270 #[zp x, cp p, cp q] s fun y s' => y = .bool (decide (x.name = name)) ∧ s' = s := by
 refine G0 x.id x.name x.kind x.state x.dflt.kind x.dflt.n x.dflt.s p q _ s ?_;unfold AL;simp [W.aB hp, W.aB hq, bV];refine cT (cap := #[]) Tryz.func172 rfl (by kernel_rfl) (qj x s) ?_;rintro _ s ⟨rfl, rfl⟩;refine ⟨((x.name, ()), ()), rfl, ?_⟩;simp [W.still_at hq, bV]
theorem yZ {a : OA} {an ac p q : Nat} {s : PH} {name : BA} {ft : TypeId} {xs : List cw} (h : elems (Rd.enc dD) s a an xs) (hn : xs.length ≤ 4294967296) (hp : s p = some (.cells #[.func (.func 172) #[] #[]] ft (0, 0))) (hq : s q = some (.cells #[.string name] 9 (0, 0))) :
  ah 92 #[.slice a an ac, .func (.func 270) #[] #[cp p, cp q]] s fun y s' => y = .int .i64 (aJ (fun x => decide (x.name = name)) xs 0) ∧ s' = s := by
 refine yp a an ac p q _ s ?_;unfold pY;have hlen := h.1;simp only [aQ];refine ⟨fun z s' => ∃ k : Nat, z = (((an : Int), ()), ((k : Int), ()), ()) ∧ k ≤ an ∧ s' = s ∧ aJ (fun x => decide (x.name = name)) (xs.drop k) k = aJ (fun x => decide (x.name = name)) xs 0, fun z _ => an - z.2.1.1.toNat, ⟨0, rfl, Nat.zero_le _, rfl, rfl⟩, ?_⟩;rintro _ s ⟨k, rfl, hk, rfl, hs⟩;simp [W.af];refine ⟨fun hlt => ⟨hlt, ?_⟩, fun hge => ?_⟩
 ·obtain ⟨x, hx⟩ : ∃ x, xs[k]? = some x := ⟨_, List.getElem?_eq_getElem (by omega)⟩
  obtain ⟨ad, rfl, hh⟩ := h.aA hx;simp only [W.ay];refine az hh (y := (x.id, x.name, x.kind, x.state, x.dflt.kind, x.dflt.n, x.dflt.s, ())) rfl ?_;refine W.ak (ID x hp hq) ?_;rintro _ s ⟨rfl, rfl⟩;refine ⟨((decide (x.name = name), ()), ()), rfl, ?_⟩;rw [ec hx] at hs;simp [W.af, ai (k := k) (by omega)];refine ⟨fun he => ?_, fun he => ⟨⟨k + 1, by simp, hlt, ?_⟩, by omega⟩⟩
  ·rw [← hs, if_pos (by simpa using he)]
  ·rw [← hs, if_neg (by simpa using he)]
 ·rw [← hs, eW (by omega)]
theorem IG {a : OA} {an ac : Nat} {s : PH} {xs : List cw} (h : elems (Rd.enc dD) s a an xs) (hn : xs.length ≤ 4294967296) (name : BA) :
  ah 227 #[.slice a an ac, .string name, .func (.func 172) #[] #[]] s fun y s' => y = .int .i64 (aJ (fun x => decide (x.name = name)) xs 0) ∧ s' = s := by
 refine bu.quiet (G3 a an ac name _ s ?_);unfold AO;simp only [cj];refine W.bK fun r s1 hr m1 k1 => ?_;refine W.bK fun r2 s2 hr2 m2 k2 => ?_;have m12 := m1.trans m2;refine W.ak (yZ (h.mono m12.le) hn k2 (m2.at k1 (by simp))) ?_;rintro _ s3 ⟨rfl, rfl⟩;exact ⟨((aJ (fun x => decide (x.name = name)) xs 0, ()), ()), rfl, rfl, m12⟩
theorem sG (x : ez) (s : PH) : ah 174 #[GI x] s fun y s' => y = .string x.name ∧ s' = s := by
 refine E2 x.id x.name x.column x.unique x.state _ s ?_;unfold xB;simp
theorem IE (x : ez) {p q : Nat} {s : PH} {name : BA} {ft : TypeId} (hp : s p = some (.cells #[.func (.func 174) #[] #[]] ft (0, 0))) (hq : s q = some (.cells #[.string name] 9 (0, 0))) :
  ah 271 #[GI x, cp p, cp q] s fun y s' => y = .bool (decide (x.name = name)) ∧ s' = s := by
 refine G1 x.id x.name x.column x.unique x.state p q _ s ?_;unfold AM;simp [W.aB hp, W.aB hq, bV];refine cT (cap := #[]) Tryz.func174 rfl (by kernel_rfl) (sG x s) ?_;rintro _ s ⟨rfl, rfl⟩;refine ⟨((x.name, ()), ()), rfl, ?_⟩;simp [W.still_at hq, bV]
theorem y7 {a : OA} {an ac p q : Nat} {s : PH} {name : BA} {ft : TypeId} {xs : List ez} (h : elems (Rd.enc j6) s a an xs) (hn : xs.length ≤ 4294967296) (hp : s p = some (.cells #[.func (.func 174) #[] #[]] ft (0, 0))) (hq : s q = some (.cells #[.string name] 9 (0, 0))) :
  ah 90 #[.slice a an ac, .func (.func 271) #[] #[cp p, cp q]] s fun y s' => y = .int .i64 (aJ (fun x => decide (x.name = name)) xs 0) ∧ s' = s := by
 refine yw a an ac p q _ s ?_;unfold qc;have hlen := h.1;simp only [aQ];refine ⟨fun z s' => ∃ k : Nat, z = (((an : Int), ()), ((k : Int), ()), ()) ∧ k ≤ an ∧ s' = s ∧ aJ (fun x => decide (x.name = name)) (xs.drop k) k = aJ (fun x => decide (x.name = name)) xs 0, fun z _ => an - z.2.1.1.toNat, ⟨0, rfl, Nat.zero_le _, rfl, rfl⟩, ?_⟩;rintro _ s ⟨k, rfl, hk, rfl, hs⟩;simp [W.af];refine ⟨fun hlt => ⟨hlt, ?_⟩, fun hge => ?_⟩
 ·obtain ⟨x, hx⟩ : ∃ x, xs[k]? = some x := ⟨_, List.getElem?_eq_getElem (by omega)⟩
  obtain ⟨ad, rfl, hh⟩ := h.aA hx;simp only [W.ay];refine az hh (y := (x.id, x.name, x.column, x.unique, x.state, ())) rfl ?_;refine W.ak (IE x hp hq) ?_;rintro _ s ⟨rfl, rfl⟩;refine ⟨((decide (x.name = name), ()), ()), rfl, ?_⟩;rw [ec hx] at hs;simp [W.af, ai (k := k) (by omega)];refine ⟨fun he => ?_, fun he => ⟨⟨k + 1, by simp, hlt, ?_⟩, by omega⟩⟩
  ·rw [← hs, if_pos (by simpa using he)]
  ·rw [← hs, if_neg (by simpa using he)]
 ·rw [← hs, eW (by omega)]
theorem IK {a : OA} {an ac : Nat} {s : PH} {xs : List ez} (h : elems (Rd.enc j6) s a an xs) (hn : xs.length ≤ 4294967296) (name : BA) :
  ah 228 #[.slice a an ac, .string name, .func (.func 174) #[] #[]] s fun y s' => y = .int .i64 (aJ (fun x => decide (x.name = name)) xs 0) ∧ s' = s := by
 refine bu.quiet (G6 a an ac name _ s ?_);unfold AR;simp only [cj];refine W.bK fun r s1 hr m1 k1 => ?_;refine W.bK fun r2 s2 hr2 m2 k2 => ?_;have m12 := m1.trans m2;refine W.ak (y7 (h.mono m12.le) hn k2 (m2.at k1 (by simp))) ?_;rintro _ s3 ⟨rfl, rfl⟩;exact ⟨((aJ (fun x => decide (x.name = name)) xs 0, ()), ()), rfl, rfl, m12⟩
theorem oN (x : For) (s : PH) : ah 176 #[Ki x] s fun y s' => y = .string x.name ∧ s' = s := by
 refine Bq x.id x.name x.column x.parent x.state _ s ?_;unfold r9;simp
theorem IF (x : For) {p q : Nat} {s : PH} {name : BA} {ft : TypeId} (hp : s p = some (.cells #[.func (.func 176) #[] #[]] ft (0, 0))) (hq : s q = some (.cells #[.string name] 9 (0, 0))) :
  ah 272 #[Ki x, cp p, cp q] s fun y s' => y = .bool (decide (x.name = name)) ∧ s' = s := by
 refine G2 x.id x.name x.column x.parent x.state p q _ s ?_;unfold AN;simp [W.aB hp, W.aB hq, bV];refine cT (cap := #[]) Tryz.func176 rfl (by kernel_rfl) (oN x s) ?_;rintro _ s ⟨rfl, rfl⟩;refine ⟨((x.name, ()), ()), rfl, ?_⟩;simp [W.still_at hq, bV]
theorem y5 {a : OA} {an ac p q : Nat} {s : PH} {name : BA} {ft : TypeId} {xs : List For} (h : elems (Rd.enc lS) s a an xs) (hn : xs.length ≤ 4294967296) (hp : s p = some (.cells #[.func (.func 176) #[] #[]] ft (0, 0))) (hq : s q = some (.cells #[.string name] 9 (0, 0))) :
  ah 94 #[.slice a an ac, .func (.func 272) #[] #[cp p, cp q]] s fun y s' => y = .int .i64 (aJ (fun x => decide (x.name = name)) xs 0) ∧ s' = s := by
 refine yt a an ac p q _ s ?_;unfold qa;have hlen := h.1;simp only [aQ];refine ⟨fun z s' => ∃ k : Nat, z = (((an : Int), ()), ((k : Int), ()), ()) ∧ k ≤ an ∧ s' = s ∧ aJ (fun x => decide (x.name = name)) (xs.drop k) k = aJ (fun x => decide (x.name = name)) xs 0, fun z _ => an - z.2.1.1.toNat, ⟨0, rfl, Nat.zero_le _, rfl, rfl⟩, ?_⟩;rintro _ s ⟨k, rfl, hk, rfl, hs⟩;simp [W.af];refine ⟨fun hlt => ⟨hlt, ?_⟩, fun hge => ?_⟩
 ·obtain ⟨x, hx⟩ : ∃ x, xs[k]? = some x := ⟨_, List.getElem?_eq_getElem (by omega)⟩
  obtain ⟨ad, rfl, hh⟩ := h.aA hx;simp only [W.ay];refine az hh (y := (x.id, x.name, x.column, x.parent, x.state, ())) rfl ?_;refine W.ak (IF x hp hq) ?_;rintro _ s ⟨rfl, rfl⟩;refine ⟨((decide (x.name = name), ()), ()), rfl, ?_⟩;rw [ec hx] at hs;simp [W.af, ai (k := k) (by omega)];refine ⟨fun he => ?_, fun he => ⟨⟨k + 1, by simp, hlt, ?_⟩, by omega⟩⟩
  ·rw [← hs, if_pos (by simpa using he)]
  ·rw [← hs, if_neg (by simpa using he)]
 ·rw [← hs, eW (by omega)]
theorem II {a : OA} {an ac : Nat} {s : PH} {xs : List For} (h : elems (Rd.enc lS) s a an xs) (hn : xs.length ≤ 4294967296) (name : BA) :
  ah 229 #[.slice a an ac, .string name, .func (.func 176) #[] #[]] s fun y s' => y = .int .i64 (aJ (fun x => decide (x.name = name)) xs 0) ∧ s' = s := by
 refine bu.quiet (G4 a an ac name _ s ?_);unfold AP;simp only [cj];refine W.bK fun r s1 hr m1 k1 => ?_;refine W.bK fun r2 s2 hr2 m2 k2 => ?_;have m12 := m1.trans m2;refine W.ak (y5 (h.mono m12.le) hn k2 (m2.at k1 (by simp))) ?_;rintro _ s3 ⟨rfl, rfl⟩;exact ⟨((aJ (fun x => decide (x.name = name)) xs 0, ()), ()), rfl, rfl, m12⟩
theorem sH (x : aC) (s : PH) : ah 118 #[dX x.T x.c x.x x.k] s fun y s' => y = .string x.T.name ∧ s' = s := by
 refine E3 x.T.id x.T.name x.c.1 x.c.2.1 x.c.2.2 x.x.1 x.x.2.1 x.x.2.2 x.k.1 x.k.2.1 x.k.2.2 _ s ?_;unfold xC;simp
theorem IC (x : aC) {p q : Nat} {s : PH} {name : BA} {ft : TypeId} (hp : s p = some (.cells #[.func (.func 118) #[] #[]] ft (0, 0))) (hq : s q = some (.cells #[.string name] 9 (0, 0))) :
  ah 204 #[dX x.T x.c x.x x.k, cp p, cp q] s fun y s' => y = .bool (decide (x.T.name = name)) ∧ s' = s := by
 refine GZ x.T.id x.T.name x.c.1 x.c.2.1 x.c.2.2 x.x.1 x.x.2.1 x.x.2.2 x.k.1 x.k.2.1 x.k.2.2 p q _ s ?_;unfold AK;simp [W.aB hp, W.aB hq, bV];refine cT (cap := #[]) Tryz.func118 rfl (by kernel_rfl) (sH x s) ?_;rintro _ s ⟨rfl, rfl⟩;refine ⟨((x.T.name, ()), ()), rfl, ?_⟩;simp [W.still_at hq, bV]
theorem y6 {a : OA} {an ac p q : Nat} {s : PH} {name : BA} {ft : TypeId} {xs : List aC} (h : elems (Rd.enc ja) s a an xs) (hn : xs.length ≤ 4294967296) (hp : s p = some (.cells #[.func (.func 118) #[] #[]] ft (0, 0))) (hq : s q = some (.cells #[.string name] 9 (0, 0))) :
  ah 128 #[.slice a an ac, .func (.func 204) #[] #[cp p, cp q]] s fun y s' => y = .int .i64 (aJ (fun x => decide (x.T.name = name)) xs 0) ∧ s' = s := by
 refine yu a an ac p q _ s ?_;unfold qb;have hlen := h.1;simp only [aQ];refine ⟨fun z s' => ∃ k : Nat, z = (((an : Int), ()), ((k : Int), ()), ()) ∧ k ≤ an ∧ s' = s ∧ aJ (fun x => decide (x.T.name = name)) (xs.drop k) k = aJ (fun x => decide (x.T.name = name)) xs 0, fun z _ => an - z.2.1.1.toNat, ⟨0, rfl, Nat.zero_le _, rfl, rfl⟩, ?_⟩;rintro _ s ⟨k, rfl, hk, rfl, hs⟩;simp [W.af];refine ⟨fun hlt => ⟨hlt, ?_⟩, fun hge => ?_⟩
 ·obtain ⟨x, hx⟩ : ∃ x, xs[k]? = some x := ⟨_, List.getElem?_eq_getElem (by omega)⟩
  obtain ⟨ad, rfl, hh⟩ := h.aA hx;simp only [W.ay];refine az hh (y := (x.T.id, x.T.name, x.c, x.x, x.k, ())) rfl ?_;refine W.ak (IC x hp hq) ?_;rintro _ s ⟨rfl, rfl⟩;refine ⟨((decide (x.T.name = name), ()), ()), rfl, ?_⟩;rw [ec hx] at hs;simp [W.af, ai (k := k) (by omega)];refine ⟨fun he => ?_, fun he => ⟨⟨k + 1, by simp, hlt, ?_⟩, by omega⟩⟩
  ·rw [← hs, if_pos (by simpa using he)]
  ·rw [← hs, if_neg (by simpa using he)]
 ·rw [← hs, eW (by omega)]
theorem IJ {a : OA} {an ac : Nat} {s : PH} {xs : List aC} (h : elems (Rd.enc ja) s a an xs) (hn : xs.length ≤ 4294967296) (name : BA) :
  ah 142 #[.slice a an ac, .string name, .func (.func 118) #[] #[]] s fun y s' => y = .int .i64 (aJ (fun x => decide (x.T.name = name)) xs 0) ∧ s' = s := by
 refine bu.quiet (G5 a an ac name _ s ?_);unfold AQ;simp only [cj];refine W.bK fun r s1 hr m1 k1 => ?_;refine W.bK fun r2 s2 hr2 m2 k2 => ?_;have m12 := m1.trans m2;refine W.ak (y6 (h.mono m12.le) hn k2 (m2.at k1 (by simp))) ?_;rintro _ s3 ⟨rfl, rfl⟩;exact ⟨((aJ (fun x => decide (x.T.name = name)) xs 0, ()), ()), rfl, rfl, m12⟩
end
section
attribute [-simp] Fw.W.bC Fw.W.bA
theorem mQ {α β : Type} (f : α → β) (p : β → Bool) : ∀ (l : List α) (i : Nat), aJ p (l.map f) i = aJ (fun x => p (f x)) l i
 | [], i => rfl
 | x :: l, i => by simp only [List.map_cons, aJ, mQ f p l]
def fy (S : aD) (name : BA) : Int := aJ (fun T : aG => decide (T.name = name)) S.tabs 0
def dA (S : aD) (id : Int) : Int := aJ (fun T : aG => decide (T.id = id)) S.tabs 0
def fK (T : aG) (name : BA) : Int := aJ (fun c : cw => decide (c.name = name)) T.cols 0
def cM (T : aG) (id : Int) : Int := aJ (fun c : cw => decide (c.id = id)) T.cols 0
def j5 (T : aG) (name : BA) : Int := aJ (fun c : ez => decide (c.name = name)) T.idxs 0
def jG (T : aG) (name : BA) : Int := aJ (fun c : For => decide (c.name = name)) T.keys 0
theorem KK (x : cw) {p : Nat} {s : PH} {id : Int} (hp : s p = some (.cells #[.int .i64 id] 3 (0, 0))) : ah 230 #[zp x, cp p] s fun y s' => y = .bool (decide (x.id = id)) ∧ s' = s := by
 refine Kq x.id x.name x.kind x.state x.dflt.kind x.dflt.n x.dflt.s p _ s ?_;unfold FW;simp [W.aB hp, gl]
theorem yc {a : OA} {an ac p : Nat} {s : PH} {id : Int} {xs : List cw} (h : elems (Rd.enc dD) s a an xs) (hn : xs.length ≤ 4294967296) (hp : s p = some (.cells #[.int .i64 id] 3 (0, 0))) :
  ah 92 #[.slice a an ac, .func (.func 230) #[] #[cp p]] s fun y s' => y = .int .i64 (aJ (fun x => decide (x.id = id)) xs 0) ∧ s' = s := by
 refine vU a an ac p _ s ?_;unfold ou;have hlen := h.1;simp only [aQ];refine ⟨fun z s' => ∃ k : Nat, z = (((an : Int), ()), ((k : Int), ()), ()) ∧ k ≤ an ∧ s' = s ∧ aJ (fun x => decide (x.id = id)) (xs.drop k) k = aJ (fun x => decide (x.id = id)) xs 0, fun z _ => an - z.2.1.1.toNat, ⟨0, rfl, Nat.zero_le _, rfl, rfl⟩, ?_⟩;rintro _ s ⟨k, rfl, hk, rfl, hs⟩;simp [W.af];refine ⟨fun hlt => ⟨hlt, ?_⟩, fun hge => ?_⟩
 ·obtain ⟨x, hx⟩ : ∃ x, xs[k]? = some x := ⟨_, List.getElem?_eq_getElem (by omega)⟩
  obtain ⟨ad, rfl, hh⟩ := h.aA hx;simp only [W.ay];refine az hh (y := (x.id, x.name, x.kind, x.state, x.dflt.kind, x.dflt.n, x.dflt.s, ())) rfl ?_;refine W.ak (KK x hp) ?_;rintro _ s ⟨rfl, rfl⟩;refine ⟨((decide (x.id = id), ()), ()), rfl, ?_⟩;rw [ec hx] at hs;simp [W.af, ai (k := k) (by omega)];refine ⟨fun he => ?_, fun he => ⟨⟨k + 1, by simp, hlt, ?_⟩, by omega⟩⟩
  ·rw [← hs, if_pos (by simpa using he)]
  ·rw [← hs, if_neg (by simpa using he)]
 ·rw [← hs, eW (by omega)]
theorem IB (x : aC) {p : Nat} {s : PH} {id : Int} (hp : s p = some (.cells #[.int .i64 id] 3 (0, 0))) : ah 231 #[dX x.T x.c x.x x.k, cp p] s fun y s' => y = .bool (decide (x.T.id = id)) ∧ s' = s := by
 refine GY x.T.id x.T.name x.c.1 x.c.2.1 x.c.2.2 x.x.1 x.x.2.1 x.x.2.2 x.k.1 x.k.2.1 x.k.2.2 p _ s ?_;unfold AJ;simp [W.aB hp, gl]
theorem tO {a : OA} {an ac p : Nat} {s : PH} {id : Int} {xs : List aC} (h : elems (Rd.enc ja) s a an xs) (hn : xs.length ≤ 4294967296) (hp : s p = some (.cells #[.int .i64 id] 3 (0, 0))) :
  ah 128 #[.slice a an ac, .func (.func 231) #[] #[cp p]] s fun y s' => y = .int .i64 (aJ (fun x => decide (x.T.id = id)) xs 0) ∧ s' = s := by
 refine tf a an ac p _ s ?_;unfold mT;have hlen := h.1;simp only [aQ];refine ⟨fun z s' => ∃ k : Nat, z = (((an : Int), ()), ((k : Int), ()), ()) ∧ k ≤ an ∧ s' = s ∧ aJ (fun x => decide (x.T.id = id)) (xs.drop k) k = aJ (fun x => decide (x.T.id = id)) xs 0, fun z _ => an - z.2.1.1.toNat, ⟨0, rfl, Nat.zero_le _, rfl, rfl⟩, ?_⟩;rintro _ s ⟨k, rfl, hk, rfl, hs⟩;simp [W.af];refine ⟨fun hlt => ⟨hlt, ?_⟩, fun hge => ?_⟩
 ·obtain ⟨x, hx⟩ : ∃ x, xs[k]? = some x := ⟨_, List.getElem?_eq_getElem (by omega)⟩
  obtain ⟨ad, rfl, hh⟩ := h.aA hx;simp only [W.ay];refine az hh (y := (x.T.id, x.T.name, x.c, x.x, x.k, ())) rfl ?_;refine W.ak (IB x hp) ?_;rintro _ s ⟨rfl, rfl⟩;refine ⟨((decide (x.T.id = id), ()), ()), rfl, ?_⟩;rw [ec hx] at hs;simp [W.af, ai (k := k) (by omega)];refine ⟨fun he => ?_, fun he => ⟨⟨k + 1, by simp, hlt, ?_⟩, by omega⟩⟩
  ·rw [← hs, if_pos (by simpa using he)]
  ·rw [← hs, if_neg (by simpa using he)]
 ·rw [← hs, eW (by omega)]
theorem JS {s : PH} {p : aC} (h : Sl dD s p.c p.T.cols) (id : Int) : ah 180 #[dX p.T p.c p.x p.k, .int .i64 id] s fun y s' => y = .int .i64 (cM p.T id) ∧ s' = s := by
 refine bu.quiet (KP p.T.id p.T.name p.c.1 p.c.2.1 p.c.2.2 p.x.1 p.x.2.1 p.x.2.2 p.k.1 p.k.2.1 p.k.2.2 id _ s ?_);unfold Ir;simp only [cj];refine W.bK fun r s1 hr m1 k1 => ?_;refine W.ak (yc (h.el.mono m1.le) h.cO k1) ?_;rintro _ s3 ⟨rfl, rfl⟩;exact ⟨((cM p.T id, ()), ()), rfl, rfl, m1⟩
theorem JT {s : PH} {t : aP} {S : aD} {ps : List aC} (h : dP s t S ps) (id : Int) : ah 181 #[eV S t, .int .i64 id] s fun y s' => y = .int .i64 (dA S id) ∧ s' = s := by
 refine bu.quiet (I8 S.version S.last t.1 t.2.1 t.2.2 id _ s ?_);unfold Ch;simp only [cj];refine W.bK fun r s1 hr m1 k1 => ?_;refine W.ak (tO (h.el.el.mono m1.le) h.el.cO k1) ?_;rintro _ s3 ⟨rfl, rfl⟩;refine ⟨((dA S id, ()), ()), ?_, rfl, m1⟩;unfold dA; rw [h.eq, mQ]; (first | done | rfl)
theorem oO {s : PH} {t : aP} {S : aD} {ps : List aC} (h : dP s t S ps) (name : BA) : ah 69 #[eV S t, .string name] s fun y s' => y = .int .i64 (fy S name) ∧ s' = s := by
 have hres : fy S name = aJ (fun x : aC => decide (x.T.name = name)) ps 0 := by unfold fy; rw [h.eq, mQ]
 rw [hres];obtain ⟨ta, tn, tc⟩ := t;refine Bu S.version S.last ta tn tc name _ s ?_;unfold si;have hlen : tn = _ := h.el.len;have hfew := h.el.cO;simp only [aQ];refine ⟨fun z s' => ∃ k : Nat, z = ((S.version, S.last, (ta, tn, tc), ()), ((k : Int), ()), ()) ∧ k ≤ tn ∧ s' = s ∧ aJ (fun x : aC => decide (x.T.name = name)) (ps.drop k) k = aJ (fun x : aC => decide (x.T.name = name)) ps 0, fun z _ => tn - z.2.1.1.toNat, ⟨0, rfl, Nat.zero_le _, rfl, rfl⟩, ?_⟩;rintro _ s ⟨k, rfl, hk, rfl, hs⟩;simp [W.af];refine ⟨fun hlt => ⟨hlt, ?_⟩, fun hge => ?_⟩
 ·obtain ⟨x, hx⟩ : ∃ x, ps[k]? = some x := ⟨_, List.getElem?_eq_getElem (by omega)⟩
  obtain ⟨ad, had, hh⟩ := h.el.el.aA hx;dsimp only at had; subst had;simp only [W.ay];refine bq (j := 1) hh (cs := [.str]) (y := (x.T.name, ())) rfl ?_;rw [ec hx] at hs;simp [W.af, ai (k := k) (by omega), bV, gl];refine ⟨fun he => ?_, fun he => ⟨⟨k + 1, by simp, hlt, ?_⟩, by omega⟩⟩
  ·rw [← hs, if_pos (by simpa using he)]
  ·rw [← hs, if_neg (by simpa using he)]
 ·rw [← hs, eW (by omega)]
theorem CO {s : PH} {t : aP} {S : aD} {ps : List aC} (h : dP s t S ps) (id : Int) : ah 75 #[eV S t, .int .i64 id] s fun y s' => y = .int .i64 (dA S id) ∧ s' = s := by
 have hres : dA S id = aJ (fun x : aC => decide (x.T.id = id)) ps 0 := by unfold dA; rw [h.eq, mQ]
 rw [hres];obtain ⟨ta, tn, tc⟩ := t;refine Bv S.version S.last ta tn tc id _ s ?_;unfold sj;have hlen : tn = _ := h.el.len;have hfew := h.el.cO;simp only [aQ];refine ⟨fun z s' => ∃ k : Nat, z = ((S.version, S.last, (ta, tn, tc), ()), ((k : Int), ()), ()) ∧ k ≤ tn ∧ s' = s ∧ aJ (fun x : aC => decide (x.T.id = id)) (ps.drop k) k = aJ (fun x : aC => decide (x.T.id = id)) ps 0, fun z _ => tn - z.2.1.1.toNat, ⟨0, rfl, Nat.zero_le _, rfl, rfl⟩, ?_⟩;rintro _ s ⟨k, rfl, hk, rfl, hs⟩;simp [W.af];refine ⟨fun hlt => ⟨hlt, ?_⟩, fun hge => ?_⟩
 ·obtain ⟨x, hx⟩ : ∃ x, ps[k]? = some x := ⟨_, List.getElem?_eq_getElem (by omega)⟩
  obtain ⟨ad, had, hh⟩ := h.el.el.aA hx;dsimp only at had; subst had;simp only [W.ay];refine bq (j := 0) hh (cs := [.int .i64]) (y := (x.T.id, ())) rfl ?_;rw [ec hx] at hs;simp [W.af, ai (k := k) (by omega), bV, gl];refine ⟨fun he => ?_, fun he => ⟨⟨k + 1, by simp, hlt, ?_⟩, by omega⟩⟩
  ·rw [← hs, if_pos (by simpa using he)]
  ·rw [← hs, if_neg (by simpa using he)]
 ·rw [← hs, eW (by omega)]
theorem rP {s : PH} {p : aC} (h : Sl dD s p.c p.T.cols) (name : BA) : ah 70 #[dX p.T p.c p.x p.k, .string name] s fun y s' => y = .int .i64 (fK p.T name) ∧ s' = s := by
 obtain ⟨T, ⟨ca, can, cac⟩, ⟨xa, xan, xac⟩, ⟨ka, kan, kac⟩⟩ := p;dsimp only at h ⊢;have hres : fK T name = aJ (fun x : cw => decide (x.name = name)) T.cols 0 := rfl;rw [hres];refine z6 T.id T.name ca can cac xa xan xac ka kan kac name _ s ?_;unfold qW;have hlen : can = _ := h.len;have hfew := h.cO;simp only [aQ];refine ⟨fun z s' => ∃ k : Nat, z = ((T.id, T.name, (ca, can, cac), (xa, xan, xac), (ka, kan, kac), ()), ((k : Int), ()), ()) ∧ k ≤ can ∧ s' = s ∧ aJ (fun x : cw => decide (x.name = name)) (T.cols.drop k) k = aJ (fun x : cw => decide (x.name = name)) T.cols 0, fun z _ => can - z.2.1.1.toNat, ⟨0, rfl, Nat.zero_le _, rfl, rfl⟩, ?_⟩;rintro _ s ⟨k, rfl, hk, rfl, hs⟩;simp [W.af];refine ⟨fun hlt => ⟨hlt, ?_⟩, fun hge => ?_⟩
 ·obtain ⟨x, hx⟩ : ∃ x, T.cols[k]? = some x := ⟨_, List.getElem?_eq_getElem (by omega)⟩
  obtain ⟨ad, had, hh⟩ := h.el.aA hx;dsimp only at had; subst had;simp only [W.ay];refine bq (j := 1) hh (cs := [.str]) (y := (x.name, ())) rfl ?_;rw [ec hx] at hs;simp [W.af, ai (k := k) (by omega), bV, gl];refine ⟨fun he => ?_, fun he => ⟨⟨k + 1, by simp, hlt, ?_⟩, by omega⟩⟩
  ·rw [← hs, if_pos (by simpa using he)]
  ·rw [← hs, if_neg (by simpa using he)]
 ·rw [← hs, eW (by omega)]
theorem rQ {s : PH} {p : aC} (h : Sl dD s p.c p.T.cols) (id : Int) : ah 74 #[dX p.T p.c p.x p.k, .int .i64 id] s fun y s' => y = .int .i64 (cM p.T id) ∧ s' = s := by
 obtain ⟨T, ⟨ca, can, cac⟩, ⟨xa, xan, xac⟩, ⟨ka, kan, kac⟩⟩ := p;dsimp only at h ⊢;have hres : cM T id = aJ (fun x : cw => decide (x.id = id)) T.cols 0 := rfl;rw [hres];refine z8 T.id T.name ca can cac xa xan xac ka kan kac id _ s ?_;unfold qX;have hlen : can = _ := h.len;have hfew := h.cO;simp only [aQ];refine ⟨fun z s' => ∃ k : Nat, z = ((T.id, T.name, (ca, can, cac), (xa, xan, xac), (ka, kan, kac), ()), ((k : Int), ()), ()) ∧ k ≤ can ∧ s' = s ∧ aJ (fun x : cw => decide (x.id = id)) (T.cols.drop k) k = aJ (fun x : cw => decide (x.id = id)) T.cols 0, fun z _ => can - z.2.1.1.toNat, ⟨0, rfl, Nat.zero_le _, rfl, rfl⟩, ?_⟩;rintro _ s ⟨k, rfl, hk, rfl, hs⟩;simp [W.af];refine ⟨fun hlt => ⟨hlt, ?_⟩, fun hge => ?_⟩
 ·obtain ⟨x, hx⟩ : ∃ x, T.cols[k]? = some x := ⟨_, List.getElem?_eq_getElem (by omega)⟩
  obtain ⟨ad, had, hh⟩ := h.el.aA hx;dsimp only at had; subst had;simp only [W.ay];refine bq (j := 0) hh (cs := [.int .i64]) (y := (x.id, ())) rfl ?_;rw [ec hx] at hs;simp [W.af, ai (k := k) (by omega), bV, gl];refine ⟨fun he => ?_, fun he => ⟨⟨k + 1, by simp, hlt, ?_⟩, by omega⟩⟩
  ·rw [← hs, if_pos (by simpa using he)]
  ·rw [← hs, if_neg (by simpa using he)]
 ·rw [← hs, eW (by omega)]
theorem CN {s : PH} {p : aC} (h : Sl j6 s p.x p.T.idxs) (name : BA) : ah 73 #[dX p.T p.c p.x p.k, .string name] s fun y s' => y = .int .i64 (j5 p.T name) ∧ s' = s := by
 obtain ⟨T, ⟨ca, can, cac⟩, ⟨xa, xan, xac⟩, ⟨ka, kan, kac⟩⟩ := p;dsimp only at h ⊢;have hres : j5 T name = aJ (fun x : ez => decide (x.name = name)) T.idxs 0 := rfl;rw [hres];refine Bt T.id T.name ca can cac xa xan xac ka kan kac name _ s ?_;unfold sg;have hlen : xan = _ := h.len;have hfew := h.cO;simp only [aQ];refine ⟨fun z s' => ∃ k : Nat, z = ((T.id, T.name, (ca, can, cac), (xa, xan, xac), (ka, kan, kac), ()), ((k : Int), ()), ()) ∧ k ≤ xan ∧ s' = s ∧ aJ (fun x : ez => decide (x.name = name)) (T.idxs.drop k) k = aJ (fun x : ez => decide (x.name = name)) T.idxs 0, fun z _ => xan - z.2.1.1.toNat, ⟨0, rfl, Nat.zero_le _, rfl, rfl⟩, ?_⟩;rintro _ s ⟨k, rfl, hk, rfl, hs⟩;simp [W.af];refine ⟨fun hlt => ⟨hlt, ?_⟩, fun hge => ?_⟩
 ·obtain ⟨x, hx⟩ : ∃ x, T.idxs[k]? = some x := ⟨_, List.getElem?_eq_getElem (by omega)⟩
  obtain ⟨ad, had, hh⟩ := h.el.aA hx;dsimp only at had; subst had;simp only [W.ay];refine bq (j := 1) hh (cs := [.str]) (y := (x.name, ())) rfl ?_;rw [ec hx] at hs;simp [W.af, ai (k := k) (by omega), bV, gl];refine ⟨fun he => ?_, fun he => ⟨⟨k + 1, by simp, hlt, ?_⟩, by omega⟩⟩
  ·rw [← hs, if_pos (by simpa using he)]
  ·rw [← hs, if_neg (by simpa using he)]
 ·rw [← hs, eW (by omega)]
theorem Gp {s : PH} {p : aC} (h : Sl lS s p.k p.T.keys) (name : BA) : ah 76 #[dX p.T p.c p.x p.k, .string name] s fun y s' => y = .int .i64 (jG p.T name) ∧ s' = s := by
 obtain ⟨T, ⟨ca, can, cac⟩, ⟨xa, xan, xac⟩, ⟨ka, kan, kac⟩⟩ := p;dsimp only at h ⊢;have hres : jG T name = aJ (fun x : For => decide (x.name = name)) T.keys 0 := rfl;rw [hres];refine Fe T.id T.name ca can cac xa xan xac ka kan kac name _ s ?_;unfold xM;have hlen : kan = _ := h.len;have hfew := h.cO;simp only [aQ];refine ⟨fun z s' => ∃ k : Nat, z = ((T.id, T.name, (ca, can, cac), (xa, xan, xac), (ka, kan, kac), ()), ((k : Int), ()), ()) ∧ k ≤ kan ∧ s' = s ∧ aJ (fun x : For => decide (x.name = name)) (T.keys.drop k) k = aJ (fun x : For => decide (x.name = name)) T.keys 0, fun z _ => kan - z.2.1.1.toNat, ⟨0, rfl, Nat.zero_le _, rfl, rfl⟩, ?_⟩;rintro _ s ⟨k, rfl, hk, rfl, hs⟩;simp [W.af];refine ⟨fun hlt => ⟨hlt, ?_⟩, fun hge => ?_⟩
 ·obtain ⟨x, hx⟩ : ∃ x, T.keys[k]? = some x := ⟨_, List.getElem?_eq_getElem (by omega)⟩
  obtain ⟨ad, had, hh⟩ := h.el.aA hx;dsimp only at had; subst had;simp only [W.ay];refine bq (j := 1) hh (cs := [.str]) (y := (x.name, ())) rfl ?_;rw [ec hx] at hs;simp [W.af, ai (k := k) (by omega), bV, gl];refine ⟨fun he => ?_, fun he => ⟨⟨k + 1, by simp, hlt, ?_⟩, by omega⟩⟩
  ·rw [← hs, if_pos (by simpa using he)]
  ·rw [← hs, if_neg (by simpa using he)]
 ·rw [← hs, eW (by omega)]
theorem mP {α : Type} {E : cK α} {s : PH} {e : TypeId} {bytes k : Nat} {zero : List Value} {src : Src} {xs : List α} {K : OA → Nat → Nat → W.T} (hs : eF s E.sz src (xs.flatMap E.f)) (hk : src.len = k) (hn : xs.length = k) (hl : k ≤ 4294967296) (hb : k * bytes ≤ 140737488355328) (hz : zero.length = E.sz)
  (hK : ∀ a' c' s', bp E s' e a' k c' xs → Fw.Mod [] s s' → (∀ g ∈ Fw.aU a', s g = none) → K a' k c' s') : W.nw (.cells #[] e (0, 0)) (fun r => W.app e E.sz bytes zero (some ⟨r, 0, none⟩) 0 0 src K) s := by
 refine W.bK fun r s1 hr m1 k1 => ?_;have hmax : maxLen = 9223372036854775807 := rfl
 have hsrc : eF s1 E.sz src (xs.flatMap E.f) := by
  cases src with
  | sl a m => cases a with
   | none => exact hs
   | some a => exact ⟨hs.1, hs.2.mono m1.le⟩
  | str b => exact hs
  | zer z l => exact hs
 have hnil : bp E s1 e (some ⟨r, 0, none⟩) 0 0 ([] : List α) := ⟨by simp, Nat.le_refl _, Nat.zero_le _, .inr ⟨r, _, rfl, k1, by simp, by simp⟩⟩
 refine iU (E := E) (k := k) (ys := xs) hnil hz hsrc hk hn (by omega) (by simpa using hb) ?_;intro a' c' s2 hrow hm;simp only [List.nil_append, Nat.zero_add] at hrow ⊢;rcases hm with ⟨rfl, hm⟩ | ⟨g, rfl, hg, hm⟩
 ·exact hK _ _ _ hrow (m1.fresh hm (by simp [Fw.aU, hr])) (by simp [Fw.aU, hr])
 ·exact hK _ _ _ hrow (m1.trans hm) (by simp [Fw.aU]; exact m1.none hg (by simp))
structure tJ (s : PH) (p : aC) : Prop where
 c : bp dD s 165 p.c.1 p.c.2.1 p.c.2.2 p.T.cols
 x : bp j6 s 170 p.x.1 p.x.2.1 p.x.2.2 p.T.idxs
 k : bp lS s 173 p.k.1 p.k.2.1 p.k.2.2 p.T.keys
def aC.L (p : aC) : List Nat := Fw.aU p.c.1 ++ (Fw.aU p.x.1 ++ Fw.aU p.k.1)
theorem tJ.known {s : PH} {p : aC} (h : tJ s p) : ∀ g ∈ p.L, s g ≠ none := by
 intro g hg;simp only [aC.L, List.mem_append] at hg;rcases hg with hg | hg | hg
 ·exact h.c.known g hg
 ·exact h.x.known g hg
 ·exact h.k.known g hg
theorem tJ.mod {s s' : PH} {p : aC} {M : List Nat} (h : tJ s p) (hm : Fw.Mod M s s') (hd : ∀ g ∈ p.L, g ∉ M) : tJ s' p := by
 simp only [aC.L, List.mem_append] at hd;exact ⟨h.c.mod hm fun g hg => hd g (.inl hg), h.x.mod hm fun g hg => hd g (.inr (.inl hg)), h.k.mod hm fun g hg => hd g (.inr (.inr hg))⟩
theorem Sl.bE {α : Type} {E : cK α} {s : PH} {e : TypeId} {t : aP} {xs : List α} (h : bp E s e t.1 t.2.1 t.2.2 xs) (hf : xs.length ≤ 4294967296) : Sl E s t xs := ⟨elems.bE h, h.le, hf⟩
def aG.JF (T : aG) : Prop := T.cols.length ≤ 4294967296 ∧ T.idxs.length ≤ 4294967296 ∧ T.keys.length ≤ 4294967296
theorem tJ.is {s : PH} {p : aC} (h : tJ s p) (hf : p.T.JF) : fY s p := ⟨.bE h.c hf.1, .bE h.x hf.2.1, .bE h.k hf.2.2⟩
theorem jN (a : OA) : (Fw.aU a).Nodup := by cases a <;> simp [Fw.aU]
end
section
attribute [-simp] Fw.W.bC Fw.W.bA
def La : cK Int where
 sz := 1
 f n := [.int .i64 n]
 len _ := rfl
 one p v hv := by simp at hv; subst hv; (first | done | rfl)
 pos := by omega
def LB (n : Int) : Nat := (if n < 0 then u64.wrap (u64.wrap (u64.wrap (i64.wrap (0 - i64.wrap (n + 1))) * 2) + 1) else u64.wrap (u64.wrap n * 2)).toNat
def Kb : Nat → Nat → List UInt8
 | 0, z => [UInt8.ofNat z]
 | f + 1, z => if z ≥ 128 then UInt8.ofNat (z % 128 + 128) :: Kb f (z / 128) else [UInt8.ofNat z]
def num (n : Int) : BA := ⟨(Kb 9 (LB n)).toArray⟩
end
section
attribute [-simp] Fw.W.bC Fw.W.bA
def Sm (t : BA) : Prop := t.size ≤ 281474976710656
def cw.Sm (c : cw) : Prop := c.name.size ≤ 281474976710656 ∧ c.dflt.s.size ≤ 281474976710656
theorem get_mem {α : Type} {l : List α} {k : Nat} {x : α} (h : l[k]? = some x) : x ∈ l := List.mem_of_getElem? h
structure aG.Sm (T : aG) : Prop where
 name : T.name.size ≤ 281474976710656
 cols : ∀ c ∈ T.cols, c.Sm
 idxs : ∀ x ∈ T.idxs, x.name.size ≤ 281474976710656
 keys : ∀ x ∈ T.keys, x.name.size ≤ 281474976710656
def aG.cost (T : aG) : Nat := 1 + T.cols.length + T.idxs.length + T.keys.length
def aD.cost (S : aD) : Nat := (S.tabs.map aG.cost).sum
structure aD.Sm (S : aD) : Prop where
 tabs : ∀ T ∈ S.tabs, T.Sm
 cost : S.cost ≤ 1000
end
section
attribute [-simp] Fw.W.bC Fw.W.bA
def upTo (c : Nat → Bool) (k : Nat) : Bool := (List.range k).all c
theorem nA (c : Nat → Bool) : upTo c 0 = true := rfl
theorem eK (c : Nat → Bool) (k : Nat) : upTo c (k + 1) = (upTo c k && c k) := by
 unfold upTo; rw [List.range_succ, List.all_append]; simp
theorem rJ {c : Nat → Bool} {k n : Nat} (h : c k = false) (hk : k < n) : upTo c n = false := by
 have key : ∀ d, upTo c (k + 1 + d) = false := by
  intro d
  induction d with
  | zero => rw [Nat.add_zero, eK, h, Bool.and_false]
  | succ d ih => rw [← Nat.add_assoc, eK, ih, Bool.false_and]
 have := key (n - (k + 1))
 rwa [show k + 1 + (n - (k + 1)) = n by omega] at this
theorem pJ {c : Nat → Bool} {n : Nat} : upTo c n = true ↔ ∀ i, i < n → c i = true := by
 unfold upTo; simp [List.all_eq_true]
def bX {α : Type} (p : Nat → α → Bool) (xs : List α) (i : Nat) : Bool := match xs[i]? with | some x => p i x | none => true
theorem di {α : Type} {p : Nat → α → Bool} {xs : List α} {i : Nat} {x : α} (h : xs[i]? = some x) : bX p xs i = p i x := by unfold bX; rw [h]
def allI {α : Type} (p : Nat → α → Bool) (xs : List α) : Bool := upTo (bX p xs) xs.length
def dM (n : Int) : Bool := decide (1 ≤ n) && decide (n ≤ 3)
def eD (xs : List cw) (i : Nat) (x : cw) : Bool := named x.name && decide (aJ (fun y : cw => decide (y.name = x.name)) xs 0 = i)
def eN (xs : List ez) (i : Nat) (x : ez) : Bool := named x.name && decide (aJ (fun y : ez => decide (y.name = x.name)) xs 0 = i)
def eM (xs : List For) (i : Nat) (x : For) : Bool := named x.name && decide (aJ (fun y : For => decide (y.name = x.name)) xs 0 = i)
def dH (xs : List aG) (i : Nat) (x : aG) : Bool := named x.name && decide (aJ (fun y : aG => decide (y.name = x.name)) xs 0 = i)
def cR {α : Type} (p : List α → Nat → α → Bool) (least most : Int) (xs : List α) : Bool := decide (least ≤ xs.length) && (decide ((xs.length : Int) ≤ most) && allI (p xs) xs)
def aX (last : Int) : List Int → List Int → Bool
 | [], _ => true
 | n :: l, seen => (decide (1 ≤ n) && decide (n ≤ last)) && (!decide (n ∈ seen) && aX last l (n :: seen))
def cF (T : aG) : List Int := T.id :: (T.cols.map (·.id) ++ (T.idxs.map (·.id) ++ T.keys.map (·.id)))
def fU (_ : Nat) (c : cw) : Bool := dM c.state && (typed c.kind && fits c.dflt c.kind)
def iK (T : aG) (_ : Nat) (x : ez) : Bool := dM x.state && decide (0 ≤ cM T x.column)
def o8 (S : aD) (T : aG) (x : For) : Bool :=
 match S.tabs[(dA S x.parent).toNat]?, T.cols[(cM T x.column).toNat]? with
 | some P, some c => (match P.cols with | c0 :: _ => decide (c.kind = c0.kind) | [] => false)
 | _, _ => false
def ie (S : aD) (T : aG) (_ : Nat) (x : For) : Bool := dM x.state && (decide (0 ≤ cM T x.column) && (decide (0 ≤ dA S x.parent) && o8 S T x))
def fh (T : aG) : Bool := match T.cols with | c :: _ => decide (c.state = 3) | [] => false
def ey (S : aD) (T : aG) : Bool := cR eD 1 8 T.cols && (cR eN 0 8 T.idxs && (cR eM 0 8 T.keys && (fh T && (allI fU T.cols && (allI (iK T) T.idxs && allI (ie S T) T.keys)))))
def jC (S : aD) : Bool := decide (0 ≤ S.version) && (decide (S.version ≤ 1125899906842624) && (decide (0 ≤ S.last) && decide (S.last ≤ 1125899906842624)))
def right (S : aD) : Bool := jC S && (cR dH 0 6 S.tabs && (allI (fun _ T => ey S T) S.tabs && aX S.last (S.tabs.flatMap cF) []))
theorem jl (last : Int) : ∀ (a b seen : List Int), aX last (a ++ b) seen = (aX last a seen && aX last b (a.reverse ++ seen))
 | [], b, seen => by simp [aX]
 | n :: a, b, seen => by
  simp only [List.cons_append, aX, jl last a b, List.reverse_cons, List.append_assoc, List.nil_append, List.cons_append]
  cases decide (1 ≤ n) && decide (n ≤ last) <;> cases !decide (n ∈ seen) <;> simp
def KJ (b : Bool) : Value := .bool b
structure Ck (s : PH) (c m : Nat) (last : Int) (bad : Bool) (seen : List Int) : Prop where
 cell : s c = some (.cells #[.int .i64 last, .map (some m), .bool bad] 222 (0, 0))
 map : ∃ f, ic (zK .i64) KJ s m f ∧ (bad = false → ∀ n, f.lookup n = if n ∈ seen then some true else none)
theorem Ck.ne {s : PH} {c m : Nat} {last : Int} {bad : Bool} {seen : List Int} (h : Ck s c m last bad seen) : c ≠ m := by
 rintro rfl;obtain ⟨f, ⟨es, k, h1, _⟩, _⟩ := h.map;rw [h.cell] at h1; cases h1
theorem Ck.lay {s : PH} {c m : Nat} {last : Int} {bad bad' : Bool} {seen : List Int} (h : Ck s c m last bad seen) (hb : bad' = false → bad = false) {o : Obj} (ho : o = .cells #[.int .i64 last, .map (some m), .bool bad'] 222 (0, 0) := by rfl) : Ck (s.aS c o) c m last bad' seen := by
 subst ho;obtain ⟨f, hf, hs⟩ := h.map;exact ⟨PH.bB _ _ _, f, hf.other h.ne.symm, fun e => hs (hb e)⟩
def gK (c m : Nat) (last : Int) (bad : Bool) (seen : List Int) (s : PH) (x : Value) (s' : PH) : Prop := x = .tuple #[] ∧ Ck s' c m last bad seen ∧ Fw.Mod [c, m] s s'
section
variable {s : PH} {c m : Nat} {last : Int} {bad : Bool} {seen : List Int}
theorem J7 {n : Int} {bad' : Bool} {K : W.T} (h : Ck s c m last bad seen) (hb : bad' = false → bad = false) (hK : ∀ s', Ck s' c m last bad' (n :: seen) → Fw.Mod [c, m] s s' → K s') :
  W.aa (some (Addr.mk c 0 none)) (fun p => W.st (p.add 2) [.bool bad'] (W.aa (some (Addr.mk c 0 none)) fun p => W.ld [.map] (p.add 1) fun x => W.gN (TypeDesc.int .i64) x.1 (.int .i64 n) (.bool true) K)) s := by
 have hc := h.cell;simp only [W.ay, bf, Nat.zero_add];rw [W.dU hc];refine ⟨by simp, by simp, by simp [Value.oneCell'], ?_⟩
 show W.aa _ _ (s.aS c (.cells #[.int .i64 last, .map (some m), .bool bad'] 222 (0, 0)))
 have h1 : Ck (s.aS c (.cells #[.int .i64 last, .map (some m), .bool bad'] 222 (0, 0))) c m last bad' seen := h.lay hb;have hc1 := h1.cell;simp [W.aB hc1];obtain ⟨f, hf, hs⟩ := h1.map;refine B1 (ke := zK .i64) hf (v := true) fun o ho => ?_;refine hK _ ⟨KC hc1 h1.ne o, _, ho, fun e k => ?_⟩ ((Mod.aS (L := [c, m]) (by simp)).bT (.inl (by simp)));rw [Bk, hs e]
 by_cases hk : k = n
 ·subst hk; simp
 ·have : (k == n) = false := by simpa using hk
  simp [this, hk]
theorem tP (h : Ck s c m last bad seen) (n : Int) : ah 170 #[cp c, .int .i64 n] s (gK c m last (bad || !((decide (1 ≤ n) && decide (n ≤ last)) && !decide (n ∈ seen))) (n :: seen) s) := by
 refine I9 c n _ s ?_;unfold Ci;have hc := h.cell;simp [W.af, W.aB hc]
 have fin : ∀ b', (b' = false → bad = false) → b' = (bad || !((decide (1 ≤ n) && decide (n ≤ last)) && !decide (n ∈ seen))) → W.aa (some (Addr.mk c 0 none)) (fun p => W.st (p.add 2) [.bool b'] (W.aa (some (Addr.mk c 0 none)) fun p => W.ld [.map] (p.add 1) fun x => W.gN (TypeDesc.int .i64) x.1 (.int .i64 n) (.bool true)
   (W.ret (gK c m last (bad || !((decide (1 ≤ n) && decide (n ≤ last)) && !decide (n ∈ seen))) (n :: seen) s) (.tuple #[])))) s := by
  intro b' hb he;refine J7 h hb fun s' h' m' => ?_;rw [he] at h';exact ⟨rfl, h', m'⟩
 have fin' := fun b' h1 h2 => by have := fin b' h1 h2; simp at this; exact this
 refine ⟨fun hb => fin' true (fun e => by cases e) (by rw [hb]; (first | done | rfl)), fun hb => ⟨fun h1 => fin' true (fun e => by cases e) (by rw [decide_eq_false (p := 1 ≤ n) (by omega)]; simp), fun h1 => ⟨fun h2 => fin' true (fun e => by cases e) (by rw [decide_eq_false (p := n ≤ last) (by omega)]; simp), fun h2 => ?_⟩⟩⟩;obtain ⟨f, hf, hs⟩ := h.map;refine vR (ke := zK .i64) hf (key := n) ?_;rw [hs hb n]
 by_cases hn : n ∈ seen
 ·rw [if_pos hn];refine ⟨(true, ()), rfl, ?_⟩;simp only [W.ay, bf, Nat.zero_add];exact fin' true (fun e => by cases e) (by simp [hn])
 ·rw [if_neg hn];refine ⟨(false, ()), rfl, ?_⟩;simp only [W.ay, bf, Nat.zero_add];exact fin' false (fun _ => hb) (by simp [hn, hb]; omega)
theorem qi (h : Ck s c m last bad seen) (n : Int) : ah 177 #[cp c, .int .i64 n] s (gK c m last (bad || !dM n) seen s) := by
 refine Dh c n _ s ?_;unfold uT;have hc := h.cell;simp [W.aB hc, W.af, W.dU hc]
 have fin : ∀ b', (b' = false → bad = false) → b' = (bad || !dM n) → gK c m last (bad || !dM n) seen s (.tuple #[]) (s.aS c (.cells #[.int .i64 last, .map (some m), .bool b'] 222 (0, 0))) := by
  intro b' hb he;rw [← he];exact ⟨rfl, h.lay hb, Mod.aS (by simp)⟩
 unfold dM at fin ⊢;refine ⟨fun hb => fin true (fun e => by cases e) (by rw [hb]; (first | done | rfl)), fun hb => ⟨fun h1 => fin true (fun e => by cases e) (by rw [decide_eq_false (p := 1 ≤ n) (by omega)]; simp), fun h1 => fin _ (fun _ => hb) ?_⟩⟩;rw [hb, decide_eq_true (p := 1 ≤ n) (by omega)]
 by_cases h3 : n ≤ 3
 ·rw [decide_eq_true h3, decide_eq_false (by omega)]; (first | done | rfl)
 ·rw [decide_eq_false h3, decide_eq_true (by omega)]; (first | done | rfl)
end
theorem Gi {s : PH} {c m : Nat} {last : Int} {bad : Bool} {seen : List Int} (h : Ck s c m last bad seen) {a : OA} {an ac : Nat} {xs : List cw} (hx : elems (Rd.enc dD) s a an xs) (hn : xs.length ≤ 4294967296)
  (hd : ∀ s', Fw.Mod [c, m] s s' → elems (Rd.enc dD) s' a an xs) (least most : Int) : ah 171 #[cp c, .slice a an ac, .int .i64 least, .int .i64 most, .func (.func 172) #[] #[]] s (gK c m last (bad || !cR eD least most xs) seen s) := by
 refine E7 c a an ac least most _ s ?_;unfold xG;have hc := h.cell;have hlen := hx.1
 have hll : xs.length = xs.length := by simp
 simp only [cG];refine W.bx (fun _ s' => Ck s' c m last (bad || !(decide (least ≤ xs.length) && decide ((xs.length : Int) ≤ most))) seen ∧ Fw.Mod [c, m] s s') ?_ ?_
 ·rintro _ s1 ⟨h1, m1⟩
  obtain ⟨bad1, hb1⟩ : ∃ b, b = (bad || !(decide (least ≤ xs.length) && decide ((xs.length : Int) ≤ most))) := ⟨_, rfl⟩
  rw [← hb1] at h1
  have hgoal : (bad || !cR eD least most xs) = (bad1 || !allI (eD xs) xs) := by
   rw [hb1]; unfold cR
   cases bad <;> cases decide (least ≤ xs.length) <;> cases decide ((xs.length : Int) ≤ most) <;> simp
  rw [hgoal];simp only [aQ];refine ⟨fun z s' => ∃ k : Nat, z = (((a, an, ac), ()), ((an : Int), ()), ((k : Int), ()), ()) ∧ k ≤ an ∧ Ck s' c m last bad1 seen ∧ Fw.Mod [c, m] s s' ∧ (0 < k → bad1 = false) ∧ upTo (bX (eD xs) xs) k = true, fun z _ => an - z.2.2.1.1.toNat, ⟨0, rfl, Nat.zero_le _, h1, m1, by omega, rfl⟩, ?_⟩;rintro _ s2 ⟨k, rfl, hk, h2, m2, hkb, hup⟩;have hc2 := h2.cell
  have hfin : ∀ b', b' = (bad1 || !allI (eD xs) xs) → (b' = false → bad1 = false) → gK c m last (bad1 || !allI (eD xs) xs) seen s (.tuple #[]) (s2.aS c (.cells #[.int .i64 last, .map (some m), .bool b'] 222 (0, 0))) := by
   intro b' he hb; rw [← he]; exact ⟨rfl, h2.lay hb, m2.bT (.inl (by simp))⟩
  simp [W.af, W.aB hc2, W.dU hc2];refine ⟨fun hlt => ⟨hlt, ?_⟩, fun hge => ?_⟩
  ·obtain ⟨x, hxk⟩ : ∃ x, xs[k]? = some x := ⟨_, List.getElem?_eq_getElem (by omega)⟩
   have hx2 := hd s2 m2;obtain ⟨ad, rfl, hh⟩ := hx2.aA hxk
   have hpk : xs[k]? = some x := by simp [hxk]
   simp only [W.ay];refine az hh (y := (x.id, x.name, x.kind, x.state, x.dflt.kind, x.dflt.n, x.dflt.s, ())) rfl ?_;simp [W.af, W.aB hc2, W.dU hc2];have hno : eD xs k x = false → allI (eD xs) xs = false := fun e => rJ (k := k) (by rw [di hpk]; exact e) (by omega);refine ⟨fun hb => ?_, fun hb => ?_⟩
   ·exact hfin true (by rw [hb]; (first | done | rfl)) (fun e => by cases e)
   ·refine W.ak (qj x s2) ?_;rintro _ s2' ⟨rfl, rfl⟩;refine ⟨((x.name, ()), ()), rfl, ?_⟩;refine W.ak (q6 x.name _) ?_;rintro _ s2' ⟨rfl, rfl⟩;refine ⟨((named x.name, ()), ()), rfl, ?_⟩;simp [W.af, W.aB hc2, W.dU hc2];refine ⟨fun h3 => hfin true (by rw [hno (by unfold eD; rw [h3]; (first | done | rfl))]; simp) (fun e => by cases e), fun h3 => ?_⟩;refine W.ak (qj x _) ?_;rintro _ s2' ⟨rfl, rfl⟩;refine ⟨((x.name, ()), ()), rfl, ?_⟩;refine W.ak (IG hx2 hn x.name) ?_;rintro _ s2' ⟨rfl, rfl⟩;refine ⟨((aJ (fun y : cw => decide (y.name = x.name)) xs 0, ()), ()), rfl, ?_⟩
    have hseek : aJ (fun y : cw => decide (y.name = x.name)) xs 0 = aJ (fun y : cw => decide (y.name = x.name)) xs 0 := by rfl
    simp [W.af, W.aB hc2, W.dU hc2, ai (k := k) (by omega)];refine ⟨fun h4 => ?_, fun h4 => ?_⟩
    ·have e4 : (aJ (fun y : cw => decide (y.name = x.name)) xs 0 != (k : Int)) = true := by simpa using h4
     rw [e4];exact hfin true (by rw [hno (by unfold eD; rw [h3, hseek]; simpa using h4)]; simp) (fun e => by cases e)
    ·have e4 : (aJ (fun y : cw => decide (y.name = x.name)) xs 0 != (k : Int)) = false := by simpa using h4
     rw [e4]
     have hyes : eD xs k x = true := by unfold eD; rw [h3, hseek]; simpa using h4
     refine ⟨⟨k + 1, by simp, hlt, ?_, m2.bT (.inl (by simp)), fun _ => hb, by rw [eK, hup, di hpk, hyes]; (first | done | rfl)⟩, by omega⟩;rw [hb]; exact h2.lay (fun _ => hb)
  ·have hke : k = xs.length := by omega
   have hall : allI (eD xs) xs = true := by unfold allI; rw [← hke]; exact hup
   rw [hall];refine ⟨rfl, ?_, m2⟩;simpa using h2
 ·intro J hJ;simp [W.aB hc, W.af, W.dU hc]
  have fin : ∀ b', (b' = false → bad = false) → b' = (bad || !(decide (least ≤ xs.length) && decide ((xs.length : Int) ≤ most))) → J () (s.aS c (.cells #[.int .i64 last, .map (some m), .bool b'] 222 (0, 0))) := by
   intro b' hb he;refine hJ _ _ ⟨?_, Mod.aS (by simp)⟩;rw [← he]; exact h.lay hb
  refine ⟨fun hb => fin true (fun e => by cases e) (by rw [hb]; (first | done | rfl)), fun hb => ⟨fun h1 => fin true (fun e => by cases e) (by rw [decide_eq_false (p := least ≤ xs.length) (by omega)]; simp), fun h1 => fin _ (fun _ => hb) ?_⟩⟩;rw [hb, decide_eq_true (p := least ≤ xs.length) (by omega)]
  by_cases h3 : (xs.length : Int) ≤ most
  ·rw [decide_eq_true h3, decide_eq_false (by omega)]; (first | done | rfl)
  ·rw [decide_eq_false h3, decide_eq_true (by omega)]; (first | done | rfl)
theorem Gl {s : PH} {c m : Nat} {last : Int} {bad : Bool} {seen : List Int} (h : Ck s c m last bad seen) {a : OA} {an ac : Nat} {xs : List ez} (hx : elems (Rd.enc j6) s a an xs) (hn : xs.length ≤ 4294967296)
  (hd : ∀ s', Fw.Mod [c, m] s s' → elems (Rd.enc j6) s' a an xs) (least most : Int) : ah 173 #[cp c, .slice a an ac, .int .i64 least, .int .i64 most, .func (.func 174) #[] #[]] s (gK c m last (bad || !cR eN least most xs) seen s) := by
 refine Fa c a an ac least most _ s ?_;unfold xJ;have hc := h.cell;have hlen := hx.1
 have hll : xs.length = xs.length := by simp
 simp only [cG];refine W.bx (fun _ s' => Ck s' c m last (bad || !(decide (least ≤ xs.length) && decide ((xs.length : Int) ≤ most))) seen ∧ Fw.Mod [c, m] s s') ?_ ?_
 ·rintro _ s1 ⟨h1, m1⟩
  obtain ⟨bad1, hb1⟩ : ∃ b, b = (bad || !(decide (least ≤ xs.length) && decide ((xs.length : Int) ≤ most))) := ⟨_, rfl⟩
  rw [← hb1] at h1
  have hgoal : (bad || !cR eN least most xs) = (bad1 || !allI (eN xs) xs) := by
   rw [hb1]; unfold cR
   cases bad <;> cases decide (least ≤ xs.length) <;> cases decide ((xs.length : Int) ≤ most) <;> simp
  rw [hgoal];simp only [aQ];refine ⟨fun z s' => ∃ k : Nat, z = (((a, an, ac), ()), ((an : Int), ()), ((k : Int), ()), ()) ∧ k ≤ an ∧ Ck s' c m last bad1 seen ∧ Fw.Mod [c, m] s s' ∧ (0 < k → bad1 = false) ∧ upTo (bX (eN xs) xs) k = true, fun z _ => an - z.2.2.1.1.toNat, ⟨0, rfl, Nat.zero_le _, h1, m1, by omega, rfl⟩, ?_⟩;rintro _ s2 ⟨k, rfl, hk, h2, m2, hkb, hup⟩;have hc2 := h2.cell
  have hfin : ∀ b', b' = (bad1 || !allI (eN xs) xs) → (b' = false → bad1 = false) → gK c m last (bad1 || !allI (eN xs) xs) seen s (.tuple #[]) (s2.aS c (.cells #[.int .i64 last, .map (some m), .bool b'] 222 (0, 0))) := by
   intro b' he hb; rw [← he]; exact ⟨rfl, h2.lay hb, m2.bT (.inl (by simp))⟩
  simp [W.af, W.aB hc2, W.dU hc2];refine ⟨fun hlt => ⟨hlt, ?_⟩, fun hge => ?_⟩
  ·obtain ⟨x, hxk⟩ : ∃ x, xs[k]? = some x := ⟨_, List.getElem?_eq_getElem (by omega)⟩
   have hx2 := hd s2 m2;obtain ⟨ad, rfl, hh⟩ := hx2.aA hxk
   have hpk : xs[k]? = some x := by simp [hxk]
   simp only [W.ay];refine az hh (y := (x.id, x.name, x.column, x.unique, x.state, ())) rfl ?_;simp [W.af, W.aB hc2, W.dU hc2];have hno : eN xs k x = false → allI (eN xs) xs = false := fun e => rJ (k := k) (by rw [di hpk]; exact e) (by omega);refine ⟨fun hb => ?_, fun hb => ?_⟩
   ·exact hfin true (by rw [hb]; (first | done | rfl)) (fun e => by cases e)
   ·refine W.ak (sG x s2) ?_;rintro _ s2' ⟨rfl, rfl⟩;refine ⟨((x.name, ()), ()), rfl, ?_⟩;refine W.ak (q6 x.name _) ?_;rintro _ s2' ⟨rfl, rfl⟩;refine ⟨((named x.name, ()), ()), rfl, ?_⟩;simp [W.af, W.aB hc2, W.dU hc2];refine ⟨fun h3 => hfin true (by rw [hno (by unfold eN; rw [h3]; (first | done | rfl))]; simp) (fun e => by cases e), fun h3 => ?_⟩;refine W.ak (sG x _) ?_;rintro _ s2' ⟨rfl, rfl⟩;refine ⟨((x.name, ()), ()), rfl, ?_⟩;refine W.ak (IK hx2 hn x.name) ?_;rintro _ s2' ⟨rfl, rfl⟩;refine ⟨((aJ (fun y : ez => decide (y.name = x.name)) xs 0, ()), ()), rfl, ?_⟩
    have hseek : aJ (fun y : ez => decide (y.name = x.name)) xs 0 = aJ (fun y : ez => decide (y.name = x.name)) xs 0 := by rfl
    simp [W.af, W.aB hc2, W.dU hc2, ai (k := k) (by omega)];refine ⟨fun h4 => ?_, fun h4 => ?_⟩
    ·have e4 : (aJ (fun y : ez => decide (y.name = x.name)) xs 0 != (k : Int)) = true := by simpa using h4
     rw [e4];exact hfin true (by rw [hno (by unfold eN; rw [h3, hseek]; simpa using h4)]; simp) (fun e => by cases e)
    ·have e4 : (aJ (fun y : ez => decide (y.name = x.name)) xs 0 != (k : Int)) = false := by simpa using h4
     rw [e4]
     have hyes : eN xs k x = true := by unfold eN; rw [h3, hseek]; simpa using h4
     refine ⟨⟨k + 1, by simp, hlt, ?_, m2.bT (.inl (by simp)), fun _ => hb, by rw [eK, hup, di hpk, hyes]; (first | done | rfl)⟩, by omega⟩;rw [hb]; exact h2.lay (fun _ => hb)
  ·have hke : k = xs.length := by omega
   have hall : allI (eN xs) xs = true := by unfold allI; rw [← hke]; exact hup
   rw [hall];refine ⟨rfl, ?_, m2⟩;simpa using h2
 ·intro J hJ;simp [W.aB hc, W.af, W.dU hc]
  have fin : ∀ b', (b' = false → bad = false) → b' = (bad || !(decide (least ≤ xs.length) && decide ((xs.length : Int) ≤ most))) → J () (s.aS c (.cells #[.int .i64 last, .map (some m), .bool b'] 222 (0, 0))) := by
   intro b' hb he;refine hJ _ _ ⟨?_, Mod.aS (by simp)⟩;rw [← he]; exact h.lay hb
  refine ⟨fun hb => fin true (fun e => by cases e) (by rw [hb]; (first | done | rfl)), fun hb => ⟨fun h1 => fin true (fun e => by cases e) (by rw [decide_eq_false (p := least ≤ xs.length) (by omega)]; simp), fun h1 => fin _ (fun _ => hb) ?_⟩⟩;rw [hb, decide_eq_true (p := least ≤ xs.length) (by omega)]
  by_cases h3 : (xs.length : Int) ≤ most
  ·rw [decide_eq_true h3, decide_eq_false (by omega)]; (first | done | rfl)
  ·rw [decide_eq_false h3, decide_eq_true (by omega)]; (first | done | rfl)
theorem Gj {s : PH} {c m : Nat} {last : Int} {bad : Bool} {seen : List Int} (h : Ck s c m last bad seen) {a : OA} {an ac : Nat} {xs : List For} (hx : elems (Rd.enc lS) s a an xs) (hn : xs.length ≤ 4294967296)
  (hd : ∀ s', Fw.Mod [c, m] s s' → elems (Rd.enc lS) s' a an xs) (least most : Int) : ah 175 #[cp c, .slice a an ac, .int .i64 least, .int .i64 most, .func (.func 176) #[] #[]] s (gK c m last (bad || !cR eM least most xs) seen s) := by
 refine E8 c a an ac least most _ s ?_;unfold xH;have hc := h.cell;have hlen := hx.1
 have hll : xs.length = xs.length := by simp
 simp only [cG];refine W.bx (fun _ s' => Ck s' c m last (bad || !(decide (least ≤ xs.length) && decide ((xs.length : Int) ≤ most))) seen ∧ Fw.Mod [c, m] s s') ?_ ?_
 ·rintro _ s1 ⟨h1, m1⟩
  obtain ⟨bad1, hb1⟩ : ∃ b, b = (bad || !(decide (least ≤ xs.length) && decide ((xs.length : Int) ≤ most))) := ⟨_, rfl⟩
  rw [← hb1] at h1
  have hgoal : (bad || !cR eM least most xs) = (bad1 || !allI (eM xs) xs) := by
   rw [hb1]; unfold cR
   cases bad <;> cases decide (least ≤ xs.length) <;> cases decide ((xs.length : Int) ≤ most) <;> simp
  rw [hgoal];simp only [aQ];refine ⟨fun z s' => ∃ k : Nat, z = (((a, an, ac), ()), ((an : Int), ()), ((k : Int), ()), ()) ∧ k ≤ an ∧ Ck s' c m last bad1 seen ∧ Fw.Mod [c, m] s s' ∧ (0 < k → bad1 = false) ∧ upTo (bX (eM xs) xs) k = true, fun z _ => an - z.2.2.1.1.toNat, ⟨0, rfl, Nat.zero_le _, h1, m1, by omega, rfl⟩, ?_⟩;rintro _ s2 ⟨k, rfl, hk, h2, m2, hkb, hup⟩;have hc2 := h2.cell
  have hfin : ∀ b', b' = (bad1 || !allI (eM xs) xs) → (b' = false → bad1 = false) → gK c m last (bad1 || !allI (eM xs) xs) seen s (.tuple #[]) (s2.aS c (.cells #[.int .i64 last, .map (some m), .bool b'] 222 (0, 0))) := by
   intro b' he hb; rw [← he]; exact ⟨rfl, h2.lay hb, m2.bT (.inl (by simp))⟩
  simp [W.af, W.aB hc2, W.dU hc2];refine ⟨fun hlt => ⟨hlt, ?_⟩, fun hge => ?_⟩
  ·obtain ⟨x, hxk⟩ : ∃ x, xs[k]? = some x := ⟨_, List.getElem?_eq_getElem (by omega)⟩
   have hx2 := hd s2 m2;obtain ⟨ad, rfl, hh⟩ := hx2.aA hxk
   have hpk : xs[k]? = some x := by simp [hxk]
   simp only [W.ay];refine az hh (y := (x.id, x.name, x.column, x.parent, x.state, ())) rfl ?_;simp [W.af, W.aB hc2, W.dU hc2];have hno : eM xs k x = false → allI (eM xs) xs = false := fun e => rJ (k := k) (by rw [di hpk]; exact e) (by omega);refine ⟨fun hb => ?_, fun hb => ?_⟩
   ·exact hfin true (by rw [hb]; (first | done | rfl)) (fun e => by cases e)
   ·refine W.ak (oN x s2) ?_;rintro _ s2' ⟨rfl, rfl⟩;refine ⟨((x.name, ()), ()), rfl, ?_⟩;refine W.ak (q6 x.name _) ?_;rintro _ s2' ⟨rfl, rfl⟩;refine ⟨((named x.name, ()), ()), rfl, ?_⟩;simp [W.af, W.aB hc2, W.dU hc2];refine ⟨fun h3 => hfin true (by rw [hno (by unfold eM; rw [h3]; (first | done | rfl))]; simp) (fun e => by cases e), fun h3 => ?_⟩;refine W.ak (oN x _) ?_;rintro _ s2' ⟨rfl, rfl⟩;refine ⟨((x.name, ()), ()), rfl, ?_⟩;refine W.ak (II hx2 hn x.name) ?_;rintro _ s2' ⟨rfl, rfl⟩;refine ⟨((aJ (fun y : For => decide (y.name = x.name)) xs 0, ()), ()), rfl, ?_⟩
    have hseek : aJ (fun y : For => decide (y.name = x.name)) xs 0 = aJ (fun y : For => decide (y.name = x.name)) xs 0 := by rfl
    simp [W.af, W.aB hc2, W.dU hc2, ai (k := k) (by omega)];refine ⟨fun h4 => ?_, fun h4 => ?_⟩
    ·have e4 : (aJ (fun y : For => decide (y.name = x.name)) xs 0 != (k : Int)) = true := by simpa using h4
     rw [e4];exact hfin true (by rw [hno (by unfold eM; rw [h3, hseek]; simpa using h4)]; simp) (fun e => by cases e)
    ·have e4 : (aJ (fun y : For => decide (y.name = x.name)) xs 0 != (k : Int)) = false := by simpa using h4
     rw [e4]
     have hyes : eM xs k x = true := by unfold eM; rw [h3, hseek]; simpa using h4
     refine ⟨⟨k + 1, by simp, hlt, ?_, m2.bT (.inl (by simp)), fun _ => hb, by rw [eK, hup, di hpk, hyes]; (first | done | rfl)⟩, by omega⟩;rw [hb]; exact h2.lay (fun _ => hb)
  ·have hke : k = xs.length := by omega
   have hall : allI (eM xs) xs = true := by unfold allI; rw [← hke]; exact hup
   rw [hall];refine ⟨rfl, ?_, m2⟩;simpa using h2
 ·intro J hJ;simp [W.aB hc, W.af, W.dU hc]
  have fin : ∀ b', (b' = false → bad = false) → b' = (bad || !(decide (least ≤ xs.length) && decide ((xs.length : Int) ≤ most))) → J () (s.aS c (.cells #[.int .i64 last, .map (some m), .bool b'] 222 (0, 0))) := by
   intro b' hb he;refine hJ _ _ ⟨?_, Mod.aS (by simp)⟩;rw [← he]; exact h.lay hb
  refine ⟨fun hb => fin true (fun e => by cases e) (by rw [hb]; (first | done | rfl)), fun hb => ⟨fun h1 => fin true (fun e => by cases e) (by rw [decide_eq_false (p := least ≤ xs.length) (by omega)]; simp), fun h1 => fin _ (fun _ => hb) ?_⟩⟩;rw [hb, decide_eq_true (p := least ≤ xs.length) (by omega)]
  by_cases h3 : (xs.length : Int) ≤ most
  ·rw [decide_eq_true h3, decide_eq_false (by omega)]; (first | done | rfl)
  ·rw [decide_eq_false h3, decide_eq_true (by omega)]; (first | done | rfl)
theorem Gk {s : PH} {c m : Nat} {last : Int} {bad : Bool} {seen : List Int} (h : Ck s c m last bad seen) {a : OA} {an ac : Nat} {xs : List aC} (hx : elems (Rd.enc ja) s a an xs) (hn : xs.length ≤ 4294967296)
  (hd : ∀ s', Fw.Mod [c, m] s s' → elems (Rd.enc ja) s' a an xs) (least most : Int) : ah 117 #[cp c, .slice a an ac, .int .i64 least, .int .i64 most, .func (.func 118) #[] #[]] s (gK c m last (bad || !cR dH least most (xs.map (·.T))) seen s) := by
 refine E9 c a an ac least most _ s ?_;unfold xI;have hc := h.cell;have hlen := hx.1
 have hll : (xs.map (·.T)).length = xs.length := by simp
 simp only [cG];refine W.bx (fun _ s' => Ck s' c m last (bad || !(decide (least ≤ (xs.map (·.T)).length) && decide (((xs.map (·.T)).length : Int) ≤ most))) seen ∧ Fw.Mod [c, m] s s') ?_ ?_
 ·rintro _ s1 ⟨h1, m1⟩
  obtain ⟨bad1, hb1⟩ : ∃ b, b = (bad || !(decide (least ≤ (xs.map (·.T)).length) && decide (((xs.map (·.T)).length : Int) ≤ most))) := ⟨_, rfl⟩
  rw [← hb1] at h1
  have hgoal : (bad || !cR dH least most (xs.map (·.T))) = (bad1 || !allI (dH (xs.map (·.T))) (xs.map (·.T))) := by
   rw [hb1]; unfold cR
   cases bad <;> cases decide (least ≤ (xs.map (·.T)).length) <;> cases decide (((xs.map (·.T)).length : Int) ≤ most) <;> simp
  rw [hgoal];simp only [aQ];refine ⟨fun z s' => ∃ k : Nat, z = (((a, an, ac), ()), ((an : Int), ()), ((k : Int), ()), ()) ∧ k ≤ an ∧ Ck s' c m last bad1 seen ∧ Fw.Mod [c, m] s s' ∧ (0 < k → bad1 = false) ∧ upTo (bX (dH (xs.map (·.T))) (xs.map (·.T))) k = true, fun z _ => an - z.2.2.1.1.toNat, ⟨0, rfl, Nat.zero_le _, h1, m1, by omega, rfl⟩, ?_⟩;rintro _ s2 ⟨k, rfl, hk, h2, m2, hkb, hup⟩;have hc2 := h2.cell
  have hfin : ∀ b', b' = (bad1 || !allI (dH (xs.map (·.T))) (xs.map (·.T))) → (b' = false → bad1 = false) → gK c m last (bad1 || !allI (dH (xs.map (·.T))) (xs.map (·.T))) seen s (.tuple #[]) (s2.aS c (.cells #[.int .i64 last, .map (some m), .bool b'] 222 (0, 0))) := by
   intro b' he hb; rw [← he]; exact ⟨rfl, h2.lay hb, m2.bT (.inl (by simp))⟩
  simp [W.af, W.aB hc2, W.dU hc2];refine ⟨fun hlt => ⟨hlt, ?_⟩, fun hge => ?_⟩
  ·obtain ⟨x, hxk⟩ : ∃ x, xs[k]? = some x := ⟨_, List.getElem?_eq_getElem (by omega)⟩
   have hx2 := hd s2 m2;obtain ⟨ad, rfl, hh⟩ := hx2.aA hxk
   have hpk : (xs.map (·.T))[k]? = some x.T := by simp [hxk]
   simp only [W.ay];refine az hh (y := (x.T.id, x.T.name, x.c, x.x, x.k, ())) rfl ?_;simp [W.af, W.aB hc2, W.dU hc2];have hno : dH (xs.map (·.T)) k x.T = false → allI (dH (xs.map (·.T))) (xs.map (·.T)) = false := fun e => rJ (k := k) (by rw [di hpk]; exact e) (by omega);refine ⟨fun hb => ?_, fun hb => ?_⟩
   ·exact hfin true (by rw [hb]; (first | done | rfl)) (fun e => by cases e)
   ·refine W.ak (sH x s2) ?_;rintro _ s2' ⟨rfl, rfl⟩;refine ⟨((x.T.name, ()), ()), rfl, ?_⟩;refine W.ak (q6 x.T.name _) ?_;rintro _ s2' ⟨rfl, rfl⟩;refine ⟨((named x.T.name, ()), ()), rfl, ?_⟩;simp [W.af, W.aB hc2, W.dU hc2];refine ⟨fun h3 => hfin true (by rw [hno (by unfold dH; rw [h3]; (first | done | rfl))]; simp) (fun e => by cases e), fun h3 => ?_⟩;refine W.ak (sH x _) ?_;rintro _ s2' ⟨rfl, rfl⟩;refine ⟨((x.T.name, ()), ()), rfl, ?_⟩;refine W.ak (IJ hx2 hn x.T.name) ?_;rintro _ s2' ⟨rfl, rfl⟩;refine ⟨((aJ (fun y : aC => decide (y.T.name = x.T.name)) xs 0, ()), ()), rfl, ?_⟩
    have hseek : aJ (fun y : aG => decide (y.name = x.T.name)) (xs.map (·.T)) 0 = aJ (fun y : aC => decide (y.T.name = x.T.name)) xs 0 := by rw [mQ]
    simp [W.af, W.aB hc2, W.dU hc2, ai (k := k) (by omega)];refine ⟨fun h4 => ?_, fun h4 => ?_⟩
    ·have e4 : (aJ (fun y : aC => decide (y.T.name = x.T.name)) xs 0 != (k : Int)) = true := by simpa using h4
     rw [e4];exact hfin true (by rw [hno (by unfold dH; rw [h3, hseek]; simpa using h4)]; simp) (fun e => by cases e)
    ·have e4 : (aJ (fun y : aC => decide (y.T.name = x.T.name)) xs 0 != (k : Int)) = false := by simpa using h4
     rw [e4]
     have hyes : dH (xs.map (·.T)) k x.T = true := by unfold dH; rw [h3, hseek]; simpa using h4
     refine ⟨⟨k + 1, by simp, hlt, ?_, m2.bT (.inl (by simp)), fun _ => hb, by rw [eK, hup, di hpk, hyes]; (first | done | rfl)⟩, by omega⟩;rw [hb]; exact h2.lay (fun _ => hb)
  ·have hke : k = (xs.map (·.T)).length := by omega
   have hall : allI (dH (xs.map (·.T))) (xs.map (·.T)) = true := by unfold allI; rw [← hke]; exact hup
   rw [hall];refine ⟨rfl, ?_, m2⟩;simpa using h2
 ·intro J hJ;simp [W.aB hc, W.af, W.dU hc]
  have fin : ∀ b', (b' = false → bad = false) → b' = (bad || !(decide (least ≤ (xs.map (·.T)).length) && decide (((xs.map (·.T)).length : Int) ≤ most))) → J () (s.aS c (.cells #[.int .i64 last, .map (some m), .bool b'] 222 (0, 0))) := by
   intro b' hb he;refine hJ _ _ ⟨?_, Mod.aS (by simp)⟩;rw [← he]; exact h.lay hb
  refine ⟨fun hb => fin true (fun e => by cases e) (by rw [hb]; (first | done | rfl)), fun hb => ⟨fun h1 => fin true (fun e => by cases e) (by rw [decide_eq_false (p := least ≤ (xs.map (·.T)).length) (by omega)]; simp), fun h1 => fin _ (fun _ => hb) ?_⟩⟩;rw [hb, decide_eq_true (p := least ≤ (xs.map (·.T)).length) (by omega)]
  by_cases h3 : ((xs.map (·.T)).length : Int) ≤ most
  ·rw [decide_eq_true h3, decide_eq_false (by omega)]; (first | done | rfl)
  ·rw [decide_eq_false h3, decide_eq_true (by omega)]; (first | done | rfl)
end
section
attribute [-simp] Fw.W.bC Fw.W.bA
theorem lu (last : Int) (l : List Int) (n : Int) (seen : List Int) : aX last (l ++ [n]) seen = (aX last l seen && ((decide (1 ≤ n) && decide (n ≤ last)) && !decide (n ∈ l.reverse ++ seen))) := by
 rw [jl]; simp [aX]
theorem Ck.any {s : PH} {c m : Nat} {last : Int} {seen seen' : List Int} (h : Ck s c m last true seen) : Ck s c m last true seen' := by
 obtain ⟨f, hf, _⟩ := h.map;exact ⟨h.cell, f, hf, fun e => by cases e⟩
theorem jJ {α : Type} (f : α → Int) {l : List α} {k : Nat} {x : α} (h : l[k]? = some x) : (l.take (k + 1)).map f = (l.take k).map f ++ [f x] := by
 rw [List.take_add_one, h]; simp
theorem qD {P1 U R A St Rest : Bool} : ((!(P1 && (U && R)) || !A) || !St || !Rest) = !(P1 && ((U && (St && Rest)) && (R && A))) := by
 cases P1 <;> cases U <;> cases R <;> cases A <;> cases St <;> cases Rest <;> rfl
theorem tW {s : PH} {c m : Nat} {last : Int} {bad : Bool} {seen : List Int} (h : Ck s c m last bad seen) {K : Den [.bool] → W.T} (hK : K (bad, ()) s) : W.aa (some (Addr.mk c 0 none)) (fun p => W.ld [.bool] (p.add 2) K) s := by
 simp only [W.ay, bf, Nat.zero_add];rw [W.aB h.cell];exact ⟨(bad, ()), by simp, hK⟩
theorem j0 {s : PH} {c m : Nat} {last : Int} {bad b' : Bool} {seen : List Int} (h : Ck s c m last bad seen) {K : W.T} (hK : K (s.aS c (.cells #[.int .i64 last, .map (some m), .bool b'] 222 (0, 0)))) : W.aa (some (Addr.mk c 0 none)) (fun p => W.st (p.add 2) [.bool b'] K) s := by
 simp only [W.ay, bf, Nat.zero_add];rw [W.dU h.cell];exact ⟨by simp, by simp, by simp [Value.oneCell'], hK⟩
section
variable {s0 s : PH} {c m : Nat} {last : Int} {bad : Bool} {seen : List Int} {t : aP} {S : aD} {ps : List aC} {p : aC}
theorem Ef (h : Ck s c m last bad seen) (hS : dP s0 t S ps) (hp : p ∈ ps) (m0 : Fw.Mod [] s0 s) (hc0 : s0 c = none) (hm0 : s0 m = none) :
  ah 119 #[cp c, eV S t, dX p.T p.c p.x p.k] s (gK c m last (bad || !(ey S p.T && aX last (cF p.T) seen)) ((cF p.T).reverse ++ seen) s) := by
 have hP0 := hS.all p hp;have keep : ∀ {s'}, Fw.Mod [c, m] s s' → Fw.Mod [] s0 s' := fun mm => m0.fresh mm (by simp [hc0, hm0]);obtain ⟨T, ⟨ca, can, cac⟩, ⟨xa, xan, xac⟩, ⟨ka, kan, kac⟩⟩ := p;obtain ⟨ta, tn, tc⟩ := t;dsimp only at hP0 ⊢;have hcan : can = T.cols.length := hP0.c.len;have hxan : xan = T.idxs.length := hP0.x.len;have hkan : kan = T.keys.length := hP0.k.len;have hcf := hP0.c.cO;have hxf := hP0.x.cO;have hkf := hP0.k.cO;dsimp only at hcf hxf hkf
 obtain ⟨res, hres⟩ : ∃ b, (bad || !(ey S T && aX last (cF T) seen)) = b := ⟨_, rfl⟩
 obtain ⟨sn, hsn⟩ : ∃ l, (cF T).reverse ++ seen = l := ⟨_, rfl⟩
 rw [hres, hsn];refine Di c S.version S.last ta tn tc T.id T.name ca can cac xa xan xac ka kan kac _ s ?_;unfold uU;simp only [aT];refine W.ak (tP h T.id) ?_;rintro _ s1 ⟨rfl, h1, m1⟩;refine ⟨(), rfl, ?_⟩;refine W.ak (Gi h1 (hP0.c.el.mono (keep m1).le) hcf (fun s' hm => hP0.c.el.mono (keep (m1.trans hm)).le) 1 8) ?_;rintro _ s2 ⟨rfl, h2, m2'⟩;have m2 := m1.trans m2';refine ⟨(), rfl, ?_⟩;refine W.ak (Gl h2 (hP0.x.el.mono (keep m2).le) hxf (fun s' hm => hP0.x.el.mono (keep (m2.trans hm)).le) 0 8) ?_;rintro _ s3 ⟨rfl, h3, m3'⟩;have m3 := m2.trans m3';refine ⟨(), rfl, ?_⟩;refine W.ak (Gj h3 (hP0.k.el.mono (keep m3).le) hkf (fun s' hm => hP0.k.el.mono (keep (m3.trans hm)).le) 0 8) ?_;rintro _ s4 ⟨rfl, h4, m4'⟩;have m4 := m3.trans m4';refine ⟨(), rfl, ?_⟩;have hids : cF T = T.id :: (T.cols.map (·.id) ++ (T.idxs.map (·.id) ++ T.keys.map (·.id))) := rfl
 have hrun : aX last (cF T) seen = ((decide (1 ≤ T.id) && decide (T.id ≤ last)) && (!decide (T.id ∈ seen) && (aX last (T.cols.map (·.id)) (T.id :: seen) &&
   (aX last (T.idxs.map (·.id)) ((T.cols.map (·.id)).reverse ++ (T.id :: seen)) && aX last (T.keys.map (·.id)) ((T.idxs.map (·.id)).reverse ++ ((T.cols.map (·.id)).reverse ++ (T.id :: seen))))))) := by
  rw [hids]; simp only [aX, jl]
 have hseen : (T.keys.map (·.id)).reverse ++ ((T.idxs.map (·.id)).reverse ++ ((T.cols.map (·.id)).reverse ++ (T.id :: seen))) = sn := by
  rw [← hsn, hids]; simp
 obtain ⟨A, hA⟩ : ∃ A, ((decide (1 ≤ T.id) && decide (T.id ≤ last)) && !decide (T.id ∈ seen)) = A := ⟨_, rfl⟩
 rw [← Bool.and_assoc, hA] at hrun;rw [hA] at h4
 obtain ⟨N1, hN1⟩ : ∃ N, cR eD 1 8 T.cols = N := ⟨_, rfl⟩
 obtain ⟨N2, hN2⟩ : ∃ N, cR eN 0 8 T.idxs = N := ⟨_, rfl⟩
 obtain ⟨N3, hN3⟩ : ∃ N, cR eM 0 8 T.keys = N := ⟨_, rfl⟩
 rw [hN1, hN2, hN3] at h4
 obtain ⟨b4, hb4⟩ : ∃ b, ((((bad || !A) || !N1) || !N2) || !N3) = b := ⟨_, rfl⟩
 rw [hb4] at h4;have hc4 := h4.cell
 have hres2 : res = (bad || !((N1 && (N2 && (N3 && (fh T && (allI fU T.cols && (allI (iK T) T.idxs && allI (ie S T) T.keys)))))) && aX last (cF T) seen)) := by rw [← hres]; unfold ey; rw [hN1, hN2, hN3]
 simp [W.aB hc4, W.af];refine ⟨fun hbad => ?_, fun hbad => ?_⟩
 ·subst hbad
  have e1 : res = true := by
   rw [hres2, hrun]
   revert hb4
   cases bad <;> cases A <;> cases N1 <;> cases N2 <;> cases N3 <;> simp
  rw [e1];exact ⟨rfl, h4.any, m4⟩
 ·subst hbad
  have hall : bad = false ∧ A = true ∧ N1 = true ∧ N2 = true ∧ N3 = true := by
   revert hb4
   cases bad <;> cases A <;> cases N1 <;> cases N2 <;> cases N3 <;> simp
  obtain ⟨rfl, rfl, rfl, rfl, rfl⟩ := hall
  have hcl : 1 ≤ T.cols.length := by
   unfold cR at hN1;simp only [Bool.and_eq_true, decide_eq_true_eq] at hN1;omega
  obtain ⟨c0, cs, hcs⟩ : ∃ c0 cs, T.cols = c0 :: cs := by
   cases hc : T.cols with
   | nil => rw [hc] at hcl; simp at hcl
   | cons a b => exact ⟨a, b, rfl⟩
  have hf3 : fh T = decide (c0.state = 3) := by unfold fh; rw [hcs]
  obtain ⟨ad, had, hh⟩ := (hP0.c.mono (keep m4).le).el.aA (i := 0) (x := c0) (by rw [hcs]; (first | done | rfl));dsimp only at had; subst had;rw [Nat.zero_mul, add_zero] at hh;refine ⟨by omega, ?_⟩;simp only [W.ay];refine bq (j := 3) hh (cs := [.int .i64]) (y := (c0.state, ())) rfl ?_;refine j0 h4 ?_;have h5 : Ck (s4.aS c (.cells #[.int .i64 last, .map (some m), .bool (c0.state != 3)] 222 (0, 0))) c m last (c0.state != 3) (T.id :: seen) := h4.lay (fun _ => rfl);have m5 : Fw.Mod [c, m] s (s4.aS c (.cells #[.int .i64 last, .map (some m), .bool (c0.state != 3)] 222 (0, 0))) := m4.bT (.inl (by simp))
  generalize s4.aS c (.cells #[.int .i64 last, .map (some m), .bool (c0.state != 3)] 222 (0, 0)) = s5 at h5 m5 ⊢
  have hb5 : (c0.state != 3) = !(fh T && (upTo (bX fU T.cols) 0 && aX last ((T.cols.take 0).map (·.id)) (T.id :: seen))) := by
   rw [hf3]
   by_cases h : c0.state = 3 <;> simp [h, nA, aX]
  rw [hb5] at h5
  have hgoal : res = !(((fh T && (allI fU T.cols && aX last (T.cols.map (·.id)) (T.id :: seen))) && (allI (iK T) T.idxs && aX last (T.idxs.map (·.id)) ((T.cols.map (·.id)).reverse ++ (T.id :: seen)))) &&
    (allI (ie S T) T.keys && aX last (T.keys.map (·.id)) ((T.idxs.map (·.id)).reverse ++ ((T.cols.map (·.id)).reverse ++ (T.id :: seen))))) := by
   rw [hres2, hrun]
   generalize fh T = F
   generalize allI fU T.cols = C1
   generalize allI (iK T) T.idxs = C2
   generalize allI (ie S T) T.keys = C3
   generalize aX last (T.cols.map (·.id)) (T.id :: seen) = R1
   generalize aX last (T.idxs.map (·.id)) _ = R2
   generalize aX last (T.keys.map (·.id)) _ = R3
   cases F <;> cases C1 <;> cases C2 <;> cases C3 <;> cases R1 <;> cases R2 <;> cases R3 <;> rfl
  clear hres2 hrun hres hb5 hf3 hh hc4 h4
  obtain ⟨sd1, hsd1⟩ : ∃ l, T.id :: seen = l := ⟨_, rfl⟩
  rw [hsd1] at h5 hgoal hseen
  obtain ⟨F, hF⟩ : ∃ F, fh T = F := ⟨_, rfl⟩
  rw [hF] at h5 hgoal
  refine ⟨fun z s' => ∃ k : Nat, z = ((S.version, S.last, (ta, tn, tc), ()), (T.id, T.name, (some ad, can, cac), (xa, xan, xac), (ka, kan, kac), ()), ((some ad, can, cac), ()), ((can : Int), ()), ((k : Int), ()), ()) ∧ k ≤ can ∧
   Ck s' c m last (!(F && (upTo (bX fU T.cols) k && aX last ((T.cols.take k).map (·.id)) sd1))) (((T.cols.take k).map (·.id)).reverse ++ sd1) ∧ Fw.Mod [c, m] s s', fun z _ => can - z.2.2.2.2.1.1.toNat, ⟨0, rfl, Nat.zero_le _, by simpa using h5, m5⟩, ?_⟩
  rintro _ s6 ⟨k, rfl, hk, h6, m6⟩;simp only [W.af, decide_eq_true_eq, decide_eq_false_iff_not];refine ⟨fun hlt => ?_, fun hge => ?_⟩
  ·have hlt : k < can := by omega
   obtain ⟨x, hx⟩ : ∃ x, T.cols[k]? = some x := ⟨_, List.getElem?_eq_getElem (by omega)⟩
   obtain ⟨ad2, had2, hh⟩ := (hP0.c.mono (keep m6).le).el.aA hx;dsimp only at had2;cases had2;have hstep := jJ (·.id) hx
   have hnext : (!(F && (upTo (bX fU T.cols) (k + 1) && aX last ((T.cols.take (k + 1)).map (·.id)) sd1))) = (((!(F && (upTo (bX fU T.cols) k && aX last ((T.cols.take k).map (·.id)) sd1))) || !((decide (1 ≤ x.id) && decide (x.id ≤ last)) && !decide (x.id ∈ ((T.cols.take k).map (·.id)).reverse ++ sd1))) || !dM x.state || !(typed x.kind && fits x.dflt x.kind)) := by
    rw [eK, di hx, hstep, lu, qD]; (first | done | rfl)
   have hsn2 : (((T.cols.take (k + 1)).map (·.id)).reverse ++ sd1) = x.id :: (((T.cols.take k).map (·.id)).reverse ++ sd1) := by rw [hstep]; simp
   refine ⟨by omega, ?_⟩;simp only [W.ay];refine az hh (y := (x.id, x.name, x.kind, x.state, x.dflt.kind, x.dflt.n, x.dflt.s, ())) rfl ?_;refine W.ak (tP h6 x.id) ?_;rintro _ s7 ⟨rfl, h7, m7⟩;refine ⟨(), rfl, ?_⟩;refine W.ak (qi h7 x.state) ?_;rintro _ s8 ⟨rfl, h8, m8⟩;refine ⟨(), rfl, ?_⟩;rw [← hsn2] at h8
   generalize hb8 : ((!(F && (upTo (bX fU T.cols) k && aX last ((T.cols.take k).map (·.id)) sd1))) || !((decide (1 ≤ x.id) && decide (x.id ≤ last)) && !decide (x.id ∈ ((T.cols.take k).map (·.id)).reverse ++ sd1)) || !dM x.state) = b8 at h8 hnext
   have m678 := (m6.trans m7).trans m8;have hc8 := h8.cell;have hw := ai (k := k) (by omega)
   have fin : ∀ b', (b' = false → b8 = false) → b' = (b8 || !(typed x.kind && fits x.dflt x.kind)) → ∃ k' : Nat, ((S.version, S.last, (ta, tn, tc), ()), (T.id, T.name, (some ad, can, cac), (xa, xan, xac), (ka, kan, kac), ()), ((some ad, can, cac), ()), ((can : Int), ()), (i64.wrap ((k : Int) + 1), ()), ()) =
     (((S.version, S.last, (ta, tn, tc), ()), (T.id, T.name, (some ad, can, cac), (xa, xan, xac), (ka, kan, kac), ()), ((some ad, can, cac), ()), ((can : Int), ()), ((k' : Int), ()), ()) : bR [(true, [.int .i64, .int .i64, .slice]), (true, [.int .i64, .str, .slice, .slice, .slice]), (false, [.slice]), (false, [.int .i64]), (false, [.int .i64])]) ∧ k' ≤ can ∧
     Ck (s8.aS c (.cells #[.int .i64 last, .map (some m), .bool b'] 222 (0, 0))) c m last (!(F && (upTo (bX fU T.cols) k' && aX last ((T.cols.take k').map (·.id)) sd1))) (((T.cols.take k').map (·.id)).reverse ++ sd1) ∧ Fw.Mod [c, m] s (s8.aS c (.cells #[.int .i64 last, .map (some m), .bool b'] 222 (0, 0))) := by
    intro b' hb he;refine ⟨k + 1, by rw [hw], hlt, ?_, m678.bT (.inl (by simp))⟩;rw [hnext, ← he];exact h8.lay hb
   have hmeas : can - (i64.wrap ((k : Int) + 1)).toNat < can - ((k : Int)).toNat := by rw [hw]; simp only [Int.toNat_natCast]; omega
   refine tW h8 ?_;simp only [W.af]
   refine ⟨fun hb => j0 h8 ⟨fin true (fun e => by cases e) (by have hb : b8 = true := hb
                                                               rw [hb]; (first | done | rfl)), hmeas⟩, fun hb => ?_⟩
   have hb : b8 = false := hb;refine W.ak (JW x.kind s8) ?_;rintro _ _ ⟨rfl, rfl⟩;refine ⟨((typed x.kind, ()), ()), rfl, ?_⟩;simp only [W.af]
   refine ⟨fun ht => j0 h8 ⟨fin true (fun e => by cases e) (by have ht : typed x.kind = false := by simpa using ht
                                                               rw [ht]; simp), hmeas⟩, fun ht => ?_⟩
   have ht : typed x.kind = true := by simpa using ht
   refine W.ak (JU x.dflt x.kind _) ?_;rintro _ _ ⟨rfl, rfl⟩;refine ⟨((fits x.dflt x.kind, ()), ()), rfl, ?_⟩;exact j0 h8 ⟨fin _ (fun _ => hb) (by rw [hb, ht]; simp), hmeas⟩
  ·have hall : T.cols.take k = T.cols := List.take_of_length_le (by omega)
   have hku : upTo (bX fU T.cols) k = allI fU T.cols := by unfold allI; rw [show k = T.cols.length by omega]
   rw [hall, hku] at h6
   obtain ⟨P1, hP1⟩ : ∃ P, (F && (allI fU T.cols && aX last (T.cols.map (·.id)) sd1)) = P := ⟨_, rfl⟩
   obtain ⟨sd2, hsd2⟩ : ∃ l, (T.cols.map (·.id)).reverse ++ sd1 = l := ⟨_, rfl⟩
   rw [hP1, hsd2] at h6 hgoal;rw [hsd2] at hseen
   refine ⟨fun z s' => ∃ k : Nat, z = ((S.version, S.last, (ta, tn, tc), ()), (T.id, T.name, (some ad, can, cac), (xa, xan, xac), (ka, kan, kac), ()), ((xa, xan, xac), ()), ((xan : Int), ()), ((k : Int), ()), ()) ∧ k ≤ xan ∧
    Ck s' c m last (!(P1 && (upTo (bX (iK T) T.idxs) k && aX last ((T.idxs.take k).map (·.id)) sd2))) (((T.idxs.take k).map (·.id)).reverse ++ sd2) ∧ Fw.Mod [c, m] s s', fun z _ => xan - z.2.2.2.2.1.1.toNat, ⟨0, rfl, Nat.zero_le _, by simpa [nA, aX] using h6, m6⟩, ?_⟩
   rintro _ s7 ⟨k, rfl, hk, h7, m7⟩;simp only [W.af, decide_eq_true_eq, decide_eq_false_iff_not];refine ⟨fun hlt => ?_, fun hge => ?_⟩
   ·have hlt : k < xan := by omega
    obtain ⟨x, hx⟩ : ∃ x, T.idxs[k]? = some x := ⟨_, List.getElem?_eq_getElem (by omega)⟩
    obtain ⟨ad2, had2, hh⟩ := (hP0.x.mono (keep m7).le).el.aA hx;dsimp only at had2;subst had2;have hstep := jJ (·.id) hx
    have hnext : (!(P1 && (upTo (bX (iK T) T.idxs) (k + 1) && aX last ((T.idxs.take (k + 1)).map (·.id)) sd2))) = (((!(P1 && (upTo (bX (iK T) T.idxs) k && aX last ((T.idxs.take k).map (·.id)) sd2))) || !((decide (1 ≤ x.id) && decide (x.id ≤ last)) && !decide (x.id ∈ ((T.idxs.take k).map (·.id)).reverse ++ sd2))) || !dM x.state || !(decide (0 ≤ cM T x.column))) := by
     rw [eK, di hx, hstep, lu, qD]; (first | done | rfl)
    have hsn2 : (((T.idxs.take (k + 1)).map (·.id)).reverse ++ sd2) = x.id :: (((T.idxs.take k).map (·.id)).reverse ++ sd2) := by rw [hstep]; simp
    refine ⟨by omega, ?_⟩;simp only [W.ay];refine az hh (y := (x.id, x.name, x.column, x.unique, x.state, ())) rfl ?_;refine W.ak (tP h7 x.id) ?_;rintro _ s8 ⟨rfl, h8, m8⟩;refine ⟨(), rfl, ?_⟩;refine W.ak (qi h8 x.state) ?_;rintro _ s9 ⟨rfl, h9, m9⟩;refine ⟨(), rfl, ?_⟩;rw [← hsn2] at h9
    generalize hb8 : ((!(P1 && (upTo (bX (iK T) T.idxs) k && aX last ((T.idxs.take k).map (·.id)) sd2))) || !((decide (1 ≤ x.id) && decide (x.id ≤ last)) && !decide (x.id ∈ ((T.idxs.take k).map (·.id)).reverse ++ sd2)) || !dM x.state) = b8 at h9 hnext
    have m789 := (m7.trans m8).trans m9;have hw := ai (k := k) (by omega)
    have hmeas : xan - (i64.wrap ((k : Int) + 1)).toNat < xan - ((k : Int)).toNat := by rw [hw]; simp only [Int.toNat_natCast]; omega
    refine tW h9 ?_;simp only [W.af];refine ⟨fun hb => j0 h9 ⟨⟨k + 1, by rw [hw], hlt, ?_, m789.bT (.inl (by simp))⟩, hmeas⟩, fun hb => ?_⟩
    ·have hb : b8 = true := hb;rw [hnext, hb]; exact h9.lay (fun e => by cases e)
    ·have hb : b8 = false := hb;refine W.ak (JS (p := ⟨T, (some ad, can, cac), (some ad2, xan, xac), (ka, kan, kac)⟩) (hP0.c.mono (keep m789).le) x.column) ?_;rintro _ _ ⟨rfl, rfl⟩;refine ⟨((cM T x.column, ()), ()), rfl, ?_⟩;refine j0 h9 ⟨⟨k + 1, by rw [hw], hlt, ?_, m789.bT (.inl (by simp))⟩, hmeas⟩;rw [hnext, hb]
     have e1 : (decide (cM T x.column < 0)) = (false || !decide (0 ≤ cM T x.column)) := by
      by_cases hh : cM T x.column < 0
      ·rw [decide_eq_true hh, decide_eq_false (by omega)]; (first | done | rfl)
      ·rw [decide_eq_false hh, decide_eq_true (by omega)]; (first | done | rfl)
     rw [← e1];exact h9.lay (fun _ => hb)
   ·have hall : T.idxs.take k = T.idxs := List.take_of_length_le (by omega)
    have hku : upTo (bX (iK T) T.idxs) k = allI (iK T) T.idxs := by unfold allI; rw [show k = T.idxs.length by omega]
    rw [hall, hku] at h7
    obtain ⟨P2, hP2⟩ : ∃ P, (P1 && (allI (iK T) T.idxs && aX last (T.idxs.map (·.id)) sd2)) = P := ⟨_, rfl⟩
    obtain ⟨sd3, hsd3⟩ : ∃ l, (T.idxs.map (·.id)).reverse ++ sd2 = l := ⟨_, rfl⟩
    rw [hP2, hsd3] at h7 hgoal;rw [hsd3] at hseen
    refine ⟨fun z s' => ∃ k : Nat, z = ((S.version, S.last, (ta, tn, tc), ()), (T.id, T.name, (some ad, can, cac), (xa, xan, xac), (ka, kan, kac), ()), ((ka, kan, kac), ()), ((kan : Int), ()), ((k : Int), ()), ()) ∧ k ≤ kan ∧
     Ck s' c m last (!(P2 && (upTo (bX (ie S T) T.keys) k && aX last ((T.keys.take k).map (·.id)) sd3))) (((T.keys.take k).map (·.id)).reverse ++ sd3) ∧ Fw.Mod [c, m] s s', fun z _ => kan - z.2.2.2.2.1.1.toNat, ⟨0, rfl, Nat.zero_le _, by simpa [nA, aX] using h7, m7⟩, ?_⟩
    rintro _ s8 ⟨k, rfl, hk, h8, m8⟩;simp only [W.af, decide_eq_true_eq, decide_eq_false_iff_not];refine ⟨fun hlt => ?_, fun hge => ?_⟩
    ·have hlt : k < kan := by omega
     obtain ⟨x, hx⟩ : ∃ x, T.keys[k]? = some x := ⟨_, List.getElem?_eq_getElem (by omega)⟩
     obtain ⟨ad2, had2, hh⟩ := (hP0.k.mono (keep m8).le).el.aA hx;dsimp only at had2;subst had2;have hstep := jJ (·.id) hx
     have hnext : (!(P2 && (upTo (bX (ie S T) T.keys) (k + 1) && aX last ((T.keys.take (k + 1)).map (·.id)) sd3))) = (((!(P2 && (upTo (bX (ie S T) T.keys) k && aX last ((T.keys.take k).map (·.id)) sd3))) || !((decide (1 ≤ x.id) && decide (x.id ≤ last)) && !decide (x.id ∈ ((T.keys.take k).map (·.id)).reverse ++ sd3))) || !dM x.state || !(decide (0 ≤ cM T x.column) && (decide (0 ≤ dA S x.parent) && o8 S T x))) := by
      rw [eK, di hx, hstep, lu, qD]; (first | done | rfl)
     have hsn2 : (((T.keys.take (k + 1)).map (·.id)).reverse ++ sd3) = x.id :: (((T.keys.take k).map (·.id)).reverse ++ sd3) := by rw [hstep]; simp
     refine ⟨by omega, ?_⟩;simp only [W.ay];refine az hh (y := (x.id, x.name, x.column, x.parent, x.state, ())) rfl ?_;refine W.ak (tP h8 x.id) ?_;rintro _ s9 ⟨rfl, h9, m9⟩;refine ⟨(), rfl, ?_⟩;refine W.ak (qi h9 x.state) ?_;rintro _ s10 ⟨rfl, h10, m10⟩;refine ⟨(), rfl, ?_⟩;rw [← hsn2] at h10
     generalize hb8 : ((!(P2 && (upTo (bX (ie S T) T.keys) k && aX last ((T.keys.take k).map (·.id)) sd3))) || !((decide (1 ≤ x.id) && decide (x.id ≤ last)) && !decide (x.id ∈ ((T.keys.take k).map (·.id)).reverse ++ sd3)) || !dM x.state) = b8 at h10 hnext
     have mall := (m8.trans m9).trans m10;have hw := ai (k := k) (by omega)
     have hmeas : kan - (i64.wrap ((k : Int) + 1)).toNat < kan - ((k : Int)).toNat := by rw [hw]; simp only [Int.toNat_natCast]; omega
     have fin : ∀ b', (b' = false → b8 = false) → b' = (b8 || !(decide (0 ≤ cM T x.column) && (decide (0 ≤ dA S x.parent) && o8 S T x))) →
       Ck (s10.aS c (.cells #[.int .i64 last, .map (some m), .bool b'] 222 (0, 0))) c m last (!(P2 && (upTo (bX (ie S T) T.keys) (k + 1) && aX last ((T.keys.take (k + 1)).map (·.id)) sd3))) (((T.keys.take (k + 1)).map (·.id)).reverse ++ sd3) ∧ Fw.Mod [c, m] s (s10.aS c (.cells #[.int .i64 last, .map (some m), .bool b'] 222 (0, 0))) := by
      intro b' hb he;rw [hnext, ← he];exact ⟨h10.lay hb, mall.bT (.inl (by simp))⟩
     refine W.cr ((cM T x.column, ()), ()) (JS (p := ⟨T, (some ad, can, cac), (xa, xan, xac), (some ad2, kan, kac)⟩) (hP0.c.mono (keep mall).le) x.column) rfl ?_;refine W.cr ((dA S x.parent, ()), ()) (JT (t := (ta, tn, tc)) (hS.mono (keep mall).le) x.parent) rfl ?_;refine tW h10 ?_;simp only [W.af, decide_eq_true_eq, decide_eq_false_iff_not]
     refine ⟨fun hb => j0 h10 ⟨⟨k + 1, by rw [hw], hlt, fin true (fun e => by cases e) (by have hb : b8 = true := hb
                                                                                           rw [hb]; (first | done | rfl))⟩, hmeas⟩, fun hb => ?_⟩
     have hb : b8 = false := hb;refine ⟨fun h1 => j0 h10 ⟨⟨k + 1, by rw [hw], hlt, fin true (fun e => by cases e) (by rw [decide_eq_false (p := 0 ≤ cM T x.column) (by omega)]; simp)⟩, hmeas⟩, fun h1 => ?_⟩;refine ⟨fun h2 => j0 h10 ⟨⟨k + 1, by rw [hw], hlt, fin true (fun e => by cases e) (by rw [decide_eq_false (p := 0 ≤ dA S x.parent) (by omega)]; simp)⟩, hmeas⟩, fun h2 => ?_⟩;have hSn := hS.mono (keep mall).le
     obtain ⟨j, P, hj, hPj, _, _⟩ : ∃ (j : Nat) (P : aG), dA S x.parent = (j : Int) ∧ S.tabs[j]? = some P ∧ True ∧ True := by
      rcases iX (p := fun T : aG => decide (T.id = x.parent)) S.tabs 0 with ⟨e, _⟩ | ⟨j, P, e, e2, _⟩
      ·exact absurd e (by unfold dA at h2; omega)
      ·exact ⟨j, P, by unfold dA; rw [e]; simp, e2, trivial, trivial⟩
     obtain ⟨j2, C, hj2, hCj, _, _⟩ : ∃ (j : Nat) (C : cw), cM T x.column = (j : Int) ∧ T.cols[j]? = some C ∧ True ∧ True := by
      rcases iX (p := fun c : cw => decide (c.id = x.column)) T.cols 0 with ⟨e, _⟩ | ⟨j, P, e, e2, _⟩
      ·exact absurd e (by unfold cM at h1; omega)
      ·exact ⟨j, P, by unfold cM; rw [e]; simp, e2, trivial, trivial⟩
     have hpar : o8 S T x = (match P.cols with | c0 :: _ => decide (C.kind = c0.kind) | [] => false) := by unfold o8; rw [hj, hj2]; simp only [Int.toNat_natCast, hPj, hCj] <;> rfl
     obtain ⟨pp, hpp, hppT⟩ : ∃ pp, ps[j]? = some pp ∧ pp.T = P := by
      rw [hS.eq, List.getElem?_map] at hPj
      cases hq : ps[j]? with
      | none => rw [hq] at hPj; cases hPj
      | some pp => rw [hq] at hPj; exact ⟨pp, rfl, Option.some.inj hPj⟩
     have hjl := (List.getElem?_eq_some_iff.1 hpp).1;have hj2l := (List.getElem?_eq_some_iff.1 hCj).1;have htn : tn = ps.length := hSn.el.len;obtain ⟨ad3, had3, hh3⟩ := hSn.el.el.aA hpp;dsimp only at had3;subst had3;have hPP := hSn.all pp (get_mem hpp);obtain ⟨PT, ⟨pca, pcn, pcc⟩, ⟨pxa, pxn, pxc⟩, ⟨pka, pkn, pkc⟩⟩ := pp;dsimp only at hppT;subst hppT;have hpcn : pcn = PT.cols.length := hPP.c.len;simp only [hj, hj2, Int.toNat_natCast];refine ⟨by omega, ?_⟩;simp only [W.ay];refine bq (j := 2) hh3 (cs := [.slice]) (y := ((pca, pcn, pcc), ())) rfl ?_;simp only [W.af];refine ⟨fun h3 => j0 h10 ⟨⟨k + 1, by rw [hw], hlt, fin true (fun e => by cases e) ?_⟩, hmeas⟩, fun h3 => ?_⟩
     ·have h3 : pcn = 0 := by simpa using h3
      have : PT.cols = [] := List.length_eq_zero_iff.1 (by omega);rw [hpar, this]; simp
     ·have h3 : pcn ≠ 0 := by simpa using h3
      obtain ⟨c1, cs1, hcs1⟩ : ∃ c0 cs, PT.cols = c0 :: cs := by
       cases hc : PT.cols with
       | nil => rw [hc] at hpcn; simp at hpcn; omega
       | cons a b => exact ⟨a, b, rfl⟩
      obtain ⟨ad4, had4, hh4⟩ := (hP0.c.mono (keep mall).le).el.aA hCj;dsimp only at had4;cases had4;obtain ⟨ad5, had5, hh5⟩ := hPP.c.el.aA (i := 0) (x := c1) (by rw [hcs1]; (first | done | rfl));dsimp only at had5;subst had5;rw [Nat.zero_mul, add_zero] at hh5;refine ⟨by omega, ?_⟩;simp only [W.ay];refine bq (j := 2) hh4 (cs := [.int .i64]) (y := (C.kind, ())) rfl ?_;refine ⟨by omega, ?_⟩;simp only [W.ay];refine bq (j := 2) hh3 (cs := [.slice]) (y := ((some ad5, pcn, pcc), ())) rfl ?_;refine ⟨by dsimp only; omega, ?_⟩;simp only [W.ay];refine bq (j := 2) hh5 (cs := [.int .i64]) (y := (c1.kind, ())) rfl ?_;refine j0 h10 ⟨⟨k + 1, by rw [hw], hlt, fin _ (fun _ => hb) ?_⟩, hmeas⟩;rw [hb, hpar, hcs1, decide_eq_true (p := 0 ≤ cM T x.column) (by omega), decide_eq_true (p := 0 ≤ dA S x.parent) (by omega)]
      by_cases hq : C.kind = c1.kind <;> simp [hq]
    ·have hall : T.keys.take k = T.keys := List.take_of_length_le (by omega)
     have hku : upTo (bX (ie S T) T.keys) k = allI (ie S T) T.keys := by unfold allI; rw [show k = T.keys.length by omega]
     rw [hall, hku, hseen, ← hgoal] at h8;exact ⟨rfl, h8, m8⟩
end
def iJ (S : aD) : Int := if right S = true then 0 else 100
theorem GB {s : PH} {last : Int} {bad : Bool} {K : Nat → W.T} {m : Nat} (hm : s m = some (.map #[] 0)) (hK : ∀ c s', Ck s' c m last bad [] → Fw.Mod [] s s' → s c = none → K c s') :
  W.nw (.cells #[.int .i64 last, .map (some m), .bool bad] 222 (0, 0)) K s := by
 refine W.bK fun c s1 hc m1 k1 => ?_;refine hK c s1 ⟨k1, [], ⟨#[], 0, m1.at hm (by simp), rfl, Go.MapKept.stamped_empty 0⟩, fun _ n => by simp⟩ m1 hc
theorem IA {s : PH} {t : aP} {S : aD} {ps : List aC} (h : dP s t S ps) : ah 57 #[eV S t] s fun y s' => y = .int .i64 (iJ S) ∧ s' = s := by
 refine bu.quiet ?_;obtain ⟨ta, tn, tc⟩ := t;refine GX S.version S.last ta tn tc _ s ?_;unfold AI;have htn : tn = ps.length := h.el.len
 have hpl : S.tabs.length = ps.length := by rw [h.eq]; simp
 have hfew := h.el.cO;have hmapeq : ps.map (·.T) = S.tabs := h.eq.symm;simp only [cG];refine W.bx (fun z s' => ∃ c m, z = ((S.version, S.last, (ta, tn, tc), ()), (some ⟨c, 0, none⟩, ()), ()) ∧ Ck s' c m S.last (!jC S) [] ∧ Fw.Mod [] s s' ∧ s c = none ∧ s m = none) ?_ ?_
 ·rintro _ s1 ⟨c, m, rfl, h1, m1, hc, hm⟩;have keep : ∀ {s'}, Fw.Mod [c, m] s1 s' → Fw.Mod [] s s' := fun mm => m1.fresh mm (by simp [hc, hm]);simp only [aT];refine W.ak (Gk h1 (h.el.el.mono m1.le) hfew (fun s' hm => h.el.el.mono (keep hm).le) 0 6) ?_;rintro _ s2 ⟨rfl, h2, m2⟩;refine ⟨(), rfl, ?_⟩;rw [hmapeq] at h2
  obtain ⟨P0, hP0⟩ : ∃ P, (jC S && cR dH 0 6 S.tabs) = P := ⟨_, rfl⟩
  have hb2 : (!jC S || !cR dH 0 6 S.tabs) = !P0 := by rw [← hP0]; cases jC S <;> cases cR dH 0 6 S.tabs <;> rfl
  rw [hb2] at h2
  have hright : right S = (P0 && (allI (fun _ T => ey S T) S.tabs && aX S.last (S.tabs.flatMap cF) [])) := by
   rw [← hP0]; unfold right; simp only [Bool.and_assoc]
  have hbad : ∀ {b : Bool}, right S = false → iJ S = 100 := fun e => by unfold iJ; rw [e]; (first | done | rfl)
  simp only [aQ]
  refine ⟨fun z s' => ∃ k : Nat, z = ((S.version, S.last, (ta, tn, tc), ()), (some ⟨c, 0, none⟩, ()), ((ta, tn, tc), ()), ((tn : Int), ()), ((k : Int), ()), ()) ∧ k ≤ tn ∧
   Ck s' c m S.last (!(P0 && (upTo (bX (fun _ T => ey S T) S.tabs) k && aX S.last ((S.tabs.take k).flatMap cF) []))) (((S.tabs.take k).flatMap cF).reverse ++ []) ∧ Fw.Mod [c, m] s1 s', fun z _ => tn - z.2.2.2.2.1.1.toNat, ⟨0, rfl, Nat.zero_le _, by simpa [nA, aX] using h2, m2⟩, ?_⟩
  rintro _ s3 ⟨k, rfl, hk, h3, m3⟩
  generalize hb3 : (!(P0 && (upTo (bX (fun _ T => ey S T) S.tabs) k && aX S.last ((S.tabs.take k).flatMap cF) []))) = b3 at h3
  simp only [aO, W.af, decide_eq_true_eq, decide_eq_false_iff_not];refine ⟨fun hlt => ?_, fun hge => ?_⟩
  ·have hlt : k < tn := by omega
   obtain ⟨p, hp⟩ : ∃ p, ps[k]? = some p := ⟨_, List.getElem?_eq_getElem (by omega)⟩
   have hT : S.tabs[k]? = some p.T := by rw [h.eq, List.getElem?_map, hp]; (first | done | rfl)
   obtain ⟨ad, had, hh⟩ := (h.mono (keep m3).le).el.el.aA hp;dsimp only at had;subst had;simp only [aR, W.aZ, aM, W.ay];refine ⟨by omega, ?_⟩;refine az hh (y := (p.T.id, p.T.name, p.c, p.x, p.k, ())) rfl ?_
   have := tW h3 (K := fun x => W.br x.1 (W.ret (fun y s' => y = .int .i64 (iJ S) ∧ Fw.Mod [] s s') (.int .i64 100)) (W.call Tryz.prog 119 #[cp c, eV S (some ad, tn, tc), dX p.T p.c p.x p.k] (true, []) fun _ => fun s' =>
     (∃ k_1 : Nat, ((S.version, S.last, (some ad, tn, tc), ()), (some (Addr.mk c 0 none), ()), ((some ad, tn, tc), ()), ((tn : Int), ()), (i64.wrap ((k : Int) + 1), ()), ()) = (((S.version, S.last, (some ad, tn, tc), ()), (some (Addr.mk c 0 none), ()), ((some ad, tn, tc), ()), ((tn : Int), ()), ((k_1 : Int), ()), ()) : bR [(true, [.int .i64, .int .i64, .slice]), (false, [.ptr]), (false, [.slice]), (false, [.int .i64]), (false, [.int .i64])]) ∧ k_1 ≤ tn ∧
       Ck s' c m S.last (!(P0 && (upTo (bX (fun _ T => ey S T) S.tabs) k_1 && aX S.last ((S.tabs.take k_1).flatMap cF) []))) (((S.tabs.take k_1).flatMap cF).reverse ++ []) ∧ Fw.Mod [c, m] s1 s') ∧ tn - (i64.wrap ((k : Int) + 1)).toNat < tn - ((k : Int)).toNat)) (by
    simp only [W.af];refine ⟨fun hb => ?_, fun hb => ?_⟩
    ·have hb : b3 = true := hb;refine ⟨?_, keep m3⟩
     have e : right S = false := by
      rw [hright];rw [hb] at hb3
      have hu : upTo (bX (fun _ T => ey S T) S.tabs) k = false → allI (fun _ T => ey S T) S.tabs = false := by
       intro e
       cases ha : allI (fun _ T => ey S T) S.tabs with
       | false => rfl
       | true =>
        have hall := pJ.1 ha;have : upTo (bX (fun _ T => ey S T) S.tabs) k = true := pJ.2 fun i hi => hall i (by omega);rw [e] at this; cases this
      have hr : aX S.last ((S.tabs.take k).flatMap cF) [] = false → aX S.last (S.tabs.flatMap cF) [] = false := by
       intro e;rw [← List.take_append_drop k S.tabs, List.flatMap_append, jl, List.take_append_drop] at *;rw [e]; (first | done | rfl)
      revert hb3
      cases P0 <;> cases h1 : upTo (bX (fun _ T => ey S T) S.tabs) k <;> cases h2 : aX S.last ((S.tabs.take k).flatMap cF) [] <;> simp
      all_goals first | (intro _; exact hr h2) | (intro h; rw [hu h1] at h; cases h)
     rw [hbad (b := true) e]
    ·have hb : b3 = false := hb;refine W.ak (Ef (p := p) h3 h (get_mem hp) (keep m3) hc hm) ?_;rintro _ s4 ⟨rfl, h4, m4⟩;refine ⟨(), rfl, ?_⟩;have hw := ai (k := k) (by omega)
     have htk : (S.tabs.take (k + 1)).flatMap cF = (S.tabs.take k).flatMap cF ++ cF p.T := by rw [List.take_add_one, hT]; simp
     refine ⟨⟨k + 1, by rw [hw], hlt, ?_, m3.trans m4⟩, by rw [hw]; simp only [Int.toNat_natCast]; omega⟩;rw [htk, eK, di hT, jl, List.reverse_append, List.append_assoc]
     have : (!(P0 && ((upTo (bX (fun _ T => ey S T) S.tabs) k && ey S p.T) && (aX S.last ((S.tabs.take k).flatMap cF) [] && aX S.last (cF p.T) (((S.tabs.take k).flatMap cF).reverse ++ []))))) = (b3 || !(ey S p.T && aX S.last (cF p.T) (((S.tabs.take k).flatMap cF).reverse ++ []))) := by
      rw [← hb3]
      generalize upTo (bX (fun _ T => ey S T) S.tabs) k = U
      generalize aX S.last ((S.tabs.take k).flatMap cF) [] = R
      generalize aX S.last (cF p.T) _ = R2
      cases P0 <;> cases U <;> cases R <;> cases R2 <;> cases ey S p.T <;> rfl
     rw [this]; exact h4)
   exact this
  ·have hall : S.tabs.take k = S.tabs := List.take_of_length_le (by omega)
   have hku : upTo (bX (fun _ T => ey S T) S.tabs) k = allI (fun _ T => ey S T) S.tabs := by unfold allI; rw [show k = S.tabs.length by omega]
   rw [hall, hku, ← hright] at hb3;simp only [aM, bH]
   have := tW h3 (K := fun x => W.br x.1 (W.ret (fun y s' => y = .int .i64 (iJ S) ∧ Fw.Mod [] s s') (.int .i64 100)) (W.ret (fun y s' => y = .int .i64 (iJ S) ∧ Fw.Mod [] s s') (.int .i64 0))) (by
    simp only [W.af];refine ⟨fun hb => ⟨?_, keep m3⟩, fun hb => ⟨?_, keep m3⟩⟩
    ·have hb : b3 = true := hb;rw [hb] at hb3;rw [hbad (b := true) (by simpa using hb3)]
    ·have hb : b3 = false := hb;rw [hb] at hb3
     have : right S = true := by simpa using hb3
     unfold iJ; rw [this]; (first | done | rfl))
   exact this
 ·intro J hJ;simp only [cj, aO];refine W.bK fun m s1 hm m1 k1 => ?_
  have fin : ∀ b, b = !jC S → W.nw (.cells #[.int .i64 S.last, .map (some m), .bool b] 222 (0, 0)) (fun r => J ((S.version, S.last, (ta, tn, tc), ()), (some ⟨r, 0, none⟩, ()), ())) s1 := by
   intro b hb;refine GB k1 fun c s2 h2 m2 hc => ?_;rw [hb] at h2;exact hJ _ _ ⟨c, m, rfl, h2, m1.trans m2, m1.none hc (by simp), hm⟩
  simp only [W.af, decide_eq_true_eq, decide_eq_false_iff_not];unfold jC at fin;refine ⟨fun h1 => fin true (by rw [decide_eq_false (p := 0 ≤ S.version) (by omega)]; (first | done | rfl)), fun h1 => ⟨fun h2 => fin true (by rw [decide_eq_false (p := S.version ≤ 1125899906842624) (by omega)]; simp), fun h2 => ⟨fun h3 => fin true (by rw [decide_eq_false (p := 0 ≤ S.last) (by omega)]; simp), fun h3 => fin _ ?_⟩⟩⟩;rw [decide_eq_true (p := 0 ≤ S.version) (by omega), decide_eq_true (p := S.version ≤ 1125899906842624) (by omega), decide_eq_true (p := 0 ≤ S.last) (by omega)]
  by_cases h4 : S.last ≤ 1125899906842624
  ·rw [decide_eq_true h4, decide_eq_false (by omega)]; (first | done | rfl)
  ·rw [decide_eq_false h4, decide_eq_true (by omega)]; (first | done | rfl)
end
section
variable {W : Type} (π : fX W)
open Fw.W
def xO (sv sl : Int) (sa : OA) (san sac : Nat) : W :=
 π.join [(true, [.int .i64, .int .i64, .slice])] (fun J0 => π.ite (decide (sv < 0)) (π.ret (.bool false)) (π.ite (decide (sv > 1125899906842624)) (π.ret (.bool false)) (π.ite (decide (sl < 0)) (π.ret (.bool false)) (π.ite (decide (sl > 1125899906842624)) (π.ret (.bool false)) (π.ite (decide ((↑san : Int) > 6)) (π.ret (.bool false)) (J0 ((sv, sl, (sa, san, sac), ()), ()))))))) (fun (((x1 : Int), (x2 : Int), ((a3 : OA), (n4 : Nat), (c5 : Nat)), _), _) => π.loop [(true, [.int .i64, .int .i64, .slice]), (false, [.slice]), (false, [.int .i64])] ((x1, x2, (a3, n4, c5), ()), ((none, (0 : Nat), (0 : Nat)), ()), ((0 : Int), ()), ()) fun (((x7 : Int), (x8 : Int), ((a9 : OA), (n10 : Nat), (c11 : Nat)), _), (((a12 : OA), (n13 : Nat), (c14 : Nat)), _), ((x15 : Int), _), _) again6 => π.ite (decide (x15 < (↑n10 : Int))) (π.guard (0 ≤ x15 ∧ x15 < (↑n10 : Int)) <| π.aa a9 fun p16 => π.ld [.int .i64, .str, .slice, .slice, .slice] (p16.add (x15.toNat * 5)) fun ((x17 : Int), (t18 : BA), ((a19 : OA), (n20 : Nat), (c21 : Nat)), ((a22 : OA), (n23 : Nat), (c24 : Nat)), ((a25 : OA), (n26 : Nat), (c27 : Nat)), _) => π.join [(true, [.int .i64, .int .i64, .slice]), (false, [.slice]), (false, [.int .i64]), (true, [.int .i64, .str, .slice, .slice, .slice])] (fun J28 => π.call 68 #[(.string t18)] (false, [(false, [.bool])]) fun (((b29 : Bool), _), _) => π.ite (!b29) (π.ret (.bool false)) (π.call 69 #[(.agg #[(.int .i64 x7), (.int .i64 x8), (.slice a9 n10 c11)]), (.string t18)] (false, [(false, [.int .i64])]) fun (((x30 : Int), _), _) =>
 π.ite (x30 != x15) (π.ret (.bool false)) (π.ite (decide ((↑n20 : Int) < 1)) (π.ret (.bool false)) (π.ite (decide ((↑n20 : Int) > 8)) (π.ret (.bool false)) (π.ite (decide ((↑n23 : Int) > 8)) (π.ret (.bool false)) (π.ite (decide ((↑n26 : Int) > 8)) (π.ret (.bool false)) (J28 ((x7, x8, (a9, n10, c11), ()), ((a12, n13, c14), ()), (x15, ()), (x17, t18, (a19, n20, c21), (a22, n23, c24), (a25, n26, c27), ()), ())))))))) (fun (((x31 : Int), (x32 : Int), ((a33 : OA), (n34 : Nat), (c35 : Nat)), _), (((a36 : OA), (n37 : Nat), (c38 : Nat)), _), ((x39 : Int), _), ((x40 : Int), (t41 : BA), ((a42 : OA), (n43 : Nat), (c44 : Nat)), ((a45 : OA), (n46 : Nat), (c47 : Nat)), ((a48 : OA), (n49 : Nat), (c50 : Nat)), _), _) => π.nw (Obj.cells #[(.int .i64 x40)] 3 (0, 0)) fun r51 => π.app 3 1 8 [(.int .i64 0)] a36 n37 c38 (Src.sl (some (Addr.mk r51 0 none)) 1) fun a52 n53 c54 => π.loop [(true, [.int .i64, .int .i64, .slice]), (false, [.slice]), (false, [.int .i64]), (true, [.int .i64, .str, .slice, .slice, .slice]), (false, [.int .i64])] ((x31, x32, (a33, n34, c35), ()), ((a52, n53, c54), ()), (x39, ()), (x40, t41, (a42, n43, c44), (a45, n46, c47), (a48, n49, c50), ()), ((0 : Int), ()), ()) fun (((x56 : Int), (x57 : Int), ((a58 : OA), (n59 : Nat), (c60 : Nat)), _), (((a61 : OA), (n62 : Nat), (c63 : Nat)), _), ((x64 : Int), _), ((x65 : Int), (t66 : BA), ((a67 : OA), (n68 : Nat), (c69 : Nat)), ((a70 : OA), (n71 : Nat), (c72 : Nat)), ((a73 : OA), (n74 : Nat), (c75 : Nat)), _), ((x76 : Int), _), _) again55 =>
 π.ite (decide (x76 < (↑n68 : Int))) (π.guard (0 ≤ x76 ∧ x76 < (↑n68 : Int)) <| π.aa a67 fun p77 => π.ld [.int .i64, .str, .int .i64, .int .i64, .int .i64, .int .i64, .str] (p77.add (x76.toNat * 7)) fun ((x78 : Int), (t79 : BA), (x80 : Int), (x81 : Int), (x82 : Int), (x83 : Int), (t84 : BA), _) => π.call 68 #[(.string t79)] (false, [(false, [.bool])]) fun (((b85 : Bool), _), _) => π.ite (!b85) (π.ret (.bool false)) (π.call 70 #[(.agg #[(.int .i64 x65), (.string t66), (.slice a67 n68 c69), (.slice a70 n71 c72), (.slice a73 n74 c75)]), (.string t79)] (false, [(false, [.int .i64])]) fun (((x86 : Int), _), _) => π.ite (x86 != x76) (π.ret (.bool false)) (π.ite (decide (x81 < 1)) (π.ret (.bool false)) (π.ite (decide (x81 > 3)) (π.ret (.bool false)) (π.ite (x76 == 0) (π.ite (x81 != 3) (π.ret (.bool false)) (π.call 71 #[(.int .i64 x80)] (false, [(false, [.bool])]) fun (((b87 : Bool), _), _) => π.ite (!b87) (π.ret (.bool false)) (π.call 72 #[(.agg #[(.int .i64 x82), (.int .i64 x83), (.string t84)]), (.int .i64 x80)] (false, [(false, [.bool])]) fun (((b88 : Bool), _), _) => π.ite (!b88) (π.ret (.bool false)) (π.nw (Obj.cells #[(.int .i64 x78)] 3 (0, 0)) fun r89 => π.app 3 1 8 [(.int .i64 0)] a61 n62 c63 (Src.sl (some (Addr.mk r89 0 none)) 1) fun a90 n91 c92 => again55 ((x56, x57, (a58, n59, c60), ()), ((a90, n91, c92), ()), (x64, ()), (x65, t66, (a67, n68, c69), (a70, n71, c72), (a73, n74, c75), ()), (i64.wrap (x76 + 1), ()), ()))))) (π.call 71 #[(.int .i64 x80)] (false, [(false, [.bool])]) fun (((b93 : Bool), _), _) =>
 π.ite (!b93) (π.ret (.bool false)) (π.call 72 #[(.agg #[(.int .i64 x82), (.int .i64 x83), (.string t84)]), (.int .i64 x80)] (false, [(false, [.bool])]) fun (((b94 : Bool), _), _) => π.ite (!b94) (π.ret (.bool false)) (π.nw (Obj.cells #[(.int .i64 x78)] 3 (0, 0)) fun r95 => π.app 3 1 8 [(.int .i64 0)] a61 n62 c63 (Src.sl (some (Addr.mk r95 0 none)) 1) fun a96 n97 c98 => again55 ((x56, x57, (a58, n59, c60), ()), ((a96, n97, c98), ()), (x64, ()), (x65, t66, (a67, n68, c69), (a70, n71, c72), (a73, n74, c75), ()), (i64.wrap (x76 + 1), ()), ()))))))))) (π.loop [(true, [.int .i64, .int .i64, .slice]), (false, [.slice]), (false, [.int .i64]), (true, [.int .i64, .str, .slice, .slice, .slice]), (false, [.int .i64])] ((x56, x57, (a58, n59, c60), ()), ((a61, n62, c63), ()), (x64, ()), (x65, t66, (a67, n68, c69), (a70, n71, c72), (a73, n74, c75), ()), ((0 : Int), ()), ()) fun (((x100 : Int), (x101 : Int), ((a102 : OA), (n103 : Nat), (c104 : Nat)), _), (((a105 : OA), (n106 : Nat), (c107 : Nat)), _), ((x108 : Int), _), ((x109 : Int), (t110 : BA), ((a111 : OA), (n112 : Nat), (c113 : Nat)), ((a114 : OA), (n115 : Nat), (c116 : Nat)), ((a117 : OA), (n118 : Nat), (c119 : Nat)), _), ((x120 : Int), _), _) again99 => π.ite (decide (x120 < (↑n115 : Int))) (π.guard (0 ≤ x120 ∧ x120 < (↑n115 : Int)) <| π.aa a114 fun p121 => π.ld [.int .i64, .str, .int .i64, .bool, .int .i64] (p121.add (x120.toNat * 5)) fun ((x122 : Int), (t123 : BA), (x124 : Int), (b125 : Bool), (x126 : Int), _) =>
 π.call 68 #[(.string t123)] (false, [(false, [.bool])]) fun (((b127 : Bool), _), _) => π.ite (!b127) (π.ret (.bool false)) (π.call 73 #[(.agg #[(.int .i64 x109), (.string t110), (.slice a111 n112 c113), (.slice a114 n115 c116), (.slice a117 n118 c119)]), (.string t123)] (false, [(false, [.int .i64])]) fun (((x128 : Int), _), _) => π.ite (x128 != x120) (π.ret (.bool false)) (π.ite (decide (x126 < 1)) (π.ret (.bool false)) (π.ite (decide (x126 > 3)) (π.ret (.bool false)) (π.call 74 #[(.agg #[(.int .i64 x109), (.string t110), (.slice a111 n112 c113), (.slice a114 n115 c116), (.slice a117 n118 c119)]), (.int .i64 x124)] (false, [(false, [.int .i64])]) fun (((x129 : Int), _), _) => π.ite (decide (x129 < 0)) (π.ret (.bool false)) (π.nw (Obj.cells #[(.int .i64 x122)] 3 (0, 0)) fun r130 => π.app 3 1 8 [(.int .i64 0)] a105 n106 c107 (Src.sl (some (Addr.mk r130 0 none)) 1) fun a131 n132 c133 => again99 ((x100, x101, (a102, n103, c104), ()), ((a131, n132, c133), ()), (x108, ()), (x109, t110, (a111, n112, c113), (a114, n115, c116), (a117, n118, c119), ()), (i64.wrap (x120 + 1), ()), ()))))))) (π.loop [(true, [.int .i64, .int .i64, .slice]), (false, [.slice]), (false, [.int .i64]), (true, [.int .i64, .str, .slice, .slice, .slice]), (false, [.int .i64])] ((x100, x101, (a102, n103, c104), ()), ((a105, n106, c107), ()), (x108, ()), (x109, t110, (a111, n112, c113), (a114, n115, c116), (a117, n118, c119), ()), ((0 : Int), ()), ()) fun (((x135 : Int), (x136 : Int), ((a137 : OA), (n138 : Nat), (c139 : Nat)), _), (((a140 : OA), (n141 : Nat), (c142 : Nat)), _), ((x143 : Int), _), ((x144 : Int), (t145 : BA), ((a146 : OA), (n147 : Nat), (c148 : Nat)), ((a149 : OA), (n150 : Nat), (c151 : Nat)), ((a152 : OA), (n153 : Nat), (c154 : Nat)), _), ((x155 : Int), _), _) again134 =>
 π.ite (decide (x155 < (↑n153 : Int))) (π.guard (0 ≤ x155 ∧ x155 < (↑n153 : Int)) <| π.aa a152 fun p156 => π.ld [.int .i64, .str, .int .i64, .int .i64, .int .i64] (p156.add (x155.toNat * 5)) fun ((x157 : Int), (t158 : BA), (x159 : Int), (x160 : Int), (x161 : Int), _) => π.call 75 #[(.agg #[(.int .i64 x135), (.int .i64 x136), (.slice a137 n138 c139)]), (.int .i64 x160)] (false, [(false, [.int .i64])]) fun (((x162 : Int), _), _) => π.call 74 #[(.agg #[(.int .i64 x144), (.string t145), (.slice a146 n147 c148), (.slice a149 n150 c151), (.slice a152 n153 c154)]), (.int .i64 x159)] (false, [(false, [.int .i64])]) fun (((x163 : Int), _), _) => π.join [(true, [.int .i64, .int .i64, .slice]), (false, [.slice]), (false, [.int .i64]), (true, [.int .i64, .str, .slice, .slice, .slice]), (false, [.int .i64]), (true, [.int .i64, .str, .int .i64, .int .i64, .int .i64]), (false, [.int .i64]), (false, [.int .i64])] (fun J164 => π.call 68 #[(.string t158)] (false, [(false, [.bool])]) fun (((b165 : Bool), _), _) => π.ite (!b165) (π.ret (.bool false)) (π.call 76 #[(.agg #[(.int .i64 x144), (.string t145), (.slice a146 n147 c148), (.slice a149 n150 c151), (.slice a152 n153 c154)]), (.string t158)] (false, [(false, [.int .i64])]) fun (((x166 : Int), _), _) => π.ite (x166 != x155) (π.ret (.bool false)) (π.ite (decide (x161 < 1)) (π.ret (.bool false)) (π.ite (decide (x161 > 3)) (π.ret (.bool false)) (π.ite (decide (x163 < 0)) (π.ret (.bool false)) (π.ite (decide (x162 < 0)) (π.ret (.bool false)) (J164 ((x135, x136, (a137, n138, c139), ()), ((a140, n141, c142), ()), (x143, ()), (x144, t145, (a146, n147, c148), (a149, n150, c151), (a152, n153, c154), ()), (x155, ()), (x157, t158, x159, x160, x161, ()), (x162, ()), (x163, ()), ())))))))) (fun (((x167 : Int), (x168 : Int), ((a169 : OA), (n170 : Nat), (c171 : Nat)), _), (((a172 : OA), (n173 : Nat), (c174 : Nat)), _), ((x175 : Int), _), ((x176 : Int), (t177 : BA), ((a178 : OA), (n179 : Nat), (c180 : Nat)), ((a181 : OA), (n182 : Nat), (c183 : Nat)), ((a184 : OA), (n185 : Nat), (c186 : Nat)), _), ((x187 : Int), _), ((x188 : Int), (t189 : BA), (x190 : Int), (x191 : Int), (x192 : Int), _), ((x193 : Int), _), ((x194 : Int), _), _) =>
 π.guard (0 ≤ x193 ∧ x193 < (↑n170 : Int)) <| π.aa a169 fun p195 => π.ld [.slice] ((p195.add (x193.toNat * 5)).add 2) fun (((a196 : OA), (n197 : Nat), (c198 : Nat)), _) => π.ite ((↑n197 : Int) == 0) (π.ret (.bool false)) (π.guard (0 ≤ x193 ∧ x193 < (↑n170 : Int)) <| π.aa a169 fun p199 => π.ld [.slice] ((p199.add (x193.toNat * 5)).add 2) fun (((a200 : OA), (n201 : Nat), (c202 : Nat)), _) => π.guard ((0 : Int) ≤ 0 ∧ 0 < (↑n201 : Int)) <| π.aa a200 fun p203 => π.ld [.int .i64] ((p203.add 0).add 2) fun ((x204 : Int), _) => π.guard (0 ≤ x194 ∧ x194 < (↑n179 : Int)) <| π.aa a178 fun p205 => π.ld [.int .i64] ((p205.add (x194.toNat * 7)).add 2) fun ((x206 : Int), _) => π.ite (x204 != x206) (π.ret (.bool false)) (π.nw (Obj.cells #[(.int .i64 x188)] 3 (0, 0)) fun r207 => π.app 3 1 8 [(.int .i64 0)] a172 n173 c174 (Src.sl (some (Addr.mk r207 0 none)) 1) fun a208 n209 c210 => again134 ((x167, x168, (a169, n170, c171), ()), ((a208, n209, c210), ()), (x175, ()), (x176, t177, (a178, n179, c180), (a181, n182, c183), (a184, n185, c186), ()), (i64.wrap (x187 + 1), ()), ()))))) (again6 ((x135, x136, (a137, n138, c139), ()), ((a140, n141, c142), ()), (i64.wrap (x143 + 1), ()), ())))))) (π.loop [(true, [.int .i64, .int .i64, .slice]), (false, [.slice]), (false, [.int .i64])] ((x7, x8, (a9, n10, c11), ()), ((a12, n13, c14), ()), ((0 : Int), ()), ()) fun (((x212 : Int), (x213 : Int), ((a214 : OA), (n215 : Nat), (c216 : Nat)), _), (((a217 : OA), (n218 : Nat), (c219 : Nat)), _), ((x220 : Int), _), _) again211 =>
 π.ite (decide (x220 < (↑n218 : Int))) (π.join [(true, [.int .i64, .int .i64, .slice]), (false, [.slice]), (false, [.int .i64])] (fun J221 => π.guard (0 ≤ x220 ∧ x220 < (↑n218 : Int)) <| π.aa a217 fun p222 => π.ld [.int .i64] (p222.add (x220.toNat * 1)) fun ((x223 : Int), _) => π.ite (decide (x223 < 1)) (π.ret (.bool false)) (π.guard (0 ≤ x220 ∧ x220 < (↑n218 : Int)) <| π.aa a217 fun p224 => π.ld [.int .i64] (p224.add (x220.toNat * 1)) fun ((x225 : Int), _) => π.ite (decide (x225 > x213)) (π.ret (.bool false)) (J221 ((x212, x213, (a214, n215, c216), ()), ((a217, n218, c219), ()), (x220, ()), ())))) (fun (((x226 : Int), (x227 : Int), ((a228 : OA), (n229 : Nat), (c230 : Nat)), _), (((a231 : OA), (n232 : Nat), (c233 : Nat)), _), ((x234 : Int), _), _) => π.loop [(true, [.int .i64, .int .i64, .slice]), (false, [.slice]), (false, [.int .i64]), (false, [.int .i64])] ((x226, x227, (a228, n229, c230), ()), ((a231, n232, c233), ()), (x234, ()), ((0 : Int), ()), ()) fun (((x236 : Int), (x237 : Int), ((a238 : OA), (n239 : Nat), (c240 : Nat)), _), (((a241 : OA), (n242 : Nat), (c243 : Nat)), _), ((x244 : Int), _), ((x245 : Int), _), _) again235 => π.ite (decide (x245 < x244)) (π.guard (0 ≤ x245 ∧ x245 < (↑n242 : Int)) <| π.aa a241 fun p246 => π.ld [.int .i64] (p246.add (x245.toNat * 1)) fun ((x247 : Int), _) => π.guard (0 ≤ x244 ∧ x244 < (↑n242 : Int)) <| π.aa a241 fun p248 => π.ld [.int .i64] (p248.add (x244.toNat * 1)) fun ((x249 : Int), _) =>
 π.ite (x247 == x249) (π.ret (.bool false)) (again235 ((x236, x237, (a238, n239, c240), ()), ((a241, n242, c243), ()), (x244, ()), (i64.wrap (x245 + 1), ()), ()))) (again211 ((x236, x237, (a238, n239, c240), ()), ((a241, n242, c243), ()), (i64.wrap (x244 + 1), ()), ())))) (π.ret (.bool true))))
theorem Fg (sv sl : Int) (sa : OA) (san sac : Nat) : OK 23 [.v (.agg #[.int .i64 sv, .int .i64 sl, .slice sa san sac])] fun _ π => xO π sv sl sa san sac :=
 aW { ptr := [(1, 1, 0), (5, 5, 0), (7, 7, 0), (9, 9, 0), (11, 11, 0), (16, 1, 0), (20, 1, 0), (25, 1, 1), (30, 1, 1), (35, 1, 2), (41, 1, 2), (47, 1, 2), (52, 5, 1), (58, 5, 1), (65, 5, 2), (71, 5, 2), (77, 5, 3), (83, 5, 4), (89, 5, 0), (94, 5, 2), (100, 5, 2), (105, 7, 1), (111, 7, 1), (118, 7, 3), (123, 7, 3), (131, 7, 3), (137, 7, 2), (143, 7, 4), (145, 7, 2), (151, 7, 0), (156, 5, 3), (162, 5, 3), (167, 9, 1), (173, 9, 1), (180, 9, 4), (185, 9, 4), (191, 9, 2), (197, 9, 0), (202, 5, 4), (208, 5, 4), (214, 11, 3), (218, 11, 2), (221, 11, 1), (227, 11, 1), (234, 11, 4), (239, 11, 4), (251, 1, 2), (260, 1, 2), (269, 5, 2), (278, 11, 0), (298, 1, 1)], ty := [(1, 43), (5, 139), (7, 165), (9, 170), (11, 173)] } { draws := [(33, { A := [0, 1, 2, 3, 4, 5, 6, 7, 8, 9, 10, 11, 12, 13, 14, 15, 16, 17, 18, 19, 20, 21, 22, 23, 24, 25] }), (39, { A := [0, 1, 2, 3, 4, 5, 6, 7, 8, 9, 10, 11, 12, 13] }), (44, { A := [0, 1, 2, 3, 4, 5, 6, 7, 8] })], join := [(3, [(1, 43)]), (10, [(1, 43), (3, 122), (4, 3), (5, 139)]), (33, [(1, 43), (3, 122), (4, 3), (5, 139), (10, 3), (11, 173), (12, 3), (13, 3)]), (41, [(1, 43), (3, 122), (14, 3)])], loop := [(5, [(1, 43), (3, 122), (4, 3)]), (12, [(1, 43), (3, 122), (4, 3), (5, 139), (6, 3)]), (19, [(1, 43), (3, 122), (4, 3), (5, 139), (8, 3)]), (26, [(1, 43), (3, 122), (4, 3), (5, 139), (10, 3)]), (37, [(1, 43), (3, 122), (14, 3)]), (42, [(1, 43), (3, 122), (14, 3), (15, 3)])] } [] Tryz.func23 Tryz.ntmps23 rfl (by kernel_rfl) fun _ π => by kernel_rfl
def vb (sv sl : Int) (sa : OA) (san sac : Nat) (dk : Int) (dt dn dc dp : BA) (du : Bool) (dy vk vn : Int) (vs : BA) (da : OA) (dan dac : Nat) (state : Int) : W :=
 π.call 68 #[(.string dt)] (false, [(false, [.bool])]) fun (((b0 : Bool), _), _) => π.ite (!b0) (π.ret (.tuple #[(.agg #[(.int .i64 sv), (.int .i64 sl), (.slice sa san sac)]), (.int .i64 100)])) (π.loop [(true, [.int .i64, .int .i64, .slice]), (true, [.int .i64, .str, .str, .str, .str, .bool, .int .i64, .int .i64, .int .i64, .str, .slice]), (true, [.int .i64, .int .i64, .slice]), (false, [.int .i64])] ((sv, sl, (sa, san, sac), ()), (dk, dt, dn, dc, dp, du, dy, vk, vn, vs, (da, dan, dac), ()), ((0 : Int), (0 : Int), (none, (0 : Nat), (0 : Nat)), ()), ((0 : Int), ()), ()) fun (((x2 : Int), (x3 : Int), ((a4 : OA), (n5 : Nat), (c6 : Nat)), _), ((x7 : Int), (t8 : BA), (t9 : BA), (t10 : BA), (t11 : BA), (b12 : Bool), (x13 : Int), (x14 : Int), (x15 : Int), (t16 : BA), ((a17 : OA), (n18 : Nat), (c19 : Nat)), _), ((x20 : Int), (x21 : Int), ((a22 : OA), (n23 : Nat), (c24 : Nat)), _), ((x25 : Int), _), _) again1 => π.ite (decide (x25 < (↑n18 : Int))) (π.guard (0 ≤ x25 ∧ x25 < (↑n18 : Int)) <| π.aa a17 fun p26 => π.ld [.str] ((p26.add (x25.toNat * 7)).add 1) fun ((t27 : BA), _) => π.call 68 #[(.string t27)] (false, [(false, [.bool])]) fun (((b28 : Bool), _), _) => π.ite (!b28) (π.ret (.tuple #[(.agg #[(.int .i64 x2), (.int .i64 x3), (.slice a4 n5 c6)]), (.int .i64 100)])) (again1 ((x2, x3, (a4, n5, c6), ()), (x7, t8, t9, t10, t11, b12, x13, x14, x15, t16, (a17, n18, c19), ()), (x20, x21, (a22, n23, c24), ()), (i64.wrap (x25 + 1), ()), ()))) (π.call 69 #[(.agg #[(.int .i64 x2), (.int .i64 x3), (.slice a4 n5 c6)]), (.string t8)] (false, [(false, [.int .i64])]) fun (((x29 : Int), _), _) =>
 π.ite (decide (x29 ≥ 0)) (π.ret (.tuple #[(.agg #[(.int .i64 x2), (.int .i64 x3), (.slice a4 n5 c6)]), (.int .i64 152)])) (π.loop [(true, [.int .i64, .int .i64, .slice]), (true, [.int .i64, .str, .str, .str, .str, .bool, .int .i64, .int .i64, .int .i64, .str, .slice]), (true, [.int .i64, .int .i64, .slice]), (true, [.int .i64, .str, .slice, .slice, .slice]), (false, [.int .i64])] ((x2, x3, (a4, n5, c6), ()), (x7, t8, t9, t10, t11, b12, x13, x14, x15, t16, (a17, n18, c19), ()), (x20, x21, (a22, n23, c24), ()), (i64.wrap (x3 + 1), t8, (a17, n18, c19), (none, (0 : Nat), (0 : Nat)), (none, (0 : Nat), (0 : Nat)), ()), ((0 : Int), ()), ()) fun (((x31 : Int), (x32 : Int), ((a33 : OA), (n34 : Nat), (c35 : Nat)), _), ((x36 : Int), (t37 : BA), (t38 : BA), (t39 : BA), (t40 : BA), (b41 : Bool), (x42 : Int), (x43 : Int), (x44 : Int), (t45 : BA), ((a46 : OA), (n47 : Nat), (c48 : Nat)), _), ((x49 : Int), (x50 : Int), ((a51 : OA), (n52 : Nat), (c53 : Nat)), _), ((x54 : Int), (t55 : BA), ((a56 : OA), (n57 : Nat), (c58 : Nat)), ((a59 : OA), (n60 : Nat), (c61 : Nat)), ((a62 : OA), (n63 : Nat), (c64 : Nat)), _), ((x65 : Int), _), _) again30 => π.ite (decide (x65 < (↑n47 : Int))) (π.guard (0 ≤ x65 ∧ x65 < (↑n47 : Int)) <| π.aa a46 fun p66 => π.ld [.str] ((p66.add (x65.toNat * 7)).add 1) fun ((t67 : BA), _) => π.cy 70 #[(.agg #[(.int .i64 x54), (.string t55), (.slice a56 n57 c58), (.slice a59 n60 c61), (.slice a62 n63 c64)]), (.string t67)] (false, [(false, [.int .i64])]) fun (((x68 : Int), _), _) =>
 π.ite (x68 != x65) (π.ret (.tuple #[(.agg #[(.int .i64 x31), (.int .i64 x32), (.slice a33 n34 c35)]), (.int .i64 152)])) (again30 ((x31, x32, (a33, n34, c35), ()), (x36, t37, t38, t39, t40, b41, x42, x43, x44, t45, (a46, n47, c48), ()), (x49, x50, (a51, n52, c53), ()), (x54, t55, (a56, n57, c58), (a59, n60, c61), (a62, n63, c64), ()), (i64.wrap (x65 + 1), ()), ()))) (π.join [(true, [.int .i64, .int .i64, .slice]), (true, [.int .i64, .str, .str, .str, .str, .bool, .int .i64, .int .i64, .int .i64, .str, .slice]), (true, [.int .i64, .int .i64, .slice]), (true, [.int .i64, .str, .slice, .slice, .slice])] (fun J69 => π.ite (decide ((↑n34 : Int) ≥ 6)) (π.ret (.tuple #[(.agg #[(.int .i64 x31), (.int .i64 x32), (.slice a33 n34 c35)]), (.int .i64 156)])) (π.ite ((↑n47 : Int) == 0) (π.ret (.tuple #[(.agg #[(.int .i64 x31), (.int .i64 x32), (.slice a33 n34 c35)]), (.int .i64 156)])) (π.ite (decide ((↑n47 : Int) > 8)) (π.ret (.tuple #[(.agg #[(.int .i64 x31), (.int .i64 x32), (.slice a33 n34 c35)]), (.int .i64 156)])) (J69 ((x31, x32, (a33, n34, c35), ()), (x36, t37, t38, t39, t40, b41, x42, x43, x44, t45, (a46, n47, c48), ()), (x49, x50, (a51, n52, c53), ()), (x54, t55, (a56, n57, c58), (a59, n60, c61), (a62, n63, c64), ()), ()))))) (fun (((x70 : Int), (x71 : Int), ((a72 : OA), (n73 : Nat), (c74 : Nat)), _), ((x75 : Int), (t76 : BA), (t77 : BA), (t78 : BA), (t79 : BA), (b80 : Bool), (x81 : Int), (x82 : Int), (x83 : Int), (t84 : BA), ((a85 : OA), (n86 : Nat), (c87 : Nat)), _), ((x88 : Int), (x89 : Int), ((a90 : OA), (n91 : Nat), (c92 : Nat)), _), ((x93 : Int), (t94 : BA), ((a95 : OA), (n96 : Nat), (c97 : Nat)), ((a98 : OA), (n99 : Nat), (c100 : Nat)), ((a101 : OA), (n102 : Nat), (c103 : Nat)), _), _) =>
 π.loop [(true, [.int .i64, .int .i64, .slice]), (true, [.int .i64, .str, .str, .str, .str, .bool, .int .i64, .int .i64, .int .i64, .str, .slice]), (true, [.int .i64, .int .i64, .slice]), (true, [.int .i64, .str, .slice, .slice, .slice]), (false, [.int .i64])] ((x70, x71, (a72, n73, c74), ()), (x75, t76, t77, t78, t79, b80, x81, x82, x83, t84, (a85, n86, c87), ()), (x88, x89, (a90, n91, c92), ()), (x93, t94, (none, (0 : Nat), (0 : Nat)), (a98, n99, c100), (a101, n102, c103), ()), ((0 : Int), ()), ()) fun (((x105 : Int), (x106 : Int), ((a107 : OA), (n108 : Nat), (c109 : Nat)), _), ((x110 : Int), (t111 : BA), (t112 : BA), (t113 : BA), (t114 : BA), (b115 : Bool), (x116 : Int), (x117 : Int), (x118 : Int), (t119 : BA), ((a120 : OA), (n121 : Nat), (c122 : Nat)), _), ((x123 : Int), (x124 : Int), ((a125 : OA), (n126 : Nat), (c127 : Nat)), _), ((x128 : Int), (t129 : BA), ((a130 : OA), (n131 : Nat), (c132 : Nat)), ((a133 : OA), (n134 : Nat), (c135 : Nat)), ((a136 : OA), (n137 : Nat), (c138 : Nat)), _), ((x139 : Int), _), _) again104 => π.ite (decide (x139 < (↑n121 : Int))) (π.guard (0 ≤ x139 ∧ x139 < (↑n121 : Int)) <| π.aa a120 fun p140 => π.ld [.int .i64] ((p140.add (x139.toNat * 7)).add 2) fun ((x141 : Int), _) => π.call 71 #[(.int .i64 x141)] (false, [(false, [.bool])]) fun (((b142 : Bool), _), _) => π.ite (!b142) (π.ret (.tuple #[(.agg #[(.int .i64 x105), (.int .i64 x106), (.slice a107 n108 c109)]), (.int .i64 154)])) (π.guard (0 ≤ x139 ∧ x139 < (↑n121 : Int)) <| π.aa a120 fun p143 =>
 π.ld [.str] ((p143.add (x139.toNat * 7)).add 1) fun ((t144 : BA), _) => π.guard (0 ≤ x139 ∧ x139 < (↑n121 : Int)) <| π.aa a120 fun p145 => π.ld [.int .i64] ((p145.add (x139.toNat * 7)).add 2) fun ((x146 : Int), _) => π.nw (Obj.cells #[(.int .i64 (i64.wrap (i64.wrap (x106 + 2) + x139))), (.string t144), (.int .i64 x146), (.int .i64 3), (.int .i64 0), (.int .i64 0), (.string ⟨#[]⟩)] 165 (0, 0)) fun r147 => π.app 165 7 72 [(.int .i64 0), (.string ⟨#[]⟩), (.int .i64 0), (.int .i64 0), (.int .i64 0), (.int .i64 0), (.string ⟨#[]⟩)] a130 n131 c132 (Src.sl (some (Addr.mk r147 0 none)) 1) fun a148 n149 c150 => again104 ((x105, x106, (a107, n108, c109), ()), (x110, t111, t112, t113, t114, b115, x116, x117, x118, t119, (a120, n121, c122), ()), (x123, x124, (a125, n126, c127), ()), (x128, t129, (a148, n149, c150), (a133, n134, c135), (a136, n137, c138), ()), (i64.wrap (x139 + 1), ()), ()))) (π.ite (state != 3) (π.ret (.tuple #[(.agg #[(.int .i64 x105), (.int .i64 x106), (.slice a107 n108 c109)]), (.int .i64 1)])) (π.nw (Obj.cells #[(.int .i64 x128), (.string t129), (.slice a130 n131 c132), (.slice a133 n134 c135), (.slice a136 n137 c138)] 139 (0, 0)) fun r151 => π.app 139 5 96 [(.int .i64 0), (.string ⟨#[]⟩), (.slice none 0 0), (.slice none 0 0), (.slice none 0 0)] a107 n108 c109 (Src.sl (some (Addr.mk r151 0 none)) 1) fun a152 n153 c154 => π.ret (.tuple #[(.agg #[(.int .i64 x105), (.int .i64 (i64.wrap (i64.wrap (x106 + 1) + (↑n121 : Int)))), (.slice a152 n153 c154)]), (.int .i64 0)]))))))))
theorem Dr (sv sl : Int) (sa : OA) (san sac : Nat) (dk : Int) (dt dn dc dp : BA) (du : Bool) (dy vk vn : Int) (vs : BA) (da : OA) (dan dac : Nat) (state : Int) : OK 84 [.v (.agg #[.int .i64 sv, .int .i64 sl, .slice sa san sac]), .v (.agg #[.int .i64 dk, .string dt, .string dn, .string dc, .string dp, .bool du, .int .i64 dy, .int .i64 vk, .int .i64 vn, .string vs, .slice da dan dac]), .v (.int .i64 state)] fun _ π => vb π sv sl sa san sac dk dt dn dc dp du dy vk vn vs da dan dac state :=
 aW { ptr := [(3, 3, 0), (4, 4, 0), (6, 6, 0), (9, 9, 0), (12, 4, 1), (18, 4, 10), (24, 4, 10), (34, 4, 1), (39, 3, 1), (42, 4, 1), (44, 4, 10), (48, 4, 10), (55, 4, 10), (65, 3, 2), (70, 4, 10), (76, 4, 10), (82, 9, 2), (84, 4, 10), (90, 4, 10), (99, 9, 2), (101, 3, 1), (106, 4, 10), (112, 4, 10), (121, 9, 2), (125, 3, 1), (128, 4, 10), (132, 3, 1), (133, 3, 2), (138, 3, 2)], ty := [(3, 43), (4, 31), (6, 43), (9, 139)] } { draws := [(14, { A := [0, 1, 2, 3, 4, 5, 6, 7, 8, 9], quiet := [7] }), (24, { A := [0, 1, 2, 3, 4, 5, 6, 7, 8, 9, 10, 11, 12, 13, 14, 15, 16, 17, 18, 19], eag := [22] })], join := [(18, [(3, 43), (4, 31), (6, 43), (9, 139)])], loop := [(4, [(3, 43), (4, 31), (6, 43), (8, 3)]), (12, [(3, 43), (4, 31), (6, 43), (9, 139), (10, 3)]), (20, [(3, 43), (4, 31), (6, 43), (9, 139), (11, 3)])] } [] Tryz.func84 Tryz.ntmps84 rfl (by kernel_rfl) fun _ π => by kernel_rfl
def A1 (sv sl : Int) (sa : OA) (san sac : Nat) (dk : Int) (dt dn dc dp : BA) (du : Bool) (dy vk vn : Int) (vs : BA) (da : OA) (dan dac : Nat) (state : Int) : W :=
 π.join [(true, [.int .i64, .int .i64, .slice]), (true, [.int .i64, .str, .str, .str, .str, .bool, .int .i64, .int .i64, .int .i64, .str, .slice]), (true, [.int .i64, .int .i64, .slice])] (fun J0 => π.call 23 #[(.agg #[(.int .i64 sv), (.int .i64 sl), (.slice sa san sac)])] (false, [(false, [.bool])]) fun (((b1 : Bool), _), _) => π.ite (!b1) (π.ret (.tuple #[(.agg #[(.int .i64 0), (.int .i64 0), (.slice none 0 0)]), (.int .i64 100)])) (π.ite (decide (state < 0)) (π.ret (.tuple #[(.agg #[(.int .i64 0), (.int .i64 0), (.slice none 0 0)]), (.int .i64 100)])) (π.ite (decide (state > 3)) (π.ret (.tuple #[(.agg #[(.int .i64 0), (.int .i64 0), (.slice none 0 0)]), (.int .i64 100)])) (J0 ((sv, sl, (sa, san, sac), ()), (dk, dt, dn, dc, dp, du, dy, vk, vn, vs, (da, dan, dac), ()), ((0 : Int), (0 : Int), (none, (0 : Nat), (0 : Nat)), ()), ()))))) (fun (((x2 : Int), (x3 : Int), ((a4 : OA), (n5 : Nat), (c6 : Nat)), _), ((x7 : Int), (t8 : BA), (t9 : BA), (t10 : BA), (t11 : BA), (b12 : Bool), (x13 : Int), (x14 : Int), (x15 : Int), (t16 : BA), ((a17 : OA), (n18 : Nat), (c19 : Nat)), _), ((x20 : Int), (x21 : Int), ((a22 : OA), (n23 : Nat), (c24 : Nat)), _), _) => π.join [(true, [.int .i64, .int .i64, .slice]), (true, [.int .i64, .str, .str, .str, .str, .bool, .int .i64, .int .i64, .int .i64, .str, .slice]), (true, [.int .i64, .int .i64, .slice])] (fun J25 => π.ite (decide (x7 < 1)) (π.ret (.tuple #[(.agg #[(.int .i64 0), (.int .i64 0), (.slice none 0 0)]), (.int .i64 1)])) (π.ite (decide (x7 > 7)) (π.ret (.tuple #[(.agg #[(.int .i64 0), (.int .i64 0), (.slice none 0 0)]), (.int .i64 1)])) (J25 ((x2, x3, (a4, n5, c6), ()), (x7, t8, t9, t10, t11, b12, x13, x14, x15, t16, (a17, n18, c19), ()), (x20, x21, (a22, n23, c24), ()), ())))) (fun (((x26 : Int), (x27 : Int), ((a28 : OA), (n29 : Nat), (c30 : Nat)), _), ((x31 : Int), (t32 : BA), (t33 : BA), (t34 : BA), (t35 : BA), (b36 : Bool), (x37 : Int), (x38 : Int), (x39 : Int), (t40 : BA), ((a41 : OA), (n42 : Nat), (c43 : Nat)), _), ((x44 : Int), (x45 : Int), ((a46 : OA), (n47 : Nat), (c48 : Nat)), _), _) =>
 π.call 83 #[(.agg #[(.int .i64 x26), (.int .i64 x27), (.slice a28 n29 c30)])] (false, [(true, [.int .i64, .int .i64, .slice])]) fun (((x49 : Int), (x50 : Int), ((a51 : OA), (n52 : Nat), (c53 : Nat)), _), _) => π.call 69 #[(.agg #[(.int .i64 (i64.wrap (x49 + 1))), (.int .i64 x50), (.slice a51 n52 c53)]), (.string t32)] (false, [(false, [.int .i64])]) fun (((x54 : Int), _), _) => π.ite (x31 == 1) (π.call 84 #[(.agg #[(.int .i64 (i64.wrap (x49 + 1))), (.int .i64 x50), (.slice a51 n52 c53)]), (.agg #[(.int .i64 x31), (.string t32), (.string t33), (.string t34), (.string t35), (.bool b36), (.int .i64 x37), (.int .i64 x38), (.int .i64 x39), (.string t40), (.slice a41 n42 c43)]), (.int .i64 state)] (true, [(true, [.int .i64, .int .i64, .slice]), (false, [.int .i64])]) fun (((x55 : Int), (x56 : Int), ((a57 : OA), (n58 : Nat), (c59 : Nat)), _), ((x60 : Int), _), _) => π.ite (x60 != 0) (π.ret (.tuple #[(.agg #[(.int .i64 0), (.int .i64 0), (.slice none 0 0)]), (.int .i64 x60)])) (π.ret (.tuple #[(.agg #[(.int .i64 x55), (.int .i64 x56), (.slice a57 n58 c59)]), (.int .i64 0)]))) (π.ite (decide (x54 < 0)) (π.ite true (π.ret (.tuple #[(.agg #[(.int .i64 0), (.int .i64 0), (.slice none 0 0)]), (.int .i64 150)])) (π.ret (.tuple #[(.agg #[(.int .i64 (i64.wrap (x49 + 1))), (.int .i64 x50), (.slice a51 n52 c53)]), (.int .i64 0)]))) (π.join [(true, [.int .i64, .str, .str, .str, .str, .bool, .int .i64, .int .i64, .int .i64, .str, .slice]), (true, [.int .i64, .int .i64, .slice]), (true, [.int .i64, .int .i64, .slice]), (false, [.int .i64]), (false, [.bool])] (fun J61 =>
 π.ite (x31 == 4) (J61 ((x31, t32, t33, t34, t35, b36, x37, x38, x39, t40, (a41, n42, c43), ()), (x44, x45, (a46, n47, c48), ()), (i64.wrap (x49 + 1), x50, (a51, n52, c53), ()), (x54, ()), (true, ()), ())) (J61 ((x31, t32, t33, t34, t35, b36, x37, x38, x39, t40, (a41, n42, c43), ()), (x44, x45, (a46, n47, c48), ()), (i64.wrap (x49 + 1), x50, (a51, n52, c53), ()), (x54, ()), (x31 == 5, ()), ()))) (fun (((x62 : Int), (t63 : BA), (t64 : BA), (t65 : BA), (t66 : BA), (b67 : Bool), (x68 : Int), (x69 : Int), (x70 : Int), (t71 : BA), ((a72 : OA), (n73 : Nat), (c74 : Nat)), _), ((x75 : Int), (x76 : Int), ((a77 : OA), (n78 : Nat), (c79 : Nat)), _), ((x80 : Int), (x81 : Int), ((a82 : OA), (n83 : Nat), (c84 : Nat)), _), ((x85 : Int), _), ((b86 : Bool), _), _) => π.ite b86 (π.call 85 #[(.agg #[(.int .i64 x80), (.int .i64 x81), (.slice a82 n83 c84)]), (.int .i64 x85), (.agg #[(.int .i64 x62), (.string t63), (.string t64), (.string t65), (.string t66), (.bool b67), (.int .i64 x68), (.int .i64 x69), (.int .i64 x70), (.string t71), (.slice a72 n73 c74)]), (.int .i64 state)] (true, [(true, [.int .i64, .int .i64, .slice]), (false, [.int .i64])]) fun (((x87 : Int), (x88 : Int), ((a89 : OA), (n90 : Nat), (c91 : Nat)), _), ((x92 : Int), _), _) => π.ite (x92 != 0) (π.ret (.tuple #[(.agg #[(.int .i64 0), (.int .i64 0), (.slice none 0 0)]), (.int .i64 x92)])) (π.ret (.tuple #[(.agg #[(.int .i64 x87), (.int .i64 x88), (.slice a89 n90 c91)]), (.int .i64 0)]))) (π.join [(true, [.int .i64, .str, .str, .str, .str, .bool, .int .i64, .int .i64, .int .i64, .str, .slice]), (true, [.int .i64, .int .i64, .slice]), (true, [.int .i64, .int .i64, .slice]), (false, [.int .i64]), (false, [.bool])] (fun J93 =>
 π.ite (x62 == 2) (J93 ((x62, t63, t64, t65, t66, b67, x68, x69, x70, t71, (a72, n73, c74), ()), (x75, x76, (a77, n78, c79), ()), (x80, x81, (a82, n83, c84), ()), (x85, ()), (true, ()), ())) (J93 ((x62, t63, t64, t65, t66, b67, x68, x69, x70, t71, (a72, n73, c74), ()), (x75, x76, (a77, n78, c79), ()), (x80, x81, (a82, n83, c84), ()), (x85, ()), (x62 == 3, ()), ()))) (fun (((x94 : Int), (t95 : BA), (t96 : BA), (t97 : BA), (t98 : BA), (b99 : Bool), (x100 : Int), (x101 : Int), (x102 : Int), (t103 : BA), ((a104 : OA), (n105 : Nat), (c106 : Nat)), _), ((x107 : Int), (x108 : Int), ((a109 : OA), (n110 : Nat), (c111 : Nat)), _), ((x112 : Int), (x113 : Int), ((a114 : OA), (n115 : Nat), (c116 : Nat)), _), ((x117 : Int), _), ((b118 : Bool), _), _) => π.ite b118 (π.call 86 #[(.agg #[(.int .i64 x112), (.int .i64 x113), (.slice a114 n115 c116)]), (.int .i64 x117), (.agg #[(.int .i64 x94), (.string t95), (.string t96), (.string t97), (.string t98), (.bool b99), (.int .i64 x100), (.int .i64 x101), (.int .i64 x102), (.string t103), (.slice a104 n105 c106)]), (.int .i64 state)] (true, [(true, [.int .i64, .int .i64, .slice]), (false, [.int .i64])]) fun (((x119 : Int), (x120 : Int), ((a121 : OA), (n122 : Nat), (c123 : Nat)), _), ((x124 : Int), _), _) => π.ite (x124 != 0) (π.ret (.tuple #[(.agg #[(.int .i64 0), (.int .i64 0), (.slice none 0 0)]), (.int .i64 x124)])) (π.ret (.tuple #[(.agg #[(.int .i64 x119), (.int .i64 x120), (.slice a121 n122 c123)]), (.int .i64 0)]))) (π.call 87 #[(.agg #[(.int .i64 x112), (.int .i64 x113), (.slice a114 n115 c116)]), (.int .i64 x117), (.agg #[(.int .i64 x94), (.string t95), (.string t96), (.string t97), (.string t98), (.bool b99), (.int .i64 x100), (.int .i64 x101), (.int .i64 x102), (.string t103), (.slice a104 n105 c106)]), (.int .i64 state)] (true, [(true, [.int .i64, .int .i64, .slice]), (false, [.int .i64])]) fun (((x125 : Int), (x126 : Int), ((a127 : OA), (n128 : Nat), (c129 : Nat)), _), ((x130 : Int), _), _) =>
 π.ite (x130 != 0) (π.ret (.tuple #[(.agg #[(.int .i64 0), (.int .i64 0), (.slice none 0 0)]), (.int .i64 x130)])) (π.ret (.tuple #[(.agg #[(.int .i64 x125), (.int .i64 x126), (.slice a127 n128 c129)]), (.int .i64 0)]))))))))))
theorem Hi (sv sl : Int) (sa : OA) (san sac : Nat) (dk : Int) (dt dn dc dp : BA) (du : Bool) (dy vk vn : Int) (vs : BA) (da : OA) (dan dac : Nat) (state : Int) : OK 27 [.v (.agg #[.int .i64 sv, .int .i64 sl, .slice sa san sac]), .v (.agg #[.int .i64 dk, .string dt, .string dn, .string dc, .string dp, .bool du, .int .i64 dy, .int .i64 vk, .int .i64 vn, .string vs, .slice da dan dac]), .v (.int .i64 state)] fun _ π => A1 π sv sl sa san sac dk dt dn dc dp du dy vk vn vs da dan dac state :=
 aW { ptr := [(3, 3, 0), (4, 4, 0), (6, 6, 0), (8, 8, 0), (23, 4, 0), (27, 4, 0), (34, 8, 0), (37, 8, 0), (39, 4, 1), (51, 4, 0), (65, 4, 0), (69, 4, 0), (82, 4, 0), (86, 4, 0)], ty := [(3, 43), (4, 31), (6, 43), (8, 43)] } { join := [(3, [(3, 43), (4, 31), (6, 43)]), (5, [(3, 43), (4, 31), (6, 43)]), (15, [(4, 31), (6, 43), (8, 43), (10, 3), (64, 4)]), (17, [(4, 31), (6, 43), (8, 43), (10, 3), (81, 4)])],  } [] Tryz.func27 Tryz.ntmps27 rfl (by kernel_rfl) fun _ π => by kernel_rfl
def uR : W :=
 π.nw (Obj.cells #[(.int .i64 0), (.string (ByteArray.mk #[(97 : UInt8)])), (.int .i64 1), (.int .i64 0), (.int .i64 0), (.int .i64 0), (.string ⟨#[]⟩), (.int .i64 0), (.string (ByteArray.mk #[(98 : UInt8)])), (.int .i64 2), (.int .i64 0), (.int .i64 0), (.int .i64 0), (.string ⟨#[]⟩)] 165 (0, 0)) fun r0 => π.ret (.agg #[(.int .i64 1), (.string (ByteArray.mk #[(116 : UInt8)])), (.string ⟨#[]⟩), (.string ⟨#[]⟩), (.string ⟨#[]⟩), (.bool false), (.int .i64 0), (.int .i64 0), (.int .i64 0), (.string ⟨#[]⟩), (.slice (some (Addr.mk r0 0 none)) 2 2)])
theorem Df : OK 28 [] fun _ π => uR π :=
 aW { ptr := [(0, 0, 0)], ty := [(0, 31)] } {} [] Tryz.func28 Tryz.ntmps28 rfl (by kernel_rfl) fun _ π => by kernel_rfl
end
section
attribute [-simp] Fw.W.bC Fw.W.bA
theorem aH {P : Program} {f : FuncId} {args : Array Value} {r : Bool × List Shape} {k : bR r.2 → W.T} {s : PH} {v0 : Value} (x : bR r.2) (h : bu P f args s fun v s' => v = v0 ∧ s' = s) (hx : gx r x = v0) (hk : k x s) : W.call P f args r k s :=
 W.ak h (by rintro v s' ⟨rfl, rfl⟩; exact ⟨x, hx, hk⟩)
structure pL (s0 s : PH) (a : OA) (n c : Nat) (l : List Int) : Prop where
 row : bp La s 3 a n c l
 fr : ∀ g ∈ Fw.aU a, s0 g = none
 md : Fw.Mod [] s0 s
theorem pL.nil (s : PH) : pL s s none 0 0 [] := ⟨⟨by simp, Nat.le_refl _, Nat.zero_le _, .inl ⟨rfl, rfl, rfl⟩⟩, by simp [Fw.aU], Mod.refl _ _⟩
theorem pL.push {s0 s : PH} {a : OA} {n c : Nat} {l : List Int} {x : Int} {K : OA → Nat → Nat → W.T} (h : pL s0 s a n c l) (hl : l.length ≤ 4294967296)
  (hK : ∀ a' c' s', pL s0 s' a' (n + 1) c' (l ++ [x]) → K a' (n + 1) c' s') : W.nw (.cells #[.int .i64 x] 3 (0, 0)) (fun r => W.app 3 1 8 [.int .i64 0] a n c (Src.sl (some ⟨r, 0, none⟩) 1) K) s := by
 refine W.bK fun r s1 hr m1 k1 => ?_;have hmax : maxLen = 9223372036854775807 := rfl;have hn : n = l.length := h.row.len;have hrow := h.row.mod m1 (by simp);refine iU hrow rfl (ys := [x]) (k := 1) ⟨rfl, ?_⟩ rfl rfl (by omega) (by omega) ?_
 ·refine IZ ?_;have := jP k1 0 (.int .i64 x) (by simp)
  rwa [bf, Nat.zero_add] at this
 ·intro a' c' s' h' hm;refine hK a' c' s' ⟨h', ?_, ?_⟩
  ·rcases hm with ⟨rfl, _⟩ | ⟨g, rfl, hg, _⟩
   ·exact h.fr
   ·intro g' hg'
    have : g' = g := by simpa [Fw.aU] using hg'
    subst this;exact (h.md.trans m1).none hg (by simp)
  ·rcases hm with ⟨rfl, hm⟩ | ⟨g, rfl, hg, hm⟩
   ·exact (h.md.trans m1).fresh hm fun g hg => .inr (h.fr g hg)
   ·exact (h.md.trans m1).trans hm
theorem cx {α : Type} {p : Nat → α → Bool} {xs : List α} : allI p xs = true ↔ ∀ i x, xs[i]? = some x → p i x = true := by
 unfold allI; rw [pJ]
 constructor
 ·intro h i x hx; have := h i (List.getElem?_eq_some_iff.1 hx).1; rwa [di hx] at this
 ·intro h i hi
  obtain ⟨x, hx⟩ : ∃ x, xs[i]? = some x := ⟨_, List.getElem?_eq_getElem hi⟩
  rw [di hx]; exact h i x hx
theorem iT {α : Type} {p q : Nat → α → Bool} {xs : List α} (h : allI (fun i x => p i x && q i x) xs = true) : allI p xs = true ∧ allI q xs = true := by
 rw [cx] at h;exact ⟨cx.2 fun i x hx => by have := h i x hx; simp only [Bool.and_eq_true] at this; exact this.1, cx.2 fun i x hx => by have := h i x hx; simp only [Bool.and_eq_true] at this; exact this.2⟩
theorem eI {S : aD} : right S = true ↔ jC S = true ∧ S.tabs.length ≤ 6 ∧ allI (dH S.tabs) S.tabs = true ∧ allI (fun _ T => ey S T) S.tabs = true ∧ aX S.last (S.tabs.flatMap cF) [] = true := by
 unfold right cR;simp only [Bool.and_eq_true, decide_eq_true_eq]
 constructor
 ·rintro ⟨a, ⟨_, b, c⟩, d, e⟩; exact ⟨a, by omega, c, d, e⟩
 ·rintro ⟨a, b, c, d, e⟩; exact ⟨a, ⟨by omega, by omega, c⟩, d, e⟩
theorem gD {S : aD} {T : aG} : ey S T = true ↔ 1 ≤ T.cols.length ∧ T.cols.length ≤ 8 ∧ T.idxs.length ≤ 8 ∧ T.keys.length ≤ 8 ∧ allI (eD T.cols) T.cols = true ∧ allI (eN T.idxs) T.idxs = true ∧ allI (eM T.keys) T.keys = true ∧
  fh T = true ∧ allI fU T.cols = true ∧ allI (iK T) T.idxs = true ∧ allI (ie S T) T.keys = true := by
 unfold ey cR;simp only [Bool.and_eq_true, decide_eq_true_eq]
 constructor
 ·rintro ⟨⟨a, b, c⟩, ⟨d, e, f⟩, ⟨g, h, i⟩, j, k, l, m⟩; exact ⟨by omega, by omega, by omega, by omega, c, f, i, j, k, l, m⟩
 ·rintro ⟨a, b, c, d, e, f, g, h, i, j, k⟩; exact ⟨⟨by omega, by omega, e⟩, ⟨by omega, by omega, f⟩, ⟨by omega, by omega, g⟩, h, i, j, k⟩
theorem HF {S : aD} (h : ¬ right S = true) : right S = false := by cases e : right S with
 | false => rfl
 | true => exact absurd e h
theorem Km {S : aD} {T : aG} {j : Nat} {x : cw} (hx : T.cols[j]? = some x) (e : ¬ (eD T.cols j x = true ∧ fU j x = true)) : ¬ ey S T = true := fun r => by
 obtain ⟨_, _, _, _, a, _, _, _, b, _, _⟩ := gD.1 r;exact e ⟨cx.1 a j x hx, cx.1 b j x hx⟩
theorem Kn {S : aD} {T : aG} {j : Nat} {x : ez} (hx : T.idxs[j]? = some x) (e : ¬ (eN T.idxs j x = true ∧ iK T j x = true)) : ¬ ey S T = true := fun r => by
 obtain ⟨_, _, _, _, _, a, _, _, _, b, _⟩ := gD.1 r;exact e ⟨cx.1 a j x hx, cx.1 b j x hx⟩
theorem Ko {S : aD} {T : aG} {j : Nat} {x : For} (hx : T.keys[j]? = some x) (e : ¬ (eM T.keys j x = true ∧ ie S T j x = true)) : ¬ ey S T = true := fun r => by
 obtain ⟨_, _, _, _, _, _, a, _, _, _, b⟩ := gD.1 r;exact e ⟨cx.1 a j x hx, cx.1 b j x hx⟩
theorem DN {last : Int} {l : List Int} {k : Nat} (h : aX last l [] = true) : aX last (l.take k) [] = true := by
 rw [← List.take_append_drop k l, jl] at h;simp only [Bool.and_eq_true] at h;exact h.1
theorem rK {α : Type} {p : Nat → α → Bool} {xs : List α} {k : Nat} {x : α} (h : upTo (bX p xs) k = true) (hx : xs[k]? = some x) (hp : p k x = true) : upTo (bX p xs) (k + 1) = true := by
 rw [eK, h, di hx, hp]; (first | done | rfl)
end
section
abbrev kL (s : BA) : List UInt8 := s.data.toList
def kB (l : List UInt8) : BA := ⟨l.toArray⟩
theorem jE (s : BA) : kB (kL s) = s := by cases s; simp [kB]
theorem eY (l : List UInt8) : kL (kB l) = l := by simp [kL, kB]
theorem eP (s : BA) : (kL s).length = s.size := by rw [Array.length_toList]; (first | done | rfl)
theorem cE (l : List UInt8) : (kB l).size = l.length := by rw [← eP, eY]
theorem ES (a b : BA) : kL (a ++ b) = kL a ++ kL b := by simp [kL]
theorem qA (a b : List UInt8) : kB (a ++ b) = kB a ++ kB b := by
 rw [← jE (kB a ++ kB b), ES, eY, eY]
theorem uj (s : BA) (i j : Nat) : kL (s.extract i j) = (kL s).extract i j := by simp [kL]
theorem qB {a b : BA} (h : kL a = kL b) : a = b := by rw [← jE a, ← jE b, h]
theorem ER {a b : List UInt8} (h : kB a = kB b) : a = b := by rw [← eY a, ← eY b, h]
theorem rm (s : BA) (i : Nat) : kL (s.extract i s.size) = (kL s).drop i := by
 rw [uj, List.extract_eq_take_drop, List.take_of_length_le (by rw [List.length_drop, eP]; omega)]
theorem jF {s : BA} {i : Nat} (h : i < s.size) : ∃ a, (kL s)[i]? = some a ∧ s[i]?.getD 0 = a := by
 refine ⟨s[i], ?_, ?_⟩
 ·show s.data.toList[i]? = some s.data[i]
  rw [Array.getElem?_toList]; exact Array.getElem?_eq_getElem h
 ·rw [getElem?_pos s i h]; (first | done | rfl)
def fC (n : Nat) : List UInt8 := [UInt8.ofNat (n / 72057594037927936), UInt8.ofNat (n / 281474976710656), UInt8.ofNat (n / 1099511627776), UInt8.ofNat (n / 4294967296), UInt8.ofNat (n / 16777216), UInt8.ofNat (n / 65536), UInt8.ofNat (n / 256), UInt8.ofNat n]
def kD (l : List UInt8) : Nat := l.foldl (fun a b => a * 256 + b.toNat) 0
def n64 (n : Int) : Nat := ((n + 9223372036854775808) % 18446744073709551616).toNat
def kC (n : Nat) : Int := (n : Int) - 9223372036854775808
def eo : List UInt8 → List UInt8
 | [] => []
 | b :: l => if b = 0 then 0 :: 255 :: eo l else b :: eo l
def eG : List UInt8 → Option (List UInt8 × List UInt8)
 | [] => none
 | [_] => none
 | b :: c :: r => if b ≠ 0 then (eG (c :: r)).map fun p => (b :: p.1, p.2) else if c = 255 then (eG r).map fun p => (0 :: p.1, p.2) else if c = 1 then some ([], r) else none
theorem tB {b : UInt8} (h : b ≠ 0) (l : List UInt8) : eG (b :: l) = (eG l).map fun p => (b :: p.1, p.2) := by
 cases l with
 | nil => rfl
 | cons c r => rw [eG, if_pos h]
theorem oo (c : UInt8) (r : List UInt8) : eG (0 :: c :: r) = if c = 255 then (eG r).map fun p => (0 :: p.1, p.2) else if c = 1 then some ([], r) else none := by
 rw [eG, if_neg (by simp)]
def bW (v : aK) : List UInt8 := UInt8.ofNat ((1 + v.kind) % 256).toNat :: (if v.kind = 1 then fC (n64 v.n) else if v.kind = 2 then eo (kL v.s) ++ [0, 1] else [])
def lQ : List UInt8 → Option (aK × List UInt8)
 | [] => none
 | b :: l => if b = 1 then some (⟨0, 0, ⟨#[]⟩⟩, l) else if b = 2 then (if l.length < 8 then none else some (⟨1, kC (kD (l.take 8)), ⟨#[]⟩⟩, l.drop 8))
  else if b = 3 then (eG l).map fun p => (⟨2, 0, kB p.1⟩, p.2) else none
def mI : Nat → List UInt8 → List aK → Option (List aK)
 | 0, _, _ => none
 | f + 1, l, acc => if l = [] then some acc else if acc.length = 8 then none else match lQ l with
  | none => none
  | some (v, r) => if bD v = true then mI f r (acc ++ [v]) else none
def fS (x : BA) : Option (List aK) := mI (x.size + 1) (kL x) []
def mV (l : List aK) : Bool := l.any fun v => !bD v
def keyOf (l : List aK) : BA × Int := if 8 < l.length then (⟨#[]⟩, 21) else if mV l = true then (⟨#[]⟩, 10) else (kB (l.flatMap bW), 0)
theorem JB {n : Nat} (h : n < 18446744073709551616) : kD (fC n) = n := by
 simp only [kD, fC, List.foldl_cons, List.foldl_nil, UInt8.toNat_ofNat'];omega
theorem Ix {l : List UInt8} (h : l.length = 8) : fC (kD l) = l := by
 match l, h with
 | [a, b, c, d, e, f, g, i], _ =>
  simp only [kD, fC, List.foldl_cons, List.foldl_nil];have ha := a.toNat_lt;have hb := b.toNat_lt;have hc := c.toNat_lt;have hd := d.toNat_lt;have he := e.toNat_lt;have hf := f.toNat_lt;have hg := g.toNat_lt;have hi := i.toNat_lt
  refine List.cons_eq_cons.2 ⟨?_, List.cons_eq_cons.2 ⟨?_, List.cons_eq_cons.2 ⟨?_, List.cons_eq_cons.2 ⟨?_, List.cons_eq_cons.2 ⟨?_, List.cons_eq_cons.2 ⟨?_, List.cons_eq_cons.2 ⟨?_, List.cons_eq_cons.2 ⟨?_, rfl⟩⟩⟩⟩⟩⟩⟩⟩ <;>
   (apply UInt8.toNat_inj.1; rw [UInt8.toNat_ofNat']; omega)
theorem FT {l : List UInt8} (h : l.length = 8) : kD l < 18446744073709551616 := by
 match l, h with
 | [a, b, c, d, e, f, g, i], _ =>
  simp only [kD, List.foldl_cons, List.foldl_nil];have ha := a.toNat_lt;have hb := b.toNat_lt;have hc := c.toNat_lt;have hd := d.toNat_lt;have he := e.toNat_lt;have hf := f.toNat_lt;have hg := g.toNat_lt;have hi := i.toNat_lt;omega
def lC (n : Int) : Prop := -9223372036854775808 ≤ n ∧ n ≤ 9223372036854775807
theorem I1 {n : Int} (h : lC n) : kC (n64 n) = n := by unfold kC n64; obtain ⟨h1, h2⟩ := h; omega
theorem I6 {n : Nat} (h : n < 18446744073709551616) : n64 (kC n) = n := by unfold kC n64; omega
theorem zV (n : Int) : n64 n < 18446744073709551616 := by unfold n64; omega
theorem KM {n : Nat} (h : n < 18446744073709551616) : lC (kC n) := by unfold lC kC; omega
theorem xx : ∀ (l r : List UInt8), eG (eo l ++ 0 :: 1 :: r) = some (l, r)
 | [], r => by
  show eG (0 :: 1 :: r) = _
  rw [oo]; (first | done | rfl)
 | b :: l, r => by
  have ih := xx l r
  by_cases hb : b = 0
  ·subst hb
   show eG (0 :: 255 :: (eo l ++ 0 :: 1 :: r)) = _
   rw [oo, if_pos rfl, ih]; (first | done | rfl)
  ·rw [eo, if_neg hb, List.cons_append, tB hb, ih]; (first | done | rfl)
theorem qp : ∀ (n : Nat) (l p r : List UInt8), l.length ≤ n → eG l = some (p, r) → l = eo p ++ 0 :: 1 :: r
 | 0, [], p, r, _, h => by simp [eG] at h
 | 0, _ :: _, p, r, hn, h => by simp at hn
 | n + 1, [], p, r, _, h => by simp [eG] at h
 | n + 1, b :: l, p, r, hn, h => by
  simp only [List.length_cons] at hn
  by_cases hb : b = 0
  ·subst hb
   match l, h, hn with
   | [], h, _ => simp [eG] at h
   | c :: l, h, hn =>
    simp only [List.length_cons] at hn;rw [oo] at h
    split at h
    ·rename_i hc
     subst hc
     cases hu : eG l with
     | none => rw [hu] at h; simp at h
     | some q =>
      obtain ⟨q1, q2⟩ := q;rw [hu] at h;simp only [Option.map_some, Option.some.injEq, Prod.mk.injEq] at h;obtain ⟨rfl, rfl⟩ := h;have := qp n l _ _ (by omega) hu;simp [eo, ← this]
    ·split at h
     ·rename_i hc
      simp only [Option.some.injEq, Prod.mk.injEq] at h;obtain ⟨rfl, rfl⟩ := h;subst hc;simp [eo]
     ·cases h
  ·rw [tB hb] at h
   cases hu : eG l with
   | none => rw [hu] at h; simp at h
   | some q =>
    obtain ⟨q1, q2⟩ := q;rw [hu] at h;simp only [Option.map_some, Option.some.injEq, Prod.mk.injEq] at h;obtain ⟨rfl, rfl⟩ := h;have := qp n l _ _ (by omega) hu;simp [eo, hb, ← this]
theorem uP {v : aK} (h : bD v = true) : v.kind = 0 ∨ v.kind = 1 ∨ v.kind = 2 := by
 unfold bD at h
 split at h
 ·exact .inl ‹_›
 ·split at h
  ·exact .inr (.inl ‹_›)
  ·split at h
   ·exact .inr (.inr ‹_›)
   ·cases h
def ju (v : aK) : Prop := bD v = true ∧ lC v.n
theorem sP {v : aK} (h : ju v) (r : List UInt8) : lQ (bW v ++ r) = some (v, r) := by
 obtain ⟨h, hn⟩ := h;obtain ⟨k, n, s⟩ := v;unfold bD at h;dsimp only at h hn;rcases Decidable.em (k = 0) with hk | hk
 ·subst hk;simp at h;obtain ⟨rfl, rfl⟩ := h;simp [bW, lQ]
 ·rcases Decidable.em (k = 1) with hk1 | hk1
  ·subst hk1;simp at h;subst h;have hl : (fC (n64 n)).length = 8 := rfl;have h2 : (UInt8.ofNat ((1 + (1 : Int)) % 256).toNat) = 2 := rfl;simp only [bW, h2, List.cons_append, lQ, if_true];rw [if_neg (by decide), if_neg (by simp [hl])];rw [List.take_append_of_le_length (by omega), List.drop_append_of_le_length (by omega), List.take_of_length_le (by omega), List.drop_of_length_le (by omega), JB (zV n), I1 hn]
   first | done | rfl
  ·rcases Decidable.em (k = 2) with hk2 | hk2
   ·subst hk2;simp at h;obtain ⟨rfl, h2⟩ := h;have h3 : (UInt8.ofNat ((1 + (2 : Int)) % 256).toNat) = 3 := rfl
    have h4 : bW ⟨2, 0, s⟩ ++ r = 3 :: (eo (kL s) ++ 0 :: 1 :: r) := by
     unfold bW;dsimp only;rw [if_neg (by decide : ¬ (2 : Int) = 1), if_pos rfl, h3];simp
    rw [h4, lQ, if_neg (by decide), if_neg (by decide), if_pos rfl, xx];simp [jE]
   ·rw [if_neg hk, if_neg hk1, if_neg hk2] at h;cases h
theorem AH {l r : List UInt8} {v : aK} (h : lQ l = some (v, r)) : l = bW v ++ r ∧ lC v.n ∧ (v.kind = 0 ∨ v.kind = 1 ∨ v.kind = 2) := by
 match l, h with
 | b :: l, h =>
  rw [lQ] at h
  split at h
  ·rename_i hb
   subst hb;simp only [Option.some.injEq, Prod.mk.injEq] at h;obtain ⟨rfl, rfl⟩ := h;exact ⟨rfl, ⟨by decide, by decide⟩, .inl rfl⟩
  ·split at h
   ·rename_i hb
    subst hb
    split at h
    ·cases h
    ·rename_i hl
     simp only [Option.some.injEq, Prod.mk.injEq] at h;obtain ⟨rfl, rfl⟩ := h
     have h8 : (l.take 8).length = 8 := by rw [List.length_take]; omega
     refine ⟨?_, KM (FT h8), .inr (.inl rfl)⟩;simp only [bW, if_true];rw [I6 (FT h8), Ix h8]
     show (2 : UInt8) :: l = 2 :: (l.take 8 ++ l.drop 8)
     rw [List.take_append_drop]
   ·split at h
    ·rename_i hb
     subst hb
     cases hu : eG l with
     | none => rw [hu] at h; simp at h
     | some q =>
      obtain ⟨q1, q2⟩ := q;rw [hu] at h;simp only [Option.map_some, Option.some.injEq, Prod.mk.injEq] at h;obtain ⟨rfl, rfl⟩ := h;refine ⟨?_, ⟨(by decide : (-9223372036854775808 : Int) ≤ 0), (by decide : (0 : Int) ≤ 9223372036854775807)⟩, .inr (.inr rfl)⟩;have := qp _ l _ _ (Nat.le_refl _) hu;rw [this];unfold bW;dsimp only;rw [if_neg (by decide : ¬ (2 : Int) = 1), if_pos rfl, eY, List.cons_append, List.append_assoc]
      first | done | rfl
    ·cases h
theorem tD (v : aK) : 0 < (bW v).length := by unfold bW; simp
theorem zu {l r : List UInt8} {v : aK} (h : lQ l = some (v, r)) : r.length < l.length := by
 have := (AH h).1;have h2 := tD v;rw [this, List.length_append]; omega
theorem zL : ∀ (f : Nat) (l acc : List aK), (∀ v ∈ l, ju v) → acc.length + l.length ≤ 8 → l.length < f → mI f (l.flatMap bW) acc = some (acc ++ l)
 | 0, l, acc, _, _, h => by omega
 | f + 1, [], acc, _, _, _ => by simp [mI]
 | f + 1, v :: l, acc, h, hl, hf => by
  simp only [List.length_cons] at hl hf
  have hne : (v :: l).flatMap bW ≠ [] := by
   have := tD v;intro e;rw [List.flatMap_cons, List.append_eq_nil_iff] at e;rw [e.1] at this; simp at this
  rw [mI, if_neg hne, if_neg (by omega), List.flatMap_cons, sP (h v (by simp))];simp only [(h v (by simp)).1, if_true];rw [zL f l (acc ++ [v]) (fun x hx => h x (by simp [hx])) (by simp; omega) (by omega)];simp
theorem zw : ∀ (f : Nat) (x : List UInt8) (acc l : List aK), mI f x acc = some l → acc.length ≤ 8 → ∃ m, l = acc ++ m ∧ x = m.flatMap bW ∧ (∀ v ∈ m, ju v) ∧ l.length ≤ 8
 | 0, x, acc, l, h, _ => by simp [mI] at h
 | f + 1, x, acc, l, h, h8 => by
  rw [mI] at h
  split at h
  ·rename_i hx
   simp only [Option.some.injEq] at h;subst h;exact ⟨[], by simp, by simp [hx], by simp, h8⟩
  ·split at h
   ·cases h
   ·rename_i ha
    cases hd : lQ x with
    | none => rw [hd] at h; simp at h
    | some q =>
     obtain ⟨v, r⟩ := q;rw [hd] at h;simp only at h
     split at h
     ·rename_i hv
      obtain ⟨m, e1, e2, e3, e4⟩ := zw f r (acc ++ [v]) l h (by simp; omega);obtain ⟨g1, g2, _⟩ := AH hd;refine ⟨v :: m, by simp [e1], by rw [g1, e2]; simp, ?_, e4⟩;intro y hy;rcases List.mem_cons.1 hy with rfl | hy
      ·exact ⟨hv, g2⟩
      ·exact e3 y hy
     ·cases h
theorem C0 {l : List aK} (h : ∀ v ∈ l, ju v) (h8 : l.length ≤ 8) : fS (kB (l.flatMap bW)) = some l := by
 unfold fS;rw [cE, eY]
 have hlen : ∀ l : List aK, l.length ≤ (l.flatMap bW).length := by
  intro l
  induction l with
  | nil => simp
  | cons v l ih =>
   have := tD v;rw [List.flatMap_cons, List.length_append, List.length_cons]; omega
 rw [zL _ l [] h (by simpa using h8) (by have := hlen l; omega)];simp
theorem j7 {x : BA} {l : List aK} (h : fS x = some l) : x = kB (l.flatMap bW) ∧ (∀ v ∈ l, ju v) ∧ l.length ≤ 8 := by
 obtain ⟨m, e1, e2, e3, e4⟩ := zw _ _ _ _ h (by simp);simp only [List.nil_append] at e1;subst e1;exact ⟨by rw [← e2, jE], e3, e4⟩
theorem Gb {l : List aK} (h : ∀ v ∈ l, bD v = true) : mV l = false := by
 unfold mV;rw [List.any_eq_false];intro v hv;simp [h v hv]
theorem sX {l : List aK} (h : ∀ v ∈ l, bD v = true) (h8 : l.length ≤ 8) : keyOf l = (kB (l.flatMap bW), 0) := by
 unfold keyOf;rw [if_neg (by omega), if_neg (by rw [Gb h]; decide)]
theorem zC : ∀ {l m : List aK} {x y : List UInt8}, (∀ v ∈ l, ju v) → (∀ v ∈ m, ju v) → l.length = m.length → l.flatMap bW ++ x = m.flatMap bW ++ y → l = m ∧ x = y
 | [], [], x, y, _, _, _, h => ⟨rfl, by simpa using h⟩
 | v :: l, w :: m, x, y, h1, h2, hl, h => by
  rw [List.flatMap_cons, List.flatMap_cons, List.append_assoc, List.append_assoc] at h;have e1 := sP (h1 v (by simp)) (l.flatMap bW ++ x);have e2 := sP (h2 w (by simp)) (m.flatMap bW ++ y);rw [h, e2] at e1;simp only [Option.some.injEq, Prod.mk.injEq] at e1;obtain ⟨rfl, e⟩ := e1;obtain ⟨rfl, rfl⟩ := zC (fun v hv => h1 v (by simp [hv])) (fun v hv => h2 v (by simp [hv])) (by simpa using hl) e.symm;exact ⟨rfl, rfl⟩
end
section
variable {W : Type} (π : fX W)
open Fw.W
def Cl (b : OA) (bn bc : Nat) (vk vn : Int) (vs : BA) : W :=
 π.nw (Obj.cells #[(.int .u8 (u8.wrap (i64.wrap ((1 : Int) + vk))))] 5 (0, 0)) fun r0 => π.app 5 1 1 [(.int .u8 0)] b bn bc (Src.sl (some (Addr.mk r0 0 none)) 1) fun a1 n2 c3 => π.ite (vk == 1) (π.loop [(false, [.slice]), (false, [.int .u64]), (false, [.int .i64])] (((a1, n2, c3), ()), (u64.wrap (↑(BitVec.ofInt (64 : Nat) (u64.wrap vn) ^^^ BitVec.ofInt (64 : Nat) (9223372036854775808 : Int)).toNat : Int), ()), ((56 : Int), ()), ()) fun ((((a5 : OA), (n6 : Nat), (c7 : Nat)), _), ((x8 : Int), _), ((x9 : Int), _), _) again4 => π.ite (decide (x9 ≥ 0)) (π.guard (0 ≤ x9) <| π.nw (Obj.cells #[(.int .u8 (u8.wrap (if false = true then u64.wrap (x8 * 2 ^ min x9.toNat (64 : Nat)) else x8.fdiv ((2 : Int) ^ min x9.toNat (64 : Nat)))))] 5 (0, 0)) fun r10 => π.app 5 1 1 [(.int .u8 0)] a5 n6 c7 (Src.sl (some (Addr.mk r10 0 none)) 1) fun a11 n12 c13 => again4 (((a11, n12, c13), ()), (x8, ()), (i64.wrap (x9 - 8), ()), ())) (π.ret (.slice a5 n6 c7))) (π.ite (vk == 2) (π.loop [(false, [.slice]), (true, [.int .i64, .int .i64, .str]), (false, [.int .i64]), (false, [.int .i64])] (((a1, n2, c3), ()), (vk, vn, vs, ()), ((↑vs.size : Int), ()), ((0 : Int), ()), ()) fun ((((a15 : OA), (n16 : Nat), (c17 : Nat)), _), ((x18 : Int), (x19 : Int), (t20 : BA), _), ((x21 : Int), _), ((x22 : Int), _), _) again14 => π.ite (decide (x22 < x21)) (π.guard (0 ≤ x22 ∧ x22 < (↑t20.size : Int)) <| π.nw (Obj.cells #[(.int .u8 ((↑(t20[x22.toNat]?.getD 0).toNat : Int)))] 5 (0, 0)) fun r23 =>
 π.app 5 1 1 [(.int .u8 0)] a15 n16 c17 (Src.sl (some (Addr.mk r23 0 none)) 1) fun a24 n25 c26 => π.guard (0 ≤ x22 ∧ x22 < (↑t20.size : Int)) <| π.ite ((↑(t20[x22.toNat]?.getD 0).toNat : Int) == 0) (π.nw (Obj.cells #[(.int .u8 255)] 5 (0, 0)) fun r27 => π.app 5 1 1 [(.int .u8 0)] a24 n25 c26 (Src.sl (some (Addr.mk r27 0 none)) 1) fun a28 n29 c30 => again14 (((a28, n29, c30), ()), (x18, x19, t20, ()), (x21, ()), (i64.wrap (x22 + 1), ()), ())) (again14 (((a24, n25, c26), ()), (x18, x19, t20, ()), (x21, ()), (i64.wrap (x22 + 1), ()), ()))) (π.nw (Obj.cells #[(.int .u8 0), (.int .u8 1)] 5 (0, 0)) fun r31 => π.app 5 1 1 [(.int .u8 0)] a15 n16 c17 (Src.sl (some (Addr.mk r31 0 none)) 2) fun a32 n33 c34 => π.ret (.slice a32 n33 c34))) (π.ret (.slice a1 n2 c3)))
theorem Jb (b : OA) (bn bc : Nat) (vk vn : Int) (vs : BA) : OK 255 [.v (.slice b bn bc), .v (.agg #[.int .i64 vk, .int .i64 vn, .string vs])] fun _ π => Cl π b bn bc vk vn vs :=
 aW { ptr := [(3, 3, 0), (9, 3, 0), (15, 3, 0), (19, 3, 1), (36, 3, 2), (43, 3, 2), (49, 3, 2)], ty := [(3, 28)] } { loop := [(11, [(0, 185), (3, 28), (38, 3), (39, 3)]), (6, [(0, 185), (5, 213), (6, 3)])] } [0] Tryz.func255 Tryz.ntmps255 rfl (by kernel_rfl) fun _ π => by kernel_rfl
def uX (a : OA) (an ac : Nat) : W :=
 π.ite (decide ((↑an : Int) > 8)) (π.ret (.tuple #[(.string ⟨#[]⟩), (.int .i64 21)])) (π.loop [(false, [.slice]), (false, [.slice]), (false, [.int .i64]), (false, [.int .i64])] (((none, (0 : Nat), (0 : Nat)), ()), ((a, an, ac), ()), ((↑an : Int), ()), ((0 : Int), ()), ()) fun ((((a1 : OA), (n2 : Nat), (c3 : Nat)), _), (((a4 : OA), (n5 : Nat), (c6 : Nat)), _), ((x7 : Int), _), ((x8 : Int), _), _) again0 => π.ite (decide (x8 < x7)) (π.guard (0 ≤ x8 ∧ x8 < (↑n5 : Int)) <| π.aa a4 fun p9 => π.ld [.int .i64, .int .i64, .str] (p9.add (x8.toNat * 3)) fun ((x10 : Int), (x11 : Int), (t12 : BA), _) => π.call 199 #[(.agg #[(.int .i64 x10), (.int .i64 x11), (.string t12)])] (false, [(false, [.int .i64])]) fun (((x13 : Int), _), _) => π.ite (x13 != 0) (π.ret (.tuple #[(.string ⟨#[]⟩), (.int .i64 x13)])) (π.call 255 #[(.slice a1 n2 c3), (.agg #[(.int .i64 x10), (.int .i64 x11), (.string t12)])] (false, [(false, [.slice])]) fun ((((a14 : OA), (n15 : Nat), (c16 : Nat)), _), _) => again0 (((a14, n15, c16), ()), ((a4, n5, c6), ()), (x7, ()), (i64.wrap (x8 + 1), ()), ()))) (π.jX a1 n2 fun t17 => π.ret (.tuple #[(.string t17), (.int .i64 0)])))
theorem Dl (a : OA) (an ac : Nat) : OK 216 [.v (.slice a an ac)] fun _ π => uX π a an ac :=
 aW { ptr := [(6, 6, 0)], ty := [(6, 28)] } { loop := [(5, [(4, 185), (11, 125), (12, 3), (13, 3)])] } [] Tryz.func216 Tryz.ntmps216 rfl (by kernel_rfl) fun _ π => by kernel_rfl
def AU (r : Nat) : W :=
 π.ret (.tuple #[(.agg #[(.int .i64 0), (.int .i64 0), (.string ⟨#[]⟩)]), (.bool true)])
theorem G9 (r : Nat) : OK 251 [.v (.pointer (some ⟨r, 0, none⟩))] fun _ π => AU π r :=
 aW { ptr := [(2, 2, 0)], ty := [(2, 28)] } {} [] Tryz.func251 Tryz.ntmps251 rfl (by kernel_rfl) fun _ π => by kernel_rfl
def uY (r : Nat) : W :=
 π.aa (some (Addr.mk r 0 none)) fun p0 => π.ld [.str] (p0.add 0) fun ((t1 : BA), _) => π.ite (decide ((↑t1.size : Int) < 8)) (π.ret (.tuple #[(.agg #[(.int .i64 0), (.int .i64 0), (.string ⟨#[]⟩)]), (.bool false)])) (π.loop [(true, [.int .i64, .int .i64, .str]), (false, [.int .u64]), (false, [.int .i64])] (((0 : Int), (0 : Int), ByteArray.mk #[], ()), ((0 : Int), ()), ((0 : Int), ()), ()) fun (((x3 : Int), (x4 : Int), (t5 : BA), _), ((x6 : Int), _), ((x7 : Int), _), _) again2 => π.ite (decide (x7 < 8)) (π.aa (some (Addr.mk r 0 none)) fun p8 => π.ld [.str] (p8.add 0) fun ((t9 : BA), _) => π.guard (0 ≤ x7 ∧ x7 < (↑t9.size : Int)) <| again2 ((x3, x4, t5, ()), (u64.wrap (↑(BitVec.ofInt (64 : Nat) (u64.wrap (x6 * 256)) ||| BitVec.ofInt (64 : Nat) (u64.wrap (↑(t9[x7.toNat]?.getD 0).toNat : Int))).toNat : Int), ()), (i64.wrap (x7 + 1), ()), ())) (π.aa (some (Addr.mk r 0 none)) fun p10 => π.ld [.str] (p10.add 0) fun ((t11 : BA), _) => π.guard ((0 : Int) ≤ 8 ∧ 8 ≤ (↑t11.size : Int) ∧ (↑t11.size : Int) ≤ (↑t11.size : Int)) <| π.aa (some (Addr.mk r 0 none)) fun p12 => π.st (p12.add 0) [(.string (t11.extract (8 : Nat) (↑t11.size : Int).toNat))] <| π.ret (.tuple #[(.agg #[(.int .i64 1), (.int .i64 (i64.wrap (u64.wrap (↑(BitVec.ofInt (64 : Nat) x6 ^^^ BitVec.ofInt (64 : Nat) (9223372036854775808 : Int)).toNat : Int)))), (.string ⟨#[]⟩)]), (.bool true)])))
theorem Dm (r : Nat) : OK 252 [.v (.pointer (some ⟨r, 0, none⟩))] fun _ π => uY π r :=
 aW { ptr := [(2, 2, 0)], ty := [(2, 28)] } { loop := [(5, [(2, 28), (4, 213), (13, 3)])] } [] Tryz.func252 Tryz.ntmps252 rfl (by kernel_rfl) fun _ π => by kernel_rfl
def AW (r : Nat) : W :=
 π.loop [(true, [.int .i64, .int .i64, .str]), (false, [.slice]), (false, [.int .i64])] (((0 : Int), (0 : Int), ByteArray.mk #[], ()), ((none, (0 : Nat), (0 : Nat)), ()), ((0 : Int), ()), ()) fun (((x1 : Int), (x2 : Int), (t3 : BA), _), (((a4 : OA), (n5 : Nat), (c6 : Nat)), _), ((x7 : Int), _), _) again0 => π.aa (some (Addr.mk r 0 none)) fun p8 => π.ld [.str] (p8.add 0) fun ((t9 : BA), _) => π.ite (decide (x7 < (↑t9.size : Int))) (π.aa (some (Addr.mk r 0 none)) fun p10 => π.ld [.str] (p10.add 0) fun ((t11 : BA), _) => π.guard (0 ≤ x7 ∧ x7 < (↑t11.size : Int)) <| π.ite ((↑(t11[x7.toNat]?.getD 0).toNat : Int) != 0) (π.aa (some (Addr.mk r 0 none)) fun p12 => π.ld [.str] (p12.add 0) fun ((t13 : BA), _) => π.guard (0 ≤ x7 ∧ x7 < (↑t13.size : Int)) <| π.nw (Obj.cells #[(.int .u8 ((↑(t13[x7.toNat]?.getD 0).toNat : Int)))] 5 (0, 0)) fun r14 => π.app 5 1 1 [(.int .u8 0)] a4 n5 c6 (Src.sl (some (Addr.mk r14 0 none)) 1) fun a15 n16 c17 => again0 ((x1, x2, t3, ()), ((a15, n16, c17), ()), (i64.wrap (x7 + 1), ()), ())) (π.join [(true, [.int .i64, .int .i64, .str]), (false, [.slice]), (false, [.int .i64]), (false, [.bool])] (fun J18 => π.aa (some (Addr.mk r 0 none)) fun p19 => π.ld [.str] (p19.add 0) fun ((t20 : BA), _) => π.ite (decide (i64.wrap (x7 + 1) < (↑t20.size : Int))) (π.aa (some (Addr.mk r 0 none)) fun p21 => π.ld [.str] (p21.add 0) fun ((t22 : BA), _) => π.guard (0 ≤ i64.wrap (x7 + 1) ∧ i64.wrap (x7 + 1) < (↑t22.size : Int)) <| J18 ((x1, x2, t3, ()), ((a4, n5, c6), ()), (i64.wrap (x7 + 1), ()), ((↑(t22[(i64.wrap (x7 + 1)).toNat]?.getD 0).toNat : Int) == 255, ()), ())) (J18 ((x1, x2, t3, ()), ((a4, n5, c6), ()), (i64.wrap (x7 + 1), ()), (false, ()), ()))) (fun (((x23 : Int), (x24 : Int), (t25 : BA), _), (((a26 : OA), (n27 : Nat), (c28 : Nat)), _), ((x29 : Int), _), ((b30 : Bool), _), _) =>
 π.ite b30 (π.nw (Obj.cells #[(.int .u8 0)] 5 (0, 0)) fun r31 => π.app 5 1 1 [(.int .u8 0)] a26 n27 c28 (Src.sl (some (Addr.mk r31 0 none)) 1) fun a32 n33 c34 => again0 ((x23, x24, t25, ()), ((a32, n33, c34), ()), (i64.wrap (x29 + 1), ()), ())) (π.aa (some (Addr.mk r 0 none)) fun p35 => π.ld [.str] (p35.add 0) fun ((t36 : BA), _) => π.ite (decide (x29 < (↑t36.size : Int))) (π.aa (some (Addr.mk r 0 none)) fun p37 => π.ld [.str] (p37.add 0) fun ((t38 : BA), _) => π.guard (0 ≤ x29 ∧ x29 < (↑t38.size : Int)) <| π.ite ((↑(t38[x29.toNat]?.getD 0).toNat : Int) == 1) (π.aa (some (Addr.mk r 0 none)) fun p39 => π.ld [.str] (p39.add 0) fun ((t40 : BA), _) => π.guard (0 ≤ i64.wrap (x29 + 1) ∧ i64.wrap (x29 + 1) ≤ (↑t40.size : Int) ∧ (↑t40.size : Int) ≤ (↑t40.size : Int)) <| π.aa (some (Addr.mk r 0 none)) fun p41 => π.st (p41.add 0) [(.string (t40.extract (i64.wrap (x29 + 1)).toNat (↑t40.size : Int).toNat))] <| π.jX a26 n27 fun t42 => π.ret (.tuple #[(.agg #[(.int .i64 2), (.int .i64 0), (.string t42)]), (.bool true)])) (π.ret (.tuple #[(.agg #[(.int .i64 0), (.int .i64 0), (.string ⟨#[]⟩)]), (.bool false)]))) (π.ret (.tuple #[(.agg #[(.int .i64 0), (.int .i64 0), (.string ⟨#[]⟩)]), (.bool false)])))))) (π.ret (.tuple #[(.agg #[(.int .i64 0), (.int .i64 0), (.string ⟨#[]⟩)]), (.bool false)]))
theorem He (r : Nat) : OK 253 [.v (.pointer (some ⟨r, 0, none⟩))] fun _ π => AW π r :=
 aW { ptr := [(2, 2, 0)], ty := [(2, 28)] } { join := [(10, [(2, 28), (4, 185), (5, 3), (34, 4)])], loop := [(3, [(2, 28), (4, 185), (5, 3)])] } [] Tryz.func253 Tryz.ntmps253 rfl (by kernel_rfl) fun _ π => by kernel_rfl
def uW (x : BA) : W :=
 π.nw (Obj.cells #[(.string x)] 339 (0, 0)) fun r0 => π.nw (Obj.cells #[(Value.nilFunc), (Value.nilFunc), (Value.nilFunc)] 341 (0, 0)) fun r1 => π.st (Addr.mk r1 0 none) [(.func (Fn.func 251) #[(.pointer (some (Addr.mk r0 0 none)))] #[]), (.func (Fn.func 252) #[(.pointer (some (Addr.mk r0 0 none)))] #[]), (.func (Fn.func 253) #[(.pointer (some (Addr.mk r0 0 none)))] #[])] <| π.loop [(false, [.ptr]), (false, [.addr]), (false, [.slice])] ((some (Addr.mk r0 0 none), ()), (Addr.mk r1 0 none, ()), ((none, (0 : Nat), (0 : Nat)), ()), ()) fun ((p3, _), (p4, _), (((a5 : OA), (n6 : Nat), (c7 : Nat)), _), _) again2 => π.aa p3 fun p8 => π.ld [.str] (p8.add 0) fun ((t9 : BA), _) => π.ite (decide ((↑t9.size : Int) > 0)) (π.aa p3 fun p10 => π.ld [.str] (p10.add 0) fun ((t11 : BA), _) => π.guard ((0 : Int) ≤ 0 ∧ 0 < (↑t11.size : Int)) <| π.aa p3 fun p12 => π.ld [.str] (p12.add 0) fun ((t13 : BA), _) => π.guard ((0 : Int) ≤ 1 ∧ 1 ≤ (↑t13.size : Int) ∧ (↑t13.size : Int) ≤ (↑t13.size : Int)) <| π.aa p3 fun p14 => π.st (p14.add 0) [(.string (t13.extract (1 : Nat) (↑t13.size : Int).toNat))] <| π.join [(false, [.ptr]), (false, [.addr]), (false, [.slice]), (false, [.int .i64])] (fun J15 => π.ite (decide (i64.wrap (i64.wrap (↑(t11[(0 : Nat)]?.getD 0).toNat : Int) - 1) < 0)) (π.ret (.tuple #[(.slice none 0 0), (.int .i64 20)])) (π.ite (decide (i64.wrap (i64.wrap (↑(t11[(0 : Nat)]?.getD 0).toNat : Int) - 1) ≥ 3)) (π.ret (.tuple #[(.slice none 0 0), (.int .i64 20)])) (π.ite ((↑n6 : Int) == 8) (π.ret (.tuple #[(.slice none 0 0), (.int .i64 20)])) (J15 ((p3, ()), (p4, ()), ((a5, n6, c7), ()), (i64.wrap (i64.wrap (↑(t11[(0 : Nat)]?.getD 0).toNat : Int) - 1), ()), ()))))) (fun ((p16, _), (p17, _), (((a18 : OA), (n19 : Nat), (c20 : Nat)), _), ((x21 : Int), _), _) =>
 π.guard (0 ≤ x21 ∧ x21 < 3) <| π.ld [.raw] (p17.add (x21.toNat * 1)) fun ((v22 : Value), _) => π.dR v22 #[] (true, [(true, [.int .i64, .int .i64, .str]), (false, [.bool])]) fun (((x23 : Int), (x24 : Int), (t25 : BA), _), ((b26 : Bool), _), _) => π.ite (!b26) (π.ret (.tuple #[(.slice none 0 0), (.int .i64 20)])) (π.call 199 #[(.agg #[(.int .i64 x23), (.int .i64 x24), (.string t25)])] (false, [(false, [.int .i64])]) fun (((x27 : Int), _), _) => π.ite (x27 != 0) (π.ret (.tuple #[(.slice none 0 0), (.int .i64 20)])) (π.nw (Obj.cells #[(.int .i64 x23), (.int .i64 x24), (.string t25)] 28 (0, 0)) fun r28 => π.app 28 3 32 [(.int .i64 0), (.int .i64 0), (.string ⟨#[]⟩)] a18 n19 c20 (Src.sl (some (Addr.mk r28 0 none)) 1) fun a29 n30 c31 => again2 ((p16, ()), (p17, ()), ((a29, n30, c31), ()), ()))))) (π.ret (.tuple #[(.slice a5 n6 c7), (.int .i64 0)]))
theorem Dk (x : BA) : OK 212 [.v (.string x)] fun _ π => uW π x :=
 aW { ptr := [(8, 8, 0)], ty := [(8, 28)] } { join := [(9, [(4, 337), (5, 1000000), (6, 125), (7, 3)])], loop := [(4, [(4, 337), (5, 1000000), (6, 125)])] } [] Tryz.func212 Tryz.ntmps212 rfl (by kernel_rfl) fun _ π => by kernel_rfl
def xF (x : BA) : W :=
 π.guard ((↑(x.size + (1 : Nat)) : Int) ≤ 9223372036854775807) <| π.ret (.agg #[(.string x), (.string (x ++ ByteArray.mk #[(255 : UInt8)]))])
theorem E6 (x : BA) : OK 207 [.v (.string x)] fun _ π => xF π x :=
 aW { ptr := [(2, 2, 0)], ty := [(2, 129)] } {} [] Tryz.func207 Tryz.ntmps207 rfl (by kernel_rfl) fun _ π => by kernel_rfl
def Cu (a : OA) (an ac : Nat) : W :=
 π.call 216 #[(.slice a an ac)] (true, [(false, [.str]), (false, [.int .i64])]) fun (((t0 : BA), _), ((x1 : Int), _), _) => π.ret (.string t0)
theorem Jk (a : OA) (an ac : Nat) : OK 208 [.v (.slice a an ac)] fun _ π => Cu π a an ac :=
 aW {} {} [] Tryz.func208 Tryz.ntmps208 rfl (by kernel_rfl) fun _ π => by kernel_rfl
def Cv (n : Int) : W :=
 π.ret (.agg #[(.int .i64 1), (.int .i64 n), (.string ⟨#[]⟩)])
theorem Jl (n : Int) : OK 209 [.v (.int .i64 n)] fun _ π => Cv π n :=
 aW { ptr := [(2, 2, 0)], ty := [(2, 28)] } {} [] Tryz.func209 Tryz.ntmps209 rfl (by kernel_rfl) fun _ π => by kernel_rfl
def Ct (t : Int) (vk vn : Int) (vs : BA) : W :=
 π.cy 209 #[(.int .i64 0)] (false, [(true, [.int .i64, .int .i64, .str])]) fun (((x0 : Int), (x1 : Int), (t2 : BA), _), _) => π.cy 209 #[(.int .i64 t)] (false, [(true, [.int .i64, .int .i64, .str])]) fun (((x3 : Int), (x4 : Int), (t5 : BA), _), _) => π.nw (Obj.cells #[(.int .i64 x0), (.int .i64 x1), (.string t2), (.int .i64 x3), (.int .i64 x4), (.string t5), (.int .i64 vk), (.int .i64 vn), (.string vs)] 28 (0, 0)) fun r6 => π.call 208 #[(.slice (some (Addr.mk r6 0 none)) 3 3)] (false, [(false, [.str])]) fun (((t7 : BA), _), _) => π.ret (.string t7)
theorem Jj (t : Int) (vk vn : Int) (vs : BA) : OK 162 [.v (.int .i64 t), .v (.agg #[.int .i64 vk, .int .i64 vn, .string vs])] fun _ π => Ct π t vk vn vs :=
 aW { ptr := [(3, 3, 0)], ty := [(3, 28)] } { draws := [(1, { A := [0, 1, 2, 3], quiet := [0, 2], eag := [6] })],  } [] Tryz.func162 Tryz.ntmps162 rfl (by kernel_rfl) fun _ π => by kernel_rfl
def xT (t : Int) : W :=
 π.call 209 #[(.int .i64 0)] (false, [(true, [.int .i64, .int .i64, .str])]) fun (((x0 : Int), (x1 : Int), (t2 : BA), _), _) => π.call 209 #[(.int .i64 t)] (false, [(true, [.int .i64, .int .i64, .str])]) fun (((x3 : Int), (x4 : Int), (t5 : BA), _), _) => π.nw (Obj.cells #[(.int .i64 x0), (.int .i64 x1), (.string t2), (.int .i64 x3), (.int .i64 x4), (.string t5)] 28 (0, 0)) fun r6 => π.call 208 #[(.slice (some (Addr.mk r6 0 none)) 2 2)] (false, [(false, [.str])]) fun (((t7 : BA), _), _) => π.call 207 #[(.string t7)] (false, [(true, [.str, .str])]) fun (((t8 : BA), (t9 : BA), _), _) => π.ret (.agg #[(.string t8), (.string t9)])
theorem Fl (t : Int) : OK 210 [.v (.int .i64 t)] fun _ π => xT π t :=
 aW { ptr := [(2, 2, 0)], ty := [(2, 129)] } {} [] Tryz.func210 Tryz.ntmps210 rfl (by kernel_rfl) fun _ π => by kernel_rfl
def xR (t : Int) (vk vn : Int) (vs : BA) (wk wn : Int) (ws : BA) : W :=
 π.cy 209 #[(.int .i64 1)] (false, [(true, [.int .i64, .int .i64, .str])]) fun (((x0 : Int), (x1 : Int), (t2 : BA), _), _) => π.cy 209 #[(.int .i64 t)] (false, [(true, [.int .i64, .int .i64, .str])]) fun (((x3 : Int), (x4 : Int), (t5 : BA), _), _) => π.nw (Obj.cells #[(.int .i64 x0), (.int .i64 x1), (.string t2), (.int .i64 x3), (.int .i64 x4), (.string t5), (.int .i64 vk), (.int .i64 vn), (.string vs), (.int .i64 wk), (.int .i64 wn), (.string ws)] 28 (0, 0)) fun r6 => π.call 208 #[(.slice (some (Addr.mk r6 0 none)) 4 4)] (false, [(false, [.str])]) fun (((t7 : BA), _), _) => π.ret (.string t7)
theorem Fj (t : Int) (vk vn : Int) (vs : BA) (wk wn : Int) (ws : BA) : OK 154 [.v (.int .i64 t), .v (.agg #[.int .i64 vk, .int .i64 vn, .string vs]), .v (.agg #[.int .i64 wk, .int .i64 wn, .string ws])] fun _ π => xR π t vk vn vs wk wn ws :=
 aW { ptr := [(4, 4, 0), (5, 5, 0)], ty := [(4, 28), (5, 28)] } { draws := [(1, { A := [0, 1, 2, 3, 4], quiet := [0, 2], eag := [7] })],  } [] Tryz.func154 Tryz.ntmps154 rfl (by kernel_rfl) fun _ π => by kernel_rfl
def xS (t : Int) (vk vn : Int) (vs : BA) : W :=
 π.cy 209 #[(.int .i64 1)] (false, [(true, [.int .i64, .int .i64, .str])]) fun (((x0 : Int), (x1 : Int), (t2 : BA), _), _) => π.cy 209 #[(.int .i64 t)] (false, [(true, [.int .i64, .int .i64, .str])]) fun (((x3 : Int), (x4 : Int), (t5 : BA), _), _) => π.nw (Obj.cells #[(.int .i64 x0), (.int .i64 x1), (.string t2), (.int .i64 x3), (.int .i64 x4), (.string t5), (.int .i64 vk), (.int .i64 vn), (.string vs)] 28 (0, 0)) fun r6 => π.call 208 #[(.slice (some (Addr.mk r6 0 none)) 3 3)] (false, [(false, [.str])]) fun (((t7 : BA), _), _) => π.call 207 #[(.string t7)] (false, [(true, [.str, .str])]) fun (((t8 : BA), (t9 : BA), _), _) => π.ret (.agg #[(.string t8), (.string t9)])
theorem Fk (t : Int) (vk vn : Int) (vs : BA) : OK 153 [.v (.int .i64 t), .v (.agg #[.int .i64 vk, .int .i64 vn, .string vs])] fun _ π => xS π t vk vn vs :=
 aW { ptr := [(3, 3, 0), (4, 4, 0)], ty := [(3, 28), (4, 129)] } { draws := [(1, { A := [0, 1, 2, 3], quiet := [0, 2, 6] })],  } [] Tryz.func153 Tryz.ntmps153 rfl (by kernel_rfl) fun _ π => by kernel_rfl
def Cr (x : BA) : W :=
 π.call 212 #[(.string x)] (true, [(false, [.slice]), (false, [.int .i64])]) fun ((((a0 : OA), (n1 : Nat), (c2 : Nat)), _), ((x3 : Int), _), _) => π.ite (x3 != 0) (π.ret (.tuple #[(.agg #[(.int .i64 0), (.int .i64 0), (.string ⟨#[]⟩)]), (.int .i64 20)])) (π.ite ((↑n1 : Int) == 0) (π.ret (.tuple #[(.agg #[(.int .i64 0), (.int .i64 0), (.string ⟨#[]⟩)]), (.int .i64 20)])) (π.guard (0 ≤ i64.wrap ((↑n1 : Int) - 1) ∧ i64.wrap ((↑n1 : Int) - 1) < (↑n1 : Int)) <| π.aa a0 fun p4 => π.ld [.int .i64, .int .i64, .str] (p4.add ((i64.wrap ((↑n1 : Int) - 1)).toNat * 3)) fun ((x5 : Int), (x6 : Int), (t7 : BA), _) => π.ret (.tuple #[(.agg #[(.int .i64 x5), (.int .i64 x6), (.string t7)]), (.int .i64 0)])))
theorem Jh (x : BA) : OK 150 [.v (.string x)] fun _ π => Cr π x :=
 aW { ptr := [(2, 2, 0)], ty := [(2, 28)] } {} [] Tryz.func150 Tryz.ntmps150 rfl (by kernel_rfl) fun _ π => by kernel_rfl
def Cs (a : OA) (an ac : Nat) : W :=
 π.loop [(false, [.str]), (false, [.int .i64]), (false, [.slice]), (false, [.int .i64]), (false, [.int .i64])] ((ByteArray.mk #[], ()), ((0 : Int), ()), ((a, an, ac), ()), ((↑an : Int), ()), ((0 : Int), ()), ()) fun (((t1 : BA), _), ((x2 : Int), _), (((a3 : OA), (n4 : Nat), (c5 : Nat)), _), ((x6 : Int), _), ((x7 : Int), _), _) again0 => π.ite (decide (x7 < x6)) (π.guard (0 ≤ x7 ∧ x7 < (↑n4 : Int)) <| π.aa a3 fun p8 => π.ld [.int .i64, .int .i64, .int .i64, .str] (p8.add (x7.toNat * 4)) fun ((x9 : Int), (x10 : Int), (x11 : Int), (t12 : BA), _) => π.cy 209 #[(.int .i64 x9)] (false, [(true, [.int .i64, .int .i64, .str])]) fun (((x13 : Int), (x14 : Int), (t15 : BA), _), _) => π.nw (Obj.cells #[(.int .i64 x13), (.int .i64 x14), (.string t15), (.int .i64 x10), (.int .i64 x11), (.string t12)] 28 (0, 0)) fun r16 => π.call 216 #[(.slice (some (Addr.mk r16 0 none)) 2 2)] (true, [(false, [.str]), (false, [.int .i64])]) fun (((t17 : BA), _), ((x18 : Int), _), _) => π.ite (x18 != 0) (π.ret (.tuple #[(.string ⟨#[]⟩), (.int .i64 100)])) (π.ite (decide (x9 ≤ x2)) (π.ret (.tuple #[(.string ⟨#[]⟩), (.int .i64 100)])) (π.nw (Obj.cells #[(.int .u8 (u8.wrap (↑t17.size : Int)))] 5 (0, 0)) fun r19 => π.jX (some (Addr.mk r19 0 none)) ((1 : Nat)) fun t20 => π.guard ((↑(t20.size + t17.size) : Int) ≤ 9223372036854775807) <| π.guard ((↑(t1.size + (t20 ++ t17).size) : Int) ≤ 9223372036854775807) <| again0 ((t1 ++ (t20 ++ t17), ()), (x9, ()), ((a3, n4, c5), ()), (x6, ()), (i64.wrap (x7 + 1), ()), ())))) (π.ret (.tuple #[(.string t1), (.int .i64 0)]))
theorem Ji (a : OA) (an ac : Nat) : OK 158 [.v (.slice a an ac)] fun _ π => Cs π a an ac :=
 aW { ptr := [(7, 7, 0), (17, 7, 0), (20, 7, 1), (29, 7, 0), (34, 7, 0)], ty := [(7, 94)] } { draws := [(5, { A := [0, 1, 2, 3, 4], quiet := [2], eag := [7, 8, 9, 10, 11] })], loop := [(3, [(4, 9), (5, 3), (10, 95), (11, 3), (12, 3)])] } [] Tryz.func158 Tryz.ntmps158 rfl (by kernel_rfl) fun _ π => by kernel_rfl
def Cq (x : BA) : W :=
 π.loop [(false, [.slice]), (false, [.str])] (((none, (0 : Nat), (0 : Nat)), ()), (x, ()), ()) fun ((((a1 : OA), (n2 : Nat), (c3 : Nat)), _), ((t4 : BA), _), _) again0 => π.ite (decide ((↑t4.size : Int) > 0)) (π.guard ((0 : Int) ≤ 0 ∧ 0 < (↑t4.size : Int)) <| π.ite (decide (i64.wrap (↑(t4[(0 : Nat)]?.getD 0).toNat : Int) ≥ (↑t4.size : Int))) (π.ret (.tuple #[(.slice none 0 0), (.int .i64 100)])) (π.guard ((0 : Int) ≤ 1 ∧ 1 ≤ i64.wrap ((1 : Int) + i64.wrap (↑(t4[(0 : Nat)]?.getD 0).toNat : Int)) ∧ i64.wrap ((1 : Int) + i64.wrap (↑(t4[(0 : Nat)]?.getD 0).toNat : Int)) ≤ (↑t4.size : Int)) <| π.call 212 #[(.string (t4.extract (1 : Nat) (i64.wrap ((1 : Int) + i64.wrap (↑(t4[(0 : Nat)]?.getD 0).toNat : Int))).toNat))] (true, [(false, [.slice]), (false, [.int .i64])]) fun ((((a5 : OA), (n6 : Nat), (c7 : Nat)), _), ((x8 : Int), _), _) => π.join [(false, [.slice]), (false, [.str]), (false, [.int .i64]), (false, [.slice])] (fun J9 => π.ite (x8 != 0) (π.ret (.tuple #[(.slice none 0 0), (.int .i64 100)])) (π.ite ((↑n6 : Int) != 2) (π.ret (.tuple #[(.slice none 0 0), (.int .i64 100)])) (J9 (((a1, n2, c3), ()), (t4, ()), (i64.wrap (↑(t4[(0 : Nat)]?.getD 0).toNat : Int), ()), ((a5, n6, c7), ()), ())))) (fun ((((a10 : OA), (n11 : Nat), (c12 : Nat)), _), ((t13 : BA), _), ((x14 : Int), _), (((a15 : OA), (n16 : Nat), (c17 : Nat)), _), _) => π.guard ((0 : Int) ≤ 0 ∧ 0 < (↑n16 : Int)) <| π.aa a15 fun p18 =>
 π.ld [.int .i64] ((p18.add 0).add 1) fun ((x19 : Int), _) => π.guard ((0 : Int) ≤ 1 ∧ 1 < (↑n16 : Int)) <| π.aa a15 fun p20 => π.ld [.int .i64, .int .i64, .str] (p20.add 3) fun ((x21 : Int), (x22 : Int), (t23 : BA), _) => π.nw (Obj.cells #[(.int .i64 x19), (.int .i64 x21), (.int .i64 x22), (.string t23)] 94 (0, 0)) fun r24 => π.app 94 4 40 [(.int .i64 0), (.int .i64 0), (.int .i64 0), (.string ⟨#[]⟩)] a10 n11 c12 (Src.sl (some (Addr.mk r24 0 none)) 1) fun a25 n26 c27 => π.guard (0 ≤ i64.wrap ((1 : Int) + x14) ∧ i64.wrap ((1 : Int) + x14) ≤ (↑t13.size : Int) ∧ (↑t13.size : Int) ≤ (↑t13.size : Int)) <| again0 (((a25, n26, c27), ()), (t13.extract (i64.wrap ((1 : Int) + x14)).toNat (↑t13.size : Int).toNat, ()), ())))) (π.call 158 #[(.slice a1 n2 c3)] (true, [(false, [.str]), (false, [.int .i64])]) fun (((t28 : BA), _), ((x29 : Int), _), _) => π.ite (x29 != 0) (π.ret (.tuple #[(.slice none 0 0), (.int .i64 100)])) (π.ite (!t28.toList == x.toList) (π.ret (.tuple #[(.slice none 0 0), (.int .i64 100)])) (π.ret (.tuple #[(.slice a1 n2 c3), (.int .i64 0)]))))
theorem Jg (x : BA) : OK 211 [.v (.string x)] fun _ π => Cq π x :=
 aW {} { draws := [(10, { A := [0, 1, 2, 3, 4, 5, 6, 7, 8] })], join := [(10, [(4, 95), (5, 9), (6, 3), (7, 125)])], loop := [(3, [(4, 95), (5, 9)])] } [] Tryz.func211 Tryz.ntmps211 rfl (by kernel_rfl) fun _ π => by kernel_rfl
def FY (a : OA) (an ac : Nat) (i : Int) : W :=
 π.loop [(true, [.int .i64, .int .i64, .str]), (false, [.slice]), (false, [.int .i64]), (false, [.int .i64])] (((0 : Int), (0 : Int), ByteArray.mk #[], ()), ((a, an, ac), ()), ((↑an : Int), ()), ((0 : Int), ()), ()) fun (((x1 : Int), (x2 : Int), (t3 : BA), _), (((a4 : OA), (n5 : Nat), (c6 : Nat)), _), ((x7 : Int), _), ((x8 : Int), _), _) again0 => π.ite (decide (x8 < x7)) (π.guard (0 ≤ x8 ∧ x8 < (↑n5 : Int)) <| π.aa a4 fun p9 => π.ld [.int .i64, .int .i64, .int .i64, .str] (p9.add (x8.toNat * 4)) fun ((x10 : Int), (x11 : Int), (x12 : Int), (t13 : BA), _) => π.ite (x10 == i) (π.ret (.agg #[(.int .i64 x11), (.int .i64 x12), (.string t13)])) (again0 ((x1, x2, t3, ()), ((a4, n5, c6), ()), (x7, ()), (i64.wrap (x8 + 1), ()), ()))) (π.ret (.agg #[(.int .i64 0), (.int .i64 0), (.string ⟨#[]⟩)]))
theorem Ks (a : OA) (an ac : Nat) (i : Int) : OK 127 [.v (.slice a an ac), .v (.int .i64 i)] fun _ π => FY π a an ac i :=
 aW { ptr := [(4, 4, 0), (6, 6, 0), (13, 6, 0), (17, 6, 1)], ty := [(4, 28), (6, 94)] } { loop := [(2, [(4, 28), (7, 95), (8, 3), (9, 3)])] } [] Tryz.func127 Tryz.ntmps127 rfl (by kernel_rfl) fun _ π => by kernel_rfl
def u5 (x y : BA) : W :=
 π.join [] (fun J0 => π.loop [(false, [.int .i64])] (((0 : Int), ()), ()) fun (((x2 : Int), _), _) again1 => π.ite (decide (x2 < (↑x.size : Int))) (π.ite (decide (x2 < (↑y.size : Int))) (π.guard (0 ≤ x2 ∧ x2 < (↑x.size : Int)) <| π.guard (0 ≤ x2 ∧ x2 < (↑y.size : Int)) <| π.ite (decide ((↑(x[x2.toNat]?.getD 0).toNat : Int) < (↑(y[x2.toNat]?.getD 0).toNat : Int))) (π.ret (.int .i64 (-1))) (π.guard (0 ≤ x2 ∧ x2 < (↑x.size : Int)) <| π.guard (0 ≤ x2 ∧ x2 < (↑y.size : Int)) <| π.ite (decide ((↑(x[x2.toNat]?.getD 0).toNat : Int) > (↑(y[x2.toNat]?.getD 0).toNat : Int))) (π.ret (.int .i64 1)) (again1 ((i64.wrap (x2 + 1), ()), ())))) (J0 (()))) (J0 (()))) (fun _ => π.ite (decide ((↑x.size : Int) < (↑y.size : Int))) (π.ret (.int .i64 (-1))) (π.ite (decide ((↑x.size : Int) > (↑y.size : Int))) (π.ret (.int .i64 1)) (π.ret (.int .i64 0))))
theorem Dp (x y : BA) : OK 44 [.v (.string x), .v (.string y)] fun _ π => u5 π x y :=
 aW {} { draws := [(4, { A := [0, 1, 2, 3, 4, 5, 6] }), (6, { A := [0, 1, 2, 3, 4, 5, 6] })], join := [(8, [])], loop := [(2, [(5, 3)])] } [] Tryz.func44 Tryz.ntmps44 rfl (by kernel_rfl) fun _ π => by kernel_rfl
def Co (vk vn : Int) (vs : BA) : W :=
 π.nw (Obj.cells #[(.int .u8 (u8.wrap (i64.wrap (vk + 1))))] 5 (0, 0)) fun r0 => π.join [(true, [.int .i64, .int .i64, .str]), (false, [.slice])] (fun J1 => π.ite (vk == 1) (π.loop [(true, [.int .i64, .int .i64, .str]), (false, [.slice]), (false, [.int .u64]), (false, [.int .i64])] ((vk, vn, vs, ()), ((some (Addr.mk r0 0 none), (1 : Nat), (1 : Nat)), ()), (u64.wrap (u64.wrap vn + 9223372036854775808), ()), ((0 : Int), ()), ()) fun (((x3 : Int), (x4 : Int), (t5 : BA), _), (((a6 : OA), (n7 : Nat), (c8 : Nat)), _), ((x9 : Int), _), ((x10 : Int), _), _) again2 => π.ite (decide (x10 < 8)) (π.guard (0 ≤ u64.wrap (i64.wrap ((56 : Int) - i64.wrap ((8 : Int) * x10)))) <| π.nw (Obj.cells #[(.int .u8 (u8.wrap (if false = true then u64.wrap (x9 * 2 ^ min (u64.wrap (i64.wrap ((56 : Int) - i64.wrap ((8 : Int) * x10)))).toNat (64 : Nat)) else x9.fdiv ((2 : Int) ^ min (u64.wrap (i64.wrap ((56 : Int) - i64.wrap ((8 : Int) * x10)))).toNat (64 : Nat)))))] 5 (0, 0)) fun r11 => π.app 5 1 1 [(.int .u8 0)] a6 n7 c8 (Src.sl (some (Addr.mk r11 0 none)) 1) fun a12 n13 c14 => again2 ((x3, x4, t5, ()), ((a12, n13, c14), ()), (x9, ()), (i64.wrap (x10 + 1), ()), ())) (J1 ((x3, x4, t5, ()), ((a6, n7, c8), ()), ()))) (J1 ((vk, vn, vs, ()), ((some (Addr.mk r0 0 none), (1 : Nat), (1 : Nat)), ()), ()))) (fun (((x15 : Int), (x16 : Int), (t17 : BA), _), (((a18 : OA), (n19 : Nat), (c20 : Nat)), _), _) =>
 π.ite (x15 == 2) (π.loop [(true, [.int .i64, .int .i64, .str]), (false, [.slice]), (false, [.int .i64])] ((x15, x16, t17, ()), ((a18, n19, c20), ()), ((0 : Int), ()), ()) fun (((x22 : Int), (x23 : Int), (t24 : BA), _), (((a25 : OA), (n26 : Nat), (c27 : Nat)), _), ((x28 : Int), _), _) again21 => π.ite (decide (x28 < (↑t24.size : Int))) (π.guard (0 ≤ x28 ∧ x28 < (↑t24.size : Int)) <| π.nw (Obj.cells #[(.int .u8 ((↑(t24[x28.toNat]?.getD 0).toNat : Int)))] 5 (0, 0)) fun r29 => π.app 5 1 1 [(.int .u8 0)] a25 n26 c27 (Src.sl (some (Addr.mk r29 0 none)) 1) fun a30 n31 c32 => π.guard (0 ≤ x28 ∧ x28 < (↑t24.size : Int)) <| π.ite ((↑(t24[x28.toNat]?.getD 0).toNat : Int) == 0) (π.nw (Obj.cells #[(.int .u8 255)] 5 (0, 0)) fun r33 => π.app 5 1 1 [(.int .u8 0)] a30 n31 c32 (Src.sl (some (Addr.mk r33 0 none)) 1) fun a34 n35 c36 => again21 ((x22, x23, t24, ()), ((a34, n35, c36), ()), (i64.wrap (x28 + 1), ()), ())) (again21 ((x22, x23, t24, ()), ((a30, n31, c32), ()), (i64.wrap (x28 + 1), ()), ()))) (π.nw (Obj.cells #[(.int .u8 0), (.int .u8 1)] 5 (0, 0)) fun r37 => π.app 5 1 1 [(.int .u8 0)] a25 n26 c27 (Src.sl (some (Addr.mk r37 0 none)) 2) fun a38 n39 c40 => π.jX a38 n39 fun t41 => π.ret (.string t41))) (π.jX a18 n19 fun t42 => π.ret (.string t42)))
theorem Je (vk vn : Int) (vs : BA) : OK 141 [.v (.agg #[.int .i64 vk, .int .i64 vn, .string vs])] fun _ π => Co π vk vn vs :=
 aW { ptr := [(1, 1, 0), (7, 1, 0), (12, 1, 0), (15, 1, 1), (33, 1, 0), (37, 1, 2), (44, 1, 2), (50, 1, 2)], ty := [(1, 28)] } { join := [(8, [(1, 28), (3, 185)])], loop := [(5, [(1, 28), (3, 185), (4, 213), (5, 3)]), (10, [(1, 28), (3, 185), (6, 3)])] } [] Tryz.func141 Tryz.ntmps141 rfl (by kernel_rfl) fun _ π => by kernel_rfl
def uZ (a : OA) (an ac : Nat) : W :=
 π.ite (decide ((↑an : Int) > 8)) (π.ret (.tuple #[(.string ⟨#[]⟩), (.int .i64 21)])) (π.loop [(false, [.str]), (false, [.int .i64])] ((ByteArray.mk #[], ()), ((0 : Int), ()), ()) fun (((t1 : BA), _), ((x2 : Int), _), _) again0 => π.ite (decide (x2 < (↑an : Int))) (π.guard (0 ≤ x2 ∧ x2 < (↑an : Int)) <| π.aa a fun p3 => π.ld [.int .i64, .int .i64, .str] (p3.add (x2.toNat * 3)) fun ((x4 : Int), (x5 : Int), (t6 : BA), _) => π.call 137 #[(.agg #[(.int .i64 x4), (.int .i64 x5), (.string t6)])] (false, [(false, [.bool])]) fun (((b7 : Bool), _), _) => π.ite (!b7) (π.ret (.tuple #[(.string ⟨#[]⟩), (.int .i64 10)])) (π.guard (0 ≤ x2 ∧ x2 < (↑an : Int)) <| π.aa a fun p8 => π.ld [.int .i64, .int .i64, .str] (p8.add (x2.toNat * 3)) fun ((x9 : Int), (x10 : Int), (t11 : BA), _) => π.call 141 #[(.agg #[(.int .i64 x9), (.int .i64 x10), (.string t11)])] (false, [(false, [.str])]) fun (((t12 : BA), _), _) => π.guard ((↑(t1.size + t12.size) : Int) ≤ 9223372036854775807) <| again0 ((t1 ++ t12, ()), (i64.wrap (x2 + 1), ()), ()))) (π.ret (.tuple #[(.string t1), (.int .i64 0)])))
theorem Dn (a : OA) (an ac : Nat) : OK 88 [.v (.slice a an ac)] fun _ π => uZ π a an ac :=
 aW {} { loop := [(5, [(4, 9), (5, 3)])] } [] Tryz.func88 Tryz.ntmps88 rfl (by kernel_rfl) fun _ π => by kernel_rfl
def Cn (n : Int) : W :=
 π.ret (.agg #[(.int .i64 1), (.int .i64 n), (.string ⟨#[]⟩)])
theorem Jd (n : Int) : OK 30 [.v (.int .i64 n)] fun _ π => Cn π n :=
 aW { ptr := [(2, 2, 0)], ty := [(2, 28)] } {} [] Tryz.func30 Tryz.ntmps30 rfl (by kernel_rfl) fun _ π => by kernel_rfl
def Cp (t : Int) (vk vn : Int) (vs : BA) : W :=
 π.cy 30 #[(.int .i64 0)] (false, [(true, [.int .i64, .int .i64, .str])]) fun (((x0 : Int), (x1 : Int), (t2 : BA), _), _) => π.cy 30 #[(.int .i64 t)] (false, [(true, [.int .i64, .int .i64, .str])]) fun (((x3 : Int), (x4 : Int), (t5 : BA), _), _) => π.nw (Obj.cells #[(.int .i64 x0), (.int .i64 x1), (.string t2), (.int .i64 x3), (.int .i64 x4), (.string t5), (.int .i64 vk), (.int .i64 vn), (.string vs)] 28 (0, 0)) fun r6 => π.call 88 #[(.slice (some (Addr.mk r6 0 none)) 3 3)] (true, [(false, [.str]), (false, [.int .i64])]) fun (((t7 : BA), _), ((x8 : Int), _), _) => π.ret (.string t7)
theorem Jf (t : Int) (vk vn : Int) (vs : BA) : OK 31 [.v (.int .i64 t), .v (.agg #[.int .i64 vk, .int .i64 vn, .string vs])] fun _ π => Cp π t vk vn vs :=
 aW { ptr := [(3, 3, 0)], ty := [(3, 28)] } { draws := [(1, { A := [0, 1, 2, 3], quiet := [0, 2], eag := [6, 7, 8, 9, 10] })],  } [] Tryz.func31 Tryz.ntmps31 rfl (by kernel_rfl) fun _ π => by kernel_rfl
def FX (x : BA) (pf pt : BA) : W :=
 π.call 44 #[(.string pf), (.string x)] (false, [(false, [.int .i64])]) fun (((x0 : Int), _), _) => π.ite (decide (x0 ≤ 0)) (π.call 44 #[(.string x), (.string pt)] (false, [(false, [.int .i64])]) fun (((x1 : Int), _), _) => π.ret (.bool (decide (x1 < 0)))) (π.ret (.bool false))
theorem Kr (x : BA) (pf pt : BA) : OK 65 [.v (.string x), .v (.agg #[.string pf, .string pt])] fun _ π => FX π x pf pt :=
 aW { ptr := [(3, 3, 0), (5, 3, 0), (12, 3, 1)], ty := [(3, 129)] } {} [] Tryz.func65 Tryz.ntmps65 rfl (by kernel_rfl) fun _ π => by kernel_rfl
def u9 (a : OA) (an ac : Nat) (pf pt : BA) : W :=
 π.loop [(true, [.str, .str]), (false, [.slice]), (false, [.int .i64])] ((pf, pt, ()), ((none, (0 : Nat), (0 : Nat)), ()), ((0 : Int), ()), ()) fun (((t1 : BA), (t2 : BA), _), (((a3 : OA), (n4 : Nat), (c5 : Nat)), _), ((x6 : Int), _), _) again0 => π.ite (decide (x6 < (↑an : Int))) (π.guard (0 ≤ x6 ∧ x6 < (↑an : Int)) <| π.aa a fun p7 => π.ld [.str] ((p7.add (x6.toNat * 3)).add 0) fun ((t8 : BA), _) => π.cy 65 #[(.string t8), (.agg #[(.string t1), (.string t2)])] (false, [(false, [.bool])]) fun (((b9 : Bool), _), _) => π.ite b9 (π.guard (0 ≤ x6 ∧ x6 < (↑an : Int)) <| π.aa a fun p10 => π.ld [.str, .int .i64, .str] (p10.add (x6.toNat * 3)) fun ((t11 : BA), (x12 : Int), (t13 : BA), _) => π.nw (Obj.cells #[(.string t11), (.int .i64 x12), (.string t13)] 75 (0, 0)) fun r14 => π.app 75 3 40 [(.string ⟨#[]⟩), (.int .i64 0), (.string ⟨#[]⟩)] a3 n4 c5 (Src.sl (some (Addr.mk r14 0 none)) 1) fun a15 n16 c17 => again0 ((t1, t2, ()), ((a15, n16, c17), ()), (i64.wrap (x6 + 1), ()), ())) (again0 ((t1, t2, ()), ((a3, n4, c5), ()), (i64.wrap (x6 + 1), ()), ()))) (π.ret (.slice a3 n4 c5))
theorem Dq (a : OA) (an ac : Nat) (pf pt : BA) : OK 77 [.v (.slice a an ac), .v (.agg #[.string pf, .string pt])] fun _ π => u9 π a an ac pf pt :=
 aW { ptr := [(3, 3, 0)], ty := [(3, 129)] } { draws := [(5, { A := [0, 1, 2, 3, 4, 5, 6], quiet := [6] })], loop := [(3, [(3, 129), (5, 65), (6, 3)])] } [] Tryz.func77 Tryz.ntmps77 rfl (by kernel_rfl) fun _ π => by kernel_rfl
def AT (a : OA) (an ac : Nat) (pf pt : BA) : W :=
 π.call 77 #[(.slice a an ac), (.agg #[(.string pf), (.string pt)])] (false, [(false, [.slice])]) fun ((((a0 : OA), (n1 : Nat), (c2 : Nat)), _), _) => π.ret (.slice a0 n1 c2)
theorem G8 (a : OA) (an ac : Nat) (pf pt : BA) : OK 314 [.v (.slice a an ac), .v (.agg #[.string pf, .string pt])] fun _ π => AT π a an ac pf pt :=
 aW { ptr := [(3, 3, 0)], ty := [(3, 129)] } {} [] Tryz.func314 Tryz.ntmps314 rfl (by kernel_rfl) fun _ π => by kernel_rfl
end
section
attribute [-simp] Fw.W.bC Fw.W.bA
structure Gw {α : Type} (E : cK α) (e : TypeId) (s0 s : PH) (a : OA) (n c : Nat) (l : List α) : Prop where
 row : bp E s e a n c l
 fr : ∀ g ∈ Fw.aU a, s0 g = none
 md : Fw.Mod [] s0 s
theorem Gw.nil {α : Type} {E : cK α} {e : TypeId} {s0 s : PH} (h : Fw.Mod [] s0 s) : Gw E e s0 s none 0 0 ([] : List α) := ⟨bp.nil, by simp [Fw.aU], h⟩
theorem Gw.same {α : Type} {E : cK α} {e : TypeId} {s0 s s' : PH} {a : OA} {n c : Nat} {l : List α} (h : Gw E e s0 s a n c l) (hm : Fw.Mod [] s s') : Gw E e s0 s' a n c l :=
 ⟨h.row.mod hm (by simp), h.fr, h.md.trans hm⟩
theorem Gw.DK {α : Type} {E : cK α} {e : TypeId} {s0 s : PH} {a : OA} {n c bytes k : Nat} {l : List α} {zero : List Value} {K : OA → Nat → Nat → W.T} (h : Gw E e s0 s a n c l) (ys : List α) {cs : Array Value}
  (hc : cs.toList = ys.flatMap E.f) (hk : ys.length = k) (hz : zero.length = E.sz) (hl : n + k ≤ 9223372036854775807) (hbb : (n + k) * bytes ≤ 140737488355328)
  (hK : ∀ a' c' s', Gw E e s0 s' a' (n + k) c' (l ++ ys) → Fw.Mod (Fw.aU a) s s' → K a' (n + k) c' s') : W.nw (.cells cs e (0, 0)) (fun r => W.app e E.sz bytes zero a n c (Src.sl (some ⟨r, 0, none⟩) k) K) s := by
 refine W.bK fun r s1 hr m1 k1 => ?_;have hmax : maxLen = 9223372036854775807 := rfl;have hrow := h.row.mod m1 (by simp);refine iU hrow hz (ys := ys) (k := k) (wu (by rw [← hc]; exact jP k1) hk) rfl hk (by omega) (by omega) ?_;intro a' c' s' h' hm;refine hK a' c' s' ⟨h', ?_, ?_⟩ ?_
 ·rcases hm with ⟨rfl, _⟩ | ⟨g, rfl, hg, _⟩
  ·exact h.fr
  ·intro g' hg'
   have : g' = g := by simpa [Fw.aU] using hg'
   subst this;exact (h.md.trans m1).none hg (by simp)
 ·rcases hm with ⟨rfl, hm⟩ | ⟨g, rfl, hg, hm⟩
  ·exact (h.md.trans m1).fresh hm fun g hg => .inr (h.fr g hg)
  ·exact (h.md.trans m1).trans hm
 ·rcases hm with ⟨rfl, hm⟩ | ⟨g, rfl, hg, hm⟩
  ·exact (m1.mono (by simp)).trans hm
  ·exact (m1.trans hm).mono (by simp)
theorem Gw.nr {α : Type} {E : cK α} {e : TypeId} {s0 s : PH} {a : OA} {n c bytes k : Nat} {l : List α} {zero : List Value} {K : OA → Nat → Nat → W.T} (h : Gw E e s0 s a n c l) (ys : List α) {cs : Array Value}
  (hc : cs.toList = ys.flatMap E.f) (hk : ys.length = k) (hz : zero.length = E.sz) (hl : n + k ≤ 4294967296) (hb : bytes ≤ 1000)
  (hK : ∀ a' c' s', Gw E e s0 s' a' (n + k) c' (l ++ ys) → Fw.Mod (Fw.aU a) s s' → K a' (n + k) c' s') : W.nw (.cells cs e (0, 0)) (fun r => W.app e E.sz bytes zero a n c (Src.sl (some ⟨r, 0, none⟩) k) K) s := by
 have hbb : (n + k) * bytes ≤ 4294967296 * 1000 := Nat.mul_le_mul hl hb;exact h.DK ys hc hk hz (by omega) (by omega) hK
theorem Gw.push {α : Type} {E : cK α} {e : TypeId} {s0 s : PH} {a : OA} {n c bytes k : Nat} {l : List α} {zero : List Value} {K : OA → Nat → Nat → W.T} (h : Gw E e s0 s a n c l) (ys : List α) {cs : Array Value}
  (hc : cs.toList = ys.flatMap E.f) (hk : ys.length = k) (hz : zero.length = E.sz) (hl : n + k ≤ 4294967296) (hb : bytes ≤ 1000)
  (hK : ∀ a' c' s', Gw E e s0 s' a' (n + k) c' (l ++ ys) → K a' (n + k) c' s') : W.nw (.cells cs e (0, 0)) (fun r => W.app e E.sz bytes zero a n c (Src.sl (some ⟨r, 0, none⟩) k) K) s :=
 h.nr ys hc hk hz hl hb fun a' c' s' h1 _ => hK a' c' s' h1
theorem Gw.off {α : Type} {E : cK α} {e e' : TypeId} {s0 s : PH} {a : OA} {n c r : Nat} {l : List α} {cur : Array Value} {f : Nat × Nat} (h : Gw E e s0 s a n c l) (hr : s r = some (.cells cur e' f)) (hne : e' ≠ e) : r ∉ Fw.aU a := by
 intro hg;rcases h.row.shape with ⟨rfl, _⟩ | ⟨g', rfl⟩
 ·simp [Fw.aU] at hg
 ·simp [Fw.aU] at hg; subst hg;obtain ⟨c2, h2⟩ := h.row.ty rfl;rw [hr] at h2; cases h2;exact hne rfl
def nP : cK UInt8 where
 sz := 1
 f b := [.int .u8 (b.toNat : Int)]
 len _ := rfl
 one p v hv := by simp at hv; subst hv; (first | done | rfl)
 pos := by omega
def dO : cK aK where
 sz := 3
 f v := [.int .i64 v.kind, .int .i64 v.n, .string v.s]
 len _ := rfl
 one p v hv := by simp at hv; rcases hv with rfl | rfl | rfl <;> rfl
 pos := by omega
abbrev bM (v : aK) : Den [.int .i64, .int .i64, .str] := (v.kind, v.n, v.s, ())
theorem Ge (l : List UInt8) : l.flatMap nP.f = bytesOf (kB l) := by
 unfold bytesOf;have : (kB l).data.toList = l := eY l;rw [this]
 induction l with
 | nil => rfl
 | cons b l ih => rw [List.flatMap_cons, List.map_cons, ih (eY l)]; (first | done | rfl)
theorem nO {s : PH} {e : TypeId} {a : OA} {n c : Nat} {l : List UInt8} {K : BA → W.T} (h : bp nP s e a n c l) (hK : K (kB l) s) : W.jX a n K s := by
 refine ⟨kB l, ?_, hK⟩;have hlen := h.len;have hs := h.Lk
 cases a with
 | none =>
  have : l = [] := by
   rcases h.shape with ⟨_, rfl, _⟩ | ⟨g, e⟩
   ·exact List.eq_nil_of_length_eq_zero (by omega)
   ·cases e
  subst this
  first | done | rfl
 | some ad =>
  refine ⟨by rw [cE]; omega, ?_⟩;rw [← Ge];exact hs.2
theorem CB {a : Nat} (h : a < 18446744073709551616) : (BitVec.ofInt 64 (a : Int) ^^^ BitVec.ofInt 64 (9223372036854775808 : Int)).toNat = (a + 9223372036854775808) % 18446744073709551616 := by
 have e1 : (BitVec.ofInt 64 (a : Int)).toNat = a := by
  rw [BitVec.toNat_ofInt]; simp; omega
 have e2 : (BitVec.ofInt 64 (9223372036854775808 : Int)).toNat = 2 ^ 63 := rfl;rw [BitVec.toNat_xor, e1, e2]
 have key : ∀ b : Nat, b < 2 ^ 63 → b ^^^ 2 ^ 63 = 2 ^ 63 + b := by
  intro b hb;apply Nat.eq_of_testBit_eq;intro i;rw [Nat.testBit_xor, Nat.testBit_two_pow];rcases Nat.lt_trichotomy i 63 with hi | hi | hi
  ·rw [Nat.testBit_two_pow_add_gt hi]
   have : ¬ 63 = i := by omega
   simp [this]
  ·subst hi;rw [Nat.testBit_two_pow_add_eq]; simp
  ·have h1 : b < 2 ^ i := Nat.lt_trans hb (Nat.pow_lt_pow_right (by omega) hi)
   have h2 : 2 ^ 63 + b < 2 ^ i := by
    have : 2 ^ 64 ≤ 2 ^ i := Nat.pow_le_pow_right (by omega) hi;omega
   rw [Nat.testBit_lt_two_pow h1, Nat.testBit_lt_two_pow h2]
   have : ¬ 63 = i := by omega
   simp [this]
 rcases Nat.lt_or_ge a (2 ^ 63) with ha | ha
 ·rw [key a ha]; omega
 ·obtain ⟨b, rfl⟩ : ∃ b, a = 2 ^ 63 + b := ⟨a - 2 ^ 63, by omega⟩
  have hb : b < 2 ^ 63 := by omega
  rw [← key b hb, Nat.xor_assoc, Nat.xor_self, Nat.xor_zero];rw [key b hb]; omega
theorem su (n : Int) : u64.wrap n = n % 18446744073709551616 := by simp [IntKind.wrap, IntKind.bits, IntKind.signed]
theorem w8 (n : Int) : u8.wrap n = n % 256 := by rw [IntKind.wrap_u8]
theorem KB (n : Int) : u64.wrap (((BitVec.ofInt 64 (u64.wrap n) ^^^ BitVec.ofInt 64 9223372036854775808).toNat : Nat) : Int) = ((n64 n : Nat) : Int) := by
 obtain ⟨a, ha⟩ : ∃ a : Nat, u64.wrap n = (a : Int) := ⟨(n % 18446744073709551616).toNat, by rw [su]; omega⟩
 have hl : a < 18446744073709551616 := by rw [su] at ha; omega
 rw [ha, CB hl, su];unfold n64;rw [su] at ha;omega
theorem HQ {a : Nat} (h : a < 18446744073709551616) : i64.wrap (u64.wrap (((BitVec.ofInt 64 (a : Int) ^^^ BitVec.ofInt 64 9223372036854775808).toNat : Nat) : Int)) = kC a := by
 rw [CB h, su, IntKind.wrap_i64];unfold kC;omega
theorem Kw {a b : Nat} (ha : a < 72057594037927936) (hb : b < 256) : (BitVec.ofInt 64 ((a * 256 : Nat) : Int) ||| BitVec.ofInt 64 (b : Int)).toNat = a * 256 + b := by
 rw [BitVec.toNat_or, BitVec.toNat_ofInt, BitVec.toNat_ofInt]
 have e1 : ((((a * 256 : Nat) : Int)) % ((2 ^ 64 : Nat) : Int)).toNat = 2 ^ 8 * a := by simp; omega
 have e2 : ((b : Int) % ((2 ^ 64 : Nat) : Int)).toNat = b := by simp; omega
 rw [e1, e2, ← Nat.two_pow_add_eq_or_of_lt (by omega : b < 2 ^ 8)];omega
theorem mF : ∀ (x y : List UInt8), eo (x ++ y) = eo x ++ eo y
 | [], y => rfl
 | b :: x, y => by
  simp only [List.cons_append, eo, mF x y]
  split <;> rfl
theorem zy : ∀ l : List UInt8, (eo l).length ≤ 2 * l.length
 | [] => by simp [eo]
 | b :: l => by
  have := zy l;simp only [eo]
  split <;> simp <;> omega
theorem AG {v : aK} (h : bD v = true) : (bW v).length ≤ 140 := by
 unfold bW;unfold bD at h;have h2 := zy (kL v.s);rw [eP] at h2
 split
 ·simp [fC]
 ·split
  ·rename_i h1 h3
   rw [if_neg (by omega), if_neg h1, if_pos h3] at h;simp at h;simp; omega
  ·simp
theorem tE {l : List aK} (h : ∀ v ∈ l, bD v = true) : (l.flatMap bW).length ≤ 140 * l.length := by
 induction l with
 | nil => simp
 | cons v l ih =>
  have h1 := AG (h v (by simp));have h2 := ih fun x hx => h x (by simp [hx]);rw [List.flatMap_cons, List.length_append, List.length_cons]; omega
theorem JV {s0 s : PH} {a : OA} {n c : Nat} {l : List UInt8} {v : aK} (h : Gw nP 5 s0 s a n c l) (hv : bD v = true) (hl : n ≤ 1000000) :
  ah 255 #[.slice a n c, fm v] s fun y s' => ∃ a' n' c', y = .slice a' n' c' ∧ Gw nP 5 s0 s' a' n' c' (l ++ bW v) := by
 refine Jb a n c v.kind v.n v.s _ s ?_;unfold Cl;have hk := uP hv;simp only [cj, dg, aO, aQ, aR, aE]
 have hd : u8.wrap (i64.wrap (1 + v.kind)) = ((UInt8.ofNat ((1 + v.kind) % 256).toNat).toNat : Int) := by
  rcases hk with e | e | e <;> rw [e] <;> rfl
 refine h.push [UInt8.ofNat ((1 + v.kind) % 256).toNat] (k := 1) (by rw [hd]; (first | done | rfl)) rfl rfl (by omega) (by omega) fun a1 c1 s1 h1 => ?_;refine (W.af _ _ _ _).2 ⟨fun e1 => ?_, fun e1 => aI (fun e2 => ?_) fun e2 => ?_⟩
 ·have e1 : v.kind = 1 := eq_of_beq e1;rw [KB]
  obtain ⟨N, hN⟩ : ∃ N, n64 v.n = N := ⟨_, rfl⟩
  have hNl : N < 18446744073709551616 := by rw [← hN]; exact zV _
  have hend : l ++ bW v = l ++ [UInt8.ofNat ((1 + v.kind) % 256).toNat] ++ fC N := by unfold bW; rw [if_pos e1, hN]; simp
  rw [hend, hN]
  generalize l ++ [UInt8.ofNat ((1 + v.kind) % 256).toNat] = m at h1 ⊢
  refine ⟨fun z s' => ∃ (a : OA) (j c : Nat), z = (((a, n + 1 + j, c), ()), ((N : Int), ()), ((56 - 8 * j : Int), ()), ()) ∧ j ≤ 8 ∧ Gw nP 5 s0 s' a (n + 1 + j) c (m ++ (fC N).take j), fun z _ => (z.2.2.1.1 + 8).toNat, ⟨a1, 0, c1, rfl, by omega, by simpa using h1⟩, ?_⟩;rintro _ s2 ⟨a2, j, c2, rfl, hj, h2⟩;refine aI (fun e => ?_) fun e => ?_
  ·have e : (56 - 8 * j : Int) ≥ 0 := of_decide_eq_true e
   have hj8 : j < 8 := by omega
   refine bF e ?_
   obtain ⟨b, hb⟩ : ∃ b, (fC N)[j]? = some b := ⟨_, List.getElem?_eq_getElem (by show j < 8; exact hj8)⟩
   have hbv : u8.wrap (if false = true then u64.wrap ((N : Int) * 2 ^ min (56 - 8 * j : Int).toNat 64) else ((N : Int)).fdiv (2 ^ min (56 - 8 * j : Int).toNat 64)) = (b.toNat : Int) := by
    rw [if_neg (by decide)]
    have hq : ∀ d : Nat, 0 < d → u8.wrap ((N : Int).fdiv (d : Int)) = ((UInt8.ofNat (N / d)).toNat : Int) := by
     intro d hd;rw [UInt8.toNat_ofNat', w8, Int.fdiv_eq_ediv_of_nonneg _ (by omega)];simp
    match j, hj8, hb with
    | 0, _, hb => simp only [fC, List.getElem?_cons_zero, Option.some.injEq] at hb; subst hb; exact hq 72057594037927936 (by decide)
    | 1, _, hb => simp only [fC, List.getElem?_cons_zero, List.getElem?_cons_succ, Option.some.injEq] at hb; subst hb; exact hq 281474976710656 (by decide)
    | 2, _, hb => simp only [fC, List.getElem?_cons_zero, List.getElem?_cons_succ, Option.some.injEq] at hb; subst hb; exact hq 1099511627776 (by decide)
    | 3, _, hb => simp only [fC, List.getElem?_cons_zero, List.getElem?_cons_succ, Option.some.injEq] at hb; subst hb; exact hq 4294967296 (by decide)
    | 4, _, hb => simp only [fC, List.getElem?_cons_zero, List.getElem?_cons_succ, Option.some.injEq] at hb; subst hb; exact hq 16777216 (by decide)
    | 5, _, hb => simp only [fC, List.getElem?_cons_zero, List.getElem?_cons_succ, Option.some.injEq] at hb; subst hb; exact hq 65536 (by decide)
    | 6, _, hb => simp only [fC, List.getElem?_cons_zero, List.getElem?_cons_succ, Option.some.injEq] at hb; subst hb; exact hq 256 (by decide)
    | 7, _, hb => simp only [fC, List.getElem?_cons_zero, List.getElem?_cons_succ, Option.some.injEq] at hb; subst hb; have := hq 1 (by omega); simpa using this
   rw [hbv];refine h2.push [b] (k := 1) rfl rfl rfl (by omega) (by omega) fun a3 c3 s3 h3 => ?_
   have hw : i64.wrap ((56 - 8 * j : Int) - 8) = (56 - 8 * ((j + 1 : Nat) : Int)) := by rw [cq (by omega) (by omega)]; omega
   rw [hw];refine ⟨⟨a3, j + 1, c3, rfl, by omega, ?_⟩, by dsimp only; omega⟩;rw [List.take_add_one, hb];rw [List.append_assoc] at h3;exact h3
  ·have e : ¬ (56 - 8 * j : Int) ≥ 0 := of_decide_eq_false e
   have : j = 8 := by omega
   subst this;exact ⟨a2, _, c2, rfl, by simpa [fC] using h2⟩
 ·have e2 : v.kind = 2 := eq_of_beq e2
  have e1 : v.kind ≠ 1 := by omega
  have hvs : v.s.size ≤ 64 := by
   unfold bD at hv;rw [if_neg (by omega), if_neg e1, if_pos e2] at hv;simp at hv; exact hv.2
  have hend : l ++ bW v = l ++ [UInt8.ofNat ((1 + v.kind) % 256).toNat] ++ (eo (kL v.s) ++ [0, 1]) := by unfold bW; rw [if_neg e1, if_pos e2]; simp
  rw [hend];have hn1 := h1.row.len
  generalize l ++ [UInt8.ofNat ((1 + v.kind) % 256).toNat] = m at h1 hn1 ⊢
  refine ⟨fun z s' => ∃ (a : OA) (N k c : Nat), z = (((a, N, c), ()), bM v, ((v.s.size : Int), ()), ((k : Int), ()), ()) ∧ k ≤ v.s.size ∧ N ≤ n + 1 + 2 * k ∧ Gw nP 5 s0 s' a N c (m ++ eo ((kL v.s).take k)), fun z _ => v.s.size - z.2.2.2.1.1.toNat, ⟨a1, n + 1, 0, c1, rfl, Nat.zero_le _, by omega, by simpa [eo] using h1⟩, ?_⟩;rintro _ s2 ⟨a2, N, k, c2, rfl, hk2, hN, h2⟩;refine aI (fun e => ?_) fun e => ?_
  ·have e : (k : Int) < (v.s.size : Int) := of_decide_eq_true e;obtain ⟨b, hb, hb2⟩ := jF (s := v.s) (i := k) (by omega)
   have htk : (kL v.s).take (k + 1) = (kL v.s).take k ++ [b] := by rw [List.take_add_one, hb]; (first | done | rfl)
   dsimp only;refine bF ⟨by omega, e⟩ ?_;simp only [Int.toNat_natCast, hb2];refine h2.push [b] (k := 1) rfl rfl rfl (by omega) (by omega) fun a3 c3 s3 h3 => ?_;refine bF ⟨Int.natCast_nonneg k, e⟩ ?_;rw [ai (k := k) (by omega)];refine aI (fun e0 => ?_) fun e0 => ?_
   ·have e0 : (b.toNat : Int) = 0 := eq_of_beq e0
    have e0 : b = 0 := by apply UInt8.toNat_inj.1; show b.toNat = 0; omega
    refine h3.push [255] (k := 1) rfl rfl rfl (by omega) (by omega) fun a4 c4 s4 h4 => ?_;refine ⟨⟨a4, N + 1 + 1, k + 1, c4, rfl, by omega, by omega, ?_⟩, by simp only [Int.toNat_natCast]; omega⟩;rw [htk, mF];subst e0;simpa [eo] using h4
   ·have e0 : ¬ b = 0 := by rintro rfl; exact absurd e0 (by decide)
    refine ⟨⟨a3, N + 1, k + 1, c3, rfl, by omega, by omega, ?_⟩, by simp only [Int.toNat_natCast]; omega⟩;rw [htk, mF];simpa [eo, e0] using h3
  ·have e : ¬ (k : Int) < (v.s.size : Int) := of_decide_eq_false e
   have hk3 : k = v.s.size := by omega
   rw [List.take_of_length_le (by rw [eP]; omega)] at h2;refine h2.push [0, 1] (k := 2) rfl rfl rfl (by omega) (by omega) fun a3 c3 s3 h3 => ?_;exact ⟨a3, _, c3, rfl, by rw [← List.append_assoc]; exact h3⟩
 ·have e1 : v.kind ≠ 1 := by simpa using e1
  have e2 : v.kind ≠ 2 := by simpa using e2
  have hend : l ++ bW v = l ++ [UInt8.ofNat ((1 + v.kind) % 256).toNat] := by unfold bW; rw [if_neg e1, if_neg e2]
  rw [hend];exact ⟨a1, _, c1, rfl, h1⟩
theorem yX {l : List aK} {k : Nat} {v : aK} (h : l[k]? = some v) (e : bD v = false) : mV l = true := by
 unfold mV;rw [List.any_eq_true];exact ⟨v, List.mem_of_getElem? h, by simp [e]⟩
def H6 (s : PH) (a : OA) (n c : Nat) (l : List aK) : Prop := Sl dO s (a, n, c) l
theorem wI {s : PH} {a : OA} {n c : Nat} {l : List aK} (h : H6 s a n c l) : ah 216 #[.slice a n c] s fun y s' => y = .tuple #[.string (keyOf l).1, .int .i64 (keyOf l).2] ∧ s' = s := by
 refine bu.quiet (Dl a n c _ s ?_);unfold uX;have hlen : n = l.length := h.len;simp only [aO, aE, aQ, aR, aM, bH, aT, bS, tK];refine aI (fun e => ?_) fun e => ?_
 ·have e : (n : Int) > 8 := of_decide_eq_true e
  have : keyOf l = (⟨#[]⟩, 21) := by unfold keyOf; rw [if_pos (by omega)]
  rw [this];exact ⟨rfl, Mod.refl _ _⟩
 have e : ¬ (n : Int) > 8 := of_decide_eq_false e;refine ⟨fun z s' => ∃ (b : OA) (m d k : Nat), z = (((b, m, d), ()), ((a, n, c), ()), ((n : Int), ()), ((k : Int), ()), ()) ∧ k ≤ n ∧ Gw nP 5 s s' b m d ((l.take k).flatMap bW) ∧ ∀ v ∈ l.take k, bD v = true, fun z _ => n - z.2.2.2.1.1.toNat, ⟨none, 0, 0, 0, rfl, Nat.zero_le _, Gw.nil (Mod.refl _ _), by simp⟩, ?_⟩;rintro _ s1 ⟨b, m, d, k, rfl, hk, h1, hok⟩;have hvl := tE hok;have hml : m = _ := h1.row.len;rw [List.length_take] at hvl;refine aI (fun e => ?_) fun e => ?_
 ·have hlt : (k : Int) < (n : Int) := of_decide_eq_true e
  obtain ⟨v, hv⟩ : ∃ v, l[k]? = some v := ⟨_, List.getElem?_eq_getElem (by omega)⟩
  obtain ⟨ad, had, hh⟩ := (h.el.mono h1.md.le).aA hv;dsimp only at had;subst had;dsimp only;refine bF ⟨by omega, hlt⟩ ?_;simp only [W.ay, Int.toNat_natCast];have hh : s1.has (ad.add (k * 3)) (dO.f v) := hh;refine az hh (y := bM v) rfl ?_;refine aH ((j3 v, ()), ()) (oP v s1) rfl ?_;refine aI (fun e1 => ?_) fun e1 => ?_
  ·have hno : bD v = false := by
    cases hq : bD v with
    | false => rfl
    | true => unfold j3 at e1; rw [hq] at e1; exact absurd e1 (by decide)
   have : keyOf l = (⟨#[]⟩, 10) := by unfold keyOf; rw [if_neg (by omega), if_pos (yX hv hno)]
   rw [this];refine ⟨?_, h1.md⟩;unfold j3;rw [hno]; (first | done | rfl)
  ·have hyes : bD v = true := by
    cases hq : bD v with
    | true => rfl
    | false => unfold j3 at e1; rw [hq] at e1; exact absurd e1 (by decide)
   refine W.ak (JV (v := v) h1 hyes (by omega)) ?_;rintro _ s2 ⟨a2, n2, c2, rfl, h2⟩;refine ⟨((((a2, n2, c2), ()), ())), rfl, ?_⟩;dsimp only;rw [ai (k := k) (by omega)];refine ⟨⟨a2, n2, c2, k + 1, rfl, by omega, ?_, ?_⟩, by simp only [Int.toNat_natCast]; omega⟩
   ·rw [List.take_add_one, hv];simpa using h2
   ·intro x hx;rw [List.take_add_one, hv] at hx;simp only [Option.toList_some, List.mem_append, List.mem_singleton] at hx;rcases hx with hx | rfl
    ·exact hok x hx
    ·exact hyes
 ·have e : ¬ (k : Int) < (n : Int) := of_decide_eq_false e;rw [List.take_of_length_le (by omega)] at h1 hok;refine nO h1.row ?_;rw [sX hok (by omega)];exact ⟨rfl, h1.md⟩
end
end Go.Proofs.YtlfdfgokflhdbaaGreat
