/-
  Schemas: what they are in plain lists, and in memory; names are found.
  Conditions: none; it proves no statement by itself.
-/
import Derived.Test.YthepfbcgpbkbdaaVs1
import Derived.Test.YthepfbcgpbkbdaaVs2
import Derived.Test.YthepfbcgpbkbdaaFwW
set_option linter.unusedVariables false
set_option linter.unusedSimpArgs false
set_option maxHeartbeats 1000000
set_option maxRecDepth 100000
namespace Go.Proofs.Ythepfbcgpbkbdaa
open Fw Go
attribute [-simp] Fw.W.ld_iff Fw.W.st_iff

structure Val where
  kind : Int
  n : Int
  s : ByteArray
  deriving DecidableEq
structure Col where
  id : Int
  name : ByteArray
  kind : Int
  state : Int
  dflt : Val
  deriving DecidableEq
structure Idx where
  id : Int
  name : ByteArray
  column : Int
  unique : Bool
  state : Int
  deriving DecidableEq
structure For where
  id : Int
  name : ByteArray
  column : Int
  parent : Int
  state : Int
  deriving DecidableEq
structure Tab where
  id : Int
  name : ByteArray
  cols : List Col
  idxs : List Idx
  keys : List For
  deriving DecidableEq
structure Sch where
  version : Int
  last : Int
  tabs : List Tab
  deriving DecidableEq
structure Ddl where
  kind : Int
  table : ByteArray
  name : ByteArray
  column : ByteArray
  parent : ByteArray
  unique : Bool
  type : Int
  dflt : Val
  cols : List Col

abbrev Tri := Option Addr × Nat × Nat
abbrev noTri : Tri := (none, 0, 0)
abbrev Tri.v (t : Tri) : Value := .slice t.1 t.2.1 t.2.2
abbrev cp (b : Nat) : Value := .pointer (some ⟨b, 0, none⟩)
abbrev valV (v : Val) : Value := .agg #[.int .i64 v.kind, .int .i64 v.n, .string v.s]
def colE : Enc Col where
  sz := 7
  f c := [.int .i64 c.id, .string c.name, .int .i64 c.kind, .int .i64 c.state, .int .i64 c.dflt.kind, .int .i64 c.dflt.n, .string c.dflt.s]
  len _ := rfl
  one p v hv := by simp at hv; rcases hv with rfl | rfl | rfl | rfl | rfl | rfl | rfl <;> rfl
  pos := by omega
abbrev colV (c : Col) : Value := .agg #[.int .i64 c.id, .string c.name, .int .i64 c.kind, .int .i64 c.state, .int .i64 c.dflt.kind, .int .i64 c.dflt.n, .string c.dflt.s]
def idxE : Enc Idx where
  sz := 5
  f x := [.int .i64 x.id, .string x.name, .int .i64 x.column, .bool x.unique, .int .i64 x.state]
  len _ := rfl
  one p v hv := by simp at hv; rcases hv with rfl | rfl | rfl | rfl | rfl <;> rfl
  pos := by omega
abbrev idxV (x : Idx) : Value := .agg #[.int .i64 x.id, .string x.name, .int .i64 x.column, .bool x.unique, .int .i64 x.state]
def forE : Enc For where
  sz := 5
  f x := [.int .i64 x.id, .string x.name, .int .i64 x.column, .int .i64 x.parent, .int .i64 x.state]
  len _ := rfl
  one p v hv := by simp at hv; rcases hv with rfl | rfl | rfl | rfl | rfl <;> rfl
  pos := by omega
abbrev forV (x : For) : Value := .agg #[.int .i64 x.id, .string x.name, .int .i64 x.column, .int .i64 x.parent, .int .i64 x.state]
/-- a table, and where its lists lie -/
structure TabP where
  T : Tab
  c : Tri
  x : Tri
  k : Tri
def tabE : Enc TabP where
  sz := 5
  f p := [.int .i64 p.T.id, .string p.T.name, .slice p.c.1 p.c.2.1 p.c.2.2, .slice p.x.1 p.x.2.1 p.x.2.2, .slice p.k.1 p.k.2.1 p.k.2.2]
  len _ := rfl
  one p v hv := by simp at hv; rcases hv with rfl | rfl | rfl | rfl | rfl <;> rfl
  pos := by omega
abbrev tabV (T : Tab) (c x k : Tri) : Value := .agg #[.int .i64 T.id, .string T.name, .slice c.1 c.2.1 c.2.2, .slice x.1 x.2.1 x.2.2, .slice k.1 k.2.1 k.2.2]
abbrev schV (S : Sch) (t : Tri) : Value := .agg #[.int .i64 S.version, .int .i64 S.last, .slice t.1 t.2.1 t.2.2]
abbrev ddlV (D : Ddl) (t : Tri) : Value := .agg #[.int .i64 D.kind, .string D.table, .string D.name, .string D.column, .string D.parent, .bool D.unique, .int .i64 D.type, .int .i64 D.dflt.kind, .int .i64 D.dflt.n, .string D.dflt.s, .slice t.1 t.2.1 t.2.2]

/-- elements that can be read; there are not too many -/
structure Sl {α : Type} (E : Enc α) (s : PH) (t : Tri) (xs : List α) : Prop where
  el : elems (Rd.enc E) s t.1 t.2.1 xs
  le : t.2.1 ≤ t.2.2
  few : xs.length ≤ 4294967296
theorem Sl.len {α : Type} {E : Enc α} {s : PH} {t : Tri} {xs : List α} (h : Sl E s t xs) : t.2.1 = xs.length := h.el.1
theorem Sl.mono {α : Type} {E : Enc α} {s s' : PH} {t : Tri} {xs : List α} (h : Sl E s t xs) (hm : s.le s') : Sl E s' t xs := ⟨h.el.mono hm, h.le, h.few⟩
theorem Sl.nil {α : Type} {E : Enc α} {s : PH} : Sl E s noTri ([] : List α) := ⟨⟨rfl, fun i x hx => by simp at hx⟩, Nat.le_refl _, by simp⟩
/-- a table that can be read -/
structure TabIs (s : PH) (p : TabP) : Prop where
  c : Sl colE s p.c p.T.cols
  x : Sl idxE s p.x p.T.idxs
  k : Sl forE s p.k p.T.keys
theorem TabIs.mono {s s' : PH} {p : TabP} (h : TabIs s p) (hm : s.le s') : TabIs s' p := ⟨h.c.mono hm, h.x.mono hm, h.k.mono hm⟩
/-- a schema that can be read -/
structure SchIs (s : PH) (t : Tri) (S : Sch) (ps : List TabP) : Prop where
  el : Sl tabE s t ps
  eq : S.tabs = ps.map (·.T)
  all : ∀ p ∈ ps, TabIs s p
theorem SchIs.mono {s s' : PH} {t : Tri} {S : Sch} {ps : List TabP} (h : SchIs s t S ps) (hm : s.le s') : SchIs s' t S ps := ⟨h.el.mono hm, h.eq, fun p hp => (h.all p hp).mono hm⟩
theorem SchIs.len {s : PH} {t : Tri} {S : Sch} {ps : List TabP} (h : SchIs s t S ps) : t.2.1 = S.tabs.length := by rw [h.eq, List.length_map, h.el.len]

/-! ## names and values -/
def chOk (i c : Nat) : Bool := (decide (97 ≤ c) && decide (c ≤ 122)) || (!decide (i = 0) && (decide (c = 95) || (decide (48 ≤ c) && decide (c ≤ 57))))
def namesUp (s : ByteArray) (k : Nat) : Bool := (List.range k).all fun i => chOk i (s[i]?.getD 0).toNat
def named (s : ByteArray) : Bool := decide (1 ≤ s.size) && (decide (s.size ≤ 16) && namesUp s s.size)
theorem namesUp_succ (s : ByteArray) (k : Nat) : namesUp s (k + 1) = (namesUp s k && chOk k (s[k]?.getD 0).toNat) := by
  unfold namesUp; rw [List.range_succ, List.all_append]; simp
theorem namesUp_no {s : ByteArray} {k : Nat} (h : chOk k (s[k]?.getD 0).toNat = false) (hk : k < s.size) : namesUp s s.size = false := by
  have key : ∀ d, k + 1 + d ≤ s.size → namesUp s (k + 1 + d) = false := by
    intro d
    induction d with
    | zero => intro _; rw [Nat.add_zero, namesUp_succ, h, Bool.and_false]
    | succ d ih => intro hd; rw [← Nat.add_assoc, namesUp_succ, ih (by omega), Bool.false_and]
  have := key (s.size - (k + 1)) (by omega)
  rwa [show k + 1 + (s.size - (k + 1)) = s.size by omega] at this
theorem named_no {tx : ByteArray} {k : Nat} (h : chOk k (tx[k]?.getD 0).toNat = false) (hk : k < tx.size) : named tx = false := by
  unfold named; rw [namesUp_no h hk]; simp
theorem chOk_iff (i c : Nat) : chOk i c = true ↔ (97 ≤ c ∧ c ≤ 122) ∨ (i ≠ 0 ∧ (c = 95 ∨ (48 ≤ c ∧ c ≤ 57))) := by simp [chOk]
theorem chOk_no (i c : Nat) (h : ¬ ((97 ≤ c ∧ c ≤ 122) ∨ (i ≠ 0 ∧ (c = 95 ∨ (48 ≤ c ∧ c ≤ 57))))) : chOk i c = false := by
  cases e : chOk i c with
  | false => rfl
  | true => exact absurd ((chOk_iff i c).1 e) h
theorem c_named (tx : ByteArray) (s : PH) : DCalls Try.prog 91 #[.string tx] s fun x s' => x = .bool (named tx) ∧ s' = s := by
  refine ok_named tx _ s ?_
  unfold vc_named
  simp only [RP_ite, W.br_iff, decide_eq_true_eq, decide_eq_false_iff_not, RP_ret, W.ret_iff, RP_loop]
  refine ⟨fun h => ⟨by unfold named; rw [decide_eq_false (by omega)]; rfl, trivial⟩, fun h1 => ⟨fun h => ⟨by unfold named; rw [decide_eq_false (p := tx.size ≤ 16) (by omega)]; simp, trivial⟩, fun h2 => ?_⟩⟩
  refine ⟨fun z s' => ∃ k : Nat, z = (((tx.size : Int), ()), ((k : Int), ()), ()) ∧ k ≤ tx.size ∧ s' = s ∧ namesUp tx k = true, fun z _ => tx.size - z.2.1.1.toNat, ⟨0, rfl, Nat.zero_le _, rfl, rfl⟩, ?_⟩
  rintro _ s0 ⟨k, rfl, hk, hs0, hn⟩
  simp only [W.br_iff, decide_eq_true_eq, decide_eq_false_iff_not]
  refine ⟨fun hlt => ?_, fun hge => ?_⟩
  · have hlt : k < tx.size := by omega
    have hw := wrap_succ (k := k) (by omega)
    simp only [RP_guard, W.guard_iff, Int.toNat_natCast, hw]
    refine ⟨by omega, ?_⟩
    obtain ⟨c, hc⟩ : ∃ c, (tx[k]?.getD 0).toNat = c := ⟨_, rfl⟩
    have hno : ¬ ((97 ≤ c ∧ c ≤ 122) ∨ (k ≠ 0 ∧ (c = 95 ∨ (48 ≤ c ∧ c ≤ 57)))) → (false = named tx ∧ s0 = s) := fun h => ⟨by rw [named_no (by rw [hc]; exact chOk_no k c h) hlt], hs0⟩
    have hyes : ((97 ≤ c ∧ c ≤ 122) ∨ (k ≠ 0 ∧ (c = 95 ∨ (48 ≤ c ∧ c ≤ 57)))) → (k + 1 ≤ tx.size ∧ s0 = s ∧ namesUp tx (k + 1) = true) ∧ tx.size - (k + 1) < tx.size - k := fun h => ⟨⟨hlt, hs0, by rw [namesUp_succ, hn, hc, (chOk_iff k c).2 h]; rfl⟩, by omega⟩
    simp [hc, W.br_iff]
    repeat' (first | (refine And.intro ?_ ?_) | intro _)
    all_goals first | exact hs0 | exact (hno (by omega)).1.symm | exact ⟨k + 1, by simp, (hyes (by omega)).1⟩ | omega
  · have : k = tx.size := by omega
    subst this
    refine ⟨?_, hs0⟩
    unfold named; rw [hn, decide_eq_true (by omega), decide_eq_true (by omega)]; rfl
theorem c_rNamed (tx : ByteArray) (s : PH) : DCalls Try.prog 47 #[.string tx] s fun x s' => x = .bool (named tx) ∧ s' = s := by
  refine ok_rNamed tx _ s ?_
  unfold vc_rNamed
  simp only [RP_ite, W.br_iff, decide_eq_true_eq, decide_eq_false_iff_not, RP_ret, W.ret_iff, RP_loop]
  refine ⟨fun h => ⟨by unfold named; rw [decide_eq_false (by have h0 : tx.size = 0 := (by simpa using h); omega)]; rfl, trivial⟩, fun h1 => ⟨fun h => ⟨by unfold named; rw [decide_eq_false (p := tx.size ≤ 16) (by omega)]; simp, trivial⟩, fun h2 => ?_⟩⟩
  have h1 : tx.size ≠ 0 := by simpa using h1
  refine ⟨fun z s' => ∃ k : Nat, z = (((k : Int), ()), ()) ∧ k ≤ tx.size ∧ s' = s ∧ namesUp tx k = true, fun z _ => tx.size - z.1.1.toNat, ⟨0, rfl, Nat.zero_le _, rfl, rfl⟩, ?_⟩
  rintro _ s0 ⟨k, rfl, hk, hs0, hn⟩
  simp only [W.br_iff, decide_eq_true_eq, decide_eq_false_iff_not]
  refine ⟨fun hlt => ?_, fun hge => ?_⟩
  · have hlt : k < tx.size := by omega
    have hw := wrap_succ (k := k) (by omega)
    simp only [RP_guard, W.guard_iff, Int.toNat_natCast, hw]
    refine ⟨by omega, ?_⟩
    obtain ⟨c, hc⟩ : ∃ c, (tx[k]?.getD 0).toNat = c := ⟨_, rfl⟩
    have hno : ¬ ((97 ≤ c ∧ c ≤ 122) ∨ (k ≠ 0 ∧ (c = 95 ∨ (48 ≤ c ∧ c ≤ 57)))) → (false = named tx ∧ s0 = s) := fun h => ⟨by rw [named_no (by rw [hc]; exact chOk_no k c h) hlt], hs0⟩
    have hyes : ((97 ≤ c ∧ c ≤ 122) ∨ (k ≠ 0 ∧ (c = 95 ∨ (48 ≤ c ∧ c ≤ 57)))) → (k + 1 ≤ tx.size ∧ s0 = s ∧ namesUp tx (k + 1) = true) ∧ tx.size - (k + 1) < tx.size - k := fun h => ⟨⟨hlt, hs0, by rw [namesUp_succ, hn, hc, (chOk_iff k c).2 h]; rfl⟩, by omega⟩
    simp [hc, W.br_iff]
    repeat' (first | (refine And.intro ?_ ?_) | intro _)
    all_goals first | exact hs0 | exact (hno (by omega)).1.symm | exact ⟨k + 1, by simp, (hyes (by omega)).1⟩ | omega
  · have : k = tx.size := by omega
    subst this
    refine ⟨?_, hs0⟩
    unfold named; rw [hn, decide_eq_true (by omega), decide_eq_true (by omega)]; rfl

theorem beq_dec (a b : Int) : (a == b) = decide (a = b) := by by_cases h : a = b <;> simp [h]
theorem empty_toList (t : ByteArray) : t.toList.isEmpty = decide (t = ⟨#[]⟩) := by
  have := toList_beq t ⟨#[]⟩
  rw [← this]
  have : (ByteArray.mk #[]).toList = [] := by simp [ByteArray.toList_eq]
  rw [this]
  cases t.toList <;> rfl
def typed (k : Int) : Bool := decide (k = 1) || decide (k = 2)
theorem c_kind (k : Int) (s : PH) : DCalls Try.prog 100 #[.int .i64 k] s fun x s' => x = .bool (typed k) ∧ s' = s := by
  refine ok_kind k _ s ?_
  unfold vc_kind typed
  simp [W.br_iff, beq_dec]
  by_cases h : k = 1 <;> simp [h]
theorem c_rTyped (k : Int) (s : PH) : DCalls Try.prog 49 #[.int .i64 k] s fun x s' => x = .bool (typed k) ∧ s' = s := by
  refine ok_rTyped k _ s ?_
  unfold vc_rTyped typed
  simp [W.br_iff, beq_dec]
  by_cases h : k = 1 <;> simp [h]
def valOk (v : Val) : Bool := if v.kind = 0 then decide (v.n = 0) && decide (v.s = ⟨#[]⟩) else if v.kind = 1 then decide (v.s = ⟨#[]⟩) else if v.kind = 2 then decide (v.n = 0) && decide (v.s.size ≤ 64) else false
def errV (v : Val) : Int := if valOk v = true then 0 else 10
theorem c_vCheck (v : Val) (s : PH) : DCalls Try.prog 133 #[valV v] s fun x s' => x = .int .i64 (errV v) ∧ s' = s := by
  refine ok_vCheck v.kind v.n v.s _ s ?_
  unfold vc_vCheck errV valOk
  simp [W.br_iff, toList_beq, empty_toList]
  repeat' (first | (refine And.intro ?_ ?_) | intro _)
  all_goals simp_all
  all_goals omega
theorem c_rRightV (v : Val) (s : PH) : DCalls Try.prog 90 #[valV v] s fun x s' => x = .bool (valOk v) ∧ s' = s := by
  refine ok_rRightV v.kind v.n v.s _ s ?_
  unfold vc_rRightV valOk
  simp [W.br_iff, toList_beq, empty_toList]
  repeat' (first | (refine And.intro ?_ ?_) | intro _)
  all_goals simp_all
  all_goals omega
def fits (v : Val) (k : Int) : Bool := valOk v && (decide (v.kind = 0) || decide (v.kind = k))
theorem c_fits (v : Val) (k : Int) (s : PH) : DCalls Try.prog 101 #[valV v, .int .i64 k] s fun x s' => x = .bool (fits v k) ∧ s' = s := by
  refine ok_fits v.kind v.n v.s k _ s ?_
  unfold vc_fits
  simp only [RP_callQ, RP_call]
  refine W.call_of (c_vCheck v s) ?_
  rintro _ s ⟨rfl, rfl⟩
  refine ⟨((errV v, ()), ()), rfl, ?_⟩
  unfold fits errV
  cases hv : valOk v <;> simp [W.br_iff, beq_dec]
  by_cases h : v.kind = 0 <;> simp [h]
theorem c_rFits (v : Val) (k : Int) (s : PH) : DCalls Try.prog 50 #[valV v, .int .i64 k] s fun x s' => x = .bool (fits v k) ∧ s' = s := by
  refine ok_rFits v.kind v.n v.s k _ s ?_
  unfold vc_rFits
  simp only [RP_callQ, RP_call]
  refine W.call_of (c_rRightV v s) ?_
  rintro _ s ⟨rfl, rfl⟩
  refine ⟨((valOk v, ()), ()), rfl, ?_⟩
  unfold fits
  cases hv : valOk v <;> simp [W.br_iff, beq_dec]
  by_cases h : v.kind = 0 <;> simp [h]
def freshE (name : ByteArray) (n : Int) : Int := if named name = false then 100 else if n ≥ 8 then 156 else 0
theorem c_fresh (name : ByteArray) (n : Int) (s : PH) : DCalls Try.prog 118 #[.string name, .int .i64 n] s fun x s' => x = .int .i64 (freshE name n) ∧ s' = s := by
  refine ok_fresh name n _ s ?_
  unfold vc_fresh
  simp only [RP_callQ, RP_call]
  refine W.call_of (c_named name s) ?_
  rintro _ s ⟨rfl, rfl⟩
  refine ⟨((named name, ()), ()), rfl, ?_⟩
  unfold freshE
  cases hv : named name <;> simp [W.br_iff]
theorem c_rFresh (name : ByteArray) (n : Int) (s : PH) : DCalls Try.prog 81 #[.string name, .int .i64 n] s fun x s' => x = .int .i64 (freshE name n) ∧ s' = s := by
  refine ok_rFresh name n _ s ?_
  unfold vc_rFresh
  simp only [RP_callQ, RP_call]
  refine W.call_of (c_rNamed name s) ?_
  rintro _ s ⟨rfl, rfl⟩
  refine ⟨((named name, ()), ()), rfl, ?_⟩
  unfold freshE
  cases hv : named name <;> simp [W.br_iff]

/-! ## places -/
theorem c_fColumn (x : Col) (s : PH) : DCalls Try.prog 94 #[colV x] s fun y s' => y = .string x.name ∧ s' = s := by
  refine ok_fColumn x.id x.name x.kind x.state x.dflt.kind x.dflt.n x.dflt.s _ s ?_
  unfold vc_fColumn
  simp
theorem c_find2 (x : Col) {p q : Nat} {s : PH} {name : ByteArray} {ft : TypeId} (hp : s p = some (.cells #[.func (.func 94) #[] #[]] ft (0, 0))) (hq : s q = some (.cells #[.string name] 9 (0, 0))) :
    DCalls Try.prog 140 #[colV x, cp p, cp q] s fun y s' => y = .bool (decide (x.name = name)) ∧ s' = s := by
  refine ok_find2 x.id x.name x.kind x.state x.dflt.kind x.dflt.n x.dflt.s p q _ s ?_
  unfold vc_find2
  simp [W.ld_at hp, W.ld_at hq, toList_beq]
  refine callV_of' (cap := #[]) Try.func94 rfl (by kernel_rfl) (c_fColumn x s) ?_
  rintro _ s ⟨rfl, rfl⟩
  refine ⟨((x.name, ()), ()), rfl, ?_⟩
  simp [W.still_at hq, toList_beq]
theorem c_IndexFuncC {a : Option Addr} {an ac p q : Nat} {s : PH} {name : ByteArray} {ft : TypeId} {xs : List Col} (h : elems (Rd.enc colE) s a an xs) (hn : xs.length ≤ 4294967296) (hp : s p = some (.cells #[.func (.func 94) #[] #[]] ft (0, 0))) (hq : s q = some (.cells #[.string name] 9 (0, 0))) :
    DCalls Try.prog 104 #[.slice a an ac, .func (.func 140) #[] #[cp p, cp q]] s fun y s' => y = .int .i64 (seek (fun x => decide (x.name = name)) xs 0) ∧ s' = s := by
  refine ok_IndexFuncC a an ac p q _ s ?_
  unfold vc_IndexFuncC
  have hlen := h.1
  simp only [RP_loop]
  refine ⟨fun z s' => ∃ k : Nat, z = (((an : Int), ()), ((k : Int), ()), ()) ∧ k ≤ an ∧ s' = s ∧ seek (fun x => decide (x.name = name)) (xs.drop k) k = seek (fun x => decide (x.name = name)) xs 0, fun z _ => an - z.2.1.1.toNat, ⟨0, rfl, Nat.zero_le _, rfl, rfl⟩, ?_⟩
  rintro _ s ⟨k, rfl, hk, rfl, hs⟩
  simp [W.br_iff]
  refine ⟨fun hlt => ⟨hlt, ?_⟩, fun hge => ?_⟩
  · obtain ⟨x, hx⟩ : ∃ x, xs[k]? = some x := ⟨_, List.getElem?_eq_getElem (by omega)⟩
    obtain ⟨ad, rfl, hh⟩ := h.at_enc hx
    simp only [W.unSome_some]
    refine ld_has_z hh (y := (x.id, x.name, x.kind, x.state, x.dflt.kind, x.dflt.n, x.dflt.s, ())) rfl ?_
    refine W.call_of (c_find2 x hp hq) ?_
    rintro _ s ⟨rfl, rfl⟩
    refine ⟨((decide (x.name = name), ()), ()), rfl, ?_⟩
    rw [seek_step hx] at hs
    simp [W.br_iff, wrap_succ (k := k) (by omega)]
    refine ⟨fun he => ?_, fun he => ⟨⟨k + 1, by simp, hlt, ?_⟩, by omega⟩⟩
    · rw [← hs, if_pos (by simpa using he)]
    · rw [← hs, if_neg (by simpa using he)]
  · rw [← hs, seek_end (by omega)]
theorem c_findC {a : Option Addr} {an ac : Nat} {s : PH} {xs : List Col} (h : elems (Rd.enc colE) s a an xs) (hn : xs.length ≤ 4294967296) (name : ByteArray) :
    DCalls Try.prog 117 #[.slice a an ac, .string name, .func (.func 94) #[] #[]] s fun y s' => y = .int .i64 (seek (fun x => decide (x.name = name)) xs 0) ∧ s' = s := by
  refine DCalls.quiet (ok_findC a an ac name _ s ?_)
  unfold vc_findC
  simp only [RP_nw]
  refine W.nw_of fun r s1 hr m1 k1 => ?_
  refine W.nw_of fun r2 s2 hr2 m2 k2 => ?_
  have m12 := m1.trans m2
  refine W.call_of (c_IndexFuncC (h.mono m12.le) hn k2 (m2.at k1 (by simp))) ?_
  rintro _ s3 ⟨rfl, rfl⟩
  exact ⟨((seek (fun x => decide (x.name = name)) xs 0, ()), ()), rfl, rfl, m12⟩
theorem c_fIndex (x : Idx) (s : PH) : DCalls Try.prog 96 #[idxV x] s fun y s' => y = .string x.name ∧ s' = s := by
  refine ok_fIndex x.id x.name x.column x.unique x.state _ s ?_
  unfold vc_fIndex
  simp
theorem c_find3 (x : Idx) {p q : Nat} {s : PH} {name : ByteArray} {ft : TypeId} (hp : s p = some (.cells #[.func (.func 96) #[] #[]] ft (0, 0))) (hq : s q = some (.cells #[.string name] 9 (0, 0))) :
    DCalls Try.prog 142 #[idxV x, cp p, cp q] s fun y s' => y = .bool (decide (x.name = name)) ∧ s' = s := by
  refine ok_find3 x.id x.name x.column x.unique x.state p q _ s ?_
  unfold vc_find3
  simp [W.ld_at hp, W.ld_at hq, toList_beq]
  refine callV_of' (cap := #[]) Try.func96 rfl (by kernel_rfl) (c_fIndex x s) ?_
  rintro _ s ⟨rfl, rfl⟩
  refine ⟨((x.name, ()), ()), rfl, ?_⟩
  simp [W.still_at hq, toList_beq]
theorem c_IndexFuncX {a : Option Addr} {an ac p q : Nat} {s : PH} {name : ByteArray} {ft : TypeId} {xs : List Idx} (h : elems (Rd.enc idxE) s a an xs) (hn : xs.length ≤ 4294967296) (hp : s p = some (.cells #[.func (.func 96) #[] #[]] ft (0, 0))) (hq : s q = some (.cells #[.string name] 9 (0, 0))) :
    DCalls Try.prog 105 #[.slice a an ac, .func (.func 142) #[] #[cp p, cp q]] s fun y s' => y = .int .i64 (seek (fun x => decide (x.name = name)) xs 0) ∧ s' = s := by
  refine ok_IndexFuncX a an ac p q _ s ?_
  unfold vc_IndexFuncX
  have hlen := h.1
  simp only [RP_loop]
  refine ⟨fun z s' => ∃ k : Nat, z = (((an : Int), ()), ((k : Int), ()), ()) ∧ k ≤ an ∧ s' = s ∧ seek (fun x => decide (x.name = name)) (xs.drop k) k = seek (fun x => decide (x.name = name)) xs 0, fun z _ => an - z.2.1.1.toNat, ⟨0, rfl, Nat.zero_le _, rfl, rfl⟩, ?_⟩
  rintro _ s ⟨k, rfl, hk, rfl, hs⟩
  simp [W.br_iff]
  refine ⟨fun hlt => ⟨hlt, ?_⟩, fun hge => ?_⟩
  · obtain ⟨x, hx⟩ : ∃ x, xs[k]? = some x := ⟨_, List.getElem?_eq_getElem (by omega)⟩
    obtain ⟨ad, rfl, hh⟩ := h.at_enc hx
    simp only [W.unSome_some]
    refine ld_has_z hh (y := (x.id, x.name, x.column, x.unique, x.state, ())) rfl ?_
    refine W.call_of (c_find3 x hp hq) ?_
    rintro _ s ⟨rfl, rfl⟩
    refine ⟨((decide (x.name = name), ()), ()), rfl, ?_⟩
    rw [seek_step hx] at hs
    simp [W.br_iff, wrap_succ (k := k) (by omega)]
    refine ⟨fun he => ?_, fun he => ⟨⟨k + 1, by simp, hlt, ?_⟩, by omega⟩⟩
    · rw [← hs, if_pos (by simpa using he)]
    · rw [← hs, if_neg (by simpa using he)]
  · rw [← hs, seek_end (by omega)]
theorem c_findX {a : Option Addr} {an ac : Nat} {s : PH} {xs : List Idx} (h : elems (Rd.enc idxE) s a an xs) (hn : xs.length ≤ 4294967296) (name : ByteArray) :
    DCalls Try.prog 125 #[.slice a an ac, .string name, .func (.func 96) #[] #[]] s fun y s' => y = .int .i64 (seek (fun x => decide (x.name = name)) xs 0) ∧ s' = s := by
  refine DCalls.quiet (ok_findX a an ac name _ s ?_)
  unfold vc_findX
  simp only [RP_nw]
  refine W.nw_of fun r s1 hr m1 k1 => ?_
  refine W.nw_of fun r2 s2 hr2 m2 k2 => ?_
  have m12 := m1.trans m2
  refine W.call_of (c_IndexFuncX (h.mono m12.le) hn k2 (m2.at k1 (by simp))) ?_
  rintro _ s3 ⟨rfl, rfl⟩
  exact ⟨((seek (fun x => decide (x.name = name)) xs 0, ()), ()), rfl, rfl, m12⟩
theorem c_fForeign (x : For) (s : PH) : DCalls Try.prog 98 #[forV x] s fun y s' => y = .string x.name ∧ s' = s := by
  refine ok_fForeign x.id x.name x.column x.parent x.state _ s ?_
  unfold vc_fForeign
  simp
theorem c_find4 (x : For) {p q : Nat} {s : PH} {name : ByteArray} {ft : TypeId} (hp : s p = some (.cells #[.func (.func 98) #[] #[]] ft (0, 0))) (hq : s q = some (.cells #[.string name] 9 (0, 0))) :
    DCalls Try.prog 144 #[forV x, cp p, cp q] s fun y s' => y = .bool (decide (x.name = name)) ∧ s' = s := by
  refine ok_find4 x.id x.name x.column x.parent x.state p q _ s ?_
  unfold vc_find4
  simp [W.ld_at hp, W.ld_at hq, toList_beq]
  refine callV_of' (cap := #[]) Try.func98 rfl (by kernel_rfl) (c_fForeign x s) ?_
  rintro _ s ⟨rfl, rfl⟩
  refine ⟨((x.name, ()), ()), rfl, ?_⟩
  simp [W.still_at hq, toList_beq]
theorem c_IndexFuncF {a : Option Addr} {an ac p q : Nat} {s : PH} {name : ByteArray} {ft : TypeId} {xs : List For} (h : elems (Rd.enc forE) s a an xs) (hn : xs.length ≤ 4294967296) (hp : s p = some (.cells #[.func (.func 98) #[] #[]] ft (0, 0))) (hq : s q = some (.cells #[.string name] 9 (0, 0))) :
    DCalls Try.prog 106 #[.slice a an ac, .func (.func 144) #[] #[cp p, cp q]] s fun y s' => y = .int .i64 (seek (fun x => decide (x.name = name)) xs 0) ∧ s' = s := by
  refine ok_IndexFuncF a an ac p q _ s ?_
  unfold vc_IndexFuncF
  have hlen := h.1
  simp only [RP_loop]
  refine ⟨fun z s' => ∃ k : Nat, z = (((an : Int), ()), ((k : Int), ()), ()) ∧ k ≤ an ∧ s' = s ∧ seek (fun x => decide (x.name = name)) (xs.drop k) k = seek (fun x => decide (x.name = name)) xs 0, fun z _ => an - z.2.1.1.toNat, ⟨0, rfl, Nat.zero_le _, rfl, rfl⟩, ?_⟩
  rintro _ s ⟨k, rfl, hk, rfl, hs⟩
  simp [W.br_iff]
  refine ⟨fun hlt => ⟨hlt, ?_⟩, fun hge => ?_⟩
  · obtain ⟨x, hx⟩ : ∃ x, xs[k]? = some x := ⟨_, List.getElem?_eq_getElem (by omega)⟩
    obtain ⟨ad, rfl, hh⟩ := h.at_enc hx
    simp only [W.unSome_some]
    refine ld_has_z hh (y := (x.id, x.name, x.column, x.parent, x.state, ())) rfl ?_
    refine W.call_of (c_find4 x hp hq) ?_
    rintro _ s ⟨rfl, rfl⟩
    refine ⟨((decide (x.name = name), ()), ()), rfl, ?_⟩
    rw [seek_step hx] at hs
    simp [W.br_iff, wrap_succ (k := k) (by omega)]
    refine ⟨fun he => ?_, fun he => ⟨⟨k + 1, by simp, hlt, ?_⟩, by omega⟩⟩
    · rw [← hs, if_pos (by simpa using he)]
    · rw [← hs, if_neg (by simpa using he)]
  · rw [← hs, seek_end (by omega)]
theorem c_findF {a : Option Addr} {an ac : Nat} {s : PH} {xs : List For} (h : elems (Rd.enc forE) s a an xs) (hn : xs.length ≤ 4294967296) (name : ByteArray) :
    DCalls Try.prog 129 #[.slice a an ac, .string name, .func (.func 98) #[] #[]] s fun y s' => y = .int .i64 (seek (fun x => decide (x.name = name)) xs 0) ∧ s' = s := by
  refine DCalls.quiet (ok_findF a an ac name _ s ?_)
  unfold vc_findF
  simp only [RP_nw]
  refine W.nw_of fun r s1 hr m1 k1 => ?_
  refine W.nw_of fun r2 s2 hr2 m2 k2 => ?_
  have m12 := m1.trans m2
  refine W.call_of (c_IndexFuncF (h.mono m12.le) hn k2 (m2.at k1 (by simp))) ?_
  rintro _ s3 ⟨rfl, rfl⟩
  exact ⟨((seek (fun x => decide (x.name = name)) xs 0, ()), ()), rfl, rfl, m12⟩
theorem c_fTable (x : TabP) (s : PH) : DCalls Try.prog 46 #[tabV x.T x.c x.x x.k] s fun y s' => y = .string x.T.name ∧ s' = s := by
  refine ok_fTable x.T.id x.T.name x.c.1 x.c.2.1 x.c.2.2 x.x.1 x.x.2.1 x.x.2.2 x.k.1 x.k.2.1 x.k.2.2 _ s ?_
  unfold vc_fTable
  simp
theorem c_find1 (x : TabP) {p q : Nat} {s : PH} {name : ByteArray} {ft : TypeId} (hp : s p = some (.cells #[.func (.func 46) #[] #[]] ft (0, 0))) (hq : s q = some (.cells #[.string name] 9 (0, 0))) :
    DCalls Try.prog 89 #[tabV x.T x.c x.x x.k, cp p, cp q] s fun y s' => y = .bool (decide (x.T.name = name)) ∧ s' = s := by
  refine ok_find1 x.T.id x.T.name x.c.1 x.c.2.1 x.c.2.2 x.x.1 x.x.2.1 x.x.2.2 x.k.1 x.k.2.1 x.k.2.2 p q _ s ?_
  unfold vc_find1
  simp [W.ld_at hp, W.ld_at hq, toList_beq]
  refine callV_of' (cap := #[]) Try.func46 rfl (by kernel_rfl) (c_fTable x s) ?_
  rintro _ s ⟨rfl, rfl⟩
  refine ⟨((x.T.name, ()), ()), rfl, ?_⟩
  simp [W.still_at hq, toList_beq]
theorem c_IndexFuncT {a : Option Addr} {an ac p q : Nat} {s : PH} {name : ByteArray} {ft : TypeId} {xs : List TabP} (h : elems (Rd.enc tabE) s a an xs) (hn : xs.length ≤ 4294967296) (hp : s p = some (.cells #[.func (.func 46) #[] #[]] ft (0, 0))) (hq : s q = some (.cells #[.string name] 9 (0, 0))) :
    DCalls Try.prog 88 #[.slice a an ac, .func (.func 89) #[] #[cp p, cp q]] s fun y s' => y = .int .i64 (seek (fun x => decide (x.T.name = name)) xs 0) ∧ s' = s := by
  refine ok_IndexFuncT a an ac p q _ s ?_
  unfold vc_IndexFuncT
  have hlen := h.1
  simp only [RP_loop]
  refine ⟨fun z s' => ∃ k : Nat, z = (((an : Int), ()), ((k : Int), ()), ()) ∧ k ≤ an ∧ s' = s ∧ seek (fun x => decide (x.T.name = name)) (xs.drop k) k = seek (fun x => decide (x.T.name = name)) xs 0, fun z _ => an - z.2.1.1.toNat, ⟨0, rfl, Nat.zero_le _, rfl, rfl⟩, ?_⟩
  rintro _ s ⟨k, rfl, hk, rfl, hs⟩
  simp [W.br_iff]
  refine ⟨fun hlt => ⟨hlt, ?_⟩, fun hge => ?_⟩
  · obtain ⟨x, hx⟩ : ∃ x, xs[k]? = some x := ⟨_, List.getElem?_eq_getElem (by omega)⟩
    obtain ⟨ad, rfl, hh⟩ := h.at_enc hx
    simp only [W.unSome_some]
    refine ld_has_z hh (y := (x.T.id, x.T.name, x.c, x.x, x.k, ())) rfl ?_
    refine W.call_of (c_find1 x hp hq) ?_
    rintro _ s ⟨rfl, rfl⟩
    refine ⟨((decide (x.T.name = name), ()), ()), rfl, ?_⟩
    rw [seek_step hx] at hs
    simp [W.br_iff, wrap_succ (k := k) (by omega)]
    refine ⟨fun he => ?_, fun he => ⟨⟨k + 1, by simp, hlt, ?_⟩, by omega⟩⟩
    · rw [← hs, if_pos (by simpa using he)]
    · rw [← hs, if_neg (by simpa using he)]
  · rw [← hs, seek_end (by omega)]
theorem c_findT {a : Option Addr} {an ac : Nat} {s : PH} {xs : List TabP} (h : elems (Rd.enc tabE) s a an xs) (hn : xs.length ≤ 4294967296) (name : ByteArray) :
    DCalls Try.prog 45 #[.slice a an ac, .string name, .func (.func 46) #[] #[]] s fun y s' => y = .int .i64 (seek (fun x => decide (x.T.name = name)) xs 0) ∧ s' = s := by
  refine DCalls.quiet (ok_findT a an ac name _ s ?_)
  unfold vc_findT
  simp only [RP_nw]
  refine W.nw_of fun r s1 hr m1 k1 => ?_
  refine W.nw_of fun r2 s2 hr2 m2 k2 => ?_
  have m12 := m1.trans m2
  refine W.call_of (c_IndexFuncT (h.mono m12.le) hn k2 (m2.at k1 (by simp))) ?_
  rintro _ s3 ⟨rfl, rfl⟩
  exact ⟨((seek (fun x => decide (x.T.name = name)) xs 0, ()), ()), rfl, rfl, m12⟩
end Go.Proofs.Ythepfbcgpbkbdaa
