/-
  Part 2 for the law: texts of this session's own, those parts that the claim needs, one behind the other.
  Conditions: none; it proves no statement by itself.
-/
import Derived.Test.YthepfbcgpbkbdaaBoardStillK1
set_option linter.unusedVariables false
set_option linter.unusedSectionVars false
set_option linter.unusedSimpArgs false
section
set_option linter.unusedVariables false
set_option linter.unusedSimpArgs false
set_option maxHeartbeats 1000000
set_option maxRecDepth 100000
namespace Go.Proofs.Ythepfbcgpbkbdaa
open Fw Go
attribute [-simp] Fw.W.ld_iff Fw.W.st_iff
structure Val where
  kind : Int
  n : Int
  s : ByteArray
  deriving DecidableEq
structure Col where
  id : Int
  name : ByteArray
  kind : Int
  state : Int
  dflt : Val
  deriving DecidableEq
structure Idx where
  id : Int
  name : ByteArray
  column : Int
  unique : Bool
  state : Int
  deriving DecidableEq
structure For where
  id : Int
  name : ByteArray
  column : Int
  parent : Int
  state : Int
  deriving DecidableEq
structure Tab where
  id : Int
  name : ByteArray
  cols : List Col
  idxs : List Idx
  keys : List For
  deriving DecidableEq
structure Sch where
  version : Int
  last : Int
  tabs : List Tab
  deriving DecidableEq
structure Ddl where
  kind : Int
  table : ByteArray
  name : ByteArray
  column : ByteArray
  parent : ByteArray
  unique : Bool
  type : Int
  dflt : Val
  cols : List Col
abbrev Tri := Option Addr × Nat × Nat
abbrev noTri : Tri := (none, 0, 0)
abbrev Tri.v (t : Tri) : Value := .slice t.1 t.2.1 t.2.2
abbrev cp (b : Nat) : Value := .pointer (some ⟨b, 0, none⟩)
abbrev valV (v : Val) : Value := .agg #[.int .i64 v.kind, .int .i64 v.n, .string v.s]
def colE : Enc Col where
  sz := 7
  f c := [.int .i64 c.id, .string c.name, .int .i64 c.kind, .int .i64 c.state, .int .i64 c.dflt.kind, .int .i64 c.dflt.n, .string c.dflt.s]
  len _ := rfl
  one p v hv := by simp at hv; rcases hv with rfl | rfl | rfl | rfl | rfl | rfl | rfl <;> rfl
  pos := by omega
abbrev colV (c : Col) : Value := .agg #[.int .i64 c.id, .string c.name, .int .i64 c.kind, .int .i64 c.state, .int .i64 c.dflt.kind, .int .i64 c.dflt.n, .string c.dflt.s]
def idxE : Enc Idx where
  sz := 5
  f x := [.int .i64 x.id, .string x.name, .int .i64 x.column, .bool x.unique, .int .i64 x.state]
  len _ := rfl
  one p v hv := by simp at hv; rcases hv with rfl | rfl | rfl | rfl | rfl <;> rfl
  pos := by omega
abbrev idxV (x : Idx) : Value := .agg #[.int .i64 x.id, .string x.name, .int .i64 x.column, .bool x.unique, .int .i64 x.state]
def forE : Enc For where
  sz := 5
  f x := [.int .i64 x.id, .string x.name, .int .i64 x.column, .int .i64 x.parent, .int .i64 x.state]
  len _ := rfl
  one p v hv := by simp at hv; rcases hv with rfl | rfl | rfl | rfl | rfl <;> rfl
  pos := by omega
abbrev forV (x : For) : Value := .agg #[.int .i64 x.id, .string x.name, .int .i64 x.column, .int .i64 x.parent, .int .i64 x.state]
/-- a table, and where its lists lie -/
structure TabP where
  T : Tab
  c : Tri
  x : Tri
  k : Tri
def tabE : Enc TabP where
  sz := 5
  f p := [.int .i64 p.T.id, .string p.T.name, .slice p.c.1 p.c.2.1 p.c.2.2, .slice p.x.1 p.x.2.1 p.x.2.2, .slice p.k.1 p.k.2.1 p.k.2.2]
  len _ := rfl
  one p v hv := by simp at hv; rcases hv with rfl | rfl | rfl | rfl | rfl <;> rfl
  pos := by omega
abbrev tabV (T : Tab) (c x k : Tri) : Value := .agg #[.int .i64 T.id, .string T.name, .slice c.1 c.2.1 c.2.2, .slice x.1 x.2.1 x.2.2, .slice k.1 k.2.1 k.2.2]
abbrev schV (S : Sch) (t : Tri) : Value := .agg #[.int .i64 S.version, .int .i64 S.last, .slice t.1 t.2.1 t.2.2]
abbrev ddlV (D : Ddl) (t : Tri) : Value := .agg #[.int .i64 D.kind, .string D.table, .string D.name, .string D.column, .string D.parent, .bool D.unique, .int .i64 D.type, .int .i64 D.dflt.kind, .int .i64 D.dflt.n, .string D.dflt.s, .slice t.1 t.2.1 t.2.2]
/-- elements that can be read; there are not too many -/
structure Sl {α : Type} (E : Enc α) (s : PH) (t : Tri) (xs : List α) : Prop where
  el : elems (Rd.enc E) s t.1 t.2.1 xs
  le : t.2.1 ≤ t.2.2
  few : xs.length ≤ 4294967296
theorem Sl.len {α : Type} {E : Enc α} {s : PH} {t : Tri} {xs : List α} (h : Sl E s t xs) : t.2.1 = xs.length := h.el.1
theorem Sl.mono {α : Type} {E : Enc α} {s s' : PH} {t : Tri} {xs : List α} (h : Sl E s t xs) (hm : s.le s') : Sl E s' t xs := ⟨h.el.mono hm, h.le, h.few⟩
theorem Sl.nil {α : Type} {E : Enc α} {s : PH} : Sl E s noTri ([] : List α) := ⟨⟨rfl, fun i x hx => by simp at hx⟩, Nat.le_refl _, by simp⟩
/-- a table that can be read -/
structure TabIs (s : PH) (p : TabP) : Prop where
  c : Sl colE s p.c p.T.cols
  x : Sl idxE s p.x p.T.idxs
  k : Sl forE s p.k p.T.keys
theorem TabIs.mono {s s' : PH} {p : TabP} (h : TabIs s p) (hm : s.le s') : TabIs s' p := ⟨h.c.mono hm, h.x.mono hm, h.k.mono hm⟩
/-- a schema that can be read -/
structure SchIs (s : PH) (t : Tri) (S : Sch) (ps : List TabP) : Prop where
  el : Sl tabE s t ps
  eq : S.tabs = ps.map (·.T)
  all : ∀ p ∈ ps, TabIs s p
theorem SchIs.mono {s s' : PH} {t : Tri} {S : Sch} {ps : List TabP} (h : SchIs s t S ps) (hm : s.le s') : SchIs s' t S ps := ⟨h.el.mono hm, h.eq, fun p hp => (h.all p hp).mono hm⟩
theorem SchIs.len {s : PH} {t : Tri} {S : Sch} {ps : List TabP} (h : SchIs s t S ps) : t.2.1 = S.tabs.length := by rw [h.eq, List.length_map, h.el.len]
def chOk (i c : Nat) : Bool := (decide (97 ≤ c) && decide (c ≤ 122)) || (!decide (i = 0) && (decide (c = 95) || (decide (48 ≤ c) && decide (c ≤ 57))))
def namesUp (s : ByteArray) (k : Nat) : Bool := (List.range k).all fun i => chOk i (s[i]?.getD 0).toNat
def named (s : ByteArray) : Bool := decide (1 ≤ s.size) && (decide (s.size ≤ 16) && namesUp s s.size)
theorem namesUp_succ (s : ByteArray) (k : Nat) : namesUp s (k + 1) = (namesUp s k && chOk k (s[k]?.getD 0).toNat) := by
  unfold namesUp; rw [List.range_succ, List.all_append]; simp
theorem namesUp_no {s : ByteArray} {k : Nat} (h : chOk k (s[k]?.getD 0).toNat = false) (hk : k < s.size) : namesUp s s.size = false := by
  have key : ∀ d, k + 1 + d ≤ s.size → namesUp s (k + 1 + d) = false := by
    intro d
    induction d with
    | zero => intro _; rw [Nat.add_zero, namesUp_succ, h, Bool.and_false]
    | succ d ih => intro hd; rw [← Nat.add_assoc, namesUp_succ, ih (by omega), Bool.false_and]
  have := key (s.size - (k + 1)) (by omega)
  rwa [show k + 1 + (s.size - (k + 1)) = s.size by omega] at this
theorem named_no {tx : ByteArray} {k : Nat} (h : chOk k (tx[k]?.getD 0).toNat = false) (hk : k < tx.size) : named tx = false := by
  unfold named; rw [namesUp_no h hk]; simp
theorem chOk_iff (i c : Nat) : chOk i c = true ↔ (97 ≤ c ∧ c ≤ 122) ∨ (i ≠ 0 ∧ (c = 95 ∨ (48 ≤ c ∧ c ≤ 57))) := by simp [chOk]
theorem chOk_no (i c : Nat) (h : ¬ ((97 ≤ c ∧ c ≤ 122) ∨ (i ≠ 0 ∧ (c = 95 ∨ (48 ≤ c ∧ c ≤ 57))))) : chOk i c = false := by
  cases e : chOk i c with
  | false => rfl
  | true => exact absurd ((chOk_iff i c).1 e) h
theorem c_named (tx : ByteArray) (s : PH) : DCalls Try.prog 91 #[.string tx] s fun x s' => x = .bool (named tx) ∧ s' = s := by
  refine ok_named tx _ s ?_
  unfold vc_named
  simp only [RP_ite, W.br_iff, decide_eq_true_eq, decide_eq_false_iff_not, RP_ret, W.ret_iff, RP_loop]
  refine ⟨fun h => ⟨by unfold named; rw [decide_eq_false (by omega)]; (first | done | rfl), trivial⟩, fun h1 => ⟨fun h => ⟨by unfold named; rw [decide_eq_false (p := tx.size ≤ 16) (by omega)]; simp, trivial⟩, fun h2 => ?_⟩⟩
  refine ⟨fun z s' => ∃ k : Nat, z = (((tx.size : Int), ()), ((k : Int), ()), ()) ∧ k ≤ tx.size ∧ s' = s ∧ namesUp tx k = true, fun z _ => tx.size - z.2.1.1.toNat, ⟨0, rfl, Nat.zero_le _, rfl, rfl⟩, ?_⟩
  rintro _ s0 ⟨k, rfl, hk, hs0, hn⟩
  simp only [W.br_iff, decide_eq_true_eq, decide_eq_false_iff_not]
  refine ⟨fun hlt => ?_, fun hge => ?_⟩
  · have hlt : k < tx.size := by omega
    have hw := wrap_succ (k := k) (by omega)
    simp only [RP_guard, W.guard_iff, Int.toNat_natCast, hw]
    refine ⟨by omega, ?_⟩
    obtain ⟨c, hc⟩ : ∃ c, (tx[k]?.getD 0).toNat = c := ⟨_, rfl⟩
    have hno : ¬ ((97 ≤ c ∧ c ≤ 122) ∨ (k ≠ 0 ∧ (c = 95 ∨ (48 ≤ c ∧ c ≤ 57)))) → (false = named tx ∧ s0 = s) := fun h => ⟨by rw [named_no (by rw [hc]; exact chOk_no k c h) hlt], hs0⟩
    have hyes : ((97 ≤ c ∧ c ≤ 122) ∨ (k ≠ 0 ∧ (c = 95 ∨ (48 ≤ c ∧ c ≤ 57)))) → (k + 1 ≤ tx.size ∧ s0 = s ∧ namesUp tx (k + 1) = true) ∧ tx.size - (k + 1) < tx.size - k := fun h => ⟨⟨hlt, hs0, by rw [namesUp_succ, hn, hc, (chOk_iff k c).2 h]; (first | done | rfl)⟩, by omega⟩
    simp [hc, W.br_iff]
    repeat' (first | (refine And.intro ?_ ?_) | intro _)
    all_goals first | exact hs0 | exact (hno (by omega)).1.symm | exact ⟨k + 1, by simp, (hyes (by omega)).1⟩ | omega
  · have : k = tx.size := by omega
    subst this
    refine ⟨?_, hs0⟩
    unfold named; rw [hn, decide_eq_true (by omega), decide_eq_true (by omega)]; (first | done | rfl)
theorem beq_dec (a b : Int) : (a == b) = decide (a = b) := by by_cases h : a = b <;> simp [h]
theorem empty_toList (t : ByteArray) : t.toList.isEmpty = decide (t = ⟨#[]⟩) := by
  have := toList_beq t ⟨#[]⟩
  rw [← this]
  have : (ByteArray.mk #[]).toList = [] := by simp [ByteArray.toList_eq]
  rw [this]
  cases t.toList <;> rfl
def typed (k : Int) : Bool := decide (k = 1) || decide (k = 2)
theorem c_kind (k : Int) (s : PH) : DCalls Try.prog 100 #[.int .i64 k] s fun x s' => x = .bool (typed k) ∧ s' = s := by
  refine ok_kind k _ s ?_
  unfold vc_kind typed
  simp [W.br_iff, beq_dec]
  by_cases h : k = 1 <;> simp [h]
def valOk (v : Val) : Bool := if v.kind = 0 then decide (v.n = 0) && decide (v.s = ⟨#[]⟩) else if v.kind = 1 then decide (v.s = ⟨#[]⟩) else if v.kind = 2 then decide (v.n = 0) && decide (v.s.size ≤ 64) else false
def errV (v : Val) : Int := if valOk v = true then 0 else 10
theorem c_vCheck (v : Val) (s : PH) : DCalls Try.prog 133 #[valV v] s fun x s' => x = .int .i64 (errV v) ∧ s' = s := by
  refine ok_vCheck v.kind v.n v.s _ s ?_
  unfold vc_vCheck errV valOk
  simp [W.br_iff, toList_beq, empty_toList]
  repeat' (first | (refine And.intro ?_ ?_) | intro _)
  all_goals simp_all
  all_goals omega
def fits (v : Val) (k : Int) : Bool := valOk v && (decide (v.kind = 0) || decide (v.kind = k))
theorem c_fits (v : Val) (k : Int) (s : PH) : DCalls Try.prog 101 #[valV v, .int .i64 k] s fun x s' => x = .bool (fits v k) ∧ s' = s := by
  refine ok_fits v.kind v.n v.s k _ s ?_
  unfold vc_fits
  simp only [RP_callQ, RP_call]
  refine W.call_of (c_vCheck v s) ?_
  rintro _ s ⟨rfl, rfl⟩
  refine ⟨((errV v, ()), ()), rfl, ?_⟩
  unfold fits errV
  cases hv : valOk v <;> simp [W.br_iff, beq_dec]
  by_cases h : v.kind = 0 <;> simp [h]
def freshE (name : ByteArray) (n : Int) : Int := if named name = false then 100 else if n ≥ 8 then 156 else 0
theorem c_fresh (name : ByteArray) (n : Int) (s : PH) : DCalls Try.prog 118 #[.string name, .int .i64 n] s fun x s' => x = .int .i64 (freshE name n) ∧ s' = s := by
  refine ok_fresh name n _ s ?_
  unfold vc_fresh
  simp only [RP_callQ, RP_call]
  refine W.call_of (c_named name s) ?_
  rintro _ s ⟨rfl, rfl⟩
  refine ⟨((named name, ()), ()), rfl, ?_⟩
  unfold freshE
  cases hv : named name <;> simp [W.br_iff]
theorem c_fColumn (x : Col) (s : PH) : DCalls Try.prog 94 #[colV x] s fun y s' => y = .string x.name ∧ s' = s := by
  refine ok_fColumn x.id x.name x.kind x.state x.dflt.kind x.dflt.n x.dflt.s _ s ?_
  unfold vc_fColumn
  simp
theorem c_find2 (x : Col) {p q : Nat} {s : PH} {name : ByteArray} {ft : TypeId} (hp : s p = some (.cells #[.func (.func 94) #[] #[]] ft (0, 0))) (hq : s q = some (.cells #[.string name] 9 (0, 0))) :
    DCalls Try.prog 140 #[colV x, cp p, cp q] s fun y s' => y = .bool (decide (x.name = name)) ∧ s' = s := by
  refine ok_find2 x.id x.name x.kind x.state x.dflt.kind x.dflt.n x.dflt.s p q _ s ?_
  unfold vc_find2
  simp [W.ld_at hp, W.ld_at hq, toList_beq]
  refine callV_of' (cap := #[]) Try.func94 rfl (by kernel_rfl) (c_fColumn x s) ?_
  rintro _ s ⟨rfl, rfl⟩
  refine ⟨((x.name, ()), ()), rfl, ?_⟩
  simp [W.still_at hq, toList_beq]
theorem c_IndexFuncC {a : Option Addr} {an ac p q : Nat} {s : PH} {name : ByteArray} {ft : TypeId} {xs : List Col} (h : elems (Rd.enc colE) s a an xs) (hn : xs.length ≤ 4294967296) (hp : s p = some (.cells #[.func (.func 94) #[] #[]] ft (0, 0))) (hq : s q = some (.cells #[.string name] 9 (0, 0))) :
    DCalls Try.prog 104 #[.slice a an ac, .func (.func 140) #[] #[cp p, cp q]] s fun y s' => y = .int .i64 (seek (fun x => decide (x.name = name)) xs 0) ∧ s' = s := by
  refine ok_IndexFuncC a an ac p q _ s ?_
  unfold vc_IndexFuncC
  have hlen := h.1
  simp only [RP_loop]
  refine ⟨fun z s' => ∃ k : Nat, z = (((an : Int), ()), ((k : Int), ()), ()) ∧ k ≤ an ∧ s' = s ∧ seek (fun x => decide (x.name = name)) (xs.drop k) k = seek (fun x => decide (x.name = name)) xs 0, fun z _ => an - z.2.1.1.toNat, ⟨0, rfl, Nat.zero_le _, rfl, rfl⟩, ?_⟩
  rintro _ s ⟨k, rfl, hk, rfl, hs⟩
  simp [W.br_iff]
  refine ⟨fun hlt => ⟨hlt, ?_⟩, fun hge => ?_⟩
  · obtain ⟨x, hx⟩ : ∃ x, xs[k]? = some x := ⟨_, List.getElem?_eq_getElem (by omega)⟩
    obtain ⟨ad, rfl, hh⟩ := h.at_enc hx
    simp only [W.unSome_some]
    refine ld_has_z hh (y := (x.id, x.name, x.kind, x.state, x.dflt.kind, x.dflt.n, x.dflt.s, ())) rfl ?_
    refine W.call_of (c_find2 x hp hq) ?_
    rintro _ s ⟨rfl, rfl⟩
    refine ⟨((decide (x.name = name), ()), ()), rfl, ?_⟩
    rw [seek_step hx] at hs
    simp [W.br_iff, wrap_succ (k := k) (by omega)]
    refine ⟨fun he => ?_, fun he => ⟨⟨k + 1, by simp, hlt, ?_⟩, by omega⟩⟩
    · rw [← hs, if_pos (by simpa using he)]
    · rw [← hs, if_neg (by simpa using he)]
  · rw [← hs, seek_end (by omega)]
theorem c_findC {a : Option Addr} {an ac : Nat} {s : PH} {xs : List Col} (h : elems (Rd.enc colE) s a an xs) (hn : xs.length ≤ 4294967296) (name : ByteArray) :
    DCalls Try.prog 117 #[.slice a an ac, .string name, .func (.func 94) #[] #[]] s fun y s' => y = .int .i64 (seek (fun x => decide (x.name = name)) xs 0) ∧ s' = s := by
  refine DCalls.quiet (ok_findC a an ac name _ s ?_)
  unfold vc_findC
  simp only [RP_nw]
  refine W.nw_of fun r s1 hr m1 k1 => ?_
  refine W.nw_of fun r2 s2 hr2 m2 k2 => ?_
  have m12 := m1.trans m2
  refine W.call_of (c_IndexFuncC (h.mono m12.le) hn k2 (m2.at k1 (by simp))) ?_
  rintro _ s3 ⟨rfl, rfl⟩
  exact ⟨((seek (fun x => decide (x.name = name)) xs 0, ()), ()), rfl, rfl, m12⟩
theorem c_fIndex (x : Idx) (s : PH) : DCalls Try.prog 96 #[idxV x] s fun y s' => y = .string x.name ∧ s' = s := by
  refine ok_fIndex x.id x.name x.column x.unique x.state _ s ?_
  unfold vc_fIndex
  simp
theorem c_find3 (x : Idx) {p q : Nat} {s : PH} {name : ByteArray} {ft : TypeId} (hp : s p = some (.cells #[.func (.func 96) #[] #[]] ft (0, 0))) (hq : s q = some (.cells #[.string name] 9 (0, 0))) :
    DCalls Try.prog 142 #[idxV x, cp p, cp q] s fun y s' => y = .bool (decide (x.name = name)) ∧ s' = s := by
  refine ok_find3 x.id x.name x.column x.unique x.state p q _ s ?_
  unfold vc_find3
  simp [W.ld_at hp, W.ld_at hq, toList_beq]
  refine callV_of' (cap := #[]) Try.func96 rfl (by kernel_rfl) (c_fIndex x s) ?_
  rintro _ s ⟨rfl, rfl⟩
  refine ⟨((x.name, ()), ()), rfl, ?_⟩
  simp [W.still_at hq, toList_beq]
theorem c_IndexFuncX {a : Option Addr} {an ac p q : Nat} {s : PH} {name : ByteArray} {ft : TypeId} {xs : List Idx} (h : elems (Rd.enc idxE) s a an xs) (hn : xs.length ≤ 4294967296) (hp : s p = some (.cells #[.func (.func 96) #[] #[]] ft (0, 0))) (hq : s q = some (.cells #[.string name] 9 (0, 0))) :
    DCalls Try.prog 105 #[.slice a an ac, .func (.func 142) #[] #[cp p, cp q]] s fun y s' => y = .int .i64 (seek (fun x => decide (x.name = name)) xs 0) ∧ s' = s := by
  refine ok_IndexFuncX a an ac p q _ s ?_
  unfold vc_IndexFuncX
  have hlen := h.1
  simp only [RP_loop]
  refine ⟨fun z s' => ∃ k : Nat, z = (((an : Int), ()), ((k : Int), ()), ()) ∧ k ≤ an ∧ s' = s ∧ seek (fun x => decide (x.name = name)) (xs.drop k) k = seek (fun x => decide (x.name = name)) xs 0, fun z _ => an - z.2.1.1.toNat, ⟨0, rfl, Nat.zero_le _, rfl, rfl⟩, ?_⟩
  rintro _ s ⟨k, rfl, hk, rfl, hs⟩
  simp [W.br_iff]
  refine ⟨fun hlt => ⟨hlt, ?_⟩, fun hge => ?_⟩
  · obtain ⟨x, hx⟩ : ∃ x, xs[k]? = some x := ⟨_, List.getElem?_eq_getElem (by omega)⟩
    obtain ⟨ad, rfl, hh⟩ := h.at_enc hx
    simp only [W.unSome_some]
    refine ld_has_z hh (y := (x.id, x.name, x.column, x.unique, x.state, ())) rfl ?_
    refine W.call_of (c_find3 x hp hq) ?_
    rintro _ s ⟨rfl, rfl⟩
    refine ⟨((decide (x.name = name), ()), ()), rfl, ?_⟩
    rw [seek_step hx] at hs
    simp [W.br_iff, wrap_succ (k := k) (by omega)]
    refine ⟨fun he => ?_, fun he => ⟨⟨k + 1, by simp, hlt, ?_⟩, by omega⟩⟩
    · rw [← hs, if_pos (by simpa using he)]
    · rw [← hs, if_neg (by simpa using he)]
  · rw [← hs, seek_end (by omega)]
theorem c_findX {a : Option Addr} {an ac : Nat} {s : PH} {xs : List Idx} (h : elems (Rd.enc idxE) s a an xs) (hn : xs.length ≤ 4294967296) (name : ByteArray) :
    DCalls Try.prog 125 #[.slice a an ac, .string name, .func (.func 96) #[] #[]] s fun y s' => y = .int .i64 (seek (fun x => decide (x.name = name)) xs 0) ∧ s' = s := by
  refine DCalls.quiet (ok_findX a an ac name _ s ?_)
  unfold vc_findX
  simp only [RP_nw]
  refine W.nw_of fun r s1 hr m1 k1 => ?_
  refine W.nw_of fun r2 s2 hr2 m2 k2 => ?_
  have m12 := m1.trans m2
  refine W.call_of (c_IndexFuncX (h.mono m12.le) hn k2 (m2.at k1 (by simp))) ?_
  rintro _ s3 ⟨rfl, rfl⟩
  exact ⟨((seek (fun x => decide (x.name = name)) xs 0, ()), ()), rfl, rfl, m12⟩
theorem c_fForeign (x : For) (s : PH) : DCalls Try.prog 98 #[forV x] s fun y s' => y = .string x.name ∧ s' = s := by
  refine ok_fForeign x.id x.name x.column x.parent x.state _ s ?_
  unfold vc_fForeign
  simp
theorem c_find4 (x : For) {p q : Nat} {s : PH} {name : ByteArray} {ft : TypeId} (hp : s p = some (.cells #[.func (.func 98) #[] #[]] ft (0, 0))) (hq : s q = some (.cells #[.string name] 9 (0, 0))) :
    DCalls Try.prog 144 #[forV x, cp p, cp q] s fun y s' => y = .bool (decide (x.name = name)) ∧ s' = s := by
  refine ok_find4 x.id x.name x.column x.parent x.state p q _ s ?_
  unfold vc_find4
  simp [W.ld_at hp, W.ld_at hq, toList_beq]
  refine callV_of' (cap := #[]) Try.func98 rfl (by kernel_rfl) (c_fForeign x s) ?_
  rintro _ s ⟨rfl, rfl⟩
  refine ⟨((x.name, ()), ()), rfl, ?_⟩
  simp [W.still_at hq, toList_beq]
theorem c_IndexFuncF {a : Option Addr} {an ac p q : Nat} {s : PH} {name : ByteArray} {ft : TypeId} {xs : List For} (h : elems (Rd.enc forE) s a an xs) (hn : xs.length ≤ 4294967296) (hp : s p = some (.cells #[.func (.func 98) #[] #[]] ft (0, 0))) (hq : s q = some (.cells #[.string name] 9 (0, 0))) :
    DCalls Try.prog 106 #[.slice a an ac, .func (.func 144) #[] #[cp p, cp q]] s fun y s' => y = .int .i64 (seek (fun x => decide (x.name = name)) xs 0) ∧ s' = s := by
  refine ok_IndexFuncF a an ac p q _ s ?_
  unfold vc_IndexFuncF
  have hlen := h.1
  simp only [RP_loop]
  refine ⟨fun z s' => ∃ k : Nat, z = (((an : Int), ()), ((k : Int), ()), ()) ∧ k ≤ an ∧ s' = s ∧ seek (fun x => decide (x.name = name)) (xs.drop k) k = seek (fun x => decide (x.name = name)) xs 0, fun z _ => an - z.2.1.1.toNat, ⟨0, rfl, Nat.zero_le _, rfl, rfl⟩, ?_⟩
  rintro _ s ⟨k, rfl, hk, rfl, hs⟩
  simp [W.br_iff]
  refine ⟨fun hlt => ⟨hlt, ?_⟩, fun hge => ?_⟩
  · obtain ⟨x, hx⟩ : ∃ x, xs[k]? = some x := ⟨_, List.getElem?_eq_getElem (by omega)⟩
    obtain ⟨ad, rfl, hh⟩ := h.at_enc hx
    simp only [W.unSome_some]
    refine ld_has_z hh (y := (x.id, x.name, x.column, x.parent, x.state, ())) rfl ?_
    refine W.call_of (c_find4 x hp hq) ?_
    rintro _ s ⟨rfl, rfl⟩
    refine ⟨((decide (x.name = name), ()), ()), rfl, ?_⟩
    rw [seek_step hx] at hs
    simp [W.br_iff, wrap_succ (k := k) (by omega)]
    refine ⟨fun he => ?_, fun he => ⟨⟨k + 1, by simp, hlt, ?_⟩, by omega⟩⟩
    · rw [← hs, if_pos (by simpa using he)]
    · rw [← hs, if_neg (by simpa using he)]
  · rw [← hs, seek_end (by omega)]
theorem c_findF {a : Option Addr} {an ac : Nat} {s : PH} {xs : List For} (h : elems (Rd.enc forE) s a an xs) (hn : xs.length ≤ 4294967296) (name : ByteArray) :
    DCalls Try.prog 129 #[.slice a an ac, .string name, .func (.func 98) #[] #[]] s fun y s' => y = .int .i64 (seek (fun x => decide (x.name = name)) xs 0) ∧ s' = s := by
  refine DCalls.quiet (ok_findF a an ac name _ s ?_)
  unfold vc_findF
  simp only [RP_nw]
  refine W.nw_of fun r s1 hr m1 k1 => ?_
  refine W.nw_of fun r2 s2 hr2 m2 k2 => ?_
  have m12 := m1.trans m2
  refine W.call_of (c_IndexFuncF (h.mono m12.le) hn k2 (m2.at k1 (by simp))) ?_
  rintro _ s3 ⟨rfl, rfl⟩
  exact ⟨((seek (fun x => decide (x.name = name)) xs 0, ()), ()), rfl, rfl, m12⟩
theorem c_fTable (x : TabP) (s : PH) : DCalls Try.prog 46 #[tabV x.T x.c x.x x.k] s fun y s' => y = .string x.T.name ∧ s' = s := by
  refine ok_fTable x.T.id x.T.name x.c.1 x.c.2.1 x.c.2.2 x.x.1 x.x.2.1 x.x.2.2 x.k.1 x.k.2.1 x.k.2.2 _ s ?_
  unfold vc_fTable
  simp
theorem c_find1 (x : TabP) {p q : Nat} {s : PH} {name : ByteArray} {ft : TypeId} (hp : s p = some (.cells #[.func (.func 46) #[] #[]] ft (0, 0))) (hq : s q = some (.cells #[.string name] 9 (0, 0))) :
    DCalls Try.prog 89 #[tabV x.T x.c x.x x.k, cp p, cp q] s fun y s' => y = .bool (decide (x.T.name = name)) ∧ s' = s := by
  refine ok_find1 x.T.id x.T.name x.c.1 x.c.2.1 x.c.2.2 x.x.1 x.x.2.1 x.x.2.2 x.k.1 x.k.2.1 x.k.2.2 p q _ s ?_
  unfold vc_find1
  simp [W.ld_at hp, W.ld_at hq, toList_beq]
  refine callV_of' (cap := #[]) Try.func46 rfl (by kernel_rfl) (c_fTable x s) ?_
  rintro _ s ⟨rfl, rfl⟩
  refine ⟨((x.T.name, ()), ()), rfl, ?_⟩
  simp [W.still_at hq, toList_beq]
theorem c_IndexFuncT {a : Option Addr} {an ac p q : Nat} {s : PH} {name : ByteArray} {ft : TypeId} {xs : List TabP} (h : elems (Rd.enc tabE) s a an xs) (hn : xs.length ≤ 4294967296) (hp : s p = some (.cells #[.func (.func 46) #[] #[]] ft (0, 0))) (hq : s q = some (.cells #[.string name] 9 (0, 0))) :
    DCalls Try.prog 88 #[.slice a an ac, .func (.func 89) #[] #[cp p, cp q]] s fun y s' => y = .int .i64 (seek (fun x => decide (x.T.name = name)) xs 0) ∧ s' = s := by
  refine ok_IndexFuncT a an ac p q _ s ?_
  unfold vc_IndexFuncT
  have hlen := h.1
  simp only [RP_loop]
  refine ⟨fun z s' => ∃ k : Nat, z = (((an : Int), ()), ((k : Int), ()), ()) ∧ k ≤ an ∧ s' = s ∧ seek (fun x => decide (x.T.name = name)) (xs.drop k) k = seek (fun x => decide (x.T.name = name)) xs 0, fun z _ => an - z.2.1.1.toNat, ⟨0, rfl, Nat.zero_le _, rfl, rfl⟩, ?_⟩
  rintro _ s ⟨k, rfl, hk, rfl, hs⟩
  simp [W.br_iff]
  refine ⟨fun hlt => ⟨hlt, ?_⟩, fun hge => ?_⟩
  · obtain ⟨x, hx⟩ : ∃ x, xs[k]? = some x := ⟨_, List.getElem?_eq_getElem (by omega)⟩
    obtain ⟨ad, rfl, hh⟩ := h.at_enc hx
    simp only [W.unSome_some]
    refine ld_has_z hh (y := (x.T.id, x.T.name, x.c, x.x, x.k, ())) rfl ?_
    refine W.call_of (c_find1 x hp hq) ?_
    rintro _ s ⟨rfl, rfl⟩
    refine ⟨((decide (x.T.name = name), ()), ()), rfl, ?_⟩
    rw [seek_step hx] at hs
    simp [W.br_iff, wrap_succ (k := k) (by omega)]
    refine ⟨fun he => ?_, fun he => ⟨⟨k + 1, by simp, hlt, ?_⟩, by omega⟩⟩
    · rw [← hs, if_pos (by simpa using he)]
    · rw [← hs, if_neg (by simpa using he)]
  · rw [← hs, seek_end (by omega)]
theorem c_findT {a : Option Addr} {an ac : Nat} {s : PH} {xs : List TabP} (h : elems (Rd.enc tabE) s a an xs) (hn : xs.length ≤ 4294967296) (name : ByteArray) :
    DCalls Try.prog 45 #[.slice a an ac, .string name, .func (.func 46) #[] #[]] s fun y s' => y = .int .i64 (seek (fun x => decide (x.T.name = name)) xs 0) ∧ s' = s := by
  refine DCalls.quiet (ok_findT a an ac name _ s ?_)
  unfold vc_findT
  simp only [RP_nw]
  refine W.nw_of fun r s1 hr m1 k1 => ?_
  refine W.nw_of fun r2 s2 hr2 m2 k2 => ?_
  have m12 := m1.trans m2
  refine W.call_of (c_IndexFuncT (h.mono m12.le) hn k2 (m2.at k1 (by simp))) ?_
  rintro _ s3 ⟨rfl, rfl⟩
  exact ⟨((seek (fun x => decide (x.T.name = name)) xs 0, ()), ()), rfl, rfl, m12⟩
end Go.Proofs.Ythepfbcgpbkbdaa
end
section
set_option linter.unusedVariables false
set_option linter.unusedSimpArgs false
set_option maxHeartbeats 1000000
set_option maxRecDepth 100000
namespace Go.Proofs.Ythepfbcgpbkbdaa
open Fw Go
attribute [-simp] Fw.W.ld_iff Fw.W.st_iff
theorem seek_map {α β : Type} (f : α → β) (p : β → Bool) : ∀ (l : List α) (i : Nat), seek p (l.map f) i = seek (fun x => p (f x)) l i
  | [], i => rfl
  | x :: l, i => by simp only [List.map_cons, seek, seek_map f p l]
def tabAt (S : Sch) (name : ByteArray) : Int := seek (fun T : Tab => decide (T.name = name)) S.tabs 0
def tabOf (S : Sch) (id : Int) : Int := seek (fun T : Tab => decide (T.id = id)) S.tabs 0
def colAt (T : Tab) (name : ByteArray) : Int := seek (fun c : Col => decide (c.name = name)) T.cols 0
def colOf (T : Tab) (id : Int) : Int := seek (fun c : Col => decide (c.id = id)) T.cols 0
def idxAt (T : Tab) (name : ByteArray) : Int := seek (fun c : Idx => decide (c.name = name)) T.idxs 0
def keyAt (T : Tab) (name : ByteArray) : Int := seek (fun c : For => decide (c.name = name)) T.keys 0
theorem c_findT' {s : PH} {t : Tri} {S : Sch} {ps : List TabP} (h : SchIs s t S ps) (name : ByteArray) : DCalls Try.prog 45 #[.slice t.1 t.2.1 t.2.2, .string name, .func (.func 46) #[] #[]] s fun y s' => y = .int .i64 (tabAt S name) ∧ s' = s := by
  unfold tabAt; rw [h.eq, seek_map]
  exact c_findT h.el.el h.el.few name
theorem c_at1 (x : Col) {p : Nat} {s : PH} {id : Int} (hp : s p = some (.cells #[.int .i64 id] 3 (0, 0))) : DCalls Try.prog 134 #[colV x, cp p] s fun y s' => y = .bool (decide (x.id = id)) ∧ s' = s := by
  refine ok_at1 x.id x.name x.kind x.state x.dflt.kind x.dflt.n x.dflt.s p _ s ?_
  unfold vc_at1
  simp [W.ld_at hp, beq_dec]
theorem c_IndexFuncAt {a : Option Addr} {an ac p : Nat} {s : PH} {id : Int} {xs : List Col} (h : elems (Rd.enc colE) s a an xs) (hn : xs.length ≤ 4294967296) (hp : s p = some (.cells #[.int .i64 id] 3 (0, 0))) :
    DCalls Try.prog 104 #[.slice a an ac, .func (.func 134) #[] #[cp p]] s fun y s' => y = .int .i64 (seek (fun x => decide (x.id = id)) xs 0) ∧ s' = s := by
  refine ok_IndexFuncAt a an ac p _ s ?_
  unfold vc_IndexFuncAt
  have hlen := h.1
  simp only [RP_loop]
  refine ⟨fun z s' => ∃ k : Nat, z = (((an : Int), ()), ((k : Int), ()), ()) ∧ k ≤ an ∧ s' = s ∧ seek (fun x => decide (x.id = id)) (xs.drop k) k = seek (fun x => decide (x.id = id)) xs 0, fun z _ => an - z.2.1.1.toNat, ⟨0, rfl, Nat.zero_le _, rfl, rfl⟩, ?_⟩
  rintro _ s ⟨k, rfl, hk, rfl, hs⟩
  simp [W.br_iff]
  refine ⟨fun hlt => ⟨hlt, ?_⟩, fun hge => ?_⟩
  · obtain ⟨x, hx⟩ : ∃ x, xs[k]? = some x := ⟨_, List.getElem?_eq_getElem (by omega)⟩
    obtain ⟨ad, rfl, hh⟩ := h.at_enc hx
    simp only [W.unSome_some]
    refine ld_has_z hh (y := (x.id, x.name, x.kind, x.state, x.dflt.kind, x.dflt.n, x.dflt.s, ())) rfl ?_
    refine W.call_of (c_at1 x hp) ?_
    rintro _ s ⟨rfl, rfl⟩
    refine ⟨((decide (x.id = id), ()), ()), rfl, ?_⟩
    rw [seek_step hx] at hs
    simp [W.br_iff, wrap_succ (k := k) (by omega)]
    refine ⟨fun he => ?_, fun he => ⟨⟨k + 1, by simp, hlt, ?_⟩, by omega⟩⟩
    · rw [← hs, if_pos (by simpa using he)]
    · rw [← hs, if_neg (by simpa using he)]
  · rw [← hs, seek_end (by omega)]
theorem c_byId1 (x : TabP) {p : Nat} {s : PH} {id : Int} (hp : s p = some (.cells #[.int .i64 id] 3 (0, 0))) : DCalls Try.prog 135 #[tabV x.T x.c x.x x.k, cp p] s fun y s' => y = .bool (decide (x.T.id = id)) ∧ s' = s := by
  refine ok_byId1 x.T.id x.T.name x.c.1 x.c.2.1 x.c.2.2 x.x.1 x.x.2.1 x.x.2.2 x.k.1 x.k.2.1 x.k.2.2 p _ s ?_
  unfold vc_byId1
  simp [W.ld_at hp, beq_dec]
theorem c_IndexFuncById {a : Option Addr} {an ac p : Nat} {s : PH} {id : Int} {xs : List TabP} (h : elems (Rd.enc tabE) s a an xs) (hn : xs.length ≤ 4294967296) (hp : s p = some (.cells #[.int .i64 id] 3 (0, 0))) :
    DCalls Try.prog 88 #[.slice a an ac, .func (.func 135) #[] #[cp p]] s fun y s' => y = .int .i64 (seek (fun x => decide (x.T.id = id)) xs 0) ∧ s' = s := by
  refine ok_IndexFuncById a an ac p _ s ?_
  unfold vc_IndexFuncById
  have hlen := h.1
  simp only [RP_loop]
  refine ⟨fun z s' => ∃ k : Nat, z = (((an : Int), ()), ((k : Int), ()), ()) ∧ k ≤ an ∧ s' = s ∧ seek (fun x => decide (x.T.id = id)) (xs.drop k) k = seek (fun x => decide (x.T.id = id)) xs 0, fun z _ => an - z.2.1.1.toNat, ⟨0, rfl, Nat.zero_le _, rfl, rfl⟩, ?_⟩
  rintro _ s ⟨k, rfl, hk, rfl, hs⟩
  simp [W.br_iff]
  refine ⟨fun hlt => ⟨hlt, ?_⟩, fun hge => ?_⟩
  · obtain ⟨x, hx⟩ : ∃ x, xs[k]? = some x := ⟨_, List.getElem?_eq_getElem (by omega)⟩
    obtain ⟨ad, rfl, hh⟩ := h.at_enc hx
    simp only [W.unSome_some]
    refine ld_has_z hh (y := (x.T.id, x.T.name, x.c, x.x, x.k, ())) rfl ?_
    refine W.call_of (c_byId1 x hp) ?_
    rintro _ s ⟨rfl, rfl⟩
    refine ⟨((decide (x.T.id = id), ()), ()), rfl, ?_⟩
    rw [seek_step hx] at hs
    simp [W.br_iff, wrap_succ (k := k) (by omega)]
    refine ⟨fun he => ?_, fun he => ⟨⟨k + 1, by simp, hlt, ?_⟩, by omega⟩⟩
    · rw [← hs, if_pos (by simpa using he)]
    · rw [← hs, if_neg (by simpa using he)]
  · rw [← hs, seek_end (by omega)]
theorem c_at {s : PH} {p : TabP} (h : Sl colE s p.c p.T.cols) (id : Int) : DCalls Try.prog 102 #[tabV p.T p.c p.x p.k, .int .i64 id] s fun y s' => y = .int .i64 (colOf p.T id) ∧ s' = s := by
  refine DCalls.quiet (ok_at p.T.id p.T.name p.c.1 p.c.2.1 p.c.2.2 p.x.1 p.x.2.1 p.x.2.2 p.k.1 p.k.2.1 p.k.2.2 id _ s ?_)
  unfold vc_at
  simp only [RP_nw]
  refine W.nw_of fun r s1 hr m1 k1 => ?_
  refine W.call_of (c_IndexFuncAt (h.el.mono m1.le) h.few k1) ?_
  rintro _ s3 ⟨rfl, rfl⟩
  exact ⟨((colOf p.T id, ()), ()), rfl, rfl, m1⟩
theorem c_byId {s : PH} {t : Tri} {S : Sch} {ps : List TabP} (h : SchIs s t S ps) (id : Int) : DCalls Try.prog 103 #[schV S t, .int .i64 id] s fun y s' => y = .int .i64 (tabOf S id) ∧ s' = s := by
  refine DCalls.quiet (ok_byId S.version S.last t.1 t.2.1 t.2.2 id _ s ?_)
  unfold vc_byId
  simp only [RP_nw]
  refine W.nw_of fun r s1 hr m1 k1 => ?_
  refine W.call_of (c_IndexFuncById (h.el.el.mono m1.le) h.el.few k1) ?_
  rintro _ s3 ⟨rfl, rfl⟩
  refine ⟨((tabOf S id, ()), ()), ?_, rfl, m1⟩
  unfold tabOf; rw [h.eq, seek_map]; (first | done | rfl)
/-- append([]T{}, ..) of what can be read -/
theorem row_copy {α : Type} {E : Enc α} {s : PH} {e : TypeId} {bytes k : Nat} {zero : List Value} {src : Src} {xs : List α} {K : Option Addr → Nat → Nat → W.T} (hs : srcIs s E.sz src (xs.flatMap E.f)) (hk : src.len = k) (hn : xs.length = k) (hl : k ≤ 4294967296) (hb : k * bytes ≤ 140737488355328) (hz : zero.length = E.sz)
    (hK : ∀ a' c' s', rowE E s' e a' k c' xs → Fw.Mod [] s s' → (∀ g ∈ Fw.blk a', s g = none) → K a' k c' s') : W.nw (.cells #[] e (0, 0)) (fun r => W.app e E.sz bytes zero (some ⟨r, 0, none⟩) 0 0 src K) s := by
  refine W.nw_of fun r s1 hr m1 k1 => ?_
  have hmax : maxLen = 9223372036854775807 := rfl
  have hsrc : srcIs s1 E.sz src (xs.flatMap E.f) := by
    cases src with
    | sl a m => cases a with
      | none => exact hs
      | some a => exact ⟨hs.1, hs.2.mono m1.le⟩
    | str b => exact hs
  have hnil : rowE E s1 e (some ⟨r, 0, none⟩) 0 0 ([] : List α) := ⟨by simp, Nat.le_refl _, Nat.zero_le _, .inr ⟨r, _, rfl, k1, by simp, by simp⟩⟩
  refine app_rowE (E := E) (k := k) (ys := xs) hnil hz hsrc hk hn (by omega) (by simpa using hb) ?_
  intro a' c' s2 hrow hm
  simp only [List.nil_append, Nat.zero_add] at hrow ⊢
  rcases hm with ⟨rfl, hm⟩ | ⟨g, rfl, hg, hm⟩
  · exact hK _ _ _ hrow (m1.fresh hm (by simp [Fw.blk, hr])) (by simp [Fw.blk, hr])
  · exact hK _ _ _ hrow (m1.trans hm) (by simp [Fw.blk]; exact m1.none hg (by simp))
theorem c_CloneC {s : PH} {t : Tri} {xs : List Col} (h : Sl colE s t xs) : DCalls Try.prog 66 #[.slice t.1 t.2.1 t.2.2] s fun y s' => ∃ u : Tri, y = u.v ∧ rowE colE s' 44 u.1 u.2.1 u.2.2 xs ∧ Fw.Mod [] s s' ∧ ∀ g ∈ Fw.blk u.1, s g = none := by
  obtain ⟨a, an, ac⟩ := t
  refine ok_CloneC a an ac _ s ?_
  unfold vc_CloneC
  have hlen := h.len
  have hfew := h.few
  dsimp only at hlen
  simp only [RP_ite, W.br_iff]
  refine ⟨fun hnone => ?_, fun hsome => ?_⟩
  · cases a with
    | some ad => cases hnone
    | none =>
      have : xs = [] := by
        cases xs with
        | nil => rfl
        | cons x xs => obtain ⟨ad, h1, _⟩ := h.el.at_enc (i := 0) rfl; cases h1
      subst this
      exact ⟨noTri, rfl, rowE.nil, Mod.refl _ _, by simp [Fw.blk]⟩
  · simp only [RP_nw]
    refine row_copy (E := colE) (k := an) h.el.src_enc rfl hlen.symm (by omega) (by omega) rfl ?_
    intro a' c' s' hrow hm hf
    exact ⟨(a', an, c'), rfl, hrow, hm, hf⟩
theorem c_CloneX {s : PH} {t : Tri} {xs : List Idx} (h : Sl idxE s t xs) : DCalls Try.prog 75 #[.slice t.1 t.2.1 t.2.2] s fun y s' => ∃ u : Tri, y = u.v ∧ rowE idxE s' 106 u.1 u.2.1 u.2.2 xs ∧ Fw.Mod [] s s' ∧ ∀ g ∈ Fw.blk u.1, s g = none := by
  obtain ⟨a, an, ac⟩ := t
  refine ok_CloneX a an ac _ s ?_
  unfold vc_CloneX
  have hlen := h.len
  have hfew := h.few
  dsimp only at hlen
  simp only [RP_ite, W.br_iff]
  refine ⟨fun hnone => ?_, fun hsome => ?_⟩
  · cases a with
    | some ad => cases hnone
    | none =>
      have : xs = [] := by
        cases xs with
        | nil => rfl
        | cons x xs => obtain ⟨ad, h1, _⟩ := h.el.at_enc (i := 0) rfl; cases h1
      subst this
      exact ⟨noTri, rfl, rowE.nil, Mod.refl _ _, by simp [Fw.blk]⟩
  · simp only [RP_nw]
    refine row_copy (E := idxE) (k := an) h.el.src_enc rfl hlen.symm (by omega) (by omega) rfl ?_
    intro a' c' s' hrow hm hf
    exact ⟨(a', an, c'), rfl, hrow, hm, hf⟩
theorem c_CloneF {s : PH} {t : Tri} {xs : List For} (h : Sl forE s t xs) : DCalls Try.prog 76 #[.slice t.1 t.2.1 t.2.2] s fun y s' => ∃ u : Tri, y = u.v ∧ rowE forE s' 109 u.1 u.2.1 u.2.2 xs ∧ Fw.Mod [] s s' ∧ ∀ g ∈ Fw.blk u.1, s g = none := by
  obtain ⟨a, an, ac⟩ := t
  refine ok_CloneF a an ac _ s ?_
  unfold vc_CloneF
  have hlen := h.len
  have hfew := h.few
  dsimp only at hlen
  simp only [RP_ite, W.br_iff]
  refine ⟨fun hnone => ?_, fun hsome => ?_⟩
  · cases a with
    | some ad => cases hnone
    | none =>
      have : xs = [] := by
        cases xs with
        | nil => rfl
        | cons x xs => obtain ⟨ad, h1, _⟩ := h.el.at_enc (i := 0) rfl; cases h1
      subst this
      exact ⟨noTri, rfl, rowE.nil, Mod.refl _ _, by simp [Fw.blk]⟩
  · simp only [RP_nw]
    refine row_copy (E := forE) (k := an) h.el.src_enc rfl hlen.symm (by omega) (by omega) rfl ?_
    intro a' c' s' hrow hm hf
    exact ⟨(a', an, c'), rfl, hrow, hm, hf⟩
/-- lists of a table of one's own: they lie in blocks of their own -/
structure Own (s : PH) (p : TabP) : Prop where
  c : rowE colE s 44 p.c.1 p.c.2.1 p.c.2.2 p.T.cols
  x : rowE idxE s 106 p.x.1 p.x.2.1 p.x.2.2 p.T.idxs
  k : rowE forE s 109 p.k.1 p.k.2.1 p.k.2.2 p.T.keys
def TabP.L (p : TabP) : List Nat := Fw.blk p.c.1 ++ (Fw.blk p.x.1 ++ Fw.blk p.k.1)
theorem Own.known {s : PH} {p : TabP} (h : Own s p) : ∀ g ∈ p.L, s g ≠ none := by
  intro g hg
  simp only [TabP.L, List.mem_append] at hg
  rcases hg with hg | hg | hg
  · exact h.c.known g hg
  · exact h.x.known g hg
  · exact h.k.known g hg
theorem Own.mod {s s' : PH} {p : TabP} {M : List Nat} (h : Own s p) (hm : Fw.Mod M s s') (hd : ∀ g ∈ p.L, g ∉ M) : Own s' p := by
  simp only [TabP.L, List.mem_append] at hd
  exact ⟨h.c.mod hm fun g hg => hd g (.inl hg), h.x.mod hm fun g hg => hd g (.inr (.inl hg)), h.k.mod hm fun g hg => hd g (.inr (.inr hg))⟩
theorem Sl.of_row {α : Type} {E : Enc α} {s : PH} {e : TypeId} {t : Tri} {xs : List α} (h : rowE E s e t.1 t.2.1 t.2.2 xs) (hf : xs.length ≤ 4294967296) : Sl E s t xs := ⟨elems.of_row h, h.le, hf⟩
def Tab.Few (T : Tab) : Prop := T.cols.length ≤ 4294967296 ∧ T.idxs.length ≤ 4294967296 ∧ T.keys.length ≤ 4294967296
theorem Own.is {s : PH} {p : TabP} (h : Own s p) (hf : p.T.Few) : TabIs s p := ⟨.of_row h.c hf.1, .of_row h.x hf.2.1, .of_row h.k hf.2.2⟩
theorem TabIs.few {s : PH} {p : TabP} (h : TabIs s p) : p.T.Few := ⟨h.c.few, h.x.few, h.k.few⟩
theorem blk_nodup (a : Option Addr) : (Fw.blk a).Nodup := by cases a <;> simp [Fw.blk]
theorem c_copied {s : PH} {p : TabP} (h : TabIs s p) : DCalls Try.prog 38 #[tabV p.T p.c p.x p.k] s fun y s' => ∃ q : TabP, y = tabV q.T q.c q.x q.k ∧ q.T = p.T ∧ Own s' q ∧ Fw.Mod [] s s' ∧ (∀ g ∈ q.L, s g = none) ∧ q.L.Nodup := by
  refine ok_copied p.T.id p.T.name p.c.1 p.c.2.1 p.c.2.2 p.x.1 p.x.2.1 p.x.2.2 p.k.1 p.k.2.1 p.k.2.2 _ s ?_
  unfold vc_copied
  simp only [RP_call]
  refine W.call_of (c_CloneC h.c) ?_
  rintro _ s1 ⟨u1, rfl, h1, m1, f1⟩
  refine ⟨((u1, ()), ()), rfl, ?_⟩
  refine W.call_of (c_CloneX (h.x.mono m1.le)) ?_
  rintro _ s2 ⟨u2, rfl, h2, m2, f2⟩
  refine ⟨((u2, ()), ()), rfl, ?_⟩
  refine W.call_of (c_CloneF (h.k.mono (m1.trans m2).le)) ?_
  rintro _ s3 ⟨u3, rfl, h3, m3, f3⟩
  refine ⟨((u3, ()), ()), rfl, ?_⟩
  refine ⟨⟨p.T, u1, u2, u3⟩, rfl, rfl, ⟨(h1.mod m2 (by simp)).mod m3 (by simp), h2.mod m3 (by simp), h3⟩, (m1.trans m2).trans m3, ?_, ?_⟩
  · intro g hg
    simp only [TabP.L, List.mem_append] at hg
    rcases hg with hg | hg | hg
    · exact f1 g hg
    · exact m1.none (f2 g hg) (by simp)
    · exact (m1.trans m2).none (f3 g hg) (by simp)
  · simp only [TabP.L, List.nodup_append]
    refine ⟨blk_nodup _, ⟨blk_nodup _, blk_nodup _, ?_⟩, ?_⟩
    · rintro g hg _ hg2 rfl
      exact h2.known g hg (f3 g hg2)
    · rintro g hg _ hg2 rfl
      rcases List.mem_append.1 hg2 with hg2 | hg2
      · exact h1.known g hg (f2 g hg2)
      · exact (h1.mod m2 (by simp)).known g hg (f3 g hg2)
end Go.Proofs.Ythepfbcgpbkbdaa
end
section
set_option linter.unusedVariables false
set_option linter.unusedSimpArgs false
set_option maxHeartbeats 1000000
set_option maxRecDepth 100000
namespace Go.Proofs.Ythepfbcgpbkbdaa
open Fw Go
attribute [-simp] Fw.W.ld_iff Fw.W.st_iff
def intE : Enc Int where
  sz := 1
  f n := [.int .i64 n]
  len _ := rfl
  one p v hv := by simp at hv; subst hv; (first | done | rfl)
  pos := by omega
end Go.Proofs.Ythepfbcgpbkbdaa
end
section
set_option linter.unusedVariables false
set_option linter.unusedSimpArgs false
set_option maxHeartbeats 1000000
set_option maxRecDepth 100000
namespace Go.Proofs.Ythepfbcgpbkbdaa
open Fw Go
attribute [-simp] Fw.W.ld_iff Fw.W.st_iff
def Sm (t : ByteArray) : Prop := t.size ≤ 281474976710656
def Col.Sm (c : Col) : Prop := c.name.size ≤ 281474976710656 ∧ c.dflt.s.size ≤ 281474976710656
theorem get_mem {α : Type} {l : List α} {k : Nat} {x : α} (h : l[k]? = some x) : x ∈ l := List.mem_of_getElem? h
/-- names are no longer than a machine's, and there are not too many of all -/
structure Tab.Sm (T : Tab) : Prop where
  name : T.name.size ≤ 281474976710656
  cols : ∀ c ∈ T.cols, c.Sm
  idxs : ∀ x ∈ T.idxs, x.name.size ≤ 281474976710656
  keys : ∀ x ∈ T.keys, x.name.size ≤ 281474976710656
def Tab.cost (T : Tab) : Nat := 1 + T.cols.length + T.idxs.length + T.keys.length
def Sch.cost (S : Sch) : Nat := (S.tabs.map Tab.cost).sum
structure Sch.Sm (S : Sch) : Prop where
  tabs : ∀ T ∈ S.tabs, T.Sm
  cost : S.cost ≤ 1000
end Go.Proofs.Ythepfbcgpbkbdaa
end
section
set_option linter.unusedVariables false
set_option linter.unusedSimpArgs false
set_option maxHeartbeats 1000000
set_option maxRecDepth 100000
namespace Go.Proofs.Ythepfbcgpbkbdaa
open Fw Go
attribute [-simp] Fw.W.ld_iff Fw.W.st_iff
def upTo (c : Nat → Bool) (k : Nat) : Bool := (List.range k).all c
theorem upTo_zero (c : Nat → Bool) : upTo c 0 = true := rfl
theorem upTo_succ (c : Nat → Bool) (k : Nat) : upTo c (k + 1) = (upTo c k && c k) := by
  unfold upTo; rw [List.range_succ, List.all_append]; simp
theorem upTo_no {c : Nat → Bool} {k n : Nat} (h : c k = false) (hk : k < n) : upTo c n = false := by
  have key : ∀ d, upTo c (k + 1 + d) = false := by
    intro d
    induction d with
    | zero => rw [Nat.add_zero, upTo_succ, h, Bool.and_false]
    | succ d ih => rw [← Nat.add_assoc, upTo_succ, ih, Bool.false_and]
  have := key (n - (k + 1))
  rwa [show k + 1 + (n - (k + 1)) = n by omega] at this
theorem upTo_iff {c : Nat → Bool} {n : Nat} : upTo c n = true ↔ ∀ i, i < n → c i = true := by
  unfold upTo; simp [List.all_eq_true]
def condI {α : Type} (p : Nat → α → Bool) (xs : List α) (i : Nat) : Bool := match xs[i]? with | some x => p i x | none => true
theorem condI_at {α : Type} {p : Nat → α → Bool} {xs : List α} {i : Nat} {x : α} (h : xs[i]? = some x) : condI p xs i = p i x := by unfold condI; rw [h]
def allI {α : Type} (p : Nat → α → Bool) (xs : List α) : Bool := upTo (condI p xs) xs.length
def stateB (n : Int) : Bool := decide (1 ≤ n) && decide (n ≤ 3)
def nameC (xs : List Col) (i : Nat) (x : Col) : Bool := named x.name && decide (seek (fun y : Col => decide (y.name = x.name)) xs 0 = i)
def nameX (xs : List Idx) (i : Nat) (x : Idx) : Bool := named x.name && decide (seek (fun y : Idx => decide (y.name = x.name)) xs 0 = i)
def nameF (xs : List For) (i : Nat) (x : For) : Bool := named x.name && decide (seek (fun y : For => decide (y.name = x.name)) xs 0 = i)
def nameT (xs : List Tab) (i : Nat) (x : Tab) : Bool := named x.name && decide (seek (fun y : Tab => decide (y.name = x.name)) xs 0 = i)
def namesB {α : Type} (p : List α → Nat → α → Bool) (least most : Int) (xs : List α) : Bool := decide (least ≤ xs.length) && (decide ((xs.length : Int) ≤ most) && allI (p xs) xs)
def runIds (last : Int) : List Int → List Int → Bool
  | [], _ => true
  | n :: l, seen => (decide (1 ≤ n) && decide (n ≤ last)) && (!decide (n ∈ seen) && runIds last l (n :: seen))
def idsOf (T : Tab) : List Int := T.id :: (T.cols.map (·.id) ++ (T.idxs.map (·.id) ++ T.keys.map (·.id)))
def colB (_ : Nat) (c : Col) : Bool := stateB c.state && (typed c.kind && fits c.dflt c.kind)
def idxB (T : Tab) (_ : Nat) (x : Idx) : Bool := stateB x.state && decide (0 ≤ colOf T x.column)
def parB (S : Sch) (T : Tab) (x : For) : Bool :=
  match S.tabs[(tabOf S x.parent).toNat]?, T.cols[(colOf T x.column).toNat]? with
  | some P, some c => (match P.cols with | c0 :: _ => decide (c.kind = c0.kind) | [] => false)
  | _, _ => false
def keyB (S : Sch) (T : Tab) (_ : Nat) (x : For) : Bool := stateB x.state && (decide (0 ≤ colOf T x.column) && (decide (0 ≤ tabOf S x.parent) && parB S T x))
def first3 (T : Tab) : Bool := match T.cols with | c :: _ => decide (c.state = 3) | [] => false
def tabB (S : Sch) (T : Tab) : Bool := namesB nameC 1 8 T.cols && (namesB nameX 0 8 T.idxs && (namesB nameF 0 8 T.keys && (first3 T && (allI colB T.cols && (allI (idxB T) T.idxs && allI (keyB S T) T.keys)))))
def headB (S : Sch) : Bool := decide (0 ≤ S.version) && (decide (S.version ≤ 1125899906842624) && (decide (0 ≤ S.last) && decide (S.last ≤ 1125899906842624)))
def right (S : Sch) : Bool := headB S && (namesB nameT 0 6 S.tabs && (allI (fun _ T => tabB S T) S.tabs && runIds S.last (S.tabs.flatMap idsOf) []))
theorem runIds_app (last : Int) : ∀ (a b seen : List Int), runIds last (a ++ b) seen = (runIds last a seen && runIds last b (a.reverse ++ seen))
  | [], b, seen => by simp [runIds]
  | n :: a, b, seen => by
    simp only [List.cons_append, runIds, runIds_app last a b, List.reverse_cons, List.append_assoc, List.nil_append, List.cons_append]
    cases decide (1 ≤ n) && decide (n ≤ last) <;> cases !decide (n ∈ seen) <;> simp
def boolV (b : Bool) : Value := .bool b
/-- the checker's own, at c; its map at m; what it has seen, if all is well -/
structure Ck (s : PH) (c m : Nat) (last : Int) (bad : Bool) (seen : List Int) : Prop where
  cell : s c = some (.cells #[.int .i64 last, .map (some m), .bool bad] 114 (0, 0))
  map : ∃ f, isMap (intKey .i64) boolV s m f ∧ (bad = false → ∀ n, f.lookup n = if n ∈ seen then some true else none)
theorem Ck.ne {s : PH} {c m : Nat} {last : Int} {bad : Bool} {seen : List Int} (h : Ck s c m last bad seen) : c ≠ m := by
  rintro rfl
  obtain ⟨f, ⟨es, k, h1, _⟩, _⟩ := h.map
  rw [h.cell] at h1; cases h1
theorem Ck.mod {s s' : PH} {c m : Nat} {last : Int} {bad : Bool} {seen : List Int} {M : List Nat} (h : Ck s c m last bad seen) (hm : Fw.Mod M s s') (hc : c ∉ M) (hmm : m ∉ M) : Ck s' c m last bad seen := by
  obtain ⟨f, hf, hs⟩ := h.map
  exact ⟨hm.at h.cell hc, f, hf.mod hm hmm, hs⟩
/-- its verdict is laid anew -/
theorem Ck.lay {s : PH} {c m : Nat} {last : Int} {bad bad' : Bool} {seen : List Int} (h : Ck s c m last bad seen) (hb : bad' = false → bad = false) {o : Obj} (ho : o = .cells #[.int .i64 last, .map (some m), .bool bad'] 114 (0, 0) := by rfl) : Ck (s.upd c o) c m last bad' seen := by
  subst ho
  obtain ⟨f, hf, hs⟩ := h.map
  exact ⟨PH.upd_same _ _ _, f, hf.other h.ne.symm, fun e => hs (hb e)⟩
def CkPost (c m : Nat) (last : Int) (bad : Bool) (seen : List Int) (s : PH) (x : Value) (s' : PH) : Prop := x = .tuple #[] ∧ Ck s' c m last bad seen ∧ Fw.Mod [c, m] s s'
section
variable {s : PH} {c m : Nat} {last : Int} {bad : Bool} {seen : List Int}
theorem ck_put {n : Int} {bad' : Bool} {K : W.T} (h : Ck s c m last bad seen) (hb : bad' = false → bad = false) (hK : ∀ s', Ck s' c m last bad' (n :: seen) → Fw.Mod [c, m] s s' → K s') :
    W.unSome (some (Addr.mk c 0 none)) (fun p => W.st (p.add 2) [.bool bad'] (W.unSome (some (Addr.mk c 0 none)) fun p => W.ld [.map] (p.add 1) fun x => W.mset (TypeDesc.int .i64) x.1 (.int .i64 n) (.bool true) K)) s := by
  have hc := h.cell
  simp only [W.unSome_some, add_mk, Nat.zero_add]
  rw [W.st_at hc]
  refine ⟨by simp, by simp, by simp [Value.oneCell'], ?_⟩
  show W.unSome _ _ (s.upd c (.cells #[.int .i64 last, .map (some m), .bool bad'] 114 (0, 0)))
  have h1 : Ck (s.upd c (.cells #[.int .i64 last, .map (some m), .bool bad'] 114 (0, 0))) c m last bad' seen := h.lay hb
  have hc1 := h1.cell
  simp [W.ld_at hc1]
  obtain ⟨f, hf, hs⟩ := h1.map
  refine mset_of (ke := intKey .i64) hf (v := true) fun o ho => ?_
  refine hK _ ⟨upd_at hc1 h1.ne o, _, ho, fun e k => ?_⟩ ((Mod.upd (L := [c, m]) (by simp)).updLater (.inl (by simp)))
  rw [lookup_aset, hs e]
  by_cases hk : k = n
  · subst hk; simp
  · have : (k == n) = false := by simpa using hk
    simp [this, hk]
theorem c_ckId (h : Ck s c m last bad seen) (n : Int) : DCalls Try.prog 92 #[cp c, .int .i64 n] s (CkPost c m last (bad || !((decide (1 ≤ n) && decide (n ≤ last)) && !decide (n ∈ seen))) (n :: seen) s) := by
  refine ok_ckId c n _ s ?_
  unfold vc_ckId
  have hc := h.cell
  simp [W.br_iff, W.ld_at hc]
  have fin : ∀ b', (b' = false → bad = false) → b' = (bad || !((decide (1 ≤ n) && decide (n ≤ last)) && !decide (n ∈ seen))) → W.unSome (some (Addr.mk c 0 none)) (fun p => W.st (p.add 2) [.bool b'] (W.unSome (some (Addr.mk c 0 none)) fun p => W.ld [.map] (p.add 1) fun x => W.mset (TypeDesc.int .i64) x.1 (.int .i64 n) (.bool true)
      (W.ret (CkPost c m last (bad || !((decide (1 ≤ n) && decide (n ≤ last)) && !decide (n ∈ seen))) (n :: seen) s) (.tuple #[])))) s := by
    intro b' hb he
    refine ck_put h hb fun s' h' m' => ?_
    rw [he] at h'
    exact ⟨rfl, h', m'⟩
  have fin' := fun b' h1 h2 => by have := fin b' h1 h2; simp at this; exact this
  refine ⟨fun hb => fin' true (fun e => by cases e) (by rw [hb]; (first | done | rfl)), fun hb => ⟨fun h1 => fin' true (fun e => by cases e) (by rw [decide_eq_false (p := 1 ≤ n) (by omega)]; simp), fun h1 => ⟨fun h2 => fin' true (fun e => by cases e) (by rw [decide_eq_false (p := n ≤ last) (by omega)]; simp), fun h2 => ?_⟩⟩⟩
  obtain ⟨f, hf, hs⟩ := h.map
  refine look_of (ke := intKey .i64) hf (key := n) ?_
  rw [hs hb n]
  by_cases hn : n ∈ seen
  · rw [if_pos hn]
    refine ⟨(true, ()), rfl, ?_⟩
    simp only [W.unSome_some, add_mk, Nat.zero_add]
    exact fin' true (fun e => by cases e) (by simp [hn])
  · rw [if_neg hn]
    refine ⟨(false, ()), rfl, ?_⟩
    simp only [W.unSome_some, add_mk, Nat.zero_add]
    exact fin' false (fun _ => hb) (by simp [hn, hb]; omega)
theorem c_ckState (h : Ck s c m last bad seen) (n : Int) : DCalls Try.prog 99 #[cp c, .int .i64 n] s (CkPost c m last (bad || !stateB n) seen s) := by
  refine ok_ckState c n _ s ?_
  unfold vc_ckState
  have hc := h.cell
  simp [W.ld_at hc, W.br_iff, W.st_at hc]
  have fin : ∀ b', (b' = false → bad = false) → b' = (bad || !stateB n) → CkPost c m last (bad || !stateB n) seen s (.tuple #[]) (s.upd c (.cells #[.int .i64 last, .map (some m), .bool b'] 114 (0, 0))) := by
    intro b' hb he
    rw [← he]
    exact ⟨rfl, h.lay hb, Mod.upd (by simp)⟩
  unfold stateB at fin ⊢
  refine ⟨fun hb => fin true (fun e => by cases e) (by rw [hb]; (first | done | rfl)), fun hb => ⟨fun h1 => fin true (fun e => by cases e) (by rw [decide_eq_false (p := 1 ≤ n) (by omega)]; simp), fun h1 => fin _ (fun _ => hb) ?_⟩⟩
  rw [hb, decide_eq_true (p := 1 ≤ n) (by omega)]
  by_cases h3 : n ≤ 3
  · rw [decide_eq_true h3, decide_eq_false (by omega)]; (first | done | rfl)
  · rw [decide_eq_false h3, decide_eq_true (by omega)]; (first | done | rfl)
end
theorem c_namesC {s : PH} {c m : Nat} {last : Int} {bad : Bool} {seen : List Int} (h : Ck s c m last bad seen) {a : Option Addr} {an ac : Nat} {xs : List Col} (hx : elems (Rd.enc colE) s a an xs) (hn : xs.length ≤ 4294967296)
    (hd : ∀ s', Fw.Mod [c, m] s s' → elems (Rd.enc colE) s' a an xs) (least most : Int) : DCalls Try.prog 93 #[cp c, .slice a an ac, .int .i64 least, .int .i64 most, .func (.func 94) #[] #[]] s (CkPost c m last (bad || !namesB nameC least most xs) seen s) := by
  refine ok_namesC c a an ac least most _ s ?_
  unfold vc_namesC
  have hc := h.cell
  have hlen := hx.1
  have hll : xs.length = xs.length := by simp
  simp only [RP_join]
  refine W.join_gen (fun _ s' => Ck s' c m last (bad || !(decide (least ≤ xs.length) && decide ((xs.length : Int) ≤ most))) seen ∧ Fw.Mod [c, m] s s') ?_ ?_
  · rintro _ s1 ⟨h1, m1⟩
    obtain ⟨bad1, hb1⟩ : ∃ b, b = (bad || !(decide (least ≤ xs.length) && decide ((xs.length : Int) ≤ most))) := ⟨_, rfl⟩
    rw [← hb1] at h1
    have hgoal : (bad || !namesB nameC least most xs) = (bad1 || !allI (nameC xs) xs) := by
      rw [hb1]; unfold namesB
      cases bad <;> cases decide (least ≤ xs.length) <;> cases decide ((xs.length : Int) ≤ most) <;> simp
    rw [hgoal]
    simp only [RP_loop]
    refine ⟨fun z s' => ∃ k : Nat, z = (((a, an, ac), ()), ((an : Int), ()), ((k : Int), ()), ()) ∧ k ≤ an ∧ Ck s' c m last bad1 seen ∧ Fw.Mod [c, m] s s' ∧ (0 < k → bad1 = false) ∧ upTo (condI (nameC xs) xs) k = true, fun z _ => an - z.2.2.1.1.toNat, ⟨0, rfl, Nat.zero_le _, h1, m1, by omega, rfl⟩, ?_⟩
    rintro _ s2 ⟨k, rfl, hk, h2, m2, hkb, hup⟩
    have hc2 := h2.cell
    have hfin : ∀ b', b' = (bad1 || !allI (nameC xs) xs) → (b' = false → bad1 = false) → CkPost c m last (bad1 || !allI (nameC xs) xs) seen s (.tuple #[]) (s2.upd c (.cells #[.int .i64 last, .map (some m), .bool b'] 114 (0, 0))) := by
      intro b' he hb; rw [← he]; exact ⟨rfl, h2.lay hb, m2.updLater (.inl (by simp))⟩
    simp [W.br_iff, W.ld_at hc2, W.st_at hc2]
    refine ⟨fun hlt => ⟨hlt, ?_⟩, fun hge => ?_⟩
    · obtain ⟨x, hxk⟩ : ∃ x, xs[k]? = some x := ⟨_, List.getElem?_eq_getElem (by omega)⟩
      have hx2 := hd s2 m2
      obtain ⟨ad, rfl, hh⟩ := hx2.at_enc hxk
      have hpk : xs[k]? = some x := by simp [hxk]
      simp only [W.unSome_some]
      refine ld_has_z hh (y := (x.id, x.name, x.kind, x.state, x.dflt.kind, x.dflt.n, x.dflt.s, ())) rfl ?_
      simp [W.br_iff, W.ld_at hc2, W.st_at hc2]
      have hno : nameC xs k x = false → allI (nameC xs) xs = false := fun e => upTo_no (k := k) (by rw [condI_at hpk]; exact e) (by omega)
      refine ⟨fun hb => ?_, fun hb => ?_⟩
      · exact hfin true (by rw [hb]; (first | done | rfl)) (fun e => by cases e)
      · refine W.call_of (c_fColumn x s2) ?_
        rintro _ s2' ⟨rfl, rfl⟩
        refine ⟨((x.name, ()), ()), rfl, ?_⟩
        refine W.call_of (c_named x.name _) ?_
        rintro _ s2' ⟨rfl, rfl⟩
        refine ⟨((named x.name, ()), ()), rfl, ?_⟩
        simp [W.br_iff, W.ld_at hc2, W.st_at hc2]
        refine ⟨fun h3 => hfin true (by rw [hno (by unfold nameC; rw [h3]; (first | done | rfl))]; simp) (fun e => by cases e), fun h3 => ?_⟩
        refine W.call_of (c_fColumn x _) ?_
        rintro _ s2' ⟨rfl, rfl⟩
        refine ⟨((x.name, ()), ()), rfl, ?_⟩
        refine W.call_of (c_findC hx2 hn x.name) ?_
        rintro _ s2' ⟨rfl, rfl⟩
        refine ⟨((seek (fun y : Col => decide (y.name = x.name)) xs 0, ()), ()), rfl, ?_⟩
        have hseek : seek (fun y : Col => decide (y.name = x.name)) xs 0 = seek (fun y : Col => decide (y.name = x.name)) xs 0 := by rfl
        simp [W.br_iff, W.ld_at hc2, W.st_at hc2, wrap_succ (k := k) (by omega)]
        refine ⟨fun h4 => ?_, fun h4 => ?_⟩
        · have e4 : (seek (fun y : Col => decide (y.name = x.name)) xs 0 != (k : Int)) = true := by simpa using h4
          rw [e4]
          exact hfin true (by rw [hno (by unfold nameC; rw [h3, hseek]; simpa using h4)]; simp) (fun e => by cases e)
        · have e4 : (seek (fun y : Col => decide (y.name = x.name)) xs 0 != (k : Int)) = false := by simpa using h4
          rw [e4]
          have hyes : nameC xs k x = true := by unfold nameC; rw [h3, hseek]; simpa using h4
          refine ⟨⟨k + 1, by simp, hlt, ?_, m2.updLater (.inl (by simp)), fun _ => hb, by rw [upTo_succ, hup, condI_at hpk, hyes]; (first | done | rfl)⟩, by omega⟩
          rw [hb]; exact h2.lay (fun _ => hb)
    · have hke : k = xs.length := by omega
      have hall : allI (nameC xs) xs = true := by unfold allI; rw [← hke]; exact hup
      rw [hall]
      refine ⟨rfl, ?_, m2⟩
      simpa using h2
  · intro J hJ
    simp [W.ld_at hc, W.br_iff, W.st_at hc]
    have fin : ∀ b', (b' = false → bad = false) → b' = (bad || !(decide (least ≤ xs.length) && decide ((xs.length : Int) ≤ most))) → J () (s.upd c (.cells #[.int .i64 last, .map (some m), .bool b'] 114 (0, 0))) := by
      intro b' hb he
      refine hJ _ _ ⟨?_, Mod.upd (by simp)⟩
      rw [← he]; exact h.lay hb
    refine ⟨fun hb => fin true (fun e => by cases e) (by rw [hb]; (first | done | rfl)), fun hb => ⟨fun h1 => fin true (fun e => by cases e) (by rw [decide_eq_false (p := least ≤ xs.length) (by omega)]; simp), fun h1 => fin _ (fun _ => hb) ?_⟩⟩
    rw [hb, decide_eq_true (p := least ≤ xs.length) (by omega)]
    by_cases h3 : (xs.length : Int) ≤ most
    · rw [decide_eq_true h3, decide_eq_false (by omega)]; (first | done | rfl)
    · rw [decide_eq_false h3, decide_eq_true (by omega)]; (first | done | rfl)
theorem c_namesX {s : PH} {c m : Nat} {last : Int} {bad : Bool} {seen : List Int} (h : Ck s c m last bad seen) {a : Option Addr} {an ac : Nat} {xs : List Idx} (hx : elems (Rd.enc idxE) s a an xs) (hn : xs.length ≤ 4294967296)
    (hd : ∀ s', Fw.Mod [c, m] s s' → elems (Rd.enc idxE) s' a an xs) (least most : Int) : DCalls Try.prog 95 #[cp c, .slice a an ac, .int .i64 least, .int .i64 most, .func (.func 96) #[] #[]] s (CkPost c m last (bad || !namesB nameX least most xs) seen s) := by
  refine ok_namesX c a an ac least most _ s ?_
  unfold vc_namesX
  have hc := h.cell
  have hlen := hx.1
  have hll : xs.length = xs.length := by simp
  simp only [RP_join]
  refine W.join_gen (fun _ s' => Ck s' c m last (bad || !(decide (least ≤ xs.length) && decide ((xs.length : Int) ≤ most))) seen ∧ Fw.Mod [c, m] s s') ?_ ?_
  · rintro _ s1 ⟨h1, m1⟩
    obtain ⟨bad1, hb1⟩ : ∃ b, b = (bad || !(decide (least ≤ xs.length) && decide ((xs.length : Int) ≤ most))) := ⟨_, rfl⟩
    rw [← hb1] at h1
    have hgoal : (bad || !namesB nameX least most xs) = (bad1 || !allI (nameX xs) xs) := by
      rw [hb1]; unfold namesB
      cases bad <;> cases decide (least ≤ xs.length) <;> cases decide ((xs.length : Int) ≤ most) <;> simp
    rw [hgoal]
    simp only [RP_loop]
    refine ⟨fun z s' => ∃ k : Nat, z = (((a, an, ac), ()), ((an : Int), ()), ((k : Int), ()), ()) ∧ k ≤ an ∧ Ck s' c m last bad1 seen ∧ Fw.Mod [c, m] s s' ∧ (0 < k → bad1 = false) ∧ upTo (condI (nameX xs) xs) k = true, fun z _ => an - z.2.2.1.1.toNat, ⟨0, rfl, Nat.zero_le _, h1, m1, by omega, rfl⟩, ?_⟩
    rintro _ s2 ⟨k, rfl, hk, h2, m2, hkb, hup⟩
    have hc2 := h2.cell
    have hfin : ∀ b', b' = (bad1 || !allI (nameX xs) xs) → (b' = false → bad1 = false) → CkPost c m last (bad1 || !allI (nameX xs) xs) seen s (.tuple #[]) (s2.upd c (.cells #[.int .i64 last, .map (some m), .bool b'] 114 (0, 0))) := by
      intro b' he hb; rw [← he]; exact ⟨rfl, h2.lay hb, m2.updLater (.inl (by simp))⟩
    simp [W.br_iff, W.ld_at hc2, W.st_at hc2]
    refine ⟨fun hlt => ⟨hlt, ?_⟩, fun hge => ?_⟩
    · obtain ⟨x, hxk⟩ : ∃ x, xs[k]? = some x := ⟨_, List.getElem?_eq_getElem (by omega)⟩
      have hx2 := hd s2 m2
      obtain ⟨ad, rfl, hh⟩ := hx2.at_enc hxk
      have hpk : xs[k]? = some x := by simp [hxk]
      simp only [W.unSome_some]
      refine ld_has_z hh (y := (x.id, x.name, x.column, x.unique, x.state, ())) rfl ?_
      simp [W.br_iff, W.ld_at hc2, W.st_at hc2]
      have hno : nameX xs k x = false → allI (nameX xs) xs = false := fun e => upTo_no (k := k) (by rw [condI_at hpk]; exact e) (by omega)
      refine ⟨fun hb => ?_, fun hb => ?_⟩
      · exact hfin true (by rw [hb]; (first | done | rfl)) (fun e => by cases e)
      · refine W.call_of (c_fIndex x s2) ?_
        rintro _ s2' ⟨rfl, rfl⟩
        refine ⟨((x.name, ()), ()), rfl, ?_⟩
        refine W.call_of (c_named x.name _) ?_
        rintro _ s2' ⟨rfl, rfl⟩
        refine ⟨((named x.name, ()), ()), rfl, ?_⟩
        simp [W.br_iff, W.ld_at hc2, W.st_at hc2]
        refine ⟨fun h3 => hfin true (by rw [hno (by unfold nameX; rw [h3]; (first | done | rfl))]; simp) (fun e => by cases e), fun h3 => ?_⟩
        refine W.call_of (c_fIndex x _) ?_
        rintro _ s2' ⟨rfl, rfl⟩
        refine ⟨((x.name, ()), ()), rfl, ?_⟩
        refine W.call_of (c_findX hx2 hn x.name) ?_
        rintro _ s2' ⟨rfl, rfl⟩
        refine ⟨((seek (fun y : Idx => decide (y.name = x.name)) xs 0, ()), ()), rfl, ?_⟩
        have hseek : seek (fun y : Idx => decide (y.name = x.name)) xs 0 = seek (fun y : Idx => decide (y.name = x.name)) xs 0 := by rfl
        simp [W.br_iff, W.ld_at hc2, W.st_at hc2, wrap_succ (k := k) (by omega)]
        refine ⟨fun h4 => ?_, fun h4 => ?_⟩
        · have e4 : (seek (fun y : Idx => decide (y.name = x.name)) xs 0 != (k : Int)) = true := by simpa using h4
          rw [e4]
          exact hfin true (by rw [hno (by unfold nameX; rw [h3, hseek]; simpa using h4)]; simp) (fun e => by cases e)
        · have e4 : (seek (fun y : Idx => decide (y.name = x.name)) xs 0 != (k : Int)) = false := by simpa using h4
          rw [e4]
          have hyes : nameX xs k x = true := by unfold nameX; rw [h3, hseek]; simpa using h4
          refine ⟨⟨k + 1, by simp, hlt, ?_, m2.updLater (.inl (by simp)), fun _ => hb, by rw [upTo_succ, hup, condI_at hpk, hyes]; (first | done | rfl)⟩, by omega⟩
          rw [hb]; exact h2.lay (fun _ => hb)
    · have hke : k = xs.length := by omega
      have hall : allI (nameX xs) xs = true := by unfold allI; rw [← hke]; exact hup
      rw [hall]
      refine ⟨rfl, ?_, m2⟩
      simpa using h2
  · intro J hJ
    simp [W.ld_at hc, W.br_iff, W.st_at hc]
    have fin : ∀ b', (b' = false → bad = false) → b' = (bad || !(decide (least ≤ xs.length) && decide ((xs.length : Int) ≤ most))) → J () (s.upd c (.cells #[.int .i64 last, .map (some m), .bool b'] 114 (0, 0))) := by
      intro b' hb he
      refine hJ _ _ ⟨?_, Mod.upd (by simp)⟩
      rw [← he]; exact h.lay hb
    refine ⟨fun hb => fin true (fun e => by cases e) (by rw [hb]; (first | done | rfl)), fun hb => ⟨fun h1 => fin true (fun e => by cases e) (by rw [decide_eq_false (p := least ≤ xs.length) (by omega)]; simp), fun h1 => fin _ (fun _ => hb) ?_⟩⟩
    rw [hb, decide_eq_true (p := least ≤ xs.length) (by omega)]
    by_cases h3 : (xs.length : Int) ≤ most
    · rw [decide_eq_true h3, decide_eq_false (by omega)]; (first | done | rfl)
    · rw [decide_eq_false h3, decide_eq_true (by omega)]; (first | done | rfl)
theorem c_namesF {s : PH} {c m : Nat} {last : Int} {bad : Bool} {seen : List Int} (h : Ck s c m last bad seen) {a : Option Addr} {an ac : Nat} {xs : List For} (hx : elems (Rd.enc forE) s a an xs) (hn : xs.length ≤ 4294967296)
    (hd : ∀ s', Fw.Mod [c, m] s s' → elems (Rd.enc forE) s' a an xs) (least most : Int) : DCalls Try.prog 97 #[cp c, .slice a an ac, .int .i64 least, .int .i64 most, .func (.func 98) #[] #[]] s (CkPost c m last (bad || !namesB nameF least most xs) seen s) := by
  refine ok_namesF c a an ac least most _ s ?_
  unfold vc_namesF
  have hc := h.cell
  have hlen := hx.1
  have hll : xs.length = xs.length := by simp
  simp only [RP_join]
  refine W.join_gen (fun _ s' => Ck s' c m last (bad || !(decide (least ≤ xs.length) && decide ((xs.length : Int) ≤ most))) seen ∧ Fw.Mod [c, m] s s') ?_ ?_
  · rintro _ s1 ⟨h1, m1⟩
    obtain ⟨bad1, hb1⟩ : ∃ b, b = (bad || !(decide (least ≤ xs.length) && decide ((xs.length : Int) ≤ most))) := ⟨_, rfl⟩
    rw [← hb1] at h1
    have hgoal : (bad || !namesB nameF least most xs) = (bad1 || !allI (nameF xs) xs) := by
      rw [hb1]; unfold namesB
      cases bad <;> cases decide (least ≤ xs.length) <;> cases decide ((xs.length : Int) ≤ most) <;> simp
    rw [hgoal]
    simp only [RP_loop]
    refine ⟨fun z s' => ∃ k : Nat, z = (((a, an, ac), ()), ((an : Int), ()), ((k : Int), ()), ()) ∧ k ≤ an ∧ Ck s' c m last bad1 seen ∧ Fw.Mod [c, m] s s' ∧ (0 < k → bad1 = false) ∧ upTo (condI (nameF xs) xs) k = true, fun z _ => an - z.2.2.1.1.toNat, ⟨0, rfl, Nat.zero_le _, h1, m1, by omega, rfl⟩, ?_⟩
    rintro _ s2 ⟨k, rfl, hk, h2, m2, hkb, hup⟩
    have hc2 := h2.cell
    have hfin : ∀ b', b' = (bad1 || !allI (nameF xs) xs) → (b' = false → bad1 = false) → CkPost c m last (bad1 || !allI (nameF xs) xs) seen s (.tuple #[]) (s2.upd c (.cells #[.int .i64 last, .map (some m), .bool b'] 114 (0, 0))) := by
      intro b' he hb; rw [← he]; exact ⟨rfl, h2.lay hb, m2.updLater (.inl (by simp))⟩
    simp [W.br_iff, W.ld_at hc2, W.st_at hc2]
    refine ⟨fun hlt => ⟨hlt, ?_⟩, fun hge => ?_⟩
    · obtain ⟨x, hxk⟩ : ∃ x, xs[k]? = some x := ⟨_, List.getElem?_eq_getElem (by omega)⟩
      have hx2 := hd s2 m2
      obtain ⟨ad, rfl, hh⟩ := hx2.at_enc hxk
      have hpk : xs[k]? = some x := by simp [hxk]
      simp only [W.unSome_some]
      refine ld_has_z hh (y := (x.id, x.name, x.column, x.parent, x.state, ())) rfl ?_
      simp [W.br_iff, W.ld_at hc2, W.st_at hc2]
      have hno : nameF xs k x = false → allI (nameF xs) xs = false := fun e => upTo_no (k := k) (by rw [condI_at hpk]; exact e) (by omega)
      refine ⟨fun hb => ?_, fun hb => ?_⟩
      · exact hfin true (by rw [hb]; (first | done | rfl)) (fun e => by cases e)
      · refine W.call_of (c_fForeign x s2) ?_
        rintro _ s2' ⟨rfl, rfl⟩
        refine ⟨((x.name, ()), ()), rfl, ?_⟩
        refine W.call_of (c_named x.name _) ?_
        rintro _ s2' ⟨rfl, rfl⟩
        refine ⟨((named x.name, ()), ()), rfl, ?_⟩
        simp [W.br_iff, W.ld_at hc2, W.st_at hc2]
        refine ⟨fun h3 => hfin true (by rw [hno (by unfold nameF; rw [h3]; (first | done | rfl))]; simp) (fun e => by cases e), fun h3 => ?_⟩
        refine W.call_of (c_fForeign x _) ?_
        rintro _ s2' ⟨rfl, rfl⟩
        refine ⟨((x.name, ()), ()), rfl, ?_⟩
        refine W.call_of (c_findF hx2 hn x.name) ?_
        rintro _ s2' ⟨rfl, rfl⟩
        refine ⟨((seek (fun y : For => decide (y.name = x.name)) xs 0, ()), ()), rfl, ?_⟩
        have hseek : seek (fun y : For => decide (y.name = x.name)) xs 0 = seek (fun y : For => decide (y.name = x.name)) xs 0 := by rfl
        simp [W.br_iff, W.ld_at hc2, W.st_at hc2, wrap_succ (k := k) (by omega)]
        refine ⟨fun h4 => ?_, fun h4 => ?_⟩
        · have e4 : (seek (fun y : For => decide (y.name = x.name)) xs 0 != (k : Int)) = true := by simpa using h4
          rw [e4]
          exact hfin true (by rw [hno (by unfold nameF; rw [h3, hseek]; simpa using h4)]; simp) (fun e => by cases e)
        · have e4 : (seek (fun y : For => decide (y.name = x.name)) xs 0 != (k : Int)) = false := by simpa using h4
          rw [e4]
          have hyes : nameF xs k x = true := by unfold nameF; rw [h3, hseek]; simpa using h4
          refine ⟨⟨k + 1, by simp, hlt, ?_, m2.updLater (.inl (by simp)), fun _ => hb, by rw [upTo_succ, hup, condI_at hpk, hyes]; (first | done | rfl)⟩, by omega⟩
          rw [hb]; exact h2.lay (fun _ => hb)
    · have hke : k = xs.length := by omega
      have hall : allI (nameF xs) xs = true := by unfold allI; rw [← hke]; exact hup
      rw [hall]
      refine ⟨rfl, ?_, m2⟩
      simpa using h2
  · intro J hJ
    simp [W.ld_at hc, W.br_iff, W.st_at hc]
    have fin : ∀ b', (b' = false → bad = false) → b' = (bad || !(decide (least ≤ xs.length) && decide ((xs.length : Int) ≤ most))) → J () (s.upd c (.cells #[.int .i64 last, .map (some m), .bool b'] 114 (0, 0))) := by
      intro b' hb he
      refine hJ _ _ ⟨?_, Mod.upd (by simp)⟩
      rw [← he]; exact h.lay hb
    refine ⟨fun hb => fin true (fun e => by cases e) (by rw [hb]; (first | done | rfl)), fun hb => ⟨fun h1 => fin true (fun e => by cases e) (by rw [decide_eq_false (p := least ≤ xs.length) (by omega)]; simp), fun h1 => fin _ (fun _ => hb) ?_⟩⟩
    rw [hb, decide_eq_true (p := least ≤ xs.length) (by omega)]
    by_cases h3 : (xs.length : Int) ≤ most
    · rw [decide_eq_true h3, decide_eq_false (by omega)]; (first | done | rfl)
    · rw [decide_eq_false h3, decide_eq_true (by omega)]; (first | done | rfl)
theorem c_namesT {s : PH} {c m : Nat} {last : Int} {bad : Bool} {seen : List Int} (h : Ck s c m last bad seen) {a : Option Addr} {an ac : Nat} {xs : List TabP} (hx : elems (Rd.enc tabE) s a an xs) (hn : xs.length ≤ 4294967296)
    (hd : ∀ s', Fw.Mod [c, m] s s' → elems (Rd.enc tabE) s' a an xs) (least most : Int) : DCalls Try.prog 55 #[cp c, .slice a an ac, .int .i64 least, .int .i64 most, .func (.func 46) #[] #[]] s (CkPost c m last (bad || !namesB nameT least most (xs.map (·.T))) seen s) := by
  refine ok_namesT c a an ac least most _ s ?_
  unfold vc_namesT
  have hc := h.cell
  have hlen := hx.1
  have hll : (xs.map (·.T)).length = xs.length := by simp
  simp only [RP_join]
  refine W.join_gen (fun _ s' => Ck s' c m last (bad || !(decide (least ≤ (xs.map (·.T)).length) && decide (((xs.map (·.T)).length : Int) ≤ most))) seen ∧ Fw.Mod [c, m] s s') ?_ ?_
  · rintro _ s1 ⟨h1, m1⟩
    obtain ⟨bad1, hb1⟩ : ∃ b, b = (bad || !(decide (least ≤ (xs.map (·.T)).length) && decide (((xs.map (·.T)).length : Int) ≤ most))) := ⟨_, rfl⟩
    rw [← hb1] at h1
    have hgoal : (bad || !namesB nameT least most (xs.map (·.T))) = (bad1 || !allI (nameT (xs.map (·.T))) (xs.map (·.T))) := by
      rw [hb1]; unfold namesB
      cases bad <;> cases decide (least ≤ (xs.map (·.T)).length) <;> cases decide (((xs.map (·.T)).length : Int) ≤ most) <;> simp
    rw [hgoal]
    simp only [RP_loop]
    refine ⟨fun z s' => ∃ k : Nat, z = (((a, an, ac), ()), ((an : Int), ()), ((k : Int), ()), ()) ∧ k ≤ an ∧ Ck s' c m last bad1 seen ∧ Fw.Mod [c, m] s s' ∧ (0 < k → bad1 = false) ∧ upTo (condI (nameT (xs.map (·.T))) (xs.map (·.T))) k = true, fun z _ => an - z.2.2.1.1.toNat, ⟨0, rfl, Nat.zero_le _, h1, m1, by omega, rfl⟩, ?_⟩
    rintro _ s2 ⟨k, rfl, hk, h2, m2, hkb, hup⟩
    have hc2 := h2.cell
    have hfin : ∀ b', b' = (bad1 || !allI (nameT (xs.map (·.T))) (xs.map (·.T))) → (b' = false → bad1 = false) → CkPost c m last (bad1 || !allI (nameT (xs.map (·.T))) (xs.map (·.T))) seen s (.tuple #[]) (s2.upd c (.cells #[.int .i64 last, .map (some m), .bool b'] 114 (0, 0))) := by
      intro b' he hb; rw [← he]; exact ⟨rfl, h2.lay hb, m2.updLater (.inl (by simp))⟩
    simp [W.br_iff, W.ld_at hc2, W.st_at hc2]
    refine ⟨fun hlt => ⟨hlt, ?_⟩, fun hge => ?_⟩
    · obtain ⟨x, hxk⟩ : ∃ x, xs[k]? = some x := ⟨_, List.getElem?_eq_getElem (by omega)⟩
      have hx2 := hd s2 m2
      obtain ⟨ad, rfl, hh⟩ := hx2.at_enc hxk
      have hpk : (xs.map (·.T))[k]? = some x.T := by simp [hxk]
      simp only [W.unSome_some]
      refine ld_has_z hh (y := (x.T.id, x.T.name, x.c, x.x, x.k, ())) rfl ?_
      simp [W.br_iff, W.ld_at hc2, W.st_at hc2]
      have hno : nameT (xs.map (·.T)) k x.T = false → allI (nameT (xs.map (·.T))) (xs.map (·.T)) = false := fun e => upTo_no (k := k) (by rw [condI_at hpk]; exact e) (by omega)
      refine ⟨fun hb => ?_, fun hb => ?_⟩
      · exact hfin true (by rw [hb]; (first | done | rfl)) (fun e => by cases e)
      · refine W.call_of (c_fTable x s2) ?_
        rintro _ s2' ⟨rfl, rfl⟩
        refine ⟨((x.T.name, ()), ()), rfl, ?_⟩
        refine W.call_of (c_named x.T.name _) ?_
        rintro _ s2' ⟨rfl, rfl⟩
        refine ⟨((named x.T.name, ()), ()), rfl, ?_⟩
        simp [W.br_iff, W.ld_at hc2, W.st_at hc2]
        refine ⟨fun h3 => hfin true (by rw [hno (by unfold nameT; rw [h3]; (first | done | rfl))]; simp) (fun e => by cases e), fun h3 => ?_⟩
        refine W.call_of (c_fTable x _) ?_
        rintro _ s2' ⟨rfl, rfl⟩
        refine ⟨((x.T.name, ()), ()), rfl, ?_⟩
        refine W.call_of (c_findT hx2 hn x.T.name) ?_
        rintro _ s2' ⟨rfl, rfl⟩
        refine ⟨((seek (fun y : TabP => decide (y.T.name = x.T.name)) xs 0, ()), ()), rfl, ?_⟩
        have hseek : seek (fun y : Tab => decide (y.name = x.T.name)) (xs.map (·.T)) 0 = seek (fun y : TabP => decide (y.T.name = x.T.name)) xs 0 := by rw [seek_map]
        simp [W.br_iff, W.ld_at hc2, W.st_at hc2, wrap_succ (k := k) (by omega)]
        refine ⟨fun h4 => ?_, fun h4 => ?_⟩
        · have e4 : (seek (fun y : TabP => decide (y.T.name = x.T.name)) xs 0 != (k : Int)) = true := by simpa using h4
          rw [e4]
          exact hfin true (by rw [hno (by unfold nameT; rw [h3, hseek]; simpa using h4)]; simp) (fun e => by cases e)
        · have e4 : (seek (fun y : TabP => decide (y.T.name = x.T.name)) xs 0 != (k : Int)) = false := by simpa using h4
          rw [e4]
          have hyes : nameT (xs.map (·.T)) k x.T = true := by unfold nameT; rw [h3, hseek]; simpa using h4
          refine ⟨⟨k + 1, by simp, hlt, ?_, m2.updLater (.inl (by simp)), fun _ => hb, by rw [upTo_succ, hup, condI_at hpk, hyes]; (first | done | rfl)⟩, by omega⟩
          rw [hb]; exact h2.lay (fun _ => hb)
    · have hke : k = (xs.map (·.T)).length := by omega
      have hall : allI (nameT (xs.map (·.T))) (xs.map (·.T)) = true := by unfold allI; rw [← hke]; exact hup
      rw [hall]
      refine ⟨rfl, ?_, m2⟩
      simpa using h2
  · intro J hJ
    simp [W.ld_at hc, W.br_iff, W.st_at hc]
    have fin : ∀ b', (b' = false → bad = false) → b' = (bad || !(decide (least ≤ (xs.map (·.T)).length) && decide (((xs.map (·.T)).length : Int) ≤ most))) → J () (s.upd c (.cells #[.int .i64 last, .map (some m), .bool b'] 114 (0, 0))) := by
      intro b' hb he
      refine hJ _ _ ⟨?_, Mod.upd (by simp)⟩
      rw [← he]; exact h.lay hb
    refine ⟨fun hb => fin true (fun e => by cases e) (by rw [hb]; (first | done | rfl)), fun hb => ⟨fun h1 => fin true (fun e => by cases e) (by rw [decide_eq_false (p := least ≤ (xs.map (·.T)).length) (by omega)]; simp), fun h1 => fin _ (fun _ => hb) ?_⟩⟩
    rw [hb, decide_eq_true (p := least ≤ (xs.map (·.T)).length) (by omega)]
    by_cases h3 : ((xs.map (·.T)).length : Int) ≤ most
    · rw [decide_eq_true h3, decide_eq_false (by omega)]; (first | done | rfl)
    · rw [decide_eq_false h3, decide_eq_true (by omega)]; (first | done | rfl)
end Go.Proofs.Ythepfbcgpbkbdaa
end
section
set_option linter.unusedVariables false
set_option linter.unusedSimpArgs false
set_option maxHeartbeats 2000000
set_option maxRecDepth 100000
namespace Go.Proofs.Ythepfbcgpbkbdaa
open Fw Go
attribute [-simp] Fw.W.ld_iff Fw.W.st_iff
theorem runIds_snoc (last : Int) (l : List Int) (n : Int) (seen : List Int) : runIds last (l ++ [n]) seen = (runIds last l seen && ((decide (1 ≤ n) && decide (n ≤ last)) && !decide (n ∈ l.reverse ++ seen))) := by
  rw [runIds_app]; simp [runIds]
theorem Ck.any {s : PH} {c m : Nat} {last : Int} {seen seen' : List Int} (h : Ck s c m last true seen) : Ck s c m last true seen' := by
  obtain ⟨f, hf, _⟩ := h.map
  exact ⟨h.cell, f, hf, fun e => by cases e⟩
theorem ids_take {α : Type} (f : α → Int) {l : List α} {k : Nat} {x : α} (h : l[k]? = some x) : (l.take (k + 1)).map f = (l.take k).map f ++ [f x] := by
  rw [List.take_add_one, h]; simp
/-- one element of a list is looked at: its id, its state, and the rest -/
theorem loop_bool {P1 U R A St Rest : Bool} : ((!(P1 && (U && R)) || !A) || !St || !Rest) = !(P1 && ((U && (St && Rest)) && (R && A))) := by
  cases P1 <;> cases U <;> cases R <;> cases A <;> cases St <;> cases Rest <;> rfl
theorem ck_ld {s : PH} {c m : Nat} {last : Int} {bad : Bool} {seen : List Int} (h : Ck s c m last bad seen) {K : Den [.bool] → W.T} (hK : K (bad, ()) s) : W.unSome (some (Addr.mk c 0 none)) (fun p => W.ld [.bool] (p.add 2) K) s := by
  simp only [W.unSome_some, add_mk, Nat.zero_add]
  rw [W.ld_at h.cell]
  exact ⟨(bad, ()), by simp, hK⟩
theorem ck_st {s : PH} {c m : Nat} {last : Int} {bad b' : Bool} {seen : List Int} (h : Ck s c m last bad seen) {K : W.T} (hK : K (s.upd c (.cells #[.int .i64 last, .map (some m), .bool b'] 114 (0, 0)))) : W.unSome (some (Addr.mk c 0 none)) (fun p => W.st (p.add 2) [.bool b'] K) s := by
  simp only [W.unSome_some, add_mk, Nat.zero_add]
  rw [W.st_at h.cell]
  exact ⟨by simp, by simp, by simp [Value.oneCell'], hK⟩
section
variable {s0 s : PH} {c m : Nat} {last : Int} {bad : Bool} {seen : List Int} {t : Tri} {S : Sch} {ps : List TabP} {p : TabP}
theorem c_ckTable (h : Ck s c m last bad seen) (hS : SchIs s0 t S ps) (hp : p ∈ ps) (m0 : Fw.Mod [] s0 s) (hc0 : s0 c = none) (hm0 : s0 m = none) :
    DCalls Try.prog 56 #[cp c, schV S t, tabV p.T p.c p.x p.k] s (CkPost c m last (bad || !(tabB S p.T && runIds last (idsOf p.T) seen)) ((idsOf p.T).reverse ++ seen) s) := by
  have hP0 := hS.all p hp
  have keep : ∀ {s'}, Fw.Mod [c, m] s s' → Fw.Mod [] s0 s' := fun mm => m0.fresh mm (by simp [hc0, hm0])
  obtain ⟨T, ⟨ca, can, cac⟩, ⟨xa, xan, xac⟩, ⟨ka, kan, kac⟩⟩ := p
  obtain ⟨ta, tn, tc⟩ := t
  dsimp only at hP0 ⊢
  have hcan : can = T.cols.length := hP0.c.len
  have hxan : xan = T.idxs.length := hP0.x.len
  have hkan : kan = T.keys.length := hP0.k.len
  have hcf := hP0.c.few
  have hxf := hP0.x.few
  have hkf := hP0.k.few
  dsimp only at hcf hxf hkf
  obtain ⟨res, hres⟩ : ∃ b, (bad || !(tabB S T && runIds last (idsOf T) seen)) = b := ⟨_, rfl⟩
  obtain ⟨sn, hsn⟩ : ∃ l, (idsOf T).reverse ++ seen = l := ⟨_, rfl⟩
  rw [hres, hsn]
  refine ok_ckTable c S.version S.last ta tn tc T.id T.name ca can cac xa xan xac ka kan kac _ s ?_
  unfold vc_ckTable
  simp only [RP_call]
  refine W.call_of (c_ckId h T.id) ?_
  rintro _ s1 ⟨rfl, h1, m1⟩
  refine ⟨(), rfl, ?_⟩
  refine W.call_of (c_namesC h1 (hP0.c.el.mono (keep m1).le) hcf (fun s' hm => hP0.c.el.mono (keep (m1.trans hm)).le) 1 8) ?_
  rintro _ s2 ⟨rfl, h2, m2'⟩
  have m2 := m1.trans m2'
  refine ⟨(), rfl, ?_⟩
  refine W.call_of (c_namesX h2 (hP0.x.el.mono (keep m2).le) hxf (fun s' hm => hP0.x.el.mono (keep (m2.trans hm)).le) 0 8) ?_
  rintro _ s3 ⟨rfl, h3, m3'⟩
  have m3 := m2.trans m3'
  refine ⟨(), rfl, ?_⟩
  refine W.call_of (c_namesF h3 (hP0.k.el.mono (keep m3).le) hkf (fun s' hm => hP0.k.el.mono (keep (m3.trans hm)).le) 0 8) ?_
  rintro _ s4 ⟨rfl, h4, m4'⟩
  have m4 := m3.trans m4'
  refine ⟨(), rfl, ?_⟩
  have hids : idsOf T = T.id :: (T.cols.map (·.id) ++ (T.idxs.map (·.id) ++ T.keys.map (·.id))) := rfl
  have hrun : runIds last (idsOf T) seen = ((decide (1 ≤ T.id) && decide (T.id ≤ last)) && (!decide (T.id ∈ seen) && (runIds last (T.cols.map (·.id)) (T.id :: seen) &&
      (runIds last (T.idxs.map (·.id)) ((T.cols.map (·.id)).reverse ++ (T.id :: seen)) && runIds last (T.keys.map (·.id)) ((T.idxs.map (·.id)).reverse ++ ((T.cols.map (·.id)).reverse ++ (T.id :: seen))))))) := by
    rw [hids]; simp only [runIds, runIds_app]
  have hseen : (T.keys.map (·.id)).reverse ++ ((T.idxs.map (·.id)).reverse ++ ((T.cols.map (·.id)).reverse ++ (T.id :: seen))) = sn := by
    rw [← hsn, hids]; simp
  obtain ⟨A, hA⟩ : ∃ A, ((decide (1 ≤ T.id) && decide (T.id ≤ last)) && !decide (T.id ∈ seen)) = A := ⟨_, rfl⟩
  rw [← Bool.and_assoc, hA] at hrun
  rw [hA] at h4
  obtain ⟨N1, hN1⟩ : ∃ N, namesB nameC 1 8 T.cols = N := ⟨_, rfl⟩
  obtain ⟨N2, hN2⟩ : ∃ N, namesB nameX 0 8 T.idxs = N := ⟨_, rfl⟩
  obtain ⟨N3, hN3⟩ : ∃ N, namesB nameF 0 8 T.keys = N := ⟨_, rfl⟩
  rw [hN1, hN2, hN3] at h4
  obtain ⟨b4, hb4⟩ : ∃ b, ((((bad || !A) || !N1) || !N2) || !N3) = b := ⟨_, rfl⟩
  rw [hb4] at h4
  have hc4 := h4.cell
  have hres2 : res = (bad || !((N1 && (N2 && (N3 && (first3 T && (allI colB T.cols && (allI (idxB T) T.idxs && allI (keyB S T) T.keys)))))) && runIds last (idsOf T) seen)) := by rw [← hres]; unfold tabB; rw [hN1, hN2, hN3]
  simp [W.ld_at hc4, W.br_iff]
  refine ⟨fun hbad => ?_, fun hbad => ?_⟩
  · subst hbad
    have e1 : res = true := by
      rw [hres2, hrun]
      revert hb4
      cases bad <;> cases A <;> cases N1 <;> cases N2 <;> cases N3 <;> simp
    rw [e1]
    exact ⟨rfl, h4.any, m4⟩
  · subst hbad
    have hall : bad = false ∧ A = true ∧ N1 = true ∧ N2 = true ∧ N3 = true := by
      revert hb4
      cases bad <;> cases A <;> cases N1 <;> cases N2 <;> cases N3 <;> simp
    obtain ⟨rfl, rfl, rfl, rfl, rfl⟩ := hall
    have hcl : 1 ≤ T.cols.length := by
      unfold namesB at hN1
      simp only [Bool.and_eq_true, decide_eq_true_eq] at hN1
      omega
    obtain ⟨c0, cs, hcs⟩ : ∃ c0 cs, T.cols = c0 :: cs := by
      cases hc : T.cols with
      | nil => rw [hc] at hcl; simp at hcl
      | cons a b => exact ⟨a, b, rfl⟩
    have hf3 : first3 T = decide (c0.state = 3) := by unfold first3; rw [hcs]
    obtain ⟨ad, had, hh⟩ := (hP0.c.mono (keep m4).le).el.at_enc (i := 0) (x := c0) (by rw [hcs]; (first | done | rfl))
    dsimp only at had; subst had
    rw [Nat.zero_mul, add_zero] at hh
    refine ⟨by omega, ?_⟩
    simp only [W.unSome_some]
    refine ld_has (j := 3) hh (cs := [.int .i64]) (y := (c0.state, ())) rfl ?_
    refine ck_st h4 ?_
    have h5 : Ck (s4.upd c (.cells #[.int .i64 last, .map (some m), .bool (c0.state != 3)] 114 (0, 0))) c m last (c0.state != 3) (T.id :: seen) := h4.lay (fun _ => rfl)
    have m5 : Fw.Mod [c, m] s (s4.upd c (.cells #[.int .i64 last, .map (some m), .bool (c0.state != 3)] 114 (0, 0))) := m4.updLater (.inl (by simp))
    generalize s4.upd c (.cells #[.int .i64 last, .map (some m), .bool (c0.state != 3)] 114 (0, 0)) = s5 at h5 m5 ⊢
    have hb5 : (c0.state != 3) = !(first3 T && (upTo (condI colB T.cols) 0 && runIds last ((T.cols.take 0).map (·.id)) (T.id :: seen))) := by
      rw [hf3]
      by_cases h : c0.state = 3 <;> simp [h, upTo_zero, runIds]
    rw [hb5] at h5
    have hgoal : res = !(((first3 T && (allI colB T.cols && runIds last (T.cols.map (·.id)) (T.id :: seen))) && (allI (idxB T) T.idxs && runIds last (T.idxs.map (·.id)) ((T.cols.map (·.id)).reverse ++ (T.id :: seen)))) &&
        (allI (keyB S T) T.keys && runIds last (T.keys.map (·.id)) ((T.idxs.map (·.id)).reverse ++ ((T.cols.map (·.id)).reverse ++ (T.id :: seen))))) := by
      rw [hres2, hrun]
      generalize first3 T = F
      generalize allI colB T.cols = C1
      generalize allI (idxB T) T.idxs = C2
      generalize allI (keyB S T) T.keys = C3
      generalize runIds last (T.cols.map (·.id)) (T.id :: seen) = R1
      generalize runIds last (T.idxs.map (·.id)) _ = R2
      generalize runIds last (T.keys.map (·.id)) _ = R3
      cases F <;> cases C1 <;> cases C2 <;> cases C3 <;> cases R1 <;> cases R2 <;> cases R3 <;> rfl
    clear hres2 hrun hres hb5 hf3 hh hc4 h4
    obtain ⟨sd1, hsd1⟩ : ∃ l, T.id :: seen = l := ⟨_, rfl⟩
    rw [hsd1] at h5 hgoal hseen
    obtain ⟨F, hF⟩ : ∃ F, first3 T = F := ⟨_, rfl⟩
    rw [hF] at h5 hgoal
    refine ⟨fun z s' => ∃ k : Nat, z = ((S.version, S.last, (ta, tn, tc), ()), (T.id, T.name, (some ad, can, cac), (xa, xan, xac), (ka, kan, kac), ()), ((some ad, can, cac), ()), ((can : Int), ()), ((k : Int), ()), ()) ∧ k ≤ can ∧
      Ck s' c m last (!(F && (upTo (condI colB T.cols) k && runIds last ((T.cols.take k).map (·.id)) sd1))) (((T.cols.take k).map (·.id)).reverse ++ sd1) ∧ Fw.Mod [c, m] s s', fun z _ => can - z.2.2.2.2.1.1.toNat, ⟨0, rfl, Nat.zero_le _, by simpa using h5, m5⟩, ?_⟩
    rintro _ s6 ⟨k, rfl, hk, h6, m6⟩
    simp only [W.br_iff, decide_eq_true_eq, decide_eq_false_iff_not]
    refine ⟨fun hlt => ?_, fun hge => ?_⟩
    · have hlt : k < can := by omega
      obtain ⟨x, hx⟩ : ∃ x, T.cols[k]? = some x := ⟨_, List.getElem?_eq_getElem (by omega)⟩
      obtain ⟨ad2, had2, hh⟩ := (hP0.c.mono (keep m6).le).el.at_enc hx
      dsimp only at had2
      cases had2
      have hstep := ids_take (·.id) hx
      have hnext : (!(F && (upTo (condI colB T.cols) (k + 1) && runIds last ((T.cols.take (k + 1)).map (·.id)) sd1))) = (((!(F && (upTo (condI colB T.cols) k && runIds last ((T.cols.take k).map (·.id)) sd1))) || !((decide (1 ≤ x.id) && decide (x.id ≤ last)) && !decide (x.id ∈ ((T.cols.take k).map (·.id)).reverse ++ sd1))) || !stateB x.state || !(typed x.kind && fits x.dflt x.kind)) := by
        rw [upTo_succ, condI_at hx, hstep, runIds_snoc, loop_bool]; (first | done | rfl)
      have hsn2 : (((T.cols.take (k + 1)).map (·.id)).reverse ++ sd1) = x.id :: (((T.cols.take k).map (·.id)).reverse ++ sd1) := by rw [hstep]; simp
      refine ⟨by omega, ?_⟩
      simp only [W.unSome_some]
      refine ld_has_z hh (y := (x.id, x.name, x.kind, x.state, x.dflt.kind, x.dflt.n, x.dflt.s, ())) rfl ?_
      refine W.call_of (c_ckId h6 x.id) ?_
      rintro _ s7 ⟨rfl, h7, m7⟩
      refine ⟨(), rfl, ?_⟩
      refine W.call_of (c_ckState h7 x.state) ?_
      rintro _ s8 ⟨rfl, h8, m8⟩
      refine ⟨(), rfl, ?_⟩
      rw [← hsn2] at h8
      generalize hb8 : ((!(F && (upTo (condI colB T.cols) k && runIds last ((T.cols.take k).map (·.id)) sd1))) || !((decide (1 ≤ x.id) && decide (x.id ≤ last)) && !decide (x.id ∈ ((T.cols.take k).map (·.id)).reverse ++ sd1)) || !stateB x.state) = b8 at h8 hnext
      have m678 := (m6.trans m7).trans m8
      have hc8 := h8.cell
      have hw := wrap_succ (k := k) (by omega)
      have fin : ∀ b', (b' = false → b8 = false) → b' = (b8 || !(typed x.kind && fits x.dflt x.kind)) → ∃ k' : Nat, ((S.version, S.last, (ta, tn, tc), ()), (T.id, T.name, (some ad, can, cac), (xa, xan, xac), (ka, kan, kac), ()), ((some ad, can, cac), ()), ((can : Int), ()), (IntKind.i64.wrap ((k : Int) + 1), ()), ()) =
          (((S.version, S.last, (ta, tn, tc), ()), (T.id, T.name, (some ad, can, cac), (xa, xan, xac), (ka, kan, kac), ()), ((some ad, can, cac), ()), ((can : Int), ()), ((k' : Int), ()), ()) : MDen [(true, [.int .i64, .int .i64, .slice]), (true, [.int .i64, .str, .slice, .slice, .slice]), (false, [.slice]), (false, [.int .i64]), (false, [.int .i64])]) ∧ k' ≤ can ∧
          Ck (s8.upd c (.cells #[.int .i64 last, .map (some m), .bool b'] 114 (0, 0))) c m last (!(F && (upTo (condI colB T.cols) k' && runIds last ((T.cols.take k').map (·.id)) sd1))) (((T.cols.take k').map (·.id)).reverse ++ sd1) ∧ Fw.Mod [c, m] s (s8.upd c (.cells #[.int .i64 last, .map (some m), .bool b'] 114 (0, 0))) := by
        intro b' hb he
        refine ⟨k + 1, by rw [hw], hlt, ?_, m678.updLater (.inl (by simp))⟩
        rw [hnext, ← he]
        exact h8.lay hb
      have hmeas : can - (IntKind.i64.wrap ((k : Int) + 1)).toNat < can - ((k : Int)).toNat := by rw [hw]; simp only [Int.toNat_natCast]; omega
      refine ck_ld h8 ?_
      simp only [W.br_iff]
      refine ⟨fun hb => ck_st h8 ⟨fin true (fun e => by cases e) (by have hb : b8 = true := hb
                                                                     rw [hb]; (first | done | rfl)), hmeas⟩, fun hb => ?_⟩
      have hb : b8 = false := hb
      refine W.call_of (c_kind x.kind s8) ?_
      rintro _ _ ⟨rfl, rfl⟩
      refine ⟨((typed x.kind, ()), ()), rfl, ?_⟩
      simp only [W.br_iff]
      refine ⟨fun ht => ck_st h8 ⟨fin true (fun e => by cases e) (by have ht : typed x.kind = false := by simpa using ht
                                                                     rw [ht]; simp), hmeas⟩, fun ht => ?_⟩
      have ht : typed x.kind = true := by simpa using ht
      refine W.call_of (c_fits x.dflt x.kind _) ?_
      rintro _ _ ⟨rfl, rfl⟩
      refine ⟨((fits x.dflt x.kind, ()), ()), rfl, ?_⟩
      exact ck_st h8 ⟨fin _ (fun _ => hb) (by rw [hb, ht]; simp), hmeas⟩
    · have hall : T.cols.take k = T.cols := List.take_of_length_le (by omega)
      have hku : upTo (condI colB T.cols) k = allI colB T.cols := by unfold allI; rw [show k = T.cols.length by omega]
      rw [hall, hku] at h6
      obtain ⟨P1, hP1⟩ : ∃ P, (F && (allI colB T.cols && runIds last (T.cols.map (·.id)) sd1)) = P := ⟨_, rfl⟩
      obtain ⟨sd2, hsd2⟩ : ∃ l, (T.cols.map (·.id)).reverse ++ sd1 = l := ⟨_, rfl⟩
      rw [hP1, hsd2] at h6 hgoal
      rw [hsd2] at hseen
      refine ⟨fun z s' => ∃ k : Nat, z = ((S.version, S.last, (ta, tn, tc), ()), (T.id, T.name, (some ad, can, cac), (xa, xan, xac), (ka, kan, kac), ()), ((xa, xan, xac), ()), ((xan : Int), ()), ((k : Int), ()), ()) ∧ k ≤ xan ∧
        Ck s' c m last (!(P1 && (upTo (condI (idxB T) T.idxs) k && runIds last ((T.idxs.take k).map (·.id)) sd2))) (((T.idxs.take k).map (·.id)).reverse ++ sd2) ∧ Fw.Mod [c, m] s s', fun z _ => xan - z.2.2.2.2.1.1.toNat, ⟨0, rfl, Nat.zero_le _, by simpa [upTo_zero, runIds] using h6, m6⟩, ?_⟩
      rintro _ s7 ⟨k, rfl, hk, h7, m7⟩
      simp only [W.br_iff, decide_eq_true_eq, decide_eq_false_iff_not]
      refine ⟨fun hlt => ?_, fun hge => ?_⟩
      · have hlt : k < xan := by omega
        obtain ⟨x, hx⟩ : ∃ x, T.idxs[k]? = some x := ⟨_, List.getElem?_eq_getElem (by omega)⟩
        obtain ⟨ad2, had2, hh⟩ := (hP0.x.mono (keep m7).le).el.at_enc hx
        dsimp only at had2
        subst had2
        have hstep := ids_take (·.id) hx
        have hnext : (!(P1 && (upTo (condI (idxB T) T.idxs) (k + 1) && runIds last ((T.idxs.take (k + 1)).map (·.id)) sd2))) = (((!(P1 && (upTo (condI (idxB T) T.idxs) k && runIds last ((T.idxs.take k).map (·.id)) sd2))) || !((decide (1 ≤ x.id) && decide (x.id ≤ last)) && !decide (x.id ∈ ((T.idxs.take k).map (·.id)).reverse ++ sd2))) || !stateB x.state || !(decide (0 ≤ colOf T x.column))) := by
          rw [upTo_succ, condI_at hx, hstep, runIds_snoc, loop_bool]; (first | done | rfl)
        have hsn2 : (((T.idxs.take (k + 1)).map (·.id)).reverse ++ sd2) = x.id :: (((T.idxs.take k).map (·.id)).reverse ++ sd2) := by rw [hstep]; simp
        refine ⟨by omega, ?_⟩
        simp only [W.unSome_some]
        refine ld_has_z hh (y := (x.id, x.name, x.column, x.unique, x.state, ())) rfl ?_
        refine W.call_of (c_ckId h7 x.id) ?_
        rintro _ s8 ⟨rfl, h8, m8⟩
        refine ⟨(), rfl, ?_⟩
        refine W.call_of (c_ckState h8 x.state) ?_
        rintro _ s9 ⟨rfl, h9, m9⟩
        refine ⟨(), rfl, ?_⟩
        rw [← hsn2] at h9
        generalize hb8 : ((!(P1 && (upTo (condI (idxB T) T.idxs) k && runIds last ((T.idxs.take k).map (·.id)) sd2))) || !((decide (1 ≤ x.id) && decide (x.id ≤ last)) && !decide (x.id ∈ ((T.idxs.take k).map (·.id)).reverse ++ sd2)) || !stateB x.state) = b8 at h9 hnext
        have m789 := (m7.trans m8).trans m9
        have hw := wrap_succ (k := k) (by omega)
        have hmeas : xan - (IntKind.i64.wrap ((k : Int) + 1)).toNat < xan - ((k : Int)).toNat := by rw [hw]; simp only [Int.toNat_natCast]; omega
        refine ck_ld h9 ?_
        simp only [W.br_iff]
        refine ⟨fun hb => ck_st h9 ⟨⟨k + 1, by rw [hw], hlt, ?_, m789.updLater (.inl (by simp))⟩, hmeas⟩, fun hb => ?_⟩
        · have hb : b8 = true := hb
          rw [hnext, hb]; exact h9.lay (fun e => by cases e)
        · have hb : b8 = false := hb
          refine W.call_of (c_at (p := ⟨T, (some ad, can, cac), (some ad2, xan, xac), (ka, kan, kac)⟩) (hP0.c.mono (keep m789).le) x.column) ?_
          rintro _ _ ⟨rfl, rfl⟩
          refine ⟨((colOf T x.column, ()), ()), rfl, ?_⟩
          refine ck_st h9 ⟨⟨k + 1, by rw [hw], hlt, ?_, m789.updLater (.inl (by simp))⟩, hmeas⟩
          rw [hnext, hb]
          have e1 : (decide (colOf T x.column < 0)) = (false || !decide (0 ≤ colOf T x.column)) := by
            by_cases hh : colOf T x.column < 0
            · rw [decide_eq_true hh, decide_eq_false (by omega)]; (first | done | rfl)
            · rw [decide_eq_false hh, decide_eq_true (by omega)]; (first | done | rfl)
          rw [← e1]
          exact h9.lay (fun _ => hb)
      · have hall : T.idxs.take k = T.idxs := List.take_of_length_le (by omega)
        have hku : upTo (condI (idxB T) T.idxs) k = allI (idxB T) T.idxs := by unfold allI; rw [show k = T.idxs.length by omega]
        rw [hall, hku] at h7
        obtain ⟨P2, hP2⟩ : ∃ P, (P1 && (allI (idxB T) T.idxs && runIds last (T.idxs.map (·.id)) sd2)) = P := ⟨_, rfl⟩
        obtain ⟨sd3, hsd3⟩ : ∃ l, (T.idxs.map (·.id)).reverse ++ sd2 = l := ⟨_, rfl⟩
        rw [hP2, hsd3] at h7 hgoal
        rw [hsd3] at hseen
        refine ⟨fun z s' => ∃ k : Nat, z = ((S.version, S.last, (ta, tn, tc), ()), (T.id, T.name, (some ad, can, cac), (xa, xan, xac), (ka, kan, kac), ()), ((ka, kan, kac), ()), ((kan : Int), ()), ((k : Int), ()), ()) ∧ k ≤ kan ∧
          Ck s' c m last (!(P2 && (upTo (condI (keyB S T) T.keys) k && runIds last ((T.keys.take k).map (·.id)) sd3))) (((T.keys.take k).map (·.id)).reverse ++ sd3) ∧ Fw.Mod [c, m] s s', fun z _ => kan - z.2.2.2.2.1.1.toNat, ⟨0, rfl, Nat.zero_le _, by simpa [upTo_zero, runIds] using h7, m7⟩, ?_⟩
        rintro _ s8 ⟨k, rfl, hk, h8, m8⟩
        simp only [W.br_iff, decide_eq_true_eq, decide_eq_false_iff_not]
        refine ⟨fun hlt => ?_, fun hge => ?_⟩
        · have hlt : k < kan := by omega
          obtain ⟨x, hx⟩ : ∃ x, T.keys[k]? = some x := ⟨_, List.getElem?_eq_getElem (by omega)⟩
          obtain ⟨ad2, had2, hh⟩ := (hP0.k.mono (keep m8).le).el.at_enc hx
          dsimp only at had2
          subst had2
          have hstep := ids_take (·.id) hx
          have hnext : (!(P2 && (upTo (condI (keyB S T) T.keys) (k + 1) && runIds last ((T.keys.take (k + 1)).map (·.id)) sd3))) = (((!(P2 && (upTo (condI (keyB S T) T.keys) k && runIds last ((T.keys.take k).map (·.id)) sd3))) || !((decide (1 ≤ x.id) && decide (x.id ≤ last)) && !decide (x.id ∈ ((T.keys.take k).map (·.id)).reverse ++ sd3))) || !stateB x.state || !(decide (0 ≤ colOf T x.column) && (decide (0 ≤ tabOf S x.parent) && parB S T x))) := by
            rw [upTo_succ, condI_at hx, hstep, runIds_snoc, loop_bool]; (first | done | rfl)
          have hsn2 : (((T.keys.take (k + 1)).map (·.id)).reverse ++ sd3) = x.id :: (((T.keys.take k).map (·.id)).reverse ++ sd3) := by rw [hstep]; simp
          refine ⟨by omega, ?_⟩
          simp only [W.unSome_some]
          refine ld_has_z hh (y := (x.id, x.name, x.column, x.parent, x.state, ())) rfl ?_
          refine W.call_of (c_ckId h8 x.id) ?_
          rintro _ s9 ⟨rfl, h9, m9⟩
          refine ⟨(), rfl, ?_⟩
          refine W.call_of (c_ckState h9 x.state) ?_
          rintro _ s10 ⟨rfl, h10, m10⟩
          refine ⟨(), rfl, ?_⟩
          rw [← hsn2] at h10
          generalize hb8 : ((!(P2 && (upTo (condI (keyB S T) T.keys) k && runIds last ((T.keys.take k).map (·.id)) sd3))) || !((decide (1 ≤ x.id) && decide (x.id ≤ last)) && !decide (x.id ∈ ((T.keys.take k).map (·.id)).reverse ++ sd3)) || !stateB x.state) = b8 at h10 hnext
          have mall := (m8.trans m9).trans m10
          have hw := wrap_succ (k := k) (by omega)
          have hmeas : kan - (IntKind.i64.wrap ((k : Int) + 1)).toNat < kan - ((k : Int)).toNat := by rw [hw]; simp only [Int.toNat_natCast]; omega
          have fin : ∀ b', (b' = false → b8 = false) → b' = (b8 || !(decide (0 ≤ colOf T x.column) && (decide (0 ≤ tabOf S x.parent) && parB S T x))) →
              Ck (s10.upd c (.cells #[.int .i64 last, .map (some m), .bool b'] 114 (0, 0))) c m last (!(P2 && (upTo (condI (keyB S T) T.keys) (k + 1) && runIds last ((T.keys.take (k + 1)).map (·.id)) sd3))) (((T.keys.take (k + 1)).map (·.id)).reverse ++ sd3) ∧ Fw.Mod [c, m] s (s10.upd c (.cells #[.int .i64 last, .map (some m), .bool b'] 114 (0, 0))) := by
            intro b' hb he
            rw [hnext, ← he]
            exact ⟨h10.lay hb, mall.updLater (.inl (by simp))⟩
          refine W.callQ_of ((colOf T x.column, ()), ()) (c_at (p := ⟨T, (some ad, can, cac), (xa, xan, xac), (some ad2, kan, kac)⟩) (hP0.c.mono (keep mall).le) x.column) rfl ?_
          refine W.callQ_of ((tabOf S x.parent, ()), ()) (c_byId (t := (ta, tn, tc)) (hS.mono (keep mall).le) x.parent) rfl ?_
          refine ck_ld h10 ?_
          simp only [W.br_iff, decide_eq_true_eq, decide_eq_false_iff_not]
          refine ⟨fun hb => ck_st h10 ⟨⟨k + 1, by rw [hw], hlt, fin true (fun e => by cases e) (by have hb : b8 = true := hb
                                                                                                   rw [hb]; (first | done | rfl))⟩, hmeas⟩, fun hb => ?_⟩
          have hb : b8 = false := hb
          refine ⟨fun h1 => ck_st h10 ⟨⟨k + 1, by rw [hw], hlt, fin true (fun e => by cases e) (by rw [decide_eq_false (p := 0 ≤ colOf T x.column) (by omega)]; simp)⟩, hmeas⟩, fun h1 => ?_⟩
          refine ⟨fun h2 => ck_st h10 ⟨⟨k + 1, by rw [hw], hlt, fin true (fun e => by cases e) (by rw [decide_eq_false (p := 0 ≤ tabOf S x.parent) (by omega)]; simp)⟩, hmeas⟩, fun h2 => ?_⟩
          have hSn := hS.mono (keep mall).le
          obtain ⟨j, P, hj, hPj, _, _⟩ : ∃ (j : Nat) (P : Tab), tabOf S x.parent = (j : Int) ∧ S.tabs[j]? = some P ∧ True ∧ True := by
            rcases seek_spec (p := fun T : Tab => decide (T.id = x.parent)) S.tabs 0 with ⟨e, _⟩ | ⟨j, P, e, e2, _⟩
            · exact absurd e (by unfold tabOf at h2; omega)
            · exact ⟨j, P, by unfold tabOf; rw [e]; simp, e2, trivial, trivial⟩
          obtain ⟨j2, C, hj2, hCj, _, _⟩ : ∃ (j : Nat) (C : Col), colOf T x.column = (j : Int) ∧ T.cols[j]? = some C ∧ True ∧ True := by
            rcases seek_spec (p := fun c : Col => decide (c.id = x.column)) T.cols 0 with ⟨e, _⟩ | ⟨j, P, e, e2, _⟩
            · exact absurd e (by unfold colOf at h1; omega)
            · exact ⟨j, P, by unfold colOf; rw [e]; simp, e2, trivial, trivial⟩
          have hpar : parB S T x = (match P.cols with | c0 :: _ => decide (C.kind = c0.kind) | [] => false) := by unfold parB; rw [hj, hj2]; simp only [Int.toNat_natCast, hPj, hCj] <;> rfl
          obtain ⟨pp, hpp, hppT⟩ : ∃ pp, ps[j]? = some pp ∧ pp.T = P := by
            rw [hS.eq, List.getElem?_map] at hPj
            cases hq : ps[j]? with
            | none => rw [hq] at hPj; cases hPj
            | some pp => rw [hq] at hPj; exact ⟨pp, rfl, Option.some.inj hPj⟩
          have hjl := (List.getElem?_eq_some_iff.1 hpp).1
          have hj2l := (List.getElem?_eq_some_iff.1 hCj).1
          have htn : tn = ps.length := hSn.el.len
          obtain ⟨ad3, had3, hh3⟩ := hSn.el.el.at_enc hpp
          dsimp only at had3
          subst had3
          have hPP := hSn.all pp (get_mem hpp)
          obtain ⟨PT, ⟨pca, pcn, pcc⟩, ⟨pxa, pxn, pxc⟩, ⟨pka, pkn, pkc⟩⟩ := pp
          dsimp only at hppT
          subst hppT
          have hpcn : pcn = PT.cols.length := hPP.c.len
          simp only [hj, hj2, Int.toNat_natCast]
          refine ⟨by omega, ?_⟩
          simp only [W.unSome_some]
          refine ld_has (j := 2) hh3 (cs := [.slice]) (y := ((pca, pcn, pcc), ())) rfl ?_
          simp only [W.br_iff]
          refine ⟨fun h3 => ck_st h10 ⟨⟨k + 1, by rw [hw], hlt, fin true (fun e => by cases e) ?_⟩, hmeas⟩, fun h3 => ?_⟩
          · have h3 : pcn = 0 := by simpa using h3
            have : PT.cols = [] := List.length_eq_zero_iff.1 (by omega)
            rw [hpar, this]; simp
          · have h3 : pcn ≠ 0 := by simpa using h3
            obtain ⟨c1, cs1, hcs1⟩ : ∃ c0 cs, PT.cols = c0 :: cs := by
              cases hc : PT.cols with
              | nil => rw [hc] at hpcn; simp at hpcn; omega
              | cons a b => exact ⟨a, b, rfl⟩
            obtain ⟨ad4, had4, hh4⟩ := (hP0.c.mono (keep mall).le).el.at_enc hCj
            dsimp only at had4
            cases had4
            obtain ⟨ad5, had5, hh5⟩ := hPP.c.el.at_enc (i := 0) (x := c1) (by rw [hcs1]; (first | done | rfl))
            dsimp only at had5
            subst had5
            rw [Nat.zero_mul, add_zero] at hh5
            refine ⟨by omega, ?_⟩
            simp only [W.unSome_some]
            refine ld_has (j := 2) hh4 (cs := [.int .i64]) (y := (C.kind, ())) rfl ?_
            refine ⟨by omega, ?_⟩
            simp only [W.unSome_some]
            refine ld_has (j := 2) hh3 (cs := [.slice]) (y := ((some ad5, pcn, pcc), ())) rfl ?_
            refine ⟨by dsimp only; omega, ?_⟩
            simp only [W.unSome_some]
            refine ld_has (j := 2) hh5 (cs := [.int .i64]) (y := (c1.kind, ())) rfl ?_
            refine ck_st h10 ⟨⟨k + 1, by rw [hw], hlt, fin _ (fun _ => hb) ?_⟩, hmeas⟩
            rw [hb, hpar, hcs1, decide_eq_true (p := 0 ≤ colOf T x.column) (by omega), decide_eq_true (p := 0 ≤ tabOf S x.parent) (by omega)]
            by_cases hq : C.kind = c1.kind <;> simp [hq]
        · have hall : T.keys.take k = T.keys := List.take_of_length_le (by omega)
          have hku : upTo (condI (keyB S T) T.keys) k = allI (keyB S T) T.keys := by unfold allI; rw [show k = T.keys.length by omega]
          rw [hall, hku, hseen, ← hgoal] at h8
          exact ⟨rfl, h8, m8⟩
end
def errS (S : Sch) : Int := if right S = true then 0 else 100
theorem ck_start {s : PH} {last : Int} {bad : Bool} {K : Nat → W.T} {m : Nat} (hm : s m = some (.map #[] 0)) (hK : ∀ c s', Ck s' c m last bad [] → Fw.Mod [] s s' → s c = none → K c s') :
    W.nw (.cells #[.int .i64 last, .map (some m), .bool bad] 114 (0, 0)) K s := by
  refine W.nw_of fun c s1 hc m1 k1 => ?_
  refine hK c s1 ⟨k1, [], ⟨#[], 0, m1.at hm (by simp), rfl, Go.MapKept.stamped_empty 0⟩, fun _ n => by simp⟩ m1 hc
theorem c_Check {s : PH} {t : Tri} {S : Sch} {ps : List TabP} (h : SchIs s t S ps) : DCalls Try.prog 20 #[schV S t] s fun y s' => y = .int .i64 (errS S) ∧ s' = s := by
  refine DCalls.quiet ?_
  obtain ⟨ta, tn, tc⟩ := t
  refine ok_Check S.version S.last ta tn tc _ s ?_
  unfold vc_Check
  have htn : tn = ps.length := h.el.len
  have hpl : S.tabs.length = ps.length := by rw [h.eq]; simp
  have hfew := h.el.few
  have hmapeq : ps.map (·.T) = S.tabs := h.eq.symm
  simp only [RP_join]
  refine W.join_gen (fun z s' => ∃ c m, z = ((S.version, S.last, (ta, tn, tc), ()), (some ⟨c, 0, none⟩, ()), ()) ∧ Ck s' c m S.last (!headB S) [] ∧ Fw.Mod [] s s' ∧ s c = none ∧ s m = none) ?_ ?_
  · rintro _ s1 ⟨c, m, rfl, h1, m1, hc, hm⟩
    have keep : ∀ {s'}, Fw.Mod [c, m] s1 s' → Fw.Mod [] s s' := fun mm => m1.fresh mm (by simp [hc, hm])
    simp only [RP_call]
    refine W.call_of (c_namesT h1 (h.el.el.mono m1.le) hfew (fun s' hm => h.el.el.mono (keep hm).le) 0 6) ?_
    rintro _ s2 ⟨rfl, h2, m2⟩
    refine ⟨(), rfl, ?_⟩
    rw [hmapeq] at h2
    obtain ⟨P0, hP0⟩ : ∃ P, (headB S && namesB nameT 0 6 S.tabs) = P := ⟨_, rfl⟩
    have hb2 : (!headB S || !namesB nameT 0 6 S.tabs) = !P0 := by rw [← hP0]; cases headB S <;> cases namesB nameT 0 6 S.tabs <;> rfl
    rw [hb2] at h2
    have hright : right S = (P0 && (allI (fun _ T => tabB S T) S.tabs && runIds S.last (S.tabs.flatMap idsOf) [])) := by
      rw [← hP0]; unfold right; simp only [Bool.and_assoc]
    have hbad : ∀ {b : Bool}, right S = false → errS S = 100 := fun e => by unfold errS; rw [e]; (first | done | rfl)
    simp only [RP_loop]
    refine ⟨fun z s' => ∃ k : Nat, z = ((S.version, S.last, (ta, tn, tc), ()), (some ⟨c, 0, none⟩, ()), ((ta, tn, tc), ()), ((tn : Int), ()), ((k : Int), ()), ()) ∧ k ≤ tn ∧
      Ck s' c m S.last (!(P0 && (upTo (condI (fun _ T => tabB S T) S.tabs) k && runIds S.last ((S.tabs.take k).flatMap idsOf) []))) (((S.tabs.take k).flatMap idsOf).reverse ++ []) ∧ Fw.Mod [c, m] s1 s', fun z _ => tn - z.2.2.2.2.1.1.toNat, ⟨0, rfl, Nat.zero_le _, by simpa [upTo_zero, runIds] using h2, m2⟩, ?_⟩
    rintro _ s3 ⟨k, rfl, hk, h3, m3⟩
    generalize hb3 : (!(P0 && (upTo (condI (fun _ T => tabB S T) S.tabs) k && runIds S.last ((S.tabs.take k).flatMap idsOf) []))) = b3 at h3
    simp only [RP_ite, W.br_iff, decide_eq_true_eq, decide_eq_false_iff_not]
    refine ⟨fun hlt => ?_, fun hge => ?_⟩
    · have hlt : k < tn := by omega
      obtain ⟨p, hp⟩ : ∃ p, ps[k]? = some p := ⟨_, List.getElem?_eq_getElem (by omega)⟩
      have hT : S.tabs[k]? = some p.T := by rw [h.eq, List.getElem?_map, hp]; (first | done | rfl)
      obtain ⟨ad, had, hh⟩ := (h.mono (keep m3).le).el.el.at_enc hp
      dsimp only at had
      subst had
      simp only [RP_guard, W.guard_iff, RP_unSome, W.unSome_some]
      refine ⟨by omega, ?_⟩
      refine ld_has_z hh (y := (p.T.id, p.T.name, p.c, p.x, p.k, ())) rfl ?_
      have := ck_ld h3 (K := fun x => W.br x.1 (W.ret (fun y s' => y = .int .i64 (errS S) ∧ Fw.Mod [] s s') (.int .i64 100)) (W.call Try.prog 56 #[cp c, schV S (some ad, tn, tc), tabV p.T p.c p.x p.k] (true, []) fun _ => fun s' =>
          (∃ k_1 : Nat, ((S.version, S.last, (some ad, tn, tc), ()), (some (Addr.mk c 0 none), ()), ((some ad, tn, tc), ()), ((tn : Int), ()), (IntKind.i64.wrap ((k : Int) + 1), ()), ()) = (((S.version, S.last, (some ad, tn, tc), ()), (some (Addr.mk c 0 none), ()), ((some ad, tn, tc), ()), ((tn : Int), ()), ((k_1 : Int), ()), ()) : MDen [(true, [.int .i64, .int .i64, .slice]), (false, [.ptr]), (false, [.slice]), (false, [.int .i64]), (false, [.int .i64])]) ∧ k_1 ≤ tn ∧
            Ck s' c m S.last (!(P0 && (upTo (condI (fun _ T => tabB S T) S.tabs) k_1 && runIds S.last ((S.tabs.take k_1).flatMap idsOf) []))) (((S.tabs.take k_1).flatMap idsOf).reverse ++ []) ∧ Fw.Mod [c, m] s1 s') ∧ tn - (IntKind.i64.wrap ((k : Int) + 1)).toNat < tn - ((k : Int)).toNat)) (by
        simp only [W.br_iff]
        refine ⟨fun hb => ?_, fun hb => ?_⟩
        · have hb : b3 = true := hb
          refine ⟨?_, keep m3⟩
          have e : right S = false := by
            rw [hright]
            rw [hb] at hb3
            have hu : upTo (condI (fun _ T => tabB S T) S.tabs) k = false → allI (fun _ T => tabB S T) S.tabs = false := by
              intro e
              cases ha : allI (fun _ T => tabB S T) S.tabs with
              | false => rfl
              | true =>
                have hall := upTo_iff.1 ha
                have : upTo (condI (fun _ T => tabB S T) S.tabs) k = true := upTo_iff.2 fun i hi => hall i (by omega)
                rw [e] at this; cases this
            have hr : runIds S.last ((S.tabs.take k).flatMap idsOf) [] = false → runIds S.last (S.tabs.flatMap idsOf) [] = false := by
              intro e
              rw [← List.take_append_drop k S.tabs, List.flatMap_append, runIds_app, List.take_append_drop] at *
              rw [e]; (first | done | rfl)
            revert hb3
            cases P0 <;> cases h1 : upTo (condI (fun _ T => tabB S T) S.tabs) k <;> cases h2 : runIds S.last ((S.tabs.take k).flatMap idsOf) [] <;> simp
            all_goals first | (intro _; exact hr h2) | (intro h; rw [hu h1] at h; cases h)
          rw [hbad (b := true) e]
        · have hb : b3 = false := hb
          refine W.call_of (c_ckTable (p := p) h3 h (get_mem hp) (keep m3) hc hm) ?_
          rintro _ s4 ⟨rfl, h4, m4⟩
          refine ⟨(), rfl, ?_⟩
          have hw := wrap_succ (k := k) (by omega)
          have htk : (S.tabs.take (k + 1)).flatMap idsOf = (S.tabs.take k).flatMap idsOf ++ idsOf p.T := by rw [List.take_add_one, hT]; simp
          refine ⟨⟨k + 1, by rw [hw], hlt, ?_, m3.trans m4⟩, by rw [hw]; simp only [Int.toNat_natCast]; omega⟩
          rw [htk, upTo_succ, condI_at hT, runIds_app, List.reverse_append, List.append_assoc]
          have : (!(P0 && ((upTo (condI (fun _ T => tabB S T) S.tabs) k && tabB S p.T) && (runIds S.last ((S.tabs.take k).flatMap idsOf) [] && runIds S.last (idsOf p.T) (((S.tabs.take k).flatMap idsOf).reverse ++ []))))) = (b3 || !(tabB S p.T && runIds S.last (idsOf p.T) (((S.tabs.take k).flatMap idsOf).reverse ++ []))) := by
            rw [← hb3]
            generalize upTo (condI (fun _ T => tabB S T) S.tabs) k = U
            generalize runIds S.last ((S.tabs.take k).flatMap idsOf) [] = R
            generalize runIds S.last (idsOf p.T) _ = R2
            cases P0 <;> cases U <;> cases R <;> cases R2 <;> cases tabB S p.T <;> rfl
          rw [this]; exact h4)
      exact this
    · have hall : S.tabs.take k = S.tabs := List.take_of_length_le (by omega)
      have hku : upTo (condI (fun _ T => tabB S T) S.tabs) k = allI (fun _ T => tabB S T) S.tabs := by unfold allI; rw [show k = S.tabs.length by omega]
      rw [hall, hku, ← hright] at hb3
      simp only [RP_unSome, RP_ld]
      have := ck_ld h3 (K := fun x => W.br x.1 (W.ret (fun y s' => y = .int .i64 (errS S) ∧ Fw.Mod [] s s') (.int .i64 100)) (W.ret (fun y s' => y = .int .i64 (errS S) ∧ Fw.Mod [] s s') (.int .i64 0))) (by
        simp only [W.br_iff]
        refine ⟨fun hb => ⟨?_, keep m3⟩, fun hb => ⟨?_, keep m3⟩⟩
        · have hb : b3 = true := hb
          rw [hb] at hb3
          rw [hbad (b := true) (by simpa using hb3)]
        · have hb : b3 = false := hb
          rw [hb] at hb3
          have : right S = true := by simpa using hb3
          unfold errS; rw [this]; (first | done | rfl))
      exact this
  · intro J hJ
    simp only [RP_nw, RP_ite]
    refine W.nw_of fun m s1 hm m1 k1 => ?_
    have fin : ∀ b, b = !headB S → W.nw (.cells #[.int .i64 S.last, .map (some m), .bool b] 114 (0, 0)) (fun r => J ((S.version, S.last, (ta, tn, tc), ()), (some ⟨r, 0, none⟩, ()), ())) s1 := by
      intro b hb
      refine ck_start k1 fun c s2 h2 m2 hc => ?_
      rw [hb] at h2
      exact hJ _ _ ⟨c, m, rfl, h2, m1.trans m2, m1.none hc (by simp), hm⟩
    simp only [W.br_iff, decide_eq_true_eq, decide_eq_false_iff_not]
    unfold headB at fin
    refine ⟨fun h1 => fin true (by rw [decide_eq_false (p := 0 ≤ S.version) (by omega)]; (first | done | rfl)), fun h1 => ⟨fun h2 => fin true (by rw [decide_eq_false (p := S.version ≤ 1125899906842624) (by omega)]; simp), fun h2 => ⟨fun h3 => fin true (by rw [decide_eq_false (p := 0 ≤ S.last) (by omega)]; simp), fun h3 => fin _ ?_⟩⟩⟩
    rw [decide_eq_true (p := 0 ≤ S.version) (by omega), decide_eq_true (p := S.version ≤ 1125899906842624) (by omega), decide_eq_true (p := 0 ≤ S.last) (by omega)]
    by_cases h4 : S.last ≤ 1125899906842624
    · rw [decide_eq_true h4, decide_eq_false (by omega)]; (first | done | rfl)
    · rw [decide_eq_false h4, decide_eq_true (by omega)]; (first | done | rfl)
end Go.Proofs.Ythepfbcgpbkbdaa
end
section
set_option linter.unusedVariables false
set_option maxHeartbeats 1000000
namespace Go.Proofs.Ythepfbcgpbkbdaa
open Fw Fw.W Go
/-- lintel/lintellaw15.Example -/
def vc_Example {W : Type} (π : Prims W) : W :=
  π.nw (Go.Obj.cells #[(Go.Value.int (IntKind.i64) ((0 : Int))), (Go.Value.string (ByteArray.mk #[(97 : UInt8)])), (Go.Value.int (IntKind.i64) ((1 : Int))), (Go.Value.int (IntKind.i64) ((0 : Int))), (Go.Value.int (IntKind.i64) ((0 : Int))), (Go.Value.int (IntKind.i64) ((0 : Int))), (Go.Value.string (ByteArray.mk #[])), (Go.Value.int (IntKind.i64) ((0 : Int))), (Go.Value.string (ByteArray.mk #[(98 : UInt8)])), (Go.Value.int (IntKind.i64) ((2 : Int))), (Go.Value.int (IntKind.i64) ((0 : Int))), (Go.Value.int (IntKind.i64) ((0 : Int))), (Go.Value.int (IntKind.i64) ((0 : Int))), (Go.Value.string (ByteArray.mk #[]))] (44 : Nat) ((0 : Nat), (0 : Nat))) fun r0 =>
  π.ret (Go.Value.agg #[(Go.Value.int (IntKind.i64) ((1 : Int))), (Go.Value.string (ByteArray.mk #[(116 : UInt8)])), (Go.Value.string (ByteArray.mk #[])), (Go.Value.string (ByteArray.mk #[])), (Go.Value.string (ByteArray.mk #[])), (Go.Value.bool (false)), (Go.Value.int (IntKind.i64) ((0 : Int))), (Go.Value.int (IntKind.i64) ((0 : Int))), (Go.Value.int (IntKind.i64) ((0 : Int))), (Go.Value.string (ByteArray.mk #[])), (Go.Value.slice (some (Addr.mk r0 (0 : Nat) none)) ((2 : Nat)) ((2 : Nat)))])
def ann_Example : Ann := { draws := [], join := [], loop := [] }
def la_Example : LA := { ptr := [(0, 0, 0)], ty := [(0, 29)] }
set_option maxRecDepth 100000 in
theorem eq_Example {W : Type} (π : Prims W) : bodyL π Try.prog la_Example ann_Example (mkFr (maskA [] [] 0) 5) Try.f37 (bodyOf Try.f37) (mkFr (List.map some []) 5) = vc_Example π := by kernel_rfl
theorem ok_Example (R : Value → PH → Prop) (s : PH) (h : vc_Example (RP Try.prog R) s) : DCalls Try.prog 37 (List.map AV.val []).toArray s R :=
  calls_vcL (c := bodyOf Try.f37) (ann := ann_Example) la_Example (by kernel_rfl) Try.func37 rfl (by kernel_rfl) [] [] (by rw [Try.ntmps37]; exact Nat.le_of_ble_eq_true rfl) (by kernel_rfl) (by rw [show Try.f37.ntmps = 5 from Try.ntmps37, eq_Example]; exact h)
end Go.Proofs.Ythepfbcgpbkbdaa
end
section
set_option linter.unusedVariables false
set_option linter.unusedSimpArgs false
set_option maxHeartbeats 2000000
set_option maxRecDepth 100000
namespace Go.Proofs.Ythepfbcgpbkbdaa
open Fw Go
attribute [-simp] Fw.W.ld_iff Fw.W.st_iff
theorem callq {P : Program} {f : FuncId} {args : Array Value} {r : Bool × List Shape} {k : MDen r.2 → W.T} {s : PH} {v0 : Value} (x : MDen r.2) (h : DCalls P f args s fun v s' => v = v0 ∧ s' = s) (hx : mkRes r x = v0) (hk : k x s) : W.call P f args r k s :=
  W.call_of h (by rintro v s' ⟨rfl, rfl⟩; exact ⟨x, hx, hk⟩)
/-- a list of ids that grows -/
structure Ids (s0 s : PH) (a : Option Addr) (n c : Nat) (l : List Int) : Prop where
  row : rowE intE s 3 a n c l
  fr : ∀ g ∈ Fw.blk a, s0 g = none
  md : Fw.Mod [] s0 s
theorem Ids.nil (s : PH) : Ids s s none 0 0 [] := ⟨⟨by simp, Nat.le_refl _, Nat.zero_le _, .inl ⟨rfl, rfl, rfl⟩⟩, by simp [Fw.blk], Mod.refl _ _⟩
theorem Ids.push {s0 s : PH} {a : Option Addr} {n c : Nat} {l : List Int} {x : Int} {K : Option Addr → Nat → Nat → W.T} (h : Ids s0 s a n c l) (hl : l.length ≤ 4294967296)
    (hK : ∀ a' c' s', Ids s0 s' a' (n + 1) c' (l ++ [x]) → K a' (n + 1) c' s') : W.nw (.cells #[.int .i64 x] 3 (0, 0)) (fun r => W.app 3 1 8 [.int .i64 0] a n c (Src.sl (some ⟨r, 0, none⟩) 1) K) s := by
  refine W.nw_of fun r s1 hr m1 k1 => ?_
  have hmax : maxLen = 9223372036854775807 := rfl
  have hn : n = l.length := h.row.len
  have hrow := h.row.mod m1 (by simp)
  refine app_rowE hrow rfl (ys := [x]) (k := 1) ⟨rfl, ?_⟩ rfl rfl (by omega) (by omega) ?_
  · refine has_one ?_
    have := has_block k1 0 (.int .i64 x) (by simp)
    rwa [add_mk, Nat.zero_add] at this
  · intro a' c' s' h' hm
    refine hK a' c' s' ⟨h', ?_, ?_⟩
    · rcases hm with ⟨rfl, _⟩ | ⟨g, rfl, hg, _⟩
      · exact h.fr
      · intro g' hg'
        have : g' = g := by simpa [Fw.blk] using hg'
        subst this
        exact (h.md.trans m1).none hg (by simp)
    · rcases hm with ⟨rfl, hm⟩ | ⟨g, rfl, hg, hm⟩
      · exact (h.md.trans m1).fresh hm fun g hg => .inr (h.fr g hg)
      · exact (h.md.trans m1).trans hm
theorem allI_iff {α : Type} {p : Nat → α → Bool} {xs : List α} : allI p xs = true ↔ ∀ i x, xs[i]? = some x → p i x = true := by
  unfold allI; rw [upTo_iff]
  constructor
  · intro h i x hx; have := h i (List.getElem?_eq_some_iff.1 hx).1; rwa [condI_at hx] at this
  · intro h i hi
    obtain ⟨x, hx⟩ : ∃ x, xs[i]? = some x := ⟨_, List.getElem?_eq_getElem hi⟩
    rw [condI_at hx]; exact h i x hx
theorem right_iff {S : Sch} : right S = true ↔ headB S = true ∧ S.tabs.length ≤ 6 ∧ allI (nameT S.tabs) S.tabs = true ∧ allI (fun _ T => tabB S T) S.tabs = true ∧ runIds S.last (S.tabs.flatMap idsOf) [] = true := by
  unfold right namesB
  simp only [Bool.and_eq_true, decide_eq_true_eq]
  constructor
  · rintro ⟨a, ⟨_, b, c⟩, d, e⟩; exact ⟨a, by omega, c, d, e⟩
  · rintro ⟨a, b, c, d, e⟩; exact ⟨a, ⟨by omega, by omega, c⟩, d, e⟩
theorem tabB_iff {S : Sch} {T : Tab} : tabB S T = true ↔ 1 ≤ T.cols.length ∧ T.cols.length ≤ 8 ∧ T.idxs.length ≤ 8 ∧ T.keys.length ≤ 8 ∧ allI (nameC T.cols) T.cols = true ∧ allI (nameX T.idxs) T.idxs = true ∧ allI (nameF T.keys) T.keys = true ∧
    first3 T = true ∧ allI colB T.cols = true ∧ allI (idxB T) T.idxs = true ∧ allI (keyB S T) T.keys = true := by
  unfold tabB namesB
  simp only [Bool.and_eq_true, decide_eq_true_eq]
  constructor
  · rintro ⟨⟨a, b, c⟩, ⟨d, e, f⟩, ⟨g, h, i⟩, j, k, l, m⟩; exact ⟨by omega, by omega, by omega, by omega, c, f, i, j, k, l, m⟩
  · rintro ⟨a, b, c, d, e, f, g, h, i, j, k⟩; exact ⟨⟨by omega, by omega, e⟩, ⟨by omega, by omega, f⟩, ⟨by omega, by omega, g⟩, h, i, j, k⟩
end Go.Proofs.Ythepfbcgpbkbdaa
end
section
set_option linter.unusedVariables false
set_option linter.unusedSimpArgs false
set_option maxHeartbeats 2000000
set_option maxRecDepth 100000
namespace Go.Proofs.Ythepfbcgpbkbdaa
open Fw Go
attribute [-simp] Fw.W.ld_iff Fw.W.st_iff
end Go.Proofs.Ythepfbcgpbkbdaa
end
section
set_option linter.unusedVariables false
set_option linter.unusedSimpArgs false
set_option maxHeartbeats 1000000
set_option maxRecDepth 100000
namespace Go.Proofs.Ythepfbcgpbkbdaa
open Fw Go
attribute [-simp] Fw.W.ld_iff Fw.W.st_iff
def pubAt (T : Tab) (name : ByteArray) : Int := if 0 ≤ colAt T name then (match T.cols[(colAt T name).toNat]? with | some c => if c.state = 3 then colAt T name else -1 | none => -1) else -1
def dbl (cols : List Col) : Bool := !(upTo (condI (fun i (c : Col) => decide (seek (fun y : Col => decide (y.name = c.name)) cols 0 = i)) cols) cols.length)
def mkCols : Int → List Col → List Col
  | _, [] => []
  | n, c :: cs => ⟨n, c.name, c.kind, 3, ⟨0, 0, ⟨#[]⟩⟩⟩ :: mkCols (n + 1) cs
theorem mkCols_len : ∀ (l : List Col) (n : Int), (mkCols n l).length = l.length
  | [], n => rfl
  | c :: l, n => by simp [mkCols, mkCols_len l]
theorem mkCols_snoc : ∀ (l : List Col) (n : Int) (c : Col), mkCols n (l ++ [c]) = mkCols n l ++ [⟨n + l.length, c.name, c.kind, 3, ⟨0, 0, ⟨#[]⟩⟩⟩]
  | [], n, c => by simp [mkCols]
  | d :: l, n, c => by simp [mkCols, mkCols_snoc l]; omega
abbrev Res := Except Int Sch
def createTurn (S : Sch) (D : Ddl) (st : Int) : Res :=
  if (named D.table && D.cols.all fun c => named c.name) = false then .error 100
  else if (decide (0 ≤ tabAt S D.table) || dbl D.cols) = true then .error 152
  else if (decide (6 ≤ S.tabs.length) || (decide (D.cols.length < 1) || decide (8 < D.cols.length))) = true then .error 156
  else if (D.cols.all fun c => typed c.kind) = false then .error 154
  else if st ≠ 3 then .error 1
  else .ok ⟨S.version, S.last + 1 + D.cols.length, S.tabs ++ [⟨S.last + 1, D.table, mkCols (S.last + 2) D.cols, [], []⟩]⟩
def placed {α : Type} (l : List α) (k : Nat) (st : Int) (x' : α) : List α := if st = 0 then l.eraseIdx k else l.set k x'
def used (T : Tab) (k : Int) (x : Col) : Bool := decide (k = 0) || (T.idxs.any (fun y => decide (y.column = x.id)) || T.keys.any (fun y => decide (y.column = x.id)))
def Col.put (c : Col) (st : Int) : Col := { c with state := st }
def Idx.put (c : Idx) (st : Int) : Idx := { c with state := st }
def For.put (c : For) (st : Int) : For := { c with state := st }
def colTurn (S : Sch) (i : Nat) (T : Tab) (D : Ddl) (st : Int) : Res :=
  if D.kind = 4 ∧ colAt T D.column < 0 then
    if freshE D.column T.cols.length ≠ 0 then .error (freshE D.column T.cols.length)
    else if (typed D.type && fits D.dflt D.type) = false then .error 154
    else if st = 0 then .error 1
    else .ok ⟨S.version, S.last + 1, S.tabs.set i { T with cols := T.cols ++ [⟨S.last + 1, D.column, D.type, st, D.dflt⟩] }⟩
  else if colAt T D.column < 0 then .error 151
  else match T.cols[(colAt T D.column).toNat]? with
  | none => .error 151
  | some x => if D.kind = 4 ∧ x.state = 3 then .error 152
    else if D.kind = 5 ∧ used T (colAt T D.column) x = true then .error 155
    else .ok ⟨S.version, S.last, S.tabs.set i { T with cols := placed T.cols (colAt T D.column).toNat st (x.put st) }⟩
def idxTurn (S : Sch) (i : Nat) (T : Tab) (D : Ddl) (st : Int) : Res :=
  if D.kind = 2 ∧ idxAt T D.name < 0 then
    if freshE D.name T.idxs.length ≠ 0 then .error (freshE D.name T.idxs.length)
    else if pubAt T D.column < 0 then .error 151
    else if st = 0 then .error 1
    else match T.cols[(pubAt T D.column).toNat]? with
    | none => .error 151
    | some c => .ok ⟨S.version, S.last + 1, S.tabs.set i { T with idxs := T.idxs ++ [⟨S.last + 1, D.name, c.id, D.unique, st⟩] }⟩
  else if idxAt T D.name < 0 then .error 153
  else match T.idxs[(idxAt T D.name).toNat]? with
  | none => .error 153
  | some x => if D.kind = 2 ∧ x.state = 3 then .error 152
    else .ok ⟨S.version, S.last, S.tabs.set i { T with idxs := placed T.idxs (idxAt T D.name).toNat st (x.put st) }⟩
def keyTurn (S : Sch) (i : Nat) (T : Tab) (D : Ddl) (st : Int) : Res :=
  if D.kind = 6 ∧ keyAt T D.name < 0 then
    if freshE D.name T.keys.length ≠ 0 then .error (freshE D.name T.keys.length)
    else if pubAt T D.column < 0 then .error 151
    else if tabAt S D.parent < 0 then .error 150
    else match T.cols[(pubAt T D.column).toNat]?, S.tabs[(tabAt S D.parent).toNat]? with
    | some c, some P => (match P.cols with
      | [] => .error 154
      | c0 :: _ => if c.kind ≠ c0.kind then .error 154
        else if st = 0 then .error 1
        else .ok ⟨S.version, S.last + 1, S.tabs.set i { T with keys := T.keys ++ [⟨S.last + 1, D.name, c.id, P.id, st⟩] }⟩)
    | _, _ => .error 151
  else if keyAt T D.name < 0 then .error 153
  else match T.keys[(keyAt T D.name).toNat]? with
  | none => .error 153
  | some x => if D.kind = 6 ∧ x.state = 3 then .error 152
    else .ok ⟨S.version, S.last, S.tabs.set i { T with keys := placed T.keys (keyAt T D.name).toNat st (x.put st) }⟩
def turn1 (S : Sch) (D : Ddl) (st : Int) : Res :=
  if D.kind = 1 then createTurn S D st
  else if tabAt S D.table < 0 then .error 150
  else match S.tabs[(tabAt S D.table).toNat]? with
  | none => .error 150
  | some T => if D.kind = 4 ∨ D.kind = 5 then colTurn S (tabAt S D.table).toNat T D st
    else if D.kind = 2 ∨ D.kind = 3 then idxTurn S (tabAt S D.table).toNat T D st
    else keyTurn S (tabAt S D.table).toNat T D st
abbrev noSch : Sch := ⟨0, 0, []⟩
def Sch.turn (S : Sch) (D : Ddl) (st : Int) : Sch × Int :=
  if (right S && (decide (0 ≤ st) && decide (st ≤ 3))) = false then (noSch, 100)
  else if D.kind < 1 ∨ 7 < D.kind then (noSch, 1)
  else match turn1 { S with version := S.version + 1 } D st with
  | .error e => (noSch, e)
  | .ok S' => (S', 0)
def Res.ErrOk (r : Res) : Prop := ∀ e, r = .error e → e ≠ 0
theorem err_ite {c : Prop} [Decidable c] {a b : Res} (ha : c → a.ErrOk) (hb : ¬ c → b.ErrOk) : Res.ErrOk (if c then a else b) := by
  by_cases h : c
  · rw [if_pos h]; exact ha h
  · rw [if_neg h]; exact hb h
theorem err_e {e : Int} (h : e ≠ 0) : Res.ErrOk (.error e) := fun e' h' => by cases h'; exact h
theorem err_o {S : Sch} : Res.ErrOk (.ok S) := fun e' h' => by cases h'
theorem turn1_err (S : Sch) (D : Ddl) (st : Int) : Res.ErrOk (turn1 S D st) := by
  have h1 : Res.ErrOk (createTurn S D st) := by unfold createTurn; repeat' (first | (refine err_ite (fun _ => ?_) (fun _ => ?_)) | exact err_o | exact err_e (by decide) | exact err_e ‹_› | split)
  have h2 : ∀ i T, Res.ErrOk (colTurn S i T D st) := by intro i T; unfold colTurn; repeat' (first | (refine err_ite (fun _ => ?_) (fun _ => ?_)) | exact err_o | exact err_e (by decide) | exact err_e ‹_› | split)
  have h3 : ∀ i T, Res.ErrOk (idxTurn S i T D st) := by intro i T; unfold idxTurn; repeat' (first | (refine err_ite (fun _ => ?_) (fun _ => ?_)) | exact err_o | exact err_e (by decide) | exact err_e ‹_› | split)
  have h4 : ∀ i T, Res.ErrOk (keyTurn S i T D st) := by intro i T; unfold keyTurn; repeat' (first | (refine err_ite (fun _ => ?_) (fun _ => ?_)) | exact err_o | exact err_e (by decide) | exact err_e ‹_› | split)
  unfold turn1
  repeat' (first | exact h1 | exact h2 _ _ | exact h3 _ _ | exact h4 _ _ | (refine err_ite (fun _ => ?_) (fun _ => ?_)) | exact err_e (by decide) | split)
def Lof (t : Tri) (ps : List TabP) : List Nat := Fw.blk t.1 ++ ps.flatMap TabP.L
structure Has (s : PH) (t : Tri) (ps : List TabP) : Prop where
  row : rowE tabE s 42 t.1 t.2.1 t.2.2 ps
  all : ∀ p ∈ ps, Own s p
  nod : (Lof t ps).Nodup
theorem Has.nil (s : PH) : Has s noTri [] := ⟨rowE.nil, fun p hp => by simp at hp, by simp [Lof, Fw.blk]⟩
theorem Has.known {s : PH} {t : Tri} {ps : List TabP} (h : Has s t ps) : ∀ g ∈ Lof t ps, s g ≠ none := by
  intro g hg
  simp only [Lof, List.mem_append, List.mem_flatMap] at hg
  rcases hg with hg | ⟨p, hp, hg⟩
  · exact h.row.known g hg
  · exact (h.all p hp).known g hg
theorem Lof_t {t : Tri} {ps : List TabP} {g : Nat} (h : g ∈ Fw.blk t.1) : g ∈ Lof t ps := List.mem_append.2 (.inl h)
theorem Lof_p {t : Tri} {ps : List TabP} {p : TabP} (hp : p ∈ ps) {g : Nat} (h : g ∈ p.L) : g ∈ Lof t ps := List.mem_append.2 (.inr (List.mem_flatMap.2 ⟨p, hp, h⟩))
theorem Has.mod {s s' : PH} {t : Tri} {ps : List TabP} {M : List Nat} (h : Has s t ps) (hm : Fw.Mod M s s') (hd : ∀ g ∈ Lof t ps, g ∉ M) : Has s' t ps :=
  ⟨h.row.mod hm fun g hg => hd g (Lof_t hg), fun p hp => (h.all p hp).mod hm fun g hg => hd g (Lof_p hp hg), h.nod⟩
theorem Has.is {s : PH} {t : Tri} {ps : List TabP} (h : Has s t ps) {S : Sch} (he : S.tabs = ps.map (·.T)) (hn : S.tabs.length ≤ 4294967296) (hf : ∀ T ∈ S.tabs, T.Few) : SchIs s t S ps :=
  ⟨Sl.of_row h.row (by rw [he, List.length_map] at hn; exact hn), he, fun p hp => (h.all p hp).is (hf _ (by rw [he]; exact List.mem_map_of_mem hp))⟩
theorem Has.push {s : PH} {a : Option Addr} {n c : Nat} {ps : List TabP} {p : TabP} {K : Option Addr → Nat → Nat → W.T} (h : Has s (a, n, c) ps) (ho : Own s p) (hp : p.L.Nodup) (hd : ∀ g ∈ p.L, g ∉ Lof (a, n, c) ps) (hl : ps.length ≤ 4294967296)
    (hK : ∀ a' c' s', Has s' (a', n + 1, c') (ps ++ [p]) → Step (Lof (a, n, c) ps ++ p.L) (Lof (a', n + 1, c') (ps ++ [p])) s s' → K a' (n + 1) c' s') :
    W.nw (.cells (tabE.f p).toArray 42 (0, 0)) (fun r => W.app 42 5 96 [.int .i64 0, .string ⟨#[]⟩, .slice none 0 0, .slice none 0 0, .slice none 0 0] a n c (Src.sl (some ⟨r, 0, none⟩) 1) K) s := by
  refine W.nw_of fun r s1 hr m1 k1 => ?_
  have hmax : maxLen = 9223372036854775807 := rfl
  have hn : n = ps.length := h.row.len
  have h1 := h.mod m1 (by simp)
  have ho1 := ho.mod m1 (by simp)
  refine app_rowE h1.row rfl (ys := [p]) (k := 1) (src_has (by have := has_block k1; simpa using this) rfl) rfl rfl (by dsimp only; omega) (by dsimp only; omega) ?_
  intro a' c' s' h' hm
  have hdt : ∀ g ∈ ps.flatMap TabP.L, g ∉ Fw.blk a := by
    intro g hg hg2
    have := h.nod
    simp only [Lof, List.nodup_append] at this
    exact this.2.2 g hg2 g hg rfl
  have hrest : (ps.flatMap TabP.L ++ p.L).Nodup := by
    rw [List.nodup_append]
    have := h.nod
    simp only [Lof, List.nodup_append] at this
    refine ⟨this.2.1, hp, ?_⟩
    rintro g hg _ hg2 rfl
    exact hd g hg2 (List.mem_append.2 (.inr hg))
  have hL : Lof (a', n + 1, c') (ps ++ [p]) = Fw.blk a' ++ (ps.flatMap TabP.L ++ p.L) := by simp [Lof, List.flatMap_append]
  have hLp : ∀ g ∈ ps.flatMap TabP.L ++ p.L, g ∈ Lof (a, n, c) ps ++ p.L := by
    intro g hg
    rcases List.mem_append.1 hg with hg | hg
    · exact List.mem_append.2 (.inl (List.mem_append.2 (.inr hg)))
    · exact List.mem_append.2 (.inr hg)
  rcases hm with ⟨rfl, hm⟩ | ⟨g, rfl, hg, hm⟩
  · refine hK _ _ _ ⟨h', ?_, ?_⟩ ⟨(m1.mono (by simp)).trans (hm.mono fun x hx => List.mem_append.2 (.inl (Lof_t (ps := ps) hx))), ?_⟩
    · intro q hq
      rcases List.mem_append.1 hq with hq | hq
      · exact (h1.all q hq).mod hm fun g hg => hdt g (List.mem_flatMap.2 ⟨q, hq, hg⟩)
      · have : q = p := by simpa using hq
        subst this
        exact ho1.mod hm fun g hg hg2 => hd g hg (Lof_t hg2)
    · rw [hL, List.nodup_append]
      refine ⟨blk_nodup _, hrest, ?_⟩
      rintro g hg _ hg2 rfl
      rcases List.mem_append.1 hg2 with hg2 | hg2
      · exact hdt g hg2 hg
      · exact hd g hg2 (Lof_t hg)
    · intro x hx
      rw [hL] at hx
      rcases List.mem_append.1 hx with hx | hx
      · exact .inl (List.mem_append.2 (.inl (Lof_t hx)))
      · exact .inl (hLp x hx)
  · have hg0 : s g = none := m1.none hg (by simp)
    refine hK _ _ _ ⟨h', ?_, ?_⟩ ⟨(m1.trans hm).mono (by simp), ?_⟩
    · intro q hq
      rcases List.mem_append.1 hq with hq | hq
      · exact (h1.all q hq).mod hm (by simp)
      · have : q = p := by simpa using hq
        subst this
        exact ho1.mod hm (by simp)
    · rw [hL, List.nodup_append]
      refine ⟨blk_nodup _, hrest, ?_⟩
      rintro g' hg' _ hg2 rfl
      have : g' = g := by simpa [Fw.blk] using hg'
      subst this
      rcases List.mem_append.1 hg2 with hg2 | hg2
      · exact h.known g' (List.mem_append.2 (.inr hg2)) hg0
      · exact ho.known g' hg2 hg0
    · intro x hx
      rw [hL] at hx
      rcases List.mem_append.1 hx with hx | hx
      · have : x = g := by simpa [Fw.blk] using hx
        subst this
        exact .inr hg0
      · exact .inl (hLp x hx)
theorem Lof_mid {t : Tri} {l r : List TabP} {p : TabP} {g : Nat} : g ∈ Lof t (l ++ p :: r) ↔ (g ∈ Fw.blk t.1 ∨ g ∈ l.flatMap TabP.L ∨ g ∈ r.flatMap TabP.L) ∨ g ∈ p.L := by
  simp only [Lof, List.flatMap_append, List.flatMap_cons, List.mem_append]
  constructor
  · rintro (h | h | h | h)
    · exact .inl (.inl h)
    · exact .inl (.inr (.inl h))
    · exact .inr h
    · exact .inl (.inr (.inr h))
  · rintro ((h | h | h) | h)
    · exact .inl h
    · exact .inr (.inl h)
    · exact .inr (.inr (.inr h))
    · exact .inr (.inr (.inl h))
theorem Lof_nod {t : Tri} {l r : List TabP} {p : TabP} : (Lof t (l ++ p :: r)).Nodup ↔ (Fw.blk t.1 ++ (l.flatMap TabP.L ++ r.flatMap TabP.L)).Nodup ∧ p.L.Nodup ∧ ∀ g ∈ p.L, ¬ (g ∈ Fw.blk t.1 ∨ g ∈ l.flatMap TabP.L ∨ g ∈ r.flatMap TabP.L) := by
  have : (Lof t (l ++ p :: r)).Perm ((Fw.blk t.1 ++ (l.flatMap TabP.L ++ r.flatMap TabP.L)) ++ p.L) := by
    simp only [Lof, List.flatMap_append, List.flatMap_cons, List.append_assoc]
    refine List.Perm.append_left _ (List.Perm.append_left _ List.perm_append_comm)
  rw [this.nodup_iff, List.nodup_append]
  constructor
  · rintro ⟨a, b, c⟩
    refine ⟨a, b, fun g hg h => c g ?_ g hg rfl⟩
    simp only [List.mem_append]; exact h
  · rintro ⟨a, b, c⟩
    refine ⟨a, b, ?_⟩
    rintro g hg _ hg2 rfl
    simp only [List.mem_append] at hg
    exact c g hg2 hg
/-- table i is laid anew, its lists having been worked on -/
theorem Has.put {s s1 : PH} {t : Tri} {ps : List TabP} {i : Nat} {p p' : TabP} {K : W.T} (h : Has s t ps) (hp : ps[i]? = some p) (hm : Fw.Mod p.L s s1) (ho : Own s1 p') (hnd : p'.L.Nodup) (hf : ∀ g ∈ p'.L, g ∈ p.L ∨ s g = none) {j : Nat} {vs : List Value}
    (hx' : tabE.f p' = (tabE.f p).take j ++ vs ++ (tabE.f p).drop (j + vs.length)) (hj : j + vs.length ≤ 5) (hne : vs ≠ []) {g : Nat} (ha : t.1 = some ⟨g, 0, none⟩)
    (hK : ∀ s2, Has s2 t (ps.set i p') → Step (Lof t ps) (Lof t (ps.set i p')) s s2 → K s2) : W.st ⟨g, i * 5 + j, none⟩ vs K s1 := by
  have hi := (List.getElem?_eq_some_iff.1 hp).1
  obtain ⟨l, r, rfl, hl⟩ : ∃ l r, ps = l ++ p :: r ∧ l.length = i := ⟨ps.take i, ps.drop (i + 1), by rw [← drop_some hp, List.take_append_drop], by simp; omega⟩
  subst hl
  have hset : (l ++ p :: r).set l.length p' = l ++ p' :: r := by simp
  rw [hset] at hK
  have hn0 := Lof_nod.1 h.nod
  have hkn := h.known
  have hap : ∀ g, (g ∈ Fw.blk t.1 ∨ g ∈ l.flatMap TabP.L ∨ g ∈ r.flatMap TabP.L) → g ∉ p.L := fun g hg hg2 => hn0.2.2 g hg2 hg
  have hrow1 : rowE tabE s1 42 t.1 t.2.1 t.2.2 (l ++ p :: r) := h.row.mod hm fun g hg => hap g (.inl hg)
  have hvs : ∀ v ∈ vs, v.oneCell' = true := fun v hv => tabE.one p' v (by rw [hx']; simp [hv])
  have hgk : s g ≠ none := h.row.known g (by rw [ha]; simp [Fw.blk])
  have hgp : g ∉ p'.L := fun e => by
    rcases hf g e with e | e
    · exact hap g (.inl (by rw [ha]; simp [Fw.blk])) e
    · exact hgk e
  refine rowE.st (E := tabE) (i := l.length) (j := j) (x' := p') hrow1 hp hx' hj hne hvs ha fun s2 h2 m2 => ?_
  rw [hset] at h2
  have hgl : ∀ x, x ∈ l.flatMap TabP.L ∨ x ∈ r.flatMap TabP.L → x ∉ [g] := by
    intro x hx hx2
    have hx2 : x = g := by simpa using hx2
    subst hx2
    have := hn0.1
    rw [List.nodup_append] at this
    exact this.2.2 x (by rw [ha]; simp [Fw.blk]) x (List.mem_append.2 hx) rfl
  refine hK s2 ⟨h2, ?_, ?_⟩ ⟨?_, ?_⟩
  · intro q hq
    have hq' : q ∈ l ∨ q = p' ∨ q ∈ r := by simpa using hq
    rcases hq' with hq' | rfl | hq'
    · have hL : ∀ x ∈ q.L, x ∈ l.flatMap TabP.L := fun x hx => List.mem_flatMap.2 ⟨q, hq', hx⟩
      exact ((h.all q (by simp [hq'])).mod hm fun x hx => hap x (.inr (.inl (hL x hx)))).mod m2 fun x hx => hgl x (.inl (hL x hx))
    · exact ho.mod m2 fun x hx hx2 => by
        have hx2 : x = g := by simpa using hx2
        subst hx2
        exact hgp hx
    · have hL : ∀ x ∈ q.L, x ∈ r.flatMap TabP.L := fun x hx => List.mem_flatMap.2 ⟨q, hq', hx⟩
      exact ((h.all q (by simp [hq'])).mod hm fun x hx => hap x (.inr (.inr (hL x hx)))).mod m2 fun x hx => hgl x (.inr (hL x hx))
  · refine Lof_nod.2 ⟨hn0.1, hnd, fun x hx hx2 => ?_⟩
    rcases hf x hx with e | e
    · exact hap x hx2 e
    · refine hkn x (Lof_mid.2 (.inl hx2)) e
  · refine (hm.mono fun x hx => Lof_mid.2 (.inr hx)).trans (m2.mono fun x hx => ?_)
    have : x = g := by simpa using hx
    subst this
    exact Lof_t (by rw [ha]; simp [Fw.blk])
  · intro x hx
    rcases Lof_mid.1 hx with hx | hx
    · exact .inl (Lof_mid.2 (.inl hx))
    · rcases hf x hx with e | e
      · exact .inl (Lof_mid.2 (.inr e))
      · exact .inr e
end Go.Proofs.Ythepfbcgpbkbdaa
end
section
set_option linter.unusedVariables false
set_option linter.unusedSimpArgs false
set_option maxHeartbeats 1000000
set_option maxRecDepth 100000
namespace Go.Proofs.Ythepfbcgpbkbdaa
open Fw Go
attribute [-simp] Fw.W.ld_iff Fw.W.st_iff
/-- an append that has room stays where it is -/
theorem app_room {e : TypeId} {sz bytes : Nat} {zero : List Value} {b : Option Addr} {n c : Nat} {src : Src} {K : Option Addr → Nat → Nat → W.T} {s : PH} (hr : n + src.len ≤ c) (h : W.app e sz bytes zero b n c src (fun a' n' c' s' => (a' = b ∧ c' = c) → K a' n' c' s') s) : W.app e sz bytes zero b n c src K s := by
  obtain ⟨old, news, h1, h2, h3, h4, h5, h6, h7⟩ := h
  refine ⟨old, news, h1, h2, h3, h4, h5, fun hle => ?_, fun hlt => by omega⟩
  have h6 := h6 hle
  cases b with
  | none => exact h6 ⟨rfl, rfl⟩
  | some a => exact ⟨h6.1, h6.2 ⟨rfl, rfl⟩⟩
theorem zeros_one {zero : List Value} (h : ∀ v ∈ zero, v.oneCell' = true) (N : Nat) : (Builtin.zeroCells zero.toArray N).toList.length = N * zero.length ∧ ∀ v ∈ (Builtin.zeroCells zero.toArray N).toList, v.oneCell' = true := by
  refine ⟨by simp [Builtin.zeroCells], fun v hv => ?_⟩
  simp only [Builtin.zeroCells, Array.toList_map, Array.toList_range, List.mem_map, List.mem_range, List.size_toArray] at hv
  obtain ⟨i, hi, rfl⟩ := hv
  have hpos : 0 < zero.length := by
    rcases Nat.eq_zero_or_pos zero.length with q | q
    · rw [q] at hi; omega
    · exact q
  have hlt := Nat.mod_lt i hpos
  rw [getElem!_pos _ _ (by simpa using hlt)]
  exact h _ (by simp)
/-- the room behind a row is cleared -/
theorem clr_tail {α : Type} {E : Enc α} {s : PH} {e : TypeId} {a : Option Addr} {m c N : Nat} {xs : List α} {zero : List Value} {K : W.T} (h : rowE E s e a m c xs) (hz : zero.length = E.sz) (h1 : ∀ v ∈ zero, v.oneCell' = true) (hN : m + N ≤ c)
    (hK : ∀ s', rowE E s' e a m c xs → Fw.Mod (Fw.blk a) s s' → K s') : W.clr zero (if c = m then a else a.map (·.add (m * E.sz))) N K s := by
  obtain ⟨hl, ho⟩ := zeros_one h1 N
  rw [hz] at hl
  unfold W.clr
  generalize (Builtin.zeroCells zero.toArray N).toList = news at hl ho
  by_cases hc : c = m
  · subst hc
    have hN0 : N = 0 := by omega
    subst hN0
    have : news = [] := List.length_eq_zero_iff.1 (by rw [hl, Nat.zero_mul])
    subst this
    rw [if_pos rfl]
    cases a with
    | none => exact hK s h (Mod.refl _ _)
    | some a => exact ⟨fun i hi => absurd hi (Nat.not_lt_zero _), fun v hv => by simp at hv, hK s h (Mod.refl _ _)⟩
  · rw [if_neg hc]
    obtain ⟨g1, g2, g3, ⟨rfl, rfl, rfl⟩ | ⟨g, cur, rfl, hg, hcc, ht⟩⟩ := id h
    · exact absurd rfl hc
    · simp only [Option.map_some, add_mk, Nat.zero_add]
      have hb : (m + N) * E.sz ≤ cur.size := Nat.le_trans (Nat.mul_le_mul_right _ hN) hcc
      rw [Nat.add_mul] at hb
      refine ⟨fun i hi => ?_, ho, ?_⟩
      · rw [add_mk]
        refine ⟨?_, ?_⟩
        · unfold PH.cell?; dsimp only; rw [hg]
          have : m * E.sz + i < cur.size := by omega
          simp [this]
        · unfold PH.frozen?; dsimp only; rw [hg]; simp
      · cases news with
        | nil => exact hK s h (Mod.refl _ _)
        | cons v news =>
          rw [PH.stores_eq (e := e) (f := (0, 0)) rfl (v :: news) 0 cur s hg (by simp)]
          refine hK _ ⟨g1, g2, g3, .inr ⟨g, _, rfl, PH.upd_same _ _ _, by rw [setL_size]; exact hcc, ?_⟩⟩ (Mod.upd (by simp [Fw.blk]))
          simp only [Nat.add_zero]
          rw [setL_toList _ _ _ (by omega), ← ht]
          rw [List.append_assoc, List.take_append_of_le_length (by simp; omega), List.take_take, Nat.min_self]
theorem map_add0 (a : Option Addr) : a.map (·.add 0) = a := by cases a <;> simp [add_zero]
/-- a table's lists worked on: p becomes p' -/
structure Work (s s1 : PH) (p p' : TabP) : Prop where
  md : Fw.Mod p.L s s1
  own : Own s1 p'
  nd : p'.L.Nodup
  fr : ∀ g ∈ p'.L, g ∈ p.L ∨ s g = none
theorem Has.nodp {s : PH} {t : Tri} {ps : List TabP} {p : TabP} (h : Has s t ps) (hp : p ∈ ps) : p.L.Nodup := by
  obtain ⟨l, r, rfl⟩ := List.append_of_mem hp
  exact (Lof_nod.1 h.nod).2.1
theorem Has.put0 {s s1 s2 : PH} {t : Tri} {ps : List TabP} {i : Nat} {p p' : TabP} (h : Has s t ps) (hp : ps[i]? = some p) (hw : Work s s1 p p') (h2 : rowE tabE s2 42 t.1 t.2.1 t.2.2 (ps.set i p')) (m2 : Fw.Mod (Fw.blk t.1) s1 s2) :
    Has s2 t (ps.set i p') ∧ Step (Lof t ps) (Lof t (ps.set i p')) s s2 := by
  obtain ⟨hm, ho, hnd, hf⟩ := hw
  have hi := (List.getElem?_eq_some_iff.1 hp).1
  obtain ⟨l, r, rfl, hl⟩ : ∃ l r, ps = l ++ p :: r ∧ l.length = i := ⟨ps.take i, ps.drop (i + 1), by rw [← drop_some hp, List.take_append_drop], by simp; omega⟩
  subst hl
  have hset : (l ++ p :: r).set l.length p' = l ++ p' :: r := by simp
  rw [hset] at h2 ⊢
  have hn0 := Lof_nod.1 h.nod
  have hkn := h.known
  have hap : ∀ g, (g ∈ Fw.blk t.1 ∨ g ∈ l.flatMap TabP.L ∨ g ∈ r.flatMap TabP.L) → g ∉ p.L := fun g hg hg2 => hn0.2.2 g hg2 hg
  have hgl : ∀ x, x ∈ l.flatMap TabP.L ∨ x ∈ r.flatMap TabP.L → x ∉ Fw.blk t.1 := by
    intro x hx hx2
    have := hn0.1
    rw [List.nodup_append] at this
    exact this.2.2 x hx2 x (List.mem_append.2 hx) rfl
  refine ⟨⟨h2, ?_, ?_⟩, ⟨?_, ?_⟩⟩
  · intro q hq
    have hq' : q ∈ l ∨ q = p' ∨ q ∈ r := by simpa using hq
    rcases hq' with hq' | rfl | hq'
    · have hL : ∀ x ∈ q.L, x ∈ l.flatMap TabP.L := fun x hx => List.mem_flatMap.2 ⟨q, hq', hx⟩
      exact ((h.all q (by simp [hq'])).mod hm fun x hx => hap x (.inr (.inl (hL x hx)))).mod m2 fun x hx => hgl x (.inl (hL x hx))
    · exact ho.mod m2 fun x hx hx2 => by
        rcases hf x hx with e | e
        · exact hap x (.inl hx2) e
        · exact h.row.known x hx2 e
    · have hL : ∀ x ∈ q.L, x ∈ r.flatMap TabP.L := fun x hx => List.mem_flatMap.2 ⟨q, hq', hx⟩
      exact ((h.all q (by simp [hq'])).mod hm fun x hx => hap x (.inr (.inr (hL x hx)))).mod m2 fun x hx => hgl x (.inr (hL x hx))
  · refine Lof_nod.2 ⟨hn0.1, hnd, fun x hx hx2 => ?_⟩
    rcases hf x hx with e | e
    · exact hap x hx2 e
    · refine hkn x (Lof_mid.2 (.inl hx2)) e
  · exact (hm.mono fun x hx => Lof_mid.2 (.inr hx)).trans (m2.mono fun x hx => Lof_t hx)
  · intro x hx
    rcases Lof_mid.1 hx with hx | hx
    · exact .inl (Lof_mid.2 (.inl hx))
    · rcases hf x hx with e | e
      · exact .inl (Lof_mid.2 (.inr e))
      · exact .inr e
theorem Has.same {s s1 : PH} {t : Tri} {ps : List TabP} {i : Nat} {p p' : TabP} (h : Has s t ps) (hp : ps[i]? = some p) (hw : Work s s1 p p') (he : tabE.f p' = tabE.f p) :
    Has s1 t (ps.set i p') ∧ Step (Lof t ps) (Lof t (ps.set i p')) s s1 := by
  refine h.put0 hp hw ?_ (Mod.refl _ _)
  have hi := (List.getElem?_eq_some_iff.1 hp).1
  have hn0 := h.nod
  have hap : ∀ g ∈ Fw.blk t.1, g ∉ p.L := by
    intro g hg hg2
    simp only [Lof, List.nodup_append] at hn0
    exact hn0.2.2 g hg g (List.mem_flatMap.2 ⟨p, List.mem_of_getElem? hp, hg2⟩) rfl
  have hrow := h.row.mod hw.md hap
  unfold rowE at hrow ⊢
  have : (ps.set i p').flatMap tabE.f = ps.flatMap tabE.f := by
    obtain ⟨l, r, e, hl⟩ : ∃ l r, ps = l ++ p :: r ∧ l.length = i := ⟨ps.take i, ps.drop (i + 1), by rw [← drop_some hp, List.take_append_drop], by simp; omega⟩
    subst hl; subst e
    simp [he]
  rw [this]; exact hrow
theorem Has.store {s s1 : PH} {t : Tri} {ps : List TabP} {i : Nat} {p p' : TabP} {K : W.T} (h : Has s t ps) (hp : ps[i]? = some p) (hw : Work s s1 p p') {j : Nat} {vs : List Value}
    (hx' : tabE.f p' = (tabE.f p).take j ++ vs ++ (tabE.f p).drop (j + vs.length)) (hj : j + vs.length ≤ 5) (hne : vs ≠ []) {g : Nat} (ha : t.1 = some ⟨g, 0, none⟩)
    (hK : ∀ s2, Has s2 t (ps.set i p') → Step (Lof t ps) (Lof t (ps.set i p')) s s2 → K s2) : W.st ⟨g, i * 5 + j, none⟩ vs K s1 :=
  h.put hp hw.md hw.own hw.nd hw.fr hx' hj hne ha hK
abbrev zC : List Value := [.int .i64 0, .string ⟨#[]⟩, .int .i64 0, .int .i64 0, .int .i64 0, .int .i64 0, .string ⟨#[]⟩]
theorem work_c {s s1 : PH} {p : TabP} (ho : Own s p) (hn : p.L.Nodup) {u : Tri} {xs : List Col} (hr : rowE colE s1 44 u.1 u.2.1 u.2.2 xs) (hm : Fw.Mod (Fw.blk p.c.1) s s1) (hf : ∀ g ∈ Fw.blk u.1, g ∈ Fw.blk p.c.1 ∨ s g = none) :
    Work s s1 p ⟨{ p.T with cols := xs }, u, p.x, p.k⟩ := by
  have hn' := hn
  simp only [TabP.L, List.nodup_append] at hn'
  obtain ⟨n1, ⟨n2, n3, n4⟩, n5⟩ := hn'
  have e1 : ∀ g ∈ Fw.blk p.c.1, g ∉ Fw.blk p.x.1 := fun g h h2 => n5 g h g (List.mem_append.2 (.inl h2)) rfl
  have e2 : ∀ g ∈ Fw.blk p.c.1, g ∉ Fw.blk p.k.1 := fun g h h2 => n5 g h g (List.mem_append.2 (.inr h2)) rfl
  have e3 : ∀ g ∈ Fw.blk p.x.1, g ∉ Fw.blk p.k.1 := fun g h h2 => n4 g h g h2 rfl
  have e1' : ∀ g ∈ Fw.blk p.x.1, g ∉ Fw.blk p.c.1 := fun g h h2 => e1 g h2 h
  have e2' : ∀ g ∈ Fw.blk p.k.1, g ∉ Fw.blk p.c.1 := fun g h h2 => e2 g h2 h
  have e3' : ∀ g ∈ Fw.blk p.k.1, g ∉ Fw.blk p.x.1 := fun g h h2 => e3 g h2 h
  have kc := ho.c.known
  have kx := ho.x.known
  have kk := ho.k.known
  have ap : ∀ g ∈ Fw.blk u.1, g ∉ Fw.blk p.x.1 ∧ g ∉ Fw.blk p.k.1 := by
    intro g hg
    rcases hf g hg with e | e
    · exact ⟨e1 g e, e2 g e⟩
    · exact ⟨fun h => kx g h e, fun h => kk g h e⟩
  refine ⟨hm.mono fun g hg => by simp only [TabP.L, List.mem_append]; exact .inl hg, ⟨hr, ho.x.mod hm e1', ho.k.mod hm e2'⟩, ?_, ?_⟩
  · simp only [TabP.L, List.nodup_append, List.mem_append]
    exact ⟨blk_nodup _, ⟨n2, n3, n4⟩, fun g hg y hy e => by subst e; exact Or.elim hy (ap g hg).1 (ap g hg).2⟩
  · intro g hg
    simp only [TabP.L, List.mem_append] at hg ⊢
    rcases hg with hg | hg | hg
    · exact (hf g hg).imp_left .inl
    · exact .inl (.inr (.inl hg))
    · exact .inl (.inr (.inr hg))
theorem Has.app_c {s : PH} {t : Tri} {ps : List TabP} {i : Nat} {p : TabP} {K : Option Addr → Nat → Nat → W.T} (h : Has s t ps) (hp : ps[i]? = some p) (x : Col) (hl : p.T.cols.length ≤ 4294967296)
    (hK : ∀ (u : Tri) s1, u.2.1 = p.c.2.1 + 1 → Work s s1 p ⟨{ p.T with cols := p.T.cols ++ [x] }, u, p.x, p.k⟩ → K u.1 u.2.1 u.2.2 s1) : W.nw (.cells (colE.f x).toArray 44 (0, 0)) (fun r => W.app 44 7 72 zC p.c.1 p.c.2.1 p.c.2.2 (Src.sl (some ⟨r, 0, none⟩) 1) K) s := by
  refine W.nw_of fun r s1 hr m1 k1 => ?_
  have hmax : maxLen = 9223372036854775807 := rfl
  have hpm := List.mem_of_getElem? hp
  have ho := h.all p hpm
  have hn : p.c.2.1 = p.T.cols.length := ho.c.len
  refine app_rowE (ho.c.mod m1 (by simp)) rfl (ys := [x]) (k := 1) (src_has (by have := has_block k1; simpa using this) rfl) rfl rfl (by omega) (by omega) ?_
  intro a' c' s2 h' hm
  refine hK (a', p.c.2.1 + 1, c') s2 rfl (work_c ho (h.nodp hpm) (u := (a', p.c.2.1 + 1, c')) h' ?_ ?_)
  · rcases hm with ⟨_, hm⟩ | ⟨g, _, _, hm⟩
    · exact (m1.mono (by simp)).trans hm
    · exact (m1.trans hm).mono (by simp)
  · rcases hm with ⟨e, hm⟩ | ⟨g, e, hg, hm⟩
    · intro g hg; dsimp only at hg; rw [e] at hg; exact .inl hg
    · intro g' hg'
      dsimp only at hg'
      rw [e] at hg'
      have : g' = g := by simpa [Fw.blk] using hg'
      subst this
      exact .inr (m1.none hg (by simp))
theorem c_DeleteC {s : PH} {a : Option Addr} {n c k : Nat} {xs : List Col} (h : rowE colE s 44 a n c xs) (hk : k < n) (hl : n ≤ 4294967296) : DCalls Try.prog 141 #[.slice a n c, .int .i64 k, .int .i64 ((k + 1 : Nat) : Int)] s fun y s' =>
    y = .slice a (n - 1) c ∧ rowE colE s' 44 a (n - 1) c (xs.eraseIdx k) ∧ Fw.Mod (Fw.blk a) s s' := by
  refine ok_DeleteC a n c k ((k + 1 : Nat) : Int) _ s ?_
  unfold vc_DeleteC
  have hn : n = xs.length := h.len
  have hle := h.le
  have hmax : maxLen = 9223372036854775807 := rfl
  have hcm := h.max
  simp only [RP_guard, W.guard_iff, RP_ite, W.br_iff, RP_app, RP_ret, RP_clr]
  refine ⟨by omega, fun e => ?_, fun _ => ?_⟩
  · have e : (k : Int) = ((k + 1 : Nat) : Int) := by simpa using e
    omega
  refine ⟨by omega, by omega, ?_⟩
  have hpre : rowE colE s 44 a k c (xs.take k) := by
    have := h.shrink (m := k) (c' := c) (by omega) (by omega) (Nat.le_refl _)
    have e : (if a = none then none else a) = a := by cases a <;> simp
    rwa [e] at this
  have hsrc := h.src (i := k + 1) (m := n - (k + 1)) (by omega)
  have he : (if c = 0 then a else Option.map (fun x => x.add 0) a) = a := by split <;> simp [map_add0]
  simp only [Int.toNat_natCast, Nat.sub_zero, he]
  refine app_room (by show k + (n - (k + 1)) ≤ c; omega) ?_
  refine app_rowE hpre rfl (ys := (xs.drop (k + 1)).take (n - (k + 1))) (k := n - (k + 1)) hsrc rfl (by rw [List.length_take, List.length_drop]; omega) (by omega) (by omega) ?_
  rintro a' c' s' h' hm ⟨rfl, rfl⟩
  have hlist : xs.take k ++ (xs.drop (k + 1)).take (n - (k + 1)) = xs.eraseIdx k := by
    rw [List.eraseIdx_eq_take_drop_succ, List.take_of_length_le (l := xs.drop (k + 1)) (by rw [List.length_drop]; omega)]
  rw [hlist, show k + (n - (k + 1)) = n - 1 by omega] at h'
  have hm' : Fw.Mod (Fw.blk a') s s' := by
    rcases hm with ⟨_, hm⟩ | ⟨g, e, hg, hm⟩
    · exact hm
    · exact hm.mono (by simp)
  rw [show k + (n - (k + 1)) = n - 1 by omega]
  refine ⟨by omega, ?_⟩
  try simp only [Int.toNat_natCast]
  refine clr_tail h' rfl (by simp [Value.oneCell']) (by omega) fun s2 h2 m2 => ⟨rfl, h2, hm'.trans m2⟩
theorem c_stateC (A : Addr) (s : PH) : DCalls Try.prog 124 #[.pointer (some A)] s fun y s' => y = .pointer (some (A.add 3)) ∧ s' = s := by
  refine ok_stateC A _ s ?_
  unfold vc_stateC
  simp
theorem c_placeC {s : PH} {t : Tri} {ps : List TabP} {i k g : Nat} {p : TabP} {x : Col} (h : Has s t ps) (hp : ps[i]? = some p) (hx : p.T.cols[k]? = some x) (ht : t.1 = some ⟨g, 0, none⟩) (hl : p.T.cols.length ≤ 4294967296) (st : Int) :
    DCalls Try.prog 123 #[.pointer (some ⟨g, i * 5 + 2, none⟩), .int .i64 k, .int .i64 st, .func (.func 124) #[] #[]] s fun y s' => y = .tuple #[] ∧
      ∃ ps', Has s' t ps' ∧ ps'.map (·.T) = (ps.map (·.T)).set i { p.T with cols := placed p.T.cols k st (x.put st) } ∧ Step (Lof t ps) (Lof t ps') s s' := by
  refine ok_placeC ⟨g, i * 5 + 2, none⟩ k st _ s ?_
  unfold vc_placeC
  have hpm := List.mem_of_getElem? hp
  have ho := h.all p hpm
  have hn : p.c.2.1 = p.T.cols.length := ho.c.len
  have hkl := (List.getElem?_eq_some_iff.1 hx).1
  obtain ⟨g', hg', hh⟩ := h.row.at hp
  rw [ht] at hg'
  cases hg'
  have hh' : s.has (Addr.mk g (i * 5) none) (tabE.f p) := hh
  have hld : ∀ (K : Den [.slice] → W.T), K (p.c, ()) s → W.ld [.slice] ⟨g, i * 5 + 2, none⟩ K s := by
    intro K hK
    have := ld_has (j := 2) (cs := [.slice]) (y := (p.c, ())) hh' rfl hK
    rwa [add_mk] at this
  simp only [RP_ite, W.br_iff, RP_unSome, W.unSome_some, RP_ld, RP_call, RP_st, RP_ret, RP_guard]
  refine ⟨fun h0 => ?_, fun h0 => ?_⟩
  · have h0 : st = 0 := by simpa using h0
    refine hld _ ?_
    rw [wrap_succ (k := k) (by omega)]
    refine W.call_of (c_DeleteC ho.c (k := k) (by show k < p.c.2.1; omega) (by show p.c.2.1 ≤ _; omega)) ?_
    rintro _ s1 ⟨rfl, h1, m1⟩
    refine ⟨(((p.c.1, p.c.2.1 - 1, p.c.2.2), ()), ()), rfl, ?_⟩
    simp only [W.unSome_some]
    have hw := work_c ho (h.nodp hpm) (u := (p.c.1, p.c.2.1 - 1, p.c.2.2)) h1 m1 (fun g hg => .inl hg)
    refine h.store hp hw (j := 2) (vs := [.slice p.c.1 (p.c.2.1 - 1) p.c.2.2]) rfl (by simp) (by simp) ht fun s2 h2 st2 => ?_
    refine ⟨rfl, _, h2, ?_, st2⟩
    rw [List.map_set]; unfold placed; rw [if_pos h0]
  · have h0 : st ≠ 0 := by simpa using h0
    refine hld _ ?_
    refine ⟨by show (0 : Int) ≤ k ∧ (k : Int) < (p.c.2.1 : Nat); omega, ?_⟩
    obtain ⟨gc, hgc, hhc⟩ := ho.c.at hx
    rw [hgc]
    simp only [W.unSome_some, Int.toNat_natCast]
    refine callq ((some (((Addr.mk gc 0 none).add (k * 7)).add 3), ()), ()) (c_stateC _ s) rfl ?_
    simp only [W.unSome_some, add_mk, Nat.zero_add]
    refine rowE.st (E := colE) (i := k) (j := 3) (x' := x.put st) (vs := [.int .i64 st]) ho.c hx rfl (by show 3 + 1 ≤ 7; omega) (by simp) (by simp [Value.oneCell']) hgc fun s1 h1 m1 => ?_
    have hw := work_c ho (h.nodp hpm) (u := p.c) h1 (m1.mono fun x hx => by rw [hgc]; simpa [Fw.blk] using hx) (fun g hg => .inl hg)
    obtain ⟨h2, st2⟩ := h.same hp hw rfl
    refine ⟨rfl, _, h2, ?_, st2⟩
    rw [List.map_set]; unfold placed; rw [if_neg h0]
abbrev zX : List Value := [.int .i64 0, .string ⟨#[]⟩, .int .i64 0, .bool false, .int .i64 0]
theorem work_x {s s1 : PH} {p : TabP} (ho : Own s p) (hn : p.L.Nodup) {u : Tri} {xs : List Idx} (hr : rowE idxE s1 106 u.1 u.2.1 u.2.2 xs) (hm : Fw.Mod (Fw.blk p.x.1) s s1) (hf : ∀ g ∈ Fw.blk u.1, g ∈ Fw.blk p.x.1 ∨ s g = none) :
    Work s s1 p ⟨{ p.T with idxs := xs }, p.c, u, p.k⟩ := by
  have hn' := hn
  simp only [TabP.L, List.nodup_append] at hn'
  obtain ⟨n1, ⟨n2, n3, n4⟩, n5⟩ := hn'
  have e1 : ∀ g ∈ Fw.blk p.c.1, g ∉ Fw.blk p.x.1 := fun g h h2 => n5 g h g (List.mem_append.2 (.inl h2)) rfl
  have e2 : ∀ g ∈ Fw.blk p.c.1, g ∉ Fw.blk p.k.1 := fun g h h2 => n5 g h g (List.mem_append.2 (.inr h2)) rfl
  have e3 : ∀ g ∈ Fw.blk p.x.1, g ∉ Fw.blk p.k.1 := fun g h h2 => n4 g h g h2 rfl
  have e1' : ∀ g ∈ Fw.blk p.x.1, g ∉ Fw.blk p.c.1 := fun g h h2 => e1 g h2 h
  have e2' : ∀ g ∈ Fw.blk p.k.1, g ∉ Fw.blk p.c.1 := fun g h h2 => e2 g h2 h
  have e3' : ∀ g ∈ Fw.blk p.k.1, g ∉ Fw.blk p.x.1 := fun g h h2 => e3 g h2 h
  have kc := ho.c.known
  have kx := ho.x.known
  have kk := ho.k.known
  have ap : ∀ g ∈ Fw.blk u.1, g ∉ Fw.blk p.c.1 ∧ g ∉ Fw.blk p.k.1 := by
    intro g hg
    rcases hf g hg with e | e
    · exact ⟨e1' g e, e3 g e⟩
    · exact ⟨fun h => kc g h e, fun h => kk g h e⟩
  refine ⟨hm.mono fun g hg => by simp only [TabP.L, List.mem_append]; exact .inr (.inl hg), ⟨ho.c.mod hm e1, hr, ho.k.mod hm e3'⟩, ?_, ?_⟩
  · simp only [TabP.L, List.nodup_append, List.mem_append]
    exact ⟨n1, ⟨blk_nodup _, n3, fun g hg y hy e => by subst e; exact (ap g hg).2 hy⟩, fun g hg y hy e => by subst e; exact Or.elim hy (fun hy => (ap g hy).1 hg) (e2 g hg)⟩
  · intro g hg
    simp only [TabP.L, List.mem_append] at hg ⊢
    rcases hg with hg | hg | hg
    · exact .inl (.inl hg)
    · exact (hf g hg).imp_left fun e => .inr (.inl e)
    · exact .inl (.inr (.inr hg))
theorem Has.app_x {s : PH} {t : Tri} {ps : List TabP} {i : Nat} {p : TabP} {K : Option Addr → Nat → Nat → W.T} (h : Has s t ps) (hp : ps[i]? = some p) (x : Idx) (hl : p.T.idxs.length ≤ 4294967296)
    (hK : ∀ (u : Tri) s1, u.2.1 = p.x.2.1 + 1 → Work s s1 p ⟨{ p.T with idxs := p.T.idxs ++ [x] }, p.c, u, p.k⟩ → K u.1 u.2.1 u.2.2 s1) : W.nw (.cells (idxE.f x).toArray 106 (0, 0)) (fun r => W.app 106 5 48 zX p.x.1 p.x.2.1 p.x.2.2 (Src.sl (some ⟨r, 0, none⟩) 1) K) s := by
  refine W.nw_of fun r s1 hr m1 k1 => ?_
  have hmax : maxLen = 9223372036854775807 := rfl
  have hpm := List.mem_of_getElem? hp
  have ho := h.all p hpm
  have hn : p.x.2.1 = p.T.idxs.length := ho.x.len
  refine app_rowE (ho.x.mod m1 (by simp)) rfl (ys := [x]) (k := 1) (src_has (by have := has_block k1; simpa using this) rfl) rfl rfl (by omega) (by omega) ?_
  intro a' c' s2 h' hm
  refine hK (a', p.x.2.1 + 1, c') s2 rfl (work_x ho (h.nodp hpm) (u := (a', p.x.2.1 + 1, c')) h' ?_ ?_)
  · rcases hm with ⟨_, hm⟩ | ⟨g, _, _, hm⟩
    · exact (m1.mono (by simp)).trans hm
    · exact (m1.trans hm).mono (by simp)
  · rcases hm with ⟨e, hm⟩ | ⟨g, e, hg, hm⟩
    · intro g hg; dsimp only at hg; rw [e] at hg; exact .inl hg
    · intro g' hg'
      dsimp only at hg'
      rw [e] at hg'
      have : g' = g := by simpa [Fw.blk] using hg'
      subst this
      exact .inr (m1.none hg (by simp))
theorem c_DeleteX {s : PH} {a : Option Addr} {n c k : Nat} {xs : List Idx} (h : rowE idxE s 106 a n c xs) (hk : k < n) (hl : n ≤ 4294967296) : DCalls Try.prog 143 #[.slice a n c, .int .i64 k, .int .i64 ((k + 1 : Nat) : Int)] s fun y s' =>
    y = .slice a (n - 1) c ∧ rowE idxE s' 106 a (n - 1) c (xs.eraseIdx k) ∧ Fw.Mod (Fw.blk a) s s' := by
  refine ok_DeleteX a n c k ((k + 1 : Nat) : Int) _ s ?_
  unfold vc_DeleteX
  have hn : n = xs.length := h.len
  have hle := h.le
  have hmax : maxLen = 9223372036854775807 := rfl
  have hcm := h.max
  simp only [RP_guard, W.guard_iff, RP_ite, W.br_iff, RP_app, RP_ret, RP_clr]
  refine ⟨by omega, fun e => ?_, fun _ => ?_⟩
  · have e : (k : Int) = ((k + 1 : Nat) : Int) := by simpa using e
    omega
  refine ⟨by omega, by omega, ?_⟩
  have hpre : rowE idxE s 106 a k c (xs.take k) := by
    have := h.shrink (m := k) (c' := c) (by omega) (by omega) (Nat.le_refl _)
    have e : (if a = none then none else a) = a := by cases a <;> simp
    rwa [e] at this
  have hsrc := h.src (i := k + 1) (m := n - (k + 1)) (by omega)
  have he : (if c = 0 then a else Option.map (fun x => x.add 0) a) = a := by split <;> simp [map_add0]
  simp only [Int.toNat_natCast, Nat.sub_zero, he]
  refine app_room (by show k + (n - (k + 1)) ≤ c; omega) ?_
  refine app_rowE hpre rfl (ys := (xs.drop (k + 1)).take (n - (k + 1))) (k := n - (k + 1)) hsrc rfl (by rw [List.length_take, List.length_drop]; omega) (by omega) (by omega) ?_
  rintro a' c' s' h' hm ⟨rfl, rfl⟩
  have hlist : xs.take k ++ (xs.drop (k + 1)).take (n - (k + 1)) = xs.eraseIdx k := by
    rw [List.eraseIdx_eq_take_drop_succ, List.take_of_length_le (l := xs.drop (k + 1)) (by rw [List.length_drop]; omega)]
  rw [hlist, show k + (n - (k + 1)) = n - 1 by omega] at h'
  have hm' : Fw.Mod (Fw.blk a') s s' := by
    rcases hm with ⟨_, hm⟩ | ⟨g, e, hg, hm⟩
    · exact hm
    · exact hm.mono (by simp)
  rw [show k + (n - (k + 1)) = n - 1 by omega]
  refine ⟨by omega, ?_⟩
  try simp only [Int.toNat_natCast]
  refine clr_tail h' rfl (by simp [Value.oneCell']) (by omega) fun s2 h2 m2 => ⟨rfl, h2, hm'.trans m2⟩
theorem c_stateX (A : Addr) (s : PH) : DCalls Try.prog 128 #[.pointer (some A)] s fun y s' => y = .pointer (some (A.add 4)) ∧ s' = s := by
  refine ok_stateX A _ s ?_
  unfold vc_stateX
  simp
theorem c_placeX {s : PH} {t : Tri} {ps : List TabP} {i k g : Nat} {p : TabP} {x : Idx} (h : Has s t ps) (hp : ps[i]? = some p) (hx : p.T.idxs[k]? = some x) (ht : t.1 = some ⟨g, 0, none⟩) (hl : p.T.idxs.length ≤ 4294967296) (st : Int) :
    DCalls Try.prog 127 #[.pointer (some ⟨g, i * 5 + 3, none⟩), .int .i64 k, .int .i64 st, .func (.func 128) #[] #[]] s fun y s' => y = .tuple #[] ∧
      ∃ ps', Has s' t ps' ∧ ps'.map (·.T) = (ps.map (·.T)).set i { p.T with idxs := placed p.T.idxs k st (x.put st) } ∧ Step (Lof t ps) (Lof t ps') s s' := by
  refine ok_placeX ⟨g, i * 5 + 3, none⟩ k st _ s ?_
  unfold vc_placeX
  have hpm := List.mem_of_getElem? hp
  have ho := h.all p hpm
  have hn : p.x.2.1 = p.T.idxs.length := ho.x.len
  have hkl := (List.getElem?_eq_some_iff.1 hx).1
  obtain ⟨g', hg', hh⟩ := h.row.at hp
  rw [ht] at hg'
  cases hg'
  have hh' : s.has (Addr.mk g (i * 5) none) (tabE.f p) := hh
  have hld : ∀ (K : Den [.slice] → W.T), K (p.x, ()) s → W.ld [.slice] ⟨g, i * 5 + 3, none⟩ K s := by
    intro K hK
    have := ld_has (j := 3) (cs := [.slice]) (y := (p.x, ())) hh' rfl hK
    rwa [add_mk] at this
  simp only [RP_ite, W.br_iff, RP_unSome, W.unSome_some, RP_ld, RP_call, RP_st, RP_ret, RP_guard]
  refine ⟨fun h0 => ?_, fun h0 => ?_⟩
  · have h0 : st = 0 := by simpa using h0
    refine hld _ ?_
    rw [wrap_succ (k := k) (by omega)]
    refine W.call_of (c_DeleteX ho.x (k := k) (by show k < p.x.2.1; omega) (by show p.x.2.1 ≤ _; omega)) ?_
    rintro _ s1 ⟨rfl, h1, m1⟩
    refine ⟨(((p.x.1, p.x.2.1 - 1, p.x.2.2), ()), ()), rfl, ?_⟩
    simp only [W.unSome_some]
    have hw := work_x ho (h.nodp hpm) (u := (p.x.1, p.x.2.1 - 1, p.x.2.2)) h1 m1 (fun g hg => .inl hg)
    refine h.store hp hw (j := 3) (vs := [.slice p.x.1 (p.x.2.1 - 1) p.x.2.2]) rfl (by simp) (by simp) ht fun s2 h2 st2 => ?_
    refine ⟨rfl, _, h2, ?_, st2⟩
    rw [List.map_set]; unfold placed; rw [if_pos h0]
  · have h0 : st ≠ 0 := by simpa using h0
    refine hld _ ?_
    refine ⟨by show (0 : Int) ≤ k ∧ (k : Int) < (p.x.2.1 : Nat); omega, ?_⟩
    obtain ⟨gc, hgc, hhc⟩ := ho.x.at hx
    rw [hgc]
    simp only [W.unSome_some, Int.toNat_natCast]
    refine callq ((some (((Addr.mk gc 0 none).add (k * 5)).add 4), ()), ()) (c_stateX _ s) rfl ?_
    simp only [W.unSome_some, add_mk, Nat.zero_add]
    refine rowE.st (E := idxE) (i := k) (j := 4) (x' := x.put st) (vs := [.int .i64 st]) ho.x hx rfl (by show 4 + 1 ≤ 5; omega) (by simp) (by simp [Value.oneCell']) hgc fun s1 h1 m1 => ?_
    have hw := work_x ho (h.nodp hpm) (u := p.x) h1 (m1.mono fun x hx => by rw [hgc]; simpa [Fw.blk] using hx) (fun g hg => .inl hg)
    obtain ⟨h2, st2⟩ := h.same hp hw rfl
    refine ⟨rfl, _, h2, ?_, st2⟩
    rw [List.map_set]; unfold placed; rw [if_neg h0]
abbrev zF : List Value := [.int .i64 0, .string ⟨#[]⟩, .int .i64 0, .int .i64 0, .int .i64 0]
theorem work_k {s s1 : PH} {p : TabP} (ho : Own s p) (hn : p.L.Nodup) {u : Tri} {xs : List For} (hr : rowE forE s1 109 u.1 u.2.1 u.2.2 xs) (hm : Fw.Mod (Fw.blk p.k.1) s s1) (hf : ∀ g ∈ Fw.blk u.1, g ∈ Fw.blk p.k.1 ∨ s g = none) :
    Work s s1 p ⟨{ p.T with keys := xs }, p.c, p.x, u⟩ := by
  have hn' := hn
  simp only [TabP.L, List.nodup_append] at hn'
  obtain ⟨n1, ⟨n2, n3, n4⟩, n5⟩ := hn'
  have e1 : ∀ g ∈ Fw.blk p.c.1, g ∉ Fw.blk p.x.1 := fun g h h2 => n5 g h g (List.mem_append.2 (.inl h2)) rfl
  have e2 : ∀ g ∈ Fw.blk p.c.1, g ∉ Fw.blk p.k.1 := fun g h h2 => n5 g h g (List.mem_append.2 (.inr h2)) rfl
  have e3 : ∀ g ∈ Fw.blk p.x.1, g ∉ Fw.blk p.k.1 := fun g h h2 => n4 g h g h2 rfl
  have e1' : ∀ g ∈ Fw.blk p.x.1, g ∉ Fw.blk p.c.1 := fun g h h2 => e1 g h2 h
  have e2' : ∀ g ∈ Fw.blk p.k.1, g ∉ Fw.blk p.c.1 := fun g h h2 => e2 g h2 h
  have e3' : ∀ g ∈ Fw.blk p.k.1, g ∉ Fw.blk p.x.1 := fun g h h2 => e3 g h2 h
  have kc := ho.c.known
  have kx := ho.x.known
  have kk := ho.k.known
  have ap : ∀ g ∈ Fw.blk u.1, g ∉ Fw.blk p.c.1 ∧ g ∉ Fw.blk p.x.1 := by
    intro g hg
    rcases hf g hg with e | e
    · exact ⟨e2' g e, e3' g e⟩
    · exact ⟨fun h => kc g h e, fun h => kx g h e⟩
  refine ⟨hm.mono fun g hg => by simp only [TabP.L, List.mem_append]; exact .inr (.inr hg), ⟨ho.c.mod hm e2, ho.x.mod hm e3, hr⟩, ?_, ?_⟩
  · simp only [TabP.L, List.nodup_append, List.mem_append]
    exact ⟨n1, ⟨n2, blk_nodup _, fun g hg y hy e => by subst e; exact (ap g hy).2 hg⟩, fun g hg y hy e => by subst e; exact Or.elim hy (e1 g hg) (fun hy => (ap g hy).1 hg)⟩
  · intro g hg
    simp only [TabP.L, List.mem_append] at hg ⊢
    rcases hg with hg | hg | hg
    · exact .inl (.inl hg)
    · exact .inl (.inr (.inl hg))
    · exact (hf g hg).imp_left fun e => .inr (.inr e)
theorem Has.app_k {s : PH} {t : Tri} {ps : List TabP} {i : Nat} {p : TabP} {K : Option Addr → Nat → Nat → W.T} (h : Has s t ps) (hp : ps[i]? = some p) (x : For) (hl : p.T.keys.length ≤ 4294967296)
    (hK : ∀ (u : Tri) s1, u.2.1 = p.k.2.1 + 1 → Work s s1 p ⟨{ p.T with keys := p.T.keys ++ [x] }, p.c, p.x, u⟩ → K u.1 u.2.1 u.2.2 s1) : W.nw (.cells (forE.f x).toArray 109 (0, 0)) (fun r => W.app 109 5 48 zF p.k.1 p.k.2.1 p.k.2.2 (Src.sl (some ⟨r, 0, none⟩) 1) K) s := by
  refine W.nw_of fun r s1 hr m1 k1 => ?_
  have hmax : maxLen = 9223372036854775807 := rfl
  have hpm := List.mem_of_getElem? hp
  have ho := h.all p hpm
  have hn : p.k.2.1 = p.T.keys.length := ho.k.len
  refine app_rowE (ho.k.mod m1 (by simp)) rfl (ys := [x]) (k := 1) (src_has (by have := has_block k1; simpa using this) rfl) rfl rfl (by omega) (by omega) ?_
  intro a' c' s2 h' hm
  refine hK (a', p.k.2.1 + 1, c') s2 rfl (work_k ho (h.nodp hpm) (u := (a', p.k.2.1 + 1, c')) h' ?_ ?_)
  · rcases hm with ⟨_, hm⟩ | ⟨g, _, _, hm⟩
    · exact (m1.mono (by simp)).trans hm
    · exact (m1.trans hm).mono (by simp)
  · rcases hm with ⟨e, hm⟩ | ⟨g, e, hg, hm⟩
    · intro g hg; dsimp only at hg; rw [e] at hg; exact .inl hg
    · intro g' hg'
      dsimp only at hg'
      rw [e] at hg'
      have : g' = g := by simpa [Fw.blk] using hg'
      subst this
      exact .inr (m1.none hg (by simp))
theorem c_DeleteF {s : PH} {a : Option Addr} {n c k : Nat} {xs : List For} (h : rowE forE s 109 a n c xs) (hk : k < n) (hl : n ≤ 4294967296) : DCalls Try.prog 145 #[.slice a n c, .int .i64 k, .int .i64 ((k + 1 : Nat) : Int)] s fun y s' =>
    y = .slice a (n - 1) c ∧ rowE forE s' 109 a (n - 1) c (xs.eraseIdx k) ∧ Fw.Mod (Fw.blk a) s s' := by
  refine ok_DeleteF a n c k ((k + 1 : Nat) : Int) _ s ?_
  unfold vc_DeleteF
  have hn : n = xs.length := h.len
  have hle := h.le
  have hmax : maxLen = 9223372036854775807 := rfl
  have hcm := h.max
  simp only [RP_guard, W.guard_iff, RP_ite, W.br_iff, RP_app, RP_ret, RP_clr]
  refine ⟨by omega, fun e => ?_, fun _ => ?_⟩
  · have e : (k : Int) = ((k + 1 : Nat) : Int) := by simpa using e
    omega
  refine ⟨by omega, by omega, ?_⟩
  have hpre : rowE forE s 109 a k c (xs.take k) := by
    have := h.shrink (m := k) (c' := c) (by omega) (by omega) (Nat.le_refl _)
    have e : (if a = none then none else a) = a := by cases a <;> simp
    rwa [e] at this
  have hsrc := h.src (i := k + 1) (m := n - (k + 1)) (by omega)
  have he : (if c = 0 then a else Option.map (fun x => x.add 0) a) = a := by split <;> simp [map_add0]
  simp only [Int.toNat_natCast, Nat.sub_zero, he]
  refine app_room (by show k + (n - (k + 1)) ≤ c; omega) ?_
  refine app_rowE hpre rfl (ys := (xs.drop (k + 1)).take (n - (k + 1))) (k := n - (k + 1)) hsrc rfl (by rw [List.length_take, List.length_drop]; omega) (by omega) (by omega) ?_
  rintro a' c' s' h' hm ⟨rfl, rfl⟩
  have hlist : xs.take k ++ (xs.drop (k + 1)).take (n - (k + 1)) = xs.eraseIdx k := by
    rw [List.eraseIdx_eq_take_drop_succ, List.take_of_length_le (l := xs.drop (k + 1)) (by rw [List.length_drop]; omega)]
  rw [hlist, show k + (n - (k + 1)) = n - 1 by omega] at h'
  have hm' : Fw.Mod (Fw.blk a') s s' := by
    rcases hm with ⟨_, hm⟩ | ⟨g, e, hg, hm⟩
    · exact hm
    · exact hm.mono (by simp)
  rw [show k + (n - (k + 1)) = n - 1 by omega]
  refine ⟨by omega, ?_⟩
  try simp only [Int.toNat_natCast]
  refine clr_tail h' rfl (by simp [Value.oneCell']) (by omega) fun s2 h2 m2 => ⟨rfl, h2, hm'.trans m2⟩
theorem c_stateF (A : Addr) (s : PH) : DCalls Try.prog 131 #[.pointer (some A)] s fun y s' => y = .pointer (some (A.add 4)) ∧ s' = s := by
  refine ok_stateF A _ s ?_
  unfold vc_stateF
  simp
theorem c_placeF {s : PH} {t : Tri} {ps : List TabP} {i k g : Nat} {p : TabP} {x : For} (h : Has s t ps) (hp : ps[i]? = some p) (hx : p.T.keys[k]? = some x) (ht : t.1 = some ⟨g, 0, none⟩) (hl : p.T.keys.length ≤ 4294967296) (st : Int) :
    DCalls Try.prog 130 #[.pointer (some ⟨g, i * 5 + 4, none⟩), .int .i64 k, .int .i64 st, .func (.func 131) #[] #[]] s fun y s' => y = .tuple #[] ∧
      ∃ ps', Has s' t ps' ∧ ps'.map (·.T) = (ps.map (·.T)).set i { p.T with keys := placed p.T.keys k st (x.put st) } ∧ Step (Lof t ps) (Lof t ps') s s' := by
  refine ok_placeF ⟨g, i * 5 + 4, none⟩ k st _ s ?_
  unfold vc_placeF
  have hpm := List.mem_of_getElem? hp
  have ho := h.all p hpm
  have hn : p.k.2.1 = p.T.keys.length := ho.k.len
  have hkl := (List.getElem?_eq_some_iff.1 hx).1
  obtain ⟨g', hg', hh⟩ := h.row.at hp
  rw [ht] at hg'
  cases hg'
  have hh' : s.has (Addr.mk g (i * 5) none) (tabE.f p) := hh
  have hld : ∀ (K : Den [.slice] → W.T), K (p.k, ()) s → W.ld [.slice] ⟨g, i * 5 + 4, none⟩ K s := by
    intro K hK
    have := ld_has (j := 4) (cs := [.slice]) (y := (p.k, ())) hh' rfl hK
    rwa [add_mk] at this
  simp only [RP_ite, W.br_iff, RP_unSome, W.unSome_some, RP_ld, RP_call, RP_st, RP_ret, RP_guard]
  refine ⟨fun h0 => ?_, fun h0 => ?_⟩
  · have h0 : st = 0 := by simpa using h0
    refine hld _ ?_
    rw [wrap_succ (k := k) (by omega)]
    refine W.call_of (c_DeleteF ho.k (k := k) (by show k < p.k.2.1; omega) (by show p.k.2.1 ≤ _; omega)) ?_
    rintro _ s1 ⟨rfl, h1, m1⟩
    refine ⟨(((p.k.1, p.k.2.1 - 1, p.k.2.2), ()), ()), rfl, ?_⟩
    simp only [W.unSome_some]
    have hw := work_k ho (h.nodp hpm) (u := (p.k.1, p.k.2.1 - 1, p.k.2.2)) h1 m1 (fun g hg => .inl hg)
    refine h.store hp hw (j := 4) (vs := [.slice p.k.1 (p.k.2.1 - 1) p.k.2.2]) rfl (by simp) (by simp) ht fun s2 h2 st2 => ?_
    refine ⟨rfl, _, h2, ?_, st2⟩
    rw [List.map_set]; unfold placed; rw [if_pos h0]
  · have h0 : st ≠ 0 := by simpa using h0
    refine hld _ ?_
    refine ⟨by show (0 : Int) ≤ k ∧ (k : Int) < (p.k.2.1 : Nat); omega, ?_⟩
    obtain ⟨gc, hgc, hhc⟩ := ho.k.at hx
    rw [hgc]
    simp only [W.unSome_some, Int.toNat_natCast]
    refine callq ((some (((Addr.mk gc 0 none).add (k * 5)).add 4), ()), ()) (c_stateF _ s) rfl ?_
    simp only [W.unSome_some, add_mk, Nat.zero_add]
    refine rowE.st (E := forE) (i := k) (j := 4) (x' := x.put st) (vs := [.int .i64 st]) ho.k hx rfl (by show 4 + 1 ≤ 5; omega) (by simp) (by simp [Value.oneCell']) hgc fun s1 h1 m1 => ?_
    have hw := work_k ho (h.nodp hpm) (u := p.k) h1 (m1.mono fun x hx => by rw [hgc]; simpa [Fw.blk] using hx) (fun g hg => .inl hg)
    obtain ⟨h2, st2⟩ := h.same hp hw rfl
    refine ⟨rfl, _, h2, ?_, st2⟩
    rw [List.map_set]; unfold placed; rw [if_neg h0]
end Go.Proofs.Ythepfbcgpbkbdaa
end
section
set_option linter.unusedVariables false
set_option linter.unusedSimpArgs false
set_option maxHeartbeats 1000000
set_option maxRecDepth 100000
namespace Go.Proofs.Ythepfbcgpbkbdaa
open Fw Go
attribute [-simp] Fw.W.ld_iff Fw.W.st_iff
theorem seek_cases {α : Type} (p : α → Bool) (l : List α) : (seek p l 0 = -1 ∧ ∀ x ∈ l, p x = false) ∨ ∃ (j : Nat) (x : α), seek p l 0 = (j : Int) ∧ l[j]? = some x ∧ p x = true ∧ ∀ j' y, j' < j → l[j']? = some y → p y = false := by
  rcases seek_spec (p := p) l 0 with h | ⟨j, x, h1, h2, h3, h4⟩
  · exact .inl h
  · exact .inr ⟨j, x, by simpa using h1, h2, h3, h4⟩
theorem seek_any {α : Type} (p : α → Bool) (l : List α) : decide (0 ≤ seek p l 0) = l.any p := by
  rcases seek_cases p l with ⟨h1, h2⟩ | ⟨j, x, h1, h2, h3, _⟩
  · rw [h1]
    have : l.any p = false := by rw [List.any_eq_false]; intro x hx; simp [h2 x hx]
    rw [this]; (first | done | rfl)
  · rw [h1]
    have : l.any p = true := List.any_eq_true.2 ⟨x, List.mem_of_getElem? h2, h3⟩
    rw [this]; exact decide_eq_true (by omega)
theorem seek_here {α : Type} {p : α → Bool} {l : List α} {k : Nat} {x : α} (hx : l[k]? = some x) (hp : p x = true) : seek p l 0 = (k : Int) ↔ ∀ y ∈ l.take k, p y = false := by
  rcases seek_cases p l with ⟨h1, h2⟩ | ⟨j, y, h1, h2, h3, h4⟩
  · have := h2 x (List.mem_of_getElem? hx); rw [hp] at this; cases this
  · rw [h1]
    constructor
    · intro e
      have e : j = k := by omega
      subst e
      intro z hz
      obtain ⟨i, hi⟩ := List.mem_iff_getElem?.1 hz
      rw [List.getElem?_take] at hi
      split at hi
      · exact h4 i z ‹_› hi
      · cases hi
    · intro h
      rcases Nat.lt_trichotomy j k with q | q | q
      · have := h y (List.mem_iff_getElem?.2 ⟨j, by rw [List.getElem?_take_of_lt q]; exact h2⟩)
        rw [h3] at this; cases this
      · rw [q]
      · have := h4 k x q hx
        rw [hp] at this; cases this
theorem pubAt_lt {T : Tab} {name : ByteArray} {s : PH} {t : Tri} : pubAt T name < 0 ∨ ∃ (j : Nat) (c : Col), pubAt T name = (j : Int) ∧ T.cols[j]? = some c ∧ c.state = 3 := by
  unfold pubAt colAt
  rcases seek_cases (fun c : Col => decide (c.name = name)) T.cols with ⟨h1, h2⟩ | ⟨j, c, h1, h2, h3, h4⟩
  · rw [h1]; left; simp
  · rw [h1, if_pos (by omega)]
    simp only [Int.toNat_natCast, h2]
    by_cases h : c.state = 3
    · rw [if_pos h]; exact .inr ⟨j, c, rfl, h2, h⟩
    · rw [if_neg h]; left; omega
theorem c_public {s : PH} {A : Addr} {p : TabP} (hA : s.has A (tabE.f p)) (h : Sl colE s p.c p.T.cols) (name : ByteArray) : DCalls Try.prog 126 #[.pointer (some A), .string name] s fun y s' => y = .int .i64 (pubAt p.T name) ∧ s' = s := by
  refine ok_public A name _ s ?_
  unfold vc_public
  have hlen : p.c.2.1 = p.T.cols.length := h.len
  simp only [RP_unSome, W.unSome_some, RP_ld]
  refine ld_has (j := 2) hA (cs := [.slice]) (y := (p.c, ())) rfl ?_
  simp only [RP_call]
  refine callq ((colAt p.T name, ()), ()) (c_findC h.el h.few name) rfl ?_
  rcases seek_cases (fun c : Col => decide (c.name = name)) p.T.cols with ⟨h1, h2⟩ | ⟨j, c, h1, h2, h3, h4⟩
  · have e : colAt p.T name = -1 := h1
    unfold pubAt
    simp [e, W.br_iff]
  · have e : colAt p.T name = (j : Int) := h1
    have hj := (List.getElem?_eq_some_iff.1 h2).1
    obtain ⟨ad, had, hh⟩ := h.el.at_enc h2
    unfold pubAt
    rw [e, if_pos (by omega)]
    simp only [Int.toNat_natCast, h2, RP_ite, W.br_iff, decide_eq_true_eq, decide_eq_false_iff_not, RP_ret, W.ret_iff, RP_guard, W.guard_iff, RP_unSome, W.unSome_some, RP_ld]
    refine ⟨fun _ => ?_, fun h => by omega⟩
    refine ld_has (j := 2) hA (cs := [.slice]) (y := (p.c, ())) rfl ?_
    refine ⟨by show (0 : Int) ≤ j ∧ (j : Int) < (p.c.2.1 : Nat); omega, ?_⟩
    rw [had]
    simp only [W.unSome_some]
    refine ld_has (j := 3) hh (cs := [.int .i64]) (y := (c.state, ())) rfl ?_
    simp only [W.br_iff, W.ret_iff]
    refine ⟨fun h => ?_, fun h => ?_⟩
    · have h : c.state ≠ 3 := by simpa using h
      rw [if_neg h]; exact ⟨rfl, trivial⟩
    · have h : c.state = 3 := by simpa using h
      rw [if_pos h]; exact ⟨rfl, trivial⟩
abbrev oneN (cols : List Col) (i : Nat) (c : Col) : Bool := decide (seek (fun y : Col => decide (y.name = c.name)) cols 0 = i)
theorem dbl_yes {cols : List Col} {k : Nat} {c : Col} (hc : cols[k]? = some c) (h : c.name ∈ (cols.take k).map (·.name)) : dbl cols = true := by
  have hk := (List.getElem?_eq_some_iff.1 hc).1
  have h1 : condI (oneN cols) cols k = false := by
    rw [condI_at hc]
    refine decide_eq_false fun e => ?_
    have := (seek_here (p := fun y : Col => decide (y.name = c.name)) hc (by simp)).1 e
    obtain ⟨y, hy, hn⟩ := List.mem_map.1 h
    have := this y hy
    simp [hn] at this
  unfold dbl
  have := upTo_no (c := condI (oneN cols) cols) h1 hk
  rw [this]; (first | done | rfl)
theorem dbl_step {cols : List Col} {k : Nat} {c : Col} (hc : cols[k]? = some c) (hu : upTo (condI (oneN cols) cols) k = true) (h : c.name ∉ (cols.take k).map (·.name)) : upTo (condI (oneN cols) cols) (k + 1) = true := by
  rw [upTo_succ, hu, condI_at hc, Bool.true_and]
  refine decide_eq_true ((seek_here (p := fun y : Col => decide (y.name = c.name)) hc (by simp)).2 fun y hy => ?_)
  refine decide_eq_false fun e => h (List.mem_map.2 ⟨y, hy, e⟩)
theorem dbl_no {cols : List Col} (h : upTo (condI (oneN cols) cols) cols.length = true) : dbl cols = false := by
  unfold dbl; rw [h]; (first | done | rfl)
theorem c_doubled {s : PH} {t : Tri} {xs : List Col} (h : Sl colE s t xs) : DCalls Try.prog 116 #[.slice t.1 t.2.1 t.2.2] s fun y s' => y = .bool (dbl xs) ∧ s' = s := by
  obtain ⟨a, an, ac⟩ := t
  refine DCalls.quiet (ok_doubled a an ac _ s ?_)
  unfold vc_doubled
  have hlen : an = xs.length := h.len
  have hfew := h.few
  simp only [RP_nw]
  refine W.nw_of fun m s1 hm m1 k1 => ?_
  simp only [RP_loop]
  refine ⟨fun z s' => ∃ k : Nat, z = ((some m, ()), ((a, an, ac), ()), ((an : Int), ()), ((k : Int), ()), ()) ∧ k ≤ an ∧ Fw.Mod [m] s1 s' ∧ upTo (condI (oneN xs) xs) k = true ∧
    ∃ f, isMap strKey boolV s' m f ∧ ∀ n, f.lookup n = if n ∈ (xs.take k).map (·.name) then some true else none, fun z _ => an - z.2.2.2.1.1.toNat,
    ⟨0, rfl, Nat.zero_le _, Mod.refl _ _, rfl, [], ⟨#[], 0, k1, rfl, Go.MapKept.stamped_empty 0⟩, by simp⟩, ?_⟩
  rintro _ s2 ⟨k, rfl, hk, m2, hu, f, hf, hs⟩
  have m02 : Fw.Mod [] s s2 := m1.fresh m2 (by simp [hm])
  have h2 := h.mono m02.le
  simp only [RP_ite, W.br_iff, decide_eq_true_eq, decide_eq_false_iff_not]
  refine ⟨fun hlt => ?_, fun hge => ?_⟩
  · have hlt : k < an := by omega
    obtain ⟨x, hx⟩ : ∃ x, xs[k]? = some x := ⟨_, List.getElem?_eq_getElem (by omega)⟩
    obtain ⟨ad, had, hh⟩ := h2.el.at_enc hx
    dsimp only at had
    subst had
    simp only [RP_guard, W.guard_iff, RP_unSome, W.unSome_some, RP_ld, Int.toNat_natCast]
    refine ⟨by omega, ?_⟩
    refine ld_has_z hh (y := (x.id, x.name, x.kind, x.state, x.dflt.kind, x.dflt.n, x.dflt.s, ())) rfl ?_
    refine look_of (ke := strKey) hf (key := x.name) ?_
    rw [hs x.name]
    by_cases hn : x.name ∈ (xs.take k).map (·.name)
    · rw [if_pos hn]
      refine ⟨(true, ()), rfl, ?_⟩
      refine (W.br_iff _ _ _ _).2 ⟨fun _ => ⟨by rw [dbl_yes hx hn], m02⟩, fun e => by cases e⟩
    · rw [if_neg hn]
      refine ⟨(false, ()), rfl, ?_⟩
      refine (W.br_iff _ _ _ _).2 ⟨fun e => (by cases e), fun _ => ?_⟩
      refine mset_of (ke := strKey) hf (v := true) fun o ho => ?_
      rw [wrap_succ (k := k) (by omega)]
      refine ⟨⟨k + 1, rfl, hlt, m2.updLater (.inl (by simp)), dbl_step hx hu hn, _, ho, fun n => ?_⟩, ?_⟩
      · have e : (xs.take (k + 1)).map (·.name) = (xs.take k).map (·.name) ++ [x.name] := by rw [List.take_add_one, hx]; simp
        rw [lookup_aset, hs n, e]
        dsimp only
        by_cases e : n = x.name
        · subst e; simp
        · have : (n == x.name) = false := by simpa using e
          rw [this]
          simp [e]
      · simp only [Int.toNat_natCast]; omega
  · have hke : k = xs.length := by omega
    subst hke
    exact ⟨by rw [dbl_no hu], m02⟩
theorem c_colsX (x : Idx) {p : Nat} {s : PH} {id : Int} (hp : s p = some (.cells #[.int .i64 id] 3 (0, 0))) : DCalls Try.prog 120 #[idxV x, cp p] s fun y s' => y = .bool (decide (x.column = id)) ∧ s' = s := by
  refine ok_colsX x.id x.name x.column x.unique x.state p _ s ?_
  unfold vc_colsX
  simp [W.ld_at hp, beq_dec]
theorem c_IndexFuncXc {a : Option Addr} {an ac p : Nat} {s : PH} {id : Int} {xs : List Idx} (h : elems (Rd.enc idxE) s a an xs) (hn : xs.length ≤ 4294967296) (hp : s p = some (.cells #[.int .i64 id] 3 (0, 0))) :
    DCalls Try.prog 105 #[.slice a an ac, .func (.func 120) #[] #[cp p]] s fun y s' => y = .int .i64 (seek (fun x => decide (x.column = id)) xs 0) ∧ s' = s := by
  refine ok_IndexFuncXc a an ac p _ s ?_
  unfold vc_IndexFuncXc
  have hlen := h.1
  simp only [RP_loop]
  refine ⟨fun z s' => ∃ k : Nat, z = (((an : Int), ()), ((k : Int), ()), ()) ∧ k ≤ an ∧ s' = s ∧ seek (fun x => decide (x.column = id)) (xs.drop k) k = seek (fun x => decide (x.column = id)) xs 0, fun z _ => an - z.2.1.1.toNat, ⟨0, rfl, Nat.zero_le _, rfl, rfl⟩, ?_⟩
  rintro _ s ⟨k, rfl, hk, rfl, hs⟩
  simp [W.br_iff]
  refine ⟨fun hlt => ⟨hlt, ?_⟩, fun hge => ?_⟩
  · obtain ⟨x, hx⟩ : ∃ x, xs[k]? = some x := ⟨_, List.getElem?_eq_getElem (by omega)⟩
    obtain ⟨ad, rfl, hh⟩ := h.at_enc hx
    simp only [W.unSome_some]
    refine ld_has_z hh (y := (x.id, x.name, x.column, x.unique, x.state, ())) rfl ?_
    refine W.call_of (c_colsX x hp) ?_
    rintro _ s ⟨rfl, rfl⟩
    refine ⟨((decide (x.column = id), ()), ()), rfl, ?_⟩
    rw [seek_step hx] at hs
    simp [W.br_iff, wrap_succ (k := k) (by omega)]
    refine ⟨fun he => ?_, fun he => ⟨⟨k + 1, by simp, hlt, ?_⟩, by omega⟩⟩
    · rw [← hs, if_pos (by simpa using he)]
    · rw [← hs, if_neg (by simpa using he)]
  · rw [← hs, seek_end (by omega)]
theorem c_ContainsX {t : Tri} {p : Nat} {s : PH} {id : Int} {xs : List Idx} (h : Sl idxE s t xs) (hp : s p = some (.cells #[.int .i64 id] 3 (0, 0))) :
    DCalls Try.prog 119 #[.slice t.1 t.2.1 t.2.2, .func (.func 120) #[] #[cp p]] s fun y s' => y = .bool (xs.any fun x => decide (x.column = id)) ∧ s' = s := by
  refine ok_ContainsX t.1 t.2.1 t.2.2 p _ s ?_
  unfold vc_ContainsX
  simp only [RP_callQ, RP_call]
  refine callq ((seek (fun x : Idx => decide (x.column = id)) xs 0, ()), ()) (c_IndexFuncXc h.el h.few hp) rfl ?_
  simp only [RP_ret, W.ret_iff, and_true]
  rw [← seek_any]
theorem c_colsF (x : For) {p : Nat} {s : PH} {id : Int} (hp : s p = some (.cells #[.int .i64 id] 3 (0, 0))) : DCalls Try.prog 122 #[forV x, cp p] s fun y s' => y = .bool (decide (x.column = id)) ∧ s' = s := by
  refine ok_colsF x.id x.name x.column x.parent x.state p _ s ?_
  unfold vc_colsF
  simp [W.ld_at hp, beq_dec]
theorem c_IndexFuncFc {a : Option Addr} {an ac p : Nat} {s : PH} {id : Int} {xs : List For} (h : elems (Rd.enc forE) s a an xs) (hn : xs.length ≤ 4294967296) (hp : s p = some (.cells #[.int .i64 id] 3 (0, 0))) :
    DCalls Try.prog 106 #[.slice a an ac, .func (.func 122) #[] #[cp p]] s fun y s' => y = .int .i64 (seek (fun x => decide (x.column = id)) xs 0) ∧ s' = s := by
  refine ok_IndexFuncFc a an ac p _ s ?_
  unfold vc_IndexFuncFc
  have hlen := h.1
  simp only [RP_loop]
  refine ⟨fun z s' => ∃ k : Nat, z = (((an : Int), ()), ((k : Int), ()), ()) ∧ k ≤ an ∧ s' = s ∧ seek (fun x => decide (x.column = id)) (xs.drop k) k = seek (fun x => decide (x.column = id)) xs 0, fun z _ => an - z.2.1.1.toNat, ⟨0, rfl, Nat.zero_le _, rfl, rfl⟩, ?_⟩
  rintro _ s ⟨k, rfl, hk, rfl, hs⟩
  simp [W.br_iff]
  refine ⟨fun hlt => ⟨hlt, ?_⟩, fun hge => ?_⟩
  · obtain ⟨x, hx⟩ : ∃ x, xs[k]? = some x := ⟨_, List.getElem?_eq_getElem (by omega)⟩
    obtain ⟨ad, rfl, hh⟩ := h.at_enc hx
    simp only [W.unSome_some]
    refine ld_has_z hh (y := (x.id, x.name, x.column, x.parent, x.state, ())) rfl ?_
    refine W.call_of (c_colsF x hp) ?_
    rintro _ s ⟨rfl, rfl⟩
    refine ⟨((decide (x.column = id), ()), ()), rfl, ?_⟩
    rw [seek_step hx] at hs
    simp [W.br_iff, wrap_succ (k := k) (by omega)]
    refine ⟨fun he => ?_, fun he => ⟨⟨k + 1, by simp, hlt, ?_⟩, by omega⟩⟩
    · rw [← hs, if_pos (by simpa using he)]
    · rw [← hs, if_neg (by simpa using he)]
  · rw [← hs, seek_end (by omega)]
theorem c_ContainsF {t : Tri} {p : Nat} {s : PH} {id : Int} {xs : List For} (h : Sl forE s t xs) (hp : s p = some (.cells #[.int .i64 id] 3 (0, 0))) :
    DCalls Try.prog 121 #[.slice t.1 t.2.1 t.2.2, .func (.func 122) #[] #[cp p]] s fun y s' => y = .bool (xs.any fun x => decide (x.column = id)) ∧ s' = s := by
  refine ok_ContainsF t.1 t.2.1 t.2.2 p _ s ?_
  unfold vc_ContainsF
  simp only [RP_callQ, RP_call]
  refine callq ((seek (fun x : For => decide (x.column = id)) xs 0, ()), ()) (c_IndexFuncFc h.el h.few hp) rfl ?_
  simp only [RP_ret, W.ret_iff, and_true]
  rw [← seek_any]
end Go.Proofs.Ythepfbcgpbkbdaa
end
section
set_option linter.unusedVariables false
set_option linter.unusedSimpArgs false
set_option maxHeartbeats 1000000
set_option maxRecDepth 100000
namespace Go.Proofs.Ythepfbcgpbkbdaa
open Fw Go
attribute [-simp] Fw.W.ld_iff Fw.W.st_iff
structure Sch.Bd (S : Sch) : Prop where
  tabs : S.tabs.length ≤ 6
  each : ∀ T ∈ S.tabs, 1 ≤ T.cols.length ∧ T.cols.length ≤ 8 ∧ T.idxs.length ≤ 8 ∧ T.keys.length ≤ 8
  last : 0 ≤ S.last ∧ S.last ≤ 1125899906842624
/-- the schema that the program works on, its own at b -/
structure Gs (s : PH) (b : Nat) (S : Sch) (t : Tri) (ps : List TabP) : Prop where
  cell : s b = some (.cells #[.int .i64 S.version, .int .i64 S.last, .slice t.1 t.2.1 t.2.2] 24 (0, 0))
  has : Has s t ps
  nb : b ∉ Lof t ps
  eq : S.tabs = ps.map (·.T)
def OutG (b : Nat) (r : Res) (L : List Nat) (s : PH) (y : Value) (s' : PH) : Prop := match r with
  | .error e => y = .int .i64 e ∧ Fw.Mod (b :: L) s s'
  | .ok S' => y = .int .i64 0 ∧ ∃ t' ps', Gs s' b S' t' ps' ∧ Step (b :: L) (b :: Lof t' ps') s s'
theorem Gs.mod {s s' : PH} {b : Nat} {S : Sch} {t : Tri} {ps : List TabP} {M : List Nat} (h : Gs s b S t ps) (hm : Fw.Mod M s s') (hb : b ∉ M) (hd : ∀ g ∈ Lof t ps, g ∉ M) : Gs s' b S t ps :=
  ⟨hm.at h.cell hb, h.has.mod hm hd, h.nb, h.eq⟩
theorem Gs.sch {s : PH} {b : Nat} {S : Sch} {t : Tri} {ps : List TabP} (h : Gs s b S t ps) (hb : S.Bd) : SchIs s t S ps :=
  h.has.is h.eq (by have := hb.tabs; omega) fun T hT => by
    obtain ⟨_, a, b, c⟩ := hb.each T hT
    exact ⟨by omega, by omega, by omega⟩
theorem Gs.then {s s1 s3 : PH} {b : Nat} {S S' : Sch} {t : Tri} {ps ps' : List TabP} (h : Gs s b S t ps) (m1 : Fw.Mod [b] s s1) (hc : s1 b = some (.cells #[.int .i64 S'.version, .int .i64 S'.last, .slice t.1 t.2.1 t.2.2] 24 (0, 0)))
    (h3 : Has s3 t ps') (st : Step (Lof t ps) (Lof t ps') s1 s3) (he : S'.tabs = ps'.map (·.T)) : Gs s3 b S' t ps' ∧ Step (b :: Lof t ps) (b :: Lof t ps') s s3 := by
  refine ⟨⟨st.mod.at hc h.nb, h3, fun hb => ?_, he⟩, ⟨(m1.mono (by simp)).trans (st.mod.mono fun x hx => List.mem_cons_of_mem _ hx), fun x hx => ?_⟩⟩
  · rcases st.new b hb with e | e
    · exact h.nb e
    · rw [hc] at e; cases e
  · rcases List.mem_cons.1 hx with rfl | hx
    · exact .inl (by simp)
    · rcases st.new x hx with e | e
      · exact .inl (List.mem_cons_of_mem _ e)
      · by_cases hxb : x = b
        · exact .inl (by simp [hxb])
        · exact .inr (m1.none e (by simpa using hxb))
theorem Gs.tabHas {s : PH} {t : Tri} {ps : List TabP} {g i : Nat} {p : TabP} (h : Has s t ps) (hp : ps[i]? = some p) (ht : t.1 = some ⟨g, 0, none⟩) : s.has ⟨g, i * 5, none⟩ (tabE.f p) := by
  obtain ⟨g', hg', hh⟩ := h.row.at hp
  rw [ht] at hg'; cases hg'
  exact hh
theorem ld_hasm {g o : Nat} {l : List Value} {cs : List CT} {y : Den cs} {k : Den cs → W.T} {s : PH} {j : Nat} (h : s.has ⟨g, o, none⟩ l) (hl : (l.drop j).take cs.length = vals cs y) (hk : k y s) : W.ld cs ⟨g, o + j, none⟩ k s := by
  have := ld_has (j := j) h hl hk
  rwa [add_mk] at this
theorem set_map {ps : List TabP} {i : Nat} {p' : TabP} : (ps.set i p').map (·.T) = (ps.map (·.T)).set i p'.T := by rw [List.map_set]
section
variable {s : PH} {b : Nat} {S : Sch} {t : Tri} {ps : List TabP} {i g : Nat} {p : TabP}
theorem c_columns (h : Gs s b S t ps) (hb : S.Bd) (hp : ps[i]? = some p) (ht : t.1 = some ⟨g, 0, none⟩) (D : Ddl) (u : Tri) (st : Int) :
    DCalls Try.prog 78 #[cp b, .pointer (some ⟨g, i * 5, none⟩), ddlV D u, .int .i64 st] s (OutG b (colTurn S i p.T D st) (Lof t ps) s) := by
  obtain ⟨ua, un, uc⟩ := u
  refine ok_columns b ⟨g, i * 5, none⟩ D.kind D.table D.name D.column D.parent D.unique D.type D.dflt.kind D.dflt.n D.dflt.s ua un uc st _ s ?_
  unfold vc_columns
  have hSch := h.sch hb
  have hpm := List.mem_of_getElem? hp
  have hP := hSch.all p hpm
  have hT : p.T ∈ S.tabs := by rw [h.eq]; exact List.mem_map_of_mem hpm
  obtain ⟨b1, b2, b3, b4⟩ := hb.each p.T hT
  have hA := Gs.tabHas h.has hp ht
  have hcn : p.c.2.1 = p.T.cols.length := hP.c.len
  have hcell := h.cell
  simp only [RP_join, RP_ite, RP_call, RP_callQ, RP_ret, RP_nw, RP_app, RP_st, RP_ld, RP_unSome, RP_guard, RP_loop, RP_still, RP_clr, RP_look, RP_mset, W.unSome_some]
  refine ld_has (j := 2) hA (cs := [.slice]) (y := (p.c, ())) rfl ?_
  refine W.callQ_of ((colAt p.T D.column, ()), ()) (c_findC hP.c.el hP.c.few D.column) rfl ?_
  obtain ⟨R, hR⟩ : ∃ R, OutG b (colTurn S i p.T D st) (Lof t ps) s = R := ⟨_, rfl⟩
  have hret : ∀ {e : Int} {s'}, colTurn S i p.T D st = .error e → Fw.Mod (b :: Lof t ps) s s' → R (.int .i64 e) s' := fun e1 m => by
    rw [← hR, e1]; exact ⟨rfl, m⟩
  rw [hR]
  have hlast : IntKind.i64.wrap (S.last + 1) = S.last + 1 := wrap_in (by have := hb.last; omega) (by have := hb.last; omega)
  refine W.join_gen (fun z s' => z = ((D.kind, D.table, D.name, D.column, D.parent, D.unique, D.type, D.dflt.kind, D.dflt.n, D.dflt.s, (ua, un, uc), ()), (colAt p.T D.column, ()), ()) ∧ s' = s ∧
    ∃ (j : Nat) (x : Col), colAt p.T D.column = (j : Int) ∧ p.T.cols[j]? = some x ∧ ¬ (D.kind = 4 ∧ x.state = 3)) ?_ ?_
  rotate_left
  · intro J hJ
    refine W.join_gen (fun z s' => z = ((D.kind, D.table, D.name, D.column, D.parent, D.unique, D.type, D.dflt.kind, D.dflt.n, D.dflt.s, (ua, un, uc), ()), (colAt p.T D.column, ()), (decide (D.kind = 4 ∧ colAt p.T D.column < 0), ()), ()) ∧ s' = s) ?_ ?_
    rotate_left
    · intro J6 hJ6
      simp only [W.br_iff]
      refine ⟨fun h4 => hJ6 _ _ ⟨?_, rfl⟩, fun h4 => hJ6 _ _ ⟨?_, rfl⟩⟩
      · have h4 : D.kind = 4 := by simpa using h4
        simp [h4]
      · have h4 : D.kind ≠ 4 := by simpa using h4
        simp [h4]
    rintro _ s0 ⟨rfl, rfl⟩
    simp only [W.br_iff, decide_eq_true_eq, decide_eq_false_iff_not]
    refine ⟨fun hadd => ?_, fun hadd => ?_⟩
    · have hTurn : colTurn S i p.T D st = if freshE D.column p.T.cols.length ≠ 0 then .error (freshE D.column p.T.cols.length)
          else if (typed D.type && fits D.dflt D.type) = false then .error 154
          else if st = 0 then .error 1
          else .ok ⟨S.version, S.last + 1, S.tabs.set i { p.T with cols := p.T.cols ++ [⟨S.last + 1, D.column, D.type, st, D.dflt⟩] }⟩ := by
        unfold colTurn; rw [if_pos hadd]
      try simp only [W.unSome_some]
      refine ld_has (j := 2) hA (cs := [.slice]) (y := (p.c, ())) rfl ?_
      refine W.callQ_of ((freshE D.column p.c.2.1, ()), ()) (c_fresh D.column p.c.2.1 _) rfl ?_
      rw [hcn]
      simp only [W.br_iff]
      refine ⟨fun hf => ?_, fun hf => ?_⟩
      · have hf : freshE D.column p.T.cols.length ≠ 0 := by simpa using hf
        exact hret (by rw [hTurn, if_pos hf]) (Mod.refl _ _)
      have hf : freshE D.column p.T.cols.length = 0 := by simpa using hf
      rw [if_neg (by rw [hf]; simp)] at hTurn
      refine W.join_gen (fun z s' => z = ((D.kind, D.table, D.name, D.column, D.parent, D.unique, D.type, D.dflt.kind, D.dflt.n, D.dflt.s, (ua, un, uc), ()), ()) ∧ s' = s0 ∧ (typed D.type && fits D.dflt D.type) = true) ?_ ?_
      rotate_left
      · intro J7 hJ7
        refine callq ((typed D.type, ()), ()) (c_kind D.type _) rfl ?_
        simp only [W.br_iff]
        refine ⟨fun hk => ?_, fun hk => ?_⟩
        · have hk : typed D.type = false := by simpa using hk
          exact hret (by rw [hTurn, if_pos (by rw [hk]; (first | done | rfl))]) (Mod.refl _ _)
        have hk : typed D.type = true := by simpa using hk
        refine callq ((fits D.dflt D.type, ()), ()) (c_fits D.dflt D.type _) rfl ?_
        simp only [W.br_iff]
        refine ⟨fun hk2 => ?_, fun hk2 => ?_⟩
        · have hk2 : fits D.dflt D.type = false := by simpa using hk2
          exact hret (by rw [hTurn, if_pos (by rw [hk, hk2]; (first | done | rfl))]) (Mod.refl _ _)
        have hk2 : fits D.dflt D.type = true := by simpa using hk2
        exact hJ7 _ _ ⟨rfl, rfl, by rw [hk, hk2]; (first | done | rfl)⟩
      rintro _ s1 ⟨rfl, rfl, hk⟩
      rw [if_neg (by rw [hk]; simp)] at hTurn
      simp only [W.br_iff]
      refine ⟨fun h0 => ?_, fun h0 => ?_⟩
      · have h0 : st = 0 := by simpa using h0
        exact hret (by rw [hTurn, if_pos h0]) (Mod.refl _ _)
      have h0 : st ≠ 0 := by simpa using h0
      rw [if_neg h0] at hTurn
      have hnb : b ∉ Lof t ps := h.nb
      simp [W.ld_at hcell, W.st_at hcell, hlast, -W.nw_iff]
      have m1 : Fw.Mod [b] s1 (s1.upd b (.cells #[.int .i64 S.version, .int .i64 (S.last + 1), .slice t.1 t.2.1 t.2.2] 24 (0, 0))) := Mod.upd (by simp)
      have hc1 : (s1.upd b (.cells #[.int .i64 S.version, .int .i64 (S.last + 1), .slice t.1 t.2.1 t.2.2] 24 (0, 0))) b = some (.cells #[.int .i64 S.version, .int .i64 (S.last + 1), .slice t.1 t.2.1 t.2.2] 24 (0, 0)) := PH.upd_same _ _ _
      generalize s1.upd b (.cells #[.int .i64 S.version, .int .i64 (S.last + 1), .slice t.1 t.2.1 t.2.2] 24 (0, 0)) = s2 at m1 hc1 ⊢
      have hH2 : Has s2 t ps := h.has.mod m1 (fun x hx => by simpa using fun e : x = b => hnb (e ▸ hx))
      have hA2 := Gs.tabHas hH2 hp ht
      refine ld_hasm (j := 2) hA2 (cs := [.slice]) (y := (p.c, ())) rfl ?_
      simp [W.ld_at hc1, -W.nw_iff]
      refine hH2.app_c hp ⟨S.last + 1, D.column, D.type, st, D.dflt⟩ (by omega) ?_
      intro u s3 hu hw
      simp only [W.unSome_some, add_mk]
      refine hH2.store hp hw (j := 2) (vs := [.slice u.1 u.2.1 u.2.2]) rfl (by simp) (by simp) ht fun s4 h4 st4 => ?_
      obtain ⟨hG, hS⟩ := h.then (S' := ⟨S.version, S.last + 1, S.tabs.set i { p.T with cols := p.T.cols ++ [⟨S.last + 1, D.column, D.type, st, D.dflt⟩] }⟩) m1 hc1 h4 st4 (by dsimp only; rw [set_map, h.eq])
      rw [← hR, hTurn]
      exact ⟨rfl, t, _, hG, hS⟩
    · have hTurn : colTurn S i p.T D st = if colAt p.T D.column < 0 then .error 151 else match p.T.cols[(colAt p.T D.column).toNat]? with
          | none => .error 151
          | some x => if D.kind = 4 ∧ x.state = 3 then .error 152
            else if D.kind = 5 ∧ used p.T (colAt p.T D.column) x = true then .error 155
            else .ok ⟨S.version, S.last, S.tabs.set i { p.T with cols := placed p.T.cols (colAt p.T D.column).toNat st (x.put st) }⟩ := by
        unfold colTurn; rw [if_neg hadd]; (first | done | rfl)
      have hneg : colAt p.T D.column < 0 → R (.int .i64 151) s0 := fun e => hret (by rw [hTurn, if_pos e]) (Mod.refl _ _)
      have hpos : ¬ colAt p.T D.column < 0 → ∃ (j : Nat) (x : Col), colAt p.T D.column = (j : Int) ∧ p.T.cols[j]? = some x := by
        intro e
        rcases seek_cases (fun c : Col => decide (c.name = D.column)) p.T.cols with ⟨h1, _⟩ | ⟨j, x, h1, h2, _⟩
        · exact absurd h1 (by unfold colAt at e; omega)
        · exact ⟨j, x, h1, h2⟩
      refine ⟨fun h4 => ?_, fun h4 => ⟨hneg, fun hn => ?_⟩⟩
      · have h4 : D.kind = 4 := by simpa using h4
        have hn : ¬ colAt p.T D.column < 0 := fun e => hadd ⟨h4, e⟩
        obtain ⟨j, x, hj, hx⟩ := hpos hn
        have hjl := (List.getElem?_eq_some_iff.1 hx).1
        simp only [W.unSome_some]
        refine ld_has (j := 2) hA (cs := [.slice]) (y := (p.c, ())) rfl ?_
        rw [hj]
        refine ⟨by show (0 : Int) ≤ j ∧ (j : Int) < (p.c.2.1 : Nat); omega, ?_⟩
        obtain ⟨ad, had, hh⟩ := hP.c.el.at_enc hx
        rw [had]
        simp only [W.unSome_some, Int.toNat_natCast]
        refine ld_has (j := 3) hh (cs := [.int .i64]) (y := (x.state, ())) rfl ?_
        rw [hj, if_neg (by omega)] at hTurn
        simp only [Int.toNat_natCast, hx] at hTurn
        simp only [W.br_iff, decide_eq_true_eq, decide_eq_false_iff_not]
        refine ⟨fun h3 => ?_, fun h3 => ⟨fun e => by omega, fun _ => ?_⟩⟩
        · have h3 : x.state = 3 := by simpa using h3
          exact hret (by rw [hTurn, if_pos ⟨h4, h3⟩]) (Mod.refl _ _)
        · have h3 : x.state ≠ 3 := by simpa using h3
          refine hJ _ _ ⟨by rw [hj], rfl, j, x, hj, hx, fun e => h3 e.2⟩
      · have h4 : D.kind ≠ 4 := by simpa using h4
        obtain ⟨j, x, hj, hx⟩ := hpos hn
        exact hJ _ _ ⟨rfl, rfl, j, x, hj, hx, fun e => h4 e.1⟩
  rintro _ s0 ⟨rfl, rfl, j, x, hj, hx, hno⟩
  have hjl := (List.getElem?_eq_some_iff.1 hx).1
  have hTurn : colTurn S i p.T D st = if D.kind = 5 ∧ used p.T j x = true then .error 155
      else .ok ⟨S.version, S.last, S.tabs.set i { p.T with cols := placed p.T.cols j st (x.put st) }⟩ := by
    unfold colTurn
    rw [hj, if_neg (by omega), if_neg (by omega)]
    simp only [Int.toNat_natCast, hx]
    rw [if_neg hno]
  try simp only [W.unSome_some]
  refine ld_has (j := 2) hA (cs := [.slice]) (y := (p.c, ())) rfl ?_
  rw [hj]
  refine ⟨by show (0 : Int) ≤ j ∧ (j : Int) < (p.c.2.1 : Nat); omega, ?_⟩
  obtain ⟨ad, had, hh⟩ := hP.c.el.at_enc hx
  rw [had]
  simp only [W.unSome_some, Int.toNat_natCast]
  refine ld_has (j := 0) hh (cs := [.int .i64]) (y := (x.id, ())) rfl ?_
  refine W.nw_of fun r s1 hr m1 k1 => ?_
  rw [W.st_at k1]
  refine ⟨by simp, by simp, by simp [Value.oneCell'], ?_⟩
  have m2 : Fw.Mod [] s0 (s1.upd r (.cells (setL #[.int .i64 0] 0 [.int .i64 x.id]) 3 (0, 0))) := m1.updLater (.inr hr)
  have k2 : (s1.upd r (.cells (setL #[.int .i64 0] 0 [.int .i64 x.id]) 3 (0, 0))) r = some (.cells #[.int .i64 x.id] 3 (0, 0)) := PH.upd_same _ _ _
  show W.br _ _ _ (s1.upd r (.cells (setL #[.int .i64 0] 0 [.int .i64 x.id]) 3 (0, 0)))
  generalize s1.upd r (.cells (setL #[.int .i64 0] 0 [.int .i64 x.id]) 3 (0, 0)) = s2 at m2 k2 ⊢
  have hG2 := h.mod m2 (by simp) (by simp)
  have hS2 := hG2.sch hb
  have hP2 := hS2.all p hpm
  have hA2 := Gs.tabHas hG2.has hp ht
  have fin : ¬ (D.kind = 5 ∧ used p.T j x = true) → W.call Try.prog 123 #[.pointer (some ⟨g, i * 5 + 2, none⟩), .int .i64 j, .int .i64 st, .func (.func 124) #[] #[]] (true, []) (fun _ => W.ret R (.int .i64 0)) s2 := by
    intro hu
    refine W.call_of (c_placeC hG2.has hp hx ht (by omega) st) ?_
    rintro _ s3 ⟨rfl, ps', h3, he, st3⟩
    refine ⟨(), rfl, ?_⟩
    rw [if_neg hu] at hTurn
    obtain ⟨hG, hS⟩ := h.then (S' := ⟨S.version, S.last, S.tabs.set i { p.T with cols := placed p.T.cols j st (x.put st) }⟩) (m2.mono (by simp)) hG2.cell h3 st3 (by dsimp only; rw [he, h.eq])
    rw [← hR, hTurn]
    exact ⟨rfl, t, ps', hG, hS⟩
  have h155 : D.kind = 5 → used p.T j x = true → R (.int .i64 155) s2 := fun h5 hu => hret (by rw [hTurn, if_pos ⟨h5, hu⟩]) (m2.mono (by simp))
  simp only [W.br_iff, add_mk, W.unSome_some]
  refine ⟨fun h0 => ?_, fun h0 => ?_⟩
  · have h0 : (j : Int) = 0 := by simpa using h0
    have hu : used p.T j x = true := by unfold used; rw [h0]; (first | done | rfl)
    refine ⟨fun h5 => h155 (by simpa using h5) hu, fun h5 => fin fun e => ?_⟩
    have h5 : D.kind ≠ 5 := by simpa using h5
    exact h5 e.1
  have h0 : (j : Int) ≠ 0 := by simpa using h0
  refine ld_hasm (j := 3) hA2 (cs := [.slice]) (y := (p.x, ())) rfl ?_
  refine callq ((p.T.idxs.any fun y => decide (y.column = x.id), ()), ()) (c_ContainsX hP2.x k2) rfl ?_
  simp only [W.br_iff, W.unSome_some, add_mk]
  refine ⟨fun hx1 => ?_, fun hx1 => ?_⟩
  · have hu : used p.T j x = true := by unfold used; rw [show (p.T.idxs.any fun y => decide (y.column = x.id)) = true from hx1]; simp
    refine ⟨fun h5 => h155 (by simpa using h5) hu, fun h5 => fin fun e => ?_⟩
    have h5 : D.kind ≠ 5 := by simpa using h5
    exact h5 e.1
  refine ld_hasm (j := 4) hA2 (cs := [.slice]) (y := (p.k, ())) rfl ?_
  refine callq ((p.T.keys.any fun y => decide (y.column = x.id), ()), ()) (c_ContainsF hP2.k k2) rfl ?_
  simp only [W.br_iff, W.unSome_some, add_mk]
  refine ⟨fun h5 => ⟨fun hk => h155 (by simpa using h5) ?_, fun hk => fin fun e => ?_⟩, fun h5 => fin fun e => ?_⟩
  · unfold used; rw [show (p.T.keys.any fun y => decide (y.column = x.id)) = true from hk]; simp
  · have := e.2
    unfold used at this
    rw [show (p.T.idxs.any fun y => decide (y.column = x.id)) = false from hx1, show (p.T.keys.any fun y => decide (y.column = x.id)) = false from hk, decide_eq_false h0] at this
    cases this
  · have h5 : D.kind ≠ 5 := by simpa using h5
    exact h5 e.1
end
end Go.Proofs.Ythepfbcgpbkbdaa
end
section
set_option linter.unusedVariables false
set_option linter.unusedSimpArgs false
set_option maxHeartbeats 1000000
set_option maxRecDepth 100000
namespace Go.Proofs.Ythepfbcgpbkbdaa
open Fw Go
attribute [-simp] Fw.W.ld_iff Fw.W.st_iff
theorem b_last {s : PH} {b : Nat} {v l : Int} {a : Option Addr} {n c : Nat} (h : s b = some (.cells #[.int .i64 v, .int .i64 l, .slice a n c] 24 (0, 0))) {K : Den [.int .i64] → W.T} (hK : K (l, ()) s) : W.unSome (some (Addr.mk b 0 none)) (fun p => W.ld [.int .i64] (p.add 1) K) s := by
  simp only [W.unSome_some, add_mk, Nat.zero_add]
  rw [W.ld_at h]
  exact ⟨(l, ()), by simp, hK⟩
theorem b_tabs {s : PH} {b : Nat} {v l : Int} {a : Option Addr} {n c : Nat} (h : s b = some (.cells #[.int .i64 v, .int .i64 l, .slice a n c] 24 (0, 0))) {K : Den [.slice] → W.T} (hK : K ((a, n, c), ()) s) : W.unSome (some (Addr.mk b 0 none)) (fun p => W.ld [.slice] (p.add 2) K) s := by
  simp only [W.unSome_some, add_mk, Nat.zero_add]
  rw [W.ld_at h]
  exact ⟨((a, n, c), ()), by simp, hK⟩
theorem b_bump {s : PH} {b : Nat} {v l : Int} {a : Option Addr} {n c : Nat} (h : s b = some (.cells #[.int .i64 v, .int .i64 l, .slice a n c] 24 (0, 0))) (hl : IntKind.i64.wrap (l + 1) = l + 1) {K : W.T}
    (hK : ∀ s2, Fw.Mod [b] s s2 → s2 b = some (.cells #[.int .i64 v, .int .i64 (l + 1), .slice a n c] 24 (0, 0)) → K s2) :
    W.unSome (some (Addr.mk b 0 none)) (fun p => W.ld [.int .i64] (p.add 1) fun x => W.unSome (some (Addr.mk b 0 none)) fun p' => W.st (p'.add 1) [.int .i64 (IntKind.i64.wrap (x.1 + 1))] K) s := by
  refine b_last h ?_
  simp only [W.unSome_some, add_mk, Nat.zero_add, hl]
  rw [W.st_at h]
  exact ⟨by simp, by simp, by simp [Value.oneCell'], hK _ (Mod.upd (by simp)) (PH.upd_same _ _ _)⟩
section
variable {s : PH} {b : Nat} {S : Sch} {t : Tri} {ps : List TabP} {i g : Nat} {p : TabP}
theorem c_indexes (h : Gs s b S t ps) (hb : S.Bd) (hp : ps[i]? = some p) (ht : t.1 = some ⟨g, 0, none⟩) (D : Ddl) (u : Tri) (st : Int) :
    DCalls Try.prog 79 #[cp b, .pointer (some ⟨g, i * 5, none⟩), ddlV D u, .int .i64 st] s (OutG b (idxTurn S i p.T D st) (Lof t ps) s) := by
  obtain ⟨ua, un, uc⟩ := u
  refine ok_indexes b ⟨g, i * 5, none⟩ D.kind D.table D.name D.column D.parent D.unique D.type D.dflt.kind D.dflt.n D.dflt.s ua un uc st _ s ?_
  unfold vc_indexes
  have hSch := h.sch hb
  have hpm := List.mem_of_getElem? hp
  have hP := hSch.all p hpm
  have hT : p.T ∈ S.tabs := by rw [h.eq]; exact List.mem_map_of_mem hpm
  obtain ⟨b1, b2, b3, b4⟩ := hb.each p.T hT
  have hA := Gs.tabHas h.has hp ht
  have hcn : p.c.2.1 = p.T.cols.length := hP.c.len
  have hln : p.x.2.1 = p.T.idxs.length := hP.x.len
  have hcell := h.cell
  simp only [RP_join, RP_ite, RP_call, RP_callQ, RP_ret, RP_nw, RP_app, RP_st, RP_ld, RP_unSome, RP_guard, RP_loop, RP_still, RP_clr, RP_look, RP_mset, W.unSome_some]
  refine ld_has (j := 3) hA (cs := [.slice]) (y := (p.x, ())) rfl ?_
  refine W.callQ_of ((idxAt p.T D.name, ()), ()) (c_findX hP.x.el hP.x.few D.name) rfl ?_
  obtain ⟨R, hR⟩ : ∃ R, OutG b (idxTurn S i p.T D st) (Lof t ps) s = R := ⟨_, rfl⟩
  have hret : ∀ {e : Int} {s'}, idxTurn S i p.T D st = .error e → Fw.Mod (b :: Lof t ps) s s' → R (.int .i64 e) s' := fun e1 m => by
    rw [← hR, e1]; exact ⟨rfl, m⟩
  rw [hR]
  have hlast : IntKind.i64.wrap (S.last + 1) = S.last + 1 := wrap_in (by have := hb.last; omega) (by have := hb.last; omega)
  refine W.join_gen (fun z s' => z = ((D.kind, D.table, D.name, D.column, D.parent, D.unique, D.type, D.dflt.kind, D.dflt.n, D.dflt.s, (ua, un, uc), ()), (idxAt p.T D.name, ()), (decide (D.kind = 2 ∧ idxAt p.T D.name < 0), ()), ()) ∧ s' = s) ?_ ?_
  rotate_left
  · intro J6 hJ6
    simp only [W.br_iff]
    refine ⟨fun h4 => hJ6 _ _ ⟨?_, rfl⟩, fun h4 => hJ6 _ _ ⟨?_, rfl⟩⟩
    · have h4 : D.kind = 2 := by simpa using h4
      simp [h4]
    · have h4 : D.kind ≠ 2 := by simpa using h4
      simp [h4]
  rintro _ s0 ⟨rfl, rfl⟩
  simp only [W.br_iff, decide_eq_true_eq, decide_eq_false_iff_not]
  refine ⟨fun hadd => ?_, fun hadd => ?_⟩
  · simp only [W.unSome_some]
    refine ld_has (j := 3) hA (cs := [.slice]) (y := (p.x, ())) rfl ?_
    refine W.callQ_of ((freshE D.name p.x.2.1, ()), ()) (c_fresh D.name p.x.2.1 _) rfl ?_
    rw [hln]
    simp only [W.br_iff, W.unSome_some]
    refine ⟨fun hf => ?_, fun hf => ?_⟩
    · have hf : freshE D.name p.T.idxs.length ≠ 0 := by simpa using hf
      exact hret (by unfold idxTurn; rw [if_pos hadd, if_pos hf]) (Mod.refl _ _)
    have hf : freshE D.name p.T.idxs.length = 0 := by simpa using hf
    have hnf : ¬ (freshE D.name p.T.idxs.length ≠ 0) := by rw [hf]; simp
    have hnb : b ∉ Lof t ps := h.nb
    refine callq ((pubAt p.T D.column, ()), ()) (c_public hA hP.c D.column) rfl ?_
    simp only [W.br_iff, decide_eq_true_eq, decide_eq_false_iff_not]
    refine ⟨fun hp1 => hret (by unfold idxTurn; rw [if_pos hadd, if_neg hnf, if_pos hp1]) (Mod.refl _ _), fun hp1 => ⟨fun h0 => hret (by unfold idxTurn; rw [if_pos hadd, if_neg hnf, if_neg hp1, if_pos (by simpa using h0)]) (Mod.refl _ _), fun h0 => ?_⟩⟩
    have h0 : st ≠ 0 := by simpa using h0
    obtain ⟨j, c, hj, hc, _⟩ := (pubAt_lt (T := p.T) (name := D.column) (s := s0) (t := t)).resolve_left hp1
    have hjl := (List.getElem?_eq_some_iff.1 hc).1
    have hTurn : idxTurn S i p.T D st = .ok ⟨S.version, S.last + 1, S.tabs.set i { p.T with idxs := p.T.idxs ++ [⟨S.last + 1, D.name, c.id, D.unique, st⟩] }⟩ := by
      unfold idxTurn
      rw [if_pos hadd, if_neg hnf, if_neg hp1, if_neg h0, hj]
      simp only [Int.toNat_natCast, hc]
    rw [hj]
    refine b_bump hcell hlast fun s2 m1 hc1 => ?_
    have hH2 : Has s2 t ps := h.has.mod m1 (fun x hx => by simpa using fun e : x = b => hnb (e ▸ hx))
    have hA2 := Gs.tabHas hH2 hp ht
    have hP2 := (hH2.is h.eq (by have := hb.tabs; omega) (fun T hT => by obtain ⟨_, a, b, c⟩ := hb.each T hT; exact ⟨by omega, by omega, by omega⟩)).all p hpm
    simp only [W.unSome_some]
    refine ld_has (j := 3) hA2 (cs := [.slice]) (y := (p.x, ())) rfl ?_
    refine b_last hc1 ?_
    simp only [W.unSome_some]
    refine ld_has (j := 2) hA2 (cs := [.slice]) (y := (p.c, ())) rfl ?_
    refine ⟨by show (0 : Int) ≤ j ∧ (j : Int) < (p.c.2.1 : Nat); omega, ?_⟩
    obtain ⟨ad, had, hh⟩ := hP2.c.el.at_enc hc
    rw [had]
    simp only [W.unSome_some, Int.toNat_natCast]
    refine ld_has (j := 0) hh (cs := [.int .i64]) (y := (c.id, ())) rfl ?_
    refine hH2.app_x hp ⟨S.last + 1, D.name, c.id, D.unique, st⟩ (by omega) ?_
    intro u s3 hu hw
    simp only [W.unSome_some, add_mk]
    refine hH2.store hp hw (j := 3) (vs := [.slice u.1 u.2.1 u.2.2]) rfl (by simp) (by simp) ht fun s4 h4 st4 => ?_
    obtain ⟨hG, hS⟩ := h.then (S' := ⟨S.version, S.last + 1, S.tabs.set i { p.T with idxs := p.T.idxs ++ [⟨S.last + 1, D.name, c.id, D.unique, st⟩] }⟩) m1 hc1 h4 st4 (by dsimp only; rw [set_map, h.eq])
    rw [← hR, hTurn]
    exact ⟨rfl, t, _, hG, hS⟩
  · have hneg : idxAt p.T D.name < 0 → R (.int .i64 153) s0 := fun e => hret (by unfold idxTurn; rw [if_neg hadd, if_pos e]) (Mod.refl _ _)
    have hpos : ¬ idxAt p.T D.name < 0 → ∃ (j : Nat) (x : Idx), idxAt p.T D.name = (j : Int) ∧ p.T.idxs[j]? = some x := by
      intro e
      rcases seek_cases (fun c : Idx => decide (c.name = D.name)) p.T.idxs with ⟨h1, _⟩ | ⟨j, x, h1, h2, _⟩
      · exact absurd h1 (by unfold idxAt at e; omega)
      · exact ⟨j, x, h1, h2⟩
    have fin : ∀ (j : Nat) (x : Idx), idxAt p.T D.name = (j : Int) → p.T.idxs[j]? = some x → ¬ (D.kind = 2 ∧ x.state = 3) → W.call Try.prog 127 #[.pointer (some ⟨g, i * 5 + 3, none⟩), .int .i64 j, .int .i64 st, .func (.func 128) #[] #[]] (true, []) (fun _ => W.ret R (.int .i64 0)) s0 := by
      intro j x hj hx hu
      refine W.call_of (c_placeX h.has hp hx ht (by omega) st) ?_
      rintro _ s3 ⟨rfl, ps', h3, he, st3⟩
      refine ⟨(), rfl, ?_⟩
      have hTurn : idxTurn S i p.T D st = .ok ⟨S.version, S.last, S.tabs.set i { p.T with idxs := placed p.T.idxs j st (x.put st) }⟩ := by
        unfold idxTurn
        rw [if_neg hadd, hj, if_neg (by omega)]
        simp only [Int.toNat_natCast, hx]
        rw [if_neg hu]
      obtain ⟨hG, hS⟩ := h.then (S' := ⟨S.version, S.last, S.tabs.set i { p.T with idxs := placed p.T.idxs j st (x.put st) }⟩) (Mod.refl _ _) h.cell h3 st3 (by dsimp only; rw [he, h.eq])
      rw [← hR, hTurn]
      exact ⟨rfl, t, ps', hG, hS⟩
    refine ⟨fun h4 => ?_, fun h4 => ⟨hneg, fun hn => ?_⟩⟩
    · have h4 : D.kind = 2 := by simpa using h4
      have hn : ¬ idxAt p.T D.name < 0 := fun e => hadd ⟨h4, e⟩
      obtain ⟨j, x, hj, hx⟩ := hpos hn
      have hjl := (List.getElem?_eq_some_iff.1 hx).1
      simp only [W.unSome_some]
      refine ld_has (j := 3) hA (cs := [.slice]) (y := (p.x, ())) rfl ?_
      rw [hj]
      refine ⟨by show (0 : Int) ≤ j ∧ (j : Int) < (p.x.2.1 : Nat); omega, ?_⟩
      obtain ⟨ad, had, hh⟩ := hP.x.el.at_enc hx
      rw [had]
      simp only [W.unSome_some, Int.toNat_natCast]
      refine ld_has (j := 4) hh (cs := [.int .i64]) (y := (x.state, ())) rfl ?_
      simp only [W.br_iff, decide_eq_true_eq, decide_eq_false_iff_not, add_mk, W.unSome_some]
      refine ⟨fun h3 => ?_, fun h3 => ⟨fun e => by omega, fun _ => ?_⟩⟩
      · have h3 : x.state = 3 := by simpa using h3
        refine hret ?_ (Mod.refl _ _)
        unfold idxTurn
        rw [if_neg hadd, hj, if_neg (by omega)]
        simp only [Int.toNat_natCast, hx]
        rw [if_pos ⟨h4, h3⟩]
      · have h3 : x.state ≠ 3 := by simpa using h3
        exact fin j x hj hx (fun e => h3 e.2)
    · have h4 : D.kind ≠ 2 := by simpa using h4
      obtain ⟨j, x, hj, hx⟩ := hpos hn
      simp only [W.unSome_some, add_mk, hj]
      exact fin j x hj hx (fun e => h4 e.1)
theorem c_foreigns (h : Gs s b S t ps) (hb : S.Bd) (hp : ps[i]? = some p) (ht : t.1 = some ⟨g, 0, none⟩) (D : Ddl) (u : Tri) (st : Int) :
    DCalls Try.prog 80 #[cp b, .pointer (some ⟨g, i * 5, none⟩), ddlV D u, .int .i64 st] s (OutG b (keyTurn S i p.T D st) (Lof t ps) s) := by
  obtain ⟨ua, un, uc⟩ := u
  refine ok_foreigns b ⟨g, i * 5, none⟩ D.kind D.table D.name D.column D.parent D.unique D.type D.dflt.kind D.dflt.n D.dflt.s ua un uc st _ s ?_
  unfold vc_foreigns
  have hSch := h.sch hb
  have hpm := List.mem_of_getElem? hp
  have hP := hSch.all p hpm
  have hT : p.T ∈ S.tabs := by rw [h.eq]; exact List.mem_map_of_mem hpm
  obtain ⟨b1, b2, b3, b4⟩ := hb.each p.T hT
  have hA := Gs.tabHas h.has hp ht
  have hcn : p.c.2.1 = p.T.cols.length := hP.c.len
  have hln : p.k.2.1 = p.T.keys.length := hP.k.len
  have hcell := h.cell
  simp only [RP_join, RP_ite, RP_call, RP_callQ, RP_ret, RP_nw, RP_app, RP_st, RP_ld, RP_unSome, RP_guard, RP_loop, RP_still, RP_clr, RP_look, RP_mset, W.unSome_some]
  refine ld_has (j := 4) hA (cs := [.slice]) (y := (p.k, ())) rfl ?_
  refine W.callQ_of ((keyAt p.T D.name, ()), ()) (c_findF hP.k.el hP.k.few D.name) rfl ?_
  obtain ⟨R, hR⟩ : ∃ R, OutG b (keyTurn S i p.T D st) (Lof t ps) s = R := ⟨_, rfl⟩
  have hret : ∀ {e : Int} {s'}, keyTurn S i p.T D st = .error e → Fw.Mod (b :: Lof t ps) s s' → R (.int .i64 e) s' := fun e1 m => by
    rw [← hR, e1]; exact ⟨rfl, m⟩
  rw [hR]
  have hlast : IntKind.i64.wrap (S.last + 1) = S.last + 1 := wrap_in (by have := hb.last; omega) (by have := hb.last; omega)
  refine W.join_gen (fun z s' => z = ((D.kind, D.table, D.name, D.column, D.parent, D.unique, D.type, D.dflt.kind, D.dflt.n, D.dflt.s, (ua, un, uc), ()), (keyAt p.T D.name, ()), (decide (D.kind = 6 ∧ keyAt p.T D.name < 0), ()), ()) ∧ s' = s) ?_ ?_
  rotate_left
  · intro J6 hJ6
    simp only [W.br_iff]
    refine ⟨fun h4 => hJ6 _ _ ⟨?_, rfl⟩, fun h4 => hJ6 _ _ ⟨?_, rfl⟩⟩
    · have h4 : D.kind = 6 := by simpa using h4
      simp [h4]
    · have h4 : D.kind ≠ 6 := by simpa using h4
      simp [h4]
  rintro _ s0 ⟨rfl, rfl⟩
  simp only [W.br_iff, decide_eq_true_eq, decide_eq_false_iff_not]
  refine ⟨fun hadd => ?_, fun hadd => ?_⟩
  · simp only [W.unSome_some]
    refine ld_has (j := 4) hA (cs := [.slice]) (y := (p.k, ())) rfl ?_
    refine W.callQ_of ((freshE D.name p.k.2.1, ()), ()) (c_fresh D.name p.k.2.1 _) rfl ?_
    rw [hln]
    simp only [W.br_iff, W.unSome_some]
    refine ⟨fun hf => ?_, fun hf => ?_⟩
    · have hf : freshE D.name p.T.keys.length ≠ 0 := by simpa using hf
      exact hret (by unfold keyTurn; rw [if_pos hadd, if_pos hf]) (Mod.refl _ _)
    have hf : freshE D.name p.T.keys.length = 0 := by simpa using hf
    have hnf : ¬ (freshE D.name p.T.keys.length ≠ 0) := by rw [hf]; simp
    have hnb : b ∉ Lof t ps := h.nb
    refine W.callQ_of ((pubAt p.T D.column, ()), ()) (c_public hA hP.c D.column) rfl ?_
    refine b_tabs hcell ?_
    refine W.callQ_of ((tabAt S D.parent, ()), ()) (c_findT' hSch D.parent) rfl ?_
    simp only [W.br_iff, decide_eq_true_eq, decide_eq_false_iff_not]
    refine ⟨fun hp1 => hret (by unfold keyTurn; rw [if_pos hadd, if_neg hnf, if_pos hp1]) (Mod.refl _ _), fun hp1 => ⟨fun hp2 => hret (by unfold keyTurn; rw [if_pos hadd, if_neg hnf, if_neg hp1, if_pos hp2]) (Mod.refl _ _), fun hp2 => ?_⟩⟩
    obtain ⟨j, c, hj, hc, _⟩ := (pubAt_lt (T := p.T) (name := D.column) (s := s0) (t := t)).resolve_left hp1
    have hjl := (List.getElem?_eq_some_iff.1 hc).1
    obtain ⟨j2, P, hj2, hP2, _⟩ := (seek_cases (fun T : Tab => decide (T.name = D.parent)) S.tabs).resolve_left (fun e => by have := e.1; unfold tabAt at hp2; omega)
    have hj2 : tabAt S D.parent = (j2 : Int) := hj2
    obtain ⟨pp, hpp, hppT⟩ : ∃ pp, ps[j2]? = some pp ∧ pp.T = P := by
      rw [h.eq, List.getElem?_map] at hP2
      cases hq : ps[j2]? with
      | none => rw [hq] at hP2; cases hP2
      | some pp => rw [hq] at hP2; exact ⟨pp, rfl, Option.some.inj hP2⟩
    have hj2l := (List.getElem?_eq_some_iff.1 hpp).1
    have hPm := List.mem_of_getElem? hpp
    have hPP := hSch.all pp hPm
    have hPT : P ∈ S.tabs := List.mem_of_getElem? hP2
    obtain ⟨d1, _⟩ := hb.each P hPT
    subst hppT
    have hpcn : pp.c.2.1 = pp.T.cols.length := hPP.c.len
    have htn : t.2.1 = ps.length := h.has.row.len
    obtain ⟨c0, cs, hcs⟩ : ∃ c0 cs, pp.T.cols = c0 :: cs := by
      cases hc : pp.T.cols with
      | nil => rw [hc] at d1; simp at d1
      | cons a b => exact ⟨a, b, rfl⟩
    have hTurn : keyTurn S i p.T D st = if c.kind ≠ c0.kind then .error 154 else if st = 0 then .error 1 else .ok ⟨S.version, S.last + 1, S.tabs.set i { p.T with keys := p.T.keys ++ [⟨S.last + 1, D.name, c.id, pp.T.id, st⟩] }⟩ := by
      unfold keyTurn
      rw [if_pos hadd, if_neg hnf, if_neg hp1, if_neg hp2, hj, hj2]
      simp only [Int.toNat_natCast, hc, hP2, hcs]
    rw [hj, hj2]
    simp only [W.unSome_some]
    refine ld_has (j := 2) hA (cs := [.slice]) (y := (p.c, ())) rfl ?_
    refine ⟨by show (0 : Int) ≤ j ∧ (j : Int) < (p.c.2.1 : Nat); omega, ?_⟩
    obtain ⟨ad, had, hh⟩ := hP.c.el.at_enc hc
    rw [had]
    simp only [W.unSome_some, Int.toNat_natCast]
    refine ld_has (j := 2) hh (cs := [.int .i64]) (y := (c.kind, ())) rfl ?_
    refine b_tabs hcell ?_
    have hA3 := Gs.tabHas h.has hpp ht
    refine ⟨by show (0 : Int) ≤ j2 ∧ (j2 : Int) < (t.2.1 : Nat); omega, ?_⟩
    dsimp only
    rw [ht]
    simp only [W.unSome_some, add_mk, Nat.zero_add, Int.toNat_natCast]
    refine ld_hasm (j := 2) hA3 (cs := [.slice]) (y := (pp.c, ())) rfl ?_
    refine ⟨by show (0 : Int) ≤ 0 ∧ (0 : Int) < (pp.c.2.1 : Nat); omega, ?_⟩
    obtain ⟨ad5, had5, hh5⟩ := hPP.c.el.at_enc (i := 0) (x := c0) (by rw [hcs]; (first | done | rfl))
    rw [had5]
    simp only [W.unSome_some]
    rw [Nat.zero_mul] at hh5
    refine ld_has (j := 2) hh5 (cs := [.int .i64]) (y := (c0.kind, ())) rfl ?_
    simp only [W.br_iff]
    refine ⟨fun hk => hret (by rw [hTurn, if_pos (by simpa using hk)]) (Mod.refl _ _), fun hk => ⟨fun h0 => hret (by rw [hTurn, if_neg (by simpa using hk), if_pos (by simpa using h0)]) (Mod.refl _ _), fun h0 => ?_⟩⟩
    rw [if_neg (by simpa using hk), if_neg (by simpa using h0)] at hTurn
    refine b_bump hcell hlast fun s2 m1 hc1 => ?_
    have hH2 : Has s2 t ps := h.has.mod m1 (fun x hx => by simpa using fun e : x = b => hnb (e ▸ hx))
    have hA2 := Gs.tabHas hH2 hp ht
    have hA4 := Gs.tabHas hH2 hpp ht
    have hSch2 : SchIs s2 t S ps := hH2.is h.eq (by have := hb.tabs; omega) (fun T hT => by obtain ⟨_, a, b, c⟩ := hb.each T hT; exact ⟨by omega, by omega, by omega⟩)
    have hP2' := hSch2.all p hpm
    simp only [W.unSome_some]
    refine ld_has (j := 4) hA2 (cs := [.slice]) (y := (p.k, ())) rfl ?_
    refine b_last hc1 ?_
    simp only [W.unSome_some]
    refine ld_has (j := 2) hA2 (cs := [.slice]) (y := (p.c, ())) rfl ?_
    refine ⟨by show (0 : Int) ≤ j ∧ (j : Int) < (p.c.2.1 : Nat); omega, ?_⟩
    obtain ⟨ad6, had6, hh6⟩ := hP2'.c.el.at_enc hc
    rw [had6]
    simp only [W.unSome_some, Int.toNat_natCast]
    refine ld_has (j := 0) hh6 (cs := [.int .i64]) (y := (c.id, ())) rfl ?_
    refine b_tabs hc1 ?_
    refine ⟨by show (0 : Int) ≤ j2 ∧ (j2 : Int) < (t.2.1 : Nat); omega, ?_⟩
    dsimp only
    rw [ht]
    simp only [W.unSome_some, add_mk, Nat.zero_add, Int.toNat_natCast]
    refine ld_hasm (j := 0) hA4 (cs := [.int .i64]) (y := (pp.T.id, ())) rfl ?_
    refine hH2.app_k hp ⟨S.last + 1, D.name, c.id, pp.T.id, st⟩ (by omega) ?_
    intro u s3 hu hw
    simp only [W.unSome_some, add_mk]
    refine hH2.store hp hw (j := 4) (vs := [.slice u.1 u.2.1 u.2.2]) rfl (by simp) (by simp) ht fun s4 h4 st4 => ?_
    obtain ⟨hG, hS⟩ := h.then (S' := ⟨S.version, S.last + 1, S.tabs.set i { p.T with keys := p.T.keys ++ [⟨S.last + 1, D.name, c.id, pp.T.id, st⟩] }⟩) m1 hc1 h4 st4 (by dsimp only; rw [set_map, h.eq])
    rw [← hR, hTurn]
    exact ⟨rfl, t, _, hG, hS⟩
  · have hneg : keyAt p.T D.name < 0 → R (.int .i64 153) s0 := fun e => hret (by unfold keyTurn; rw [if_neg hadd, if_pos e]) (Mod.refl _ _)
    have hpos : ¬ keyAt p.T D.name < 0 → ∃ (j : Nat) (x : For), keyAt p.T D.name = (j : Int) ∧ p.T.keys[j]? = some x := by
      intro e
      rcases seek_cases (fun c : For => decide (c.name = D.name)) p.T.keys with ⟨h1, _⟩ | ⟨j, x, h1, h2, _⟩
      · exact absurd h1 (by unfold keyAt at e; omega)
      · exact ⟨j, x, h1, h2⟩
    have fin : ∀ (j : Nat) (x : For), keyAt p.T D.name = (j : Int) → p.T.keys[j]? = some x → ¬ (D.kind = 6 ∧ x.state = 3) → W.call Try.prog 130 #[.pointer (some ⟨g, i * 5 + 4, none⟩), .int .i64 j, .int .i64 st, .func (.func 131) #[] #[]] (true, []) (fun _ => W.ret R (.int .i64 0)) s0 := by
      intro j x hj hx hu
      refine W.call_of (c_placeF h.has hp hx ht (by omega) st) ?_
      rintro _ s3 ⟨rfl, ps', h3, he, st3⟩
      refine ⟨(), rfl, ?_⟩
      have hTurn : keyTurn S i p.T D st = .ok ⟨S.version, S.last, S.tabs.set i { p.T with keys := placed p.T.keys j st (x.put st) }⟩ := by
        unfold keyTurn
        rw [if_neg hadd, hj, if_neg (by omega)]
        simp only [Int.toNat_natCast, hx]
        rw [if_neg hu]
      obtain ⟨hG, hS⟩ := h.then (S' := ⟨S.version, S.last, S.tabs.set i { p.T with keys := placed p.T.keys j st (x.put st) }⟩) (Mod.refl _ _) h.cell h3 st3 (by dsimp only; rw [he, h.eq])
      rw [← hR, hTurn]
      exact ⟨rfl, t, ps', hG, hS⟩
    refine ⟨fun h4 => ?_, fun h4 => ⟨hneg, fun hn => ?_⟩⟩
    · have h4 : D.kind = 6 := by simpa using h4
      have hn : ¬ keyAt p.T D.name < 0 := fun e => hadd ⟨h4, e⟩
      obtain ⟨j, x, hj, hx⟩ := hpos hn
      have hjl := (List.getElem?_eq_some_iff.1 hx).1
      simp only [W.unSome_some]
      refine ld_has (j := 4) hA (cs := [.slice]) (y := (p.k, ())) rfl ?_
      rw [hj]
      refine ⟨by show (0 : Int) ≤ j ∧ (j : Int) < (p.k.2.1 : Nat); omega, ?_⟩
      obtain ⟨ad, had, hh⟩ := hP.k.el.at_enc hx
      rw [had]
      simp only [W.unSome_some, Int.toNat_natCast]
      refine ld_has (j := 4) hh (cs := [.int .i64]) (y := (x.state, ())) rfl ?_
      simp only [W.br_iff, decide_eq_true_eq, decide_eq_false_iff_not, add_mk, W.unSome_some]
      refine ⟨fun h3 => ?_, fun h3 => ⟨fun e => by omega, fun _ => ?_⟩⟩
      · have h3 : x.state = 3 := by simpa using h3
        refine hret ?_ (Mod.refl _ _)
        unfold keyTurn
        rw [if_neg hadd, hj, if_neg (by omega)]
        simp only [Int.toNat_natCast, hx]
        rw [if_pos ⟨h4, h3⟩]
      · have h3 : x.state ≠ 3 := by simpa using h3
        exact fin j x hj hx (fun e => h3 e.2)
    · have h4 : D.kind ≠ 6 := by simpa using h4
      obtain ⟨j, x, hj, hx⟩ := hpos hn
      simp only [W.unSome_some, add_mk, hj]
      exact fin j x hj hx (fun e => h4 e.1)
end
end Go.Proofs.Ythepfbcgpbkbdaa
end
