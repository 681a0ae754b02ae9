/-
  Schemas: what is right, plainly; the program's checker, its small functions.
  Conditions: none; it proves no statement by itself.
-/
import Derived.Test.YthepfbcgpbkbdaaM4
set_option linter.unusedVariables false
set_option linter.unusedSimpArgs false
set_option maxHeartbeats 1000000
set_option maxRecDepth 100000
namespace Go.Proofs.Ythepfbcgpbkbdaa
open Fw Go
attribute [-simp] Fw.W.ld_iff Fw.W.st_iff

/-! ## all, up to a place -/
def upTo (c : Nat → Bool) (k : Nat) : Bool := (List.range k).all c
theorem upTo_zero (c : Nat → Bool) : upTo c 0 = true := rfl
theorem upTo_succ (c : Nat → Bool) (k : Nat) : upTo c (k + 1) = (upTo c k && c k) := by
  unfold upTo; rw [List.range_succ, List.all_append]; simp
theorem upTo_no {c : Nat → Bool} {k n : Nat} (h : c k = false) (hk : k < n) : upTo c n = false := by
  have key : ∀ d, upTo c (k + 1 + d) = false := by
    intro d
    induction d with
    | zero => rw [Nat.add_zero, upTo_succ, h, Bool.and_false]
    | succ d ih => rw [← Nat.add_assoc, upTo_succ, ih, Bool.false_and]
  have := key (n - (k + 1))
  rwa [show k + 1 + (n - (k + 1)) = n by omega] at this
theorem upTo_iff {c : Nat → Bool} {n : Nat} : upTo c n = true ↔ ∀ i, i < n → c i = true := by
  unfold upTo; simp [List.all_eq_true]
def condI {α : Type} (p : Nat → α → Bool) (xs : List α) (i : Nat) : Bool := match xs[i]? with | some x => p i x | none => true
theorem condI_at {α : Type} {p : Nat → α → Bool} {xs : List α} {i : Nat} {x : α} (h : xs[i]? = some x) : condI p xs i = p i x := by unfold condI; rw [h]
def allI {α : Type} (p : Nat → α → Bool) (xs : List α) : Bool := upTo (condI p xs) xs.length

/-! ## what is right -/
def stateB (n : Int) : Bool := decide (1 ≤ n) && decide (n ≤ 3)
def nameC (xs : List Col) (i : Nat) (x : Col) : Bool := named x.name && decide (seek (fun y : Col => decide (y.name = x.name)) xs 0 = i)
def nameX (xs : List Idx) (i : Nat) (x : Idx) : Bool := named x.name && decide (seek (fun y : Idx => decide (y.name = x.name)) xs 0 = i)
def nameF (xs : List For) (i : Nat) (x : For) : Bool := named x.name && decide (seek (fun y : For => decide (y.name = x.name)) xs 0 = i)
def nameT (xs : List Tab) (i : Nat) (x : Tab) : Bool := named x.name && decide (seek (fun y : Tab => decide (y.name = x.name)) xs 0 = i)
def namesB {α : Type} (p : List α → Nat → α → Bool) (least most : Int) (xs : List α) : Bool := decide (least ≤ xs.length) && (decide ((xs.length : Int) ≤ most) && allI (p xs) xs)
def runIds (last : Int) : List Int → List Int → Bool
  | [], _ => true
  | n :: l, seen => (decide (1 ≤ n) && decide (n ≤ last)) && (!decide (n ∈ seen) && runIds last l (n :: seen))
def idsOf (T : Tab) : List Int := T.id :: (T.cols.map (·.id) ++ (T.idxs.map (·.id) ++ T.keys.map (·.id)))
def colB (_ : Nat) (c : Col) : Bool := stateB c.state && (typed c.kind && fits c.dflt c.kind)
def idxB (T : Tab) (_ : Nat) (x : Idx) : Bool := stateB x.state && decide (0 ≤ colOf T x.column)
def parB (S : Sch) (T : Tab) (x : For) : Bool :=
  match S.tabs[(tabOf S x.parent).toNat]?, T.cols[(colOf T x.column).toNat]? with
  | some P, some c => (match P.cols with | c0 :: _ => decide (c.kind = c0.kind) | [] => false)
  | _, _ => false
def keyB (S : Sch) (T : Tab) (_ : Nat) (x : For) : Bool := stateB x.state && (decide (0 ≤ colOf T x.column) && (decide (0 ≤ tabOf S x.parent) && parB S T x))
def first3 (T : Tab) : Bool := match T.cols with | c :: _ => decide (c.state = 3) | [] => false
def tabB (S : Sch) (T : Tab) : Bool := namesB nameC 1 8 T.cols && (namesB nameX 0 8 T.idxs && (namesB nameF 0 8 T.keys && (first3 T && (allI colB T.cols && (allI (idxB T) T.idxs && allI (keyB S T) T.keys)))))
def headB (S : Sch) : Bool := decide (0 ≤ S.version) && (decide (S.version ≤ 1125899906842624) && (decide (0 ≤ S.last) && decide (S.last ≤ 1125899906842624)))
def right (S : Sch) : Bool := headB S && (namesB nameT 0 6 S.tabs && (allI (fun _ T => tabB S T) S.tabs && runIds S.last (S.tabs.flatMap idsOf) []))
theorem runIds_app (last : Int) : ∀ (a b seen : List Int), runIds last (a ++ b) seen = (runIds last a seen && runIds last b (a.reverse ++ seen))
  | [], b, seen => by simp [runIds]
  | n :: a, b, seen => by
    simp only [List.cons_append, runIds, runIds_app last a b, List.reverse_cons, List.append_assoc, List.nil_append, List.cons_append]
    cases decide (1 ≤ n) && decide (n ≤ last) <;> cases !decide (n ∈ seen) <;> simp

/-! ## the checker in memory -/
def boolV (b : Bool) : Value := .bool b
/-- the checker's own, at c; its map at m; what it has seen, if all is well -/
structure Ck (s : PH) (c m : Nat) (last : Int) (bad : Bool) (seen : List Int) : Prop where
  cell : s c = some (.cells #[.int .i64 last, .map (some m), .bool bad] 114 (0, 0))
  map : ∃ f, isMap (intKey .i64) boolV s m f ∧ (bad = false → ∀ n, f.lookup n = if n ∈ seen then some true else none)
theorem Ck.ne {s : PH} {c m : Nat} {last : Int} {bad : Bool} {seen : List Int} (h : Ck s c m last bad seen) : c ≠ m := by
  rintro rfl
  obtain ⟨f, ⟨es, k, h1, _⟩, _⟩ := h.map
  rw [h.cell] at h1; cases h1
theorem Ck.mod {s s' : PH} {c m : Nat} {last : Int} {bad : Bool} {seen : List Int} {M : List Nat} (h : Ck s c m last bad seen) (hm : Fw.Mod M s s') (hc : c ∉ M) (hmm : m ∉ M) : Ck s' c m last bad seen := by
  obtain ⟨f, hf, hs⟩ := h.map
  exact ⟨hm.at h.cell hc, f, hf.mod hm hmm, hs⟩
/-- its verdict is laid anew -/
theorem Ck.lay {s : PH} {c m : Nat} {last : Int} {bad bad' : Bool} {seen : List Int} (h : Ck s c m last bad seen) (hb : bad' = false → bad = false) {o : Obj} (ho : o = .cells #[.int .i64 last, .map (some m), .bool bad'] 114 (0, 0) := by rfl) : Ck (s.upd c o) c m last bad' seen := by
  subst ho
  obtain ⟨f, hf, hs⟩ := h.map
  exact ⟨PH.upd_same _ _ _, f, hf.other h.ne.symm, fun e => hs (hb e)⟩
def CkPost (c m : Nat) (last : Int) (bad : Bool) (seen : List Int) (s : PH) (x : Value) (s' : PH) : Prop := x = .tuple #[] ∧ Ck s' c m last bad seen ∧ Fw.Mod [c, m] s s'
section
variable {s : PH} {c m : Nat} {last : Int} {bad : Bool} {seen : List Int}
theorem ck_put {n : Int} {bad' : Bool} {K : W.T} (h : Ck s c m last bad seen) (hb : bad' = false → bad = false) (hK : ∀ s', Ck s' c m last bad' (n :: seen) → Fw.Mod [c, m] s s' → K s') :
    W.unSome (some (Addr.mk c 0 none)) (fun p => W.st (p.add 2) [.bool bad'] (W.unSome (some (Addr.mk c 0 none)) fun p => W.ld [.map] (p.add 1) fun x => W.mset (TypeDesc.int .i64) x.1 (.int .i64 n) (.bool true) K)) s := by
  have hc := h.cell
  simp only [W.unSome_some, add_mk, Nat.zero_add]
  rw [W.st_at hc]
  refine ⟨by simp, by simp, by simp [Value.oneCell'], ?_⟩
  show W.unSome _ _ (s.upd c (.cells #[.int .i64 last, .map (some m), .bool bad'] 114 (0, 0)))
  have h1 : Ck (s.upd c (.cells #[.int .i64 last, .map (some m), .bool bad'] 114 (0, 0))) c m last bad' seen := h.lay hb
  have hc1 := h1.cell
  simp [W.ld_at hc1]
  obtain ⟨f, hf, hs⟩ := h1.map
  refine mset_of (ke := intKey .i64) hf (v := true) fun o ho => ?_
  refine hK _ ⟨upd_at hc1 h1.ne o, _, ho, fun e k => ?_⟩ ((Mod.upd (L := [c, m]) (by simp)).updLater (.inl (by simp)))
  rw [lookup_aset, hs e]
  by_cases hk : k = n
  · subst hk; simp
  · have : (k == n) = false := by simpa using hk
    simp [this, hk]
theorem c_ckId (h : Ck s c m last bad seen) (n : Int) : DCalls Try.prog 92 #[cp c, .int .i64 n] s (CkPost c m last (bad || !((decide (1 ≤ n) && decide (n ≤ last)) && !decide (n ∈ seen))) (n :: seen) s) := by
  refine ok_ckId c n _ s ?_
  unfold vc_ckId
  have hc := h.cell
  simp [W.br_iff, W.ld_at hc]
  have fin : ∀ b', (b' = false → bad = false) → b' = (bad || !((decide (1 ≤ n) && decide (n ≤ last)) && !decide (n ∈ seen))) → W.unSome (some (Addr.mk c 0 none)) (fun p => W.st (p.add 2) [.bool b'] (W.unSome (some (Addr.mk c 0 none)) fun p => W.ld [.map] (p.add 1) fun x => W.mset (TypeDesc.int .i64) x.1 (.int .i64 n) (.bool true)
      (W.ret (CkPost c m last (bad || !((decide (1 ≤ n) && decide (n ≤ last)) && !decide (n ∈ seen))) (n :: seen) s) (.tuple #[])))) s := by
    intro b' hb he
    refine ck_put h hb fun s' h' m' => ?_
    rw [he] at h'
    exact ⟨rfl, h', m'⟩
  have fin' := fun b' h1 h2 => by have := fin b' h1 h2; simp at this; exact this
  refine ⟨fun hb => fin' true (fun e => by cases e) (by rw [hb]; rfl), fun hb => ⟨fun h1 => fin' true (fun e => by cases e) (by rw [decide_eq_false (p := 1 ≤ n) (by omega)]; simp), fun h1 => ⟨fun h2 => fin' true (fun e => by cases e) (by rw [decide_eq_false (p := n ≤ last) (by omega)]; simp), fun h2 => ?_⟩⟩⟩
  obtain ⟨f, hf, hs⟩ := h.map
  refine look_of (ke := intKey .i64) hf (key := n) ?_
  rw [hs hb n]
  by_cases hn : n ∈ seen
  · rw [if_pos hn]
    refine ⟨(true, ()), rfl, ?_⟩
    simp only [W.unSome_some, add_mk, Nat.zero_add]
    exact fin' true (fun e => by cases e) (by simp [hn])
  · rw [if_neg hn]
    refine ⟨(false, ()), rfl, ?_⟩
    simp only [W.unSome_some, add_mk, Nat.zero_add]
    exact fin' false (fun _ => hb) (by simp [hn, hb]; omega)
theorem c_ckState (h : Ck s c m last bad seen) (n : Int) : DCalls Try.prog 99 #[cp c, .int .i64 n] s (CkPost c m last (bad || !stateB n) seen s) := by
  refine ok_ckState c n _ s ?_
  unfold vc_ckState
  have hc := h.cell
  simp [W.ld_at hc, W.br_iff, W.st_at hc]
  have fin : ∀ b', (b' = false → bad = false) → b' = (bad || !stateB n) → CkPost c m last (bad || !stateB n) seen s (.tuple #[]) (s.upd c (.cells #[.int .i64 last, .map (some m), .bool b'] 114 (0, 0))) := by
    intro b' hb he
    rw [← he]
    exact ⟨rfl, h.lay hb, Mod.upd (by simp)⟩
  unfold stateB at fin ⊢
  refine ⟨fun hb => fin true (fun e => by cases e) (by rw [hb]; rfl), fun hb => ⟨fun h1 => fin true (fun e => by cases e) (by rw [decide_eq_false (p := 1 ≤ n) (by omega)]; simp), fun h1 => fin _ (fun _ => hb) ?_⟩⟩
  rw [hb, decide_eq_true (p := 1 ≤ n) (by omega)]
  by_cases h3 : n ≤ 3
  · rw [decide_eq_true h3, decide_eq_false (by omega)]; rfl
  · rw [decide_eq_false h3, decide_eq_true (by omega)]; rfl
end
theorem c_namesC {s : PH} {c m : Nat} {last : Int} {bad : Bool} {seen : List Int} (h : Ck s c m last bad seen) {a : Option Addr} {an ac : Nat} {xs : List Col} (hx : elems (Rd.enc colE) s a an xs) (hn : xs.length ≤ 4294967296)
    (hd : ∀ s', Fw.Mod [c, m] s s' → elems (Rd.enc colE) s' a an xs) (least most : Int) : DCalls Try.prog 93 #[cp c, .slice a an ac, .int .i64 least, .int .i64 most, .func (.func 94) #[] #[]] s (CkPost c m last (bad || !namesB nameC least most xs) seen s) := by
  refine ok_namesC c a an ac least most _ s ?_
  unfold vc_namesC
  have hc := h.cell
  have hlen := hx.1
  have hll : xs.length = xs.length := by simp
  simp only [RP_join]
  refine W.join_gen (fun _ s' => Ck s' c m last (bad || !(decide (least ≤ xs.length) && decide ((xs.length : Int) ≤ most))) seen ∧ Fw.Mod [c, m] s s') ?_ ?_
  · rintro _ s1 ⟨h1, m1⟩
    obtain ⟨bad1, hb1⟩ : ∃ b, b = (bad || !(decide (least ≤ xs.length) && decide ((xs.length : Int) ≤ most))) := ⟨_, rfl⟩
    rw [← hb1] at h1
    have hgoal : (bad || !namesB nameC least most xs) = (bad1 || !allI (nameC xs) xs) := by
      rw [hb1]; unfold namesB
      cases bad <;> cases decide (least ≤ xs.length) <;> cases decide ((xs.length : Int) ≤ most) <;> simp
    rw [hgoal]
    simp only [RP_loop]
    refine ⟨fun z s' => ∃ k : Nat, z = (((a, an, ac), ()), ((an : Int), ()), ((k : Int), ()), ()) ∧ k ≤ an ∧ Ck s' c m last bad1 seen ∧ Fw.Mod [c, m] s s' ∧ (0 < k → bad1 = false) ∧ upTo (condI (nameC xs) xs) k = true, fun z _ => an - z.2.2.1.1.toNat, ⟨0, rfl, Nat.zero_le _, h1, m1, by omega, rfl⟩, ?_⟩
    rintro _ s2 ⟨k, rfl, hk, h2, m2, hkb, hup⟩
    have hc2 := h2.cell
    have hfin : ∀ b', b' = (bad1 || !allI (nameC xs) xs) → (b' = false → bad1 = false) → CkPost c m last (bad1 || !allI (nameC xs) xs) seen s (.tuple #[]) (s2.upd c (.cells #[.int .i64 last, .map (some m), .bool b'] 114 (0, 0))) := by
      intro b' he hb; rw [← he]; exact ⟨rfl, h2.lay hb, m2.updLater (.inl (by simp))⟩
    simp [W.br_iff, W.ld_at hc2, W.st_at hc2]
    refine ⟨fun hlt => ⟨hlt, ?_⟩, fun hge => ?_⟩
    · obtain ⟨x, hxk⟩ : ∃ x, xs[k]? = some x := ⟨_, List.getElem?_eq_getElem (by omega)⟩
      have hx2 := hd s2 m2
      obtain ⟨ad, rfl, hh⟩ := hx2.at_enc hxk
      have hpk : xs[k]? = some x := by simp [hxk]
      simp only [W.unSome_some]
      refine ld_has_z hh (y := (x.id, x.name, x.kind, x.state, x.dflt.kind, x.dflt.n, x.dflt.s, ())) rfl ?_
      simp [W.br_iff, W.ld_at hc2, W.st_at hc2]
      have hno : nameC xs k x = false → allI (nameC xs) xs = false := fun e => upTo_no (k := k) (by rw [condI_at hpk]; exact e) (by omega)
      refine ⟨fun hb => ?_, fun hb => ?_⟩
      · exact hfin true (by rw [hb]; rfl) (fun e => by cases e)
      · refine W.call_of (c_fColumn x s2) ?_
        rintro _ s2' ⟨rfl, rfl⟩
        refine ⟨((x.name, ()), ()), rfl, ?_⟩
        refine W.call_of (c_named x.name _) ?_
        rintro _ s2' ⟨rfl, rfl⟩
        refine ⟨((named x.name, ()), ()), rfl, ?_⟩
        simp [W.br_iff, W.ld_at hc2, W.st_at hc2]
        refine ⟨fun h3 => hfin true (by rw [hno (by unfold nameC; rw [h3]; rfl)]; simp) (fun e => by cases e), fun h3 => ?_⟩
        refine W.call_of (c_fColumn x _) ?_
        rintro _ s2' ⟨rfl, rfl⟩
        refine ⟨((x.name, ()), ()), rfl, ?_⟩
        refine W.call_of (c_findC hx2 hn x.name) ?_
        rintro _ s2' ⟨rfl, rfl⟩
        refine ⟨((seek (fun y : Col => decide (y.name = x.name)) xs 0, ()), ()), rfl, ?_⟩
        have hseek : seek (fun y : Col => decide (y.name = x.name)) xs 0 = seek (fun y : Col => decide (y.name = x.name)) xs 0 := by rfl
        simp [W.br_iff, W.ld_at hc2, W.st_at hc2, wrap_succ (k := k) (by omega)]
        refine ⟨fun h4 => ?_, fun h4 => ?_⟩
        · have e4 : (seek (fun y : Col => decide (y.name = x.name)) xs 0 != (k : Int)) = true := by simpa using h4
          rw [e4]
          exact hfin true (by rw [hno (by unfold nameC; rw [h3, hseek]; simpa using h4)]; simp) (fun e => by cases e)
        · have e4 : (seek (fun y : Col => decide (y.name = x.name)) xs 0 != (k : Int)) = false := by simpa using h4
          rw [e4]
          have hyes : nameC xs k x = true := by unfold nameC; rw [h3, hseek]; simpa using h4
          refine ⟨⟨k + 1, by simp, hlt, ?_, m2.updLater (.inl (by simp)), fun _ => hb, by rw [upTo_succ, hup, condI_at hpk, hyes]; rfl⟩, by omega⟩
          rw [hb]; exact h2.lay (fun _ => hb)
    · have hke : k = xs.length := by omega
      have hall : allI (nameC xs) xs = true := by unfold allI; rw [← hke]; exact hup
      rw [hall]
      refine ⟨rfl, ?_, m2⟩
      simpa using h2
  · intro J hJ
    simp [W.ld_at hc, W.br_iff, W.st_at hc]
    have fin : ∀ b', (b' = false → bad = false) → b' = (bad || !(decide (least ≤ xs.length) && decide ((xs.length : Int) ≤ most))) → J () (s.upd c (.cells #[.int .i64 last, .map (some m), .bool b'] 114 (0, 0))) := by
      intro b' hb he
      refine hJ _ _ ⟨?_, Mod.upd (by simp)⟩
      rw [← he]; exact h.lay hb
    refine ⟨fun hb => fin true (fun e => by cases e) (by rw [hb]; rfl), fun hb => ⟨fun h1 => fin true (fun e => by cases e) (by rw [decide_eq_false (p := least ≤ xs.length) (by omega)]; simp), fun h1 => fin _ (fun _ => hb) ?_⟩⟩
    rw [hb, decide_eq_true (p := least ≤ xs.length) (by omega)]
    by_cases h3 : (xs.length : Int) ≤ most
    · rw [decide_eq_true h3, decide_eq_false (by omega)]; rfl
    · rw [decide_eq_false h3, decide_eq_true (by omega)]; rfl
theorem c_namesX {s : PH} {c m : Nat} {last : Int} {bad : Bool} {seen : List Int} (h : Ck s c m last bad seen) {a : Option Addr} {an ac : Nat} {xs : List Idx} (hx : elems (Rd.enc idxE) s a an xs) (hn : xs.length ≤ 4294967296)
    (hd : ∀ s', Fw.Mod [c, m] s s' → elems (Rd.enc idxE) s' a an xs) (least most : Int) : DCalls Try.prog 95 #[cp c, .slice a an ac, .int .i64 least, .int .i64 most, .func (.func 96) #[] #[]] s (CkPost c m last (bad || !namesB nameX least most xs) seen s) := by
  refine ok_namesX c a an ac least most _ s ?_
  unfold vc_namesX
  have hc := h.cell
  have hlen := hx.1
  have hll : xs.length = xs.length := by simp
  simp only [RP_join]
  refine W.join_gen (fun _ s' => Ck s' c m last (bad || !(decide (least ≤ xs.length) && decide ((xs.length : Int) ≤ most))) seen ∧ Fw.Mod [c, m] s s') ?_ ?_
  · rintro _ s1 ⟨h1, m1⟩
    obtain ⟨bad1, hb1⟩ : ∃ b, b = (bad || !(decide (least ≤ xs.length) && decide ((xs.length : Int) ≤ most))) := ⟨_, rfl⟩
    rw [← hb1] at h1
    have hgoal : (bad || !namesB nameX least most xs) = (bad1 || !allI (nameX xs) xs) := by
      rw [hb1]; unfold namesB
      cases bad <;> cases decide (least ≤ xs.length) <;> cases decide ((xs.length : Int) ≤ most) <;> simp
    rw [hgoal]
    simp only [RP_loop]
    refine ⟨fun z s' => ∃ k : Nat, z = (((a, an, ac), ()), ((an : Int), ()), ((k : Int), ()), ()) ∧ k ≤ an ∧ Ck s' c m last bad1 seen ∧ Fw.Mod [c, m] s s' ∧ (0 < k → bad1 = false) ∧ upTo (condI (nameX xs) xs) k = true, fun z _ => an - z.2.2.1.1.toNat, ⟨0, rfl, Nat.zero_le _, h1, m1, by omega, rfl⟩, ?_⟩
    rintro _ s2 ⟨k, rfl, hk, h2, m2, hkb, hup⟩
    have hc2 := h2.cell
    have hfin : ∀ b', b' = (bad1 || !allI (nameX xs) xs) → (b' = false → bad1 = false) → CkPost c m last (bad1 || !allI (nameX xs) xs) seen s (.tuple #[]) (s2.upd c (.cells #[.int .i64 last, .map (some m), .bool b'] 114 (0, 0))) := by
      intro b' he hb; rw [← he]; exact ⟨rfl, h2.lay hb, m2.updLater (.inl (by simp))⟩
    simp [W.br_iff, W.ld_at hc2, W.st_at hc2]
    refine ⟨fun hlt => ⟨hlt, ?_⟩, fun hge => ?_⟩
    · obtain ⟨x, hxk⟩ : ∃ x, xs[k]? = some x := ⟨_, List.getElem?_eq_getElem (by omega)⟩
      have hx2 := hd s2 m2
      obtain ⟨ad, rfl, hh⟩ := hx2.at_enc hxk
      have hpk : xs[k]? = some x := by simp [hxk]
      simp only [W.unSome_some]
      refine ld_has_z hh (y := (x.id, x.name, x.column, x.unique, x.state, ())) rfl ?_
      simp [W.br_iff, W.ld_at hc2, W.st_at hc2]
      have hno : nameX xs k x = false → allI (nameX xs) xs = false := fun e => upTo_no (k := k) (by rw [condI_at hpk]; exact e) (by omega)
      refine ⟨fun hb => ?_, fun hb => ?_⟩
      · exact hfin true (by rw [hb]; rfl) (fun e => by cases e)
      · refine W.call_of (c_fIndex x s2) ?_
        rintro _ s2' ⟨rfl, rfl⟩
        refine ⟨((x.name, ()), ()), rfl, ?_⟩
        refine W.call_of (c_named x.name _) ?_
        rintro _ s2' ⟨rfl, rfl⟩
        refine ⟨((named x.name, ()), ()), rfl, ?_⟩
        simp [W.br_iff, W.ld_at hc2, W.st_at hc2]
        refine ⟨fun h3 => hfin true (by rw [hno (by unfold nameX; rw [h3]; rfl)]; simp) (fun e => by cases e), fun h3 => ?_⟩
        refine W.call_of (c_fIndex x _) ?_
        rintro _ s2' ⟨rfl, rfl⟩
        refine ⟨((x.name, ()), ()), rfl, ?_⟩
        refine W.call_of (c_findX hx2 hn x.name) ?_
        rintro _ s2' ⟨rfl, rfl⟩
        refine ⟨((seek (fun y : Idx => decide (y.name = x.name)) xs 0, ()), ()), rfl, ?_⟩
        have hseek : seek (fun y : Idx => decide (y.name = x.name)) xs 0 = seek (fun y : Idx => decide (y.name = x.name)) xs 0 := by rfl
        simp [W.br_iff, W.ld_at hc2, W.st_at hc2, wrap_succ (k := k) (by omega)]
        refine ⟨fun h4 => ?_, fun h4 => ?_⟩
        · have e4 : (seek (fun y : Idx => decide (y.name = x.name)) xs 0 != (k : Int)) = true := by simpa using h4
          rw [e4]
          exact hfin true (by rw [hno (by unfold nameX; rw [h3, hseek]; simpa using h4)]; simp) (fun e => by cases e)
        · have e4 : (seek (fun y : Idx => decide (y.name = x.name)) xs 0 != (k : Int)) = false := by simpa using h4
          rw [e4]
          have hyes : nameX xs k x = true := by unfold nameX; rw [h3, hseek]; simpa using h4
          refine ⟨⟨k + 1, by simp, hlt, ?_, m2.updLater (.inl (by simp)), fun _ => hb, by rw [upTo_succ, hup, condI_at hpk, hyes]; rfl⟩, by omega⟩
          rw [hb]; exact h2.lay (fun _ => hb)
    · have hke : k = xs.length := by omega
      have hall : allI (nameX xs) xs = true := by unfold allI; rw [← hke]; exact hup
      rw [hall]
      refine ⟨rfl, ?_, m2⟩
      simpa using h2
  · intro J hJ
    simp [W.ld_at hc, W.br_iff, W.st_at hc]
    have fin : ∀ b', (b' = false → bad = false) → b' = (bad || !(decide (least ≤ xs.length) && decide ((xs.length : Int) ≤ most))) → J () (s.upd c (.cells #[.int .i64 last, .map (some m), .bool b'] 114 (0, 0))) := by
      intro b' hb he
      refine hJ _ _ ⟨?_, Mod.upd (by simp)⟩
      rw [← he]; exact h.lay hb
    refine ⟨fun hb => fin true (fun e => by cases e) (by rw [hb]; rfl), fun hb => ⟨fun h1 => fin true (fun e => by cases e) (by rw [decide_eq_false (p := least ≤ xs.length) (by omega)]; simp), fun h1 => fin _ (fun _ => hb) ?_⟩⟩
    rw [hb, decide_eq_true (p := least ≤ xs.length) (by omega)]
    by_cases h3 : (xs.length : Int) ≤ most
    · rw [decide_eq_true h3, decide_eq_false (by omega)]; rfl
    · rw [decide_eq_false h3, decide_eq_true (by omega)]; rfl
theorem c_namesF {s : PH} {c m : Nat} {last : Int} {bad : Bool} {seen : List Int} (h : Ck s c m last bad seen) {a : Option Addr} {an ac : Nat} {xs : List For} (hx : elems (Rd.enc forE) s a an xs) (hn : xs.length ≤ 4294967296)
    (hd : ∀ s', Fw.Mod [c, m] s s' → elems (Rd.enc forE) s' a an xs) (least most : Int) : DCalls Try.prog 97 #[cp c, .slice a an ac, .int .i64 least, .int .i64 most, .func (.func 98) #[] #[]] s (CkPost c m last (bad || !namesB nameF least most xs) seen s) := by
  refine ok_namesF c a an ac least most _ s ?_
  unfold vc_namesF
  have hc := h.cell
  have hlen := hx.1
  have hll : xs.length = xs.length := by simp
  simp only [RP_join]
  refine W.join_gen (fun _ s' => Ck s' c m last (bad || !(decide (least ≤ xs.length) && decide ((xs.length : Int) ≤ most))) seen ∧ Fw.Mod [c, m] s s') ?_ ?_
  · rintro _ s1 ⟨h1, m1⟩
    obtain ⟨bad1, hb1⟩ : ∃ b, b = (bad || !(decide (least ≤ xs.length) && decide ((xs.length : Int) ≤ most))) := ⟨_, rfl⟩
    rw [← hb1] at h1
    have hgoal : (bad || !namesB nameF least most xs) = (bad1 || !allI (nameF xs) xs) := by
      rw [hb1]; unfold namesB
      cases bad <;> cases decide (least ≤ xs.length) <;> cases decide ((xs.length : Int) ≤ most) <;> simp
    rw [hgoal]
    simp only [RP_loop]
    refine ⟨fun z s' => ∃ k : Nat, z = (((a, an, ac), ()), ((an : Int), ()), ((k : Int), ()), ()) ∧ k ≤ an ∧ Ck s' c m last bad1 seen ∧ Fw.Mod [c, m] s s' ∧ (0 < k → bad1 = false) ∧ upTo (condI (nameF xs) xs) k = true, fun z _ => an - z.2.2.1.1.toNat, ⟨0, rfl, Nat.zero_le _, h1, m1, by omega, rfl⟩, ?_⟩
    rintro _ s2 ⟨k, rfl, hk, h2, m2, hkb, hup⟩
    have hc2 := h2.cell
    have hfin : ∀ b', b' = (bad1 || !allI (nameF xs) xs) → (b' = false → bad1 = false) → CkPost c m last (bad1 || !allI (nameF xs) xs) seen s (.tuple #[]) (s2.upd c (.cells #[.int .i64 last, .map (some m), .bool b'] 114 (0, 0))) := by
      intro b' he hb; rw [← he]; exact ⟨rfl, h2.lay hb, m2.updLater (.inl (by simp))⟩
    simp [W.br_iff, W.ld_at hc2, W.st_at hc2]
    refine ⟨fun hlt => ⟨hlt, ?_⟩, fun hge => ?_⟩
    · obtain ⟨x, hxk⟩ : ∃ x, xs[k]? = some x := ⟨_, List.getElem?_eq_getElem (by omega)⟩
      have hx2 := hd s2 m2
      obtain ⟨ad, rfl, hh⟩ := hx2.at_enc hxk
      have hpk : xs[k]? = some x := by simp [hxk]
      simp only [W.unSome_some]
      refine ld_has_z hh (y := (x.id, x.name, x.column, x.parent, x.state, ())) rfl ?_
      simp [W.br_iff, W.ld_at hc2, W.st_at hc2]
      have hno : nameF xs k x = false → allI (nameF xs) xs = false := fun e => upTo_no (k := k) (by rw [condI_at hpk]; exact e) (by omega)
      refine ⟨fun hb => ?_, fun hb => ?_⟩
      · exact hfin true (by rw [hb]; rfl) (fun e => by cases e)
      · refine W.call_of (c_fForeign x s2) ?_
        rintro _ s2' ⟨rfl, rfl⟩
        refine ⟨((x.name, ()), ()), rfl, ?_⟩
        refine W.call_of (c_named x.name _) ?_
        rintro _ s2' ⟨rfl, rfl⟩
        refine ⟨((named x.name, ()), ()), rfl, ?_⟩
        simp [W.br_iff, W.ld_at hc2, W.st_at hc2]
        refine ⟨fun h3 => hfin true (by rw [hno (by unfold nameF; rw [h3]; rfl)]; simp) (fun e => by cases e), fun h3 => ?_⟩
        refine W.call_of (c_fForeign x _) ?_
        rintro _ s2' ⟨rfl, rfl⟩
        refine ⟨((x.name, ()), ()), rfl, ?_⟩
        refine W.call_of (c_findF hx2 hn x.name) ?_
        rintro _ s2' ⟨rfl, rfl⟩
        refine ⟨((seek (fun y : For => decide (y.name = x.name)) xs 0, ()), ()), rfl, ?_⟩
        have hseek : seek (fun y : For => decide (y.name = x.name)) xs 0 = seek (fun y : For => decide (y.name = x.name)) xs 0 := by rfl
        simp [W.br_iff, W.ld_at hc2, W.st_at hc2, wrap_succ (k := k) (by omega)]
        refine ⟨fun h4 => ?_, fun h4 => ?_⟩
        · have e4 : (seek (fun y : For => decide (y.name = x.name)) xs 0 != (k : Int)) = true := by simpa using h4
          rw [e4]
          exact hfin true (by rw [hno (by unfold nameF; rw [h3, hseek]; simpa using h4)]; simp) (fun e => by cases e)
        · have e4 : (seek (fun y : For => decide (y.name = x.name)) xs 0 != (k : Int)) = false := by simpa using h4
          rw [e4]
          have hyes : nameF xs k x = true := by unfold nameF; rw [h3, hseek]; simpa using h4
          refine ⟨⟨k + 1, by simp, hlt, ?_, m2.updLater (.inl (by simp)), fun _ => hb, by rw [upTo_succ, hup, condI_at hpk, hyes]; rfl⟩, by omega⟩
          rw [hb]; exact h2.lay (fun _ => hb)
    · have hke : k = xs.length := by omega
      have hall : allI (nameF xs) xs = true := by unfold allI; rw [← hke]; exact hup
      rw [hall]
      refine ⟨rfl, ?_, m2⟩
      simpa using h2
  · intro J hJ
    simp [W.ld_at hc, W.br_iff, W.st_at hc]
    have fin : ∀ b', (b' = false → bad = false) → b' = (bad || !(decide (least ≤ xs.length) && decide ((xs.length : Int) ≤ most))) → J () (s.upd c (.cells #[.int .i64 last, .map (some m), .bool b'] 114 (0, 0))) := by
      intro b' hb he
      refine hJ _ _ ⟨?_, Mod.upd (by simp)⟩
      rw [← he]; exact h.lay hb
    refine ⟨fun hb => fin true (fun e => by cases e) (by rw [hb]; rfl), fun hb => ⟨fun h1 => fin true (fun e => by cases e) (by rw [decide_eq_false (p := least ≤ xs.length) (by omega)]; simp), fun h1 => fin _ (fun _ => hb) ?_⟩⟩
    rw [hb, decide_eq_true (p := least ≤ xs.length) (by omega)]
    by_cases h3 : (xs.length : Int) ≤ most
    · rw [decide_eq_true h3, decide_eq_false (by omega)]; rfl
    · rw [decide_eq_false h3, decide_eq_true (by omega)]; rfl
theorem c_namesT {s : PH} {c m : Nat} {last : Int} {bad : Bool} {seen : List Int} (h : Ck s c m last bad seen) {a : Option Addr} {an ac : Nat} {xs : List TabP} (hx : elems (Rd.enc tabE) s a an xs) (hn : xs.length ≤ 4294967296)
    (hd : ∀ s', Fw.Mod [c, m] s s' → elems (Rd.enc tabE) s' a an xs) (least most : Int) : DCalls Try.prog 55 #[cp c, .slice a an ac, .int .i64 least, .int .i64 most, .func (.func 46) #[] #[]] s (CkPost c m last (bad || !namesB nameT least most (xs.map (·.T))) seen s) := by
  refine ok_namesT c a an ac least most _ s ?_
  unfold vc_namesT
  have hc := h.cell
  have hlen := hx.1
  have hll : (xs.map (·.T)).length = xs.length := by simp
  simp only [RP_join]
  refine W.join_gen (fun _ s' => Ck s' c m last (bad || !(decide (least ≤ (xs.map (·.T)).length) && decide (((xs.map (·.T)).length : Int) ≤ most))) seen ∧ Fw.Mod [c, m] s s') ?_ ?_
  · rintro _ s1 ⟨h1, m1⟩
    obtain ⟨bad1, hb1⟩ : ∃ b, b = (bad || !(decide (least ≤ (xs.map (·.T)).length) && decide (((xs.map (·.T)).length : Int) ≤ most))) := ⟨_, rfl⟩
    rw [← hb1] at h1
    have hgoal : (bad || !namesB nameT least most (xs.map (·.T))) = (bad1 || !allI (nameT (xs.map (·.T))) (xs.map (·.T))) := by
      rw [hb1]; unfold namesB
      cases bad <;> cases decide (least ≤ (xs.map (·.T)).length) <;> cases decide (((xs.map (·.T)).length : Int) ≤ most) <;> simp
    rw [hgoal]
    simp only [RP_loop]
    refine ⟨fun z s' => ∃ k : Nat, z = (((a, an, ac), ()), ((an : Int), ()), ((k : Int), ()), ()) ∧ k ≤ an ∧ Ck s' c m last bad1 seen ∧ Fw.Mod [c, m] s s' ∧ (0 < k → bad1 = false) ∧ upTo (condI (nameT (xs.map (·.T))) (xs.map (·.T))) k = true, fun z _ => an - z.2.2.1.1.toNat, ⟨0, rfl, Nat.zero_le _, h1, m1, by omega, rfl⟩, ?_⟩
    rintro _ s2 ⟨k, rfl, hk, h2, m2, hkb, hup⟩
    have hc2 := h2.cell
    have hfin : ∀ b', b' = (bad1 || !allI (nameT (xs.map (·.T))) (xs.map (·.T))) → (b' = false → bad1 = false) → CkPost c m last (bad1 || !allI (nameT (xs.map (·.T))) (xs.map (·.T))) seen s (.tuple #[]) (s2.upd c (.cells #[.int .i64 last, .map (some m), .bool b'] 114 (0, 0))) := by
      intro b' he hb; rw [← he]; exact ⟨rfl, h2.lay hb, m2.updLater (.inl (by simp))⟩
    simp [W.br_iff, W.ld_at hc2, W.st_at hc2]
    refine ⟨fun hlt => ⟨hlt, ?_⟩, fun hge => ?_⟩
    · obtain ⟨x, hxk⟩ : ∃ x, xs[k]? = some x := ⟨_, List.getElem?_eq_getElem (by omega)⟩
      have hx2 := hd s2 m2
      obtain ⟨ad, rfl, hh⟩ := hx2.at_enc hxk
      have hpk : (xs.map (·.T))[k]? = some x.T := by simp [hxk]
      simp only [W.unSome_some]
      refine ld_has_z hh (y := (x.T.id, x.T.name, x.c, x.x, x.k, ())) rfl ?_
      simp [W.br_iff, W.ld_at hc2, W.st_at hc2]
      have hno : nameT (xs.map (·.T)) k x.T = false → allI (nameT (xs.map (·.T))) (xs.map (·.T)) = false := fun e => upTo_no (k := k) (by rw [condI_at hpk]; exact e) (by omega)
      refine ⟨fun hb => ?_, fun hb => ?_⟩
      · exact hfin true (by rw [hb]; rfl) (fun e => by cases e)
      · refine W.call_of (c_fTable x s2) ?_
        rintro _ s2' ⟨rfl, rfl⟩
        refine ⟨((x.T.name, ()), ()), rfl, ?_⟩
        refine W.call_of (c_named x.T.name _) ?_
        rintro _ s2' ⟨rfl, rfl⟩
        refine ⟨((named x.T.name, ()), ()), rfl, ?_⟩
        simp [W.br_iff, W.ld_at hc2, W.st_at hc2]
        refine ⟨fun h3 => hfin true (by rw [hno (by unfold nameT; rw [h3]; rfl)]; simp) (fun e => by cases e), fun h3 => ?_⟩
        refine W.call_of (c_fTable x _) ?_
        rintro _ s2' ⟨rfl, rfl⟩
        refine ⟨((x.T.name, ()), ()), rfl, ?_⟩
        refine W.call_of (c_findT hx2 hn x.T.name) ?_
        rintro _ s2' ⟨rfl, rfl⟩
        refine ⟨((seek (fun y : TabP => decide (y.T.name = x.T.name)) xs 0, ()), ()), rfl, ?_⟩
        have hseek : seek (fun y : Tab => decide (y.name = x.T.name)) (xs.map (·.T)) 0 = seek (fun y : TabP => decide (y.T.name = x.T.name)) xs 0 := by rw [seek_map]
        simp [W.br_iff, W.ld_at hc2, W.st_at hc2, wrap_succ (k := k) (by omega)]
        refine ⟨fun h4 => ?_, fun h4 => ?_⟩
        · have e4 : (seek (fun y : TabP => decide (y.T.name = x.T.name)) xs 0 != (k : Int)) = true := by simpa using h4
          rw [e4]
          exact hfin true (by rw [hno (by unfold nameT; rw [h3, hseek]; simpa using h4)]; simp) (fun e => by cases e)
        · have e4 : (seek (fun y : TabP => decide (y.T.name = x.T.name)) xs 0 != (k : Int)) = false := by simpa using h4
          rw [e4]
          have hyes : nameT (xs.map (·.T)) k x.T = true := by unfold nameT; rw [h3, hseek]; simpa using h4
          refine ⟨⟨k + 1, by simp, hlt, ?_, m2.updLater (.inl (by simp)), fun _ => hb, by rw [upTo_succ, hup, condI_at hpk, hyes]; rfl⟩, by omega⟩
          rw [hb]; exact h2.lay (fun _ => hb)
    · have hke : k = (xs.map (·.T)).length := by omega
      have hall : allI (nameT (xs.map (·.T))) (xs.map (·.T)) = true := by unfold allI; rw [← hke]; exact hup
      rw [hall]
      refine ⟨rfl, ?_, m2⟩
      simpa using h2
  · intro J hJ
    simp [W.ld_at hc, W.br_iff, W.st_at hc]
    have fin : ∀ b', (b' = false → bad = false) → b' = (bad || !(decide (least ≤ (xs.map (·.T)).length) && decide (((xs.map (·.T)).length : Int) ≤ most))) → J () (s.upd c (.cells #[.int .i64 last, .map (some m), .bool b'] 114 (0, 0))) := by
      intro b' hb he
      refine hJ _ _ ⟨?_, Mod.upd (by simp)⟩
      rw [← he]; exact h.lay hb
    refine ⟨fun hb => fin true (fun e => by cases e) (by rw [hb]; rfl), fun hb => ⟨fun h1 => fin true (fun e => by cases e) (by rw [decide_eq_false (p := least ≤ (xs.map (·.T)).length) (by omega)]; simp), fun h1 => fin _ (fun _ => hb) ?_⟩⟩
    rw [hb, decide_eq_true (p := least ≤ (xs.map (·.T)).length) (by omega)]
    by_cases h3 : ((xs.map (·.T)).length : Int) ≤ most
    · rw [decide_eq_true h3, decide_eq_false (by omega)]; rfl
    · rw [decide_eq_false h3, decide_eq_true (by omega)]; rfl
end Go.Proofs.Ythepfbcgpbkbdaa
