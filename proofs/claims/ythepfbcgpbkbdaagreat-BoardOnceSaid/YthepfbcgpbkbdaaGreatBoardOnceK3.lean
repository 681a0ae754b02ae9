/-
  Part 3 for the law: texts of this session's own, those parts that the claim needs, one behind the other.
  Conditions: none; it proves no statement by itself.
-/
import Derived.Test.YthepfbcgpbkbdaaGreatBoardOnceK2
set_option linter.unusedVariables false
set_option linter.unusedSectionVars false
set_option linter.unusedSimpArgs false
section
set_option linter.unusedVariables false
set_option linter.unusedSimpArgs false
set_option maxHeartbeats 1000000
set_option maxRecDepth 100000
namespace Go.Proofs.YthepfbcgpbkbdaaGreat
open Fw Go
attribute [-simp] Fw.W.ld_iff Fw.W.st_iff
def upTo (c : Nat → Bool) (k : Nat) : Bool := (List.range k).all c
theorem upTo_zero (c : Nat → Bool) : upTo c 0 = true := rfl
theorem upTo_succ (c : Nat → Bool) (k : Nat) : upTo c (k + 1) = (upTo c k && c k) := by
  unfold upTo; rw [List.range_succ, List.all_append]; simp
theorem upTo_no {c : Nat → Bool} {k n : Nat} (h : c k = false) (hk : k < n) : upTo c n = false := by
  have key : ∀ d, upTo c (k + 1 + d) = false := by
    intro d
    induction d with
    | zero => rw [Nat.add_zero, upTo_succ, h, Bool.and_false]
    | succ d ih => rw [← Nat.add_assoc, upTo_succ, ih, Bool.false_and]
  have := key (n - (k + 1))
  rwa [show k + 1 + (n - (k + 1)) = n by omega] at this
theorem upTo_iff {c : Nat → Bool} {n : Nat} : upTo c n = true ↔ ∀ i, i < n → c i = true := by
  unfold upTo; simp [List.all_eq_true]
def condI {α : Type} (p : Nat → α → Bool) (xs : List α) (i : Nat) : Bool := match xs[i]? with | some x => p i x | none => true
theorem condI_at {α : Type} {p : Nat → α → Bool} {xs : List α} {i : Nat} {x : α} (h : xs[i]? = some x) : condI p xs i = p i x := by unfold condI; rw [h]
def allI {α : Type} (p : Nat → α → Bool) (xs : List α) : Bool := upTo (condI p xs) xs.length
def stateB (n : Int) : Bool := decide (1 ≤ n) && decide (n ≤ 3)
def nameC (xs : List Col) (i : Nat) (x : Col) : Bool := named x.name && decide (seek (fun y : Col => decide (y.name = x.name)) xs 0 = i)
def nameX (xs : List Idx) (i : Nat) (x : Idx) : Bool := named x.name && decide (seek (fun y : Idx => decide (y.name = x.name)) xs 0 = i)
def nameF (xs : List For) (i : Nat) (x : For) : Bool := named x.name && decide (seek (fun y : For => decide (y.name = x.name)) xs 0 = i)
def nameT (xs : List Tab) (i : Nat) (x : Tab) : Bool := named x.name && decide (seek (fun y : Tab => decide (y.name = x.name)) xs 0 = i)
def namesB {α : Type} (p : List α → Nat → α → Bool) (least most : Int) (xs : List α) : Bool := decide (least ≤ xs.length) && (decide ((xs.length : Int) ≤ most) && allI (p xs) xs)
def runIds (last : Int) : List Int → List Int → Bool
  | [], _ => true
  | n :: l, seen => (decide (1 ≤ n) && decide (n ≤ last)) && (!decide (n ∈ seen) && runIds last l (n :: seen))
def idsOf (T : Tab) : List Int := T.id :: (T.cols.map (·.id) ++ (T.idxs.map (·.id) ++ T.keys.map (·.id)))
def colB (_ : Nat) (c : Col) : Bool := stateB c.state && (typed c.kind && fits c.dflt c.kind)
def idxB (T : Tab) (_ : Nat) (x : Idx) : Bool := stateB x.state && decide (0 ≤ colOf T x.column)
def parB (S : Sch) (T : Tab) (x : For) : Bool :=
  match S.tabs[(tabOf S x.parent).toNat]?, T.cols[(colOf T x.column).toNat]? with
  | some P, some c => (match P.cols with | c0 :: _ => decide (c.kind = c0.kind) | [] => false)
  | _, _ => false
def keyB (S : Sch) (T : Tab) (_ : Nat) (x : For) : Bool := stateB x.state && (decide (0 ≤ colOf T x.column) && (decide (0 ≤ tabOf S x.parent) && parB S T x))
def first3 (T : Tab) : Bool := match T.cols with | c :: _ => decide (c.state = 3) | [] => false
def tabB (S : Sch) (T : Tab) : Bool := namesB nameC 1 8 T.cols && (namesB nameX 0 8 T.idxs && (namesB nameF 0 8 T.keys && (first3 T && (allI colB T.cols && (allI (idxB T) T.idxs && allI (keyB S T) T.keys)))))
def headB (S : Sch) : Bool := decide (0 ≤ S.version) && (decide (S.version ≤ 1125899906842624) && (decide (0 ≤ S.last) && decide (S.last ≤ 1125899906842624)))
def right (S : Sch) : Bool := headB S && (namesB nameT 0 6 S.tabs && (allI (fun _ T => tabB S T) S.tabs && runIds S.last (S.tabs.flatMap idsOf) []))
theorem runIds_app (last : Int) : ∀ (a b seen : List Int), runIds last (a ++ b) seen = (runIds last a seen && runIds last b (a.reverse ++ seen))
  | [], b, seen => by simp [runIds]
  | n :: a, b, seen => by
    simp only [List.cons_append, runIds, runIds_app last a b, List.reverse_cons, List.append_assoc, List.nil_append, List.cons_append]
    cases decide (1 ≤ n) && decide (n ≤ last) <;> cases !decide (n ∈ seen) <;> simp
def boolV (b : Bool) : Value := .bool b
/-- the checker's own, at c; its map at m; what it has seen, if all is well -/
structure Ck (s : PH) (c m : Nat) (last : Int) (bad : Bool) (seen : List Int) : Prop where
  cell : s c = some (.cells #[.int .i64 last, .map (some m), .bool bad] 201 (0, 0))
  map : ∃ f, isMap (intKey .i64) boolV s m f ∧ (bad = false → ∀ n, f.lookup n = if n ∈ seen then some true else none)
theorem Ck.ne {s : PH} {c m : Nat} {last : Int} {bad : Bool} {seen : List Int} (h : Ck s c m last bad seen) : c ≠ m := by
  rintro rfl
  obtain ⟨f, ⟨es, k, h1, _⟩, _⟩ := h.map
  rw [h.cell] at h1; cases h1
theorem Ck.mod {s s' : PH} {c m : Nat} {last : Int} {bad : Bool} {seen : List Int} {M : List Nat} (h : Ck s c m last bad seen) (hm : Fw.Mod M s s') (hc : c ∉ M) (hmm : m ∉ M) : Ck s' c m last bad seen := by
  obtain ⟨f, hf, hs⟩ := h.map
  exact ⟨hm.at h.cell hc, f, hf.mod hm hmm, hs⟩
/-- its verdict is laid anew -/
theorem Ck.lay {s : PH} {c m : Nat} {last : Int} {bad bad' : Bool} {seen : List Int} (h : Ck s c m last bad seen) (hb : bad' = false → bad = false) {o : Obj} (ho : o = .cells #[.int .i64 last, .map (some m), .bool bad'] 201 (0, 0) := by rfl) : Ck (s.upd c o) c m last bad' seen := by
  subst ho
  obtain ⟨f, hf, hs⟩ := h.map
  exact ⟨PH.upd_same _ _ _, f, hf.other h.ne.symm, fun e => hs (hb e)⟩
def CkPost (c m : Nat) (last : Int) (bad : Bool) (seen : List Int) (s : PH) (x : Value) (s' : PH) : Prop := x = .tuple #[] ∧ Ck s' c m last bad seen ∧ Fw.Mod [c, m] s s'
section
variable {s : PH} {c m : Nat} {last : Int} {bad : Bool} {seen : List Int}
theorem ck_put {n : Int} {bad' : Bool} {K : W.T} (h : Ck s c m last bad seen) (hb : bad' = false → bad = false) (hK : ∀ s', Ck s' c m last bad' (n :: seen) → Fw.Mod [c, m] s s' → K s') :
    W.unSome (some (Addr.mk c 0 none)) (fun p => W.st (p.add 2) [.bool bad'] (W.unSome (some (Addr.mk c 0 none)) fun p => W.ld [.map] (p.add 1) fun x => W.mset (TypeDesc.int .i64) x.1 (.int .i64 n) (.bool true) K)) s := by
  have hc := h.cell
  simp only [W.unSome_some, add_mk, Nat.zero_add]
  rw [W.st_at hc]
  refine ⟨by simp, by simp, by simp [Value.oneCell'], ?_⟩
  show W.unSome _ _ (s.upd c (.cells #[.int .i64 last, .map (some m), .bool bad'] 201 (0, 0)))
  have h1 : Ck (s.upd c (.cells #[.int .i64 last, .map (some m), .bool bad'] 201 (0, 0))) c m last bad' seen := h.lay hb
  have hc1 := h1.cell
  simp [W.ld_at hc1]
  obtain ⟨f, hf, hs⟩ := h1.map
  refine mset_of (ke := intKey .i64) hf (v := true) fun o ho => ?_
  refine hK _ ⟨upd_at hc1 h1.ne o, _, ho, fun e k => ?_⟩ ((Mod.upd (L := [c, m]) (by simp)).updLater (.inl (by simp)))
  rw [lookup_aset, hs e]
  by_cases hk : k = n
  · subst hk; simp
  · have : (k == n) = false := by simpa using hk
    simp [this, hk]
theorem c_ckId (h : Ck s c m last bad seen) (n : Int) : DCalls Tryz.prog 143 #[cp c, .int .i64 n] s (CkPost c m last (bad || !((decide (1 ≤ n) && decide (n ≤ last)) && !decide (n ∈ seen))) (n :: seen) s) := by
  refine ok_ckId c n _ s ?_
  unfold vc_ckId
  have hc := h.cell
  simp [W.br_iff, W.ld_at hc]
  have fin : ∀ b', (b' = false → bad = false) → b' = (bad || !((decide (1 ≤ n) && decide (n ≤ last)) && !decide (n ∈ seen))) → W.unSome (some (Addr.mk c 0 none)) (fun p => W.st (p.add 2) [.bool b'] (W.unSome (some (Addr.mk c 0 none)) fun p => W.ld [.map] (p.add 1) fun x => W.mset (TypeDesc.int .i64) x.1 (.int .i64 n) (.bool true)
      (W.ret (CkPost c m last (bad || !((decide (1 ≤ n) && decide (n ≤ last)) && !decide (n ∈ seen))) (n :: seen) s) (.tuple #[])))) s := by
    intro b' hb he
    refine ck_put h hb fun s' h' m' => ?_
    rw [he] at h'
    exact ⟨rfl, h', m'⟩
  have fin' := fun b' h1 h2 => by have := fin b' h1 h2; simp at this; exact this
  refine ⟨fun hb => fin' true (fun e => by cases e) (by rw [hb]; (first | done | rfl)), fun hb => ⟨fun h1 => fin' true (fun e => by cases e) (by rw [decide_eq_false (p := 1 ≤ n) (by omega)]; simp), fun h1 => ⟨fun h2 => fin' true (fun e => by cases e) (by rw [decide_eq_false (p := n ≤ last) (by omega)]; simp), fun h2 => ?_⟩⟩⟩
  obtain ⟨f, hf, hs⟩ := h.map
  refine look_of (ke := intKey .i64) hf (key := n) ?_
  rw [hs hb n]
  by_cases hn : n ∈ seen
  · rw [if_pos hn]
    refine ⟨(true, ()), rfl, ?_⟩
    simp only [W.unSome_some, add_mk, Nat.zero_add]
    exact fin' true (fun e => by cases e) (by simp [hn])
  · rw [if_neg hn]
    refine ⟨(false, ()), rfl, ?_⟩
    simp only [W.unSome_some, add_mk, Nat.zero_add]
    exact fin' false (fun _ => hb) (by simp [hn, hb]; omega)
theorem c_ckState (h : Ck s c m last bad seen) (n : Int) : DCalls Tryz.prog 150 #[cp c, .int .i64 n] s (CkPost c m last (bad || !stateB n) seen s) := by
  refine ok_ckState c n _ s ?_
  unfold vc_ckState
  have hc := h.cell
  simp [W.ld_at hc, W.br_iff, W.st_at hc]
  have fin : ∀ b', (b' = false → bad = false) → b' = (bad || !stateB n) → CkPost c m last (bad || !stateB n) seen s (.tuple #[]) (s.upd c (.cells #[.int .i64 last, .map (some m), .bool b'] 201 (0, 0))) := by
    intro b' hb he
    rw [← he]
    exact ⟨rfl, h.lay hb, Mod.upd (by simp)⟩
  unfold stateB at fin ⊢
  refine ⟨fun hb => fin true (fun e => by cases e) (by rw [hb]; (first | done | rfl)), fun hb => ⟨fun h1 => fin true (fun e => by cases e) (by rw [decide_eq_false (p := 1 ≤ n) (by omega)]; simp), fun h1 => fin _ (fun _ => hb) ?_⟩⟩
  rw [hb, decide_eq_true (p := 1 ≤ n) (by omega)]
  by_cases h3 : n ≤ 3
  · rw [decide_eq_true h3, decide_eq_false (by omega)]; (first | done | rfl)
  · rw [decide_eq_false h3, decide_eq_true (by omega)]; (first | done | rfl)
end
theorem c_namesC {s : PH} {c m : Nat} {last : Int} {bad : Bool} {seen : List Int} (h : Ck s c m last bad seen) {a : Option Addr} {an ac : Nat} {xs : List Col} (hx : elems (Rd.enc colE) s a an xs) (hn : xs.length ≤ 4294967296)
    (hd : ∀ s', Fw.Mod [c, m] s s' → elems (Rd.enc colE) s' a an xs) (least most : Int) : DCalls Tryz.prog 144 #[cp c, .slice a an ac, .int .i64 least, .int .i64 most, .func (.func 145) #[] #[]] s (CkPost c m last (bad || !namesB nameC least most xs) seen s) := by
  refine ok_namesC c a an ac least most _ s ?_
  unfold vc_namesC
  have hc := h.cell
  have hlen := hx.1
  have hll : xs.length = xs.length := by simp
  simp only [RP_join]
  refine W.join_gen (fun _ s' => Ck s' c m last (bad || !(decide (least ≤ xs.length) && decide ((xs.length : Int) ≤ most))) seen ∧ Fw.Mod [c, m] s s') ?_ ?_
  · rintro _ s1 ⟨h1, m1⟩
    obtain ⟨bad1, hb1⟩ : ∃ b, b = (bad || !(decide (least ≤ xs.length) && decide ((xs.length : Int) ≤ most))) := ⟨_, rfl⟩
    rw [← hb1] at h1
    have hgoal : (bad || !namesB nameC least most xs) = (bad1 || !allI (nameC xs) xs) := by
      rw [hb1]; unfold namesB
      cases bad <;> cases decide (least ≤ xs.length) <;> cases decide ((xs.length : Int) ≤ most) <;> simp
    rw [hgoal]
    simp only [RP_loop]
    refine ⟨fun z s' => ∃ k : Nat, z = (((a, an, ac), ()), ((an : Int), ()), ((k : Int), ()), ()) ∧ k ≤ an ∧ Ck s' c m last bad1 seen ∧ Fw.Mod [c, m] s s' ∧ (0 < k → bad1 = false) ∧ upTo (condI (nameC xs) xs) k = true, fun z _ => an - z.2.2.1.1.toNat, ⟨0, rfl, Nat.zero_le _, h1, m1, by omega, rfl⟩, ?_⟩
    rintro _ s2 ⟨k, rfl, hk, h2, m2, hkb, hup⟩
    have hc2 := h2.cell
    have hfin : ∀ b', b' = (bad1 || !allI (nameC xs) xs) → (b' = false → bad1 = false) → CkPost c m last (bad1 || !allI (nameC xs) xs) seen s (.tuple #[]) (s2.upd c (.cells #[.int .i64 last, .map (some m), .bool b'] 201 (0, 0))) := by
      intro b' he hb; rw [← he]; exact ⟨rfl, h2.lay hb, m2.updLater (.inl (by simp))⟩
    simp [W.br_iff, W.ld_at hc2, W.st_at hc2]
    refine ⟨fun hlt => ⟨hlt, ?_⟩, fun hge => ?_⟩
    · obtain ⟨x, hxk⟩ : ∃ x, xs[k]? = some x := ⟨_, List.getElem?_eq_getElem (by omega)⟩
      have hx2 := hd s2 m2
      obtain ⟨ad, rfl, hh⟩ := hx2.at_enc hxk
      have hpk : xs[k]? = some x := by simp [hxk]
      simp only [W.unSome_some]
      refine ld_has_z hh (y := (x.id, x.name, x.kind, x.state, x.dflt.kind, x.dflt.n, x.dflt.s, ())) rfl ?_
      simp [W.br_iff, W.ld_at hc2, W.st_at hc2]
      have hno : nameC xs k x = false → allI (nameC xs) xs = false := fun e => upTo_no (k := k) (by rw [condI_at hpk]; exact e) (by omega)
      refine ⟨fun hb => ?_, fun hb => ?_⟩
      · exact hfin true (by rw [hb]; (first | done | rfl)) (fun e => by cases e)
      · refine W.call_of (c_fColumn x s2) ?_
        rintro _ s2' ⟨rfl, rfl⟩
        refine ⟨((x.name, ()), ()), rfl, ?_⟩
        refine W.call_of (c_named x.name _) ?_
        rintro _ s2' ⟨rfl, rfl⟩
        refine ⟨((named x.name, ()), ()), rfl, ?_⟩
        simp [W.br_iff, W.ld_at hc2, W.st_at hc2]
        refine ⟨fun h3 => hfin true (by rw [hno (by unfold nameC; rw [h3]; (first | done | rfl))]; simp) (fun e => by cases e), fun h3 => ?_⟩
        refine W.call_of (c_fColumn x _) ?_
        rintro _ s2' ⟨rfl, rfl⟩
        refine ⟨((x.name, ()), ()), rfl, ?_⟩
        refine W.call_of (c_findC hx2 hn x.name) ?_
        rintro _ s2' ⟨rfl, rfl⟩
        refine ⟨((seek (fun y : Col => decide (y.name = x.name)) xs 0, ()), ()), rfl, ?_⟩
        have hseek : seek (fun y : Col => decide (y.name = x.name)) xs 0 = seek (fun y : Col => decide (y.name = x.name)) xs 0 := by rfl
        simp [W.br_iff, W.ld_at hc2, W.st_at hc2, wrap_succ (k := k) (by omega)]
        refine ⟨fun h4 => ?_, fun h4 => ?_⟩
        · have e4 : (seek (fun y : Col => decide (y.name = x.name)) xs 0 != (k : Int)) = true := by simpa using h4
          rw [e4]
          exact hfin true (by rw [hno (by unfold nameC; rw [h3, hseek]; simpa using h4)]; simp) (fun e => by cases e)
        · have e4 : (seek (fun y : Col => decide (y.name = x.name)) xs 0 != (k : Int)) = false := by simpa using h4
          rw [e4]
          have hyes : nameC xs k x = true := by unfold nameC; rw [h3, hseek]; simpa using h4
          refine ⟨⟨k + 1, by simp, hlt, ?_, m2.updLater (.inl (by simp)), fun _ => hb, by rw [upTo_succ, hup, condI_at hpk, hyes]; (first | done | rfl)⟩, by omega⟩
          rw [hb]; exact h2.lay (fun _ => hb)
    · have hke : k = xs.length := by omega
      have hall : allI (nameC xs) xs = true := by unfold allI; rw [← hke]; exact hup
      rw [hall]
      refine ⟨rfl, ?_, m2⟩
      simpa using h2
  · intro J hJ
    simp [W.ld_at hc, W.br_iff, W.st_at hc]
    have fin : ∀ b', (b' = false → bad = false) → b' = (bad || !(decide (least ≤ xs.length) && decide ((xs.length : Int) ≤ most))) → J () (s.upd c (.cells #[.int .i64 last, .map (some m), .bool b'] 201 (0, 0))) := by
      intro b' hb he
      refine hJ _ _ ⟨?_, Mod.upd (by simp)⟩
      rw [← he]; exact h.lay hb
    refine ⟨fun hb => fin true (fun e => by cases e) (by rw [hb]; (first | done | rfl)), fun hb => ⟨fun h1 => fin true (fun e => by cases e) (by rw [decide_eq_false (p := least ≤ xs.length) (by omega)]; simp), fun h1 => fin _ (fun _ => hb) ?_⟩⟩
    rw [hb, decide_eq_true (p := least ≤ xs.length) (by omega)]
    by_cases h3 : (xs.length : Int) ≤ most
    · rw [decide_eq_true h3, decide_eq_false (by omega)]; (first | done | rfl)
    · rw [decide_eq_false h3, decide_eq_true (by omega)]; (first | done | rfl)
theorem c_namesX {s : PH} {c m : Nat} {last : Int} {bad : Bool} {seen : List Int} (h : Ck s c m last bad seen) {a : Option Addr} {an ac : Nat} {xs : List Idx} (hx : elems (Rd.enc idxE) s a an xs) (hn : xs.length ≤ 4294967296)
    (hd : ∀ s', Fw.Mod [c, m] s s' → elems (Rd.enc idxE) s' a an xs) (least most : Int) : DCalls Tryz.prog 146 #[cp c, .slice a an ac, .int .i64 least, .int .i64 most, .func (.func 147) #[] #[]] s (CkPost c m last (bad || !namesB nameX least most xs) seen s) := by
  refine ok_namesX c a an ac least most _ s ?_
  unfold vc_namesX
  have hc := h.cell
  have hlen := hx.1
  have hll : xs.length = xs.length := by simp
  simp only [RP_join]
  refine W.join_gen (fun _ s' => Ck s' c m last (bad || !(decide (least ≤ xs.length) && decide ((xs.length : Int) ≤ most))) seen ∧ Fw.Mod [c, m] s s') ?_ ?_
  · rintro _ s1 ⟨h1, m1⟩
    obtain ⟨bad1, hb1⟩ : ∃ b, b = (bad || !(decide (least ≤ xs.length) && decide ((xs.length : Int) ≤ most))) := ⟨_, rfl⟩
    rw [← hb1] at h1
    have hgoal : (bad || !namesB nameX least most xs) = (bad1 || !allI (nameX xs) xs) := by
      rw [hb1]; unfold namesB
      cases bad <;> cases decide (least ≤ xs.length) <;> cases decide ((xs.length : Int) ≤ most) <;> simp
    rw [hgoal]
    simp only [RP_loop]
    refine ⟨fun z s' => ∃ k : Nat, z = (((a, an, ac), ()), ((an : Int), ()), ((k : Int), ()), ()) ∧ k ≤ an ∧ Ck s' c m last bad1 seen ∧ Fw.Mod [c, m] s s' ∧ (0 < k → bad1 = false) ∧ upTo (condI (nameX xs) xs) k = true, fun z _ => an - z.2.2.1.1.toNat, ⟨0, rfl, Nat.zero_le _, h1, m1, by omega, rfl⟩, ?_⟩
    rintro _ s2 ⟨k, rfl, hk, h2, m2, hkb, hup⟩
    have hc2 := h2.cell
    have hfin : ∀ b', b' = (bad1 || !allI (nameX xs) xs) → (b' = false → bad1 = false) → CkPost c m last (bad1 || !allI (nameX xs) xs) seen s (.tuple #[]) (s2.upd c (.cells #[.int .i64 last, .map (some m), .bool b'] 201 (0, 0))) := by
      intro b' he hb; rw [← he]; exact ⟨rfl, h2.lay hb, m2.updLater (.inl (by simp))⟩
    simp [W.br_iff, W.ld_at hc2, W.st_at hc2]
    refine ⟨fun hlt => ⟨hlt, ?_⟩, fun hge => ?_⟩
    · obtain ⟨x, hxk⟩ : ∃ x, xs[k]? = some x := ⟨_, List.getElem?_eq_getElem (by omega)⟩
      have hx2 := hd s2 m2
      obtain ⟨ad, rfl, hh⟩ := hx2.at_enc hxk
      have hpk : xs[k]? = some x := by simp [hxk]
      simp only [W.unSome_some]
      refine ld_has_z hh (y := (x.id, x.name, x.column, x.unique, x.state, ())) rfl ?_
      simp [W.br_iff, W.ld_at hc2, W.st_at hc2]
      have hno : nameX xs k x = false → allI (nameX xs) xs = false := fun e => upTo_no (k := k) (by rw [condI_at hpk]; exact e) (by omega)
      refine ⟨fun hb => ?_, fun hb => ?_⟩
      · exact hfin true (by rw [hb]; (first | done | rfl)) (fun e => by cases e)
      · refine W.call_of (c_fIndex x s2) ?_
        rintro _ s2' ⟨rfl, rfl⟩
        refine ⟨((x.name, ()), ()), rfl, ?_⟩
        refine W.call_of (c_named x.name _) ?_
        rintro _ s2' ⟨rfl, rfl⟩
        refine ⟨((named x.name, ()), ()), rfl, ?_⟩
        simp [W.br_iff, W.ld_at hc2, W.st_at hc2]
        refine ⟨fun h3 => hfin true (by rw [hno (by unfold nameX; rw [h3]; (first | done | rfl))]; simp) (fun e => by cases e), fun h3 => ?_⟩
        refine W.call_of (c_fIndex x _) ?_
        rintro _ s2' ⟨rfl, rfl⟩
        refine ⟨((x.name, ()), ()), rfl, ?_⟩
        refine W.call_of (c_findX hx2 hn x.name) ?_
        rintro _ s2' ⟨rfl, rfl⟩
        refine ⟨((seek (fun y : Idx => decide (y.name = x.name)) xs 0, ()), ()), rfl, ?_⟩
        have hseek : seek (fun y : Idx => decide (y.name = x.name)) xs 0 = seek (fun y : Idx => decide (y.name = x.name)) xs 0 := by rfl
        simp [W.br_iff, W.ld_at hc2, W.st_at hc2, wrap_succ (k := k) (by omega)]
        refine ⟨fun h4 => ?_, fun h4 => ?_⟩
        · have e4 : (seek (fun y : Idx => decide (y.name = x.name)) xs 0 != (k : Int)) = true := by simpa using h4
          rw [e4]
          exact hfin true (by rw [hno (by unfold nameX; rw [h3, hseek]; simpa using h4)]; simp) (fun e => by cases e)
        · have e4 : (seek (fun y : Idx => decide (y.name = x.name)) xs 0 != (k : Int)) = false := by simpa using h4
          rw [e4]
          have hyes : nameX xs k x = true := by unfold nameX; rw [h3, hseek]; simpa using h4
          refine ⟨⟨k + 1, by simp, hlt, ?_, m2.updLater (.inl (by simp)), fun _ => hb, by rw [upTo_succ, hup, condI_at hpk, hyes]; (first | done | rfl)⟩, by omega⟩
          rw [hb]; exact h2.lay (fun _ => hb)
    · have hke : k = xs.length := by omega
      have hall : allI (nameX xs) xs = true := by unfold allI; rw [← hke]; exact hup
      rw [hall]
      refine ⟨rfl, ?_, m2⟩
      simpa using h2
  · intro J hJ
    simp [W.ld_at hc, W.br_iff, W.st_at hc]
    have fin : ∀ b', (b' = false → bad = false) → b' = (bad || !(decide (least ≤ xs.length) && decide ((xs.length : Int) ≤ most))) → J () (s.upd c (.cells #[.int .i64 last, .map (some m), .bool b'] 201 (0, 0))) := by
      intro b' hb he
      refine hJ _ _ ⟨?_, Mod.upd (by simp)⟩
      rw [← he]; exact h.lay hb
    refine ⟨fun hb => fin true (fun e => by cases e) (by rw [hb]; (first | done | rfl)), fun hb => ⟨fun h1 => fin true (fun e => by cases e) (by rw [decide_eq_false (p := least ≤ xs.length) (by omega)]; simp), fun h1 => fin _ (fun _ => hb) ?_⟩⟩
    rw [hb, decide_eq_true (p := least ≤ xs.length) (by omega)]
    by_cases h3 : (xs.length : Int) ≤ most
    · rw [decide_eq_true h3, decide_eq_false (by omega)]; (first | done | rfl)
    · rw [decide_eq_false h3, decide_eq_true (by omega)]; (first | done | rfl)
theorem c_namesF {s : PH} {c m : Nat} {last : Int} {bad : Bool} {seen : List Int} (h : Ck s c m last bad seen) {a : Option Addr} {an ac : Nat} {xs : List For} (hx : elems (Rd.enc forE) s a an xs) (hn : xs.length ≤ 4294967296)
    (hd : ∀ s', Fw.Mod [c, m] s s' → elems (Rd.enc forE) s' a an xs) (least most : Int) : DCalls Tryz.prog 148 #[cp c, .slice a an ac, .int .i64 least, .int .i64 most, .func (.func 149) #[] #[]] s (CkPost c m last (bad || !namesB nameF least most xs) seen s) := by
  refine ok_namesF c a an ac least most _ s ?_
  unfold vc_namesF
  have hc := h.cell
  have hlen := hx.1
  have hll : xs.length = xs.length := by simp
  simp only [RP_join]
  refine W.join_gen (fun _ s' => Ck s' c m last (bad || !(decide (least ≤ xs.length) && decide ((xs.length : Int) ≤ most))) seen ∧ Fw.Mod [c, m] s s') ?_ ?_
  · rintro _ s1 ⟨h1, m1⟩
    obtain ⟨bad1, hb1⟩ : ∃ b, b = (bad || !(decide (least ≤ xs.length) && decide ((xs.length : Int) ≤ most))) := ⟨_, rfl⟩
    rw [← hb1] at h1
    have hgoal : (bad || !namesB nameF least most xs) = (bad1 || !allI (nameF xs) xs) := by
      rw [hb1]; unfold namesB
      cases bad <;> cases decide (least ≤ xs.length) <;> cases decide ((xs.length : Int) ≤ most) <;> simp
    rw [hgoal]
    simp only [RP_loop]
    refine ⟨fun z s' => ∃ k : Nat, z = (((a, an, ac), ()), ((an : Int), ()), ((k : Int), ()), ()) ∧ k ≤ an ∧ Ck s' c m last bad1 seen ∧ Fw.Mod [c, m] s s' ∧ (0 < k → bad1 = false) ∧ upTo (condI (nameF xs) xs) k = true, fun z _ => an - z.2.2.1.1.toNat, ⟨0, rfl, Nat.zero_le _, h1, m1, by omega, rfl⟩, ?_⟩
    rintro _ s2 ⟨k, rfl, hk, h2, m2, hkb, hup⟩
    have hc2 := h2.cell
    have hfin : ∀ b', b' = (bad1 || !allI (nameF xs) xs) → (b' = false → bad1 = false) → CkPost c m last (bad1 || !allI (nameF xs) xs) seen s (.tuple #[]) (s2.upd c (.cells #[.int .i64 last, .map (some m), .bool b'] 201 (0, 0))) := by
      intro b' he hb; rw [← he]; exact ⟨rfl, h2.lay hb, m2.updLater (.inl (by simp))⟩
    simp [W.br_iff, W.ld_at hc2, W.st_at hc2]
    refine ⟨fun hlt => ⟨hlt, ?_⟩, fun hge => ?_⟩
    · obtain ⟨x, hxk⟩ : ∃ x, xs[k]? = some x := ⟨_, List.getElem?_eq_getElem (by omega)⟩
      have hx2 := hd s2 m2
      obtain ⟨ad, rfl, hh⟩ := hx2.at_enc hxk
      have hpk : xs[k]? = some x := by simp [hxk]
      simp only [W.unSome_some]
      refine ld_has_z hh (y := (x.id, x.name, x.column, x.parent, x.state, ())) rfl ?_
      simp [W.br_iff, W.ld_at hc2, W.st_at hc2]
      have hno : nameF xs k x = false → allI (nameF xs) xs = false := fun e => upTo_no (k := k) (by rw [condI_at hpk]; exact e) (by omega)
      refine ⟨fun hb => ?_, fun hb => ?_⟩
      · exact hfin true (by rw [hb]; (first | done | rfl)) (fun e => by cases e)
      · refine W.call_of (c_fForeign x s2) ?_
        rintro _ s2' ⟨rfl, rfl⟩
        refine ⟨((x.name, ()), ()), rfl, ?_⟩
        refine W.call_of (c_named x.name _) ?_
        rintro _ s2' ⟨rfl, rfl⟩
        refine ⟨((named x.name, ()), ()), rfl, ?_⟩
        simp [W.br_iff, W.ld_at hc2, W.st_at hc2]
        refine ⟨fun h3 => hfin true (by rw [hno (by unfold nameF; rw [h3]; (first | done | rfl))]; simp) (fun e => by cases e), fun h3 => ?_⟩
        refine W.call_of (c_fForeign x _) ?_
        rintro _ s2' ⟨rfl, rfl⟩
        refine ⟨((x.name, ()), ()), rfl, ?_⟩
        refine W.call_of (c_findF hx2 hn x.name) ?_
        rintro _ s2' ⟨rfl, rfl⟩
        refine ⟨((seek (fun y : For => decide (y.name = x.name)) xs 0, ()), ()), rfl, ?_⟩
        have hseek : seek (fun y : For => decide (y.name = x.name)) xs 0 = seek (fun y : For => decide (y.name = x.name)) xs 0 := by rfl
        simp [W.br_iff, W.ld_at hc2, W.st_at hc2, wrap_succ (k := k) (by omega)]
        refine ⟨fun h4 => ?_, fun h4 => ?_⟩
        · have e4 : (seek (fun y : For => decide (y.name = x.name)) xs 0 != (k : Int)) = true := by simpa using h4
          rw [e4]
          exact hfin true (by rw [hno (by unfold nameF; rw [h3, hseek]; simpa using h4)]; simp) (fun e => by cases e)
        · have e4 : (seek (fun y : For => decide (y.name = x.name)) xs 0 != (k : Int)) = false := by simpa using h4
          rw [e4]
          have hyes : nameF xs k x = true := by unfold nameF; rw [h3, hseek]; simpa using h4
          refine ⟨⟨k + 1, by simp, hlt, ?_, m2.updLater (.inl (by simp)), fun _ => hb, by rw [upTo_succ, hup, condI_at hpk, hyes]; (first | done | rfl)⟩, by omega⟩
          rw [hb]; exact h2.lay (fun _ => hb)
    · have hke : k = xs.length := by omega
      have hall : allI (nameF xs) xs = true := by unfold allI; rw [← hke]; exact hup
      rw [hall]
      refine ⟨rfl, ?_, m2⟩
      simpa using h2
  · intro J hJ
    simp [W.ld_at hc, W.br_iff, W.st_at hc]
    have fin : ∀ b', (b' = false → bad = false) → b' = (bad || !(decide (least ≤ xs.length) && decide ((xs.length : Int) ≤ most))) → J () (s.upd c (.cells #[.int .i64 last, .map (some m), .bool b'] 201 (0, 0))) := by
      intro b' hb he
      refine hJ _ _ ⟨?_, Mod.upd (by simp)⟩
      rw [← he]; exact h.lay hb
    refine ⟨fun hb => fin true (fun e => by cases e) (by rw [hb]; (first | done | rfl)), fun hb => ⟨fun h1 => fin true (fun e => by cases e) (by rw [decide_eq_false (p := least ≤ xs.length) (by omega)]; simp), fun h1 => fin _ (fun _ => hb) ?_⟩⟩
    rw [hb, decide_eq_true (p := least ≤ xs.length) (by omega)]
    by_cases h3 : (xs.length : Int) ≤ most
    · rw [decide_eq_true h3, decide_eq_false (by omega)]; (first | done | rfl)
    · rw [decide_eq_false h3, decide_eq_true (by omega)]; (first | done | rfl)
theorem c_namesT {s : PH} {c m : Nat} {last : Int} {bad : Bool} {seen : List Int} (h : Ck s c m last bad seen) {a : Option Addr} {an ac : Nat} {xs : List TabP} (hx : elems (Rd.enc tabE) s a an xs) (hn : xs.length ≤ 4294967296)
    (hd : ∀ s', Fw.Mod [c, m] s s' → elems (Rd.enc tabE) s' a an xs) (least most : Int) : DCalls Tryz.prog 111 #[cp c, .slice a an ac, .int .i64 least, .int .i64 most, .func (.func 112) #[] #[]] s (CkPost c m last (bad || !namesB nameT least most (xs.map (·.T))) seen s) := by
  refine ok_namesT c a an ac least most _ s ?_
  unfold vc_namesT
  have hc := h.cell
  have hlen := hx.1
  have hll : (xs.map (·.T)).length = xs.length := by simp
  simp only [RP_join]
  refine W.join_gen (fun _ s' => Ck s' c m last (bad || !(decide (least ≤ (xs.map (·.T)).length) && decide (((xs.map (·.T)).length : Int) ≤ most))) seen ∧ Fw.Mod [c, m] s s') ?_ ?_
  · rintro _ s1 ⟨h1, m1⟩
    obtain ⟨bad1, hb1⟩ : ∃ b, b = (bad || !(decide (least ≤ (xs.map (·.T)).length) && decide (((xs.map (·.T)).length : Int) ≤ most))) := ⟨_, rfl⟩
    rw [← hb1] at h1
    have hgoal : (bad || !namesB nameT least most (xs.map (·.T))) = (bad1 || !allI (nameT (xs.map (·.T))) (xs.map (·.T))) := by
      rw [hb1]; unfold namesB
      cases bad <;> cases decide (least ≤ (xs.map (·.T)).length) <;> cases decide (((xs.map (·.T)).length : Int) ≤ most) <;> simp
    rw [hgoal]
    simp only [RP_loop]
    refine ⟨fun z s' => ∃ k : Nat, z = (((a, an, ac), ()), ((an : Int), ()), ((k : Int), ()), ()) ∧ k ≤ an ∧ Ck s' c m last bad1 seen ∧ Fw.Mod [c, m] s s' ∧ (0 < k → bad1 = false) ∧ upTo (condI (nameT (xs.map (·.T))) (xs.map (·.T))) k = true, fun z _ => an - z.2.2.1.1.toNat, ⟨0, rfl, Nat.zero_le _, h1, m1, by omega, rfl⟩, ?_⟩
    rintro _ s2 ⟨k, rfl, hk, h2, m2, hkb, hup⟩
    have hc2 := h2.cell
    have hfin : ∀ b', b' = (bad1 || !allI (nameT (xs.map (·.T))) (xs.map (·.T))) → (b' = false → bad1 = false) → CkPost c m last (bad1 || !allI (nameT (xs.map (·.T))) (xs.map (·.T))) seen s (.tuple #[]) (s2.upd c (.cells #[.int .i64 last, .map (some m), .bool b'] 201 (0, 0))) := by
      intro b' he hb; rw [← he]; exact ⟨rfl, h2.lay hb, m2.updLater (.inl (by simp))⟩
    simp [W.br_iff, W.ld_at hc2, W.st_at hc2]
    refine ⟨fun hlt => ⟨hlt, ?_⟩, fun hge => ?_⟩
    · obtain ⟨x, hxk⟩ : ∃ x, xs[k]? = some x := ⟨_, List.getElem?_eq_getElem (by omega)⟩
      have hx2 := hd s2 m2
      obtain ⟨ad, rfl, hh⟩ := hx2.at_enc hxk
      have hpk : (xs.map (·.T))[k]? = some x.T := by simp [hxk]
      simp only [W.unSome_some]
      refine ld_has_z hh (y := (x.T.id, x.T.name, x.c, x.x, x.k, ())) rfl ?_
      simp [W.br_iff, W.ld_at hc2, W.st_at hc2]
      have hno : nameT (xs.map (·.T)) k x.T = false → allI (nameT (xs.map (·.T))) (xs.map (·.T)) = false := fun e => upTo_no (k := k) (by rw [condI_at hpk]; exact e) (by omega)
      refine ⟨fun hb => ?_, fun hb => ?_⟩
      · exact hfin true (by rw [hb]; (first | done | rfl)) (fun e => by cases e)
      · refine W.call_of (c_fTable x s2) ?_
        rintro _ s2' ⟨rfl, rfl⟩
        refine ⟨((x.T.name, ()), ()), rfl, ?_⟩
        refine W.call_of (c_named x.T.name _) ?_
        rintro _ s2' ⟨rfl, rfl⟩
        refine ⟨((named x.T.name, ()), ()), rfl, ?_⟩
        simp [W.br_iff, W.ld_at hc2, W.st_at hc2]
        refine ⟨fun h3 => hfin true (by rw [hno (by unfold nameT; rw [h3]; (first | done | rfl))]; simp) (fun e => by cases e), fun h3 => ?_⟩
        refine W.call_of (c_fTable x _) ?_
        rintro _ s2' ⟨rfl, rfl⟩
        refine ⟨((x.T.name, ()), ()), rfl, ?_⟩
        refine W.call_of (c_findT hx2 hn x.T.name) ?_
        rintro _ s2' ⟨rfl, rfl⟩
        refine ⟨((seek (fun y : TabP => decide (y.T.name = x.T.name)) xs 0, ()), ()), rfl, ?_⟩
        have hseek : seek (fun y : Tab => decide (y.name = x.T.name)) (xs.map (·.T)) 0 = seek (fun y : TabP => decide (y.T.name = x.T.name)) xs 0 := by rw [seek_map]
        simp [W.br_iff, W.ld_at hc2, W.st_at hc2, wrap_succ (k := k) (by omega)]
        refine ⟨fun h4 => ?_, fun h4 => ?_⟩
        · have e4 : (seek (fun y : TabP => decide (y.T.name = x.T.name)) xs 0 != (k : Int)) = true := by simpa using h4
          rw [e4]
          exact hfin true (by rw [hno (by unfold nameT; rw [h3, hseek]; simpa using h4)]; simp) (fun e => by cases e)
        · have e4 : (seek (fun y : TabP => decide (y.T.name = x.T.name)) xs 0 != (k : Int)) = false := by simpa using h4
          rw [e4]
          have hyes : nameT (xs.map (·.T)) k x.T = true := by unfold nameT; rw [h3, hseek]; simpa using h4
          refine ⟨⟨k + 1, by simp, hlt, ?_, m2.updLater (.inl (by simp)), fun _ => hb, by rw [upTo_succ, hup, condI_at hpk, hyes]; (first | done | rfl)⟩, by omega⟩
          rw [hb]; exact h2.lay (fun _ => hb)
    · have hke : k = (xs.map (·.T)).length := by omega
      have hall : allI (nameT (xs.map (·.T))) (xs.map (·.T)) = true := by unfold allI; rw [← hke]; exact hup
      rw [hall]
      refine ⟨rfl, ?_, m2⟩
      simpa using h2
  · intro J hJ
    simp [W.ld_at hc, W.br_iff, W.st_at hc]
    have fin : ∀ b', (b' = false → bad = false) → b' = (bad || !(decide (least ≤ (xs.map (·.T)).length) && decide (((xs.map (·.T)).length : Int) ≤ most))) → J () (s.upd c (.cells #[.int .i64 last, .map (some m), .bool b'] 201 (0, 0))) := by
      intro b' hb he
      refine hJ _ _ ⟨?_, Mod.upd (by simp)⟩
      rw [← he]; exact h.lay hb
    refine ⟨fun hb => fin true (fun e => by cases e) (by rw [hb]; (first | done | rfl)), fun hb => ⟨fun h1 => fin true (fun e => by cases e) (by rw [decide_eq_false (p := least ≤ (xs.map (·.T)).length) (by omega)]; simp), fun h1 => fin _ (fun _ => hb) ?_⟩⟩
    rw [hb, decide_eq_true (p := least ≤ (xs.map (·.T)).length) (by omega)]
    by_cases h3 : ((xs.map (·.T)).length : Int) ≤ most
    · rw [decide_eq_true h3, decide_eq_false (by omega)]; (first | done | rfl)
    · rw [decide_eq_false h3, decide_eq_true (by omega)]; (first | done | rfl)
end Go.Proofs.YthepfbcgpbkbdaaGreat
end
section
set_option linter.unusedVariables false
set_option linter.unusedSimpArgs false
set_option maxHeartbeats 2000000
set_option maxRecDepth 100000
namespace Go.Proofs.YthepfbcgpbkbdaaGreat
open Fw Go
attribute [-simp] Fw.W.ld_iff Fw.W.st_iff
theorem runIds_snoc (last : Int) (l : List Int) (n : Int) (seen : List Int) : runIds last (l ++ [n]) seen = (runIds last l seen && ((decide (1 ≤ n) && decide (n ≤ last)) && !decide (n ∈ l.reverse ++ seen))) := by
  rw [runIds_app]; simp [runIds]
theorem Ck.any {s : PH} {c m : Nat} {last : Int} {seen seen' : List Int} (h : Ck s c m last true seen) : Ck s c m last true seen' := by
  obtain ⟨f, hf, _⟩ := h.map
  exact ⟨h.cell, f, hf, fun e => by cases e⟩
theorem ids_take {α : Type} (f : α → Int) {l : List α} {k : Nat} {x : α} (h : l[k]? = some x) : (l.take (k + 1)).map f = (l.take k).map f ++ [f x] := by
  rw [List.take_add_one, h]; simp
/-- one element of a list is looked at: its id, its state, and the rest -/
theorem loop_bool {P1 U R A St Rest : Bool} : ((!(P1 && (U && R)) || !A) || !St || !Rest) = !(P1 && ((U && (St && Rest)) && (R && A))) := by
  cases P1 <;> cases U <;> cases R <;> cases A <;> cases St <;> cases Rest <;> rfl
theorem ck_ld {s : PH} {c m : Nat} {last : Int} {bad : Bool} {seen : List Int} (h : Ck s c m last bad seen) {K : Den [.bool] → W.T} (hK : K (bad, ()) s) : W.unSome (some (Addr.mk c 0 none)) (fun p => W.ld [.bool] (p.add 2) K) s := by
  simp only [W.unSome_some, add_mk, Nat.zero_add]
  rw [W.ld_at h.cell]
  exact ⟨(bad, ()), by simp, hK⟩
theorem ck_st {s : PH} {c m : Nat} {last : Int} {bad b' : Bool} {seen : List Int} (h : Ck s c m last bad seen) {K : W.T} (hK : K (s.upd c (.cells #[.int .i64 last, .map (some m), .bool b'] 201 (0, 0)))) : W.unSome (some (Addr.mk c 0 none)) (fun p => W.st (p.add 2) [.bool b'] K) s := by
  simp only [W.unSome_some, add_mk, Nat.zero_add]
  rw [W.st_at h.cell]
  exact ⟨by simp, by simp, by simp [Value.oneCell'], hK⟩
section
variable {s0 s : PH} {c m : Nat} {last : Int} {bad : Bool} {seen : List Int} {t : Tri} {S : Sch} {ps : List TabP} {p : TabP}
theorem c_ckTable (h : Ck s c m last bad seen) (hS : SchIs s0 t S ps) (hp : p ∈ ps) (m0 : Fw.Mod [] s0 s) (hc0 : s0 c = none) (hm0 : s0 m = none) :
    DCalls Tryz.prog 113 #[cp c, schV S t, tabV p.T p.c p.x p.k] s (CkPost c m last (bad || !(tabB S p.T && runIds last (idsOf p.T) seen)) ((idsOf p.T).reverse ++ seen) s) := by
  have hP0 := hS.all p hp
  have keep : ∀ {s'}, Fw.Mod [c, m] s s' → Fw.Mod [] s0 s' := fun mm => m0.fresh mm (by simp [hc0, hm0])
  obtain ⟨T, ⟨ca, can, cac⟩, ⟨xa, xan, xac⟩, ⟨ka, kan, kac⟩⟩ := p
  obtain ⟨ta, tn, tc⟩ := t
  dsimp only at hP0 ⊢
  have hcan : can = T.cols.length := hP0.c.len
  have hxan : xan = T.idxs.length := hP0.x.len
  have hkan : kan = T.keys.length := hP0.k.len
  have hcf := hP0.c.few
  have hxf := hP0.x.few
  have hkf := hP0.k.few
  dsimp only at hcf hxf hkf
  obtain ⟨res, hres⟩ : ∃ b, (bad || !(tabB S T && runIds last (idsOf T) seen)) = b := ⟨_, rfl⟩
  obtain ⟨sn, hsn⟩ : ∃ l, (idsOf T).reverse ++ seen = l := ⟨_, rfl⟩
  rw [hres, hsn]
  refine ok_ckTable c S.version S.last ta tn tc T.id T.name ca can cac xa xan xac ka kan kac _ s ?_
  unfold vc_ckTable
  simp only [RP_call]
  refine W.call_of (c_ckId h T.id) ?_
  rintro _ s1 ⟨rfl, h1, m1⟩
  refine ⟨(), rfl, ?_⟩
  refine W.call_of (c_namesC h1 (hP0.c.el.mono (keep m1).le) hcf (fun s' hm => hP0.c.el.mono (keep (m1.trans hm)).le) 1 8) ?_
  rintro _ s2 ⟨rfl, h2, m2'⟩
  have m2 := m1.trans m2'
  refine ⟨(), rfl, ?_⟩
  refine W.call_of (c_namesX h2 (hP0.x.el.mono (keep m2).le) hxf (fun s' hm => hP0.x.el.mono (keep (m2.trans hm)).le) 0 8) ?_
  rintro _ s3 ⟨rfl, h3, m3'⟩
  have m3 := m2.trans m3'
  refine ⟨(), rfl, ?_⟩
  refine W.call_of (c_namesF h3 (hP0.k.el.mono (keep m3).le) hkf (fun s' hm => hP0.k.el.mono (keep (m3.trans hm)).le) 0 8) ?_
  rintro _ s4 ⟨rfl, h4, m4'⟩
  have m4 := m3.trans m4'
  refine ⟨(), rfl, ?_⟩
  have hids : idsOf T = T.id :: (T.cols.map (·.id) ++ (T.idxs.map (·.id) ++ T.keys.map (·.id))) := rfl
  have hrun : runIds last (idsOf T) seen = ((decide (1 ≤ T.id) && decide (T.id ≤ last)) && (!decide (T.id ∈ seen) && (runIds last (T.cols.map (·.id)) (T.id :: seen) &&
      (runIds last (T.idxs.map (·.id)) ((T.cols.map (·.id)).reverse ++ (T.id :: seen)) && runIds last (T.keys.map (·.id)) ((T.idxs.map (·.id)).reverse ++ ((T.cols.map (·.id)).reverse ++ (T.id :: seen))))))) := by
    rw [hids]; simp only [runIds, runIds_app]
  have hseen : (T.keys.map (·.id)).reverse ++ ((T.idxs.map (·.id)).reverse ++ ((T.cols.map (·.id)).reverse ++ (T.id :: seen))) = sn := by
    rw [← hsn, hids]; simp
  obtain ⟨A, hA⟩ : ∃ A, ((decide (1 ≤ T.id) && decide (T.id ≤ last)) && !decide (T.id ∈ seen)) = A := ⟨_, rfl⟩
  rw [← Bool.and_assoc, hA] at hrun
  rw [hA] at h4
  obtain ⟨N1, hN1⟩ : ∃ N, namesB nameC 1 8 T.cols = N := ⟨_, rfl⟩
  obtain ⟨N2, hN2⟩ : ∃ N, namesB nameX 0 8 T.idxs = N := ⟨_, rfl⟩
  obtain ⟨N3, hN3⟩ : ∃ N, namesB nameF 0 8 T.keys = N := ⟨_, rfl⟩
  rw [hN1, hN2, hN3] at h4
  obtain ⟨b4, hb4⟩ : ∃ b, ((((bad || !A) || !N1) || !N2) || !N3) = b := ⟨_, rfl⟩
  rw [hb4] at h4
  have hc4 := h4.cell
  have hres2 : res = (bad || !((N1 && (N2 && (N3 && (first3 T && (allI colB T.cols && (allI (idxB T) T.idxs && allI (keyB S T) T.keys)))))) && runIds last (idsOf T) seen)) := by rw [← hres]; unfold tabB; rw [hN1, hN2, hN3]
  simp [W.ld_at hc4, W.br_iff]
  refine ⟨fun hbad => ?_, fun hbad => ?_⟩
  · subst hbad
    have e1 : res = true := by
      rw [hres2, hrun]
      revert hb4
      cases bad <;> cases A <;> cases N1 <;> cases N2 <;> cases N3 <;> simp
    rw [e1]
    exact ⟨rfl, h4.any, m4⟩
  · subst hbad
    have hall : bad = false ∧ A = true ∧ N1 = true ∧ N2 = true ∧ N3 = true := by
      revert hb4
      cases bad <;> cases A <;> cases N1 <;> cases N2 <;> cases N3 <;> simp
    obtain ⟨rfl, rfl, rfl, rfl, rfl⟩ := hall
    have hcl : 1 ≤ T.cols.length := by
      unfold namesB at hN1
      simp only [Bool.and_eq_true, decide_eq_true_eq] at hN1
      omega
    obtain ⟨c0, cs, hcs⟩ : ∃ c0 cs, T.cols = c0 :: cs := by
      cases hc : T.cols with
      | nil => rw [hc] at hcl; simp at hcl
      | cons a b => exact ⟨a, b, rfl⟩
    have hf3 : first3 T = decide (c0.state = 3) := by unfold first3; rw [hcs]
    obtain ⟨ad, had, hh⟩ := (hP0.c.mono (keep m4).le).el.at_enc (i := 0) (x := c0) (by rw [hcs]; (first | done | rfl))
    dsimp only at had; subst had
    rw [Nat.zero_mul, add_zero] at hh
    refine ⟨by omega, ?_⟩
    simp only [W.unSome_some]
    refine ld_has (j := 3) hh (cs := [.int .i64]) (y := (c0.state, ())) rfl ?_
    refine ck_st h4 ?_
    have h5 : Ck (s4.upd c (.cells #[.int .i64 last, .map (some m), .bool (c0.state != 3)] 201 (0, 0))) c m last (c0.state != 3) (T.id :: seen) := h4.lay (fun _ => rfl)
    have m5 : Fw.Mod [c, m] s (s4.upd c (.cells #[.int .i64 last, .map (some m), .bool (c0.state != 3)] 201 (0, 0))) := m4.updLater (.inl (by simp))
    generalize s4.upd c (.cells #[.int .i64 last, .map (some m), .bool (c0.state != 3)] 201 (0, 0)) = s5 at h5 m5 ⊢
    have hb5 : (c0.state != 3) = !(first3 T && (upTo (condI colB T.cols) 0 && runIds last ((T.cols.take 0).map (·.id)) (T.id :: seen))) := by
      rw [hf3]
      by_cases h : c0.state = 3 <;> simp [h, upTo_zero, runIds]
    rw [hb5] at h5
    have hgoal : res = !(((first3 T && (allI colB T.cols && runIds last (T.cols.map (·.id)) (T.id :: seen))) && (allI (idxB T) T.idxs && runIds last (T.idxs.map (·.id)) ((T.cols.map (·.id)).reverse ++ (T.id :: seen)))) &&
        (allI (keyB S T) T.keys && runIds last (T.keys.map (·.id)) ((T.idxs.map (·.id)).reverse ++ ((T.cols.map (·.id)).reverse ++ (T.id :: seen))))) := by
      rw [hres2, hrun]
      generalize first3 T = F
      generalize allI colB T.cols = C1
      generalize allI (idxB T) T.idxs = C2
      generalize allI (keyB S T) T.keys = C3
      generalize runIds last (T.cols.map (·.id)) (T.id :: seen) = R1
      generalize runIds last (T.idxs.map (·.id)) _ = R2
      generalize runIds last (T.keys.map (·.id)) _ = R3
      cases F <;> cases C1 <;> cases C2 <;> cases C3 <;> cases R1 <;> cases R2 <;> cases R3 <;> rfl
    clear hres2 hrun hres hb5 hf3 hh hc4 h4
    obtain ⟨sd1, hsd1⟩ : ∃ l, T.id :: seen = l := ⟨_, rfl⟩
    rw [hsd1] at h5 hgoal hseen
    obtain ⟨F, hF⟩ : ∃ F, first3 T = F := ⟨_, rfl⟩
    rw [hF] at h5 hgoal
    refine ⟨fun z s' => ∃ k : Nat, z = ((S.version, S.last, (ta, tn, tc), ()), (T.id, T.name, (some ad, can, cac), (xa, xan, xac), (ka, kan, kac), ()), ((some ad, can, cac), ()), ((can : Int), ()), ((k : Int), ()), ()) ∧ k ≤ can ∧
      Ck s' c m last (!(F && (upTo (condI colB T.cols) k && runIds last ((T.cols.take k).map (·.id)) sd1))) (((T.cols.take k).map (·.id)).reverse ++ sd1) ∧ Fw.Mod [c, m] s s', fun z _ => can - z.2.2.2.2.1.1.toNat, ⟨0, rfl, Nat.zero_le _, by simpa using h5, m5⟩, ?_⟩
    rintro _ s6 ⟨k, rfl, hk, h6, m6⟩
    simp only [W.br_iff, decide_eq_true_eq, decide_eq_false_iff_not]
    refine ⟨fun hlt => ?_, fun hge => ?_⟩
    · have hlt : k < can := by omega
      obtain ⟨x, hx⟩ : ∃ x, T.cols[k]? = some x := ⟨_, List.getElem?_eq_getElem (by omega)⟩
      obtain ⟨ad2, had2, hh⟩ := (hP0.c.mono (keep m6).le).el.at_enc hx
      dsimp only at had2
      cases had2
      have hstep := ids_take (·.id) hx
      have hnext : (!(F && (upTo (condI colB T.cols) (k + 1) && runIds last ((T.cols.take (k + 1)).map (·.id)) sd1))) = (((!(F && (upTo (condI colB T.cols) k && runIds last ((T.cols.take k).map (·.id)) sd1))) || !((decide (1 ≤ x.id) && decide (x.id ≤ last)) && !decide (x.id ∈ ((T.cols.take k).map (·.id)).reverse ++ sd1))) || !stateB x.state || !(typed x.kind && fits x.dflt x.kind)) := by
        rw [upTo_succ, condI_at hx, hstep, runIds_snoc, loop_bool]; (first | done | rfl)
      have hsn2 : (((T.cols.take (k + 1)).map (·.id)).reverse ++ sd1) = x.id :: (((T.cols.take k).map (·.id)).reverse ++ sd1) := by rw [hstep]; simp
      refine ⟨by omega, ?_⟩
      simp only [W.unSome_some]
      refine ld_has_z hh (y := (x.id, x.name, x.kind, x.state, x.dflt.kind, x.dflt.n, x.dflt.s, ())) rfl ?_
      refine W.call_of (c_ckId h6 x.id) ?_
      rintro _ s7 ⟨rfl, h7, m7⟩
      refine ⟨(), rfl, ?_⟩
      refine W.call_of (c_ckState h7 x.state) ?_
      rintro _ s8 ⟨rfl, h8, m8⟩
      refine ⟨(), rfl, ?_⟩
      rw [← hsn2] at h8
      generalize hb8 : ((!(F && (upTo (condI colB T.cols) k && runIds last ((T.cols.take k).map (·.id)) sd1))) || !((decide (1 ≤ x.id) && decide (x.id ≤ last)) && !decide (x.id ∈ ((T.cols.take k).map (·.id)).reverse ++ sd1)) || !stateB x.state) = b8 at h8 hnext
      have m678 := (m6.trans m7).trans m8
      have hc8 := h8.cell
      have hw := wrap_succ (k := k) (by omega)
      have fin : ∀ b', (b' = false → b8 = false) → b' = (b8 || !(typed x.kind && fits x.dflt x.kind)) → ∃ k' : Nat, ((S.version, S.last, (ta, tn, tc), ()), (T.id, T.name, (some ad, can, cac), (xa, xan, xac), (ka, kan, kac), ()), ((some ad, can, cac), ()), ((can : Int), ()), (IntKind.i64.wrap ((k : Int) + 1), ()), ()) =
          (((S.version, S.last, (ta, tn, tc), ()), (T.id, T.name, (some ad, can, cac), (xa, xan, xac), (ka, kan, kac), ()), ((some ad, can, cac), ()), ((can : Int), ()), ((k' : Int), ()), ()) : MDen [(true, [.int .i64, .int .i64, .slice]), (true, [.int .i64, .str, .slice, .slice, .slice]), (false, [.slice]), (false, [.int .i64]), (false, [.int .i64])]) ∧ k' ≤ can ∧
          Ck (s8.upd c (.cells #[.int .i64 last, .map (some m), .bool b'] 201 (0, 0))) c m last (!(F && (upTo (condI colB T.cols) k' && runIds last ((T.cols.take k').map (·.id)) sd1))) (((T.cols.take k').map (·.id)).reverse ++ sd1) ∧ Fw.Mod [c, m] s (s8.upd c (.cells #[.int .i64 last, .map (some m), .bool b'] 201 (0, 0))) := by
        intro b' hb he
        refine ⟨k + 1, by rw [hw], hlt, ?_, m678.updLater (.inl (by simp))⟩
        rw [hnext, ← he]
        exact h8.lay hb
      have hmeas : can - (IntKind.i64.wrap ((k : Int) + 1)).toNat < can - ((k : Int)).toNat := by rw [hw]; simp only [Int.toNat_natCast]; omega
      refine ck_ld h8 ?_
      simp only [W.br_iff]
      refine ⟨fun hb => ck_st h8 ⟨fin true (fun e => by cases e) (by have hb : b8 = true := hb
                                                                     rw [hb]; (first | done | rfl)), hmeas⟩, fun hb => ?_⟩
      have hb : b8 = false := hb
      refine W.call_of (c_kind x.kind s8) ?_
      rintro _ _ ⟨rfl, rfl⟩
      refine ⟨((typed x.kind, ()), ()), rfl, ?_⟩
      simp only [W.br_iff]
      refine ⟨fun ht => ck_st h8 ⟨fin true (fun e => by cases e) (by have ht : typed x.kind = false := by simpa using ht
                                                                     rw [ht]; simp), hmeas⟩, fun ht => ?_⟩
      have ht : typed x.kind = true := by simpa using ht
      refine W.call_of (c_fits x.dflt x.kind _) ?_
      rintro _ _ ⟨rfl, rfl⟩
      refine ⟨((fits x.dflt x.kind, ()), ()), rfl, ?_⟩
      exact ck_st h8 ⟨fin _ (fun _ => hb) (by rw [hb, ht]; simp), hmeas⟩
    · have hall : T.cols.take k = T.cols := List.take_of_length_le (by omega)
      have hku : upTo (condI colB T.cols) k = allI colB T.cols := by unfold allI; rw [show k = T.cols.length by omega]
      rw [hall, hku] at h6
      obtain ⟨P1, hP1⟩ : ∃ P, (F && (allI colB T.cols && runIds last (T.cols.map (·.id)) sd1)) = P := ⟨_, rfl⟩
      obtain ⟨sd2, hsd2⟩ : ∃ l, (T.cols.map (·.id)).reverse ++ sd1 = l := ⟨_, rfl⟩
      rw [hP1, hsd2] at h6 hgoal
      rw [hsd2] at hseen
      refine ⟨fun z s' => ∃ k : Nat, z = ((S.version, S.last, (ta, tn, tc), ()), (T.id, T.name, (some ad, can, cac), (xa, xan, xac), (ka, kan, kac), ()), ((xa, xan, xac), ()), ((xan : Int), ()), ((k : Int), ()), ()) ∧ k ≤ xan ∧
        Ck s' c m last (!(P1 && (upTo (condI (idxB T) T.idxs) k && runIds last ((T.idxs.take k).map (·.id)) sd2))) (((T.idxs.take k).map (·.id)).reverse ++ sd2) ∧ Fw.Mod [c, m] s s', fun z _ => xan - z.2.2.2.2.1.1.toNat, ⟨0, rfl, Nat.zero_le _, by simpa [upTo_zero, runIds] using h6, m6⟩, ?_⟩
      rintro _ s7 ⟨k, rfl, hk, h7, m7⟩
      simp only [W.br_iff, decide_eq_true_eq, decide_eq_false_iff_not]
      refine ⟨fun hlt => ?_, fun hge => ?_⟩
      · have hlt : k < xan := by omega
        obtain ⟨x, hx⟩ : ∃ x, T.idxs[k]? = some x := ⟨_, List.getElem?_eq_getElem (by omega)⟩
        obtain ⟨ad2, had2, hh⟩ := (hP0.x.mono (keep m7).le).el.at_enc hx
        dsimp only at had2
        subst had2
        have hstep := ids_take (·.id) hx
        have hnext : (!(P1 && (upTo (condI (idxB T) T.idxs) (k + 1) && runIds last ((T.idxs.take (k + 1)).map (·.id)) sd2))) = (((!(P1 && (upTo (condI (idxB T) T.idxs) k && runIds last ((T.idxs.take k).map (·.id)) sd2))) || !((decide (1 ≤ x.id) && decide (x.id ≤ last)) && !decide (x.id ∈ ((T.idxs.take k).map (·.id)).reverse ++ sd2))) || !stateB x.state || !(decide (0 ≤ colOf T x.column))) := by
          rw [upTo_succ, condI_at hx, hstep, runIds_snoc, loop_bool]; (first | done | rfl)
        have hsn2 : (((T.idxs.take (k + 1)).map (·.id)).reverse ++ sd2) = x.id :: (((T.idxs.take k).map (·.id)).reverse ++ sd2) := by rw [hstep]; simp
        refine ⟨by omega, ?_⟩
        simp only [W.unSome_some]
        refine ld_has_z hh (y := (x.id, x.name, x.column, x.unique, x.state, ())) rfl ?_
        refine W.call_of (c_ckId h7 x.id) ?_
        rintro _ s8 ⟨rfl, h8, m8⟩
        refine ⟨(), rfl, ?_⟩
        refine W.call_of (c_ckState h8 x.state) ?_
        rintro _ s9 ⟨rfl, h9, m9⟩
        refine ⟨(), rfl, ?_⟩
        rw [← hsn2] at h9
        generalize hb8 : ((!(P1 && (upTo (condI (idxB T) T.idxs) k && runIds last ((T.idxs.take k).map (·.id)) sd2))) || !((decide (1 ≤ x.id) && decide (x.id ≤ last)) && !decide (x.id ∈ ((T.idxs.take k).map (·.id)).reverse ++ sd2)) || !stateB x.state) = b8 at h9 hnext
        have m789 := (m7.trans m8).trans m9
        have hw := wrap_succ (k := k) (by omega)
        have hmeas : xan - (IntKind.i64.wrap ((k : Int) + 1)).toNat < xan - ((k : Int)).toNat := by rw [hw]; simp only [Int.toNat_natCast]; omega
        refine ck_ld h9 ?_
        simp only [W.br_iff]
        refine ⟨fun hb => ck_st h9 ⟨⟨k + 1, by rw [hw], hlt, ?_, m789.updLater (.inl (by simp))⟩, hmeas⟩, fun hb => ?_⟩
        · have hb : b8 = true := hb
          rw [hnext, hb]; exact h9.lay (fun e => by cases e)
        · have hb : b8 = false := hb
          refine W.call_of (c_at (p := ⟨T, (some ad, can, cac), (some ad2, xan, xac), (ka, kan, kac)⟩) (hP0.c.mono (keep m789).le) x.column) ?_
          rintro _ _ ⟨rfl, rfl⟩
          refine ⟨((colOf T x.column, ()), ()), rfl, ?_⟩
          refine ck_st h9 ⟨⟨k + 1, by rw [hw], hlt, ?_, m789.updLater (.inl (by simp))⟩, hmeas⟩
          rw [hnext, hb]
          have e1 : (decide (colOf T x.column < 0)) = (false || !decide (0 ≤ colOf T x.column)) := by
            by_cases hh : colOf T x.column < 0
            · rw [decide_eq_true hh, decide_eq_false (by omega)]; (first | done | rfl)
            · rw [decide_eq_false hh, decide_eq_true (by omega)]; (first | done | rfl)
          rw [← e1]
          exact h9.lay (fun _ => hb)
      · have hall : T.idxs.take k = T.idxs := List.take_of_length_le (by omega)
        have hku : upTo (condI (idxB T) T.idxs) k = allI (idxB T) T.idxs := by unfold allI; rw [show k = T.idxs.length by omega]
        rw [hall, hku] at h7
        obtain ⟨P2, hP2⟩ : ∃ P, (P1 && (allI (idxB T) T.idxs && runIds last (T.idxs.map (·.id)) sd2)) = P := ⟨_, rfl⟩
        obtain ⟨sd3, hsd3⟩ : ∃ l, (T.idxs.map (·.id)).reverse ++ sd2 = l := ⟨_, rfl⟩
        rw [hP2, hsd3] at h7 hgoal
        rw [hsd3] at hseen
        refine ⟨fun z s' => ∃ k : Nat, z = ((S.version, S.last, (ta, tn, tc), ()), (T.id, T.name, (some ad, can, cac), (xa, xan, xac), (ka, kan, kac), ()), ((ka, kan, kac), ()), ((kan : Int), ()), ((k : Int), ()), ()) ∧ k ≤ kan ∧
          Ck s' c m last (!(P2 && (upTo (condI (keyB S T) T.keys) k && runIds last ((T.keys.take k).map (·.id)) sd3))) (((T.keys.take k).map (·.id)).reverse ++ sd3) ∧ Fw.Mod [c, m] s s', fun z _ => kan - z.2.2.2.2.1.1.toNat, ⟨0, rfl, Nat.zero_le _, by simpa [upTo_zero, runIds] using h7, m7⟩, ?_⟩
        rintro _ s8 ⟨k, rfl, hk, h8, m8⟩
        simp only [W.br_iff, decide_eq_true_eq, decide_eq_false_iff_not]
        refine ⟨fun hlt => ?_, fun hge => ?_⟩
        · have hlt : k < kan := by omega
          obtain ⟨x, hx⟩ : ∃ x, T.keys[k]? = some x := ⟨_, List.getElem?_eq_getElem (by omega)⟩
          obtain ⟨ad2, had2, hh⟩ := (hP0.k.mono (keep m8).le).el.at_enc hx
          dsimp only at had2
          subst had2
          have hstep := ids_take (·.id) hx
          have hnext : (!(P2 && (upTo (condI (keyB S T) T.keys) (k + 1) && runIds last ((T.keys.take (k + 1)).map (·.id)) sd3))) = (((!(P2 && (upTo (condI (keyB S T) T.keys) k && runIds last ((T.keys.take k).map (·.id)) sd3))) || !((decide (1 ≤ x.id) && decide (x.id ≤ last)) && !decide (x.id ∈ ((T.keys.take k).map (·.id)).reverse ++ sd3))) || !stateB x.state || !(decide (0 ≤ colOf T x.column) && (decide (0 ≤ tabOf S x.parent) && parB S T x))) := by
            rw [upTo_succ, condI_at hx, hstep, runIds_snoc, loop_bool]; (first | done | rfl)
          have hsn2 : (((T.keys.take (k + 1)).map (·.id)).reverse ++ sd3) = x.id :: (((T.keys.take k).map (·.id)).reverse ++ sd3) := by rw [hstep]; simp
          refine ⟨by omega, ?_⟩
          simp only [W.unSome_some]
          refine ld_has_z hh (y := (x.id, x.name, x.column, x.parent, x.state, ())) rfl ?_
          refine W.call_of (c_ckId h8 x.id) ?_
          rintro _ s9 ⟨rfl, h9, m9⟩
          refine ⟨(), rfl, ?_⟩
          refine W.call_of (c_ckState h9 x.state) ?_
          rintro _ s10 ⟨rfl, h10, m10⟩
          refine ⟨(), rfl, ?_⟩
          rw [← hsn2] at h10
          generalize hb8 : ((!(P2 && (upTo (condI (keyB S T) T.keys) k && runIds last ((T.keys.take k).map (·.id)) sd3))) || !((decide (1 ≤ x.id) && decide (x.id ≤ last)) && !decide (x.id ∈ ((T.keys.take k).map (·.id)).reverse ++ sd3)) || !stateB x.state) = b8 at h10 hnext
          have mall := (m8.trans m9).trans m10
          have hw := wrap_succ (k := k) (by omega)
          have hmeas : kan - (IntKind.i64.wrap ((k : Int) + 1)).toNat < kan - ((k : Int)).toNat := by rw [hw]; simp only [Int.toNat_natCast]; omega
          have fin : ∀ b', (b' = false → b8 = false) → b' = (b8 || !(decide (0 ≤ colOf T x.column) && (decide (0 ≤ tabOf S x.parent) && parB S T x))) →
              Ck (s10.upd c (.cells #[.int .i64 last, .map (some m), .bool b'] 201 (0, 0))) c m last (!(P2 && (upTo (condI (keyB S T) T.keys) (k + 1) && runIds last ((T.keys.take (k + 1)).map (·.id)) sd3))) (((T.keys.take (k + 1)).map (·.id)).reverse ++ sd3) ∧ Fw.Mod [c, m] s (s10.upd c (.cells #[.int .i64 last, .map (some m), .bool b'] 201 (0, 0))) := by
            intro b' hb he
            rw [hnext, ← he]
            exact ⟨h10.lay hb, mall.updLater (.inl (by simp))⟩
          refine W.callQ_of ((colOf T x.column, ()), ()) (c_at (p := ⟨T, (some ad, can, cac), (xa, xan, xac), (some ad2, kan, kac)⟩) (hP0.c.mono (keep mall).le) x.column) rfl ?_
          refine W.callQ_of ((tabOf S x.parent, ()), ()) (c_byId (t := (ta, tn, tc)) (hS.mono (keep mall).le) x.parent) rfl ?_
          refine ck_ld h10 ?_
          simp only [W.br_iff, decide_eq_true_eq, decide_eq_false_iff_not]
          refine ⟨fun hb => ck_st h10 ⟨⟨k + 1, by rw [hw], hlt, fin true (fun e => by cases e) (by have hb : b8 = true := hb
                                                                                                   rw [hb]; (first | done | rfl))⟩, hmeas⟩, fun hb => ?_⟩
          have hb : b8 = false := hb
          refine ⟨fun h1 => ck_st h10 ⟨⟨k + 1, by rw [hw], hlt, fin true (fun e => by cases e) (by rw [decide_eq_false (p := 0 ≤ colOf T x.column) (by omega)]; simp)⟩, hmeas⟩, fun h1 => ?_⟩
          refine ⟨fun h2 => ck_st h10 ⟨⟨k + 1, by rw [hw], hlt, fin true (fun e => by cases e) (by rw [decide_eq_false (p := 0 ≤ tabOf S x.parent) (by omega)]; simp)⟩, hmeas⟩, fun h2 => ?_⟩
          have hSn := hS.mono (keep mall).le
          obtain ⟨j, P, hj, hPj, _, _⟩ : ∃ (j : Nat) (P : Tab), tabOf S x.parent = (j : Int) ∧ S.tabs[j]? = some P ∧ True ∧ True := by
            rcases seek_spec (p := fun T : Tab => decide (T.id = x.parent)) S.tabs 0 with ⟨e, _⟩ | ⟨j, P, e, e2, _⟩
            · exact absurd e (by unfold tabOf at h2; omega)
            · exact ⟨j, P, by unfold tabOf; rw [e]; simp, e2, trivial, trivial⟩
          obtain ⟨j2, C, hj2, hCj, _, _⟩ : ∃ (j : Nat) (C : Col), colOf T x.column = (j : Int) ∧ T.cols[j]? = some C ∧ True ∧ True := by
            rcases seek_spec (p := fun c : Col => decide (c.id = x.column)) T.cols 0 with ⟨e, _⟩ | ⟨j, P, e, e2, _⟩
            · exact absurd e (by unfold colOf at h1; omega)
            · exact ⟨j, P, by unfold colOf; rw [e]; simp, e2, trivial, trivial⟩
          have hpar : parB S T x = (match P.cols with | c0 :: _ => decide (C.kind = c0.kind) | [] => false) := by unfold parB; rw [hj, hj2]; simp only [Int.toNat_natCast, hPj, hCj] <;> rfl
          obtain ⟨pp, hpp, hppT⟩ : ∃ pp, ps[j]? = some pp ∧ pp.T = P := by
            rw [hS.eq, List.getElem?_map] at hPj
            cases hq : ps[j]? with
            | none => rw [hq] at hPj; cases hPj
            | some pp => rw [hq] at hPj; exact ⟨pp, rfl, Option.some.inj hPj⟩
          have hjl := (List.getElem?_eq_some_iff.1 hpp).1
          have hj2l := (List.getElem?_eq_some_iff.1 hCj).1
          have htn : tn = ps.length := hSn.el.len
          obtain ⟨ad3, had3, hh3⟩ := hSn.el.el.at_enc hpp
          dsimp only at had3
          subst had3
          have hPP := hSn.all pp (get_mem hpp)
          obtain ⟨PT, ⟨pca, pcn, pcc⟩, ⟨pxa, pxn, pxc⟩, ⟨pka, pkn, pkc⟩⟩ := pp
          dsimp only at hppT
          subst hppT
          have hpcn : pcn = PT.cols.length := hPP.c.len
          simp only [hj, hj2, Int.toNat_natCast]
          refine ⟨by omega, ?_⟩
          simp only [W.unSome_some]
          refine ld_has (j := 2) hh3 (cs := [.slice]) (y := ((pca, pcn, pcc), ())) rfl ?_
          simp only [W.br_iff]
          refine ⟨fun h3 => ck_st h10 ⟨⟨k + 1, by rw [hw], hlt, fin true (fun e => by cases e) ?_⟩, hmeas⟩, fun h3 => ?_⟩
          · have h3 : pcn = 0 := by simpa using h3
            have : PT.cols = [] := List.length_eq_zero_iff.1 (by omega)
            rw [hpar, this]; simp
          · have h3 : pcn ≠ 0 := by simpa using h3
            obtain ⟨c1, cs1, hcs1⟩ : ∃ c0 cs, PT.cols = c0 :: cs := by
              cases hc : PT.cols with
              | nil => rw [hc] at hpcn; simp at hpcn; omega
              | cons a b => exact ⟨a, b, rfl⟩
            obtain ⟨ad4, had4, hh4⟩ := (hP0.c.mono (keep mall).le).el.at_enc hCj
            dsimp only at had4
            cases had4
            obtain ⟨ad5, had5, hh5⟩ := hPP.c.el.at_enc (i := 0) (x := c1) (by rw [hcs1]; (first | done | rfl))
            dsimp only at had5
            subst had5
            rw [Nat.zero_mul, add_zero] at hh5
            refine ⟨by omega, ?_⟩
            simp only [W.unSome_some]
            refine ld_has (j := 2) hh4 (cs := [.int .i64]) (y := (C.kind, ())) rfl ?_
            refine ⟨by omega, ?_⟩
            simp only [W.unSome_some]
            refine ld_has (j := 2) hh3 (cs := [.slice]) (y := ((some ad5, pcn, pcc), ())) rfl ?_
            refine ⟨by dsimp only; omega, ?_⟩
            simp only [W.unSome_some]
            refine ld_has (j := 2) hh5 (cs := [.int .i64]) (y := (c1.kind, ())) rfl ?_
            refine ck_st h10 ⟨⟨k + 1, by rw [hw], hlt, fin _ (fun _ => hb) ?_⟩, hmeas⟩
            rw [hb, hpar, hcs1, decide_eq_true (p := 0 ≤ colOf T x.column) (by omega), decide_eq_true (p := 0 ≤ tabOf S x.parent) (by omega)]
            by_cases hq : C.kind = c1.kind <;> simp [hq]
        · have hall : T.keys.take k = T.keys := List.take_of_length_le (by omega)
          have hku : upTo (condI (keyB S T) T.keys) k = allI (keyB S T) T.keys := by unfold allI; rw [show k = T.keys.length by omega]
          rw [hall, hku, hseen, ← hgoal] at h8
          exact ⟨rfl, h8, m8⟩
end
def errS (S : Sch) : Int := if right S = true then 0 else 100
theorem ck_start {s : PH} {last : Int} {bad : Bool} {K : Nat → W.T} {m : Nat} (hm : s m = some (.map #[] 0)) (hK : ∀ c s', Ck s' c m last bad [] → Fw.Mod [] s s' → s c = none → K c s') :
    W.nw (.cells #[.int .i64 last, .map (some m), .bool bad] 201 (0, 0)) K s := by
  refine W.nw_of fun c s1 hc m1 k1 => ?_
  refine hK c s1 ⟨k1, [], ⟨#[], 0, m1.at hm (by simp), rfl, Go.MapKept.stamped_empty 0⟩, fun _ n => by simp⟩ m1 hc
theorem c_Check {s : PH} {t : Tri} {S : Sch} {ps : List TabP} (h : SchIs s t S ps) : DCalls Tryz.prog 80 #[schV S t] s fun y s' => y = .int .i64 (errS S) ∧ s' = s := by
  refine DCalls.quiet ?_
  obtain ⟨ta, tn, tc⟩ := t
  refine ok_Check S.version S.last ta tn tc _ s ?_
  unfold vc_Check
  have htn : tn = ps.length := h.el.len
  have hpl : S.tabs.length = ps.length := by rw [h.eq]; simp
  have hfew := h.el.few
  have hmapeq : ps.map (·.T) = S.tabs := h.eq.symm
  simp only [RP_join]
  refine W.join_gen (fun z s' => ∃ c m, z = ((S.version, S.last, (ta, tn, tc), ()), (some ⟨c, 0, none⟩, ()), ()) ∧ Ck s' c m S.last (!headB S) [] ∧ Fw.Mod [] s s' ∧ s c = none ∧ s m = none) ?_ ?_
  · rintro _ s1 ⟨c, m, rfl, h1, m1, hc, hm⟩
    have keep : ∀ {s'}, Fw.Mod [c, m] s1 s' → Fw.Mod [] s s' := fun mm => m1.fresh mm (by simp [hc, hm])
    simp only [RP_call]
    refine W.call_of (c_namesT h1 (h.el.el.mono m1.le) hfew (fun s' hm => h.el.el.mono (keep hm).le) 0 6) ?_
    rintro _ s2 ⟨rfl, h2, m2⟩
    refine ⟨(), rfl, ?_⟩
    rw [hmapeq] at h2
    obtain ⟨P0, hP0⟩ : ∃ P, (headB S && namesB nameT 0 6 S.tabs) = P := ⟨_, rfl⟩
    have hb2 : (!headB S || !namesB nameT 0 6 S.tabs) = !P0 := by rw [← hP0]; cases headB S <;> cases namesB nameT 0 6 S.tabs <;> rfl
    rw [hb2] at h2
    have hright : right S = (P0 && (allI (fun _ T => tabB S T) S.tabs && runIds S.last (S.tabs.flatMap idsOf) [])) := by
      rw [← hP0]; unfold right; simp only [Bool.and_assoc]
    have hbad : ∀ {b : Bool}, right S = false → errS S = 100 := fun e => by unfold errS; rw [e]; (first | done | rfl)
    simp only [RP_loop]
    refine ⟨fun z s' => ∃ k : Nat, z = ((S.version, S.last, (ta, tn, tc), ()), (some ⟨c, 0, none⟩, ()), ((ta, tn, tc), ()), ((tn : Int), ()), ((k : Int), ()), ()) ∧ k ≤ tn ∧
      Ck s' c m S.last (!(P0 && (upTo (condI (fun _ T => tabB S T) S.tabs) k && runIds S.last ((S.tabs.take k).flatMap idsOf) []))) (((S.tabs.take k).flatMap idsOf).reverse ++ []) ∧ Fw.Mod [c, m] s1 s', fun z _ => tn - z.2.2.2.2.1.1.toNat, ⟨0, rfl, Nat.zero_le _, by simpa [upTo_zero, runIds] using h2, m2⟩, ?_⟩
    rintro _ s3 ⟨k, rfl, hk, h3, m3⟩
    generalize hb3 : (!(P0 && (upTo (condI (fun _ T => tabB S T) S.tabs) k && runIds S.last ((S.tabs.take k).flatMap idsOf) []))) = b3 at h3
    simp only [RP_ite, W.br_iff, decide_eq_true_eq, decide_eq_false_iff_not]
    refine ⟨fun hlt => ?_, fun hge => ?_⟩
    · have hlt : k < tn := by omega
      obtain ⟨p, hp⟩ : ∃ p, ps[k]? = some p := ⟨_, List.getElem?_eq_getElem (by omega)⟩
      have hT : S.tabs[k]? = some p.T := by rw [h.eq, List.getElem?_map, hp]; (first | done | rfl)
      obtain ⟨ad, had, hh⟩ := (h.mono (keep m3).le).el.el.at_enc hp
      dsimp only at had
      subst had
      simp only [RP_guard, W.guard_iff, RP_unSome, W.unSome_some]
      refine ⟨by omega, ?_⟩
      refine ld_has_z hh (y := (p.T.id, p.T.name, p.c, p.x, p.k, ())) rfl ?_
      have := ck_ld h3 (K := fun x => W.br x.1 (W.ret (fun y s' => y = .int .i64 (errS S) ∧ Fw.Mod [] s s') (.int .i64 100)) (W.call Tryz.prog 113 #[cp c, schV S (some ad, tn, tc), tabV p.T p.c p.x p.k] (true, []) fun _ => fun s' =>
          (∃ k_1 : Nat, ((S.version, S.last, (some ad, tn, tc), ()), (some (Addr.mk c 0 none), ()), ((some ad, tn, tc), ()), ((tn : Int), ()), (IntKind.i64.wrap ((k : Int) + 1), ()), ()) = (((S.version, S.last, (some ad, tn, tc), ()), (some (Addr.mk c 0 none), ()), ((some ad, tn, tc), ()), ((tn : Int), ()), ((k_1 : Int), ()), ()) : MDen [(true, [.int .i64, .int .i64, .slice]), (false, [.ptr]), (false, [.slice]), (false, [.int .i64]), (false, [.int .i64])]) ∧ k_1 ≤ tn ∧
            Ck s' c m S.last (!(P0 && (upTo (condI (fun _ T => tabB S T) S.tabs) k_1 && runIds S.last ((S.tabs.take k_1).flatMap idsOf) []))) (((S.tabs.take k_1).flatMap idsOf).reverse ++ []) ∧ Fw.Mod [c, m] s1 s') ∧ tn - (IntKind.i64.wrap ((k : Int) + 1)).toNat < tn - ((k : Int)).toNat)) (by
        simp only [W.br_iff]
        refine ⟨fun hb => ?_, fun hb => ?_⟩
        · have hb : b3 = true := hb
          refine ⟨?_, keep m3⟩
          have e : right S = false := by
            rw [hright]
            rw [hb] at hb3
            have hu : upTo (condI (fun _ T => tabB S T) S.tabs) k = false → allI (fun _ T => tabB S T) S.tabs = false := by
              intro e
              cases ha : allI (fun _ T => tabB S T) S.tabs with
              | false => rfl
              | true =>
                have hall := upTo_iff.1 ha
                have : upTo (condI (fun _ T => tabB S T) S.tabs) k = true := upTo_iff.2 fun i hi => hall i (by omega)
                rw [e] at this; cases this
            have hr : runIds S.last ((S.tabs.take k).flatMap idsOf) [] = false → runIds S.last (S.tabs.flatMap idsOf) [] = false := by
              intro e
              rw [← List.take_append_drop k S.tabs, List.flatMap_append, runIds_app, List.take_append_drop] at *
              rw [e]; (first | done | rfl)
            revert hb3
            cases P0 <;> cases h1 : upTo (condI (fun _ T => tabB S T) S.tabs) k <;> cases h2 : runIds S.last ((S.tabs.take k).flatMap idsOf) [] <;> simp
            all_goals first | (intro _; exact hr h2) | (intro h; rw [hu h1] at h; cases h)
          rw [hbad (b := true) e]
        · have hb : b3 = false := hb
          refine W.call_of (c_ckTable (p := p) h3 h (get_mem hp) (keep m3) hc hm) ?_
          rintro _ s4 ⟨rfl, h4, m4⟩
          refine ⟨(), rfl, ?_⟩
          have hw := wrap_succ (k := k) (by omega)
          have htk : (S.tabs.take (k + 1)).flatMap idsOf = (S.tabs.take k).flatMap idsOf ++ idsOf p.T := by rw [List.take_add_one, hT]; simp
          refine ⟨⟨k + 1, by rw [hw], hlt, ?_, m3.trans m4⟩, by rw [hw]; simp only [Int.toNat_natCast]; omega⟩
          rw [htk, upTo_succ, condI_at hT, runIds_app, List.reverse_append, List.append_assoc]
          have : (!(P0 && ((upTo (condI (fun _ T => tabB S T) S.tabs) k && tabB S p.T) && (runIds S.last ((S.tabs.take k).flatMap idsOf) [] && runIds S.last (idsOf p.T) (((S.tabs.take k).flatMap idsOf).reverse ++ []))))) = (b3 || !(tabB S p.T && runIds S.last (idsOf p.T) (((S.tabs.take k).flatMap idsOf).reverse ++ []))) := by
            rw [← hb3]
            generalize upTo (condI (fun _ T => tabB S T) S.tabs) k = U
            generalize runIds S.last ((S.tabs.take k).flatMap idsOf) [] = R
            generalize runIds S.last (idsOf p.T) _ = R2
            cases P0 <;> cases U <;> cases R <;> cases R2 <;> cases tabB S p.T <;> rfl
          rw [this]; exact h4)
      exact this
    · have hall : S.tabs.take k = S.tabs := List.take_of_length_le (by omega)
      have hku : upTo (condI (fun _ T => tabB S T) S.tabs) k = allI (fun _ T => tabB S T) S.tabs := by unfold allI; rw [show k = S.tabs.length by omega]
      rw [hall, hku, ← hright] at hb3
      simp only [RP_unSome, RP_ld]
      have := ck_ld h3 (K := fun x => W.br x.1 (W.ret (fun y s' => y = .int .i64 (errS S) ∧ Fw.Mod [] s s') (.int .i64 100)) (W.ret (fun y s' => y = .int .i64 (errS S) ∧ Fw.Mod [] s s') (.int .i64 0))) (by
        simp only [W.br_iff]
        refine ⟨fun hb => ⟨?_, keep m3⟩, fun hb => ⟨?_, keep m3⟩⟩
        · have hb : b3 = true := hb
          rw [hb] at hb3
          rw [hbad (b := true) (by simpa using hb3)]
        · have hb : b3 = false := hb
          rw [hb] at hb3
          have : right S = true := by simpa using hb3
          unfold errS; rw [this]; (first | done | rfl))
      exact this
  · intro J hJ
    simp only [RP_nw, RP_ite]
    refine W.nw_of fun m s1 hm m1 k1 => ?_
    have fin : ∀ b, b = !headB S → W.nw (.cells #[.int .i64 S.last, .map (some m), .bool b] 201 (0, 0)) (fun r => J ((S.version, S.last, (ta, tn, tc), ()), (some ⟨r, 0, none⟩, ()), ())) s1 := by
      intro b hb
      refine ck_start k1 fun c s2 h2 m2 hc => ?_
      rw [hb] at h2
      exact hJ _ _ ⟨c, m, rfl, h2, m1.trans m2, m1.none hc (by simp), hm⟩
    simp only [W.br_iff, decide_eq_true_eq, decide_eq_false_iff_not]
    unfold headB at fin
    refine ⟨fun h1 => fin true (by rw [decide_eq_false (p := 0 ≤ S.version) (by omega)]; (first | done | rfl)), fun h1 => ⟨fun h2 => fin true (by rw [decide_eq_false (p := S.version ≤ 1125899906842624) (by omega)]; simp), fun h2 => ⟨fun h3 => fin true (by rw [decide_eq_false (p := 0 ≤ S.last) (by omega)]; simp), fun h3 => fin _ ?_⟩⟩⟩
    rw [decide_eq_true (p := 0 ≤ S.version) (by omega), decide_eq_true (p := S.version ≤ 1125899906842624) (by omega), decide_eq_true (p := 0 ≤ S.last) (by omega)]
    by_cases h4 : S.last ≤ 1125899906842624
    · rw [decide_eq_true h4, decide_eq_false (by omega)]; (first | done | rfl)
    · rw [decide_eq_false h4, decide_eq_true (by omega)]; (first | done | rfl)
end Go.Proofs.YthepfbcgpbkbdaaGreat
end
section
set_option linter.unusedVariables false
set_option maxHeartbeats 1000000
namespace Go.Proofs.YthepfbcgpbkbdaaGreat
open Fw Fw.W Go
/-- lintel/lintellaw15.Example -/
def vc_Example {W : Type} (π : Prims W) : W :=
  π.nw (Go.Obj.cells #[(Go.Value.int (IntKind.i64) ((0 : Int))), (Go.Value.string (ByteArray.mk #[(97 : UInt8)])), (Go.Value.int (IntKind.i64) ((1 : Int))), (Go.Value.int (IntKind.i64) ((0 : Int))), (Go.Value.int (IntKind.i64) ((0 : Int))), (Go.Value.int (IntKind.i64) ((0 : Int))), (Go.Value.string (ByteArray.mk #[])), (Go.Value.int (IntKind.i64) ((0 : Int))), (Go.Value.string (ByteArray.mk #[(98 : UInt8)])), (Go.Value.int (IntKind.i64) ((2 : Int))), (Go.Value.int (IntKind.i64) ((0 : Int))), (Go.Value.int (IntKind.i64) ((0 : Int))), (Go.Value.int (IntKind.i64) ((0 : Int))), (Go.Value.string (ByteArray.mk #[]))] (97 : Nat) ((0 : Nat), (0 : Nat))) fun r0 =>
  π.ret (Go.Value.agg #[(Go.Value.int (IntKind.i64) ((1 : Int))), (Go.Value.string (ByteArray.mk #[(116 : UInt8)])), (Go.Value.string (ByteArray.mk #[])), (Go.Value.string (ByteArray.mk #[])), (Go.Value.string (ByteArray.mk #[])), (Go.Value.bool (false)), (Go.Value.int (IntKind.i64) ((0 : Int))), (Go.Value.int (IntKind.i64) ((0 : Int))), (Go.Value.int (IntKind.i64) ((0 : Int))), (Go.Value.string (ByteArray.mk #[])), (Go.Value.slice (some (Addr.mk r0 (0 : Nat) none)) ((2 : Nat)) ((2 : Nat)))])
def ann_Example : Ann := { draws := [], join := [], loop := [] }
def la_Example : LA := { ptr := [(0, 0, 0)], ty := [(0, 36)] }
set_option maxRecDepth 100000 in
theorem eq_Example {W : Type} (π : Prims W) : bodyL π Tryz.prog la_Example ann_Example (mkFr (maskA [] [] 0) 5) Tryz.f24 (bodyOf Tryz.f24) (mkFr (List.map some []) 5) = vc_Example π := by kernel_rfl
theorem ok_Example (R : Value → PH → Prop) (s : PH) (h : vc_Example (RP Tryz.prog R) s) : DCalls Tryz.prog 24 (List.map AV.val []).toArray s R :=
  calls_vcL (c := bodyOf Tryz.f24) (ann := ann_Example) la_Example (by kernel_rfl) Tryz.func24 rfl (by kernel_rfl) [] [] (by rw [Tryz.ntmps24]; exact Nat.le_of_ble_eq_true rfl) (by kernel_rfl) (by rw [show Tryz.f24.ntmps = 5 from Tryz.ntmps24, eq_Example]; exact h)
end Go.Proofs.YthepfbcgpbkbdaaGreat
end
section
set_option linter.unusedVariables false
set_option linter.unusedSimpArgs false
set_option maxHeartbeats 2000000
set_option maxRecDepth 100000
namespace Go.Proofs.YthepfbcgpbkbdaaGreat
open Fw Go
attribute [-simp] Fw.W.ld_iff Fw.W.st_iff
theorem callq {P : Program} {f : FuncId} {args : Array Value} {r : Bool × List Shape} {k : MDen r.2 → W.T} {s : PH} {v0 : Value} (x : MDen r.2) (h : DCalls P f args s fun v s' => v = v0 ∧ s' = s) (hx : mkRes r x = v0) (hk : k x s) : W.call P f args r k s :=
  W.call_of h (by rintro v s' ⟨rfl, rfl⟩; exact ⟨x, hx, hk⟩)
/-- a list of ids that grows -/
structure Ids (s0 s : PH) (a : Option Addr) (n c : Nat) (l : List Int) : Prop where
  row : rowE intE s 3 a n c l
  fr : ∀ g ∈ Fw.blk a, s0 g = none
  md : Fw.Mod [] s0 s
theorem Ids.nil (s : PH) : Ids s s none 0 0 [] := ⟨⟨by simp, Nat.le_refl _, Nat.zero_le _, .inl ⟨rfl, rfl, rfl⟩⟩, by simp [Fw.blk], Mod.refl _ _⟩
theorem Ids.push {s0 s : PH} {a : Option Addr} {n c : Nat} {l : List Int} {x : Int} {K : Option Addr → Nat → Nat → W.T} (h : Ids s0 s a n c l) (hl : l.length ≤ 4294967296)
    (hK : ∀ a' c' s', Ids s0 s' a' (n + 1) c' (l ++ [x]) → K a' (n + 1) c' s') : W.nw (.cells #[.int .i64 x] 3 (0, 0)) (fun r => W.app 3 1 8 [.int .i64 0] a n c (Src.sl (some ⟨r, 0, none⟩) 1) K) s := by
  refine W.nw_of fun r s1 hr m1 k1 => ?_
  have hmax : maxLen = 9223372036854775807 := rfl
  have hn : n = l.length := h.row.len
  have hrow := h.row.mod m1 (by simp)
  refine app_rowE hrow rfl (ys := [x]) (k := 1) ⟨rfl, ?_⟩ rfl rfl (by omega) (by omega) ?_
  · refine has_one ?_
    have := has_block k1 0 (.int .i64 x) (by simp)
    rwa [add_mk, Nat.zero_add] at this
  · intro a' c' s' h' hm
    refine hK a' c' s' ⟨h', ?_, ?_⟩
    · rcases hm with ⟨rfl, _⟩ | ⟨g, rfl, hg, _⟩
      · exact h.fr
      · intro g' hg'
        have : g' = g := by simpa [Fw.blk] using hg'
        subst this
        exact (h.md.trans m1).none hg (by simp)
    · rcases hm with ⟨rfl, hm⟩ | ⟨g, rfl, hg, hm⟩
      · exact (h.md.trans m1).fresh hm fun g hg => .inr (h.fr g hg)
      · exact (h.md.trans m1).trans hm
theorem allI_iff {α : Type} {p : Nat → α → Bool} {xs : List α} : allI p xs = true ↔ ∀ i x, xs[i]? = some x → p i x = true := by
  unfold allI; rw [upTo_iff]
  constructor
  · intro h i x hx; have := h i (List.getElem?_eq_some_iff.1 hx).1; rwa [condI_at hx] at this
  · intro h i hi
    obtain ⟨x, hx⟩ : ∃ x, xs[i]? = some x := ⟨_, List.getElem?_eq_getElem hi⟩
    rw [condI_at hx]; exact h i x hx
theorem right_iff {S : Sch} : right S = true ↔ headB S = true ∧ S.tabs.length ≤ 6 ∧ allI (nameT S.tabs) S.tabs = true ∧ allI (fun _ T => tabB S T) S.tabs = true ∧ runIds S.last (S.tabs.flatMap idsOf) [] = true := by
  unfold right namesB
  simp only [Bool.and_eq_true, decide_eq_true_eq]
  constructor
  · rintro ⟨a, ⟨_, b, c⟩, d, e⟩; exact ⟨a, by omega, c, d, e⟩
  · rintro ⟨a, b, c, d, e⟩; exact ⟨a, ⟨by omega, by omega, c⟩, d, e⟩
theorem tabB_iff {S : Sch} {T : Tab} : tabB S T = true ↔ 1 ≤ T.cols.length ∧ T.cols.length ≤ 8 ∧ T.idxs.length ≤ 8 ∧ T.keys.length ≤ 8 ∧ allI (nameC T.cols) T.cols = true ∧ allI (nameX T.idxs) T.idxs = true ∧ allI (nameF T.keys) T.keys = true ∧
    first3 T = true ∧ allI colB T.cols = true ∧ allI (idxB T) T.idxs = true ∧ allI (keyB S T) T.keys = true := by
  unfold tabB namesB
  simp only [Bool.and_eq_true, decide_eq_true_eq]
  constructor
  · rintro ⟨⟨a, b, c⟩, ⟨d, e, f⟩, ⟨g, h, i⟩, j, k, l, m⟩; exact ⟨by omega, by omega, by omega, by omega, c, f, i, j, k, l, m⟩
  · rintro ⟨a, b, c, d, e, f, g, h, i, j, k⟩; exact ⟨⟨by omega, by omega, e⟩, ⟨by omega, by omega, f⟩, ⟨by omega, by omega, g⟩, h, i, j, k⟩
end Go.Proofs.YthepfbcgpbkbdaaGreat
end
section
set_option linter.unusedVariables false
set_option linter.unusedSimpArgs false
set_option maxHeartbeats 2000000
set_option maxRecDepth 100000
namespace Go.Proofs.YthepfbcgpbkbdaaGreat
open Fw Go
attribute [-simp] Fw.W.ld_iff Fw.W.st_iff
end Go.Proofs.YthepfbcgpbkbdaaGreat
end
section
set_option linter.unusedVariables false
set_option linter.unusedSimpArgs false
set_option maxHeartbeats 1000000
set_option maxRecDepth 100000
namespace Go.Proofs.YthepfbcgpbkbdaaGreat
open Fw Go
attribute [-simp] Fw.W.ld_iff Fw.W.st_iff
def pubAt (T : Tab) (name : ByteArray) : Int := if 0 ≤ colAt T name then (match T.cols[(colAt T name).toNat]? with | some c => if c.state = 3 then colAt T name else -1 | none => -1) else -1
def dbl (cols : List Col) : Bool := !(upTo (condI (fun i (c : Col) => decide (seek (fun y : Col => decide (y.name = c.name)) cols 0 = i)) cols) cols.length)
def mkCols : Int → List Col → List Col
  | _, [] => []
  | n, c :: cs => ⟨n, c.name, c.kind, 3, ⟨0, 0, ⟨#[]⟩⟩⟩ :: mkCols (n + 1) cs
theorem mkCols_len : ∀ (l : List Col) (n : Int), (mkCols n l).length = l.length
  | [], n => rfl
  | c :: l, n => by simp [mkCols, mkCols_len l]
theorem mkCols_snoc : ∀ (l : List Col) (n : Int) (c : Col), mkCols n (l ++ [c]) = mkCols n l ++ [⟨n + l.length, c.name, c.kind, 3, ⟨0, 0, ⟨#[]⟩⟩⟩]
  | [], n, c => by simp [mkCols]
  | d :: l, n, c => by simp [mkCols, mkCols_snoc l]; omega
abbrev Res := Except Int Sch
def createTurn (S : Sch) (D : Ddl) (st : Int) : Res :=
  if (named D.table && D.cols.all fun c => named c.name) = false then .error 100
  else if (decide (0 ≤ tabAt S D.table) || dbl D.cols) = true then .error 152
  else if (decide (6 ≤ S.tabs.length) || (decide (D.cols.length < 1) || decide (8 < D.cols.length))) = true then .error 156
  else if (D.cols.all fun c => typed c.kind) = false then .error 154
  else if st ≠ 3 then .error 1
  else .ok ⟨S.version, S.last + 1 + D.cols.length, S.tabs ++ [⟨S.last + 1, D.table, mkCols (S.last + 2) D.cols, [], []⟩]⟩
def placed {α : Type} (l : List α) (k : Nat) (st : Int) (x' : α) : List α := if st = 0 then l.eraseIdx k else l.set k x'
def used (T : Tab) (k : Int) (x : Col) : Bool := decide (k = 0) || (T.idxs.any (fun y => decide (y.column = x.id)) || T.keys.any (fun y => decide (y.column = x.id)))
def Col.put (c : Col) (st : Int) : Col := { c with state := st }
def Idx.put (c : Idx) (st : Int) : Idx := { c with state := st }
def For.put (c : For) (st : Int) : For := { c with state := st }
def colTurn (S : Sch) (i : Nat) (T : Tab) (D : Ddl) (st : Int) : Res :=
  if D.kind = 4 ∧ colAt T D.column < 0 then
    if freshE D.column T.cols.length ≠ 0 then .error (freshE D.column T.cols.length)
    else if (typed D.type && fits D.dflt D.type) = false then .error 154
    else if st = 0 then .error 1
    else .ok ⟨S.version, S.last + 1, S.tabs.set i { T with cols := T.cols ++ [⟨S.last + 1, D.column, D.type, st, D.dflt⟩] }⟩
  else if colAt T D.column < 0 then .error 151
  else match T.cols[(colAt T D.column).toNat]? with
  | none => .error 151
  | some x => if D.kind = 4 ∧ x.state = 3 then .error 152
    else if D.kind = 5 ∧ used T (colAt T D.column) x = true then .error 155
    else .ok ⟨S.version, S.last, S.tabs.set i { T with cols := placed T.cols (colAt T D.column).toNat st (x.put st) }⟩
def idxTurn (S : Sch) (i : Nat) (T : Tab) (D : Ddl) (st : Int) : Res :=
  if D.kind = 2 ∧ idxAt T D.name < 0 then
    if freshE D.name T.idxs.length ≠ 0 then .error (freshE D.name T.idxs.length)
    else if pubAt T D.column < 0 then .error 151
    else if st = 0 then .error 1
    else match T.cols[(pubAt T D.column).toNat]? with
    | none => .error 151
    | some c => .ok ⟨S.version, S.last + 1, S.tabs.set i { T with idxs := T.idxs ++ [⟨S.last + 1, D.name, c.id, D.unique, st⟩] }⟩
  else if idxAt T D.name < 0 then .error 153
  else match T.idxs[(idxAt T D.name).toNat]? with
  | none => .error 153
  | some x => if D.kind = 2 ∧ x.state = 3 then .error 152
    else .ok ⟨S.version, S.last, S.tabs.set i { T with idxs := placed T.idxs (idxAt T D.name).toNat st (x.put st) }⟩
def keyTurn (S : Sch) (i : Nat) (T : Tab) (D : Ddl) (st : Int) : Res :=
  if D.kind = 6 ∧ keyAt T D.name < 0 then
    if freshE D.name T.keys.length ≠ 0 then .error (freshE D.name T.keys.length)
    else if pubAt T D.column < 0 then .error 151
    else if tabAt S D.parent < 0 then .error 150
    else match T.cols[(pubAt T D.column).toNat]?, S.tabs[(tabAt S D.parent).toNat]? with
    | some c, some P => (match P.cols with
      | [] => .error 154
      | c0 :: _ => if c.kind ≠ c0.kind then .error 154
        else if st = 0 then .error 1
        else .ok ⟨S.version, S.last + 1, S.tabs.set i { T with keys := T.keys ++ [⟨S.last + 1, D.name, c.id, P.id, st⟩] }⟩)
    | _, _ => .error 151
  else if keyAt T D.name < 0 then .error 153
  else match T.keys[(keyAt T D.name).toNat]? with
  | none => .error 153
  | some x => if D.kind = 6 ∧ x.state = 3 then .error 152
    else .ok ⟨S.version, S.last, S.tabs.set i { T with keys := placed T.keys (keyAt T D.name).toNat st (x.put st) }⟩
def turn1 (S : Sch) (D : Ddl) (st : Int) : Res :=
  if D.kind = 1 then createTurn S D st
  else if tabAt S D.table < 0 then .error 150
  else match S.tabs[(tabAt S D.table).toNat]? with
  | none => .error 150
  | some T => if D.kind = 4 ∨ D.kind = 5 then colTurn S (tabAt S D.table).toNat T D st
    else if D.kind = 2 ∨ D.kind = 3 then idxTurn S (tabAt S D.table).toNat T D st
    else keyTurn S (tabAt S D.table).toNat T D st
abbrev noSch : Sch := ⟨0, 0, []⟩
def Sch.turn (S : Sch) (D : Ddl) (st : Int) : Sch × Int :=
  if (right S && (decide (0 ≤ st) && decide (st ≤ 3))) = false then (noSch, 100)
  else if D.kind < 1 ∨ 7 < D.kind then (noSch, 1)
  else match turn1 { S with version := S.version + 1 } D st with
  | .error e => (noSch, e)
  | .ok S' => (S', 0)
def Res.ErrOk (r : Res) : Prop := ∀ e, r = .error e → e ≠ 0
theorem err_ite {c : Prop} [Decidable c] {a b : Res} (ha : c → a.ErrOk) (hb : ¬ c → b.ErrOk) : Res.ErrOk (if c then a else b) := by
  by_cases h : c
  · rw [if_pos h]; exact ha h
  · rw [if_neg h]; exact hb h
theorem err_e {e : Int} (h : e ≠ 0) : Res.ErrOk (.error e) := fun e' h' => by cases h'; exact h
theorem err_o {S : Sch} : Res.ErrOk (.ok S) := fun e' h' => by cases h'
theorem turn1_err (S : Sch) (D : Ddl) (st : Int) : Res.ErrOk (turn1 S D st) := by
  have h1 : Res.ErrOk (createTurn S D st) := by unfold createTurn; repeat' (first | (refine err_ite (fun _ => ?_) (fun _ => ?_)) | exact err_o | exact err_e (by decide) | exact err_e ‹_› | split)
  have h2 : ∀ i T, Res.ErrOk (colTurn S i T D st) := by intro i T; unfold colTurn; repeat' (first | (refine err_ite (fun _ => ?_) (fun _ => ?_)) | exact err_o | exact err_e (by decide) | exact err_e ‹_› | split)
  have h3 : ∀ i T, Res.ErrOk (idxTurn S i T D st) := by intro i T; unfold idxTurn; repeat' (first | (refine err_ite (fun _ => ?_) (fun _ => ?_)) | exact err_o | exact err_e (by decide) | exact err_e ‹_› | split)
  have h4 : ∀ i T, Res.ErrOk (keyTurn S i T D st) := by intro i T; unfold keyTurn; repeat' (first | (refine err_ite (fun _ => ?_) (fun _ => ?_)) | exact err_o | exact err_e (by decide) | exact err_e ‹_› | split)
  unfold turn1
  repeat' (first | exact h1 | exact h2 _ _ | exact h3 _ _ | exact h4 _ _ | (refine err_ite (fun _ => ?_) (fun _ => ?_)) | exact err_e (by decide) | split)
def Lof (t : Tri) (ps : List TabP) : List Nat := Fw.blk t.1 ++ ps.flatMap TabP.L
structure Has (s : PH) (t : Tri) (ps : List TabP) : Prop where
  row : rowE tabE s 139 t.1 t.2.1 t.2.2 ps
  all : ∀ p ∈ ps, Own s p
  nod : (Lof t ps).Nodup
theorem Has.nil (s : PH) : Has s noTri [] := ⟨rowE.nil, fun p hp => by simp at hp, by simp [Lof, Fw.blk]⟩
theorem Has.known {s : PH} {t : Tri} {ps : List TabP} (h : Has s t ps) : ∀ g ∈ Lof t ps, s g ≠ none := by
  intro g hg
  simp only [Lof, List.mem_append, List.mem_flatMap] at hg
  rcases hg with hg | ⟨p, hp, hg⟩
  · exact h.row.known g hg
  · exact (h.all p hp).known g hg
theorem Lof_t {t : Tri} {ps : List TabP} {g : Nat} (h : g ∈ Fw.blk t.1) : g ∈ Lof t ps := List.mem_append.2 (.inl h)
theorem Lof_p {t : Tri} {ps : List TabP} {p : TabP} (hp : p ∈ ps) {g : Nat} (h : g ∈ p.L) : g ∈ Lof t ps := List.mem_append.2 (.inr (List.mem_flatMap.2 ⟨p, hp, h⟩))
theorem Has.mod {s s' : PH} {t : Tri} {ps : List TabP} {M : List Nat} (h : Has s t ps) (hm : Fw.Mod M s s') (hd : ∀ g ∈ Lof t ps, g ∉ M) : Has s' t ps :=
  ⟨h.row.mod hm fun g hg => hd g (Lof_t hg), fun p hp => (h.all p hp).mod hm fun g hg => hd g (Lof_p hp hg), h.nod⟩
theorem Has.is {s : PH} {t : Tri} {ps : List TabP} (h : Has s t ps) {S : Sch} (he : S.tabs = ps.map (·.T)) (hn : S.tabs.length ≤ 4294967296) (hf : ∀ T ∈ S.tabs, T.Few) : SchIs s t S ps :=
  ⟨Sl.of_row h.row (by rw [he, List.length_map] at hn; exact hn), he, fun p hp => (h.all p hp).is (hf _ (by rw [he]; exact List.mem_map_of_mem hp))⟩
theorem Has.push {s : PH} {a : Option Addr} {n c : Nat} {ps : List TabP} {p : TabP} {K : Option Addr → Nat → Nat → W.T} (h : Has s (a, n, c) ps) (ho : Own s p) (hp : p.L.Nodup) (hd : ∀ g ∈ p.L, g ∉ Lof (a, n, c) ps) (hl : ps.length ≤ 4294967296)
    (hK : ∀ a' c' s', Has s' (a', n + 1, c') (ps ++ [p]) → Step (Lof (a, n, c) ps ++ p.L) (Lof (a', n + 1, c') (ps ++ [p])) s s' → K a' (n + 1) c' s') :
    W.nw (.cells (tabE.f p).toArray 139 (0, 0)) (fun r => W.app 139 5 96 [.int .i64 0, .string ⟨#[]⟩, .slice none 0 0, .slice none 0 0, .slice none 0 0] a n c (Src.sl (some ⟨r, 0, none⟩) 1) K) s := by
  refine W.nw_of fun r s1 hr m1 k1 => ?_
  have hmax : maxLen = 9223372036854775807 := rfl
  have hn : n = ps.length := h.row.len
  have h1 := h.mod m1 (by simp)
  have ho1 := ho.mod m1 (by simp)
  refine app_rowE h1.row rfl (ys := [p]) (k := 1) (src_has (by have := has_block k1; simpa using this) rfl) rfl rfl (by dsimp only; omega) (by dsimp only; omega) ?_
  intro a' c' s' h' hm
  have hdt : ∀ g ∈ ps.flatMap TabP.L, g ∉ Fw.blk a := by
    intro g hg hg2
    have := h.nod
    simp only [Lof, List.nodup_append] at this
    exact this.2.2 g hg2 g hg rfl
  have hrest : (ps.flatMap TabP.L ++ p.L).Nodup := by
    rw [List.nodup_append]
    have := h.nod
    simp only [Lof, List.nodup_append] at this
    refine ⟨this.2.1, hp, ?_⟩
    rintro g hg _ hg2 rfl
    exact hd g hg2 (List.mem_append.2 (.inr hg))
  have hL : Lof (a', n + 1, c') (ps ++ [p]) = Fw.blk a' ++ (ps.flatMap TabP.L ++ p.L) := by simp [Lof, List.flatMap_append]
  have hLp : ∀ g ∈ ps.flatMap TabP.L ++ p.L, g ∈ Lof (a, n, c) ps ++ p.L := by
    intro g hg
    rcases List.mem_append.1 hg with hg | hg
    · exact List.mem_append.2 (.inl (List.mem_append.2 (.inr hg)))
    · exact List.mem_append.2 (.inr hg)
  rcases hm with ⟨rfl, hm⟩ | ⟨g, rfl, hg, hm⟩
  · refine hK _ _ _ ⟨h', ?_, ?_⟩ ⟨(m1.mono (by simp)).trans (hm.mono fun x hx => List.mem_append.2 (.inl (Lof_t (ps := ps) hx))), ?_⟩
    · intro q hq
      rcases List.mem_append.1 hq with hq | hq
      · exact (h1.all q hq).mod hm fun g hg => hdt g (List.mem_flatMap.2 ⟨q, hq, hg⟩)
      · have : q = p := by simpa using hq
        subst this
        exact ho1.mod hm fun g hg hg2 => hd g hg (Lof_t hg2)
    · rw [hL, List.nodup_append]
      refine ⟨blk_nodup _, hrest, ?_⟩
      rintro g hg _ hg2 rfl
      rcases List.mem_append.1 hg2 with hg2 | hg2
      · exact hdt g hg2 hg
      · exact hd g hg2 (Lof_t hg)
    · intro x hx
      rw [hL] at hx
      rcases List.mem_append.1 hx with hx | hx
      · exact .inl (List.mem_append.2 (.inl (Lof_t hx)))
      · exact .inl (hLp x hx)
  · have hg0 : s g = none := m1.none hg (by simp)
    refine hK _ _ _ ⟨h', ?_, ?_⟩ ⟨(m1.trans hm).mono (by simp), ?_⟩
    · intro q hq
      rcases List.mem_append.1 hq with hq | hq
      · exact (h1.all q hq).mod hm (by simp)
      · have : q = p := by simpa using hq
        subst this
        exact ho1.mod hm (by simp)
    · rw [hL, List.nodup_append]
      refine ⟨blk_nodup _, hrest, ?_⟩
      rintro g' hg' _ hg2 rfl
      have : g' = g := by simpa [Fw.blk] using hg'
      subst this
      rcases List.mem_append.1 hg2 with hg2 | hg2
      · exact h.known g' (List.mem_append.2 (.inr hg2)) hg0
      · exact ho.known g' hg2 hg0
    · intro x hx
      rw [hL] at hx
      rcases List.mem_append.1 hx with hx | hx
      · have : x = g := by simpa [Fw.blk] using hx
        subst this
        exact .inr hg0
      · exact .inl (hLp x hx)
theorem Lof_mid {t : Tri} {l r : List TabP} {p : TabP} {g : Nat} : g ∈ Lof t (l ++ p :: r) ↔ (g ∈ Fw.blk t.1 ∨ g ∈ l.flatMap TabP.L ∨ g ∈ r.flatMap TabP.L) ∨ g ∈ p.L := by
  simp only [Lof, List.flatMap_append, List.flatMap_cons, List.mem_append]
  constructor
  · rintro (h | h | h | h)
    · exact .inl (.inl h)
    · exact .inl (.inr (.inl h))
    · exact .inr h
    · exact .inl (.inr (.inr h))
  · rintro ((h | h | h) | h)
    · exact .inl h
    · exact .inr (.inl h)
    · exact .inr (.inr (.inr h))
    · exact .inr (.inr (.inl h))
theorem Lof_nod {t : Tri} {l r : List TabP} {p : TabP} : (Lof t (l ++ p :: r)).Nodup ↔ (Fw.blk t.1 ++ (l.flatMap TabP.L ++ r.flatMap TabP.L)).Nodup ∧ p.L.Nodup ∧ ∀ g ∈ p.L, ¬ (g ∈ Fw.blk t.1 ∨ g ∈ l.flatMap TabP.L ∨ g ∈ r.flatMap TabP.L) := by
  have : (Lof t (l ++ p :: r)).Perm ((Fw.blk t.1 ++ (l.flatMap TabP.L ++ r.flatMap TabP.L)) ++ p.L) := by
    simp only [Lof, List.flatMap_append, List.flatMap_cons, List.append_assoc]
    refine List.Perm.append_left _ (List.Perm.append_left _ List.perm_append_comm)
  rw [this.nodup_iff, List.nodup_append]
  constructor
  · rintro ⟨a, b, c⟩
    refine ⟨a, b, fun g hg h => c g ?_ g hg rfl⟩
    simp only [List.mem_append]; exact h
  · rintro ⟨a, b, c⟩
    refine ⟨a, b, ?_⟩
    rintro g hg _ hg2 rfl
    simp only [List.mem_append] at hg
    exact c g hg2 hg
/-- table i is laid anew, its lists having been worked on -/
theorem Has.put {s s1 : PH} {t : Tri} {ps : List TabP} {i : Nat} {p p' : TabP} {K : W.T} (h : Has s t ps) (hp : ps[i]? = some p) (hm : Fw.Mod p.L s s1) (ho : Own s1 p') (hnd : p'.L.Nodup) (hf : ∀ g ∈ p'.L, g ∈ p.L ∨ s g = none) {j : Nat} {vs : List Value}
    (hx' : tabE.f p' = (tabE.f p).take j ++ vs ++ (tabE.f p).drop (j + vs.length)) (hj : j + vs.length ≤ 5) (hne : vs ≠ []) {g : Nat} (ha : t.1 = some ⟨g, 0, none⟩)
    (hK : ∀ s2, Has s2 t (ps.set i p') → Step (Lof t ps) (Lof t (ps.set i p')) s s2 → K s2) : W.st ⟨g, i * 5 + j, none⟩ vs K s1 := by
  have hi := (List.getElem?_eq_some_iff.1 hp).1
  obtain ⟨l, r, rfl, hl⟩ : ∃ l r, ps = l ++ p :: r ∧ l.length = i := ⟨ps.take i, ps.drop (i + 1), by rw [← drop_some hp, List.take_append_drop], by simp; omega⟩
  subst hl
  have hset : (l ++ p :: r).set l.length p' = l ++ p' :: r := by simp
  rw [hset] at hK
  have hn0 := Lof_nod.1 h.nod
  have hkn := h.known
  have hap : ∀ g, (g ∈ Fw.blk t.1 ∨ g ∈ l.flatMap TabP.L ∨ g ∈ r.flatMap TabP.L) → g ∉ p.L := fun g hg hg2 => hn0.2.2 g hg2 hg
  have hrow1 : rowE tabE s1 139 t.1 t.2.1 t.2.2 (l ++ p :: r) := h.row.mod hm fun g hg => hap g (.inl hg)
  have hvs : ∀ v ∈ vs, v.oneCell' = true := fun v hv => tabE.one p' v (by rw [hx']; simp [hv])
  have hgk : s g ≠ none := h.row.known g (by rw [ha]; simp [Fw.blk])
  have hgp : g ∉ p'.L := fun e => by
    rcases hf g e with e | e
    · exact hap g (.inl (by rw [ha]; simp [Fw.blk])) e
    · exact hgk e
  refine rowE.st (E := tabE) (i := l.length) (j := j) (x' := p') hrow1 hp hx' hj hne hvs ha fun s2 h2 m2 => ?_
  rw [hset] at h2
  have hgl : ∀ x, x ∈ l.flatMap TabP.L ∨ x ∈ r.flatMap TabP.L → x ∉ [g] := by
    intro x hx hx2
    have hx2 : x = g := by simpa using hx2
    subst hx2
    have := hn0.1
    rw [List.nodup_append] at this
    exact this.2.2 x (by rw [ha]; simp [Fw.blk]) x (List.mem_append.2 hx) rfl
  refine hK s2 ⟨h2, ?_, ?_⟩ ⟨?_, ?_⟩
  · intro q hq
    have hq' : q ∈ l ∨ q = p' ∨ q ∈ r := by simpa using hq
    rcases hq' with hq' | rfl | hq'
    · have hL : ∀ x ∈ q.L, x ∈ l.flatMap TabP.L := fun x hx => List.mem_flatMap.2 ⟨q, hq', hx⟩
      exact ((h.all q (by simp [hq'])).mod hm fun x hx => hap x (.inr (.inl (hL x hx)))).mod m2 fun x hx => hgl x (.inl (hL x hx))
    · exact ho.mod m2 fun x hx hx2 => by
        have hx2 : x = g := by simpa using hx2
        subst hx2
        exact hgp hx
    · have hL : ∀ x ∈ q.L, x ∈ r.flatMap TabP.L := fun x hx => List.mem_flatMap.2 ⟨q, hq', hx⟩
      exact ((h.all q (by simp [hq'])).mod hm fun x hx => hap x (.inr (.inr (hL x hx)))).mod m2 fun x hx => hgl x (.inr (hL x hx))
  · refine Lof_nod.2 ⟨hn0.1, hnd, fun x hx hx2 => ?_⟩
    rcases hf x hx with e | e
    · exact hap x hx2 e
    · refine hkn x (Lof_mid.2 (.inl hx2)) e
  · refine (hm.mono fun x hx => Lof_mid.2 (.inr hx)).trans (m2.mono fun x hx => ?_)
    have : x = g := by simpa using hx
    subst this
    exact Lof_t (by rw [ha]; simp [Fw.blk])
  · intro x hx
    rcases Lof_mid.1 hx with hx | hx
    · exact .inl (Lof_mid.2 (.inl hx))
    · rcases hf x hx with e | e
      · exact .inl (Lof_mid.2 (.inr e))
      · exact .inr e
end Go.Proofs.YthepfbcgpbkbdaaGreat
end
section
set_option linter.unusedVariables false
set_option linter.unusedSimpArgs false
set_option maxHeartbeats 1000000
set_option maxRecDepth 100000
namespace Go.Proofs.YthepfbcgpbkbdaaGreat
open Fw Go
attribute [-simp] Fw.W.ld_iff Fw.W.st_iff
/-- an append that has room stays where it is -/
theorem app_room {e : TypeId} {sz bytes : Nat} {zero : List Value} {b : Option Addr} {n c : Nat} {src : Src} {K : Option Addr → Nat → Nat → W.T} {s : PH} (hr : n + src.len ≤ c) (h : W.app e sz bytes zero b n c src (fun a' n' c' s' => (a' = b ∧ c' = c) → K a' n' c' s') s) : W.app e sz bytes zero b n c src K s := by
  obtain ⟨old, news, h1, h2, h3, h4, h5, h6, h7⟩ := h
  refine ⟨old, news, h1, h2, h3, h4, h5, fun hle => ?_, fun hlt => by omega⟩
  have h6 := h6 hle
  cases b with
  | none => exact h6 ⟨rfl, rfl⟩
  | some a => exact ⟨h6.1, h6.2 ⟨rfl, rfl⟩⟩
theorem zeros_one {zero : List Value} (h : ∀ v ∈ zero, v.oneCell' = true) (N : Nat) : (Builtin.zeroCells zero.toArray N).toList.length = N * zero.length ∧ ∀ v ∈ (Builtin.zeroCells zero.toArray N).toList, v.oneCell' = true := by
  refine ⟨by simp [Builtin.zeroCells], fun v hv => ?_⟩
  simp only [Builtin.zeroCells, Array.toList_map, Array.toList_range, List.mem_map, List.mem_range, List.size_toArray] at hv
  obtain ⟨i, hi, rfl⟩ := hv
  have hpos : 0 < zero.length := by
    rcases Nat.eq_zero_or_pos zero.length with q | q
    · rw [q] at hi; omega
    · exact q
  have hlt := Nat.mod_lt i hpos
  rw [getElem!_pos _ _ (by simpa using hlt)]
  exact h _ (by simp)
/-- the room behind a row is cleared -/
theorem clr_tail {α : Type} {E : Enc α} {s : PH} {e : TypeId} {a : Option Addr} {m c N : Nat} {xs : List α} {zero : List Value} {K : W.T} (h : rowE E s e a m c xs) (hz : zero.length = E.sz) (h1 : ∀ v ∈ zero, v.oneCell' = true) (hN : m + N ≤ c)
    (hK : ∀ s', rowE E s' e a m c xs → Fw.Mod (Fw.blk a) s s' → K s') : W.clr zero (if c = m then a else a.map (·.add (m * E.sz))) N K s := by
  obtain ⟨hl, ho⟩ := zeros_one h1 N
  rw [hz] at hl
  unfold W.clr
  generalize (Builtin.zeroCells zero.toArray N).toList = news at hl ho
  by_cases hc : c = m
  · subst hc
    have hN0 : N = 0 := by omega
    subst hN0
    have : news = [] := List.length_eq_zero_iff.1 (by rw [hl, Nat.zero_mul])
    subst this
    rw [if_pos rfl]
    cases a with
    | none => exact hK s h (Mod.refl _ _)
    | some a => exact ⟨fun i hi => absurd hi (Nat.not_lt_zero _), fun v hv => by simp at hv, hK s h (Mod.refl _ _)⟩
  · rw [if_neg hc]
    obtain ⟨g1, g2, g3, ⟨rfl, rfl, rfl⟩ | ⟨g, cur, rfl, hg, hcc, ht⟩⟩ := id h
    · exact absurd rfl hc
    · simp only [Option.map_some, add_mk, Nat.zero_add]
      have hb : (m + N) * E.sz ≤ cur.size := Nat.le_trans (Nat.mul_le_mul_right _ hN) hcc
      rw [Nat.add_mul] at hb
      refine ⟨fun i hi => ?_, ho, ?_⟩
      · rw [add_mk]
        refine ⟨?_, ?_⟩
        · unfold PH.cell?; dsimp only; rw [hg]
          have : m * E.sz + i < cur.size := by omega
          simp [this]
        · unfold PH.frozen?; dsimp only; rw [hg]; simp
      · cases news with
        | nil => exact hK s h (Mod.refl _ _)
        | cons v news =>
          rw [PH.stores_eq (e := e) (f := (0, 0)) rfl (v :: news) 0 cur s hg (by simp)]
          refine hK _ ⟨g1, g2, g3, .inr ⟨g, _, rfl, PH.upd_same _ _ _, by rw [setL_size]; exact hcc, ?_⟩⟩ (Mod.upd (by simp [Fw.blk]))
          simp only [Nat.add_zero]
          rw [setL_toList _ _ _ (by omega), ← ht]
          rw [List.append_assoc, List.take_append_of_le_length (by simp; omega), List.take_take, Nat.min_self]
theorem map_add0 (a : Option Addr) : a.map (·.add 0) = a := by cases a <;> simp [add_zero]
/-- a table's lists worked on: p becomes p' -/
structure Work (s s1 : PH) (p p' : TabP) : Prop where
  md : Fw.Mod p.L s s1
  own : Own s1 p'
  nd : p'.L.Nodup
  fr : ∀ g ∈ p'.L, g ∈ p.L ∨ s g = none
theorem Has.nodp {s : PH} {t : Tri} {ps : List TabP} {p : TabP} (h : Has s t ps) (hp : p ∈ ps) : p.L.Nodup := by
  obtain ⟨l, r, rfl⟩ := List.append_of_mem hp
  exact (Lof_nod.1 h.nod).2.1
theorem Has.put0 {s s1 s2 : PH} {t : Tri} {ps : List TabP} {i : Nat} {p p' : TabP} (h : Has s t ps) (hp : ps[i]? = some p) (hw : Work s s1 p p') (h2 : rowE tabE s2 139 t.1 t.2.1 t.2.2 (ps.set i p')) (m2 : Fw.Mod (Fw.blk t.1) s1 s2) :
    Has s2 t (ps.set i p') ∧ Step (Lof t ps) (Lof t (ps.set i p')) s s2 := by
  obtain ⟨hm, ho, hnd, hf⟩ := hw
  have hi := (List.getElem?_eq_some_iff.1 hp).1
  obtain ⟨l, r, rfl, hl⟩ : ∃ l r, ps = l ++ p :: r ∧ l.length = i := ⟨ps.take i, ps.drop (i + 1), by rw [← drop_some hp, List.take_append_drop], by simp; omega⟩
  subst hl
  have hset : (l ++ p :: r).set l.length p' = l ++ p' :: r := by simp
  rw [hset] at h2 ⊢
  have hn0 := Lof_nod.1 h.nod
  have hkn := h.known
  have hap : ∀ g, (g ∈ Fw.blk t.1 ∨ g ∈ l.flatMap TabP.L ∨ g ∈ r.flatMap TabP.L) → g ∉ p.L := fun g hg hg2 => hn0.2.2 g hg2 hg
  have hgl : ∀ x, x ∈ l.flatMap TabP.L ∨ x ∈ r.flatMap TabP.L → x ∉ Fw.blk t.1 := by
    intro x hx hx2
    have := hn0.1
    rw [List.nodup_append] at this
    exact this.2.2 x hx2 x (List.mem_append.2 hx) rfl
  refine ⟨⟨h2, ?_, ?_⟩, ⟨?_, ?_⟩⟩
  · intro q hq
    have hq' : q ∈ l ∨ q = p' ∨ q ∈ r := by simpa using hq
    rcases hq' with hq' | rfl | hq'
    · have hL : ∀ x ∈ q.L, x ∈ l.flatMap TabP.L := fun x hx => List.mem_flatMap.2 ⟨q, hq', hx⟩
      exact ((h.all q (by simp [hq'])).mod hm fun x hx => hap x (.inr (.inl (hL x hx)))).mod m2 fun x hx => hgl x (.inl (hL x hx))
    · exact ho.mod m2 fun x hx hx2 => by
        rcases hf x hx with e | e
        · exact hap x (.inl hx2) e
        · exact h.row.known x hx2 e
    · have hL : ∀ x ∈ q.L, x ∈ r.flatMap TabP.L := fun x hx => List.mem_flatMap.2 ⟨q, hq', hx⟩
      exact ((h.all q (by simp [hq'])).mod hm fun x hx => hap x (.inr (.inr (hL x hx)))).mod m2 fun x hx => hgl x (.inr (hL x hx))
  · refine Lof_nod.2 ⟨hn0.1, hnd, fun x hx hx2 => ?_⟩
    rcases hf x hx with e | e
    · exact hap x hx2 e
    · refine hkn x (Lof_mid.2 (.inl hx2)) e
  · exact (hm.mono fun x hx => Lof_mid.2 (.inr hx)).trans (m2.mono fun x hx => Lof_t hx)
  · intro x hx
    rcases Lof_mid.1 hx with hx | hx
    · exact .inl (Lof_mid.2 (.inl hx))
    · rcases hf x hx with e | e
      · exact .inl (Lof_mid.2 (.inr e))
      · exact .inr e
theorem Has.same {s s1 : PH} {t : Tri} {ps : List TabP} {i : Nat} {p p' : TabP} (h : Has s t ps) (hp : ps[i]? = some p) (hw : Work s s1 p p') (he : tabE.f p' = tabE.f p) :
    Has s1 t (ps.set i p') ∧ Step (Lof t ps) (Lof t (ps.set i p')) s s1 := by
  refine h.put0 hp hw ?_ (Mod.refl _ _)
  have hi := (List.getElem?_eq_some_iff.1 hp).1
  have hn0 := h.nod
  have hap : ∀ g ∈ Fw.blk t.1, g ∉ p.L := by
    intro g hg hg2
    simp only [Lof, List.nodup_append] at hn0
    exact hn0.2.2 g hg g (List.mem_flatMap.2 ⟨p, List.mem_of_getElem? hp, hg2⟩) rfl
  have hrow := h.row.mod hw.md hap
  unfold rowE at hrow ⊢
  have : (ps.set i p').flatMap tabE.f = ps.flatMap tabE.f := by
    obtain ⟨l, r, e, hl⟩ : ∃ l r, ps = l ++ p :: r ∧ l.length = i := ⟨ps.take i, ps.drop (i + 1), by rw [← drop_some hp, List.take_append_drop], by simp; omega⟩
    subst hl; subst e
    simp [he]
  rw [this]; exact hrow
theorem Has.store {s s1 : PH} {t : Tri} {ps : List TabP} {i : Nat} {p p' : TabP} {K : W.T} (h : Has s t ps) (hp : ps[i]? = some p) (hw : Work s s1 p p') {j : Nat} {vs : List Value}
    (hx' : tabE.f p' = (tabE.f p).take j ++ vs ++ (tabE.f p).drop (j + vs.length)) (hj : j + vs.length ≤ 5) (hne : vs ≠ []) {g : Nat} (ha : t.1 = some ⟨g, 0, none⟩)
    (hK : ∀ s2, Has s2 t (ps.set i p') → Step (Lof t ps) (Lof t (ps.set i p')) s s2 → K s2) : W.st ⟨g, i * 5 + j, none⟩ vs K s1 :=
  h.put hp hw.md hw.own hw.nd hw.fr hx' hj hne ha hK
abbrev zC : List Value := [.int .i64 0, .string ⟨#[]⟩, .int .i64 0, .int .i64 0, .int .i64 0, .int .i64 0, .string ⟨#[]⟩]
theorem work_c {s s1 : PH} {p : TabP} (ho : Own s p) (hn : p.L.Nodup) {u : Tri} {xs : List Col} (hr : rowE colE s1 97 u.1 u.2.1 u.2.2 xs) (hm : Fw.Mod (Fw.blk p.c.1) s s1) (hf : ∀ g ∈ Fw.blk u.1, g ∈ Fw.blk p.c.1 ∨ s g = none) :
    Work s s1 p ⟨{ p.T with cols := xs }, u, p.x, p.k⟩ := by
  have hn' := hn
  simp only [TabP.L, List.nodup_append] at hn'
  obtain ⟨n1, ⟨n2, n3, n4⟩, n5⟩ := hn'
  have e1 : ∀ g ∈ Fw.blk p.c.1, g ∉ Fw.blk p.x.1 := fun g h h2 => n5 g h g (List.mem_append.2 (.inl h2)) rfl
  have e2 : ∀ g ∈ Fw.blk p.c.1, g ∉ Fw.blk p.k.1 := fun g h h2 => n5 g h g (List.mem_append.2 (.inr h2)) rfl
  have e3 : ∀ g ∈ Fw.blk p.x.1, g ∉ Fw.blk p.k.1 := fun g h h2 => n4 g h g h2 rfl
  have e1' : ∀ g ∈ Fw.blk p.x.1, g ∉ Fw.blk p.c.1 := fun g h h2 => e1 g h2 h
  have e2' : ∀ g ∈ Fw.blk p.k.1, g ∉ Fw.blk p.c.1 := fun g h h2 => e2 g h2 h
  have e3' : ∀ g ∈ Fw.blk p.k.1, g ∉ Fw.blk p.x.1 := fun g h h2 => e3 g h2 h
  have kc := ho.c.known
  have kx := ho.x.known
  have kk := ho.k.known
  have ap : ∀ g ∈ Fw.blk u.1, g ∉ Fw.blk p.x.1 ∧ g ∉ Fw.blk p.k.1 := by
    intro g hg
    rcases hf g hg with e | e
    · exact ⟨e1 g e, e2 g e⟩
    · exact ⟨fun h => kx g h e, fun h => kk g h e⟩
  refine ⟨hm.mono fun g hg => by simp only [TabP.L, List.mem_append]; exact .inl hg, ⟨hr, ho.x.mod hm e1', ho.k.mod hm e2'⟩, ?_, ?_⟩
  · simp only [TabP.L, List.nodup_append, List.mem_append]
    exact ⟨blk_nodup _, ⟨n2, n3, n4⟩, fun g hg y hy e => by subst e; exact Or.elim hy (ap g hg).1 (ap g hg).2⟩
  · intro g hg
    simp only [TabP.L, List.mem_append] at hg ⊢
    rcases hg with hg | hg | hg
    · exact (hf g hg).imp_left .inl
    · exact .inl (.inr (.inl hg))
    · exact .inl (.inr (.inr hg))
theorem Has.app_c {s : PH} {t : Tri} {ps : List TabP} {i : Nat} {p : TabP} {K : Option Addr → Nat → Nat → W.T} (h : Has s t ps) (hp : ps[i]? = some p) (x : Col) (hl : p.T.cols.length ≤ 4294967296)
    (hK : ∀ (u : Tri) s1, u.2.1 = p.c.2.1 + 1 → Work s s1 p ⟨{ p.T with cols := p.T.cols ++ [x] }, u, p.x, p.k⟩ → K u.1 u.2.1 u.2.2 s1) : W.nw (.cells (colE.f x).toArray 97 (0, 0)) (fun r => W.app 97 7 72 zC p.c.1 p.c.2.1 p.c.2.2 (Src.sl (some ⟨r, 0, none⟩) 1) K) s := by
  refine W.nw_of fun r s1 hr m1 k1 => ?_
  have hmax : maxLen = 9223372036854775807 := rfl
  have hpm := List.mem_of_getElem? hp
  have ho := h.all p hpm
  have hn : p.c.2.1 = p.T.cols.length := ho.c.len
  refine app_rowE (ho.c.mod m1 (by simp)) rfl (ys := [x]) (k := 1) (src_has (by have := has_block k1; simpa using this) rfl) rfl rfl (by omega) (by omega) ?_
  intro a' c' s2 h' hm
  refine hK (a', p.c.2.1 + 1, c') s2 rfl (work_c ho (h.nodp hpm) (u := (a', p.c.2.1 + 1, c')) h' ?_ ?_)
  · rcases hm with ⟨_, hm⟩ | ⟨g, _, _, hm⟩
    · exact (m1.mono (by simp)).trans hm
    · exact (m1.trans hm).mono (by simp)
  · rcases hm with ⟨e, hm⟩ | ⟨g, e, hg, hm⟩
    · intro g hg; dsimp only at hg; rw [e] at hg; exact .inl hg
    · intro g' hg'
      dsimp only at hg'
      rw [e] at hg'
      have : g' = g := by simpa [Fw.blk] using hg'
      subst this
      exact .inr (m1.none hg (by simp))
theorem c_DeleteC {s : PH} {a : Option Addr} {n c k : Nat} {xs : List Col} (h : rowE colE s 97 a n c xs) (hk : k < n) (hl : n ≤ 4294967296) : DCalls Tryz.prog 194 #[.slice a n c, .int .i64 k, .int .i64 ((k + 1 : Nat) : Int)] s fun y s' =>
    y = .slice a (n - 1) c ∧ rowE colE s' 97 a (n - 1) c (xs.eraseIdx k) ∧ Fw.Mod (Fw.blk a) s s' := by
  refine ok_DeleteC a n c k ((k + 1 : Nat) : Int) _ s ?_
  unfold vc_DeleteC
  have hn : n = xs.length := h.len
  have hle := h.le
  have hmax : maxLen = 9223372036854775807 := rfl
  have hcm := h.max
  simp only [RP_guard, W.guard_iff, RP_ite, W.br_iff, RP_app, RP_ret, RP_clr]
  refine ⟨by omega, fun e => ?_, fun _ => ?_⟩
  · have e : (k : Int) = ((k + 1 : Nat) : Int) := by simpa using e
    omega
  refine ⟨by omega, by omega, ?_⟩
  have hpre : rowE colE s 97 a k c (xs.take k) := by
    have := h.shrink (m := k) (c' := c) (by omega) (by omega) (Nat.le_refl _)
    have e : (if a = none then none else a) = a := by cases a <;> simp
    rwa [e] at this
  have hsrc := h.src (i := k + 1) (m := n - (k + 1)) (by omega)
  have he : (if c = 0 then a else Option.map (fun x => x.add 0) a) = a := by split <;> simp [map_add0]
  simp only [Int.toNat_natCast, Nat.sub_zero, he]
  refine app_room (by show k + (n - (k + 1)) ≤ c; omega) ?_
  refine app_rowE hpre rfl (ys := (xs.drop (k + 1)).take (n - (k + 1))) (k := n - (k + 1)) hsrc rfl (by rw [List.length_take, List.length_drop]; omega) (by omega) (by omega) ?_
  rintro a' c' s' h' hm ⟨rfl, rfl⟩
  have hlist : xs.take k ++ (xs.drop (k + 1)).take (n - (k + 1)) = xs.eraseIdx k := by
    rw [List.eraseIdx_eq_take_drop_succ, List.take_of_length_le (l := xs.drop (k + 1)) (by rw [List.length_drop]; omega)]
  rw [hlist, show k + (n - (k + 1)) = n - 1 by omega] at h'
  have hm' : Fw.Mod (Fw.blk a') s s' := by
    rcases hm with ⟨_, hm⟩ | ⟨g, e, hg, hm⟩
    · exact hm
    · exact hm.mono (by simp)
  rw [show k + (n - (k + 1)) = n - 1 by omega]
  refine ⟨by omega, ?_⟩
  try simp only [Int.toNat_natCast]
  refine clr_tail h' rfl (by simp [Value.oneCell']) (by omega) fun s2 h2 m2 => ⟨rfl, h2, hm'.trans m2⟩
theorem c_stateC (A : Addr) (s : PH) : DCalls Tryz.prog 176 #[.pointer (some A)] s fun y s' => y = .pointer (some (A.add 3)) ∧ s' = s := by
  refine ok_stateC A _ s ?_
  unfold vc_stateC
  simp
theorem c_placeC {s : PH} {t : Tri} {ps : List TabP} {i k g : Nat} {p : TabP} {x : Col} (h : Has s t ps) (hp : ps[i]? = some p) (hx : p.T.cols[k]? = some x) (ht : t.1 = some ⟨g, 0, none⟩) (hl : p.T.cols.length ≤ 4294967296) (st : Int) :
    DCalls Tryz.prog 175 #[.pointer (some ⟨g, i * 5 + 2, none⟩), .int .i64 k, .int .i64 st, .func (.func 176) #[] #[]] s fun y s' => y = .tuple #[] ∧
      ∃ ps', Has s' t ps' ∧ ps'.map (·.T) = (ps.map (·.T)).set i { p.T with cols := placed p.T.cols k st (x.put st) } ∧ Step (Lof t ps) (Lof t ps') s s' := by
  refine ok_placeC ⟨g, i * 5 + 2, none⟩ k st _ s ?_
  unfold vc_placeC
  have hpm := List.mem_of_getElem? hp
  have ho := h.all p hpm
  have hn : p.c.2.1 = p.T.cols.length := ho.c.len
  have hkl := (List.getElem?_eq_some_iff.1 hx).1
  obtain ⟨g', hg', hh⟩ := h.row.at hp
  rw [ht] at hg'
  cases hg'
  have hh' : s.has (Addr.mk g (i * 5) none) (tabE.f p) := hh
  have hld : ∀ (K : Den [.slice] → W.T), K (p.c, ()) s → W.ld [.slice] ⟨g, i * 5 + 2, none⟩ K s := by
    intro K hK
    have := ld_has (j := 2) (cs := [.slice]) (y := (p.c, ())) hh' rfl hK
    rwa [add_mk] at this
  simp only [RP_ite, W.br_iff, RP_unSome, W.unSome_some, RP_ld, RP_call, RP_st, RP_ret, RP_guard]
  refine ⟨fun h0 => ?_, fun h0 => ?_⟩
  · have h0 : st = 0 := by simpa using h0
    refine hld _ ?_
    rw [wrap_succ (k := k) (by omega)]
    refine W.call_of (c_DeleteC ho.c (k := k) (by show k < p.c.2.1; omega) (by show p.c.2.1 ≤ _; omega)) ?_
    rintro _ s1 ⟨rfl, h1, m1⟩
    refine ⟨(((p.c.1, p.c.2.1 - 1, p.c.2.2), ()), ()), rfl, ?_⟩
    simp only [W.unSome_some]
    have hw := work_c ho (h.nodp hpm) (u := (p.c.1, p.c.2.1 - 1, p.c.2.2)) h1 m1 (fun g hg => .inl hg)
    refine h.store hp hw (j := 2) (vs := [.slice p.c.1 (p.c.2.1 - 1) p.c.2.2]) rfl (by simp) (by simp) ht fun s2 h2 st2 => ?_
    refine ⟨rfl, _, h2, ?_, st2⟩
    rw [List.map_set]; unfold placed; rw [if_pos h0]
  · have h0 : st ≠ 0 := by simpa using h0
    refine hld _ ?_
    refine ⟨by show (0 : Int) ≤ k ∧ (k : Int) < (p.c.2.1 : Nat); omega, ?_⟩
    obtain ⟨gc, hgc, hhc⟩ := ho.c.at hx
    rw [hgc]
    simp only [W.unSome_some, Int.toNat_natCast]
    refine callq ((some (((Addr.mk gc 0 none).add (k * 7)).add 3), ()), ()) (c_stateC _ s) rfl ?_
    simp only [W.unSome_some, add_mk, Nat.zero_add]
    refine rowE.st (E := colE) (i := k) (j := 3) (x' := x.put st) (vs := [.int .i64 st]) ho.c hx rfl (by show 3 + 1 ≤ 7; omega) (by simp) (by simp [Value.oneCell']) hgc fun s1 h1 m1 => ?_
    have hw := work_c ho (h.nodp hpm) (u := p.c) h1 (m1.mono fun x hx => by rw [hgc]; simpa [Fw.blk] using hx) (fun g hg => .inl hg)
    obtain ⟨h2, st2⟩ := h.same hp hw rfl
    refine ⟨rfl, _, h2, ?_, st2⟩
    rw [List.map_set]; unfold placed; rw [if_neg h0]
abbrev zX : List Value := [.int .i64 0, .string ⟨#[]⟩, .int .i64 0, .bool false, .int .i64 0]
theorem work_x {s s1 : PH} {p : TabP} (ho : Own s p) (hn : p.L.Nodup) {u : Tri} {xs : List Idx} (hr : rowE idxE s1 142 u.1 u.2.1 u.2.2 xs) (hm : Fw.Mod (Fw.blk p.x.1) s s1) (hf : ∀ g ∈ Fw.blk u.1, g ∈ Fw.blk p.x.1 ∨ s g = none) :
    Work s s1 p ⟨{ p.T with idxs := xs }, p.c, u, p.k⟩ := by
  have hn' := hn
  simp only [TabP.L, List.nodup_append] at hn'
  obtain ⟨n1, ⟨n2, n3, n4⟩, n5⟩ := hn'
  have e1 : ∀ g ∈ Fw.blk p.c.1, g ∉ Fw.blk p.x.1 := fun g h h2 => n5 g h g (List.mem_append.2 (.inl h2)) rfl
  have e2 : ∀ g ∈ Fw.blk p.c.1, g ∉ Fw.blk p.k.1 := fun g h h2 => n5 g h g (List.mem_append.2 (.inr h2)) rfl
  have e3 : ∀ g ∈ Fw.blk p.x.1, g ∉ Fw.blk p.k.1 := fun g h h2 => n4 g h g h2 rfl
  have e1' : ∀ g ∈ Fw.blk p.x.1, g ∉ Fw.blk p.c.1 := fun g h h2 => e1 g h2 h
  have e2' : ∀ g ∈ Fw.blk p.k.1, g ∉ Fw.blk p.c.1 := fun g h h2 => e2 g h2 h
  have e3' : ∀ g ∈ Fw.blk p.k.1, g ∉ Fw.blk p.x.1 := fun g h h2 => e3 g h2 h
  have kc := ho.c.known
  have kx := ho.x.known
  have kk := ho.k.known
  have ap : ∀ g ∈ Fw.blk u.1, g ∉ Fw.blk p.c.1 ∧ g ∉ Fw.blk p.k.1 := by
    intro g hg
    rcases hf g hg with e | e
    · exact ⟨e1' g e, e3 g e⟩
    · exact ⟨fun h => kc g h e, fun h => kk g h e⟩
  refine ⟨hm.mono fun g hg => by simp only [TabP.L, List.mem_append]; exact .inr (.inl hg), ⟨ho.c.mod hm e1, hr, ho.k.mod hm e3'⟩, ?_, ?_⟩
  · simp only [TabP.L, List.nodup_append, List.mem_append]
    exact ⟨n1, ⟨blk_nodup _, n3, fun g hg y hy e => by subst e; exact (ap g hg).2 hy⟩, fun g hg y hy e => by subst e; exact Or.elim hy (fun hy => (ap g hy).1 hg) (e2 g hg)⟩
  · intro g hg
    simp only [TabP.L, List.mem_append] at hg ⊢
    rcases hg with hg | hg | hg
    · exact .inl (.inl hg)
    · exact (hf g hg).imp_left fun e => .inr (.inl e)
    · exact .inl (.inr (.inr hg))
theorem Has.app_x {s : PH} {t : Tri} {ps : List TabP} {i : Nat} {p : TabP} {K : Option Addr → Nat → Nat → W.T} (h : Has s t ps) (hp : ps[i]? = some p) (x : Idx) (hl : p.T.idxs.length ≤ 4294967296)
    (hK : ∀ (u : Tri) s1, u.2.1 = p.x.2.1 + 1 → Work s s1 p ⟨{ p.T with idxs := p.T.idxs ++ [x] }, p.c, u, p.k⟩ → K u.1 u.2.1 u.2.2 s1) : W.nw (.cells (idxE.f x).toArray 142 (0, 0)) (fun r => W.app 142 5 48 zX p.x.1 p.x.2.1 p.x.2.2 (Src.sl (some ⟨r, 0, none⟩) 1) K) s := by
  refine W.nw_of fun r s1 hr m1 k1 => ?_
  have hmax : maxLen = 9223372036854775807 := rfl
  have hpm := List.mem_of_getElem? hp
  have ho := h.all p hpm
  have hn : p.x.2.1 = p.T.idxs.length := ho.x.len
  refine app_rowE (ho.x.mod m1 (by simp)) rfl (ys := [x]) (k := 1) (src_has (by have := has_block k1; simpa using this) rfl) rfl rfl (by omega) (by omega) ?_
  intro a' c' s2 h' hm
  refine hK (a', p.x.2.1 + 1, c') s2 rfl (work_x ho (h.nodp hpm) (u := (a', p.x.2.1 + 1, c')) h' ?_ ?_)
  · rcases hm with ⟨_, hm⟩ | ⟨g, _, _, hm⟩
    · exact (m1.mono (by simp)).trans hm
    · exact (m1.trans hm).mono (by simp)
  · rcases hm with ⟨e, hm⟩ | ⟨g, e, hg, hm⟩
    · intro g hg; dsimp only at hg; rw [e] at hg; exact .inl hg
    · intro g' hg'
      dsimp only at hg'
      rw [e] at hg'
      have : g' = g := by simpa [Fw.blk] using hg'
      subst this
      exact .inr (m1.none hg (by simp))
theorem c_DeleteX {s : PH} {a : Option Addr} {n c k : Nat} {xs : List Idx} (h : rowE idxE s 142 a n c xs) (hk : k < n) (hl : n ≤ 4294967296) : DCalls Tryz.prog 196 #[.slice a n c, .int .i64 k, .int .i64 ((k + 1 : Nat) : Int)] s fun y s' =>
    y = .slice a (n - 1) c ∧ rowE idxE s' 142 a (n - 1) c (xs.eraseIdx k) ∧ Fw.Mod (Fw.blk a) s s' := by
  refine ok_DeleteX a n c k ((k + 1 : Nat) : Int) _ s ?_
  unfold vc_DeleteX
  have hn : n = xs.length := h.len
  have hle := h.le
  have hmax : maxLen = 9223372036854775807 := rfl
  have hcm := h.max
  simp only [RP_guard, W.guard_iff, RP_ite, W.br_iff, RP_app, RP_ret, RP_clr]
  refine ⟨by omega, fun e => ?_, fun _ => ?_⟩
  · have e : (k : Int) = ((k + 1 : Nat) : Int) := by simpa using e
    omega
  refine ⟨by omega, by omega, ?_⟩
  have hpre : rowE idxE s 142 a k c (xs.take k) := by
    have := h.shrink (m := k) (c' := c) (by omega) (by omega) (Nat.le_refl _)
    have e : (if a = none then none else a) = a := by cases a <;> simp
    rwa [e] at this
  have hsrc := h.src (i := k + 1) (m := n - (k + 1)) (by omega)
  have he : (if c = 0 then a else Option.map (fun x => x.add 0) a) = a := by split <;> simp [map_add0]
  simp only [Int.toNat_natCast, Nat.sub_zero, he]
  refine app_room (by show k + (n - (k + 1)) ≤ c; omega) ?_
  refine app_rowE hpre rfl (ys := (xs.drop (k + 1)).take (n - (k + 1))) (k := n - (k + 1)) hsrc rfl (by rw [List.length_take, List.length_drop]; omega) (by omega) (by omega) ?_
  rintro a' c' s' h' hm ⟨rfl, rfl⟩
  have hlist : xs.take k ++ (xs.drop (k + 1)).take (n - (k + 1)) = xs.eraseIdx k := by
    rw [List.eraseIdx_eq_take_drop_succ, List.take_of_length_le (l := xs.drop (k + 1)) (by rw [List.length_drop]; omega)]
  rw [hlist, show k + (n - (k + 1)) = n - 1 by omega] at h'
  have hm' : Fw.Mod (Fw.blk a') s s' := by
    rcases hm with ⟨_, hm⟩ | ⟨g, e, hg, hm⟩
    · exact hm
    · exact hm.mono (by simp)
  rw [show k + (n - (k + 1)) = n - 1 by omega]
  refine ⟨by omega, ?_⟩
  try simp only [Int.toNat_natCast]
  refine clr_tail h' rfl (by simp [Value.oneCell']) (by omega) fun s2 h2 m2 => ⟨rfl, h2, hm'.trans m2⟩
theorem c_stateX (A : Addr) (s : PH) : DCalls Tryz.prog 180 #[.pointer (some A)] s fun y s' => y = .pointer (some (A.add 4)) ∧ s' = s := by
  refine ok_stateX A _ s ?_
  unfold vc_stateX
  simp
theorem c_placeX {s : PH} {t : Tri} {ps : List TabP} {i k g : Nat} {p : TabP} {x : Idx} (h : Has s t ps) (hp : ps[i]? = some p) (hx : p.T.idxs[k]? = some x) (ht : t.1 = some ⟨g, 0, none⟩) (hl : p.T.idxs.length ≤ 4294967296) (st : Int) :
    DCalls Tryz.prog 179 #[.pointer (some ⟨g, i * 5 + 3, none⟩), .int .i64 k, .int .i64 st, .func (.func 180) #[] #[]] s fun y s' => y = .tuple #[] ∧
      ∃ ps', Has s' t ps' ∧ ps'.map (·.T) = (ps.map (·.T)).set i { p.T with idxs := placed p.T.idxs k st (x.put st) } ∧ Step (Lof t ps) (Lof t ps') s s' := by
  refine ok_placeX ⟨g, i * 5 + 3, none⟩ k st _ s ?_
  unfold vc_placeX
  have hpm := List.mem_of_getElem? hp
  have ho := h.all p hpm
  have hn : p.x.2.1 = p.T.idxs.length := ho.x.len
  have hkl := (List.getElem?_eq_some_iff.1 hx).1
  obtain ⟨g', hg', hh⟩ := h.row.at hp
  rw [ht] at hg'
  cases hg'
  have hh' : s.has (Addr.mk g (i * 5) none) (tabE.f p) := hh
  have hld : ∀ (K : Den [.slice] → W.T), K (p.x, ()) s → W.ld [.slice] ⟨g, i * 5 + 3, none⟩ K s := by
    intro K hK
    have := ld_has (j := 3) (cs := [.slice]) (y := (p.x, ())) hh' rfl hK
    rwa [add_mk] at this
  simp only [RP_ite, W.br_iff, RP_unSome, W.unSome_some, RP_ld, RP_call, RP_st, RP_ret, RP_guard]
  refine ⟨fun h0 => ?_, fun h0 => ?_⟩
  · have h0 : st = 0 := by simpa using h0
    refine hld _ ?_
    rw [wrap_succ (k := k) (by omega)]
    refine W.call_of (c_DeleteX ho.x (k := k) (by show k < p.x.2.1; omega) (by show p.x.2.1 ≤ _; omega)) ?_
    rintro _ s1 ⟨rfl, h1, m1⟩
    refine ⟨(((p.x.1, p.x.2.1 - 1, p.x.2.2), ()), ()), rfl, ?_⟩
    simp only [W.unSome_some]
    have hw := work_x ho (h.nodp hpm) (u := (p.x.1, p.x.2.1 - 1, p.x.2.2)) h1 m1 (fun g hg => .inl hg)
    refine h.store hp hw (j := 3) (vs := [.slice p.x.1 (p.x.2.1 - 1) p.x.2.2]) rfl (by simp) (by simp) ht fun s2 h2 st2 => ?_
    refine ⟨rfl, _, h2, ?_, st2⟩
    rw [List.map_set]; unfold placed; rw [if_pos h0]
  · have h0 : st ≠ 0 := by simpa using h0
    refine hld _ ?_
    refine ⟨by show (0 : Int) ≤ k ∧ (k : Int) < (p.x.2.1 : Nat); omega, ?_⟩
    obtain ⟨gc, hgc, hhc⟩ := ho.x.at hx
    rw [hgc]
    simp only [W.unSome_some, Int.toNat_natCast]
    refine callq ((some (((Addr.mk gc 0 none).add (k * 5)).add 4), ()), ()) (c_stateX _ s) rfl ?_
    simp only [W.unSome_some, add_mk, Nat.zero_add]
    refine rowE.st (E := idxE) (i := k) (j := 4) (x' := x.put st) (vs := [.int .i64 st]) ho.x hx rfl (by show 4 + 1 ≤ 5; omega) (by simp) (by simp [Value.oneCell']) hgc fun s1 h1 m1 => ?_
    have hw := work_x ho (h.nodp hpm) (u := p.x) h1 (m1.mono fun x hx => by rw [hgc]; simpa [Fw.blk] using hx) (fun g hg => .inl hg)
    obtain ⟨h2, st2⟩ := h.same hp hw rfl
    refine ⟨rfl, _, h2, ?_, st2⟩
    rw [List.map_set]; unfold placed; rw [if_neg h0]
abbrev zF : List Value := [.int .i64 0, .string ⟨#[]⟩, .int .i64 0, .int .i64 0, .int .i64 0]
theorem work_k {s s1 : PH} {p : TabP} (ho : Own s p) (hn : p.L.Nodup) {u : Tri} {xs : List For} (hr : rowE forE s1 144 u.1 u.2.1 u.2.2 xs) (hm : Fw.Mod (Fw.blk p.k.1) s s1) (hf : ∀ g ∈ Fw.blk u.1, g ∈ Fw.blk p.k.1 ∨ s g = none) :
    Work s s1 p ⟨{ p.T with keys := xs }, p.c, p.x, u⟩ := by
  have hn' := hn
  simp only [TabP.L, List.nodup_append] at hn'
  obtain ⟨n1, ⟨n2, n3, n4⟩, n5⟩ := hn'
  have e1 : ∀ g ∈ Fw.blk p.c.1, g ∉ Fw.blk p.x.1 := fun g h h2 => n5 g h g (List.mem_append.2 (.inl h2)) rfl
  have e2 : ∀ g ∈ Fw.blk p.c.1, g ∉ Fw.blk p.k.1 := fun g h h2 => n5 g h g (List.mem_append.2 (.inr h2)) rfl
  have e3 : ∀ g ∈ Fw.blk p.x.1, g ∉ Fw.blk p.k.1 := fun g h h2 => n4 g h g h2 rfl
  have e1' : ∀ g ∈ Fw.blk p.x.1, g ∉ Fw.blk p.c.1 := fun g h h2 => e1 g h2 h
  have e2' : ∀ g ∈ Fw.blk p.k.1, g ∉ Fw.blk p.c.1 := fun g h h2 => e2 g h2 h
  have e3' : ∀ g ∈ Fw.blk p.k.1, g ∉ Fw.blk p.x.1 := fun g h h2 => e3 g h2 h
  have kc := ho.c.known
  have kx := ho.x.known
  have kk := ho.k.known
  have ap : ∀ g ∈ Fw.blk u.1, g ∉ Fw.blk p.c.1 ∧ g ∉ Fw.blk p.x.1 := by
    intro g hg
    rcases hf g hg with e | e
    · exact ⟨e2' g e, e3' g e⟩
    · exact ⟨fun h => kc g h e, fun h => kx g h e⟩
  refine ⟨hm.mono fun g hg => by simp only [TabP.L, List.mem_append]; exact .inr (.inr hg), ⟨ho.c.mod hm e2, ho.x.mod hm e3, hr⟩, ?_, ?_⟩
  · simp only [TabP.L, List.nodup_append, List.mem_append]
    exact ⟨n1, ⟨n2, blk_nodup _, fun g hg y hy e => by subst e; exact (ap g hy).2 hg⟩, fun g hg y hy e => by subst e; exact Or.elim hy (e1 g hg) (fun hy => (ap g hy).1 hg)⟩
  · intro g hg
    simp only [TabP.L, List.mem_append] at hg ⊢
    rcases hg with hg | hg | hg
    · exact .inl (.inl hg)
    · exact .inl (.inr (.inl hg))
    · exact (hf g hg).imp_left fun e => .inr (.inr e)
theorem Has.app_k {s : PH} {t : Tri} {ps : List TabP} {i : Nat} {p : TabP} {K : Option Addr → Nat → Nat → W.T} (h : Has s t ps) (hp : ps[i]? = some p) (x : For) (hl : p.T.keys.length ≤ 4294967296)
    (hK : ∀ (u : Tri) s1, u.2.1 = p.k.2.1 + 1 → Work s s1 p ⟨{ p.T with keys := p.T.keys ++ [x] }, p.c, p.x, u⟩ → K u.1 u.2.1 u.2.2 s1) : W.nw (.cells (forE.f x).toArray 144 (0, 0)) (fun r => W.app 144 5 48 zF p.k.1 p.k.2.1 p.k.2.2 (Src.sl (some ⟨r, 0, none⟩) 1) K) s := by
  refine W.nw_of fun r s1 hr m1 k1 => ?_
  have hmax : maxLen = 9223372036854775807 := rfl
  have hpm := List.mem_of_getElem? hp
  have ho := h.all p hpm
  have hn : p.k.2.1 = p.T.keys.length := ho.k.len
  refine app_rowE (ho.k.mod m1 (by simp)) rfl (ys := [x]) (k := 1) (src_has (by have := has_block k1; simpa using this) rfl) rfl rfl (by omega) (by omega) ?_
  intro a' c' s2 h' hm
  refine hK (a', p.k.2.1 + 1, c') s2 rfl (work_k ho (h.nodp hpm) (u := (a', p.k.2.1 + 1, c')) h' ?_ ?_)
  · rcases hm with ⟨_, hm⟩ | ⟨g, _, _, hm⟩
    · exact (m1.mono (by simp)).trans hm
    · exact (m1.trans hm).mono (by simp)
  · rcases hm with ⟨e, hm⟩ | ⟨g, e, hg, hm⟩
    · intro g hg; dsimp only at hg; rw [e] at hg; exact .inl hg
    · intro g' hg'
      dsimp only at hg'
      rw [e] at hg'
      have : g' = g := by simpa [Fw.blk] using hg'
      subst this
      exact .inr (m1.none hg (by simp))
theorem c_DeleteF {s : PH} {a : Option Addr} {n c k : Nat} {xs : List For} (h : rowE forE s 144 a n c xs) (hk : k < n) (hl : n ≤ 4294967296) : DCalls Tryz.prog 198 #[.slice a n c, .int .i64 k, .int .i64 ((k + 1 : Nat) : Int)] s fun y s' =>
    y = .slice a (n - 1) c ∧ rowE forE s' 144 a (n - 1) c (xs.eraseIdx k) ∧ Fw.Mod (Fw.blk a) s s' := by
  refine ok_DeleteF a n c k ((k + 1 : Nat) : Int) _ s ?_
  unfold vc_DeleteF
  have hn : n = xs.length := h.len
  have hle := h.le
  have hmax : maxLen = 9223372036854775807 := rfl
  have hcm := h.max
  simp only [RP_guard, W.guard_iff, RP_ite, W.br_iff, RP_app, RP_ret, RP_clr]
  refine ⟨by omega, fun e => ?_, fun _ => ?_⟩
  · have e : (k : Int) = ((k + 1 : Nat) : Int) := by simpa using e
    omega
  refine ⟨by omega, by omega, ?_⟩
  have hpre : rowE forE s 144 a k c (xs.take k) := by
    have := h.shrink (m := k) (c' := c) (by omega) (by omega) (Nat.le_refl _)
    have e : (if a = none then none else a) = a := by cases a <;> simp
    rwa [e] at this
  have hsrc := h.src (i := k + 1) (m := n - (k + 1)) (by omega)
  have he : (if c = 0 then a else Option.map (fun x => x.add 0) a) = a := by split <;> simp [map_add0]
  simp only [Int.toNat_natCast, Nat.sub_zero, he]
  refine app_room (by show k + (n - (k + 1)) ≤ c; omega) ?_
  refine app_rowE hpre rfl (ys := (xs.drop (k + 1)).take (n - (k + 1))) (k := n - (k + 1)) hsrc rfl (by rw [List.length_take, List.length_drop]; omega) (by omega) (by omega) ?_
  rintro a' c' s' h' hm ⟨rfl, rfl⟩
  have hlist : xs.take k ++ (xs.drop (k + 1)).take (n - (k + 1)) = xs.eraseIdx k := by
    rw [List.eraseIdx_eq_take_drop_succ, List.take_of_length_le (l := xs.drop (k + 1)) (by rw [List.length_drop]; omega)]
  rw [hlist, show k + (n - (k + 1)) = n - 1 by omega] at h'
  have hm' : Fw.Mod (Fw.blk a') s s' := by
    rcases hm with ⟨_, hm⟩ | ⟨g, e, hg, hm⟩
    · exact hm
    · exact hm.mono (by simp)
  rw [show k + (n - (k + 1)) = n - 1 by omega]
  refine ⟨by omega, ?_⟩
  try simp only [Int.toNat_natCast]
  refine clr_tail h' rfl (by simp [Value.oneCell']) (by omega) fun s2 h2 m2 => ⟨rfl, h2, hm'.trans m2⟩
theorem c_stateF (A : Addr) (s : PH) : DCalls Tryz.prog 183 #[.pointer (some A)] s fun y s' => y = .pointer (some (A.add 4)) ∧ s' = s := by
  refine ok_stateF A _ s ?_
  unfold vc_stateF
  simp
theorem c_placeF {s : PH} {t : Tri} {ps : List TabP} {i k g : Nat} {p : TabP} {x : For} (h : Has s t ps) (hp : ps[i]? = some p) (hx : p.T.keys[k]? = some x) (ht : t.1 = some ⟨g, 0, none⟩) (hl : p.T.keys.length ≤ 4294967296) (st : Int) :
    DCalls Tryz.prog 182 #[.pointer (some ⟨g, i * 5 + 4, none⟩), .int .i64 k, .int .i64 st, .func (.func 183) #[] #[]] s fun y s' => y = .tuple #[] ∧
      ∃ ps', Has s' t ps' ∧ ps'.map (·.T) = (ps.map (·.T)).set i { p.T with keys := placed p.T.keys k st (x.put st) } ∧ Step (Lof t ps) (Lof t ps') s s' := by
  refine ok_placeF ⟨g, i * 5 + 4, none⟩ k st _ s ?_
  unfold vc_placeF
  have hpm := List.mem_of_getElem? hp
  have ho := h.all p hpm
  have hn : p.k.2.1 = p.T.keys.length := ho.k.len
  have hkl := (List.getElem?_eq_some_iff.1 hx).1
  obtain ⟨g', hg', hh⟩ := h.row.at hp
  rw [ht] at hg'
  cases hg'
  have hh' : s.has (Addr.mk g (i * 5) none) (tabE.f p) := hh
  have hld : ∀ (K : Den [.slice] → W.T), K (p.k, ()) s → W.ld [.slice] ⟨g, i * 5 + 4, none⟩ K s := by
    intro K hK
    have := ld_has (j := 4) (cs := [.slice]) (y := (p.k, ())) hh' rfl hK
    rwa [add_mk] at this
  simp only [RP_ite, W.br_iff, RP_unSome, W.unSome_some, RP_ld, RP_call, RP_st, RP_ret, RP_guard]
  refine ⟨fun h0 => ?_, fun h0 => ?_⟩
  · have h0 : st = 0 := by simpa using h0
    refine hld _ ?_
    rw [wrap_succ (k := k) (by omega)]
    refine W.call_of (c_DeleteF ho.k (k := k) (by show k < p.k.2.1; omega) (by show p.k.2.1 ≤ _; omega)) ?_
    rintro _ s1 ⟨rfl, h1, m1⟩
    refine ⟨(((p.k.1, p.k.2.1 - 1, p.k.2.2), ()), ()), rfl, ?_⟩
    simp only [W.unSome_some]
    have hw := work_k ho (h.nodp hpm) (u := (p.k.1, p.k.2.1 - 1, p.k.2.2)) h1 m1 (fun g hg => .inl hg)
    refine h.store hp hw (j := 4) (vs := [.slice p.k.1 (p.k.2.1 - 1) p.k.2.2]) rfl (by simp) (by simp) ht fun s2 h2 st2 => ?_
    refine ⟨rfl, _, h2, ?_, st2⟩
    rw [List.map_set]; unfold placed; rw [if_pos h0]
  · have h0 : st ≠ 0 := by simpa using h0
    refine hld _ ?_
    refine ⟨by show (0 : Int) ≤ k ∧ (k : Int) < (p.k.2.1 : Nat); omega, ?_⟩
    obtain ⟨gc, hgc, hhc⟩ := ho.k.at hx
    rw [hgc]
    simp only [W.unSome_some, Int.toNat_natCast]
    refine callq ((some (((Addr.mk gc 0 none).add (k * 5)).add 4), ()), ()) (c_stateF _ s) rfl ?_
    simp only [W.unSome_some, add_mk, Nat.zero_add]
    refine rowE.st (E := forE) (i := k) (j := 4) (x' := x.put st) (vs := [.int .i64 st]) ho.k hx rfl (by show 4 + 1 ≤ 5; omega) (by simp) (by simp [Value.oneCell']) hgc fun s1 h1 m1 => ?_
    have hw := work_k ho (h.nodp hpm) (u := p.k) h1 (m1.mono fun x hx => by rw [hgc]; simpa [Fw.blk] using hx) (fun g hg => .inl hg)
    obtain ⟨h2, st2⟩ := h.same hp hw rfl
    refine ⟨rfl, _, h2, ?_, st2⟩
    rw [List.map_set]; unfold placed; rw [if_neg h0]
end Go.Proofs.YthepfbcgpbkbdaaGreat
end
section
set_option linter.unusedVariables false
set_option linter.unusedSimpArgs false
set_option maxHeartbeats 1000000
set_option maxRecDepth 100000
namespace Go.Proofs.YthepfbcgpbkbdaaGreat
open Fw Go
attribute [-simp] Fw.W.ld_iff Fw.W.st_iff
theorem seek_cases {α : Type} (p : α → Bool) (l : List α) : (seek p l 0 = -1 ∧ ∀ x ∈ l, p x = false) ∨ ∃ (j : Nat) (x : α), seek p l 0 = (j : Int) ∧ l[j]? = some x ∧ p x = true ∧ ∀ j' y, j' < j → l[j']? = some y → p y = false := by
  rcases seek_spec (p := p) l 0 with h | ⟨j, x, h1, h2, h3, h4⟩
  · exact .inl h
  · exact .inr ⟨j, x, by simpa using h1, h2, h3, h4⟩
theorem seek_any {α : Type} (p : α → Bool) (l : List α) : decide (0 ≤ seek p l 0) = l.any p := by
  rcases seek_cases p l with ⟨h1, h2⟩ | ⟨j, x, h1, h2, h3, _⟩
  · rw [h1]
    have : l.any p = false := by rw [List.any_eq_false]; intro x hx; simp [h2 x hx]
    rw [this]; (first | done | rfl)
  · rw [h1]
    have : l.any p = true := List.any_eq_true.2 ⟨x, List.mem_of_getElem? h2, h3⟩
    rw [this]; exact decide_eq_true (by omega)
theorem seek_here {α : Type} {p : α → Bool} {l : List α} {k : Nat} {x : α} (hx : l[k]? = some x) (hp : p x = true) : seek p l 0 = (k : Int) ↔ ∀ y ∈ l.take k, p y = false := by
  rcases seek_cases p l with ⟨h1, h2⟩ | ⟨j, y, h1, h2, h3, h4⟩
  · have := h2 x (List.mem_of_getElem? hx); rw [hp] at this; cases this
  · rw [h1]
    constructor
    · intro e
      have e : j = k := by omega
      subst e
      intro z hz
      obtain ⟨i, hi⟩ := List.mem_iff_getElem?.1 hz
      rw [List.getElem?_take] at hi
      split at hi
      · exact h4 i z ‹_› hi
      · cases hi
    · intro h
      rcases Nat.lt_trichotomy j k with q | q | q
      · have := h y (List.mem_iff_getElem?.2 ⟨j, by rw [List.getElem?_take_of_lt q]; exact h2⟩)
        rw [h3] at this; cases this
      · rw [q]
      · have := h4 k x q hx
        rw [hp] at this; cases this
theorem pubAt_lt {T : Tab} {name : ByteArray} {s : PH} {t : Tri} : pubAt T name < 0 ∨ ∃ (j : Nat) (c : Col), pubAt T name = (j : Int) ∧ T.cols[j]? = some c ∧ c.state = 3 := by
  unfold pubAt colAt
  rcases seek_cases (fun c : Col => decide (c.name = name)) T.cols with ⟨h1, h2⟩ | ⟨j, c, h1, h2, h3, h4⟩
  · rw [h1]; left; simp
  · rw [h1, if_pos (by omega)]
    simp only [Int.toNat_natCast, h2]
    by_cases h : c.state = 3
    · rw [if_pos h]; exact .inr ⟨j, c, rfl, h2, h⟩
    · rw [if_neg h]; left; omega
theorem c_public {s : PH} {A : Addr} {p : TabP} (hA : s.has A (tabE.f p)) (h : Sl colE s p.c p.T.cols) (name : ByteArray) : DCalls Tryz.prog 178 #[.pointer (some A), .string name] s fun y s' => y = .int .i64 (pubAt p.T name) ∧ s' = s := by
  refine ok_public A name _ s ?_
  unfold vc_public
  have hlen : p.c.2.1 = p.T.cols.length := h.len
  simp only [RP_unSome, W.unSome_some, RP_ld]
  refine ld_has (j := 2) hA (cs := [.slice]) (y := (p.c, ())) rfl ?_
  simp only [RP_call]
  refine callq ((colAt p.T name, ()), ()) (c_findC h.el h.few name) rfl ?_
  rcases seek_cases (fun c : Col => decide (c.name = name)) p.T.cols with ⟨h1, h2⟩ | ⟨j, c, h1, h2, h3, h4⟩
  · have e : colAt p.T name = -1 := h1
    unfold pubAt
    simp [e, W.br_iff]
  · have e : colAt p.T name = (j : Int) := h1
    have hj := (List.getElem?_eq_some_iff.1 h2).1
    obtain ⟨ad, had, hh⟩ := h.el.at_enc h2
    unfold pubAt
    rw [e, if_pos (by omega)]
    simp only [Int.toNat_natCast, h2, RP_ite, W.br_iff, decide_eq_true_eq, decide_eq_false_iff_not, RP_ret, W.ret_iff, RP_guard, W.guard_iff, RP_unSome, W.unSome_some, RP_ld]
    refine ⟨fun _ => ?_, fun h => by omega⟩
    refine ld_has (j := 2) hA (cs := [.slice]) (y := (p.c, ())) rfl ?_
    refine ⟨by show (0 : Int) ≤ j ∧ (j : Int) < (p.c.2.1 : Nat); omega, ?_⟩
    rw [had]
    simp only [W.unSome_some]
    refine ld_has (j := 3) hh (cs := [.int .i64]) (y := (c.state, ())) rfl ?_
    simp only [W.br_iff, W.ret_iff]
    refine ⟨fun h => ?_, fun h => ?_⟩
    · have h : c.state ≠ 3 := by simpa using h
      rw [if_neg h]; exact ⟨rfl, trivial⟩
    · have h : c.state = 3 := by simpa using h
      rw [if_pos h]; exact ⟨rfl, trivial⟩
abbrev oneN (cols : List Col) (i : Nat) (c : Col) : Bool := decide (seek (fun y : Col => decide (y.name = c.name)) cols 0 = i)
theorem dbl_yes {cols : List Col} {k : Nat} {c : Col} (hc : cols[k]? = some c) (h : c.name ∈ (cols.take k).map (·.name)) : dbl cols = true := by
  have hk := (List.getElem?_eq_some_iff.1 hc).1
  have h1 : condI (oneN cols) cols k = false := by
    rw [condI_at hc]
    refine decide_eq_false fun e => ?_
    have := (seek_here (p := fun y : Col => decide (y.name = c.name)) hc (by simp)).1 e
    obtain ⟨y, hy, hn⟩ := List.mem_map.1 h
    have := this y hy
    simp [hn] at this
  unfold dbl
  have := upTo_no (c := condI (oneN cols) cols) h1 hk
  rw [this]; (first | done | rfl)
theorem dbl_step {cols : List Col} {k : Nat} {c : Col} (hc : cols[k]? = some c) (hu : upTo (condI (oneN cols) cols) k = true) (h : c.name ∉ (cols.take k).map (·.name)) : upTo (condI (oneN cols) cols) (k + 1) = true := by
  rw [upTo_succ, hu, condI_at hc, Bool.true_and]
  refine decide_eq_true ((seek_here (p := fun y : Col => decide (y.name = c.name)) hc (by simp)).2 fun y hy => ?_)
  refine decide_eq_false fun e => h (List.mem_map.2 ⟨y, hy, e⟩)
theorem dbl_no {cols : List Col} (h : upTo (condI (oneN cols) cols) cols.length = true) : dbl cols = false := by
  unfold dbl; rw [h]; (first | done | rfl)
theorem c_doubled {s : PH} {t : Tri} {xs : List Col} (h : Sl colE s t xs) : DCalls Tryz.prog 168 #[.slice t.1 t.2.1 t.2.2] s fun y s' => y = .bool (dbl xs) ∧ s' = s := by
  obtain ⟨a, an, ac⟩ := t
  refine DCalls.quiet (ok_doubled a an ac _ s ?_)
  unfold vc_doubled
  have hlen : an = xs.length := h.len
  have hfew := h.few
  simp only [RP_nw]
  refine W.nw_of fun m s1 hm m1 k1 => ?_
  simp only [RP_loop]
  refine ⟨fun z s' => ∃ k : Nat, z = ((some m, ()), ((a, an, ac), ()), ((an : Int), ()), ((k : Int), ()), ()) ∧ k ≤ an ∧ Fw.Mod [m] s1 s' ∧ upTo (condI (oneN xs) xs) k = true ∧
    ∃ f, isMap strKey boolV s' m f ∧ ∀ n, f.lookup n = if n ∈ (xs.take k).map (·.name) then some true else none, fun z _ => an - z.2.2.2.1.1.toNat,
    ⟨0, rfl, Nat.zero_le _, Mod.refl _ _, rfl, [], ⟨#[], 0, k1, rfl, Go.MapKept.stamped_empty 0⟩, by simp⟩, ?_⟩
  rintro _ s2 ⟨k, rfl, hk, m2, hu, f, hf, hs⟩
  have m02 : Fw.Mod [] s s2 := m1.fresh m2 (by simp [hm])
  have h2 := h.mono m02.le
  simp only [RP_ite, W.br_iff, decide_eq_true_eq, decide_eq_false_iff_not]
  refine ⟨fun hlt => ?_, fun hge => ?_⟩
  · have hlt : k < an := by omega
    obtain ⟨x, hx⟩ : ∃ x, xs[k]? = some x := ⟨_, List.getElem?_eq_getElem (by omega)⟩
    obtain ⟨ad, had, hh⟩ := h2.el.at_enc hx
    dsimp only at had
    subst had
    simp only [RP_guard, W.guard_iff, RP_unSome, W.unSome_some, RP_ld, Int.toNat_natCast]
    refine ⟨by omega, ?_⟩
    refine ld_has_z hh (y := (x.id, x.name, x.kind, x.state, x.dflt.kind, x.dflt.n, x.dflt.s, ())) rfl ?_
    refine look_of (ke := strKey) hf (key := x.name) ?_
    rw [hs x.name]
    by_cases hn : x.name ∈ (xs.take k).map (·.name)
    · rw [if_pos hn]
      refine ⟨(true, ()), rfl, ?_⟩
      refine (W.br_iff _ _ _ _).2 ⟨fun _ => ⟨by rw [dbl_yes hx hn], m02⟩, fun e => by cases e⟩
    · rw [if_neg hn]
      refine ⟨(false, ()), rfl, ?_⟩
      refine (W.br_iff _ _ _ _).2 ⟨fun e => (by cases e), fun _ => ?_⟩
      refine mset_of (ke := strKey) hf (v := true) fun o ho => ?_
      rw [wrap_succ (k := k) (by omega)]
      refine ⟨⟨k + 1, rfl, hlt, m2.updLater (.inl (by simp)), dbl_step hx hu hn, _, ho, fun n => ?_⟩, ?_⟩
      · have e : (xs.take (k + 1)).map (·.name) = (xs.take k).map (·.name) ++ [x.name] := by rw [List.take_add_one, hx]; simp
        rw [lookup_aset, hs n, e]
        dsimp only
        by_cases e : n = x.name
        · subst e; simp
        · have : (n == x.name) = false := by simpa using e
          rw [this]
          simp [e]
      · simp only [Int.toNat_natCast]; omega
  · have hke : k = xs.length := by omega
    subst hke
    exact ⟨by rw [dbl_no hu], m02⟩
theorem c_colsX (x : Idx) {p : Nat} {s : PH} {id : Int} (hp : s p = some (.cells #[.int .i64 id] 3 (0, 0))) : DCalls Tryz.prog 172 #[idxV x, cp p] s fun y s' => y = .bool (decide (x.column = id)) ∧ s' = s := by
  refine ok_colsX x.id x.name x.column x.unique x.state p _ s ?_
  unfold vc_colsX
  simp [W.ld_at hp, beq_dec]
theorem c_IndexFuncXc {a : Option Addr} {an ac p : Nat} {s : PH} {id : Int} {xs : List Idx} (h : elems (Rd.enc idxE) s a an xs) (hn : xs.length ≤ 4294967296) (hp : s p = some (.cells #[.int .i64 id] 3 (0, 0))) :
    DCalls Tryz.prog 82 #[.slice a an ac, .func (.func 172) #[] #[cp p]] s fun y s' => y = .int .i64 (seek (fun x => decide (x.column = id)) xs 0) ∧ s' = s := by
  refine ok_IndexFuncXc a an ac p _ s ?_
  unfold vc_IndexFuncXc
  have hlen := h.1
  simp only [RP_loop]
  refine ⟨fun z s' => ∃ k : Nat, z = (((an : Int), ()), ((k : Int), ()), ()) ∧ k ≤ an ∧ s' = s ∧ seek (fun x => decide (x.column = id)) (xs.drop k) k = seek (fun x => decide (x.column = id)) xs 0, fun z _ => an - z.2.1.1.toNat, ⟨0, rfl, Nat.zero_le _, rfl, rfl⟩, ?_⟩
  rintro _ s ⟨k, rfl, hk, rfl, hs⟩
  simp [W.br_iff]
  refine ⟨fun hlt => ⟨hlt, ?_⟩, fun hge => ?_⟩
  · obtain ⟨x, hx⟩ : ∃ x, xs[k]? = some x := ⟨_, List.getElem?_eq_getElem (by omega)⟩
    obtain ⟨ad, rfl, hh⟩ := h.at_enc hx
    simp only [W.unSome_some]
    refine ld_has_z hh (y := (x.id, x.name, x.column, x.unique, x.state, ())) rfl ?_
    refine W.call_of (c_colsX x hp) ?_
    rintro _ s ⟨rfl, rfl⟩
    refine ⟨((decide (x.column = id), ()), ()), rfl, ?_⟩
    rw [seek_step hx] at hs
    simp [W.br_iff, wrap_succ (k := k) (by omega)]
    refine ⟨fun he => ?_, fun he => ⟨⟨k + 1, by simp, hlt, ?_⟩, by omega⟩⟩
    · rw [← hs, if_pos (by simpa using he)]
    · rw [← hs, if_neg (by simpa using he)]
  · rw [← hs, seek_end (by omega)]
theorem c_ContainsX {t : Tri} {p : Nat} {s : PH} {id : Int} {xs : List Idx} (h : Sl idxE s t xs) (hp : s p = some (.cells #[.int .i64 id] 3 (0, 0))) :
    DCalls Tryz.prog 171 #[.slice t.1 t.2.1 t.2.2, .func (.func 172) #[] #[cp p]] s fun y s' => y = .bool (xs.any fun x => decide (x.column = id)) ∧ s' = s := by
  refine ok_ContainsX t.1 t.2.1 t.2.2 p _ s ?_
  unfold vc_ContainsX
  simp only [RP_callQ, RP_call]
  refine callq ((seek (fun x : Idx => decide (x.column = id)) xs 0, ()), ()) (c_IndexFuncXc h.el h.few hp) rfl ?_
  simp only [RP_ret, W.ret_iff, and_true]
  rw [← seek_any]
theorem c_colsF (x : For) {p : Nat} {s : PH} {id : Int} (hp : s p = some (.cells #[.int .i64 id] 3 (0, 0))) : DCalls Tryz.prog 174 #[forV x, cp p] s fun y s' => y = .bool (decide (x.column = id)) ∧ s' = s := by
  refine ok_colsF x.id x.name x.column x.parent x.state p _ s ?_
  unfold vc_colsF
  simp [W.ld_at hp, beq_dec]
theorem c_IndexFuncFc {a : Option Addr} {an ac p : Nat} {s : PH} {id : Int} {xs : List For} (h : elems (Rd.enc forE) s a an xs) (hn : xs.length ≤ 4294967296) (hp : s p = some (.cells #[.int .i64 id] 3 (0, 0))) :
    DCalls Tryz.prog 86 #[.slice a an ac, .func (.func 174) #[] #[cp p]] s fun y s' => y = .int .i64 (seek (fun x => decide (x.column = id)) xs 0) ∧ s' = s := by
  refine ok_IndexFuncFc a an ac p _ s ?_
  unfold vc_IndexFuncFc
  have hlen := h.1
  simp only [RP_loop]
  refine ⟨fun z s' => ∃ k : Nat, z = (((an : Int), ()), ((k : Int), ()), ()) ∧ k ≤ an ∧ s' = s ∧ seek (fun x => decide (x.column = id)) (xs.drop k) k = seek (fun x => decide (x.column = id)) xs 0, fun z _ => an - z.2.1.1.toNat, ⟨0, rfl, Nat.zero_le _, rfl, rfl⟩, ?_⟩
  rintro _ s ⟨k, rfl, hk, rfl, hs⟩
  simp [W.br_iff]
  refine ⟨fun hlt => ⟨hlt, ?_⟩, fun hge => ?_⟩
  · obtain ⟨x, hx⟩ : ∃ x, xs[k]? = some x := ⟨_, List.getElem?_eq_getElem (by omega)⟩
    obtain ⟨ad, rfl, hh⟩ := h.at_enc hx
    simp only [W.unSome_some]
    refine ld_has_z hh (y := (x.id, x.name, x.column, x.parent, x.state, ())) rfl ?_
    refine W.call_of (c_colsF x hp) ?_
    rintro _ s ⟨rfl, rfl⟩
    refine ⟨((decide (x.column = id), ()), ()), rfl, ?_⟩
    rw [seek_step hx] at hs
    simp [W.br_iff, wrap_succ (k := k) (by omega)]
    refine ⟨fun he => ?_, fun he => ⟨⟨k + 1, by simp, hlt, ?_⟩, by omega⟩⟩
    · rw [← hs, if_pos (by simpa using he)]
    · rw [← hs, if_neg (by simpa using he)]
  · rw [← hs, seek_end (by omega)]
theorem c_ContainsF {t : Tri} {p : Nat} {s : PH} {id : Int} {xs : List For} (h : Sl forE s t xs) (hp : s p = some (.cells #[.int .i64 id] 3 (0, 0))) :
    DCalls Tryz.prog 173 #[.slice t.1 t.2.1 t.2.2, .func (.func 174) #[] #[cp p]] s fun y s' => y = .bool (xs.any fun x => decide (x.column = id)) ∧ s' = s := by
  refine ok_ContainsF t.1 t.2.1 t.2.2 p _ s ?_
  unfold vc_ContainsF
  simp only [RP_callQ, RP_call]
  refine callq ((seek (fun x : For => decide (x.column = id)) xs 0, ()), ()) (c_IndexFuncFc h.el h.few hp) rfl ?_
  simp only [RP_ret, W.ret_iff, and_true]
  rw [← seek_any]
end Go.Proofs.YthepfbcgpbkbdaaGreat
end
section
set_option linter.unusedVariables false
set_option linter.unusedSimpArgs false
set_option maxHeartbeats 1000000
set_option maxRecDepth 100000
namespace Go.Proofs.YthepfbcgpbkbdaaGreat
open Fw Go
attribute [-simp] Fw.W.ld_iff Fw.W.st_iff
structure Sch.Bd (S : Sch) : Prop where
  tabs : S.tabs.length ≤ 6
  each : ∀ T ∈ S.tabs, 1 ≤ T.cols.length ∧ T.cols.length ≤ 8 ∧ T.idxs.length ≤ 8 ∧ T.keys.length ≤ 8
  last : 0 ≤ S.last ∧ S.last ≤ 1125899906842624
/-- the schema that the program works on, its own at b -/
structure Gs (s : PH) (b : Nat) (S : Sch) (t : Tri) (ps : List TabP) : Prop where
  cell : s b = some (.cells #[.int .i64 S.version, .int .i64 S.last, .slice t.1 t.2.1 t.2.2] 44 (0, 0))
  has : Has s t ps
  nb : b ∉ Lof t ps
  eq : S.tabs = ps.map (·.T)
def OutG (b : Nat) (r : Res) (L : List Nat) (s : PH) (y : Value) (s' : PH) : Prop := match r with
  | .error e => y = .int .i64 e ∧ Fw.Mod (b :: L) s s'
  | .ok S' => y = .int .i64 0 ∧ ∃ t' ps', Gs s' b S' t' ps' ∧ Step (b :: L) (b :: Lof t' ps') s s'
theorem Gs.mod {s s' : PH} {b : Nat} {S : Sch} {t : Tri} {ps : List TabP} {M : List Nat} (h : Gs s b S t ps) (hm : Fw.Mod M s s') (hb : b ∉ M) (hd : ∀ g ∈ Lof t ps, g ∉ M) : Gs s' b S t ps :=
  ⟨hm.at h.cell hb, h.has.mod hm hd, h.nb, h.eq⟩
theorem Gs.sch {s : PH} {b : Nat} {S : Sch} {t : Tri} {ps : List TabP} (h : Gs s b S t ps) (hb : S.Bd) : SchIs s t S ps :=
  h.has.is h.eq (by have := hb.tabs; omega) fun T hT => by
    obtain ⟨_, a, b, c⟩ := hb.each T hT
    exact ⟨by omega, by omega, by omega⟩
theorem Gs.then {s s1 s3 : PH} {b : Nat} {S S' : Sch} {t : Tri} {ps ps' : List TabP} (h : Gs s b S t ps) (m1 : Fw.Mod [b] s s1) (hc : s1 b = some (.cells #[.int .i64 S'.version, .int .i64 S'.last, .slice t.1 t.2.1 t.2.2] 44 (0, 0)))
    (h3 : Has s3 t ps') (st : Step (Lof t ps) (Lof t ps') s1 s3) (he : S'.tabs = ps'.map (·.T)) : Gs s3 b S' t ps' ∧ Step (b :: Lof t ps) (b :: Lof t ps') s s3 := by
  refine ⟨⟨st.mod.at hc h.nb, h3, fun hb => ?_, he⟩, ⟨(m1.mono (by simp)).trans (st.mod.mono fun x hx => List.mem_cons_of_mem _ hx), fun x hx => ?_⟩⟩
  · rcases st.new b hb with e | e
    · exact h.nb e
    · rw [hc] at e; cases e
  · rcases List.mem_cons.1 hx with rfl | hx
    · exact .inl (by simp)
    · rcases st.new x hx with e | e
      · exact .inl (List.mem_cons_of_mem _ e)
      · by_cases hxb : x = b
        · exact .inl (by simp [hxb])
        · exact .inr (m1.none e (by simpa using hxb))
theorem Gs.tabHas {s : PH} {t : Tri} {ps : List TabP} {g i : Nat} {p : TabP} (h : Has s t ps) (hp : ps[i]? = some p) (ht : t.1 = some ⟨g, 0, none⟩) : s.has ⟨g, i * 5, none⟩ (tabE.f p) := by
  obtain ⟨g', hg', hh⟩ := h.row.at hp
  rw [ht] at hg'; cases hg'
  exact hh
theorem ld_hasm {g o : Nat} {l : List Value} {cs : List CT} {y : Den cs} {k : Den cs → W.T} {s : PH} {j : Nat} (h : s.has ⟨g, o, none⟩ l) (hl : (l.drop j).take cs.length = vals cs y) (hk : k y s) : W.ld cs ⟨g, o + j, none⟩ k s := by
  have := ld_has (j := j) h hl hk
  rwa [add_mk] at this
theorem set_map {ps : List TabP} {i : Nat} {p' : TabP} : (ps.set i p').map (·.T) = (ps.map (·.T)).set i p'.T := by rw [List.map_set]
section
variable {s : PH} {b : Nat} {S : Sch} {t : Tri} {ps : List TabP} {i g : Nat} {p : TabP}
theorem c_columns (h : Gs s b S t ps) (hb : S.Bd) (hp : ps[i]? = some p) (ht : t.1 = some ⟨g, 0, none⟩) (D : Ddl) (u : Tri) (st : Int) :
    DCalls Tryz.prog 139 #[cp b, .pointer (some ⟨g, i * 5, none⟩), ddlV D u, .int .i64 st] s (OutG b (colTurn S i p.T D st) (Lof t ps) s) := by
  obtain ⟨ua, un, uc⟩ := u
  refine ok_columns b ⟨g, i * 5, none⟩ D.kind D.table D.name D.column D.parent D.unique D.type D.dflt.kind D.dflt.n D.dflt.s ua un uc st _ s ?_
  unfold vc_columns
  have hSch := h.sch hb
  have hpm := List.mem_of_getElem? hp
  have hP := hSch.all p hpm
  have hT : p.T ∈ S.tabs := by rw [h.eq]; exact List.mem_map_of_mem hpm
  obtain ⟨b1, b2, b3, b4⟩ := hb.each p.T hT
  have hA := Gs.tabHas h.has hp ht
  have hcn : p.c.2.1 = p.T.cols.length := hP.c.len
  have hcell := h.cell
  simp only [RP_join, RP_ite, RP_call, RP_callQ, RP_ret, RP_nw, RP_app, RP_st, RP_ld, RP_unSome, RP_guard, RP_loop, RP_still, RP_clr, RP_look, RP_mset, W.unSome_some]
  refine ld_has (j := 2) hA (cs := [.slice]) (y := (p.c, ())) rfl ?_
  refine W.callQ_of ((colAt p.T D.column, ()), ()) (c_findC hP.c.el hP.c.few D.column) rfl ?_
  obtain ⟨R, hR⟩ : ∃ R, OutG b (colTurn S i p.T D st) (Lof t ps) s = R := ⟨_, rfl⟩
  have hret : ∀ {e : Int} {s'}, colTurn S i p.T D st = .error e → Fw.Mod (b :: Lof t ps) s s' → R (.int .i64 e) s' := fun e1 m => by
    rw [← hR, e1]; exact ⟨rfl, m⟩
  rw [hR]
  have hlast : IntKind.i64.wrap (S.last + 1) = S.last + 1 := wrap_in (by have := hb.last; omega) (by have := hb.last; omega)
  refine W.join_gen (fun z s' => z = ((D.kind, D.table, D.name, D.column, D.parent, D.unique, D.type, D.dflt.kind, D.dflt.n, D.dflt.s, (ua, un, uc), ()), (colAt p.T D.column, ()), ()) ∧ s' = s ∧
    ∃ (j : Nat) (x : Col), colAt p.T D.column = (j : Int) ∧ p.T.cols[j]? = some x ∧ ¬ (D.kind = 4 ∧ x.state = 3)) ?_ ?_
  rotate_left
  · intro J hJ
    refine W.join_gen (fun z s' => z = ((D.kind, D.table, D.name, D.column, D.parent, D.unique, D.type, D.dflt.kind, D.dflt.n, D.dflt.s, (ua, un, uc), ()), (colAt p.T D.column, ()), (decide (D.kind = 4 ∧ colAt p.T D.column < 0), ()), ()) ∧ s' = s) ?_ ?_
    rotate_left
    · intro J6 hJ6
      simp only [W.br_iff]
      refine ⟨fun h4 => hJ6 _ _ ⟨?_, rfl⟩, fun h4 => hJ6 _ _ ⟨?_, rfl⟩⟩
      · have h4 : D.kind = 4 := by simpa using h4
        simp [h4]
      · have h4 : D.kind ≠ 4 := by simpa using h4
        simp [h4]
    rintro _ s0 ⟨rfl, rfl⟩
    simp only [W.br_iff, decide_eq_true_eq, decide_eq_false_iff_not]
    refine ⟨fun hadd => ?_, fun hadd => ?_⟩
    · have hTurn : colTurn S i p.T D st = if freshE D.column p.T.cols.length ≠ 0 then .error (freshE D.column p.T.cols.length)
          else if (typed D.type && fits D.dflt D.type) = false then .error 154
          else if st = 0 then .error 1
          else .ok ⟨S.version, S.last + 1, S.tabs.set i { p.T with cols := p.T.cols ++ [⟨S.last + 1, D.column, D.type, st, D.dflt⟩] }⟩ := by
        unfold colTurn; rw [if_pos hadd]
      try simp only [W.unSome_some]
      refine ld_has (j := 2) hA (cs := [.slice]) (y := (p.c, ())) rfl ?_
      refine W.callQ_of ((freshE D.column p.c.2.1, ()), ()) (c_fresh D.column p.c.2.1 _) rfl ?_
      rw [hcn]
      simp only [W.br_iff]
      refine ⟨fun hf => ?_, fun hf => ?_⟩
      · have hf : freshE D.column p.T.cols.length ≠ 0 := by simpa using hf
        exact hret (by rw [hTurn, if_pos hf]) (Mod.refl _ _)
      have hf : freshE D.column p.T.cols.length = 0 := by simpa using hf
      rw [if_neg (by rw [hf]; simp)] at hTurn
      refine W.join_gen (fun z s' => z = ((D.kind, D.table, D.name, D.column, D.parent, D.unique, D.type, D.dflt.kind, D.dflt.n, D.dflt.s, (ua, un, uc), ()), ()) ∧ s' = s0 ∧ (typed D.type && fits D.dflt D.type) = true) ?_ ?_
      rotate_left
      · intro J7 hJ7
        refine callq ((typed D.type, ()), ()) (c_kind D.type _) rfl ?_
        simp only [W.br_iff]
        refine ⟨fun hk => ?_, fun hk => ?_⟩
        · have hk : typed D.type = false := by simpa using hk
          exact hret (by rw [hTurn, if_pos (by rw [hk]; (first | done | rfl))]) (Mod.refl _ _)
        have hk : typed D.type = true := by simpa using hk
        refine callq ((fits D.dflt D.type, ()), ()) (c_fits D.dflt D.type _) rfl ?_
        simp only [W.br_iff]
        refine ⟨fun hk2 => ?_, fun hk2 => ?_⟩
        · have hk2 : fits D.dflt D.type = false := by simpa using hk2
          exact hret (by rw [hTurn, if_pos (by rw [hk, hk2]; (first | done | rfl))]) (Mod.refl _ _)
        have hk2 : fits D.dflt D.type = true := by simpa using hk2
        exact hJ7 _ _ ⟨rfl, rfl, by rw [hk, hk2]; (first | done | rfl)⟩
      rintro _ s1 ⟨rfl, rfl, hk⟩
      rw [if_neg (by rw [hk]; simp)] at hTurn
      simp only [W.br_iff]
      refine ⟨fun h0 => ?_, fun h0 => ?_⟩
      · have h0 : st = 0 := by simpa using h0
        exact hret (by rw [hTurn, if_pos h0]) (Mod.refl _ _)
      have h0 : st ≠ 0 := by simpa using h0
      rw [if_neg h0] at hTurn
      have hnb : b ∉ Lof t ps := h.nb
      simp [W.ld_at hcell, W.st_at hcell, hlast, -W.nw_iff]
      have m1 : Fw.Mod [b] s1 (s1.upd b (.cells #[.int .i64 S.version, .int .i64 (S.last + 1), .slice t.1 t.2.1 t.2.2] 44 (0, 0))) := Mod.upd (by simp)
      have hc1 : (s1.upd b (.cells #[.int .i64 S.version, .int .i64 (S.last + 1), .slice t.1 t.2.1 t.2.2] 44 (0, 0))) b = some (.cells #[.int .i64 S.version, .int .i64 (S.last + 1), .slice t.1 t.2.1 t.2.2] 44 (0, 0)) := PH.upd_same _ _ _
      generalize s1.upd b (.cells #[.int .i64 S.version, .int .i64 (S.last + 1), .slice t.1 t.2.1 t.2.2] 44 (0, 0)) = s2 at m1 hc1 ⊢
      have hH2 : Has s2 t ps := h.has.mod m1 (fun x hx => by simpa using fun e : x = b => hnb (e ▸ hx))
      have hA2 := Gs.tabHas hH2 hp ht
      refine ld_hasm (j := 2) hA2 (cs := [.slice]) (y := (p.c, ())) rfl ?_
      simp [W.ld_at hc1, -W.nw_iff]
      refine hH2.app_c hp ⟨S.last + 1, D.column, D.type, st, D.dflt⟩ (by omega) ?_
      intro u s3 hu hw
      simp only [W.unSome_some, add_mk]
      refine hH2.store hp hw (j := 2) (vs := [.slice u.1 u.2.1 u.2.2]) rfl (by simp) (by simp) ht fun s4 h4 st4 => ?_
      obtain ⟨hG, hS⟩ := h.then (S' := ⟨S.version, S.last + 1, S.tabs.set i { p.T with cols := p.T.cols ++ [⟨S.last + 1, D.column, D.type, st, D.dflt⟩] }⟩) m1 hc1 h4 st4 (by dsimp only; rw [set_map, h.eq])
      rw [← hR, hTurn]
      exact ⟨rfl, t, _, hG, hS⟩
    · have hTurn : colTurn S i p.T D st = if colAt p.T D.column < 0 then .error 151 else match p.T.cols[(colAt p.T D.column).toNat]? with
          | none => .error 151
          | some x => if D.kind = 4 ∧ x.state = 3 then .error 152
            else if D.kind = 5 ∧ used p.T (colAt p.T D.column) x = true then .error 155
            else .ok ⟨S.version, S.last, S.tabs.set i { p.T with cols := placed p.T.cols (colAt p.T D.column).toNat st (x.put st) }⟩ := by
        unfold colTurn; rw [if_neg hadd]; (first | done | rfl)
      have hneg : colAt p.T D.column < 0 → R (.int .i64 151) s0 := fun e => hret (by rw [hTurn, if_pos e]) (Mod.refl _ _)
      have hpos : ¬ colAt p.T D.column < 0 → ∃ (j : Nat) (x : Col), colAt p.T D.column = (j : Int) ∧ p.T.cols[j]? = some x := by
        intro e
        rcases seek_cases (fun c : Col => decide (c.name = D.column)) p.T.cols with ⟨h1, _⟩ | ⟨j, x, h1, h2, _⟩
        · exact absurd h1 (by unfold colAt at e; omega)
        · exact ⟨j, x, h1, h2⟩
      refine ⟨fun h4 => ?_, fun h4 => ⟨hneg, fun hn => ?_⟩⟩
      · have h4 : D.kind = 4 := by simpa using h4
        have hn : ¬ colAt p.T D.column < 0 := fun e => hadd ⟨h4, e⟩
        obtain ⟨j, x, hj, hx⟩ := hpos hn
        have hjl := (List.getElem?_eq_some_iff.1 hx).1
        simp only [W.unSome_some]
        refine ld_has (j := 2) hA (cs := [.slice]) (y := (p.c, ())) rfl ?_
        rw [hj]
        refine ⟨by show (0 : Int) ≤ j ∧ (j : Int) < (p.c.2.1 : Nat); omega, ?_⟩
        obtain ⟨ad, had, hh⟩ := hP.c.el.at_enc hx
        rw [had]
        simp only [W.unSome_some, Int.toNat_natCast]
        refine ld_has (j := 3) hh (cs := [.int .i64]) (y := (x.state, ())) rfl ?_
        rw [hj, if_neg (by omega)] at hTurn
        simp only [Int.toNat_natCast, hx] at hTurn
        simp only [W.br_iff, decide_eq_true_eq, decide_eq_false_iff_not]
        refine ⟨fun h3 => ?_, fun h3 => ⟨fun e => by omega, fun _ => ?_⟩⟩
        · have h3 : x.state = 3 := by simpa using h3
          exact hret (by rw [hTurn, if_pos ⟨h4, h3⟩]) (Mod.refl _ _)
        · have h3 : x.state ≠ 3 := by simpa using h3
          refine hJ _ _ ⟨by rw [hj], rfl, j, x, hj, hx, fun e => h3 e.2⟩
      · have h4 : D.kind ≠ 4 := by simpa using h4
        obtain ⟨j, x, hj, hx⟩ := hpos hn
        exact hJ _ _ ⟨rfl, rfl, j, x, hj, hx, fun e => h4 e.1⟩
  rintro _ s0 ⟨rfl, rfl, j, x, hj, hx, hno⟩
  have hjl := (List.getElem?_eq_some_iff.1 hx).1
  have hTurn : colTurn S i p.T D st = if D.kind = 5 ∧ used p.T j x = true then .error 155
      else .ok ⟨S.version, S.last, S.tabs.set i { p.T with cols := placed p.T.cols j st (x.put st) }⟩ := by
    unfold colTurn
    rw [hj, if_neg (by omega), if_neg (by omega)]
    simp only [Int.toNat_natCast, hx]
    rw [if_neg hno]
  try simp only [W.unSome_some]
  refine ld_has (j := 2) hA (cs := [.slice]) (y := (p.c, ())) rfl ?_
  rw [hj]
  refine ⟨by show (0 : Int) ≤ j ∧ (j : Int) < (p.c.2.1 : Nat); omega, ?_⟩
  obtain ⟨ad, had, hh⟩ := hP.c.el.at_enc hx
  rw [had]
  simp only [W.unSome_some, Int.toNat_natCast]
  refine ld_has (j := 0) hh (cs := [.int .i64]) (y := (x.id, ())) rfl ?_
  refine W.nw_of fun r s1 hr m1 k1 => ?_
  rw [W.st_at k1]
  refine ⟨by simp, by simp, by simp [Value.oneCell'], ?_⟩
  have m2 : Fw.Mod [] s0 (s1.upd r (.cells (setL #[.int .i64 0] 0 [.int .i64 x.id]) 3 (0, 0))) := m1.updLater (.inr hr)
  have k2 : (s1.upd r (.cells (setL #[.int .i64 0] 0 [.int .i64 x.id]) 3 (0, 0))) r = some (.cells #[.int .i64 x.id] 3 (0, 0)) := PH.upd_same _ _ _
  show W.br _ _ _ (s1.upd r (.cells (setL #[.int .i64 0] 0 [.int .i64 x.id]) 3 (0, 0)))
  generalize s1.upd r (.cells (setL #[.int .i64 0] 0 [.int .i64 x.id]) 3 (0, 0)) = s2 at m2 k2 ⊢
  have hG2 := h.mod m2 (by simp) (by simp)
  have hS2 := hG2.sch hb
  have hP2 := hS2.all p hpm
  have hA2 := Gs.tabHas hG2.has hp ht
  have fin : ¬ (D.kind = 5 ∧ used p.T j x = true) → W.call Tryz.prog 175 #[.pointer (some ⟨g, i * 5 + 2, none⟩), .int .i64 j, .int .i64 st, .func (.func 176) #[] #[]] (true, []) (fun _ => W.ret R (.int .i64 0)) s2 := by
    intro hu
    refine W.call_of (c_placeC hG2.has hp hx ht (by omega) st) ?_
    rintro _ s3 ⟨rfl, ps', h3, he, st3⟩
    refine ⟨(), rfl, ?_⟩
    rw [if_neg hu] at hTurn
    obtain ⟨hG, hS⟩ := h.then (S' := ⟨S.version, S.last, S.tabs.set i { p.T with cols := placed p.T.cols j st (x.put st) }⟩) (m2.mono (by simp)) hG2.cell h3 st3 (by dsimp only; rw [he, h.eq])
    rw [← hR, hTurn]
    exact ⟨rfl, t, ps', hG, hS⟩
  have h155 : D.kind = 5 → used p.T j x = true → R (.int .i64 155) s2 := fun h5 hu => hret (by rw [hTurn, if_pos ⟨h5, hu⟩]) (m2.mono (by simp))
  simp only [W.br_iff, add_mk, W.unSome_some]
  refine ⟨fun h0 => ?_, fun h0 => ?_⟩
  · have h0 : (j : Int) = 0 := by simpa using h0
    have hu : used p.T j x = true := by unfold used; rw [h0]; (first | done | rfl)
    refine ⟨fun h5 => h155 (by simpa using h5) hu, fun h5 => fin fun e => ?_⟩
    have h5 : D.kind ≠ 5 := by simpa using h5
    exact h5 e.1
  have h0 : (j : Int) ≠ 0 := by simpa using h0
  refine ld_hasm (j := 3) hA2 (cs := [.slice]) (y := (p.x, ())) rfl ?_
  refine callq ((p.T.idxs.any fun y => decide (y.column = x.id), ()), ()) (c_ContainsX hP2.x k2) rfl ?_
  simp only [W.br_iff, W.unSome_some, add_mk]
  refine ⟨fun hx1 => ?_, fun hx1 => ?_⟩
  · have hu : used p.T j x = true := by unfold used; rw [show (p.T.idxs.any fun y => decide (y.column = x.id)) = true from hx1]; simp
    refine ⟨fun h5 => h155 (by simpa using h5) hu, fun h5 => fin fun e => ?_⟩
    have h5 : D.kind ≠ 5 := by simpa using h5
    exact h5 e.1
  refine ld_hasm (j := 4) hA2 (cs := [.slice]) (y := (p.k, ())) rfl ?_
  refine callq ((p.T.keys.any fun y => decide (y.column = x.id), ()), ()) (c_ContainsF hP2.k k2) rfl ?_
  simp only [W.br_iff, W.unSome_some, add_mk]
  refine ⟨fun h5 => ⟨fun hk => h155 (by simpa using h5) ?_, fun hk => fin fun e => ?_⟩, fun h5 => fin fun e => ?_⟩
  · unfold used; rw [show (p.T.keys.any fun y => decide (y.column = x.id)) = true from hk]; simp
  · have := e.2
    unfold used at this
    rw [show (p.T.idxs.any fun y => decide (y.column = x.id)) = false from hx1, show (p.T.keys.any fun y => decide (y.column = x.id)) = false from hk, decide_eq_false h0] at this
    cases this
  · have h5 : D.kind ≠ 5 := by simpa using h5
    exact h5 e.1
end
end Go.Proofs.YthepfbcgpbkbdaaGreat
end
section
set_option linter.unusedVariables false
set_option linter.unusedSimpArgs false
set_option maxHeartbeats 1000000
set_option maxRecDepth 100000
namespace Go.Proofs.YthepfbcgpbkbdaaGreat
open Fw Go
attribute [-simp] Fw.W.ld_iff Fw.W.st_iff
theorem b_last {s : PH} {b : Nat} {v l : Int} {a : Option Addr} {n c : Nat} (h : s b = some (.cells #[.int .i64 v, .int .i64 l, .slice a n c] 44 (0, 0))) {K : Den [.int .i64] → W.T} (hK : K (l, ()) s) : W.unSome (some (Addr.mk b 0 none)) (fun p => W.ld [.int .i64] (p.add 1) K) s := by
  simp only [W.unSome_some, add_mk, Nat.zero_add]
  rw [W.ld_at h]
  exact ⟨(l, ()), by simp, hK⟩
theorem b_tabs {s : PH} {b : Nat} {v l : Int} {a : Option Addr} {n c : Nat} (h : s b = some (.cells #[.int .i64 v, .int .i64 l, .slice a n c] 44 (0, 0))) {K : Den [.slice] → W.T} (hK : K ((a, n, c), ()) s) : W.unSome (some (Addr.mk b 0 none)) (fun p => W.ld [.slice] (p.add 2) K) s := by
  simp only [W.unSome_some, add_mk, Nat.zero_add]
  rw [W.ld_at h]
  exact ⟨((a, n, c), ()), by simp, hK⟩
theorem b_bump {s : PH} {b : Nat} {v l : Int} {a : Option Addr} {n c : Nat} (h : s b = some (.cells #[.int .i64 v, .int .i64 l, .slice a n c] 44 (0, 0))) (hl : IntKind.i64.wrap (l + 1) = l + 1) {K : W.T}
    (hK : ∀ s2, Fw.Mod [b] s s2 → s2 b = some (.cells #[.int .i64 v, .int .i64 (l + 1), .slice a n c] 44 (0, 0)) → K s2) :
    W.unSome (some (Addr.mk b 0 none)) (fun p => W.ld [.int .i64] (p.add 1) fun x => W.unSome (some (Addr.mk b 0 none)) fun p' => W.st (p'.add 1) [.int .i64 (IntKind.i64.wrap (x.1 + 1))] K) s := by
  refine b_last h ?_
  simp only [W.unSome_some, add_mk, Nat.zero_add, hl]
  rw [W.st_at h]
  exact ⟨by simp, by simp, by simp [Value.oneCell'], hK _ (Mod.upd (by simp)) (PH.upd_same _ _ _)⟩
section
variable {s : PH} {b : Nat} {S : Sch} {t : Tri} {ps : List TabP} {i g : Nat} {p : TabP}
theorem c_indexes (h : Gs s b S t ps) (hb : S.Bd) (hp : ps[i]? = some p) (ht : t.1 = some ⟨g, 0, none⟩) (D : Ddl) (u : Tri) (st : Int) :
    DCalls Tryz.prog 140 #[cp b, .pointer (some ⟨g, i * 5, none⟩), ddlV D u, .int .i64 st] s (OutG b (idxTurn S i p.T D st) (Lof t ps) s) := by
  obtain ⟨ua, un, uc⟩ := u
  refine ok_indexes b ⟨g, i * 5, none⟩ D.kind D.table D.name D.column D.parent D.unique D.type D.dflt.kind D.dflt.n D.dflt.s ua un uc st _ s ?_
  unfold vc_indexes
  have hSch := h.sch hb
  have hpm := List.mem_of_getElem? hp
  have hP := hSch.all p hpm
  have hT : p.T ∈ S.tabs := by rw [h.eq]; exact List.mem_map_of_mem hpm
  obtain ⟨b1, b2, b3, b4⟩ := hb.each p.T hT
  have hA := Gs.tabHas h.has hp ht
  have hcn : p.c.2.1 = p.T.cols.length := hP.c.len
  have hln : p.x.2.1 = p.T.idxs.length := hP.x.len
  have hcell := h.cell
  simp only [RP_join, RP_ite, RP_call, RP_callQ, RP_ret, RP_nw, RP_app, RP_st, RP_ld, RP_unSome, RP_guard, RP_loop, RP_still, RP_clr, RP_look, RP_mset, W.unSome_some]
  refine ld_has (j := 3) hA (cs := [.slice]) (y := (p.x, ())) rfl ?_
  refine W.callQ_of ((idxAt p.T D.name, ()), ()) (c_findX hP.x.el hP.x.few D.name) rfl ?_
  obtain ⟨R, hR⟩ : ∃ R, OutG b (idxTurn S i p.T D st) (Lof t ps) s = R := ⟨_, rfl⟩
  have hret : ∀ {e : Int} {s'}, idxTurn S i p.T D st = .error e → Fw.Mod (b :: Lof t ps) s s' → R (.int .i64 e) s' := fun e1 m => by
    rw [← hR, e1]; exact ⟨rfl, m⟩
  rw [hR]
  have hlast : IntKind.i64.wrap (S.last + 1) = S.last + 1 := wrap_in (by have := hb.last; omega) (by have := hb.last; omega)
  refine W.join_gen (fun z s' => z = ((D.kind, D.table, D.name, D.column, D.parent, D.unique, D.type, D.dflt.kind, D.dflt.n, D.dflt.s, (ua, un, uc), ()), (idxAt p.T D.name, ()), (decide (D.kind = 2 ∧ idxAt p.T D.name < 0), ()), ()) ∧ s' = s) ?_ ?_
  rotate_left
  · intro J6 hJ6
    simp only [W.br_iff]
    refine ⟨fun h4 => hJ6 _ _ ⟨?_, rfl⟩, fun h4 => hJ6 _ _ ⟨?_, rfl⟩⟩
    · have h4 : D.kind = 2 := by simpa using h4
      simp [h4]
    · have h4 : D.kind ≠ 2 := by simpa using h4
      simp [h4]
  rintro _ s0 ⟨rfl, rfl⟩
  simp only [W.br_iff, decide_eq_true_eq, decide_eq_false_iff_not]
  refine ⟨fun hadd => ?_, fun hadd => ?_⟩
  · simp only [W.unSome_some]
    refine ld_has (j := 3) hA (cs := [.slice]) (y := (p.x, ())) rfl ?_
    refine W.callQ_of ((freshE D.name p.x.2.1, ()), ()) (c_fresh D.name p.x.2.1 _) rfl ?_
    rw [hln]
    simp only [W.br_iff, W.unSome_some]
    refine ⟨fun hf => ?_, fun hf => ?_⟩
    · have hf : freshE D.name p.T.idxs.length ≠ 0 := by simpa using hf
      exact hret (by unfold idxTurn; rw [if_pos hadd, if_pos hf]) (Mod.refl _ _)
    have hf : freshE D.name p.T.idxs.length = 0 := by simpa using hf
    have hnf : ¬ (freshE D.name p.T.idxs.length ≠ 0) := by rw [hf]; simp
    have hnb : b ∉ Lof t ps := h.nb
    refine callq ((pubAt p.T D.column, ()), ()) (c_public hA hP.c D.column) rfl ?_
    simp only [W.br_iff, decide_eq_true_eq, decide_eq_false_iff_not]
    refine ⟨fun hp1 => hret (by unfold idxTurn; rw [if_pos hadd, if_neg hnf, if_pos hp1]) (Mod.refl _ _), fun hp1 => ⟨fun h0 => hret (by unfold idxTurn; rw [if_pos hadd, if_neg hnf, if_neg hp1, if_pos (by simpa using h0)]) (Mod.refl _ _), fun h0 => ?_⟩⟩
    have h0 : st ≠ 0 := by simpa using h0
    obtain ⟨j, c, hj, hc, _⟩ := (pubAt_lt (T := p.T) (name := D.column) (s := s0) (t := t)).resolve_left hp1
    have hjl := (List.getElem?_eq_some_iff.1 hc).1
    have hTurn : idxTurn S i p.T D st = .ok ⟨S.version, S.last + 1, S.tabs.set i { p.T with idxs := p.T.idxs ++ [⟨S.last + 1, D.name, c.id, D.unique, st⟩] }⟩ := by
      unfold idxTurn
      rw [if_pos hadd, if_neg hnf, if_neg hp1, if_neg h0, hj]
      simp only [Int.toNat_natCast, hc]
    rw [hj]
    refine b_bump hcell hlast fun s2 m1 hc1 => ?_
    have hH2 : Has s2 t ps := h.has.mod m1 (fun x hx => by simpa using fun e : x = b => hnb (e ▸ hx))
    have hA2 := Gs.tabHas hH2 hp ht
    have hP2 := (hH2.is h.eq (by have := hb.tabs; omega) (fun T hT => by obtain ⟨_, a, b, c⟩ := hb.each T hT; exact ⟨by omega, by omega, by omega⟩)).all p hpm
    simp only [W.unSome_some]
    refine ld_has (j := 3) hA2 (cs := [.slice]) (y := (p.x, ())) rfl ?_
    refine b_last hc1 ?_
    simp only [W.unSome_some]
    refine ld_has (j := 2) hA2 (cs := [.slice]) (y := (p.c, ())) rfl ?_
    refine ⟨by show (0 : Int) ≤ j ∧ (j : Int) < (p.c.2.1 : Nat); omega, ?_⟩
    obtain ⟨ad, had, hh⟩ := hP2.c.el.at_enc hc
    rw [had]
    simp only [W.unSome_some, Int.toNat_natCast]
    refine ld_has (j := 0) hh (cs := [.int .i64]) (y := (c.id, ())) rfl ?_
    refine hH2.app_x hp ⟨S.last + 1, D.name, c.id, D.unique, st⟩ (by omega) ?_
    intro u s3 hu hw
    simp only [W.unSome_some, add_mk]
    refine hH2.store hp hw (j := 3) (vs := [.slice u.1 u.2.1 u.2.2]) rfl (by simp) (by simp) ht fun s4 h4 st4 => ?_
    obtain ⟨hG, hS⟩ := h.then (S' := ⟨S.version, S.last + 1, S.tabs.set i { p.T with idxs := p.T.idxs ++ [⟨S.last + 1, D.name, c.id, D.unique, st⟩] }⟩) m1 hc1 h4 st4 (by dsimp only; rw [set_map, h.eq])
    rw [← hR, hTurn]
    exact ⟨rfl, t, _, hG, hS⟩
  · have hneg : idxAt p.T D.name < 0 → R (.int .i64 153) s0 := fun e => hret (by unfold idxTurn; rw [if_neg hadd, if_pos e]) (Mod.refl _ _)
    have hpos : ¬ idxAt p.T D.name < 0 → ∃ (j : Nat) (x : Idx), idxAt p.T D.name = (j : Int) ∧ p.T.idxs[j]? = some x := by
      intro e
      rcases seek_cases (fun c : Idx => decide (c.name = D.name)) p.T.idxs with ⟨h1, _⟩ | ⟨j, x, h1, h2, _⟩
      · exact absurd h1 (by unfold idxAt at e; omega)
      · exact ⟨j, x, h1, h2⟩
    have fin : ∀ (j : Nat) (x : Idx), idxAt p.T D.name = (j : Int) → p.T.idxs[j]? = some x → ¬ (D.kind = 2 ∧ x.state = 3) → W.call Tryz.prog 179 #[.pointer (some ⟨g, i * 5 + 3, none⟩), .int .i64 j, .int .i64 st, .func (.func 180) #[] #[]] (true, []) (fun _ => W.ret R (.int .i64 0)) s0 := by
      intro j x hj hx hu
      refine W.call_of (c_placeX h.has hp hx ht (by omega) st) ?_
      rintro _ s3 ⟨rfl, ps', h3, he, st3⟩
      refine ⟨(), rfl, ?_⟩
      have hTurn : idxTurn S i p.T D st = .ok ⟨S.version, S.last, S.tabs.set i { p.T with idxs := placed p.T.idxs j st (x.put st) }⟩ := by
        unfold idxTurn
        rw [if_neg hadd, hj, if_neg (by omega)]
        simp only [Int.toNat_natCast, hx]
        rw [if_neg hu]
      obtain ⟨hG, hS⟩ := h.then (S' := ⟨S.version, S.last, S.tabs.set i { p.T with idxs := placed p.T.idxs j st (x.put st) }⟩) (Mod.refl _ _) h.cell h3 st3 (by dsimp only; rw [he, h.eq])
      rw [← hR, hTurn]
      exact ⟨rfl, t, ps', hG, hS⟩
    refine ⟨fun h4 => ?_, fun h4 => ⟨hneg, fun hn => ?_⟩⟩
    · have h4 : D.kind = 2 := by simpa using h4
      have hn : ¬ idxAt p.T D.name < 0 := fun e => hadd ⟨h4, e⟩
      obtain ⟨j, x, hj, hx⟩ := hpos hn
      have hjl := (List.getElem?_eq_some_iff.1 hx).1
      simp only [W.unSome_some]
      refine ld_has (j := 3) hA (cs := [.slice]) (y := (p.x, ())) rfl ?_
      rw [hj]
      refine ⟨by show (0 : Int) ≤ j ∧ (j : Int) < (p.x.2.1 : Nat); omega, ?_⟩
      obtain ⟨ad, had, hh⟩ := hP.x.el.at_enc hx
      rw [had]
      simp only [W.unSome_some, Int.toNat_natCast]
      refine ld_has (j := 4) hh (cs := [.int .i64]) (y := (x.state, ())) rfl ?_
      simp only [W.br_iff, decide_eq_true_eq, decide_eq_false_iff_not, add_mk, W.unSome_some]
      refine ⟨fun h3 => ?_, fun h3 => ⟨fun e => by omega, fun _ => ?_⟩⟩
      · have h3 : x.state = 3 := by simpa using h3
        refine hret ?_ (Mod.refl _ _)
        unfold idxTurn
        rw [if_neg hadd, hj, if_neg (by omega)]
        simp only [Int.toNat_natCast, hx]
        rw [if_pos ⟨h4, h3⟩]
      · have h3 : x.state ≠ 3 := by simpa using h3
        exact fin j x hj hx (fun e => h3 e.2)
    · have h4 : D.kind ≠ 2 := by simpa using h4
      obtain ⟨j, x, hj, hx⟩ := hpos hn
      simp only [W.unSome_some, add_mk, hj]
      exact fin j x hj hx (fun e => h4 e.1)
theorem c_foreigns (h : Gs s b S t ps) (hb : S.Bd) (hp : ps[i]? = some p) (ht : t.1 = some ⟨g, 0, none⟩) (D : Ddl) (u : Tri) (st : Int) :
    DCalls Tryz.prog 141 #[cp b, .pointer (some ⟨g, i * 5, none⟩), ddlV D u, .int .i64 st] s (OutG b (keyTurn S i p.T D st) (Lof t ps) s) := by
  obtain ⟨ua, un, uc⟩ := u
  refine ok_foreigns b ⟨g, i * 5, none⟩ D.kind D.table D.name D.column D.parent D.unique D.type D.dflt.kind D.dflt.n D.dflt.s ua un uc st _ s ?_
  unfold vc_foreigns
  have hSch := h.sch hb
  have hpm := List.mem_of_getElem? hp
  have hP := hSch.all p hpm
  have hT : p.T ∈ S.tabs := by rw [h.eq]; exact List.mem_map_of_mem hpm
  obtain ⟨b1, b2, b3, b4⟩ := hb.each p.T hT
  have hA := Gs.tabHas h.has hp ht
  have hcn : p.c.2.1 = p.T.cols.length := hP.c.len
  have hln : p.k.2.1 = p.T.keys.length := hP.k.len
  have hcell := h.cell
  simp only [RP_join, RP_ite, RP_call, RP_callQ, RP_ret, RP_nw, RP_app, RP_st, RP_ld, RP_unSome, RP_guard, RP_loop, RP_still, RP_clr, RP_look, RP_mset, W.unSome_some]
  refine ld_has (j := 4) hA (cs := [.slice]) (y := (p.k, ())) rfl ?_
  refine W.callQ_of ((keyAt p.T D.name, ()), ()) (c_findF hP.k.el hP.k.few D.name) rfl ?_
  obtain ⟨R, hR⟩ : ∃ R, OutG b (keyTurn S i p.T D st) (Lof t ps) s = R := ⟨_, rfl⟩
  have hret : ∀ {e : Int} {s'}, keyTurn S i p.T D st = .error e → Fw.Mod (b :: Lof t ps) s s' → R (.int .i64 e) s' := fun e1 m => by
    rw [← hR, e1]; exact ⟨rfl, m⟩
  rw [hR]
  have hlast : IntKind.i64.wrap (S.last + 1) = S.last + 1 := wrap_in (by have := hb.last; omega) (by have := hb.last; omega)
  refine W.join_gen (fun z s' => z = ((D.kind, D.table, D.name, D.column, D.parent, D.unique, D.type, D.dflt.kind, D.dflt.n, D.dflt.s, (ua, un, uc), ()), (keyAt p.T D.name, ()), (decide (D.kind = 6 ∧ keyAt p.T D.name < 0), ()), ()) ∧ s' = s) ?_ ?_
  rotate_left
  · intro J6 hJ6
    simp only [W.br_iff]
    refine ⟨fun h4 => hJ6 _ _ ⟨?_, rfl⟩, fun h4 => hJ6 _ _ ⟨?_, rfl⟩⟩
    · have h4 : D.kind = 6 := by simpa using h4
      simp [h4]
    · have h4 : D.kind ≠ 6 := by simpa using h4
      simp [h4]
  rintro _ s0 ⟨rfl, rfl⟩
  simp only [W.br_iff, decide_eq_true_eq, decide_eq_false_iff_not]
  refine ⟨fun hadd => ?_, fun hadd => ?_⟩
  · simp only [W.unSome_some]
    refine ld_has (j := 4) hA (cs := [.slice]) (y := (p.k, ())) rfl ?_
    refine W.callQ_of ((freshE D.name p.k.2.1, ()), ()) (c_fresh D.name p.k.2.1 _) rfl ?_
    rw [hln]
    simp only [W.br_iff, W.unSome_some]
    refine ⟨fun hf => ?_, fun hf => ?_⟩
    · have hf : freshE D.name p.T.keys.length ≠ 0 := by simpa using hf
      exact hret (by unfold keyTurn; rw [if_pos hadd, if_pos hf]) (Mod.refl _ _)
    have hf : freshE D.name p.T.keys.length = 0 := by simpa using hf
    have hnf : ¬ (freshE D.name p.T.keys.length ≠ 0) := by rw [hf]; simp
    have hnb : b ∉ Lof t ps := h.nb
    refine W.callQ_of ((pubAt p.T D.column, ()), ()) (c_public hA hP.c D.column) rfl ?_
    refine b_tabs hcell ?_
    refine W.callQ_of ((tabAt S D.parent, ()), ()) (c_findT' hSch D.parent) rfl ?_
    simp only [W.br_iff, decide_eq_true_eq, decide_eq_false_iff_not]
    refine ⟨fun hp1 => hret (by unfold keyTurn; rw [if_pos hadd, if_neg hnf, if_pos hp1]) (Mod.refl _ _), fun hp1 => ⟨fun hp2 => hret (by unfold keyTurn; rw [if_pos hadd, if_neg hnf, if_neg hp1, if_pos hp2]) (Mod.refl _ _), fun hp2 => ?_⟩⟩
    obtain ⟨j, c, hj, hc, _⟩ := (pubAt_lt (T := p.T) (name := D.column) (s := s0) (t := t)).resolve_left hp1
    have hjl := (List.getElem?_eq_some_iff.1 hc).1
    obtain ⟨j2, P, hj2, hP2, _⟩ := (seek_cases (fun T : Tab => decide (T.name = D.parent)) S.tabs).resolve_left (fun e => by have := e.1; unfold tabAt at hp2; omega)
    have hj2 : tabAt S D.parent = (j2 : Int) := hj2
    obtain ⟨pp, hpp, hppT⟩ : ∃ pp, ps[j2]? = some pp ∧ pp.T = P := by
      rw [h.eq, List.getElem?_map] at hP2
      cases hq : ps[j2]? with
      | none => rw [hq] at hP2; cases hP2
      | some pp => rw [hq] at hP2; exact ⟨pp, rfl, Option.some.inj hP2⟩
    have hj2l := (List.getElem?_eq_some_iff.1 hpp).1
    have hPm := List.mem_of_getElem? hpp
    have hPP := hSch.all pp hPm
    have hPT : P ∈ S.tabs := List.mem_of_getElem? hP2
    obtain ⟨d1, _⟩ := hb.each P hPT
    subst hppT
    have hpcn : pp.c.2.1 = pp.T.cols.length := hPP.c.len
    have htn : t.2.1 = ps.length := h.has.row.len
    obtain ⟨c0, cs, hcs⟩ : ∃ c0 cs, pp.T.cols = c0 :: cs := by
      cases hc : pp.T.cols with
      | nil => rw [hc] at d1; simp at d1
      | cons a b => exact ⟨a, b, rfl⟩
    have hTurn : keyTurn S i p.T D st = if c.kind ≠ c0.kind then .error 154 else if st = 0 then .error 1 else .ok ⟨S.version, S.last + 1, S.tabs.set i { p.T with keys := p.T.keys ++ [⟨S.last + 1, D.name, c.id, pp.T.id, st⟩] }⟩ := by
      unfold keyTurn
      rw [if_pos hadd, if_neg hnf, if_neg hp1, if_neg hp2, hj, hj2]
      simp only [Int.toNat_natCast, hc, hP2, hcs]
    rw [hj, hj2]
    simp only [W.unSome_some]
    refine ld_has (j := 2) hA (cs := [.slice]) (y := (p.c, ())) rfl ?_
    refine ⟨by show (0 : Int) ≤ j ∧ (j : Int) < (p.c.2.1 : Nat); omega, ?_⟩
    obtain ⟨ad, had, hh⟩ := hP.c.el.at_enc hc
    rw [had]
    simp only [W.unSome_some, Int.toNat_natCast]
    refine ld_has (j := 2) hh (cs := [.int .i64]) (y := (c.kind, ())) rfl ?_
    refine b_tabs hcell ?_
    have hA3 := Gs.tabHas h.has hpp ht
    refine ⟨by show (0 : Int) ≤ j2 ∧ (j2 : Int) < (t.2.1 : Nat); omega, ?_⟩
    dsimp only
    rw [ht]
    simp only [W.unSome_some, add_mk, Nat.zero_add, Int.toNat_natCast]
    refine ld_hasm (j := 2) hA3 (cs := [.slice]) (y := (pp.c, ())) rfl ?_
    refine ⟨by show (0 : Int) ≤ 0 ∧ (0 : Int) < (pp.c.2.1 : Nat); omega, ?_⟩
    obtain ⟨ad5, had5, hh5⟩ := hPP.c.el.at_enc (i := 0) (x := c0) (by rw [hcs]; (first | done | rfl))
    rw [had5]
    simp only [W.unSome_some]
    rw [Nat.zero_mul] at hh5
    refine ld_has (j := 2) hh5 (cs := [.int .i64]) (y := (c0.kind, ())) rfl ?_
    simp only [W.br_iff]
    refine ⟨fun hk => hret (by rw [hTurn, if_pos (by simpa using hk)]) (Mod.refl _ _), fun hk => ⟨fun h0 => hret (by rw [hTurn, if_neg (by simpa using hk), if_pos (by simpa using h0)]) (Mod.refl _ _), fun h0 => ?_⟩⟩
    rw [if_neg (by simpa using hk), if_neg (by simpa using h0)] at hTurn
    refine b_bump hcell hlast fun s2 m1 hc1 => ?_
    have hH2 : Has s2 t ps := h.has.mod m1 (fun x hx => by simpa using fun e : x = b => hnb (e ▸ hx))
    have hA2 := Gs.tabHas hH2 hp ht
    have hA4 := Gs.tabHas hH2 hpp ht
    have hSch2 : SchIs s2 t S ps := hH2.is h.eq (by have := hb.tabs; omega) (fun T hT => by obtain ⟨_, a, b, c⟩ := hb.each T hT; exact ⟨by omega, by omega, by omega⟩)
    have hP2' := hSch2.all p hpm
    simp only [W.unSome_some]
    refine ld_has (j := 4) hA2 (cs := [.slice]) (y := (p.k, ())) rfl ?_
    refine b_last hc1 ?_
    simp only [W.unSome_some]
    refine ld_has (j := 2) hA2 (cs := [.slice]) (y := (p.c, ())) rfl ?_
    refine ⟨by show (0 : Int) ≤ j ∧ (j : Int) < (p.c.2.1 : Nat); omega, ?_⟩
    obtain ⟨ad6, had6, hh6⟩ := hP2'.c.el.at_enc hc
    rw [had6]
    simp only [W.unSome_some, Int.toNat_natCast]
    refine ld_has (j := 0) hh6 (cs := [.int .i64]) (y := (c.id, ())) rfl ?_
    refine b_tabs hc1 ?_
    refine ⟨by show (0 : Int) ≤ j2 ∧ (j2 : Int) < (t.2.1 : Nat); omega, ?_⟩
    dsimp only
    rw [ht]
    simp only [W.unSome_some, add_mk, Nat.zero_add, Int.toNat_natCast]
    refine ld_hasm (j := 0) hA4 (cs := [.int .i64]) (y := (pp.T.id, ())) rfl ?_
    refine hH2.app_k hp ⟨S.last + 1, D.name, c.id, pp.T.id, st⟩ (by omega) ?_
    intro u s3 hu hw
    simp only [W.unSome_some, add_mk]
    refine hH2.store hp hw (j := 4) (vs := [.slice u.1 u.2.1 u.2.2]) rfl (by simp) (by simp) ht fun s4 h4 st4 => ?_
    obtain ⟨hG, hS⟩ := h.then (S' := ⟨S.version, S.last + 1, S.tabs.set i { p.T with keys := p.T.keys ++ [⟨S.last + 1, D.name, c.id, pp.T.id, st⟩] }⟩) m1 hc1 h4 st4 (by dsimp only; rw [set_map, h.eq])
    rw [← hR, hTurn]
    exact ⟨rfl, t, _, hG, hS⟩
  · have hneg : keyAt p.T D.name < 0 → R (.int .i64 153) s0 := fun e => hret (by unfold keyTurn; rw [if_neg hadd, if_pos e]) (Mod.refl _ _)
    have hpos : ¬ keyAt p.T D.name < 0 → ∃ (j : Nat) (x : For), keyAt p.T D.name = (j : Int) ∧ p.T.keys[j]? = some x := by
      intro e
      rcases seek_cases (fun c : For => decide (c.name = D.name)) p.T.keys with ⟨h1, _⟩ | ⟨j, x, h1, h2, _⟩
      · exact absurd h1 (by unfold keyAt at e; omega)
      · exact ⟨j, x, h1, h2⟩
    have fin : ∀ (j : Nat) (x : For), keyAt p.T D.name = (j : Int) → p.T.keys[j]? = some x → ¬ (D.kind = 6 ∧ x.state = 3) → W.call Tryz.prog 182 #[.pointer (some ⟨g, i * 5 + 4, none⟩), .int .i64 j, .int .i64 st, .func (.func 183) #[] #[]] (true, []) (fun _ => W.ret R (.int .i64 0)) s0 := by
      intro j x hj hx hu
      refine W.call_of (c_placeF h.has hp hx ht (by omega) st) ?_
      rintro _ s3 ⟨rfl, ps', h3, he, st3⟩
      refine ⟨(), rfl, ?_⟩
      have hTurn : keyTurn S i p.T D st = .ok ⟨S.version, S.last, S.tabs.set i { p.T with keys := placed p.T.keys j st (x.put st) }⟩ := by
        unfold keyTurn
        rw [if_neg hadd, hj, if_neg (by omega)]
        simp only [Int.toNat_natCast, hx]
        rw [if_neg hu]
      obtain ⟨hG, hS⟩ := h.then (S' := ⟨S.version, S.last, S.tabs.set i { p.T with keys := placed p.T.keys j st (x.put st) }⟩) (Mod.refl _ _) h.cell h3 st3 (by dsimp only; rw [he, h.eq])
      rw [← hR, hTurn]
      exact ⟨rfl, t, ps', hG, hS⟩
    refine ⟨fun h4 => ?_, fun h4 => ⟨hneg, fun hn => ?_⟩⟩
    · have h4 : D.kind = 6 := by simpa using h4
      have hn : ¬ keyAt p.T D.name < 0 := fun e => hadd ⟨h4, e⟩
      obtain ⟨j, x, hj, hx⟩ := hpos hn
      have hjl := (List.getElem?_eq_some_iff.1 hx).1
      simp only [W.unSome_some]
      refine ld_has (j := 4) hA (cs := [.slice]) (y := (p.k, ())) rfl ?_
      rw [hj]
      refine ⟨by show (0 : Int) ≤ j ∧ (j : Int) < (p.k.2.1 : Nat); omega, ?_⟩
      obtain ⟨ad, had, hh⟩ := hP.k.el.at_enc hx
      rw [had]
      simp only [W.unSome_some, Int.toNat_natCast]
      refine ld_has (j := 4) hh (cs := [.int .i64]) (y := (x.state, ())) rfl ?_
      simp only [W.br_iff, decide_eq_true_eq, decide_eq_false_iff_not, add_mk, W.unSome_some]
      refine ⟨fun h3 => ?_, fun h3 => ⟨fun e => by omega, fun _ => ?_⟩⟩
      · have h3 : x.state = 3 := by simpa using h3
        refine hret ?_ (Mod.refl _ _)
        unfold keyTurn
        rw [if_neg hadd, hj, if_neg (by omega)]
        simp only [Int.toNat_natCast, hx]
        rw [if_pos ⟨h4, h3⟩]
      · have h3 : x.state ≠ 3 := by simpa using h3
        exact fin j x hj hx (fun e => h3 e.2)
    · have h4 : D.kind ≠ 6 := by simpa using h4
      obtain ⟨j, x, hj, hx⟩ := hpos hn
      simp only [W.unSome_some, add_mk, hj]
      exact fin j x hj hx (fun e => h4 e.1)
end
end Go.Proofs.YthepfbcgpbkbdaaGreat
end
section
set_option linter.unusedVariables false
set_option linter.unusedSimpArgs false
set_option maxHeartbeats 1000000
set_option maxRecDepth 100000
namespace Go.Proofs.YthepfbcgpbkbdaaGreat
open Fw Go
attribute [-simp] Fw.W.ld_iff Fw.W.st_iff
theorem b_tabs2 {s : PH} {b : Nat} {v l : Int} {a : Option Addr} {n c : Nat} (h : s b = some (.cells #[.int .i64 v, .int .i64 l, .slice a n c] 44 (0, 0))) {K : Den [.slice] → W.T} (hK : K ((a, n, c), ()) s) : W.ld [.slice] ((Addr.mk b 0 none).add 2) K s := by
  have := b_tabs h hK
  simpa only [W.unSome_some] using this
theorem not_t {b : Bool} (h : (!b) = true) : b = false := by cases b <;> simp_all
theorem not_f {b : Bool} (h : (!b) = false) : b = true := by cases b <;> simp_all
theorem all_take {α : Type} {f : α → Bool} {l : List α} {k : Nat} {x : α} (h : l[k]? = some x) : (l.take (k + 1)).all f = ((l.take k).all f && f x) := by
  rw [List.take_add_one, h]; simp
section
variable {s : PH} {b : Nat} {S : Sch} {t : Tri} {ps : List TabP}
/-- a table is put behind the others -/
theorem Gs.push {s1 : PH} {p : TabP} {K : W.T} {l : Int} (h : Gs s b S t ps) (hb : ps.length ≤ 4294967296) (m1 : Fw.Mod [b] s s1) (hc : s1 b = some (.cells #[.int .i64 S.version, .int .i64 l, .slice t.1 t.2.1 t.2.2] 44 (0, 0)))
    (ho : Own s1 p) (hn : p.L.Nodup) (hf : ∀ g ∈ p.L, s g = none)
    (hK : ∀ s' t' ps', Gs s' b ⟨S.version, l, S.tabs ++ [p.T]⟩ t' ps' → Step (b :: Lof t ps) (b :: Lof t' ps') s s' → K s') {F : Option Addr → Nat → Nat → W.T} (hF : ∀ a' n' c' s', W.st ⟨b, 2, none⟩ [.slice a' n' c'] K s' → F a' n' c' s') :
    W.nw (.cells #[.int .i64 p.T.id, .string p.T.name, .slice p.c.1 p.c.2.1 p.c.2.2, .slice p.x.1 p.x.2.1 p.x.2.2, .slice p.k.1 p.k.2.1 p.k.2.2] 139 (0, 0)) (fun r => W.app 139 5 96 [.int .i64 0, .string ⟨#[]⟩, .slice none 0 0, .slice none 0 0, .slice none 0 0] t.1 t.2.1 t.2.2 (Src.sl (some ⟨r, 0, none⟩) 1) F) s1 := by
  obtain ⟨ta, tn, tc⟩ := t
  have hnb := h.nb
  have hkb : s b ≠ none := by rw [h.cell]; simp
  have hH1 : Has s1 (ta, tn, tc) ps := h.has.mod m1 fun x hx => by simpa using fun e : x = b => hnb (e ▸ hx)
  have hpb : b ∉ p.L := fun e => hkb (hf b e)
  refine hH1.push (p := p) ho hn (fun g hg hg2 => h.has.known g hg2 (hf g hg)) hb ?_
  intro a' c' s2 h2 st2
  have hLb : b ∉ Lof (a', tn + 1, c') (ps ++ [p]) := fun e => by
    rcases st2.new b e with e | e
    · rcases List.mem_append.1 e with e | e
      · exact hnb e
      · exact hpb e
    · rw [hc] at e; cases e
  have hc2 := st2.mod.at hc (fun e => by
    rcases List.mem_append.1 e with e | e
    · exact hnb e
    · exact hpb e)
  refine hF _ _ _ _ ?_
  rw [W.st_at hc2]
  refine ⟨by simp, by simp, by simp [Value.oneCell'], ?_⟩
  have m3 : Fw.Mod [b] s2 (s2.upd b (.cells (setL #[.int .i64 S.version, .int .i64 l, .slice ta tn tc] 2 [.slice a' (tn + 1) c']) 44 (0, 0))) := Mod.upd (by simp)
  have hc3 : (s2.upd b (.cells (setL #[.int .i64 S.version, .int .i64 l, .slice ta tn tc] 2 [.slice a' (tn + 1) c']) 44 (0, 0))) b = some (.cells #[.int .i64 S.version, .int .i64 l, .slice a' (tn + 1) c'] 44 (0, 0)) := PH.upd_same _ _ _
  have hH3 := h2.mod m3 fun x hx => by simpa using fun e : x = b => hLb (e ▸ hx)
  refine hK _ (a', tn + 1, c') (ps ++ [p]) ⟨hc3, hH3, hLb, by simp [h.eq]⟩ ⟨?_, ?_⟩
  · have e2 : Fw.Mod (b :: Lof (ta, tn, tc) ps) s s2 := by
      refine (m1.mono (by simp)).fresh st2.mod fun x hx => ?_
      rcases List.mem_append.1 hx with e | e
      · exact .inl (List.mem_cons_of_mem _ e)
      · exact .inr (hf x e)
    exact e2.trans (m3.mono (by simp))
  · intro x hx
    rcases List.mem_cons.1 hx with rfl | hx
    · exact .inl (by simp)
    · rcases st2.new x hx with e | e
      · rcases List.mem_append.1 e with e | e
        · exact .inl (List.mem_cons_of_mem _ e)
        · exact .inr (hf x e)
      · by_cases hxb : x = b
        · exact .inl (by simp [hxb])
        · exact .inr (m1.none e (by simpa using hxb))
theorem c_create {s00 : PH} (h : Gs s b S t ps) (hb : S.Bd) (D : Ddl) {u : Tri} (hu0 : Sl colE s00 u D.cols) (m00 : Fw.Mod [] s00 s) (hb0 : s00 b = none) (hul : D.cols.length ≤ 1073741824) (st : Int) :
    DCalls Tryz.prog 138 #[cp b, ddlV D u, .int .i64 st, .int .i64 (tabAt S D.table)] s (OutG b (createTurn S D st) (Lof t ps) s) := by
  obtain ⟨ua, un, uc⟩ := u
  refine ok_create b D.kind D.table D.name D.column D.parent D.unique D.type D.dflt.kind D.dflt.n D.dflt.s ua un uc st (tabAt S D.table) _ s ?_
  unfold vc_create
  have hu := hu0.mono m00.le
  have hun : un = D.cols.length := hu.len
  have htn : t.2.1 = ps.length := h.has.row.len
  have hpl : S.tabs.length = ps.length := by rw [h.eq]; simp
  have hcell := h.cell
  obtain ⟨R, hR⟩ : ∃ R, OutG b (createTurn S D st) (Lof t ps) s = R := ⟨_, rfl⟩
  have hret : ∀ {e : Int}, createTurn S D st = .error e → R (.int .i64 e) s := fun e1 => by
    rw [← hR, e1]; exact ⟨rfl, Mod.refl _ _⟩
  rw [hR]
  have hlast := hb.last
  simp only [RP_join, RP_ite, RP_call, RP_callQ, RP_ret, RP_nw, RP_app, RP_st, RP_ld, RP_unSome, RP_guard, RP_loop, RP_still, RP_clr, RP_look, RP_mset, W.unSome_some]
  refine callq ((named D.table, ()), ()) (c_named D.table s) rfl ?_
  refine ⟨fun z s' => ∃ k : Nat, z = ((D.kind, D.table, D.name, D.column, D.parent, D.unique, D.type, D.dflt.kind, D.dflt.n, D.dflt.s, (ua, un, uc), ()), (named D.table && (D.cols.take k).all (fun c => named c.name), ()), ((D.cols.take k).all (fun c => typed c.kind), ()), ((ua, un, uc), ()), ((un : Int), ()), ((k : Int), ()), ()) ∧ k ≤ un ∧ s' = s,
    fun z _ => un - z.2.2.2.2.2.1.1.toNat, ⟨0, by simp, Nat.zero_le _, rfl⟩, ?_⟩
  rintro _ s0 ⟨k, rfl, hk, rfl⟩
  simp only [W.br_iff, decide_eq_true_eq, decide_eq_false_iff_not]
  refine ⟨fun hlt => ?_, fun hge => ?_⟩
  · have hlt : k < un := by omega
    obtain ⟨x, hx⟩ : ∃ x, D.cols[k]? = some x := ⟨_, List.getElem?_eq_getElem (by omega)⟩
    obtain ⟨ad, had, hh⟩ := hu.el.at_enc hx
    dsimp only at had
    subst had
    have hw := wrap_succ (k := k) (by omega)
    have hm : un - (k + 1) < un - k := by omega
    refine ⟨by omega, ?_⟩
    simp only [W.unSome_some, Int.toNat_natCast, hw]
    refine ld_has_z hh (y := (x.id, x.name, x.kind, x.state, x.dflt.kind, x.dflt.n, x.dflt.s, ())) rfl ?_
    have e1 := all_take (f := fun c : Col => named c.name) hx
    have e2 := all_take (f := fun c : Col => typed c.kind) hx
    generalize (D.cols.take k).all (fun c => named c.name) = N at e1 ⊢
    generalize (D.cols.take k).all (fun c => typed c.kind) = Q at e2 ⊢
    simp only [W.br_iff]
    refine ⟨fun hN => ?_, fun hN => ?_⟩
    · refine callq ((named x.name, ()), ()) (c_named x.name _) rfl ?_
      simp only [W.br_iff]
      refine ⟨fun hQ => ?_, fun hQ => ?_⟩
      · refine callq ((typed x.kind, ()), ()) (c_kind x.kind _) rfl ?_
        refine ⟨⟨k + 1, ?_, hlt, by trivial⟩, hm⟩
        rw [e1, e2, ← Bool.and_assoc, hN, hQ]; (first | done | rfl)
      · refine ⟨⟨k + 1, ?_, hlt, by trivial⟩, hm⟩
        rw [e1, e2, ← Bool.and_assoc, hN, hQ]; (first | done | rfl)
    · refine ⟨fun hQ => ?_, fun hQ => ?_⟩
      · refine callq ((typed x.kind, ()), ()) (c_kind x.kind _) rfl ?_
        refine ⟨⟨k + 1, ?_, hlt, by trivial⟩, hm⟩
        rw [e1, e2, ← Bool.and_assoc, hN, hQ]; (first | done | rfl)
      · refine ⟨⟨k + 1, ?_, hlt, by trivial⟩, hm⟩
        rw [e1, e2, ← Bool.and_assoc, hN, hQ]; (first | done | rfl)
  have hall : D.cols.take k = D.cols := List.take_of_length_le (by omega)
  rw [hall]
  refine W.join_gen (fun z s' => z = ((D.kind, D.table, D.name, D.column, D.parent, D.unique, D.type, D.dflt.kind, D.dflt.n, D.dflt.s, (ua, un, uc), ()), ()) ∧ s' = s0 ∧
    createTurn S D st = .ok ⟨S.version, S.last + 1 + D.cols.length, S.tabs ++ [⟨S.last + 1, D.table, mkCols (S.last + 2) D.cols, [], []⟩]⟩ ∧ D.cols.length ≤ 8) ?_ ?_
  rotate_left
  · intro J hJ
    simp only [W.br_iff]
    refine ⟨fun hN => hret ?_, fun hN => ?_⟩
    · unfold createTurn
      rw [if_pos (not_t hN)]
    have hN : ¬ (named D.table && D.cols.all fun c => named c.name) = false := by rw [not_f hN]; simp
    refine W.join_gen (fun z s' => z = ((D.kind, D.table, D.name, D.column, D.parent, D.unique, D.type, D.dflt.kind, D.dflt.n, D.dflt.s, (ua, un, uc), ()), (D.cols.all (fun c => typed c.kind), ()), ((decide (0 ≤ tabAt S D.table) || dbl D.cols), ()), ()) ∧ s' = s0) ?_ ?_
    rotate_left
    · intro J2 hJ2
      simp only [W.br_iff, decide_eq_true_eq, decide_eq_false_iff_not]
      refine ⟨fun h1 => hJ2 _ _ ⟨by rw [decide_eq_true (p := 0 ≤ tabAt S D.table) h1]; (first | done | rfl), rfl⟩, fun h1 => ?_⟩
      refine callq ((dbl D.cols, ()), ()) (c_doubled (t := (ua, un, uc)) hu) rfl ?_
      exact hJ2 _ _ ⟨by rw [decide_eq_false (p := 0 ≤ tabAt S D.table) h1]; (first | done | rfl), rfl⟩
    rintro _ s1 ⟨rfl, rfl⟩
    simp only [W.br_iff]
    refine ⟨fun h1 => hret (by unfold createTurn; rw [if_neg hN, if_pos h1]), fun h1 => ?_⟩
    have h1 : ¬ (decide (0 ≤ tabAt S D.table) || dbl D.cols) = true := by rw [h1]; simp
    refine b_tabs hcell ?_
    have hbad : (6 ≤ S.tabs.length ∨ D.cols.length < 1 ∨ 8 < D.cols.length) → createTurn S D st = .error 156 := fun e => by
      unfold createTurn; rw [if_neg hN, if_neg h1, if_pos (by simp only [Bool.or_eq_true, decide_eq_true_eq]; exact e)]
    simp only [W.br_iff, decide_eq_true_eq, decide_eq_false_iff_not]
    refine ⟨fun h2 => hret (hbad ?_), fun h2 => ⟨fun h3 => hret (hbad (by omega)), fun h3 => ⟨fun h4 => hret (hbad (by omega)), fun h4 => ?_⟩⟩⟩
    · have h2 : ((t.2.1 : Nat) : Int) = 6 := by simpa using h2
      omega
    have h2 : ((t.2.1 : Nat) : Int) ≠ 6 := by simpa using h2
    have ht6 := hb.tabs
    have hok : ¬ (decide (6 ≤ S.tabs.length) || (decide (D.cols.length < 1) || decide (8 < D.cols.length))) = true := by
      simp only [Bool.or_eq_true, decide_eq_true_eq]; omega
    refine ⟨fun h5 => hret (by unfold createTurn; rw [if_neg hN, if_neg h1, if_neg hok, if_pos (not_t h5)]), fun h5 => ?_⟩
    have h5 : ¬ (D.cols.all fun c => typed c.kind) = false := by rw [not_f h5]; simp
    refine ⟨fun h6 => hret (by unfold createTurn; rw [if_neg hN, if_neg h1, if_neg hok, if_neg h5, if_pos (by simpa using h6)]), fun h6 => hJ _ _ ⟨rfl, rfl, ?_, by omega⟩⟩
    unfold createTurn; rw [if_neg hN, if_neg h1, if_neg hok, if_neg h5, if_neg (by simpa using h6)]
  rintro _ s1 ⟨rfl, rfl, hTurn, h8⟩
  have hnb := h.nb
  have hkb : s1 b ≠ none := by rw [hcell]; simp
  refine b_bump hcell (wrap_in (by omega) (by omega)) fun s2 m2 c2 => ?_
  refine b_last c2 ?_
  refine ⟨fun z s' => ∃ (k : Nat) (a : Option Addr) (n c : Nat), z = ((S.last + 1, D.table, (a, n, c), (none, 0, 0), (none, 0, 0), ()), ((ua, un, uc), ()), ((un : Int), ()), ((k : Int), ()), ()) ∧ k ≤ un ∧ rowE colE s' 97 a n c (mkCols (S.last + 2) (D.cols.take k)) ∧ (∀ g ∈ Fw.blk a, s1 g = none) ∧
    Fw.Mod [b] s1 s' ∧ s' b = some (.cells #[.int .i64 S.version, .int .i64 (S.last + 1 + k), .slice t.1 t.2.1 t.2.2] 44 (0, 0)), fun z _ => un - z.2.2.2.1.1.toNat, ⟨0, none, 0, 0, rfl, Nat.zero_le _, rowE.nil, by simp [Fw.blk], m2, by simpa using c2⟩, ?_⟩
  rintro _ s3 ⟨k, a, n, c, rfl, hk, hrow, hfr, m3, c3⟩
  simp only [W.br_iff, decide_eq_true_eq, decide_eq_false_iff_not]
  refine ⟨fun hlt => ?_, fun hge => ?_⟩
  · have hlt : k < un := by omega
    obtain ⟨x, hx⟩ : ∃ x, D.cols[k]? = some x := ⟨_, List.getElem?_eq_getElem (by omega)⟩
    have hw := wrap_succ (k := k) (by omega)
    have hm : un - (k + 1) < un - k := by omega
    have hmb : ∀ g ∈ Fw.blk a, g ≠ b := fun g hg e => hkb (by rw [← e]; exact hfr g hg)
    have hn : n = k := by have := hrow.len; rw [mkCols_len, List.length_take] at this; omega
    refine ⟨by omega, ?_⟩
    have hu3 := hu0.mono (m00.fresh m3 (by simp [hb0])).le
    obtain ⟨ad, had, hh⟩ := hu3.el.at_enc hx
    dsimp only at had
    subst had
    simp only [W.unSome_some, Int.toNat_natCast, hw]
    refine ld_has_z hh (y := (x.id, x.name, x.kind, x.state, x.dflt.kind, x.dflt.n, x.dflt.s, ())) rfl ?_
    refine b_bump c3 (wrap_in (by omega) (by omega)) fun s4 m4 c4 => ?_
    refine b_last c4 ?_
    have hrow4 := hrow.mod m4 (fun g hg => by simpa using hmb g hg)
    refine W.nw_of fun r s5 hr m5 k5 => ?_
    have hmax : maxLen = 9223372036854775807 := rfl
    refine app_rowE (hrow4.mod m5 (by simp)) rfl (ys := [⟨S.last + 1 + k + 1, x.name, x.kind, 3, ⟨0, 0, ⟨#[]⟩⟩⟩]) (k := 1) (src_has (by have := has_block k5; simpa [colE] using this) rfl) rfl rfl (by omega) (by omega) ?_
    intro a' c' s6 h' hm6
    have m35 : Fw.Mod [b] s1 s5 := (m3.trans m4).trans (m5.mono (by simp))
    have hsnoc : mkCols (S.last + 2) (D.cols.take (k + 1)) = mkCols (S.last + 2) (D.cols.take k) ++ [⟨S.last + 1 + k + 1, x.name, x.kind, 3, ⟨0, 0, ⟨#[]⟩⟩⟩] := by
      have : D.cols.take (k + 1) = D.cols.take k ++ [x] := by rw [List.take_add_one, hx]; (first | done | rfl)
      rw [this, mkCols_snoc, List.length_take, Nat.min_eq_left (by omega)]
      congr 3; omega
    have hc5 := m5.at c4 (by simp)
    have hnba : b ∉ Fw.blk a := fun e => hmb b e rfl
    refine ⟨⟨k + 1, a', n + 1, c', rfl, hlt, by rw [hsnoc]; exact h', ?_, ?_, ?_⟩, hm⟩
    · rcases hm6 with ⟨e, _⟩ | ⟨g, e, hg, _⟩
      · rw [e]; exact hfr
      · rw [e]
        intro g' hg'
        have : g' = g := by simpa [Fw.blk] using hg'
        subst this
        by_cases e2 : g' = b
        · subst e2; rw [hc5] at hg; cases hg
        · exact m35.none hg (by simpa using e2)
    · rcases hm6 with ⟨_, hm6⟩ | ⟨_, _, _, hm6⟩
      · exact m35.fresh hm6 fun x hx => .inr (hfr x hx)
      · exact m35.trans (hm6.mono (by simp))
    · have := (show s6 b = _ from by
        rcases hm6 with ⟨_, hm6⟩ | ⟨_, _, _, hm6⟩
        · exact hm6.at hc5 hnba
        · exact hm6.at hc5 (by simp))
      rw [this, show S.last + 1 + (k : Int) + 1 = S.last + 1 + ((k + 1 : Nat) : Int) by omega]
  · have hall : D.cols.take k = D.cols := List.take_of_length_le (by omega)
    rw [hall] at hrow
    refine b_tabs c3 ?_
    refine h.push (p := ⟨⟨S.last + 1, D.table, mkCols (S.last + 2) D.cols, [], []⟩, (a, n, c), noTri, noTri⟩) (by have := hb.tabs; omega) m3 c3 ⟨hrow, rowE.nil, rowE.nil⟩ ?_ ?_ ?_ (fun a' n' c' s' hst => by simp only [W.unSome_some, add_mk, Nat.zero_add]; exact hst)
    · simpa [TabP.L, Fw.blk] using blk_nodup a
    · intro g hg
      refine hfr g ?_
      simpa [TabP.L, Fw.blk] using hg
    · intro s' t' ps' hG hS
      have hkl : (k : Int) = D.cols.length := by omega
      rw [← hR, hTurn]
      refine ⟨rfl, t', ps', ?_, hS⟩
      rw [hkl] at hG
      exact hG
theorem c_turn {s00 : PH} (h : Gs s b S t ps) (hb : S.Bd) (D : Ddl) {u : Tri} (hu0 : Sl colE s00 u D.cols) (m00 : Fw.Mod [] s00 s) (hb0 : s00 b = none) (hul : D.cols.length ≤ 1073741824) (st : Int) :
    DCalls Tryz.prog 96 #[cp b, ddlV D u, .int .i64 st] s (OutG b (turn1 S D st) (Lof t ps) s) := by
  obtain ⟨ua, un, uc⟩ := u
  refine ok_turn b D.kind D.table D.name D.column D.parent D.unique D.type D.dflt.kind D.dflt.n D.dflt.s ua un uc st _ s ?_
  unfold vc_turn
  have hcell := h.cell
  have hSch := h.sch hb
  have hout : ∀ {r : Res} {y s'}, OutG b r (Lof t ps) s y s' → ∃ n, y = .int .i64 n := by
    intro r y s' ho
    cases r with
    | error e => exact ⟨e, ho.1⟩
    | ok S' => exact ⟨0, ho.1⟩
  simp only [RP_join, RP_ite, RP_call, RP_callQ, RP_ret, RP_nw, RP_app, RP_st, RP_ld, RP_unSome, RP_guard, RP_loop, RP_still, RP_clr, RP_look, RP_mset, W.unSome_some]
  refine b_tabs2 hcell ?_
  refine W.callQ_of ((tabAt S D.table, ()), ()) (c_findT' hSch D.table) rfl ?_
  simp only [W.br_iff, decide_eq_true_eq, decide_eq_false_iff_not]
  refine ⟨fun h1 => ?_, fun h1 => ⟨fun h2 => ?_, fun h2 => ?_⟩⟩
  · have h1 : D.kind = 1 := by simpa using h1
    refine W.call_of (c_create h hb D hu0 m00 hb0 hul st) ?_
    intro y s' ho
    obtain ⟨n, rfl⟩ := hout ho
    refine ⟨((n, ()), ()), rfl, ?_⟩
    show OutG b (turn1 S D st) (Lof t ps) s (.int .i64 n) s'
    unfold turn1; rw [if_pos h1]; exact ho
  · have h1 : D.kind ≠ 1 := by simpa using h1
    show OutG b (turn1 S D st) (Lof t ps) s (.int .i64 150) s
    unfold turn1; rw [if_neg h1, if_pos h2]; exact ⟨rfl, Mod.refl _ _⟩
  have h1 : D.kind ≠ 1 := by simpa using h1
  obtain ⟨i, T, hi, hT, _⟩ := (seek_cases (fun T : Tab => decide (T.name = D.table)) S.tabs).resolve_left (fun e => by have := e.1; unfold tabAt at h2; omega)
  have hi : tabAt S D.table = (i : Int) := hi
  obtain ⟨p, hp, rfl⟩ : ∃ p, ps[i]? = some p ∧ p.T = T := by
    rw [h.eq, List.getElem?_map] at hT
    cases hq : ps[i]? with
    | none => rw [hq] at hT; cases hT
    | some pp => rw [hq] at hT; exact ⟨pp, rfl, Option.some.inj hT⟩
  obtain ⟨g, ht, _⟩ := h.has.row.at hp
  have htn : t.2.1 = ps.length := h.has.row.len
  have hil := (List.getElem?_eq_some_iff.1 hp).1
  have hTurn : turn1 S D st = if D.kind = 4 ∨ D.kind = 5 then colTurn S i p.T D st else if D.kind = 2 ∨ D.kind = 3 then idxTurn S i p.T D st else keyTurn S i p.T D st := by
    unfold turn1
    rw [if_neg h1, if_neg h2, hi]
    simp only [Int.toNat_natCast, hT]
  refine b_tabs hcell ?_
  rw [hi]
  refine ⟨by show (0 : Int) ≤ i ∧ (i : Int) < (t.2.1 : Nat); omega, ?_⟩
  dsimp only
  rw [ht]
  simp only [W.unSome_some, add_mk, Nat.zero_add, Int.toNat_natCast]
  refine W.join_gen (fun z s' => z = ((D.kind, D.table, D.name, D.column, D.parent, D.unique, D.type, D.dflt.kind, D.dflt.n, D.dflt.s, (ua, un, uc), ()), (some (Addr.mk g (i * 5) none), ()), (D.kind, ()), (decide (D.kind = 4 ∨ D.kind = 5), ()), ()) ∧ s' = s) ?_ ?_
  rotate_left
  · intro J hJ
    simp only [W.br_iff]
    refine ⟨fun h4 => hJ _ _ ⟨?_, rfl⟩, fun h4 => hJ _ _ ⟨?_, rfl⟩⟩
    · have h4 : D.kind = 4 := by simpa using h4
      simp [h4]
    · have h4 : D.kind ≠ 4 := by simpa using h4
      simp [h4, beq_dec]
  rintro _ s0 ⟨rfl, rfl⟩
  simp only [W.br_iff, decide_eq_true_eq, decide_eq_false_iff_not]
  refine ⟨fun h4 => ?_, fun h4 => ?_⟩
  · rw [if_pos h4] at hTurn
    refine W.call_of (c_columns h hb hp ht D (ua, un, uc) st) ?_
    intro y s' ho
    obtain ⟨n, rfl⟩ := hout ho
    refine ⟨((n, ()), ()), rfl, ?_⟩
    rw [← hTurn] at ho
    exact ho
  rw [if_neg h4] at hTurn
  refine ⟨fun h5 => ?_, fun h5 => ?_⟩
  · have h5 : D.kind = 2 := by simpa using h5
    rw [if_pos (.inl h5)] at hTurn
    refine W.call_of (c_indexes h hb hp ht D (ua, un, uc) st) ?_
    intro y s' ho
    obtain ⟨n, rfl⟩ := hout ho
    refine ⟨((n, ()), ()), rfl, ?_⟩
    rw [← hTurn] at ho
    exact ho
  have h5 : D.kind ≠ 2 := by simpa using h5
  refine ⟨fun h6 => ?_, fun h6 => ?_⟩
  · have h6 : D.kind = 3 := by simpa using h6
    rw [if_pos (.inr h6)] at hTurn
    refine W.call_of (c_indexes h hb hp ht D (ua, un, uc) st) ?_
    intro y s' ho
    obtain ⟨n, rfl⟩ := hout ho
    refine ⟨((n, ()), ()), rfl, ?_⟩
    rw [← hTurn] at ho
    exact ho
  have h6 : D.kind ≠ 3 := by simpa using h6
  rw [if_neg (fun e => Or.elim e h5 h6)] at hTurn
  refine W.call_of (c_foreigns h hb hp ht D (ua, un, uc) st) ?_
  intro y s' ho
  obtain ⟨n, rfl⟩ := hout ho
  refine ⟨((n, ()), ()), rfl, ?_⟩
  rw [← hTurn] at ho
  exact ho
end
theorem right_bd {S : Sch} (h : right S = true) : S.Bd ∧ 0 ≤ S.version ∧ S.version ≤ 1125899906842624 := by
  obtain ⟨a, b, c, d, e⟩ := right_iff.1 h
  unfold headB at a
  simp only [Bool.and_eq_true, decide_eq_true_eq] at a
  refine ⟨⟨b, fun T hT => ?_, a.2.2.1, a.2.2.2⟩, a.1, a.2.1⟩
  obtain ⟨i, hi⟩ := List.mem_iff_getElem?.1 hT
  obtain ⟨x1, x2, x3, x4, _⟩ := tabB_iff.1 (allI_iff.1 d i T hi)
  exact ⟨x1, x2, x3, x4⟩
/-- what a change gives, in memory: a schema of its own, all new -/
def Gives (s : PH) (S' : Sch) (e : Int) (y : Value) (s' : PH) : Prop :=
  ∃ t' ps', y = .tuple #[schV S' t', .int .i64 e] ∧ Has s' t' ps' ∧ S'.tabs = ps'.map (·.T) ∧ Fw.Mod [] s s' ∧ ∀ g ∈ Lof t' ps', s g = none
theorem gives_no {s s' : PH} {e : Int} (m : Fw.Mod [] s s') : Gives s noSch e (.tuple #[schV noSch noTri, .int .i64 e]) s' := ⟨noTri, [], rfl, Has.nil _, rfl, m, by simp [Lof, Fw.blk]⟩
theorem c_Turn {s : PH} {t : Tri} {S : Sch} {ps : List TabP} (h : SchIs s t S ps) (D : Ddl) {u : Tri} (hu : Sl colE s u D.cols) (hul : D.cols.length ≤ 1073741824) (st : Int) :
    DCalls Tryz.prog 64 #[schV S t, ddlV D u, .int .i64 st] s (Gives s (S.turn D st).1 (S.turn D st).2) := by
  obtain ⟨ua, un, uc⟩ := u
  obtain ⟨ta, tn, tc⟩ := t
  refine ok_Turn S.version S.last ta tn tc D.kind D.table D.name D.column D.parent D.unique D.type D.dflt.kind D.dflt.n D.dflt.s ua un uc st _ s ?_
  unfold vc_Turn
  obtain ⟨R, hR⟩ : ∃ R, Gives s (S.turn D st).1 (S.turn D st).2 = R := ⟨_, rfl⟩
  rw [hR]
  have htn : tn = ps.length := h.el.len
  simp only [RP_join, RP_ite, RP_call, RP_callQ, RP_ret, RP_nw, RP_app, RP_st, RP_ld, RP_unSome, RP_guard, RP_loop, RP_still, RP_clr, RP_look, RP_mset, W.unSome_some]
  refine W.join_gen (fun z s' => z = ((S.version, S.last, (ta, tn, tc), ()), (D.kind, D.table, D.name, D.column, D.parent, D.unique, D.type, D.dflt.kind, D.dflt.n, D.dflt.s, (ua, un, uc), ()), (0, 0, (none, 0, 0), ()), ()) ∧ s' = s ∧ right S = true ∧ 0 ≤ st ∧ st ≤ 3) ?_ ?_
  rotate_left
  · intro J hJ
    have hbad : ¬ (right S = true ∧ 0 ≤ st ∧ st ≤ 3) → R (.tuple #[schV noSch noTri, .int .i64 100]) s := by
      intro e
      have : S.turn D st = (noSch, 100) := by
        unfold Sch.turn; rw [if_pos]
        cases hr : right S
        · rfl
        · rw [hr] at e
          simp only [Bool.true_and, Bool.and_eq_false_iff, decide_eq_false_iff_not]
          simp only [true_and] at e
          omega
      rw [← hR, this]
      exact gives_no (Mod.refl _ _)
    have hc := c_Check h
    have hE : errS S = if right S = true then 0 else 100 := rfl
    generalize errS S = E at hc hE
    refine callq ((E, ()), ()) hc rfl ?_
    subst hE
    simp only [W.br_iff, decide_eq_true_eq, decide_eq_false_iff_not]
    refine ⟨fun h1 => hbad fun e => by rw [if_pos e.1] at h1; simp at h1, fun h1 => ⟨fun h2 => hbad (by omega), fun h2 => ⟨fun h3 => hbad (by omega), fun h3 => hJ _ _ ⟨rfl, rfl, ?_, by omega, by omega⟩⟩⟩⟩
    cases hr : right S
    · rw [hr] at h1; simp at h1
    · rfl
  rintro _ s0 ⟨rfl, rfl, hr, hst0, hst3⟩
  have hturn0 : S.turn D st = if D.kind < 1 ∨ 7 < D.kind then (noSch, 1) else match turn1 { S with version := S.version + 1 } D st with
      | .error e => (noSch, e)
      | .ok S' => (S', 0) := by
    unfold Sch.turn
    rw [if_neg (by rw [hr, decide_eq_true hst0, decide_eq_true hst3]; simp)]
    first | done | rfl
  refine W.join_gen (fun z s' => z = ((S.version, S.last, (ta, tn, tc), ()), (D.kind, D.table, D.name, D.column, D.parent, D.unique, D.type, D.dflt.kind, D.dflt.n, D.dflt.s, (ua, un, uc), ()), (0, 0, (none, 0, 0), ()), ()) ∧ s' = s0 ∧ ¬ (D.kind < 1 ∨ 7 < D.kind)) ?_ ?_
  rotate_left
  · intro J hJ
    have hbad : (D.kind < 1 ∨ 7 < D.kind) → R (.tuple #[schV noSch noTri, .int .i64 1]) s0 := by
      intro e
      rw [← hR, hturn0, if_pos e]
      exact gives_no (Mod.refl _ _)
    simp only [W.br_iff, decide_eq_true_eq, decide_eq_false_iff_not]
    exact ⟨fun h2 => hbad (by omega), fun h2 => ⟨fun h3 => hbad (by omega), fun h3 => hJ _ _ ⟨rfl, rfl, by omega⟩⟩⟩
  rintro _ s1 ⟨rfl, rfl, hkind⟩
  rw [if_neg hkind] at hturn0
  obtain ⟨hbd, hv0, hv1⟩ := right_bd hr
  have ht6 := hbd.tabs
  have hpl : S.tabs.length = ps.length := by rw [h.eq]; simp
  refine W.nw_of fun r s2 hr0 m2 k2 => ?_
  rw [W.st_at k2]
  refine ⟨by simp, by simp, by simp [Value.oneCell'], ?_⟩
  have k3 : (s2.upd r (.cells (setL #[.int .i64 0, .int .i64 0, .slice none 0 0] 0 [.int .i64 S.version, .int .i64 S.last, .slice ta tn tc]) 44 (0, 0))) r = some (.cells #[.int .i64 S.version, .int .i64 S.last, .slice ta tn tc] 44 (0, 0)) := PH.upd_same _ _ _
  have m3 : Fw.Mod [] s1 (s2.upd r (.cells (setL #[.int .i64 0, .int .i64 0, .slice none 0 0] 0 [.int .i64 S.version, .int .i64 S.last, .slice ta tn tc]) 44 (0, 0))) := m2.updLater (.inr hr0)
  generalize s2.upd r (.cells (setL #[.int .i64 0, .int .i64 0, .slice none 0 0] 0 [.int .i64 S.version, .int .i64 S.last, .slice ta tn tc]) 44 (0, 0)) = s3 at k3 m3 ⊢
  simp only [add_mk, Nat.zero_add]
  rw [W.ld_at k3]
  refine ⟨(S.version, ()), by simp, ?_⟩
  have hvw : IntKind.i64.wrap (S.version + 1) = S.version + 1 := wrap_in (by omega) (by omega)
  rw [W.st_at k3]
  refine ⟨by simp, by simp, by simp [Value.oneCell'], ?_⟩
  dsimp only
  rw [hvw]
  have k4 : (s3.upd r (.cells (setL #[.int .i64 S.version, .int .i64 S.last, .slice ta tn tc] 0 [.int .i64 (S.version + 1)]) 44 (0, 0))) r = some (.cells #[.int .i64 (S.version + 1), .int .i64 S.last, .slice ta tn tc] 44 (0, 0)) := PH.upd_same _ _ _
  have m4 : Fw.Mod [] s1 (s3.upd r (.cells (setL #[.int .i64 S.version, .int .i64 S.last, .slice ta tn tc] 0 [.int .i64 (S.version + 1)]) 44 (0, 0))) := m3.updLater (.inr hr0)
  generalize s3.upd r (.cells (setL #[.int .i64 S.version, .int .i64 S.last, .slice ta tn tc] 0 [.int .i64 (S.version + 1)]) 44 (0, 0)) = s4 at k4 m4 ⊢
  rw [W.st_at k4]
  refine ⟨by simp, by simp, by simp [Value.oneCell'], ?_⟩
  have k5 : (s4.upd r (.cells (setL #[.int .i64 (S.version + 1), .int .i64 S.last, .slice ta tn tc] 2 [.slice none 0 0]) 44 (0, 0))) r = some (.cells #[.int .i64 (S.version + 1), .int .i64 S.last, .slice none 0 0] 44 (0, 0)) := PH.upd_same _ _ _
  have m5 : Fw.Mod [] s1 (s4.upd r (.cells (setL #[.int .i64 (S.version + 1), .int .i64 S.last, .slice ta tn tc] 2 [.slice none 0 0]) 44 (0, 0))) := m4.updLater (.inr hr0)
  generalize s4.upd r (.cells (setL #[.int .i64 (S.version + 1), .int .i64 S.last, .slice ta tn tc] 2 [.slice none 0 0]) 44 (0, 0)) = s5 at k5 m5 ⊢
  refine ⟨fun z s' => ∃ (k : Nat) (tc' : Tri) (pc : List TabP), z = ((D.kind, D.table, D.name, D.column, D.parent, D.unique, D.type, D.dflt.kind, D.dflt.n, D.dflt.s, (ua, un, uc), ()), (0, 0, (none, 0, 0), ()), (Addr.mk r 0 none, ()), ((ta, tn, tc), ()), ((tn : Int), ()), ((k : Int), ()), ()) ∧ k ≤ tn ∧
    Gs s' r ⟨S.version + 1, S.last, S.tabs.take k⟩ tc' pc ∧ Fw.Mod [] s1 s' ∧ ∀ g ∈ Lof tc' pc, s1 g = none, fun z _ => tn - z.2.2.2.2.2.1.1.toNat, ⟨0, noTri, [], rfl, Nat.zero_le _, ⟨k5, Has.nil _, by simp [Lof, Fw.blk], rfl⟩, m5, by simp [Lof, Fw.blk]⟩, ?_⟩
  rintro _ s6 ⟨k, tc', pc, rfl, hk, hG, m6, hf⟩
  simp only [W.br_iff, decide_eq_true_eq, decide_eq_false_iff_not]
  refine ⟨fun hlt => ?_, fun hge => ?_⟩
  · have hlt : k < tn := by omega
    obtain ⟨p, hp⟩ : ∃ p, ps[k]? = some p := ⟨_, List.getElem?_eq_getElem (by omega)⟩
    have hT : S.tabs[k]? = some p.T := by rw [h.eq, List.getElem?_map, hp]; (first | done | rfl)
    have hS6 := h.mono m6.le
    obtain ⟨ad, had, hh⟩ := hS6.el.el.at_enc hp
    dsimp only at had
    subst had
    refine ⟨by omega, ?_⟩
    simp only [W.unSome_some, Int.toNat_natCast]
    refine ld_has_z hh (y := (p.T.id, p.T.name, p.c, p.x, p.k, ())) rfl ?_
    refine b_tabs2 hG.cell ?_
    refine W.call_of (c_copied (hS6.all p (get_mem hp))) ?_
    rintro _ s7 ⟨q, rfl, hqT, hqo, m7, hqf, hqn⟩
    refine ⟨((q.T.id, q.T.name, q.c, q.x, q.k, ()), ()), rfl, ?_⟩
    have hG7 := hG.mod m7 (by simp) (by simp)
    simp only [add_mk, Nat.zero_add]
    rw [W.still_at hG7.cell]
    refine ⟨by simp, ?_⟩
    have hpcl : pc.length = k := by
      have := congrArg List.length hG.eq
      simp only [List.length_map, List.length_take] at this
      omega
    have hq7 : ∀ g ∈ q.L, g ∉ Lof tc' pc := fun g hg hg2 => hG.has.known g hg2 (hqf g hg)
    have m67 : Fw.Mod [] s1 s7 := m6.trans m7
    have hpush := Gs.push (s := s6) (s1 := s7) (p := q) (l := S.last) (K := fun s' => (∃ (k' : Nat) (tc'' : Tri) (pc' : List TabP), (((D.kind, D.table, D.name, D.column, D.parent, D.unique, D.type, D.dflt.kind, D.dflt.n, D.dflt.s, (ua, un, uc), ()), (0, 0, (none, 0, 0), ()), (Addr.mk r 0 none, ()), ((some ad, tn, tc), ()), ((tn : Int), ()), (IntKind.i64.wrap ((k : Int) + 1), ()), ()) :
        MDen [(true, [.int .i64, .str, .str, .str, .str, .bool, .int .i64, .int .i64, .int .i64, .str, .slice]), (true, [.int .i64, .int .i64, .slice]), (false, [.addr]), (false, [.slice]), (false, [.int .i64]), (false, [.int .i64])]) =
        ((D.kind, D.table, D.name, D.column, D.parent, D.unique, D.type, D.dflt.kind, D.dflt.n, D.dflt.s, (ua, un, uc), ()), (0, 0, (none, 0, 0), ()), (Addr.mk r 0 none, ()), ((some ad, tn, tc), ()), ((tn : Int), ()), ((k' : Int), ()), ()) ∧ k' ≤ tn ∧
      Gs s' r ⟨S.version + 1, S.last, S.tabs.take k'⟩ tc'' pc' ∧ Fw.Mod [] s1 s' ∧ ∀ g ∈ Lof tc'' pc', s1 g = none) ∧ tn - (IntKind.i64.wrap ((k : Int) + 1)).toNat < tn - ((k : Int)).toNat) hG (by omega) (m7.mono (by simp)) hG7.cell hqo hqn hqf (by
        intro s' t' ps' hG' hS'
        rw [wrap_succ (k := k) (by omega)]
        refine ⟨⟨k + 1, t', ps', rfl, hlt, ?_, ?_, ?_⟩, by simp only [Int.toNat_natCast]; omega⟩
        · have e : S.tabs.take (k + 1) = S.tabs.take k ++ [q.T] := by rw [List.take_add_one, hT, hqT]; (first | done | rfl)
          rw [e]; exact hG'
        · refine m6.fresh hS'.mod fun x hx => ?_
          rcases List.mem_cons.1 hx with rfl | hx
          · exact .inr hr0
          · exact .inr (hf x hx)
        · intro g hg
          rcases hS'.new g (List.mem_cons_of_mem _ hg) with e | e
          · rcases List.mem_cons.1 e with rfl | e
            · exact hr0
            · exact hf g e
          · exact m6.none e (by simp)) (fun a' n' c' s' hst => hst)
    exact hpush
  · have hall : S.tabs.take k = S.tabs := List.take_of_length_le (by omega)
    rw [hall] at hG
    have hbd1 : Sch.Bd ⟨S.version + 1, S.last, S.tabs⟩ := ⟨hbd.tabs, hbd.each, hbd.last⟩
    have hmod : ∀ {s'}, Fw.Mod (r :: Lof tc' pc) s6 s' → Fw.Mod [] s1 s' := fun m => m6.fresh m fun x hx => by
      rcases List.mem_cons.1 hx with rfl | hx
      · exact .inr hr0
      · exact .inr (hf x hx)
    have herr := turn1_err ⟨S.version + 1, S.last, S.tabs⟩ D st
    refine W.call_of (c_turn hG hbd1 D hu m6 hr0 hul st) ?_
    intro y s7 ho
    generalize turn1 ⟨S.version + 1, S.last, S.tabs⟩ D st = res at ho hturn0 herr
    cases res with
    | error e =>
      obtain ⟨rfl, m7⟩ := ho
      refine ⟨((e, ()), ()), rfl, ?_⟩
      have he := herr e rfl
      simp only [W.br_iff]
      refine ⟨fun _ => ?_, fun hz => absurd (by simpa using hz) he⟩
      rw [← hR, hturn0]
      exact gives_no (hmod m7)
    | ok S' =>
      obtain ⟨rfl, t', ps', hG', hS'⟩ := ho
      refine ⟨((0, ()), ()), rfl, ?_⟩
      refine (W.br_iff _ _ _ _).2 ⟨fun hz => by simp at hz, fun _ => ?_⟩
      rw [W.ld_at hG'.cell]
      refine ⟨(S'.version, S'.last, (t'.1, t'.2.1, t'.2.2), ()), by simp, ?_⟩
      rw [← hR, hturn0]
      refine ⟨t', ps', rfl, hG'.has, hG'.eq, hmod hS'.mod, fun g hg => ?_⟩
      rcases hS'.new g (List.mem_cons_of_mem _ hg) with e | e
      · rcases List.mem_cons.1 e with rfl | e
        · exact hr0
        · exact hf g e
      · exact m6.none e (by simp)
end Go.Proofs.YthepfbcgpbkbdaaGreat
end
section
set_option linter.unusedVariables false
set_option linter.unusedSimpArgs false
set_option maxHeartbeats 1000000
set_option maxRecDepth 100000
namespace Go.Proofs.YthepfbcgpbkbdaaGreat
open Fw Go
attribute [-simp] Fw.W.ld_iff Fw.W.st_iff
end Go.Proofs.YthepfbcgpbkbdaaGreat
end
section
set_option linter.unusedVariables false
set_option linter.unusedSimpArgs false
set_option maxHeartbeats 2000000
set_option maxRecDepth 100000
namespace Go.Proofs.YthepfbcgpbkbdaaGreat
open Fw Go
attribute [-simp] Fw.W.ld_iff Fw.W.st_iff
/-- no state is nothing -/
structure Sch.Sn (S : Sch) : Prop where
  c : ∀ T ∈ S.tabs, ∀ x ∈ T.cols, x.state ≠ 0
  x : ∀ T ∈ S.tabs, ∀ x ∈ T.idxs, x.state ≠ 0
  k : ∀ T ∈ S.tabs, ∀ x ∈ T.keys, x.state ≠ 0
def pos (k : Nat) (st : Int) (j : Nat) : Nat := if st = 0 ∧ k < j then j - 1 else j
theorem placed_len {α : Type} {l : List α} {k : Nat} {st : Int} {x' : α} : (placed l k st x').length ≤ l.length := by
  unfold placed; split
  · rw [List.length_eraseIdx]; split <;> omega
  · rw [List.length_set]; exact Nat.le_refl _
section
variable {s : PH} {S : Sch} {t : Tri} {ps : List TabP} {i : Nat} {p : TabP}
end
end Go.Proofs.YthepfbcgpbkbdaaGreat
end
section
set_option linter.unusedVariables false
set_option linter.unusedSimpArgs false
set_option maxHeartbeats 1000000
set_option maxRecDepth 100000
namespace Go.Proofs.YthepfbcgpbkbdaaGreat
open Fw Go
attribute [-simp] Fw.W.ld_iff Fw.W.st_iff
def Res.out (r : Res) : Sch × Int := match r with
  | .error e => (noSch, e)
  | .ok S' => (S', 0)
end Go.Proofs.YthepfbcgpbkbdaaGreat
end
section
set_option linter.unusedVariables false
set_option linter.unusedSimpArgs false
set_option maxHeartbeats 1000000
set_option maxRecDepth 100000
namespace Go.Proofs.YthepfbcgpbkbdaaGreat
open Fw Go
theorem named_sm {t : ByteArray} (h : named t = true) : t.size ≤ 281474976710656 := by
  unfold named at h
  simp only [Bool.and_eq_true, decide_eq_true_eq] at h
  omega
theorem valOk_sm {v : Val} (h : valOk v = true) : v.s.size ≤ 281474976710656 := by
  unfold valOk at h
  split at h
  · simp only [Bool.and_eq_true, decide_eq_true_eq] at h
    rw [h.2]; exact Nat.zero_le _
  · split at h
    · simp only [decide_eq_true_eq] at h
      rw [h]; exact Nat.zero_le _
    · split at h
      · simp only [Bool.and_eq_true, decide_eq_true_eq] at h
        omega
      · cases h
theorem fits_sm {v : Val} {k : Int} (h : fits v k = true) : v.s.size ≤ 281474976710656 := by
  unfold fits at h
  simp only [Bool.and_eq_true] at h
  exact valOk_sm h.1
theorem fresh_sm {t : ByteArray} {n : Int} (h : ¬ (freshE t n ≠ 0)) : t.size ≤ 281474976710656 := by
  refine named_sm ?_
  cases hn : named t
  · exact absurd (by unfold freshE; rw [if_pos hn]; decide) h
  · rfl
theorem placed_mem {α : Type} {l : List α} {k : Nat} {st : Int} {x' y : α} (h : y ∈ placed l k st x') : y ∈ l ∨ y = x' := by
  unfold placed at h
  split at h
  · exact .inl (List.mem_of_mem_eraseIdx h)
  · exact List.mem_or_eq_of_mem_set h
theorem placed_le {α : Type} {l : List α} {k : Nat} {st : Int} {x' : α} : (placed l k st x').length ≤ l.length := placed_len
theorem sum_le {α : Type} {f : α → Nat} {b : Nat} : ∀ (l : List α), (∀ x ∈ l, f x ≤ b) → (l.map f).sum ≤ l.length * b
  | [], _ => by simp
  | x :: l, h => by
    have h1 := h x (by simp)
    have h2 := sum_le l fun y hy => h y (by simp [hy])
    simp only [List.map_cons, List.sum_cons, List.length_cons, Nat.succ_mul]
    omega
theorem sm_of {S : Sch} (h : ∀ T ∈ S.tabs, T.Sm ∧ T.cost ≤ 28) (hl : S.tabs.length ≤ 10) : S.Sm := by
  refine ⟨fun T hT => (h T hT).1, ?_⟩
  have := sum_le (f := Tab.cost) (b := 28) S.tabs fun T hT => (h T hT).2
  unfold Sch.cost
  omega
theorem right_sm {S : Sch} (h : right S = true) : ∀ T ∈ S.tabs, T.Sm ∧ T.cost ≤ 25 ∧ T.cols.length ≤ 8 ∧ T.idxs.length ≤ 8 ∧ T.keys.length ≤ 8 := by
  obtain ⟨a, b, c, d, e⟩ := right_iff.1 h
  intro T hT
  obtain ⟨i, hi⟩ := List.mem_iff_getElem?.1 hT
  obtain ⟨l1, l2, l3, l4, n1, n2, n3, _, c1, _, _⟩ := tabB_iff.1 (allI_iff.1 d i T hi)
  have hn := allI_iff.1 c i T hi
  unfold nameT at hn
  simp only [Bool.and_eq_true] at hn
  refine ⟨⟨named_sm hn.1, fun x hx => ?_, fun x hx => ?_, fun x hx => ?_⟩, by unfold Tab.cost; omega, l2, l3, l4⟩
  · obtain ⟨j, hj⟩ := List.mem_iff_getElem?.1 hx
    have g1 := allI_iff.1 n1 j x hj
    have g2 := allI_iff.1 c1 j x hj
    unfold nameC at g1
    unfold colB at g2
    simp only [Bool.and_eq_true] at g1 g2
    exact ⟨named_sm g1.1, fits_sm g2.2.2⟩
  · obtain ⟨j, hj⟩ := List.mem_iff_getElem?.1 hx
    have g1 := allI_iff.1 n2 j x hj
    unfold nameX at g1
    simp only [Bool.and_eq_true] at g1
    exact named_sm g1.1
  · obtain ⟨j, hj⟩ := List.mem_iff_getElem?.1 hx
    have g1 := allI_iff.1 n3 j x hj
    unfold nameF at g1
    simp only [Bool.and_eq_true] at g1
    exact named_sm g1.1
theorem mkCols_sm : ∀ (l : List Col) (n : Int), (∀ c ∈ l, c.name.size ≤ 281474976710656) → ∀ c ∈ mkCols n l, c.Sm
  | [], n, _ => by simp [mkCols]
  | d :: l, n, h => by
    intro c hc
    simp only [mkCols, List.mem_cons] at hc
    rcases hc with rfl | hc
    · exact ⟨h d (by simp), Nat.zero_le _⟩
    · exact mkCols_sm l _ (fun x hx => h x (by simp [hx])) c hc
def Res.SmOk (r : Res) : Prop := ∀ S', r = .ok S' → S'.Sm
theorem smo_ite {c : Prop} [Decidable c] {a b : Res} (ha : c → a.SmOk) (hb : ¬ c → b.SmOk) : Res.SmOk (if c then a else b) := by
  by_cases h : c
  · rw [if_pos h]; exact ha h
  · rw [if_neg h]; exact hb h
theorem smo_e {e : Int} : Res.SmOk (.error e) := fun S' h' => by cases h'
theorem smo_o {S : Sch} (h : S.Sm) : Res.SmOk (.ok S) := fun e' h' => by cases h'; exact h
theorem set_sm {S : Sch} {v l : Int} {i : Nat} {T T' : Tab} (h : ∀ T ∈ S.tabs, T.Sm ∧ T.cost ≤ 25 ∧ T.cols.length ≤ 8 ∧ T.idxs.length ≤ 8 ∧ T.keys.length ≤ 8) (hl : S.tabs.length ≤ 6) (h1 : T'.Sm) (h2 : T'.cost ≤ 28) : Sch.Sm ⟨v, l, S.tabs.set i T'⟩ := by
  refine sm_of (fun U hU => ?_) (by simp; omega)
  rcases List.mem_or_eq_of_mem_set hU with hU | rfl
  · obtain ⟨a, b, _⟩ := h U hU; exact ⟨a, by omega⟩
  · exact ⟨h1, h2⟩
theorem turn1_sm {S : Sch} {D : Ddl} {st : Int} (h : ∀ T ∈ S.tabs, T.Sm ∧ T.cost ≤ 25 ∧ T.cols.length ≤ 8 ∧ T.idxs.length ≤ 8 ∧ T.keys.length ≤ 8) (hl : S.tabs.length ≤ 6) : (turn1 S D st).SmOk := by
  unfold turn1
  refine smo_ite (fun _ => ?_) fun _ => smo_ite (fun _ => smo_e) fun _ => ?_
  · unfold createTurn
    refine smo_ite (fun _ => smo_e) fun hn => smo_ite (fun _ => smo_e) fun _ => smo_ite (fun _ => smo_e) fun h8 => smo_ite (fun _ => smo_e) fun _ => smo_ite (fun _ => smo_e) fun _ => smo_o ?_
    have hn : (named D.table && D.cols.all fun c => named c.name) = true := by
      cases e : (named D.table && D.cols.all fun c => named c.name)
      · exact absurd e hn
      · rfl
    simp only [Bool.and_eq_true, List.all_eq_true] at hn
    simp only [Bool.or_eq_true, decide_eq_true_eq] at h8
    refine sm_of (fun U hU => ?_) (by simp; omega)
    rcases List.mem_append.1 hU with hU | hU
    · obtain ⟨a, b, _⟩ := h U hU; exact ⟨a, by omega⟩
    · have : U = ⟨S.last + 1, D.table, mkCols (S.last + 2) D.cols, [], []⟩ := by simpa using hU
      subst this
      refine ⟨⟨named_sm hn.1, mkCols_sm _ _ fun c hc => named_sm (hn.2 c hc), by simp, by simp⟩, ?_⟩
      unfold Tab.cost
      simp only [mkCols_len, List.length_nil]
      omega
  split
  · exact smo_e
  rename_i T hT
  obtain ⟨hTs, hTc, c8, x8, k8⟩ := h T (List.mem_of_getElem? hT)
  refine smo_ite (fun _ => ?_) fun _ => smo_ite (fun _ => ?_) fun _ => ?_
  · unfold colTurn
    refine smo_ite (fun _ => smo_ite (fun _ => smo_e) fun hf => smo_ite (fun _ => smo_e) fun hk => smo_ite (fun _ => smo_e) fun _ => smo_o ?_) fun _ => smo_ite (fun _ => smo_e) fun _ => ?_
    · have hk : (typed D.type && fits D.dflt D.type) = true := by
        cases e : (typed D.type && fits D.dflt D.type)
        · exact absurd e hk
        · rfl
      simp only [Bool.and_eq_true] at hk
      refine set_sm (T := T) h hl ⟨hTs.name, fun x hx => ?_, hTs.idxs, hTs.keys⟩ (by unfold Tab.cost; simp only [List.length_append, List.length_singleton]; omega)
      rcases List.mem_append.1 hx with hx | hx
      · exact hTs.cols x hx
      · have : x = ⟨S.last + 1, D.column, D.type, st, D.dflt⟩ := by simpa using hx
        subst this
        exact ⟨fresh_sm hf, fits_sm hk.2⟩
    · split
      · exact smo_e
      rename_i x hx
      refine smo_ite (fun _ => smo_e) fun _ => smo_ite (fun _ => smo_e) fun _ => smo_o ?_
      have hp := placed_le (l := T.cols) (k := (colAt T D.column).toNat) (st := st) (x' := x.put st)
      refine set_sm (T := T) h hl ⟨hTs.name, fun y hy => ?_, hTs.idxs, hTs.keys⟩ (by unfold Tab.cost; dsimp only; omega)
      rcases placed_mem hy with hy | rfl
      · exact hTs.cols y hy
      · exact hTs.cols x (List.mem_of_getElem? hx)
  · unfold idxTurn
    refine smo_ite (fun _ => smo_ite (fun _ => smo_e) fun hf => smo_ite (fun _ => smo_e) fun hk => smo_ite (fun _ => smo_e) fun _ => ?_) fun _ => smo_ite (fun _ => smo_e) fun _ => ?_
    · split
      · exact smo_e
      rename_i c hc
      refine smo_o (set_sm (T := T) h hl ⟨hTs.name, hTs.cols, fun x hx => ?_, hTs.keys⟩ (by unfold Tab.cost; simp only [List.length_append, List.length_singleton]; omega))
      rcases List.mem_append.1 hx with hx | hx
      · exact hTs.idxs x hx
      · have : x = ⟨S.last + 1, D.name, c.id, D.unique, st⟩ := by simpa using hx
        subst this
        exact fresh_sm hf
    · split
      · exact smo_e
      rename_i x hx
      refine smo_ite (fun _ => smo_e) fun _ => smo_o ?_
      have hp := placed_le (l := T.idxs) (k := (idxAt T D.name).toNat) (st := st) (x' := x.put st)
      refine set_sm (T := T) h hl ⟨hTs.name, hTs.cols, fun y hy => ?_, hTs.keys⟩ (by unfold Tab.cost; dsimp only; omega)
      rcases placed_mem hy with hy | rfl
      · exact hTs.idxs y hy
      · exact hTs.idxs x (List.mem_of_getElem? hx)
  · unfold keyTurn
    refine smo_ite (fun _ => smo_ite (fun _ => smo_e) fun hf => smo_ite (fun _ => smo_e) fun hk => smo_ite (fun _ => smo_e) fun _ => ?_) fun _ => smo_ite (fun _ => smo_e) fun _ => ?_
    · split
      · rename_i c P hc hP
        split
        · exact smo_e
        · refine smo_ite (fun _ => smo_e) fun _ => smo_ite (fun _ => smo_e) fun _ => smo_o (set_sm (T := T) h hl ⟨hTs.name, hTs.cols, hTs.idxs, fun x hx => ?_⟩ (by unfold Tab.cost; simp only [List.length_append, List.length_singleton]; omega))
          rcases List.mem_append.1 hx with hx | hx
          · exact hTs.keys x hx
          · have : x = ⟨S.last + 1, D.name, c.id, P.id, st⟩ := by simpa using hx
            subst this
            exact fresh_sm hf
      · exact smo_e
    · split
      · exact smo_e
      rename_i x hx
      refine smo_ite (fun _ => smo_e) fun _ => smo_o ?_
      have hp := placed_le (l := T.keys) (k := (keyAt T D.name).toNat) (st := st) (x' := x.put st)
      refine set_sm (T := T) h hl ⟨hTs.name, hTs.cols, hTs.idxs, fun y hy => ?_⟩ (by unfold Tab.cost; dsimp only; omega)
      rcases placed_mem hy with hy | rfl
      · exact hTs.keys y hy
      · exact hTs.keys x (List.mem_of_getElem? hx)
theorem no_sm : noSch.Sm := ⟨by simp, by simp [Sch.cost]⟩
theorem turn_sm (S : Sch) (D : Ddl) (st : Int) : (S.turn D st).1.Sm := by
  unfold Sch.turn
  by_cases hr : (right S && (decide (0 ≤ st) && decide (st ≤ 3))) = false
  · rw [if_pos hr]; exact no_sm
  rw [if_neg hr]
  have hr : right S = true := by
    cases e : right S
    · rw [e] at hr; exact absurd rfl hr
    · rfl
  split
  · exact no_sm
  · have := turn1_sm (S := { S with version := S.version + 1 }) (D := D) (st := st) (fun T hT => right_sm hr T hT) (right_iff.1 hr).2.1
    cases e : turn1 { S with version := S.version + 1 } D st with
    | error e => exact no_sm
    | ok S' => exact this S' e
theorem Sch.Sm.few {S : Sch} (h : S.Sm) : S.tabs.length ≤ 4294967296 ∧ ∀ T ∈ S.tabs, T.Few := by
  have hc := h.cost
  unfold Sch.cost at hc
  have key : ∀ l : List Tab, l.length ≤ (l.map Tab.cost).sum ∧ ∀ T ∈ l, T.cost ≤ (l.map Tab.cost).sum := by
    intro l
    induction l with
    | nil => simp
    | cons a l ih =>
      simp only [List.map_cons, List.sum_cons, List.length_cons]
      have ha : 1 ≤ a.cost := by unfold Tab.cost; omega
      refine ⟨by have := ih.1; omega, fun T hT => ?_⟩
      rcases List.mem_cons.1 hT with rfl | hT
      · omega
      · have := ih.2 T hT; omega
  obtain ⟨k1, k2⟩ := key S.tabs
  refine ⟨by omega, fun T hT => ?_⟩
  have := k2 T hT
  have hT2 : T.cost = 1 + T.cols.length + T.idxs.length + T.keys.length := rfl
  exact ⟨by omega, by omega, by omega⟩
theorem Has.sm {s : PH} {t : Tri} {ps : List TabP} {S : Sch} (h : Has s t ps) (he : S.tabs = ps.map (·.T)) (hs : S.Sm) : SchIs s t S ps := h.is he hs.few.1 hs.few.2
end Go.Proofs.YthepfbcgpbkbdaaGreat
end
section
set_option linter.unusedVariables false
set_option linter.unusedSimpArgs false
set_option maxHeartbeats 1000000
set_option maxRecDepth 100000
namespace Go.Proofs.YthepfbcgpbkbdaaGreat
open Fw Go
attribute [-simp] Fw.W.ld_iff Fw.W.st_iff
def rdVal : Rd Val := (Rd.pair (Rd.int .i64) (Rd.pair (Rd.int .i64) (Rd.pair Rd.str Rd.unit))).map fun x => ⟨x.1, x.2.1, x.2.2.1⟩
def rdCol : Rd Col := (Rd.pair (Rd.int .i64) (Rd.pair Rd.str (Rd.pair (Rd.int .i64) (Rd.pair (Rd.int .i64) (Rd.pair rdVal Rd.unit))))).map fun x => ⟨x.1, x.2.1, x.2.2.1, x.2.2.2.1, x.2.2.2.2.1⟩
def rdDdlF : Rd (Int × ByteArray × ByteArray × ByteArray × ByteArray × Bool × Int × Val × List Col × Unit) :=
  Rd.pair (Rd.int .i64) (Rd.pair Rd.str (Rd.pair Rd.str (Rd.pair Rd.str (Rd.pair Rd.str (Rd.pair Rd.bool (Rd.pair (Rd.int .i64) (Rd.pair rdVal (Rd.pair (Rd.sl rdCol 72) Rd.unit))))))))
def rdDdl : Rd Ddl := rdDdlF.map fun x => ⟨x.1, x.2.1, x.2.2.1, x.2.2.2.1, x.2.2.2.2.1, x.2.2.2.2.2.1, x.2.2.2.2.2.2.1, x.2.2.2.2.2.2.2.1, x.2.2.2.2.2.2.2.2.1⟩
theorem op3 : Opens Tryz.prog 3 (Rd.int .i64) := opens_int Tryz.underlying3 (by kernel_rfl)
theorem op9 : Opens Tryz.prog 9 Rd.str := opens_str Tryz.underlying9 (by kernel_rfl)
theorem op4 : Opens Tryz.prog 4 Rd.bool := opens_bool Tryz.underlying4 (by kernel_rfl)
theorem op26 : Opens Tryz.prog 33 rdVal := opens_map _ (opens_struct (.cons rfl op3 (.cons rfl (opens_int Tryz.underlying2 (by kernel_rfl)) (.cons rfl op9 (.nil _)))) Tryz.underlying33 (by kernel_rfl))
theorem op44 : Opens Tryz.prog 97 rdCol := opens_map _ (opens_struct (.cons rfl op3 (.cons rfl op9 (.cons rfl op3 (.cons rfl op3 (.cons rfl op26 (.nil _)))))) Tryz.underlying97 (by kernel_rfl))
theorem op27 : Opens Tryz.prog 34 (Rd.sl rdCol 72) := opens_sl op44 Tryz.underlying34 (by kernel_rfl) (by kernel_rfl)
theorem op29 : Opens Tryz.prog 36 rdDdl := opens_map _ (opens_struct (.cons rfl op3 (.cons rfl op9 (.cons rfl op9 (.cons rfl op9 (.cons rfl op9 (.cons rfl op4 (.cons rfl op3 (.cons rfl op26 (.cons rfl op27 (.nil _)))))))))) Tryz.underlying36 (by kernel_rfl))
theorem rsz : reachBytes ≤ 281474976710656 := by decide
theorem rdVal_is {s : PH} {cs : List Value} {v : Val} (h : rdVal.is s cs v) : cs = [.int .i64 v.kind, .int .i64 v.n, .string v.s] ∧ v.s.size ≤ 281474976710656 := by
  obtain ⟨x, rfl, c1, c2, rfl, ⟨rfl, _⟩, d1, d2, rfl, ⟨rfl, _⟩, e1, e2, rfl, ⟨rfl, h3⟩, rfl⟩ := h
  exact ⟨rfl, Nat.le_trans h3 rsz⟩
theorem rdCol_is {s : PH} {cs : List Value} {c : Col} (h : rdCol.is s cs c) : cs = colE.f c ∧ c.Sm := by
  obtain ⟨x, rfl, c1, c2, rfl, ⟨rfl, _⟩, d1, d2, rfl, ⟨rfl, h2⟩, e1, e2, rfl, ⟨rfl, _⟩, f1, f2, rfl, ⟨rfl, _⟩, g1, g2, rfl, h5, rfl⟩ := h
  obtain ⟨rfl, h6⟩ := rdVal_is h5
  exact ⟨rfl, Nat.le_trans h2 rsz, h6⟩
/-- elements that can be read; they may be many -/
structure SlB {α : Type} (E : Enc α) (s : PH) (t : Tri) (xs : List α) : Prop where
  el : elems (Rd.enc E) s t.1 t.2.1 xs
  le : t.2.1 ≤ t.2.2
  big : xs.length ≤ 4398046511104
theorem SlB.few {α : Type} {E : Enc α} {s : PH} {t : Tri} {xs : List α} (h : SlB E s t xs) (hl : xs.length ≤ 4294967296) : Sl E s t xs := ⟨h.el, h.le, hl⟩
theorem sl_open {α : Type} {R : Rd α} {E : Enc α} {P : α → Prop} {bytes : Nat} {s : PH} {cs : List Value} {xs : List α} (hb : 48 ≤ bytes) (hz : R.sz = E.sz) (hi : ∀ cs x, R.is s cs x → cs = E.f x ∧ P x) (h : (Rd.sl R bytes).is s cs xs) :
    ∃ t : Tri, cs = [t.v] ∧ SlB E s t xs ∧ ∀ x ∈ xs, P x := by
  obtain ⟨a, n, c, rfl, h1, h2, h3, h4⟩ := h
  refine ⟨(a, n, c), rfl, ⟨h4.imp hz fun cs x hx => (hi cs x hx).1, h1, ?_⟩, fun x hx => ?_⟩
  · have hr : reachBytes = 140737488351232 := rfl
    have : c * 48 ≤ c * bytes := Nat.mul_le_mul_left _ hb
    have := h4.1
    omega
  · obtain ⟨i, hi2⟩ := List.mem_iff_getElem?.1 hx
    obtain ⟨ad, cs', _, h6, _⟩ := h4.2 i x hi2
    exact (hi cs' x h6).2
structure TabB (s : PH) (p : TabP) : Prop where
  c : SlB colE s p.c p.T.cols
  x : SlB idxE s p.x p.T.idxs
  k : SlB forE s p.k p.T.keys
structure SchB (s : PH) (t : Tri) (S : Sch) (ps : List TabP) : Prop where
  el : SlB tabE s t ps
  eq : S.tabs = ps.map (·.T)
  all : ∀ p ∈ ps, TabB s p
theorem rdDdl_is {s : PH} {cs : List Value} {D : Ddl} (h : rdDdl.is s cs D) : ∃ t : Tri, cs = [.int .i64 D.kind, .string D.table, .string D.name, .string D.column, .string D.parent, .bool D.unique, .int .i64 D.type, .int .i64 D.dflt.kind, .int .i64 D.dflt.n, .string D.dflt.s, .slice t.1 t.2.1 t.2.2] ∧ SlB colE s t D.cols := by
  obtain ⟨x, rfl, c1, c2, rfl, ⟨rfl, _⟩, d1, d2, rfl, ⟨rfl, _⟩, e1, e2, rfl, ⟨rfl, _⟩, f1, f2, rfl, ⟨rfl, _⟩, g1, g2, rfl, ⟨rfl, _⟩, i1, i2, rfl, rfl, j1, j2, rfl, ⟨rfl, _⟩, k1, k2, rfl, hv, l1, l2, rfl, hc, rfl⟩ := h
  obtain ⟨rfl, _⟩ := rdVal_is hv
  obtain ⟨t, rfl, k, _⟩ := sl_open (by omega) rfl (fun cs x hx => rdCol_is hx) hc
  exact ⟨t, rfl, k⟩
def wsum (l : List Tab) : Nat := (l.map fun T => T.cols.length + T.idxs.length + T.keys.length).sum
theorem SchB.is {s : PH} {t : Tri} {S : Sch} {ps : List TabP} (h : SchB s t S ps) (hl : S.tabs.length + wsum S.tabs ≤ 300) : SchIs s t S ps := by
  have key : ∀ (l : List Tab), ∀ T ∈ l, T.cols.length + T.idxs.length + T.keys.length ≤ wsum l := by
    intro l
    induction l with
    | nil => simp
    | cons a l ih =>
      intro T hT
      have e : wsum (a :: l) = (a.cols.length + a.idxs.length + a.keys.length) + wsum l := by simp [wsum]
      rcases List.mem_cons.1 hT with rfl | hT
      · omega
      · have := ih T hT; omega
  have hpl : S.tabs.length = ps.length := by rw [h.eq]; simp
  refine ⟨h.el.few (by omega), h.eq, fun p hp => ?_⟩
  have hT : p.T ∈ S.tabs := by rw [h.eq]; exact List.mem_map_of_mem hp
  have := key S.tabs p.T hT
  obtain ⟨a, b, c⟩ := h.all p hp
  exact ⟨a.few (by omega), b.few (by omega), c.few (by omega)⟩
abbrev bs (l : List UInt8) : ByteArray := ⟨l.toArray⟩
abbrev emp : ByteArray := ⟨#[]⟩
def exD : Ddl := ⟨1, bs [116], emp, emp, emp, false, 0, ⟨0, 0, emp⟩, [⟨0, bs [97], 1, 0, ⟨0, 0, emp⟩⟩, ⟨0, bs [98], 2, 0, ⟨0, 0, emp⟩⟩]⟩
def exD2 : Ddl := ⟨2, bs [116], bs [105], bs [98], emp, false, 0, ⟨0, 0, emp⟩, []⟩
theorem c_Example (s : PH) : DCalls Tryz.prog 24 #[] s fun y s' => ∃ u : Tri, y = ddlV exD u ∧ Sl colE s' u exD.cols ∧ Fw.Mod [] s s' := by
  refine ok_Example _ s ?_
  unfold vc_Example
  simp only [RP_join, RP_ite, RP_call, RP_callQ, RP_ret, RP_nw, RP_app, RP_st, RP_ld, RP_unSome, RP_guard, RP_loop, RP_still, RP_clr, RP_look, RP_mset, W.unSome_some]
  refine W.nw_of fun r s1 hr m1 k1 => ?_
  refine ⟨(some ⟨r, 0, none⟩, 2, 2), rfl, ⟨⟨rfl, fun i x hx => ?_⟩, Nat.le_refl _, by decide⟩, m1⟩
  refine ⟨⟨r, 0, none⟩, _, rfl, rfl, ?_⟩
  have hb := has_block k1
  have hz : (Rd.enc colE).sz = 7 := rfl
  rw [hz]
  match i with
  | 0 =>
    simp [exD] at hx; subst hx
    have := PH.has.sub (l1 := []) (l2 := colE.f ⟨0, bs [97], 1, 0, ⟨0, 0, emp⟩⟩) (l3 := colE.f ⟨0, bs [98], 2, 0, ⟨0, 0, emp⟩⟩) hb
    exact this
  | 1 =>
    simp [exD] at hx; subst hx
    have := PH.has.sub (l1 := colE.f ⟨0, bs [97], 1, 0, ⟨0, 0, emp⟩⟩) (l2 := colE.f ⟨0, bs [98], 2, 0, ⟨0, 0, emp⟩⟩) (l3 := []) hb
    exact this
  | i + 2 => simp [exD] at hx
end Go.Proofs.YthepfbcgpbkbdaaGreat
end
section
set_option linter.unusedVariables false
set_option linter.unusedSimpArgs false
set_option maxHeartbeats 1000000
set_option maxRecDepth 100000
namespace Go.Proofs.YthepfbcgpbkbdaaGreat
open Fw Go
attribute [-simp] Fw.W.ld_iff Fw.W.st_iff
abbrev noDdl : Ddl := ⟨0, emp, emp, emp, emp, false, 0, ⟨0, 0, emp⟩, []⟩
end Go.Proofs.YthepfbcgpbkbdaaGreat
end
