/-
  Schemas: public columns, names that are there twice, what is contained.
  Conditions: none; it proves no statement by itself.
-/
import Derived.Test.YthepfbcgpbkbdaaM10
set_option linter.unusedVariables false
set_option linter.unusedSimpArgs false
set_option maxHeartbeats 1000000
set_option maxRecDepth 100000
namespace Go.Proofs.Ythepfbcgpbkbdaa
open Fw Go
attribute [-simp] Fw.W.ld_iff Fw.W.st_iff

theorem seek_cases {α : Type} (p : α → Bool) (l : List α) : (seek p l 0 = -1 ∧ ∀ x ∈ l, p x = false) ∨ ∃ (j : Nat) (x : α), seek p l 0 = (j : Int) ∧ l[j]? = some x ∧ p x = true ∧ ∀ j' y, j' < j → l[j']? = some y → p y = false := by
  rcases seek_spec (p := p) l 0 with h | ⟨j, x, h1, h2, h3, h4⟩
  · exact .inl h
  · exact .inr ⟨j, x, by simpa using h1, h2, h3, h4⟩
theorem seek_any {α : Type} (p : α → Bool) (l : List α) : decide (0 ≤ seek p l 0) = l.any p := by
  rcases seek_cases p l with ⟨h1, h2⟩ | ⟨j, x, h1, h2, h3, _⟩
  · rw [h1]
    have : l.any p = false := by rw [List.any_eq_false]; intro x hx; simp [h2 x hx]
    rw [this]; rfl
  · rw [h1]
    have : l.any p = true := List.any_eq_true.2 ⟨x, List.mem_of_getElem? h2, h3⟩
    rw [this]; exact decide_eq_true (by omega)
theorem seek_here {α : Type} {p : α → Bool} {l : List α} {k : Nat} {x : α} (hx : l[k]? = some x) (hp : p x = true) : seek p l 0 = (k : Int) ↔ ∀ y ∈ l.take k, p y = false := by
  rcases seek_cases p l with ⟨h1, h2⟩ | ⟨j, y, h1, h2, h3, h4⟩
  · have := h2 x (List.mem_of_getElem? hx); rw [hp] at this; cases this
  · rw [h1]
    constructor
    · intro e
      have e : j = k := by omega
      subst e
      intro z hz
      obtain ⟨i, hi⟩ := List.mem_iff_getElem?.1 hz
      rw [List.getElem?_take] at hi
      split at hi
      · exact h4 i z ‹_› hi
      · cases hi
    · intro h
      rcases Nat.lt_trichotomy j k with q | q | q
      · have := h y (List.mem_iff_getElem?.2 ⟨j, by rw [List.getElem?_take_of_lt q]; exact h2⟩)
        rw [h3] at this; cases this
      · rw [q]
      · have := h4 k x q hx
        rw [hp] at this; cases this
theorem pubAt_lt {T : Tab} {name : ByteArray} {s : PH} {t : Tri} : pubAt T name < 0 ∨ ∃ (j : Nat) (c : Col), pubAt T name = (j : Int) ∧ T.cols[j]? = some c ∧ c.state = 3 := by
  unfold pubAt colAt
  rcases seek_cases (fun c : Col => decide (c.name = name)) T.cols with ⟨h1, h2⟩ | ⟨j, c, h1, h2, h3, h4⟩
  · rw [h1]; left; simp
  · rw [h1, if_pos (by omega)]
    simp only [Int.toNat_natCast, h2]
    by_cases h : c.state = 3
    · rw [if_pos h]; exact .inr ⟨j, c, rfl, h2, h⟩
    · rw [if_neg h]; left; omega
theorem c_rPublic {s : PH} {p : TabP} (h : Sl colE s p.c p.T.cols) (name : ByteArray) : DCalls Try.prog 82 #[tabV p.T p.c p.x p.k, .string name] s fun y s' => y = .int .i64 (pubAt p.T name) ∧ s' = s := by
  obtain ⟨T, ⟨ca, can, cac⟩, ⟨xa, xan, xac⟩, ⟨ka, kan, kac⟩⟩ := p
  refine ok_rPublic T.id T.name ca can cac xa xan xac ka kan kac name _ s ?_
  unfold vc_rPublic
  have hlen : can = T.cols.length := h.len
  simp only [RP_call]
  refine callq ((colAt T name, ()), ()) (c_rColumnAt (p := ⟨T, (ca, can, cac), (xa, xan, xac), (ka, kan, kac)⟩) h name) rfl ?_
  rcases seek_cases (fun c : Col => decide (c.name = name)) T.cols with ⟨h1, h2⟩ | ⟨j, c, h1, h2, h3, h4⟩
  · have e : colAt T name = -1 := h1
    unfold pubAt
    simp [e, W.br_iff]
  · have e : colAt T name = (j : Int) := h1
    have hj := (List.getElem?_eq_some_iff.1 h2).1
    obtain ⟨ad, had, hh⟩ := h.el.at_enc h2
    dsimp only at had
    subst had
    unfold pubAt
    rw [e, if_pos (by omega)]
    simp only [Int.toNat_natCast, h2, RP_ite, W.br_iff, decide_eq_true_eq, decide_eq_false_iff_not, RP_ret, W.ret_iff, RP_guard, W.guard_iff, RP_unSome, W.unSome_some, RP_ld]
    refine ⟨fun h => by omega, fun _ => ⟨by omega, ?_⟩⟩
    refine ld_has (j := 3) hh (cs := [.int .i64]) (y := (c.state, ())) rfl ?_
    simp only [W.br_iff, W.ret_iff]
    refine ⟨fun h => ?_, fun h => ?_⟩
    · have h : c.state ≠ 3 := by simpa using h
      rw [if_neg h]; exact ⟨rfl, trivial⟩
    · have h : c.state = 3 := by simpa using h
      rw [if_pos h]; exact ⟨rfl, trivial⟩
theorem c_public {s : PH} {A : Addr} {p : TabP} (hA : s.has A (tabE.f p)) (h : Sl colE s p.c p.T.cols) (name : ByteArray) : DCalls Try.prog 126 #[.pointer (some A), .string name] s fun y s' => y = .int .i64 (pubAt p.T name) ∧ s' = s := by
  refine ok_public A name _ s ?_
  unfold vc_public
  have hlen : p.c.2.1 = p.T.cols.length := h.len
  simp only [RP_unSome, W.unSome_some, RP_ld]
  refine ld_has (j := 2) hA (cs := [.slice]) (y := (p.c, ())) rfl ?_
  simp only [RP_call]
  refine callq ((colAt p.T name, ()), ()) (c_findC h.el h.few name) rfl ?_
  rcases seek_cases (fun c : Col => decide (c.name = name)) p.T.cols with ⟨h1, h2⟩ | ⟨j, c, h1, h2, h3, h4⟩
  · have e : colAt p.T name = -1 := h1
    unfold pubAt
    simp [e, W.br_iff]
  · have e : colAt p.T name = (j : Int) := h1
    have hj := (List.getElem?_eq_some_iff.1 h2).1
    obtain ⟨ad, had, hh⟩ := h.el.at_enc h2
    unfold pubAt
    rw [e, if_pos (by omega)]
    simp only [Int.toNat_natCast, h2, RP_ite, W.br_iff, decide_eq_true_eq, decide_eq_false_iff_not, RP_ret, W.ret_iff, RP_guard, W.guard_iff, RP_unSome, W.unSome_some, RP_ld]
    refine ⟨fun _ => ?_, fun h => by omega⟩
    refine ld_has (j := 2) hA (cs := [.slice]) (y := (p.c, ())) rfl ?_
    refine ⟨by show (0 : Int) ≤ j ∧ (j : Int) < (p.c.2.1 : Nat); omega, ?_⟩
    rw [had]
    simp only [W.unSome_some]
    refine ld_has (j := 3) hh (cs := [.int .i64]) (y := (c.state, ())) rfl ?_
    simp only [W.br_iff, W.ret_iff]
    refine ⟨fun h => ?_, fun h => ?_⟩
    · have h : c.state ≠ 3 := by simpa using h
      rw [if_neg h]; exact ⟨rfl, trivial⟩
    · have h : c.state = 3 := by simpa using h
      rw [if_pos h]; exact ⟨rfl, trivial⟩
/-! ## names that are there twice -/
abbrev oneN (cols : List Col) (i : Nat) (c : Col) : Bool := decide (seek (fun y : Col => decide (y.name = c.name)) cols 0 = i)
theorem dbl_yes {cols : List Col} {k : Nat} {c : Col} (hc : cols[k]? = some c) (h : c.name ∈ (cols.take k).map (·.name)) : dbl cols = true := by
  have hk := (List.getElem?_eq_some_iff.1 hc).1
  have h1 : condI (oneN cols) cols k = false := by
    rw [condI_at hc]
    refine decide_eq_false fun e => ?_
    have := (seek_here (p := fun y : Col => decide (y.name = c.name)) hc (by simp)).1 e
    obtain ⟨y, hy, hn⟩ := List.mem_map.1 h
    have := this y hy
    simp [hn] at this
  unfold dbl
  have := upTo_no (c := condI (oneN cols) cols) h1 hk
  rw [this]; rfl
theorem dbl_step {cols : List Col} {k : Nat} {c : Col} (hc : cols[k]? = some c) (hu : upTo (condI (oneN cols) cols) k = true) (h : c.name ∉ (cols.take k).map (·.name)) : upTo (condI (oneN cols) cols) (k + 1) = true := by
  rw [upTo_succ, hu, condI_at hc, Bool.true_and]
  refine decide_eq_true ((seek_here (p := fun y : Col => decide (y.name = c.name)) hc (by simp)).2 fun y hy => ?_)
  refine decide_eq_false fun e => h (List.mem_map.2 ⟨y, hy, e⟩)
theorem dbl_no {cols : List Col} (h : upTo (condI (oneN cols) cols) cols.length = true) : dbl cols = false := by
  unfold dbl; rw [h]; rfl
theorem c_doubled {s : PH} {t : Tri} {xs : List Col} (h : Sl colE s t xs) : DCalls Try.prog 116 #[.slice t.1 t.2.1 t.2.2] s fun y s' => y = .bool (dbl xs) ∧ s' = s := by
  obtain ⟨a, an, ac⟩ := t
  refine DCalls.quiet (ok_doubled a an ac _ s ?_)
  unfold vc_doubled
  have hlen : an = xs.length := h.len
  have hfew := h.few
  simp only [RP_nw]
  refine W.nw_of fun m s1 hm m1 k1 => ?_
  simp only [RP_loop]
  refine ⟨fun z s' => ∃ k : Nat, z = ((some m, ()), ((a, an, ac), ()), ((an : Int), ()), ((k : Int), ()), ()) ∧ k ≤ an ∧ Fw.Mod [m] s1 s' ∧ upTo (condI (oneN xs) xs) k = true ∧
    ∃ f, isMap strKey boolV s' m f ∧ ∀ n, f.lookup n = if n ∈ (xs.take k).map (·.name) then some true else none, fun z _ => an - z.2.2.2.1.1.toNat,
    ⟨0, rfl, Nat.zero_le _, Mod.refl _ _, rfl, [], ⟨#[], 0, k1, rfl, Go.MapKept.stamped_empty 0⟩, by simp⟩, ?_⟩
  rintro _ s2 ⟨k, rfl, hk, m2, hu, f, hf, hs⟩
  have m02 : Fw.Mod [] s s2 := m1.fresh m2 (by simp [hm])
  have h2 := h.mono m02.le
  simp only [RP_ite, W.br_iff, decide_eq_true_eq, decide_eq_false_iff_not]
  refine ⟨fun hlt => ?_, fun hge => ?_⟩
  · have hlt : k < an := by omega
    obtain ⟨x, hx⟩ : ∃ x, xs[k]? = some x := ⟨_, List.getElem?_eq_getElem (by omega)⟩
    obtain ⟨ad, had, hh⟩ := h2.el.at_enc hx
    dsimp only at had
    subst had
    simp only [RP_guard, W.guard_iff, RP_unSome, W.unSome_some, RP_ld, Int.toNat_natCast]
    refine ⟨by omega, ?_⟩
    refine ld_has_z hh (y := (x.id, x.name, x.kind, x.state, x.dflt.kind, x.dflt.n, x.dflt.s, ())) rfl ?_
    refine look_of (ke := strKey) hf (key := x.name) ?_
    rw [hs x.name]
    by_cases hn : x.name ∈ (xs.take k).map (·.name)
    · rw [if_pos hn]
      refine ⟨(true, ()), rfl, ?_⟩
      refine (W.br_iff _ _ _ _).2 ⟨fun _ => ⟨by rw [dbl_yes hx hn], m02⟩, fun e => by cases e⟩
    · rw [if_neg hn]
      refine ⟨(false, ()), rfl, ?_⟩
      refine (W.br_iff _ _ _ _).2 ⟨fun e => (by cases e), fun _ => ?_⟩
      refine mset_of (ke := strKey) hf (v := true) fun o ho => ?_
      rw [wrap_succ (k := k) (by omega)]
      refine ⟨⟨k + 1, rfl, hlt, m2.updLater (.inl (by simp)), dbl_step hx hu hn, _, ho, fun n => ?_⟩, ?_⟩
      · have e : (xs.take (k + 1)).map (·.name) = (xs.take k).map (·.name) ++ [x.name] := by rw [List.take_add_one, hx]; simp
        rw [lookup_aset, hs n, e]
        dsimp only
        by_cases e : n = x.name
        · subst e; simp
        · have : (n == x.name) = false := by simpa using e
          rw [this]
          simp [e]
      · simp only [Int.toNat_natCast]; omega
  · have hke : k = xs.length := by omega
    subst hke
    exact ⟨by rw [dbl_no hu], m02⟩
/-! ## what is contained -/
theorem c_colsX (x : Idx) {p : Nat} {s : PH} {id : Int} (hp : s p = some (.cells #[.int .i64 id] 3 (0, 0))) : DCalls Try.prog 120 #[idxV x, cp p] s fun y s' => y = .bool (decide (x.column = id)) ∧ s' = s := by
  refine ok_colsX x.id x.name x.column x.unique x.state p _ s ?_
  unfold vc_colsX
  simp [W.ld_at hp, beq_dec]
theorem c_IndexFuncXc {a : Option Addr} {an ac p : Nat} {s : PH} {id : Int} {xs : List Idx} (h : elems (Rd.enc idxE) s a an xs) (hn : xs.length ≤ 4294967296) (hp : s p = some (.cells #[.int .i64 id] 3 (0, 0))) :
    DCalls Try.prog 105 #[.slice a an ac, .func (.func 120) #[] #[cp p]] s fun y s' => y = .int .i64 (seek (fun x => decide (x.column = id)) xs 0) ∧ s' = s := by
  refine ok_IndexFuncXc a an ac p _ s ?_
  unfold vc_IndexFuncXc
  have hlen := h.1
  simp only [RP_loop]
  refine ⟨fun z s' => ∃ k : Nat, z = (((an : Int), ()), ((k : Int), ()), ()) ∧ k ≤ an ∧ s' = s ∧ seek (fun x => decide (x.column = id)) (xs.drop k) k = seek (fun x => decide (x.column = id)) xs 0, fun z _ => an - z.2.1.1.toNat, ⟨0, rfl, Nat.zero_le _, rfl, rfl⟩, ?_⟩
  rintro _ s ⟨k, rfl, hk, rfl, hs⟩
  simp [W.br_iff]
  refine ⟨fun hlt => ⟨hlt, ?_⟩, fun hge => ?_⟩
  · obtain ⟨x, hx⟩ : ∃ x, xs[k]? = some x := ⟨_, List.getElem?_eq_getElem (by omega)⟩
    obtain ⟨ad, rfl, hh⟩ := h.at_enc hx
    simp only [W.unSome_some]
    refine ld_has_z hh (y := (x.id, x.name, x.column, x.unique, x.state, ())) rfl ?_
    refine W.call_of (c_colsX x hp) ?_
    rintro _ s ⟨rfl, rfl⟩
    refine ⟨((decide (x.column = id), ()), ()), rfl, ?_⟩
    rw [seek_step hx] at hs
    simp [W.br_iff, wrap_succ (k := k) (by omega)]
    refine ⟨fun he => ?_, fun he => ⟨⟨k + 1, by simp, hlt, ?_⟩, by omega⟩⟩
    · rw [← hs, if_pos (by simpa using he)]
    · rw [← hs, if_neg (by simpa using he)]
  · rw [← hs, seek_end (by omega)]
theorem c_ContainsX {t : Tri} {p : Nat} {s : PH} {id : Int} {xs : List Idx} (h : Sl idxE s t xs) (hp : s p = some (.cells #[.int .i64 id] 3 (0, 0))) :
    DCalls Try.prog 119 #[.slice t.1 t.2.1 t.2.2, .func (.func 120) #[] #[cp p]] s fun y s' => y = .bool (xs.any fun x => decide (x.column = id)) ∧ s' = s := by
  refine ok_ContainsX t.1 t.2.1 t.2.2 p _ s ?_
  unfold vc_ContainsX
  simp only [RP_callQ, RP_call]
  refine callq ((seek (fun x : Idx => decide (x.column = id)) xs 0, ()), ()) (c_IndexFuncXc h.el h.few hp) rfl ?_
  simp only [RP_ret, W.ret_iff, and_true]
  rw [← seek_any]
theorem c_colsF (x : For) {p : Nat} {s : PH} {id : Int} (hp : s p = some (.cells #[.int .i64 id] 3 (0, 0))) : DCalls Try.prog 122 #[forV x, cp p] s fun y s' => y = .bool (decide (x.column = id)) ∧ s' = s := by
  refine ok_colsF x.id x.name x.column x.parent x.state p _ s ?_
  unfold vc_colsF
  simp [W.ld_at hp, beq_dec]
theorem c_IndexFuncFc {a : Option Addr} {an ac p : Nat} {s : PH} {id : Int} {xs : List For} (h : elems (Rd.enc forE) s a an xs) (hn : xs.length ≤ 4294967296) (hp : s p = some (.cells #[.int .i64 id] 3 (0, 0))) :
    DCalls Try.prog 106 #[.slice a an ac, .func (.func 122) #[] #[cp p]] s fun y s' => y = .int .i64 (seek (fun x => decide (x.column = id)) xs 0) ∧ s' = s := by
  refine ok_IndexFuncFc a an ac p _ s ?_
  unfold vc_IndexFuncFc
  have hlen := h.1
  simp only [RP_loop]
  refine ⟨fun z s' => ∃ k : Nat, z = (((an : Int), ()), ((k : Int), ()), ()) ∧ k ≤ an ∧ s' = s ∧ seek (fun x => decide (x.column = id)) (xs.drop k) k = seek (fun x => decide (x.column = id)) xs 0, fun z _ => an - z.2.1.1.toNat, ⟨0, rfl, Nat.zero_le _, rfl, rfl⟩, ?_⟩
  rintro _ s ⟨k, rfl, hk, rfl, hs⟩
  simp [W.br_iff]
  refine ⟨fun hlt => ⟨hlt, ?_⟩, fun hge => ?_⟩
  · obtain ⟨x, hx⟩ : ∃ x, xs[k]? = some x := ⟨_, List.getElem?_eq_getElem (by omega)⟩
    obtain ⟨ad, rfl, hh⟩ := h.at_enc hx
    simp only [W.unSome_some]
    refine ld_has_z hh (y := (x.id, x.name, x.column, x.parent, x.state, ())) rfl ?_
    refine W.call_of (c_colsF x hp) ?_
    rintro _ s ⟨rfl, rfl⟩
    refine ⟨((decide (x.column = id), ()), ()), rfl, ?_⟩
    rw [seek_step hx] at hs
    simp [W.br_iff, wrap_succ (k := k) (by omega)]
    refine ⟨fun he => ?_, fun he => ⟨⟨k + 1, by simp, hlt, ?_⟩, by omega⟩⟩
    · rw [← hs, if_pos (by simpa using he)]
    · rw [← hs, if_neg (by simpa using he)]
  · rw [← hs, seek_end (by omega)]
theorem c_ContainsF {t : Tri} {p : Nat} {s : PH} {id : Int} {xs : List For} (h : Sl forE s t xs) (hp : s p = some (.cells #[.int .i64 id] 3 (0, 0))) :
    DCalls Try.prog 121 #[.slice t.1 t.2.1 t.2.2, .func (.func 122) #[] #[cp p]] s fun y s' => y = .bool (xs.any fun x => decide (x.column = id)) ∧ s' = s := by
  refine ok_ContainsF t.1 t.2.1 t.2.2 p _ s ?_
  unfold vc_ContainsF
  simp only [RP_callQ, RP_call]
  refine callq ((seek (fun x : For => decide (x.column = id)) xs 0, ()), ()) (c_IndexFuncFc h.el h.few hp) rfl ?_
  simp only [RP_ret, W.ret_iff, and_true]
  rw [← seek_any]
end Go.Proofs.Ythepfbcgpbkbdaa
