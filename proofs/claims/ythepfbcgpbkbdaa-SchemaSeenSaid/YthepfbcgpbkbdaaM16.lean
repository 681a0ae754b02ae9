/-
  Schemas: the document's changes of columns, of indexes and of foreign keys.
  Conditions: none; it proves no statement by itself.
-/
import Derived.Test.YthepfbcgpbkbdaaM15
set_option linter.unusedVariables false
set_option linter.unusedSimpArgs false
set_option maxHeartbeats 2000000
set_option maxRecDepth 100000
namespace Go.Proofs.Ythepfbcgpbkbdaa
open Fw Go
attribute [-simp] Fw.W.ld_iff Fw.W.st_iff

/-- no state is nothing -/
structure Sch.Sn (S : Sch) : Prop where
  c : ∀ T ∈ S.tabs, ∀ x ∈ T.cols, x.state ≠ 0
  x : ∀ T ∈ S.tabs, ∀ x ∈ T.idxs, x.state ≠ 0
  k : ∀ T ∈ S.tabs, ∀ x ∈ T.keys, x.state ≠ 0
def pos (k : Nat) (st : Int) (j : Nat) : Nat := if st = 0 ∧ k < j then j - 1 else j
theorem pos_k (k : Nat) (st : Int) : pos k st k = k := by unfold pos; rw [if_neg (by omega)]
theorem pos_zero (k : Nat) (st : Int) : pos k st 0 = 0 := by unfold pos; rw [if_neg (by omega)]
theorem pos_skip {k : Nat} {st : Int} (h : st = 0) : pos k st (k + 1) = k := by unfold pos; rw [if_pos ⟨h, by omega⟩]; omega
theorem pos_here {k : Nat} {st : Int} (h : st ≠ 0) : pos k st (k + 1) = k + 1 := by unfold pos; rw [if_neg (fun e => h e.1)]
theorem pos_step {k j : Nat} {st : Int} (h : j ≠ k) : pos k st (j + 1) = pos k st j + 1 := by
  unfold pos
  by_cases h0 : st = 0
  · by_cases hk : k < j
    · rw [if_pos ⟨h0, by omega⟩, if_pos ⟨h0, hk⟩]; omega
    · rw [if_neg (fun e => by have := e.2; omega), if_neg (fun e => hk e.2)]
  · rw [if_neg (fun e => h0 e.1), if_neg (fun e => h0 e.1)]
theorem placed_step {α : Type} {l : List α} {k j : Nat} {st : Int} {x x' : α} (hx : l[j]? = some x) (hj : j ≠ k) : (placed l k st x')[pos k st j]? = some x := by
  unfold placed pos
  by_cases h0 : st = 0
  · rw [if_pos h0]
    by_cases hk : k < j
    · rw [if_pos ⟨h0, hk⟩, List.getElem?_eraseIdx, if_neg (by omega), show j - 1 + 1 = j by omega]; exact hx
    · rw [if_neg (fun e => hk e.2), List.getElem?_eraseIdx, if_pos (by omega)]; exact hx
  · rw [if_neg h0, if_neg (fun e => h0 e.1), List.getElem?_set_ne (fun e => hj e.symm)]; exact hx
theorem placed_here {α : Type} {l : List α} {k : Nat} {st : Int} {x' : α} (h : st ≠ 0) (hk : k < l.length) : (placed l k st x')[k]? = some x' := by
  unfold placed; rw [if_neg h]; simp [hk]
theorem placed_all {α : Type} {l : List α} {k : Nat} {st : Int} {x' : α} (hk : k < l.length) : (placed l k st x').take (pos k st l.length) = placed l k st x' := by
  refine List.take_of_length_le ?_
  unfold placed pos
  by_cases h0 : st = 0
  · rw [if_pos h0, if_pos ⟨h0, hk⟩, List.length_eraseIdx, if_pos hk]; exact Nat.le_refl _
  · rw [if_neg h0, if_neg (fun e => h0 e.1), List.length_set]; exact Nat.le_refl _
theorem take_snoc {α : Type} {l : List α} {k : Nat} {x : α} (h : l[k]? = some x) : l.take (k + 1) = l.take k ++ [x] := by rw [List.take_add_one, h]; rfl
theorem placed_len {α : Type} {l : List α} {k : Nat} {st : Int} {x' : α} : (placed l k st x').length ≤ l.length := by
  unfold placed; split
  · rw [List.length_eraseIdx]; split <;> omega
  · rw [List.length_set]; exact Nat.le_refl _
section
variable {s : PH} {S : Sch} {t : Tri} {ps : List TabP} {i : Nat} {p : TabP}
theorem c_rColumn (hH : Has s t ps) (he : S.tabs = ps.map (·.T)) (hb : S.Bd) (hsn : S.Sn) (hp : ps[i]? = some p) (D : Ddl) (u : Tri) (st : Int) :
    DCalls Try.prog 41 #[schV S t, .int .i64 i, ddlV D u, .int .i64 st] s (OutR (colTurn S i p.T D st) (Lof t ps) s) := by
  obtain ⟨ta, tn, tc⟩ := t
  obtain ⟨ua, un, uc⟩ := u
  refine ok_rColumn S.version S.last ta tn tc i D.kind D.table D.name D.column D.parent D.unique D.type D.dflt.kind D.dflt.n D.dflt.s ua un uc st _ s ?_
  unfold vc_rColumn
  have htn : tn = ps.length := hH.row.len
  have hpl : S.tabs.length = ps.length := by rw [he]; simp
  have hSch : SchIs s (ta, tn, tc) S ps := hH.is he (by have := hb.tabs; omega) (fun T hT => by obtain ⟨_, a, b, c⟩ := hb.each T hT; exact ⟨by omega, by omega, by omega⟩)
  have hpm := List.mem_of_getElem? hp
  have hP := hSch.all p hpm
  have ho := hH.all p hpm
  have hT : p.T ∈ S.tabs := by rw [he]; exact List.mem_map_of_mem hpm
  obtain ⟨b1, b2, b3, b4⟩ := hb.each p.T hT
  have hil := (List.getElem?_eq_some_iff.1 hp).1
  obtain ⟨g, ht, _⟩ := hH.row.at hp
  have hA := Gs.tabHas hH hp ht
  dsimp only at ht
  subst ht
  have hlast := hb.last
  obtain ⟨R, hR⟩ : ∃ R, OutR (colTurn S i p.T D st) (Lof (some ⟨g, 0, none⟩, tn, tc) ps) s = R := ⟨_, rfl⟩
  have hret : ∀ {e : Int}, colTurn S i p.T D st = .error e → R (.tuple #[schV S (some ⟨g, 0, none⟩, tn, tc), .int .i64 e]) s := fun e1 => by
    rw [← hR, e1]; exact ⟨⟨S, _, rfl⟩, Mod.refl _ _⟩
  rw [hR]
  obtain ⟨T, c, x, kk⟩ := p
  obtain ⟨ca, can, cac⟩ := c
  obtain ⟨xa, xan, xac⟩ := x
  obtain ⟨ka, kan, kac⟩ := kk
  dsimp only at *
  have hcan : can = T.cols.length := hP.c.len
  have hxan : xan = T.idxs.length := hP.x.len
  have hkan : kan = T.keys.length := hP.k.len
  have hwl : IntKind.i64.wrap (S.last + 1) = S.last + 1 := wrap_in (by omega) (by omega)
  simp only [RP_join, RP_ite, RP_call, RP_callQ, RP_ret, RP_nw, RP_app, RP_st, RP_ld, RP_unSome, RP_guard, RP_loop, RP_still, RP_clr, RP_look, RP_mset, W.unSome_some]
  refine ⟨by omega, ?_⟩
  simp only [W.unSome_some, Int.toNat_natCast, add_mk, Nat.zero_add]
  refine ld_has_z hA (y := (T.id, T.name, (ca, can, cac), (xa, xan, xac), (ka, kan, kac), ())) rfl ?_
  refine callq ((colAt T D.column, ()), ()) (c_rColumnAt (p := ⟨T, (ca, can, cac), (xa, xan, xac), (ka, kan, kac)⟩) hP.c D.column) rfl ?_
  refine W.join_gen (fun z s' => z = ((S.version, S.last, (some (Addr.mk g 0 none), tn, tc), ()), (D.kind, D.table, D.name, D.column, D.parent, D.unique, D.type, D.dflt.kind, D.dflt.n, D.dflt.s, (ua, un, uc), ()), (0, 0, (none, 0, 0), ()), (T.id, T.name, (ca, can, cac), (xa, xan, xac), (ka, kan, kac), ()), (colAt T D.column, ()), (decide (D.kind = 4 ∧ colAt T D.column < 0), ()), ()) ∧ s' = s) ?_ ?_
  rotate_left
  · intro J6 hJ6
    simp only [W.br_iff]
    refine ⟨fun h4 => hJ6 _ _ ⟨?_, rfl⟩, fun h4 => hJ6 _ _ ⟨?_, rfl⟩⟩
    · have h4 : D.kind = 4 := by simpa using h4
      simp [h4]
    · have h4 : D.kind ≠ 4 := by simpa using h4
      simp [h4]
  rintro _ s0 ⟨rfl, rfl⟩
  simp only [W.br_iff, decide_eq_true_eq, decide_eq_false_iff_not]
  refine ⟨fun hadd => ?_, fun hadd => ?_⟩
  · refine callq ((freshE D.column can, ()), ()) (c_rFresh D.column can _) rfl ?_
    simp only [W.br_iff, W.unSome_some]
    refine ⟨fun hf => ?_, fun hf => ?_⟩
    · have hf : freshE D.column T.cols.length ≠ 0 := by rw [← hcan]; simpa using hf
      exact hret (by unfold colTurn; rw [if_pos hadd, if_pos hf, hcan])
    have hf : freshE D.column T.cols.length = 0 := by rw [← hcan]; simpa using hf
    have hnf : ¬ (freshE D.column T.cols.length ≠ 0) := by rw [hf]; simp
    refine W.join_gen (fun z s' => z = ((S.version, S.last, (some (Addr.mk g 0 none), tn, tc), ()), (D.kind, D.table, D.name, D.column, D.parent, D.unique, D.type, D.dflt.kind, D.dflt.n, D.dflt.s, (ua, un, uc), ()), (0, 0, (none, 0, 0), ()), ()) ∧ s' = s0 ∧ (typed D.type && fits D.dflt D.type) = true) ?_ ?_
    rotate_left
    · intro J7 hJ7
      refine callq ((typed D.type, ()), ()) (c_rTyped D.type _) rfl ?_
      simp only [W.br_iff]
      refine ⟨fun hk => hret (by unfold colTurn; rw [if_pos hadd, if_neg hnf, if_pos (by rw [not_t hk]; rfl)]), fun hk => ?_⟩
      refine callq ((fits D.dflt D.type, ()), ()) (c_rFits D.dflt D.type _) rfl ?_
      simp only [W.br_iff]
      refine ⟨fun hk2 => hret (by unfold colTurn; rw [if_pos hadd, if_neg hnf, if_pos (by rw [not_f hk, not_t hk2]; rfl)]), fun hk2 => hJ7 _ _ ⟨rfl, rfl, by rw [not_f hk, not_f hk2]; rfl⟩⟩
    rintro _ s1 ⟨rfl, rfl, hk⟩
    have hk : ¬ (typed D.type && fits D.dflt D.type) = false := by rw [hk]; simp
    simp only [W.br_iff]
    refine ⟨fun h0 => hret (by unfold colTurn; rw [if_pos hadd, if_neg hnf, if_neg hk, if_pos (by simpa using h0)]), fun h0 => ?_⟩
    have hTurn : colTurn S i T D st = .ok ⟨S.version, S.last + 1, S.tabs.set i { T with cols := T.cols ++ [⟨S.last + 1, D.column, D.type, st, D.dflt⟩] }⟩ := by
      unfold colTurn; rw [if_pos hadd, if_neg hnf, if_neg hk, if_neg (by simpa using h0)]
    refine ⟨by omega, ?_⟩
    simp only [W.unSome_some, Int.toNat_natCast, add_mk, Nat.zero_add, hwl]
    refine ld_hasm (j := 2) hA (cs := [.slice]) (y := ((ca, can, cac), ())) rfl ?_
    refine hH.app_c hp ⟨S.last + 1, D.column, D.type, st, D.dflt⟩ (by dsimp only; omega) ?_
    intro u s3 hu hw
    refine ⟨by omega, ?_⟩
    simp only [W.unSome_some, Int.toNat_natCast, add_mk, Nat.zero_add]
    refine hH.store hp hw (j := 2) (vs := [.slice u.1 u.2.1 u.2.2]) rfl (by simp) (by simp) rfl fun s4 h4 st4 => ?_
    rw [← hR, hTurn]
    exact ⟨(some (Addr.mk g 0 none), tn, tc), _, rfl, h4, by dsimp only; rw [set_map, he], st4⟩
  · have hnat : ¬ (D.kind = 4 ∧ colAt T D.column < 0) := hadd
    refine W.join_gen (fun z s' => z = ((S.version, S.last, (some (Addr.mk g 0 none), tn, tc), ()), (D.kind, D.table, D.name, D.column, D.parent, D.unique, D.type, D.dflt.kind, D.dflt.n, D.dflt.s, (ua, un, uc), ()), (0, 0, (none, 0, 0), ()), (T.id, T.name, (ca, can, cac), (xa, xan, xac), (ka, kan, kac), ()), (colAt T D.column, ()), ()) ∧ s' = s0 ∧ ∀ (j : Nat) (x : Col), colAt T D.column = (j : Int) → T.cols[j]? = some x → ¬ (D.kind = 4 ∧ x.state = 3)) ?_ ?_
    rotate_left
    · intro J hJ
      simp only [W.br_iff]
      refine ⟨fun h4 => ?_, fun h4 => hJ _ _ ⟨rfl, rfl, fun j x _ _ e => by rw [e.1] at h4; simp at h4⟩⟩
      have h4 : D.kind = 4 := by simpa using h4
      have hn : ¬ colAt T D.column < 0 := fun e => hadd ⟨h4, e⟩
      rcases seek_cases (fun c : Col => decide (c.name = D.column)) T.cols with ⟨h1, _⟩ | ⟨j, x, h1, hx, _⟩
      · exact absurd h1 (by unfold colAt at hn; omega)
      have hj : colAt T D.column = (j : Int) := h1
      have hjl := (List.getElem?_eq_some_iff.1 hx).1
      rw [hj]
      refine ⟨by omega, ?_⟩
      obtain ⟨ad, had, hh⟩ := hP.c.el.at_enc hx
      dsimp only at had
      rw [had]
      simp only [W.unSome_some, Int.toNat_natCast]
      refine ld_has (j := 3) hh (cs := [.int .i64]) (y := (x.state, ())) rfl ?_
      simp only [W.br_iff]
      refine ⟨fun h3 => hret ?_, fun h3 => ?_⟩
      · have h3 : x.state = 3 := by simpa using h3
        unfold colTurn
        rw [if_neg hadd, hj, if_neg (by omega)]
        simp only [Int.toNat_natCast, hx]
        rw [if_pos ⟨h4, h3⟩]
      · have h3 : x.state ≠ 3 := by simpa using h3
        rw [← had, ← hj]
        refine hJ _ _ ⟨rfl, rfl, fun j' x'' e1 e2 e => ?_⟩
        have : j' = j := by omega
        subst this
        rw [hx] at e2; cases e2
        exact h3 e.2
    rintro _ s1 ⟨rfl, rfl, hno⟩
    simp only [W.br_iff, decide_eq_true_eq, decide_eq_false_iff_not]
    refine ⟨fun hn => hret (by unfold colTurn; rw [if_neg hadd, if_pos hn]), fun hn => ?_⟩
    obtain ⟨k, x, hk, hx⟩ : ∃ (j : Nat) (x : Col), colAt T D.column = (j : Int) ∧ T.cols[j]? = some x := by
      rcases seek_cases (fun c : Col => decide (c.name = D.column)) T.cols with ⟨h1, _⟩ | ⟨j, x, h1, h2, _⟩
      · exact absurd h1 (by unfold colAt at hn; omega)
      · exact ⟨j, x, h1, h2⟩
    have hno := hno k x hk hx
    have hkl := (List.getElem?_eq_some_iff.1 hx).1
    obtain ⟨ad0, had0, hh0⟩ := hP.c.el.at_enc hx
    dsimp only at had0
    refine W.join_gen (fun z s' => z = ((S.version, S.last, (some (Addr.mk g 0 none), tn, tc), ()), (0, 0, (none, 0, 0), ()), (T.id, T.name, (ca, can, cac), (xa, xan, xac), (ka, kan, kac), ()), (colAt T D.column, ()), ()) ∧ s' = s1 ∧ ¬ (D.kind = 5 ∧ used T k x = true)) ?_ ?_
    rotate_left
    · intro J hJ
      simp only [W.br_iff]
      refine ⟨fun h5 => ?_, fun h5 => hJ _ _ ⟨rfl, rfl, fun e => by rw [e.1] at h5; simp at h5⟩⟩
      have h5 : D.kind = 5 := by simpa using h5
      rw [hk]
      refine ⟨fun z s' => ∃ j : Nat, z = ((S.version, S.last, (some (Addr.mk g 0 none), tn, tc), ()), (0, 0, (none, 0, 0), ()), (T.id, T.name, (ca, can, cac), (xa, xan, xac), (ka, kan, kac), ()), ((k : Int), ()), ((decide ((k : Int) = 0) || (T.idxs.take j).any (fun y => decide (y.column = x.id)), ())), ((j : Int), ()), ()) ∧ j ≤ xan ∧ s' = s1,
        fun z _ => xan - z.2.2.2.2.2.1.1.toNat, ⟨0, by simp [beq_dec], Nat.zero_le _, rfl⟩, ?_⟩
      rintro _ s2 ⟨j, rfl, hj, rfl⟩
      simp only [W.br_iff, decide_eq_true_eq, decide_eq_false_iff_not]
      refine ⟨fun hlt => ?_, fun hge => ?_⟩
      · have hlt : j < xan := by omega
        obtain ⟨y, hy⟩ : ∃ y, T.idxs[j]? = some y := ⟨_, List.getElem?_eq_getElem (by omega)⟩
        have hany : (T.idxs.take (j + 1)).any (fun y => decide (y.column = x.id)) = ((T.idxs.take j).any (fun y => decide (y.column = x.id)) || decide (y.column = x.id)) := by rw [take_snoc hy]; simp
        have hm : xan - (((j + 1 : Nat) : Int)).toNat < xan - ((j : Int)).toNat := by simp only [Int.toNat_natCast]; omega
        rw [wrap_succ (k := j) (by omega)]
        refine ⟨fun hu => ⟨⟨j + 1, ?_, hlt, by trivial⟩, hm⟩, fun hu => ?_⟩
        · rw [hany, ← Bool.or_assoc, hu]; rfl
        refine ⟨by omega, ?_⟩
        obtain ⟨ad, had, hh⟩ := hP.x.el.at_enc hy
        dsimp only at had
        rw [had]
        simp only [W.unSome_some, Int.toNat_natCast]
        refine ld_has (j := 2) hh (cs := [.int .i64]) (y := (y.column, ())) rfl ?_
        refine ⟨by omega, ?_⟩
        rw [had0]
        simp only [W.unSome_some, Int.toNat_natCast]
        refine ld_has (j := 0) hh0 (cs := [.int .i64]) (y := (x.id, ())) rfl ?_
        refine ⟨⟨j + 1, ?_, hlt, by trivial⟩, hm⟩
        rw [hany, ← Bool.or_assoc, hu, Bool.false_or, ← beq_dec]
      have hallx : T.idxs.take j = T.idxs := List.take_of_length_le (by omega)
      rw [hallx]
      refine ⟨fun z s' => ∃ j : Nat, z = ((S.version, S.last, (some (Addr.mk g 0 none), tn, tc), ()), (0, 0, (none, 0, 0), ()), (T.id, T.name, (ca, can, cac), (xa, xan, xac), (ka, kan, kac), ()), ((k : Int), ()), (((decide ((k : Int) = 0) || T.idxs.any (fun y => decide (y.column = x.id))) || (T.keys.take j).any (fun y => decide (y.column = x.id)), ())), ((j : Int), ()), ()) ∧ j ≤ kan ∧ s' = s2,
        fun z _ => kan - z.2.2.2.2.2.1.1.toNat, ⟨0, by simp, Nat.zero_le _, rfl⟩, ?_⟩
      rintro _ s3 ⟨j, rfl, hj, rfl⟩
      simp only [W.br_iff, decide_eq_true_eq, decide_eq_false_iff_not]
      refine ⟨fun hlt => ?_, fun hge => ?_⟩
      · have hlt : j < kan := by omega
        obtain ⟨y, hy⟩ : ∃ y, T.keys[j]? = some y := ⟨_, List.getElem?_eq_getElem (by omega)⟩
        have hany : (T.keys.take (j + 1)).any (fun y => decide (y.column = x.id)) = ((T.keys.take j).any (fun y => decide (y.column = x.id)) || decide (y.column = x.id)) := by rw [take_snoc hy]; simp
        have hm : kan - (((j + 1 : Nat) : Int)).toNat < kan - ((j : Int)).toNat := by simp only [Int.toNat_natCast]; omega
        rw [wrap_succ (k := j) (by omega)]
        refine ⟨fun hu => ⟨⟨j + 1, ?_, hlt, by trivial⟩, hm⟩, fun hu => ?_⟩
        · rw [hany, ← Bool.or_assoc (_ || _), hu]; rfl
        refine ⟨by omega, ?_⟩
        obtain ⟨ad, had, hh⟩ := hP.k.el.at_enc hy
        dsimp only at had
        rw [had]
        simp only [W.unSome_some, Int.toNat_natCast]
        refine ld_has (j := 2) hh (cs := [.int .i64]) (y := (y.column, ())) rfl ?_
        refine ⟨by omega, ?_⟩
        rw [had0]
        simp only [W.unSome_some, Int.toNat_natCast]
        refine ld_has (j := 0) hh0 (cs := [.int .i64]) (y := (x.id, ())) rfl ?_
        refine ⟨⟨j + 1, ?_, hlt, by trivial⟩, hm⟩
        rw [hany, ← Bool.or_assoc (_ || _), hu, Bool.false_or, ← beq_dec]
      have hallk : T.keys.take j = T.keys := List.take_of_length_le (by omega)
      rw [hallk]
      have hused : used T k x = ((decide ((k : Int) = 0) || T.idxs.any (fun y => decide (y.column = x.id))) || T.keys.any (fun y => decide (y.column = x.id))) := by unfold used; rw [Bool.or_assoc]
      rw [← hused]
      refine ⟨fun hu => hret ?_, fun hu => ?_⟩
      · unfold colTurn
        rw [if_neg hadd, hk, if_neg (by omega)]
        simp only [Int.toNat_natCast, hx]
        rw [if_neg hno, if_pos ⟨h5, hu⟩]
      · rw [← hk]
        exact hJ _ _ ⟨rfl, rfl, fun e => by rw [e.2] at hu; cases hu⟩
    rintro _ s1 ⟨rfl, rfl, hnu⟩
    have hTurn : colTurn S i T D st = .ok ⟨S.version, S.last, S.tabs.set i { T with cols := placed T.cols k st (x.put st) }⟩ := by
      unfold colTurn
      rw [if_neg hadd, hk, if_neg (by omega)]
      simp only [Int.toNat_natCast, hx]
      rw [if_neg hno]
      rw [if_neg hnu]
    have hpl2 := placed_len (l := T.cols) (k := k) (st := st) (x' := x.put st)
    obtain ⟨P, hPd⟩ : ∃ P, placed T.cols k st (x.put st) = P := ⟨_, rfl⟩
    rw [hPd] at hTurn hpl2
    rw [hk]
    refine ⟨fun z s' => ∃ (j n c : Nat) (a : Option Addr), z = ((S.version, S.last, (some (Addr.mk g 0 none), tn, tc), ()), (0, 0, (none, 0, 0), ()), (T.id, T.name, (ca, can, cac), (xa, xan, xac), (ka, kan, kac), ()), ((k : Int), ()), ((a, n, c), ()), ((j : Int), ()), ()) ∧ j ≤ can ∧ rowE colE s' 44 a n c (P.take (pos k st j)) ∧
      (∀ q ∈ Fw.blk a, s1 q = none) ∧ Fw.Mod [] s1 s', fun z _ => can - z.2.2.2.2.2.1.1.toNat, ⟨0, 0, 0, none, rfl, Nat.zero_le _, by rw [pos_zero]; exact rowE.nil, by simp [Fw.blk], Mod.refl _ _⟩, ?_⟩
    rintro _ s2 ⟨j, n, c, a, rfl, hj, hrow, hfr, m2⟩
    simp only [W.br_iff, decide_eq_true_eq, decide_eq_false_iff_not]
    refine ⟨fun hlt => ?_, fun hge => ?_⟩
    · have hlt : j < can := by omega
      obtain ⟨y, hy⟩ : ∃ y, T.cols[j]? = some y := ⟨_, List.getElem?_eq_getElem (by omega)⟩
      obtain ⟨ad, had, hh⟩ := (hP.mono m2.le).c.el.at_enc hy
      dsimp only at had
      refine ⟨by omega, ?_⟩
      rw [had]
      simp only [W.unSome_some, Int.toNat_natCast]
      refine ld_has_z hh (y := (y.id, y.name, y.kind, y.state, y.dflt.kind, y.dflt.n, y.dflt.s, ())) rfl ?_
      have hw := wrap_succ (k := j) (by omega)
      have hm : can - (((j + 1 : Nat) : Int)).toNat < can - ((j : Int)).toNat := by simp only [Int.toNat_natCast]; omega
      have hlen : (P.take (pos k st j)).length ≤ 1099511627 := by rw [List.length_take]; omega
      rw [hw]
      simp only [W.br_iff]
      refine ⟨fun hjk => ⟨fun h0 => ?_, fun h0 => ?_⟩, fun hjk => ⟨fun h0 => ?_, fun h0 => ?_⟩⟩
      · have hjk : j = k := by have : (j : Int) = k := by simpa using hjk
                               omega
        subst hjk
        have h0 : st ≠ 0 := by simpa using h0
        have : y = x := by rw [hx] at hy; cases hy; rfl
        subst this
        refine grow (E := colE) (x := y.put st) hrow hfr m2 rfl hlen (by omega) ?_
        intro a' c' s3 h3 f3 m3
        rw [pos_k, ← take_snoc (by rw [← hPd]; exact placed_here h0 hkl)] at h3
        exact ⟨⟨j + 1, n + 1, c', a', rfl, hlt, by rw [pos_here h0]; exact h3, f3, m3⟩, hm⟩
      · have hjk : j = k := by have : (j : Int) = k := by simpa using hjk
                               omega
        subst hjk
        have h0 : st = 0 := by simpa using h0
        rw [pos_k] at hrow
        exact ⟨⟨j + 1, n, c, a, rfl, hlt, by rw [pos_skip h0]; exact hrow, hfr, m2⟩, hm⟩
      · have hjk : j ≠ k := fun e => by rw [e] at hjk; simp at hjk
        refine grow (E := colE) (x := y) hrow hfr m2 rfl hlen (by omega) ?_
        intro a' c' s3 h3 f3 m3
        rw [← take_snoc (by rw [← hPd]; exact placed_step hy hjk)] at h3
        exact ⟨⟨j + 1, n + 1, c', a', rfl, hlt, by rw [pos_step hjk]; exact h3, f3, m3⟩, hm⟩
      · have h0 : y.state = 0 := by simpa using h0
        exact absurd h0 (hsn.c T hT y (List.mem_of_getElem? hy))
    · have hje : j = T.cols.length := by omega
      subst hje
      have hall : P.take (pos k st T.cols.length) = P := by rw [← hPd]; exact placed_all hkl
      rw [hall] at hrow
      refine ⟨by omega, ?_⟩
      simp only [W.unSome_some, Int.toNat_natCast, add_mk, Nat.zero_add]
      have hw := work_c (s1 := s2) ho (hH.nodp hpm) (u := (a, n, c)) hrow (m2.mono (by simp)) (fun q hq => .inr (hfr q hq))
      refine hH.store hp hw (j := 2) (vs := [.slice a n c]) rfl (by simp) (by simp) rfl fun s3 h3 st3 => ?_
      rw [← hR, hTurn]
      exact ⟨(some (Addr.mk g 0 none), tn, tc), _, rfl, h3, by dsimp only; rw [set_map, he], st3⟩
theorem c_rIndex (hH : Has s t ps) (he : S.tabs = ps.map (·.T)) (hb : S.Bd) (hsn : S.Sn) (hp : ps[i]? = some p) (D : Ddl) (u : Tri) (st : Int) :
    DCalls Try.prog 42 #[schV S t, .int .i64 i, ddlV D u, .int .i64 st] s (OutR (idxTurn S i p.T D st) (Lof t ps) s) := by
  obtain ⟨ta, tn, tc⟩ := t
  obtain ⟨ua, un, uc⟩ := u
  refine ok_rIndex S.version S.last ta tn tc i D.kind D.table D.name D.column D.parent D.unique D.type D.dflt.kind D.dflt.n D.dflt.s ua un uc st _ s ?_
  unfold vc_rIndex
  have htn : tn = ps.length := hH.row.len
  have hpl : S.tabs.length = ps.length := by rw [he]; simp
  have hSch : SchIs s (ta, tn, tc) S ps := hH.is he (by have := hb.tabs; omega) (fun T hT => by obtain ⟨_, a, b, c⟩ := hb.each T hT; exact ⟨by omega, by omega, by omega⟩)
  have hpm := List.mem_of_getElem? hp
  have hP := hSch.all p hpm
  have ho := hH.all p hpm
  have hT : p.T ∈ S.tabs := by rw [he]; exact List.mem_map_of_mem hpm
  obtain ⟨b1, b2, b3, b4⟩ := hb.each p.T hT
  have hil := (List.getElem?_eq_some_iff.1 hp).1
  obtain ⟨g, ht, _⟩ := hH.row.at hp
  have hA := Gs.tabHas hH hp ht
  dsimp only at ht
  subst ht
  have hlast := hb.last
  obtain ⟨R, hR⟩ : ∃ R, OutR (idxTurn S i p.T D st) (Lof (some ⟨g, 0, none⟩, tn, tc) ps) s = R := ⟨_, rfl⟩
  have hret : ∀ {e : Int}, idxTurn S i p.T D st = .error e → R (.tuple #[schV S (some ⟨g, 0, none⟩, tn, tc), .int .i64 e]) s := fun e1 => by
    rw [← hR, e1]; exact ⟨⟨S, _, rfl⟩, Mod.refl _ _⟩
  rw [hR]
  obtain ⟨T, c, x, kk⟩ := p
  obtain ⟨ca, can, cac⟩ := c
  obtain ⟨xa, xan, xac⟩ := x
  obtain ⟨ka, kan, kac⟩ := kk
  dsimp only at *
  have hcan : can = T.cols.length := hP.c.len
  have hxan : xan = T.idxs.length := hP.x.len
  have hkan : kan = T.keys.length := hP.k.len
  have hwl : IntKind.i64.wrap (S.last + 1) = S.last + 1 := wrap_in (by omega) (by omega)
  simp only [RP_join, RP_ite, RP_call, RP_callQ, RP_ret, RP_nw, RP_app, RP_st, RP_ld, RP_unSome, RP_guard, RP_loop, RP_still, RP_clr, RP_look, RP_mset, W.unSome_some]
  refine ⟨by omega, ?_⟩
  simp only [W.unSome_some, Int.toNat_natCast, add_mk, Nat.zero_add]
  refine ld_has_z hA (y := (T.id, T.name, (ca, can, cac), (xa, xan, xac), (ka, kan, kac), ())) rfl ?_
  refine callq ((idxAt T D.name, ()), ()) (c_rIndexAt (p := ⟨T, (ca, can, cac), (xa, xan, xac), (ka, kan, kac)⟩) hP.x D.name) rfl ?_
  refine W.join_gen (fun z s' => z = ((S.version, S.last, (some (Addr.mk g 0 none), tn, tc), ()), (D.kind, D.table, D.name, D.column, D.parent, D.unique, D.type, D.dflt.kind, D.dflt.n, D.dflt.s, (ua, un, uc), ()), (0, 0, (none, 0, 0), ()), (T.id, T.name, (ca, can, cac), (xa, xan, xac), (ka, kan, kac), ()), (idxAt T D.name, ()), (decide (D.kind = 2 ∧ idxAt T D.name < 0), ()), ()) ∧ s' = s) ?_ ?_
  rotate_left
  · intro J6 hJ6
    simp only [W.br_iff]
    refine ⟨fun h4 => hJ6 _ _ ⟨?_, rfl⟩, fun h4 => hJ6 _ _ ⟨?_, rfl⟩⟩
    · have h4 : D.kind = 2 := by simpa using h4
      simp [h4]
    · have h4 : D.kind ≠ 2 := by simpa using h4
      simp [h4]
  rintro _ s0 ⟨rfl, rfl⟩
  simp only [W.br_iff, decide_eq_true_eq, decide_eq_false_iff_not]
  refine ⟨fun hadd => ?_, fun hadd => ?_⟩
  · refine callq ((freshE D.name xan, ()), ()) (c_rFresh D.name xan _) rfl ?_
    simp only [W.br_iff, W.unSome_some]
    refine ⟨fun hf => ?_, fun hf => ?_⟩
    · have hf : freshE D.name T.idxs.length ≠ 0 := by rw [← hxan]; simpa using hf
      exact hret (by unfold idxTurn; rw [if_pos hadd, if_pos hf, hxan])
    have hf : freshE D.name T.idxs.length = 0 := by rw [← hxan]; simpa using hf
    have hnf : ¬ (freshE D.name T.idxs.length ≠ 0) := by rw [hf]; simp
    have hcp := c_rPublic (p := ⟨T, (ca, can, cac), (xa, xan, xac), (ka, kan, kac)⟩) hP.c D.column
    obtain ⟨E, hE⟩ : ∃ E, pubAt T D.column = E := ⟨_, rfl⟩
    dsimp only at hcp
    rw [hE] at hcp
    refine callq ((E, ()), ()) hcp rfl ?_
    subst hE
    simp only [W.br_iff, decide_eq_true_eq, decide_eq_false_iff_not]
    refine ⟨fun hp1 => hret (by unfold idxTurn; rw [if_pos hadd, if_neg hnf, if_pos hp1]), fun hp1 => ⟨fun h0 => hret (by unfold idxTurn; rw [if_pos hadd, if_neg hnf, if_neg hp1, if_pos (by simpa using h0)]), fun h0 => ?_⟩⟩
    have h0 : st ≠ 0 := by simpa using h0
    obtain ⟨j, c, hj, hc, _⟩ := (pubAt_lt (T := T) (name := D.column) (s := s0) (t := (ca, can, cac))).resolve_left hp1
    have hjl := (List.getElem?_eq_some_iff.1 hc).1
    have hTurn : idxTurn S i T D st = .ok ⟨S.version, S.last + 1, S.tabs.set i { T with idxs := T.idxs ++ [⟨S.last + 1, D.name, c.id, D.unique, st⟩] }⟩ := by
      unfold idxTurn
      rw [if_pos hadd, if_neg hnf, if_neg hp1, if_neg h0, hj]
      simp only [Int.toNat_natCast, hc]
    rw [hj]
    refine ⟨by omega, ?_⟩
    simp only [W.unSome_some, Int.toNat_natCast, add_mk, Nat.zero_add, hwl]
    refine ld_hasm (j := 3) hA (cs := [.slice]) (y := ((xa, xan, xac), ())) rfl ?_
    refine ⟨by omega, ?_⟩
    obtain ⟨ad, had, hh⟩ := hP.c.el.at_enc hc
    dsimp only at had
    subst had
    simp only [W.unSome_some, Int.toNat_natCast]
    refine ld_has (j := 0) hh (cs := [.int .i64]) (y := (c.id, ())) rfl ?_
    refine hH.app_x hp ⟨S.last + 1, D.name, c.id, D.unique, st⟩ (by dsimp only; omega) ?_
    intro u s3 hu hw
    refine ⟨by omega, ?_⟩
    simp only [W.unSome_some, Int.toNat_natCast, add_mk, Nat.zero_add]
    refine hH.store hp hw (j := 3) (vs := [.slice u.1 u.2.1 u.2.2]) rfl (by simp) (by simp) rfl fun s4 h4 st4 => ?_
    rw [← hR, hTurn]
    exact ⟨(some (Addr.mk g 0 none), tn, tc), _, rfl, h4, by dsimp only; rw [set_map, he], st4⟩
  · have hnat : ¬ (D.kind = 2 ∧ idxAt T D.name < 0) := hadd
    refine W.join_gen (fun z s' => z = ((S.version, S.last, (some (Addr.mk g 0 none), tn, tc), ()), (0, 0, (none, 0, 0), ()), (T.id, T.name, (ca, can, cac), (xa, xan, xac), (ka, kan, kac), ()), (idxAt T D.name, ()), ()) ∧ s' = s0 ∧ ∀ (j : Nat) (x : Idx), idxAt T D.name = (j : Int) → T.idxs[j]? = some x → ¬ (D.kind = 2 ∧ x.state = 3)) ?_ ?_
    rotate_left
    · intro J hJ
      simp only [W.br_iff]
      refine ⟨fun h4 => ?_, fun h4 => hJ _ _ ⟨rfl, rfl, fun j x _ _ e => by rw [e.1] at h4; simp at h4⟩⟩
      have h4 : D.kind = 2 := by simpa using h4
      have hn : ¬ idxAt T D.name < 0 := fun e => hadd ⟨h4, e⟩
      rcases seek_cases (fun c : Idx => decide (c.name = D.name)) T.idxs with ⟨h1, _⟩ | ⟨j, x, h1, hx, _⟩
      · exact absurd h1 (by unfold idxAt at hn; omega)
      have hj : idxAt T D.name = (j : Int) := h1
      have hjl := (List.getElem?_eq_some_iff.1 hx).1
      rw [hj]
      refine ⟨by omega, ?_⟩
      obtain ⟨ad, had, hh⟩ := hP.x.el.at_enc hx
      dsimp only at had
      rw [had]
      simp only [W.unSome_some, Int.toNat_natCast]
      refine ld_has (j := 4) hh (cs := [.int .i64]) (y := (x.state, ())) rfl ?_
      simp only [W.br_iff]
      refine ⟨fun h3 => hret ?_, fun h3 => ?_⟩
      · have h3 : x.state = 3 := by simpa using h3
        unfold idxTurn
        rw [if_neg hadd, hj, if_neg (by omega)]
        simp only [Int.toNat_natCast, hx]
        rw [if_pos ⟨h4, h3⟩]
      · have h3 : x.state ≠ 3 := by simpa using h3
        rw [← had, ← hj]
        refine hJ _ _ ⟨rfl, rfl, fun j' x'' e1 e2 e => ?_⟩
        have : j' = j := by omega
        subst this
        rw [hx] at e2; cases e2
        exact h3 e.2
    rintro _ s1 ⟨rfl, rfl, hno⟩
    simp only [W.br_iff, decide_eq_true_eq, decide_eq_false_iff_not]
    refine ⟨fun hn => hret (by unfold idxTurn; rw [if_neg hadd, if_pos hn]), fun hn => ?_⟩
    obtain ⟨k, x, hk, hx⟩ : ∃ (j : Nat) (x : Idx), idxAt T D.name = (j : Int) ∧ T.idxs[j]? = some x := by
      rcases seek_cases (fun c : Idx => decide (c.name = D.name)) T.idxs with ⟨h1, _⟩ | ⟨j, x, h1, h2, _⟩
      · exact absurd h1 (by unfold idxAt at hn; omega)
      · exact ⟨j, x, h1, h2⟩
    have hno := hno k x hk hx
    have hkl := (List.getElem?_eq_some_iff.1 hx).1

    have hTurn : idxTurn S i T D st = .ok ⟨S.version, S.last, S.tabs.set i { T with idxs := placed T.idxs k st (x.put st) }⟩ := by
      unfold idxTurn
      rw [if_neg hadd, hk, if_neg (by omega)]
      simp only [Int.toNat_natCast, hx]
      rw [if_neg hno]

    have hpl2 := placed_len (l := T.idxs) (k := k) (st := st) (x' := x.put st)
    obtain ⟨P, hPd⟩ : ∃ P, placed T.idxs k st (x.put st) = P := ⟨_, rfl⟩
    rw [hPd] at hTurn hpl2
    rw [hk]
    refine ⟨fun z s' => ∃ (j n c : Nat) (a : Option Addr), z = ((S.version, S.last, (some (Addr.mk g 0 none), tn, tc), ()), (0, 0, (none, 0, 0), ()), (T.id, T.name, (ca, can, cac), (xa, xan, xac), (ka, kan, kac), ()), ((k : Int), ()), ((a, n, c), ()), ((j : Int), ()), ()) ∧ j ≤ xan ∧ rowE idxE s' 106 a n c (P.take (pos k st j)) ∧
      (∀ q ∈ Fw.blk a, s1 q = none) ∧ Fw.Mod [] s1 s', fun z _ => xan - z.2.2.2.2.2.1.1.toNat, ⟨0, 0, 0, none, rfl, Nat.zero_le _, by rw [pos_zero]; exact rowE.nil, by simp [Fw.blk], Mod.refl _ _⟩, ?_⟩
    rintro _ s2 ⟨j, n, c, a, rfl, hj, hrow, hfr, m2⟩
    simp only [W.br_iff, decide_eq_true_eq, decide_eq_false_iff_not]
    refine ⟨fun hlt => ?_, fun hge => ?_⟩
    · have hlt : j < xan := by omega
      obtain ⟨y, hy⟩ : ∃ y, T.idxs[j]? = some y := ⟨_, List.getElem?_eq_getElem (by omega)⟩
      obtain ⟨ad, had, hh⟩ := (hP.mono m2.le).x.el.at_enc hy
      dsimp only at had
      refine ⟨by omega, ?_⟩
      rw [had]
      simp only [W.unSome_some, Int.toNat_natCast]
      refine ld_has_z hh (y := (y.id, y.name, y.column, y.unique, y.state, ())) rfl ?_
      have hw := wrap_succ (k := j) (by omega)
      have hm : xan - (((j + 1 : Nat) : Int)).toNat < xan - ((j : Int)).toNat := by simp only [Int.toNat_natCast]; omega
      have hlen : (P.take (pos k st j)).length ≤ 1099511627 := by rw [List.length_take]; omega
      rw [hw]
      simp only [W.br_iff]
      refine ⟨fun hjk => ⟨fun h0 => ?_, fun h0 => ?_⟩, fun hjk => ⟨fun h0 => ?_, fun h0 => ?_⟩⟩
      · have hjk : j = k := by have : (j : Int) = k := by simpa using hjk
                               omega
        subst hjk
        have h0 : st ≠ 0 := by simpa using h0
        have : y = x := by rw [hx] at hy; cases hy; rfl
        subst this
        refine grow (E := idxE) (x := y.put st) hrow hfr m2 rfl hlen (by omega) ?_
        intro a' c' s3 h3 f3 m3
        rw [pos_k, ← take_snoc (by rw [← hPd]; exact placed_here h0 hkl)] at h3
        exact ⟨⟨j + 1, n + 1, c', a', rfl, hlt, by rw [pos_here h0]; exact h3, f3, m3⟩, hm⟩
      · have hjk : j = k := by have : (j : Int) = k := by simpa using hjk
                               omega
        subst hjk
        have h0 : st = 0 := by simpa using h0
        rw [pos_k] at hrow
        exact ⟨⟨j + 1, n, c, a, rfl, hlt, by rw [pos_skip h0]; exact hrow, hfr, m2⟩, hm⟩
      · have hjk : j ≠ k := fun e => by rw [e] at hjk; simp at hjk
        refine grow (E := idxE) (x := y) hrow hfr m2 rfl hlen (by omega) ?_
        intro a' c' s3 h3 f3 m3
        rw [← take_snoc (by rw [← hPd]; exact placed_step hy hjk)] at h3
        exact ⟨⟨j + 1, n + 1, c', a', rfl, hlt, by rw [pos_step hjk]; exact h3, f3, m3⟩, hm⟩
      · have h0 : y.state = 0 := by simpa using h0
        exact absurd h0 (hsn.x T hT y (List.mem_of_getElem? hy))
    · have hje : j = T.idxs.length := by omega
      subst hje
      have hall : P.take (pos k st T.idxs.length) = P := by rw [← hPd]; exact placed_all hkl
      rw [hall] at hrow
      refine ⟨by omega, ?_⟩
      simp only [W.unSome_some, Int.toNat_natCast, add_mk, Nat.zero_add]
      have hw := work_x (s1 := s2) ho (hH.nodp hpm) (u := (a, n, c)) hrow (m2.mono (by simp)) (fun q hq => .inr (hfr q hq))
      refine hH.store hp hw (j := 3) (vs := [.slice a n c]) rfl (by simp) (by simp) rfl fun s3 h3 st3 => ?_
      rw [← hR, hTurn]
      exact ⟨(some (Addr.mk g 0 none), tn, tc), _, rfl, h3, by dsimp only; rw [set_map, he], st3⟩
theorem c_rForeign (hH : Has s t ps) (he : S.tabs = ps.map (·.T)) (hb : S.Bd) (hsn : S.Sn) (hp : ps[i]? = some p) (D : Ddl) (u : Tri) (st : Int) :
    DCalls Try.prog 43 #[schV S t, .int .i64 i, ddlV D u, .int .i64 st] s (OutR (keyTurn S i p.T D st) (Lof t ps) s) := by
  obtain ⟨ta, tn, tc⟩ := t
  obtain ⟨ua, un, uc⟩ := u
  refine ok_rForeign S.version S.last ta tn tc i D.kind D.table D.name D.column D.parent D.unique D.type D.dflt.kind D.dflt.n D.dflt.s ua un uc st _ s ?_
  unfold vc_rForeign
  have htn : tn = ps.length := hH.row.len
  have hpl : S.tabs.length = ps.length := by rw [he]; simp
  have hSch : SchIs s (ta, tn, tc) S ps := hH.is he (by have := hb.tabs; omega) (fun T hT => by obtain ⟨_, a, b, c⟩ := hb.each T hT; exact ⟨by omega, by omega, by omega⟩)
  have hpm := List.mem_of_getElem? hp
  have hP := hSch.all p hpm
  have ho := hH.all p hpm
  have hT : p.T ∈ S.tabs := by rw [he]; exact List.mem_map_of_mem hpm
  obtain ⟨b1, b2, b3, b4⟩ := hb.each p.T hT
  have hil := (List.getElem?_eq_some_iff.1 hp).1
  obtain ⟨g, ht, _⟩ := hH.row.at hp
  have hA := Gs.tabHas hH hp ht
  dsimp only at ht
  subst ht
  have hlast := hb.last
  obtain ⟨R, hR⟩ : ∃ R, OutR (keyTurn S i p.T D st) (Lof (some ⟨g, 0, none⟩, tn, tc) ps) s = R := ⟨_, rfl⟩
  have hret : ∀ {e : Int}, keyTurn S i p.T D st = .error e → R (.tuple #[schV S (some ⟨g, 0, none⟩, tn, tc), .int .i64 e]) s := fun e1 => by
    rw [← hR, e1]; exact ⟨⟨S, _, rfl⟩, Mod.refl _ _⟩
  rw [hR]
  obtain ⟨T, c, x, kk⟩ := p
  obtain ⟨ca, can, cac⟩ := c
  obtain ⟨xa, xan, xac⟩ := x
  obtain ⟨ka, kan, kac⟩ := kk
  dsimp only at *
  have hcan : can = T.cols.length := hP.c.len
  have hxan : xan = T.idxs.length := hP.x.len
  have hkan : kan = T.keys.length := hP.k.len
  have hwl : IntKind.i64.wrap (S.last + 1) = S.last + 1 := wrap_in (by omega) (by omega)
  simp only [RP_join, RP_ite, RP_call, RP_callQ, RP_ret, RP_nw, RP_app, RP_st, RP_ld, RP_unSome, RP_guard, RP_loop, RP_still, RP_clr, RP_look, RP_mset, W.unSome_some]
  refine ⟨by omega, ?_⟩
  simp only [W.unSome_some, Int.toNat_natCast, add_mk, Nat.zero_add]
  refine ld_has_z hA (y := (T.id, T.name, (ca, can, cac), (xa, xan, xac), (ka, kan, kac), ())) rfl ?_
  refine callq ((keyAt T D.name, ()), ()) (c_rKeyAt (p := ⟨T, (ca, can, cac), (xa, xan, xac), (ka, kan, kac)⟩) hP.k D.name) rfl ?_
  refine W.join_gen (fun z s' => z = ((S.version, S.last, (some (Addr.mk g 0 none), tn, tc), ()), (D.kind, D.table, D.name, D.column, D.parent, D.unique, D.type, D.dflt.kind, D.dflt.n, D.dflt.s, (ua, un, uc), ()), (0, 0, (none, 0, 0), ()), (T.id, T.name, (ca, can, cac), (xa, xan, xac), (ka, kan, kac), ()), (keyAt T D.name, ()), (decide (D.kind = 6 ∧ keyAt T D.name < 0), ()), ()) ∧ s' = s) ?_ ?_
  rotate_left
  · intro J6 hJ6
    simp only [W.br_iff]
    refine ⟨fun h4 => hJ6 _ _ ⟨?_, rfl⟩, fun h4 => hJ6 _ _ ⟨?_, rfl⟩⟩
    · have h4 : D.kind = 6 := by simpa using h4
      simp [h4]
    · have h4 : D.kind ≠ 6 := by simpa using h4
      simp [h4]
  rintro _ s0 ⟨rfl, rfl⟩
  simp only [W.br_iff, decide_eq_true_eq, decide_eq_false_iff_not]
  refine ⟨fun hadd => ?_, fun hadd => ?_⟩
  · refine callq ((freshE D.name kan, ()), ()) (c_rFresh D.name kan _) rfl ?_
    simp only [W.br_iff, W.unSome_some]
    refine ⟨fun hf => ?_, fun hf => ?_⟩
    · have hf : freshE D.name T.keys.length ≠ 0 := by rw [← hkan]; simpa using hf
      exact hret (by unfold keyTurn; rw [if_pos hadd, if_pos hf, hkan])
    have hf : freshE D.name T.keys.length = 0 := by rw [← hkan]; simpa using hf
    have hnf : ¬ (freshE D.name T.keys.length ≠ 0) := by rw [hf]; simp
    have hcp := c_rPublic (p := ⟨T, (ca, can, cac), (xa, xan, xac), (ka, kan, kac)⟩) hP.c D.column
    obtain ⟨E, hE⟩ : ∃ E, pubAt T D.column = E := ⟨_, rfl⟩
    dsimp only at hcp
    rw [hE] at hcp
    refine callq ((E, ()), ()) hcp rfl ?_
    subst hE
    simp only [W.br_iff, decide_eq_true_eq, decide_eq_false_iff_not]
    refine ⟨fun hp1 => hret (by unfold keyTurn; rw [if_pos hadd, if_neg hnf, if_pos hp1]), fun hp1 => ?_⟩
    refine callq ((tabAt S D.parent, ()), ()) (c_rTableAt (t := (some ⟨g, 0, none⟩, tn, tc)) hSch D.parent) rfl ?_
    simp only [W.br_iff, decide_eq_true_eq, decide_eq_false_iff_not]
    refine ⟨fun hp2 => hret (by unfold keyTurn; rw [if_pos hadd, if_neg hnf, if_neg hp1, if_pos hp2]), fun hp2 => ?_⟩
    obtain ⟨j, c, hj, hc, _⟩ := (pubAt_lt (T := T) (name := D.column) (s := s0) (t := (ca, can, cac))).resolve_left hp1
    have hjl := (List.getElem?_eq_some_iff.1 hc).1
    obtain ⟨j2, P, hj2, hP2, _⟩ := (seek_cases (fun T : Tab => decide (T.name = D.parent)) S.tabs).resolve_left (fun e => by have := e.1; unfold tabAt at hp2; omega)
    have hj2 : tabAt S D.parent = (j2 : Int) := hj2
    obtain ⟨pp, hpp, hppT⟩ : ∃ pp, ps[j2]? = some pp ∧ pp.T = P := by
      rw [he, List.getElem?_map] at hP2
      cases hq : ps[j2]? with
      | none => rw [hq] at hP2; cases hP2
      | some pp => rw [hq] at hP2; exact ⟨pp, rfl, Option.some.inj hP2⟩
    have hj2l := (List.getElem?_eq_some_iff.1 hpp).1
    have hPP := hSch.all pp (List.mem_of_getElem? hpp)
    obtain ⟨d1, _⟩ := hb.each P (List.mem_of_getElem? hP2)
    subst hppT
    have hA3 := Gs.tabHas hH hpp rfl
    obtain ⟨PT, ⟨pca, pcn, pcc⟩, px, pk⟩ := pp
    dsimp only at d1 hP2
    have hpcn : pcn = PT.cols.length := hPP.c.len
    obtain ⟨c0, cs, hcs⟩ : ∃ c0 cs, PT.cols = c0 :: cs := by
      cases hc : PT.cols with
      | nil => rw [hc] at d1; simp at d1
      | cons a b => exact ⟨a, b, rfl⟩
    have hTurn : keyTurn S i T D st = if c.kind ≠ c0.kind then .error 154 else if st = 0 then .error 1 else .ok ⟨S.version, S.last + 1, S.tabs.set i { T with keys := T.keys ++ [⟨S.last + 1, D.name, c.id, PT.id, st⟩] }⟩ := by
      unfold keyTurn
      rw [if_pos hadd, if_neg hnf, if_neg hp1, if_neg hp2, hj, hj2]
      simp only [Int.toNat_natCast, hc, hP2, hcs]
    rw [hj, hj2]
    obtain ⟨ad, had, hh⟩ := hP.c.el.at_enc hc
    dsimp only at had
    subst had
    obtain ⟨ad5, had5, hh5⟩ := hPP.c.el.at_enc (i := 0) (x := c0) (by rw [hcs]; rfl)
    dsimp only at had5
    subst had5
    rw [Nat.zero_mul] at hh5
    refine ⟨by omega, ?_⟩
    simp only [W.unSome_some, Int.toNat_natCast, add_mk, Nat.zero_add]
    refine ld_hasm (j := 2) hA3 (cs := [.slice]) (y := ((some ad5, pcn, pcc), ())) rfl ?_
    refine ⟨by dsimp only; omega, ?_⟩
    simp only [W.unSome_some]
    refine ld_has (j := 2) hh5 (cs := [.int .i64]) (y := (c0.kind, ())) rfl ?_
    refine ⟨by omega, ?_⟩
    simp only [W.unSome_some, Int.toNat_natCast]
    refine ld_has (j := 2) hh (cs := [.int .i64]) (y := (c.kind, ())) rfl ?_
    simp only [W.br_iff]
    refine ⟨fun hk => hret (by rw [hTurn, if_pos (fun e => by rw [e] at hk; simp at hk)]), fun hk => ?_⟩
    have hk : ¬ (c.kind ≠ c0.kind) := fun e => e (by have : c0.kind = c.kind := by simpa using hk
                                                     exact this.symm)
    rw [if_neg hk] at hTurn
    refine ⟨fun h0 => hret (by rw [hTurn, if_pos (by simpa using h0)]), fun h0 => ?_⟩
    rw [if_neg (by simpa using h0)] at hTurn
    refine ⟨by omega, ?_⟩
    simp only [W.unSome_some, Int.toNat_natCast, add_mk, Nat.zero_add, hwl]
    refine ld_hasm (j := 4) hA (cs := [.slice]) (y := ((ka, kan, kac), ())) rfl ?_
    refine ⟨by omega, ?_⟩
    simp only [W.unSome_some, Int.toNat_natCast]
    refine ld_has (j := 0) hh (cs := [.int .i64]) (y := (c.id, ())) rfl ?_
    refine ⟨by omega, ?_⟩
    simp only [W.unSome_some, Int.toNat_natCast, add_mk, Nat.zero_add]
    refine ld_hasm (j := 0) hA3 (cs := [.int .i64]) (y := (PT.id, ())) rfl ?_
    refine hH.app_k hp ⟨S.last + 1, D.name, c.id, PT.id, st⟩ (by dsimp only; omega) ?_
    intro u s3 hu hw
    refine ⟨by omega, ?_⟩
    simp only [W.unSome_some, Int.toNat_natCast, add_mk, Nat.zero_add]
    refine hH.store hp hw (j := 4) (vs := [.slice u.1 u.2.1 u.2.2]) rfl (by simp) (by simp) rfl fun s4 h4 st4 => ?_
    rw [← hR, hTurn]
    exact ⟨(some (Addr.mk g 0 none), tn, tc), _, rfl, h4, by dsimp only; rw [set_map, he], st4⟩
  · have hnat : ¬ (D.kind = 6 ∧ keyAt T D.name < 0) := hadd
    refine W.join_gen (fun z s' => z = ((S.version, S.last, (some (Addr.mk g 0 none), tn, tc), ()), (0, 0, (none, 0, 0), ()), (T.id, T.name, (ca, can, cac), (xa, xan, xac), (ka, kan, kac), ()), (keyAt T D.name, ()), ()) ∧ s' = s0 ∧ ∀ (j : Nat) (x : For), keyAt T D.name = (j : Int) → T.keys[j]? = some x → ¬ (D.kind = 6 ∧ x.state = 3)) ?_ ?_
    rotate_left
    · intro J hJ
      simp only [W.br_iff]
      refine ⟨fun h4 => ?_, fun h4 => hJ _ _ ⟨rfl, rfl, fun j x _ _ e => by rw [e.1] at h4; simp at h4⟩⟩
      have h4 : D.kind = 6 := by simpa using h4
      have hn : ¬ keyAt T D.name < 0 := fun e => hadd ⟨h4, e⟩
      rcases seek_cases (fun c : For => decide (c.name = D.name)) T.keys with ⟨h1, _⟩ | ⟨j, x, h1, hx, _⟩
      · exact absurd h1 (by unfold keyAt at hn; omega)
      have hj : keyAt T D.name = (j : Int) := h1
      have hjl := (List.getElem?_eq_some_iff.1 hx).1
      rw [hj]
      refine ⟨by omega, ?_⟩
      obtain ⟨ad, had, hh⟩ := hP.k.el.at_enc hx
      dsimp only at had
      rw [had]
      simp only [W.unSome_some, Int.toNat_natCast]
      refine ld_has (j := 4) hh (cs := [.int .i64]) (y := (x.state, ())) rfl ?_
      simp only [W.br_iff]
      refine ⟨fun h3 => hret ?_, fun h3 => ?_⟩
      · have h3 : x.state = 3 := by simpa using h3
        unfold keyTurn
        rw [if_neg hadd, hj, if_neg (by omega)]
        simp only [Int.toNat_natCast, hx]
        rw [if_pos ⟨h4, h3⟩]
      · have h3 : x.state ≠ 3 := by simpa using h3
        rw [← had, ← hj]
        refine hJ _ _ ⟨rfl, rfl, fun j' x'' e1 e2 e => ?_⟩
        have : j' = j := by omega
        subst this
        rw [hx] at e2; cases e2
        exact h3 e.2
    rintro _ s1 ⟨rfl, rfl, hno⟩
    simp only [W.br_iff, decide_eq_true_eq, decide_eq_false_iff_not]
    refine ⟨fun hn => hret (by unfold keyTurn; rw [if_neg hadd, if_pos hn]), fun hn => ?_⟩
    obtain ⟨k, x, hk, hx⟩ : ∃ (j : Nat) (x : For), keyAt T D.name = (j : Int) ∧ T.keys[j]? = some x := by
      rcases seek_cases (fun c : For => decide (c.name = D.name)) T.keys with ⟨h1, _⟩ | ⟨j, x, h1, h2, _⟩
      · exact absurd h1 (by unfold keyAt at hn; omega)
      · exact ⟨j, x, h1, h2⟩
    have hno := hno k x hk hx
    have hkl := (List.getElem?_eq_some_iff.1 hx).1

    have hTurn : keyTurn S i T D st = .ok ⟨S.version, S.last, S.tabs.set i { T with keys := placed T.keys k st (x.put st) }⟩ := by
      unfold keyTurn
      rw [if_neg hadd, hk, if_neg (by omega)]
      simp only [Int.toNat_natCast, hx]
      rw [if_neg hno]

    have hpl2 := placed_len (l := T.keys) (k := k) (st := st) (x' := x.put st)
    obtain ⟨P, hPd⟩ : ∃ P, placed T.keys k st (x.put st) = P := ⟨_, rfl⟩
    rw [hPd] at hTurn hpl2
    rw [hk]
    refine ⟨fun z s' => ∃ (j n c : Nat) (a : Option Addr), z = ((S.version, S.last, (some (Addr.mk g 0 none), tn, tc), ()), (0, 0, (none, 0, 0), ()), (T.id, T.name, (ca, can, cac), (xa, xan, xac), (ka, kan, kac), ()), ((k : Int), ()), ((a, n, c), ()), ((j : Int), ()), ()) ∧ j ≤ kan ∧ rowE forE s' 109 a n c (P.take (pos k st j)) ∧
      (∀ q ∈ Fw.blk a, s1 q = none) ∧ Fw.Mod [] s1 s', fun z _ => kan - z.2.2.2.2.2.1.1.toNat, ⟨0, 0, 0, none, rfl, Nat.zero_le _, by rw [pos_zero]; exact rowE.nil, by simp [Fw.blk], Mod.refl _ _⟩, ?_⟩
    rintro _ s2 ⟨j, n, c, a, rfl, hj, hrow, hfr, m2⟩
    simp only [W.br_iff, decide_eq_true_eq, decide_eq_false_iff_not]
    refine ⟨fun hlt => ?_, fun hge => ?_⟩
    · have hlt : j < kan := by omega
      obtain ⟨y, hy⟩ : ∃ y, T.keys[j]? = some y := ⟨_, List.getElem?_eq_getElem (by omega)⟩
      obtain ⟨ad, had, hh⟩ := (hP.mono m2.le).k.el.at_enc hy
      dsimp only at had
      refine ⟨by omega, ?_⟩
      rw [had]
      simp only [W.unSome_some, Int.toNat_natCast]
      refine ld_has_z hh (y := (y.id, y.name, y.column, y.parent, y.state, ())) rfl ?_
      have hw := wrap_succ (k := j) (by omega)
      have hm : kan - (((j + 1 : Nat) : Int)).toNat < kan - ((j : Int)).toNat := by simp only [Int.toNat_natCast]; omega
      have hlen : (P.take (pos k st j)).length ≤ 1099511627 := by rw [List.length_take]; omega
      rw [hw]
      simp only [W.br_iff]
      refine ⟨fun hjk => ⟨fun h0 => ?_, fun h0 => ?_⟩, fun hjk => ⟨fun h0 => ?_, fun h0 => ?_⟩⟩
      · have hjk : j = k := by have : (j : Int) = k := by simpa using hjk
                               omega
        subst hjk
        have h0 : st ≠ 0 := by simpa using h0
        have : y = x := by rw [hx] at hy; cases hy; rfl
        subst this
        refine grow (E := forE) (x := y.put st) hrow hfr m2 rfl hlen (by omega) ?_
        intro a' c' s3 h3 f3 m3
        rw [pos_k, ← take_snoc (by rw [← hPd]; exact placed_here h0 hkl)] at h3
        exact ⟨⟨j + 1, n + 1, c', a', rfl, hlt, by rw [pos_here h0]; exact h3, f3, m3⟩, hm⟩
      · have hjk : j = k := by have : (j : Int) = k := by simpa using hjk
                               omega
        subst hjk
        have h0 : st = 0 := by simpa using h0
        rw [pos_k] at hrow
        exact ⟨⟨j + 1, n, c, a, rfl, hlt, by rw [pos_skip h0]; exact hrow, hfr, m2⟩, hm⟩
      · have hjk : j ≠ k := fun e => by rw [e] at hjk; simp at hjk
        refine grow (E := forE) (x := y) hrow hfr m2 rfl hlen (by omega) ?_
        intro a' c' s3 h3 f3 m3
        rw [← take_snoc (by rw [← hPd]; exact placed_step hy hjk)] at h3
        exact ⟨⟨j + 1, n + 1, c', a', rfl, hlt, by rw [pos_step hjk]; exact h3, f3, m3⟩, hm⟩
      · have h0 : y.state = 0 := by simpa using h0
        exact absurd h0 (hsn.k T hT y (List.mem_of_getElem? hy))
    · have hje : j = T.keys.length := by omega
      subst hje
      have hall : P.take (pos k st T.keys.length) = P := by rw [← hPd]; exact placed_all hkl
      rw [hall] at hrow
      refine ⟨by omega, ?_⟩
      simp only [W.unSome_some, Int.toNat_natCast, add_mk, Nat.zero_add]
      have hw := work_k (s1 := s2) ho (hH.nodp hpm) (u := (a, n, c)) hrow (m2.mono (by simp)) (fun q hq => .inr (hfr q hq))
      refine hH.store hp hw (j := 4) (vs := [.slice a n c]) rfl (by simp) (by simp) rfl fun s3 h3 st3 => ?_
      rw [← hR, hTurn]
      exact ⟨(some (Addr.mk g 0 none), tn, tc), _, rfl, h3, by dsimp only; rw [set_map, he], st3⟩
end
end Go.Proofs.Ythepfbcgpbkbdaa
