/-
  Part 4 for the law: texts of this session's own, those parts that the claim needs, one behind the other.
  Conditions: none; it proves no statement by itself.
-/
import Derived.Test.YthepfbcgpbkbdaaSchemaUndoK3
set_option linter.unusedVariables false
set_option linter.unusedSectionVars false
set_option linter.unusedSimpArgs false
section
set_option linter.unusedVariables false
set_option linter.unusedSimpArgs false
set_option maxHeartbeats 1000000
set_option maxRecDepth 100000
namespace Go.Proofs.Ythepfbcgpbkbdaa
open Fw Go
attribute [-simp] Fw.W.ld_iff Fw.W.st_iff
theorem b_last {s : PH} {b : Nat} {v l : Int} {a : Option Addr} {n c : Nat} (h : s b = some (.cells #[.int .i64 v, .int .i64 l, .slice a n c] 24 (0, 0))) {K : Den [.int .i64] → W.T} (hK : K (l, ()) s) : W.unSome (some (Addr.mk b 0 none)) (fun p => W.ld [.int .i64] (p.add 1) K) s := by
  simp only [W.unSome_some, add_mk, Nat.zero_add]
  rw [W.ld_at h]
  exact ⟨(l, ()), by simp, hK⟩
theorem b_tabs {s : PH} {b : Nat} {v l : Int} {a : Option Addr} {n c : Nat} (h : s b = some (.cells #[.int .i64 v, .int .i64 l, .slice a n c] 24 (0, 0))) {K : Den [.slice] → W.T} (hK : K ((a, n, c), ()) s) : W.unSome (some (Addr.mk b 0 none)) (fun p => W.ld [.slice] (p.add 2) K) s := by
  simp only [W.unSome_some, add_mk, Nat.zero_add]
  rw [W.ld_at h]
  exact ⟨((a, n, c), ()), by simp, hK⟩
theorem b_bump {s : PH} {b : Nat} {v l : Int} {a : Option Addr} {n c : Nat} (h : s b = some (.cells #[.int .i64 v, .int .i64 l, .slice a n c] 24 (0, 0))) (hl : IntKind.i64.wrap (l + 1) = l + 1) {K : W.T}
    (hK : ∀ s2, Fw.Mod [b] s s2 → s2 b = some (.cells #[.int .i64 v, .int .i64 (l + 1), .slice a n c] 24 (0, 0)) → K s2) :
    W.unSome (some (Addr.mk b 0 none)) (fun p => W.ld [.int .i64] (p.add 1) fun x => W.unSome (some (Addr.mk b 0 none)) fun p' => W.st (p'.add 1) [.int .i64 (IntKind.i64.wrap (x.1 + 1))] K) s := by
  refine b_last h ?_
  simp only [W.unSome_some, add_mk, Nat.zero_add, hl]
  rw [W.st_at h]
  exact ⟨by simp, by simp, by simp [Value.oneCell'], hK _ (Mod.upd (by simp)) (PH.upd_same _ _ _)⟩
section
variable {s : PH} {b : Nat} {S : Sch} {t : Tri} {ps : List TabP} {i g : Nat} {p : TabP}
theorem c_indexes (h : Gs s b S t ps) (hb : S.Bd) (hp : ps[i]? = some p) (ht : t.1 = some ⟨g, 0, none⟩) (D : Ddl) (u : Tri) (st : Int) :
    DCalls Try.prog 79 #[cp b, .pointer (some ⟨g, i * 5, none⟩), ddlV D u, .int .i64 st] s (OutG b (idxTurn S i p.T D st) (Lof t ps) s) := by
  obtain ⟨ua, un, uc⟩ := u
  refine ok_indexes b ⟨g, i * 5, none⟩ D.kind D.table D.name D.column D.parent D.unique D.type D.dflt.kind D.dflt.n D.dflt.s ua un uc st _ s ?_
  unfold vc_indexes
  have hSch := h.sch hb
  have hpm := List.mem_of_getElem? hp
  have hP := hSch.all p hpm
  have hT : p.T ∈ S.tabs := by rw [h.eq]; exact List.mem_map_of_mem hpm
  obtain ⟨b1, b2, b3, b4⟩ := hb.each p.T hT
  have hA := Gs.tabHas h.has hp ht
  have hcn : p.c.2.1 = p.T.cols.length := hP.c.len
  have hln : p.x.2.1 = p.T.idxs.length := hP.x.len
  have hcell := h.cell
  simp only [RP_join, RP_ite, RP_call, RP_callQ, RP_ret, RP_nw, RP_app, RP_st, RP_ld, RP_unSome, RP_guard, RP_loop, RP_still, RP_clr, RP_look, RP_mset, W.unSome_some]
  refine ld_has (j := 3) hA (cs := [.slice]) (y := (p.x, ())) rfl ?_
  refine W.callQ_of ((idxAt p.T D.name, ()), ()) (c_findX hP.x.el hP.x.few D.name) rfl ?_
  obtain ⟨R, hR⟩ : ∃ R, OutG b (idxTurn S i p.T D st) (Lof t ps) s = R := ⟨_, rfl⟩
  have hret : ∀ {e : Int} {s'}, idxTurn S i p.T D st = .error e → Fw.Mod (b :: Lof t ps) s s' → R (.int .i64 e) s' := fun e1 m => by
    rw [← hR, e1]; exact ⟨rfl, m⟩
  rw [hR]
  have hlast : IntKind.i64.wrap (S.last + 1) = S.last + 1 := wrap_in (by have := hb.last; omega) (by have := hb.last; omega)
  refine W.join_gen (fun z s' => z = ((D.kind, D.table, D.name, D.column, D.parent, D.unique, D.type, D.dflt.kind, D.dflt.n, D.dflt.s, (ua, un, uc), ()), (idxAt p.T D.name, ()), (decide (D.kind = 2 ∧ idxAt p.T D.name < 0), ()), ()) ∧ s' = s) ?_ ?_
  rotate_left
  · intro J6 hJ6
    simp only [W.br_iff]
    refine ⟨fun h4 => hJ6 _ _ ⟨?_, rfl⟩, fun h4 => hJ6 _ _ ⟨?_, rfl⟩⟩
    · have h4 : D.kind = 2 := by simpa using h4
      simp [h4]
    · have h4 : D.kind ≠ 2 := by simpa using h4
      simp [h4]
  rintro _ s0 ⟨rfl, rfl⟩
  simp only [W.br_iff, decide_eq_true_eq, decide_eq_false_iff_not]
  refine ⟨fun hadd => ?_, fun hadd => ?_⟩
  · simp only [W.unSome_some]
    refine ld_has (j := 3) hA (cs := [.slice]) (y := (p.x, ())) rfl ?_
    refine W.callQ_of ((freshE D.name p.x.2.1, ()), ()) (c_fresh D.name p.x.2.1 _) rfl ?_
    rw [hln]
    simp only [W.br_iff, W.unSome_some]
    refine ⟨fun hf => ?_, fun hf => ?_⟩
    · have hf : freshE D.name p.T.idxs.length ≠ 0 := by simpa using hf
      exact hret (by unfold idxTurn; rw [if_pos hadd, if_pos hf]) (Mod.refl _ _)
    have hf : freshE D.name p.T.idxs.length = 0 := by simpa using hf
    have hnf : ¬ (freshE D.name p.T.idxs.length ≠ 0) := by rw [hf]; simp
    have hnb : b ∉ Lof t ps := h.nb
    refine callq ((pubAt p.T D.column, ()), ()) (c_public hA hP.c D.column) rfl ?_
    simp only [W.br_iff, decide_eq_true_eq, decide_eq_false_iff_not]
    refine ⟨fun hp1 => hret (by unfold idxTurn; rw [if_pos hadd, if_neg hnf, if_pos hp1]) (Mod.refl _ _), fun hp1 => ⟨fun h0 => hret (by unfold idxTurn; rw [if_pos hadd, if_neg hnf, if_neg hp1, if_pos (by simpa using h0)]) (Mod.refl _ _), fun h0 => ?_⟩⟩
    have h0 : st ≠ 0 := by simpa using h0
    obtain ⟨j, c, hj, hc, _⟩ := (pubAt_lt (T := p.T) (name := D.column) (s := s0) (t := t)).resolve_left hp1
    have hjl := (List.getElem?_eq_some_iff.1 hc).1
    have hTurn : idxTurn S i p.T D st = .ok ⟨S.version, S.last + 1, S.tabs.set i { p.T with idxs := p.T.idxs ++ [⟨S.last + 1, D.name, c.id, D.unique, st⟩] }⟩ := by
      unfold idxTurn
      rw [if_pos hadd, if_neg hnf, if_neg hp1, if_neg h0, hj]
      simp only [Int.toNat_natCast, hc]
    rw [hj]
    refine b_bump hcell hlast fun s2 m1 hc1 => ?_
    have hH2 : Has s2 t ps := h.has.mod m1 (fun x hx => by simpa using fun e : x = b => hnb (e ▸ hx))
    have hA2 := Gs.tabHas hH2 hp ht
    have hP2 := (hH2.is h.eq (by have := hb.tabs; omega) (fun T hT => by obtain ⟨_, a, b, c⟩ := hb.each T hT; exact ⟨by omega, by omega, by omega⟩)).all p hpm
    simp only [W.unSome_some]
    refine ld_has (j := 3) hA2 (cs := [.slice]) (y := (p.x, ())) rfl ?_
    refine b_last hc1 ?_
    simp only [W.unSome_some]
    refine ld_has (j := 2) hA2 (cs := [.slice]) (y := (p.c, ())) rfl ?_
    refine ⟨by show (0 : Int) ≤ j ∧ (j : Int) < (p.c.2.1 : Nat); omega, ?_⟩
    obtain ⟨ad, had, hh⟩ := hP2.c.el.at_enc hc
    rw [had]
    simp only [W.unSome_some, Int.toNat_natCast]
    refine ld_has (j := 0) hh (cs := [.int .i64]) (y := (c.id, ())) rfl ?_
    refine hH2.app_x hp ⟨S.last + 1, D.name, c.id, D.unique, st⟩ (by omega) ?_
    intro u s3 hu hw
    simp only [W.unSome_some, add_mk]
    refine hH2.store hp hw (j := 3) (vs := [.slice u.1 u.2.1 u.2.2]) rfl (by simp) (by simp) ht fun s4 h4 st4 => ?_
    obtain ⟨hG, hS⟩ := h.then (S' := ⟨S.version, S.last + 1, S.tabs.set i { p.T with idxs := p.T.idxs ++ [⟨S.last + 1, D.name, c.id, D.unique, st⟩] }⟩) m1 hc1 h4 st4 (by dsimp only; rw [set_map, h.eq])
    rw [← hR, hTurn]
    exact ⟨rfl, t, _, hG, hS⟩
  · have hneg : idxAt p.T D.name < 0 → R (.int .i64 153) s0 := fun e => hret (by unfold idxTurn; rw [if_neg hadd, if_pos e]) (Mod.refl _ _)
    have hpos : ¬ idxAt p.T D.name < 0 → ∃ (j : Nat) (x : Idx), idxAt p.T D.name = (j : Int) ∧ p.T.idxs[j]? = some x := by
      intro e
      rcases seek_cases (fun c : Idx => decide (c.name = D.name)) p.T.idxs with ⟨h1, _⟩ | ⟨j, x, h1, h2, _⟩
      · exact absurd h1 (by unfold idxAt at e; omega)
      · exact ⟨j, x, h1, h2⟩
    have fin : ∀ (j : Nat) (x : Idx), idxAt p.T D.name = (j : Int) → p.T.idxs[j]? = some x → ¬ (D.kind = 2 ∧ x.state = 3) → W.call Try.prog 127 #[.pointer (some ⟨g, i * 5 + 3, none⟩), .int .i64 j, .int .i64 st, .func (.func 128) #[] #[]] (true, []) (fun _ => W.ret R (.int .i64 0)) s0 := by
      intro j x hj hx hu
      refine W.call_of (c_placeX h.has hp hx ht (by omega) st) ?_
      rintro _ s3 ⟨rfl, ps', h3, he, st3⟩
      refine ⟨(), rfl, ?_⟩
      have hTurn : idxTurn S i p.T D st = .ok ⟨S.version, S.last, S.tabs.set i { p.T with idxs := placed p.T.idxs j st (x.put st) }⟩ := by
        unfold idxTurn
        rw [if_neg hadd, hj, if_neg (by omega)]
        simp only [Int.toNat_natCast, hx]
        rw [if_neg hu]
      obtain ⟨hG, hS⟩ := h.then (S' := ⟨S.version, S.last, S.tabs.set i { p.T with idxs := placed p.T.idxs j st (x.put st) }⟩) (Mod.refl _ _) h.cell h3 st3 (by dsimp only; rw [he, h.eq])
      rw [← hR, hTurn]
      exact ⟨rfl, t, ps', hG, hS⟩
    refine ⟨fun h4 => ?_, fun h4 => ⟨hneg, fun hn => ?_⟩⟩
    · have h4 : D.kind = 2 := by simpa using h4
      have hn : ¬ idxAt p.T D.name < 0 := fun e => hadd ⟨h4, e⟩
      obtain ⟨j, x, hj, hx⟩ := hpos hn
      have hjl := (List.getElem?_eq_some_iff.1 hx).1
      simp only [W.unSome_some]
      refine ld_has (j := 3) hA (cs := [.slice]) (y := (p.x, ())) rfl ?_
      rw [hj]
      refine ⟨by show (0 : Int) ≤ j ∧ (j : Int) < (p.x.2.1 : Nat); omega, ?_⟩
      obtain ⟨ad, had, hh⟩ := hP.x.el.at_enc hx
      rw [had]
      simp only [W.unSome_some, Int.toNat_natCast]
      refine ld_has (j := 4) hh (cs := [.int .i64]) (y := (x.state, ())) rfl ?_
      simp only [W.br_iff, decide_eq_true_eq, decide_eq_false_iff_not, add_mk, W.unSome_some]
      refine ⟨fun h3 => ?_, fun h3 => ⟨fun e => by omega, fun _ => ?_⟩⟩
      · have h3 : x.state = 3 := by simpa using h3
        refine hret ?_ (Mod.refl _ _)
        unfold idxTurn
        rw [if_neg hadd, hj, if_neg (by omega)]
        simp only [Int.toNat_natCast, hx]
        rw [if_pos ⟨h4, h3⟩]
      · have h3 : x.state ≠ 3 := by simpa using h3
        exact fin j x hj hx (fun e => h3 e.2)
    · have h4 : D.kind ≠ 2 := by simpa using h4
      obtain ⟨j, x, hj, hx⟩ := hpos hn
      simp only [W.unSome_some, add_mk, hj]
      exact fin j x hj hx (fun e => h4 e.1)
theorem c_foreigns (h : Gs s b S t ps) (hb : S.Bd) (hp : ps[i]? = some p) (ht : t.1 = some ⟨g, 0, none⟩) (D : Ddl) (u : Tri) (st : Int) :
    DCalls Try.prog 80 #[cp b, .pointer (some ⟨g, i * 5, none⟩), ddlV D u, .int .i64 st] s (OutG b (keyTurn S i p.T D st) (Lof t ps) s) := by
  obtain ⟨ua, un, uc⟩ := u
  refine ok_foreigns b ⟨g, i * 5, none⟩ D.kind D.table D.name D.column D.parent D.unique D.type D.dflt.kind D.dflt.n D.dflt.s ua un uc st _ s ?_
  unfold vc_foreigns
  have hSch := h.sch hb
  have hpm := List.mem_of_getElem? hp
  have hP := hSch.all p hpm
  have hT : p.T ∈ S.tabs := by rw [h.eq]; exact List.mem_map_of_mem hpm
  obtain ⟨b1, b2, b3, b4⟩ := hb.each p.T hT
  have hA := Gs.tabHas h.has hp ht
  have hcn : p.c.2.1 = p.T.cols.length := hP.c.len
  have hln : p.k.2.1 = p.T.keys.length := hP.k.len
  have hcell := h.cell
  simp only [RP_join, RP_ite, RP_call, RP_callQ, RP_ret, RP_nw, RP_app, RP_st, RP_ld, RP_unSome, RP_guard, RP_loop, RP_still, RP_clr, RP_look, RP_mset, W.unSome_some]
  refine ld_has (j := 4) hA (cs := [.slice]) (y := (p.k, ())) rfl ?_
  refine W.callQ_of ((keyAt p.T D.name, ()), ()) (c_findF hP.k.el hP.k.few D.name) rfl ?_
  obtain ⟨R, hR⟩ : ∃ R, OutG b (keyTurn S i p.T D st) (Lof t ps) s = R := ⟨_, rfl⟩
  have hret : ∀ {e : Int} {s'}, keyTurn S i p.T D st = .error e → Fw.Mod (b :: Lof t ps) s s' → R (.int .i64 e) s' := fun e1 m => by
    rw [← hR, e1]; exact ⟨rfl, m⟩
  rw [hR]
  have hlast : IntKind.i64.wrap (S.last + 1) = S.last + 1 := wrap_in (by have := hb.last; omega) (by have := hb.last; omega)
  refine W.join_gen (fun z s' => z = ((D.kind, D.table, D.name, D.column, D.parent, D.unique, D.type, D.dflt.kind, D.dflt.n, D.dflt.s, (ua, un, uc), ()), (keyAt p.T D.name, ()), (decide (D.kind = 6 ∧ keyAt p.T D.name < 0), ()), ()) ∧ s' = s) ?_ ?_
  rotate_left
  · intro J6 hJ6
    simp only [W.br_iff]
    refine ⟨fun h4 => hJ6 _ _ ⟨?_, rfl⟩, fun h4 => hJ6 _ _ ⟨?_, rfl⟩⟩
    · have h4 : D.kind = 6 := by simpa using h4
      simp [h4]
    · have h4 : D.kind ≠ 6 := by simpa using h4
      simp [h4]
  rintro _ s0 ⟨rfl, rfl⟩
  simp only [W.br_iff, decide_eq_true_eq, decide_eq_false_iff_not]
  refine ⟨fun hadd => ?_, fun hadd => ?_⟩
  · simp only [W.unSome_some]
    refine ld_has (j := 4) hA (cs := [.slice]) (y := (p.k, ())) rfl ?_
    refine W.callQ_of ((freshE D.name p.k.2.1, ()), ()) (c_fresh D.name p.k.2.1 _) rfl ?_
    rw [hln]
    simp only [W.br_iff, W.unSome_some]
    refine ⟨fun hf => ?_, fun hf => ?_⟩
    · have hf : freshE D.name p.T.keys.length ≠ 0 := by simpa using hf
      exact hret (by unfold keyTurn; rw [if_pos hadd, if_pos hf]) (Mod.refl _ _)
    have hf : freshE D.name p.T.keys.length = 0 := by simpa using hf
    have hnf : ¬ (freshE D.name p.T.keys.length ≠ 0) := by rw [hf]; simp
    have hnb : b ∉ Lof t ps := h.nb
    refine W.callQ_of ((pubAt p.T D.column, ()), ()) (c_public hA hP.c D.column) rfl ?_
    refine b_tabs hcell ?_
    refine W.callQ_of ((tabAt S D.parent, ()), ()) (c_findT' hSch D.parent) rfl ?_
    simp only [W.br_iff, decide_eq_true_eq, decide_eq_false_iff_not]
    refine ⟨fun hp1 => hret (by unfold keyTurn; rw [if_pos hadd, if_neg hnf, if_pos hp1]) (Mod.refl _ _), fun hp1 => ⟨fun hp2 => hret (by unfold keyTurn; rw [if_pos hadd, if_neg hnf, if_neg hp1, if_pos hp2]) (Mod.refl _ _), fun hp2 => ?_⟩⟩
    obtain ⟨j, c, hj, hc, _⟩ := (pubAt_lt (T := p.T) (name := D.column) (s := s0) (t := t)).resolve_left hp1
    have hjl := (List.getElem?_eq_some_iff.1 hc).1
    obtain ⟨j2, P, hj2, hP2, _⟩ := (seek_cases (fun T : Tab => decide (T.name = D.parent)) S.tabs).resolve_left (fun e => by have := e.1; unfold tabAt at hp2; omega)
    have hj2 : tabAt S D.parent = (j2 : Int) := hj2
    obtain ⟨pp, hpp, hppT⟩ : ∃ pp, ps[j2]? = some pp ∧ pp.T = P := by
      rw [h.eq, List.getElem?_map] at hP2
      cases hq : ps[j2]? with
      | none => rw [hq] at hP2; cases hP2
      | some pp => rw [hq] at hP2; exact ⟨pp, rfl, Option.some.inj hP2⟩
    have hj2l := (List.getElem?_eq_some_iff.1 hpp).1
    have hPm := List.mem_of_getElem? hpp
    have hPP := hSch.all pp hPm
    have hPT : P ∈ S.tabs := List.mem_of_getElem? hP2
    obtain ⟨d1, _⟩ := hb.each P hPT
    subst hppT
    have hpcn : pp.c.2.1 = pp.T.cols.length := hPP.c.len
    have htn : t.2.1 = ps.length := h.has.row.len
    obtain ⟨c0, cs, hcs⟩ : ∃ c0 cs, pp.T.cols = c0 :: cs := by
      cases hc : pp.T.cols with
      | nil => rw [hc] at d1; simp at d1
      | cons a b => exact ⟨a, b, rfl⟩
    have hTurn : keyTurn S i p.T D st = if c.kind ≠ c0.kind then .error 154 else if st = 0 then .error 1 else .ok ⟨S.version, S.last + 1, S.tabs.set i { p.T with keys := p.T.keys ++ [⟨S.last + 1, D.name, c.id, pp.T.id, st⟩] }⟩ := by
      unfold keyTurn
      rw [if_pos hadd, if_neg hnf, if_neg hp1, if_neg hp2, hj, hj2]
      simp only [Int.toNat_natCast, hc, hP2, hcs]
    rw [hj, hj2]
    simp only [W.unSome_some]
    refine ld_has (j := 2) hA (cs := [.slice]) (y := (p.c, ())) rfl ?_
    refine ⟨by show (0 : Int) ≤ j ∧ (j : Int) < (p.c.2.1 : Nat); omega, ?_⟩
    obtain ⟨ad, had, hh⟩ := hP.c.el.at_enc hc
    rw [had]
    simp only [W.unSome_some, Int.toNat_natCast]
    refine ld_has (j := 2) hh (cs := [.int .i64]) (y := (c.kind, ())) rfl ?_
    refine b_tabs hcell ?_
    have hA3 := Gs.tabHas h.has hpp ht
    refine ⟨by show (0 : Int) ≤ j2 ∧ (j2 : Int) < (t.2.1 : Nat); omega, ?_⟩
    dsimp only
    rw [ht]
    simp only [W.unSome_some, add_mk, Nat.zero_add, Int.toNat_natCast]
    refine ld_hasm (j := 2) hA3 (cs := [.slice]) (y := (pp.c, ())) rfl ?_
    refine ⟨by show (0 : Int) ≤ 0 ∧ (0 : Int) < (pp.c.2.1 : Nat); omega, ?_⟩
    obtain ⟨ad5, had5, hh5⟩ := hPP.c.el.at_enc (i := 0) (x := c0) (by rw [hcs]; (first | done | rfl))
    rw [had5]
    simp only [W.unSome_some]
    rw [Nat.zero_mul] at hh5
    refine ld_has (j := 2) hh5 (cs := [.int .i64]) (y := (c0.kind, ())) rfl ?_
    simp only [W.br_iff]
    refine ⟨fun hk => hret (by rw [hTurn, if_pos (by simpa using hk)]) (Mod.refl _ _), fun hk => ⟨fun h0 => hret (by rw [hTurn, if_neg (by simpa using hk), if_pos (by simpa using h0)]) (Mod.refl _ _), fun h0 => ?_⟩⟩
    rw [if_neg (by simpa using hk), if_neg (by simpa using h0)] at hTurn
    refine b_bump hcell hlast fun s2 m1 hc1 => ?_
    have hH2 : Has s2 t ps := h.has.mod m1 (fun x hx => by simpa using fun e : x = b => hnb (e ▸ hx))
    have hA2 := Gs.tabHas hH2 hp ht
    have hA4 := Gs.tabHas hH2 hpp ht
    have hSch2 : SchIs s2 t S ps := hH2.is h.eq (by have := hb.tabs; omega) (fun T hT => by obtain ⟨_, a, b, c⟩ := hb.each T hT; exact ⟨by omega, by omega, by omega⟩)
    have hP2' := hSch2.all p hpm
    simp only [W.unSome_some]
    refine ld_has (j := 4) hA2 (cs := [.slice]) (y := (p.k, ())) rfl ?_
    refine b_last hc1 ?_
    simp only [W.unSome_some]
    refine ld_has (j := 2) hA2 (cs := [.slice]) (y := (p.c, ())) rfl ?_
    refine ⟨by show (0 : Int) ≤ j ∧ (j : Int) < (p.c.2.1 : Nat); omega, ?_⟩
    obtain ⟨ad6, had6, hh6⟩ := hP2'.c.el.at_enc hc
    rw [had6]
    simp only [W.unSome_some, Int.toNat_natCast]
    refine ld_has (j := 0) hh6 (cs := [.int .i64]) (y := (c.id, ())) rfl ?_
    refine b_tabs hc1 ?_
    refine ⟨by show (0 : Int) ≤ j2 ∧ (j2 : Int) < (t.2.1 : Nat); omega, ?_⟩
    dsimp only
    rw [ht]
    simp only [W.unSome_some, add_mk, Nat.zero_add, Int.toNat_natCast]
    refine ld_hasm (j := 0) hA4 (cs := [.int .i64]) (y := (pp.T.id, ())) rfl ?_
    refine hH2.app_k hp ⟨S.last + 1, D.name, c.id, pp.T.id, st⟩ (by omega) ?_
    intro u s3 hu hw
    simp only [W.unSome_some, add_mk]
    refine hH2.store hp hw (j := 4) (vs := [.slice u.1 u.2.1 u.2.2]) rfl (by simp) (by simp) ht fun s4 h4 st4 => ?_
    obtain ⟨hG, hS⟩ := h.then (S' := ⟨S.version, S.last + 1, S.tabs.set i { p.T with keys := p.T.keys ++ [⟨S.last + 1, D.name, c.id, pp.T.id, st⟩] }⟩) m1 hc1 h4 st4 (by dsimp only; rw [set_map, h.eq])
    rw [← hR, hTurn]
    exact ⟨rfl, t, _, hG, hS⟩
  · have hneg : keyAt p.T D.name < 0 → R (.int .i64 153) s0 := fun e => hret (by unfold keyTurn; rw [if_neg hadd, if_pos e]) (Mod.refl _ _)
    have hpos : ¬ keyAt p.T D.name < 0 → ∃ (j : Nat) (x : For), keyAt p.T D.name = (j : Int) ∧ p.T.keys[j]? = some x := by
      intro e
      rcases seek_cases (fun c : For => decide (c.name = D.name)) p.T.keys with ⟨h1, _⟩ | ⟨j, x, h1, h2, _⟩
      · exact absurd h1 (by unfold keyAt at e; omega)
      · exact ⟨j, x, h1, h2⟩
    have fin : ∀ (j : Nat) (x : For), keyAt p.T D.name = (j : Int) → p.T.keys[j]? = some x → ¬ (D.kind = 6 ∧ x.state = 3) → W.call Try.prog 130 #[.pointer (some ⟨g, i * 5 + 4, none⟩), .int .i64 j, .int .i64 st, .func (.func 131) #[] #[]] (true, []) (fun _ => W.ret R (.int .i64 0)) s0 := by
      intro j x hj hx hu
      refine W.call_of (c_placeF h.has hp hx ht (by omega) st) ?_
      rintro _ s3 ⟨rfl, ps', h3, he, st3⟩
      refine ⟨(), rfl, ?_⟩
      have hTurn : keyTurn S i p.T D st = .ok ⟨S.version, S.last, S.tabs.set i { p.T with keys := placed p.T.keys j st (x.put st) }⟩ := by
        unfold keyTurn
        rw [if_neg hadd, hj, if_neg (by omega)]
        simp only [Int.toNat_natCast, hx]
        rw [if_neg hu]
      obtain ⟨hG, hS⟩ := h.then (S' := ⟨S.version, S.last, S.tabs.set i { p.T with keys := placed p.T.keys j st (x.put st) }⟩) (Mod.refl _ _) h.cell h3 st3 (by dsimp only; rw [he, h.eq])
      rw [← hR, hTurn]
      exact ⟨rfl, t, ps', hG, hS⟩
    refine ⟨fun h4 => ?_, fun h4 => ⟨hneg, fun hn => ?_⟩⟩
    · have h4 : D.kind = 6 := by simpa using h4
      have hn : ¬ keyAt p.T D.name < 0 := fun e => hadd ⟨h4, e⟩
      obtain ⟨j, x, hj, hx⟩ := hpos hn
      have hjl := (List.getElem?_eq_some_iff.1 hx).1
      simp only [W.unSome_some]
      refine ld_has (j := 4) hA (cs := [.slice]) (y := (p.k, ())) rfl ?_
      rw [hj]
      refine ⟨by show (0 : Int) ≤ j ∧ (j : Int) < (p.k.2.1 : Nat); omega, ?_⟩
      obtain ⟨ad, had, hh⟩ := hP.k.el.at_enc hx
      rw [had]
      simp only [W.unSome_some, Int.toNat_natCast]
      refine ld_has (j := 4) hh (cs := [.int .i64]) (y := (x.state, ())) rfl ?_
      simp only [W.br_iff, decide_eq_true_eq, decide_eq_false_iff_not, add_mk, W.unSome_some]
      refine ⟨fun h3 => ?_, fun h3 => ⟨fun e => by omega, fun _ => ?_⟩⟩
      · have h3 : x.state = 3 := by simpa using h3
        refine hret ?_ (Mod.refl _ _)
        unfold keyTurn
        rw [if_neg hadd, hj, if_neg (by omega)]
        simp only [Int.toNat_natCast, hx]
        rw [if_pos ⟨h4, h3⟩]
      · have h3 : x.state ≠ 3 := by simpa using h3
        exact fin j x hj hx (fun e => h3 e.2)
    · have h4 : D.kind ≠ 6 := by simpa using h4
      obtain ⟨j, x, hj, hx⟩ := hpos hn
      simp only [W.unSome_some, add_mk, hj]
      exact fin j x hj hx (fun e => h4 e.1)
end
end Go.Proofs.Ythepfbcgpbkbdaa
end
section
set_option linter.unusedVariables false
set_option linter.unusedSimpArgs false
set_option maxHeartbeats 1000000
set_option maxRecDepth 100000
namespace Go.Proofs.Ythepfbcgpbkbdaa
open Fw Go
attribute [-simp] Fw.W.ld_iff Fw.W.st_iff
theorem b_tabs2 {s : PH} {b : Nat} {v l : Int} {a : Option Addr} {n c : Nat} (h : s b = some (.cells #[.int .i64 v, .int .i64 l, .slice a n c] 24 (0, 0))) {K : Den [.slice] → W.T} (hK : K ((a, n, c), ()) s) : W.ld [.slice] ((Addr.mk b 0 none).add 2) K s := by
  have := b_tabs h hK
  simpa only [W.unSome_some] using this
theorem not_t {b : Bool} (h : (!b) = true) : b = false := by cases b <;> simp_all
theorem not_f {b : Bool} (h : (!b) = false) : b = true := by cases b <;> simp_all
theorem all_take {α : Type} {f : α → Bool} {l : List α} {k : Nat} {x : α} (h : l[k]? = some x) : (l.take (k + 1)).all f = ((l.take k).all f && f x) := by
  rw [List.take_add_one, h]; simp
section
variable {s : PH} {b : Nat} {S : Sch} {t : Tri} {ps : List TabP}
/-- a table is put behind the others -/
theorem Gs.push {s1 : PH} {p : TabP} {K : W.T} {l : Int} (h : Gs s b S t ps) (hb : ps.length ≤ 4294967296) (m1 : Fw.Mod [b] s s1) (hc : s1 b = some (.cells #[.int .i64 S.version, .int .i64 l, .slice t.1 t.2.1 t.2.2] 24 (0, 0)))
    (ho : Own s1 p) (hn : p.L.Nodup) (hf : ∀ g ∈ p.L, s g = none)
    (hK : ∀ s' t' ps', Gs s' b ⟨S.version, l, S.tabs ++ [p.T]⟩ t' ps' → Step (b :: Lof t ps) (b :: Lof t' ps') s s' → K s') {F : Option Addr → Nat → Nat → W.T} (hF : ∀ a' n' c' s', W.st ⟨b, 2, none⟩ [.slice a' n' c'] K s' → F a' n' c' s') :
    W.nw (.cells #[.int .i64 p.T.id, .string p.T.name, .slice p.c.1 p.c.2.1 p.c.2.2, .slice p.x.1 p.x.2.1 p.x.2.2, .slice p.k.1 p.k.2.1 p.k.2.2] 42 (0, 0)) (fun r => W.app 42 5 96 [.int .i64 0, .string ⟨#[]⟩, .slice none 0 0, .slice none 0 0, .slice none 0 0] t.1 t.2.1 t.2.2 (Src.sl (some ⟨r, 0, none⟩) 1) F) s1 := by
  obtain ⟨ta, tn, tc⟩ := t
  have hnb := h.nb
  have hkb : s b ≠ none := by rw [h.cell]; simp
  have hH1 : Has s1 (ta, tn, tc) ps := h.has.mod m1 fun x hx => by simpa using fun e : x = b => hnb (e ▸ hx)
  have hpb : b ∉ p.L := fun e => hkb (hf b e)
  refine hH1.push (p := p) ho hn (fun g hg hg2 => h.has.known g hg2 (hf g hg)) hb ?_
  intro a' c' s2 h2 st2
  have hLb : b ∉ Lof (a', tn + 1, c') (ps ++ [p]) := fun e => by
    rcases st2.new b e with e | e
    · rcases List.mem_append.1 e with e | e
      · exact hnb e
      · exact hpb e
    · rw [hc] at e; cases e
  have hc2 := st2.mod.at hc (fun e => by
    rcases List.mem_append.1 e with e | e
    · exact hnb e
    · exact hpb e)
  refine hF _ _ _ _ ?_
  rw [W.st_at hc2]
  refine ⟨by simp, by simp, by simp [Value.oneCell'], ?_⟩
  have m3 : Fw.Mod [b] s2 (s2.upd b (.cells (setL #[.int .i64 S.version, .int .i64 l, .slice ta tn tc] 2 [.slice a' (tn + 1) c']) 24 (0, 0))) := Mod.upd (by simp)
  have hc3 : (s2.upd b (.cells (setL #[.int .i64 S.version, .int .i64 l, .slice ta tn tc] 2 [.slice a' (tn + 1) c']) 24 (0, 0))) b = some (.cells #[.int .i64 S.version, .int .i64 l, .slice a' (tn + 1) c'] 24 (0, 0)) := PH.upd_same _ _ _
  have hH3 := h2.mod m3 fun x hx => by simpa using fun e : x = b => hLb (e ▸ hx)
  refine hK _ (a', tn + 1, c') (ps ++ [p]) ⟨hc3, hH3, hLb, by simp [h.eq]⟩ ⟨?_, ?_⟩
  · have e2 : Fw.Mod (b :: Lof (ta, tn, tc) ps) s s2 := by
      refine (m1.mono (by simp)).fresh st2.mod fun x hx => ?_
      rcases List.mem_append.1 hx with e | e
      · exact .inl (List.mem_cons_of_mem _ e)
      · exact .inr (hf x e)
    exact e2.trans (m3.mono (by simp))
  · intro x hx
    rcases List.mem_cons.1 hx with rfl | hx
    · exact .inl (by simp)
    · rcases st2.new x hx with e | e
      · rcases List.mem_append.1 e with e | e
        · exact .inl (List.mem_cons_of_mem _ e)
        · exact .inr (hf x e)
      · by_cases hxb : x = b
        · exact .inl (by simp [hxb])
        · exact .inr (m1.none e (by simpa using hxb))
theorem c_create {s00 : PH} (h : Gs s b S t ps) (hb : S.Bd) (D : Ddl) {u : Tri} (hu0 : Sl colE s00 u D.cols) (m00 : Fw.Mod [] s00 s) (hb0 : s00 b = none) (hul : D.cols.length ≤ 1073741824) (st : Int) :
    DCalls Try.prog 77 #[cp b, ddlV D u, .int .i64 st, .int .i64 (tabAt S D.table)] s (OutG b (createTurn S D st) (Lof t ps) s) := by
  obtain ⟨ua, un, uc⟩ := u
  refine ok_create b D.kind D.table D.name D.column D.parent D.unique D.type D.dflt.kind D.dflt.n D.dflt.s ua un uc st (tabAt S D.table) _ s ?_
  unfold vc_create
  have hu := hu0.mono m00.le
  have hun : un = D.cols.length := hu.len
  have htn : t.2.1 = ps.length := h.has.row.len
  have hpl : S.tabs.length = ps.length := by rw [h.eq]; simp
  have hcell := h.cell
  obtain ⟨R, hR⟩ : ∃ R, OutG b (createTurn S D st) (Lof t ps) s = R := ⟨_, rfl⟩
  have hret : ∀ {e : Int}, createTurn S D st = .error e → R (.int .i64 e) s := fun e1 => by
    rw [← hR, e1]; exact ⟨rfl, Mod.refl _ _⟩
  rw [hR]
  have hlast := hb.last
  simp only [RP_join, RP_ite, RP_call, RP_callQ, RP_ret, RP_nw, RP_app, RP_st, RP_ld, RP_unSome, RP_guard, RP_loop, RP_still, RP_clr, RP_look, RP_mset, W.unSome_some]
  refine callq ((named D.table, ()), ()) (c_named D.table s) rfl ?_
  refine ⟨fun z s' => ∃ k : Nat, z = ((D.kind, D.table, D.name, D.column, D.parent, D.unique, D.type, D.dflt.kind, D.dflt.n, D.dflt.s, (ua, un, uc), ()), (named D.table && (D.cols.take k).all (fun c => named c.name), ()), ((D.cols.take k).all (fun c => typed c.kind), ()), ((ua, un, uc), ()), ((un : Int), ()), ((k : Int), ()), ()) ∧ k ≤ un ∧ s' = s,
    fun z _ => un - z.2.2.2.2.2.1.1.toNat, ⟨0, by simp, Nat.zero_le _, rfl⟩, ?_⟩
  rintro _ s0 ⟨k, rfl, hk, rfl⟩
  simp only [W.br_iff, decide_eq_true_eq, decide_eq_false_iff_not]
  refine ⟨fun hlt => ?_, fun hge => ?_⟩
  · have hlt : k < un := by omega
    obtain ⟨x, hx⟩ : ∃ x, D.cols[k]? = some x := ⟨_, List.getElem?_eq_getElem (by omega)⟩
    obtain ⟨ad, had, hh⟩ := hu.el.at_enc hx
    dsimp only at had
    subst had
    have hw := wrap_succ (k := k) (by omega)
    have hm : un - (k + 1) < un - k := by omega
    refine ⟨by omega, ?_⟩
    simp only [W.unSome_some, Int.toNat_natCast, hw]
    refine ld_has_z hh (y := (x.id, x.name, x.kind, x.state, x.dflt.kind, x.dflt.n, x.dflt.s, ())) rfl ?_
    have e1 := all_take (f := fun c : Col => named c.name) hx
    have e2 := all_take (f := fun c : Col => typed c.kind) hx
    generalize (D.cols.take k).all (fun c => named c.name) = N at e1 ⊢
    generalize (D.cols.take k).all (fun c => typed c.kind) = Q at e2 ⊢
    simp only [W.br_iff]
    refine ⟨fun hN => ?_, fun hN => ?_⟩
    · refine callq ((named x.name, ()), ()) (c_named x.name _) rfl ?_
      simp only [W.br_iff]
      refine ⟨fun hQ => ?_, fun hQ => ?_⟩
      · refine callq ((typed x.kind, ()), ()) (c_kind x.kind _) rfl ?_
        refine ⟨⟨k + 1, ?_, hlt, by trivial⟩, hm⟩
        rw [e1, e2, ← Bool.and_assoc, hN, hQ]; (first | done | rfl)
      · refine ⟨⟨k + 1, ?_, hlt, by trivial⟩, hm⟩
        rw [e1, e2, ← Bool.and_assoc, hN, hQ]; (first | done | rfl)
    · refine ⟨fun hQ => ?_, fun hQ => ?_⟩
      · refine callq ((typed x.kind, ()), ()) (c_kind x.kind _) rfl ?_
        refine ⟨⟨k + 1, ?_, hlt, by trivial⟩, hm⟩
        rw [e1, e2, ← Bool.and_assoc, hN, hQ]; (first | done | rfl)
      · refine ⟨⟨k + 1, ?_, hlt, by trivial⟩, hm⟩
        rw [e1, e2, ← Bool.and_assoc, hN, hQ]; (first | done | rfl)
  have hall : D.cols.take k = D.cols := List.take_of_length_le (by omega)
  rw [hall]
  refine W.join_gen (fun z s' => z = ((D.kind, D.table, D.name, D.column, D.parent, D.unique, D.type, D.dflt.kind, D.dflt.n, D.dflt.s, (ua, un, uc), ()), ()) ∧ s' = s0 ∧
    createTurn S D st = .ok ⟨S.version, S.last + 1 + D.cols.length, S.tabs ++ [⟨S.last + 1, D.table, mkCols (S.last + 2) D.cols, [], []⟩]⟩ ∧ D.cols.length ≤ 8) ?_ ?_
  rotate_left
  · intro J hJ
    simp only [W.br_iff]
    refine ⟨fun hN => hret ?_, fun hN => ?_⟩
    · unfold createTurn
      rw [if_pos (not_t hN)]
    have hN : ¬ (named D.table && D.cols.all fun c => named c.name) = false := by rw [not_f hN]; simp
    refine W.join_gen (fun z s' => z = ((D.kind, D.table, D.name, D.column, D.parent, D.unique, D.type, D.dflt.kind, D.dflt.n, D.dflt.s, (ua, un, uc), ()), (D.cols.all (fun c => typed c.kind), ()), ((decide (0 ≤ tabAt S D.table) || dbl D.cols), ()), ()) ∧ s' = s0) ?_ ?_
    rotate_left
    · intro J2 hJ2
      simp only [W.br_iff, decide_eq_true_eq, decide_eq_false_iff_not]
      refine ⟨fun h1 => hJ2 _ _ ⟨by rw [decide_eq_true (p := 0 ≤ tabAt S D.table) h1]; (first | done | rfl), rfl⟩, fun h1 => ?_⟩
      refine callq ((dbl D.cols, ()), ()) (c_doubled (t := (ua, un, uc)) hu) rfl ?_
      exact hJ2 _ _ ⟨by rw [decide_eq_false (p := 0 ≤ tabAt S D.table) h1]; (first | done | rfl), rfl⟩
    rintro _ s1 ⟨rfl, rfl⟩
    simp only [W.br_iff]
    refine ⟨fun h1 => hret (by unfold createTurn; rw [if_neg hN, if_pos h1]), fun h1 => ?_⟩
    have h1 : ¬ (decide (0 ≤ tabAt S D.table) || dbl D.cols) = true := by rw [h1]; simp
    refine b_tabs hcell ?_
    have hbad : (6 ≤ S.tabs.length ∨ D.cols.length < 1 ∨ 8 < D.cols.length) → createTurn S D st = .error 156 := fun e => by
      unfold createTurn; rw [if_neg hN, if_neg h1, if_pos (by simp only [Bool.or_eq_true, decide_eq_true_eq]; exact e)]
    simp only [W.br_iff, decide_eq_true_eq, decide_eq_false_iff_not]
    refine ⟨fun h2 => hret (hbad ?_), fun h2 => ⟨fun h3 => hret (hbad (by omega)), fun h3 => ⟨fun h4 => hret (hbad (by omega)), fun h4 => ?_⟩⟩⟩
    · have h2 : ((t.2.1 : Nat) : Int) = 6 := by simpa using h2
      omega
    have h2 : ((t.2.1 : Nat) : Int) ≠ 6 := by simpa using h2
    have ht6 := hb.tabs
    have hok : ¬ (decide (6 ≤ S.tabs.length) || (decide (D.cols.length < 1) || decide (8 < D.cols.length))) = true := by
      simp only [Bool.or_eq_true, decide_eq_true_eq]; omega
    refine ⟨fun h5 => hret (by unfold createTurn; rw [if_neg hN, if_neg h1, if_neg hok, if_pos (not_t h5)]), fun h5 => ?_⟩
    have h5 : ¬ (D.cols.all fun c => typed c.kind) = false := by rw [not_f h5]; simp
    refine ⟨fun h6 => hret (by unfold createTurn; rw [if_neg hN, if_neg h1, if_neg hok, if_neg h5, if_pos (by simpa using h6)]), fun h6 => hJ _ _ ⟨rfl, rfl, ?_, by omega⟩⟩
    unfold createTurn; rw [if_neg hN, if_neg h1, if_neg hok, if_neg h5, if_neg (by simpa using h6)]
  rintro _ s1 ⟨rfl, rfl, hTurn, h8⟩
  have hnb := h.nb
  have hkb : s1 b ≠ none := by rw [hcell]; simp
  refine b_bump hcell (wrap_in (by omega) (by omega)) fun s2 m2 c2 => ?_
  refine b_last c2 ?_
  refine ⟨fun z s' => ∃ (k : Nat) (a : Option Addr) (n c : Nat), z = ((S.last + 1, D.table, (a, n, c), (none, 0, 0), (none, 0, 0), ()), ((ua, un, uc), ()), ((un : Int), ()), ((k : Int), ()), ()) ∧ k ≤ un ∧ rowE colE s' 44 a n c (mkCols (S.last + 2) (D.cols.take k)) ∧ (∀ g ∈ Fw.blk a, s1 g = none) ∧
    Fw.Mod [b] s1 s' ∧ s' b = some (.cells #[.int .i64 S.version, .int .i64 (S.last + 1 + k), .slice t.1 t.2.1 t.2.2] 24 (0, 0)), fun z _ => un - z.2.2.2.1.1.toNat, ⟨0, none, 0, 0, rfl, Nat.zero_le _, rowE.nil, by simp [Fw.blk], m2, by simpa using c2⟩, ?_⟩
  rintro _ s3 ⟨k, a, n, c, rfl, hk, hrow, hfr, m3, c3⟩
  simp only [W.br_iff, decide_eq_true_eq, decide_eq_false_iff_not]
  refine ⟨fun hlt => ?_, fun hge => ?_⟩
  · have hlt : k < un := by omega
    obtain ⟨x, hx⟩ : ∃ x, D.cols[k]? = some x := ⟨_, List.getElem?_eq_getElem (by omega)⟩
    have hw := wrap_succ (k := k) (by omega)
    have hm : un - (k + 1) < un - k := by omega
    have hmb : ∀ g ∈ Fw.blk a, g ≠ b := fun g hg e => hkb (by rw [← e]; exact hfr g hg)
    have hn : n = k := by have := hrow.len; rw [mkCols_len, List.length_take] at this; omega
    refine ⟨by omega, ?_⟩
    have hu3 := hu0.mono (m00.fresh m3 (by simp [hb0])).le
    obtain ⟨ad, had, hh⟩ := hu3.el.at_enc hx
    dsimp only at had
    subst had
    simp only [W.unSome_some, Int.toNat_natCast, hw]
    refine ld_has_z hh (y := (x.id, x.name, x.kind, x.state, x.dflt.kind, x.dflt.n, x.dflt.s, ())) rfl ?_
    refine b_bump c3 (wrap_in (by omega) (by omega)) fun s4 m4 c4 => ?_
    refine b_last c4 ?_
    have hrow4 := hrow.mod m4 (fun g hg => by simpa using hmb g hg)
    refine W.nw_of fun r s5 hr m5 k5 => ?_
    have hmax : maxLen = 9223372036854775807 := rfl
    refine app_rowE (hrow4.mod m5 (by simp)) rfl (ys := [⟨S.last + 1 + k + 1, x.name, x.kind, 3, ⟨0, 0, ⟨#[]⟩⟩⟩]) (k := 1) (src_has (by have := has_block k5; simpa [colE] using this) rfl) rfl rfl (by omega) (by omega) ?_
    intro a' c' s6 h' hm6
    have m35 : Fw.Mod [b] s1 s5 := (m3.trans m4).trans (m5.mono (by simp))
    have hsnoc : mkCols (S.last + 2) (D.cols.take (k + 1)) = mkCols (S.last + 2) (D.cols.take k) ++ [⟨S.last + 1 + k + 1, x.name, x.kind, 3, ⟨0, 0, ⟨#[]⟩⟩⟩] := by
      have : D.cols.take (k + 1) = D.cols.take k ++ [x] := by rw [List.take_add_one, hx]; (first | done | rfl)
      rw [this, mkCols_snoc, List.length_take, Nat.min_eq_left (by omega)]
      congr 3; omega
    have hc5 := m5.at c4 (by simp)
    have hnba : b ∉ Fw.blk a := fun e => hmb b e rfl
    refine ⟨⟨k + 1, a', n + 1, c', rfl, hlt, by rw [hsnoc]; exact h', ?_, ?_, ?_⟩, hm⟩
    · rcases hm6 with ⟨e, _⟩ | ⟨g, e, hg, _⟩
      · rw [e]; exact hfr
      · rw [e]
        intro g' hg'
        have : g' = g := by simpa [Fw.blk] using hg'
        subst this
        by_cases e2 : g' = b
        · subst e2; rw [hc5] at hg; cases hg
        · exact m35.none hg (by simpa using e2)
    · rcases hm6 with ⟨_, hm6⟩ | ⟨_, _, _, hm6⟩
      · exact m35.fresh hm6 fun x hx => .inr (hfr x hx)
      · exact m35.trans (hm6.mono (by simp))
    · have := (show s6 b = _ from by
        rcases hm6 with ⟨_, hm6⟩ | ⟨_, _, _, hm6⟩
        · exact hm6.at hc5 hnba
        · exact hm6.at hc5 (by simp))
      rw [this, show S.last + 1 + (k : Int) + 1 = S.last + 1 + ((k + 1 : Nat) : Int) by omega]
  · have hall : D.cols.take k = D.cols := List.take_of_length_le (by omega)
    rw [hall] at hrow
    refine b_tabs c3 ?_
    refine h.push (p := ⟨⟨S.last + 1, D.table, mkCols (S.last + 2) D.cols, [], []⟩, (a, n, c), noTri, noTri⟩) (by have := hb.tabs; omega) m3 c3 ⟨hrow, rowE.nil, rowE.nil⟩ ?_ ?_ ?_ (fun a' n' c' s' hst => by simp only [W.unSome_some, add_mk, Nat.zero_add]; exact hst)
    · simpa [TabP.L, Fw.blk] using blk_nodup a
    · intro g hg
      refine hfr g ?_
      simpa [TabP.L, Fw.blk] using hg
    · intro s' t' ps' hG hS
      have hkl : (k : Int) = D.cols.length := by omega
      rw [← hR, hTurn]
      refine ⟨rfl, t', ps', ?_, hS⟩
      rw [hkl] at hG
      exact hG
theorem c_turn {s00 : PH} (h : Gs s b S t ps) (hb : S.Bd) (D : Ddl) {u : Tri} (hu0 : Sl colE s00 u D.cols) (m00 : Fw.Mod [] s00 s) (hb0 : s00 b = none) (hul : D.cols.length ≤ 1073741824) (st : Int) :
    DCalls Try.prog 39 #[cp b, ddlV D u, .int .i64 st] s (OutG b (turn1 S D st) (Lof t ps) s) := by
  obtain ⟨ua, un, uc⟩ := u
  refine ok_turn b D.kind D.table D.name D.column D.parent D.unique D.type D.dflt.kind D.dflt.n D.dflt.s ua un uc st _ s ?_
  unfold vc_turn
  have hcell := h.cell
  have hSch := h.sch hb
  have hout : ∀ {r : Res} {y s'}, OutG b r (Lof t ps) s y s' → ∃ n, y = .int .i64 n := by
    intro r y s' ho
    cases r with
    | error e => exact ⟨e, ho.1⟩
    | ok S' => exact ⟨0, ho.1⟩
  simp only [RP_join, RP_ite, RP_call, RP_callQ, RP_ret, RP_nw, RP_app, RP_st, RP_ld, RP_unSome, RP_guard, RP_loop, RP_still, RP_clr, RP_look, RP_mset, W.unSome_some]
  refine b_tabs2 hcell ?_
  refine W.callQ_of ((tabAt S D.table, ()), ()) (c_findT' hSch D.table) rfl ?_
  simp only [W.br_iff, decide_eq_true_eq, decide_eq_false_iff_not]
  refine ⟨fun h1 => ?_, fun h1 => ⟨fun h2 => ?_, fun h2 => ?_⟩⟩
  · have h1 : D.kind = 1 := by simpa using h1
    refine W.call_of (c_create h hb D hu0 m00 hb0 hul st) ?_
    intro y s' ho
    obtain ⟨n, rfl⟩ := hout ho
    refine ⟨((n, ()), ()), rfl, ?_⟩
    show OutG b (turn1 S D st) (Lof t ps) s (.int .i64 n) s'
    unfold turn1; rw [if_pos h1]; exact ho
  · have h1 : D.kind ≠ 1 := by simpa using h1
    show OutG b (turn1 S D st) (Lof t ps) s (.int .i64 150) s
    unfold turn1; rw [if_neg h1, if_pos h2]; exact ⟨rfl, Mod.refl _ _⟩
  have h1 : D.kind ≠ 1 := by simpa using h1
  obtain ⟨i, T, hi, hT, _⟩ := (seek_cases (fun T : Tab => decide (T.name = D.table)) S.tabs).resolve_left (fun e => by have := e.1; unfold tabAt at h2; omega)
  have hi : tabAt S D.table = (i : Int) := hi
  obtain ⟨p, hp, rfl⟩ : ∃ p, ps[i]? = some p ∧ p.T = T := by
    rw [h.eq, List.getElem?_map] at hT
    cases hq : ps[i]? with
    | none => rw [hq] at hT; cases hT
    | some pp => rw [hq] at hT; exact ⟨pp, rfl, Option.some.inj hT⟩
  obtain ⟨g, ht, _⟩ := h.has.row.at hp
  have htn : t.2.1 = ps.length := h.has.row.len
  have hil := (List.getElem?_eq_some_iff.1 hp).1
  have hTurn : turn1 S D st = if D.kind = 4 ∨ D.kind = 5 then colTurn S i p.T D st else if D.kind = 2 ∨ D.kind = 3 then idxTurn S i p.T D st else keyTurn S i p.T D st := by
    unfold turn1
    rw [if_neg h1, if_neg h2, hi]
    simp only [Int.toNat_natCast, hT]
  refine b_tabs hcell ?_
  rw [hi]
  refine ⟨by show (0 : Int) ≤ i ∧ (i : Int) < (t.2.1 : Nat); omega, ?_⟩
  dsimp only
  rw [ht]
  simp only [W.unSome_some, add_mk, Nat.zero_add, Int.toNat_natCast]
  refine W.join_gen (fun z s' => z = ((D.kind, D.table, D.name, D.column, D.parent, D.unique, D.type, D.dflt.kind, D.dflt.n, D.dflt.s, (ua, un, uc), ()), (some (Addr.mk g (i * 5) none), ()), (D.kind, ()), (decide (D.kind = 4 ∨ D.kind = 5), ()), ()) ∧ s' = s) ?_ ?_
  rotate_left
  · intro J hJ
    simp only [W.br_iff]
    refine ⟨fun h4 => hJ _ _ ⟨?_, rfl⟩, fun h4 => hJ _ _ ⟨?_, rfl⟩⟩
    · have h4 : D.kind = 4 := by simpa using h4
      simp [h4]
    · have h4 : D.kind ≠ 4 := by simpa using h4
      simp [h4, beq_dec]
  rintro _ s0 ⟨rfl, rfl⟩
  simp only [W.br_iff, decide_eq_true_eq, decide_eq_false_iff_not]
  refine ⟨fun h4 => ?_, fun h4 => ?_⟩
  · rw [if_pos h4] at hTurn
    refine W.call_of (c_columns h hb hp ht D (ua, un, uc) st) ?_
    intro y s' ho
    obtain ⟨n, rfl⟩ := hout ho
    refine ⟨((n, ()), ()), rfl, ?_⟩
    rw [← hTurn] at ho
    exact ho
  rw [if_neg h4] at hTurn
  refine ⟨fun h5 => ?_, fun h5 => ?_⟩
  · have h5 : D.kind = 2 := by simpa using h5
    rw [if_pos (.inl h5)] at hTurn
    refine W.call_of (c_indexes h hb hp ht D (ua, un, uc) st) ?_
    intro y s' ho
    obtain ⟨n, rfl⟩ := hout ho
    refine ⟨((n, ()), ()), rfl, ?_⟩
    rw [← hTurn] at ho
    exact ho
  have h5 : D.kind ≠ 2 := by simpa using h5
  refine ⟨fun h6 => ?_, fun h6 => ?_⟩
  · have h6 : D.kind = 3 := by simpa using h6
    rw [if_pos (.inr h6)] at hTurn
    refine W.call_of (c_indexes h hb hp ht D (ua, un, uc) st) ?_
    intro y s' ho
    obtain ⟨n, rfl⟩ := hout ho
    refine ⟨((n, ()), ()), rfl, ?_⟩
    rw [← hTurn] at ho
    exact ho
  have h6 : D.kind ≠ 3 := by simpa using h6
  rw [if_neg (fun e => Or.elim e h5 h6)] at hTurn
  refine W.call_of (c_foreigns h hb hp ht D (ua, un, uc) st) ?_
  intro y s' ho
  obtain ⟨n, rfl⟩ := hout ho
  refine ⟨((n, ()), ()), rfl, ?_⟩
  rw [← hTurn] at ho
  exact ho
end
theorem right_bd {S : Sch} (h : right S = true) : S.Bd ∧ 0 ≤ S.version ∧ S.version ≤ 1125899906842624 := by
  obtain ⟨a, b, c, d, e⟩ := right_iff.1 h
  unfold headB at a
  simp only [Bool.and_eq_true, decide_eq_true_eq] at a
  refine ⟨⟨b, fun T hT => ?_, a.2.2.1, a.2.2.2⟩, a.1, a.2.1⟩
  obtain ⟨i, hi⟩ := List.mem_iff_getElem?.1 hT
  obtain ⟨x1, x2, x3, x4, _⟩ := tabB_iff.1 (allI_iff.1 d i T hi)
  exact ⟨x1, x2, x3, x4⟩
/-- what a change gives, in memory: a schema of its own, all new -/
def Gives (s : PH) (S' : Sch) (e : Int) (y : Value) (s' : PH) : Prop :=
  ∃ t' ps', y = .tuple #[schV S' t', .int .i64 e] ∧ Has s' t' ps' ∧ S'.tabs = ps'.map (·.T) ∧ Fw.Mod [] s s' ∧ ∀ g ∈ Lof t' ps', s g = none
theorem gives_no {s s' : PH} {e : Int} (m : Fw.Mod [] s s') : Gives s noSch e (.tuple #[schV noSch noTri, .int .i64 e]) s' := ⟨noTri, [], rfl, Has.nil _, rfl, m, by simp [Lof, Fw.blk]⟩
theorem c_Turn {s : PH} {t : Tri} {S : Sch} {ps : List TabP} (h : SchIs s t S ps) (D : Ddl) {u : Tri} (hu : Sl colE s u D.cols) (hul : D.cols.length ≤ 1073741824) (st : Int) :
    DCalls Try.prog 14 #[schV S t, ddlV D u, .int .i64 st] s (Gives s (S.turn D st).1 (S.turn D st).2) := by
  obtain ⟨ua, un, uc⟩ := u
  obtain ⟨ta, tn, tc⟩ := t
  refine ok_Turn S.version S.last ta tn tc D.kind D.table D.name D.column D.parent D.unique D.type D.dflt.kind D.dflt.n D.dflt.s ua un uc st _ s ?_
  unfold vc_Turn
  obtain ⟨R, hR⟩ : ∃ R, Gives s (S.turn D st).1 (S.turn D st).2 = R := ⟨_, rfl⟩
  rw [hR]
  have htn : tn = ps.length := h.el.len
  simp only [RP_join, RP_ite, RP_call, RP_callQ, RP_ret, RP_nw, RP_app, RP_st, RP_ld, RP_unSome, RP_guard, RP_loop, RP_still, RP_clr, RP_look, RP_mset, W.unSome_some]
  refine W.join_gen (fun z s' => z = ((S.version, S.last, (ta, tn, tc), ()), (D.kind, D.table, D.name, D.column, D.parent, D.unique, D.type, D.dflt.kind, D.dflt.n, D.dflt.s, (ua, un, uc), ()), (0, 0, (none, 0, 0), ()), ()) ∧ s' = s ∧ right S = true ∧ 0 ≤ st ∧ st ≤ 3) ?_ ?_
  rotate_left
  · intro J hJ
    have hbad : ¬ (right S = true ∧ 0 ≤ st ∧ st ≤ 3) → R (.tuple #[schV noSch noTri, .int .i64 100]) s := by
      intro e
      have : S.turn D st = (noSch, 100) := by
        unfold Sch.turn; rw [if_pos]
        cases hr : right S
        · rfl
        · rw [hr] at e
          simp only [Bool.true_and, Bool.and_eq_false_iff, decide_eq_false_iff_not]
          simp only [true_and] at e
          omega
      rw [← hR, this]
      exact gives_no (Mod.refl _ _)
    have hc := c_Check h
    have hE : errS S = if right S = true then 0 else 100 := rfl
    generalize errS S = E at hc hE
    refine callq ((E, ()), ()) hc rfl ?_
    subst hE
    simp only [W.br_iff, decide_eq_true_eq, decide_eq_false_iff_not]
    refine ⟨fun h1 => hbad fun e => by rw [if_pos e.1] at h1; simp at h1, fun h1 => ⟨fun h2 => hbad (by omega), fun h2 => ⟨fun h3 => hbad (by omega), fun h3 => hJ _ _ ⟨rfl, rfl, ?_, by omega, by omega⟩⟩⟩⟩
    cases hr : right S
    · rw [hr] at h1; simp at h1
    · rfl
  rintro _ s0 ⟨rfl, rfl, hr, hst0, hst3⟩
  have hturn0 : S.turn D st = if D.kind < 1 ∨ 7 < D.kind then (noSch, 1) else match turn1 { S with version := S.version + 1 } D st with
      | .error e => (noSch, e)
      | .ok S' => (S', 0) := by
    unfold Sch.turn
    rw [if_neg (by rw [hr, decide_eq_true hst0, decide_eq_true hst3]; simp)]
    first | done | rfl
  refine W.join_gen (fun z s' => z = ((S.version, S.last, (ta, tn, tc), ()), (D.kind, D.table, D.name, D.column, D.parent, D.unique, D.type, D.dflt.kind, D.dflt.n, D.dflt.s, (ua, un, uc), ()), (0, 0, (none, 0, 0), ()), ()) ∧ s' = s0 ∧ ¬ (D.kind < 1 ∨ 7 < D.kind)) ?_ ?_
  rotate_left
  · intro J hJ
    have hbad : (D.kind < 1 ∨ 7 < D.kind) → R (.tuple #[schV noSch noTri, .int .i64 1]) s0 := by
      intro e
      rw [← hR, hturn0, if_pos e]
      exact gives_no (Mod.refl _ _)
    simp only [W.br_iff, decide_eq_true_eq, decide_eq_false_iff_not]
    exact ⟨fun h2 => hbad (by omega), fun h2 => ⟨fun h3 => hbad (by omega), fun h3 => hJ _ _ ⟨rfl, rfl, by omega⟩⟩⟩
  rintro _ s1 ⟨rfl, rfl, hkind⟩
  rw [if_neg hkind] at hturn0
  obtain ⟨hbd, hv0, hv1⟩ := right_bd hr
  have ht6 := hbd.tabs
  have hpl : S.tabs.length = ps.length := by rw [h.eq]; simp
  refine W.nw_of fun r s2 hr0 m2 k2 => ?_
  rw [W.st_at k2]
  refine ⟨by simp, by simp, by simp [Value.oneCell'], ?_⟩
  have k3 : (s2.upd r (.cells (setL #[.int .i64 0, .int .i64 0, .slice none 0 0] 0 [.int .i64 S.version, .int .i64 S.last, .slice ta tn tc]) 24 (0, 0))) r = some (.cells #[.int .i64 S.version, .int .i64 S.last, .slice ta tn tc] 24 (0, 0)) := PH.upd_same _ _ _
  have m3 : Fw.Mod [] s1 (s2.upd r (.cells (setL #[.int .i64 0, .int .i64 0, .slice none 0 0] 0 [.int .i64 S.version, .int .i64 S.last, .slice ta tn tc]) 24 (0, 0))) := m2.updLater (.inr hr0)
  generalize s2.upd r (.cells (setL #[.int .i64 0, .int .i64 0, .slice none 0 0] 0 [.int .i64 S.version, .int .i64 S.last, .slice ta tn tc]) 24 (0, 0)) = s3 at k3 m3 ⊢
  simp only [add_mk, Nat.zero_add]
  rw [W.ld_at k3]
  refine ⟨(S.version, ()), by simp, ?_⟩
  have hvw : IntKind.i64.wrap (S.version + 1) = S.version + 1 := wrap_in (by omega) (by omega)
  rw [W.st_at k3]
  refine ⟨by simp, by simp, by simp [Value.oneCell'], ?_⟩
  dsimp only
  rw [hvw]
  have k4 : (s3.upd r (.cells (setL #[.int .i64 S.version, .int .i64 S.last, .slice ta tn tc] 0 [.int .i64 (S.version + 1)]) 24 (0, 0))) r = some (.cells #[.int .i64 (S.version + 1), .int .i64 S.last, .slice ta tn tc] 24 (0, 0)) := PH.upd_same _ _ _
  have m4 : Fw.Mod [] s1 (s3.upd r (.cells (setL #[.int .i64 S.version, .int .i64 S.last, .slice ta tn tc] 0 [.int .i64 (S.version + 1)]) 24 (0, 0))) := m3.updLater (.inr hr0)
  generalize s3.upd r (.cells (setL #[.int .i64 S.version, .int .i64 S.last, .slice ta tn tc] 0 [.int .i64 (S.version + 1)]) 24 (0, 0)) = s4 at k4 m4 ⊢
  rw [W.st_at k4]
  refine ⟨by simp, by simp, by simp [Value.oneCell'], ?_⟩
  have k5 : (s4.upd r (.cells (setL #[.int .i64 (S.version + 1), .int .i64 S.last, .slice ta tn tc] 2 [.slice none 0 0]) 24 (0, 0))) r = some (.cells #[.int .i64 (S.version + 1), .int .i64 S.last, .slice none 0 0] 24 (0, 0)) := PH.upd_same _ _ _
  have m5 : Fw.Mod [] s1 (s4.upd r (.cells (setL #[.int .i64 (S.version + 1), .int .i64 S.last, .slice ta tn tc] 2 [.slice none 0 0]) 24 (0, 0))) := m4.updLater (.inr hr0)
  generalize s4.upd r (.cells (setL #[.int .i64 (S.version + 1), .int .i64 S.last, .slice ta tn tc] 2 [.slice none 0 0]) 24 (0, 0)) = s5 at k5 m5 ⊢
  refine ⟨fun z s' => ∃ (k : Nat) (tc' : Tri) (pc : List TabP), z = ((D.kind, D.table, D.name, D.column, D.parent, D.unique, D.type, D.dflt.kind, D.dflt.n, D.dflt.s, (ua, un, uc), ()), (0, 0, (none, 0, 0), ()), (Addr.mk r 0 none, ()), ((ta, tn, tc), ()), ((tn : Int), ()), ((k : Int), ()), ()) ∧ k ≤ tn ∧
    Gs s' r ⟨S.version + 1, S.last, S.tabs.take k⟩ tc' pc ∧ Fw.Mod [] s1 s' ∧ ∀ g ∈ Lof tc' pc, s1 g = none, fun z _ => tn - z.2.2.2.2.2.1.1.toNat, ⟨0, noTri, [], rfl, Nat.zero_le _, ⟨k5, Has.nil _, by simp [Lof, Fw.blk], rfl⟩, m5, by simp [Lof, Fw.blk]⟩, ?_⟩
  rintro _ s6 ⟨k, tc', pc, rfl, hk, hG, m6, hf⟩
  simp only [W.br_iff, decide_eq_true_eq, decide_eq_false_iff_not]
  refine ⟨fun hlt => ?_, fun hge => ?_⟩
  · have hlt : k < tn := by omega
    obtain ⟨p, hp⟩ : ∃ p, ps[k]? = some p := ⟨_, List.getElem?_eq_getElem (by omega)⟩
    have hT : S.tabs[k]? = some p.T := by rw [h.eq, List.getElem?_map, hp]; (first | done | rfl)
    have hS6 := h.mono m6.le
    obtain ⟨ad, had, hh⟩ := hS6.el.el.at_enc hp
    dsimp only at had
    subst had
    refine ⟨by omega, ?_⟩
    simp only [W.unSome_some, Int.toNat_natCast]
    refine ld_has_z hh (y := (p.T.id, p.T.name, p.c, p.x, p.k, ())) rfl ?_
    refine b_tabs2 hG.cell ?_
    refine W.call_of (c_copied (hS6.all p (get_mem hp))) ?_
    rintro _ s7 ⟨q, rfl, hqT, hqo, m7, hqf, hqn⟩
    refine ⟨((q.T.id, q.T.name, q.c, q.x, q.k, ()), ()), rfl, ?_⟩
    have hG7 := hG.mod m7 (by simp) (by simp)
    simp only [add_mk, Nat.zero_add]
    rw [W.still_at hG7.cell]
    refine ⟨by simp, ?_⟩
    have hpcl : pc.length = k := by
      have := congrArg List.length hG.eq
      simp only [List.length_map, List.length_take] at this
      omega
    have hq7 : ∀ g ∈ q.L, g ∉ Lof tc' pc := fun g hg hg2 => hG.has.known g hg2 (hqf g hg)
    have m67 : Fw.Mod [] s1 s7 := m6.trans m7
    have hpush := Gs.push (s := s6) (s1 := s7) (p := q) (l := S.last) (K := fun s' => (∃ (k' : Nat) (tc'' : Tri) (pc' : List TabP), (((D.kind, D.table, D.name, D.column, D.parent, D.unique, D.type, D.dflt.kind, D.dflt.n, D.dflt.s, (ua, un, uc), ()), (0, 0, (none, 0, 0), ()), (Addr.mk r 0 none, ()), ((some ad, tn, tc), ()), ((tn : Int), ()), (IntKind.i64.wrap ((k : Int) + 1), ()), ()) :
        MDen [(true, [.int .i64, .str, .str, .str, .str, .bool, .int .i64, .int .i64, .int .i64, .str, .slice]), (true, [.int .i64, .int .i64, .slice]), (false, [.addr]), (false, [.slice]), (false, [.int .i64]), (false, [.int .i64])]) =
        ((D.kind, D.table, D.name, D.column, D.parent, D.unique, D.type, D.dflt.kind, D.dflt.n, D.dflt.s, (ua, un, uc), ()), (0, 0, (none, 0, 0), ()), (Addr.mk r 0 none, ()), ((some ad, tn, tc), ()), ((tn : Int), ()), ((k' : Int), ()), ()) ∧ k' ≤ tn ∧
      Gs s' r ⟨S.version + 1, S.last, S.tabs.take k'⟩ tc'' pc' ∧ Fw.Mod [] s1 s' ∧ ∀ g ∈ Lof tc'' pc', s1 g = none) ∧ tn - (IntKind.i64.wrap ((k : Int) + 1)).toNat < tn - ((k : Int)).toNat) hG (by omega) (m7.mono (by simp)) hG7.cell hqo hqn hqf (by
        intro s' t' ps' hG' hS'
        rw [wrap_succ (k := k) (by omega)]
        refine ⟨⟨k + 1, t', ps', rfl, hlt, ?_, ?_, ?_⟩, by simp only [Int.toNat_natCast]; omega⟩
        · have e : S.tabs.take (k + 1) = S.tabs.take k ++ [q.T] := by rw [List.take_add_one, hT, hqT]; (first | done | rfl)
          rw [e]; exact hG'
        · refine m6.fresh hS'.mod fun x hx => ?_
          rcases List.mem_cons.1 hx with rfl | hx
          · exact .inr hr0
          · exact .inr (hf x hx)
        · intro g hg
          rcases hS'.new g (List.mem_cons_of_mem _ hg) with e | e
          · rcases List.mem_cons.1 e with rfl | e
            · exact hr0
            · exact hf g e
          · exact m6.none e (by simp)) (fun a' n' c' s' hst => hst)
    exact hpush
  · have hall : S.tabs.take k = S.tabs := List.take_of_length_le (by omega)
    rw [hall] at hG
    have hbd1 : Sch.Bd ⟨S.version + 1, S.last, S.tabs⟩ := ⟨hbd.tabs, hbd.each, hbd.last⟩
    have hmod : ∀ {s'}, Fw.Mod (r :: Lof tc' pc) s6 s' → Fw.Mod [] s1 s' := fun m => m6.fresh m fun x hx => by
      rcases List.mem_cons.1 hx with rfl | hx
      · exact .inr hr0
      · exact .inr (hf x hx)
    have herr := turn1_err ⟨S.version + 1, S.last, S.tabs⟩ D st
    refine W.call_of (c_turn hG hbd1 D hu m6 hr0 hul st) ?_
    intro y s7 ho
    generalize turn1 ⟨S.version + 1, S.last, S.tabs⟩ D st = res at ho hturn0 herr
    cases res with
    | error e =>
      obtain ⟨rfl, m7⟩ := ho
      refine ⟨((e, ()), ()), rfl, ?_⟩
      have he := herr e rfl
      simp only [W.br_iff]
      refine ⟨fun _ => ?_, fun hz => absurd (by simpa using hz) he⟩
      rw [← hR, hturn0]
      exact gives_no (hmod m7)
    | ok S' =>
      obtain ⟨rfl, t', ps', hG', hS'⟩ := ho
      refine ⟨((0, ()), ()), rfl, ?_⟩
      refine (W.br_iff _ _ _ _).2 ⟨fun hz => by simp at hz, fun _ => ?_⟩
      rw [W.ld_at hG'.cell]
      refine ⟨(S'.version, S'.last, (t'.1, t'.2.1, t'.2.2), ()), by simp, ?_⟩
      rw [← hR, hturn0]
      refine ⟨t', ps', rfl, hG'.has, hG'.eq, hmod hS'.mod, fun g hg => ?_⟩
      rcases hS'.new g (List.mem_cons_of_mem _ hg) with e | e
      · rcases List.mem_cons.1 e with rfl | e
        · exact hr0
        · exact hf g e
      · exact m6.none e (by simp)
end Go.Proofs.Ythepfbcgpbkbdaa
end
section
set_option linter.unusedVariables false
set_option linter.unusedSimpArgs false
set_option maxHeartbeats 1000000
set_option maxRecDepth 100000
namespace Go.Proofs.Ythepfbcgpbkbdaa
open Fw Go
attribute [-simp] Fw.W.ld_iff Fw.W.st_iff
end Go.Proofs.Ythepfbcgpbkbdaa
end
section
set_option linter.unusedVariables false
set_option linter.unusedSimpArgs false
set_option maxHeartbeats 2000000
set_option maxRecDepth 100000
namespace Go.Proofs.Ythepfbcgpbkbdaa
open Fw Go
attribute [-simp] Fw.W.ld_iff Fw.W.st_iff
/-- no state is nothing -/
structure Sch.Sn (S : Sch) : Prop where
  c : ∀ T ∈ S.tabs, ∀ x ∈ T.cols, x.state ≠ 0
  x : ∀ T ∈ S.tabs, ∀ x ∈ T.idxs, x.state ≠ 0
  k : ∀ T ∈ S.tabs, ∀ x ∈ T.keys, x.state ≠ 0
def pos (k : Nat) (st : Int) (j : Nat) : Nat := if st = 0 ∧ k < j then j - 1 else j
theorem placed_len {α : Type} {l : List α} {k : Nat} {st : Int} {x' : α} : (placed l k st x').length ≤ l.length := by
  unfold placed; split
  · rw [List.length_eraseIdx]; split <;> omega
  · rw [List.length_set]; exact Nat.le_refl _
section
variable {s : PH} {S : Sch} {t : Tri} {ps : List TabP} {i : Nat} {p : TabP}
end
end Go.Proofs.Ythepfbcgpbkbdaa
end
section
set_option linter.unusedVariables false
set_option linter.unusedSimpArgs false
set_option maxHeartbeats 1000000
set_option maxRecDepth 100000
namespace Go.Proofs.Ythepfbcgpbkbdaa
open Fw Go
attribute [-simp] Fw.W.ld_iff Fw.W.st_iff
def Res.out (r : Res) : Sch × Int := match r with
  | .error e => (noSch, e)
  | .ok S' => (S', 0)
end Go.Proofs.Ythepfbcgpbkbdaa
end
section
set_option linter.unusedVariables false
set_option linter.unusedSimpArgs false
set_option maxHeartbeats 1000000
set_option maxRecDepth 100000
namespace Go.Proofs.Ythepfbcgpbkbdaa
open Fw Go
theorem named_sm {t : ByteArray} (h : named t = true) : t.size ≤ 281474976710656 := by
  unfold named at h
  simp only [Bool.and_eq_true, decide_eq_true_eq] at h
  omega
theorem valOk_sm {v : Val} (h : valOk v = true) : v.s.size ≤ 281474976710656 := by
  unfold valOk at h
  split at h
  · simp only [Bool.and_eq_true, decide_eq_true_eq] at h
    rw [h.2]; exact Nat.zero_le _
  · split at h
    · simp only [decide_eq_true_eq] at h
      rw [h]; exact Nat.zero_le _
    · split at h
      · simp only [Bool.and_eq_true, decide_eq_true_eq] at h
        omega
      · cases h
theorem fits_sm {v : Val} {k : Int} (h : fits v k = true) : v.s.size ≤ 281474976710656 := by
  unfold fits at h
  simp only [Bool.and_eq_true] at h
  exact valOk_sm h.1
theorem fresh_sm {t : ByteArray} {n : Int} (h : ¬ (freshE t n ≠ 0)) : t.size ≤ 281474976710656 := by
  refine named_sm ?_
  cases hn : named t
  · exact absurd (by unfold freshE; rw [if_pos hn]; decide) h
  · rfl
theorem placed_mem {α : Type} {l : List α} {k : Nat} {st : Int} {x' y : α} (h : y ∈ placed l k st x') : y ∈ l ∨ y = x' := by
  unfold placed at h
  split at h
  · exact .inl (List.mem_of_mem_eraseIdx h)
  · exact List.mem_or_eq_of_mem_set h
theorem placed_le {α : Type} {l : List α} {k : Nat} {st : Int} {x' : α} : (placed l k st x').length ≤ l.length := placed_len
theorem sum_le {α : Type} {f : α → Nat} {b : Nat} : ∀ (l : List α), (∀ x ∈ l, f x ≤ b) → (l.map f).sum ≤ l.length * b
  | [], _ => by simp
  | x :: l, h => by
    have h1 := h x (by simp)
    have h2 := sum_le l fun y hy => h y (by simp [hy])
    simp only [List.map_cons, List.sum_cons, List.length_cons, Nat.succ_mul]
    omega
theorem sm_of {S : Sch} (h : ∀ T ∈ S.tabs, T.Sm ∧ T.cost ≤ 28) (hl : S.tabs.length ≤ 10) : S.Sm := by
  refine ⟨fun T hT => (h T hT).1, ?_⟩
  have := sum_le (f := Tab.cost) (b := 28) S.tabs fun T hT => (h T hT).2
  unfold Sch.cost
  omega
theorem right_sm {S : Sch} (h : right S = true) : ∀ T ∈ S.tabs, T.Sm ∧ T.cost ≤ 25 ∧ T.cols.length ≤ 8 ∧ T.idxs.length ≤ 8 ∧ T.keys.length ≤ 8 := by
  obtain ⟨a, b, c, d, e⟩ := right_iff.1 h
  intro T hT
  obtain ⟨i, hi⟩ := List.mem_iff_getElem?.1 hT
  obtain ⟨l1, l2, l3, l4, n1, n2, n3, _, c1, _, _⟩ := tabB_iff.1 (allI_iff.1 d i T hi)
  have hn := allI_iff.1 c i T hi
  unfold nameT at hn
  simp only [Bool.and_eq_true] at hn
  refine ⟨⟨named_sm hn.1, fun x hx => ?_, fun x hx => ?_, fun x hx => ?_⟩, by unfold Tab.cost; omega, l2, l3, l4⟩
  · obtain ⟨j, hj⟩ := List.mem_iff_getElem?.1 hx
    have g1 := allI_iff.1 n1 j x hj
    have g2 := allI_iff.1 c1 j x hj
    unfold nameC at g1
    unfold colB at g2
    simp only [Bool.and_eq_true] at g1 g2
    exact ⟨named_sm g1.1, fits_sm g2.2.2⟩
  · obtain ⟨j, hj⟩ := List.mem_iff_getElem?.1 hx
    have g1 := allI_iff.1 n2 j x hj
    unfold nameX at g1
    simp only [Bool.and_eq_true] at g1
    exact named_sm g1.1
  · obtain ⟨j, hj⟩ := List.mem_iff_getElem?.1 hx
    have g1 := allI_iff.1 n3 j x hj
    unfold nameF at g1
    simp only [Bool.and_eq_true] at g1
    exact named_sm g1.1
theorem mkCols_sm : ∀ (l : List Col) (n : Int), (∀ c ∈ l, c.name.size ≤ 281474976710656) → ∀ c ∈ mkCols n l, c.Sm
  | [], n, _ => by simp [mkCols]
  | d :: l, n, h => by
    intro c hc
    simp only [mkCols, List.mem_cons] at hc
    rcases hc with rfl | hc
    · exact ⟨h d (by simp), Nat.zero_le _⟩
    · exact mkCols_sm l _ (fun x hx => h x (by simp [hx])) c hc
def Res.SmOk (r : Res) : Prop := ∀ S', r = .ok S' → S'.Sm
theorem smo_ite {c : Prop} [Decidable c] {a b : Res} (ha : c → a.SmOk) (hb : ¬ c → b.SmOk) : Res.SmOk (if c then a else b) := by
  by_cases h : c
  · rw [if_pos h]; exact ha h
  · rw [if_neg h]; exact hb h
theorem smo_e {e : Int} : Res.SmOk (.error e) := fun S' h' => by cases h'
theorem smo_o {S : Sch} (h : S.Sm) : Res.SmOk (.ok S) := fun e' h' => by cases h'; exact h
theorem set_sm {S : Sch} {v l : Int} {i : Nat} {T T' : Tab} (h : ∀ T ∈ S.tabs, T.Sm ∧ T.cost ≤ 25 ∧ T.cols.length ≤ 8 ∧ T.idxs.length ≤ 8 ∧ T.keys.length ≤ 8) (hl : S.tabs.length ≤ 6) (h1 : T'.Sm) (h2 : T'.cost ≤ 28) : Sch.Sm ⟨v, l, S.tabs.set i T'⟩ := by
  refine sm_of (fun U hU => ?_) (by simp; omega)
  rcases List.mem_or_eq_of_mem_set hU with hU | rfl
  · obtain ⟨a, b, _⟩ := h U hU; exact ⟨a, by omega⟩
  · exact ⟨h1, h2⟩
theorem turn1_sm {S : Sch} {D : Ddl} {st : Int} (h : ∀ T ∈ S.tabs, T.Sm ∧ T.cost ≤ 25 ∧ T.cols.length ≤ 8 ∧ T.idxs.length ≤ 8 ∧ T.keys.length ≤ 8) (hl : S.tabs.length ≤ 6) : (turn1 S D st).SmOk := by
  unfold turn1
  refine smo_ite (fun _ => ?_) fun _ => smo_ite (fun _ => smo_e) fun _ => ?_
  · unfold createTurn
    refine smo_ite (fun _ => smo_e) fun hn => smo_ite (fun _ => smo_e) fun _ => smo_ite (fun _ => smo_e) fun h8 => smo_ite (fun _ => smo_e) fun _ => smo_ite (fun _ => smo_e) fun _ => smo_o ?_
    have hn : (named D.table && D.cols.all fun c => named c.name) = true := by
      cases e : (named D.table && D.cols.all fun c => named c.name)
      · exact absurd e hn
      · rfl
    simp only [Bool.and_eq_true, List.all_eq_true] at hn
    simp only [Bool.or_eq_true, decide_eq_true_eq] at h8
    refine sm_of (fun U hU => ?_) (by simp; omega)
    rcases List.mem_append.1 hU with hU | hU
    · obtain ⟨a, b, _⟩ := h U hU; exact ⟨a, by omega⟩
    · have : U = ⟨S.last + 1, D.table, mkCols (S.last + 2) D.cols, [], []⟩ := by simpa using hU
      subst this
      refine ⟨⟨named_sm hn.1, mkCols_sm _ _ fun c hc => named_sm (hn.2 c hc), by simp, by simp⟩, ?_⟩
      unfold Tab.cost
      simp only [mkCols_len, List.length_nil]
      omega
  split
  · exact smo_e
  rename_i T hT
  obtain ⟨hTs, hTc, c8, x8, k8⟩ := h T (List.mem_of_getElem? hT)
  refine smo_ite (fun _ => ?_) fun _ => smo_ite (fun _ => ?_) fun _ => ?_
  · unfold colTurn
    refine smo_ite (fun _ => smo_ite (fun _ => smo_e) fun hf => smo_ite (fun _ => smo_e) fun hk => smo_ite (fun _ => smo_e) fun _ => smo_o ?_) fun _ => smo_ite (fun _ => smo_e) fun _ => ?_
    · have hk : (typed D.type && fits D.dflt D.type) = true := by
        cases e : (typed D.type && fits D.dflt D.type)
        · exact absurd e hk
        · rfl
      simp only [Bool.and_eq_true] at hk
      refine set_sm (T := T) h hl ⟨hTs.name, fun x hx => ?_, hTs.idxs, hTs.keys⟩ (by unfold Tab.cost; simp only [List.length_append, List.length_singleton]; omega)
      rcases List.mem_append.1 hx with hx | hx
      · exact hTs.cols x hx
      · have : x = ⟨S.last + 1, D.column, D.type, st, D.dflt⟩ := by simpa using hx
        subst this
        exact ⟨fresh_sm hf, fits_sm hk.2⟩
    · split
      · exact smo_e
      rename_i x hx
      refine smo_ite (fun _ => smo_e) fun _ => smo_ite (fun _ => smo_e) fun _ => smo_o ?_
      have hp := placed_le (l := T.cols) (k := (colAt T D.column).toNat) (st := st) (x' := x.put st)
      refine set_sm (T := T) h hl ⟨hTs.name, fun y hy => ?_, hTs.idxs, hTs.keys⟩ (by unfold Tab.cost; dsimp only; omega)
      rcases placed_mem hy with hy | rfl
      · exact hTs.cols y hy
      · exact hTs.cols x (List.mem_of_getElem? hx)
  · unfold idxTurn
    refine smo_ite (fun _ => smo_ite (fun _ => smo_e) fun hf => smo_ite (fun _ => smo_e) fun hk => smo_ite (fun _ => smo_e) fun _ => ?_) fun _ => smo_ite (fun _ => smo_e) fun _ => ?_
    · split
      · exact smo_e
      rename_i c hc
      refine smo_o (set_sm (T := T) h hl ⟨hTs.name, hTs.cols, fun x hx => ?_, hTs.keys⟩ (by unfold Tab.cost; simp only [List.length_append, List.length_singleton]; omega))
      rcases List.mem_append.1 hx with hx | hx
      · exact hTs.idxs x hx
      · have : x = ⟨S.last + 1, D.name, c.id, D.unique, st⟩ := by simpa using hx
        subst this
        exact fresh_sm hf
    · split
      · exact smo_e
      rename_i x hx
      refine smo_ite (fun _ => smo_e) fun _ => smo_o ?_
      have hp := placed_le (l := T.idxs) (k := (idxAt T D.name).toNat) (st := st) (x' := x.put st)
      refine set_sm (T := T) h hl ⟨hTs.name, hTs.cols, fun y hy => ?_, hTs.keys⟩ (by unfold Tab.cost; dsimp only; omega)
      rcases placed_mem hy with hy | rfl
      · exact hTs.idxs y hy
      · exact hTs.idxs x (List.mem_of_getElem? hx)
  · unfold keyTurn
    refine smo_ite (fun _ => smo_ite (fun _ => smo_e) fun hf => smo_ite (fun _ => smo_e) fun hk => smo_ite (fun _ => smo_e) fun _ => ?_) fun _ => smo_ite (fun _ => smo_e) fun _ => ?_
    · split
      · rename_i c P hc hP
        split
        · exact smo_e
        · refine smo_ite (fun _ => smo_e) fun _ => smo_ite (fun _ => smo_e) fun _ => smo_o (set_sm (T := T) h hl ⟨hTs.name, hTs.cols, hTs.idxs, fun x hx => ?_⟩ (by unfold Tab.cost; simp only [List.length_append, List.length_singleton]; omega))
          rcases List.mem_append.1 hx with hx | hx
          · exact hTs.keys x hx
          · have : x = ⟨S.last + 1, D.name, c.id, P.id, st⟩ := by simpa using hx
            subst this
            exact fresh_sm hf
      · exact smo_e
    · split
      · exact smo_e
      rename_i x hx
      refine smo_ite (fun _ => smo_e) fun _ => smo_o ?_
      have hp := placed_le (l := T.keys) (k := (keyAt T D.name).toNat) (st := st) (x' := x.put st)
      refine set_sm (T := T) h hl ⟨hTs.name, hTs.cols, hTs.idxs, fun y hy => ?_⟩ (by unfold Tab.cost; dsimp only; omega)
      rcases placed_mem hy with hy | rfl
      · exact hTs.keys y hy
      · exact hTs.keys x (List.mem_of_getElem? hx)
theorem no_sm : noSch.Sm := ⟨by simp, by simp [Sch.cost]⟩
theorem turn_sm (S : Sch) (D : Ddl) (st : Int) : (S.turn D st).1.Sm := by
  unfold Sch.turn
  by_cases hr : (right S && (decide (0 ≤ st) && decide (st ≤ 3))) = false
  · rw [if_pos hr]; exact no_sm
  rw [if_neg hr]
  have hr : right S = true := by
    cases e : right S
    · rw [e] at hr; exact absurd rfl hr
    · rfl
  split
  · exact no_sm
  · have := turn1_sm (S := { S with version := S.version + 1 }) (D := D) (st := st) (fun T hT => right_sm hr T hT) (right_iff.1 hr).2.1
    cases e : turn1 { S with version := S.version + 1 } D st with
    | error e => exact no_sm
    | ok S' => exact this S' e
theorem Sch.Sm.few {S : Sch} (h : S.Sm) : S.tabs.length ≤ 4294967296 ∧ ∀ T ∈ S.tabs, T.Few := by
  have hc := h.cost
  unfold Sch.cost at hc
  have key : ∀ l : List Tab, l.length ≤ (l.map Tab.cost).sum ∧ ∀ T ∈ l, T.cost ≤ (l.map Tab.cost).sum := by
    intro l
    induction l with
    | nil => simp
    | cons a l ih =>
      simp only [List.map_cons, List.sum_cons, List.length_cons]
      have ha : 1 ≤ a.cost := by unfold Tab.cost; omega
      refine ⟨by have := ih.1; omega, fun T hT => ?_⟩
      rcases List.mem_cons.1 hT with rfl | hT
      · omega
      · have := ih.2 T hT; omega
  obtain ⟨k1, k2⟩ := key S.tabs
  refine ⟨by omega, fun T hT => ?_⟩
  have := k2 T hT
  have hT2 : T.cost = 1 + T.cols.length + T.idxs.length + T.keys.length := rfl
  exact ⟨by omega, by omega, by omega⟩
theorem Has.sm {s : PH} {t : Tri} {ps : List TabP} {S : Sch} (h : Has s t ps) (he : S.tabs = ps.map (·.T)) (hs : S.Sm) : SchIs s t S ps := h.is he hs.few.1 hs.few.2
end Go.Proofs.Ythepfbcgpbkbdaa
end
section
set_option linter.unusedVariables false
set_option linter.unusedSimpArgs false
set_option maxHeartbeats 1000000
set_option maxRecDepth 100000
namespace Go.Proofs.Ythepfbcgpbkbdaa
open Fw Go
attribute [-simp] Fw.W.ld_iff Fw.W.st_iff
def rdVal : Rd Val := (Rd.pair (Rd.int .i64) (Rd.pair (Rd.int .i64) (Rd.pair Rd.str Rd.unit))).map fun x => ⟨x.1, x.2.1, x.2.2.1⟩
def rdCol : Rd Col := (Rd.pair (Rd.int .i64) (Rd.pair Rd.str (Rd.pair (Rd.int .i64) (Rd.pair (Rd.int .i64) (Rd.pair rdVal Rd.unit))))).map fun x => ⟨x.1, x.2.1, x.2.2.1, x.2.2.2.1, x.2.2.2.2.1⟩
def rdIdx : Rd Idx := (Rd.pair (Rd.int .i64) (Rd.pair Rd.str (Rd.pair (Rd.int .i64) (Rd.pair Rd.bool (Rd.pair (Rd.int .i64) Rd.unit))))).map fun x => ⟨x.1, x.2.1, x.2.2.1, x.2.2.2.1, x.2.2.2.2.1⟩
def rdFor : Rd For := (Rd.pair (Rd.int .i64) (Rd.pair Rd.str (Rd.pair (Rd.int .i64) (Rd.pair (Rd.int .i64) (Rd.pair (Rd.int .i64) Rd.unit))))).map fun x => ⟨x.1, x.2.1, x.2.2.1, x.2.2.2.1, x.2.2.2.2.1⟩
def rdTab : Rd Tab := (Rd.pair (Rd.int .i64) (Rd.pair Rd.str (Rd.pair (Rd.sl rdCol 72) (Rd.pair (Rd.sl rdIdx 48) (Rd.pair (Rd.sl rdFor 48) Rd.unit))))).map fun x => ⟨x.1, x.2.1, x.2.2.1, x.2.2.2.1, x.2.2.2.2.1⟩
def rdSch : Rd Sch := (Rd.pair (Rd.int .i64) (Rd.pair (Rd.int .i64) (Rd.pair (Rd.sl rdTab 96) Rd.unit))).map fun x => ⟨x.1, x.2.1, x.2.2.1⟩
def rdDdlF : Rd (Int × ByteArray × ByteArray × ByteArray × ByteArray × Bool × Int × Val × List Col × Unit) :=
  Rd.pair (Rd.int .i64) (Rd.pair Rd.str (Rd.pair Rd.str (Rd.pair Rd.str (Rd.pair Rd.str (Rd.pair Rd.bool (Rd.pair (Rd.int .i64) (Rd.pair rdVal (Rd.pair (Rd.sl rdCol 72) Rd.unit))))))))
def rdDdl : Rd Ddl := rdDdlF.map fun x => ⟨x.1, x.2.1, x.2.2.1, x.2.2.2.1, x.2.2.2.2.1, x.2.2.2.2.2.1, x.2.2.2.2.2.2.1, x.2.2.2.2.2.2.2.1, x.2.2.2.2.2.2.2.2.1⟩
theorem op3 : Opens Try.prog 3 (Rd.int .i64) := opens_int Try.underlying3 (by kernel_rfl)
theorem op9 : Opens Try.prog 9 Rd.str := opens_str Try.underlying9 (by kernel_rfl)
theorem op4 : Opens Try.prog 4 Rd.bool := opens_bool Try.underlying4 (by kernel_rfl)
theorem op26 : Opens Try.prog 26 rdVal := opens_map _ (opens_struct (.cons rfl op3 (.cons rfl (opens_int Try.underlying2 (by kernel_rfl)) (.cons rfl op9 (.nil _)))) Try.underlying26 (by kernel_rfl))
theorem op44 : Opens Try.prog 44 rdCol := opens_map _ (opens_struct (.cons rfl op3 (.cons rfl op9 (.cons rfl op3 (.cons rfl op3 (.cons rfl op26 (.nil _)))))) Try.underlying44 (by kernel_rfl))
theorem op106 : Opens Try.prog 106 rdIdx := opens_map _ (opens_struct (.cons rfl op3 (.cons rfl op9 (.cons rfl op3 (.cons rfl op4 (.cons rfl op3 (.nil _)))))) Try.underlying106 (by kernel_rfl))
theorem op109 : Opens Try.prog 109 rdFor := opens_map _ (opens_struct (.cons rfl op3 (.cons rfl op9 (.cons rfl op3 (.cons rfl op3 (.cons rfl op3 (.nil _)))))) Try.underlying109 (by kernel_rfl))
theorem op27 : Opens Try.prog 27 (Rd.sl rdCol 72) := opens_sl op44 Try.underlying27 (by kernel_rfl) (by kernel_rfl)
theorem op39 : Opens Try.prog 39 (Rd.sl rdIdx 48) := opens_sl op106 Try.underlying39 (by kernel_rfl) (by kernel_rfl)
theorem op40 : Opens Try.prog 40 (Rd.sl rdFor 48) := opens_sl op109 Try.underlying40 (by kernel_rfl) (by kernel_rfl)
theorem op42 : Opens Try.prog 42 rdTab := opens_map _ (opens_struct (.cons rfl op3 (.cons rfl op9 (.cons rfl op27 (.cons rfl op39 (.cons rfl op40 (.nil _)))))) Try.underlying42 (by kernel_rfl))
theorem op22 : Opens Try.prog 22 (Rd.sl rdTab 96) := opens_sl op42 Try.underlying22 (by kernel_rfl) (by kernel_rfl)
theorem op24 : Opens Try.prog 24 rdSch := opens_map _ (opens_struct (.cons rfl op3 (.cons rfl op3 (.cons rfl op22 (.nil _)))) Try.underlying24 (by kernel_rfl))
theorem op29 : Opens Try.prog 29 rdDdl := opens_map _ (opens_struct (.cons rfl op3 (.cons rfl op9 (.cons rfl op9 (.cons rfl op9 (.cons rfl op9 (.cons rfl op4 (.cons rfl op3 (.cons rfl op26 (.cons rfl op27 (.nil _)))))))))) Try.underlying29 (by kernel_rfl))
theorem rsz : reachBytes ≤ 281474976710656 := by decide
theorem rdVal_is {s : PH} {cs : List Value} {v : Val} (h : rdVal.is s cs v) : cs = [.int .i64 v.kind, .int .i64 v.n, .string v.s] ∧ v.s.size ≤ 281474976710656 := by
  obtain ⟨x, rfl, c1, c2, rfl, ⟨rfl, _⟩, d1, d2, rfl, ⟨rfl, _⟩, e1, e2, rfl, ⟨rfl, h3⟩, rfl⟩ := h
  exact ⟨rfl, Nat.le_trans h3 rsz⟩
theorem rdCol_is {s : PH} {cs : List Value} {c : Col} (h : rdCol.is s cs c) : cs = colE.f c ∧ c.Sm := by
  obtain ⟨x, rfl, c1, c2, rfl, ⟨rfl, _⟩, d1, d2, rfl, ⟨rfl, h2⟩, e1, e2, rfl, ⟨rfl, _⟩, f1, f2, rfl, ⟨rfl, _⟩, g1, g2, rfl, h5, rfl⟩ := h
  obtain ⟨rfl, h6⟩ := rdVal_is h5
  exact ⟨rfl, Nat.le_trans h2 rsz, h6⟩
theorem rdIdx_is {s : PH} {cs : List Value} {c : Idx} (h : rdIdx.is s cs c) : cs = idxE.f c ∧ c.name.size ≤ 281474976710656 := by
  obtain ⟨x, rfl, c1, c2, rfl, ⟨rfl, _⟩, d1, d2, rfl, ⟨rfl, h2⟩, e1, e2, rfl, ⟨rfl, _⟩, f1, f2, rfl, rfl, g1, g2, rfl, ⟨rfl, _⟩, rfl⟩ := h
  exact ⟨rfl, Nat.le_trans h2 rsz⟩
theorem rdFor_is {s : PH} {cs : List Value} {c : For} (h : rdFor.is s cs c) : cs = forE.f c ∧ c.name.size ≤ 281474976710656 := by
  obtain ⟨x, rfl, c1, c2, rfl, ⟨rfl, _⟩, d1, d2, rfl, ⟨rfl, h2⟩, e1, e2, rfl, ⟨rfl, _⟩, f1, f2, rfl, ⟨rfl, _⟩, g1, g2, rfl, ⟨rfl, _⟩, rfl⟩ := h
  exact ⟨rfl, Nat.le_trans h2 rsz⟩
/-- elements that can be read; they may be many -/
structure SlB {α : Type} (E : Enc α) (s : PH) (t : Tri) (xs : List α) : Prop where
  el : elems (Rd.enc E) s t.1 t.2.1 xs
  le : t.2.1 ≤ t.2.2
  big : xs.length ≤ 4398046511104
theorem SlB.few {α : Type} {E : Enc α} {s : PH} {t : Tri} {xs : List α} (h : SlB E s t xs) (hl : xs.length ≤ 4294967296) : Sl E s t xs := ⟨h.el, h.le, hl⟩
theorem sl_open {α : Type} {R : Rd α} {E : Enc α} {P : α → Prop} {bytes : Nat} {s : PH} {cs : List Value} {xs : List α} (hb : 48 ≤ bytes) (hz : R.sz = E.sz) (hi : ∀ cs x, R.is s cs x → cs = E.f x ∧ P x) (h : (Rd.sl R bytes).is s cs xs) :
    ∃ t : Tri, cs = [t.v] ∧ SlB E s t xs ∧ ∀ x ∈ xs, P x := by
  obtain ⟨a, n, c, rfl, h1, h2, h3, h4⟩ := h
  refine ⟨(a, n, c), rfl, ⟨h4.imp hz fun cs x hx => (hi cs x hx).1, h1, ?_⟩, fun x hx => ?_⟩
  · have hr : reachBytes = 140737488351232 := rfl
    have : c * 48 ≤ c * bytes := Nat.mul_le_mul_left _ hb
    have := h4.1
    omega
  · obtain ⟨i, hi2⟩ := List.mem_iff_getElem?.1 hx
    obtain ⟨ad, cs', _, h6, _⟩ := h4.2 i x hi2
    exact (hi cs' x h6).2
structure TabB (s : PH) (p : TabP) : Prop where
  c : SlB colE s p.c p.T.cols
  x : SlB idxE s p.x p.T.idxs
  k : SlB forE s p.k p.T.keys
structure SchB (s : PH) (t : Tri) (S : Sch) (ps : List TabP) : Prop where
  el : SlB tabE s t ps
  eq : S.tabs = ps.map (·.T)
  all : ∀ p ∈ ps, TabB s p
theorem rdTab_is {s : PH} {cs : List Value} {T : Tab} (h : rdTab.is s cs T) : ∃ p : TabP, p.T = T ∧ cs = tabE.f p ∧ TabB s p ∧ T.Sm := by
  obtain ⟨x, rfl, c1, c2, rfl, ⟨rfl, _⟩, d1, d2, rfl, ⟨rfl, h2⟩, e1, e2, rfl, h3, f1, f2, rfl, h4, g1, g2, rfl, h5, rfl⟩ := h
  obtain ⟨t1, rfl, k1, n1⟩ := sl_open (by omega) rfl (fun cs x hx => rdCol_is hx) h3
  obtain ⟨t2, rfl, k2, n2⟩ := sl_open (by omega) rfl (fun cs x hx => rdIdx_is hx) h4
  obtain ⟨t3, rfl, k3, n3⟩ := sl_open (by omega) rfl (fun cs x hx => rdFor_is hx) h5
  exact ⟨⟨_, t1, t2, t3⟩, rfl, rfl, ⟨k1, k2, k3⟩, ⟨Nat.le_trans h2 rsz, n1, n2, n3⟩⟩
theorem tabs_choose : ∀ (l : List Tab) (Q : Nat → TabP → Prop), (∀ i T, l[i]? = some T → ∃ p : TabP, p.T = T ∧ Q i p) → ∃ ps : List TabP, ps.map (·.T) = l ∧ ∀ i p, ps[i]? = some p → Q i p
  | [], Q, _ => ⟨[], rfl, fun i p h => by simp at h⟩
  | T :: l, Q, h => by
    obtain ⟨p, hp, hq⟩ := h 0 T rfl
    obtain ⟨ps, he, hr⟩ := tabs_choose l (fun i => Q (i + 1)) fun i T' hT => h (i + 1) T' hT
    refine ⟨p :: ps, by simp [hp, he], fun i q hi => ?_⟩
    cases i with
    | zero => simp at hi; subst hi; exact hq
    | succ i => exact hr i q hi
theorem rdSch_is {s : PH} {cs : List Value} {S : Sch} (h : rdSch.is s cs S) : ∃ t ps, cs = [.int .i64 S.version, .int .i64 S.last, .slice t.1 t.2.1 t.2.2] ∧ SchB s t S ps ∧ ∀ T ∈ S.tabs, T.Sm := by
  obtain ⟨x, rfl, c1, c2, rfl, ⟨rfl, _⟩, d1, d2, rfl, ⟨rfl, _⟩, e1, e2, rfl, ⟨a, n, c, rfl, h1, h2, h3, h4⟩, rfl⟩ := h
  obtain ⟨ps, he, hq⟩ := tabs_choose x.2.2.1 (fun i p => (∃ ad, a = some ad ∧ s.has (ad.add (i * 5)) (tabE.f p)) ∧ TabB s p ∧ p.T.Sm) fun i T hT => by
    obtain ⟨ad, cs, k1, k2, k3⟩ := h4.2 i T hT
    obtain ⟨p, rfl, rfl, k4, k5⟩ := rdTab_is k2
    exact ⟨p, rfl, ⟨ad, k1, k3⟩, k4, k5⟩
  have hlen : ps.length = n := by rw [h4.1, ← he, List.length_map]
  refine ⟨(a, n, c), ps, rfl, ⟨⟨⟨hlen.symm, fun i p hp => ?_⟩, h1, ?_⟩, he.symm, fun p hp => ?_⟩, fun T hT => ?_⟩
  · obtain ⟨⟨ad, k1, k2⟩, _⟩ := hq i p hp
    exact ⟨ad, _, k1, rfl, k2⟩
  · have hr : reachBytes = 140737488351232 := rfl
    omega
  · obtain ⟨i, hi⟩ := List.mem_iff_getElem?.1 hp
    exact (hq i p hi).2.1
  · rw [show (Sch.mk x.1 x.2.1 x.2.2.1).tabs = ps.map (·.T) from he.symm] at hT
    obtain ⟨p, hp, rfl⟩ := List.mem_map.1 hT
    obtain ⟨i, hi⟩ := List.mem_iff_getElem?.1 hp
    exact (hq i p hi).2.2
theorem rdDdl_is {s : PH} {cs : List Value} {D : Ddl} (h : rdDdl.is s cs D) : ∃ t : Tri, cs = [.int .i64 D.kind, .string D.table, .string D.name, .string D.column, .string D.parent, .bool D.unique, .int .i64 D.type, .int .i64 D.dflt.kind, .int .i64 D.dflt.n, .string D.dflt.s, .slice t.1 t.2.1 t.2.2] ∧ SlB colE s t D.cols := by
  obtain ⟨x, rfl, c1, c2, rfl, ⟨rfl, _⟩, d1, d2, rfl, ⟨rfl, _⟩, e1, e2, rfl, ⟨rfl, _⟩, f1, f2, rfl, ⟨rfl, _⟩, g1, g2, rfl, ⟨rfl, _⟩, i1, i2, rfl, rfl, j1, j2, rfl, ⟨rfl, _⟩, k1, k2, rfl, hv, l1, l2, rfl, hc, rfl⟩ := h
  obtain ⟨rfl, _⟩ := rdVal_is hv
  obtain ⟨t, rfl, k, _⟩ := sl_open (by omega) rfl (fun cs x hx => rdCol_is hx) hc
  exact ⟨t, rfl, k⟩
def wsum (l : List Tab) : Nat := (l.map fun T => T.cols.length + T.idxs.length + T.keys.length).sum
theorem wsum_take {l : List Tab} {k : Nat} {T : Tab} (h : l[k]? = some T) : wsum (l.take (k + 1)) = wsum (l.take k) + (T.cols.length + T.idxs.length + T.keys.length) := by
  unfold wsum; rw [List.take_add_one, h]; simp
theorem c_great {s : PH} {t : Tri} {S : Sch} {ps : List TabP} (h : SchB s t S ps) (D : Ddl) {u : Tri} (hu : SlB colE s u D.cols) :
    DCalls Try.prog 12 #[schV S t, ddlV D u] s fun y s' => (∃ b, y = .bool b ∧ (b = false → S.tabs.length + D.cols.length + wsum S.tabs ≤ 300)) ∧ s' = s := by
  obtain ⟨ua, un, uc⟩ := u
  obtain ⟨ta, tn, tc⟩ := t
  refine ok_great S.version S.last ta tn tc D.kind D.table D.name D.column D.parent D.unique D.type D.dflt.kind D.dflt.n D.dflt.s ua un uc _ s ?_
  unfold vc_great
  have htn : tn = ps.length := h.el.el.1
  have hpl : S.tabs.length = ps.length := by rw [h.eq]; simp
  have hun : un = D.cols.length := hu.el.1
  have hb1 := h.el.big
  have hb2 := hu.big
  simp only [RP_join, RP_ite, RP_call, RP_callQ, RP_ret, RP_nw, RP_app, RP_st, RP_ld, RP_unSome, RP_guard, RP_loop, RP_still, RP_clr, RP_look, RP_mset, W.unSome_some]
  have hw0 : IntKind.i64.wrap ((tn : Int) + (un : Int)) = ((tn + un : Nat) : Int) := by rw [wrap_in (by omega) (by omega)]; omega
  rw [hw0]
  refine ⟨fun z s' => ∃ k : Nat, z = ((((tn + un + wsum (S.tabs.take k) : Nat) : Int), ()), ((ta, tn, tc), ()), ((tn : Int), ()), ((k : Int), ()), ()) ∧ k ≤ tn ∧ s' = s ∧ tn + un + wsum (S.tabs.take k) ≤ 17592186044416, fun z _ => tn - z.2.2.2.1.1.toNat, ⟨0, by simp [wsum], Nat.zero_le _, rfl, by simp [wsum]; omega⟩, ?_⟩
  rintro _ s0 ⟨k, rfl, hk, rfl, hN⟩
  simp only [W.br_iff, decide_eq_true_eq, decide_eq_false_iff_not]
  refine ⟨fun hlt => ?_, fun hge => ?_⟩
  · have hlt : k < tn := by omega
    obtain ⟨p, hp⟩ : ∃ p, ps[k]? = some p := ⟨_, List.getElem?_eq_getElem (by omega)⟩
    have hT : S.tabs[k]? = some p.T := by rw [h.eq, List.getElem?_map, hp]; (first | done | rfl)
    obtain ⟨ad, had, hh⟩ := h.el.el.at_enc hp
    dsimp only at had
    subst had
    refine ⟨by omega, ?_⟩
    simp only [W.unSome_some, Int.toNat_natCast]
    refine ld_has_z hh (y := (p.T.id, p.T.name, p.c, p.x, p.k, ())) rfl ?_
    have hP := h.all p (get_mem hp)
    have l1 : p.c.2.1 = p.T.cols.length := hP.c.el.1
    have l2 : p.x.2.1 = p.T.idxs.length := hP.x.el.1
    have l3 : p.k.2.1 = p.T.keys.length := hP.k.el.1
    have g1 := hP.c.big
    have g2 := hP.x.big
    have g3 := hP.k.big
    have hs := wsum_take hT
    have hw : IntKind.i64.wrap (((tn + un + wsum (S.tabs.take k) : Nat) : Int) + IntKind.i64.wrap (IntKind.i64.wrap (((p.c.2.1 : Nat) : Int) + ((p.x.2.1 : Nat) : Int)) + ((p.k.2.1 : Nat) : Int))) = ((tn + un + wsum (S.tabs.take (k + 1)) : Nat) : Int) := by
      rw [wrap_in (n := ((p.c.2.1 : Nat) : Int) + ((p.x.2.1 : Nat) : Int)) (by omega) (by omega), wrap_in (n := ((p.c.2.1 : Nat) : Int) + ((p.x.2.1 : Nat) : Int) + ((p.k.2.1 : Nat) : Int)) (by omega) (by omega), wrap_in (by omega) (by omega), hs]
      omega
    dsimp only
    rw [hw]
    simp only [W.br_iff, decide_eq_true_eq, decide_eq_false_iff_not]
    refine ⟨fun hgt => ⟨⟨true, rfl, fun e => by cases e⟩, by trivial⟩, fun hle => ?_⟩
    rw [wrap_succ (k := k) (by omega)]
    refine ⟨⟨k + 1, rfl, hlt, by trivial, by omega⟩, by simp only [Int.toNat_natCast]; omega⟩
  · have hall : S.tabs.take k = S.tabs := List.take_of_length_le (by omega)
    rw [hall]
    refine ⟨⟨_, rfl, fun e => ?_⟩, by trivial⟩
    have e := of_decide_eq_false e
    omega
theorem SchB.is {s : PH} {t : Tri} {S : Sch} {ps : List TabP} (h : SchB s t S ps) (hl : S.tabs.length + wsum S.tabs ≤ 300) : SchIs s t S ps := by
  have key : ∀ (l : List Tab), ∀ T ∈ l, T.cols.length + T.idxs.length + T.keys.length ≤ wsum l := by
    intro l
    induction l with
    | nil => simp
    | cons a l ih =>
      intro T hT
      have e : wsum (a :: l) = (a.cols.length + a.idxs.length + a.keys.length) + wsum l := by simp [wsum]
      rcases List.mem_cons.1 hT with rfl | hT
      · omega
      · have := ih T hT; omega
  have hpl : S.tabs.length = ps.length := by rw [h.eq]; simp
  refine ⟨h.el.few (by omega), h.eq, fun p hp => ?_⟩
  have hT : p.T ∈ S.tabs := by rw [h.eq]; exact List.mem_map_of_mem hp
  have := key S.tabs p.T hT
  obtain ⟨a, b, c⟩ := h.all p hp
  exact ⟨a.few (by omega), b.few (by omega), c.few (by omega)⟩
theorem sm_great {S : Sch} (h : ∀ T ∈ S.tabs, T.Sm) (hl : S.tabs.length + wsum S.tabs ≤ 300) : S.Sm := by
  refine ⟨h, ?_⟩
  have key : ∀ (l : List Tab), (l.map Tab.cost).sum = l.length + wsum l := by
    intro l
    induction l with
    | nil => simp [wsum]
    | cons a l ih =>
      have e : wsum (a :: l) = (a.cols.length + a.idxs.length + a.keys.length) + wsum l := by simp [wsum]
      have ea : a.cost = 1 + a.cols.length + a.idxs.length + a.keys.length := rfl
      simp only [List.map_cons, List.sum_cons, List.length_cons, ih, e, ea]
      omega
  unfold Sch.cost
  rw [key]; omega
abbrev bs (l : List UInt8) : ByteArray := ⟨l.toArray⟩
abbrev emp : ByteArray := ⟨#[]⟩
def exD : Ddl := ⟨1, bs [116], emp, emp, emp, false, 0, ⟨0, 0, emp⟩, [⟨0, bs [97], 1, 0, ⟨0, 0, emp⟩⟩, ⟨0, bs [98], 2, 0, ⟨0, 0, emp⟩⟩]⟩
def exS1 : Sch := ⟨1, 3, [⟨1, bs [116], [⟨2, bs [97], 1, 3, ⟨0, 0, emp⟩⟩, ⟨3, bs [98], 2, 3, ⟨0, 0, emp⟩⟩], [], []⟩]⟩
def exD2 : Ddl := ⟨2, bs [116], bs [105], bs [98], emp, false, 0, ⟨0, 0, emp⟩, []⟩
def exS2 : Sch := ⟨2, 4, [⟨1, bs [116], [⟨2, bs [97], 1, 3, ⟨0, 0, emp⟩⟩, ⟨3, bs [98], 2, 3, ⟨0, 0, emp⟩⟩], [⟨4, bs [105], 3, false, 1⟩], []⟩]⟩
def exD3 : Ddl := ⟨5, bs [116], emp, bs [98], emp, false, 0, ⟨0, 0, emp⟩, []⟩
theorem ex1 : noSch.turn exD 3 = (exS1, 0) := by kernel_rfl
theorem ex2 : exS1.turn exD2 1 = (exS2, 0) := by kernel_rfl
theorem ex3 : exS2.turn exD3 2 = (noSch, 155) := by kernel_rfl
theorem c_Example (s : PH) : DCalls Try.prog 37 #[] s fun y s' => ∃ u : Tri, y = ddlV exD u ∧ Sl colE s' u exD.cols ∧ Fw.Mod [] s s' := by
  refine ok_Example _ s ?_
  unfold vc_Example
  simp only [RP_join, RP_ite, RP_call, RP_callQ, RP_ret, RP_nw, RP_app, RP_st, RP_ld, RP_unSome, RP_guard, RP_loop, RP_still, RP_clr, RP_look, RP_mset, W.unSome_some]
  refine W.nw_of fun r s1 hr m1 k1 => ?_
  refine ⟨(some ⟨r, 0, none⟩, 2, 2), rfl, ⟨⟨rfl, fun i x hx => ?_⟩, Nat.le_refl _, by decide⟩, m1⟩
  refine ⟨⟨r, 0, none⟩, _, rfl, rfl, ?_⟩
  have hb := has_block k1
  have hz : (Rd.enc colE).sz = 7 := rfl
  rw [hz]
  match i with
  | 0 =>
    simp [exD] at hx; subst hx
    have := PH.has.sub (l1 := []) (l2 := colE.f ⟨0, bs [97], 1, 0, ⟨0, 0, emp⟩⟩) (l3 := colE.f ⟨0, bs [98], 2, 0, ⟨0, 0, emp⟩⟩) hb
    exact this
  | 1 =>
    simp [exD] at hx; subst hx
    have := PH.has.sub (l1 := colE.f ⟨0, bs [97], 1, 0, ⟨0, 0, emp⟩⟩) (l2 := colE.f ⟨0, bs [98], 2, 0, ⟨0, 0, emp⟩⟩) (l3 := []) hb
    exact this
  | i + 2 => simp [exD] at hx
theorem gives_at {s : PH} {S' : Sch} {e : Int} {y : Value} {s' : PH} (h : Gives s S' e y s') (hs : S'.Sm) : ∃ t ps, y = .tuple #[schV S' t, .int .i64 e] ∧ SchIs s' t S' ps ∧ Has s' t ps ∧ Fw.Mod [] s s' ∧ ∀ g ∈ Lof t ps, s g = none := by
  obtain ⟨t, ps, rfl, hH, he, m, hf⟩ := h
  exact ⟨t, ps, rfl, hH.sm he hs, hH, m, hf⟩
theorem c_awake (s : PH) : DCalls Try.prog 11 #[] s fun y s' => y = .bool true ∧ s' = s := by
  refine DCalls.quiet (ok_awake _ s ?_)
  unfold vc_awake
  simp only [RP_join, RP_ite, RP_call, RP_callQ, RP_ret, RP_nw, RP_app, RP_st, RP_ld, RP_unSome, RP_guard, RP_loop, RP_still, RP_clr, RP_look, RP_mset, W.unSome_some]
  refine W.call_of (c_Example s) ?_
  rintro _ s1 ⟨u, rfl, hu, m1⟩
  refine ⟨((exD.kind, exD.table, exD.name, exD.column, exD.parent, exD.unique, exD.type, exD.dflt.kind, exD.dflt.n, exD.dflt.s, u, ()), ()), rfl, ?_⟩
  have hno : SchIs s1 noTri noSch [] := ⟨Sl.nil, rfl, by simp⟩
  have hc1 := c_Turn hno exD hu (by decide) 3
  have hz1 := turn_sm noSch exD 3
  rw [ex1] at hc1 hz1
  refine W.call_of hc1 ?_
  intro y s2 hg
  obtain ⟨t2, ps2, rfl, hS2, _, m2, _⟩ := gives_at hg hz1
  refine ⟨((exS1.version, exS1.last, t2, ()), (0, ()), ()), rfl, ?_⟩
  have hc2 := c_Turn hS2 exD2 (u := noTri) Sl.nil (by decide) 1
  have hz2 := turn_sm exS1 exD2 1
  rw [ex2] at hc2 hz2
  refine W.call_of hc2 ?_
  intro y s3 hg
  obtain ⟨t3, ps3, rfl, hS3, hH3, m3, _⟩ := gives_at hg hz2
  refine ⟨((exS2.version, exS2.last, t3, ()), (0, ()), ()), rfl, ?_⟩
  have hc3 := c_Turn hS3 exD3 (u := noTri) Sl.nil (by decide) 2
  have hz3 := turn_sm exS2 exD3 2
  rw [ex3] at hc3 hz3
  refine W.call_of hc3 ?_
  intro y s4 hg
  obtain ⟨t4, ps4, rfl, hS4, _, m4, _⟩ := gives_at hg hz3
  refine ⟨((noSch.version, noSch.last, t4, ()), (155, ()), ()), rfl, ?_⟩
  have hm : Fw.Mod [] s s4 := ((m1.trans m2).trans m3).trans m4
  have hS34 := hS3.mono m4.le
  have hlen : t3.2.1 = ps3.length := hS34.el.el.1
  have hpl : exS2.tabs.length = ps3.length := by rw [hS34.eq]; simp
  obtain ⟨p, hp⟩ : ∃ p, ps3[0]? = some p := ⟨_, List.getElem?_eq_getElem (by rw [← hpl]; decide)⟩
  have hT : exS2.tabs[0]? = some p.T := by rw [hS34.eq, List.getElem?_map, hp]; (first | done | rfl)
  obtain ⟨ad, had, hh⟩ := hS34.el.el.at_enc hp
  have hx : p.x.2.1 = p.T.idxs.length := (hS34.all p (get_mem hp)).x.len
  have hTv : p.T.idxs.length = 1 := by
    have : p.T = (exS2.tabs[0]?).getD ⟨0, emp, [], [], []⟩ := by rw [hT]; (first | done | rfl)
    rw [this]; (first | done | rfl)
  refine (W.br_iff _ _ _ _).2 ⟨fun _ => ?_, fun e => by cases e⟩
  refine (W.br_iff _ _ _ _).2 ⟨fun _ => ?_, fun e => by cases e⟩
  refine (W.br_iff _ _ _ _).2 ⟨fun _ => ?_, fun e => by cases e⟩
  refine (W.br_iff _ _ _ _).2 ⟨fun _ => ?_, fun e => by cases e⟩
  refine (W.br_iff _ _ _ _).2 ⟨fun _ => ?_, fun e => by cases e⟩
  have hn1 : t3.2.1 = 1 := by rw [hlen, ← hpl]; (first | done | rfl)
  refine ⟨by show (0 : Int) ≤ 0 ∧ (0 : Int) < (t3.2.1 : Nat); omega, ?_⟩
  dsimp only
  rw [had]
  simp only [W.unSome_some]
  rw [Nat.zero_mul] at hh
  refine ld_has (j := 3) hh (cs := [.slice]) (y := (p.x, ())) rfl ?_
  refine (W.br_iff _ _ _ _).2 ⟨fun _ => ?_, fun e => ?_⟩
  · refine (W.br_iff _ _ _ _).2 ⟨fun _ => ⟨rfl, hm⟩, fun e => by cases e⟩
  · have e : (((p.x.2.1 : Nat) : Int) == 1) = false := e
    rw [hx, hTv] at e
    cases e
end Go.Proofs.Ythepfbcgpbkbdaa
end
section
set_option linter.unusedVariables false
set_option linter.unusedSimpArgs false
set_option maxHeartbeats 1000000
set_option maxRecDepth 100000
namespace Go.Proofs.Ythepfbcgpbkbdaa
open Fw Go
attribute [-simp] Fw.W.ld_iff Fw.W.st_iff
abbrev noDdl : Ddl := ⟨0, emp, emp, emp, emp, false, 0, ⟨0, 0, emp⟩, []⟩
theorem agg_arr {cs : Array Value} {l : List Value} (h : cs.toList = l) : Value.agg cs = .agg l.toArray := by rw [← h]
end Go.Proofs.Ythepfbcgpbkbdaa
end
section
set_option linter.unusedVariables false
set_option linter.unusedSimpArgs false
set_option maxHeartbeats 1000000
set_option maxRecDepth 100000
namespace Go.Proofs.Ythepfbcgpbkbdaa
open Fw Go
attribute [-simp] Fw.W.ld_iff Fw.W.st_iff
def movE : Enc (Int × Int) where
  sz := 2
  f m := [.int .i64 m.1, .int .i64 m.2]
  len _ := rfl
  one p v hv := by simp at hv; rcases hv with rfl | rfl <;> rfl
  pos := by omega
def pairs : List Int → List (Int × Int)
  | x :: y :: l => (x, y) :: pairs l
  | _ => []
theorem row_lit {α : Type} {E : Enc α} {s : PH} {r n : Nat} {cur : Array Value} {e : TypeId} {xs : List α} (h : s r = some (.cells cur e (0, 0))) (hc : cur.toList = xs.flatMap E.f) (hn : xs.length = n) (hl : n ≤ 1000) : rowE E s e (some ⟨r, 0, none⟩) n n xs := by
  have hmax : maxLen = 9223372036854775807 := rfl
  have hlen := flat_len (E := E) xs
  rw [hn] at hlen
  have hsz : cur.size = n * E.sz := by rw [← Array.length_toList, hc, hlen]
  exact ⟨hlen, Nat.le_refl _, by omega, .inr ⟨r, cur, rfl, h, by omega, by rw [hc, ← hlen, List.take_length]⟩⟩
theorem pairs_len : ∀ (l : List Int), (pairs l).length ≤ l.length
  | [] => by simp [pairs]
  | [a] => by simp [pairs]
  | a :: b :: l => by have := pairs_len l; simp only [pairs, List.length_cons]; omega
def pathL (kind : Int) (back : Bool) : List Int :=
  if back = true then (if kind = 2 then [1, 1, 3, 0, 5, 0, 1, 0] else if kind = 4 then [1, 1, 1, 0] else if kind = 6 then [1, 0] else [])
  else if kind = 1 then [1, 3] else if kind = 2 then [1, 1, 1, 2, 3, 0, 4, 0, 1, 3] else if kind = 3 then [1, 2, 1, 1, 3, 0, 5, 0, 1, 0] else if kind = 4 then [1, 1, 1, 2, 3, 0, 4, 0, 2, 3]
  else if kind = 5 then [2, 2, 1, 1, 1, 0] else if kind = 6 then [1, 2, 3, 0, 4, 0, 1, 3] else if kind = 7 then [1, 0] else []
def PathIs (s : PH) (kind : Int) (back : Bool) (y : Value) (s' : PH) : Prop := ∃ u : Tri, y = u.v ∧ rowE movE s' 56 u.1 u.2.1 u.2.2 (pairs (pathL kind back)) ∧ Fw.Mod [] s s'
theorem c_bump (state : Int) (s : PH) : DCalls Try.prog 63 #[.int .i64 state] s fun y s' => y = .agg #[.int .i64 1, .int .i64 state] ∧ s' = s := by
  refine ok_bump state _ s ?_
  unfold vc_bump
  simp
theorem bump_V {s : PH} {n : Int} {k : MDen [(true, [.int .i64, .int .i64])] → W.T} (hk : k ((1, n, ()), ()) s) : W.callV Try.prog (.func (.func 63) #[] #[]) #[.int .i64 n] (false, [(true, [.int .i64, .int .i64])]) k s := by
  refine callV_of' (cap := #[]) Try.func63 rfl (by kernel_rfl) (c_bump n s) ?_
  rintro _ s' ⟨rfl, rfl⟩
  exact ⟨((1, n, ()), ()), rfl, hk⟩
theorem c_Path (D : Ddl) (u : Tri) (back : Bool) (s : PH) : DCalls Try.prog 23 #[ddlV D u, .bool back] s (PathIs s D.kind back) := by
  obtain ⟨ua, un, uc⟩ := u
  refine ok_Path D.kind D.table D.name D.column D.parent D.unique D.type D.dflt.kind D.dflt.n D.dflt.s ua un uc back _ s ?_
  unfold vc_Path
  obtain ⟨kind, hkind⟩ : ∃ k, D.kind = k := ⟨_, rfl⟩
  rw [hkind]
  simp only [RP_join, RP_ite, RP_call, RP_callQ, RP_callV, RP_ret, RP_nw, RP_app, RP_st, RP_ld, RP_unSome, RP_guard, RP_loop, W.unSome_some]
  have go : ∀ (l : List (Int × Int)) (cur : Array Value) (n : Nat), cur.toList = l.flatMap movE.f → l.length = n → n ≤ 1000 → pairs (pathL kind back) = l → W.nw (.cells cur 56 (0, 0)) (fun r => W.ret (PathIs s kind back) (.slice (some ⟨r, 0, none⟩) n n)) s :=
    fun l cur n h1 h2 h3 h4 => W.nw_of fun r s1 hr m1 k1 => ⟨(some ⟨r, 0, none⟩, n, n), rfl, by rw [h4]; exact row_lit k1 h1 h2 h3, m1⟩
  have none_ : pathL kind back = [] → PathIs s kind back (.slice none 0 0) s := fun h => ⟨noTri, rfl, by rw [h]; exact rowE.nil, Mod.refl _ _⟩
  refine W.join_gen (fun z s' => z = ((kind, D.table, D.name, D.column, D.parent, D.unique, D.type, D.dflt.kind, D.dflt.n, D.dflt.s, (ua, un, uc), ()), (.func (.func 63) #[] #[], ()), (3, 0, ()), (4, 0, ()), (5, 0, ()), ()) ∧ s' = s ∧ back = false) ?_ ?_
  rotate_left
  · intro J hJ
    refine W.join_gen (fun z s' => z = ((kind, D.table, D.name, D.column, D.parent, D.unique, D.type, D.dflt.kind, D.dflt.n, D.dflt.s, (ua, un, uc), ()), (.func (.func 63) #[] #[], ()), (3, 0, ()), (4, 0, ()), (5, 0, ()), (back && decide (kind = 2), ()), ()) ∧ s' = s) ?_ ?_
    rotate_left
    · intro J1 hJ1
      refine (W.br_iff _ _ _ _).2 ⟨fun hb => hJ1 _ _ ⟨by rw [hb, beq_dec]; (first | done | rfl), rfl⟩, fun hb => hJ1 _ _ ⟨by rw [hb]; (first | done | rfl), rfl⟩⟩
    rintro _ s0 ⟨rfl, rfl⟩
    refine (W.br_iff _ _ _ _).2 ⟨fun h2 => ?_, fun h2 => ?_⟩
    · have h2 : (back && decide (kind = 2)) = true := h2
      simp only [Bool.and_eq_true, decide_eq_true_eq] at h2
      refine bump_V (bump_V ?_)
      exact go [(1, 1), (3, 0), (5, 0), (1, 0)] _ 4 rfl rfl (by omega) (by rw [h2.1, h2.2]; (first | done | rfl))
    have h2 : ¬ (back = true ∧ kind = 2) := by
      have h2 : (back && decide (kind = 2)) = false := h2
      intro e; rw [e.1, e.2] at h2; cases h2
    refine W.join_gen (fun z s' => z = ((kind, D.table, D.name, D.column, D.parent, D.unique, D.type, D.dflt.kind, D.dflt.n, D.dflt.s, (ua, un, uc), ()), (.func (.func 63) #[] #[], ()), (3, 0, ()), (4, 0, ()), (5, 0, ()), (back && decide (kind = 4), ()), ()) ∧ s' = s0) ?_ ?_
    rotate_left
    · intro J1 hJ1
      refine (W.br_iff _ _ _ _).2 ⟨fun hb => hJ1 _ _ ⟨by rw [hb, beq_dec]; (first | done | rfl), rfl⟩, fun hb => hJ1 _ _ ⟨by rw [hb]; (first | done | rfl), rfl⟩⟩
    rintro _ s1 ⟨rfl, rfl⟩
    refine (W.br_iff _ _ _ _).2 ⟨fun h4 => ?_, fun h4 => ?_⟩
    · have h4 : (back && decide (kind = 4)) = true := h4
      simp only [Bool.and_eq_true, decide_eq_true_eq] at h4
      refine bump_V (bump_V ?_)
      exact go [(1, 1), (1, 0)] _ 2 rfl rfl (by omega) (by rw [h4.1, h4.2]; (first | done | rfl))
    have h4 : ¬ (back = true ∧ kind = 4) := by
      have h4 : (back && decide (kind = 4)) = false := h4
      intro e; rw [e.1, e.2] at h4; cases h4
    refine (W.br_iff _ _ _ _).2 ⟨fun hb => ?_, fun hb => ?_⟩
    · refine (W.br_iff _ _ _ _).2 ⟨fun h6 => ?_, fun h6 => ?_⟩
      · have h6 : kind = 6 := by simpa using h6
        refine bump_V ?_
        exact go [(1, 0)] _ 1 rfl rfl (by omega) (by rw [hb, h6]; (first | done | rfl))
      · have h6 : kind ≠ 6 := by simpa using h6
        refine (W.br_iff _ _ _ _).2 ⟨fun _ => none_ ?_, fun e => by rw [hb] at e; cases e⟩
        unfold pathL
        rw [if_pos hb, if_neg (fun e => h2 ⟨hb, e⟩), if_neg (fun e => h4 ⟨hb, e⟩), if_neg h6]
    · refine (W.br_iff _ _ _ _).2 ⟨fun e => (by rw [hb] at e; cases e), fun _ => hJ _ _ ⟨rfl, rfl, hb⟩⟩
  rintro _ s0 ⟨rfl, rfl, hb⟩
  simp only [W.br_iff]
  refine ⟨fun h1 => ?_, fun h1 => ⟨fun h2 => ?_, fun h2 => ⟨fun h3 => ?_, fun h3 => ⟨fun h4 => ?_, fun h4 => ⟨fun h5 => ?_, fun h5 => ⟨fun h6 => ?_, fun h6 => ⟨fun h7 => ?_, fun h7 => ?_⟩⟩⟩⟩⟩⟩⟩
  · exact bump_V (go [(1, 3)] _ 1 rfl rfl (by omega) (by have h1 : kind = 1 := by simpa using h1
                                                         rw [hb, h1]; (first | done | rfl)))
  · exact bump_V (bump_V (bump_V (go [(1, 1), (1, 2), (3, 0), (4, 0), (1, 3)] _ 5 rfl rfl (by omega) (by have h2 : kind = 2 := by simpa using h2
                                                                                                         rw [hb, h2]; (first | done | rfl)))))
  · exact bump_V (bump_V (bump_V (go [(1, 2), (1, 1), (3, 0), (5, 0), (1, 0)] _ 5 rfl rfl (by omega) (by have h2 : kind = 3 := by simpa using h3
                                                                                                         rw [hb, h2]; (first | done | rfl)))))
  · exact bump_V (bump_V (go [(1, 1), (1, 2), (3, 0), (4, 0), (2, 3)] _ 5 rfl rfl (by omega) (by have h2 : kind = 4 := by simpa using h4
                                                                                                 rw [hb, h2]; (first | done | rfl))))
  · exact bump_V (bump_V (go [(2, 2), (1, 1), (1, 0)] _ 3 rfl rfl (by omega) (by have h2 : kind = 5 := by simpa using h5
                                                                                 rw [hb, h2]; (first | done | rfl))))
  · exact bump_V (bump_V (go [(1, 2), (3, 0), (4, 0), (1, 3)] _ 4 rfl rfl (by omega) (by have h2 : kind = 6 := by simpa using h6
                                                                                         rw [hb, h2]; (first | done | rfl))))
  · exact bump_V (go [(1, 0)] _ 1 rfl rfl (by omega) (by have h2 : kind = 7 := by simpa using h7
                                                         rw [hb, h2]; (first | done | rfl)))
  · refine none_ ?_
    simp at h1 h2 h3 h4 h5 h6 h7
    unfold pathL
    rw [if_neg (by rw [hb]; simp), if_neg h1, if_neg h2, if_neg h3, if_neg h4, if_neg h5, if_neg h6, if_neg h7]
end Go.Proofs.Ythepfbcgpbkbdaa
end
section
set_option linter.unusedVariables false
set_option linter.unusedSimpArgs false
set_option maxHeartbeats 1000000
set_option maxRecDepth 100000
namespace Go.Proofs.Ythepfbcgpbkbdaa
open Fw Go
attribute [-simp] Fw.W.ld_iff Fw.W.st_iff
def stC (T : Tab) (name : ByteArray) : Int := if colAt T name < 0 then 0 else match T.cols[(colAt T name).toNat]? with | some x => x.state | none => 0
def stX (T : Tab) (name : ByteArray) : Int := if idxAt T name < 0 then 0 else match T.idxs[(idxAt T name).toNat]? with | some x => x.state | none => 0
def stF (T : Tab) (name : ByteArray) : Int := if keyAt T name < 0 then 0 else match T.keys[(keyAt T name).toNat]? with | some x => x.state | none => 0
def stateOf (S : Sch) (D : Ddl) : Int :=
  if D.kind = 1 then (if tabAt S D.table < 0 then 0 else 3)
  else if tabAt S D.table < 0 then 0
  else match S.tabs[(tabAt S D.table).toNat]? with
  | none => 0
  | some T => if D.kind = 4 ∨ D.kind = 5 then stC T D.column else if D.kind = 2 ∨ D.kind = 3 then stX T D.name else stF T D.name
theorem c_rState {s : PH} {t : Tri} {S : Sch} {ps : List TabP} (h : SchIs s t S ps) (D : Ddl) (u : Tri) : DCalls Try.prog 25 #[schV S t, ddlV D u] s fun y s' => y = .int .i64 (stateOf S D) ∧ s' = s := by
  obtain ⟨ua, un, uc⟩ := u
  obtain ⟨ta, tn, tc⟩ := t
  refine ok_rState S.version S.last ta tn tc D.kind D.table D.name D.column D.parent D.unique D.type D.dflt.kind D.dflt.n D.dflt.s ua un uc _ s ?_
  unfold vc_rState
  obtain ⟨R, hR⟩ : ∃ R : Value → PH → Prop, (fun y s' => y = .int .i64 (stateOf S D) ∧ s' = s) = R := ⟨_, rfl⟩
  have hret : ∀ {n : Int}, stateOf S D = n → R (.int .i64 n) s := fun e => by rw [← hR, ← e]; exact ⟨rfl, rfl⟩
  rw [hR]
  simp only [RP_join, RP_ite, RP_call, RP_callQ, RP_ret, RP_nw, RP_app, RP_st, RP_ld, RP_unSome, RP_guard, RP_loop, W.unSome_some]
  have hc := c_rTableAt (t := (ta, tn, tc)) h D.table
  refine callq ((tabAt S D.table, ()), ()) hc rfl ?_
  simp only [W.br_iff, decide_eq_true_eq, decide_eq_false_iff_not]
  refine ⟨fun h1 => ⟨fun h2 => hret ?_, fun h2 => hret ?_⟩, fun h1 => ⟨fun h2 => hret ?_, fun h2 => ?_⟩⟩
  · have h1 : D.kind = 1 := by simpa using h1
    unfold stateOf; rw [if_pos h1, if_pos h2]
  · have h1 : D.kind = 1 := by simpa using h1
    unfold stateOf; rw [if_pos h1, if_neg h2]
  · have h1 : D.kind ≠ 1 := by simpa using h1
    unfold stateOf; rw [if_neg h1, if_pos h2]
  have h1 : D.kind ≠ 1 := by simpa using h1
  obtain ⟨i, T, hi, hT, _⟩ := (seek_cases (fun T : Tab => decide (T.name = D.table)) S.tabs).resolve_left (fun e => by have := e.1; unfold tabAt at h2; omega)
  have hi : tabAt S D.table = (i : Int) := hi
  obtain ⟨p, hp, rfl⟩ : ∃ p, ps[i]? = some p ∧ p.T = T := by
    rw [h.eq, List.getElem?_map] at hT
    cases hq : ps[i]? with
    | none => rw [hq] at hT; cases hT
    | some pp => rw [hq] at hT; exact ⟨pp, rfl, Option.some.inj hT⟩
  have htn : tn = ps.length := h.el.len
  have hil := (List.getElem?_eq_some_iff.1 hp).1
  obtain ⟨ad, had, hh⟩ := h.el.el.at_enc hp
  dsimp only at had
  subst had
  have hst : stateOf S D = if D.kind = 4 ∨ D.kind = 5 then stC p.T D.column else if D.kind = 2 ∨ D.kind = 3 then stX p.T D.name else stF p.T D.name := by
    unfold stateOf
    rw [if_neg h1, if_neg h2, hi]
    simp only [Int.toNat_natCast, hT]
  have hP := h.all p (get_mem hp)
  obtain ⟨T, ⟨ca, can, cac⟩, ⟨xa, xan, xac⟩, ⟨ka, kan, kac⟩⟩ := p
  dsimp only at hst hT
  have hcan : can = T.cols.length := hP.c.len
  have hxan : xan = T.idxs.length := hP.x.len
  have hkan : kan = T.keys.length := hP.k.len
  rw [hi]
  refine ⟨by omega, ?_⟩
  simp only [W.unSome_some, Int.toNat_natCast]
  refine ld_has_z hh (y := (T.id, T.name, (ca, can, cac), (xa, xan, xac), (ka, kan, kac), ())) rfl ?_
  refine W.join_gen (fun z s' => z = ((D.kind, D.table, D.name, D.column, D.parent, D.unique, D.type, D.dflt.kind, D.dflt.n, D.dflt.s, (ua, un, uc), ()), (T.id, T.name, (ca, can, cac), (xa, xan, xac), (ka, kan, kac), ()), (decide (D.kind = 4 ∨ D.kind = 5), ()), ()) ∧ s' = s) ?_ ?_
  rotate_left
  · intro J hJ
    refine (W.br_iff _ _ _ _).2 ⟨fun h4 => hJ _ _ ⟨?_, rfl⟩, fun h4 => hJ _ _ ⟨?_, rfl⟩⟩
    · have h4 : D.kind = 4 := by simpa using h4
      simp [h4]
    · have h4 : D.kind ≠ 4 := by simpa using h4
      simp [h4, beq_dec]
  rintro _ s0 ⟨rfl, rfl⟩
  simp only [W.br_iff, decide_eq_true_eq, decide_eq_false_iff_not]
  refine ⟨fun h4 => ?_, fun h4 => ?_⟩
  · rw [if_pos h4] at hst
    have hc := c_rColumnAt (p := ⟨T, (ca, can, cac), (xa, xan, xac), (ka, kan, kac)⟩) hP.c D.column
    refine callq ((colAt T D.column, ()), ()) hc rfl ?_
    simp only [W.br_iff, decide_eq_true_eq, decide_eq_false_iff_not]
    refine ⟨fun hge => ?_, fun hlt => hret (by rw [hst]; unfold stC; rw [if_pos (by omega)])⟩
    obtain ⟨j, x, hj, hx, _⟩ := (seek_cases (fun c : Col => decide (c.name = D.column)) T.cols).resolve_left (fun e => by have := e.1; unfold colAt at hge; omega)
    have hj : colAt T D.column = (j : Int) := hj
    have hjl := (List.getElem?_eq_some_iff.1 hx).1
    obtain ⟨ad2, had2, hh2⟩ := hP.c.el.at_enc hx
    dsimp only at had2
    subst had2
    rw [hj]
    refine ⟨by omega, ?_⟩
    simp only [W.unSome_some, Int.toNat_natCast]
    refine ld_has (j := 3) hh2 (cs := [.int .i64]) (y := (x.state, ())) rfl ?_
    refine hret ?_
    rw [hst]; unfold stC
    rw [hj, if_neg (by omega)]
    simp only [Int.toNat_natCast, hx]
  rw [if_neg h4] at hst
  refine W.join_gen (fun z s' => z = ((D.kind, D.table, D.name, D.column, D.parent, D.unique, D.type, D.dflt.kind, D.dflt.n, D.dflt.s, (ua, un, uc), ()), (T.id, T.name, (ca, can, cac), (xa, xan, xac), (ka, kan, kac), ()), (decide (D.kind = 2 ∨ D.kind = 3), ()), ()) ∧ s' = s0) ?_ ?_
  rotate_left
  · intro J hJ
    refine (W.br_iff _ _ _ _).2 ⟨fun h4 => hJ _ _ ⟨?_, rfl⟩, fun h4 => hJ _ _ ⟨?_, rfl⟩⟩
    · have h4 : D.kind = 2 := by simpa using h4
      simp [h4]
    · have h4 : D.kind ≠ 2 := by simpa using h4
      simp [h4, beq_dec]
  rintro _ s1 ⟨rfl, rfl⟩
  simp only [W.br_iff, decide_eq_true_eq, decide_eq_false_iff_not]
  refine ⟨fun h5 => ?_, fun h5 => ?_⟩
  · rw [if_pos h5] at hst
    have hc := c_rIndexAt (p := ⟨T, (ca, can, cac), (xa, xan, xac), (ka, kan, kac)⟩) hP.x D.name
    refine callq ((idxAt T D.name, ()), ()) hc rfl ?_
    simp only [W.br_iff, decide_eq_true_eq, decide_eq_false_iff_not]
    refine ⟨fun hge => ?_, fun hlt => hret (by rw [hst]; unfold stX; rw [if_pos (by omega)])⟩
    obtain ⟨j, x, hj, hx, _⟩ := (seek_cases (fun c : Idx => decide (c.name = D.name)) T.idxs).resolve_left (fun e => by have := e.1; unfold idxAt at hge; omega)
    have hj : idxAt T D.name = (j : Int) := hj
    have hjl := (List.getElem?_eq_some_iff.1 hx).1
    obtain ⟨ad2, had2, hh2⟩ := hP.x.el.at_enc hx
    dsimp only at had2
    subst had2
    rw [hj]
    refine ⟨by omega, ?_⟩
    simp only [W.unSome_some, Int.toNat_natCast]
    refine ld_has (j := 4) hh2 (cs := [.int .i64]) (y := (x.state, ())) rfl ?_
    refine hret ?_
    rw [hst]; unfold stX
    rw [hj, if_neg (by omega)]
    simp only [Int.toNat_natCast, hx]
  · rw [if_neg h5] at hst
    have hc := c_rKeyAt (p := ⟨T, (ca, can, cac), (xa, xan, xac), (ka, kan, kac)⟩) hP.k D.name
    refine callq ((keyAt T D.name, ()), ()) hc rfl ?_
    simp only [W.br_iff, decide_eq_true_eq, decide_eq_false_iff_not]
    refine ⟨fun hge => ?_, fun hlt => hret (by rw [hst]; unfold stF; rw [if_pos (by omega)])⟩
    obtain ⟨j, x, hj, hx, _⟩ := (seek_cases (fun c : For => decide (c.name = D.name)) T.keys).resolve_left (fun e => by have := e.1; unfold keyAt at hge; omega)
    have hj : keyAt T D.name = (j : Int) := hj
    have hjl := (List.getElem?_eq_some_iff.1 hx).1
    obtain ⟨ad2, had2, hh2⟩ := hP.k.el.at_enc hx
    dsimp only at had2
    subst had2
    rw [hj]
    refine ⟨by omega, ?_⟩
    simp only [W.unSome_some, Int.toNat_natCast]
    refine ld_has (j := 4) hh2 (cs := [.int .i64]) (y := (x.state, ())) rfl ?_
    refine hret ?_
    rw [hst]; unfold stF
    rw [hj, if_neg (by omega)]
    simp only [Int.toNat_natCast, hx]
end Go.Proofs.Ythepfbcgpbkbdaa
end
section
set_option linter.unusedVariables false
set_option linter.unusedSimpArgs false
set_option maxHeartbeats 1000000
set_option maxRecDepth 100000
namespace Go.Proofs.Ythepfbcgpbkbdaa
open Fw Go
attribute [-simp] Fw.W.ld_iff Fw.W.st_iff
def withoutT (T : Tab) (D : Ddl) : Tab :=
  { T with cols := if (D.kind = 4 ∨ D.kind = 5) ∧ 0 ≤ colAt T D.column then T.cols.eraseIdx (colAt T D.column).toNat else T.cols
           idxs := if (D.kind = 2 ∨ D.kind = 3) ∧ 0 ≤ idxAt T D.name then T.idxs.eraseIdx (idxAt T D.name).toNat else T.idxs
           keys := if 6 ≤ D.kind ∧ 0 ≤ keyAt T D.name then T.keys.eraseIdx (keyAt T D.name).toNat else T.keys }
def outOf (D : Ddl) (T : Tab) : List Tab := if T.name ≠ D.table then [T] else if D.kind = 1 then [] else [withoutT T D]
def Sch.without (S : Sch) (D : Ddl) : Sch := ⟨0, 0, S.tabs.flatMap (outOf D)⟩
end Go.Proofs.Ythepfbcgpbkbdaa
end
section
set_option linter.unusedVariables false
set_option linter.unusedSimpArgs false
set_option maxHeartbeats 1000000
set_option maxRecDepth 100000
namespace Go.Proofs.Ythepfbcgpbkbdaa
open Fw Go
attribute [-simp] Fw.W.ld_iff Fw.W.st_iff
end Go.Proofs.Ythepfbcgpbkbdaa
end
section
set_option linter.unusedVariables false
set_option linter.unusedSimpArgs false
set_option maxHeartbeats 1000000
set_option maxRecDepth 100000
namespace Go.Proofs.Ythepfbcgpbkbdaa
open Fw Go
attribute [-simp] Fw.W.ld_iff Fw.W.st_iff
/-- a schema, and where its tables lie -/
structure SchP where
  S : Sch
  t : Tri
def schE : Enc SchP where
  sz := 3
  f p := [.int .i64 p.S.version, .int .i64 p.S.last, .slice p.t.1 p.t.2.1 p.t.2.2]
  len _ := rfl
  one p v hv := by simp at hv; rcases hv with rfl | rfl | rfl <;> rfl
  pos := by omega
def moved (D : Ddl) (S : Sch) (m : Int × Int) : Sch × Int := if m.1 = 1 ∨ m.1 = 2 then S.turn D m.2 else (S, 0)
def walk (D : Ddl) : Sch → List (Int × Int) → List Sch × Bool
  | _, [] => ([], true)
  | S, m :: ms => if (moved D S m).2 ≠ 0 then ([], false) else ((moved D S m).1 :: (walk D (moved D S m).1 ms).1, (walk D (moved D S m).1 ms).2)
theorem walk_cons (D : Ddl) (S : Sch) (m : Int × Int) (ms : List (Int × Int)) : walk D S (m :: ms) = if (moved D S m).2 ≠ 0 then ([], false) else ((moved D S m).1 :: (walk D (moved D S m).1 ms).1, (walk D (moved D S m).1 ms).2) := rfl
/-- the heap without what lies in the blocks -/
def hid (L : List Nat) (s : PH) : PH := fun k => if k ∈ L then none else s k
theorem hid_le (L : List Nat) (s : PH) : (hid L s).le s := fun b o h => by
  unfold hid at h
  split at h
  · cases h
  · exact h
theorem hid_mod (L : List Nat) (s : PH) : Fw.Mod L s (hid L s) := fun k _ h => by unfold hid; rw [if_neg h]
theorem hid_step {L L' : List Nat} {s s' : PH} (m : Fw.Mod L s s') (hL : ∀ g ∈ L', g ∈ L ∨ s g = none) : (hid L s).le (hid L' s') := fun b o h => by
  unfold hid at h ⊢
  split at h
  · cases h
  · rename_i hb
    have hk : s b ≠ none := by rw [h]; simp
    rw [if_neg (fun e => by rcases hL b e with e | e; exact hb e; exact hk e), m b hk hb]; exact h
/-- schemas that can be read beside the list's own block -/
def Read (s : PH) (a : Option Addr) (p : SchP) : Prop := ∃ ps, SchIs (hid (Fw.blk a) s) p.t p.S ps
theorem Read.is {s : PH} {a : Option Addr} {p : SchP} (h : Read s a p) : ∃ ps, SchIs s p.t p.S ps := by
  obtain ⟨ps, hp⟩ := h
  exact ⟨ps, hp.mono (hid_le _ _)⟩
theorem grow3 {α : Type} {E : Enc α} {e : TypeId} {bytes : Nat} {zero : List Value} {s : PH} {a : Option Addr} {n c : Nat} {xs : List α} {x : α} {K : Option Addr → Nat → Nat → W.T} (h : rowE E s e a n c xs)
    (hz : zero.length = E.sz) (hl : xs.length ≤ 1099511627776) (hby : bytes ≤ 100) (hK : ∀ a' c' s', rowE E s' e a' (n + 1) c' (xs ++ [x]) → (∀ g ∈ Fw.blk a', g ∈ Fw.blk a ∨ s g = none) → Fw.Mod (Fw.blk a) s s' → K a' (n + 1) c' s') :
    W.nw (.cells (E.f x).toArray e (0, 0)) (fun r => W.app e E.sz bytes zero a n c (Src.sl (some ⟨r, 0, none⟩) 1) K) s := by
  refine W.nw_of fun r s1 hr m1 k1 => ?_
  have hmax : maxLen = 9223372036854775807 := rfl
  have hn : n = xs.length := h.len
  have hb : (n + 1) * bytes ≤ (n + 1) * 100 := Nat.mul_le_mul_left _ hby
  refine app_rowE (h.mod m1 (by simp)) hz (ys := [x]) (k := 1) (src_has (by have := has_block k1; simpa using this) rfl) rfl rfl (by omega) (by omega) ?_
  intro a' c' s2 h' hm
  refine hK a' c' s2 h' ?_ ?_
  · rcases hm with ⟨e, _⟩ | ⟨g, e, hg, _⟩
    · rw [e]; exact fun g hg => .inl hg
    · intro g' hg'
      rw [e] at hg'
      have : g' = g := by simpa [Fw.blk] using hg'
      subst this
      exact .inr (m1.none hg (by simp))
  · rcases hm with ⟨_, hm⟩ | ⟨_, _, _, hm⟩
    · exact (m1.mono (by simp)).trans hm
    · exact (m1.trans hm).mono (by simp)
theorem Read.step {s s' : PH} {a a' : Option Addr} {p : SchP} (h : Read s a p) (m : Fw.Mod (Fw.blk a) s s') (hL : ∀ g ∈ Fw.blk a', g ∈ Fw.blk a ∨ s g = none) : Read s' a' p := by
  obtain ⟨ps, hp⟩ := h
  exact ⟨ps, hp.mono (hid_step m hL)⟩
def WalkIs (s : PH) (D : Ddl) (S : Sch) (ms : List (Int × Int)) (y : Value) (s' : PH) : Prop :=
  ∃ (v : Tri) (l : List SchP), y = .tuple #[v.v, .bool (walk D S ms).2] ∧ rowE schE s' 24 v.1 v.2.1 v.2.2 l ∧ l.map (·.S) = S :: (walk D S ms).1 ∧ (∀ p ∈ l, ∃ ps, SchIs s' p.t p.S ps) ∧ Fw.Mod [] s s'
theorem c_walked {s : PH} {t : Tri} {S : Sch} {ps : List TabP} (h : SchIs s t S ps) (D : Ddl) {u : Tri} (hu : Sl colE s u D.cols) (hul : D.cols.length ≤ 1073741824) {mt : Tri} {ms : List (Int × Int)} (hm : elems (Rd.enc movE) s mt.1 mt.2.1 ms) (hml : ms.length ≤ 1000) :
    DCalls Try.prog 26 #[schV S t, ddlV D u, mt.v] s (WalkIs s D S ms) := by
  obtain ⟨ua, un, uc⟩ := u
  obtain ⟨ta, tn, tc⟩ := t
  obtain ⟨ma, mn, mc⟩ := mt
  refine ok_walked S.version S.last ta tn tc D.kind D.table D.name D.column D.parent D.unique D.type D.dflt.kind D.dflt.n D.dflt.s ua un uc ma mn mc _ s ?_
  unfold vc_walked
  have hmn : mn = ms.length := hm.1
  obtain ⟨R, hR⟩ : ∃ R, WalkIs s D S ms = R := ⟨_, rfl⟩
  rw [hR]
  simp only [RP_join, RP_ite, RP_call, RP_callQ, RP_ret, RP_nw, RP_app, RP_st, RP_ld, RP_unSome, RP_guard, RP_loop, W.unSome_some]
  refine W.nw_of fun r s1 hr m1 k1 => ?_
  have r1 : rowE schE s1 24 (some ⟨r, 0, none⟩) 1 1 [⟨S, (ta, tn, tc)⟩] := row_one (E := schE) (e := 24) k1 rfl
  have rd1 : Read s1 (some ⟨r, 0, none⟩) ⟨S, (ta, tn, tc)⟩ := by
    refine ⟨ps, h.mono ?_⟩
    have := hid_step (L := []) (L' := [r]) m1 (fun g hg => by have : g = r := by simpa using hg
                                                              subst this; exact .inr hr)
    have e : hid [] s = s := by funext k; simp [hid]
    rw [e] at this
    exact this
  have hfr : ∀ g ∈ Fw.blk (some (Addr.mk r 0 none)), s g = none := by
    intro g hg
    have : g = r := by simpa [Fw.blk] using hg
    subst this
    exact hr
  have hrd1 : ∀ q ∈ [SchP.mk S (ta, tn, tc)], Read s1 (some (Addr.mk r 0 none)) q := by
    intro q hq
    have : q = ⟨S, (ta, tn, tc)⟩ := by simpa using hq
    subst this
    exact rd1
  refine ⟨fun z s' => ∃ (k n c : Nat) (a : Option Addr) (l : List SchP) (p : SchP) (pre : List Sch), z = ((p.S.version, p.S.last, p.t, ()), (D.kind, D.table, D.name, D.column, D.parent, D.unique, D.type, D.dflt.kind, D.dflt.n, D.dflt.s, (ua, un, uc), ()), ((a, n, c), ()), ((ma, mn, mc), ()), ((mn : Int), ()), ((k : Int), ()), ()) ∧ k ≤ mn ∧ rowE schE s' 24 a n c l ∧ (∀ g ∈ Fw.blk a, s g = none) ∧
    Fw.Mod [] s s' ∧ (∀ q ∈ l, Read s' a q) ∧ Read s' a p ∧ l.map (·.S) = S :: pre ∧ l.length = k + 1 ∧ walk D S ms = (pre ++ (walk D p.S (ms.drop k)).1, (walk D p.S (ms.drop k)).2), fun z _ => mn - z.2.2.2.2.2.1.1.toNat,
    ⟨0, 1, 1, _, _, ⟨S, (ta, tn, tc)⟩, [], rfl, Nat.zero_le _, r1, hfr, m1, hrd1, rd1, rfl, rfl, rfl⟩, ?_⟩
  rintro _ s2 ⟨k, n, c, a, l, p, pre, rfl, hk, hrow, hf, m2, hrd, hrp, hl, hll, hwk⟩
  have hend : ∀ s3 b, Fw.Mod [] s2 s3 → walk D S ms = (pre, b) → R (.tuple #[.slice a n c, .bool b]) s3 := by
    intro s3 b m3 e
    rw [← hR]
    refine ⟨(a, n, c), l, by rw [e], hrow.mod m3 (by simp), by rw [e]; exact hl, fun q hq => ?_, m2.trans m3⟩
    obtain ⟨qs, hq2⟩ := (hrd q hq).is
    exact ⟨qs, hq2.mono m3.le⟩
  simp only [W.br_iff, decide_eq_true_eq, decide_eq_false_iff_not]
  refine ⟨fun hlt => ?_, fun hge => ?_⟩
  · have hlt : k < mn := by omega
    obtain ⟨x, hx⟩ : ∃ x, ms[k]? = some x := ⟨_, List.getElem?_eq_getElem (by omega)⟩
    have hdr : ms.drop k = x :: ms.drop (k + 1) := drop_some hx
    rw [hdr] at hwk
    obtain ⟨ad, had, hh⟩ := (hm.mono m2.le).at_enc hx
    dsimp only at had
    subst had
    refine ⟨by omega, ?_⟩
    simp only [W.unSome_some, Int.toNat_natCast]
    refine ld_has_z hh (y := (x.1, x.2, ())) rfl ?_
    have hw := wrap_succ (k := k) (by omega)
    have next : ∀ (s3 : PH) (q : SchP), Fw.Mod [] s2 s3 → Read s3 a q → moved D p.S x = (q.S, 0) →
        W.nw (.cells (schE.f q).toArray 24 (0, 0)) (fun r => W.app 24 3 40 [.int .i64 0, .int .i64 0, .slice none 0 0] a n c (Src.sl (some ⟨r, 0, none⟩) 1) fun a' n' c' s' =>
          (∃ (k' n c : Nat) (a : Option Addr) (l : List SchP) (p' : SchP) (pre : List Sch), (((q.S.version, q.S.last, q.t, ()), (D.kind, D.table, D.name, D.column, D.parent, D.unique, D.type, D.dflt.kind, D.dflt.n, D.dflt.s, (ua, un, uc), ()), ((a', n', c'), ()), ((some ad, mn, mc), ()), ((mn : Int), ()), (IntKind.i64.wrap ((k : Int) + 1), ()), ()) : MDen [(true, [.int .i64, .int .i64, .slice]), (true, [.int .i64, .str, .str, .str, .str, .bool, .int .i64, .int .i64, .int .i64, .str, .slice]), (false, [.slice]), (false, [.slice]), (false, [.int .i64]), (false, [.int .i64])]) =
            ((p'.S.version, p'.S.last, p'.t, ()), (D.kind, D.table, D.name, D.column, D.parent, D.unique, D.type, D.dflt.kind, D.dflt.n, D.dflt.s, (ua, un, uc), ()), ((a, n, c), ()), ((some ad, mn, mc), ()), ((mn : Int), ()), ((k' : Int), ()), ()) ∧ k' ≤ mn ∧ rowE schE s' 24 a n c l ∧ (∀ g ∈ Fw.blk a, s g = none) ∧
            Fw.Mod [] s s' ∧ (∀ q ∈ l, Read s' a q) ∧ Read s' a p' ∧ l.map (·.S) = S :: pre ∧ l.length = k' + 1 ∧ walk D S ms = (pre ++ (walk D p'.S (ms.drop k')).1, (walk D p'.S (ms.drop k')).2)) ∧ mn - (IntKind.i64.wrap ((k : Int) + 1)).toNat < mn - k) s3 := by
      intro s3 q m3 hq hmv
      refine grow3 (E := schE) (x := q) (hrow.mod m3 (by simp)) rfl (by omega) (by omega) ?_
      intro a' c' s4 h4 f4 m4
      have m13 := m2.trans m3
      have hq4 := hq.step m4 f4
      rw [hw]
      refine ⟨⟨k + 1, n + 1, c', a', l ++ [q], q, pre ++ [q.S], rfl, hlt, h4, fun g hg => ?_, m13.fresh m4 fun g hg => .inr (hf g hg), fun q' hq' => ?_, hq4, by simp [hl], by simp [hll], ?_⟩, by simp only [Int.toNat_natCast]; omega⟩
      · rcases f4 g hg with e | e
        · exact hf g e
        · exact m13.none e (by simp)
      · rcases List.mem_append.1 hq' with hq' | hq'
        · exact ((hrd q' hq').step (m3.mono (by simp)) (fun g hg => .inl hg)).step m4 f4
        · have : q' = q := by simpa using hq'
          subst this
          exact hq4
      · rw [hwk]
        rw [walk_cons, hmv, if_neg (by simp)]
        simp
    refine W.join_gen (fun z s' => z = ((p.S.version, p.S.last, p.t, ()), (D.kind, D.table, D.name, D.column, D.parent, D.unique, D.type, D.dflt.kind, D.dflt.n, D.dflt.s, (ua, un, uc), ()), ((a, n, c), ()), (x.1, x.2, ()), ((some ad, mn, mc), ()), ((mn : Int), ()), ((k : Int), ()), (decide (x.1 = 1 ∨ x.1 = 2), ()), ()) ∧ s' = s2) ?_ ?_
    rotate_left
    · intro J hJ
      refine (W.br_iff _ _ _ _).2 ⟨fun h4 => hJ _ _ ⟨?_, rfl⟩, fun h4 => hJ _ _ ⟨?_, rfl⟩⟩
      · have h4 : x.1 = 1 := by simpa using h4
        simp [h4]
      · have h4 : x.1 ≠ 1 := by simpa using h4
        simp [h4, beq_dec]
    rintro _ s3 ⟨rfl, rfl⟩
    simp only [W.br_iff, decide_eq_true_eq, decide_eq_false_iff_not]
    refine ⟨fun hmv => ?_, fun hmv => ?_⟩
    · obtain ⟨qs, hq⟩ := hrp.is
      have hcT := c_Turn hq D (hu.mono m2.le) hul x.2
      have hsm := turn_sm p.S D x.2
      have hmoved : moved D p.S x = p.S.turn D x.2 := by unfold moved; rw [if_pos hmv]
      generalize p.S.turn D x.2 = pr at hcT hsm hmoved
      obtain ⟨S', e⟩ := pr
      dsimp only at hcT hsm
      refine W.call_of hcT ?_
      intro y s4 hg
      obtain ⟨t2, ps2, rfl, hS2, hH2, m4, f4⟩ := gives_at hg hsm
      refine ⟨((S'.version, S'.last, t2, ()), (e, ()), ()), rfl, ?_⟩
      refine (W.br_iff _ _ _ _).2 ⟨fun hne => ?_, fun he => ?_⟩
      · have hne : (e != 0) = true := hne
        have hne : e ≠ 0 := by simpa using hne
        refine hend s4 false m4 ?_
        rw [hwk, walk_cons, hmoved, if_pos hne]; simp
      · have he : (e != 0) = false := he
        have he : e = 0 := by simpa using he
        subst he
        have hHh : Has (hid (Fw.blk a) s4) t2 ps2 := hH2.mod (hid_mod (Fw.blk a) s4) fun g hg hg2 => hrow.known g hg2 (f4 g hg)
        exact next s4 ⟨S', t2⟩ m4 ⟨ps2, hHh.sm (by obtain ⟨t', ps', e1, e2, e3, _⟩ := hg; exact hS2.eq) hsm⟩ hmoved
    · exact next s3 p (Mod.refl _ _) hrp (by unfold moved; rw [if_neg hmv])
  · have hke : k = ms.length := by omega
    have hdr : ms.drop k = [] := List.drop_eq_nil_of_le (by omega)
    rw [hdr] at hwk
    refine hend s2 true (Mod.refl _ _) ?_
    rw [hwk]; simp [walk]
end Go.Proofs.Ythepfbcgpbkbdaa
end
section
set_option linter.unusedVariables false
set_option linter.unusedSimpArgs false
set_option maxHeartbeats 1000000
set_option maxRecDepth 100000
namespace Go.Proofs.Ythepfbcgpbkbdaa
open Fw Go
theorem turn_ok {S S' : Sch} {D : Ddl} {st : Int} (h : S.turn D st = (S', 0)) : right S = true ∧ 0 ≤ st ∧ st ≤ 3 ∧ 1 ≤ D.kind ∧ D.kind ≤ 7 ∧ turn1 { S with version := S.version + 1 } D st = .ok S' := by
  unfold Sch.turn at h
  by_cases hr : (right S && (decide (0 ≤ st) && decide (st ≤ 3))) = false
  · rw [if_pos hr] at h
    have : (100 : Int) = 0 := congrArg Prod.snd h
    omega
  rw [if_neg hr] at h
  by_cases hk : D.kind < 1 ∨ 7 < D.kind
  · rw [if_pos hk] at h
    have : (1 : Int) = 0 := congrArg Prod.snd h
    omega
  rw [if_neg hk] at h
  have hr : (right S && (decide (0 ≤ st) && decide (st ≤ 3))) = true := by
    cases e : (right S && (decide (0 ≤ st) && decide (st ≤ 3)))
    · exact absurd e hr
    · rfl
  simp only [Bool.and_eq_true, decide_eq_true_eq] at hr
  cases e : turn1 { S with version := S.version + 1 } D st with
  | error n =>
    rw [e] at h
    have := congrArg Prod.snd h
    exact absurd this (turn1_err _ _ _ n e)
  | ok S2 =>
    rw [e] at h
    have := congrArg Prod.fst h
    subst this
    exact ⟨hr.1, hr.2.1, hr.2.2, by omega, by omega, rfl⟩
def Res.All (P : Sch → Prop) (r : Res) : Prop := ∀ S', r = .ok S' → P S'
theorem all_ite {P : Sch → Prop} {c : Prop} [Decidable c] {a b : Res} (ha : c → a.All P) (hb : ¬ c → b.All P) : Res.All P (if c then a else b) := by
  by_cases h : c
  · rw [if_pos h]; exact ha h
  · rw [if_neg h]; exact hb h
theorem all_e {P : Sch → Prop} {e : Int} : Res.All P (.error e) := fun S' h' => by cases h'
theorem all_o {P : Sch → Prop} {S : Sch} (h : P S) : Res.All P (.ok S) := fun e' h' => by cases h'; exact h
theorem seek_cons {α : Type} (p : α → Bool) (x : α) (l : List α) (n : Nat) : seek p (x :: l) n = if p x = true then (n : Int) else seek p l (n + 1) := rfl
theorem seek_set {α : Type} {p : α → Bool} {x x' : α} (hp : p x' = p x) : ∀ (l : List α) (i n : Nat), l[i]? = some x → seek p (l.set i x') n = seek p l n
  | [], i, n, h => by simp at h
  | y :: l, 0, n, h => by
    simp at h; subst h
    rw [List.set_cons_zero, seek_cons, seek_cons, hp]
  | y :: l, i + 1, n, h => by
    rw [List.set_cons_succ, seek_cons, seek_cons, seek_set hp l i (n + 1) (by simpa using h)]
/-- what was not there is found behind, once it is put there -/
theorem seek_snoc {α : Type} {p : α → Bool} {x : α} (hx : p x = true) : ∀ (l : List α) (n : Nat), seek p l n = -1 → seek p (l ++ [x]) n = ((n + l.length : Nat) : Int)
  | [], n, _ => by rw [List.nil_append, seek_cons, if_pos hx]; simp
  | y :: l, n, h => by
    rw [seek_cons] at h
    by_cases hy : p y = true
    · rw [if_pos hy] at h; omega
    · rw [if_neg hy] at h
      rw [List.cons_append, seek_cons, if_neg hy, seek_snoc hx l (n + 1) h]
      simp only [List.length_cons]; omega
theorem tabAt_set {S : Sch} {v l : Int} {i : Nat} {T T' : Tab} (hT : S.tabs[i]? = some T) (hn : T'.name = T.name) (name : ByteArray) : tabAt ⟨v, l, S.tabs.set i T'⟩ name = tabAt S name := by
  unfold tabAt
  exact seek_set (p := fun T : Tab => decide (T.name = name)) (by rw [hn]) S.tabs i 0 hT
/-- the table of a change, after it -/
theorem stateOf_set {S : Sch} {D : Ddl} {v l : Int} {i : Nat} {T T' : Tab} (h1 : D.kind ≠ 1) (hi : tabAt S D.table = (i : Int)) (hT : S.tabs[i]? = some T) (hn : T'.name = T.name) :
    stateOf ⟨v, l, S.tabs.set i T'⟩ D = if D.kind = 4 ∨ D.kind = 5 then stC T' D.column else if D.kind = 2 ∨ D.kind = 3 then stX T' D.name else stF T' D.name := by
  have hil := (List.getElem?_eq_some_iff.1 hT).1
  unfold stateOf
  rw [if_neg h1, tabAt_set hT hn, hi, if_neg (by omega)]
  simp only [Int.toNat_natCast, List.getElem?_set_self hil]
theorem stC_app {T : Tab} {name : ByteArray} {x : Col} (h : colAt T name < 0) (hx : x.name = name) : stC { T with cols := T.cols ++ [x] } name = x.state := by
  have h1 : seek (fun c : Col => decide (c.name = name)) T.cols 0 = -1 := by
    rcases seek_cases (fun c : Col => decide (c.name = name)) T.cols with ⟨e, _⟩ | ⟨j, y, e, _⟩
    · exact e
    · have : colAt T name = (j : Int) := e
      omega
  have h2 : colAt { T with cols := T.cols ++ [x] } name = (T.cols.length : Int) := by
    have := seek_snoc (p := fun c : Col => decide (c.name = name)) (x := x) (decide_eq_true hx) T.cols 0 h1
    rw [Nat.zero_add] at this
    exact this
  unfold stC
  rw [h2, if_neg (by omega)]
  simp
theorem stC_set {T : Tab} {name : ByteArray} {j : Nat} {x x' : Col} (h : colAt T name = (j : Int)) (hx : T.cols[j]? = some x) (hn : x'.name = x.name) : stC { T with cols := T.cols.set j x' } name = x'.state := by
  have hj := (List.getElem?_eq_some_iff.1 hx).1
  have h2 : colAt { T with cols := T.cols.set j x' } name = (j : Int) := by
    rw [← h]
    exact seek_set (p := fun c : Col => decide (c.name = name)) (by rw [hn]) T.cols j 0 hx
  unfold stC
  rw [h2, if_neg (by omega)]
  simp only [Int.toNat_natCast, List.getElem?_set_self hj]
theorem stX_app {T : Tab} {name : ByteArray} {x : Idx} (h : idxAt T name < 0) (hx : x.name = name) : stX { T with idxs := T.idxs ++ [x] } name = x.state := by
  have h1 : seek (fun c : Idx => decide (c.name = name)) T.idxs 0 = -1 := by
    rcases seek_cases (fun c : Idx => decide (c.name = name)) T.idxs with ⟨e, _⟩ | ⟨j, y, e, _⟩
    · exact e
    · have : idxAt T name = (j : Int) := e
      omega
  have h2 : idxAt { T with idxs := T.idxs ++ [x] } name = (T.idxs.length : Int) := by
    have := seek_snoc (p := fun c : Idx => decide (c.name = name)) (x := x) (decide_eq_true hx) T.idxs 0 h1
    rw [Nat.zero_add] at this
    exact this
  unfold stX
  rw [h2, if_neg (by omega)]
  simp
theorem stX_set {T : Tab} {name : ByteArray} {j : Nat} {x x' : Idx} (h : idxAt T name = (j : Int)) (hx : T.idxs[j]? = some x) (hn : x'.name = x.name) : stX { T with idxs := T.idxs.set j x' } name = x'.state := by
  have hj := (List.getElem?_eq_some_iff.1 hx).1
  have h2 : idxAt { T with idxs := T.idxs.set j x' } name = (j : Int) := by
    rw [← h]
    exact seek_set (p := fun c : Idx => decide (c.name = name)) (by rw [hn]) T.idxs j 0 hx
  unfold stX
  rw [h2, if_neg (by omega)]
  simp only [Int.toNat_natCast, List.getElem?_set_self hj]
theorem stF_app {T : Tab} {name : ByteArray} {x : For} (h : keyAt T name < 0) (hx : x.name = name) : stF { T with keys := T.keys ++ [x] } name = x.state := by
  have h1 : seek (fun c : For => decide (c.name = name)) T.keys 0 = -1 := by
    rcases seek_cases (fun c : For => decide (c.name = name)) T.keys with ⟨e, _⟩ | ⟨j, y, e, _⟩
    · exact e
    · have : keyAt T name = (j : Int) := e
      omega
  have h2 : keyAt { T with keys := T.keys ++ [x] } name = (T.keys.length : Int) := by
    have := seek_snoc (p := fun c : For => decide (c.name = name)) (x := x) (decide_eq_true hx) T.keys 0 h1
    rw [Nat.zero_add] at this
    exact this
  unfold stF
  rw [h2, if_neg (by omega)]
  simp
theorem stF_set {T : Tab} {name : ByteArray} {j : Nat} {x x' : For} (h : keyAt T name = (j : Int)) (hx : T.keys[j]? = some x) (hn : x'.name = x.name) : stF { T with keys := T.keys.set j x' } name = x'.state := by
  have hj := (List.getElem?_eq_some_iff.1 hx).1
  have h2 : keyAt { T with keys := T.keys.set j x' } name = (j : Int) := by
    rw [← h]
    exact seek_set (p := fun c : For => decide (c.name = name)) (by rw [hn]) T.keys j 0 hx
  unfold stF
  rw [h2, if_neg (by omega)]
  simp only [Int.toNat_natCast, List.getElem?_set_self hj]
/-- names are there once -/
def Once {α : Type} (f : α → ByteArray) (l : List α) : Prop := ∀ (i j : Nat) (x y : α), l[i]? = some x → l[j]? = some y → f x = f y → i = j
theorem once_of {α : Type} {f : α → ByteArray} {l : List α} (h : ∀ (i : Nat) (x : α), l[i]? = some x → seek (fun y : α => decide (f y = f x)) l 0 = (i : Int)) : Once f l := by
  intro i j x y hx hy e
  have h1 := h i x hx
  have h2 := h j y hy
  rw [e] at h1
  rw [h1] at h2
  omega
theorem once_erase {α : Type} {f : α → ByteArray} {l : List α} (h : Once f l) {j : Nat} {x : α} (hx : l[j]? = some x) : seek (fun y : α => decide (f y = f x)) (l.eraseIdx j) 0 = -1 := by
  rcases seek_cases (fun y : α => decide (f y = f x)) (l.eraseIdx j) with ⟨e, _⟩ | ⟨k, y, _, hy, hp, _⟩
  · exact e
  · rw [List.getElem?_eraseIdx] at hy
    have hp : f y = f x := of_decide_eq_true hp
    split at hy
    · have := h k j y x hy hx hp
      omega
    · have := h (k + 1) j y x hy hx hp
      omega
theorem stC_erase {T : Tab} {name : ByteArray} {j : Nat} {x : Col} (ho : Once Col.name T.cols) (hx : T.cols[j]? = some x) (hn : x.name = name) : stC { T with cols := T.cols.eraseIdx j } name = 0 := by
  have h2 : colAt { T with cols := T.cols.eraseIdx j } name = -1 := by
    have := once_erase ho hx
    rw [hn] at this
    exact this
  unfold stC
  rw [h2, if_pos (by omega)]
theorem stX_erase {T : Tab} {name : ByteArray} {j : Nat} {x : Idx} (ho : Once Idx.name T.idxs) (hx : T.idxs[j]? = some x) (hn : x.name = name) : stX { T with idxs := T.idxs.eraseIdx j } name = 0 := by
  have h2 : idxAt { T with idxs := T.idxs.eraseIdx j } name = -1 := by
    have := once_erase ho hx
    rw [hn] at this
    exact this
  unfold stX
  rw [h2, if_pos (by omega)]
theorem stF_erase {T : Tab} {name : ByteArray} {j : Nat} {x : For} (ho : Once For.name T.keys) (hx : T.keys[j]? = some x) (hn : x.name = name) : stF { T with keys := T.keys.eraseIdx j } name = 0 := by
  have h2 : keyAt { T with keys := T.keys.eraseIdx j } name = -1 := by
    have := once_erase ho hx
    rw [hn] at this
    exact this
  unfold stF
  rw [h2, if_pos (by omega)]
theorem stC_placed {T : Tab} {name : ByteArray} {j : Nat} {x : Col} {st : Int} (ho : Once Col.name T.cols) (h : colAt T name = (j : Int)) (hx : T.cols[j]? = some x) (hn : x.name = name) : stC { T with cols := placed T.cols j st (x.put st) } name = st := by
  unfold placed
  by_cases h0 : st = 0
  · rw [if_pos h0, h0]; exact stC_erase ho hx hn
  · rw [if_neg h0]; exact stC_set h hx rfl
theorem stX_placed {T : Tab} {name : ByteArray} {j : Nat} {x : Idx} {st : Int} (ho : Once Idx.name T.idxs) (h : idxAt T name = (j : Int)) (hx : T.idxs[j]? = some x) (hn : x.name = name) : stX { T with idxs := placed T.idxs j st (x.put st) } name = st := by
  unfold placed
  by_cases h0 : st = 0
  · rw [if_pos h0, h0]; exact stX_erase ho hx hn
  · rw [if_neg h0]; exact stX_set h hx rfl
theorem stF_placed {T : Tab} {name : ByteArray} {j : Nat} {x : For} {st : Int} (ho : Once For.name T.keys) (h : keyAt T name = (j : Int)) (hx : T.keys[j]? = some x) (hn : x.name = name) : stF { T with keys := placed T.keys j st (x.put st) } name = st := by
  unfold placed
  by_cases h0 : st = 0
  · rw [if_pos h0, h0]; exact stF_erase ho hx hn
  · rw [if_neg h0]; exact stF_set h hx rfl
end Go.Proofs.Ythepfbcgpbkbdaa
end
section
set_option linter.unusedVariables false
set_option linter.unusedSimpArgs false
set_option maxHeartbeats 1000000
set_option maxRecDepth 100000
namespace Go.Proofs.Ythepfbcgpbkbdaa
open Fw Go
/-- names that may be, each there once -/
def NamesOk {α : Type} (f : α → ByteArray) (l : List α) : Prop := (∀ x ∈ l, named (f x) = true) ∧ (l.map f).Nodup
theorem nod_once {α β : Type} [DecidableEq β] {f : α → β} {l : List α} : (l.map f).Nodup ↔ ∀ (i : Nat) (x : α), l[i]? = some x → seek (fun y : α => decide (f y = f x)) l 0 = (i : Int) := by
  constructor
  · intro h i x hx
    rcases seek_cases (fun y : α => decide (f y = f x)) l with ⟨_, e⟩ | ⟨j, y, e, hy, hp, hmin⟩
    · have := e x (List.mem_of_getElem? hx)
      simp at this
    · rw [e]
      have hp : f y = f x := of_decide_eq_true hp
      obtain ⟨hi1, hi2⟩ := List.getElem?_eq_some_iff.1 hx
      obtain ⟨hj1, hj2⟩ := List.getElem?_eq_some_iff.1 hy
      have := (List.getElem_inj (i := j) (j := i) (h₀ := by simpa using hj1) (h₁ := by simpa using hi1) h).1 (by simp only [List.getElem_map, hi2, hj2, hp])
      omega
  · intro h
    rw [List.Nodup, List.pairwise_iff_getElem]
    intro i j hi hj hij e
    simp only [List.getElem_map] at e
    simp only [List.length_map] at hi hj
    have h1 := h i l[i] (by simp)
    have h2 := h j l[j] (by simp)
    rw [e] at h1
    rw [h1] at h2
    omega
theorem namesC_iff {l : List Col} : allI (nameC l) l = true ↔ NamesOk Col.name l := by
  rw [allI_iff]
  unfold NamesOk
  rw [nod_once]
  constructor
  · intro h
    refine ⟨fun x hx => ?_, fun i x hx => ?_⟩
    · obtain ⟨i, hi⟩ := List.mem_iff_getElem?.1 hx
      have := h i x hi
      unfold nameC at this
      simp only [Bool.and_eq_true, decide_eq_true_eq] at this
      exact this.1
    · have := h i x hx
      unfold nameC at this
      simp only [Bool.and_eq_true, decide_eq_true_eq] at this
      exact this.2
  · rintro ⟨h1, h2⟩ i x hx
    unfold nameC
    simp only [Bool.and_eq_true, decide_eq_true_eq]
    exact ⟨h1 x (List.mem_of_getElem? hx), h2 i x hx⟩
theorem namesX_iff {l : List Idx} : allI (nameX l) l = true ↔ NamesOk Idx.name l := by
  rw [allI_iff]
  unfold NamesOk
  rw [nod_once]
  constructor
  · intro h
    refine ⟨fun x hx => ?_, fun i x hx => ?_⟩
    · obtain ⟨i, hi⟩ := List.mem_iff_getElem?.1 hx
      have := h i x hi
      unfold nameX at this
      simp only [Bool.and_eq_true, decide_eq_true_eq] at this
      exact this.1
    · have := h i x hx
      unfold nameX at this
      simp only [Bool.and_eq_true, decide_eq_true_eq] at this
      exact this.2
  · rintro ⟨h1, h2⟩ i x hx
    unfold nameX
    simp only [Bool.and_eq_true, decide_eq_true_eq]
    exact ⟨h1 x (List.mem_of_getElem? hx), h2 i x hx⟩
theorem namesF_iff {l : List For} : allI (nameF l) l = true ↔ NamesOk For.name l := by
  rw [allI_iff]
  unfold NamesOk
  rw [nod_once]
  constructor
  · intro h
    refine ⟨fun x hx => ?_, fun i x hx => ?_⟩
    · obtain ⟨i, hi⟩ := List.mem_iff_getElem?.1 hx
      have := h i x hi
      unfold nameF at this
      simp only [Bool.and_eq_true, decide_eq_true_eq] at this
      exact this.1
    · have := h i x hx
      unfold nameF at this
      simp only [Bool.and_eq_true, decide_eq_true_eq] at this
      exact this.2
  · rintro ⟨h1, h2⟩ i x hx
    unfold nameF
    simp only [Bool.and_eq_true, decide_eq_true_eq]
    exact ⟨h1 x (List.mem_of_getElem? hx), h2 i x hx⟩
theorem namesT_iff {l : List Tab} : allI (nameT l) l = true ↔ NamesOk Tab.name l := by
  rw [allI_iff]
  unfold NamesOk
  rw [nod_once]
  constructor
  · intro h
    refine ⟨fun x hx => ?_, fun i x hx => ?_⟩
    · obtain ⟨i, hi⟩ := List.mem_iff_getElem?.1 hx
      have := h i x hi
      unfold nameT at this
      simp only [Bool.and_eq_true, decide_eq_true_eq] at this
      exact this.1
    · have := h i x hx
      unfold nameT at this
      simp only [Bool.and_eq_true, decide_eq_true_eq] at this
      exact this.2
  · rintro ⟨h1, h2⟩ i x hx
    unfold nameT
    simp only [Bool.and_eq_true, decide_eq_true_eq]
    exact ⟨h1 x (List.mem_of_getElem? hx), h2 i x hx⟩
theorem runIds_iff (last : Int) : ∀ (l seen : List Int), runIds last l seen = true ↔ (∀ n ∈ l, 1 ≤ n ∧ n ≤ last ∧ n ∉ seen) ∧ l.Nodup
  | [], seen => by simp [runIds]
  | n :: l, seen => by
    simp only [runIds, Bool.and_eq_true, decide_eq_true_eq, Bool.not_eq_true', decide_eq_false_iff_not, runIds_iff last l, List.nodup_cons, List.mem_cons]
    constructor
    · rintro ⟨⟨a, b⟩, c, d, e⟩
      refine ⟨?_, fun hn => (d n hn).2.2 (.inl rfl), e⟩
      rintro m (rfl | hm)
      · exact ⟨a, b, c⟩
      · exact ⟨(d m hm).1, (d m hm).2.1, fun h => (d m hm).2.2 (.inr h)⟩
    · rintro ⟨a, b, c⟩
      refine ⟨⟨(a n (.inl rfl)).1, (a n (.inl rfl)).2.1⟩, (a n (.inl rfl)).2.2, fun m hm => ⟨(a m (.inr hm)).1, (a m (.inr hm)).2.1, ?_⟩, c⟩
      rintro (rfl | h)
      · exact b hm
      · exact (a m (.inr hm)).2.2 h
/-- the kind of a table's first column -/
def hk (T : Tab) : Option Int := T.cols.head?.map (·.kind)
def StOk (n : Int) : Prop := 1 ≤ n ∧ n ≤ 3
theorem stateB_iff {n : Int} : stateB n = true ↔ StOk n := by unfold stateB StOk; simp
structure ColOk (c : Col) : Prop where
  st : StOk c.state
  ty : typed c.kind = true
  fi : fits c.dflt c.kind = true
def KeyOk (tabs : List Tab) (T : Tab) (x : For) : Prop := StOk x.state ∧ ∃ c ∈ T.cols, c.id = x.column ∧ ∃ P ∈ tabs, P.id = x.parent ∧ hk P = some c.kind
structure TabOk (tabs : List Tab) (T : Tab) : Prop where
  c1 : 1 ≤ T.cols.length
  c8 : T.cols.length ≤ 8
  x8 : T.idxs.length ≤ 8
  k8 : T.keys.length ≤ 8
  nc : NamesOk Col.name T.cols
  nx : NamesOk Idx.name T.idxs
  nk : NamesOk For.name T.keys
  first : ∀ c, T.cols.head? = some c → c.state = 3
  cs : ∀ c ∈ T.cols, ColOk c
  xs : ∀ x ∈ T.idxs, StOk x.state ∧ ∃ c ∈ T.cols, c.id = x.column
  ks : ∀ x ∈ T.keys, KeyOk tabs T x
structure SchOk (S : Sch) : Prop where
  v0 : 0 ≤ S.version
  v1 : S.version ≤ 1125899906842624
  l0 : 0 ≤ S.last
  l1 : S.last ≤ 1125899906842624
  few : S.tabs.length ≤ 6
  nt : NamesOk Tab.name S.tabs
  ts : ∀ T ∈ S.tabs, TabOk S.tabs T
  ids : ∀ n ∈ S.tabs.flatMap idsOf, 1 ≤ n ∧ n ≤ S.last
  nod : (S.tabs.flatMap idsOf).Nodup
theorem nod_of_flat {α : Type} {f : Tab → List Int} {l : List Tab} (h : (l.flatMap f).Nodup) {T : Tab} (hT : T ∈ l) : (f T).Nodup := by
  obtain ⟨a, b, rfl⟩ := List.append_of_mem hT
  simp only [List.flatMap_append, List.flatMap_cons, List.nodup_append] at h
  exact h.2.1.1
theorem ids_inj {tabs : List Tab} (h : (tabs.flatMap idsOf).Nodup) {T : Tab} (hT : T ∈ tabs) : (T.cols.map (·.id)).Nodup := by
  have := nod_of_flat (α := Nat) h hT
  unfold idsOf at this
  simp only [List.nodup_cons, List.nodup_append] at this
  exact this.2.1
theorem tabs_inj {tabs : List Tab} (h : (tabs.flatMap idsOf).Nodup) : (tabs.map (·.id)).Nodup := by
  refine List.Nodup.sublist ?_ h
  clear h
  induction tabs with
  | nil => simp
  | cons T l ih =>
    simp only [List.map_cons, List.flatMap_cons]
    unfold idsOf
    simp only [List.cons_append]
    refine List.Sublist.cons_cons _ ?_
    exact List.Sublist.trans ih (List.sublist_append_right _ _)
theorem at_id {α : Type} {f : α → Int} {l : List α} (h : (l.map f).Nodup) {x : α} (hx : x ∈ l) : ∃ i : Nat, seek (fun y : α => decide (f y = f x)) l 0 = (i : Int) ∧ l[i]? = some x := by
  obtain ⟨i, hi⟩ := List.mem_iff_getElem?.1 hx
  exact ⟨i, nod_once.1 h i x hi, hi⟩
theorem keyB_ok {S : Sch} {T : Tab} {i : Nat} {x : For} (hn : (S.tabs.flatMap idsOf).Nodup) (hT : T ∈ S.tabs) : keyB S T i x = true ↔ KeyOk S.tabs T x := by
  unfold keyB KeyOk
  simp only [Bool.and_eq_true, decide_eq_true_eq, stateB_iff]
  constructor
  · rintro ⟨a, b, c, d⟩
    refine ⟨a, ?_⟩
    unfold colOf at b
    unfold tabOf at c
    obtain ⟨j, y, hj, hy, hp, _⟩ := (seek_cases (fun y : Col => decide (y.id = x.column)) T.cols).resolve_left (fun e => by have := e.1; omega)
    obtain ⟨k, P, hk', hP, hpp, _⟩ := (seek_cases (fun y : Tab => decide (y.id = x.parent)) S.tabs).resolve_left (fun e => by have := e.1; omega)
    refine ⟨y, List.mem_of_getElem? hy, of_decide_eq_true hp, P, List.mem_of_getElem? hP, of_decide_eq_true hpp, ?_⟩
    unfold parB tabOf colOf at d
    rw [hj, hk'] at d
    simp only [Int.toNat_natCast, hP, hy] at d
    unfold hk
    split at d
    · rename_i c0 r e
      rw [e]
      simp only [List.head?_cons, Option.map_some]
      rw [of_decide_eq_true d]
    · cases d
  · rintro ⟨a, c, hc, e1, P, hP, e2, hh⟩
    obtain ⟨j, hj, hjc⟩ := at_id (f := fun c : Col => c.id) (ids_inj hn hT) hc
    obtain ⟨k, hk', hkP⟩ := at_id (f := fun c : Tab => c.id) (tabs_inj hn) hP
    rw [e1] at hj
    rw [e2] at hk'
    have h1 : colOf T x.column = (j : Int) := hj
    have h2 : tabOf S x.parent = (k : Int) := hk'
    refine ⟨a, by omega, by omega, ?_⟩
    unfold parB
    rw [h1, h2]
    simp only [Int.toNat_natCast, hjc, hkP]
    unfold hk at hh
    cases e : P.cols with
    | nil => rw [e] at hh; cases hh
    | cons c0 r =>
      rw [e] at hh
      simp only [List.head?_cons, Option.map_some, Option.some.injEq] at hh
      simp [hh]
theorem idxB_ok {T : Tab} {i : Nat} {x : Idx} : idxB T i x = true ↔ StOk x.state ∧ ∃ c ∈ T.cols, c.id = x.column := by
  unfold idxB
  simp only [Bool.and_eq_true, decide_eq_true_eq, stateB_iff]
  unfold colOf
  rcases seek_cases (fun y : Col => decide (y.id = x.column)) T.cols with ⟨e, h⟩ | ⟨j, y, e, hy, hp, _⟩
  · rw [e]
    constructor
    · rintro ⟨_, b⟩; omega
    · rintro ⟨_, c, hc, e2⟩
      have := h c hc
      simp [e2] at this
  · rw [e]
    constructor
    · rintro ⟨a, _⟩; exact ⟨a, y, List.mem_of_getElem? hy, of_decide_eq_true hp⟩
    · rintro ⟨a, _⟩; exact ⟨a, by omega⟩
theorem colB_ok {i : Nat} {c : Col} : colB i c = true ↔ ColOk c := by
  unfold colB
  simp only [Bool.and_eq_true, stateB_iff]
  exact ⟨fun ⟨a, b, c⟩ => ⟨a, b, c⟩, fun h => ⟨h.st, h.ty, h.fi⟩⟩
theorem allI_mem {α : Type} {p : Nat → α → Bool} {Q : α → Prop} {xs : List α} (h : ∀ i, ∀ x ∈ xs, (p i x = true ↔ Q x)) : allI p xs = true ↔ ∀ x ∈ xs, Q x := by
  rw [allI_iff]
  constructor
  · intro g x hx
    obtain ⟨i, hi⟩ := List.mem_iff_getElem?.1 hx
    exact (h i x hx).1 (g i x hi)
  · intro g i x hi
    exact (h i x (List.mem_of_getElem? hi)).2 (g x (List.mem_of_getElem? hi))
theorem tabB_ok {S : Sch} {T : Tab} (hn : (S.tabs.flatMap idsOf).Nodup) (hT : T ∈ S.tabs) : tabB S T = true ↔ TabOk S.tabs T := by
  rw [tabB_iff, namesC_iff, namesX_iff, namesF_iff, allI_mem (Q := ColOk) (fun i x _ => colB_ok), allI_mem (Q := fun x : Idx => StOk x.state ∧ ∃ c ∈ T.cols, c.id = x.column) (fun i x _ => idxB_ok), allI_mem (Q := KeyOk S.tabs T) (fun i x _ => keyB_ok hn hT)]
  have hf : 1 ≤ T.cols.length → (first3 T = true ↔ ∀ c, T.cols.head? = some c → c.state = 3) := by
    intro h1
    unfold first3
    cases e : T.cols with
    | nil => rw [e] at h1; simp at h1
    | cons c r => simp
  constructor
  · rintro ⟨a, b, c, d, e, f, g, h, i, j, k⟩
    exact ⟨a, b, c, d, e, f, g, (hf a).1 h, i, j, k⟩
  · rintro ⟨a, b, c, d, e, f, g, h, i, j, k⟩
    exact ⟨a, b, c, d, e, f, g, (hf a).2 h, i, j, k⟩
theorem right_ok {S : Sch} : right S = true ↔ SchOk S := by
  rw [right_iff, namesT_iff, runIds_iff]
  have h0 : headB S = true ↔ 0 ≤ S.version ∧ S.version ≤ 1125899906842624 ∧ 0 ≤ S.last ∧ S.last ≤ 1125899906842624 := by
    unfold headB; simp only [Bool.and_eq_true, decide_eq_true_eq]
  rw [h0]
  constructor
  · rintro ⟨⟨a, b, c, d⟩, e, f, g, h, i⟩
    refine ⟨a, b, c, d, e, f, (allI_mem (p := fun _ T => tabB S T) (Q := TabOk S.tabs) (xs := S.tabs) (fun _ T hT => tabB_ok i hT)).1 g, fun n hn => ⟨(h n hn).1, (h n hn).2.1⟩, i⟩
  · rintro ⟨a, b, c, d, e, f, g, h, i⟩
    exact ⟨⟨a, b, c, d⟩, e, f, (allI_mem (p := fun _ T => tabB S T) (Q := TabOk S.tabs) (xs := S.tabs) (fun _ T hT => tabB_ok i hT)).2 g, fun n hn => ⟨(h n hn).1, (h n hn).2, by simp⟩, i⟩
end Go.Proofs.Ythepfbcgpbkbdaa
end
section
set_option linter.unusedVariables false
set_option linter.unusedSimpArgs false
set_option maxHeartbeats 1000000
set_option maxRecDepth 100000
namespace Go.Proofs.Ythepfbcgpbkbdaa
open Fw Go
theorem split_get {α : Type} {l : List α} {i : Nat} {x : α} (h : l[i]? = some x) : ∃ a b, l = a ++ x :: b ∧ a.length = i := by
  have hi := (List.getElem?_eq_some_iff.1 h).1
  exact ⟨l.take i, l.drop (i + 1), by rw [← drop_some h, List.take_append_drop], by simp; omega⟩
theorem set_mid {α : Type} (a b : List α) (x y : α) : (a ++ x :: b).set a.length y = a ++ y :: b := by simp
theorem KeyOk.put {a b : List Tab} {T T' U : Tab} {x : For} (h : KeyOk (a ++ T :: b) U x) (hid : T'.id = T.id) (hh : hk T' = hk T) : KeyOk (a ++ T' :: b) U x := by
  obtain ⟨h1, c, hc, e1, P, hP, e2, e3⟩ := h
  refine ⟨h1, c, hc, e1, ?_⟩
  simp only [List.mem_append, List.mem_cons] at hP
  rcases hP with hP | rfl | hP
  · exact ⟨P, by simp [hP], e2, e3⟩
  · exact ⟨T', by simp, by rw [hid, e2], by rw [hh, e3]⟩
  · exact ⟨P, by simp [hP], e2, e3⟩
theorem TabOk.put {a b : List Tab} {T T' U : Tab} (h : TabOk (a ++ T :: b) U) (hid : T'.id = T.id) (hh : hk T' = hk T) : TabOk (a ++ T' :: b) U :=
  { h with ks := fun x hx => (h.ks x hx).put hid hh }
theorem ok_put {S : Sch} (h : SchOk S) {a b : List Tab} {T T' : Tab} (e : S.tabs = a ++ T :: b) {v l : Int} (hv0 : 0 ≤ v) (hv1 : v ≤ 1125899906842624) (hl : S.last ≤ l) (hl1 : l ≤ 1125899906842624) (hid : T'.id = T.id) (hn : T'.name = T.name) (hh : hk T' = hk T)
    (hT : TabOk (a ++ T' :: b) T') (hi : ∀ n ∈ idsOf T', n ∈ idsOf T ∨ (S.last < n ∧ n ≤ l)) (hd : (idsOf T').Nodup) : SchOk ⟨v, l, a ++ T' :: b⟩ := by
  have ids := h.ids
  have nod := h.nod
  have nt := h.nt
  have ts := h.ts
  have l0 := h.l0
  have few := h.few
  rw [e] at ids nod nt ts few
  refine ⟨hv0, hv1, by show 0 ≤ l; omega, hl1, by simpa using few, ⟨?_, ?_⟩, ?_, ?_, ?_⟩
  · intro x hx
    simp only [List.mem_append, List.mem_cons] at hx
    rcases hx with hx | rfl | hx
    · exact nt.1 x (by simp [hx])
    · rw [hn]; exact nt.1 T (by simp)
    · exact nt.1 x (by simp [hx])
  · have := nt.2
    simp only [List.map_append, List.map_cons] at this ⊢
    rw [hn]; exact this
  · intro U hU
    simp only [List.mem_append, List.mem_cons] at hU
    rcases hU with hU | rfl | hU
    · exact (ts U (by simp [hU])).put hid hh
    · exact hT
    · exact (ts U (by simp [hU])).put hid hh
  · intro n hn
    simp only [List.flatMap_append, List.flatMap_cons, List.mem_append] at hn ids
    rcases hn with hn | hn | hn
    · have := ids n (.inl hn); exact ⟨this.1, by show n ≤ l; omega⟩
    · rcases hi n hn with hn | hn
      · have := ids n (.inr (.inl hn)); exact ⟨this.1, by show n ≤ l; omega⟩
      · exact ⟨by omega, hn.2⟩
    · have := ids n (.inr (.inr hn)); exact ⟨this.1, by show n ≤ l; omega⟩
  · simp only [List.flatMap_append, List.flatMap_cons, List.mem_append, List.nodup_append] at ids nod ⊢
    obtain ⟨n1, ⟨n2, n3, n4⟩, n5⟩ := nod
    refine ⟨n1, ⟨hd, n3, ?_⟩, ?_⟩
    · intro x hx y hy
      rcases hi x hx with hx | hx
      · exact n4 x hx y hy
      · have := ids y (.inr (.inr hy)); omega
    · intro x hx y hy
      rcases hy with hy | hy
      · rcases hi y hy with hy | hy
        · exact n5 x hx y (.inl hy)
        · have := ids x (.inl hx); omega
      · exact n5 x hx y (.inr hy)
theorem nod_ids {S : Sch} (h : SchOk S) {T : Tab} (hT : T ∈ S.tabs) : (idsOf T).Nodup ∧ ∀ n ∈ idsOf T, n ≤ S.last :=
  ⟨nod_of_flat (α := Nat) h.nod hT, fun n hn => (h.ids n (List.mem_flatMap.2 ⟨T, hT, hn⟩)).2⟩
section
variable {S : Sch} (h : SchOk S) {a b : List Tab} {T : Tab} (e : S.tabs = a ++ T :: b) {v l : Int} (hv0 : 0 ≤ v) (hv1 : v ≤ 1125899906842624) (hl : S.last ≤ l) (hl1 : l ≤ 1125899906842624)
include h e hv0 hv1 hl hl1
theorem ok_cols {cs : List Col} (h8 : cs.length ≤ 8) (nc : NamesOk Col.name cs) (hd : cs.head? = T.cols.head?) (hc : ∀ c ∈ cs, ColOk c) (keep : ∀ c ∈ T.cols, ((∃ x ∈ T.idxs, x.column = c.id) ∨ (∃ x ∈ T.keys, x.column = c.id)) → ∃ c' ∈ cs, c'.id = c.id ∧ c'.kind = c.kind)
    (hi : ∀ n ∈ cs.map (·.id), n ∈ T.cols.map (·.id) ∨ (S.last < n ∧ n ≤ l)) (hn : (cs.map (·.id)).Nodup) : SchOk ⟨v, l, a ++ { T with cols := cs } :: b⟩ := by
  have hT : T ∈ S.tabs := by rw [e]; simp
  have ht := h.ts T hT
  rw [e] at ht
  have hh : hk { T with cols := cs } = hk T := by unfold hk; dsimp only; rw [hd]
  obtain ⟨n1, n2⟩ := nod_ids h hT
  refine ok_put h e (T' := { T with cols := cs }) hv0 hv1 hl hl1 rfl rfl hh ?_ ?_ ?_
  · have ht' := ht.put (T' := { T with cols := cs }) rfl hh
    refine ⟨?_, h8, ht.x8, ht.k8, nc, ht.nx, ht.nk, ?_, hc, ?_, ?_⟩
    · have := ht.c1
      dsimp only
      cases cs with
      | nil =>
        cases e2 : T.cols with
        | nil => rw [e2] at this; simp at this
        | cons c r => rw [e2] at hd; simp at hd
      | cons c r => simp
    · intro c hcc; dsimp only at hcc; rw [hd] at hcc; exact ht.first c hcc
    · intro x hx
      obtain ⟨h1, c, hc1, e1⟩ := ht.xs x hx
      obtain ⟨c', hc', e2, _⟩ := keep c hc1 (.inl ⟨x, hx, e1.symm⟩)
      exact ⟨h1, c', hc', by rw [e2, e1]⟩
    · intro x hx
      obtain ⟨h1, c, hc1, e1, P, hP, e2, e3⟩ := ht'.ks x hx
      obtain ⟨c', hc', e4, e5⟩ := keep c hc1 (.inr ⟨x, hx, e1.symm⟩)
      exact ⟨h1, c', hc', by rw [e4, e1], P, hP, e2, by rw [e3, e5]⟩
  · intro n hnn
    unfold idsOf at hnn ⊢
    simp only [List.mem_cons, List.mem_append] at hnn ⊢
    rcases hnn with hnn | hnn | hnn
    · exact .inl (.inl hnn)
    · rcases hi n hnn with g | g
      · exact .inl (.inr (.inl g))
      · exact .inr g
    · exact .inl (.inr (.inr hnn))
  · unfold idsOf at n1 n2 ⊢
    simp only [List.mem_cons, List.mem_append] at n2
    simp only [List.nodup_cons, List.nodup_append, List.mem_append] at n1 ⊢
    obtain ⟨m1, m2, ⟨m3, m4, m5⟩, m6⟩ := n1
    refine ⟨?_, hn, ⟨m3, m4, m5⟩, ?_⟩
    · rintro (g | g)
      · rcases hi _ g with g | g
        · exact m1 (.inl g)
        · have := n2 T.id (.inl rfl); omega
      · exact m1 (.inr g)
    · intro x hx y hy
      rcases hi x hx with g | g
      · exact m6 x g y hy
      · have := n2 y (.inr (.inr hy)); omega
theorem ok_idxs {xs : List Idx} (h8 : xs.length ≤ 8) (nx : NamesOk Idx.name xs) (hx : ∀ x ∈ xs, StOk x.state ∧ ∃ c ∈ T.cols, c.id = x.column)
    (hi : ∀ n ∈ xs.map (·.id), n ∈ T.idxs.map (·.id) ∨ (S.last < n ∧ n ≤ l)) (hn : (xs.map (·.id)).Nodup) : SchOk ⟨v, l, a ++ { T with idxs := xs } :: b⟩ := by
  have hT : T ∈ S.tabs := by rw [e]; simp
  have ht := h.ts T hT
  rw [e] at ht
  obtain ⟨n1, n2⟩ := nod_ids h hT
  refine ok_put h e (T' := { T with idxs := xs }) hv0 hv1 hl hl1 rfl rfl rfl ?_ ?_ ?_
  · have ht' := ht.put (T' := { T with idxs := xs }) rfl rfl
    exact ⟨ht.c1, ht.c8, h8, ht.k8, ht.nc, nx, ht.nk, ht.first, ht.cs, hx, ht'.ks⟩
  · intro n hnn
    unfold idsOf at hnn ⊢
    simp only [List.mem_cons, List.mem_append] at hnn ⊢
    rcases hnn with hnn | hnn | hnn | hnn
    · exact .inl (.inl hnn)
    · exact .inl (.inr (.inl hnn))
    · rcases hi n hnn with g | g
      · exact .inl (.inr (.inr (.inl g)))
      · exact .inr g
    · exact .inl (.inr (.inr (.inr hnn)))
  · unfold idsOf at n1 n2 ⊢
    simp only [List.mem_cons, List.mem_append] at n2
    simp only [List.nodup_cons, List.nodup_append, List.mem_append] at n1 ⊢
    obtain ⟨m1, m2, ⟨m3, m4, m5⟩, m6⟩ := n1
    refine ⟨?_, m2, ⟨hn, m4, ?_⟩, ?_⟩
    · rintro (g | g | g)
      · exact m1 (.inl g)
      · rcases hi _ g with g | g
        · exact m1 (.inr (.inl g))
        · have := n2 T.id (.inl rfl); omega
      · exact m1 (.inr (.inr g))
    · intro x hx y hy
      rcases hi x hx with g | g
      · exact m5 x g y hy
      · have := n2 y (.inr (.inr (.inr hy))); omega
    · intro x hx y hy
      rcases hy with hy | hy
      · rcases hi y hy with g | g
        · exact m6 x hx y (.inl g)
        · have := n2 x (.inr (.inl hx)); omega
      · exact m6 x hx y (.inr hy)
theorem ok_keys {xs : List For} (h8 : xs.length ≤ 8) (nx : NamesOk For.name xs) (hx : ∀ x ∈ xs, KeyOk S.tabs T x)
    (hi : ∀ n ∈ xs.map (·.id), n ∈ T.keys.map (·.id) ∨ (S.last < n ∧ n ≤ l)) (hn : (xs.map (·.id)).Nodup) : SchOk ⟨v, l, a ++ { T with keys := xs } :: b⟩ := by
  have hT : T ∈ S.tabs := by rw [e]; simp
  have ht := h.ts T hT
  rw [e] at ht hx
  obtain ⟨n1, n2⟩ := nod_ids h hT
  refine ok_put h e (T' := { T with keys := xs }) hv0 hv1 hl hl1 rfl rfl rfl ?_ ?_ ?_
  · refine ⟨ht.c1, ht.c8, ht.x8, h8, ht.nc, ht.nx, nx, ht.first, ht.cs, ht.xs, fun x hxx => ?_⟩
    have := (hx x hxx).put (T' := { T with keys := xs }) rfl rfl
    exact this
  · intro n hnn
    unfold idsOf at hnn ⊢
    simp only [List.mem_cons, List.mem_append] at hnn ⊢
    rcases hnn with hnn | hnn | hnn | hnn
    · exact .inl (.inl hnn)
    · exact .inl (.inr (.inl hnn))
    · exact .inl (.inr (.inr (.inl hnn)))
    · rcases hi n hnn with g | g
      · exact .inl (.inr (.inr (.inr g)))
      · exact .inr g
  · unfold idsOf at n1 n2 ⊢
    simp only [List.mem_cons, List.mem_append] at n2
    simp only [List.nodup_cons, List.nodup_append, List.mem_append] at n1 ⊢
    obtain ⟨m1, m2, ⟨m3, m4, m5⟩, m6⟩ := n1
    refine ⟨?_, m2, ⟨m3, hn, ?_⟩, ?_⟩
    · rintro (g | g | g)
      · exact m1 (.inl g)
      · exact m1 (.inr (.inl g))
      · rcases hi _ g with g | g
        · exact m1 (.inr (.inr g))
        · have := n2 T.id (.inl rfl); omega
    · intro x hx y hy
      rcases hi y hy with g | g
      · exact m5 x hx y g
      · have := n2 x (.inr (.inr (.inl hx))); omega
    · intro x hx y hy
      rcases hy with hy | hy
      · exact m6 x hx y (.inl hy)
      · rcases hi y hy with g | g
        · exact m6 x hx y (.inr g)
        · have := n2 x (.inr (.inl hx)); omega
end
theorem placed_in {α : Type} {l : List α} {j : Nat} {st : Int} {x' y : α} (h : y ∈ placed l j st x') : y ∈ l ∨ (st ≠ 0 ∧ y = x') := by
  unfold placed at h
  split at h
  · exact .inl (List.mem_of_mem_eraseIdx h)
  · rename_i h0
    rcases List.mem_or_eq_of_mem_set h with h | h
    · exact .inl h
    · exact .inr ⟨h0, h⟩
theorem set_same {α : Type} : ∀ {l : List α} {j : Nat} {x : α}, l[j]? = some x → l.set j x = l
  | [], _, _, h => by simp at h
  | y :: l, 0, x, h => by simp at h; simp [h]
  | y :: l, j + 1, x, h => by simp only [List.set_cons_succ]; rw [set_same (by simpa using h)]
theorem placed_sub {α β : Type} {f : α → β} {l : List α} {j : Nat} {st : Int} {x x' : α} (hx : l[j]? = some x) (hf : f x' = f x) : ((placed l j st x').map f).Sublist (l.map f) := by
  unfold placed
  split
  · exact (List.eraseIdx_sublist l j).map f
  · rw [List.map_set, hf, set_same (by rw [List.getElem?_map, hx]; (first | done | rfl))]
    exact List.Sublist.refl _
theorem placed_head {α : Type} {l : List α} {j : Nat} {st : Int} {x' : α} (hj : j ≠ 0) : (placed l j st x').head? = l.head? := by
  unfold placed
  obtain ⟨k, rfl⟩ : ∃ k, j = k + 1 := ⟨j - 1, by omega⟩
  split <;> cases l <;> simp
theorem placed_keep {α β : Type} {g : α → β} {l : List α} {j : Nat} {st : Int} {x x' c : α} (hx : l[j]? = some x) (hg : g x' = g x) (hc : c ∈ l) (h0 : st = 0 → g c ≠ g x) : ∃ c' ∈ placed l j st x', g c' = g c := by
  obtain ⟨k, hk⟩ := List.mem_iff_getElem?.1 hc
  have hj := (List.getElem?_eq_some_iff.1 hx).1
  unfold placed
  by_cases hs : st = 0
  · rw [if_pos hs]
    have hne : k ≠ j := by
      rintro rfl
      rw [hk] at hx
      cases hx
      exact h0 hs rfl
    exact ⟨c, List.mem_eraseIdx_iff_getElem?.2 ⟨k, hne, hk⟩, rfl⟩
  · rw [if_neg hs]
    by_cases hne : k = j
    · subst hne
      rw [hk] at hx
      cases hx
      exact ⟨x', List.mem_of_getElem? (List.getElem?_set_self hj), hg⟩
    · exact ⟨c, List.mem_of_getElem? (by rw [List.getElem?_set_ne (Ne.symm hne)]; exact hk), rfl⟩
theorem NamesOk.placed {α : Type} {f : α → ByteArray} {l : List α} {j : Nat} {st : Int} {x x' : α} (h : NamesOk f l) (hx : l[j]? = some x) (hf : f x' = f x) : NamesOk f (placed l j st x') := by
  refine ⟨fun y hy => ?_, List.Nodup.sublist (placed_sub hx hf) h.2⟩
  rcases placed_in hy with hy | ⟨_, rfl⟩
  · exact h.1 y hy
  · rw [hf]; exact h.1 x (List.mem_of_getElem? hx)
theorem NamesOk.app {α : Type} {f : α → ByteArray} {l : List α} {x : α} (h : NamesOk f l) (hn : named (f x) = true) (hx : ∀ y ∈ l, f y ≠ f x) : NamesOk f (l ++ [x]) := by
  refine ⟨fun y hy => ?_, ?_⟩
  · rcases List.mem_append.1 hy with hy | hy
    · exact h.1 y hy
    · have : y = x := by simpa using hy
      subst this; exact hn
  · rw [List.map_append, List.nodup_append]
    refine ⟨h.2, by simp, ?_⟩
    intro u hu w hw
    obtain ⟨y, hy, rfl⟩ := List.mem_map.1 hu
    have : w = f x := by simpa using hw
    subst this
    exact hx y hy
theorem no_name {α : Type} {f : α → ByteArray} {l : List α} {name : ByteArray} (h : seek (fun y : α => decide (f y = name)) l 0 < 0) : ∀ y ∈ l, f y ≠ name := by
  rcases seek_cases (fun y : α => decide (f y = name)) l with ⟨_, e⟩ | ⟨j, y, e, _⟩
  · intro y hy; have := e y hy; simpa using this
  · omega
theorem fresh_ok {name : ByteArray} {n : Int} (h : freshE name n = 0) : named name = true ∧ n < 8 := by
  unfold freshE at h
  split at h
  · omega
  · rename_i h1
    split at h
    · omega
    · refine ⟨?_, by omega⟩
      cases e : named name
      · exact absurd e h1
      · rfl
end Go.Proofs.Ythepfbcgpbkbdaa
end
section
set_option linter.unusedVariables false
set_option linter.unusedSimpArgs false
set_option maxHeartbeats 1000000
set_option maxRecDepth 100000
namespace Go.Proofs.Ythepfbcgpbkbdaa
open Fw Go
inductive Did (S : Sch) (D : Ddl) (st : Int) : Sch → Prop
  | create (h1 : D.kind = 1) (hn : named D.table = true) (hc : ∀ c ∈ D.cols, named c.name = true) (ht : tabAt S D.table < 0) (hd : dbl D.cols = false) (h6 : S.tabs.length < 6) (c1 : 1 ≤ D.cols.length) (c8 : D.cols.length ≤ 8)
      (ty : ∀ c ∈ D.cols, typed c.kind = true) (s3 : st = 3) : Did S D st ⟨S.version, S.last + 1 + D.cols.length, S.tabs ++ [⟨S.last + 1, D.table, mkCols (S.last + 2) D.cols, [], []⟩]⟩
  | colAdd (i : Nat) (T : Tab) (kd : D.kind = 4) (hi : tabAt S D.table = (i : Int)) (hT : S.tabs[i]? = some T) (ha : colAt T D.column < 0) (hf : freshE D.column T.cols.length = 0) (ty : typed D.type = true) (fi : fits D.dflt D.type = true) (s0 : st ≠ 0) :
      Did S D st ⟨S.version, S.last + 1, S.tabs.set i { T with cols := T.cols ++ [⟨S.last + 1, D.column, D.type, st, D.dflt⟩] }⟩
  | colPut (i : Nat) (T : Tab) (j : Nat) (x : Col) (kd : D.kind = 4 ∨ D.kind = 5) (hi : tabAt S D.table = (i : Int)) (hT : S.tabs[i]? = some T) (hj : colAt T D.column = (j : Int)) (hx : T.cols[j]? = some x) (hn : x.name = D.column)
      (h4 : D.kind = 4 → x.state ≠ 3) (h5 : D.kind = 5 → used T j x = false) : Did S D st ⟨S.version, S.last, S.tabs.set i { T with cols := placed T.cols j st (x.put st) }⟩
  | idxAdd (i : Nat) (T : Tab) (c : Col) (kd : D.kind = 2) (hi : tabAt S D.table = (i : Int)) (hT : S.tabs[i]? = some T) (ha : idxAt T D.name < 0) (hf : freshE D.name T.idxs.length = 0) (hc : c ∈ T.cols) (s0 : st ≠ 0) :
      Did S D st ⟨S.version, S.last + 1, S.tabs.set i { T with idxs := T.idxs ++ [⟨S.last + 1, D.name, c.id, D.unique, st⟩] }⟩
  | idxPut (i : Nat) (T : Tab) (j : Nat) (x : Idx) (kd : D.kind = 2 ∨ D.kind = 3) (hi : tabAt S D.table = (i : Int)) (hT : S.tabs[i]? = some T) (hj : idxAt T D.name = (j : Int)) (hx : T.idxs[j]? = some x) (hn : x.name = D.name)
      (h4 : D.kind = 2 → x.state ≠ 3) : Did S D st ⟨S.version, S.last, S.tabs.set i { T with idxs := placed T.idxs j st (x.put st) }⟩
  | keyAdd (i : Nat) (T : Tab) (c : Col) (P : Tab) (kd : D.kind = 6) (hi : tabAt S D.table = (i : Int)) (hT : S.tabs[i]? = some T) (ha : keyAt T D.name < 0) (hf : freshE D.name T.keys.length = 0) (hc : c ∈ T.cols) (hP : P ∈ S.tabs) (hh : hk P = some c.kind) (s0 : st ≠ 0) :
      Did S D st ⟨S.version, S.last + 1, S.tabs.set i { T with keys := T.keys ++ [⟨S.last + 1, D.name, c.id, P.id, st⟩] }⟩
  | keyPut (i : Nat) (T : Tab) (j : Nat) (x : For) (kd : D.kind = 6 ∨ D.kind = 7) (hi : tabAt S D.table = (i : Int)) (hT : S.tabs[i]? = some T) (hj : keyAt T D.name = (j : Int)) (hx : T.keys[j]? = some x) (hn : x.name = D.name)
      (h4 : D.kind = 6 → x.state ≠ 3) : Did S D st ⟨S.version, S.last, S.tabs.set i { T with keys := placed T.keys j st (x.put st) }⟩
/-- nothing needs the column that a change names -/
def Free (S : Sch) (D : Ddl) : Prop := ∀ (i : Nat) (T : Tab) (j : Nat) (x : Col), tabAt S D.table = (i : Int) → S.tabs[i]? = some T → colAt T D.column = (j : Int) → T.cols[j]? = some x → (∀ y ∈ T.idxs, y.column ≠ x.id) ∧ (∀ y ∈ T.keys, y.column ≠ x.id)
theorem bool_no {b : Bool} (h : ¬ b = false) : b = true := by cases b <;> simp_all
theorem bool_no' {b : Bool} (h : ¬ b = true) : b = false := by cases b <;> simp_all
theorem neg_one_or {α : Type} (p : α → Bool) (l : List α) (h : ¬ seek p l 0 < 0) : ∃ (j : Nat) (x : α), seek p l 0 = (j : Int) ∧ l[j]? = some x ∧ p x = true := by
  obtain ⟨j, x, hj, hx, hp, _⟩ := (seek_cases p l).resolve_left (fun e => by have := e.1; omega)
  exact ⟨j, x, hj, hx, hp⟩
theorem turn1_did {S : Sch} {D : Ddl} {st : Int} (hk1 : 1 ≤ D.kind) (hk7 : D.kind ≤ 7) : (turn1 S D st).All (Did S D st) := by
  unfold turn1
  refine all_ite (fun h1 => ?_) fun h1 => all_ite (fun _ => all_e) fun ht => ?_
  · unfold createTurn
    refine all_ite (fun _ => all_e) fun hn => all_ite (fun _ => all_e) fun hd => all_ite (fun _ => all_e) fun h8 => all_ite (fun _ => all_e) fun hty => all_ite (fun _ => all_e) fun h3 => all_o ?_
    have hn := bool_no hn
    have hty := bool_no hty
    have hd := bool_no' hd
    have h8 := bool_no' h8
    simp only [Bool.and_eq_true, List.all_eq_true] at hn hty
    simp only [Bool.or_eq_false_iff, decide_eq_false_iff_not] at hd h8
    exact .create h1 hn.1 hn.2 (by omega) hd.2 (by omega) (by omega) (by omega) hty (by omega)
  obtain ⟨i, T, hi, hT, _⟩ := neg_one_or (fun T : Tab => decide (T.name = D.table)) S.tabs (by unfold tabAt at ht; exact ht)
  have hi : tabAt S D.table = (i : Int) := hi
  rw [hi]
  simp only [Int.toNat_natCast, hT]
  refine all_ite (fun h4 => ?_) fun h4 => all_ite (fun h2 => ?_) fun h2 => ?_
  · unfold colTurn
    refine all_ite (fun ha => all_ite (fun _ => all_e) fun hf => all_ite (fun _ => all_e) fun hk => all_ite (fun _ => all_e) fun h0 => all_o ?_) fun _ => all_ite (fun _ => all_e) fun hc => ?_
    · have hk := bool_no hk
      simp only [Bool.and_eq_true] at hk
      exact .colAdd i T ha.1 hi hT ha.2 (by simpa using hf) hk.1 hk.2 h0
    · obtain ⟨j, x, hj, hx, hp⟩ := neg_one_or (fun c : Col => decide (c.name = D.column)) T.cols (by unfold colAt at hc; exact hc)
      have hj : colAt T D.column = (j : Int) := hj
      rw [hj]
      simp only [Int.toNat_natCast, hx]
      refine all_ite (fun _ => all_e) fun h3 => all_ite (fun _ => all_e) fun h5 => all_o ?_
      exact .colPut i T j x h4 hi hT hj hx (of_decide_eq_true hp) (fun e e3 => h3 ⟨e, e3⟩) (fun e => bool_no' fun e3 => h5 ⟨e, e3⟩)
  · unfold idxTurn
    refine all_ite (fun ha => all_ite (fun _ => all_e) fun hf => all_ite (fun _ => all_e) fun hp => all_ite (fun _ => all_e) fun h0 => ?_) fun _ => all_ite (fun _ => all_e) fun hc => ?_
    · split
      · exact all_e
      · rename_i c hc
        exact all_o (.idxAdd i T c ha.1 hi hT ha.2 (by simpa using hf) (List.mem_of_getElem? hc) h0)
    · obtain ⟨j, x, hj, hx, hp⟩ := neg_one_or (fun c : Idx => decide (c.name = D.name)) T.idxs (by unfold idxAt at hc; exact hc)
      have hj : idxAt T D.name = (j : Int) := hj
      rw [hj]
      simp only [Int.toNat_natCast, hx]
      refine all_ite (fun _ => all_e) fun h3 => all_o ?_
      exact .idxPut i T j x h2 hi hT hj hx (of_decide_eq_true hp) (fun e e3 => h3 ⟨e, e3⟩)
  · unfold keyTurn
    refine all_ite (fun ha => all_ite (fun _ => all_e) fun hf => all_ite (fun _ => all_e) fun hp => all_ite (fun _ => all_e) fun hp2 => ?_) fun _ => all_ite (fun _ => all_e) fun hc => ?_
    · split
      · rename_i c P hc hP
        split
        · exact all_e
        · rename_i c0 r hc0
          refine all_ite (fun _ => all_e) fun hkk => all_ite (fun _ => all_e) fun h0 => all_o ?_
          refine .keyAdd i T c P ha.1 hi hT ha.2 (by simpa using hf) (List.mem_of_getElem? hc) (List.mem_of_getElem? hP) ?_ h0
          unfold hk
          rw [hc0]
          simp only [List.head?_cons, Option.map_some, Option.some.injEq]
          have : ¬ c.kind ≠ c0.kind := hkk
          exact (Classical.not_not.1 this).symm
      · exact all_e
    · obtain ⟨j, x, hj, hx, hp⟩ := neg_one_or (fun c : For => decide (c.name = D.name)) T.keys (by unfold keyAt at hc; exact hc)
      have hj : keyAt T D.name = (j : Int) := hj
      rw [hj]
      simp only [Int.toNat_natCast, hx]
      refine all_ite (fun _ => all_e) fun h3 => all_o ?_
      exact .keyPut i T j x (by omega) hi hT hj hx (of_decide_eq_true hp) (fun e e3 => h3 ⟨e, e3⟩)
theorem mkCols_names : ∀ (l : List Col) (n : Int), (mkCols n l).map Col.name = l.map Col.name
  | [], n => rfl
  | c :: l, n => by simp [mkCols, mkCols_names l]
theorem mkCols_ids : ∀ (l : List Col) (n : Int), ∀ m ∈ (mkCols n l).map (·.id), n ≤ m ∧ m < n + l.length
  | [], n => by simp [mkCols]
  | c :: l, n => by
    intro m hm
    simp only [mkCols, List.map_cons, List.mem_cons] at hm
    simp only [List.length_cons]
    rcases hm with rfl | hm
    · omega
    · have := mkCols_ids l (n + 1) m hm; omega
theorem mkCols_nod : ∀ (l : List Col) (n : Int), ((mkCols n l).map (·.id)).Nodup
  | [], n => by simp [mkCols]
  | c :: l, n => by
    simp only [mkCols, List.map_cons, List.nodup_cons]
    refine ⟨fun hm => ?_, mkCols_nod l _⟩
    have := mkCols_ids l (n + 1) n hm
    omega
theorem mkCols_mem : ∀ (l : List Col) (n : Int), ∀ c ∈ mkCols n l, c.state = 3 ∧ c.dflt = ⟨0, 0, ⟨#[]⟩⟩ ∧ ∃ d ∈ l, c.name = d.name ∧ c.kind = d.kind
  | [], n => by simp [mkCols]
  | d :: l, n => by
    intro c hc
    simp only [mkCols, List.mem_cons] at hc
    rcases hc with rfl | hc
    · exact ⟨rfl, rfl, d, by simp, rfl, rfl⟩
    · obtain ⟨a, b, d', hd, e⟩ := mkCols_mem l (n + 1) c hc
      exact ⟨a, b, d', by simp [hd], e⟩
theorem dbl_nod {l : List Col} (h : dbl l = false) : (l.map Col.name).Nodup := by
  rw [nod_once]
  unfold dbl at h
  simp only [Bool.not_eq_false'] at h
  rw [upTo_iff] at h
  intro i x hx
  have := h i (List.getElem?_eq_some_iff.1 hx).1
  rw [condI_at hx] at this
  exact of_decide_eq_true this
theorem fits_none {k : Int} : fits ⟨0, 0, ⟨#[]⟩⟩ k = true := by
  unfold fits valOk; simp
theorem did_ok {S S' : Sch} {D : Ddl} {st : Int} (h : SchOk S) (hl : S.last + 9 ≤ 1125899906842624) (h0 : 0 ≤ st) (h3 : st ≤ 3)
    (free : D.kind = 4 → st = 0 → Free S D)
    (hd : Did S D st S') : SchOk S' := by
  have hl0 := h.l0
  have hl1 := h.l1
  cases hd with
  | create h1 hn hc ht hdb h6 c1 c8 ty s3 =>
    have hT : TabOk (S.tabs ++ [⟨S.last + 1, D.table, mkCols (S.last + 2) D.cols, [], []⟩]) ⟨S.last + 1, D.table, mkCols (S.last + 2) D.cols, [], []⟩ := by
      refine ⟨by dsimp only; rw [mkCols_len]; exact c1, by dsimp only; rw [mkCols_len]; exact c8, by simp, by simp, ⟨?_, ?_⟩, ⟨by simp, by simp⟩, ⟨by simp, by simp⟩, ?_, ?_, by simp, by simp⟩
      · intro c hcc
        obtain ⟨_, _, d, hd, e, _⟩ := mkCols_mem _ _ c hcc
        rw [e]; exact hc d hd
      · dsimp only; rw [mkCols_names]; exact dbl_nod hdb
      · intro c hcc
        exact (mkCols_mem _ _ c (List.mem_of_mem_head? (by simpa using hcc))).1
      · intro c hcc
        obtain ⟨e1, e2, d, hd, _, e⟩ := mkCols_mem _ _ c hcc
        exact ⟨by rw [e1]; exact ⟨by omega, by omega⟩, by rw [e]; exact ty d hd, by rw [e2]; exact fits_none⟩
    refine ⟨h.v0, h.v1, by dsimp only; omega, by dsimp only; omega, by simp; omega, ?_, ?_, ?_, ?_⟩
    · exact h.nt.app hn (no_name ht)
    · intro U hU
      rcases List.mem_append.1 hU with hU | hU
      · have hu := h.ts U hU
        exact { hu with ks := fun x hx => by
                          obtain ⟨a, c, hc, e, P, hP, r⟩ := hu.ks x hx
                          exact ⟨a, c, hc, e, P, List.mem_append.2 (.inl hP), r⟩ }
      · have : U = ⟨S.last + 1, D.table, mkCols (S.last + 2) D.cols, [], []⟩ := by simpa using hU
        rw [this]; exact hT
    · intro n hn
      simp only [List.flatMap_append, List.flatMap_cons, List.flatMap_nil, List.append_nil, List.mem_append, idsOf, List.map_nil, List.mem_cons] at hn
      rcases hn with hn | rfl | hn
      · have := h.ids n hn; exact ⟨this.1, by dsimp only; omega⟩
      · exact ⟨by omega, by dsimp only; omega⟩
      · have := mkCols_ids _ _ n hn
        exact ⟨by omega, by dsimp only; omega⟩
    · simp only [List.flatMap_append, List.flatMap_cons, List.flatMap_nil, List.append_nil, idsOf, List.map_nil]
      rw [List.nodup_append]
      refine ⟨h.nod, ?_, ?_⟩
      · rw [List.nodup_cons]
        refine ⟨fun hm => ?_, mkCols_nod _ _⟩
        have := mkCols_ids _ _ _ hm; omega
      · intro x hx y hy
        have h1 := (h.ids x hx).2
        rcases List.mem_cons.1 hy with rfl | hy
        · omega
        · have := mkCols_ids _ _ y hy; omega
  | colAdd i T hk hi hT ha hf ty fi s0 =>
    obtain ⟨a, b, e, rfl⟩ := split_get hT
    have ht := h.ts T (List.mem_of_getElem? hT)
    rw [e, set_mid]
    obtain ⟨f1, f2⟩ := fresh_ok hf
    obtain ⟨n1, n2⟩ := nod_ids h (List.mem_of_getElem? hT)
    have hcid : ∀ c ∈ T.cols, c.id ≤ S.last := fun c hc => n2 c.id (by unfold idsOf; simp only [List.mem_cons, List.mem_append]; exact .inr (.inl (List.mem_map_of_mem (f := fun c : Col => c.id) hc)))
    refine ok_cols h e h.v0 h.v1 (by omega) (by omega) (by simp; omega) (ht.nc.app f1 (no_name ha)) ?_ ?_ ?_ ?_ ?_
    · have := ht.c1
      cases e2 : T.cols with
      | nil => rw [e2] at this; simp at this
      | cons c r => simp
    · intro c hc
      rcases List.mem_append.1 hc with hc | hc
      · exact ht.cs c hc
      · have : c = ⟨S.last + 1, D.column, D.type, st, D.dflt⟩ := by simpa using hc
        subst this
        exact ⟨⟨by dsimp only; omega, h3⟩, ty, fi⟩
    · intro c hc _
      exact ⟨c, List.mem_append.2 (.inl hc), rfl, rfl⟩
    · intro n hn
      simp only [List.map_append, List.mem_append, List.map_cons, List.map_nil, List.mem_singleton] at hn
      rcases hn with hn | rfl
      · exact .inl hn
      · exact .inr ⟨by omega, by omega⟩
    · rw [List.map_append, List.nodup_append]
      refine ⟨ids_inj h.nod (List.mem_of_getElem? hT), by simp, ?_⟩
      intro x hx y hy
      obtain ⟨c, hc, rfl⟩ := List.mem_map.1 hx
      have := hcid c hc
      have : y = S.last + 1 := by simpa using hy
      omega
  | colPut i T j x hk hi hT hj hx hn h4 h5 =>
    have ht := h.ts T (List.mem_of_getElem? hT)
    have hj0 : j ≠ 0 := by
      rintro rfl
      rcases hk with hk | hk
      · refine h4 hk (ht.first x ?_)
        rw [List.head?_eq_getElem?]; exact hx
      · have := h5 hk
        unfold used at this
        simp at this
    have hfree : st = 0 → (∀ y ∈ T.idxs, y.column ≠ x.id) ∧ (∀ y ∈ T.keys, y.column ≠ x.id) := by
      intro hs
      rcases hk with hk | hk
      · exact free hk hs i T j x hi hT hj hx
      · have := h5 hk
        unfold used at this
        simp only [Bool.or_eq_false_iff, List.any_eq_false, decide_eq_true_eq] at this
        exact ⟨fun y hy => this.2.1 y hy, fun y hy => this.2.2 y hy⟩
    obtain ⟨a, b, e, rfl⟩ := split_get hT
    rw [e, set_mid]
    refine ok_cols h e h.v0 h.v1 (by omega) (by omega) (Nat.le_trans placed_le ht.c8) (ht.nc.placed hx rfl) (placed_head hj0) ?_ ?_ ?_ ?_
    · intro c hc
      rcases placed_in hc with hc | ⟨hs, rfl⟩
      · exact ht.cs c hc
      · have := ht.cs x (List.mem_of_getElem? hx)
        exact ⟨⟨by unfold Col.put; dsimp only; omega, h3⟩, this.ty, this.fi⟩
    · intro c hc huse
      obtain ⟨c', hc', e'⟩ := placed_keep (g := fun c : Col => (c.id, c.kind)) (st := st) (x' := x.put st) hx rfl hc (fun hs hcx => by
        have hci : c.id = x.id := congrArg Prod.fst hcx
        rcases huse with ⟨y, hy, ey⟩ | ⟨y, hy, ey⟩
        · exact (hfree hs).1 y hy (by rw [ey, hci])
        · exact (hfree hs).2 y hy (by rw [ey, hci]))
      exact ⟨c', hc', congrArg Prod.fst e', congrArg Prod.snd e'⟩
    · intro n hnn
      exact .inl ((placed_sub (f := fun c : Col => c.id) (x' := x.put st) hx rfl).subset hnn)
    · exact List.Nodup.sublist (placed_sub (f := fun c : Col => c.id) (x' := x.put st) hx rfl) (ids_inj h.nod (List.mem_of_getElem? hT))
  | idxAdd i T c hk hi hT ha hf hc s0 =>
    obtain ⟨a, b, e, rfl⟩ := split_get hT
    have ht := h.ts T (List.mem_of_getElem? hT)
    rw [e, set_mid]
    obtain ⟨f1, f2⟩ := fresh_ok hf
    obtain ⟨n1, n2⟩ := nod_ids h (List.mem_of_getElem? hT)
    have hcid : ∀ c ∈ T.idxs, c.id ≤ S.last := fun c hc => n2 c.id (by unfold idsOf; simp only [List.mem_cons, List.mem_append]; exact .inr (.inr (.inl (List.mem_map_of_mem (f := fun c : Idx => c.id) hc))))
    refine ok_idxs h e h.v0 h.v1 (by omega) (by omega) (by simp; omega) (ht.nx.app f1 (no_name ha)) ?_ ?_ ?_
    · intro y hy
      rcases List.mem_append.1 hy with hy | hy
      · exact ht.xs y hy
      · have : y = ⟨S.last + 1, D.name, c.id, D.unique, st⟩ := by simpa using hy
        subst this
        exact ⟨⟨by dsimp only; omega, h3⟩, c, hc, rfl⟩
    · intro n hn
      simp only [List.map_append, List.mem_append, List.map_cons, List.map_nil, List.mem_singleton] at hn
      rcases hn with hn | rfl
      · exact .inl hn
      · exact .inr ⟨by omega, by omega⟩
    · rw [List.map_append, List.nodup_append]
      unfold idsOf at n1
      simp only [List.nodup_cons, List.nodup_append] at n1
      refine ⟨n1.2.2.1.1, by simp, ?_⟩
      intro x hx y hy
      obtain ⟨c, hc, rfl⟩ := List.mem_map.1 hx
      have := hcid c hc
      have : y = S.last + 1 := by simpa using hy
      omega
  | idxPut i T j x hk hi hT hj hx hn h4 =>
    have ht := h.ts T (List.mem_of_getElem? hT)
    obtain ⟨n1, n2⟩ := nod_ids h (List.mem_of_getElem? hT)
    obtain ⟨a, b, e, rfl⟩ := split_get hT
    rw [e, set_mid]
    refine ok_idxs h e h.v0 h.v1 (by omega) (by omega) (Nat.le_trans placed_le ht.x8) (ht.nx.placed hx rfl) ?_ ?_ ?_
    · intro y hy
      rcases placed_in hy with hy | ⟨hs, rfl⟩
      · exact ht.xs y hy
      · have := ht.xs x (List.mem_of_getElem? hx)
        exact ⟨⟨by unfold Idx.put; dsimp only; omega, h3⟩, this.2⟩
    · intro n hnn
      exact .inl ((placed_sub (f := fun c : Idx => c.id) (x' := x.put st) hx rfl).subset hnn)
    · unfold idsOf at n1
      simp only [List.nodup_cons, List.nodup_append] at n1
      exact List.Nodup.sublist (placed_sub (f := fun c : Idx => c.id) (x' := x.put st) hx rfl) n1.2.2.1.1
  | keyAdd i T c P hk hi hT ha hf hc hP hh s0 =>
    obtain ⟨a, b, e, rfl⟩ := split_get hT
    have ht := h.ts T (List.mem_of_getElem? hT)
    rw [e, set_mid]
    obtain ⟨f1, f2⟩ := fresh_ok hf
    obtain ⟨n1, n2⟩ := nod_ids h (List.mem_of_getElem? hT)
    have hcid : ∀ c ∈ T.keys, c.id ≤ S.last := fun c hc => n2 c.id (by unfold idsOf; simp only [List.mem_cons, List.mem_append]; exact .inr (.inr (.inr (List.mem_map_of_mem (f := fun c : For => c.id) hc))))
    refine ok_keys h e h.v0 h.v1 (by omega) (by omega) (by simp; omega) (ht.nk.app f1 (no_name ha)) ?_ ?_ ?_
    · intro y hy
      rcases List.mem_append.1 hy with hy | hy
      · exact ht.ks y hy
      · have : y = ⟨S.last + 1, D.name, c.id, P.id, st⟩ := by simpa using hy
        subst this
        exact ⟨⟨by dsimp only; omega, h3⟩, c, hc, rfl, P, hP, rfl, hh⟩
    · intro n hn
      simp only [List.map_append, List.mem_append, List.map_cons, List.map_nil, List.mem_singleton] at hn
      rcases hn with hn | rfl
      · exact .inl hn
      · exact .inr ⟨by omega, by omega⟩
    · rw [List.map_append, List.nodup_append]
      unfold idsOf at n1
      simp only [List.nodup_cons, List.nodup_append] at n1
      refine ⟨n1.2.2.1.2.1, by simp, ?_⟩
      intro x hx y hy
      obtain ⟨c, hc, rfl⟩ := List.mem_map.1 hx
      have := hcid c hc
      have : y = S.last + 1 := by simpa using hy
      omega
  | keyPut i T j x hk hi hT hj hx hn h4 =>
    have ht := h.ts T (List.mem_of_getElem? hT)
    obtain ⟨n1, n2⟩ := nod_ids h (List.mem_of_getElem? hT)
    obtain ⟨a, b, e, rfl⟩ := split_get hT
    rw [e, set_mid]
    refine ok_keys h e h.v0 h.v1 (by omega) (by omega) (Nat.le_trans placed_le ht.k8) (ht.nk.placed hx rfl) ?_ ?_ ?_
    · intro y hy
      rcases placed_in hy with hy | ⟨hs, rfl⟩
      · exact ht.ks y hy
      · have := ht.ks x (List.mem_of_getElem? hx)
        exact ⟨⟨by unfold For.put; dsimp only; omega, h3⟩, this.2⟩
    · intro n hnn
      exact .inl ((placed_sub (f := fun c : For => c.id) (x' := x.put st) hx rfl).subset hnn)
    · unfold idsOf at n1
      simp only [List.nodup_cons, List.nodup_append] at n1
      exact List.Nodup.sublist (placed_sub (f := fun c : For => c.id) (x' := x.put st) hx rfl) n1.2.2.1.2.1
end Go.Proofs.Ythepfbcgpbkbdaa
end
section
set_option linter.unusedVariables false
set_option linter.unusedSimpArgs false
set_option maxHeartbeats 1000000
set_option maxRecDepth 100000
namespace Go.Proofs.Ythepfbcgpbkbdaa
open Fw Go
theorem names_once {α : Type} {f : α → ByteArray} {l : List α} (h : NamesOk f l) : Once f l := once_of fun i x hx => nod_once.1 h.2 i x hx
theorem at_name {S : Sch} {name : ByteArray} {i : Nat} {T : Tab} (hi : tabAt S name = (i : Int)) (hT : S.tabs[i]? = some T) : T.name = name := by
  rcases seek_cases (fun T : Tab => decide (T.name = name)) S.tabs with ⟨e, _⟩ | ⟨j, y, e, hy, hp, _⟩
  · have : tabAt S name = -1 := e
    omega
  · have e : tabAt S name = (j : Int) := e
    have : j = i := by omega
    subst this
    rw [hT] at hy
    cases hy
    exact of_decide_eq_true hp
theorem tabAt_app {S : Sch} {v l : Int} {T : Tab} {name : ByteArray} (h : tabAt S name < 0) (hn : T.name = name) : tabAt ⟨v, l, S.tabs ++ [T]⟩ name = (S.tabs.length : Int) := by
  have h1 : seek (fun c : Tab => decide (c.name = name)) S.tabs 0 = -1 := by
    rcases seek_cases (fun c : Tab => decide (c.name = name)) S.tabs with ⟨e, _⟩ | ⟨j, y, e, _⟩
    · exact e
    · have : tabAt S name = (j : Int) := e
      omega
  have := seek_snoc (p := fun c : Tab => decide (c.name = name)) (x := T) (decide_eq_true hn) S.tabs 0 h1
  rw [Nat.zero_add] at this
  exact this
theorem did_state {S S' : Sch} {D : Ddl} {st : Int} (h : SchOk S) (hd : Did S D st S') : stateOf S' D = st := by
  cases hd with
  | create h1 hn hc ht hdb h6 c1 c8 ty s3 =>
    unfold stateOf
    rw [if_pos h1, tabAt_app ht rfl, if_neg (by omega), s3]
  | colAdd i T kd hi hT ha hf ty fi s0 =>
    refine (stateOf_set (T := T) (by omega) hi hT (by rfl)).trans ?_
    rw [if_pos (by omega)]
    exact stC_app ha rfl
  | colPut i T j x kd hi hT hj hx hn h4 h5 =>
    refine (stateOf_set (T := T) (by omega) hi hT (by rfl)).trans ?_
    rw [if_pos (by omega)]
    exact stC_placed (names_once (h.ts T (List.mem_of_getElem? hT)).nc) hj hx hn
  | idxAdd i T c kd hi hT ha hf hc s0 =>
    refine (stateOf_set (T := T) (by omega) hi hT (by rfl)).trans ?_
    rw [if_neg (by omega), if_pos (by omega)]
    exact stX_app ha rfl
  | idxPut i T j x kd hi hT hj hx hn h4 =>
    refine (stateOf_set (T := T) (by omega) hi hT (by rfl)).trans ?_
    rw [if_neg (by omega), if_pos (by omega)]
    exact stX_placed (names_once (h.ts T (List.mem_of_getElem? hT)).nx) hj hx hn
  | keyAdd i T c P kd hi hT ha hf hc hP hh s0 =>
    refine (stateOf_set (T := T) (by omega) hi hT (by rfl)).trans ?_
    rw [if_neg (by omega), if_neg (by omega)]
    exact stF_app ha rfl
  | keyPut i T j x kd hi hT hj hx hn h4 =>
    refine (stateOf_set (T := T) (by omega) hi hT (by rfl)).trans ?_
    rw [if_neg (by omega), if_neg (by omega)]
    exact stF_placed (names_once (h.ts T (List.mem_of_getElem? hT)).nk) hj hx hn
def er {α : Type} (p : α → Bool) (l : List α) : List α := if 0 ≤ seek p l 0 then l.eraseIdx (seek p l 0).toNat else l
theorem er_none {α : Type} {p : α → Bool} {l : List α} (h : seek p l 0 < 0) : er p l = l := by unfold er; rw [if_neg (by omega)]
theorem er_app {α : Type} {p : α → Bool} {l : List α} {x : α} (h : seek p l 0 < 0) (hx : p x = true) : er p (l ++ [x]) = er p l := by
  have h1 : seek p l 0 = -1 := by
    rcases seek_cases p l with ⟨e, _⟩ | ⟨j, y, e, _⟩
    · exact e
    · omega
  have h2 := seek_snoc hx l 0 h1
  rw [er_none h]
  unfold er
  rw [h2, if_pos (by omega)]
  simp
  rw [List.eraseIdx_append_of_length_le (by omega)]
  simp
theorem er_placed {α : Type} {f : α → ByteArray} {name : ByteArray} {l : List α} {j : Nat} {st : Int} {x x' : α} (ho : Once f l) (hj : seek (fun y : α => decide (f y = name)) l 0 = (j : Int)) (hx : l[j]? = some x) (hn : f x = name) (hf : f x' = f x) :
    er (fun y : α => decide (f y = name)) (placed l j st x') = er (fun y : α => decide (f y = name)) l := by
  have h0 : er (fun y : α => decide (f y = name)) l = l.eraseIdx j := by
    unfold er; rw [hj, if_pos (by omega)]; simp
  rw [h0]
  unfold placed
  by_cases hs : st = 0
  · rw [if_pos hs]
    have := once_erase ho hx
    rw [hn] at this
    exact er_none (by omega)
  · rw [if_neg hs]
    unfold er
    rw [seek_set (p := fun y : α => decide (f y = name)) (by rw [hf]) l j 0 hx, hj, if_pos (by omega)]
    simp only [Int.toNat_natCast]
    rw [List.eraseIdx_set_eq]
theorem withoutT_eq (T : Tab) (D : Ddl) : withoutT T D = { T with cols := if D.kind = 4 ∨ D.kind = 5 then er (fun c : Col => decide (c.name = D.column)) T.cols else T.cols
                                                                  idxs := if D.kind = 2 ∨ D.kind = 3 then er (fun c : Idx => decide (c.name = D.name)) T.idxs else T.idxs
                                                                  keys := if 6 ≤ D.kind then er (fun c : For => decide (c.name = D.name)) T.keys else T.keys } := by
  unfold withoutT er colAt idxAt keyAt
  congr 1
  · by_cases h : D.kind = 4 ∨ D.kind = 5 <;> simp [h]
  · by_cases h : D.kind = 2 ∨ D.kind = 3 <;> simp [h]
  · by_cases h : 6 ≤ D.kind <;> simp [h]
theorem without_set {S : Sch} {D : Ddl} {v l : Int} {i : Nat} {T T' : Tab} (h1 : D.kind ≠ 1) (hi : tabAt S D.table = (i : Int)) (hT : S.tabs[i]? = some T) (hn : T'.name = T.name) (hw : withoutT T' D = withoutT T D) : Sch.without ⟨v, l, S.tabs.set i T'⟩ D = S.without D := by
  have hTn := at_name hi hT
  obtain ⟨a, b, e, rfl⟩ := split_get hT
  unfold Sch.without
  dsimp only
  rw [e, set_mid]
  simp only [List.flatMap_append, List.flatMap_cons]
  have : outOf D T' = outOf D T := by
    unfold outOf
    rw [hn, hTn, if_neg (fun e => e rfl), if_neg h1, if_neg (fun e => e rfl), if_neg h1, hw]
  rw [this]
theorem did_without {S S' : Sch} {D : Ddl} {st : Int} (h : SchOk S) (hd : Did S D st S') : S'.without D = S.without D := by
  cases hd with
  | create h1 hn hc ht hdb h6 c1 c8 ty s3 =>
    unfold Sch.without
    dsimp only
    simp only [List.flatMap_append, List.flatMap_cons, List.flatMap_nil, List.append_nil]
    have : outOf D ⟨S.last + 1, D.table, mkCols (S.last + 2) D.cols, [], []⟩ = [] := by
      unfold outOf
      rw [if_neg (by simp), if_pos h1]
    rw [this, List.append_nil]
  | colAdd i T kd hi hT ha hf ty fi s0 =>
    refine without_set (by omega) hi hT (by rfl) ?_
    rw [withoutT_eq, withoutT_eq]
    dsimp only
    rw [if_pos (c := D.kind = 4 ∨ D.kind = 5) (by omega), er_app ha (by simp), if_pos (c := D.kind = 4 ∨ D.kind = 5) (by omega)]
  | colPut i T j x kd hi hT hj hx hn h4 h5 =>
    refine without_set (by omega) hi hT (by rfl) ?_
    rw [withoutT_eq, withoutT_eq]
    dsimp only
    rw [if_pos (c := D.kind = 4 ∨ D.kind = 5) (by omega), er_placed (f := Col.name) (x' := x.put st) (names_once (h.ts T (List.mem_of_getElem? hT)).nc) hj hx hn rfl, if_pos (c := D.kind = 4 ∨ D.kind = 5) (by omega)]
  | idxAdd i T c kd hi hT ha hf hc s0 =>
    refine without_set (by omega) hi hT (by rfl) ?_
    rw [withoutT_eq, withoutT_eq]
    dsimp only
    rw [if_pos (c := D.kind = 2 ∨ D.kind = 3) (by omega), er_app ha (by simp), if_pos (c := D.kind = 2 ∨ D.kind = 3) (by omega)]
  | idxPut i T j x kd hi hT hj hx hn h4 =>
    refine without_set (by omega) hi hT (by rfl) ?_
    rw [withoutT_eq, withoutT_eq]
    dsimp only
    rw [if_pos (c := D.kind = 2 ∨ D.kind = 3) (by omega), er_placed (f := Idx.name) (x' := x.put st) (names_once (h.ts T (List.mem_of_getElem? hT)).nx) hj hx hn rfl, if_pos (c := D.kind = 2 ∨ D.kind = 3) (by omega)]
  | keyAdd i T c P kd hi hT ha hf hc hP hh s0 =>
    refine without_set (by omega) hi hT (by rfl) ?_
    rw [withoutT_eq, withoutT_eq]
    dsimp only
    rw [if_pos (c := 6 ≤ D.kind) (by omega), er_app ha (by simp), if_pos (c := 6 ≤ D.kind) (by omega)]
  | keyPut i T j x kd hi hT hj hx hn h4 =>
    refine without_set (by omega) hi hT (by rfl) ?_
    rw [withoutT_eq, withoutT_eq]
    dsimp only
    rw [if_pos (c := 6 ≤ D.kind) (by omega), er_placed (f := For.name) (x' := x.put st) (names_once (h.ts T (List.mem_of_getElem? hT)).nk) hj hx hn rfl, if_pos (c := 6 ≤ D.kind) (by omega)]
structure Ready (S : Sch) (D : Ddl) : Prop where
  tab : ∃ (i : Nat) (T : Tab), tabAt S D.table = (i : Int) ∧ S.tabs[i]? = some T ∧ (D.kind = 4 ∨ D.kind = 5 → ∃ (j : Nat) (x : Col), colAt T D.column = (j : Int) ∧ T.cols[j]? = some x ∧ j ≠ 0) ∧
    (D.kind = 2 ∨ D.kind = 3 → ∃ (j : Nat) (x : Idx), idxAt T D.name = (j : Int) ∧ T.idxs[j]? = some x) ∧ (D.kind = 6 ∨ D.kind = 7 → ∃ (j : Nat) (x : For), keyAt T D.name = (j : Int) ∧ T.keys[j]? = some x)
  free : D.kind = 4 ∨ D.kind = 5 → Free S D
theorem set_at {S : Sch} {D : Ddl} {v l : Int} {i : Nat} {T T' : Tab} (hi : tabAt S D.table = (i : Int)) (hT : S.tabs[i]? = some T) (hn : T'.name = T.name) :
    tabAt ⟨v, l, S.tabs.set i T'⟩ D.table = (i : Int) ∧ (Sch.mk v l (S.tabs.set i T')).tabs[i]? = some T' := by
  have hil := (List.getElem?_eq_some_iff.1 hT).1
  exact ⟨by rw [tabAt_set hT hn, hi], by dsimp only; rw [List.getElem?_set_self hil]⟩
theorem free_set {S : Sch} {D : Ddl} {v l : Int} {i j : Nat} {T T' : Tab} {x : Col} (hi : tabAt S D.table = (i : Int)) (hT : S.tabs[i]? = some T) (hn : T'.name = T.name) (hj : colAt T' D.column = (j : Int)) (hx : T'.cols[j]? = some x)
    (hf : (∀ y ∈ T'.idxs, y.column ≠ x.id) ∧ (∀ y ∈ T'.keys, y.column ≠ x.id)) : Free ⟨v, l, S.tabs.set i T'⟩ D := by
  obtain ⟨g1, g2⟩ := set_at (v := v) (l := l) hi hT hn
  intro i' U j' x' hi' hU hj' hx'
  have : i' = i := by omega
  subst this
  rw [g2] at hU
  cases hU
  have : j' = j := by omega
  subst this
  rw [hx] at hx'
  cases hx'
  exact hf
theorem did_ready {S S' : Sch} {D : Ddl} {st : Int} (h : SchOk S) (h1 : D.kind ≠ 1) (h0 : st ≠ 0) (free : D.kind = 4 → Free S D) (hd : Did S D st S') : Ready S' D := by
  cases hd with
  | create k1 hn hc ht hdb h6 c1 c8 ty s3 => exact absurd k1 h1
  | colAdd i T kd hi hT ha hf ty fi s0 =>
    have ht := h.ts T (List.mem_of_getElem? hT)
    obtain ⟨n1, n2⟩ := nod_ids h (List.mem_of_getElem? hT)
    have hcid : ∀ c ∈ T.cols, c.id ≤ S.last := fun c hc => n2 c.id (by unfold idsOf; simp only [List.mem_cons, List.mem_append]; exact .inr (.inl (List.mem_map_of_mem (f := fun c : Col => c.id) hc)))
    have hs : seek (fun c : Col => decide (c.name = D.column)) T.cols 0 = -1 := by
      rcases seek_cases (fun c : Col => decide (c.name = D.column)) T.cols with ⟨e, _⟩ | ⟨j, y, e, _⟩
      · exact e
      · have : colAt T D.column = (j : Int) := e
        omega
    have hj : colAt { T with cols := T.cols ++ [⟨S.last + 1, D.column, D.type, st, D.dflt⟩] } D.column = (T.cols.length : Int) := by
      have := seek_snoc (p := fun c : Col => decide (c.name = D.column)) (x := ⟨S.last + 1, D.column, D.type, st, D.dflt⟩) (by simp) T.cols 0 hs
      rw [Nat.zero_add] at this
      exact this
    have hx : ({ T with cols := T.cols ++ [⟨S.last + 1, D.column, D.type, st, D.dflt⟩] } : Tab).cols[T.cols.length]? = some ⟨S.last + 1, D.column, D.type, st, D.dflt⟩ := by simp
    obtain ⟨g1, g2⟩ := set_at (v := S.version) (l := S.last + 1) (T' := { T with cols := T.cols ++ [⟨S.last + 1, D.column, D.type, st, D.dflt⟩] }) hi hT rfl
    refine ⟨⟨i, _, g1, g2, fun _ => ⟨_, _, hj, hx, by have := ht.c1; omega⟩, fun e => by omega, fun e => by omega⟩, fun _ => ?_⟩
    refine free_set hi hT rfl hj hx ⟨fun y hy e => ?_, fun y hy e => ?_⟩
    · obtain ⟨_, c, hc, e2⟩ := ht.xs y hy
      have := hcid c hc
      dsimp only at e
      omega
    · obtain ⟨_, c, hc, e2, _⟩ := ht.ks y hy
      have := hcid c hc
      dsimp only at e
      omega
  | colPut i T j x kd hi hT hj hx hn h4 h5 =>
    have ht := h.ts T (List.mem_of_getElem? hT)
    have hjl := (List.getElem?_eq_some_iff.1 hx).1
    have hj0 : j ≠ 0 := by
      rintro rfl
      rcases kd with kd | kd
      · refine h4 kd (ht.first x ?_)
        rw [List.head?_eq_getElem?]; exact hx
      · have := h5 kd
        unfold used at this
        simp at this
    have hfree : (∀ y ∈ T.idxs, y.column ≠ x.id) ∧ (∀ y ∈ T.keys, y.column ≠ x.id) := by
      rcases kd with kd | kd
      · exact free kd i T j x hi hT hj hx
      · have := h5 kd
        unfold used at this
        simp only [Bool.or_eq_false_iff, List.any_eq_false, decide_eq_true_eq] at this
        exact ⟨fun y hy => this.2.1 y hy, fun y hy => this.2.2 y hy⟩
    have hp : placed T.cols j st (x.put st) = T.cols.set j (x.put st) := by unfold placed; rw [if_neg h0]
    rw [hp]
    have hj' : colAt { T with cols := T.cols.set j (x.put st) } D.column = (j : Int) := by
      rw [← hj]
      exact seek_set (p := fun c : Col => decide (c.name = D.column)) (x := x) (x' := x.put st) rfl T.cols j 0 hx
    have hx' : ({ T with cols := T.cols.set j (x.put st) } : Tab).cols[j]? = some (x.put st) := List.getElem?_set_self hjl
    obtain ⟨g1, g2⟩ := set_at (v := S.version) (l := S.last) (T' := { T with cols := T.cols.set j (x.put st) }) hi hT rfl
    exact ⟨⟨i, _, g1, g2, fun _ => ⟨_, _, hj', hx', hj0⟩, fun e => by omega, fun e => by omega⟩, fun _ => free_set hi hT rfl hj' hx' hfree⟩
  | idxAdd i T c kd hi hT ha hf hc s0 =>
    have hs : seek (fun c : Idx => decide (c.name = D.name)) T.idxs 0 = -1 := by
      rcases seek_cases (fun c : Idx => decide (c.name = D.name)) T.idxs with ⟨e, _⟩ | ⟨j, y, e, _⟩
      · exact e
      · have : idxAt T D.name = (j : Int) := e
        omega
    have hj : idxAt { T with idxs := T.idxs ++ [⟨S.last + 1, D.name, c.id, D.unique, st⟩] } D.name = (T.idxs.length : Int) := by
      have := seek_snoc (p := fun c : Idx => decide (c.name = D.name)) (x := ⟨S.last + 1, D.name, c.id, D.unique, st⟩) (by simp) T.idxs 0 hs
      rw [Nat.zero_add] at this
      exact this
    obtain ⟨g1, g2⟩ := set_at (v := S.version) (l := S.last + 1) (T' := { T with idxs := T.idxs ++ [⟨S.last + 1, D.name, c.id, D.unique, st⟩] }) hi hT rfl
    exact ⟨⟨i, _, g1, g2, fun e => by omega, fun _ => ⟨_, ⟨S.last + 1, D.name, c.id, D.unique, st⟩, hj, by simp⟩, fun e => by omega⟩, fun e => by omega⟩
  | idxPut i T j x kd hi hT hj hx hn h4 =>
    have hjl := (List.getElem?_eq_some_iff.1 hx).1
    have hp : placed T.idxs j st (x.put st) = T.idxs.set j (x.put st) := by unfold placed; rw [if_neg h0]
    rw [hp]
    have hj' : idxAt { T with idxs := T.idxs.set j (x.put st) } D.name = (j : Int) := by
      rw [← hj]
      exact seek_set (p := fun c : Idx => decide (c.name = D.name)) (x := x) (x' := x.put st) rfl T.idxs j 0 hx
    obtain ⟨g1, g2⟩ := set_at (v := S.version) (l := S.last) (T' := { T with idxs := T.idxs.set j (x.put st) }) hi hT rfl
    exact ⟨⟨i, _, g1, g2, fun e => by omega, fun _ => ⟨_, _, hj', List.getElem?_set_self hjl⟩, fun e => by omega⟩, fun e => by omega⟩
  | keyAdd i T c P kd hi hT ha hf hc hP hh s0 =>
    have hs : seek (fun c : For => decide (c.name = D.name)) T.keys 0 = -1 := by
      rcases seek_cases (fun c : For => decide (c.name = D.name)) T.keys with ⟨e, _⟩ | ⟨j, y, e, _⟩
      · exact e
      · have : keyAt T D.name = (j : Int) := e
        omega
    have hj : keyAt { T with keys := T.keys ++ [⟨S.last + 1, D.name, c.id, P.id, st⟩] } D.name = (T.keys.length : Int) := by
      have := seek_snoc (p := fun c : For => decide (c.name = D.name)) (x := ⟨S.last + 1, D.name, c.id, P.id, st⟩) (by simp) T.keys 0 hs
      rw [Nat.zero_add] at this
      exact this
    obtain ⟨g1, g2⟩ := set_at (v := S.version) (l := S.last + 1) (T' := { T with keys := T.keys ++ [⟨S.last + 1, D.name, c.id, P.id, st⟩] }) hi hT rfl
    exact ⟨⟨i, _, g1, g2, fun e => by omega, fun e => by omega, fun _ => ⟨_, ⟨S.last + 1, D.name, c.id, P.id, st⟩, hj, by simp⟩⟩, fun e => by omega⟩
  | keyPut i T j x kd hi hT hj hx hn h4 =>
    have hjl := (List.getElem?_eq_some_iff.1 hx).1
    have hp : placed T.keys j st (x.put st) = T.keys.set j (x.put st) := by unfold placed; rw [if_neg h0]
    rw [hp]
    have hj' : keyAt { T with keys := T.keys.set j (x.put st) } D.name = (j : Int) := by
      rw [← hj]
      exact seek_set (p := fun c : For => decide (c.name = D.name)) (x := x) (x' := x.put st) rfl T.keys j 0 hx
    obtain ⟨g1, g2⟩ := set_at (v := S.version) (l := S.last) (T' := { T with keys := T.keys.set j (x.put st) }) hi hT rfl
    exact ⟨⟨i, _, g1, g2, fun e => by omega, fun e => by omega, fun _ => ⟨_, _, hj', List.getElem?_set_self hjl⟩⟩, fun e => by omega⟩
theorem did_vl {S S' : Sch} {D : Ddl} {st : Int} (hd : Did S D st S') : S'.version = S.version ∧ S.last ≤ S'.last ∧ S'.last ≤ S.last + 9 := by
  cases hd with
  | create h1 hn hc ht hdb h6 c1 c8 ty s3 => exact ⟨rfl, by dsimp only; omega, by dsimp only; omega⟩
  | colAdd => exact ⟨rfl, by dsimp only; omega, by dsimp only; omega⟩
  | colPut => exact ⟨rfl, by dsimp only; omega, by dsimp only; omega⟩
  | idxAdd => exact ⟨rfl, by dsimp only; omega, by dsimp only; omega⟩
  | idxPut => exact ⟨rfl, by dsimp only; omega, by dsimp only; omega⟩
  | keyAdd => exact ⟨rfl, by dsimp only; omega, by dsimp only; omega⟩
  | keyPut => exact ⟨rfl, by dsimp only; omega, by dsimp only; omega⟩
structure Stepped (S : Sch) (D : Ddl) (st : Int) (S' : Sch) : Prop where
  ok : SchOk S'
  ver : S'.version = S.version + 1
  last : S'.last ≤ S.last + 9
  state : stateOf S' D = st
  rest : S'.without D = S.without D
  ready : D.kind ≠ 1 → st ≠ 0 → Ready S' D
theorem turn_step {S S' : Sch} {D : Ddl} {st : Int} (hv : S.version + 1 ≤ 1125899906842624) (hl : S.last + 9 ≤ 1125899906842624) (free : D.kind = 4 → Free S D) (h : S.turn D st = (S', 0)) : Stepped S D st S' := by
  obtain ⟨hr, h0, h3, k1, k7, ht⟩ := turn_ok h
  have hS := right_ok.1 hr
  have hS1 : SchOk { S with version := S.version + 1 } := ⟨by have := hS.v0; dsimp only; omega, hv, hS.l0, hS.l1, hS.few, hS.nt, hS.ts, hS.ids, hS.nod⟩
  have hd := turn1_did k1 k7 S' ht
  have fr : D.kind = 4 → Free { S with version := S.version + 1 } D := free
  obtain ⟨g1, _, g3⟩ := did_vl hd
  have hw : S'.without D = S.without D := (did_without hS1 hd).trans (by rfl)
  exact ⟨did_ok hS1 hl h0 h3 (fun e _ => fr e) hd, g1, g3, did_state hS1 hd, hw, fun e1 e0 => did_ready hS1 e1 e0 fr hd⟩
theorem turn_goes {S : Sch} {D : Ddl} {st : Int} (h : SchOk S) (r : Ready S D) (k2 : 2 ≤ D.kind) (k7 : D.kind ≤ 7) (h0 : 0 ≤ st) (h3 : st ≤ 3) (hs : D.kind = 2 ∨ D.kind = 4 ∨ D.kind = 6 → stateOf S D ≠ 3) : ∃ S', S.turn D st = (S', 0) := by
  obtain ⟨⟨i, T, hi, hT, hc, hx, hk⟩, hf⟩ := r
  have hr := right_ok.2 h
  unfold Sch.turn
  rw [if_neg (by rw [hr]; simp; omega), if_neg (by omega)]
  have hi1 : tabAt { S with version := S.version + 1 } D.table = (i : Int) := hi
  have hst : stateOf S D = if D.kind = 4 ∨ D.kind = 5 then stC T D.column else if D.kind = 2 ∨ D.kind = 3 then stX T D.name else stF T D.name := by
    unfold stateOf
    rw [if_neg (by omega), hi, if_neg (by omega)]
    simp only [Int.toNat_natCast, hT]
  have key : ∃ S', turn1 { S with version := S.version + 1 } D st = .ok S' := by
    unfold turn1
    rw [if_neg (by omega), hi1, if_neg (by omega)]
    simp only [Int.toNat_natCast, hT]
    by_cases h4 : D.kind = 4 ∨ D.kind = 5
    · rw [if_pos h4]
      obtain ⟨j, x, hj, hxx, hj0⟩ := hc h4
      rw [if_pos h4] at hst
      unfold colTurn
      rw [if_neg (by omega), hj, if_neg (by omega)]
      simp only [Int.toNat_natCast, hxx]
      have e : stC T D.column = x.state := by
        unfold stC
        rw [hj, if_neg (by omega)]
        simp only [Int.toNat_natCast, hxx]
      have hu : used T j x = false := by
        obtain ⟨f1, f2⟩ := hf h4 i T j x hi hT hj hxx
        unfold used
        simp only [Bool.or_eq_false_iff, List.any_eq_false, decide_eq_true_eq]
        refine ⟨?_, fun y hy => f1 y hy, fun y hy => f2 y hy⟩
        simp; omega
      rw [if_neg (by rintro ⟨e4, e3⟩; exact hs (by omega) (by rw [hst, e, e3])), if_neg (by rw [hu]; simp)]
      exact ⟨_, rfl⟩
    rw [if_neg h4]
    rw [if_neg h4] at hst
    by_cases h2 : D.kind = 2 ∨ D.kind = 3
    · rw [if_pos h2]
      rw [if_pos h2] at hst
      obtain ⟨j, x, hj, hxx⟩ := hx h2
      unfold idxTurn
      rw [if_neg (by omega), hj, if_neg (by omega)]
      simp only [Int.toNat_natCast, hxx]
      have e : stX T D.name = x.state := by
        unfold stX
        rw [hj, if_neg (by omega)]
        simp only [Int.toNat_natCast, hxx]
      rw [if_neg (by rintro ⟨e4, e3⟩; exact hs (by omega) (by rw [hst, e, e3]))]
      exact ⟨_, rfl⟩
    rw [if_neg h2]
    rw [if_neg h2] at hst
    obtain ⟨j, x, hj, hxx⟩ := hk (by omega)
    unfold keyTurn
    rw [if_neg (by omega), hj, if_neg (by omega)]
    simp only [Int.toNat_natCast, hxx]
    have e : stF T D.name = x.state := by
      unfold stF
      rw [hj, if_neg (by omega)]
      simp only [Int.toNat_natCast, hxx]
    rw [if_neg (by rintro ⟨e4, e3⟩; exact hs (by omega) (by rw [hst, e, e3]))]
    exact ⟨_, rfl⟩
  obtain ⟨S', hS'⟩ := key
  rw [hS']
  exact ⟨S', rfl⟩
/-- what is not there is free -/
theorem free_none {S : Sch} {D : Ddl} (h : SchOk S) (hk : D.kind = 4 ∨ D.kind = 5) (hs : stateOf S D = 0) : Free S D := by
  intro i T j x hi hT hj hx
  exfalso
  have ht := h.ts T (List.mem_of_getElem? hT)
  have := (ht.cs x (List.mem_of_getElem? hx)).st.1
  unfold stateOf at hs
  rw [if_neg (by omega), hi, if_neg (by omega)] at hs
  simp only [Int.toNat_natCast, hT] at hs
  rw [if_pos hk] at hs
  unfold stC at hs
  rw [hj, if_neg (by omega)] at hs
  simp only [Int.toNat_natCast, hx] at hs
  omega
/-- a schema in which it is not there is the one without it -/
theorem without_none {S : Sch} {D : Ddl} (h : SchOk S) (k2 : 2 ≤ D.kind) (k7 : D.kind ≤ 7) (hs : stateOf S D = 0) : S.without D = ⟨0, 0, S.tabs⟩ := by
  unfold Sch.without
  congr 1
  have : ∀ T ∈ S.tabs, outOf D T = [T] := by
    intro T hT
    unfold outOf
    by_cases hn : T.name ≠ D.table
    · rw [if_pos hn]
    rw [if_neg hn, if_neg (by omega)]
    have hn : T.name = D.table := Classical.not_not.1 hn
    obtain ⟨i, hi⟩ := List.mem_iff_getElem?.1 hT
    have hti : tabAt S D.table = (i : Int) := by rw [← hn]; exact nod_once.1 h.nt.2 i T hi
    have ht := h.ts T hT
    unfold stateOf at hs
    rw [if_neg (by omega), hti, if_neg (by omega)] at hs
    simp only [Int.toNat_natCast, hi] at hs
    congr 1
    unfold withoutT
    have hc : ¬ ((D.kind = 4 ∨ D.kind = 5) ∧ 0 ≤ colAt T D.column) := by
      rintro ⟨h4, hc⟩
      rw [if_pos h4] at hs
      obtain ⟨j, x, hj, hx, _⟩ := neg_one_or (fun c : Col => decide (c.name = D.column)) T.cols (by unfold colAt at hc; omega)
      have hj : colAt T D.column = (j : Int) := hj
      have := (ht.cs x (List.mem_of_getElem? hx)).st.1
      unfold stC at hs
      rw [hj, if_neg (by omega)] at hs
      simp only [Int.toNat_natCast, hx] at hs
      omega
    have hx : ¬ ((D.kind = 2 ∨ D.kind = 3) ∧ 0 ≤ idxAt T D.name) := by
      rintro ⟨h4, hc⟩
      rw [if_neg (by omega), if_pos h4] at hs
      obtain ⟨j, x, hj, hx, _⟩ := neg_one_or (fun c : Idx => decide (c.name = D.name)) T.idxs (by unfold idxAt at hc; omega)
      have hj : idxAt T D.name = (j : Int) := hj
      have := (ht.xs x (List.mem_of_getElem? hx)).1.1
      unfold stX at hs
      rw [hj, if_neg (by omega)] at hs
      simp only [Int.toNat_natCast, hx] at hs
      omega
    have hk : ¬ (6 ≤ D.kind ∧ 0 ≤ keyAt T D.name) := by
      rintro ⟨h4, hc⟩
      rw [if_neg (by omega), if_neg (by omega)] at hs
      obtain ⟨j, x, hj, hx, _⟩ := neg_one_or (fun c : For => decide (c.name = D.name)) T.keys (by unfold keyAt at hc; omega)
      have hj : keyAt T D.name = (j : Int) := hj
      have := (ht.ks x (List.mem_of_getElem? hx)).1.1
      unfold stF at hs
      rw [hj, if_neg (by omega)] at hs
      simp only [Int.toNat_natCast, hx] at hs
      omega
    rw [if_neg hc, if_neg hx, if_neg hk]
  generalize S.tabs = l at this
  clear hs
  induction l with
  | nil => rfl
  | cons T l ih =>
    rw [List.flatMap_cons, this T (by simp), ih (fun U hU => this U (by simp [hU]))]
    first | done | rfl
end Go.Proofs.Ythepfbcgpbkbdaa
end
section
set_option linter.unusedVariables false
set_option linter.unusedSimpArgs false
set_option maxHeartbeats 1000000
set_option maxRecDepth 100000
namespace Go.Proofs.Ythepfbcgpbkbdaa
open Fw Go
/-- one step is as it should be -/
structure Link (S0 : Sch) (D : Ddl) (A B : Sch) : Prop where
  a0 : SchOk A
  b0 : SchOk B
  near : 2 ≤ D.kind → D.kind ≤ 5 → stateOf B D - stateOf A D ≤ 1 ∧ stateOf A D - stateOf B D ≤ 1
  v0 : A.version ≤ B.version
  v1 : B.version ≤ A.version + 1
  rest : B.without D = S0.without D
def Chain (S0 : Sch) (D : Ddl) : Sch → List Sch → Prop
  | _, [] => True
  | A, B :: l => Link S0 D A B ∧ Chain S0 D B l
theorem Chain.at {S0 : Sch} {D : Ddl} : ∀ {l : List Sch} {A X Y : Sch} {i : Nat}, Chain S0 D A l → (A :: l)[i]? = some X → (A :: l)[i + 1]? = some Y → Link S0 D X Y
  | [], A, X, Y, i, _, _, hy => by simp at hy
  | B :: l, A, X, Y, 0, h, hx, hy => by
    simp at hx hy
    subst hx hy
    exact h.1
  | B :: l, A, X, Y, i + 1, h, hx, hy => Chain.at (l := l) (A := B) (i := i) h.2 (by simpa using hx) (by simpa using hy)
def Legal (kind : Int) : Int → List (Int × Int) → Prop
  | _, [] => True
  | st, m :: ms => if m.1 = 1 ∨ m.1 = 2 then (st ≠ 0 ∧ 0 ≤ m.2 ∧ m.2 ≤ 3 ∧ (kind = 2 ∨ kind = 4 ∨ kind = 6 → st ≠ 3) ∧ (kind ≤ 5 → m.2 - st ≤ 1 ∧ st - m.2 ≤ 1)) ∧ Legal kind m.2 ms else Legal kind st ms
instance : ∀ (kind st : Int) (ms : List (Int × Int)), Decidable (Legal kind st ms)
  | _, _, [] => isTrue trivial
  | kind, st, m :: ms => by
    unfold Legal
    have := instDecidableLegal kind m.2 ms
    have := instDecidableLegal kind st ms
    infer_instance
def lastSt : Int → List (Int × Int) → Int
  | st, [] => st
  | st, m :: ms => if m.1 = 1 ∨ m.1 = 2 then lastSt m.2 ms else lastSt st ms
/-- where a walk comes to -/
structure Ends (S0 : Sch) (D : Ddl) (S : Sch) (st : Int) (ms : List (Int × Int)) (E : Sch) : Prop where
  len : (walk D S ms).1.length = ms.length
  last : (S :: (walk D S ms).1)[ms.length]? = some E
  ok : SchOk E
  state : stateOf E D = lastSt st ms
  rest : E.without D = S0.without D
  ready : lastSt st ms ≠ 0 → Ready E D
  ver : E.version ≤ S.version + ms.length
  lst : E.last ≤ S.last + 9 * ms.length
theorem follow {S0 : Sch} {D : Ddl} (k2 : 2 ≤ D.kind) (k7 : D.kind ≤ 7) : ∀ (ms : List (Int × Int)) (S : Sch) (st : Int), SchOk S → (st ≠ 0 → Ready S D) → stateOf S D = st → S.version + ms.length ≤ 1125899906842624 → S.last + 9 * ms.length ≤ 1125899906842624 → S.without D = S0.without D → Legal D.kind st ms →
    (walk D S ms).2 = true ∧ Chain S0 D S (walk D S ms).1 ∧ ∃ E, Ends S0 D S st ms E
  | [], S, st, h, r, hs, hv, hl, hw, _ => ⟨rfl, trivial, S, rfl, rfl, h, hs, hw, r, by simp, by simp⟩
  | m :: ms, S, st, h, r, hs, hv, hl, hw, hg => by
    simp only [List.length_cons] at hv hl
    rw [walk_cons]
    by_cases hm : m.1 = 1 ∨ m.1 = 2
    · unfold Legal at hg
      rw [if_pos hm] at hg
      obtain ⟨⟨g0, g1, g2, g3, g4⟩, g5⟩ := hg
      obtain ⟨S', hS'⟩ := turn_goes h (r g0) k2 k7 g1 g2 (fun e => by rw [hs]; exact g3 e)
      have hmv : moved D S m = (S', 0) := by unfold moved; rw [if_pos hm, hS']
      have hst := turn_step (by omega) (by omega) (fun e => (r g0).free (by omega)) hS'
      have v1 := hst.ver
      have l1 := hst.last
      obtain ⟨i1, i2, E, hE⟩ := follow k2 k7 ms S' m.2 hst.ok (fun e => hst.ready (by omega) e) hst.state (by omega) (by omega) (hst.rest.trans hw) g5
      rw [hmv, if_neg (by simp)]
      dsimp only
      refine ⟨i1, ⟨⟨h, hst.ok, fun _ e5 => ?_, by omega, by omega, hst.rest.trans hw⟩, i2⟩, E, ?_⟩
      · rw [hst.state, hs]; exact g4 e5
      · have hls : lastSt st (m :: ms) = lastSt m.2 ms := by
          show (if m.1 = 1 ∨ m.1 = 2 then lastSt m.2 ms else lastSt st ms) = _
          rw [if_pos hm]
        have hwk : (walk D S (m :: ms)).1 = S' :: (walk D S' ms).1 := by rw [walk_cons, hmv, if_neg (by simp)]
        refine ⟨by rw [hwk, List.length_cons, List.length_cons, hE.len], by rw [hwk, List.length_cons, List.getElem?_cons_succ]; exact hE.last, hE.ok, by rw [hls]; exact hE.state, hE.rest, by rw [hls]; exact hE.ready, ?_, ?_⟩
        · have := hE.ver; simp only [List.length_cons]; omega
        · have := hE.lst; simp only [List.length_cons]; omega
    · unfold Legal at hg
      rw [if_neg hm] at hg
      have hmv : moved D S m = (S, 0) := by unfold moved; rw [if_neg hm]
      obtain ⟨i1, i2, E, hE⟩ := follow k2 k7 ms S st h r hs (by omega) (by omega) hw hg
      rw [hmv, if_neg (by simp)]
      dsimp only
      refine ⟨i1, ⟨⟨h, h, fun _ _ => by omega, by omega, by omega, hw⟩, i2⟩, E, ?_⟩
      have hls : lastSt st (m :: ms) = lastSt st ms := by
        show (if m.1 = 1 ∨ m.1 = 2 then lastSt m.2 ms else lastSt st ms) = _
        rw [if_neg hm]
      have hwk : (walk D S (m :: ms)).1 = S :: (walk D S ms).1 := by rw [walk_cons, hmv, if_neg (by simp)]
      refine ⟨by rw [hwk, List.length_cons, List.length_cons, hE.len], by rw [hwk, List.length_cons, List.getElem?_cons_succ]; exact hE.last, hE.ok, by rw [hls]; exact hE.state, hE.rest, by rw [hls]; exact hE.ready, ?_, ?_⟩
      · have := hE.ver; simp only [List.length_cons]; omega
      · have := hE.lst; simp only [List.length_cons]; omega
/-- a walk whose first move is a turn: refused at once, or it goes on to its end -/
theorem start {S : Sch} {D : Ddl} {st : Int} {m : Int × Int} {ms : List (Int × Int)} (hm : m.1 = 1 ∨ m.1 = 2) (h : SchOk S) (hs : stateOf S D = st) (hv : S.version ≤ 562949953421312) (hl : S.last ≤ 562949953421312) (hn : ms.length ≤ 10)
    (fr : D.kind = 4 → Free S D) (near : 2 ≤ D.kind → D.kind ≤ 5 → m.2 - st ≤ 1 ∧ st - m.2 ≤ 1) (k1 : 1 ≤ D.kind) (k7 : D.kind ≤ 7) (k0 : D.kind = 1 → ms = []) (hg : Legal D.kind m.2 ms) :
    walk D S (m :: ms) = ([], false) ∨ ((walk D S (m :: ms)).2 = true ∧ Chain S D S (walk D S (m :: ms)).1 ∧ ∃ E, (walk D S (m :: ms)).1.length = (m :: ms).length ∧ (S :: (walk D S (m :: ms)).1)[(m :: ms).length]? = some E ∧ SchOk E ∧ stateOf E D = lastSt m.2 ms ∧ E.without D = S.without D ∧
      (D.kind ≠ 1 → lastSt m.2 ms ≠ 0 → Ready E D) ∧ E.version ≤ S.version + (m :: ms).length ∧ E.last ≤ S.last + 9 * (m :: ms).length) := by
  rw [walk_cons]
  by_cases he : (moved D S m).2 ≠ 0
  · exact .inl (if_pos he)
  · rw [if_neg he]
    right
    have hmv : moved D S m = S.turn D m.2 := by unfold moved; rw [if_pos hm]
    rw [hmv] at he ⊢
    obtain ⟨S', e, hS'⟩ : ∃ S' e, S.turn D m.2 = (S', e) := ⟨_, _, rfl⟩
    rw [hS'] at he ⊢
    have he : e = 0 := by simpa using he
    subst he
    have hst := turn_step (by omega) (by omega) fr hS'
    have v1 := hst.ver
    have l1 := hst.last
    dsimp only
    have link : Link S D S S' := ⟨h, hst.ok, fun a b => by rw [hst.state, hs]; exact near a b, by omega, by omega, hst.rest⟩
    by_cases hk : D.kind = 1
    · have := k0 hk
      subst this
      refine ⟨rfl, ⟨link, trivial⟩, S', rfl, rfl, hst.ok, hst.state, hst.rest, fun e => absurd hk e, by simp; omega, by simp; omega⟩
    · obtain ⟨i1, i2, E, hE⟩ := follow (S0 := S) (by omega) k7 ms S' m.2 hst.ok (fun e => hst.ready hk e) hst.state (by omega) (by omega) hst.rest hg
      refine ⟨i1, ⟨link, i2⟩, E, by rw [List.length_cons, List.length_cons, hE.len], by rw [List.length_cons, List.getElem?_cons_succ]; exact hE.last, hE.ok, hE.state, hE.rest, fun _ => hE.ready, ?_, ?_⟩
      · have := hE.ver; simp only [List.length_cons]; omega
      · have := hE.lst; simp only [List.length_cons]; omega
/-- the moves ahead of the one that fills -/
def ahead (ms : List (Int × Int)) : Nat := match ms with | [] => 0 | m :: l => if m.1 = 4 then 0 else ahead l + 1
theorem undo_plain {S : Sch} {D : Ddl} (h : SchOk S) (hv : S.version ≤ 562949953421312) (hl : S.last ≤ 562949953421312) (hs : stateOf S D = 0) (hn : ahead (pairs (pathL D.kind false)) ≠ (pairs (pathL D.kind false)).length) (hb : (pairs (pathL D.kind true)).length ≠ 0) :
    walk D S ((pairs (pathL D.kind false)).take (ahead (pairs (pathL D.kind false)))) = ([], false) ∨ ((walk D S ((pairs (pathL D.kind false)).take (ahead (pairs (pathL D.kind false))))).2 = true ∧ ∃ E : Sch, (S :: (walk D S ((pairs (pathL D.kind false)).take (ahead (pairs (pathL D.kind false))))).1).getLast? = some E ∧
      (walk D E (pairs (pathL D.kind true))).2 = true ∧ ∃ F : Sch, (E :: (walk D E (pairs (pathL D.kind true))).1).getLast? = some F ∧ F.tabs = S.tabs) := by
  have main : ∀ (m : Int × Int) (ms bs : List (Int × Int)), (pairs (pathL D.kind false)).take (ahead (pairs (pathL D.kind false))) = m :: ms → pairs (pathL D.kind true) = bs → (m.1 = 1 ∨ m.1 = 2) → ms.length ≤ 10 → bs.length ≤ 10 → (2 ≤ D.kind → D.kind ≤ 5 → m.2 - 0 ≤ 1 ∧ 0 - m.2 ≤ 1) → 2 ≤ D.kind → D.kind ≤ 7 → Legal D.kind m.2 ms →
      Legal D.kind (lastSt m.2 ms) bs → lastSt m.2 ms ≠ 0 → lastSt (lastSt m.2 ms) bs = 0 → walk D S ((pairs (pathL D.kind false)).take (ahead (pairs (pathL D.kind false)))) = ([], false) ∨ ((walk D S ((pairs (pathL D.kind false)).take (ahead (pairs (pathL D.kind false))))).2 = true ∧ ∃ E : Sch, (S :: (walk D S ((pairs (pathL D.kind false)).take (ahead (pairs (pathL D.kind false))))).1).getLast? = some E ∧
      (walk D E (pairs (pathL D.kind true))).2 = true ∧ ∃ F : Sch, (E :: (walk D E (pairs (pathL D.kind true))).1).getLast? = some F ∧ F.tabs = S.tabs) := by
    intro m ms bs hp hq hm n1 n2 near k2 k7 g1 g2 g3 g4
    rw [hp, hq]
    rcases start hm h hs hv hl n1 (fun e => free_none h (by omega) hs) near (by omega) k7 (by omega) g1 with e | ⟨e1, e2, E, e3, e4, e5, e6, e7, e8, e9, e10⟩
    · exact .inl e
    · refine .inr ⟨e1, E, ?_, ?_⟩
      · rw [List.getLast?_eq_getElem?, List.length_cons, e3]; exact e4
      simp only [List.length_cons] at e9 e10
      obtain ⟨f1, f2, F, hF⟩ := follow (S0 := S) k2 k7 bs E (lastSt m.2 ms) e5 (fun e => e8 (by omega) e) e6 (by omega) (by omega) e7 g2
      refine ⟨f1, F, ?_, ?_⟩
      · rw [List.getLast?_eq_getElem?, List.length_cons, hF.len]; exact hF.last
      · have w1 := without_none hF.ok k2 k7 (by rw [hF.state]; exact g4)
        have w2 := without_none h k2 k7 hs
        have := hF.rest
        rw [w1, w2] at this
        exact (Sch.mk.injEq _ _ _ _ _ _ ▸ this).2.2
  by_cases h2 : D.kind = 2
  · refine main (1, 1) [(1, 2), (3, 0)] [(1, 1), (3, 0), (5, 0), (1, 0)] (by rw [h2]; (first | done | rfl)) (by rw [h2]; (first | done | rfl)) (by simp) (by simp) (by simp) (by simp) (by omega) (by omega) (by rw [h2]; decide) (by rw [h2]; decide) (by decide) (by decide)
  by_cases h4 : D.kind = 4
  · refine main (1, 1) [(1, 2), (3, 0)] [(1, 1), (1, 0)] (by rw [h4]; (first | done | rfl)) (by rw [h4]; (first | done | rfl)) (by simp) (by simp) (by simp) (by simp) (by omega) (by omega) (by rw [h4]; decide) (by rw [h4]; decide) (by decide) (by decide)
  by_cases h6 : D.kind = 6
  · refine main (1, 2) [(3, 0)] [(1, 0)] (by rw [h6]; (first | done | rfl)) (by rw [h6]; (first | done | rfl)) (by simp) (by simp) (by simp) (by omega) (by omega) (by omega) (by rw [h6]; decide) (by rw [h6]; decide) (by decide) (by decide)
  · exfalso
    apply hb
    unfold pathL
    rw [if_pos rfl, if_neg h2, if_neg h4, if_neg h6]
    first | done | rfl
end Go.Proofs.Ythepfbcgpbkbdaa
end
section
set_option linter.unusedVariables false
set_option linter.unusedSimpArgs false
set_option maxHeartbeats 1000000
set_option maxRecDepth 100000
namespace Go.Proofs.Ythepfbcgpbkbdaa
open Fw Go
attribute [-simp] Fw.W.ld_iff Fw.W.st_iff
theorem path_len (k : Int) (b : Bool) : (pairs (pathL k b)).length ≤ 10 := by
  have : (pathL k b).length ≤ 10 := by
    unfold pathL
    repeat' split
    all_goals decide
  have := pairs_len (pathL k b)
  omega
/-- a schema of the list is read -/
theorem sch_ld {s : PH} {a : Option Addr} {n c : Nat} {l : List SchP} (hr : rowE schE s 24 a n c l) {i : Nat} {q : SchP} (hq : l[i]? = some q) {K : Den [.int .i64, .int .i64, .slice] → W.T} (hK : K (q.S.version, q.S.last, q.t, ()) s) :
    (0 ≤ (i : Int) ∧ (i : Int) < (n : Int)) ∧ W.unSome a (fun p => W.ld [.int .i64, .int .i64, .slice] (p.add (i * 3)) K) s := by
  have hi := (List.getElem?_eq_some_iff.1 hq).1
  have hn := hr.len
  obtain ⟨g, rfl, hh⟩ := hr.at hq
  refine ⟨by omega, ?_⟩
  simp only [W.unSome_some, add_mk, Nat.zero_add]
  exact ld_has_z hh (y := (q.S.version, q.S.last, q.t, ())) rfl hK
end Go.Proofs.Ythepfbcgpbkbdaa
end
section
set_option linter.unusedVariables false
set_option linter.unusedSimpArgs false
set_option maxHeartbeats 1000000
set_option maxRecDepth 100000
namespace Go.Proofs.Ythepfbcgpbkbdaa
open Fw Go
attribute [-simp] Fw.W.ld_iff Fw.W.st_iff
theorem ahead_le : ∀ (l : List (Int × Int)), ahead l ≤ l.length
  | [] => Nat.le_refl _
  | m :: l => by
    have := ahead_le l
    unfold ahead
    split
    · omega
    · simp only [List.length_cons]; omega
theorem ahead_at : ∀ (l : List (Int × Int)) (k : Nat) (m : Int × Int), l[k]? = some m → (∀ j m', j < k → l[j]? = some m' → m'.1 ≠ 4) → m.1 = 4 → ahead l = k
  | [], k, m, h, _, _ => by simp at h
  | x :: l, 0, m, h, _, h4 => by
    simp at h; subst h
    unfold ahead; rw [if_pos h4]
  | x :: l, k + 1, m, h, hb, h4 => by
    unfold ahead
    rw [if_neg (hb 0 x (by omega) rfl), ahead_at l k m (by simpa using h) (fun j m' hj hm => hb (j + 1) m' (by omega) (by simpa using hm)) h4]
theorem ahead_none : ∀ (l : List (Int × Int)), (∀ m ∈ l, m.1 ≠ 4) → ahead l = l.length
  | [], _ => rfl
  | x :: l, h => by
    unfold ahead
    rw [if_neg (h x (by simp)), ahead_none l fun m hm => h m (by simp [hm])]; (first | done | rfl)
/-- the last one of a list is read -/
theorem last_ld {s : PH} {a : Option Addr} {n c : Nat} {l : List SchP} (hr : rowE schE s 24 a n c l) (hn : n ≤ 1000) {E : Sch} (hE : (l.map (·.S)).getLast? = some E) {K : Den [.int .i64, .int .i64, .slice] → W.T} (hK : ∀ q ∈ l, q.S = E → K (q.S.version, q.S.last, q.t, ()) s) :
    (0 ≤ IntKind.i64.wrap ((n : Int) - 1) ∧ IntKind.i64.wrap ((n : Int) - 1) < (n : Int)) ∧ W.unSome a (fun p => W.ld [.int .i64, .int .i64, .slice] (p.add ((IntKind.i64.wrap ((n : Int) - 1)).toNat * 3)) K) s := by
  have hnl := hr.len
  rw [List.getLast?_eq_getElem?, List.getElem?_map] at hE
  cases hq : l[(l.map (·.S)).length - 1]? with
  | none => rw [hq] at hE; cases hE
  | some q =>
    rw [hq] at hE
    have hE : q.S = E := Option.some.inj hE
    rw [List.length_map] at hq
    have hi := (List.getElem?_eq_some_iff.1 hq).1
    have hw : IntKind.i64.wrap ((n : Int) - 1) = ((l.length - 1 : Nat) : Int) := by rw [wrap_in (by omega) (by omega)]; omega
    rw [hw]
    simp only [Int.toNat_natCast]
    exact sch_ld hr hq (hK q (List.mem_of_getElem? hq) hE)
theorem law_SchemaUndo {s : PH} {t : Tri} {S : Sch} {ps : List TabP} (h : SchB s t S ps) (hsm : ∀ T ∈ S.tabs, T.Sm) (D : Ddl) {u : Tri} (hu : SlB colE s u D.cols) :
    DCalls Try.prog 8 #[schV S t, ddlV D u] s fun y s' => y = .bool true ∧ Fw.Mod [] s s' := by
  obtain ⟨ta, tn, tc⟩ := t
  obtain ⟨ua, un, uc⟩ := u
  refine ok_SchemaUndo S.version S.last ta tn tc D.kind D.table D.name D.column D.parent D.unique D.type D.dflt.kind D.dflt.n D.dflt.s ua un uc _ s ?_
  unfold vc_SchemaUndo
  obtain ⟨R, hR⟩ : ∃ R : Value → PH → Prop, (fun y s' => y = .bool true ∧ Fw.Mod [] s s') = R := ⟨_, rfl⟩
  have hret : ∀ {b : Bool} {s' : PH}, b = true → Fw.Mod [] s s' → R (.bool b) s' := fun e m => by rw [← hR]; exact ⟨by rw [e], m⟩
  rw [hR]
  simp only [RP_join, RP_ite, RP_call, RP_callQ, RP_ret, RP_nw, RP_app, RP_st, RP_ld, RP_unSome, RP_guard, RP_loop, RP_still, W.unSome_some]
  obtain ⟨sv, hsv⟩ : ∃ z : Den [.int .i64, .int .i64, .slice], z = (S.version, S.last, (ta, tn, tc), ()) := ⟨_, rfl⟩
  obtain ⟨dv, hdv⟩ : ∃ z : Den [.int .i64, .str, .str, .str, .str, .bool, .int .i64, .int .i64, .int .i64, .str, .slice], z = (D.kind, D.table, D.name, D.column, D.parent, D.unique, D.type, D.dflt.kind, D.dflt.n, D.dflt.s, (ua, un, uc), ()) := ⟨_, rfl⟩
  refine W.join_gen (fun z s' => z = (sv, dv, ()) ∧ s' = s ∧ S.tabs.length + D.cols.length + wsum S.tabs ≤ 300 ∧ right S = true ∧ S.version ≤ 562949953421312 ∧ S.last ≤ 562949953421312 ∧ stateOf S D = 0) ?_ ?_
  rotate_left
  · intro J hJ
    refine callq ((true, ()), ()) (c_awake s) rfl ?_
    refine (W.br_iff _ _ _ _).2 ⟨fun e => (by cases e), fun _ => ?_⟩
    refine W.call_of (c_great h D (u := (ua, un, uc)) hu) ?_
    rintro _ s' ⟨⟨b, rfl, hb⟩, rfl⟩
    refine ⟨((b, ()), ()), rfl, ?_⟩
    refine (W.br_iff _ _ _ _).2 ⟨fun _ => ?_, fun e => ?_⟩
    · exact callq ((true, ()), ()) (c_awake _) rfl (hret rfl (Mod.refl _ _))
    have hg := hb e
    have hS := h.is (by omega)
    have hck := c_Check hS
    obtain ⟨er, her⟩ : ∃ e, errS S = e := ⟨_, rfl⟩
    rw [her] at hck
    refine callq ((er, ()), ()) hck rfl ?_
    refine (W.br_iff _ _ _ _).2 ⟨fun _ => ?_, fun e => ?_⟩
    · exact callq ((true, ()), ()) (c_awake _) rfl (hret rfl (Mod.refl _ _))
    have hr : right S = true := by
      have e : (er != 0) = false := e
      rw [← her] at e
      unfold errS at e
      by_cases hr : right S = true
      · exact hr
      · rw [if_neg hr] at e; simp at e
    refine callq ((stateOf S D, ()), ()) (c_rState hS D (ua, un, uc)) rfl ?_
    refine (W.br_iff _ _ _ _).2 ⟨fun _ => ?_, fun e0 => ?_⟩
    · exact callq ((true, ()), ()) (c_awake _) rfl (hret rfl (Mod.refl _ _))
    have e0 : (stateOf S D != 0) = false := e0
    refine (W.br_iff _ _ _ _).2 ⟨fun _ => ?_, fun e1 => ?_⟩
    · exact callq ((true, ()), ()) (c_awake _) rfl (hret rfl (Mod.refl _ _))
    refine (W.br_iff _ _ _ _).2 ⟨fun _ => ?_, fun e2 => ?_⟩
    · exact callq ((true, ()), ()) (c_awake _) rfl (hret rfl (Mod.refl _ _))
    have e1 := of_decide_eq_false e1
    have e2 := of_decide_eq_false e2
    exact hJ _ _ ⟨by rw [hsv, hdv], rfl, hg, hr, by omega, by omega, by simpa using e0⟩
  rintro _ s0 ⟨rfl, rfl, hg, hr, hv, hl, hs0⟩
  subst hsv hdv
  have hS := h.is (by omega)
  have hok := right_ok.1 hr
  have hU := hu.few (by omega)
  have hplain := undo_plain hok hv hl hs0
  dsimp only
  refine W.call_of (c_Path D (ua, un, uc) false s0) ?_
  rintro _ s3 ⟨⟨pa, pn, pc⟩, rfl, hp, m3⟩
  refine ⟨(((pa, pn, pc), ()), ()), rfl, ?_⟩
  have hpn : pn = (pairs (pathL D.kind false)).length := hp.len
  have hpl := path_len D.kind false
  have hpc : pn ≤ pc := hp.le
  obtain ⟨ms, hms⟩ : ∃ ms, pairs (pathL D.kind false) = ms := ⟨_, rfl⟩
  obtain ⟨bs', hbs⟩ : ∃ ms, pairs (pathL D.kind true) = ms := ⟨_, rfl⟩
  rw [hms] at hplain hp hpn hpl
  rw [hbs] at hplain
  refine W.join_gen (fun z s' => z = ((S.version, S.last, (ta, tn, tc), ()), (D.kind, D.table, D.name, D.column, D.parent, D.unique, D.type, D.dflt.kind, D.dflt.n, D.dflt.s, (ua, un, uc), ()), ((pa, pn, pc), ()), (((ahead ms : Nat) : Int), ()), ()) ∧ s' = s3) ?_ ?_
  rotate_left
  · intro J hJ
    refine ⟨fun z s' => ∃ k : Nat, z = ((S.version, S.last, (ta, tn, tc), ()), (D.kind, D.table, D.name, D.column, D.parent, D.unique, D.type, D.dflt.kind, D.dflt.n, D.dflt.s, (ua, un, uc), ()), ((pa, pn, pc), ()), ((k : Int), ()), ()) ∧ k ≤ pn ∧ (∀ j m', j < k → ms[j]? = some m' → m'.1 ≠ 4) ∧ s' = s3,
      fun z _ => pn - z.2.2.2.1.1.toNat, ⟨0, rfl, Nat.zero_le _, fun j m' hj => by omega, rfl⟩, ?_⟩
    rintro _ s4 ⟨k, rfl, hk, hb, rfl⟩
    dsimp only at hk ⊢
    refine (W.br_iff _ _ _ _).2 ⟨fun hlt => ?_, fun hge => ?_⟩
    · have hlt0 : (k : Int) < (pn : Int) := of_decide_eq_true hlt
      clear hlt
      have hlt : k < pn := by omega
      obtain ⟨x, hx⟩ : ∃ x, ms[k]? = some x := ⟨_, List.getElem?_eq_getElem (by omega)⟩
      obtain ⟨ad, had, hh⟩ := (elems.of_row hp).at_enc hx
      dsimp only at had
      subst had
      refine ⟨by omega, ?_⟩
      simp only [W.unSome_some, Int.toNat_natCast]
      refine ld_has (j := 0) hh (cs := [.int .i64]) (y := (x.1, ())) rfl ?_
      refine (W.br_iff _ _ _ _).2 ⟨fun h4 => ?_, fun h4 => ?_⟩
      · have h4 : (x.1 != 4) = true := h4
        have h4 : x.1 ≠ 4 := by simpa using h4
        rw [wrap_succ (k := k) (by omega)]
        refine ⟨⟨k + 1, rfl, hlt, fun j m' hj hm => ?_, rfl⟩, by simp only [Int.toNat_natCast]; omega⟩
        by_cases hjk : j = k
        · subst hjk
          rw [hx] at hm
          cases hm
          exact h4
        · exact hb j m' (by omega) hm
      · have h4 : (x.1 != 4) = false := h4
        have h4 : x.1 = 4 := by simpa using h4
        have := ahead_at ms k x hx hb h4
        exact hJ _ _ ⟨by rw [this], rfl⟩
    · have hge : ¬ (k : Int) < (pn : Int) := of_decide_eq_false hge
      have hge : k = pn := by omega
      have : ahead ms = k := by
        rw [ahead_none ms fun m hm => ?_, hge, hpn]
        obtain ⟨j, hj⟩ := List.mem_iff_getElem?.1 hm
        exact hb j m (by have := (List.getElem?_eq_some_iff.1 hj).1; omega) hj
      exact hJ _ _ ⟨by rw [this], rfl⟩
  rintro _ s4 ⟨rfl, rfl⟩
  have hal := ahead_le ms
  dsimp only
  refine W.call_of (c_Path D (ua, un, uc) true s4) ?_
  rintro _ s5 ⟨⟨ba, bn, bc⟩, rfl, hbp, m5⟩
  refine ⟨(((ba, bn, bc), ()), ()), rfl, ?_⟩
  have hbn : bn = (pairs (pathL D.kind true)).length := hbp.len
  have hbl := path_len D.kind true
  rw [hbs] at hbp hbn hbl
  have m35 := m3.trans m5
  refine W.join_gen (fun z s' => z = ((S.version, S.last, (ta, tn, tc), ()), (D.kind, D.table, D.name, D.column, D.parent, D.unique, D.type, D.dflt.kind, D.dflt.n, D.dflt.s, (ua, un, uc), ()), ((pa, pn, pc), ()), (((ahead ms : Nat) : Int), ()), ((ba, bn, bc), ()), ()) ∧ s' = s5 ∧ ahead ms ≠ ms.length ∧ bs'.length ≠ 0) ?_ ?_
  rotate_left
  · intro J hJ
    refine (W.br_iff _ _ _ _).2 ⟨fun _ => hret rfl m35, fun e1 => (W.br_iff _ _ _ _).2 ⟨fun _ => hret rfl m35, fun e2 => hJ _ _ ⟨rfl, rfl, ?_, ?_⟩⟩⟩
    · have e1 : (((ahead ms : Nat) : Int) == ((pn : Nat) : Int)) = false := e1
      rw [hpn] at e1
      rw [beq_dec] at e1
      have := of_decide_eq_false e1
      omega
    · have e2 : (((bn : Nat) : Int) == 0) = false := e2
      rw [beq_dec] at e2
      have := of_decide_eq_false e2
      omega
  rintro _ s6 ⟨rfl, rfl, hn1, hn2⟩
  have hplain := hplain hn1 hn2
  dsimp only
  refine ⟨by omega, ?_⟩
  have hsl : (if pc = 0 then pa else Option.map (fun x => x.add 0) pa) = pa := by split <;> simp [map_add0]
  rw [hsl]
  have htk : elems (Rd.enc movE) s6 pa (ahead ms) (ms.take (ahead ms)) := by
    have := (elems.of_row hp).mono m5.le
    refine ⟨by rw [List.length_take]; omega, fun i x hx => ?_⟩
    have hi := (List.getElem?_eq_some_iff.1 hx).1
    rw [List.length_take] at hi
    rw [List.getElem?_take_of_lt (by omega)] at hx
    exact this.2 i x hx
  have hwk := c_walked (hS.mono m35.le) D (u := (ua, un, uc)) (hU.mono m35.le) (by omega) (mt := (pa, ahead ms, pc)) htk (by rw [List.length_take]; omega)
  have hnum : ((ahead ms : Nat) : Int).toNat - 0 = ahead ms := by omega
  rw [hnum, Nat.sub_zero]
  refine W.call_of hwk ?_
  rintro _ s7 ⟨⟨la, ln, lc⟩, l, rfl, hrow, hlS, hall, m7⟩
  refine ⟨(((la, ln, lc), ()), ((walk D S (ms.take (ahead ms))).2, ()), ()), rfl, ?_⟩
  have hln : ln = l.length := hrow.len
  have hlw : l.length = (walk D S (ms.take (ahead ms))).1.length + 1 := by
    have := congrArg List.length hlS
    simpa using this
  have m07 := m35.trans m7
  refine (W.br_iff _ _ _ _).2 ⟨fun hno => ?_, fun hyes => ?_⟩
  · have hno : (!(walk D S (ms.take (ahead ms))).2) = true := hno
    refine hret ?_ m07
    rcases hplain with e | ⟨e, _⟩
    · rw [e] at hlw
      dsimp only
      rw [hln, hlw]; (first | done | rfl)
    · rw [e] at hno; cases hno
  have hyes : (!(walk D S (ms.take (ahead ms))).2) = false := hyes
  obtain ⟨E, hE, hw2, F, hF, hFt⟩ : ∃ E : Sch, (S :: (walk D S (ms.take (ahead ms))).1).getLast? = some E ∧ (walk D E bs').2 = true ∧ ∃ F : Sch, (E :: (walk D E bs').1).getLast? = some F ∧ F.tabs = S.tabs := by
    rcases hplain with e | ⟨_, e⟩
    · rw [e] at hyes; cases hyes
    · exact e
  have hlen1 : (walk D S (ms.take (ahead ms))).1.length ≤ 10 := by
    have key : ∀ (l : List (Int × Int)) (A : Sch), (walk D A l).1.length ≤ l.length := by
      intro l
      induction l with
      | nil => intro A; simp [walk]
      | cons m l ih =>
        intro A
        rw [walk_cons]
        split
        · simp
        · have := ih (moved D A m).1
          simp only [List.length_cons]; omega
    have := key (ms.take (ahead ms)) S
    rw [List.length_take] at this
    omega
  have hlen2 : (walk D E bs').1.length ≤ 10 := by
    have key : ∀ (l : List (Int × Int)) (A : Sch), (walk D A l).1.length ≤ l.length := by
      intro l
      induction l with
      | nil => intro A; simp [walk]
      | cons m l ih =>
        intro A
        rw [walk_cons]
        split
        · simp
        · have := ih (moved D A m).1
          simp only [List.length_cons]; omega
    have := key bs' E
    omega
  rw [← hlS] at hE
  dsimp only
  refine last_ld hrow (by show ln ≤ 1000; omega) hE fun q hq hqE => ?_
  obtain ⟨qs, hqs⟩ := hall q hq
  rw [hqE] at hqs ⊢
  have hwk2 := c_walked hqs D (u := (ua, un, uc)) (hU.mono m07.le) (by omega) (mt := (ba, bn, bc)) ((elems.of_row hbp).mono m7.le) (by omega)
  refine W.call_of hwk2 ?_
  rintro _ s8 ⟨⟨ka, kn, kc⟩, k, rfl, hrow2, hkS, hall2, m8⟩
  have hkw : k.length = (walk D E bs').1.length + 1 := by
    have := congrArg List.length hkS
    simpa using this
  refine ⟨(((ka, kn, kc), ()), ((walk D E bs').2, ()), ()), rfl, ?_⟩
  have hkn : kn = k.length := hrow2.len
  have m08 := m07.trans m8
  rw [← hkS] at hF
  dsimp only
  refine last_ld hrow2 (by show kn ≤ 1000; omega) hF fun q2 hq2 hqF => ?_
  obtain ⟨qs2, hqs2⟩ := hall2 q2 hq2
  rw [hqF] at hqs2 ⊢
  refine (W.br_iff _ _ _ _).2 ⟨fun _ => ?_, fun e => ?_⟩
  · have hSm := sm_great hsm (by omega)
    have hT : SchIs s8 q2.t S qs2 := ⟨hqs2.el, by rw [← hFt]; exact hqs2.eq, hqs2.all⟩
    have hc := c_same hT (hS.mono m08.le) hSm hSm
    rw [decide_eq_true (by rfl)] at hc
    exact callq ((true, ()), ()) hc rfl (hret rfl m08)
  · have e : (walk D E bs').2 = false := e
    rw [hw2] at e; cases e
theorem c_SchemaUndo {s : PH} {cs ds : Array Value} {S : Sch} {D : Ddl} (h : rdSch.is s cs.toList S) (k : rdDdl.is s ds.toList D) : DCalls Try.prog 8 #[.agg cs, .agg ds] s fun y s' => y = .bool true ∧ Fw.Mod [] s s' := by
  obtain ⟨t, ps, e, hB, hsm⟩ := rdSch_is h
  obtain ⟨u, e2, hU⟩ := rdDdl_is k
  rw [agg_arr e, agg_arr e2]
  exact law_SchemaUndo hB hsm D hU
end Go.Proofs.Ythepfbcgpbkbdaa
end
