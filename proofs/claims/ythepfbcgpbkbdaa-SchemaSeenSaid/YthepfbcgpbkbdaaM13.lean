/-
  Schemas: the program's changes of indexes and of foreign keys.
  Conditions: none; it proves no statement by itself.
-/
import Derived.Test.YthepfbcgpbkbdaaM12
set_option linter.unusedVariables false
set_option linter.unusedSimpArgs false
set_option maxHeartbeats 1000000
set_option maxRecDepth 100000
namespace Go.Proofs.Ythepfbcgpbkbdaa
open Fw Go
attribute [-simp] Fw.W.ld_iff Fw.W.st_iff
theorem b_last {s : PH} {b : Nat} {v l : Int} {a : Option Addr} {n c : Nat} (h : s b = some (.cells #[.int .i64 v, .int .i64 l, .slice a n c] 24 (0, 0))) {K : Den [.int .i64] → W.T} (hK : K (l, ()) s) : W.unSome (some (Addr.mk b 0 none)) (fun p => W.ld [.int .i64] (p.add 1) K) s := by
  simp only [W.unSome_some, add_mk, Nat.zero_add]
  rw [W.ld_at h]
  exact ⟨(l, ()), by simp, hK⟩
theorem b_tabs {s : PH} {b : Nat} {v l : Int} {a : Option Addr} {n c : Nat} (h : s b = some (.cells #[.int .i64 v, .int .i64 l, .slice a n c] 24 (0, 0))) {K : Den [.slice] → W.T} (hK : K ((a, n, c), ()) s) : W.unSome (some (Addr.mk b 0 none)) (fun p => W.ld [.slice] (p.add 2) K) s := by
  simp only [W.unSome_some, add_mk, Nat.zero_add]
  rw [W.ld_at h]
  exact ⟨((a, n, c), ()), by simp, hK⟩
theorem b_bump {s : PH} {b : Nat} {v l : Int} {a : Option Addr} {n c : Nat} (h : s b = some (.cells #[.int .i64 v, .int .i64 l, .slice a n c] 24 (0, 0))) (hl : IntKind.i64.wrap (l + 1) = l + 1) {K : W.T}
    (hK : ∀ s2, Fw.Mod [b] s s2 → s2 b = some (.cells #[.int .i64 v, .int .i64 (l + 1), .slice a n c] 24 (0, 0)) → K s2) :
    W.unSome (some (Addr.mk b 0 none)) (fun p => W.ld [.int .i64] (p.add 1) fun x => W.unSome (some (Addr.mk b 0 none)) fun p' => W.st (p'.add 1) [.int .i64 (IntKind.i64.wrap (x.1 + 1))] K) s := by
  refine b_last h ?_
  simp only [W.unSome_some, add_mk, Nat.zero_add, hl]
  rw [W.st_at h]
  exact ⟨by simp, by simp, by simp [Value.oneCell'], hK _ (Mod.upd (by simp)) (PH.upd_same _ _ _)⟩
section
variable {s : PH} {b : Nat} {S : Sch} {t : Tri} {ps : List TabP} {i g : Nat} {p : TabP}
theorem c_indexes (h : Gs s b S t ps) (hb : S.Bd) (hp : ps[i]? = some p) (ht : t.1 = some ⟨g, 0, none⟩) (D : Ddl) (u : Tri) (st : Int) :
    DCalls Try.prog 79 #[cp b, .pointer (some ⟨g, i * 5, none⟩), ddlV D u, .int .i64 st] s (OutG b (idxTurn S i p.T D st) (Lof t ps) s) := by
  obtain ⟨ua, un, uc⟩ := u
  refine ok_indexes b ⟨g, i * 5, none⟩ D.kind D.table D.name D.column D.parent D.unique D.type D.dflt.kind D.dflt.n D.dflt.s ua un uc st _ s ?_
  unfold vc_indexes
  have hSch := h.sch hb
  have hpm := List.mem_of_getElem? hp
  have hP := hSch.all p hpm
  have hT : p.T ∈ S.tabs := by rw [h.eq]; exact List.mem_map_of_mem hpm
  obtain ⟨b1, b2, b3, b4⟩ := hb.each p.T hT
  have hA := Gs.tabHas h.has hp ht
  have hcn : p.c.2.1 = p.T.cols.length := hP.c.len
  have hln : p.x.2.1 = p.T.idxs.length := hP.x.len
  have hcell := h.cell
  simp only [RP_join, RP_ite, RP_call, RP_callQ, RP_ret, RP_nw, RP_app, RP_st, RP_ld, RP_unSome, RP_guard, RP_loop, RP_still, RP_clr, RP_look, RP_mset, W.unSome_some]
  refine ld_has (j := 3) hA (cs := [.slice]) (y := (p.x, ())) rfl ?_
  refine W.callQ_of ((idxAt p.T D.name, ()), ()) (c_findX hP.x.el hP.x.few D.name) rfl ?_
  obtain ⟨R, hR⟩ : ∃ R, OutG b (idxTurn S i p.T D st) (Lof t ps) s = R := ⟨_, rfl⟩
  have hret : ∀ {e : Int} {s'}, idxTurn S i p.T D st = .error e → Fw.Mod (b :: Lof t ps) s s' → R (.int .i64 e) s' := fun e1 m => by
    rw [← hR, e1]; exact ⟨rfl, m⟩
  rw [hR]
  have hlast : IntKind.i64.wrap (S.last + 1) = S.last + 1 := wrap_in (by have := hb.last; omega) (by have := hb.last; omega)
  refine W.join_gen (fun z s' => z = ((D.kind, D.table, D.name, D.column, D.parent, D.unique, D.type, D.dflt.kind, D.dflt.n, D.dflt.s, (ua, un, uc), ()), (idxAt p.T D.name, ()), (decide (D.kind = 2 ∧ idxAt p.T D.name < 0), ()), ()) ∧ s' = s) ?_ ?_
  rotate_left
  · intro J6 hJ6
    simp only [W.br_iff]
    refine ⟨fun h4 => hJ6 _ _ ⟨?_, rfl⟩, fun h4 => hJ6 _ _ ⟨?_, rfl⟩⟩
    · have h4 : D.kind = 2 := by simpa using h4
      simp [h4]
    · have h4 : D.kind ≠ 2 := by simpa using h4
      simp [h4]
  rintro _ s0 ⟨rfl, rfl⟩
  simp only [W.br_iff, decide_eq_true_eq, decide_eq_false_iff_not]
  refine ⟨fun hadd => ?_, fun hadd => ?_⟩
  · simp only [W.unSome_some]
    refine ld_has (j := 3) hA (cs := [.slice]) (y := (p.x, ())) rfl ?_
    refine W.callQ_of ((freshE D.name p.x.2.1, ()), ()) (c_fresh D.name p.x.2.1 _) rfl ?_
    rw [hln]
    simp only [W.br_iff, W.unSome_some]
    refine ⟨fun hf => ?_, fun hf => ?_⟩
    · have hf : freshE D.name p.T.idxs.length ≠ 0 := by simpa using hf
      exact hret (by unfold idxTurn; rw [if_pos hadd, if_pos hf]) (Mod.refl _ _)
    have hf : freshE D.name p.T.idxs.length = 0 := by simpa using hf
    have hnf : ¬ (freshE D.name p.T.idxs.length ≠ 0) := by rw [hf]; simp
    have hnb : b ∉ Lof t ps := h.nb
    refine callq ((pubAt p.T D.column, ()), ()) (c_public hA hP.c D.column) rfl ?_
    simp only [W.br_iff, decide_eq_true_eq, decide_eq_false_iff_not]
    refine ⟨fun hp1 => hret (by unfold idxTurn; rw [if_pos hadd, if_neg hnf, if_pos hp1]) (Mod.refl _ _), fun hp1 => ⟨fun h0 => hret (by unfold idxTurn; rw [if_pos hadd, if_neg hnf, if_neg hp1, if_pos (by simpa using h0)]) (Mod.refl _ _), fun h0 => ?_⟩⟩
    have h0 : st ≠ 0 := by simpa using h0
    obtain ⟨j, c, hj, hc, _⟩ := (pubAt_lt (T := p.T) (name := D.column) (s := s0) (t := t)).resolve_left hp1
    have hjl := (List.getElem?_eq_some_iff.1 hc).1
    have hTurn : idxTurn S i p.T D st = .ok ⟨S.version, S.last + 1, S.tabs.set i { p.T with idxs := p.T.idxs ++ [⟨S.last + 1, D.name, c.id, D.unique, st⟩] }⟩ := by
      unfold idxTurn
      rw [if_pos hadd, if_neg hnf, if_neg hp1, if_neg h0, hj]
      simp only [Int.toNat_natCast, hc]
    rw [hj]
    refine b_bump hcell hlast fun s2 m1 hc1 => ?_
    have hH2 : Has s2 t ps := h.has.mod m1 (fun x hx => by simpa using fun e : x = b => hnb (e ▸ hx))
    have hA2 := Gs.tabHas hH2 hp ht
    have hP2 := (hH2.is h.eq (by have := hb.tabs; omega) (fun T hT => by obtain ⟨_, a, b, c⟩ := hb.each T hT; exact ⟨by omega, by omega, by omega⟩)).all p hpm
    simp only [W.unSome_some]
    refine ld_has (j := 3) hA2 (cs := [.slice]) (y := (p.x, ())) rfl ?_
    refine b_last hc1 ?_
    simp only [W.unSome_some]
    refine ld_has (j := 2) hA2 (cs := [.slice]) (y := (p.c, ())) rfl ?_
    refine ⟨by show (0 : Int) ≤ j ∧ (j : Int) < (p.c.2.1 : Nat); omega, ?_⟩
    obtain ⟨ad, had, hh⟩ := hP2.c.el.at_enc hc
    rw [had]
    simp only [W.unSome_some, Int.toNat_natCast]
    refine ld_has (j := 0) hh (cs := [.int .i64]) (y := (c.id, ())) rfl ?_
    refine hH2.app_x hp ⟨S.last + 1, D.name, c.id, D.unique, st⟩ (by omega) ?_
    intro u s3 hu hw
    simp only [W.unSome_some, add_mk]
    refine hH2.store hp hw (j := 3) (vs := [.slice u.1 u.2.1 u.2.2]) rfl (by simp) (by simp) ht fun s4 h4 st4 => ?_
    obtain ⟨hG, hS⟩ := h.then (S' := ⟨S.version, S.last + 1, S.tabs.set i { p.T with idxs := p.T.idxs ++ [⟨S.last + 1, D.name, c.id, D.unique, st⟩] }⟩) m1 hc1 h4 st4 (by dsimp only; rw [set_map, h.eq])
    rw [← hR, hTurn]
    exact ⟨rfl, t, _, hG, hS⟩
  · have hneg : idxAt p.T D.name < 0 → R (.int .i64 153) s0 := fun e => hret (by unfold idxTurn; rw [if_neg hadd, if_pos e]) (Mod.refl _ _)
    have hpos : ¬ idxAt p.T D.name < 0 → ∃ (j : Nat) (x : Idx), idxAt p.T D.name = (j : Int) ∧ p.T.idxs[j]? = some x := by
      intro e
      rcases seek_cases (fun c : Idx => decide (c.name = D.name)) p.T.idxs with ⟨h1, _⟩ | ⟨j, x, h1, h2, _⟩
      · exact absurd h1 (by unfold idxAt at e; omega)
      · exact ⟨j, x, h1, h2⟩
    have fin : ∀ (j : Nat) (x : Idx), idxAt p.T D.name = (j : Int) → p.T.idxs[j]? = some x → ¬ (D.kind = 2 ∧ x.state = 3) → W.call Try.prog 127 #[.pointer (some ⟨g, i * 5 + 3, none⟩), .int .i64 j, .int .i64 st, .func (.func 128) #[] #[]] (true, []) (fun _ => W.ret R (.int .i64 0)) s0 := by
      intro j x hj hx hu
      refine W.call_of (c_placeX h.has hp hx ht (by omega) st) ?_
      rintro _ s3 ⟨rfl, ps', h3, he, st3⟩
      refine ⟨(), rfl, ?_⟩
      have hTurn : idxTurn S i p.T D st = .ok ⟨S.version, S.last, S.tabs.set i { p.T with idxs := placed p.T.idxs j st (x.put st) }⟩ := by
        unfold idxTurn
        rw [if_neg hadd, hj, if_neg (by omega)]
        simp only [Int.toNat_natCast, hx]
        rw [if_neg hu]
      obtain ⟨hG, hS⟩ := h.then (S' := ⟨S.version, S.last, S.tabs.set i { p.T with idxs := placed p.T.idxs j st (x.put st) }⟩) (Mod.refl _ _) h.cell h3 st3 (by dsimp only; rw [he, h.eq])
      rw [← hR, hTurn]
      exact ⟨rfl, t, ps', hG, hS⟩
    refine ⟨fun h4 => ?_, fun h4 => ⟨hneg, fun hn => ?_⟩⟩
    · have h4 : D.kind = 2 := by simpa using h4
      have hn : ¬ idxAt p.T D.name < 0 := fun e => hadd ⟨h4, e⟩
      obtain ⟨j, x, hj, hx⟩ := hpos hn
      have hjl := (List.getElem?_eq_some_iff.1 hx).1
      simp only [W.unSome_some]
      refine ld_has (j := 3) hA (cs := [.slice]) (y := (p.x, ())) rfl ?_
      rw [hj]
      refine ⟨by show (0 : Int) ≤ j ∧ (j : Int) < (p.x.2.1 : Nat); omega, ?_⟩
      obtain ⟨ad, had, hh⟩ := hP.x.el.at_enc hx
      rw [had]
      simp only [W.unSome_some, Int.toNat_natCast]
      refine ld_has (j := 4) hh (cs := [.int .i64]) (y := (x.state, ())) rfl ?_
      simp only [W.br_iff, decide_eq_true_eq, decide_eq_false_iff_not, add_mk, W.unSome_some]
      refine ⟨fun h3 => ?_, fun h3 => ⟨fun e => by omega, fun _ => ?_⟩⟩
      · have h3 : x.state = 3 := by simpa using h3
        refine hret ?_ (Mod.refl _ _)
        unfold idxTurn
        rw [if_neg hadd, hj, if_neg (by omega)]
        simp only [Int.toNat_natCast, hx]
        rw [if_pos ⟨h4, h3⟩]
      · have h3 : x.state ≠ 3 := by simpa using h3
        exact fin j x hj hx (fun e => h3 e.2)
    · have h4 : D.kind ≠ 2 := by simpa using h4
      obtain ⟨j, x, hj, hx⟩ := hpos hn
      simp only [W.unSome_some, add_mk, hj]
      exact fin j x hj hx (fun e => h4 e.1)
theorem c_foreigns (h : Gs s b S t ps) (hb : S.Bd) (hp : ps[i]? = some p) (ht : t.1 = some ⟨g, 0, none⟩) (D : Ddl) (u : Tri) (st : Int) :
    DCalls Try.prog 80 #[cp b, .pointer (some ⟨g, i * 5, none⟩), ddlV D u, .int .i64 st] s (OutG b (keyTurn S i p.T D st) (Lof t ps) s) := by
  obtain ⟨ua, un, uc⟩ := u
  refine ok_foreigns b ⟨g, i * 5, none⟩ D.kind D.table D.name D.column D.parent D.unique D.type D.dflt.kind D.dflt.n D.dflt.s ua un uc st _ s ?_
  unfold vc_foreigns
  have hSch := h.sch hb
  have hpm := List.mem_of_getElem? hp
  have hP := hSch.all p hpm
  have hT : p.T ∈ S.tabs := by rw [h.eq]; exact List.mem_map_of_mem hpm
  obtain ⟨b1, b2, b3, b4⟩ := hb.each p.T hT
  have hA := Gs.tabHas h.has hp ht
  have hcn : p.c.2.1 = p.T.cols.length := hP.c.len
  have hln : p.k.2.1 = p.T.keys.length := hP.k.len
  have hcell := h.cell
  simp only [RP_join, RP_ite, RP_call, RP_callQ, RP_ret, RP_nw, RP_app, RP_st, RP_ld, RP_unSome, RP_guard, RP_loop, RP_still, RP_clr, RP_look, RP_mset, W.unSome_some]
  refine ld_has (j := 4) hA (cs := [.slice]) (y := (p.k, ())) rfl ?_
  refine W.callQ_of ((keyAt p.T D.name, ()), ()) (c_findF hP.k.el hP.k.few D.name) rfl ?_
  obtain ⟨R, hR⟩ : ∃ R, OutG b (keyTurn S i p.T D st) (Lof t ps) s = R := ⟨_, rfl⟩
  have hret : ∀ {e : Int} {s'}, keyTurn S i p.T D st = .error e → Fw.Mod (b :: Lof t ps) s s' → R (.int .i64 e) s' := fun e1 m => by
    rw [← hR, e1]; exact ⟨rfl, m⟩
  rw [hR]
  have hlast : IntKind.i64.wrap (S.last + 1) = S.last + 1 := wrap_in (by have := hb.last; omega) (by have := hb.last; omega)
  refine W.join_gen (fun z s' => z = ((D.kind, D.table, D.name, D.column, D.parent, D.unique, D.type, D.dflt.kind, D.dflt.n, D.dflt.s, (ua, un, uc), ()), (keyAt p.T D.name, ()), (decide (D.kind = 6 ∧ keyAt p.T D.name < 0), ()), ()) ∧ s' = s) ?_ ?_
  rotate_left
  · intro J6 hJ6
    simp only [W.br_iff]
    refine ⟨fun h4 => hJ6 _ _ ⟨?_, rfl⟩, fun h4 => hJ6 _ _ ⟨?_, rfl⟩⟩
    · have h4 : D.kind = 6 := by simpa using h4
      simp [h4]
    · have h4 : D.kind ≠ 6 := by simpa using h4
      simp [h4]
  rintro _ s0 ⟨rfl, rfl⟩
  simp only [W.br_iff, decide_eq_true_eq, decide_eq_false_iff_not]
  refine ⟨fun hadd => ?_, fun hadd => ?_⟩
  · simp only [W.unSome_some]
    refine ld_has (j := 4) hA (cs := [.slice]) (y := (p.k, ())) rfl ?_
    refine W.callQ_of ((freshE D.name p.k.2.1, ()), ()) (c_fresh D.name p.k.2.1 _) rfl ?_
    rw [hln]
    simp only [W.br_iff, W.unSome_some]
    refine ⟨fun hf => ?_, fun hf => ?_⟩
    · have hf : freshE D.name p.T.keys.length ≠ 0 := by simpa using hf
      exact hret (by unfold keyTurn; rw [if_pos hadd, if_pos hf]) (Mod.refl _ _)
    have hf : freshE D.name p.T.keys.length = 0 := by simpa using hf
    have hnf : ¬ (freshE D.name p.T.keys.length ≠ 0) := by rw [hf]; simp
    have hnb : b ∉ Lof t ps := h.nb
    refine W.callQ_of ((pubAt p.T D.column, ()), ()) (c_public hA hP.c D.column) rfl ?_
    refine b_tabs hcell ?_
    refine W.callQ_of ((tabAt S D.parent, ()), ()) (c_findT' hSch D.parent) rfl ?_
    simp only [W.br_iff, decide_eq_true_eq, decide_eq_false_iff_not]
    refine ⟨fun hp1 => hret (by unfold keyTurn; rw [if_pos hadd, if_neg hnf, if_pos hp1]) (Mod.refl _ _), fun hp1 => ⟨fun hp2 => hret (by unfold keyTurn; rw [if_pos hadd, if_neg hnf, if_neg hp1, if_pos hp2]) (Mod.refl _ _), fun hp2 => ?_⟩⟩
    obtain ⟨j, c, hj, hc, _⟩ := (pubAt_lt (T := p.T) (name := D.column) (s := s0) (t := t)).resolve_left hp1
    have hjl := (List.getElem?_eq_some_iff.1 hc).1
    obtain ⟨j2, P, hj2, hP2, _⟩ := (seek_cases (fun T : Tab => decide (T.name = D.parent)) S.tabs).resolve_left (fun e => by have := e.1; unfold tabAt at hp2; omega)
    have hj2 : tabAt S D.parent = (j2 : Int) := hj2
    obtain ⟨pp, hpp, hppT⟩ : ∃ pp, ps[j2]? = some pp ∧ pp.T = P := by
      rw [h.eq, List.getElem?_map] at hP2
      cases hq : ps[j2]? with
      | none => rw [hq] at hP2; cases hP2
      | some pp => rw [hq] at hP2; exact ⟨pp, rfl, Option.some.inj hP2⟩
    have hj2l := (List.getElem?_eq_some_iff.1 hpp).1
    have hPm := List.mem_of_getElem? hpp
    have hPP := hSch.all pp hPm
    have hPT : P ∈ S.tabs := List.mem_of_getElem? hP2
    obtain ⟨d1, _⟩ := hb.each P hPT
    subst hppT
    have hpcn : pp.c.2.1 = pp.T.cols.length := hPP.c.len
    have htn : t.2.1 = ps.length := h.has.row.len
    obtain ⟨c0, cs, hcs⟩ : ∃ c0 cs, pp.T.cols = c0 :: cs := by
      cases hc : pp.T.cols with
      | nil => rw [hc] at d1; simp at d1
      | cons a b => exact ⟨a, b, rfl⟩
    have hTurn : keyTurn S i p.T D st = if c.kind ≠ c0.kind then .error 154 else if st = 0 then .error 1 else .ok ⟨S.version, S.last + 1, S.tabs.set i { p.T with keys := p.T.keys ++ [⟨S.last + 1, D.name, c.id, pp.T.id, st⟩] }⟩ := by
      unfold keyTurn
      rw [if_pos hadd, if_neg hnf, if_neg hp1, if_neg hp2, hj, hj2]
      simp only [Int.toNat_natCast, hc, hP2, hcs]
    rw [hj, hj2]
    simp only [W.unSome_some]
    refine ld_has (j := 2) hA (cs := [.slice]) (y := (p.c, ())) rfl ?_
    refine ⟨by show (0 : Int) ≤ j ∧ (j : Int) < (p.c.2.1 : Nat); omega, ?_⟩
    obtain ⟨ad, had, hh⟩ := hP.c.el.at_enc hc
    rw [had]
    simp only [W.unSome_some, Int.toNat_natCast]
    refine ld_has (j := 2) hh (cs := [.int .i64]) (y := (c.kind, ())) rfl ?_
    refine b_tabs hcell ?_
    have hA3 := Gs.tabHas h.has hpp ht
    refine ⟨by show (0 : Int) ≤ j2 ∧ (j2 : Int) < (t.2.1 : Nat); omega, ?_⟩
    dsimp only
    rw [ht]
    simp only [W.unSome_some, add_mk, Nat.zero_add, Int.toNat_natCast]
    refine ld_hasm (j := 2) hA3 (cs := [.slice]) (y := (pp.c, ())) rfl ?_
    refine ⟨by show (0 : Int) ≤ 0 ∧ (0 : Int) < (pp.c.2.1 : Nat); omega, ?_⟩
    obtain ⟨ad5, had5, hh5⟩ := hPP.c.el.at_enc (i := 0) (x := c0) (by rw [hcs]; rfl)
    rw [had5]
    simp only [W.unSome_some]
    rw [Nat.zero_mul] at hh5
    refine ld_has (j := 2) hh5 (cs := [.int .i64]) (y := (c0.kind, ())) rfl ?_
    simp only [W.br_iff]
    refine ⟨fun hk => hret (by rw [hTurn, if_pos (by simpa using hk)]) (Mod.refl _ _), fun hk => ⟨fun h0 => hret (by rw [hTurn, if_neg (by simpa using hk), if_pos (by simpa using h0)]) (Mod.refl _ _), fun h0 => ?_⟩⟩
    rw [if_neg (by simpa using hk), if_neg (by simpa using h0)] at hTurn
    refine b_bump hcell hlast fun s2 m1 hc1 => ?_
    have hH2 : Has s2 t ps := h.has.mod m1 (fun x hx => by simpa using fun e : x = b => hnb (e ▸ hx))
    have hA2 := Gs.tabHas hH2 hp ht
    have hA4 := Gs.tabHas hH2 hpp ht
    have hSch2 : SchIs s2 t S ps := hH2.is h.eq (by have := hb.tabs; omega) (fun T hT => by obtain ⟨_, a, b, c⟩ := hb.each T hT; exact ⟨by omega, by omega, by omega⟩)
    have hP2' := hSch2.all p hpm
    simp only [W.unSome_some]
    refine ld_has (j := 4) hA2 (cs := [.slice]) (y := (p.k, ())) rfl ?_
    refine b_last hc1 ?_
    simp only [W.unSome_some]
    refine ld_has (j := 2) hA2 (cs := [.slice]) (y := (p.c, ())) rfl ?_
    refine ⟨by show (0 : Int) ≤ j ∧ (j : Int) < (p.c.2.1 : Nat); omega, ?_⟩
    obtain ⟨ad6, had6, hh6⟩ := hP2'.c.el.at_enc hc
    rw [had6]
    simp only [W.unSome_some, Int.toNat_natCast]
    refine ld_has (j := 0) hh6 (cs := [.int .i64]) (y := (c.id, ())) rfl ?_
    refine b_tabs hc1 ?_
    refine ⟨by show (0 : Int) ≤ j2 ∧ (j2 : Int) < (t.2.1 : Nat); omega, ?_⟩
    dsimp only
    rw [ht]
    simp only [W.unSome_some, add_mk, Nat.zero_add, Int.toNat_natCast]
    refine ld_hasm (j := 0) hA4 (cs := [.int .i64]) (y := (pp.T.id, ())) rfl ?_
    refine hH2.app_k hp ⟨S.last + 1, D.name, c.id, pp.T.id, st⟩ (by omega) ?_
    intro u s3 hu hw
    simp only [W.unSome_some, add_mk]
    refine hH2.store hp hw (j := 4) (vs := [.slice u.1 u.2.1 u.2.2]) rfl (by simp) (by simp) ht fun s4 h4 st4 => ?_
    obtain ⟨hG, hS⟩ := h.then (S' := ⟨S.version, S.last + 1, S.tabs.set i { p.T with keys := p.T.keys ++ [⟨S.last + 1, D.name, c.id, pp.T.id, st⟩] }⟩) m1 hc1 h4 st4 (by dsimp only; rw [set_map, h.eq])
    rw [← hR, hTurn]
    exact ⟨rfl, t, _, hG, hS⟩
  · have hneg : keyAt p.T D.name < 0 → R (.int .i64 153) s0 := fun e => hret (by unfold keyTurn; rw [if_neg hadd, if_pos e]) (Mod.refl _ _)
    have hpos : ¬ keyAt p.T D.name < 0 → ∃ (j : Nat) (x : For), keyAt p.T D.name = (j : Int) ∧ p.T.keys[j]? = some x := by
      intro e
      rcases seek_cases (fun c : For => decide (c.name = D.name)) p.T.keys with ⟨h1, _⟩ | ⟨j, x, h1, h2, _⟩
      · exact absurd h1 (by unfold keyAt at e; omega)
      · exact ⟨j, x, h1, h2⟩
    have fin : ∀ (j : Nat) (x : For), keyAt p.T D.name = (j : Int) → p.T.keys[j]? = some x → ¬ (D.kind = 6 ∧ x.state = 3) → W.call Try.prog 130 #[.pointer (some ⟨g, i * 5 + 4, none⟩), .int .i64 j, .int .i64 st, .func (.func 131) #[] #[]] (true, []) (fun _ => W.ret R (.int .i64 0)) s0 := by
      intro j x hj hx hu
      refine W.call_of (c_placeF h.has hp hx ht (by omega) st) ?_
      rintro _ s3 ⟨rfl, ps', h3, he, st3⟩
      refine ⟨(), rfl, ?_⟩
      have hTurn : keyTurn S i p.T D st = .ok ⟨S.version, S.last, S.tabs.set i { p.T with keys := placed p.T.keys j st (x.put st) }⟩ := by
        unfold keyTurn
        rw [if_neg hadd, hj, if_neg (by omega)]
        simp only [Int.toNat_natCast, hx]
        rw [if_neg hu]
      obtain ⟨hG, hS⟩ := h.then (S' := ⟨S.version, S.last, S.tabs.set i { p.T with keys := placed p.T.keys j st (x.put st) }⟩) (Mod.refl _ _) h.cell h3 st3 (by dsimp only; rw [he, h.eq])
      rw [← hR, hTurn]
      exact ⟨rfl, t, ps', hG, hS⟩
    refine ⟨fun h4 => ?_, fun h4 => ⟨hneg, fun hn => ?_⟩⟩
    · have h4 : D.kind = 6 := by simpa using h4
      have hn : ¬ keyAt p.T D.name < 0 := fun e => hadd ⟨h4, e⟩
      obtain ⟨j, x, hj, hx⟩ := hpos hn
      have hjl := (List.getElem?_eq_some_iff.1 hx).1
      simp only [W.unSome_some]
      refine ld_has (j := 4) hA (cs := [.slice]) (y := (p.k, ())) rfl ?_
      rw [hj]
      refine ⟨by show (0 : Int) ≤ j ∧ (j : Int) < (p.k.2.1 : Nat); omega, ?_⟩
      obtain ⟨ad, had, hh⟩ := hP.k.el.at_enc hx
      rw [had]
      simp only [W.unSome_some, Int.toNat_natCast]
      refine ld_has (j := 4) hh (cs := [.int .i64]) (y := (x.state, ())) rfl ?_
      simp only [W.br_iff, decide_eq_true_eq, decide_eq_false_iff_not, add_mk, W.unSome_some]
      refine ⟨fun h3 => ?_, fun h3 => ⟨fun e => by omega, fun _ => ?_⟩⟩
      · have h3 : x.state = 3 := by simpa using h3
        refine hret ?_ (Mod.refl _ _)
        unfold keyTurn
        rw [if_neg hadd, hj, if_neg (by omega)]
        simp only [Int.toNat_natCast, hx]
        rw [if_pos ⟨h4, h3⟩]
      · have h3 : x.state ≠ 3 := by simpa using h3
        exact fin j x hj hx (fun e => h3 e.2)
    · have h4 : D.kind ≠ 6 := by simpa using h4
      obtain ⟨j, x, hj, hx⟩ := hpos hn
      simp only [W.unSome_some, add_mk, hj]
      exact fin j x hj hx (fun e => h4 e.1)
end
end Go.Proofs.Ythepfbcgpbkbdaa
