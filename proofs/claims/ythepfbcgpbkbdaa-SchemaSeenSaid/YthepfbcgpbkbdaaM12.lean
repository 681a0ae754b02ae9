/-
  Schemas: the program's changes of columns.
  Conditions: none; it proves no statement by itself.
-/
import Derived.Test.YthepfbcgpbkbdaaM11
set_option linter.unusedVariables false
set_option linter.unusedSimpArgs false
set_option maxHeartbeats 1000000
set_option maxRecDepth 100000
namespace Go.Proofs.Ythepfbcgpbkbdaa
open Fw Go
attribute [-simp] Fw.W.ld_iff Fw.W.st_iff

structure Sch.Bd (S : Sch) : Prop where
  tabs : S.tabs.length ≤ 6
  each : ∀ T ∈ S.tabs, 1 ≤ T.cols.length ∧ T.cols.length ≤ 8 ∧ T.idxs.length ≤ 8 ∧ T.keys.length ≤ 8
  last : 0 ≤ S.last ∧ S.last ≤ 1125899906842624
/-- the schema that the program works on, its own at b -/
structure Gs (s : PH) (b : Nat) (S : Sch) (t : Tri) (ps : List TabP) : Prop where
  cell : s b = some (.cells #[.int .i64 S.version, .int .i64 S.last, .slice t.1 t.2.1 t.2.2] 24 (0, 0))
  has : Has s t ps
  nb : b ∉ Lof t ps
  eq : S.tabs = ps.map (·.T)
def OutG (b : Nat) (r : Res) (L : List Nat) (s : PH) (y : Value) (s' : PH) : Prop := match r with
  | .error e => y = .int .i64 e ∧ Fw.Mod (b :: L) s s'
  | .ok S' => y = .int .i64 0 ∧ ∃ t' ps', Gs s' b S' t' ps' ∧ Step (b :: L) (b :: Lof t' ps') s s'
theorem Gs.mod {s s' : PH} {b : Nat} {S : Sch} {t : Tri} {ps : List TabP} {M : List Nat} (h : Gs s b S t ps) (hm : Fw.Mod M s s') (hb : b ∉ M) (hd : ∀ g ∈ Lof t ps, g ∉ M) : Gs s' b S t ps :=
  ⟨hm.at h.cell hb, h.has.mod hm hd, h.nb, h.eq⟩
theorem Gs.sch {s : PH} {b : Nat} {S : Sch} {t : Tri} {ps : List TabP} (h : Gs s b S t ps) (hb : S.Bd) : SchIs s t S ps :=
  h.has.is h.eq (by have := hb.tabs; omega) fun T hT => by
    obtain ⟨_, a, b, c⟩ := hb.each T hT
    exact ⟨by omega, by omega, by omega⟩
theorem Gs.then {s s1 s3 : PH} {b : Nat} {S S' : Sch} {t : Tri} {ps ps' : List TabP} (h : Gs s b S t ps) (m1 : Fw.Mod [b] s s1) (hc : s1 b = some (.cells #[.int .i64 S'.version, .int .i64 S'.last, .slice t.1 t.2.1 t.2.2] 24 (0, 0)))
    (h3 : Has s3 t ps') (st : Step (Lof t ps) (Lof t ps') s1 s3) (he : S'.tabs = ps'.map (·.T)) : Gs s3 b S' t ps' ∧ Step (b :: Lof t ps) (b :: Lof t ps') s s3 := by
  refine ⟨⟨st.mod.at hc h.nb, h3, fun hb => ?_, he⟩, ⟨(m1.mono (by simp)).trans (st.mod.mono fun x hx => List.mem_cons_of_mem _ hx), fun x hx => ?_⟩⟩
  · rcases st.new b hb with e | e
    · exact h.nb e
    · rw [hc] at e; cases e
  · rcases List.mem_cons.1 hx with rfl | hx
    · exact .inl (by simp)
    · rcases st.new x hx with e | e
      · exact .inl (List.mem_cons_of_mem _ e)
      · by_cases hxb : x = b
        · exact .inl (by simp [hxb])
        · exact .inr (m1.none e (by simpa using hxb))
theorem Gs.tabHas {s : PH} {t : Tri} {ps : List TabP} {g i : Nat} {p : TabP} (h : Has s t ps) (hp : ps[i]? = some p) (ht : t.1 = some ⟨g, 0, none⟩) : s.has ⟨g, i * 5, none⟩ (tabE.f p) := by
  obtain ⟨g', hg', hh⟩ := h.row.at hp
  rw [ht] at hg'; cases hg'
  exact hh
theorem ld_hasm {g o : Nat} {l : List Value} {cs : List CT} {y : Den cs} {k : Den cs → W.T} {s : PH} {j : Nat} (h : s.has ⟨g, o, none⟩ l) (hl : (l.drop j).take cs.length = vals cs y) (hk : k y s) : W.ld cs ⟨g, o + j, none⟩ k s := by
  have := ld_has (j := j) h hl hk
  rwa [add_mk] at this
theorem set_map {ps : List TabP} {i : Nat} {p' : TabP} : (ps.set i p').map (·.T) = (ps.map (·.T)).set i p'.T := by rw [List.map_set]
section
variable {s : PH} {b : Nat} {S : Sch} {t : Tri} {ps : List TabP} {i g : Nat} {p : TabP}
theorem c_columns (h : Gs s b S t ps) (hb : S.Bd) (hp : ps[i]? = some p) (ht : t.1 = some ⟨g, 0, none⟩) (D : Ddl) (u : Tri) (st : Int) :
    DCalls Try.prog 78 #[cp b, .pointer (some ⟨g, i * 5, none⟩), ddlV D u, .int .i64 st] s (OutG b (colTurn S i p.T D st) (Lof t ps) s) := by
  obtain ⟨ua, un, uc⟩ := u
  refine ok_columns b ⟨g, i * 5, none⟩ D.kind D.table D.name D.column D.parent D.unique D.type D.dflt.kind D.dflt.n D.dflt.s ua un uc st _ s ?_
  unfold vc_columns
  have hSch := h.sch hb
  have hpm := List.mem_of_getElem? hp
  have hP := hSch.all p hpm
  have hT : p.T ∈ S.tabs := by rw [h.eq]; exact List.mem_map_of_mem hpm
  obtain ⟨b1, b2, b3, b4⟩ := hb.each p.T hT
  have hA := Gs.tabHas h.has hp ht
  have hcn : p.c.2.1 = p.T.cols.length := hP.c.len
  have hcell := h.cell
  simp only [RP_join, RP_ite, RP_call, RP_callQ, RP_ret, RP_nw, RP_app, RP_st, RP_ld, RP_unSome, RP_guard, RP_loop, RP_still, RP_clr, RP_look, RP_mset, W.unSome_some]
  refine ld_has (j := 2) hA (cs := [.slice]) (y := (p.c, ())) rfl ?_
  refine W.callQ_of ((colAt p.T D.column, ()), ()) (c_findC hP.c.el hP.c.few D.column) rfl ?_
  obtain ⟨R, hR⟩ : ∃ R, OutG b (colTurn S i p.T D st) (Lof t ps) s = R := ⟨_, rfl⟩
  have hret : ∀ {e : Int} {s'}, colTurn S i p.T D st = .error e → Fw.Mod (b :: Lof t ps) s s' → R (.int .i64 e) s' := fun e1 m => by
    rw [← hR, e1]; exact ⟨rfl, m⟩
  rw [hR]
  have hlast : IntKind.i64.wrap (S.last + 1) = S.last + 1 := wrap_in (by have := hb.last; omega) (by have := hb.last; omega)
  refine W.join_gen (fun z s' => z = ((D.kind, D.table, D.name, D.column, D.parent, D.unique, D.type, D.dflt.kind, D.dflt.n, D.dflt.s, (ua, un, uc), ()), (colAt p.T D.column, ()), ()) ∧ s' = s ∧
    ∃ (j : Nat) (x : Col), colAt p.T D.column = (j : Int) ∧ p.T.cols[j]? = some x ∧ ¬ (D.kind = 4 ∧ x.state = 3)) ?_ ?_
  rotate_left
  · intro J hJ
    refine W.join_gen (fun z s' => z = ((D.kind, D.table, D.name, D.column, D.parent, D.unique, D.type, D.dflt.kind, D.dflt.n, D.dflt.s, (ua, un, uc), ()), (colAt p.T D.column, ()), (decide (D.kind = 4 ∧ colAt p.T D.column < 0), ()), ()) ∧ s' = s) ?_ ?_
    rotate_left
    · intro J6 hJ6
      simp only [W.br_iff]
      refine ⟨fun h4 => hJ6 _ _ ⟨?_, rfl⟩, fun h4 => hJ6 _ _ ⟨?_, rfl⟩⟩
      · have h4 : D.kind = 4 := by simpa using h4
        simp [h4]
      · have h4 : D.kind ≠ 4 := by simpa using h4
        simp [h4]
    rintro _ s0 ⟨rfl, rfl⟩
    simp only [W.br_iff, decide_eq_true_eq, decide_eq_false_iff_not]
    refine ⟨fun hadd => ?_, fun hadd => ?_⟩
    · have hTurn : colTurn S i p.T D st = if freshE D.column p.T.cols.length ≠ 0 then .error (freshE D.column p.T.cols.length)
          else if (typed D.type && fits D.dflt D.type) = false then .error 154
          else if st = 0 then .error 1
          else .ok ⟨S.version, S.last + 1, S.tabs.set i { p.T with cols := p.T.cols ++ [⟨S.last + 1, D.column, D.type, st, D.dflt⟩] }⟩ := by
        unfold colTurn; rw [if_pos hadd]
      try simp only [W.unSome_some]
      refine ld_has (j := 2) hA (cs := [.slice]) (y := (p.c, ())) rfl ?_
      refine W.callQ_of ((freshE D.column p.c.2.1, ()), ()) (c_fresh D.column p.c.2.1 _) rfl ?_
      rw [hcn]
      simp only [W.br_iff]
      refine ⟨fun hf => ?_, fun hf => ?_⟩
      · have hf : freshE D.column p.T.cols.length ≠ 0 := by simpa using hf
        exact hret (by rw [hTurn, if_pos hf]) (Mod.refl _ _)
      have hf : freshE D.column p.T.cols.length = 0 := by simpa using hf
      rw [if_neg (by rw [hf]; simp)] at hTurn
      refine W.join_gen (fun z s' => z = ((D.kind, D.table, D.name, D.column, D.parent, D.unique, D.type, D.dflt.kind, D.dflt.n, D.dflt.s, (ua, un, uc), ()), ()) ∧ s' = s0 ∧ (typed D.type && fits D.dflt D.type) = true) ?_ ?_
      rotate_left
      · intro J7 hJ7
        refine callq ((typed D.type, ()), ()) (c_kind D.type _) rfl ?_
        simp only [W.br_iff]
        refine ⟨fun hk => ?_, fun hk => ?_⟩
        · have hk : typed D.type = false := by simpa using hk
          exact hret (by rw [hTurn, if_pos (by rw [hk]; rfl)]) (Mod.refl _ _)
        have hk : typed D.type = true := by simpa using hk
        refine callq ((fits D.dflt D.type, ()), ()) (c_fits D.dflt D.type _) rfl ?_
        simp only [W.br_iff]
        refine ⟨fun hk2 => ?_, fun hk2 => ?_⟩
        · have hk2 : fits D.dflt D.type = false := by simpa using hk2
          exact hret (by rw [hTurn, if_pos (by rw [hk, hk2]; rfl)]) (Mod.refl _ _)
        have hk2 : fits D.dflt D.type = true := by simpa using hk2
        exact hJ7 _ _ ⟨rfl, rfl, by rw [hk, hk2]; rfl⟩
      rintro _ s1 ⟨rfl, rfl, hk⟩
      rw [if_neg (by rw [hk]; simp)] at hTurn
      simp only [W.br_iff]
      refine ⟨fun h0 => ?_, fun h0 => ?_⟩
      · have h0 : st = 0 := by simpa using h0
        exact hret (by rw [hTurn, if_pos h0]) (Mod.refl _ _)
      have h0 : st ≠ 0 := by simpa using h0
      rw [if_neg h0] at hTurn
      have hnb : b ∉ Lof t ps := h.nb
      simp [W.ld_at hcell, W.st_at hcell, hlast, -W.nw_iff]
      have m1 : Fw.Mod [b] s1 (s1.upd b (.cells #[.int .i64 S.version, .int .i64 (S.last + 1), .slice t.1 t.2.1 t.2.2] 24 (0, 0))) := Mod.upd (by simp)
      have hc1 : (s1.upd b (.cells #[.int .i64 S.version, .int .i64 (S.last + 1), .slice t.1 t.2.1 t.2.2] 24 (0, 0))) b = some (.cells #[.int .i64 S.version, .int .i64 (S.last + 1), .slice t.1 t.2.1 t.2.2] 24 (0, 0)) := PH.upd_same _ _ _
      generalize s1.upd b (.cells #[.int .i64 S.version, .int .i64 (S.last + 1), .slice t.1 t.2.1 t.2.2] 24 (0, 0)) = s2 at m1 hc1 ⊢
      have hH2 : Has s2 t ps := h.has.mod m1 (fun x hx => by simpa using fun e : x = b => hnb (e ▸ hx))
      have hA2 := Gs.tabHas hH2 hp ht
      refine ld_hasm (j := 2) hA2 (cs := [.slice]) (y := (p.c, ())) rfl ?_
      simp [W.ld_at hc1, -W.nw_iff]
      refine hH2.app_c hp ⟨S.last + 1, D.column, D.type, st, D.dflt⟩ (by omega) ?_
      intro u s3 hu hw
      simp only [W.unSome_some, add_mk]
      refine hH2.store hp hw (j := 2) (vs := [.slice u.1 u.2.1 u.2.2]) rfl (by simp) (by simp) ht fun s4 h4 st4 => ?_
      obtain ⟨hG, hS⟩ := h.then (S' := ⟨S.version, S.last + 1, S.tabs.set i { p.T with cols := p.T.cols ++ [⟨S.last + 1, D.column, D.type, st, D.dflt⟩] }⟩) m1 hc1 h4 st4 (by dsimp only; rw [set_map, h.eq])
      rw [← hR, hTurn]
      exact ⟨rfl, t, _, hG, hS⟩
    · have hTurn : colTurn S i p.T D st = if colAt p.T D.column < 0 then .error 151 else match p.T.cols[(colAt p.T D.column).toNat]? with
          | none => .error 151
          | some x => if D.kind = 4 ∧ x.state = 3 then .error 152
            else if D.kind = 5 ∧ used p.T (colAt p.T D.column) x = true then .error 155
            else .ok ⟨S.version, S.last, S.tabs.set i { p.T with cols := placed p.T.cols (colAt p.T D.column).toNat st (x.put st) }⟩ := by
        unfold colTurn; rw [if_neg hadd]; rfl
      have hneg : colAt p.T D.column < 0 → R (.int .i64 151) s0 := fun e => hret (by rw [hTurn, if_pos e]) (Mod.refl _ _)
      have hpos : ¬ colAt p.T D.column < 0 → ∃ (j : Nat) (x : Col), colAt p.T D.column = (j : Int) ∧ p.T.cols[j]? = some x := by
        intro e
        rcases seek_cases (fun c : Col => decide (c.name = D.column)) p.T.cols with ⟨h1, _⟩ | ⟨j, x, h1, h2, _⟩
        · exact absurd h1 (by unfold colAt at e; omega)
        · exact ⟨j, x, h1, h2⟩
      refine ⟨fun h4 => ?_, fun h4 => ⟨hneg, fun hn => ?_⟩⟩
      · have h4 : D.kind = 4 := by simpa using h4
        have hn : ¬ colAt p.T D.column < 0 := fun e => hadd ⟨h4, e⟩
        obtain ⟨j, x, hj, hx⟩ := hpos hn
        have hjl := (List.getElem?_eq_some_iff.1 hx).1
        simp only [W.unSome_some]
        refine ld_has (j := 2) hA (cs := [.slice]) (y := (p.c, ())) rfl ?_
        rw [hj]
        refine ⟨by show (0 : Int) ≤ j ∧ (j : Int) < (p.c.2.1 : Nat); omega, ?_⟩
        obtain ⟨ad, had, hh⟩ := hP.c.el.at_enc hx
        rw [had]
        simp only [W.unSome_some, Int.toNat_natCast]
        refine ld_has (j := 3) hh (cs := [.int .i64]) (y := (x.state, ())) rfl ?_
        rw [hj, if_neg (by omega)] at hTurn
        simp only [Int.toNat_natCast, hx] at hTurn
        simp only [W.br_iff, decide_eq_true_eq, decide_eq_false_iff_not]
        refine ⟨fun h3 => ?_, fun h3 => ⟨fun e => by omega, fun _ => ?_⟩⟩
        · have h3 : x.state = 3 := by simpa using h3
          exact hret (by rw [hTurn, if_pos ⟨h4, h3⟩]) (Mod.refl _ _)
        · have h3 : x.state ≠ 3 := by simpa using h3
          refine hJ _ _ ⟨by rw [hj], rfl, j, x, hj, hx, fun e => h3 e.2⟩
      · have h4 : D.kind ≠ 4 := by simpa using h4
        obtain ⟨j, x, hj, hx⟩ := hpos hn
        exact hJ _ _ ⟨rfl, rfl, j, x, hj, hx, fun e => h4 e.1⟩
  rintro _ s0 ⟨rfl, rfl, j, x, hj, hx, hno⟩
  have hjl := (List.getElem?_eq_some_iff.1 hx).1
  have hTurn : colTurn S i p.T D st = if D.kind = 5 ∧ used p.T j x = true then .error 155
      else .ok ⟨S.version, S.last, S.tabs.set i { p.T with cols := placed p.T.cols j st (x.put st) }⟩ := by
    unfold colTurn
    rw [hj, if_neg (by omega), if_neg (by omega)]
    simp only [Int.toNat_natCast, hx]
    rw [if_neg hno]
  try simp only [W.unSome_some]
  refine ld_has (j := 2) hA (cs := [.slice]) (y := (p.c, ())) rfl ?_
  rw [hj]
  refine ⟨by show (0 : Int) ≤ j ∧ (j : Int) < (p.c.2.1 : Nat); omega, ?_⟩
  obtain ⟨ad, had, hh⟩ := hP.c.el.at_enc hx
  rw [had]
  simp only [W.unSome_some, Int.toNat_natCast]
  refine ld_has (j := 0) hh (cs := [.int .i64]) (y := (x.id, ())) rfl ?_
  refine W.nw_of fun r s1 hr m1 k1 => ?_
  rw [W.st_at k1]
  refine ⟨by simp, by simp, by simp [Value.oneCell'], ?_⟩
  have m2 : Fw.Mod [] s0 (s1.upd r (.cells (setL #[.int .i64 0] 0 [.int .i64 x.id]) 3 (0, 0))) := m1.updLater (.inr hr)
  have k2 : (s1.upd r (.cells (setL #[.int .i64 0] 0 [.int .i64 x.id]) 3 (0, 0))) r = some (.cells #[.int .i64 x.id] 3 (0, 0)) := PH.upd_same _ _ _
  show W.br _ _ _ (s1.upd r (.cells (setL #[.int .i64 0] 0 [.int .i64 x.id]) 3 (0, 0)))
  generalize s1.upd r (.cells (setL #[.int .i64 0] 0 [.int .i64 x.id]) 3 (0, 0)) = s2 at m2 k2 ⊢
  have hG2 := h.mod m2 (by simp) (by simp)
  have hS2 := hG2.sch hb
  have hP2 := hS2.all p hpm
  have hA2 := Gs.tabHas hG2.has hp ht
  have fin : ¬ (D.kind = 5 ∧ used p.T j x = true) → W.call Try.prog 123 #[.pointer (some ⟨g, i * 5 + 2, none⟩), .int .i64 j, .int .i64 st, .func (.func 124) #[] #[]] (true, []) (fun _ => W.ret R (.int .i64 0)) s2 := by
    intro hu
    refine W.call_of (c_placeC hG2.has hp hx ht (by omega) st) ?_
    rintro _ s3 ⟨rfl, ps', h3, he, st3⟩
    refine ⟨(), rfl, ?_⟩
    rw [if_neg hu] at hTurn
    obtain ⟨hG, hS⟩ := h.then (S' := ⟨S.version, S.last, S.tabs.set i { p.T with cols := placed p.T.cols j st (x.put st) }⟩) (m2.mono (by simp)) hG2.cell h3 st3 (by dsimp only; rw [he, h.eq])
    rw [← hR, hTurn]
    exact ⟨rfl, t, ps', hG, hS⟩
  have h155 : D.kind = 5 → used p.T j x = true → R (.int .i64 155) s2 := fun h5 hu => hret (by rw [hTurn, if_pos ⟨h5, hu⟩]) (m2.mono (by simp))
  simp only [W.br_iff, add_mk, W.unSome_some]
  refine ⟨fun h0 => ?_, fun h0 => ?_⟩
  · have h0 : (j : Int) = 0 := by simpa using h0
    have hu : used p.T j x = true := by unfold used; rw [h0]; rfl
    refine ⟨fun h5 => h155 (by simpa using h5) hu, fun h5 => fin fun e => ?_⟩
    have h5 : D.kind ≠ 5 := by simpa using h5
    exact h5 e.1
  have h0 : (j : Int) ≠ 0 := by simpa using h0
  refine ld_hasm (j := 3) hA2 (cs := [.slice]) (y := (p.x, ())) rfl ?_
  refine callq ((p.T.idxs.any fun y => decide (y.column = x.id), ()), ()) (c_ContainsX hP2.x k2) rfl ?_
  simp only [W.br_iff, W.unSome_some, add_mk]
  refine ⟨fun hx1 => ?_, fun hx1 => ?_⟩
  · have hu : used p.T j x = true := by unfold used; rw [show (p.T.idxs.any fun y => decide (y.column = x.id)) = true from hx1]; simp
    refine ⟨fun h5 => h155 (by simpa using h5) hu, fun h5 => fin fun e => ?_⟩
    have h5 : D.kind ≠ 5 := by simpa using h5
    exact h5 e.1
  refine ld_hasm (j := 4) hA2 (cs := [.slice]) (y := (p.k, ())) rfl ?_
  refine callq ((p.T.keys.any fun y => decide (y.column = x.id), ()), ()) (c_ContainsF hP2.k k2) rfl ?_
  simp only [W.br_iff, W.unSome_some, add_mk]
  refine ⟨fun h5 => ⟨fun hk => h155 (by simpa using h5) ?_, fun hk => fin fun e => ?_⟩, fun h5 => fin fun e => ?_⟩
  · unfold used; rw [show (p.T.keys.any fun y => decide (y.column = x.id)) = true from hk]; simp
  · have := e.2
    unfold used at this
    rw [show (p.T.idxs.any fun y => decide (y.column = x.id)) = false from hx1, show (p.T.keys.any fun y => decide (y.column = x.id)) = false from hk, decide_eq_false h0] at this
    cases this
  · have h5 : D.kind ≠ 5 := by simpa using h5
    exact h5 e.1
end
end Go.Proofs.Ythepfbcgpbkbdaa
