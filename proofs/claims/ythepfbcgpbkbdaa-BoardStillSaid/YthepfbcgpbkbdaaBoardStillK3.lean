/-
  Part 3 for the law: texts of this session's own, those parts that the claim needs, one behind the other.
  Conditions: none; it proves no statement by itself.
-/
import Derived.Test.YthepfbcgpbkbdaaBoardStillK2
set_option linter.unusedVariables false
set_option linter.unusedSectionVars false
set_option linter.unusedSimpArgs false
section
set_option linter.unusedVariables false
set_option linter.unusedSimpArgs false
set_option maxHeartbeats 1000000
set_option maxRecDepth 100000
namespace Go.Proofs.Ythepfbcgpbkbdaa
open Fw Go
attribute [-simp] Fw.W.ld_iff Fw.W.st_iff
theorem b_tabs2 {s : PH} {b : Nat} {v l : Int} {a : Option Addr} {n c : Nat} (h : s b = some (.cells #[.int .i64 v, .int .i64 l, .slice a n c] 24 (0, 0))) {K : Den [.slice] → W.T} (hK : K ((a, n, c), ()) s) : W.ld [.slice] ((Addr.mk b 0 none).add 2) K s := by
  have := b_tabs h hK
  simpa only [W.unSome_some] using this
theorem not_t {b : Bool} (h : (!b) = true) : b = false := by cases b <;> simp_all
theorem not_f {b : Bool} (h : (!b) = false) : b = true := by cases b <;> simp_all
theorem all_take {α : Type} {f : α → Bool} {l : List α} {k : Nat} {x : α} (h : l[k]? = some x) : (l.take (k + 1)).all f = ((l.take k).all f && f x) := by
  rw [List.take_add_one, h]; simp
section
variable {s : PH} {b : Nat} {S : Sch} {t : Tri} {ps : List TabP}
/-- a table is put behind the others -/
theorem Gs.push {s1 : PH} {p : TabP} {K : W.T} {l : Int} (h : Gs s b S t ps) (hb : ps.length ≤ 4294967296) (m1 : Fw.Mod [b] s s1) (hc : s1 b = some (.cells #[.int .i64 S.version, .int .i64 l, .slice t.1 t.2.1 t.2.2] 24 (0, 0)))
    (ho : Own s1 p) (hn : p.L.Nodup) (hf : ∀ g ∈ p.L, s g = none)
    (hK : ∀ s' t' ps', Gs s' b ⟨S.version, l, S.tabs ++ [p.T]⟩ t' ps' → Step (b :: Lof t ps) (b :: Lof t' ps') s s' → K s') {F : Option Addr → Nat → Nat → W.T} (hF : ∀ a' n' c' s', W.st ⟨b, 2, none⟩ [.slice a' n' c'] K s' → F a' n' c' s') :
    W.nw (.cells #[.int .i64 p.T.id, .string p.T.name, .slice p.c.1 p.c.2.1 p.c.2.2, .slice p.x.1 p.x.2.1 p.x.2.2, .slice p.k.1 p.k.2.1 p.k.2.2] 42 (0, 0)) (fun r => W.app 42 5 96 [.int .i64 0, .string ⟨#[]⟩, .slice none 0 0, .slice none 0 0, .slice none 0 0] t.1 t.2.1 t.2.2 (Src.sl (some ⟨r, 0, none⟩) 1) F) s1 := by
  obtain ⟨ta, tn, tc⟩ := t
  have hnb := h.nb
  have hkb : s b ≠ none := by rw [h.cell]; simp
  have hH1 : Has s1 (ta, tn, tc) ps := h.has.mod m1 fun x hx => by simpa using fun e : x = b => hnb (e ▸ hx)
  have hpb : b ∉ p.L := fun e => hkb (hf b e)
  refine hH1.push (p := p) ho hn (fun g hg hg2 => h.has.known g hg2 (hf g hg)) hb ?_
  intro a' c' s2 h2 st2
  have hLb : b ∉ Lof (a', tn + 1, c') (ps ++ [p]) := fun e => by
    rcases st2.new b e with e | e
    · rcases List.mem_append.1 e with e | e
      · exact hnb e
      · exact hpb e
    · rw [hc] at e; cases e
  have hc2 := st2.mod.at hc (fun e => by
    rcases List.mem_append.1 e with e | e
    · exact hnb e
    · exact hpb e)
  refine hF _ _ _ _ ?_
  rw [W.st_at hc2]
  refine ⟨by simp, by simp, by simp [Value.oneCell'], ?_⟩
  have m3 : Fw.Mod [b] s2 (s2.upd b (.cells (setL #[.int .i64 S.version, .int .i64 l, .slice ta tn tc] 2 [.slice a' (tn + 1) c']) 24 (0, 0))) := Mod.upd (by simp)
  have hc3 : (s2.upd b (.cells (setL #[.int .i64 S.version, .int .i64 l, .slice ta tn tc] 2 [.slice a' (tn + 1) c']) 24 (0, 0))) b = some (.cells #[.int .i64 S.version, .int .i64 l, .slice a' (tn + 1) c'] 24 (0, 0)) := PH.upd_same _ _ _
  have hH3 := h2.mod m3 fun x hx => by simpa using fun e : x = b => hLb (e ▸ hx)
  refine hK _ (a', tn + 1, c') (ps ++ [p]) ⟨hc3, hH3, hLb, by simp [h.eq]⟩ ⟨?_, ?_⟩
  · have e2 : Fw.Mod (b :: Lof (ta, tn, tc) ps) s s2 := by
      refine (m1.mono (by simp)).fresh st2.mod fun x hx => ?_
      rcases List.mem_append.1 hx with e | e
      · exact .inl (List.mem_cons_of_mem _ e)
      · exact .inr (hf x e)
    exact e2.trans (m3.mono (by simp))
  · intro x hx
    rcases List.mem_cons.1 hx with rfl | hx
    · exact .inl (by simp)
    · rcases st2.new x hx with e | e
      · rcases List.mem_append.1 e with e | e
        · exact .inl (List.mem_cons_of_mem _ e)
        · exact .inr (hf x e)
      · by_cases hxb : x = b
        · exact .inl (by simp [hxb])
        · exact .inr (m1.none e (by simpa using hxb))
theorem c_create {s00 : PH} (h : Gs s b S t ps) (hb : S.Bd) (D : Ddl) {u : Tri} (hu0 : Sl colE s00 u D.cols) (m00 : Fw.Mod [] s00 s) (hb0 : s00 b = none) (hul : D.cols.length ≤ 1073741824) (st : Int) :
    DCalls Try.prog 77 #[cp b, ddlV D u, .int .i64 st, .int .i64 (tabAt S D.table)] s (OutG b (createTurn S D st) (Lof t ps) s) := by
  obtain ⟨ua, un, uc⟩ := u
  refine ok_create b D.kind D.table D.name D.column D.parent D.unique D.type D.dflt.kind D.dflt.n D.dflt.s ua un uc st (tabAt S D.table) _ s ?_
  unfold vc_create
  have hu := hu0.mono m00.le
  have hun : un = D.cols.length := hu.len
  have htn : t.2.1 = ps.length := h.has.row.len
  have hpl : S.tabs.length = ps.length := by rw [h.eq]; simp
  have hcell := h.cell
  obtain ⟨R, hR⟩ : ∃ R, OutG b (createTurn S D st) (Lof t ps) s = R := ⟨_, rfl⟩
  have hret : ∀ {e : Int}, createTurn S D st = .error e → R (.int .i64 e) s := fun e1 => by
    rw [← hR, e1]; exact ⟨rfl, Mod.refl _ _⟩
  rw [hR]
  have hlast := hb.last
  simp only [RP_join, RP_ite, RP_call, RP_callQ, RP_ret, RP_nw, RP_app, RP_st, RP_ld, RP_unSome, RP_guard, RP_loop, RP_still, RP_clr, RP_look, RP_mset, W.unSome_some]
  refine callq ((named D.table, ()), ()) (c_named D.table s) rfl ?_
  refine ⟨fun z s' => ∃ k : Nat, z = ((D.kind, D.table, D.name, D.column, D.parent, D.unique, D.type, D.dflt.kind, D.dflt.n, D.dflt.s, (ua, un, uc), ()), (named D.table && (D.cols.take k).all (fun c => named c.name), ()), ((D.cols.take k).all (fun c => typed c.kind), ()), ((ua, un, uc), ()), ((un : Int), ()), ((k : Int), ()), ()) ∧ k ≤ un ∧ s' = s,
    fun z _ => un - z.2.2.2.2.2.1.1.toNat, ⟨0, by simp, Nat.zero_le _, rfl⟩, ?_⟩
  rintro _ s0 ⟨k, rfl, hk, rfl⟩
  simp only [W.br_iff, decide_eq_true_eq, decide_eq_false_iff_not]
  refine ⟨fun hlt => ?_, fun hge => ?_⟩
  · have hlt : k < un := by omega
    obtain ⟨x, hx⟩ : ∃ x, D.cols[k]? = some x := ⟨_, List.getElem?_eq_getElem (by omega)⟩
    obtain ⟨ad, had, hh⟩ := hu.el.at_enc hx
    dsimp only at had
    subst had
    have hw := wrap_succ (k := k) (by omega)
    have hm : un - (k + 1) < un - k := by omega
    refine ⟨by omega, ?_⟩
    simp only [W.unSome_some, Int.toNat_natCast, hw]
    refine ld_has_z hh (y := (x.id, x.name, x.kind, x.state, x.dflt.kind, x.dflt.n, x.dflt.s, ())) rfl ?_
    have e1 := all_take (f := fun c : Col => named c.name) hx
    have e2 := all_take (f := fun c : Col => typed c.kind) hx
    generalize (D.cols.take k).all (fun c => named c.name) = N at e1 ⊢
    generalize (D.cols.take k).all (fun c => typed c.kind) = Q at e2 ⊢
    simp only [W.br_iff]
    refine ⟨fun hN => ?_, fun hN => ?_⟩
    · refine callq ((named x.name, ()), ()) (c_named x.name _) rfl ?_
      simp only [W.br_iff]
      refine ⟨fun hQ => ?_, fun hQ => ?_⟩
      · refine callq ((typed x.kind, ()), ()) (c_kind x.kind _) rfl ?_
        refine ⟨⟨k + 1, ?_, hlt, by trivial⟩, hm⟩
        rw [e1, e2, ← Bool.and_assoc, hN, hQ]; (first | done | rfl)
      · refine ⟨⟨k + 1, ?_, hlt, by trivial⟩, hm⟩
        rw [e1, e2, ← Bool.and_assoc, hN, hQ]; (first | done | rfl)
    · refine ⟨fun hQ => ?_, fun hQ => ?_⟩
      · refine callq ((typed x.kind, ()), ()) (c_kind x.kind _) rfl ?_
        refine ⟨⟨k + 1, ?_, hlt, by trivial⟩, hm⟩
        rw [e1, e2, ← Bool.and_assoc, hN, hQ]; (first | done | rfl)
      · refine ⟨⟨k + 1, ?_, hlt, by trivial⟩, hm⟩
        rw [e1, e2, ← Bool.and_assoc, hN, hQ]; (first | done | rfl)
  have hall : D.cols.take k = D.cols := List.take_of_length_le (by omega)
  rw [hall]
  refine W.join_gen (fun z s' => z = ((D.kind, D.table, D.name, D.column, D.parent, D.unique, D.type, D.dflt.kind, D.dflt.n, D.dflt.s, (ua, un, uc), ()), ()) ∧ s' = s0 ∧
    createTurn S D st = .ok ⟨S.version, S.last + 1 + D.cols.length, S.tabs ++ [⟨S.last + 1, D.table, mkCols (S.last + 2) D.cols, [], []⟩]⟩ ∧ D.cols.length ≤ 8) ?_ ?_
  rotate_left
  · intro J hJ
    simp only [W.br_iff]
    refine ⟨fun hN => hret ?_, fun hN => ?_⟩
    · unfold createTurn
      rw [if_pos (not_t hN)]
    have hN : ¬ (named D.table && D.cols.all fun c => named c.name) = false := by rw [not_f hN]; simp
    refine W.join_gen (fun z s' => z = ((D.kind, D.table, D.name, D.column, D.parent, D.unique, D.type, D.dflt.kind, D.dflt.n, D.dflt.s, (ua, un, uc), ()), (D.cols.all (fun c => typed c.kind), ()), ((decide (0 ≤ tabAt S D.table) || dbl D.cols), ()), ()) ∧ s' = s0) ?_ ?_
    rotate_left
    · intro J2 hJ2
      simp only [W.br_iff, decide_eq_true_eq, decide_eq_false_iff_not]
      refine ⟨fun h1 => hJ2 _ _ ⟨by rw [decide_eq_true (p := 0 ≤ tabAt S D.table) h1]; (first | done | rfl), rfl⟩, fun h1 => ?_⟩
      refine callq ((dbl D.cols, ()), ()) (c_doubled (t := (ua, un, uc)) hu) rfl ?_
      exact hJ2 _ _ ⟨by rw [decide_eq_false (p := 0 ≤ tabAt S D.table) h1]; (first | done | rfl), rfl⟩
    rintro _ s1 ⟨rfl, rfl⟩
    simp only [W.br_iff]
    refine ⟨fun h1 => hret (by unfold createTurn; rw [if_neg hN, if_pos h1]), fun h1 => ?_⟩
    have h1 : ¬ (decide (0 ≤ tabAt S D.table) || dbl D.cols) = true := by rw [h1]; simp
    refine b_tabs hcell ?_
    have hbad : (6 ≤ S.tabs.length ∨ D.cols.length < 1 ∨ 8 < D.cols.length) → createTurn S D st = .error 156 := fun e => by
      unfold createTurn; rw [if_neg hN, if_neg h1, if_pos (by simp only [Bool.or_eq_true, decide_eq_true_eq]; exact e)]
    simp only [W.br_iff, decide_eq_true_eq, decide_eq_false_iff_not]
    refine ⟨fun h2 => hret (hbad ?_), fun h2 => ⟨fun h3 => hret (hbad (by omega)), fun h3 => ⟨fun h4 => hret (hbad (by omega)), fun h4 => ?_⟩⟩⟩
    · have h2 : ((t.2.1 : Nat) : Int) = 6 := by simpa using h2
      omega
    have h2 : ((t.2.1 : Nat) : Int) ≠ 6 := by simpa using h2
    have ht6 := hb.tabs
    have hok : ¬ (decide (6 ≤ S.tabs.length) || (decide (D.cols.length < 1) || decide (8 < D.cols.length))) = true := by
      simp only [Bool.or_eq_true, decide_eq_true_eq]; omega
    refine ⟨fun h5 => hret (by unfold createTurn; rw [if_neg hN, if_neg h1, if_neg hok, if_pos (not_t h5)]), fun h5 => ?_⟩
    have h5 : ¬ (D.cols.all fun c => typed c.kind) = false := by rw [not_f h5]; simp
    refine ⟨fun h6 => hret (by unfold createTurn; rw [if_neg hN, if_neg h1, if_neg hok, if_neg h5, if_pos (by simpa using h6)]), fun h6 => hJ _ _ ⟨rfl, rfl, ?_, by omega⟩⟩
    unfold createTurn; rw [if_neg hN, if_neg h1, if_neg hok, if_neg h5, if_neg (by simpa using h6)]
  rintro _ s1 ⟨rfl, rfl, hTurn, h8⟩
  have hnb := h.nb
  have hkb : s1 b ≠ none := by rw [hcell]; simp
  refine b_bump hcell (wrap_in (by omega) (by omega)) fun s2 m2 c2 => ?_
  refine b_last c2 ?_
  refine ⟨fun z s' => ∃ (k : Nat) (a : Option Addr) (n c : Nat), z = ((S.last + 1, D.table, (a, n, c), (none, 0, 0), (none, 0, 0), ()), ((ua, un, uc), ()), ((un : Int), ()), ((k : Int), ()), ()) ∧ k ≤ un ∧ rowE colE s' 44 a n c (mkCols (S.last + 2) (D.cols.take k)) ∧ (∀ g ∈ Fw.blk a, s1 g = none) ∧
    Fw.Mod [b] s1 s' ∧ s' b = some (.cells #[.int .i64 S.version, .int .i64 (S.last + 1 + k), .slice t.1 t.2.1 t.2.2] 24 (0, 0)), fun z _ => un - z.2.2.2.1.1.toNat, ⟨0, none, 0, 0, rfl, Nat.zero_le _, rowE.nil, by simp [Fw.blk], m2, by simpa using c2⟩, ?_⟩
  rintro _ s3 ⟨k, a, n, c, rfl, hk, hrow, hfr, m3, c3⟩
  simp only [W.br_iff, decide_eq_true_eq, decide_eq_false_iff_not]
  refine ⟨fun hlt => ?_, fun hge => ?_⟩
  · have hlt : k < un := by omega
    obtain ⟨x, hx⟩ : ∃ x, D.cols[k]? = some x := ⟨_, List.getElem?_eq_getElem (by omega)⟩
    have hw := wrap_succ (k := k) (by omega)
    have hm : un - (k + 1) < un - k := by omega
    have hmb : ∀ g ∈ Fw.blk a, g ≠ b := fun g hg e => hkb (by rw [← e]; exact hfr g hg)
    have hn : n = k := by have := hrow.len; rw [mkCols_len, List.length_take] at this; omega
    refine ⟨by omega, ?_⟩
    have hu3 := hu0.mono (m00.fresh m3 (by simp [hb0])).le
    obtain ⟨ad, had, hh⟩ := hu3.el.at_enc hx
    dsimp only at had
    subst had
    simp only [W.unSome_some, Int.toNat_natCast, hw]
    refine ld_has_z hh (y := (x.id, x.name, x.kind, x.state, x.dflt.kind, x.dflt.n, x.dflt.s, ())) rfl ?_
    refine b_bump c3 (wrap_in (by omega) (by omega)) fun s4 m4 c4 => ?_
    refine b_last c4 ?_
    have hrow4 := hrow.mod m4 (fun g hg => by simpa using hmb g hg)
    refine W.nw_of fun r s5 hr m5 k5 => ?_
    have hmax : maxLen = 9223372036854775807 := rfl
    refine app_rowE (hrow4.mod m5 (by simp)) rfl (ys := [⟨S.last + 1 + k + 1, x.name, x.kind, 3, ⟨0, 0, ⟨#[]⟩⟩⟩]) (k := 1) (src_has (by have := has_block k5; simpa [colE] using this) rfl) rfl rfl (by omega) (by omega) ?_
    intro a' c' s6 h' hm6
    have m35 : Fw.Mod [b] s1 s5 := (m3.trans m4).trans (m5.mono (by simp))
    have hsnoc : mkCols (S.last + 2) (D.cols.take (k + 1)) = mkCols (S.last + 2) (D.cols.take k) ++ [⟨S.last + 1 + k + 1, x.name, x.kind, 3, ⟨0, 0, ⟨#[]⟩⟩⟩] := by
      have : D.cols.take (k + 1) = D.cols.take k ++ [x] := by rw [List.take_add_one, hx]; (first | done | rfl)
      rw [this, mkCols_snoc, List.length_take, Nat.min_eq_left (by omega)]
      congr 3; omega
    have hc5 := m5.at c4 (by simp)
    have hnba : b ∉ Fw.blk a := fun e => hmb b e rfl
    refine ⟨⟨k + 1, a', n + 1, c', rfl, hlt, by rw [hsnoc]; exact h', ?_, ?_, ?_⟩, hm⟩
    · rcases hm6 with ⟨e, _⟩ | ⟨g, e, hg, _⟩
      · rw [e]; exact hfr
      · rw [e]
        intro g' hg'
        have : g' = g := by simpa [Fw.blk] using hg'
        subst this
        by_cases e2 : g' = b
        · subst e2; rw [hc5] at hg; cases hg
        · exact m35.none hg (by simpa using e2)
    · rcases hm6 with ⟨_, hm6⟩ | ⟨_, _, _, hm6⟩
      · exact m35.fresh hm6 fun x hx => .inr (hfr x hx)
      · exact m35.trans (hm6.mono (by simp))
    · have := (show s6 b = _ from by
        rcases hm6 with ⟨_, hm6⟩ | ⟨_, _, _, hm6⟩
        · exact hm6.at hc5 hnba
        · exact hm6.at hc5 (by simp))
      rw [this, show S.last + 1 + (k : Int) + 1 = S.last + 1 + ((k + 1 : Nat) : Int) by omega]
  · have hall : D.cols.take k = D.cols := List.take_of_length_le (by omega)
    rw [hall] at hrow
    refine b_tabs c3 ?_
    refine h.push (p := ⟨⟨S.last + 1, D.table, mkCols (S.last + 2) D.cols, [], []⟩, (a, n, c), noTri, noTri⟩) (by have := hb.tabs; omega) m3 c3 ⟨hrow, rowE.nil, rowE.nil⟩ ?_ ?_ ?_ (fun a' n' c' s' hst => by simp only [W.unSome_some, add_mk, Nat.zero_add]; exact hst)
    · simpa [TabP.L, Fw.blk] using blk_nodup a
    · intro g hg
      refine hfr g ?_
      simpa [TabP.L, Fw.blk] using hg
    · intro s' t' ps' hG hS
      have hkl : (k : Int) = D.cols.length := by omega
      rw [← hR, hTurn]
      refine ⟨rfl, t', ps', ?_, hS⟩
      rw [hkl] at hG
      exact hG
theorem c_turn {s00 : PH} (h : Gs s b S t ps) (hb : S.Bd) (D : Ddl) {u : Tri} (hu0 : Sl colE s00 u D.cols) (m00 : Fw.Mod [] s00 s) (hb0 : s00 b = none) (hul : D.cols.length ≤ 1073741824) (st : Int) :
    DCalls Try.prog 39 #[cp b, ddlV D u, .int .i64 st] s (OutG b (turn1 S D st) (Lof t ps) s) := by
  obtain ⟨ua, un, uc⟩ := u
  refine ok_turn b D.kind D.table D.name D.column D.parent D.unique D.type D.dflt.kind D.dflt.n D.dflt.s ua un uc st _ s ?_
  unfold vc_turn
  have hcell := h.cell
  have hSch := h.sch hb
  have hout : ∀ {r : Res} {y s'}, OutG b r (Lof t ps) s y s' → ∃ n, y = .int .i64 n := by
    intro r y s' ho
    cases r with
    | error e => exact ⟨e, ho.1⟩
    | ok S' => exact ⟨0, ho.1⟩
  simp only [RP_join, RP_ite, RP_call, RP_callQ, RP_ret, RP_nw, RP_app, RP_st, RP_ld, RP_unSome, RP_guard, RP_loop, RP_still, RP_clr, RP_look, RP_mset, W.unSome_some]
  refine b_tabs2 hcell ?_
  refine W.callQ_of ((tabAt S D.table, ()), ()) (c_findT' hSch D.table) rfl ?_
  simp only [W.br_iff, decide_eq_true_eq, decide_eq_false_iff_not]
  refine ⟨fun h1 => ?_, fun h1 => ⟨fun h2 => ?_, fun h2 => ?_⟩⟩
  · have h1 : D.kind = 1 := by simpa using h1
    refine W.call_of (c_create h hb D hu0 m00 hb0 hul st) ?_
    intro y s' ho
    obtain ⟨n, rfl⟩ := hout ho
    refine ⟨((n, ()), ()), rfl, ?_⟩
    show OutG b (turn1 S D st) (Lof t ps) s (.int .i64 n) s'
    unfold turn1; rw [if_pos h1]; exact ho
  · have h1 : D.kind ≠ 1 := by simpa using h1
    show OutG b (turn1 S D st) (Lof t ps) s (.int .i64 150) s
    unfold turn1; rw [if_neg h1, if_pos h2]; exact ⟨rfl, Mod.refl _ _⟩
  have h1 : D.kind ≠ 1 := by simpa using h1
  obtain ⟨i, T, hi, hT, _⟩ := (seek_cases (fun T : Tab => decide (T.name = D.table)) S.tabs).resolve_left (fun e => by have := e.1; unfold tabAt at h2; omega)
  have hi : tabAt S D.table = (i : Int) := hi
  obtain ⟨p, hp, rfl⟩ : ∃ p, ps[i]? = some p ∧ p.T = T := by
    rw [h.eq, List.getElem?_map] at hT
    cases hq : ps[i]? with
    | none => rw [hq] at hT; cases hT
    | some pp => rw [hq] at hT; exact ⟨pp, rfl, Option.some.inj hT⟩
  obtain ⟨g, ht, _⟩ := h.has.row.at hp
  have htn : t.2.1 = ps.length := h.has.row.len
  have hil := (List.getElem?_eq_some_iff.1 hp).1
  have hTurn : turn1 S D st = if D.kind = 4 ∨ D.kind = 5 then colTurn S i p.T D st else if D.kind = 2 ∨ D.kind = 3 then idxTurn S i p.T D st else keyTurn S i p.T D st := by
    unfold turn1
    rw [if_neg h1, if_neg h2, hi]
    simp only [Int.toNat_natCast, hT]
  refine b_tabs hcell ?_
  rw [hi]
  refine ⟨by show (0 : Int) ≤ i ∧ (i : Int) < (t.2.1 : Nat); omega, ?_⟩
  dsimp only
  rw [ht]
  simp only [W.unSome_some, add_mk, Nat.zero_add, Int.toNat_natCast]
  refine W.join_gen (fun z s' => z = ((D.kind, D.table, D.name, D.column, D.parent, D.unique, D.type, D.dflt.kind, D.dflt.n, D.dflt.s, (ua, un, uc), ()), (some (Addr.mk g (i * 5) none), ()), (D.kind, ()), (decide (D.kind = 4 ∨ D.kind = 5), ()), ()) ∧ s' = s) ?_ ?_
  rotate_left
  · intro J hJ
    simp only [W.br_iff]
    refine ⟨fun h4 => hJ _ _ ⟨?_, rfl⟩, fun h4 => hJ _ _ ⟨?_, rfl⟩⟩
    · have h4 : D.kind = 4 := by simpa using h4
      simp [h4]
    · have h4 : D.kind ≠ 4 := by simpa using h4
      simp [h4, beq_dec]
  rintro _ s0 ⟨rfl, rfl⟩
  simp only [W.br_iff, decide_eq_true_eq, decide_eq_false_iff_not]
  refine ⟨fun h4 => ?_, fun h4 => ?_⟩
  · rw [if_pos h4] at hTurn
    refine W.call_of (c_columns h hb hp ht D (ua, un, uc) st) ?_
    intro y s' ho
    obtain ⟨n, rfl⟩ := hout ho
    refine ⟨((n, ()), ()), rfl, ?_⟩
    rw [← hTurn] at ho
    exact ho
  rw [if_neg h4] at hTurn
  refine ⟨fun h5 => ?_, fun h5 => ?_⟩
  · have h5 : D.kind = 2 := by simpa using h5
    rw [if_pos (.inl h5)] at hTurn
    refine W.call_of (c_indexes h hb hp ht D (ua, un, uc) st) ?_
    intro y s' ho
    obtain ⟨n, rfl⟩ := hout ho
    refine ⟨((n, ()), ()), rfl, ?_⟩
    rw [← hTurn] at ho
    exact ho
  have h5 : D.kind ≠ 2 := by simpa using h5
  refine ⟨fun h6 => ?_, fun h6 => ?_⟩
  · have h6 : D.kind = 3 := by simpa using h6
    rw [if_pos (.inr h6)] at hTurn
    refine W.call_of (c_indexes h hb hp ht D (ua, un, uc) st) ?_
    intro y s' ho
    obtain ⟨n, rfl⟩ := hout ho
    refine ⟨((n, ()), ()), rfl, ?_⟩
    rw [← hTurn] at ho
    exact ho
  have h6 : D.kind ≠ 3 := by simpa using h6
  rw [if_neg (fun e => Or.elim e h5 h6)] at hTurn
  refine W.call_of (c_foreigns h hb hp ht D (ua, un, uc) st) ?_
  intro y s' ho
  obtain ⟨n, rfl⟩ := hout ho
  refine ⟨((n, ()), ()), rfl, ?_⟩
  rw [← hTurn] at ho
  exact ho
end
theorem right_bd {S : Sch} (h : right S = true) : S.Bd ∧ 0 ≤ S.version ∧ S.version ≤ 1125899906842624 := by
  obtain ⟨a, b, c, d, e⟩ := right_iff.1 h
  unfold headB at a
  simp only [Bool.and_eq_true, decide_eq_true_eq] at a
  refine ⟨⟨b, fun T hT => ?_, a.2.2.1, a.2.2.2⟩, a.1, a.2.1⟩
  obtain ⟨i, hi⟩ := List.mem_iff_getElem?.1 hT
  obtain ⟨x1, x2, x3, x4, _⟩ := tabB_iff.1 (allI_iff.1 d i T hi)
  exact ⟨x1, x2, x3, x4⟩
/-- what a change gives, in memory: a schema of its own, all new -/
def Gives (s : PH) (S' : Sch) (e : Int) (y : Value) (s' : PH) : Prop :=
  ∃ t' ps', y = .tuple #[schV S' t', .int .i64 e] ∧ Has s' t' ps' ∧ S'.tabs = ps'.map (·.T) ∧ Fw.Mod [] s s' ∧ ∀ g ∈ Lof t' ps', s g = none
theorem gives_no {s s' : PH} {e : Int} (m : Fw.Mod [] s s') : Gives s noSch e (.tuple #[schV noSch noTri, .int .i64 e]) s' := ⟨noTri, [], rfl, Has.nil _, rfl, m, by simp [Lof, Fw.blk]⟩
theorem c_Turn {s : PH} {t : Tri} {S : Sch} {ps : List TabP} (h : SchIs s t S ps) (D : Ddl) {u : Tri} (hu : Sl colE s u D.cols) (hul : D.cols.length ≤ 1073741824) (st : Int) :
    DCalls Try.prog 14 #[schV S t, ddlV D u, .int .i64 st] s (Gives s (S.turn D st).1 (S.turn D st).2) := by
  obtain ⟨ua, un, uc⟩ := u
  obtain ⟨ta, tn, tc⟩ := t
  refine ok_Turn S.version S.last ta tn tc D.kind D.table D.name D.column D.parent D.unique D.type D.dflt.kind D.dflt.n D.dflt.s ua un uc st _ s ?_
  unfold vc_Turn
  obtain ⟨R, hR⟩ : ∃ R, Gives s (S.turn D st).1 (S.turn D st).2 = R := ⟨_, rfl⟩
  rw [hR]
  have htn : tn = ps.length := h.el.len
  simp only [RP_join, RP_ite, RP_call, RP_callQ, RP_ret, RP_nw, RP_app, RP_st, RP_ld, RP_unSome, RP_guard, RP_loop, RP_still, RP_clr, RP_look, RP_mset, W.unSome_some]
  refine W.join_gen (fun z s' => z = ((S.version, S.last, (ta, tn, tc), ()), (D.kind, D.table, D.name, D.column, D.parent, D.unique, D.type, D.dflt.kind, D.dflt.n, D.dflt.s, (ua, un, uc), ()), (0, 0, (none, 0, 0), ()), ()) ∧ s' = s ∧ right S = true ∧ 0 ≤ st ∧ st ≤ 3) ?_ ?_
  rotate_left
  · intro J hJ
    have hbad : ¬ (right S = true ∧ 0 ≤ st ∧ st ≤ 3) → R (.tuple #[schV noSch noTri, .int .i64 100]) s := by
      intro e
      have : S.turn D st = (noSch, 100) := by
        unfold Sch.turn; rw [if_pos]
        cases hr : right S
        · rfl
        · rw [hr] at e
          simp only [Bool.true_and, Bool.and_eq_false_iff, decide_eq_false_iff_not]
          simp only [true_and] at e
          omega
      rw [← hR, this]
      exact gives_no (Mod.refl _ _)
    have hc := c_Check h
    have hE : errS S = if right S = true then 0 else 100 := rfl
    generalize errS S = E at hc hE
    refine callq ((E, ()), ()) hc rfl ?_
    subst hE
    simp only [W.br_iff, decide_eq_true_eq, decide_eq_false_iff_not]
    refine ⟨fun h1 => hbad fun e => by rw [if_pos e.1] at h1; simp at h1, fun h1 => ⟨fun h2 => hbad (by omega), fun h2 => ⟨fun h3 => hbad (by omega), fun h3 => hJ _ _ ⟨rfl, rfl, ?_, by omega, by omega⟩⟩⟩⟩
    cases hr : right S
    · rw [hr] at h1; simp at h1
    · rfl
  rintro _ s0 ⟨rfl, rfl, hr, hst0, hst3⟩
  have hturn0 : S.turn D st = if D.kind < 1 ∨ 7 < D.kind then (noSch, 1) else match turn1 { S with version := S.version + 1 } D st with
      | .error e => (noSch, e)
      | .ok S' => (S', 0) := by
    unfold Sch.turn
    rw [if_neg (by rw [hr, decide_eq_true hst0, decide_eq_true hst3]; simp)]
    first | done | rfl
  refine W.join_gen (fun z s' => z = ((S.version, S.last, (ta, tn, tc), ()), (D.kind, D.table, D.name, D.column, D.parent, D.unique, D.type, D.dflt.kind, D.dflt.n, D.dflt.s, (ua, un, uc), ()), (0, 0, (none, 0, 0), ()), ()) ∧ s' = s0 ∧ ¬ (D.kind < 1 ∨ 7 < D.kind)) ?_ ?_
  rotate_left
  · intro J hJ
    have hbad : (D.kind < 1 ∨ 7 < D.kind) → R (.tuple #[schV noSch noTri, .int .i64 1]) s0 := by
      intro e
      rw [← hR, hturn0, if_pos e]
      exact gives_no (Mod.refl _ _)
    simp only [W.br_iff, decide_eq_true_eq, decide_eq_false_iff_not]
    exact ⟨fun h2 => hbad (by omega), fun h2 => ⟨fun h3 => hbad (by omega), fun h3 => hJ _ _ ⟨rfl, rfl, by omega⟩⟩⟩
  rintro _ s1 ⟨rfl, rfl, hkind⟩
  rw [if_neg hkind] at hturn0
  obtain ⟨hbd, hv0, hv1⟩ := right_bd hr
  have ht6 := hbd.tabs
  have hpl : S.tabs.length = ps.length := by rw [h.eq]; simp
  refine W.nw_of fun r s2 hr0 m2 k2 => ?_
  rw [W.st_at k2]
  refine ⟨by simp, by simp, by simp [Value.oneCell'], ?_⟩
  have k3 : (s2.upd r (.cells (setL #[.int .i64 0, .int .i64 0, .slice none 0 0] 0 [.int .i64 S.version, .int .i64 S.last, .slice ta tn tc]) 24 (0, 0))) r = some (.cells #[.int .i64 S.version, .int .i64 S.last, .slice ta tn tc] 24 (0, 0)) := PH.upd_same _ _ _
  have m3 : Fw.Mod [] s1 (s2.upd r (.cells (setL #[.int .i64 0, .int .i64 0, .slice none 0 0] 0 [.int .i64 S.version, .int .i64 S.last, .slice ta tn tc]) 24 (0, 0))) := m2.updLater (.inr hr0)
  generalize s2.upd r (.cells (setL #[.int .i64 0, .int .i64 0, .slice none 0 0] 0 [.int .i64 S.version, .int .i64 S.last, .slice ta tn tc]) 24 (0, 0)) = s3 at k3 m3 ⊢
  simp only [add_mk, Nat.zero_add]
  rw [W.ld_at k3]
  refine ⟨(S.version, ()), by simp, ?_⟩
  have hvw : IntKind.i64.wrap (S.version + 1) = S.version + 1 := wrap_in (by omega) (by omega)
  rw [W.st_at k3]
  refine ⟨by simp, by simp, by simp [Value.oneCell'], ?_⟩
  dsimp only
  rw [hvw]
  have k4 : (s3.upd r (.cells (setL #[.int .i64 S.version, .int .i64 S.last, .slice ta tn tc] 0 [.int .i64 (S.version + 1)]) 24 (0, 0))) r = some (.cells #[.int .i64 (S.version + 1), .int .i64 S.last, .slice ta tn tc] 24 (0, 0)) := PH.upd_same _ _ _
  have m4 : Fw.Mod [] s1 (s3.upd r (.cells (setL #[.int .i64 S.version, .int .i64 S.last, .slice ta tn tc] 0 [.int .i64 (S.version + 1)]) 24 (0, 0))) := m3.updLater (.inr hr0)
  generalize s3.upd r (.cells (setL #[.int .i64 S.version, .int .i64 S.last, .slice ta tn tc] 0 [.int .i64 (S.version + 1)]) 24 (0, 0)) = s4 at k4 m4 ⊢
  rw [W.st_at k4]
  refine ⟨by simp, by simp, by simp [Value.oneCell'], ?_⟩
  have k5 : (s4.upd r (.cells (setL #[.int .i64 (S.version + 1), .int .i64 S.last, .slice ta tn tc] 2 [.slice none 0 0]) 24 (0, 0))) r = some (.cells #[.int .i64 (S.version + 1), .int .i64 S.last, .slice none 0 0] 24 (0, 0)) := PH.upd_same _ _ _
  have m5 : Fw.Mod [] s1 (s4.upd r (.cells (setL #[.int .i64 (S.version + 1), .int .i64 S.last, .slice ta tn tc] 2 [.slice none 0 0]) 24 (0, 0))) := m4.updLater (.inr hr0)
  generalize s4.upd r (.cells (setL #[.int .i64 (S.version + 1), .int .i64 S.last, .slice ta tn tc] 2 [.slice none 0 0]) 24 (0, 0)) = s5 at k5 m5 ⊢
  refine ⟨fun z s' => ∃ (k : Nat) (tc' : Tri) (pc : List TabP), z = ((D.kind, D.table, D.name, D.column, D.parent, D.unique, D.type, D.dflt.kind, D.dflt.n, D.dflt.s, (ua, un, uc), ()), (0, 0, (none, 0, 0), ()), (Addr.mk r 0 none, ()), ((ta, tn, tc), ()), ((tn : Int), ()), ((k : Int), ()), ()) ∧ k ≤ tn ∧
    Gs s' r ⟨S.version + 1, S.last, S.tabs.take k⟩ tc' pc ∧ Fw.Mod [] s1 s' ∧ ∀ g ∈ Lof tc' pc, s1 g = none, fun z _ => tn - z.2.2.2.2.2.1.1.toNat, ⟨0, noTri, [], rfl, Nat.zero_le _, ⟨k5, Has.nil _, by simp [Lof, Fw.blk], rfl⟩, m5, by simp [Lof, Fw.blk]⟩, ?_⟩
  rintro _ s6 ⟨k, tc', pc, rfl, hk, hG, m6, hf⟩
  simp only [W.br_iff, decide_eq_true_eq, decide_eq_false_iff_not]
  refine ⟨fun hlt => ?_, fun hge => ?_⟩
  · have hlt : k < tn := by omega
    obtain ⟨p, hp⟩ : ∃ p, ps[k]? = some p := ⟨_, List.getElem?_eq_getElem (by omega)⟩
    have hT : S.tabs[k]? = some p.T := by rw [h.eq, List.getElem?_map, hp]; (first | done | rfl)
    have hS6 := h.mono m6.le
    obtain ⟨ad, had, hh⟩ := hS6.el.el.at_enc hp
    dsimp only at had
    subst had
    refine ⟨by omega, ?_⟩
    simp only [W.unSome_some, Int.toNat_natCast]
    refine ld_has_z hh (y := (p.T.id, p.T.name, p.c, p.x, p.k, ())) rfl ?_
    refine b_tabs2 hG.cell ?_
    refine W.call_of (c_copied (hS6.all p (get_mem hp))) ?_
    rintro _ s7 ⟨q, rfl, hqT, hqo, m7, hqf, hqn⟩
    refine ⟨((q.T.id, q.T.name, q.c, q.x, q.k, ()), ()), rfl, ?_⟩
    have hG7 := hG.mod m7 (by simp) (by simp)
    simp only [add_mk, Nat.zero_add]
    rw [W.still_at hG7.cell]
    refine ⟨by simp, ?_⟩
    have hpcl : pc.length = k := by
      have := congrArg List.length hG.eq
      simp only [List.length_map, List.length_take] at this
      omega
    have hq7 : ∀ g ∈ q.L, g ∉ Lof tc' pc := fun g hg hg2 => hG.has.known g hg2 (hqf g hg)
    have m67 : Fw.Mod [] s1 s7 := m6.trans m7
    have hpush := Gs.push (s := s6) (s1 := s7) (p := q) (l := S.last) (K := fun s' => (∃ (k' : Nat) (tc'' : Tri) (pc' : List TabP), (((D.kind, D.table, D.name, D.column, D.parent, D.unique, D.type, D.dflt.kind, D.dflt.n, D.dflt.s, (ua, un, uc), ()), (0, 0, (none, 0, 0), ()), (Addr.mk r 0 none, ()), ((some ad, tn, tc), ()), ((tn : Int), ()), (IntKind.i64.wrap ((k : Int) + 1), ()), ()) :
        MDen [(true, [.int .i64, .str, .str, .str, .str, .bool, .int .i64, .int .i64, .int .i64, .str, .slice]), (true, [.int .i64, .int .i64, .slice]), (false, [.addr]), (false, [.slice]), (false, [.int .i64]), (false, [.int .i64])]) =
        ((D.kind, D.table, D.name, D.column, D.parent, D.unique, D.type, D.dflt.kind, D.dflt.n, D.dflt.s, (ua, un, uc), ()), (0, 0, (none, 0, 0), ()), (Addr.mk r 0 none, ()), ((some ad, tn, tc), ()), ((tn : Int), ()), ((k' : Int), ()), ()) ∧ k' ≤ tn ∧
      Gs s' r ⟨S.version + 1, S.last, S.tabs.take k'⟩ tc'' pc' ∧ Fw.Mod [] s1 s' ∧ ∀ g ∈ Lof tc'' pc', s1 g = none) ∧ tn - (IntKind.i64.wrap ((k : Int) + 1)).toNat < tn - ((k : Int)).toNat) hG (by omega) (m7.mono (by simp)) hG7.cell hqo hqn hqf (by
        intro s' t' ps' hG' hS'
        rw [wrap_succ (k := k) (by omega)]
        refine ⟨⟨k + 1, t', ps', rfl, hlt, ?_, ?_, ?_⟩, by simp only [Int.toNat_natCast]; omega⟩
        · have e : S.tabs.take (k + 1) = S.tabs.take k ++ [q.T] := by rw [List.take_add_one, hT, hqT]; (first | done | rfl)
          rw [e]; exact hG'
        · refine m6.fresh hS'.mod fun x hx => ?_
          rcases List.mem_cons.1 hx with rfl | hx
          · exact .inr hr0
          · exact .inr (hf x hx)
        · intro g hg
          rcases hS'.new g (List.mem_cons_of_mem _ hg) with e | e
          · rcases List.mem_cons.1 e with rfl | e
            · exact hr0
            · exact hf g e
          · exact m6.none e (by simp)) (fun a' n' c' s' hst => hst)
    exact hpush
  · have hall : S.tabs.take k = S.tabs := List.take_of_length_le (by omega)
    rw [hall] at hG
    have hbd1 : Sch.Bd ⟨S.version + 1, S.last, S.tabs⟩ := ⟨hbd.tabs, hbd.each, hbd.last⟩
    have hmod : ∀ {s'}, Fw.Mod (r :: Lof tc' pc) s6 s' → Fw.Mod [] s1 s' := fun m => m6.fresh m fun x hx => by
      rcases List.mem_cons.1 hx with rfl | hx
      · exact .inr hr0
      · exact .inr (hf x hx)
    have herr := turn1_err ⟨S.version + 1, S.last, S.tabs⟩ D st
    refine W.call_of (c_turn hG hbd1 D hu m6 hr0 hul st) ?_
    intro y s7 ho
    generalize turn1 ⟨S.version + 1, S.last, S.tabs⟩ D st = res at ho hturn0 herr
    cases res with
    | error e =>
      obtain ⟨rfl, m7⟩ := ho
      refine ⟨((e, ()), ()), rfl, ?_⟩
      have he := herr e rfl
      simp only [W.br_iff]
      refine ⟨fun _ => ?_, fun hz => absurd (by simpa using hz) he⟩
      rw [← hR, hturn0]
      exact gives_no (hmod m7)
    | ok S' =>
      obtain ⟨rfl, t', ps', hG', hS'⟩ := ho
      refine ⟨((0, ()), ()), rfl, ?_⟩
      refine (W.br_iff _ _ _ _).2 ⟨fun hz => by simp at hz, fun _ => ?_⟩
      rw [W.ld_at hG'.cell]
      refine ⟨(S'.version, S'.last, (t'.1, t'.2.1, t'.2.2), ()), by simp, ?_⟩
      rw [← hR, hturn0]
      refine ⟨t', ps', rfl, hG'.has, hG'.eq, hmod hS'.mod, fun g hg => ?_⟩
      rcases hS'.new g (List.mem_cons_of_mem _ hg) with e | e
      · rcases List.mem_cons.1 e with rfl | e
        · exact hr0
        · exact hf g e
      · exact m6.none e (by simp)
end Go.Proofs.Ythepfbcgpbkbdaa
end
section
set_option linter.unusedVariables false
set_option linter.unusedSimpArgs false
set_option maxHeartbeats 1000000
set_option maxRecDepth 100000
namespace Go.Proofs.Ythepfbcgpbkbdaa
open Fw Go
attribute [-simp] Fw.W.ld_iff Fw.W.st_iff
end Go.Proofs.Ythepfbcgpbkbdaa
end
section
set_option linter.unusedVariables false
set_option linter.unusedSimpArgs false
set_option maxHeartbeats 2000000
set_option maxRecDepth 100000
namespace Go.Proofs.Ythepfbcgpbkbdaa
open Fw Go
attribute [-simp] Fw.W.ld_iff Fw.W.st_iff
/-- no state is nothing -/
structure Sch.Sn (S : Sch) : Prop where
  c : ∀ T ∈ S.tabs, ∀ x ∈ T.cols, x.state ≠ 0
  x : ∀ T ∈ S.tabs, ∀ x ∈ T.idxs, x.state ≠ 0
  k : ∀ T ∈ S.tabs, ∀ x ∈ T.keys, x.state ≠ 0
def pos (k : Nat) (st : Int) (j : Nat) : Nat := if st = 0 ∧ k < j then j - 1 else j
theorem placed_len {α : Type} {l : List α} {k : Nat} {st : Int} {x' : α} : (placed l k st x').length ≤ l.length := by
  unfold placed; split
  · rw [List.length_eraseIdx]; split <;> omega
  · rw [List.length_set]; exact Nat.le_refl _
section
variable {s : PH} {S : Sch} {t : Tri} {ps : List TabP} {i : Nat} {p : TabP}
end
end Go.Proofs.Ythepfbcgpbkbdaa
end
section
set_option linter.unusedVariables false
set_option linter.unusedSimpArgs false
set_option maxHeartbeats 1000000
set_option maxRecDepth 100000
namespace Go.Proofs.Ythepfbcgpbkbdaa
open Fw Go
attribute [-simp] Fw.W.ld_iff Fw.W.st_iff
end Go.Proofs.Ythepfbcgpbkbdaa
end
section
set_option linter.unusedVariables false
set_option linter.unusedSimpArgs false
set_option maxHeartbeats 1000000
set_option maxRecDepth 100000
namespace Go.Proofs.Ythepfbcgpbkbdaa
open Fw Go
theorem named_sm {t : ByteArray} (h : named t = true) : t.size ≤ 281474976710656 := by
  unfold named at h
  simp only [Bool.and_eq_true, decide_eq_true_eq] at h
  omega
theorem valOk_sm {v : Val} (h : valOk v = true) : v.s.size ≤ 281474976710656 := by
  unfold valOk at h
  split at h
  · simp only [Bool.and_eq_true, decide_eq_true_eq] at h
    rw [h.2]; exact Nat.zero_le _
  · split at h
    · simp only [decide_eq_true_eq] at h
      rw [h]; exact Nat.zero_le _
    · split at h
      · simp only [Bool.and_eq_true, decide_eq_true_eq] at h
        omega
      · cases h
theorem fits_sm {v : Val} {k : Int} (h : fits v k = true) : v.s.size ≤ 281474976710656 := by
  unfold fits at h
  simp only [Bool.and_eq_true] at h
  exact valOk_sm h.1
theorem fresh_sm {t : ByteArray} {n : Int} (h : ¬ (freshE t n ≠ 0)) : t.size ≤ 281474976710656 := by
  refine named_sm ?_
  cases hn : named t
  · exact absurd (by unfold freshE; rw [if_pos hn]; decide) h
  · rfl
theorem placed_mem {α : Type} {l : List α} {k : Nat} {st : Int} {x' y : α} (h : y ∈ placed l k st x') : y ∈ l ∨ y = x' := by
  unfold placed at h
  split at h
  · exact .inl (List.mem_of_mem_eraseIdx h)
  · exact List.mem_or_eq_of_mem_set h
theorem placed_le {α : Type} {l : List α} {k : Nat} {st : Int} {x' : α} : (placed l k st x').length ≤ l.length := placed_len
theorem sum_le {α : Type} {f : α → Nat} {b : Nat} : ∀ (l : List α), (∀ x ∈ l, f x ≤ b) → (l.map f).sum ≤ l.length * b
  | [], _ => by simp
  | x :: l, h => by
    have h1 := h x (by simp)
    have h2 := sum_le l fun y hy => h y (by simp [hy])
    simp only [List.map_cons, List.sum_cons, List.length_cons, Nat.succ_mul]
    omega
theorem sm_of {S : Sch} (h : ∀ T ∈ S.tabs, T.Sm ∧ T.cost ≤ 28) (hl : S.tabs.length ≤ 10) : S.Sm := by
  refine ⟨fun T hT => (h T hT).1, ?_⟩
  have := sum_le (f := Tab.cost) (b := 28) S.tabs fun T hT => (h T hT).2
  unfold Sch.cost
  omega
theorem right_sm {S : Sch} (h : right S = true) : ∀ T ∈ S.tabs, T.Sm ∧ T.cost ≤ 25 ∧ T.cols.length ≤ 8 ∧ T.idxs.length ≤ 8 ∧ T.keys.length ≤ 8 := by
  obtain ⟨a, b, c, d, e⟩ := right_iff.1 h
  intro T hT
  obtain ⟨i, hi⟩ := List.mem_iff_getElem?.1 hT
  obtain ⟨l1, l2, l3, l4, n1, n2, n3, _, c1, _, _⟩ := tabB_iff.1 (allI_iff.1 d i T hi)
  have hn := allI_iff.1 c i T hi
  unfold nameT at hn
  simp only [Bool.and_eq_true] at hn
  refine ⟨⟨named_sm hn.1, fun x hx => ?_, fun x hx => ?_, fun x hx => ?_⟩, by unfold Tab.cost; omega, l2, l3, l4⟩
  · obtain ⟨j, hj⟩ := List.mem_iff_getElem?.1 hx
    have g1 := allI_iff.1 n1 j x hj
    have g2 := allI_iff.1 c1 j x hj
    unfold nameC at g1
    unfold colB at g2
    simp only [Bool.and_eq_true] at g1 g2
    exact ⟨named_sm g1.1, fits_sm g2.2.2⟩
  · obtain ⟨j, hj⟩ := List.mem_iff_getElem?.1 hx
    have g1 := allI_iff.1 n2 j x hj
    unfold nameX at g1
    simp only [Bool.and_eq_true] at g1
    exact named_sm g1.1
  · obtain ⟨j, hj⟩ := List.mem_iff_getElem?.1 hx
    have g1 := allI_iff.1 n3 j x hj
    unfold nameF at g1
    simp only [Bool.and_eq_true] at g1
    exact named_sm g1.1
theorem mkCols_sm : ∀ (l : List Col) (n : Int), (∀ c ∈ l, c.name.size ≤ 281474976710656) → ∀ c ∈ mkCols n l, c.Sm
  | [], n, _ => by simp [mkCols]
  | d :: l, n, h => by
    intro c hc
    simp only [mkCols, List.mem_cons] at hc
    rcases hc with rfl | hc
    · exact ⟨h d (by simp), Nat.zero_le _⟩
    · exact mkCols_sm l _ (fun x hx => h x (by simp [hx])) c hc
def Res.SmOk (r : Res) : Prop := ∀ S', r = .ok S' → S'.Sm
theorem smo_ite {c : Prop} [Decidable c] {a b : Res} (ha : c → a.SmOk) (hb : ¬ c → b.SmOk) : Res.SmOk (if c then a else b) := by
  by_cases h : c
  · rw [if_pos h]; exact ha h
  · rw [if_neg h]; exact hb h
theorem smo_e {e : Int} : Res.SmOk (.error e) := fun S' h' => by cases h'
theorem smo_o {S : Sch} (h : S.Sm) : Res.SmOk (.ok S) := fun e' h' => by cases h'; exact h
theorem set_sm {S : Sch} {v l : Int} {i : Nat} {T T' : Tab} (h : ∀ T ∈ S.tabs, T.Sm ∧ T.cost ≤ 25 ∧ T.cols.length ≤ 8 ∧ T.idxs.length ≤ 8 ∧ T.keys.length ≤ 8) (hl : S.tabs.length ≤ 6) (h1 : T'.Sm) (h2 : T'.cost ≤ 28) : Sch.Sm ⟨v, l, S.tabs.set i T'⟩ := by
  refine sm_of (fun U hU => ?_) (by simp; omega)
  rcases List.mem_or_eq_of_mem_set hU with hU | rfl
  · obtain ⟨a, b, _⟩ := h U hU; exact ⟨a, by omega⟩
  · exact ⟨h1, h2⟩
theorem turn1_sm {S : Sch} {D : Ddl} {st : Int} (h : ∀ T ∈ S.tabs, T.Sm ∧ T.cost ≤ 25 ∧ T.cols.length ≤ 8 ∧ T.idxs.length ≤ 8 ∧ T.keys.length ≤ 8) (hl : S.tabs.length ≤ 6) : (turn1 S D st).SmOk := by
  unfold turn1
  refine smo_ite (fun _ => ?_) fun _ => smo_ite (fun _ => smo_e) fun _ => ?_
  · unfold createTurn
    refine smo_ite (fun _ => smo_e) fun hn => smo_ite (fun _ => smo_e) fun _ => smo_ite (fun _ => smo_e) fun h8 => smo_ite (fun _ => smo_e) fun _ => smo_ite (fun _ => smo_e) fun _ => smo_o ?_
    have hn : (named D.table && D.cols.all fun c => named c.name) = true := by
      cases e : (named D.table && D.cols.all fun c => named c.name)
      · exact absurd e hn
      · rfl
    simp only [Bool.and_eq_true, List.all_eq_true] at hn
    simp only [Bool.or_eq_true, decide_eq_true_eq] at h8
    refine sm_of (fun U hU => ?_) (by simp; omega)
    rcases List.mem_append.1 hU with hU | hU
    · obtain ⟨a, b, _⟩ := h U hU; exact ⟨a, by omega⟩
    · have : U = ⟨S.last + 1, D.table, mkCols (S.last + 2) D.cols, [], []⟩ := by simpa using hU
      subst this
      refine ⟨⟨named_sm hn.1, mkCols_sm _ _ fun c hc => named_sm (hn.2 c hc), by simp, by simp⟩, ?_⟩
      unfold Tab.cost
      simp only [mkCols_len, List.length_nil]
      omega
  split
  · exact smo_e
  rename_i T hT
  obtain ⟨hTs, hTc, c8, x8, k8⟩ := h T (List.mem_of_getElem? hT)
  refine smo_ite (fun _ => ?_) fun _ => smo_ite (fun _ => ?_) fun _ => ?_
  · unfold colTurn
    refine smo_ite (fun _ => smo_ite (fun _ => smo_e) fun hf => smo_ite (fun _ => smo_e) fun hk => smo_ite (fun _ => smo_e) fun _ => smo_o ?_) fun _ => smo_ite (fun _ => smo_e) fun _ => ?_
    · have hk : (typed D.type && fits D.dflt D.type) = true := by
        cases e : (typed D.type && fits D.dflt D.type)
        · exact absurd e hk
        · rfl
      simp only [Bool.and_eq_true] at hk
      refine set_sm (T := T) h hl ⟨hTs.name, fun x hx => ?_, hTs.idxs, hTs.keys⟩ (by unfold Tab.cost; simp only [List.length_append, List.length_singleton]; omega)
      rcases List.mem_append.1 hx with hx | hx
      · exact hTs.cols x hx
      · have : x = ⟨S.last + 1, D.column, D.type, st, D.dflt⟩ := by simpa using hx
        subst this
        exact ⟨fresh_sm hf, fits_sm hk.2⟩
    · split
      · exact smo_e
      rename_i x hx
      refine smo_ite (fun _ => smo_e) fun _ => smo_ite (fun _ => smo_e) fun _ => smo_o ?_
      have hp := placed_le (l := T.cols) (k := (colAt T D.column).toNat) (st := st) (x' := x.put st)
      refine set_sm (T := T) h hl ⟨hTs.name, fun y hy => ?_, hTs.idxs, hTs.keys⟩ (by unfold Tab.cost; dsimp only; omega)
      rcases placed_mem hy with hy | rfl
      · exact hTs.cols y hy
      · exact hTs.cols x (List.mem_of_getElem? hx)
  · unfold idxTurn
    refine smo_ite (fun _ => smo_ite (fun _ => smo_e) fun hf => smo_ite (fun _ => smo_e) fun hk => smo_ite (fun _ => smo_e) fun _ => ?_) fun _ => smo_ite (fun _ => smo_e) fun _ => ?_
    · split
      · exact smo_e
      rename_i c hc
      refine smo_o (set_sm (T := T) h hl ⟨hTs.name, hTs.cols, fun x hx => ?_, hTs.keys⟩ (by unfold Tab.cost; simp only [List.length_append, List.length_singleton]; omega))
      rcases List.mem_append.1 hx with hx | hx
      · exact hTs.idxs x hx
      · have : x = ⟨S.last + 1, D.name, c.id, D.unique, st⟩ := by simpa using hx
        subst this
        exact fresh_sm hf
    · split
      · exact smo_e
      rename_i x hx
      refine smo_ite (fun _ => smo_e) fun _ => smo_o ?_
      have hp := placed_le (l := T.idxs) (k := (idxAt T D.name).toNat) (st := st) (x' := x.put st)
      refine set_sm (T := T) h hl ⟨hTs.name, hTs.cols, fun y hy => ?_, hTs.keys⟩ (by unfold Tab.cost; dsimp only; omega)
      rcases placed_mem hy with hy | rfl
      · exact hTs.idxs y hy
      · exact hTs.idxs x (List.mem_of_getElem? hx)
  · unfold keyTurn
    refine smo_ite (fun _ => smo_ite (fun _ => smo_e) fun hf => smo_ite (fun _ => smo_e) fun hk => smo_ite (fun _ => smo_e) fun _ => ?_) fun _ => smo_ite (fun _ => smo_e) fun _ => ?_
    · split
      · rename_i c P hc hP
        split
        · exact smo_e
        · refine smo_ite (fun _ => smo_e) fun _ => smo_ite (fun _ => smo_e) fun _ => smo_o (set_sm (T := T) h hl ⟨hTs.name, hTs.cols, hTs.idxs, fun x hx => ?_⟩ (by unfold Tab.cost; simp only [List.length_append, List.length_singleton]; omega))
          rcases List.mem_append.1 hx with hx | hx
          · exact hTs.keys x hx
          · have : x = ⟨S.last + 1, D.name, c.id, P.id, st⟩ := by simpa using hx
            subst this
            exact fresh_sm hf
      · exact smo_e
    · split
      · exact smo_e
      rename_i x hx
      refine smo_ite (fun _ => smo_e) fun _ => smo_o ?_
      have hp := placed_le (l := T.keys) (k := (keyAt T D.name).toNat) (st := st) (x' := x.put st)
      refine set_sm (T := T) h hl ⟨hTs.name, hTs.cols, hTs.idxs, fun y hy => ?_⟩ (by unfold Tab.cost; dsimp only; omega)
      rcases placed_mem hy with hy | rfl
      · exact hTs.keys y hy
      · exact hTs.keys x (List.mem_of_getElem? hx)
theorem no_sm : noSch.Sm := ⟨by simp, by simp [Sch.cost]⟩
theorem turn_sm (S : Sch) (D : Ddl) (st : Int) : (S.turn D st).1.Sm := by
  unfold Sch.turn
  by_cases hr : (right S && (decide (0 ≤ st) && decide (st ≤ 3))) = false
  · rw [if_pos hr]; exact no_sm
  rw [if_neg hr]
  have hr : right S = true := by
    cases e : right S
    · rw [e] at hr; exact absurd rfl hr
    · rfl
  split
  · exact no_sm
  · have := turn1_sm (S := { S with version := S.version + 1 }) (D := D) (st := st) (fun T hT => right_sm hr T hT) (right_iff.1 hr).2.1
    cases e : turn1 { S with version := S.version + 1 } D st with
    | error e => exact no_sm
    | ok S' => exact this S' e
theorem Sch.Sm.few {S : Sch} (h : S.Sm) : S.tabs.length ≤ 4294967296 ∧ ∀ T ∈ S.tabs, T.Few := by
  have hc := h.cost
  unfold Sch.cost at hc
  have key : ∀ l : List Tab, l.length ≤ (l.map Tab.cost).sum ∧ ∀ T ∈ l, T.cost ≤ (l.map Tab.cost).sum := by
    intro l
    induction l with
    | nil => simp
    | cons a l ih =>
      simp only [List.map_cons, List.sum_cons, List.length_cons]
      have ha : 1 ≤ a.cost := by unfold Tab.cost; omega
      refine ⟨by have := ih.1; omega, fun T hT => ?_⟩
      rcases List.mem_cons.1 hT with rfl | hT
      · omega
      · have := ih.2 T hT; omega
  obtain ⟨k1, k2⟩ := key S.tabs
  refine ⟨by omega, fun T hT => ?_⟩
  have := k2 T hT
  have hT2 : T.cost = 1 + T.cols.length + T.idxs.length + T.keys.length := rfl
  exact ⟨by omega, by omega, by omega⟩
theorem Has.sm {s : PH} {t : Tri} {ps : List TabP} {S : Sch} (h : Has s t ps) (he : S.tabs = ps.map (·.T)) (hs : S.Sm) : SchIs s t S ps := h.is he hs.few.1 hs.few.2
end Go.Proofs.Ythepfbcgpbkbdaa
end
section
set_option linter.unusedVariables false
set_option linter.unusedSimpArgs false
set_option maxHeartbeats 1000000
set_option maxRecDepth 100000
namespace Go.Proofs.Ythepfbcgpbkbdaa
open Fw Go
attribute [-simp] Fw.W.ld_iff Fw.W.st_iff
def rdVal : Rd Val := (Rd.pair (Rd.int .i64) (Rd.pair (Rd.int .i64) (Rd.pair Rd.str Rd.unit))).map fun x => ⟨x.1, x.2.1, x.2.2.1⟩
def rdCol : Rd Col := (Rd.pair (Rd.int .i64) (Rd.pair Rd.str (Rd.pair (Rd.int .i64) (Rd.pair (Rd.int .i64) (Rd.pair rdVal Rd.unit))))).map fun x => ⟨x.1, x.2.1, x.2.2.1, x.2.2.2.1, x.2.2.2.2.1⟩
def rdDdlF : Rd (Int × ByteArray × ByteArray × ByteArray × ByteArray × Bool × Int × Val × List Col × Unit) :=
  Rd.pair (Rd.int .i64) (Rd.pair Rd.str (Rd.pair Rd.str (Rd.pair Rd.str (Rd.pair Rd.str (Rd.pair Rd.bool (Rd.pair (Rd.int .i64) (Rd.pair rdVal (Rd.pair (Rd.sl rdCol 72) Rd.unit))))))))
def rdDdl : Rd Ddl := rdDdlF.map fun x => ⟨x.1, x.2.1, x.2.2.1, x.2.2.2.1, x.2.2.2.2.1, x.2.2.2.2.2.1, x.2.2.2.2.2.2.1, x.2.2.2.2.2.2.2.1, x.2.2.2.2.2.2.2.2.1⟩
theorem op3 : Opens Try.prog 3 (Rd.int .i64) := opens_int Try.underlying3 (by kernel_rfl)
theorem op9 : Opens Try.prog 9 Rd.str := opens_str Try.underlying9 (by kernel_rfl)
theorem op4 : Opens Try.prog 4 Rd.bool := opens_bool Try.underlying4 (by kernel_rfl)
theorem op26 : Opens Try.prog 26 rdVal := opens_map _ (opens_struct (.cons rfl op3 (.cons rfl (opens_int Try.underlying2 (by kernel_rfl)) (.cons rfl op9 (.nil _)))) Try.underlying26 (by kernel_rfl))
theorem op44 : Opens Try.prog 44 rdCol := opens_map _ (opens_struct (.cons rfl op3 (.cons rfl op9 (.cons rfl op3 (.cons rfl op3 (.cons rfl op26 (.nil _)))))) Try.underlying44 (by kernel_rfl))
theorem op27 : Opens Try.prog 27 (Rd.sl rdCol 72) := opens_sl op44 Try.underlying27 (by kernel_rfl) (by kernel_rfl)
theorem op29 : Opens Try.prog 29 rdDdl := opens_map _ (opens_struct (.cons rfl op3 (.cons rfl op9 (.cons rfl op9 (.cons rfl op9 (.cons rfl op9 (.cons rfl op4 (.cons rfl op3 (.cons rfl op26 (.cons rfl op27 (.nil _)))))))))) Try.underlying29 (by kernel_rfl))
theorem rsz : reachBytes ≤ 281474976710656 := by decide
theorem rdVal_is {s : PH} {cs : List Value} {v : Val} (h : rdVal.is s cs v) : cs = [.int .i64 v.kind, .int .i64 v.n, .string v.s] ∧ v.s.size ≤ 281474976710656 := by
  obtain ⟨x, rfl, c1, c2, rfl, ⟨rfl, _⟩, d1, d2, rfl, ⟨rfl, _⟩, e1, e2, rfl, ⟨rfl, h3⟩, rfl⟩ := h
  exact ⟨rfl, Nat.le_trans h3 rsz⟩
theorem rdCol_is {s : PH} {cs : List Value} {c : Col} (h : rdCol.is s cs c) : cs = colE.f c ∧ c.Sm := by
  obtain ⟨x, rfl, c1, c2, rfl, ⟨rfl, _⟩, d1, d2, rfl, ⟨rfl, h2⟩, e1, e2, rfl, ⟨rfl, _⟩, f1, f2, rfl, ⟨rfl, _⟩, g1, g2, rfl, h5, rfl⟩ := h
  obtain ⟨rfl, h6⟩ := rdVal_is h5
  exact ⟨rfl, Nat.le_trans h2 rsz, h6⟩
/-- elements that can be read; they may be many -/
structure SlB {α : Type} (E : Enc α) (s : PH) (t : Tri) (xs : List α) : Prop where
  el : elems (Rd.enc E) s t.1 t.2.1 xs
  le : t.2.1 ≤ t.2.2
  big : xs.length ≤ 4398046511104
theorem SlB.few {α : Type} {E : Enc α} {s : PH} {t : Tri} {xs : List α} (h : SlB E s t xs) (hl : xs.length ≤ 4294967296) : Sl E s t xs := ⟨h.el, h.le, hl⟩
theorem sl_open {α : Type} {R : Rd α} {E : Enc α} {P : α → Prop} {bytes : Nat} {s : PH} {cs : List Value} {xs : List α} (hb : 48 ≤ bytes) (hz : R.sz = E.sz) (hi : ∀ cs x, R.is s cs x → cs = E.f x ∧ P x) (h : (Rd.sl R bytes).is s cs xs) :
    ∃ t : Tri, cs = [t.v] ∧ SlB E s t xs ∧ ∀ x ∈ xs, P x := by
  obtain ⟨a, n, c, rfl, h1, h2, h3, h4⟩ := h
  refine ⟨(a, n, c), rfl, ⟨h4.imp hz fun cs x hx => (hi cs x hx).1, h1, ?_⟩, fun x hx => ?_⟩
  · have hr : reachBytes = 140737488351232 := rfl
    have : c * 48 ≤ c * bytes := Nat.mul_le_mul_left _ hb
    have := h4.1
    omega
  · obtain ⟨i, hi2⟩ := List.mem_iff_getElem?.1 hx
    obtain ⟨ad, cs', _, h6, _⟩ := h4.2 i x hi2
    exact (hi cs' x h6).2
structure TabB (s : PH) (p : TabP) : Prop where
  c : SlB colE s p.c p.T.cols
  x : SlB idxE s p.x p.T.idxs
  k : SlB forE s p.k p.T.keys
structure SchB (s : PH) (t : Tri) (S : Sch) (ps : List TabP) : Prop where
  el : SlB tabE s t ps
  eq : S.tabs = ps.map (·.T)
  all : ∀ p ∈ ps, TabB s p
theorem rdDdl_is {s : PH} {cs : List Value} {D : Ddl} (h : rdDdl.is s cs D) : ∃ t : Tri, cs = [.int .i64 D.kind, .string D.table, .string D.name, .string D.column, .string D.parent, .bool D.unique, .int .i64 D.type, .int .i64 D.dflt.kind, .int .i64 D.dflt.n, .string D.dflt.s, .slice t.1 t.2.1 t.2.2] ∧ SlB colE s t D.cols := by
  obtain ⟨x, rfl, c1, c2, rfl, ⟨rfl, _⟩, d1, d2, rfl, ⟨rfl, _⟩, e1, e2, rfl, ⟨rfl, _⟩, f1, f2, rfl, ⟨rfl, _⟩, g1, g2, rfl, ⟨rfl, _⟩, i1, i2, rfl, rfl, j1, j2, rfl, ⟨rfl, _⟩, k1, k2, rfl, hv, l1, l2, rfl, hc, rfl⟩ := h
  obtain ⟨rfl, _⟩ := rdVal_is hv
  obtain ⟨t, rfl, k, _⟩ := sl_open (by omega) rfl (fun cs x hx => rdCol_is hx) hc
  exact ⟨t, rfl, k⟩
def wsum (l : List Tab) : Nat := (l.map fun T => T.cols.length + T.idxs.length + T.keys.length).sum
theorem SchB.is {s : PH} {t : Tri} {S : Sch} {ps : List TabP} (h : SchB s t S ps) (hl : S.tabs.length + wsum S.tabs ≤ 300) : SchIs s t S ps := by
  have key : ∀ (l : List Tab), ∀ T ∈ l, T.cols.length + T.idxs.length + T.keys.length ≤ wsum l := by
    intro l
    induction l with
    | nil => simp
    | cons a l ih =>
      intro T hT
      have e : wsum (a :: l) = (a.cols.length + a.idxs.length + a.keys.length) + wsum l := by simp [wsum]
      rcases List.mem_cons.1 hT with rfl | hT
      · omega
      · have := ih T hT; omega
  have hpl : S.tabs.length = ps.length := by rw [h.eq]; simp
  refine ⟨h.el.few (by omega), h.eq, fun p hp => ?_⟩
  have hT : p.T ∈ S.tabs := by rw [h.eq]; exact List.mem_map_of_mem hp
  have := key S.tabs p.T hT
  obtain ⟨a, b, c⟩ := h.all p hp
  exact ⟨a.few (by omega), b.few (by omega), c.few (by omega)⟩
abbrev bs (l : List UInt8) : ByteArray := ⟨l.toArray⟩
abbrev emp : ByteArray := ⟨#[]⟩
def exD : Ddl := ⟨1, bs [116], emp, emp, emp, false, 0, ⟨0, 0, emp⟩, [⟨0, bs [97], 1, 0, ⟨0, 0, emp⟩⟩, ⟨0, bs [98], 2, 0, ⟨0, 0, emp⟩⟩]⟩
def exD2 : Ddl := ⟨2, bs [116], bs [105], bs [98], emp, false, 0, ⟨0, 0, emp⟩, []⟩
theorem c_Example (s : PH) : DCalls Try.prog 37 #[] s fun y s' => ∃ u : Tri, y = ddlV exD u ∧ Sl colE s' u exD.cols ∧ Fw.Mod [] s s' := by
  refine ok_Example _ s ?_
  unfold vc_Example
  simp only [RP_join, RP_ite, RP_call, RP_callQ, RP_ret, RP_nw, RP_app, RP_st, RP_ld, RP_unSome, RP_guard, RP_loop, RP_still, RP_clr, RP_look, RP_mset, W.unSome_some]
  refine W.nw_of fun r s1 hr m1 k1 => ?_
  refine ⟨(some ⟨r, 0, none⟩, 2, 2), rfl, ⟨⟨rfl, fun i x hx => ?_⟩, Nat.le_refl _, by decide⟩, m1⟩
  refine ⟨⟨r, 0, none⟩, _, rfl, rfl, ?_⟩
  have hb := has_block k1
  have hz : (Rd.enc colE).sz = 7 := rfl
  rw [hz]
  match i with
  | 0 =>
    simp [exD] at hx; subst hx
    have := PH.has.sub (l1 := []) (l2 := colE.f ⟨0, bs [97], 1, 0, ⟨0, 0, emp⟩⟩) (l3 := colE.f ⟨0, bs [98], 2, 0, ⟨0, 0, emp⟩⟩) hb
    exact this
  | 1 =>
    simp [exD] at hx; subst hx
    have := PH.has.sub (l1 := colE.f ⟨0, bs [97], 1, 0, ⟨0, 0, emp⟩⟩) (l2 := colE.f ⟨0, bs [98], 2, 0, ⟨0, 0, emp⟩⟩) (l3 := []) hb
    exact this
  | i + 2 => simp [exD] at hx
end Go.Proofs.Ythepfbcgpbkbdaa
end
section
set_option linter.unusedVariables false
set_option linter.unusedSimpArgs false
set_option maxHeartbeats 1000000
set_option maxRecDepth 100000
namespace Go.Proofs.Ythepfbcgpbkbdaa
open Fw Go
attribute [-simp] Fw.W.ld_iff Fw.W.st_iff
abbrev noDdl : Ddl := ⟨0, emp, emp, emp, emp, false, 0, ⟨0, 0, emp⟩, []⟩
end Go.Proofs.Ythepfbcgpbkbdaa
end
section
set_option linter.unusedVariables false
set_option linter.unusedSimpArgs false
set_option maxHeartbeats 1000000
set_option maxRecDepth 100000
namespace Go.Proofs.Ythepfbcgpbkbdaa
open Fw Go
attribute [-simp] Fw.W.ld_iff Fw.W.st_iff
def movE : Enc (Int × Int) where
  sz := 2
  f m := [.int .i64 m.1, .int .i64 m.2]
  len _ := rfl
  one p v hv := by simp at hv; rcases hv with rfl | rfl <;> rfl
  pos := by omega
def pairs : List Int → List (Int × Int)
  | x :: y :: l => (x, y) :: pairs l
  | _ => []
theorem row_lit {α : Type} {E : Enc α} {s : PH} {r n : Nat} {cur : Array Value} {e : TypeId} {xs : List α} (h : s r = some (.cells cur e (0, 0))) (hc : cur.toList = xs.flatMap E.f) (hn : xs.length = n) (hl : n ≤ 1000) : rowE E s e (some ⟨r, 0, none⟩) n n xs := by
  have hmax : maxLen = 9223372036854775807 := rfl
  have hlen := flat_len (E := E) xs
  rw [hn] at hlen
  have hsz : cur.size = n * E.sz := by rw [← Array.length_toList, hc, hlen]
  exact ⟨hlen, Nat.le_refl _, by omega, .inr ⟨r, cur, rfl, h, by omega, by rw [hc, ← hlen, List.take_length]⟩⟩
theorem pairs_len : ∀ (l : List Int), (pairs l).length ≤ l.length
  | [] => by simp [pairs]
  | [a] => by simp [pairs]
  | a :: b :: l => by have := pairs_len l; simp only [pairs, List.length_cons]; omega
def pathL (kind : Int) (back : Bool) : List Int :=
  if back = true then (if kind = 2 then [1, 1, 3, 0, 5, 0, 1, 0] else if kind = 4 then [1, 1, 1, 0] else if kind = 6 then [1, 0] else [])
  else if kind = 1 then [1, 3] else if kind = 2 then [1, 1, 1, 2, 3, 0, 4, 0, 1, 3] else if kind = 3 then [1, 2, 1, 1, 3, 0, 5, 0, 1, 0] else if kind = 4 then [1, 1, 1, 2, 3, 0, 4, 0, 2, 3]
  else if kind = 5 then [2, 2, 1, 1, 1, 0] else if kind = 6 then [1, 2, 3, 0, 4, 0, 1, 3] else if kind = 7 then [1, 0] else []
def PathIs (s : PH) (kind : Int) (back : Bool) (y : Value) (s' : PH) : Prop := ∃ u : Tri, y = u.v ∧ rowE movE s' 56 u.1 u.2.1 u.2.2 (pairs (pathL kind back)) ∧ Fw.Mod [] s s'
theorem c_bump (state : Int) (s : PH) : DCalls Try.prog 63 #[.int .i64 state] s fun y s' => y = .agg #[.int .i64 1, .int .i64 state] ∧ s' = s := by
  refine ok_bump state _ s ?_
  unfold vc_bump
  simp
theorem bump_V {s : PH} {n : Int} {k : MDen [(true, [.int .i64, .int .i64])] → W.T} (hk : k ((1, n, ()), ()) s) : W.callV Try.prog (.func (.func 63) #[] #[]) #[.int .i64 n] (false, [(true, [.int .i64, .int .i64])]) k s := by
  refine callV_of' (cap := #[]) Try.func63 rfl (by kernel_rfl) (c_bump n s) ?_
  rintro _ s' ⟨rfl, rfl⟩
  exact ⟨((1, n, ()), ()), rfl, hk⟩
theorem c_Path (D : Ddl) (u : Tri) (back : Bool) (s : PH) : DCalls Try.prog 23 #[ddlV D u, .bool back] s (PathIs s D.kind back) := by
  obtain ⟨ua, un, uc⟩ := u
  refine ok_Path D.kind D.table D.name D.column D.parent D.unique D.type D.dflt.kind D.dflt.n D.dflt.s ua un uc back _ s ?_
  unfold vc_Path
  obtain ⟨kind, hkind⟩ : ∃ k, D.kind = k := ⟨_, rfl⟩
  rw [hkind]
  simp only [RP_join, RP_ite, RP_call, RP_callQ, RP_callV, RP_ret, RP_nw, RP_app, RP_st, RP_ld, RP_unSome, RP_guard, RP_loop, W.unSome_some]
  have go : ∀ (l : List (Int × Int)) (cur : Array Value) (n : Nat), cur.toList = l.flatMap movE.f → l.length = n → n ≤ 1000 → pairs (pathL kind back) = l → W.nw (.cells cur 56 (0, 0)) (fun r => W.ret (PathIs s kind back) (.slice (some ⟨r, 0, none⟩) n n)) s :=
    fun l cur n h1 h2 h3 h4 => W.nw_of fun r s1 hr m1 k1 => ⟨(some ⟨r, 0, none⟩, n, n), rfl, by rw [h4]; exact row_lit k1 h1 h2 h3, m1⟩
  have none_ : pathL kind back = [] → PathIs s kind back (.slice none 0 0) s := fun h => ⟨noTri, rfl, by rw [h]; exact rowE.nil, Mod.refl _ _⟩
  refine W.join_gen (fun z s' => z = ((kind, D.table, D.name, D.column, D.parent, D.unique, D.type, D.dflt.kind, D.dflt.n, D.dflt.s, (ua, un, uc), ()), (.func (.func 63) #[] #[], ()), (3, 0, ()), (4, 0, ()), (5, 0, ()), ()) ∧ s' = s ∧ back = false) ?_ ?_
  rotate_left
  · intro J hJ
    refine W.join_gen (fun z s' => z = ((kind, D.table, D.name, D.column, D.parent, D.unique, D.type, D.dflt.kind, D.dflt.n, D.dflt.s, (ua, un, uc), ()), (.func (.func 63) #[] #[], ()), (3, 0, ()), (4, 0, ()), (5, 0, ()), (back && decide (kind = 2), ()), ()) ∧ s' = s) ?_ ?_
    rotate_left
    · intro J1 hJ1
      refine (W.br_iff _ _ _ _).2 ⟨fun hb => hJ1 _ _ ⟨by rw [hb, beq_dec]; (first | done | rfl), rfl⟩, fun hb => hJ1 _ _ ⟨by rw [hb]; (first | done | rfl), rfl⟩⟩
    rintro _ s0 ⟨rfl, rfl⟩
    refine (W.br_iff _ _ _ _).2 ⟨fun h2 => ?_, fun h2 => ?_⟩
    · have h2 : (back && decide (kind = 2)) = true := h2
      simp only [Bool.and_eq_true, decide_eq_true_eq] at h2
      refine bump_V (bump_V ?_)
      exact go [(1, 1), (3, 0), (5, 0), (1, 0)] _ 4 rfl rfl (by omega) (by rw [h2.1, h2.2]; (first | done | rfl))
    have h2 : ¬ (back = true ∧ kind = 2) := by
      have h2 : (back && decide (kind = 2)) = false := h2
      intro e; rw [e.1, e.2] at h2; cases h2
    refine W.join_gen (fun z s' => z = ((kind, D.table, D.name, D.column, D.parent, D.unique, D.type, D.dflt.kind, D.dflt.n, D.dflt.s, (ua, un, uc), ()), (.func (.func 63) #[] #[], ()), (3, 0, ()), (4, 0, ()), (5, 0, ()), (back && decide (kind = 4), ()), ()) ∧ s' = s0) ?_ ?_
    rotate_left
    · intro J1 hJ1
      refine (W.br_iff _ _ _ _).2 ⟨fun hb => hJ1 _ _ ⟨by rw [hb, beq_dec]; (first | done | rfl), rfl⟩, fun hb => hJ1 _ _ ⟨by rw [hb]; (first | done | rfl), rfl⟩⟩
    rintro _ s1 ⟨rfl, rfl⟩
    refine (W.br_iff _ _ _ _).2 ⟨fun h4 => ?_, fun h4 => ?_⟩
    · have h4 : (back && decide (kind = 4)) = true := h4
      simp only [Bool.and_eq_true, decide_eq_true_eq] at h4
      refine bump_V (bump_V ?_)
      exact go [(1, 1), (1, 0)] _ 2 rfl rfl (by omega) (by rw [h4.1, h4.2]; (first | done | rfl))
    have h4 : ¬ (back = true ∧ kind = 4) := by
      have h4 : (back && decide (kind = 4)) = false := h4
      intro e; rw [e.1, e.2] at h4; cases h4
    refine (W.br_iff _ _ _ _).2 ⟨fun hb => ?_, fun hb => ?_⟩
    · refine (W.br_iff _ _ _ _).2 ⟨fun h6 => ?_, fun h6 => ?_⟩
      · have h6 : kind = 6 := by simpa using h6
        refine bump_V ?_
        exact go [(1, 0)] _ 1 rfl rfl (by omega) (by rw [hb, h6]; (first | done | rfl))
      · have h6 : kind ≠ 6 := by simpa using h6
        refine (W.br_iff _ _ _ _).2 ⟨fun _ => none_ ?_, fun e => by rw [hb] at e; cases e⟩
        unfold pathL
        rw [if_pos hb, if_neg (fun e => h2 ⟨hb, e⟩), if_neg (fun e => h4 ⟨hb, e⟩), if_neg h6]
    · refine (W.br_iff _ _ _ _).2 ⟨fun e => (by rw [hb] at e; cases e), fun _ => hJ _ _ ⟨rfl, rfl, hb⟩⟩
  rintro _ s0 ⟨rfl, rfl, hb⟩
  simp only [W.br_iff]
  refine ⟨fun h1 => ?_, fun h1 => ⟨fun h2 => ?_, fun h2 => ⟨fun h3 => ?_, fun h3 => ⟨fun h4 => ?_, fun h4 => ⟨fun h5 => ?_, fun h5 => ⟨fun h6 => ?_, fun h6 => ⟨fun h7 => ?_, fun h7 => ?_⟩⟩⟩⟩⟩⟩⟩
  · exact bump_V (go [(1, 3)] _ 1 rfl rfl (by omega) (by have h1 : kind = 1 := by simpa using h1
                                                         rw [hb, h1]; (first | done | rfl)))
  · exact bump_V (bump_V (bump_V (go [(1, 1), (1, 2), (3, 0), (4, 0), (1, 3)] _ 5 rfl rfl (by omega) (by have h2 : kind = 2 := by simpa using h2
                                                                                                         rw [hb, h2]; (first | done | rfl)))))
  · exact bump_V (bump_V (bump_V (go [(1, 2), (1, 1), (3, 0), (5, 0), (1, 0)] _ 5 rfl rfl (by omega) (by have h2 : kind = 3 := by simpa using h3
                                                                                                         rw [hb, h2]; (first | done | rfl)))))
  · exact bump_V (bump_V (go [(1, 1), (1, 2), (3, 0), (4, 0), (2, 3)] _ 5 rfl rfl (by omega) (by have h2 : kind = 4 := by simpa using h4
                                                                                                 rw [hb, h2]; (first | done | rfl))))
  · exact bump_V (bump_V (go [(2, 2), (1, 1), (1, 0)] _ 3 rfl rfl (by omega) (by have h2 : kind = 5 := by simpa using h5
                                                                                 rw [hb, h2]; (first | done | rfl))))
  · exact bump_V (bump_V (go [(1, 2), (3, 0), (4, 0), (1, 3)] _ 4 rfl rfl (by omega) (by have h2 : kind = 6 := by simpa using h6
                                                                                         rw [hb, h2]; (first | done | rfl))))
  · exact bump_V (go [(1, 0)] _ 1 rfl rfl (by omega) (by have h2 : kind = 7 := by simpa using h7
                                                         rw [hb, h2]; (first | done | rfl)))
  · refine none_ ?_
    simp at h1 h2 h3 h4 h5 h6 h7
    unfold pathL
    rw [if_neg (by rw [hb]; simp), if_neg h1, if_neg h2, if_neg h3, if_neg h4, if_neg h5, if_neg h6, if_neg h7]
end Go.Proofs.Ythepfbcgpbkbdaa
end
section
set_option linter.unusedVariables false
set_option linter.unusedSimpArgs false
set_option maxHeartbeats 1000000
set_option maxRecDepth 100000
namespace Go.Proofs.Ythepfbcgpbkbdaa
open Fw Go
attribute [-simp] Fw.W.ld_iff Fw.W.st_iff
def stC (T : Tab) (name : ByteArray) : Int := if colAt T name < 0 then 0 else match T.cols[(colAt T name).toNat]? with | some x => x.state | none => 0
def stX (T : Tab) (name : ByteArray) : Int := if idxAt T name < 0 then 0 else match T.idxs[(idxAt T name).toNat]? with | some x => x.state | none => 0
def stF (T : Tab) (name : ByteArray) : Int := if keyAt T name < 0 then 0 else match T.keys[(keyAt T name).toNat]? with | some x => x.state | none => 0
def stateOf (S : Sch) (D : Ddl) : Int :=
  if D.kind = 1 then (if tabAt S D.table < 0 then 0 else 3)
  else if tabAt S D.table < 0 then 0
  else match S.tabs[(tabAt S D.table).toNat]? with
  | none => 0
  | some T => if D.kind = 4 ∨ D.kind = 5 then stC T D.column else if D.kind = 2 ∨ D.kind = 3 then stX T D.name else stF T D.name
end Go.Proofs.Ythepfbcgpbkbdaa
end
section
set_option linter.unusedVariables false
set_option linter.unusedSimpArgs false
set_option maxHeartbeats 1000000
set_option maxRecDepth 100000
namespace Go.Proofs.Ythepfbcgpbkbdaa
open Fw Go
attribute [-simp] Fw.W.ld_iff Fw.W.st_iff
def withoutT (T : Tab) (D : Ddl) : Tab :=
  { T with cols := if (D.kind = 4 ∨ D.kind = 5) ∧ 0 ≤ colAt T D.column then T.cols.eraseIdx (colAt T D.column).toNat else T.cols
           idxs := if (D.kind = 2 ∨ D.kind = 3) ∧ 0 ≤ idxAt T D.name then T.idxs.eraseIdx (idxAt T D.name).toNat else T.idxs
           keys := if 6 ≤ D.kind ∧ 0 ≤ keyAt T D.name then T.keys.eraseIdx (keyAt T D.name).toNat else T.keys }
def outOf (D : Ddl) (T : Tab) : List Tab := if T.name ≠ D.table then [T] else if D.kind = 1 then [] else [withoutT T D]
def Sch.without (S : Sch) (D : Ddl) : Sch := ⟨0, 0, S.tabs.flatMap (outOf D)⟩
end Go.Proofs.Ythepfbcgpbkbdaa
end
section
set_option linter.unusedVariables false
set_option linter.unusedSimpArgs false
set_option maxHeartbeats 1000000
set_option maxRecDepth 100000
namespace Go.Proofs.Ythepfbcgpbkbdaa
open Fw Go
attribute [-simp] Fw.W.ld_iff Fw.W.st_iff
theorem Own.off {s : PH} {p : TabP} (h : Own s p) {a : Option Addr} {n c : Nat} {ps : List TabP} (hr : rowE tabE s 42 a n c ps) : ∀ g ∈ p.L, g ∉ Fw.blk a := by
  have ty : ∀ {α : Type} {E : Enc α} {e : TypeId} {a : Option Addr} {n c : Nat} {xs : List α}, rowE E s e a n c xs → ∀ g ∈ Fw.blk a, ∃ cur, s g = some (.cells cur e (0, 0)) := by
    intro α E e a n c xs hr g hg
    rcases hr.shape with ⟨h0, _⟩ | ⟨g', hg'⟩
    · rw [h0] at hg; simp [Fw.blk] at hg
    · have : g = g' := by rw [hg'] at hg; simpa [Fw.blk] using hg
      subst this
      exact hr.ty hg'
  have ne : ∀ {g : Nat} {e e' : TypeId}, (∃ cur, s g = some (.cells cur e (0, 0))) → (∃ cur, s g = some (.cells cur e' (0, 0))) → e = e' := by
    rintro g e e' ⟨c1, h1⟩ ⟨c2, h2⟩
    rw [h1] at h2; cases h2; (first | done | rfl)
  intro g hg hg2
  simp only [TabP.L, List.mem_append] at hg
  rcases hg with hg | hg | hg
  · exact absurd (ne (ty h.c g hg) (ty hr g hg2)) (by decide)
  · exact absurd (ne (ty h.x g hg) (ty hr g hg2)) (by decide)
  · exact absurd (ne (ty h.k g hg) (ty hr g hg2)) (by decide)
end Go.Proofs.Ythepfbcgpbkbdaa
end
section
set_option linter.unusedVariables false
set_option linter.unusedSimpArgs false
set_option maxHeartbeats 1000000
set_option maxRecDepth 100000
namespace Go.Proofs.Ythepfbcgpbkbdaa
open Fw Go
attribute [-simp] Fw.W.ld_iff Fw.W.st_iff
/-- a schema, and where its tables lie -/
structure SchP where
  S : Sch
  t : Tri
/-- the heap without what lies in the blocks -/
def hid (L : List Nat) (s : PH) : PH := fun k => if k ∈ L then none else s k
theorem hid_le (L : List Nat) (s : PH) : (hid L s).le s := fun b o h => by
  unfold hid at h
  split at h
  · cases h
  · exact h
theorem hid_step {L L' : List Nat} {s s' : PH} (m : Fw.Mod L s s') (hL : ∀ g ∈ L', g ∈ L ∨ s g = none) : (hid L s).le (hid L' s') := fun b o h => by
  unfold hid at h ⊢
  split at h
  · cases h
  · rename_i hb
    have hk : s b ≠ none := by rw [h]; simp
    rw [if_neg (fun e => by rcases hL b e with e | e; exact hb e; exact hk e), m b hk hb]; exact h
/-- schemas that can be read beside the list's own block -/
def Read (s : PH) (a : Option Addr) (p : SchP) : Prop := ∃ ps, SchIs (hid (Fw.blk a) s) p.t p.S ps
theorem Read.is {s : PH} {a : Option Addr} {p : SchP} (h : Read s a p) : ∃ ps, SchIs s p.t p.S ps := by
  obtain ⟨ps, hp⟩ := h
  exact ⟨ps, hp.mono (hid_le _ _)⟩
theorem Read.step {s s' : PH} {a a' : Option Addr} {p : SchP} (h : Read s a p) (m : Fw.Mod (Fw.blk a) s s') (hL : ∀ g ∈ Fw.blk a', g ∈ Fw.blk a ∨ s g = none) : Read s' a' p := by
  obtain ⟨ps, hp⟩ := h
  exact ⟨ps, hp.mono (hid_step m hL)⟩
end Go.Proofs.Ythepfbcgpbkbdaa
end
section
set_option linter.unusedVariables false
set_option linter.unusedSimpArgs false
set_option maxHeartbeats 1000000
set_option maxRecDepth 100000
namespace Go.Proofs.Ythepfbcgpbkbdaa
open Fw Go
theorem turn_ok {S S' : Sch} {D : Ddl} {st : Int} (h : S.turn D st = (S', 0)) : right S = true ∧ 0 ≤ st ∧ st ≤ 3 ∧ 1 ≤ D.kind ∧ D.kind ≤ 7 ∧ turn1 { S with version := S.version + 1 } D st = .ok S' := by
  unfold Sch.turn at h
  by_cases hr : (right S && (decide (0 ≤ st) && decide (st ≤ 3))) = false
  · rw [if_pos hr] at h
    have : (100 : Int) = 0 := congrArg Prod.snd h
    omega
  rw [if_neg hr] at h
  by_cases hk : D.kind < 1 ∨ 7 < D.kind
  · rw [if_pos hk] at h
    have : (1 : Int) = 0 := congrArg Prod.snd h
    omega
  rw [if_neg hk] at h
  have hr : (right S && (decide (0 ≤ st) && decide (st ≤ 3))) = true := by
    cases e : (right S && (decide (0 ≤ st) && decide (st ≤ 3)))
    · exact absurd e hr
    · rfl
  simp only [Bool.and_eq_true, decide_eq_true_eq] at hr
  cases e : turn1 { S with version := S.version + 1 } D st with
  | error n =>
    rw [e] at h
    have := congrArg Prod.snd h
    exact absurd this (turn1_err _ _ _ n e)
  | ok S2 =>
    rw [e] at h
    have := congrArg Prod.fst h
    subst this
    exact ⟨hr.1, hr.2.1, hr.2.2, by omega, by omega, rfl⟩
def Res.All (P : Sch → Prop) (r : Res) : Prop := ∀ S', r = .ok S' → P S'
theorem all_ite {P : Sch → Prop} {c : Prop} [Decidable c] {a b : Res} (ha : c → a.All P) (hb : ¬ c → b.All P) : Res.All P (if c then a else b) := by
  by_cases h : c
  · rw [if_pos h]; exact ha h
  · rw [if_neg h]; exact hb h
theorem all_e {P : Sch → Prop} {e : Int} : Res.All P (.error e) := fun S' h' => by cases h'
theorem all_o {P : Sch → Prop} {S : Sch} (h : P S) : Res.All P (.ok S) := fun e' h' => by cases h'; exact h
/-- a change leaves the version, but for its one step -/
theorem turn1_version (S : Sch) (D : Ddl) (st : Int) : (turn1 S D st).All fun S' => S'.version = S.version := by
  unfold turn1 createTurn colTurn idxTurn keyTurn
  repeat' (first | (refine all_ite (fun _ => ?_) (fun _ => ?_)) | exact all_e | exact all_o rfl | split)
end Go.Proofs.Ythepfbcgpbkbdaa
end
section
set_option linter.unusedVariables false
set_option linter.unusedSimpArgs false
set_option maxHeartbeats 1000000
set_option maxRecDepth 100000
namespace Go.Proofs.Ythepfbcgpbkbdaa
open Fw Go
/-- names that may be, each there once -/
def NamesOk {α : Type} (f : α → ByteArray) (l : List α) : Prop := (∀ x ∈ l, named (f x) = true) ∧ (l.map f).Nodup
theorem nod_once {α β : Type} [DecidableEq β] {f : α → β} {l : List α} : (l.map f).Nodup ↔ ∀ (i : Nat) (x : α), l[i]? = some x → seek (fun y : α => decide (f y = f x)) l 0 = (i : Int) := by
  constructor
  · intro h i x hx
    rcases seek_cases (fun y : α => decide (f y = f x)) l with ⟨_, e⟩ | ⟨j, y, e, hy, hp, hmin⟩
    · have := e x (List.mem_of_getElem? hx)
      simp at this
    · rw [e]
      have hp : f y = f x := of_decide_eq_true hp
      obtain ⟨hi1, hi2⟩ := List.getElem?_eq_some_iff.1 hx
      obtain ⟨hj1, hj2⟩ := List.getElem?_eq_some_iff.1 hy
      have := (List.getElem_inj (i := j) (j := i) (h₀ := by simpa using hj1) (h₁ := by simpa using hi1) h).1 (by simp only [List.getElem_map, hi2, hj2, hp])
      omega
  · intro h
    rw [List.Nodup, List.pairwise_iff_getElem]
    intro i j hi hj hij e
    simp only [List.getElem_map] at e
    simp only [List.length_map] at hi hj
    have h1 := h i l[i] (by simp)
    have h2 := h j l[j] (by simp)
    rw [e] at h1
    rw [h1] at h2
    omega
theorem namesC_iff {l : List Col} : allI (nameC l) l = true ↔ NamesOk Col.name l := by
  rw [allI_iff]
  unfold NamesOk
  rw [nod_once]
  constructor
  · intro h
    refine ⟨fun x hx => ?_, fun i x hx => ?_⟩
    · obtain ⟨i, hi⟩ := List.mem_iff_getElem?.1 hx
      have := h i x hi
      unfold nameC at this
      simp only [Bool.and_eq_true, decide_eq_true_eq] at this
      exact this.1
    · have := h i x hx
      unfold nameC at this
      simp only [Bool.and_eq_true, decide_eq_true_eq] at this
      exact this.2
  · rintro ⟨h1, h2⟩ i x hx
    unfold nameC
    simp only [Bool.and_eq_true, decide_eq_true_eq]
    exact ⟨h1 x (List.mem_of_getElem? hx), h2 i x hx⟩
theorem namesX_iff {l : List Idx} : allI (nameX l) l = true ↔ NamesOk Idx.name l := by
  rw [allI_iff]
  unfold NamesOk
  rw [nod_once]
  constructor
  · intro h
    refine ⟨fun x hx => ?_, fun i x hx => ?_⟩
    · obtain ⟨i, hi⟩ := List.mem_iff_getElem?.1 hx
      have := h i x hi
      unfold nameX at this
      simp only [Bool.and_eq_true, decide_eq_true_eq] at this
      exact this.1
    · have := h i x hx
      unfold nameX at this
      simp only [Bool.and_eq_true, decide_eq_true_eq] at this
      exact this.2
  · rintro ⟨h1, h2⟩ i x hx
    unfold nameX
    simp only [Bool.and_eq_true, decide_eq_true_eq]
    exact ⟨h1 x (List.mem_of_getElem? hx), h2 i x hx⟩
theorem namesF_iff {l : List For} : allI (nameF l) l = true ↔ NamesOk For.name l := by
  rw [allI_iff]
  unfold NamesOk
  rw [nod_once]
  constructor
  · intro h
    refine ⟨fun x hx => ?_, fun i x hx => ?_⟩
    · obtain ⟨i, hi⟩ := List.mem_iff_getElem?.1 hx
      have := h i x hi
      unfold nameF at this
      simp only [Bool.and_eq_true, decide_eq_true_eq] at this
      exact this.1
    · have := h i x hx
      unfold nameF at this
      simp only [Bool.and_eq_true, decide_eq_true_eq] at this
      exact this.2
  · rintro ⟨h1, h2⟩ i x hx
    unfold nameF
    simp only [Bool.and_eq_true, decide_eq_true_eq]
    exact ⟨h1 x (List.mem_of_getElem? hx), h2 i x hx⟩
theorem namesT_iff {l : List Tab} : allI (nameT l) l = true ↔ NamesOk Tab.name l := by
  rw [allI_iff]
  unfold NamesOk
  rw [nod_once]
  constructor
  · intro h
    refine ⟨fun x hx => ?_, fun i x hx => ?_⟩
    · obtain ⟨i, hi⟩ := List.mem_iff_getElem?.1 hx
      have := h i x hi
      unfold nameT at this
      simp only [Bool.and_eq_true, decide_eq_true_eq] at this
      exact this.1
    · have := h i x hx
      unfold nameT at this
      simp only [Bool.and_eq_true, decide_eq_true_eq] at this
      exact this.2
  · rintro ⟨h1, h2⟩ i x hx
    unfold nameT
    simp only [Bool.and_eq_true, decide_eq_true_eq]
    exact ⟨h1 x (List.mem_of_getElem? hx), h2 i x hx⟩
theorem runIds_iff (last : Int) : ∀ (l seen : List Int), runIds last l seen = true ↔ (∀ n ∈ l, 1 ≤ n ∧ n ≤ last ∧ n ∉ seen) ∧ l.Nodup
  | [], seen => by simp [runIds]
  | n :: l, seen => by
    simp only [runIds, Bool.and_eq_true, decide_eq_true_eq, Bool.not_eq_true', decide_eq_false_iff_not, runIds_iff last l, List.nodup_cons, List.mem_cons]
    constructor
    · rintro ⟨⟨a, b⟩, c, d, e⟩
      refine ⟨?_, fun hn => (d n hn).2.2 (.inl rfl), e⟩
      rintro m (rfl | hm)
      · exact ⟨a, b, c⟩
      · exact ⟨(d m hm).1, (d m hm).2.1, fun h => (d m hm).2.2 (.inr h)⟩
    · rintro ⟨a, b, c⟩
      refine ⟨⟨(a n (.inl rfl)).1, (a n (.inl rfl)).2.1⟩, (a n (.inl rfl)).2.2, fun m hm => ⟨(a m (.inr hm)).1, (a m (.inr hm)).2.1, ?_⟩, c⟩
      rintro (rfl | h)
      · exact b hm
      · exact (a m (.inr hm)).2.2 h
/-- the kind of a table's first column -/
def hk (T : Tab) : Option Int := T.cols.head?.map (·.kind)
def StOk (n : Int) : Prop := 1 ≤ n ∧ n ≤ 3
theorem stateB_iff {n : Int} : stateB n = true ↔ StOk n := by unfold stateB StOk; simp
structure ColOk (c : Col) : Prop where
  st : StOk c.state
  ty : typed c.kind = true
  fi : fits c.dflt c.kind = true
def KeyOk (tabs : List Tab) (T : Tab) (x : For) : Prop := StOk x.state ∧ ∃ c ∈ T.cols, c.id = x.column ∧ ∃ P ∈ tabs, P.id = x.parent ∧ hk P = some c.kind
structure TabOk (tabs : List Tab) (T : Tab) : Prop where
  c1 : 1 ≤ T.cols.length
  c8 : T.cols.length ≤ 8
  x8 : T.idxs.length ≤ 8
  k8 : T.keys.length ≤ 8
  nc : NamesOk Col.name T.cols
  nx : NamesOk Idx.name T.idxs
  nk : NamesOk For.name T.keys
  first : ∀ c, T.cols.head? = some c → c.state = 3
  cs : ∀ c ∈ T.cols, ColOk c
  xs : ∀ x ∈ T.idxs, StOk x.state ∧ ∃ c ∈ T.cols, c.id = x.column
  ks : ∀ x ∈ T.keys, KeyOk tabs T x
structure SchOk (S : Sch) : Prop where
  v0 : 0 ≤ S.version
  v1 : S.version ≤ 1125899906842624
  l0 : 0 ≤ S.last
  l1 : S.last ≤ 1125899906842624
  few : S.tabs.length ≤ 6
  nt : NamesOk Tab.name S.tabs
  ts : ∀ T ∈ S.tabs, TabOk S.tabs T
  ids : ∀ n ∈ S.tabs.flatMap idsOf, 1 ≤ n ∧ n ≤ S.last
  nod : (S.tabs.flatMap idsOf).Nodup
theorem nod_of_flat {α : Type} {f : Tab → List Int} {l : List Tab} (h : (l.flatMap f).Nodup) {T : Tab} (hT : T ∈ l) : (f T).Nodup := by
  obtain ⟨a, b, rfl⟩ := List.append_of_mem hT
  simp only [List.flatMap_append, List.flatMap_cons, List.nodup_append] at h
  exact h.2.1.1
theorem ids_inj {tabs : List Tab} (h : (tabs.flatMap idsOf).Nodup) {T : Tab} (hT : T ∈ tabs) : (T.cols.map (·.id)).Nodup := by
  have := nod_of_flat (α := Nat) h hT
  unfold idsOf at this
  simp only [List.nodup_cons, List.nodup_append] at this
  exact this.2.1
theorem tabs_inj {tabs : List Tab} (h : (tabs.flatMap idsOf).Nodup) : (tabs.map (·.id)).Nodup := by
  refine List.Nodup.sublist ?_ h
  clear h
  induction tabs with
  | nil => simp
  | cons T l ih =>
    simp only [List.map_cons, List.flatMap_cons]
    unfold idsOf
    simp only [List.cons_append]
    refine List.Sublist.cons_cons _ ?_
    exact List.Sublist.trans ih (List.sublist_append_right _ _)
theorem at_id {α : Type} {f : α → Int} {l : List α} (h : (l.map f).Nodup) {x : α} (hx : x ∈ l) : ∃ i : Nat, seek (fun y : α => decide (f y = f x)) l 0 = (i : Int) ∧ l[i]? = some x := by
  obtain ⟨i, hi⟩ := List.mem_iff_getElem?.1 hx
  exact ⟨i, nod_once.1 h i x hi, hi⟩
theorem keyB_ok {S : Sch} {T : Tab} {i : Nat} {x : For} (hn : (S.tabs.flatMap idsOf).Nodup) (hT : T ∈ S.tabs) : keyB S T i x = true ↔ KeyOk S.tabs T x := by
  unfold keyB KeyOk
  simp only [Bool.and_eq_true, decide_eq_true_eq, stateB_iff]
  constructor
  · rintro ⟨a, b, c, d⟩
    refine ⟨a, ?_⟩
    unfold colOf at b
    unfold tabOf at c
    obtain ⟨j, y, hj, hy, hp, _⟩ := (seek_cases (fun y : Col => decide (y.id = x.column)) T.cols).resolve_left (fun e => by have := e.1; omega)
    obtain ⟨k, P, hk', hP, hpp, _⟩ := (seek_cases (fun y : Tab => decide (y.id = x.parent)) S.tabs).resolve_left (fun e => by have := e.1; omega)
    refine ⟨y, List.mem_of_getElem? hy, of_decide_eq_true hp, P, List.mem_of_getElem? hP, of_decide_eq_true hpp, ?_⟩
    unfold parB tabOf colOf at d
    rw [hj, hk'] at d
    simp only [Int.toNat_natCast, hP, hy] at d
    unfold hk
    split at d
    · rename_i c0 r e
      rw [e]
      simp only [List.head?_cons, Option.map_some]
      rw [of_decide_eq_true d]
    · cases d
  · rintro ⟨a, c, hc, e1, P, hP, e2, hh⟩
    obtain ⟨j, hj, hjc⟩ := at_id (f := fun c : Col => c.id) (ids_inj hn hT) hc
    obtain ⟨k, hk', hkP⟩ := at_id (f := fun c : Tab => c.id) (tabs_inj hn) hP
    rw [e1] at hj
    rw [e2] at hk'
    have h1 : colOf T x.column = (j : Int) := hj
    have h2 : tabOf S x.parent = (k : Int) := hk'
    refine ⟨a, by omega, by omega, ?_⟩
    unfold parB
    rw [h1, h2]
    simp only [Int.toNat_natCast, hjc, hkP]
    unfold hk at hh
    cases e : P.cols with
    | nil => rw [e] at hh; cases hh
    | cons c0 r =>
      rw [e] at hh
      simp only [List.head?_cons, Option.map_some, Option.some.injEq] at hh
      simp [hh]
theorem idxB_ok {T : Tab} {i : Nat} {x : Idx} : idxB T i x = true ↔ StOk x.state ∧ ∃ c ∈ T.cols, c.id = x.column := by
  unfold idxB
  simp only [Bool.and_eq_true, decide_eq_true_eq, stateB_iff]
  unfold colOf
  rcases seek_cases (fun y : Col => decide (y.id = x.column)) T.cols with ⟨e, h⟩ | ⟨j, y, e, hy, hp, _⟩
  · rw [e]
    constructor
    · rintro ⟨_, b⟩; omega
    · rintro ⟨_, c, hc, e2⟩
      have := h c hc
      simp [e2] at this
  · rw [e]
    constructor
    · rintro ⟨a, _⟩; exact ⟨a, y, List.mem_of_getElem? hy, of_decide_eq_true hp⟩
    · rintro ⟨a, _⟩; exact ⟨a, by omega⟩
theorem colB_ok {i : Nat} {c : Col} : colB i c = true ↔ ColOk c := by
  unfold colB
  simp only [Bool.and_eq_true, stateB_iff]
  exact ⟨fun ⟨a, b, c⟩ => ⟨a, b, c⟩, fun h => ⟨h.st, h.ty, h.fi⟩⟩
theorem allI_mem {α : Type} {p : Nat → α → Bool} {Q : α → Prop} {xs : List α} (h : ∀ i, ∀ x ∈ xs, (p i x = true ↔ Q x)) : allI p xs = true ↔ ∀ x ∈ xs, Q x := by
  rw [allI_iff]
  constructor
  · intro g x hx
    obtain ⟨i, hi⟩ := List.mem_iff_getElem?.1 hx
    exact (h i x hx).1 (g i x hi)
  · intro g i x hi
    exact (h i x (List.mem_of_getElem? hi)).2 (g x (List.mem_of_getElem? hi))
theorem tabB_ok {S : Sch} {T : Tab} (hn : (S.tabs.flatMap idsOf).Nodup) (hT : T ∈ S.tabs) : tabB S T = true ↔ TabOk S.tabs T := by
  rw [tabB_iff, namesC_iff, namesX_iff, namesF_iff, allI_mem (Q := ColOk) (fun i x _ => colB_ok), allI_mem (Q := fun x : Idx => StOk x.state ∧ ∃ c ∈ T.cols, c.id = x.column) (fun i x _ => idxB_ok), allI_mem (Q := KeyOk S.tabs T) (fun i x _ => keyB_ok hn hT)]
  have hf : 1 ≤ T.cols.length → (first3 T = true ↔ ∀ c, T.cols.head? = some c → c.state = 3) := by
    intro h1
    unfold first3
    cases e : T.cols with
    | nil => rw [e] at h1; simp at h1
    | cons c r => simp
  constructor
  · rintro ⟨a, b, c, d, e, f, g, h, i, j, k⟩
    exact ⟨a, b, c, d, e, f, g, (hf a).1 h, i, j, k⟩
  · rintro ⟨a, b, c, d, e, f, g, h, i, j, k⟩
    exact ⟨a, b, c, d, e, f, g, (hf a).2 h, i, j, k⟩
theorem right_ok {S : Sch} : right S = true ↔ SchOk S := by
  rw [right_iff, namesT_iff, runIds_iff]
  have h0 : headB S = true ↔ 0 ≤ S.version ∧ S.version ≤ 1125899906842624 ∧ 0 ≤ S.last ∧ S.last ≤ 1125899906842624 := by
    unfold headB; simp only [Bool.and_eq_true, decide_eq_true_eq]
  rw [h0]
  constructor
  · rintro ⟨⟨a, b, c, d⟩, e, f, g, h, i⟩
    refine ⟨a, b, c, d, e, f, (allI_mem (p := fun _ T => tabB S T) (Q := TabOk S.tabs) (xs := S.tabs) (fun _ T hT => tabB_ok i hT)).1 g, fun n hn => ⟨(h n hn).1, (h n hn).2.1⟩, i⟩
  · rintro ⟨a, b, c, d, e, f, g, h, i⟩
    exact ⟨⟨a, b, c, d⟩, e, f, (allI_mem (p := fun _ T => tabB S T) (Q := TabOk S.tabs) (xs := S.tabs) (fun _ T hT => tabB_ok i hT)).2 g, fun n hn => ⟨(h n hn).1, (h n hn).2, by simp⟩, i⟩
end Go.Proofs.Ythepfbcgpbkbdaa
end
section
set_option linter.unusedVariables false
set_option linter.unusedSimpArgs false
set_option maxHeartbeats 1000000
set_option maxRecDepth 100000
namespace Go.Proofs.Ythepfbcgpbkbdaa
open Fw Go
theorem KeyOk.put {a b : List Tab} {T T' U : Tab} {x : For} (h : KeyOk (a ++ T :: b) U x) (hid : T'.id = T.id) (hh : hk T' = hk T) : KeyOk (a ++ T' :: b) U x := by
  obtain ⟨h1, c, hc, e1, P, hP, e2, e3⟩ := h
  refine ⟨h1, c, hc, e1, ?_⟩
  simp only [List.mem_append, List.mem_cons] at hP
  rcases hP with hP | rfl | hP
  · exact ⟨P, by simp [hP], e2, e3⟩
  · exact ⟨T', by simp, by rw [hid, e2], by rw [hh, e3]⟩
  · exact ⟨P, by simp [hP], e2, e3⟩
theorem TabOk.put {a b : List Tab} {T T' U : Tab} (h : TabOk (a ++ T :: b) U) (hid : T'.id = T.id) (hh : hk T' = hk T) : TabOk (a ++ T' :: b) U :=
  { h with ks := fun x hx => (h.ks x hx).put hid hh }
section
variable {S : Sch} (h : SchOk S) {a b : List Tab} {T : Tab} (e : S.tabs = a ++ T :: b) {v l : Int} (hv0 : 0 ≤ v) (hv1 : v ≤ 1125899906842624) (hl : S.last ≤ l) (hl1 : l ≤ 1125899906842624)
include h e hv0 hv1 hl hl1
end
theorem placed_in {α : Type} {l : List α} {j : Nat} {st : Int} {x' y : α} (h : y ∈ placed l j st x') : y ∈ l ∨ (st ≠ 0 ∧ y = x') := by
  unfold placed at h
  split at h
  · exact .inl (List.mem_of_mem_eraseIdx h)
  · rename_i h0
    rcases List.mem_or_eq_of_mem_set h with h | h
    · exact .inl h
    · exact .inr ⟨h0, h⟩
theorem set_same {α : Type} : ∀ {l : List α} {j : Nat} {x : α}, l[j]? = some x → l.set j x = l
  | [], _, _, h => by simp at h
  | y :: l, 0, x, h => by simp at h; simp [h]
  | y :: l, j + 1, x, h => by simp only [List.set_cons_succ]; rw [set_same (by simpa using h)]
theorem placed_sub {α β : Type} {f : α → β} {l : List α} {j : Nat} {st : Int} {x x' : α} (hx : l[j]? = some x) (hf : f x' = f x) : ((placed l j st x').map f).Sublist (l.map f) := by
  unfold placed
  split
  · exact (List.eraseIdx_sublist l j).map f
  · rw [List.map_set, hf, set_same (by rw [List.getElem?_map, hx]; (first | done | rfl))]
    exact List.Sublist.refl _
theorem NamesOk.placed {α : Type} {f : α → ByteArray} {l : List α} {j : Nat} {st : Int} {x x' : α} (h : NamesOk f l) (hx : l[j]? = some x) (hf : f x' = f x) : NamesOk f (placed l j st x') := by
  refine ⟨fun y hy => ?_, List.Nodup.sublist (placed_sub hx hf) h.2⟩
  rcases placed_in hy with hy | ⟨_, rfl⟩
  · exact h.1 y hy
  · rw [hf]; exact h.1 x (List.mem_of_getElem? hx)
theorem NamesOk.app {α : Type} {f : α → ByteArray} {l : List α} {x : α} (h : NamesOk f l) (hn : named (f x) = true) (hx : ∀ y ∈ l, f y ≠ f x) : NamesOk f (l ++ [x]) := by
  refine ⟨fun y hy => ?_, ?_⟩
  · rcases List.mem_append.1 hy with hy | hy
    · exact h.1 y hy
    · have : y = x := by simpa using hy
      subst this; exact hn
  · rw [List.map_append, List.nodup_append]
    refine ⟨h.2, by simp, ?_⟩
    intro u hu w hw
    obtain ⟨y, hy, rfl⟩ := List.mem_map.1 hu
    have : w = f x := by simpa using hw
    subst this
    exact hx y hy
end Go.Proofs.Ythepfbcgpbkbdaa
end
section
set_option linter.unusedVariables false
set_option linter.unusedSimpArgs false
set_option maxHeartbeats 1000000
set_option maxRecDepth 100000
namespace Go.Proofs.Ythepfbcgpbkbdaa
open Fw Go
inductive Did (S : Sch) (D : Ddl) (st : Int) : Sch → Prop
  | create (h1 : D.kind = 1) (hn : named D.table = true) (hc : ∀ c ∈ D.cols, named c.name = true) (ht : tabAt S D.table < 0) (hd : dbl D.cols = false) (h6 : S.tabs.length < 6) (c1 : 1 ≤ D.cols.length) (c8 : D.cols.length ≤ 8)
      (ty : ∀ c ∈ D.cols, typed c.kind = true) (s3 : st = 3) : Did S D st ⟨S.version, S.last + 1 + D.cols.length, S.tabs ++ [⟨S.last + 1, D.table, mkCols (S.last + 2) D.cols, [], []⟩]⟩
  | colAdd (i : Nat) (T : Tab) (kd : D.kind = 4) (hi : tabAt S D.table = (i : Int)) (hT : S.tabs[i]? = some T) (ha : colAt T D.column < 0) (hf : freshE D.column T.cols.length = 0) (ty : typed D.type = true) (fi : fits D.dflt D.type = true) (s0 : st ≠ 0) :
      Did S D st ⟨S.version, S.last + 1, S.tabs.set i { T with cols := T.cols ++ [⟨S.last + 1, D.column, D.type, st, D.dflt⟩] }⟩
  | colPut (i : Nat) (T : Tab) (j : Nat) (x : Col) (kd : D.kind = 4 ∨ D.kind = 5) (hi : tabAt S D.table = (i : Int)) (hT : S.tabs[i]? = some T) (hj : colAt T D.column = (j : Int)) (hx : T.cols[j]? = some x) (hn : x.name = D.column)
      (h4 : D.kind = 4 → x.state ≠ 3) (h5 : D.kind = 5 → used T j x = false) : Did S D st ⟨S.version, S.last, S.tabs.set i { T with cols := placed T.cols j st (x.put st) }⟩
  | idxAdd (i : Nat) (T : Tab) (c : Col) (kd : D.kind = 2) (hi : tabAt S D.table = (i : Int)) (hT : S.tabs[i]? = some T) (ha : idxAt T D.name < 0) (hf : freshE D.name T.idxs.length = 0) (hc : c ∈ T.cols) (s0 : st ≠ 0) :
      Did S D st ⟨S.version, S.last + 1, S.tabs.set i { T with idxs := T.idxs ++ [⟨S.last + 1, D.name, c.id, D.unique, st⟩] }⟩
  | idxPut (i : Nat) (T : Tab) (j : Nat) (x : Idx) (kd : D.kind = 2 ∨ D.kind = 3) (hi : tabAt S D.table = (i : Int)) (hT : S.tabs[i]? = some T) (hj : idxAt T D.name = (j : Int)) (hx : T.idxs[j]? = some x) (hn : x.name = D.name)
      (h4 : D.kind = 2 → x.state ≠ 3) : Did S D st ⟨S.version, S.last, S.tabs.set i { T with idxs := placed T.idxs j st (x.put st) }⟩
  | keyAdd (i : Nat) (T : Tab) (c : Col) (P : Tab) (kd : D.kind = 6) (hi : tabAt S D.table = (i : Int)) (hT : S.tabs[i]? = some T) (ha : keyAt T D.name < 0) (hf : freshE D.name T.keys.length = 0) (hc : c ∈ T.cols) (hP : P ∈ S.tabs) (hh : hk P = some c.kind) (s0 : st ≠ 0) :
      Did S D st ⟨S.version, S.last + 1, S.tabs.set i { T with keys := T.keys ++ [⟨S.last + 1, D.name, c.id, P.id, st⟩] }⟩
  | keyPut (i : Nat) (T : Tab) (j : Nat) (x : For) (kd : D.kind = 6 ∨ D.kind = 7) (hi : tabAt S D.table = (i : Int)) (hT : S.tabs[i]? = some T) (hj : keyAt T D.name = (j : Int)) (hx : T.keys[j]? = some x) (hn : x.name = D.name)
      (h4 : D.kind = 6 → x.state ≠ 3) : Did S D st ⟨S.version, S.last, S.tabs.set i { T with keys := placed T.keys j st (x.put st) }⟩
/-- nothing needs the column that a change names -/
def Free (S : Sch) (D : Ddl) : Prop := ∀ (i : Nat) (T : Tab) (j : Nat) (x : Col), tabAt S D.table = (i : Int) → S.tabs[i]? = some T → colAt T D.column = (j : Int) → T.cols[j]? = some x → (∀ y ∈ T.idxs, y.column ≠ x.id) ∧ (∀ y ∈ T.keys, y.column ≠ x.id)
end Go.Proofs.Ythepfbcgpbkbdaa
end
section
set_option linter.unusedVariables false
set_option linter.unusedSimpArgs false
set_option maxHeartbeats 1000000
set_option maxRecDepth 100000
namespace Go.Proofs.Ythepfbcgpbkbdaa
open Fw Go
structure Ready (S : Sch) (D : Ddl) : Prop where
  tab : ∃ (i : Nat) (T : Tab), tabAt S D.table = (i : Int) ∧ S.tabs[i]? = some T ∧ (D.kind = 4 ∨ D.kind = 5 → ∃ (j : Nat) (x : Col), colAt T D.column = (j : Int) ∧ T.cols[j]? = some x ∧ j ≠ 0) ∧
    (D.kind = 2 ∨ D.kind = 3 → ∃ (j : Nat) (x : Idx), idxAt T D.name = (j : Int) ∧ T.idxs[j]? = some x) ∧ (D.kind = 6 ∨ D.kind = 7 → ∃ (j : Nat) (x : For), keyAt T D.name = (j : Int) ∧ T.keys[j]? = some x)
  free : D.kind = 4 ∨ D.kind = 5 → Free S D
structure Stepped (S : Sch) (D : Ddl) (st : Int) (S' : Sch) : Prop where
  ok : SchOk S'
  ver : S'.version = S.version + 1
  last : S'.last ≤ S.last + 9
  state : stateOf S' D = st
  rest : S'.without D = S.without D
  ready : D.kind ≠ 1 → st ≠ 0 → Ready S' D
end Go.Proofs.Ythepfbcgpbkbdaa
end
section
set_option linter.unusedVariables false
set_option linter.unusedSimpArgs false
set_option maxHeartbeats 1000000
set_option maxRecDepth 100000
namespace Go.Proofs.Ythepfbcgpbkbdaa
open Fw Go
structure Lse where
  node : Int
  ver : Int
  til : Int
  deriving DecidableEq
structure Jb where
  id : Int
  call : Int
  y1 : Int
  y2 : Int
  y3 : Int
  D : Ddl
  phase : Int
  back : Bool
  drain : Bool
  mark : ByteArray
  fin : Int
  why : Int
structure Pl where
  S : Sch
  L : List Lse
  J : List Jb
/-- what of a command counts here -/
structure Cm where
  kind : Int
  y1 : Int
  y2 : Int
  y3 : Int
  ver : Int
  call : Int
  D : Ddl
  job : Int
  phase : Int
  mark : ByteArray
  why : Int
structure Rs where
  err : Int
  ver : Int
  til : Int
  job : Int
  new : Bool
  deriving DecidableEq
abbrev Rs.bad (e : Int) : Rs := ⟨e, 0, 0, 0, false⟩
def forceB (l : Lse) (now : Int) : Bool := decide (l.til ≥ IntKind.i64.wrap (now - 3))
def handAt (J : List Jb) : Int := seek (fun j : Jb => decide (j.fin = 0)) J 0
def movesOf (j : Jb) : List (Int × Int) := pairs (pathL j.D.kind j.back)
def moveOf (j : Jb) : Int × Int := ((movesOf j)[j.phase.toNat]?).getD (0, 0)
/-- the job at hand -/
def Pl.hand (P : Pl) : Option (Nat × Jb) := if handAt P.J < 0 then none else (P.J[(handAt P.J).toNat]?).map fun j => ((handAt P.J).toNat, j)
def clearB (P : Pl) (now below : Int) : Bool := !(P.L.any fun l => decide (l.ver < below) && forceB l now)
def Pl.grant (P : Pl) (now : Int) (c : Cm) : Rs × Pl :=
  if (P.hand.map fun p => p.2.drain) = some true then (.bad 162, P)
  else (⟨0, P.S.version, IntKind.i64.wrap (now + 20), 0, true⟩,
    { P with L := P.L.filter (fun x => !(!forceB x now || (decide (x.node = c.y1) && decide (x.ver = P.S.version)))) ++ [⟨c.y1, P.S.version, IntKind.i64.wrap (now + 20)⟩] })
def sameBy (j : Jb) (c : Cm) : Bool := j.y1 == c.y1 && (j.y2 == c.y2 && (j.y3 == c.y3 && true))
def byAt (J : List Jb) (c : Cm) : Option Jb := J.find? fun j => sameBy j c
def running (J : List Jb) : Nat := (J.filter fun j => decide (j.fin = 0)).length
def newJob (J : List Jb) (c : Cm) : Jb := ⟨(J.length + 1 : Nat), c.call, c.y1, c.y2, c.y3, c.D, 0, false, false, ⟨#[]⟩, if 4 ≤ running J then 3 else 0, if 4 ≤ running J then 156 else 0⟩
def Pl.submit (P : Pl) (c : Cm) : Rs × Pl :=
  if (pairs (pathL c.D.kind false)).length = 0 then (.bad 1, P)
  else match byAt P.J c with
  | some j => (⟨0, 0, 0, j.id, false⟩, P)
  | none => (⟨0, 0, 0, (P.J.length + 1 : Nat), true⟩, { P with J := P.J ++ [newJob P.J c] })
/-- the job at hand, if a command is about it, and its move is one of some kinds -/
def Pl.turn (P : Pl) (c : Cm) (kinds : List Int) : Option (Nat × Jb) :=
  match P.hand with
  | none => none
  | some (i, j) => if j.id = c.job ∧ j.phase = c.phase ∧ (moveOf j).1 ∈ kinds then some (i, j) else none
def Pl.setJ (P : Pl) (i : Nat) (j : Jb) : Pl := { P with J := P.J.set i j }
def Jb.step (j : Jb) : Jb :=
  { j with phase := IntKind.i64.wrap (j.phase + 1), mark := ⟨#[]⟩, drain := false, fin := if IntKind.i64.wrap (j.phase + 1) = (movesOf j).length then (if j.back then 2 else 1) else j.fin }
def Pl.drain (P : Pl) (c : Cm) : Rs × Pl :=
  match P.turn c [2] with
  | none => (.bad 160, P)
  | some (i, j) => (⟨0, 0, 0, 0, !j.drain⟩, P.setJ i { j with drain := true })
def belowOf (P : Pl) (j : Jb) : Int := if (moveOf j).1 = 2 then IntKind.i64.wrap (P.S.version + 1) else P.S.version
def Pl.next (P : Pl) (now : Int) (c : Cm) : Rs × Pl :=
  match P.turn c [1, 2, 3] with
  | none => (.bad 160, P)
  | some (i, j) =>
    if (moveOf j).1 = 2 ∧ j.drain = false then (.bad 160, P)
    else if clearB P now (belowOf P j) = false then (.bad 161, P)
    else if (moveOf j).1 ≠ 3 then
      (if (P.S.turn j.D (moveOf j).2).2 ≠ 0 then (⟨0, 0, 0, 0, true⟩, P.setJ i { j with fin := 3, why := (P.S.turn j.D (moveOf j).2).2, drain := false })
       else (⟨0, (P.S.turn j.D (moveOf j).2).1.version, 0, 0, true⟩, { P with S := (P.S.turn j.D (moveOf j).2).1, J := P.J.set i j.step }))
    else (⟨0, P.S.version, 0, 0, true⟩, P.setJ i j.step)
def Pl.mark (P : Pl) (c : Cm) : Rs × Pl :=
  match P.turn c [4, 5] with
  | none => (.bad 160, P)
  | some (i, j) => (⟨0, 0, 0, 0, true⟩, if c.ver = 1 then P.setJ i j.step else P.setJ i { j with mark := if (!Op.bytesLess j.mark.toList c.mark.toList) = true then j.mark else c.mark })
def Pl.fail (P : Pl) (c : Cm) : Rs × Pl :=
  match P.turn c [4] with
  | none => (.bad 160, P)
  | some (i, j) => if j.back then (.bad 160, P) else (⟨0, 0, 0, 0, true⟩, P.setJ i { j with back := true, phase := 0, mark := ⟨#[]⟩, why := c.why })
def Pl.do (P : Pl) (now : Int) (c : Cm) : Rs × Pl :=
  if c.kind < 11 ∨ 16 < c.kind ∨ now < 0 ∨ 1125899906842624 < now then (.bad 1, P)
  else if c.kind = 11 then P.grant now c else if c.kind = 12 then P.submit c else if c.kind = 13 then P.drain c else if c.kind = 14 then P.next now c
  else if c.kind = 15 then P.mark c else P.fail c
/-- what stays true of a board -/
structure PlOk (P : Pl) : Prop where
  ph : ∀ j ∈ P.J, j.fin = 0 → 0 ≤ j.phase ∧ j.phase < ((movesOf j).length : Int)
  vs : ∀ l ∈ P.L, l.ver ≤ P.S.version
  v0 : 0 ≤ P.S.version ∧ P.S.version ≤ 1125899906842625
theorem hand_some {P : Pl} {i : Nat} {j : Jb} (h : P.hand = some (i, j)) : P.J[i]? = some j ∧ j.fin = 0 ∧ handAt P.J = (i : Int) := by
  unfold Pl.hand at h
  split at h
  · cases h
  · rename_i h0
    obtain ⟨k, x, hk, hx, hp, _⟩ := (seek_cases (fun j : Jb => decide (j.fin = 0)) P.J).resolve_left (fun e => by have := e.1; unfold handAt at h0; omega)
    have hk : handAt P.J = (k : Int) := hk
    rw [hk] at h
    simp only [Int.toNat_natCast, hx, Option.map_some, Option.some.injEq, Prod.mk.injEq] at h
    obtain ⟨rfl, rfl⟩ := h
    exact ⟨hx, of_decide_eq_true hp, hk⟩
end Go.Proofs.Ythepfbcgpbkbdaa
end
section
set_option linter.unusedVariables false
set_option linter.unusedSimpArgs false
set_option maxHeartbeats 1000000
set_option maxRecDepth 100000
namespace Go.Proofs.Ythepfbcgpbkbdaa
open Fw Go
theorem turn_some {P : Pl} {c : Cm} {ks : List Int} {i : Nat} {j : Jb} (h : P.turn c ks = some (i, j)) : P.hand = some (i, j) ∧ (moveOf j).1 ∈ ks ∧ j.id = c.job ∧ j.phase = c.phase := by
  unfold Pl.turn at h
  split at h
  · cases h
  · rename_i i' j' hh
    split at h
    · rename_i hc
      simp only [Option.some.injEq, Prod.mk.injEq] at h
      obtain ⟨rfl, rfl⟩ := h
      exact ⟨hh, hc.2.2, hc.1, hc.2.1⟩
    · cases h
theorem turn_ver {S : Sch} {D : Ddl} {st : Int} (h : ¬ (S.turn D st).2 ≠ 0) : (S.turn D st).1.version = S.version + 1 ∧ right S = true := by
  obtain ⟨S', e, he⟩ : ∃ S' e, S.turn D st = (S', e) := ⟨_, _, rfl⟩
  rw [he] at h ⊢
  have h : e = 0 := by simpa using h
  subst h
  obtain ⟨hr, _, _, _, _, ht⟩ := turn_ok he
  exact ⟨turn1_version _ _ _ S' ht, hr⟩
theorem set_ph {P : Pl} (h : ∀ j ∈ P.J, j.fin = 0 → 0 ≤ j.phase ∧ j.phase < ((movesOf j).length : Int)) {i : Nat} {j' : Jb} (hj : j'.fin = 0 → 0 ≤ j'.phase ∧ j'.phase < ((movesOf j').length : Int)) : ∀ j ∈ P.J.set i j', j.fin = 0 → 0 ≤ j.phase ∧ j.phase < ((movesOf j).length : Int) := by
  intro j hm hf
  rcases List.mem_or_eq_of_mem_set hm with hm | rfl
  · exact h j hm hf
  · exact hj hf
theorem moves_len (j : Jb) : (movesOf j).length ≤ 10 := by
  unfold movesOf
  have : (pathL j.D.kind j.back).length ≤ 10 := by
    unfold pathL
    repeat' split
    all_goals decide
  have := pairs_len (pathL j.D.kind j.back)
  omega
theorem step_ph {j : Jb} (h : 0 ≤ j.phase ∧ j.phase < ((movesOf j).length : Int)) : j.step.fin = 0 → 0 ≤ j.step.phase ∧ j.step.phase < ((movesOf j.step).length : Int) := by
  have hl := moves_len j
  have hw : IntKind.i64.wrap (j.phase + 1) = j.phase + 1 := wrap_in (by omega) (by omega)
  have hm : movesOf j.step = movesOf j := rfl
  rw [hm]
  unfold Jb.step
  dsimp only
  rw [hw]
  intro hf
  by_cases he : j.phase + 1 = (movesOf j).length
  · rw [if_pos he] at hf
    split at hf <;> omega
  · omega
theorem PlOk.do {P : Pl} (h : PlOk P) (now : Int) (c : Cm) : PlOk (P.do now c).2 := by
  have keep : PlOk P := h
  unfold Pl.do
  split
  · exact h
  split
  · unfold Pl.grant
    split
    · exact h
    · refine ⟨h.ph, fun l hl => ?_, h.v0⟩
      simp only [List.mem_append, List.mem_filter, List.mem_singleton] at hl
      rcases hl with hl | rfl
      · exact h.vs l hl.1
      · exact Int.le_refl _
  split
  · unfold Pl.submit
    split
    · exact h
    · rename_i hp
      split
      · exact h
      · refine ⟨fun j hj hf => ?_, h.vs, h.v0⟩
        simp only [List.mem_append, List.mem_singleton] at hj
        rcases hj with hj | rfl
        · exact h.ph j hj hf
        · refine ⟨Int.le_refl _, ?_⟩
          show (0 : Int) < ((pairs (pathL c.D.kind false)).length : Int)
          omega
  split
  · unfold Pl.drain
    split
    · exact h
    · rename_i i j ht
      obtain ⟨hh, _⟩ := turn_some ht
      obtain ⟨hj, hf, _⟩ := hand_some hh
      exact ⟨set_ph h.ph fun hf' => h.ph j (List.mem_of_getElem? hj) hf, h.vs, h.v0⟩
  split
  · unfold Pl.next
    split
    · exact h
    · rename_i i j ht
      obtain ⟨hh, _⟩ := turn_some ht
      obtain ⟨hj, hf, _⟩ := hand_some hh
      have hph := h.ph j (List.mem_of_getElem? hj) hf
      split
      · exact h
      split
      · exact h
      split
      · split
        · exact ⟨set_ph h.ph fun hf' => by (exfalso; dsimp only at hf'; omega), h.vs, h.v0⟩
        · rename_i hne
          obtain ⟨e1, e2⟩ := turn_ver hne
          have hr := (right_ok.1 e2).v1
          refine ⟨set_ph h.ph (step_ph hph), fun l hl => ?_, ?_⟩
          · have := h.vs l hl
            dsimp only
            omega
          · have := h.v0
            dsimp only
            omega
      · exact ⟨set_ph h.ph (step_ph hph), h.vs, h.v0⟩
  split
  · unfold Pl.mark
    split
    · exact h
    · rename_i i j ht
      obtain ⟨hh, _⟩ := turn_some ht
      obtain ⟨hj, hf, _⟩ := hand_some hh
      have hph := h.ph j (List.mem_of_getElem? hj) hf
      dsimp only
      split
      · exact ⟨set_ph h.ph (step_ph hph), h.vs, h.v0⟩
      · exact ⟨set_ph h.ph fun _ => hph, h.vs, h.v0⟩
  · unfold Pl.fail
    split
    · exact h
    · rename_i i j ht
      obtain ⟨hh, hm, _⟩ := turn_some ht
      obtain ⟨hj, hf, _⟩ := hand_some hh
      have hph := h.ph j (List.mem_of_getElem? hj) hf
      split
      · exact h
      · rename_i hb
        refine ⟨set_ph h.ph fun hf' => ⟨Int.le_refl _, ?_⟩, h.vs, h.v0⟩
        have hb : j.back = false := by cases e : j.back <;> simp_all
        show (0 : Int) < ((pairs (pathL j.D.kind true)).length : Int)
        have hm : (moveOf j).1 = 4 := by simpa using hm
        unfold moveOf movesOf at hm
        rw [hb] at hm
        have hk : j.D.kind = 2 ∨ j.D.kind = 4 ∨ j.D.kind = 6 := by
          have hx : ∀ l : List (Int × Int), (∀ m ∈ l, m.1 ≠ 4) → ((l[j.phase.toNat]?).getD (0, 0)).1 ≠ 4 := by
            intro l hl
            cases e : l[j.phase.toNat]? with
            | none => simp
            | some m => simpa using hl m (List.mem_of_getElem? e)
          by_cases h2 : j.D.kind = 2
          · exact .inl h2
          by_cases h4 : j.D.kind = 4
          · exact .inr (.inl h4)
          by_cases h6 : j.D.kind = 6
          · exact .inr (.inr h6)
          exfalso
          refine hx (pairs (pathL j.D.kind false)) ?_ hm
          unfold pathL
          rw [if_neg (by simp)]
          by_cases h1 : j.D.kind = 1
          · rw [if_pos h1]; decide
          rw [if_neg h1, if_neg h2]
          by_cases h3 : j.D.kind = 3
          · rw [if_pos h3]; decide
          rw [if_neg h3, if_neg h4]
          by_cases h5 : j.D.kind = 5
          · rw [if_pos h5]; decide
          rw [if_neg h5, if_neg h6]
          by_cases h7 : j.D.kind = 7
          · rw [if_pos h7]; decide
          rw [if_neg h7]; simp [pairs]
        rcases hk with hk | hk | hk <;> rw [hk] <;> decide
theorem clear_iff {P : Pl} {now below : Int} (h : ¬ clearB P now below = false) : ∀ l ∈ P.L, l.ver < below → forceB l now = false := by
  have h : clearB P now below = true := by cases e : clearB P now below <;> simp_all
  unfold clearB at h
  simp only [Bool.not_eq_true', List.any_eq_false, Bool.and_eq_true, decide_eq_true_eq, not_and] at h
  intro l hl hv
  have := h l hl hv
  cases e : forceB l now <;> simp_all
/-- the version changes by a command for the job at hand alone; on a move that waits for leases none may be in force then -/
theorem do_still {P : Pl} (h : PlOk P) {now : Int} {c : Cm} {i : Nat} {j : Jb} (hh : P.hand = some (i, j)) (hm : (moveOf j).1 = 2) (hv : (P.do now c).2.S.version ≠ P.S.version) : ∀ l ∈ (P.do now c).2.L, forceB l now = false := by
  unfold Pl.do at hv ⊢
  split at hv
  · exact absurd rfl hv
  rename_i h0
  rw [if_neg h0]
  split at hv
  · exfalso; apply hv
    unfold Pl.grant; split <;> rfl
  rename_i h1
  rw [if_neg h1]
  split at hv
  · exfalso; apply hv
    unfold Pl.submit; split
    · rfl
    · split <;> rfl
  rename_i h2
  rw [if_neg h2]
  split at hv
  · exfalso; apply hv
    unfold Pl.drain; split <;> rfl
  rename_i h3
  rw [if_neg h3]
  split at hv
  · rename_i h4
    rw [if_pos h4]
    unfold Pl.next at hv ⊢
    split at hv
    · exact absurd rfl hv
    · rename_i i' j' ht
      obtain ⟨hh', _⟩ := turn_some ht
      rw [hh] at hh'
      simp only [Option.some.injEq, Prod.mk.injEq] at hh'
      obtain ⟨rfl, rfl⟩ := hh'
      split at hv
      · exact absurd rfl hv
      rename_i hnd
      skip
      rw [if_neg hnd]
      split at hv
      · exact absurd rfl hv
      rename_i hcl
      rw [if_neg hcl]
      have hall : ∀ l ∈ P.L, forceB l now = false := by
        intro l hl
        refine clear_iff hcl l hl ?_
        have := h.vs l hl
        have := h.v0
        unfold belowOf
        rw [if_pos hm, wrap_in (by omega) (by omega)]; omega
      rw [if_pos (by omega)]
      split
      · exact hall
      · exact hall
  · rename_i h4
    exfalso
    split at hv
    · apply hv
      unfold Pl.mark; split
      · rfl
      · dsimp only; split <;> rfl
    · apply hv
      unfold Pl.fail; split
      · rfl
      · split <;> rfl
end Go.Proofs.Ythepfbcgpbkbdaa
end
section
set_option linter.unusedVariables false
set_option maxHeartbeats 1000000
namespace Go.Proofs.Ythepfbcgpbkbdaa
open Fw Fw.W Go
/-- lintel/board.New -/
def vc_New {W : Type} (π : Prims W) : W :=
  π.nw (Go.Obj.cells #[(Go.Value.int (IntKind.i64) ((0 : Int))), (Go.Value.int (IntKind.i64) ((0 : Int))), (Go.Value.slice (none) ((0 : Nat)) ((0 : Nat))), (Go.Value.slice (none) ((0 : Nat)) ((0 : Nat))), (Go.Value.slice (none) ((0 : Nat)) ((0 : Nat)))] (126 : Nat) ((0 : Nat), (0 : Nat))) fun r0 =>
  π.ret (Go.Value.pointer (some (Addr.mk r0 (0 : Nat) none)))
def ann_New : Ann := { draws := [], join := [], loop := [] }
def la_New : LA := { ptr := [], ty := [] }
set_option maxRecDepth 100000 in
theorem eq_New {W : Type} (π : Prims W) : bodyL π Try.prog la_New ann_New (mkFr (maskA [] [] 0) 3) Try.f30 (bodyOf Try.f30) (mkFr (List.map some []) 3) = vc_New π := by kernel_rfl
theorem ok_New (R : Value → PH → Prop) (s : PH) (h : vc_New (RP Try.prog R) s) : DCalls Try.prog 30 (List.map AV.val []).toArray s R :=
  calls_vcL (c := bodyOf Try.f30) (ann := ann_New) la_New (by kernel_rfl) Try.func30 rfl (by kernel_rfl) [] [] (by rw [Try.ntmps30]; exact Nat.le_of_ble_eq_true rfl) (by kernel_rfl) (by rw [show Try.f30.ntmps = 3 from Try.ntmps30, eq_New]; exact h)
/-- lintel/board.tables -/
def vc_bTables {W : Type} (π : Prims W) (sv sl : Int) (sa : Option Addr) (san sac : Nat) : W :=
  π.loop [(true, [.int .i64, .int .i64, .slice]), (true, [.int .i64, .int .i64, .slice]), (false, [.slice]), (false, [.slice]), (false, [.int .i64]), (false, [.int .i64])] ((sv, sl, (sa, san, sac), ()), ((0 : Int), (0 : Int), (none, (0 : Nat), (0 : Nat)), ()), ((none, (0 : Nat), (0 : Nat)), ()), ((sa, san, sac), ()), ((↑san : Int), ()), ((0 : Int), ()), ()) fun (((x1 : Int), (x2 : Int), ((a3 : Option Addr), (n4 : Nat), (c5 : Nat)), _), ((x6 : Int), (x7 : Int), ((a8 : Option Addr), (n9 : Nat), (c10 : Nat)), _), (((a11 : Option Addr), (n12 : Nat), (c13 : Nat)), _), (((a14 : Option Addr), (n15 : Nat), (c16 : Nat)), _), ((x17 : Int), _), ((x18 : Int), _), _) again0 =>
    π.ite (decide (x18 < x17)) (
      π.guard ((0 : Int) ≤ x18 ∧ x18 < (↑n15 : Int)) <|
      π.unSome (a14) fun p19 =>
      π.ld [.int .i64, .str, .slice, .slice, .slice] (p19.add (x18.toNat * (5 : Nat))) fun ((x20 : Int), (t21 : ByteArray), ((a22 : Option Addr), (n23 : Nat), (c24 : Nat)), ((a25 : Option Addr), (n26 : Nat), (c27 : Nat)), ((a28 : Option Addr), (n29 : Nat), (c30 : Nat)), _) =>
      π.call (66 : Nat) #[(Go.Value.slice (a22) (n23) (c24))] (false, [(false, [.slice])]) fun ((((a31 : Option Addr), (n32 : Nat), (c33 : Nat)), _), _) =>
      π.call (75 : Nat) #[(Go.Value.slice (a25) (n26) (c27))] (false, [(false, [.slice])]) fun ((((a34 : Option Addr), (n35 : Nat), (c36 : Nat)), _), _) =>
      π.call (76 : Nat) #[(Go.Value.slice (a28) (n29) (c30))] (false, [(false, [.slice])]) fun ((((a37 : Option Addr), (n38 : Nat), (c39 : Nat)), _), _) =>
      π.nw (Go.Obj.cells #[(Go.Value.int (IntKind.i64) (x20)), (Go.Value.string (t21)), (Go.Value.slice (a31) (n32) (c33)), (Go.Value.slice (a34) (n35) (c36)), (Go.Value.slice (a37) (n38) (c39))] (42 : Nat) ((0 : Nat), (0 : Nat))) fun r40 =>
      π.app (42 : Nat) (5 : Nat) (96 : Nat) [(Go.Value.int (IntKind.i64) ((0 : Int))), (Go.Value.string (ByteArray.mk #[])), (Go.Value.slice (none) ((0 : Nat)) ((0 : Nat))), (Go.Value.slice (none) ((0 : Nat)) ((0 : Nat))), (Go.Value.slice (none) ((0 : Nat)) ((0 : Nat)))] (a11) (n12) (c13) (Src.sl (some (Addr.mk r40 (0 : Nat) none)) (1 : Nat)) fun a41 n42 c43 =>
      again0 ((x1, x2, (a3, n4, c5), ()), (x6, x7, (a8, n9, c10), ()), ((a41, n42, c43), ()), ((a14, n15, c16), ()), (x17, ()), (IntKind.i64.wrap (x18 + (1 : Int)), ()), ())
    ) (
      π.ret (Go.Value.agg #[(Go.Value.int (IntKind.i64) (x1)), (Go.Value.int (IntKind.i64) (x2)), (Go.Value.slice (a11) (n12) (c13))])
    )
def ann_bTables : Ann := { draws := [(5, { A := [0, 1, 3, 4, 6, 7], chkL := [(2, [4, 7]), (5, [7])], eag := [9, 11, 13] })], join := [], loop := [(3, [(1, 24), (2, 24), (3, 22), (7, 22), (8, 3), (9, 3)])] }
def la_bTables : LA := { ptr := [(1, 1, 0), (2, 2, 0), (5, 5, 0), (6, 1, 2), (13, 5, 2), (16, 5, 3), (19, 5, 4), (22, 5, 2), (23, 5, 3), (24, 5, 4), (31, 1, 2)], ty := [(1, 24), (2, 24), (5, 42)] }
set_option maxRecDepth 100000 in
theorem eq_bTables {W : Type} (π : Prims W) (sv sl : Int) (sa : Option Addr) (san sac : Nat) : bodyL π Try.prog la_bTables ann_bTables (mkFr (maskA [] [.v (.agg #[.int .i64 sv, .int .i64 sl, .slice sa san sac])] 0) 33) Try.f113 (bodyOf Try.f113) (mkFr (List.map some [.v (.agg #[.int .i64 sv, .int .i64 sl, .slice sa san sac])]) 33) = vc_bTables π sv sl sa san sac := by kernel_rfl
theorem ok_bTables (sv sl : Int) (sa : Option Addr) (san sac : Nat) (R : Value → PH → Prop) (s : PH) (h : vc_bTables (RP Try.prog R) sv sl sa san sac s) : DCalls Try.prog 113 (List.map AV.val [.v (.agg #[.int .i64 sv, .int .i64 sl, .slice sa san sac])]).toArray s R :=
  calls_vcL (c := bodyOf Try.f113) (ann := ann_bTables) la_bTables (by kernel_rfl) Try.func113 rfl (by kernel_rfl) [.v (.agg #[.int .i64 sv, .int .i64 sl, .slice sa san sac])] [] (by rw [Try.ntmps113]; exact Nat.le_of_ble_eq_true rfl) (by kernel_rfl) (by rw [show Try.f113.ntmps = 33 from Try.ntmps113, eq_bTables]; exact h)
/-- lintel/board.copied -/
def vc_bCopied {W : Type} (π : Prims W) (sv sl : Int) (sa : Option Addr) (san sac : Nat) (la : Option Addr) (lan lac : Nat) (ja : Option Addr) (jan jac : Nat) : W :=
  π.call (113 : Nat) #[(Go.Value.agg #[(Go.Value.int (IntKind.i64) (sv)), (Go.Value.int (IntKind.i64) (sl)), (Go.Value.slice (sa) (san) (sac))])] (false, [(true, [.int .i64, .int .i64, .slice])]) fun (((x0 : Int), (x1 : Int), ((a2 : Option Addr), (n3 : Nat), (c4 : Nat)), _), _) =>
  π.call (114 : Nat) #[(Go.Value.slice (la) (lan) (lac))] (false, [(false, [.slice])]) fun ((((a5 : Option Addr), (n6 : Nat), (c7 : Nat)), _), _) =>
  π.call (115 : Nat) #[(Go.Value.slice (ja) (jan) (jac))] (false, [(false, [.slice])]) fun ((((a8 : Option Addr), (n9 : Nat), (c10 : Nat)), _), _) =>
  π.loop [(true, [.int .i64, .int .i64, .slice, .slice, .slice]), (true, [.int .i64, .int .i64, .slice, .slice, .slice]), (false, [.int .i64]), (false, [.int .i64])] ((x0, x1, (a2, n3, c4), (a5, n6, c7), (a8, n9, c10), ()), ((0 : Int), (0 : Int), (none, (0 : Nat), (0 : Nat)), (none, (0 : Nat), (0 : Nat)), (none, (0 : Nat), (0 : Nat)), ()), ((↑n9 : Int), ()), ((0 : Int), ()), ()) fun (((x12 : Int), (x13 : Int), ((a14 : Option Addr), (n15 : Nat), (c16 : Nat)), ((a17 : Option Addr), (n18 : Nat), (c19 : Nat)), ((a20 : Option Addr), (n21 : Nat), (c22 : Nat)), _), ((x23 : Int), (x24 : Int), ((a25 : Option Addr), (n26 : Nat), (c27 : Nat)), ((a28 : Option Addr), (n29 : Nat), (c30 : Nat)), ((a31 : Option Addr), (n32 : Nat), (c33 : Nat)), _), ((x34 : Int), _), ((x35 : Int), _), _) again11 =>
    π.ite (decide (x35 < x34)) (
      π.guard ((0 : Int) ≤ x35 ∧ x35 < (↑n21 : Int)) <|
      π.unSome (a20) fun p36 =>
      π.ld [.slice] (((p36.add (x35.toNat * (22 : Nat))).add (5 : Nat)).add (10 : Nat)) fun (((a37 : Option Addr), (n38 : Nat), (c39 : Nat)), _) =>
      π.call (66 : Nat) #[(Go.Value.slice (a37) (n38) (c39))] (false, [(false, [.slice])]) fun ((((a40 : Option Addr), (n41 : Nat), (c42 : Nat)), _), _) =>
      π.guard ((0 : Int) ≤ x35 ∧ x35 < (↑n21 : Int)) <|
      π.unSome (a20) fun p43 =>
      π.st (((p43.add (x35.toNat * (22 : Nat))).add (5 : Nat)).add (10 : Nat)) [(Go.Value.slice (a40) (n41) (c42))] <|
      again11 ((x12, x13, (a14, n15, c16), (a17, n18, c19), (a20, n21, c22), ()), (x23, x24, (a25, n26, c27), (a28, n29, c30), (a31, n32, c33), ()), (x34, ()), (IntKind.i64.wrap (x35 + (1 : Int)), ()), ())
    ) (
      π.ret (Go.Value.agg #[(Go.Value.int (IntKind.i64) (x12)), (Go.Value.int (IntKind.i64) (x13)), (Go.Value.slice (a14) (n15) (c16)), (Go.Value.slice (a17) (n18) (c19)), (Go.Value.slice (a20) (n21) (c22))])
    )
def ann_bCopied : Ann := { draws := [(2, { A := [0, 1, 3, 4], chkL := [(2, [4])], eag := [6, 8] }), (6, { A := [0, 1, 2, 3, 4, 5, 6, 7, 8, 9], chkL := [(10, [1])], eag := [11, 12, 13] })], join := [], loop := [(4, [(1, 86), (2, 86), (18, 3), (19, 3)])] }
def la_bCopied : LA := { ptr := [(1, 1, 0), (2, 2, 0), (4, 1, 0), (7, 1, 0), (8, 1, 3), (11, 1, 4), (14, 1, 3), (15, 1, 4), (16, 1, 4), (22, 1, 4), (25, 1, 4)], ty := [(1, 86), (2, 86)] }
set_option maxRecDepth 100000 in
theorem eq_bCopied {W : Type} (π : Prims W) (sv sl : Int) (sa : Option Addr) (san sac : Nat) (la : Option Addr) (lan lac : Nat) (ja : Option Addr) (jan jac : Nat) : bodyL π Try.prog la_bCopied ann_bCopied (mkFr (maskA [] [.v (.agg #[.int .i64 sv, .int .i64 sl, .slice sa san sac, .slice la lan lac, .slice ja jan jac])] 0) 38) Try.f74 (bodyOf Try.f74) (mkFr (List.map some [.v (.agg #[.int .i64 sv, .int .i64 sl, .slice sa san sac, .slice la lan lac, .slice ja jan jac])]) 38) = vc_bCopied π sv sl sa san sac la lan lac ja jan jac := by kernel_rfl
theorem ok_bCopied (sv sl : Int) (sa : Option Addr) (san sac : Nat) (la : Option Addr) (lan lac : Nat) (ja : Option Addr) (jan jac : Nat) (R : Value → PH → Prop) (s : PH) (h : vc_bCopied (RP Try.prog R) sv sl sa san sac la lan lac ja jan jac s) : DCalls Try.prog 74 (List.map AV.val [.v (.agg #[.int .i64 sv, .int .i64 sl, .slice sa san sac, .slice la lan lac, .slice ja jan jac])]).toArray s R :=
  calls_vcL (c := bodyOf Try.f74) (ann := ann_bCopied) la_bCopied (by kernel_rfl) Try.func74 rfl (by kernel_rfl) [.v (.agg #[.int .i64 sv, .int .i64 sl, .slice sa san sac, .slice la lan lac, .slice ja jan jac])] [] (by rw [Try.ntmps74]; exact Nat.le_of_ble_eq_true rfl) (by kernel_rfl) (by rw [show Try.f74.ntmps = 38 from Try.ntmps74, eq_bCopied]; exact h)
/-- (*lintel/board.Board).Save -/
def vc_Save {W : Type} (π : Prims W) (b : Nat) : W :=
  π.ite ((some (Addr.mk b (0 : Nat) none)).isNone) (
    π.ret (Go.Value.agg #[(Go.Value.int (IntKind.i64) ((0 : Int))), (Go.Value.int (IntKind.i64) ((0 : Int))), (Go.Value.slice (none) ((0 : Nat)) ((0 : Nat))), (Go.Value.slice (none) ((0 : Nat)) ((0 : Nat))), (Go.Value.slice (none) ((0 : Nat)) ((0 : Nat)))])
  ) (
    π.unSome (some (Addr.mk b (0 : Nat) none)) fun p0 =>
    π.ld [.int .i64, .int .i64, .slice, .slice, .slice] (p0.add (0 : Nat)) fun ((x1 : Int), (x2 : Int), ((a3 : Option Addr), (n4 : Nat), (c5 : Nat)), ((a6 : Option Addr), (n7 : Nat), (c8 : Nat)), ((a9 : Option Addr), (n10 : Nat), (c11 : Nat)), _) =>
    π.call (74 : Nat) #[(Go.Value.agg #[(Go.Value.int (IntKind.i64) (x1)), (Go.Value.int (IntKind.i64) (x2)), (Go.Value.slice (a3) (n4) (c5)), (Go.Value.slice (a6) (n7) (c8)), (Go.Value.slice (a9) (n10) (c11))])] (false, [(true, [.int .i64, .int .i64, .slice, .slice, .slice])]) fun (((x12 : Int), (x13 : Int), ((a14 : Option Addr), (n15 : Nat), (c16 : Nat)), ((a17 : Option Addr), (n18 : Nat), (c19 : Nat)), ((a20 : Option Addr), (n21 : Nat), (c22 : Nat)), _), _) =>
    π.ret (Go.Value.agg #[(Go.Value.int (IntKind.i64) (x12)), (Go.Value.int (IntKind.i64) (x13)), (Go.Value.slice (a14) (n15) (c16)), (Go.Value.slice (a17) (n18) (c19)), (Go.Value.slice (a20) (n21) (c22))])
  )
def ann_Save : Ann := { draws := [], join := [], loop := [] }
def la_Save : LA := { ptr := [(2, 2, 0)], ty := [(2, 86)] }
set_option maxRecDepth 100000 in
theorem eq_Save {W : Type} (π : Prims W) (b : Nat) : bodyL π Try.prog la_Save ann_Save (mkFr (maskA [] [.v (.pointer (some ⟨b, 0, none⟩))] 0) 11) Try.f34 (bodyOf Try.f34) (mkFr (List.map some [.v (.pointer (some ⟨b, 0, none⟩))]) 11) = vc_Save π b := by kernel_rfl
theorem ok_Save (b : Nat) (R : Value → PH → Prop) (s : PH) (h : vc_Save (RP Try.prog R) b s) : DCalls Try.prog 34 (List.map AV.val [.v (.pointer (some ⟨b, 0, none⟩))]).toArray s R :=
  calls_vcL (c := bodyOf Try.f34) (ann := ann_Save) la_Save (by kernel_rfl) Try.func34 rfl (by kernel_rfl) [.v (.pointer (some ⟨b, 0, none⟩))] [] (by rw [Try.ntmps34]; exact Nat.le_of_ble_eq_true rfl) (by kernel_rfl) (by rw [show Try.f34.ntmps = 11 from Try.ntmps34, eq_Save]; exact h)
/-- (*lintel/board.Board).Schema -/
def vc_bSchema {W : Type} (π : Prims W) (b : Nat) : W :=
  π.call (34 : Nat) #[(Go.Value.pointer (some (Addr.mk b (0 : Nat) none)))] (false, [(true, [.int .i64, .int .i64, .slice, .slice, .slice])]) fun (((x0 : Int), (x1 : Int), ((a2 : Option Addr), (n3 : Nat), (c4 : Nat)), ((a5 : Option Addr), (n6 : Nat), (c7 : Nat)), ((a8 : Option Addr), (n9 : Nat), (c10 : Nat)), _), _) =>
  π.ret (Go.Value.agg #[(Go.Value.int (IntKind.i64) (x0)), (Go.Value.int (IntKind.i64) (x1)), (Go.Value.slice (a2) (n3) (c4))])
def ann_bSchema : Ann := { draws := [], join := [], loop := [] }
def la_bSchema : LA := { ptr := [(2, 2, 0)], ty := [(2, 24)] }
set_option maxRecDepth 100000 in
theorem eq_bSchema {W : Type} (π : Prims W) (b : Nat) : bodyL π Try.prog la_bSchema ann_bSchema (mkFr (maskA [] [.v (.pointer (some ⟨b, 0, none⟩))] 0) 6) Try.f36 (bodyOf Try.f36) (mkFr (List.map some [.v (.pointer (some ⟨b, 0, none⟩))]) 6) = vc_bSchema π b := by kernel_rfl
theorem ok_bSchema (b : Nat) (R : Value → PH → Prop) (s : PH) (h : vc_bSchema (RP Try.prog R) b s) : DCalls Try.prog 36 (List.map AV.val [.v (.pointer (some ⟨b, 0, none⟩))]).toArray s R :=
  calls_vcL (c := bodyOf Try.f36) (ann := ann_bSchema) la_bSchema (by kernel_rfl) Try.func36 rfl (by kernel_rfl) [.v (.pointer (some ⟨b, 0, none⟩))] [] (by rw [Try.ntmps36]; exact Nat.le_of_ble_eq_true rfl) (by kernel_rfl) (by rw [show Try.f36.ntmps = 6 from Try.ntmps36, eq_bSchema]; exact h)
/-- lintel/board.force -/
def vc_force {W : Type} (π : Prims W) (l1 l2 l3 : Int) (at_ : Int) : W :=
  π.ret (Go.Value.bool (decide (l3 ≥ IntKind.i64.wrap (at_ - (3 : Int)))))
def ann_force : Ann := { draws := [], join := [], loop := [] }
def la_force : LA := { ptr := [(2, 2, 0), (5, 2, 2)], ty := [(2, 89)] }
set_option maxRecDepth 100000 in
theorem eq_force {W : Type} (π : Prims W) (l1 l2 l3 : Int) (at_ : Int) : bodyL π Try.prog la_force ann_force (mkFr (maskA [] [.v (.agg #[.int .i64 l1, .int .i64 l2, .int .i64 l3]), .v (.int .i64 at_)] 0) 10) Try.f109 (bodyOf Try.f109) (mkFr (List.map some [.v (.agg #[.int .i64 l1, .int .i64 l2, .int .i64 l3]), .v (.int .i64 at_)]) 10) = vc_force π l1 l2 l3 at_ := by kernel_rfl
theorem ok_force (l1 l2 l3 : Int) (at_ : Int) (R : Value → PH → Prop) (s : PH) (h : vc_force (RP Try.prog R) l1 l2 l3 at_ s) : DCalls Try.prog 109 (List.map AV.val [.v (.agg #[.int .i64 l1, .int .i64 l2, .int .i64 l3]), .v (.int .i64 at_)]).toArray s R :=
  calls_vcL (c := bodyOf Try.f109) (ann := ann_force) la_force (by kernel_rfl) Try.func109 rfl (by kernel_rfl) [.v (.agg #[.int .i64 l1, .int .i64 l2, .int .i64 l3]), .v (.int .i64 at_)] [] (by rw [Try.ntmps109]; exact Nat.le_of_ble_eq_true rfl) (by kernel_rfl) (by rw [show Try.f109.ntmps = 10 from Try.ntmps109, eq_force]; exact h)
/-- (*lintel/board.Board).hand -/
def vc_hand {W : Type} (π : Prims W) (b : Nat) : W :=
  π.unSome (some (Addr.mk b (0 : Nat) none)) fun p0 =>
  π.ld [.slice] ((p0.add (0 : Nat)).add (4 : Nat)) fun (((a1 : Option Addr), (n2 : Nat), (c3 : Nat)), _) =>
  π.loop [(false, [.int .i64]), (false, [.int .i64])] (((↑n2 : Int), ()), ((0 : Int), ()), ()) fun (((x5 : Int), _), ((x6 : Int), _), _) again4 =>
    π.ite (decide (x6 < x5)) (
      π.unSome (some (Addr.mk b (0 : Nat) none)) fun p7 =>
      π.ld [.slice] ((p7.add (0 : Nat)).add (4 : Nat)) fun (((a8 : Option Addr), (n9 : Nat), (c10 : Nat)), _) =>
      π.guard ((0 : Int) ≤ x6 ∧ x6 < (↑n9 : Int)) <|
      π.unSome (a8) fun p11 =>
      π.unSome (some (p11.add (x6.toNat * (22 : Nat)))) fun p12 =>
      π.ld [.int .i64] (p12.add (20 : Nat)) fun ((x13 : Int), _) =>
      π.ite (x13 == (0 : Int)) (
        π.ret (Go.Value.pointer (some (p11.add (x6.toNat * (22 : Nat)))))
      ) (
        again4 ((x5, ()), (IntKind.i64.wrap (x6 + (1 : Int)), ()), ())
      )
    ) (
      π.ret (Go.Value.pointer (none))
    )
def ann_hand : Ann := { draws := [], join := [], loop := [(2, [(10, 3), (11, 3)])] }
def la_hand : LA := { ptr := [], ty := [] }
set_option maxRecDepth 100000 in
theorem eq_hand {W : Type} (π : Prims W) (b : Nat) : bodyL π Try.prog la_hand ann_hand (mkFr (maskA [] [.v (.pointer (some ⟨b, 0, none⟩))] 0) 28) Try.f65 (bodyOf Try.f65) (mkFr (List.map some [.v (.pointer (some ⟨b, 0, none⟩))]) 28) = vc_hand π b := by kernel_rfl
theorem ok_hand (b : Nat) (R : Value → PH → Prop) (s : PH) (h : vc_hand (RP Try.prog R) b s) : DCalls Try.prog 65 (List.map AV.val [.v (.pointer (some ⟨b, 0, none⟩))]).toArray s R :=
  calls_vcL (c := bodyOf Try.f65) (ann := ann_hand) la_hand (by kernel_rfl) Try.func65 rfl (by kernel_rfl) [.v (.pointer (some ⟨b, 0, none⟩))] [] (by rw [Try.ntmps65]; exact Nat.le_of_ble_eq_true rfl) (by kernel_rfl) (by rw [show Try.f65.ntmps = 28 from Try.ntmps65, eq_hand]; exact h)
/-- lintel/board.move -/
def vc_move {W : Type} (π : Prims W) (p : Addr) : W :=
  π.unSome (some p) fun p0 =>
  π.ld [.int .i64, .str, .str, .str, .str, .bool, .int .i64, .int .i64, .int .i64, .str, .slice] (p0.add (5 : Nat)) fun ((x1 : Int), (t2 : ByteArray), (t3 : ByteArray), (t4 : ByteArray), (t5 : ByteArray), (b6 : Bool), (x7 : Int), (x8 : Int), (x9 : Int), (t10 : ByteArray), ((a11 : Option Addr), (n12 : Nat), (c13 : Nat)), _) =>
  π.unSome (some p) fun p14 =>
  π.ld [.bool] (p14.add (17 : Nat)) fun ((b15 : Bool), _) =>
  π.unSome (some p) fun p16 =>
  π.ld [.int .i64] (p16.add (16 : Nat)) fun ((x17 : Int), _) =>
  π.call (23 : Nat) #[(Go.Value.agg #[(Go.Value.int (IntKind.i64) (x1)), (Go.Value.string (t2)), (Go.Value.string (t3)), (Go.Value.string (t4)), (Go.Value.string (t5)), (Go.Value.bool (b6)), (Go.Value.int (IntKind.i64) (x7)), (Go.Value.int (IntKind.i64) (x8)), (Go.Value.int (IntKind.i64) (x9)), (Go.Value.string (t10)), (Go.Value.slice (a11) (n12) (c13))]), (Go.Value.bool (b15))] (false, [(false, [.slice])]) fun ((((a18 : Option Addr), (n19 : Nat), (c20 : Nat)), _), _) =>
  π.still [.int .i64] (p16.add (16 : Nat)) (x17, ()) <|
  π.guard ((0 : Int) ≤ x17 ∧ x17 < (↑n19 : Int)) <|
  π.unSome (a18) fun p21 =>
  π.ld [.int .i64, .int .i64] (p21.add (x17.toNat * (2 : Nat))) fun ((x22 : Int), (x23 : Int), _) =>
  π.ret (Go.Value.agg #[(Go.Value.int (IntKind.i64) (x22)), (Go.Value.int (IntKind.i64) (x23))])
def ann_move : Ann := { draws := [(1, { A := [0, 1, 2, 3, 4, 5, 6, 7, 9, 10, 11, 12], chkL := [(8, [12])], eag := [13] })], join := [], loop := [] }
def la_move : LA := { ptr := [(2, 2, 0)], ty := [(2, 56)] }
set_option maxRecDepth 100000 in
theorem eq_move {W : Type} (π : Prims W) (p : Addr) : bodyL π Try.prog la_move ann_move (mkFr (maskA [] [.v (.pointer (some p))] 0) 18) Try.f67 (bodyOf Try.f67) (mkFr (List.map some [.v (.pointer (some p))]) 18) = vc_move π p := by kernel_rfl
theorem ok_move (p : Addr) (R : Value → PH → Prop) (s : PH) (h : vc_move (RP Try.prog R) p s) : DCalls Try.prog 67 (List.map AV.val [.v (.pointer (some p))]).toArray s R :=
  calls_vcL (c := bodyOf Try.f67) (ann := ann_move) la_move (by kernel_rfl) Try.func67 rfl (by kernel_rfl) [.v (.pointer (some p))] [] (by rw [Try.ntmps67]; exact Nat.le_of_ble_eq_true rfl) (by kernel_rfl) (by rw [show Try.f67.ntmps = 18 from Try.ntmps67, eq_move]; exact h)
/-- (*lintel/board.Board).Hand -/
def vc_Hand {W : Type} (π : Prims W) (b : Nat) : W :=
  π.join [(true, [.int .i64, .int .i64, .int .i64, .int .i64, .int .i64, .int .i64, .str, .str, .str, .str, .bool, .int .i64, .int .i64, .int .i64, .str, .slice, .int .i64, .bool, .bool, .str, .int .i64, .int .i64]), (true, [.int .i64, .int .i64])] (fun J0 =>
    π.ite ((some (Addr.mk b (0 : Nat) none)).isNone) (
      π.ret (Go.Value.tuple #[(Go.Value.agg #[(Go.Value.int (IntKind.i64) ((0 : Int))), (Go.Value.int (IntKind.i64) ((0 : Int))), (Go.Value.int (IntKind.i64) ((0 : Int))), (Go.Value.int (IntKind.i64) ((0 : Int))), (Go.Value.int (IntKind.i64) ((0 : Int))), (Go.Value.int (IntKind.i64) ((0 : Int))), (Go.Value.string (ByteArray.mk #[])), (Go.Value.string (ByteArray.mk #[])), (Go.Value.string (ByteArray.mk #[])), (Go.Value.string (ByteArray.mk #[])), (Go.Value.bool (false)), (Go.Value.int (IntKind.i64) ((0 : Int))), (Go.Value.int (IntKind.i64) ((0 : Int))), (Go.Value.int (IntKind.i64) ((0 : Int))), (Go.Value.string (ByteArray.mk #[])), (Go.Value.slice (none) ((0 : Nat)) ((0 : Nat))), (Go.Value.int (IntKind.i64) ((0 : Int))), (Go.Value.bool (false)), (Go.Value.bool (false)), (Go.Value.string (ByteArray.mk #[])), (Go.Value.int (IntKind.i64) ((0 : Int))), (Go.Value.int (IntKind.i64) ((0 : Int)))]), (Go.Value.agg #[(Go.Value.int (IntKind.i64) ((0 : Int))), (Go.Value.int (IntKind.i64) ((0 : Int)))]), (Go.Value.bool (false))])
    ) (
      π.call (65 : Nat) #[(Go.Value.pointer (some (Addr.mk b (0 : Nat) none)))] (false, [(false, [.ptr])]) fun ((p1, _), _) =>
      π.ite (p1.isNone) (
        π.ret (Go.Value.tuple #[(Go.Value.agg #[(Go.Value.int (IntKind.i64) ((0 : Int))), (Go.Value.int (IntKind.i64) ((0 : Int))), (Go.Value.int (IntKind.i64) ((0 : Int))), (Go.Value.int (IntKind.i64) ((0 : Int))), (Go.Value.int (IntKind.i64) ((0 : Int))), (Go.Value.int (IntKind.i64) ((0 : Int))), (Go.Value.string (ByteArray.mk #[])), (Go.Value.string (ByteArray.mk #[])), (Go.Value.string (ByteArray.mk #[])), (Go.Value.string (ByteArray.mk #[])), (Go.Value.bool (false)), (Go.Value.int (IntKind.i64) ((0 : Int))), (Go.Value.int (IntKind.i64) ((0 : Int))), (Go.Value.int (IntKind.i64) ((0 : Int))), (Go.Value.string (ByteArray.mk #[])), (Go.Value.slice (none) ((0 : Nat)) ((0 : Nat))), (Go.Value.int (IntKind.i64) ((0 : Int))), (Go.Value.bool (false)), (Go.Value.bool (false)), (Go.Value.string (ByteArray.mk #[])), (Go.Value.int (IntKind.i64) ((0 : Int))), (Go.Value.int (IntKind.i64) ((0 : Int)))]), (Go.Value.agg #[(Go.Value.int (IntKind.i64) ((0 : Int))), (Go.Value.int (IntKind.i64) ((0 : Int)))]), (Go.Value.bool (false))])
      ) (
        J0 (((0 : Int), (0 : Int), (0 : Int), (0 : Int), (0 : Int), (0 : Int), ByteArray.mk #[], ByteArray.mk #[], ByteArray.mk #[], ByteArray.mk #[], false, (0 : Int), (0 : Int), (0 : Int), ByteArray.mk #[], (none, (0 : Nat), (0 : Nat)), (0 : Int), false, false, ByteArray.mk #[], (0 : Int), (0 : Int), ()), ((0 : Int), (0 : Int), ()), ())
      )
    )
  ) (fun (((x2 : Int), (x3 : Int), (x4 : Int), (x5 : Int), (x6 : Int), (x7 : Int), (t8 : ByteArray), (t9 : ByteArray), (t10 : ByteArray), (t11 : ByteArray), (b12 : Bool), (x13 : Int), (x14 : Int), (x15 : Int), (t16 : ByteArray), ((a17 : Option Addr), (n18 : Nat), (c19 : Nat)), (x20 : Int), (b21 : Bool), (b22 : Bool), (t23 : ByteArray), (x24 : Int), (x25 : Int), _), ((x26 : Int), (x27 : Int), _), _) =>
    π.call (65 : Nat) #[(Go.Value.pointer (some (Addr.mk b (0 : Nat) none)))] (false, [(false, [.ptr])]) fun ((p28, _), _) =>
    π.unSome (p28) fun p29 =>
    π.ld [.int .i64, .int .i64, .int .i64, .int .i64, .int .i64, .int .i64, .str, .str, .str, .str, .bool, .int .i64, .int .i64, .int .i64, .str, .slice, .int .i64, .bool, .bool, .str, .int .i64, .int .i64] (p29) fun ((x30 : Int), (x31 : Int), (x32 : Int), (x33 : Int), (x34 : Int), (x35 : Int), (t36 : ByteArray), (t37 : ByteArray), (t38 : ByteArray), (t39 : ByteArray), (b40 : Bool), (x41 : Int), (x42 : Int), (x43 : Int), (t44 : ByteArray), ((a45 : Option Addr), (n46 : Nat), (c47 : Nat)), (x48 : Int), (b49 : Bool), (b50 : Bool), (t51 : ByteArray), (x52 : Int), (x53 : Int), _) =>
    π.nw (Go.Obj.cells #[(Go.Value.int (IntKind.i64) ((0 : Int))), (Go.Value.int (IntKind.i64) ((0 : Int))), (Go.Value.int (IntKind.i64) ((0 : Int))), (Go.Value.int (IntKind.i64) ((0 : Int))), (Go.Value.int (IntKind.i64) ((0 : Int))), (Go.Value.int (IntKind.i64) ((0 : Int))), (Go.Value.string (ByteArray.mk #[])), (Go.Value.string (ByteArray.mk #[])), (Go.Value.string (ByteArray.mk #[])), (Go.Value.string (ByteArray.mk #[])), (Go.Value.bool (false)), (Go.Value.int (IntKind.i64) ((0 : Int))), (Go.Value.int (IntKind.i64) ((0 : Int))), (Go.Value.int (IntKind.i64) ((0 : Int))), (Go.Value.string (ByteArray.mk #[])), (Go.Value.slice (none) ((0 : Nat)) ((0 : Nat))), (Go.Value.int (IntKind.i64) ((0 : Int))), (Go.Value.bool (false)), (Go.Value.bool (false)), (Go.Value.string (ByteArray.mk #[])), (Go.Value.int (IntKind.i64) ((0 : Int))), (Go.Value.int (IntKind.i64) ((0 : Int)))] (76 : Nat) ((0 : Nat), (0 : Nat))) fun r54 =>
    π.st (Addr.mk r54 (0 : Nat) none) [(Go.Value.int (IntKind.i64) (x30)), (Go.Value.int (IntKind.i64) (x31)), (Go.Value.int (IntKind.i64) (x32)), (Go.Value.int (IntKind.i64) (x33)), (Go.Value.int (IntKind.i64) (x34)), (Go.Value.int (IntKind.i64) (x35)), (Go.Value.string (t36)), (Go.Value.string (t37)), (Go.Value.string (t38)), (Go.Value.string (t39)), (Go.Value.bool (b40)), (Go.Value.int (IntKind.i64) (x41)), (Go.Value.int (IntKind.i64) (x42)), (Go.Value.int (IntKind.i64) (x43)), (Go.Value.string (t44)), (Go.Value.slice (a45) (n46) (c47)), (Go.Value.int (IntKind.i64) (x48)), (Go.Value.bool (b49)), (Go.Value.bool (b50)), (Go.Value.string (t51)), (Go.Value.int (IntKind.i64) (x52)), (Go.Value.int (IntKind.i64) (x53))] <|
    π.ld [.slice] (((Addr.mk r54 (0 : Nat) none).add (5 : Nat)).add (10 : Nat)) fun (((a55 : Option Addr), (n56 : Nat), (c57 : Nat)), _) =>
    π.call (66 : Nat) #[(Go.Value.slice (a55) (n56) (c57))] (false, [(false, [.slice])]) fun ((((a58 : Option Addr), (n59 : Nat), (c60 : Nat)), _), _) =>
    π.st (((Addr.mk r54 (0 : Nat) none).add (5 : Nat)).add (10 : Nat)) [(Go.Value.slice (a58) (n59) (c60))] <|
    π.ld [.int .i64, .int .i64, .int .i64, .int .i64, .int .i64, .int .i64, .str, .str, .str, .str, .bool, .int .i64, .int .i64, .int .i64, .str, .slice, .int .i64, .bool, .bool, .str, .int .i64, .int .i64] (Addr.mk r54 (0 : Nat) none) fun ((x61 : Int), (x62 : Int), (x63 : Int), (x64 : Int), (x65 : Int), (x66 : Int), (t67 : ByteArray), (t68 : ByteArray), (t69 : ByteArray), (t70 : ByteArray), (b71 : Bool), (x72 : Int), (x73 : Int), (x74 : Int), (t75 : ByteArray), ((a76 : Option Addr), (n77 : Nat), (c78 : Nat)), (x79 : Int), (b80 : Bool), (b81 : Bool), (t82 : ByteArray), (x83 : Int), (x84 : Int), _) =>
    π.callQ (67 : Nat) #[(Go.Value.pointer (some (Addr.mk r54 (0 : Nat) none)))] (false, [(true, [.int .i64, .int .i64])]) fun (((x85 : Int), (x86 : Int), _), _) =>
    π.ret (Go.Value.tuple #[(Go.Value.agg #[(Go.Value.int (IntKind.i64) (x61)), (Go.Value.int (IntKind.i64) (x62)), (Go.Value.int (IntKind.i64) (x63)), (Go.Value.int (IntKind.i64) (x64)), (Go.Value.int (IntKind.i64) (x65)), (Go.Value.int (IntKind.i64) (x66)), (Go.Value.string (t67)), (Go.Value.string (t68)), (Go.Value.string (t69)), (Go.Value.string (t70)), (Go.Value.bool (b71)), (Go.Value.int (IntKind.i64) (x72)), (Go.Value.int (IntKind.i64) (x73)), (Go.Value.int (IntKind.i64) (x74)), (Go.Value.string (t75)), (Go.Value.slice (a76) (n77) (c78)), (Go.Value.int (IntKind.i64) (x79)), (Go.Value.bool (b80)), (Go.Value.bool (b81)), (Go.Value.string (t82)), (Go.Value.int (IntKind.i64) (x83)), (Go.Value.int (IntKind.i64) (x84))]), (Go.Value.agg #[(Go.Value.int (IntKind.i64) (x85)), (Go.Value.int (IntKind.i64) (x86))]), (Go.Value.bool (true))])
  )
def ann_Hand : Ann := { draws := [(5, { A := [0, 1], quiet := [1], eag := [4] })], join := [(3, [(2, 76), (3, 56)])], loop := [] }
def la_Hand : LA := { ptr := [(2, 2, 0), (3, 3, 0)], ty := [(2, 76), (3, 56)] }
set_option maxRecDepth 100000 in
theorem eq_Hand {W : Type} (π : Prims W) (b : Nat) : bodyL π Try.prog la_Hand ann_Hand (mkFr (maskA [] [.v (.pointer (some ⟨b, 0, none⟩))] 0) 27) Try.f31 (bodyOf Try.f31) (mkFr (List.map some [.v (.pointer (some ⟨b, 0, none⟩))]) 27) = vc_Hand π b := by kernel_rfl
theorem ok_Hand (b : Nat) (R : Value → PH → Prop) (s : PH) (h : vc_Hand (RP Try.prog R) b s) : DCalls Try.prog 31 (List.map AV.val [.v (.pointer (some ⟨b, 0, none⟩))]).toArray s R :=
  calls_vcL (c := bodyOf Try.f31) (ann := ann_Hand) la_Hand (by kernel_rfl) Try.func31 rfl (by kernel_rfl) [.v (.pointer (some ⟨b, 0, none⟩))] [] (by rw [Try.ntmps31]; exact Nat.le_of_ble_eq_true rfl) (by kernel_rfl) (by rw [show Try.f31.ntmps = 27 from Try.ntmps31, eq_Hand]; exact h)
/-- (*lintel/board.Board).grant$1 -/
def vc_grant1 {W : Type} (π : Prims W) (l1 l2 l3 : Int) (p q : Nat) : W :=
  π.ld [.int .i64] (Addr.mk p (0 : Nat) none) fun ((x0 : Int), _) =>
  π.call (109 : Nat) #[(Go.Value.agg #[(Go.Value.int (IntKind.i64) (l1)), (Go.Value.int (IntKind.i64) (l2)), (Go.Value.int (IntKind.i64) (l3))]), (Go.Value.int (IntKind.i64) (x0))] (false, [(false, [.bool])]) fun (((b1 : Bool), _), _) =>
  π.ite (!b1) (
    π.ret (Go.Value.bool (true))
  ) (
    π.ld [.int .i64] ((Addr.mk q (0 : Nat) none).add (0 : Nat)) fun ((x2 : Int), _) =>
    π.ite (l1 == x2) (
      π.ld [.int .i64] ((Addr.mk q (0 : Nat) none).add (1 : Nat)) fun ((x3 : Int), _) =>
      π.ret (Go.Value.bool (l2 == x3))
    ) (
      π.ret (Go.Value.bool (false))
    )
  )
def ann_grant1 : Ann := { draws := [], join := [], loop := [] }
def la_grant1 : LA := { ptr := [(3, 3, 0), (10, 3, 0), (16, 3, 1)], ty := [(3, 89)] }
set_option maxRecDepth 100000 in
theorem eq_grant1 {W : Type} (π : Prims W) (l1 l2 l3 : Int) (p q : Nat) : bodyL π Try.prog la_grant1 ann_grant1 (mkFr (maskA [] [.v (.agg #[.int .i64 l1, .int .i64 l2, .int .i64 l3]), .v (.pointer (some ⟨p, 0, none⟩)), .v (.pointer (some ⟨q, 0, none⟩))] 0) 23) Try.f108 (bodyOf Try.f108) (mkFr (List.map some [.v (.agg #[.int .i64 l1, .int .i64 l2, .int .i64 l3]), .v (.pointer (some ⟨p, 0, none⟩)), .v (.pointer (some ⟨q, 0, none⟩))]) 23) = vc_grant1 π l1 l2 l3 p q := by kernel_rfl
theorem ok_grant1 (l1 l2 l3 : Int) (p q : Nat) (R : Value → PH → Prop) (s : PH) (h : vc_grant1 (RP Try.prog R) l1 l2 l3 p q s) : DCalls Try.prog 108 (List.map AV.val [.v (.agg #[.int .i64 l1, .int .i64 l2, .int .i64 l3]), .v (.pointer (some ⟨p, 0, none⟩)), .v (.pointer (some ⟨q, 0, none⟩))]).toArray s R :=
  calls_vcL (c := bodyOf Try.f108) (ann := ann_grant1) la_grant1 (by kernel_rfl) Try.func108 rfl (by kernel_rfl) [.v (.agg #[.int .i64 l1, .int .i64 l2, .int .i64 l3]), .v (.pointer (some ⟨p, 0, none⟩)), .v (.pointer (some ⟨q, 0, none⟩))] [] (by rw [Try.ntmps108]; exact Nat.le_of_ble_eq_true rfl) (by kernel_rfl) (by rw [show Try.f108.ntmps = 23 from Try.ntmps108, eq_grant1]; exact h)
/-- slices.DeleteFunc[[]lintel/api.Lease,lintel/api.Lease] -/
def vc_DelL {W : Type} (π : Prims W) (a : Option Addr) (an ac : Nat) (p q : Nat) : W :=
  π.call (136 : Nat) #[(Go.Value.slice (a) (an) (ac)), (Go.Value.func (Fn.func (108 : Nat)) #[] #[(Go.Value.pointer (some (Addr.mk p (0 : Nat) none))), (Go.Value.pointer (some (Addr.mk q (0 : Nat) none)))])] (false, [(false, [.int .i64])]) fun (((x0 : Int), _), _) =>
  π.ite (x0 == (-1 : Int)) (
    π.ret (Go.Value.slice (a) (an) (ac))
  ) (
    π.loop [(false, [.int .i64]), (false, [.int .i64])] ((x0, ()), (IntKind.i64.wrap (x0 + (1 : Int)), ()), ()) fun (((x2 : Int), _), ((x3 : Int), _), _) again1 =>
      π.ite (decide (x3 < (↑an : Int))) (
        π.guard ((0 : Int) ≤ x3 ∧ x3 < (↑an : Int)) <|
        π.unSome (a) fun p4 =>
        π.ld [.int .i64, .int .i64, .int .i64] (p4.add (x3.toNat * (3 : Nat))) fun ((x5 : Int), (x6 : Int), (x7 : Int), _) =>
        π.call (108 : Nat) #[(Go.Value.agg #[(Go.Value.int (IntKind.i64) (x5)), (Go.Value.int (IntKind.i64) (x6)), (Go.Value.int (IntKind.i64) (x7))]), (Go.Value.pointer (some (Addr.mk p (0 : Nat) none))), (Go.Value.pointer (some (Addr.mk q (0 : Nat) none)))] (false, [(false, [.bool])]) fun (((b8 : Bool), _), _) =>
        π.ite (!b8) (
          π.guard ((0 : Int) ≤ x2 ∧ x2 < (↑an : Int)) <|
          π.unSome (a) fun p9 =>
          π.st (p9.add (x2.toNat * (3 : Nat))) [(Go.Value.int (IntKind.i64) (x5)), (Go.Value.int (IntKind.i64) (x6)), (Go.Value.int (IntKind.i64) (x7))] <|
          again1 ((IntKind.i64.wrap (x2 + (1 : Int)), ()), (IntKind.i64.wrap (x3 + (1 : Int)), ()), ())
        ) (
          again1 ((x2, ()), (IntKind.i64.wrap (x3 + (1 : Int)), ()), ())
        )
      ) (
        π.guard ((0 : Int) ≤ x2 ∧ x2 ≤ (↑an : Int) ∧ (↑an : Int) ≤ (↑ac : Int)) <|
        π.clr [(Go.Value.int (IntKind.i64) ((0 : Int))), (Go.Value.int (IntKind.i64) ((0 : Int))), (Go.Value.int (IntKind.i64) ((0 : Int)))] (if ac = x2.toNat then a else Option.map (fun x => x.add (x2.toNat * (3 : Nat))) a) ((↑an : Int).toNat - x2.toNat) <|
        π.guard ((0 : Int) ≤ (0 : Int) ∧ (0 : Int) ≤ x2 ∧ x2 ≤ (↑ac : Int)) <|
        π.ret (Go.Value.slice (if ac = (0 : Nat) then a else Option.map (fun x => x.add (0 : Nat)) a) (x2.toNat - (0 : Nat)) (ac - (0 : Nat)))
      )
  )
def ann_DelL : Ann := { draws := [], join := [], loop := [(5, [(5, 3), (6, 3)])] }
def la_DelL : LA := { ptr := [(7, 7, 0)], ty := [(7, 89)] }
set_option maxRecDepth 100000 in
theorem eq_DelL {W : Type} (π : Prims W) (a : Option Addr) (an ac : Nat) (p q : Nat) : bodyL π Try.prog la_DelL ann_DelL (mkFr (maskA [] [.v (.slice a an ac), .v (.func (.func 108) #[] #[.pointer (some ⟨p, 0, none⟩), .pointer (some ⟨q, 0, none⟩)])] 0) 42) Try.f107 (bodyOf Try.f107) (mkFr (List.map some [.v (.slice a an ac), .v (.func (.func 108) #[] #[.pointer (some ⟨p, 0, none⟩), .pointer (some ⟨q, 0, none⟩)])]) 42) = vc_DelL π a an ac p q := by kernel_rfl
theorem ok_DelL (a : Option Addr) (an ac : Nat) (p q : Nat) (R : Value → PH → Prop) (s : PH) (h : vc_DelL (RP Try.prog R) a an ac p q s) : DCalls Try.prog 107 (List.map AV.val [.v (.slice a an ac), .v (.func (.func 108) #[] #[.pointer (some ⟨p, 0, none⟩), .pointer (some ⟨q, 0, none⟩)])]).toArray s R :=
  calls_vcL (c := bodyOf Try.f107) (ann := ann_DelL) la_DelL (by kernel_rfl) Try.func107 rfl (by kernel_rfl) [.v (.slice a an ac), .v (.func (.func 108) #[] #[.pointer (some ⟨p, 0, none⟩), .pointer (some ⟨q, 0, none⟩)])] [] (by rw [Try.ntmps107]; exact Nat.le_of_ble_eq_true rfl) (by kernel_rfl) (by rw [show Try.f107.ntmps = 42 from Try.ntmps107, eq_DelL]; exact h)
/-- slices.IndexFunc[[]lintel/api.Lease,lintel/api.Lease] -/
def vc_IndexFuncL {W : Type} (π : Prims W) (a : Option Addr) (an ac : Nat) (p q : Nat) : W :=
  π.loop [(false, [.int .i64]), (false, [.int .i64])] (((↑an : Int), ()), ((0 : Int), ()), ()) fun (((x1 : Int), _), ((x2 : Int), _), _) again0 =>
    π.ite (decide (x2 < x1)) (
      π.guard ((0 : Int) ≤ x2 ∧ x2 < (↑an : Int)) <|
      π.unSome (a) fun p3 =>
      π.ld [.int .i64, .int .i64, .int .i64] (p3.add (x2.toNat * (3 : Nat))) fun ((x4 : Int), (x5 : Int), (x6 : Int), _) =>
      π.call (108 : Nat) #[(Go.Value.agg #[(Go.Value.int (IntKind.i64) (x4)), (Go.Value.int (IntKind.i64) (x5)), (Go.Value.int (IntKind.i64) (x6))]), (Go.Value.pointer (some (Addr.mk p (0 : Nat) none))), (Go.Value.pointer (some (Addr.mk q (0 : Nat) none)))] (false, [(false, [.bool])]) fun (((b7 : Bool), _), _) =>
      π.ite (b7) (
        π.ret (Go.Value.int (IntKind.i64) (x2))
      ) (
        again0 ((x1, ()), (IntKind.i64.wrap (x2 + (1 : Int)), ()), ())
      )
    ) (
      π.ret (Go.Value.int (IntKind.i64) ((-1 : Int)))
    )
def ann_IndexFuncL : Ann := { draws := [], join := [], loop := [(2, [(7, 3), (8, 3)])] }
def la_IndexFuncL : LA := { ptr := [], ty := [] }
set_option maxRecDepth 100000 in
theorem eq_IndexFuncL {W : Type} (π : Prims W) (a : Option Addr) (an ac : Nat) (p q : Nat) : bodyL π Try.prog la_IndexFuncL ann_IndexFuncL (mkFr (maskA [] [.v (.slice a an ac), .v (.func (.func 108) #[] #[.pointer (some ⟨p, 0, none⟩), .pointer (some ⟨q, 0, none⟩)])] 0) 19) Try.f136 (bodyOf Try.f136) (mkFr (List.map some [.v (.slice a an ac), .v (.func (.func 108) #[] #[.pointer (some ⟨p, 0, none⟩), .pointer (some ⟨q, 0, none⟩)])]) 19) = vc_IndexFuncL π a an ac p q := by kernel_rfl
theorem ok_IndexFuncL (a : Option Addr) (an ac : Nat) (p q : Nat) (R : Value → PH → Prop) (s : PH) (h : vc_IndexFuncL (RP Try.prog R) a an ac p q s) : DCalls Try.prog 136 (List.map AV.val [.v (.slice a an ac), .v (.func (.func 108) #[] #[.pointer (some ⟨p, 0, none⟩), .pointer (some ⟨q, 0, none⟩)])]).toArray s R :=
  calls_vcL (c := bodyOf Try.f136) (ann := ann_IndexFuncL) la_IndexFuncL (by kernel_rfl) Try.func136 rfl (by kernel_rfl) [.v (.slice a an ac), .v (.func (.func 108) #[] #[.pointer (some ⟨p, 0, none⟩), .pointer (some ⟨q, 0, none⟩)])] [] (by rw [Try.ntmps136]; exact Nat.le_of_ble_eq_true rfl) (by kernel_rfl) (by rw [show Try.f136.ntmps = 19 from Try.ntmps136, eq_IndexFuncL]; exact h)
/-- (*lintel/board.Board).grant -/
def vc_grant {W : Type} (π : Prims W) (b : Nat) (at_ : Int) (ck y1 y2 y3 x1 x2 x3 ho : Int) (ra : Option Addr) (rn rc : Nat) (wa : Option Addr) (wn wc : Nat) (mi un ts ve ca : Int) (dk : Int) (dt dn dc dp : ByteArray) (du : Bool) (dy vk vn : Int) (vs : ByteArray) (da : Option Addr) (dan dac : Nat) (jo ph : Int) (mk : ByteArray) (wh : Int) : W :=
  π.nw (Go.Obj.cells #[(Go.Value.int (IntKind.i64) (at_))] (3 : Nat) ((0 : Nat), (0 : Nat))) fun r0 =>
  π.join [(false, [.addr]), (true, [.int .i64, .int .i64, .int .i64, .int .i64, .int .i64, .int .i64, .int .i64, .int .i64, .slice, .slice, .int .i64, .int .i64, .int .i64, .int .i64, .int .i64, .int .i64, .str, .str, .str, .str, .bool, .int .i64, .int .i64, .int .i64, .str, .slice, .int .i64, .int .i64, .str, .int .i64]), (true, [.int .i64, .int .i64, .int .i64, .int .i64, .int .i64, .int .i64, .int .i64, .int .i64, .bool])] (fun J1 =>
    π.call (65 : Nat) #[(Go.Value.pointer (some (Addr.mk b (0 : Nat) none)))] (false, [(false, [.ptr])]) fun ((p2, _), _) =>
    π.ite (!p2.isNone) (
      π.unSome (p2) fun p3 =>
      π.ld [.bool] (p3.add (18 : Nat)) fun ((b4 : Bool), _) =>
      π.ite (b4) (
        π.ret (Go.Value.agg #[(Go.Value.int (IntKind.i64) ((162 : Int))), (Go.Value.int (IntKind.i64) ((0 : Int))), (Go.Value.int (IntKind.i64) ((0 : Int))), (Go.Value.int (IntKind.i64) ((0 : Int))), (Go.Value.int (IntKind.i64) ((0 : Int))), (Go.Value.int (IntKind.i64) ((0 : Int))), (Go.Value.int (IntKind.i64) ((0 : Int))), (Go.Value.int (IntKind.i64) ((0 : Int))), (Go.Value.bool (false))])
      ) (
        J1 ((Addr.mk r0 (0 : Nat) none, ()), (ck, y1, y2, y3, x1, x2, x3, ho, (ra, rn, rc), (wa, wn, wc), mi, un, ts, ve, ca, dk, dt, dn, dc, dp, du, dy, vk, vn, vs, (da, dan, dac), jo, ph, mk, wh, ()), ((0 : Int), (0 : Int), (0 : Int), (0 : Int), (0 : Int), (0 : Int), (0 : Int), (0 : Int), false, ()), ())
      )
    ) (
      J1 ((Addr.mk r0 (0 : Nat) none, ()), (ck, y1, y2, y3, x1, x2, x3, ho, (ra, rn, rc), (wa, wn, wc), mi, un, ts, ve, ca, dk, dt, dn, dc, dp, du, dy, vk, vn, vs, (da, dan, dac), jo, ph, mk, wh, ()), ((0 : Int), (0 : Int), (0 : Int), (0 : Int), (0 : Int), (0 : Int), (0 : Int), (0 : Int), false, ()), ())
    )
  ) (fun ((p5, _), ((x6 : Int), (x7 : Int), (x8 : Int), (x9 : Int), (x10 : Int), (x11 : Int), (x12 : Int), (x13 : Int), ((a14 : Option Addr), (n15 : Nat), (c16 : Nat)), ((a17 : Option Addr), (n18 : Nat), (c19 : Nat)), (x20 : Int), (x21 : Int), (x22 : Int), (x23 : Int), (x24 : Int), (x25 : Int), (t26 : ByteArray), (t27 : ByteArray), (t28 : ByteArray), (t29 : ByteArray), (b30 : Bool), (x31 : Int), (x32 : Int), (x33 : Int), (t34 : ByteArray), ((a35 : Option Addr), (n36 : Nat), (c37 : Nat)), (x38 : Int), (x39 : Int), (t40 : ByteArray), (x41 : Int), _), ((x42 : Int), (x43 : Int), (x44 : Int), (x45 : Int), (x46 : Int), (x47 : Int), (x48 : Int), (x49 : Int), (b50 : Bool), _), _) =>
    π.unSome (some (Addr.mk b (0 : Nat) none)) fun p51 =>
    π.ld [.int .i64] (((p51.add (0 : Nat)).add (0 : Nat)).add (0 : Nat)) fun ((x52 : Int), _) =>
    π.ld [.int .i64] (p5) fun ((x53 : Int), _) =>
    π.nw (Go.Obj.cells #[(Go.Value.int (IntKind.i64) ((0 : Int))), (Go.Value.int (IntKind.i64) ((0 : Int))), (Go.Value.int (IntKind.i64) ((0 : Int)))] (89 : Nat) ((0 : Nat), (0 : Nat))) fun r54 =>
    π.st (Addr.mk r54 (0 : Nat) none) [(Go.Value.int (IntKind.i64) (x7)), (Go.Value.int (IntKind.i64) (x52)), (Go.Value.int (IntKind.i64) (IntKind.i64.wrap (x53 + (20 : Int))))] <|
    π.unSome (some (Addr.mk b (0 : Nat) none)) fun p55 =>
    π.ld [.slice] ((p55.add (0 : Nat)).add (3 : Nat)) fun (((a56 : Option Addr), (n57 : Nat), (c58 : Nat)), _) =>
    π.call (107 : Nat) #[(Go.Value.slice (a56) (n57) (c58)), (Go.Value.func (Fn.func (108 : Nat)) #[] #[(Go.Value.pointer (some p5)), (Go.Value.pointer (some (Addr.mk r54 (0 : Nat) none)))])] (false, [(false, [.slice])]) fun ((((a59 : Option Addr), (n60 : Nat), (c61 : Nat)), _), _) =>
    π.unSome (some (Addr.mk b (0 : Nat) none)) fun p62 =>
    π.st ((p62.add (0 : Nat)).add (3 : Nat)) [(Go.Value.slice (a59) (n60) (c61))] <|
    π.unSome (some (Addr.mk b (0 : Nat) none)) fun p63 =>
    π.ld [.slice] ((p63.add (0 : Nat)).add (3 : Nat)) fun (((a64 : Option Addr), (n65 : Nat), (c66 : Nat)), _) =>
    π.ld [.int .i64, .int .i64, .int .i64] (Addr.mk r54 (0 : Nat) none) fun ((x67 : Int), (x68 : Int), (x69 : Int), _) =>
    π.nw (Go.Obj.cells #[(Go.Value.int (IntKind.i64) (x67)), (Go.Value.int (IntKind.i64) (x68)), (Go.Value.int (IntKind.i64) (x69))] (89 : Nat) ((0 : Nat), (0 : Nat))) fun r70 =>
    π.app (89 : Nat) (3 : Nat) (24 : Nat) [(Go.Value.int (IntKind.i64) ((0 : Int))), (Go.Value.int (IntKind.i64) ((0 : Int))), (Go.Value.int (IntKind.i64) ((0 : Int)))] (a64) (n65) (c66) (Src.sl (some (Addr.mk r70 (0 : Nat) none)) (1 : Nat)) fun a71 n72 c73 =>
    π.unSome (some (Addr.mk b (0 : Nat) none)) fun p74 =>
    π.st ((p74.add (0 : Nat)).add (3 : Nat)) [(Go.Value.slice (a71) (n72) (c73))] <|
    π.ld [.int .i64] ((Addr.mk r54 (0 : Nat) none).add (1 : Nat)) fun ((x75 : Int), _) =>
    π.ld [.int .i64] ((Addr.mk r54 (0 : Nat) none).add (2 : Nat)) fun ((x76 : Int), _) =>
    π.ret (Go.Value.agg #[(Go.Value.int (IntKind.i64) ((0 : Int))), (Go.Value.int (IntKind.i64) ((0 : Int))), (Go.Value.int (IntKind.i64) ((0 : Int))), (Go.Value.int (IntKind.i64) ((0 : Int))), (Go.Value.int (IntKind.i64) ((0 : Int))), (Go.Value.int (IntKind.i64) (x75)), (Go.Value.int (IntKind.i64) (x76)), (Go.Value.int (IntKind.i64) ((0 : Int))), (Go.Value.bool (true))])
  )
def ann_grant : Ann := { draws := [(4, { A := [0, 1, 2, 3, 4, 5, 6, 7, 8, 9, 10, 11] }), (6, { A := [0, 1, 2, 3, 4, 5, 6], eag := [9, 10, 11] })], join := [(4, [(4, 1000000), (5, 72), (6, 80)])], loop := [] }
def la_grant : LA := { ptr := [(5, 5, 0), (6, 6, 0), (20, 5, 1), (21, 5, 1)], ty := [(5, 72), (6, 80)] }
set_option maxRecDepth 100000 in
theorem eq_grant {W : Type} (π : Prims W) (b : Nat) (at_ : Int) (ck y1 y2 y3 x1 x2 x3 ho : Int) (ra : Option Addr) (rn rc : Nat) (wa : Option Addr) (wn wc : Nat) (mi un ts ve ca : Int) (dk : Int) (dt dn dc dp : ByteArray) (du : Bool) (dy vk vn : Int) (vs : ByteArray) (da : Option Addr) (dan dac : Nat) (jo ph : Int) (mk : ByteArray) (wh : Int) : bodyL π Try.prog la_grant ann_grant (mkFr (maskA [] [.v (.pointer (some ⟨b, 0, none⟩)), .v (.int .i64 at_), .v (.agg #[.int .i64 ck, .int .i64 y1, .int .i64 y2, .int .i64 y3, .int .i64 x1, .int .i64 x2, .int .i64 x3, .int .i64 ho, .slice ra rn rc, .slice wa wn wc, .int .i64 mi, .int .i64 un, .int .i64 ts, .int .i64 ve, .int .i64 ca, .int .i64 dk, .string dt, .string dn, .string dc, .string dp, .bool du, .int .i64 dy, .int .i64 vk, .int .i64 vn, .string vs, .slice da dan dac, .int .i64 jo, .int .i64 ph, .string mk, .int .i64 wh])] 0) 60) Try.f68 (bodyOf Try.f68) (mkFr (List.map some [.v (.pointer (some ⟨b, 0, none⟩)), .v (.int .i64 at_), .v (.agg #[.int .i64 ck, .int .i64 y1, .int .i64 y2, .int .i64 y3, .int .i64 x1, .int .i64 x2, .int .i64 x3, .int .i64 ho, .slice ra rn rc, .slice wa wn wc, .int .i64 mi, .int .i64 un, .int .i64 ts, .int .i64 ve, .int .i64 ca, .int .i64 dk, .string dt, .string dn, .string dc, .string dp, .bool du, .int .i64 dy, .int .i64 vk, .int .i64 vn, .string vs, .slice da dan dac, .int .i64 jo, .int .i64 ph, .string mk, .int .i64 wh])]) 60) = vc_grant π b at_ ck y1 y2 y3 x1 x2 x3 ho ra rn rc wa wn wc mi un ts ve ca dk dt dn dc dp du dy vk vn vs da dan dac jo ph mk wh := by kernel_rfl
theorem ok_grant (b : Nat) (at_ : Int) (ck y1 y2 y3 x1 x2 x3 ho : Int) (ra : Option Addr) (rn rc : Nat) (wa : Option Addr) (wn wc : Nat) (mi un ts ve ca : Int) (dk : Int) (dt dn dc dp : ByteArray) (du : Bool) (dy vk vn : Int) (vs : ByteArray) (da : Option Addr) (dan dac : Nat) (jo ph : Int) (mk : ByteArray) (wh : Int) (R : Value → PH → Prop) (s : PH) (h : vc_grant (RP Try.prog R) b at_ ck y1 y2 y3 x1 x2 x3 ho ra rn rc wa wn wc mi un ts ve ca dk dt dn dc dp du dy vk vn vs da dan dac jo ph mk wh s) : DCalls Try.prog 68 (List.map AV.val [.v (.pointer (some ⟨b, 0, none⟩)), .v (.int .i64 at_), .v (.agg #[.int .i64 ck, .int .i64 y1, .int .i64 y2, .int .i64 y3, .int .i64 x1, .int .i64 x2, .int .i64 x3, .int .i64 ho, .slice ra rn rc, .slice wa wn wc, .int .i64 mi, .int .i64 un, .int .i64 ts, .int .i64 ve, .int .i64 ca, .int .i64 dk, .string dt, .string dn, .string dc, .string dp, .bool du, .int .i64 dy, .int .i64 vk, .int .i64 vn, .string vs, .slice da dan dac, .int .i64 jo, .int .i64 ph, .string mk, .int .i64 wh])]).toArray s R :=
  calls_vcL (c := bodyOf Try.f68) (ann := ann_grant) la_grant (by kernel_rfl) Try.func68 rfl (by kernel_rfl) [.v (.pointer (some ⟨b, 0, none⟩)), .v (.int .i64 at_), .v (.agg #[.int .i64 ck, .int .i64 y1, .int .i64 y2, .int .i64 y3, .int .i64 x1, .int .i64 x2, .int .i64 x3, .int .i64 ho, .slice ra rn rc, .slice wa wn wc, .int .i64 mi, .int .i64 un, .int .i64 ts, .int .i64 ve, .int .i64 ca, .int .i64 dk, .string dt, .string dn, .string dc, .string dp, .bool du, .int .i64 dy, .int .i64 vk, .int .i64 vn, .string vs, .slice da dan dac, .int .i64 jo, .int .i64 ph, .string mk, .int .i64 wh])] [] (by rw [Try.ntmps68]; exact Nat.le_of_ble_eq_true rfl) (by kernel_rfl) (by rw [show Try.f68.ntmps = 60 from Try.ntmps68, eq_grant]; exact h)
/-- (*lintel/board.Board).submit -/
def vc_submit {W : Type} (π : Prims W) (b : Nat) (at_ : Int) (ck y1 y2 y3 x1 x2 x3 ho : Int) (ra : Option Addr) (rn rc : Nat) (wa : Option Addr) (wn wc : Nat) (mi un ts ve ca : Int) (dk : Int) (dt dn dc dp : ByteArray) (du : Bool) (dy vk vn : Int) (vs : ByteArray) (da : Option Addr) (dan dac : Nat) (jo ph : Int) (mk : ByteArray) (wh : Int) : W :=
  π.call (23 : Nat) #[(Go.Value.agg #[(Go.Value.int (IntKind.i64) (dk)), (Go.Value.string (dt)), (Go.Value.string (dn)), (Go.Value.string (dc)), (Go.Value.string (dp)), (Go.Value.bool (du)), (Go.Value.int (IntKind.i64) (dy)), (Go.Value.int (IntKind.i64) (vk)), (Go.Value.int (IntKind.i64) (vn)), (Go.Value.string (vs)), (Go.Value.slice (da) (dan) (dac))]), (Go.Value.bool (false))] (false, [(false, [.slice])]) fun ((((a0 : Option Addr), (n1 : Nat), (c2 : Nat)), _), _) =>
  π.ite ((↑n1 : Int) == (0 : Int)) (
    π.ret (Go.Value.agg #[(Go.Value.int (IntKind.i64) ((1 : Int))), (Go.Value.int (IntKind.i64) ((0 : Int))), (Go.Value.int (IntKind.i64) ((0 : Int))), (Go.Value.int (IntKind.i64) ((0 : Int))), (Go.Value.int (IntKind.i64) ((0 : Int))), (Go.Value.int (IntKind.i64) ((0 : Int))), (Go.Value.int (IntKind.i64) ((0 : Int))), (Go.Value.int (IntKind.i64) ((0 : Int))), (Go.Value.bool (false))])
  ) (
    π.unSome (some (Addr.mk b (0 : Nat) none)) fun p3 =>
    π.ld [.slice] ((p3.add (0 : Nat)).add (4 : Nat)) fun (((a4 : Option Addr), (n5 : Nat), (c6 : Nat)), _) =>
    π.loop [(true, [.int .i64, .int .i64, .int .i64, .int .i64, .int .i64, .int .i64, .int .i64, .int .i64, .slice, .slice, .int .i64, .int .i64, .int .i64, .int .i64, .int .i64, .int .i64, .str, .str, .str, .str, .bool, .int .i64, .int .i64, .int .i64, .str, .slice, .int .i64, .int .i64, .str, .int .i64]), (true, [.int .i64, .int .i64, .int .i64, .int .i64, .int .i64, .int .i64, .int .i64, .int .i64, .bool]), (false, [.int .i64]), (false, [.slice]), (false, [.int .i64]), (false, [.int .i64])] ((ck, y1, y2, y3, x1, x2, x3, ho, (ra, rn, rc), (wa, wn, wc), mi, un, ts, ve, ca, dk, dt, dn, dc, dp, du, dy, vk, vn, vs, (da, dan, dac), jo, ph, mk, wh, ()), ((0 : Int), (0 : Int), (0 : Int), (0 : Int), (0 : Int), (0 : Int), (0 : Int), (0 : Int), false, ()), ((0 : Int), ()), ((a4, n5, c6), ()), ((↑n5 : Int), ()), ((0 : Int), ()), ()) fun (((x8 : Int), (x9 : Int), (x10 : Int), (x11 : Int), (x12 : Int), (x13 : Int), (x14 : Int), (x15 : Int), ((a16 : Option Addr), (n17 : Nat), (c18 : Nat)), ((a19 : Option Addr), (n20 : Nat), (c21 : Nat)), (x22 : Int), (x23 : Int), (x24 : Int), (x25 : Int), (x26 : Int), (x27 : Int), (t28 : ByteArray), (t29 : ByteArray), (t30 : ByteArray), (t31 : ByteArray), (b32 : Bool), (x33 : Int), (x34 : Int), (x35 : Int), (t36 : ByteArray), ((a37 : Option Addr), (n38 : Nat), (c39 : Nat)), (x40 : Int), (x41 : Int), (t42 : ByteArray), (x43 : Int), _), ((x44 : Int), (x45 : Int), (x46 : Int), (x47 : Int), (x48 : Int), (x49 : Int), (x50 : Int), (x51 : Int), (b52 : Bool), _), ((x53 : Int), _), (((a54 : Option Addr), (n55 : Nat), (c56 : Nat)), _), ((x57 : Int), _), ((x58 : Int), _), _) again7 =>
      π.ite (decide (x58 < x57)) (
        π.guard ((0 : Int) ≤ x58 ∧ x58 < (↑n55 : Int)) <|
        π.unSome (a54) fun p59 =>
        π.ld [.int .i64, .int .i64, .int .i64, .int .i64, .int .i64, .int .i64, .str, .str, .str, .str, .bool, .int .i64, .int .i64, .int .i64, .str, .slice, .int .i64, .bool, .bool, .str, .int .i64, .int .i64] (p59.add (x58.toNat * (22 : Nat))) fun ((x60 : Int), (x61 : Int), (x62 : Int), (x63 : Int), (x64 : Int), (x65 : Int), (t66 : ByteArray), (t67 : ByteArray), (t68 : ByteArray), (t69 : ByteArray), (b70 : Bool), (x71 : Int), (x72 : Int), (x73 : Int), (t74 : ByteArray), ((a75 : Option Addr), (n76 : Nat), (c77 : Nat)), (x78 : Int), (b79 : Bool), (b80 : Bool), (t81 : ByteArray), (x82 : Int), (x83 : Int), _) =>
        π.ite (x62 == x9 && (x63 == x10 && (x64 == x11 && true))) (
          π.ret (Go.Value.agg #[(Go.Value.int (IntKind.i64) ((0 : Int))), (Go.Value.int (IntKind.i64) ((0 : Int))), (Go.Value.int (IntKind.i64) ((0 : Int))), (Go.Value.int (IntKind.i64) ((0 : Int))), (Go.Value.int (IntKind.i64) ((0 : Int))), (Go.Value.int (IntKind.i64) ((0 : Int))), (Go.Value.int (IntKind.i64) ((0 : Int))), (Go.Value.int (IntKind.i64) (x60)), (Go.Value.bool (false))])
        ) (
          π.ite (x82 == (0 : Int)) (
            again7 ((x8, x9, x10, x11, x12, x13, x14, x15, (a16, n17, c18), (a19, n20, c21), x22, x23, x24, x25, x26, x27, t28, t29, t30, t31, b32, x33, x34, x35, t36, (a37, n38, c39), x40, x41, t42, x43, ()), (x44, x45, x46, x47, x48, x49, x50, x51, b52, ()), (IntKind.i64.wrap (x53 + (1 : Int)), ()), ((a54, n55, c56), ()), (x57, ()), (IntKind.i64.wrap (x58 + (1 : Int)), ()), ())
          ) (
            again7 ((x8, x9, x10, x11, x12, x13, x14, x15, (a16, n17, c18), (a19, n20, c21), x22, x23, x24, x25, x26, x27, t28, t29, t30, t31, b32, x33, x34, x35, t36, (a37, n38, c39), x40, x41, t42, x43, ()), (x44, x45, x46, x47, x48, x49, x50, x51, b52, ()), (x53, ()), ((a54, n55, c56), ()), (x57, ()), (IntKind.i64.wrap (x58 + (1 : Int)), ()), ())
          )
        )
      ) (
        π.unSome (some (Addr.mk b (0 : Nat) none)) fun p84 =>
        π.ld [.slice] ((p84.add (0 : Nat)).add (4 : Nat)) fun (((a85 : Option Addr), (n86 : Nat), (c87 : Nat)), _) =>
        π.call (66 : Nat) #[(Go.Value.slice (a37) (n38) (c39))] (false, [(false, [.slice])]) fun ((((a88 : Option Addr), (n89 : Nat), (c90 : Nat)), _), _) =>
        π.join [(true, [.int .i64, .int .i64, .int .i64, .int .i64, .int .i64, .int .i64, .int .i64, .int .i64, .bool]), (true, [.int .i64, .int .i64, .int .i64, .int .i64, .int .i64, .int .i64, .str, .str, .str, .str, .bool, .int .i64, .int .i64, .int .i64, .str, .slice, .int .i64, .bool, .bool, .str, .int .i64, .int .i64])] (fun J91 =>
          π.ite (decide (x53 ≥ (4 : Int))) (
            J91 ((x44, x45, x46, x47, x48, x49, x50, x51, b52, ()), (IntKind.i64.wrap ((↑n86 : Int) + (1 : Int)), x26, x9, x10, x11, x27, t28, t29, t30, t31, b32, x33, x34, x35, t36, (a88, n89, c90), (0 : Int), false, false, ByteArray.mk #[], (3 : Int), (156 : Int), ()), ())
          ) (
            J91 ((x44, x45, x46, x47, x48, x49, x50, x51, b52, ()), (IntKind.i64.wrap ((↑n86 : Int) + (1 : Int)), x26, x9, x10, x11, x27, t28, t29, t30, t31, b32, x33, x34, x35, t36, (a88, n89, c90), (0 : Int), false, false, ByteArray.mk #[], (0 : Int), (0 : Int), ()), ())
          )
        ) (fun (((x92 : Int), (x93 : Int), (x94 : Int), (x95 : Int), (x96 : Int), (x97 : Int), (x98 : Int), (x99 : Int), (b100 : Bool), _), ((x101 : Int), (x102 : Int), (x103 : Int), (x104 : Int), (x105 : Int), (x106 : Int), (t107 : ByteArray), (t108 : ByteArray), (t109 : ByteArray), (t110 : ByteArray), (b111 : Bool), (x112 : Int), (x113 : Int), (x114 : Int), (t115 : ByteArray), ((a116 : Option Addr), (n117 : Nat), (c118 : Nat)), (x119 : Int), (b120 : Bool), (b121 : Bool), (t122 : ByteArray), (x123 : Int), (x124 : Int), _), _) =>
          π.unSome (some (Addr.mk b (0 : Nat) none)) fun p125 =>
          π.ld [.slice] ((p125.add (0 : Nat)).add (4 : Nat)) fun (((a126 : Option Addr), (n127 : Nat), (c128 : Nat)), _) =>
          π.nw (Go.Obj.cells #[(Go.Value.int (IntKind.i64) (x101)), (Go.Value.int (IntKind.i64) (x102)), (Go.Value.int (IntKind.i64) (x103)), (Go.Value.int (IntKind.i64) (x104)), (Go.Value.int (IntKind.i64) (x105)), (Go.Value.int (IntKind.i64) (x106)), (Go.Value.string (t107)), (Go.Value.string (t108)), (Go.Value.string (t109)), (Go.Value.string (t110)), (Go.Value.bool (b111)), (Go.Value.int (IntKind.i64) (x112)), (Go.Value.int (IntKind.i64) (x113)), (Go.Value.int (IntKind.i64) (x114)), (Go.Value.string (t115)), (Go.Value.slice (a116) (n117) (c118)), (Go.Value.int (IntKind.i64) (x119)), (Go.Value.bool (b120)), (Go.Value.bool (b121)), (Go.Value.string (t122)), (Go.Value.int (IntKind.i64) (x123)), (Go.Value.int (IntKind.i64) (x124))] (76 : Nat) ((0 : Nat), (0 : Nat))) fun r129 =>
          π.app (76 : Nat) (22 : Nat) (232 : Nat) [(Go.Value.int (IntKind.i64) ((0 : Int))), (Go.Value.int (IntKind.i64) ((0 : Int))), (Go.Value.int (IntKind.i64) ((0 : Int))), (Go.Value.int (IntKind.i64) ((0 : Int))), (Go.Value.int (IntKind.i64) ((0 : Int))), (Go.Value.int (IntKind.i64) ((0 : Int))), (Go.Value.string (ByteArray.mk #[])), (Go.Value.string (ByteArray.mk #[])), (Go.Value.string (ByteArray.mk #[])), (Go.Value.string (ByteArray.mk #[])), (Go.Value.bool (false)), (Go.Value.int (IntKind.i64) ((0 : Int))), (Go.Value.int (IntKind.i64) ((0 : Int))), (Go.Value.int (IntKind.i64) ((0 : Int))), (Go.Value.string (ByteArray.mk #[])), (Go.Value.slice (none) ((0 : Nat)) ((0 : Nat))), (Go.Value.int (IntKind.i64) ((0 : Int))), (Go.Value.bool (false)), (Go.Value.bool (false)), (Go.Value.string (ByteArray.mk #[])), (Go.Value.int (IntKind.i64) ((0 : Int))), (Go.Value.int (IntKind.i64) ((0 : Int)))] (a126) (n127) (c128) (Src.sl (some (Addr.mk r129 (0 : Nat) none)) (1 : Nat)) fun a130 n131 c132 =>
          π.unSome (some (Addr.mk b (0 : Nat) none)) fun p133 =>
          π.st ((p133.add (0 : Nat)).add (4 : Nat)) [(Go.Value.slice (a130) (n131) (c132))] <|
          π.ret (Go.Value.agg #[(Go.Value.int (IntKind.i64) ((0 : Int))), (Go.Value.int (IntKind.i64) ((0 : Int))), (Go.Value.int (IntKind.i64) ((0 : Int))), (Go.Value.int (IntKind.i64) ((0 : Int))), (Go.Value.int (IntKind.i64) ((0 : Int))), (Go.Value.int (IntKind.i64) ((0 : Int))), (Go.Value.int (IntKind.i64) ((0 : Int))), (Go.Value.int (IntKind.i64) (x101)), (Go.Value.bool (true))])
        )
      )
  )
def ann_submit : Ann := { draws := [(12, { A := [0, 1, 2, 3, 4, 5, 6, 7, 8, 9, 10, 11, 12, 13] }), (16, { A := [0, 1, 2, 3, 4, 5, 6], eag := [9, 10, 11] })], join := [(16, [(6, 80), (10, 76)])], loop := [(5, [(5, 72), (6, 80), (7, 3), (21, 84), (22, 3), (23, 3)])] }
def la_submit : LA := { ptr := [(5, 5, 0), (6, 6, 0), (9, 9, 0), (10, 10, 0), (11, 5, 15), (27, 9, 2), (29, 5, 1), (32, 9, 0), (35, 9, 20), (48, 5, 14), (50, 5, 1), (52, 5, 15), (55, 5, 15), (56, 5, 25), (59, 10, 5), (60, 10, 15), (63, 10, 20), (64, 10, 21), (77, 10, 0)], ty := [(5, 72), (6, 80), (9, 76), (10, 76)] }
set_option maxRecDepth 100000 in
theorem eq_submit {W : Type} (π : Prims W) (b : Nat) (at_ : Int) (ck y1 y2 y3 x1 x2 x3 ho : Int) (ra : Option Addr) (rn rc : Nat) (wa : Option Addr) (wn wc : Nat) (mi un ts ve ca : Int) (dk : Int) (dt dn dc dp : ByteArray) (du : Bool) (dy vk vn : Int) (vs : ByteArray) (da : Option Addr) (dan dac : Nat) (jo ph : Int) (mk : ByteArray) (wh : Int) : bodyL π Try.prog la_submit ann_submit (mkFr (maskA [] [.v (.pointer (some ⟨b, 0, none⟩)), .v (.int .i64 at_), .v (.agg #[.int .i64 ck, .int .i64 y1, .int .i64 y2, .int .i64 y3, .int .i64 x1, .int .i64 x2, .int .i64 x3, .int .i64 ho, .slice ra rn rc, .slice wa wn wc, .int .i64 mi, .int .i64 un, .int .i64 ts, .int .i64 ve, .int .i64 ca, .int .i64 dk, .string dt, .string dn, .string dc, .string dp, .bool du, .int .i64 dy, .int .i64 vk, .int .i64 vn, .string vs, .slice da dan dac, .int .i64 jo, .int .i64 ph, .string mk, .int .i64 wh])] 0) 80) Try.f69 (bodyOf Try.f69) (mkFr (List.map some [.v (.pointer (some ⟨b, 0, none⟩)), .v (.int .i64 at_), .v (.agg #[.int .i64 ck, .int .i64 y1, .int .i64 y2, .int .i64 y3, .int .i64 x1, .int .i64 x2, .int .i64 x3, .int .i64 ho, .slice ra rn rc, .slice wa wn wc, .int .i64 mi, .int .i64 un, .int .i64 ts, .int .i64 ve, .int .i64 ca, .int .i64 dk, .string dt, .string dn, .string dc, .string dp, .bool du, .int .i64 dy, .int .i64 vk, .int .i64 vn, .string vs, .slice da dan dac, .int .i64 jo, .int .i64 ph, .string mk, .int .i64 wh])]) 80) = vc_submit π b at_ ck y1 y2 y3 x1 x2 x3 ho ra rn rc wa wn wc mi un ts ve ca dk dt dn dc dp du dy vk vn vs da dan dac jo ph mk wh := by kernel_rfl
theorem ok_submit (b : Nat) (at_ : Int) (ck y1 y2 y3 x1 x2 x3 ho : Int) (ra : Option Addr) (rn rc : Nat) (wa : Option Addr) (wn wc : Nat) (mi un ts ve ca : Int) (dk : Int) (dt dn dc dp : ByteArray) (du : Bool) (dy vk vn : Int) (vs : ByteArray) (da : Option Addr) (dan dac : Nat) (jo ph : Int) (mk : ByteArray) (wh : Int) (R : Value → PH → Prop) (s : PH) (h : vc_submit (RP Try.prog R) b at_ ck y1 y2 y3 x1 x2 x3 ho ra rn rc wa wn wc mi un ts ve ca dk dt dn dc dp du dy vk vn vs da dan dac jo ph mk wh s) : DCalls Try.prog 69 (List.map AV.val [.v (.pointer (some ⟨b, 0, none⟩)), .v (.int .i64 at_), .v (.agg #[.int .i64 ck, .int .i64 y1, .int .i64 y2, .int .i64 y3, .int .i64 x1, .int .i64 x2, .int .i64 x3, .int .i64 ho, .slice ra rn rc, .slice wa wn wc, .int .i64 mi, .int .i64 un, .int .i64 ts, .int .i64 ve, .int .i64 ca, .int .i64 dk, .string dt, .string dn, .string dc, .string dp, .bool du, .int .i64 dy, .int .i64 vk, .int .i64 vn, .string vs, .slice da dan dac, .int .i64 jo, .int .i64 ph, .string mk, .int .i64 wh])]).toArray s R :=
  calls_vcL (c := bodyOf Try.f69) (ann := ann_submit) la_submit (by kernel_rfl) Try.func69 rfl (by kernel_rfl) [.v (.pointer (some ⟨b, 0, none⟩)), .v (.int .i64 at_), .v (.agg #[.int .i64 ck, .int .i64 y1, .int .i64 y2, .int .i64 y3, .int .i64 x1, .int .i64 x2, .int .i64 x3, .int .i64 ho, .slice ra rn rc, .slice wa wn wc, .int .i64 mi, .int .i64 un, .int .i64 ts, .int .i64 ve, .int .i64 ca, .int .i64 dk, .string dt, .string dn, .string dc, .string dp, .bool du, .int .i64 dy, .int .i64 vk, .int .i64 vn, .string vs, .slice da dan dac, .int .i64 jo, .int .i64 ph, .string mk, .int .i64 wh])] [] (by rw [Try.ntmps69]; exact Nat.le_of_ble_eq_true rfl) (by kernel_rfl) (by rw [show Try.f69.ntmps = 80 from Try.ntmps69, eq_submit]; exact h)
/-- slices.Index[[]int,int] -/
def vc_IndexI {W : Type} (π : Prims W) (a : Option Addr) (an ac : Nat) (n : Int) : W :=
  π.loop [(false, [.int .i64]), (false, [.int .i64])] (((↑an : Int), ()), ((0 : Int), ()), ()) fun (((x1 : Int), _), ((x2 : Int), _), _) again0 =>
    π.ite (decide (x2 < x1)) (
      π.guard ((0 : Int) ≤ x2 ∧ x2 < (↑an : Int)) <|
      π.unSome (a) fun p3 =>
      π.ld [.int .i64] (p3.add (x2.toNat * (1 : Nat))) fun ((x4 : Int), _) =>
      π.ite (n == x4) (
        π.ret (Go.Value.int (IntKind.i64) (x2))
      ) (
        again0 ((x1, ()), (IntKind.i64.wrap (x2 + (1 : Int)), ()), ())
      )
    ) (
      π.ret (Go.Value.int (IntKind.i64) ((-1 : Int)))
    )
def ann_IndexI : Ann := { draws := [], join := [], loop := [(2, [(7, 3), (8, 3)])] }
def la_IndexI : LA := { ptr := [], ty := [] }
set_option maxRecDepth 100000 in
theorem eq_IndexI {W : Type} (π : Prims W) (a : Option Addr) (an ac : Nat) (n : Int) : bodyL π Try.prog la_IndexI ann_IndexI (mkFr (maskA [] [.v (.slice a an ac), .v (.int .i64 n)] 0) 19) Try.f146 (bodyOf Try.f146) (mkFr (List.map some [.v (.slice a an ac), .v (.int .i64 n)]) 19) = vc_IndexI π a an ac n := by kernel_rfl
theorem ok_IndexI (a : Option Addr) (an ac : Nat) (n : Int) (R : Value → PH → Prop) (s : PH) (h : vc_IndexI (RP Try.prog R) a an ac n s) : DCalls Try.prog 146 (List.map AV.val [.v (.slice a an ac), .v (.int .i64 n)]).toArray s R :=
  calls_vcL (c := bodyOf Try.f146) (ann := ann_IndexI) la_IndexI (by kernel_rfl) Try.func146 rfl (by kernel_rfl) [.v (.slice a an ac), .v (.int .i64 n)] [] (by rw [Try.ntmps146]; exact Nat.le_of_ble_eq_true rfl) (by kernel_rfl) (by rw [show Try.f146.ntmps = 19 from Try.ntmps146, eq_IndexI]; exact h)
/-- slices.Contains[[]int,int] -/
def vc_ContainsI {W : Type} (π : Prims W) (a : Option Addr) (an ac : Nat) (n : Int) : W :=
  π.call (146 : Nat) #[(Go.Value.slice (a) (an) (ac)), (Go.Value.int (IntKind.i64) (n))] (false, [(false, [.int .i64])]) fun (((x0 : Int), _), _) =>
  π.ret (Go.Value.bool (decide (x0 ≥ (0 : Int))))
def ann_ContainsI : Ann := { draws := [], join := [], loop := [] }
def la_ContainsI : LA := { ptr := [], ty := [] }
set_option maxRecDepth 100000 in
theorem eq_ContainsI {W : Type} (π : Prims W) (a : Option Addr) (an ac : Nat) (n : Int) : bodyL π Try.prog la_ContainsI ann_ContainsI (mkFr (maskA [] [.v (.slice a an ac), .v (.int .i64 n)] 0) 9) Try.f137 (bodyOf Try.f137) (mkFr (List.map some [.v (.slice a an ac), .v (.int .i64 n)]) 9) = vc_ContainsI π a an ac n := by kernel_rfl
theorem ok_ContainsI (a : Option Addr) (an ac : Nat) (n : Int) (R : Value → PH → Prop) (s : PH) (h : vc_ContainsI (RP Try.prog R) a an ac n s) : DCalls Try.prog 137 (List.map AV.val [.v (.slice a an ac), .v (.int .i64 n)]).toArray s R :=
  calls_vcL (c := bodyOf Try.f137) (ann := ann_ContainsI) la_ContainsI (by kernel_rfl) Try.func137 rfl (by kernel_rfl) [.v (.slice a an ac), .v (.int .i64 n)] [] (by rw [Try.ntmps137]; exact Nat.le_of_ble_eq_true rfl) (by kernel_rfl) (by rw [show Try.f137.ntmps = 9 from Try.ntmps137, eq_ContainsI]; exact h)
/-- (*lintel/board.Board).turn -/
def vc_bturn {W : Type} (π : Prims W) (b : Nat) (ck y1 y2 y3 x1 x2 x3 ho : Int) (ra : Option Addr) (rn rc : Nat) (wa : Option Addr) (wn wc : Nat) (mi un ts ve ca : Int) (dk : Int) (dt dn dc dp : ByteArray) (du : Bool) (dy vk vn : Int) (vs : ByteArray) (da : Option Addr) (dan dac : Nat) (jo ph : Int) (mk : ByteArray) (wh : Int) (k : Option Addr) (kn kc : Nat) : W :=
  π.call (65 : Nat) #[(Go.Value.pointer (some (Addr.mk b (0 : Nat) none)))] (false, [(false, [.ptr])]) fun ((p0, _), _) =>
  π.ite (p0.isNone) (
    π.ret (Go.Value.pointer (none))
  ) (
    π.unSome (p0) fun p1 =>
    π.ld [.int .i64] (p1.add (0 : Nat)) fun ((x2 : Int), _) =>
    π.ite (x2 != jo) (
      π.ret (Go.Value.pointer (none))
    ) (
      π.unSome (p0) fun p3 =>
      π.ld [.int .i64] (p3.add (16 : Nat)) fun ((x4 : Int), _) =>
      π.ite (x4 != ph) (
        π.ret (Go.Value.pointer (none))
      ) (
        π.callQ (67 : Nat) #[(Go.Value.pointer (p0))] (false, [(true, [.int .i64, .int .i64])]) fun (((x5 : Int), (x6 : Int), _), _) =>
        π.call (137 : Nat) #[(Go.Value.slice (k) (kn) (kc)), (Go.Value.int (IntKind.i64) (x5))] (false, [(false, [.bool])]) fun (((b7 : Bool), _), _) =>
        π.ite (!b7) (
          π.ret (Go.Value.pointer (none))
        ) (
          π.ret (Go.Value.pointer (p0))
        )
      )
    )
  )
def ann_bturn : Ann := { draws := [(2, { A := [0, 1, 2, 3, 4, 5, 6, 7, 8, 9, 10, 11, 12, 13, 14, 15, 16, 17, 18, 19, 20, 21, 22, 23, 24], quiet := [23], eag := [26, 27] })], join := [], loop := [] }
def la_bturn : LA := { ptr := [(4, 4, 0), (17, 4, 26), (26, 4, 27)], ty := [(4, 72)] }
set_option maxRecDepth 100000 in
theorem eq_bturn {W : Type} (π : Prims W) (b : Nat) (ck y1 y2 y3 x1 x2 x3 ho : Int) (ra : Option Addr) (rn rc : Nat) (wa : Option Addr) (wn wc : Nat) (mi un ts ve ca : Int) (dk : Int) (dt dn dc dp : ByteArray) (du : Bool) (dy vk vn : Int) (vs : ByteArray) (da : Option Addr) (dan dac : Nat) (jo ph : Int) (mk : ByteArray) (wh : Int) (k : Option Addr) (kn kc : Nat) : bodyL π Try.prog la_bturn ann_bturn (mkFr (maskA [] [.v (.pointer (some ⟨b, 0, none⟩)), .v (.agg #[.int .i64 ck, .int .i64 y1, .int .i64 y2, .int .i64 y3, .int .i64 x1, .int .i64 x2, .int .i64 x3, .int .i64 ho, .slice ra rn rc, .slice wa wn wc, .int .i64 mi, .int .i64 un, .int .i64 ts, .int .i64 ve, .int .i64 ca, .int .i64 dk, .string dt, .string dn, .string dc, .string dp, .bool du, .int .i64 dy, .int .i64 vk, .int .i64 vn, .string vs, .slice da dan dac, .int .i64 jo, .int .i64 ph, .string mk, .int .i64 wh]), .v (.slice k kn kc)] 0) 39) Try.f110 (bodyOf Try.f110) (mkFr (List.map some [.v (.pointer (some ⟨b, 0, none⟩)), .v (.agg #[.int .i64 ck, .int .i64 y1, .int .i64 y2, .int .i64 y3, .int .i64 x1, .int .i64 x2, .int .i64 x3, .int .i64 ho, .slice ra rn rc, .slice wa wn wc, .int .i64 mi, .int .i64 un, .int .i64 ts, .int .i64 ve, .int .i64 ca, .int .i64 dk, .string dt, .string dn, .string dc, .string dp, .bool du, .int .i64 dy, .int .i64 vk, .int .i64 vn, .string vs, .slice da dan dac, .int .i64 jo, .int .i64 ph, .string mk, .int .i64 wh]), .v (.slice k kn kc)]) 39) = vc_bturn π b ck y1 y2 y3 x1 x2 x3 ho ra rn rc wa wn wc mi un ts ve ca dk dt dn dc dp du dy vk vn vs da dan dac jo ph mk wh k kn kc := by kernel_rfl
theorem ok_bturn (b : Nat) (ck y1 y2 y3 x1 x2 x3 ho : Int) (ra : Option Addr) (rn rc : Nat) (wa : Option Addr) (wn wc : Nat) (mi un ts ve ca : Int) (dk : Int) (dt dn dc dp : ByteArray) (du : Bool) (dy vk vn : Int) (vs : ByteArray) (da : Option Addr) (dan dac : Nat) (jo ph : Int) (mk : ByteArray) (wh : Int) (k : Option Addr) (kn kc : Nat) (R : Value → PH → Prop) (s : PH) (h : vc_bturn (RP Try.prog R) b ck y1 y2 y3 x1 x2 x3 ho ra rn rc wa wn wc mi un ts ve ca dk dt dn dc dp du dy vk vn vs da dan dac jo ph mk wh k kn kc s) : DCalls Try.prog 110 (List.map AV.val [.v (.pointer (some ⟨b, 0, none⟩)), .v (.agg #[.int .i64 ck, .int .i64 y1, .int .i64 y2, .int .i64 y3, .int .i64 x1, .int .i64 x2, .int .i64 x3, .int .i64 ho, .slice ra rn rc, .slice wa wn wc, .int .i64 mi, .int .i64 un, .int .i64 ts, .int .i64 ve, .int .i64 ca, .int .i64 dk, .string dt, .string dn, .string dc, .string dp, .bool du, .int .i64 dy, .int .i64 vk, .int .i64 vn, .string vs, .slice da dan dac, .int .i64 jo, .int .i64 ph, .string mk, .int .i64 wh]), .v (.slice k kn kc)]).toArray s R :=
  calls_vcL (c := bodyOf Try.f110) (ann := ann_bturn) la_bturn (by kernel_rfl) Try.func110 rfl (by kernel_rfl) [.v (.pointer (some ⟨b, 0, none⟩)), .v (.agg #[.int .i64 ck, .int .i64 y1, .int .i64 y2, .int .i64 y3, .int .i64 x1, .int .i64 x2, .int .i64 x3, .int .i64 ho, .slice ra rn rc, .slice wa wn wc, .int .i64 mi, .int .i64 un, .int .i64 ts, .int .i64 ve, .int .i64 ca, .int .i64 dk, .string dt, .string dn, .string dc, .string dp, .bool du, .int .i64 dy, .int .i64 vk, .int .i64 vn, .string vs, .slice da dan dac, .int .i64 jo, .int .i64 ph, .string mk, .int .i64 wh]), .v (.slice k kn kc)] [] (by rw [Try.ntmps110]; exact Nat.le_of_ble_eq_true rfl) (by kernel_rfl) (by rw [show Try.f110.ntmps = 39 from Try.ntmps110, eq_bturn]; exact h)
/-- (*lintel/board.Board).drain -/
def vc_drain {W : Type} (π : Prims W) (b : Nat) (at_ : Int) (ck y1 y2 y3 x1 x2 x3 ho : Int) (ra : Option Addr) (rn rc : Nat) (wa : Option Addr) (wn wc : Nat) (mi un ts ve ca : Int) (dk : Int) (dt dn dc dp : ByteArray) (du : Bool) (dy vk vn : Int) (vs : ByteArray) (da : Option Addr) (dan dac : Nat) (jo ph : Int) (mk : ByteArray) (wh : Int) : W :=
  π.nw (Go.Obj.cells #[(Go.Value.int (IntKind.i64) ((2 : Int)))] (3 : Nat) ((0 : Nat), (0 : Nat))) fun r0 =>
  π.call (110 : Nat) #[(Go.Value.pointer (some (Addr.mk b (0 : Nat) none))), (Go.Value.agg #[(Go.Value.int (IntKind.i64) (ck)), (Go.Value.int (IntKind.i64) (y1)), (Go.Value.int (IntKind.i64) (y2)), (Go.Value.int (IntKind.i64) (y3)), (Go.Value.int (IntKind.i64) (x1)), (Go.Value.int (IntKind.i64) (x2)), (Go.Value.int (IntKind.i64) (x3)), (Go.Value.int (IntKind.i64) (ho)), (Go.Value.slice (ra) (rn) (rc)), (Go.Value.slice (wa) (wn) (wc)), (Go.Value.int (IntKind.i64) (mi)), (Go.Value.int (IntKind.i64) (un)), (Go.Value.int (IntKind.i64) (ts)), (Go.Value.int (IntKind.i64) (ve)), (Go.Value.int (IntKind.i64) (ca)), (Go.Value.int (IntKind.i64) (dk)), (Go.Value.string (dt)), (Go.Value.string (dn)), (Go.Value.string (dc)), (Go.Value.string (dp)), (Go.Value.bool (du)), (Go.Value.int (IntKind.i64) (dy)), (Go.Value.int (IntKind.i64) (vk)), (Go.Value.int (IntKind.i64) (vn)), (Go.Value.string (vs)), (Go.Value.slice (da) (dan) (dac)), (Go.Value.int (IntKind.i64) (jo)), (Go.Value.int (IntKind.i64) (ph)), (Go.Value.string (mk)), (Go.Value.int (IntKind.i64) (wh))]), (Go.Value.slice (some (Addr.mk r0 (0 : Nat) none)) ((1 : Nat)) ((1 : Nat)))] (false, [(false, [.ptr])]) fun ((p1, _), _) =>
  π.ite (p1.isNone) (
    π.ret (Go.Value.agg #[(Go.Value.int (IntKind.i64) ((160 : Int))), (Go.Value.int (IntKind.i64) ((0 : Int))), (Go.Value.int (IntKind.i64) ((0 : Int))), (Go.Value.int (IntKind.i64) ((0 : Int))), (Go.Value.int (IntKind.i64) ((0 : Int))), (Go.Value.int (IntKind.i64) ((0 : Int))), (Go.Value.int (IntKind.i64) ((0 : Int))), (Go.Value.int (IntKind.i64) ((0 : Int))), (Go.Value.bool (false))])
  ) (
    π.unSome (p1) fun p2 =>
    π.ld [.bool] (p2.add (18 : Nat)) fun ((b3 : Bool), _) =>
    π.unSome (p1) fun p4 =>
    π.st (p4.add (18 : Nat)) [(Go.Value.bool (true))] <|
    π.ret (Go.Value.agg #[(Go.Value.int (IntKind.i64) ((0 : Int))), (Go.Value.int (IntKind.i64) ((0 : Int))), (Go.Value.int (IntKind.i64) ((0 : Int))), (Go.Value.int (IntKind.i64) ((0 : Int))), (Go.Value.int (IntKind.i64) ((0 : Int))), (Go.Value.int (IntKind.i64) ((0 : Int))), (Go.Value.int (IntKind.i64) ((0 : Int))), (Go.Value.int (IntKind.i64) ((0 : Int))), (Go.Value.bool (!b3))])
  )
def ann_drain : Ann := { draws := [], join := [], loop := [] }
def la_drain : LA := { ptr := [(5, 5, 0), (6, 6, 0), (8, 8, 0)], ty := [(5, 72), (6, 80), (8, 80)] }
set_option maxRecDepth 100000 in
theorem eq_drain {W : Type} (π : Prims W) (b : Nat) (at_ : Int) (ck y1 y2 y3 x1 x2 x3 ho : Int) (ra : Option Addr) (rn rc : Nat) (wa : Option Addr) (wn wc : Nat) (mi un ts ve ca : Int) (dk : Int) (dt dn dc dp : ByteArray) (du : Bool) (dy vk vn : Int) (vs : ByteArray) (da : Option Addr) (dan dac : Nat) (jo ph : Int) (mk : ByteArray) (wh : Int) : bodyL π Try.prog la_drain ann_drain (mkFr (maskA [] [.v (.pointer (some ⟨b, 0, none⟩)), .v (.int .i64 at_), .v (.agg #[.int .i64 ck, .int .i64 y1, .int .i64 y2, .int .i64 y3, .int .i64 x1, .int .i64 x2, .int .i64 x3, .int .i64 ho, .slice ra rn rc, .slice wa wn wc, .int .i64 mi, .int .i64 un, .int .i64 ts, .int .i64 ve, .int .i64 ca, .int .i64 dk, .string dt, .string dn, .string dc, .string dp, .bool du, .int .i64 dy, .int .i64 vk, .int .i64 vn, .string vs, .slice da dan dac, .int .i64 jo, .int .i64 ph, .string mk, .int .i64 wh])] 0) 26) Try.f70 (bodyOf Try.f70) (mkFr (List.map some [.v (.pointer (some ⟨b, 0, none⟩)), .v (.int .i64 at_), .v (.agg #[.int .i64 ck, .int .i64 y1, .int .i64 y2, .int .i64 y3, .int .i64 x1, .int .i64 x2, .int .i64 x3, .int .i64 ho, .slice ra rn rc, .slice wa wn wc, .int .i64 mi, .int .i64 un, .int .i64 ts, .int .i64 ve, .int .i64 ca, .int .i64 dk, .string dt, .string dn, .string dc, .string dp, .bool du, .int .i64 dy, .int .i64 vk, .int .i64 vn, .string vs, .slice da dan dac, .int .i64 jo, .int .i64 ph, .string mk, .int .i64 wh])]) 26) = vc_drain π b at_ ck y1 y2 y3 x1 x2 x3 ho ra rn rc wa wn wc mi un ts ve ca dk dt dn dc dp du dy vk vn vs da dan dac jo ph mk wh := by kernel_rfl
theorem ok_drain (b : Nat) (at_ : Int) (ck y1 y2 y3 x1 x2 x3 ho : Int) (ra : Option Addr) (rn rc : Nat) (wa : Option Addr) (wn wc : Nat) (mi un ts ve ca : Int) (dk : Int) (dt dn dc dp : ByteArray) (du : Bool) (dy vk vn : Int) (vs : ByteArray) (da : Option Addr) (dan dac : Nat) (jo ph : Int) (mk : ByteArray) (wh : Int) (R : Value → PH → Prop) (s : PH) (h : vc_drain (RP Try.prog R) b at_ ck y1 y2 y3 x1 x2 x3 ho ra rn rc wa wn wc mi un ts ve ca dk dt dn dc dp du dy vk vn vs da dan dac jo ph mk wh s) : DCalls Try.prog 70 (List.map AV.val [.v (.pointer (some ⟨b, 0, none⟩)), .v (.int .i64 at_), .v (.agg #[.int .i64 ck, .int .i64 y1, .int .i64 y2, .int .i64 y3, .int .i64 x1, .int .i64 x2, .int .i64 x3, .int .i64 ho, .slice ra rn rc, .slice wa wn wc, .int .i64 mi, .int .i64 un, .int .i64 ts, .int .i64 ve, .int .i64 ca, .int .i64 dk, .string dt, .string dn, .string dc, .string dp, .bool du, .int .i64 dy, .int .i64 vk, .int .i64 vn, .string vs, .slice da dan dac, .int .i64 jo, .int .i64 ph, .string mk, .int .i64 wh])]).toArray s R :=
  calls_vcL (c := bodyOf Try.f70) (ann := ann_drain) la_drain (by kernel_rfl) Try.func70 rfl (by kernel_rfl) [.v (.pointer (some ⟨b, 0, none⟩)), .v (.int .i64 at_), .v (.agg #[.int .i64 ck, .int .i64 y1, .int .i64 y2, .int .i64 y3, .int .i64 x1, .int .i64 x2, .int .i64 x3, .int .i64 ho, .slice ra rn rc, .slice wa wn wc, .int .i64 mi, .int .i64 un, .int .i64 ts, .int .i64 ve, .int .i64 ca, .int .i64 dk, .string dt, .string dn, .string dc, .string dp, .bool du, .int .i64 dy, .int .i64 vk, .int .i64 vn, .string vs, .slice da dan dac, .int .i64 jo, .int .i64 ph, .string mk, .int .i64 wh])] [] (by rw [Try.ntmps70]; exact Nat.le_of_ble_eq_true rfl) (by kernel_rfl) (by rw [show Try.f70.ntmps = 26 from Try.ntmps70, eq_drain]; exact h)
/-- (*lintel/board.Board).step -/
def vc_step {W : Type} (π : Prims W) (b : Nat) (p : Addr) : W :=
  π.unSome (some p) fun p0 =>
  π.ld [.int .i64] (p0.add (16 : Nat)) fun ((x1 : Int), _) =>
  π.unSome (some p) fun p2 =>
  π.st (p2.add (16 : Nat)) [(Go.Value.int (IntKind.i64) (IntKind.i64.wrap (x1 + (1 : Int))))] <|
  π.unSome (some p) fun p3 =>
  π.st (p3.add (19 : Nat)) [(Go.Value.string (ByteArray.mk #[]))] <|
  π.unSome (some p) fun p4 =>
  π.st (p4.add (18 : Nat)) [(Go.Value.bool (false))] <|
  π.unSome (some p) fun p5 =>
  π.ld [.int .i64] (p5.add (16 : Nat)) fun ((x6 : Int), _) =>
  π.unSome (some p) fun p7 =>
  π.ld [.int .i64, .str, .str, .str, .str, .bool, .int .i64, .int .i64, .int .i64, .str, .slice] (p7.add (5 : Nat)) fun ((x8 : Int), (t9 : ByteArray), (t10 : ByteArray), (t11 : ByteArray), (t12 : ByteArray), (b13 : Bool), (x14 : Int), (x15 : Int), (x16 : Int), (t17 : ByteArray), ((a18 : Option Addr), (n19 : Nat), (c20 : Nat)), _) =>
  π.unSome (some p) fun p21 =>
  π.ld [.bool] (p21.add (17 : Nat)) fun ((b22 : Bool), _) =>
  π.call (23 : Nat) #[(Go.Value.agg #[(Go.Value.int (IntKind.i64) (x8)), (Go.Value.string (t9)), (Go.Value.string (t10)), (Go.Value.string (t11)), (Go.Value.string (t12)), (Go.Value.bool (b13)), (Go.Value.int (IntKind.i64) (x14)), (Go.Value.int (IntKind.i64) (x15)), (Go.Value.int (IntKind.i64) (x16)), (Go.Value.string (t17)), (Go.Value.slice (a18) (n19) (c20))]), (Go.Value.bool (b22))] (false, [(false, [.slice])]) fun ((((a23 : Option Addr), (n24 : Nat), (c25 : Nat)), _), _) =>
  π.still [.int .i64] (p5.add (16 : Nat)) (x6, ()) <|
  π.ite (x6 == (↑n24 : Int)) (
    π.unSome (some p) fun p26 =>
    π.st (p26.add (20 : Nat)) [(Go.Value.int (IntKind.i64) ((1 : Int)))] <|
    π.unSome (some p) fun p27 =>
    π.ld [.bool] (p27.add (17 : Nat)) fun ((b28 : Bool), _) =>
    π.ite (b28) (
      π.unSome (some p) fun p29 =>
      π.st (p29.add (20 : Nat)) [(Go.Value.int (IntKind.i64) ((2 : Int)))] <|
      π.unSome (some (Addr.mk b (0 : Nat) none)) fun p30 =>
      π.ld [.int .i64] (((p30.add (0 : Nat)).add (0 : Nat)).add (0 : Nat)) fun ((x31 : Int), _) =>
      π.ret (Go.Value.agg #[(Go.Value.int (IntKind.i64) ((0 : Int))), (Go.Value.int (IntKind.i64) ((0 : Int))), (Go.Value.int (IntKind.i64) ((0 : Int))), (Go.Value.int (IntKind.i64) ((0 : Int))), (Go.Value.int (IntKind.i64) ((0 : Int))), (Go.Value.int (IntKind.i64) (x31)), (Go.Value.int (IntKind.i64) ((0 : Int))), (Go.Value.int (IntKind.i64) ((0 : Int))), (Go.Value.bool (true))])
    ) (
      π.unSome (some (Addr.mk b (0 : Nat) none)) fun p32 =>
      π.ld [.int .i64] (((p32.add (0 : Nat)).add (0 : Nat)).add (0 : Nat)) fun ((x33 : Int), _) =>
      π.ret (Go.Value.agg #[(Go.Value.int (IntKind.i64) ((0 : Int))), (Go.Value.int (IntKind.i64) ((0 : Int))), (Go.Value.int (IntKind.i64) ((0 : Int))), (Go.Value.int (IntKind.i64) ((0 : Int))), (Go.Value.int (IntKind.i64) ((0 : Int))), (Go.Value.int (IntKind.i64) (x33)), (Go.Value.int (IntKind.i64) ((0 : Int))), (Go.Value.int (IntKind.i64) ((0 : Int))), (Go.Value.bool (true))])
    )
  ) (
    π.unSome (some (Addr.mk b (0 : Nat) none)) fun p34 =>
    π.ld [.int .i64] (((p34.add (0 : Nat)).add (0 : Nat)).add (0 : Nat)) fun ((x35 : Int), _) =>
    π.ret (Go.Value.agg #[(Go.Value.int (IntKind.i64) ((0 : Int))), (Go.Value.int (IntKind.i64) ((0 : Int))), (Go.Value.int (IntKind.i64) ((0 : Int))), (Go.Value.int (IntKind.i64) ((0 : Int))), (Go.Value.int (IntKind.i64) ((0 : Int))), (Go.Value.int (IntKind.i64) (x35)), (Go.Value.int (IntKind.i64) ((0 : Int))), (Go.Value.int (IntKind.i64) ((0 : Int))), (Go.Value.bool (true))])
  )
def ann_step : Ann := { draws := [(3, { A := [0, 1, 2, 3, 4, 5, 6, 7, 8, 9, 10, 11], chkL := [(12, [3])], eag := [13, 14] })], join := [], loop := [] }
def la_step : LA := { ptr := [(4, 4, 0)], ty := [(4, 80)] }
set_option maxRecDepth 100000 in
theorem eq_step {W : Type} (π : Prims W) (b : Nat) (p : Addr) : bodyL π Try.prog la_step ann_step (mkFr (maskA [] [.v (.pointer (some ⟨b, 0, none⟩)), .v (.pointer (some p))] 0) 50) Try.f112 (bodyOf Try.f112) (mkFr (List.map some [.v (.pointer (some ⟨b, 0, none⟩)), .v (.pointer (some p))]) 50) = vc_step π b p := by kernel_rfl
theorem ok_step (b : Nat) (p : Addr) (R : Value → PH → Prop) (s : PH) (h : vc_step (RP Try.prog R) b p s) : DCalls Try.prog 112 (List.map AV.val [.v (.pointer (some ⟨b, 0, none⟩)), .v (.pointer (some p))]).toArray s R :=
  calls_vcL (c := bodyOf Try.f112) (ann := ann_step) la_step (by kernel_rfl) Try.func112 rfl (by kernel_rfl) [.v (.pointer (some ⟨b, 0, none⟩)), .v (.pointer (some p))] [] (by rw [Try.ntmps112]; exact Nat.le_of_ble_eq_true rfl) (by kernel_rfl) (by rw [show Try.f112.ntmps = 50 from Try.ntmps112, eq_step]; exact h)
/-- (*lintel/board.Board).Clear$1 -/
def vc_clear1 {W : Type} (π : Prims W) (l1 l2 l3 : Int) (p q : Nat) : W :=
  π.ld [.int .i64] (Addr.mk p (0 : Nat) none) fun ((x0 : Int), _) =>
  π.ite (decide (l2 < x0)) (
    π.ld [.int .i64] (Addr.mk q (0 : Nat) none) fun ((x1 : Int), _) =>
    π.call (109 : Nat) #[(Go.Value.agg #[(Go.Value.int (IntKind.i64) (l1)), (Go.Value.int (IntKind.i64) (l2)), (Go.Value.int (IntKind.i64) (l3))]), (Go.Value.int (IntKind.i64) (x1))] (false, [(false, [.bool])]) fun (((b2 : Bool), _), _) =>
    π.ret (Go.Value.bool (b2))
  ) (
    π.ret (Go.Value.bool (false))
  )
def ann_clear1 : Ann := { draws := [], join := [], loop := [] }
def la_clear1 : LA := { ptr := [(3, 3, 0), (5, 3, 1)], ty := [(3, 89)] }
set_option maxRecDepth 100000 in
theorem eq_clear1 {W : Type} (π : Prims W) (l1 l2 l3 : Int) (p q : Nat) : bodyL π Try.prog la_clear1 ann_clear1 (mkFr (maskA [] [.v (.agg #[.int .i64 l1, .int .i64 l2, .int .i64 l3]), .v (.pointer (some ⟨p, 0, none⟩)), .v (.pointer (some ⟨q, 0, none⟩))] 0) 14) Try.f139 (bodyOf Try.f139) (mkFr (List.map some [.v (.agg #[.int .i64 l1, .int .i64 l2, .int .i64 l3]), .v (.pointer (some ⟨p, 0, none⟩)), .v (.pointer (some ⟨q, 0, none⟩))]) 14) = vc_clear1 π l1 l2 l3 p q := by kernel_rfl
theorem ok_clear1 (l1 l2 l3 : Int) (p q : Nat) (R : Value → PH → Prop) (s : PH) (h : vc_clear1 (RP Try.prog R) l1 l2 l3 p q s) : DCalls Try.prog 139 (List.map AV.val [.v (.agg #[.int .i64 l1, .int .i64 l2, .int .i64 l3]), .v (.pointer (some ⟨p, 0, none⟩)), .v (.pointer (some ⟨q, 0, none⟩))]).toArray s R :=
  calls_vcL (c := bodyOf Try.f139) (ann := ann_clear1) la_clear1 (by kernel_rfl) Try.func139 rfl (by kernel_rfl) [.v (.agg #[.int .i64 l1, .int .i64 l2, .int .i64 l3]), .v (.pointer (some ⟨p, 0, none⟩)), .v (.pointer (some ⟨q, 0, none⟩))] [] (by rw [Try.ntmps139]; exact Nat.le_of_ble_eq_true rfl) (by kernel_rfl) (by rw [show Try.f139.ntmps = 14 from Try.ntmps139, eq_clear1]; exact h)
/-- slices.ContainsFunc[[]lintel/api.Lease,lintel/api.Lease] -/
def vc_ContainsL {W : Type} (π : Prims W) (a : Option Addr) (an ac : Nat) (p q : Nat) : W :=
  π.call (136 : Nat) #[(Go.Value.slice (a) (an) (ac)), (Go.Value.func (Fn.func (139 : Nat)) #[] #[(Go.Value.pointer (some (Addr.mk p (0 : Nat) none))), (Go.Value.pointer (some (Addr.mk q (0 : Nat) none)))])] (false, [(false, [.int .i64])]) fun (((x0 : Int), _), _) =>
  π.ret (Go.Value.bool (decide (x0 ≥ (0 : Int))))
def ann_ContainsL : Ann := { draws := [], join := [], loop := [] }
def la_ContainsL : LA := { ptr := [], ty := [] }
set_option maxRecDepth 100000 in
theorem eq_ContainsL {W : Type} (π : Prims W) (a : Option Addr) (an ac : Nat) (p q : Nat) : bodyL π Try.prog la_ContainsL ann_ContainsL (mkFr (maskA [] [.v (.slice a an ac), .v (.func (.func 139) #[] #[.pointer (some ⟨p, 0, none⟩), .pointer (some ⟨q, 0, none⟩)])] 0) 9) Try.f138 (bodyOf Try.f138) (mkFr (List.map some [.v (.slice a an ac), .v (.func (.func 139) #[] #[.pointer (some ⟨p, 0, none⟩), .pointer (some ⟨q, 0, none⟩)])]) 9) = vc_ContainsL π a an ac p q := by kernel_rfl
theorem ok_ContainsL (a : Option Addr) (an ac : Nat) (p q : Nat) (R : Value → PH → Prop) (s : PH) (h : vc_ContainsL (RP Try.prog R) a an ac p q s) : DCalls Try.prog 138 (List.map AV.val [.v (.slice a an ac), .v (.func (.func 139) #[] #[.pointer (some ⟨p, 0, none⟩), .pointer (some ⟨q, 0, none⟩)])]).toArray s R :=
  calls_vcL (c := bodyOf Try.f138) (ann := ann_ContainsL) la_ContainsL (by kernel_rfl) Try.func138 rfl (by kernel_rfl) [.v (.slice a an ac), .v (.func (.func 139) #[] #[.pointer (some ⟨p, 0, none⟩), .pointer (some ⟨q, 0, none⟩)])] [] (by rw [Try.ntmps138]; exact Nat.le_of_ble_eq_true rfl) (by kernel_rfl) (by rw [show Try.f138.ntmps = 9 from Try.ntmps138, eq_ContainsL]; exact h)
/-- slices.IndexFunc[[]lintel/api.Lease,lintel/api.Lease] -/
def vc_IndexFuncE {W : Type} (π : Prims W) (a : Option Addr) (an ac : Nat) (p q : Nat) : W :=
  π.loop [(false, [.int .i64]), (false, [.int .i64])] (((↑an : Int), ()), ((0 : Int), ()), ()) fun (((x1 : Int), _), ((x2 : Int), _), _) again0 =>
    π.ite (decide (x2 < x1)) (
      π.guard ((0 : Int) ≤ x2 ∧ x2 < (↑an : Int)) <|
      π.unSome (a) fun p3 =>
      π.ld [.int .i64, .int .i64, .int .i64] (p3.add (x2.toNat * (3 : Nat))) fun ((x4 : Int), (x5 : Int), (x6 : Int), _) =>
      π.call (139 : Nat) #[(Go.Value.agg #[(Go.Value.int (IntKind.i64) (x4)), (Go.Value.int (IntKind.i64) (x5)), (Go.Value.int (IntKind.i64) (x6))]), (Go.Value.pointer (some (Addr.mk p (0 : Nat) none))), (Go.Value.pointer (some (Addr.mk q (0 : Nat) none)))] (false, [(false, [.bool])]) fun (((b7 : Bool), _), _) =>
      π.ite (b7) (
        π.ret (Go.Value.int (IntKind.i64) (x2))
      ) (
        again0 ((x1, ()), (IntKind.i64.wrap (x2 + (1 : Int)), ()), ())
      )
    ) (
      π.ret (Go.Value.int (IntKind.i64) ((-1 : Int)))
    )
def ann_IndexFuncE : Ann := { draws := [], join := [], loop := [(2, [(7, 3), (8, 3)])] }
def la_IndexFuncE : LA := { ptr := [], ty := [] }
set_option maxRecDepth 100000 in
theorem eq_IndexFuncE {W : Type} (π : Prims W) (a : Option Addr) (an ac : Nat) (p q : Nat) : bodyL π Try.prog la_IndexFuncE ann_IndexFuncE (mkFr (maskA [] [.v (.slice a an ac), .v (.func (.func 139) #[] #[.pointer (some ⟨p, 0, none⟩), .pointer (some ⟨q, 0, none⟩)])] 0) 19) Try.f136 (bodyOf Try.f136) (mkFr (List.map some [.v (.slice a an ac), .v (.func (.func 139) #[] #[.pointer (some ⟨p, 0, none⟩), .pointer (some ⟨q, 0, none⟩)])]) 19) = vc_IndexFuncE π a an ac p q := by kernel_rfl
theorem ok_IndexFuncE (a : Option Addr) (an ac : Nat) (p q : Nat) (R : Value → PH → Prop) (s : PH) (h : vc_IndexFuncE (RP Try.prog R) a an ac p q s) : DCalls Try.prog 136 (List.map AV.val [.v (.slice a an ac), .v (.func (.func 139) #[] #[.pointer (some ⟨p, 0, none⟩), .pointer (some ⟨q, 0, none⟩)])]).toArray s R :=
  calls_vcL (c := bodyOf Try.f136) (ann := ann_IndexFuncE) la_IndexFuncE (by kernel_rfl) Try.func136 rfl (by kernel_rfl) [.v (.slice a an ac), .v (.func (.func 139) #[] #[.pointer (some ⟨p, 0, none⟩), .pointer (some ⟨q, 0, none⟩)])] [] (by rw [Try.ntmps136]; exact Nat.le_of_ble_eq_true rfl) (by kernel_rfl) (by rw [show Try.f136.ntmps = 19 from Try.ntmps136, eq_IndexFuncE]; exact h)
/-- (*lintel/board.Board).Clear -/
def vc_Clear {W : Type} (π : Prims W) (b : Nat) (at_ below : Int) : W :=
  π.nw (Go.Obj.cells #[(Go.Value.int (IntKind.i64) (at_))] (3 : Nat) ((0 : Nat), (0 : Nat))) fun r0 =>
  π.nw (Go.Obj.cells #[(Go.Value.int (IntKind.i64) (below))] (3 : Nat) ((0 : Nat), (0 : Nat))) fun r1 =>
  π.ite ((some (Addr.mk b (0 : Nat) none)).isNone) (
    π.ret (Go.Value.bool (true))
  ) (
    π.unSome (some (Addr.mk b (0 : Nat) none)) fun p2 =>
    π.ld [.slice] ((p2.add (0 : Nat)).add (3 : Nat)) fun (((a3 : Option Addr), (n4 : Nat), (c5 : Nat)), _) =>
    π.call (138 : Nat) #[(Go.Value.slice (a3) (n4) (c5)), (Go.Value.func (Fn.func (139 : Nat)) #[] #[(Go.Value.pointer (some (Addr.mk r1 (0 : Nat) none))), (Go.Value.pointer (some (Addr.mk r0 (0 : Nat) none)))])] (false, [(false, [.bool])]) fun (((b6 : Bool), _), _) =>
    π.ret (Go.Value.bool (!b6))
  )
def ann_Clear : Ann := { draws := [], join := [], loop := [] }
def la_Clear : LA := { ptr := [], ty := [] }
set_option maxRecDepth 100000 in
theorem eq_Clear {W : Type} (π : Prims W) (b : Nat) (at_ below : Int) : bodyL π Try.prog la_Clear ann_Clear (mkFr (maskA [] [.v (.pointer (some ⟨b, 0, none⟩)), .v (.int .i64 at_), .v (.int .i64 below)] 0) 19) Try.f111 (bodyOf Try.f111) (mkFr (List.map some [.v (.pointer (some ⟨b, 0, none⟩)), .v (.int .i64 at_), .v (.int .i64 below)]) 19) = vc_Clear π b at_ below := by kernel_rfl
theorem ok_Clear (b : Nat) (at_ below : Int) (R : Value → PH → Prop) (s : PH) (h : vc_Clear (RP Try.prog R) b at_ below s) : DCalls Try.prog 111 (List.map AV.val [.v (.pointer (some ⟨b, 0, none⟩)), .v (.int .i64 at_), .v (.int .i64 below)]).toArray s R :=
  calls_vcL (c := bodyOf Try.f111) (ann := ann_Clear) la_Clear (by kernel_rfl) Try.func111 rfl (by kernel_rfl) [.v (.pointer (some ⟨b, 0, none⟩)), .v (.int .i64 at_), .v (.int .i64 below)] [] (by rw [Try.ntmps111]; exact Nat.le_of_ble_eq_true rfl) (by kernel_rfl) (by rw [show Try.f111.ntmps = 19 from Try.ntmps111, eq_Clear]; exact h)
/-- (*lintel/board.Board).next -/
def vc_bnext {W : Type} (π : Prims W) (b : Nat) (at_ : Int) (ck y1 y2 y3 x1 x2 x3 ho : Int) (ra : Option Addr) (rn rc : Nat) (wa : Option Addr) (wn wc : Nat) (mi un ts ve ca : Int) (dk : Int) (dt dn dc dp : ByteArray) (du : Bool) (dy vk vn : Int) (vs : ByteArray) (da : Option Addr) (dan dac : Nat) (jo ph : Int) (mk : ByteArray) (wh : Int) : W :=
  π.nw (Go.Obj.cells #[(Go.Value.int (IntKind.i64) ((1 : Int))), (Go.Value.int (IntKind.i64) ((2 : Int))), (Go.Value.int (IntKind.i64) ((3 : Int)))] (3 : Nat) ((0 : Nat), (0 : Nat))) fun r0 =>
  π.call (110 : Nat) #[(Go.Value.pointer (some (Addr.mk b (0 : Nat) none))), (Go.Value.agg #[(Go.Value.int (IntKind.i64) (ck)), (Go.Value.int (IntKind.i64) (y1)), (Go.Value.int (IntKind.i64) (y2)), (Go.Value.int (IntKind.i64) (y3)), (Go.Value.int (IntKind.i64) (x1)), (Go.Value.int (IntKind.i64) (x2)), (Go.Value.int (IntKind.i64) (x3)), (Go.Value.int (IntKind.i64) (ho)), (Go.Value.slice (ra) (rn) (rc)), (Go.Value.slice (wa) (wn) (wc)), (Go.Value.int (IntKind.i64) (mi)), (Go.Value.int (IntKind.i64) (un)), (Go.Value.int (IntKind.i64) (ts)), (Go.Value.int (IntKind.i64) (ve)), (Go.Value.int (IntKind.i64) (ca)), (Go.Value.int (IntKind.i64) (dk)), (Go.Value.string (dt)), (Go.Value.string (dn)), (Go.Value.string (dc)), (Go.Value.string (dp)), (Go.Value.bool (du)), (Go.Value.int (IntKind.i64) (dy)), (Go.Value.int (IntKind.i64) (vk)), (Go.Value.int (IntKind.i64) (vn)), (Go.Value.string (vs)), (Go.Value.slice (da) (dan) (dac)), (Go.Value.int (IntKind.i64) (jo)), (Go.Value.int (IntKind.i64) (ph)), (Go.Value.string (mk)), (Go.Value.int (IntKind.i64) (wh))]), (Go.Value.slice (some (Addr.mk r0 (0 : Nat) none)) ((3 : Nat)) ((3 : Nat)))] (false, [(false, [.ptr])]) fun ((p1, _), _) =>
  π.ite (p1.isNone) (
    π.ret (Go.Value.agg #[(Go.Value.int (IntKind.i64) ((160 : Int))), (Go.Value.int (IntKind.i64) ((0 : Int))), (Go.Value.int (IntKind.i64) ((0 : Int))), (Go.Value.int (IntKind.i64) ((0 : Int))), (Go.Value.int (IntKind.i64) ((0 : Int))), (Go.Value.int (IntKind.i64) ((0 : Int))), (Go.Value.int (IntKind.i64) ((0 : Int))), (Go.Value.int (IntKind.i64) ((0 : Int))), (Go.Value.bool (false))])
  ) (
    π.callQ (67 : Nat) #[(Go.Value.pointer (p1))] (false, [(true, [.int .i64, .int .i64])]) fun (((x2 : Int), (x3 : Int), _), _) =>
    π.unSome (some (Addr.mk b (0 : Nat) none)) fun p4 =>
    π.ld [.int .i64] (((p4.add (0 : Nat)).add (0 : Nat)).add (0 : Nat)) fun ((x5 : Int), _) =>
    π.still [.int .i64] (((p4.add (0 : Nat)).add (0 : Nat)).add (0 : Nat)) (x5, ()) <|
    π.join [(true, [.int .i64, .int .i64, .int .i64, .int .i64, .int .i64, .int .i64, .int .i64, .int .i64, .bool]), (false, [.ptr]), (true, [.int .i64, .int .i64]), (false, [.int .i64])] (fun J6 =>
      π.ite (x2 == (2 : Int)) (
        π.unSome (p1) fun p7 =>
        π.ld [.bool] (p7.add (18 : Nat)) fun ((b8 : Bool), _) =>
        π.ite (!b8) (
          π.ret (Go.Value.agg #[(Go.Value.int (IntKind.i64) ((160 : Int))), (Go.Value.int (IntKind.i64) ((0 : Int))), (Go.Value.int (IntKind.i64) ((0 : Int))), (Go.Value.int (IntKind.i64) ((0 : Int))), (Go.Value.int (IntKind.i64) ((0 : Int))), (Go.Value.int (IntKind.i64) ((0 : Int))), (Go.Value.int (IntKind.i64) ((0 : Int))), (Go.Value.int (IntKind.i64) ((0 : Int))), (Go.Value.bool (false))])
        ) (
          J6 (((0 : Int), (0 : Int), (0 : Int), (0 : Int), (0 : Int), (0 : Int), (0 : Int), (0 : Int), false, ()), (p1, ()), (x2, x3, ()), (IntKind.i64.wrap (x5 + (1 : Int)), ()), ())
        )
      ) (
        J6 (((0 : Int), (0 : Int), (0 : Int), (0 : Int), (0 : Int), (0 : Int), (0 : Int), (0 : Int), false, ()), (p1, ()), (x2, x3, ()), (x5, ()), ())
      )
    ) (fun (((x9 : Int), (x10 : Int), (x11 : Int), (x12 : Int), (x13 : Int), (x14 : Int), (x15 : Int), (x16 : Int), (b17 : Bool), _), (p18, _), ((x19 : Int), (x20 : Int), _), ((x21 : Int), _), _) =>
      π.call (111 : Nat) #[(Go.Value.pointer (some (Addr.mk b (0 : Nat) none))), (Go.Value.int (IntKind.i64) (at_)), (Go.Value.int (IntKind.i64) (x21))] (false, [(false, [.bool])]) fun (((b22 : Bool), _), _) =>
      π.ite (!b22) (
        π.ret (Go.Value.agg #[(Go.Value.int (IntKind.i64) ((161 : Int))), (Go.Value.int (IntKind.i64) ((0 : Int))), (Go.Value.int (IntKind.i64) ((0 : Int))), (Go.Value.int (IntKind.i64) ((0 : Int))), (Go.Value.int (IntKind.i64) ((0 : Int))), (Go.Value.int (IntKind.i64) ((0 : Int))), (Go.Value.int (IntKind.i64) ((0 : Int))), (Go.Value.int (IntKind.i64) ((0 : Int))), (Go.Value.bool (false))])
      ) (
        π.ite (x19 != (3 : Int)) (
          π.join [(true, [.int .i64, .int .i64, .int .i64, .int .i64, .int .i64, .int .i64, .int .i64, .int .i64, .bool]), (false, [.ptr]), (true, [.int .i64, .int .i64, .slice]), (false, [.int .i64])] (fun J23 =>
            π.unSome (some (Addr.mk b (0 : Nat) none)) fun p24 =>
            π.ld [.int .i64, .int .i64, .slice] ((p24.add (0 : Nat)).add (0 : Nat)) fun ((x25 : Int), (x26 : Int), ((a27 : Option Addr), (n28 : Nat), (c29 : Nat)), _) =>
            π.unSome (p18) fun p30 =>
            π.ld [.int .i64, .str, .str, .str, .str, .bool, .int .i64, .int .i64, .int .i64, .str, .slice] (p30.add (5 : Nat)) fun ((x31 : Int), (t32 : ByteArray), (t33 : ByteArray), (t34 : ByteArray), (t35 : ByteArray), (b36 : Bool), (x37 : Int), (x38 : Int), (x39 : Int), (t40 : ByteArray), ((a41 : Option Addr), (n42 : Nat), (c43 : Nat)), _) =>
            π.both (
              π.call (14 : Nat) #[(Go.Value.agg #[(Go.Value.int (IntKind.i64) (x25)), (Go.Value.int (IntKind.i64) (x26)), (Go.Value.slice (a27) (n28) (c29))]), (Go.Value.agg #[(Go.Value.int (IntKind.i64) (x31)), (Go.Value.string (t32)), (Go.Value.string (t33)), (Go.Value.string (t34)), (Go.Value.string (t35)), (Go.Value.bool (b36)), (Go.Value.int (IntKind.i64) (x37)), (Go.Value.int (IntKind.i64) (x38)), (Go.Value.int (IntKind.i64) (x39)), (Go.Value.string (t40)), (Go.Value.slice (a41) (n42) (c43))]), (Go.Value.int (IntKind.i64) (x20))] (true, [(true, [.int .i64, .int .i64, .slice]), (false, [.int .i64])]) fun (((x44 : Int), (x45 : Int), ((a46 : Option Addr), (n47 : Nat), (c48 : Nat)), _), ((x49 : Int), _), _) =>
              J23 ((x9, x10, x11, x12, x13, x14, x15, x16, b17, ()), (p18, ()), (x44, x45, (a46, n47, c48), ()), (x49, ()), ())
            ) (
              π.call (14 : Nat) #[(Go.Value.agg #[(Go.Value.int (IntKind.i64) (x25)), (Go.Value.int (IntKind.i64) (x26)), (Go.Value.slice (a27) (n28) (c29))]), (Go.Value.agg #[(Go.Value.int (IntKind.i64) (x31)), (Go.Value.string (t32)), (Go.Value.string (t33)), (Go.Value.string (t34)), (Go.Value.string (t35)), (Go.Value.bool (b36)), (Go.Value.int (IntKind.i64) (x37)), (Go.Value.int (IntKind.i64) (x38)), (Go.Value.int (IntKind.i64) (x39)), (Go.Value.string (t40)), (Go.Value.slice (a41) (n42) (c43))]), (Go.Value.int (IntKind.i64) (x20))] (true, [(true, [.int .i64, .int .i64, .slice]), (false, [.int .i64])]) fun (((x50 : Int), (x51 : Int), ((a52 : Option Addr), (n53 : Nat), (c54 : Nat)), _), ((x55 : Int), _), _) =>
              J23 ((x9, x10, x11, x12, x13, x14, x15, x16, b17, ()), (p18, ()), (x50, x51, (a52, n53, c54), ()), (x55, ()), ())
            )
          ) (fun (((x56 : Int), (x57 : Int), (x58 : Int), (x59 : Int), (x60 : Int), (x61 : Int), (x62 : Int), (x63 : Int), (b64 : Bool), _), (p65, _), ((x66 : Int), (x67 : Int), ((a68 : Option Addr), (n69 : Nat), (c70 : Nat)), _), ((x71 : Int), _), _) =>
            π.ite (x71 != (0 : Int)) (
              π.unSome (p65) fun p72 =>
              π.st (p72.add (20 : Nat)) [(Go.Value.int (IntKind.i64) ((3 : Int)))] <|
              π.unSome (p65) fun p73 =>
              π.st (p73.add (21 : Nat)) [(Go.Value.int (IntKind.i64) (x71))] <|
              π.unSome (p65) fun p74 =>
              π.st (p74.add (18 : Nat)) [(Go.Value.bool (false))] <|
              π.ret (Go.Value.agg #[(Go.Value.int (IntKind.i64) ((0 : Int))), (Go.Value.int (IntKind.i64) ((0 : Int))), (Go.Value.int (IntKind.i64) ((0 : Int))), (Go.Value.int (IntKind.i64) ((0 : Int))), (Go.Value.int (IntKind.i64) ((0 : Int))), (Go.Value.int (IntKind.i64) ((0 : Int))), (Go.Value.int (IntKind.i64) ((0 : Int))), (Go.Value.int (IntKind.i64) ((0 : Int))), (Go.Value.bool (true))])
            ) (
              π.unSome (some (Addr.mk b (0 : Nat) none)) fun p75 =>
              π.st ((p75.add (0 : Nat)).add (0 : Nat)) [(Go.Value.int (IntKind.i64) (x66)), (Go.Value.int (IntKind.i64) (x67)), (Go.Value.slice (a68) (n69) (c70))] <|
              π.call (112 : Nat) #[(Go.Value.pointer (some (Addr.mk b (0 : Nat) none))), (Go.Value.pointer (p65))] (false, [(true, [.int .i64, .int .i64, .int .i64, .int .i64, .int .i64, .int .i64, .int .i64, .int .i64, .bool])]) fun (((x76 : Int), (x77 : Int), (x78 : Int), (x79 : Int), (x80 : Int), (x81 : Int), (x82 : Int), (x83 : Int), (b84 : Bool), _), _) =>
              π.ret (Go.Value.agg #[(Go.Value.int (IntKind.i64) (x76)), (Go.Value.int (IntKind.i64) (x77)), (Go.Value.int (IntKind.i64) (x78)), (Go.Value.int (IntKind.i64) (x79)), (Go.Value.int (IntKind.i64) (x80)), (Go.Value.int (IntKind.i64) (x81)), (Go.Value.int (IntKind.i64) (x82)), (Go.Value.int (IntKind.i64) (x83)), (Go.Value.bool (b84))])
            )
          )
        ) (
          π.call (112 : Nat) #[(Go.Value.pointer (some (Addr.mk b (0 : Nat) none))), (Go.Value.pointer (p18))] (false, [(true, [.int .i64, .int .i64, .int .i64, .int .i64, .int .i64, .int .i64, .int .i64, .int .i64, .bool])]) fun (((x85 : Int), (x86 : Int), (x87 : Int), (x88 : Int), (x89 : Int), (x90 : Int), (x91 : Int), (x92 : Int), (b93 : Bool), _), _) =>
          π.ret (Go.Value.agg #[(Go.Value.int (IntKind.i64) (x85)), (Go.Value.int (IntKind.i64) (x86)), (Go.Value.int (IntKind.i64) (x87)), (Go.Value.int (IntKind.i64) (x88)), (Go.Value.int (IntKind.i64) (x89)), (Go.Value.int (IntKind.i64) (x90)), (Go.Value.int (IntKind.i64) (x91)), (Go.Value.int (IntKind.i64) (x92)), (Go.Value.bool (b93))])
        )
      )
    )
  )
def ann_bnext : Ann := { draws := [(4, { A := [0, 1, 2, 3, 4, 5, 6, 7], quiet := [1], chkL := [(9, [7])], eag := [10] }), (12, { A := [0, 1, 2, 3, 4, 5, 6, 7, 8, 9, 10], eag := [12, 13, 14, 17] })], join := [(9, [(6, 80), (7, 127), (8, 56), (9, 3)]), (13, [(6, 80), (7, 127), (10, 24), (11, 33)])], loop := [] }
def la_bnext : LA := { ptr := [(5, 5, 0), (6, 6, 0), (8, 8, 0), (10, 10, 0), (27, 8, 0), (44, 8, 0), (57, 8, 1)], ty := [(5, 72), (6, 80), (8, 56), (10, 24)] }
set_option maxRecDepth 100000 in
theorem eq_bnext {W : Type} (π : Prims W) (b : Nat) (at_ : Int) (ck y1 y2 y3 x1 x2 x3 ho : Int) (ra : Option Addr) (rn rc : Nat) (wa : Option Addr) (wn wc : Nat) (mi un ts ve ca : Int) (dk : Int) (dt dn dc dp : ByteArray) (du : Bool) (dy vk vn : Int) (vs : ByteArray) (da : Option Addr) (dan dac : Nat) (jo ph : Int) (mk : ByteArray) (wh : Int) : bodyL π Try.prog la_bnext ann_bnext (mkFr (maskA [] [.v (.pointer (some ⟨b, 0, none⟩)), .v (.int .i64 at_), .v (.agg #[.int .i64 ck, .int .i64 y1, .int .i64 y2, .int .i64 y3, .int .i64 x1, .int .i64 x2, .int .i64 x3, .int .i64 ho, .slice ra rn rc, .slice wa wn wc, .int .i64 mi, .int .i64 un, .int .i64 ts, .int .i64 ve, .int .i64 ca, .int .i64 dk, .string dt, .string dn, .string dc, .string dp, .bool du, .int .i64 dy, .int .i64 vk, .int .i64 vn, .string vs, .slice da dan dac, .int .i64 jo, .int .i64 ph, .string mk, .int .i64 wh])] 0) 83) Try.f71 (bodyOf Try.f71) (mkFr (List.map some [.v (.pointer (some ⟨b, 0, none⟩)), .v (.int .i64 at_), .v (.agg #[.int .i64 ck, .int .i64 y1, .int .i64 y2, .int .i64 y3, .int .i64 x1, .int .i64 x2, .int .i64 x3, .int .i64 ho, .slice ra rn rc, .slice wa wn wc, .int .i64 mi, .int .i64 un, .int .i64 ts, .int .i64 ve, .int .i64 ca, .int .i64 dk, .string dt, .string dn, .string dc, .string dp, .bool du, .int .i64 dy, .int .i64 vk, .int .i64 vn, .string vs, .slice da dan dac, .int .i64 jo, .int .i64 ph, .string mk, .int .i64 wh])]) 83) = vc_bnext π b at_ ck y1 y2 y3 x1 x2 x3 ho ra rn rc wa wn wc mi un ts ve ca dk dt dn dc dp du dy vk vn vs da dan dac jo ph mk wh := by kernel_rfl
theorem ok_bnext (b : Nat) (at_ : Int) (ck y1 y2 y3 x1 x2 x3 ho : Int) (ra : Option Addr) (rn rc : Nat) (wa : Option Addr) (wn wc : Nat) (mi un ts ve ca : Int) (dk : Int) (dt dn dc dp : ByteArray) (du : Bool) (dy vk vn : Int) (vs : ByteArray) (da : Option Addr) (dan dac : Nat) (jo ph : Int) (mk : ByteArray) (wh : Int) (R : Value → PH → Prop) (s : PH) (h : vc_bnext (RP Try.prog R) b at_ ck y1 y2 y3 x1 x2 x3 ho ra rn rc wa wn wc mi un ts ve ca dk dt dn dc dp du dy vk vn vs da dan dac jo ph mk wh s) : DCalls Try.prog 71 (List.map AV.val [.v (.pointer (some ⟨b, 0, none⟩)), .v (.int .i64 at_), .v (.agg #[.int .i64 ck, .int .i64 y1, .int .i64 y2, .int .i64 y3, .int .i64 x1, .int .i64 x2, .int .i64 x3, .int .i64 ho, .slice ra rn rc, .slice wa wn wc, .int .i64 mi, .int .i64 un, .int .i64 ts, .int .i64 ve, .int .i64 ca, .int .i64 dk, .string dt, .string dn, .string dc, .string dp, .bool du, .int .i64 dy, .int .i64 vk, .int .i64 vn, .string vs, .slice da dan dac, .int .i64 jo, .int .i64 ph, .string mk, .int .i64 wh])]).toArray s R :=
  calls_vcL (c := bodyOf Try.f71) (ann := ann_bnext) la_bnext (by kernel_rfl) Try.func71 rfl (by kernel_rfl) [.v (.pointer (some ⟨b, 0, none⟩)), .v (.int .i64 at_), .v (.agg #[.int .i64 ck, .int .i64 y1, .int .i64 y2, .int .i64 y3, .int .i64 x1, .int .i64 x2, .int .i64 x3, .int .i64 ho, .slice ra rn rc, .slice wa wn wc, .int .i64 mi, .int .i64 un, .int .i64 ts, .int .i64 ve, .int .i64 ca, .int .i64 dk, .string dt, .string dn, .string dc, .string dp, .bool du, .int .i64 dy, .int .i64 vk, .int .i64 vn, .string vs, .slice da dan dac, .int .i64 jo, .int .i64 ph, .string mk, .int .i64 wh])] [] (by rw [Try.ntmps71]; exact Nat.le_of_ble_eq_true rfl) (by kernel_rfl) (by rw [show Try.f71.ntmps = 83 from Try.ntmps71, eq_bnext]; exact h)
/-- (*lintel/board.Board).mark -/
def vc_bmark {W : Type} (π : Prims W) (b : Nat) (at_ : Int) (ck y1 y2 y3 x1 x2 x3 ho : Int) (ra : Option Addr) (rn rc : Nat) (wa : Option Addr) (wn wc : Nat) (mi un ts ve ca : Int) (dk : Int) (dt dn dc dp : ByteArray) (du : Bool) (dy vk vn : Int) (vs : ByteArray) (da : Option Addr) (dan dac : Nat) (jo ph : Int) (mk : ByteArray) (wh : Int) : W :=
  π.nw (Go.Obj.cells #[(Go.Value.int (IntKind.i64) ((4 : Int))), (Go.Value.int (IntKind.i64) ((5 : Int)))] (3 : Nat) ((0 : Nat), (0 : Nat))) fun r0 =>
  π.call (110 : Nat) #[(Go.Value.pointer (some (Addr.mk b (0 : Nat) none))), (Go.Value.agg #[(Go.Value.int (IntKind.i64) (ck)), (Go.Value.int (IntKind.i64) (y1)), (Go.Value.int (IntKind.i64) (y2)), (Go.Value.int (IntKind.i64) (y3)), (Go.Value.int (IntKind.i64) (x1)), (Go.Value.int (IntKind.i64) (x2)), (Go.Value.int (IntKind.i64) (x3)), (Go.Value.int (IntKind.i64) (ho)), (Go.Value.slice (ra) (rn) (rc)), (Go.Value.slice (wa) (wn) (wc)), (Go.Value.int (IntKind.i64) (mi)), (Go.Value.int (IntKind.i64) (un)), (Go.Value.int (IntKind.i64) (ts)), (Go.Value.int (IntKind.i64) (ve)), (Go.Value.int (IntKind.i64) (ca)), (Go.Value.int (IntKind.i64) (dk)), (Go.Value.string (dt)), (Go.Value.string (dn)), (Go.Value.string (dc)), (Go.Value.string (dp)), (Go.Value.bool (du)), (Go.Value.int (IntKind.i64) (dy)), (Go.Value.int (IntKind.i64) (vk)), (Go.Value.int (IntKind.i64) (vn)), (Go.Value.string (vs)), (Go.Value.slice (da) (dan) (dac)), (Go.Value.int (IntKind.i64) (jo)), (Go.Value.int (IntKind.i64) (ph)), (Go.Value.string (mk)), (Go.Value.int (IntKind.i64) (wh))]), (Go.Value.slice (some (Addr.mk r0 (0 : Nat) none)) ((2 : Nat)) ((2 : Nat)))] (false, [(false, [.ptr])]) fun ((p1, _), _) =>
  π.ite (p1.isNone) (
    π.ret (Go.Value.agg #[(Go.Value.int (IntKind.i64) ((160 : Int))), (Go.Value.int (IntKind.i64) ((0 : Int))), (Go.Value.int (IntKind.i64) ((0 : Int))), (Go.Value.int (IntKind.i64) ((0 : Int))), (Go.Value.int (IntKind.i64) ((0 : Int))), (Go.Value.int (IntKind.i64) ((0 : Int))), (Go.Value.int (IntKind.i64) ((0 : Int))), (Go.Value.int (IntKind.i64) ((0 : Int))), (Go.Value.bool (false))])
  ) (
    π.ite (ve == (1 : Int)) (
      π.call (112 : Nat) #[(Go.Value.pointer (some (Addr.mk b (0 : Nat) none))), (Go.Value.pointer (p1))] (false, [(true, [.int .i64, .int .i64, .int .i64, .int .i64, .int .i64, .int .i64, .int .i64, .int .i64, .bool])]) fun (((x2 : Int), (x3 : Int), (x4 : Int), (x5 : Int), (x6 : Int), (x7 : Int), (x8 : Int), (x9 : Int), (b10 : Bool), _), _) =>
      π.ret (Go.Value.agg #[(Go.Value.int (IntKind.i64) ((0 : Int))), (Go.Value.int (IntKind.i64) ((0 : Int))), (Go.Value.int (IntKind.i64) ((0 : Int))), (Go.Value.int (IntKind.i64) ((0 : Int))), (Go.Value.int (IntKind.i64) ((0 : Int))), (Go.Value.int (IntKind.i64) ((0 : Int))), (Go.Value.int (IntKind.i64) ((0 : Int))), (Go.Value.int (IntKind.i64) ((0 : Int))), (Go.Value.bool (true))])
    ) (
      π.unSome (p1) fun p11 =>
      π.ld [.str] (p11.add (19 : Nat)) fun ((t12 : ByteArray), _) =>
      π.unSome (p1) fun p13 =>
      π.st (p13.add (19 : Nat)) [(Go.Value.string (if (!Op.bytesLess t12.toList mk.toList) = true then t12 else mk))] <|
      π.ret (Go.Value.agg #[(Go.Value.int (IntKind.i64) ((0 : Int))), (Go.Value.int (IntKind.i64) ((0 : Int))), (Go.Value.int (IntKind.i64) ((0 : Int))), (Go.Value.int (IntKind.i64) ((0 : Int))), (Go.Value.int (IntKind.i64) ((0 : Int))), (Go.Value.int (IntKind.i64) ((0 : Int))), (Go.Value.int (IntKind.i64) ((0 : Int))), (Go.Value.int (IntKind.i64) ((0 : Int))), (Go.Value.bool (true))])
    )
  )
def ann_bmark : Ann := { draws := [(6, { A := [0, 1, 2, 3, 4, 5, 6, 7, 8, 9] })], join := [], loop := [] }
def la_bmark : LA := { ptr := [(5, 5, 0), (6, 6, 0), (15, 5, 13), (26, 5, 28)], ty := [(5, 72), (6, 80)] }
set_option maxRecDepth 100000 in
theorem eq_bmark {W : Type} (π : Prims W) (b : Nat) (at_ : Int) (ck y1 y2 y3 x1 x2 x3 ho : Int) (ra : Option Addr) (rn rc : Nat) (wa : Option Addr) (wn wc : Nat) (mi un ts ve ca : Int) (dk : Int) (dt dn dc dp : ByteArray) (du : Bool) (dy vk vn : Int) (vs : ByteArray) (da : Option Addr) (dan dac : Nat) (jo ph : Int) (mk : ByteArray) (wh : Int) : bodyL π Try.prog la_bmark ann_bmark (mkFr (maskA [] [.v (.pointer (some ⟨b, 0, none⟩)), .v (.int .i64 at_), .v (.agg #[.int .i64 ck, .int .i64 y1, .int .i64 y2, .int .i64 y3, .int .i64 x1, .int .i64 x2, .int .i64 x3, .int .i64 ho, .slice ra rn rc, .slice wa wn wc, .int .i64 mi, .int .i64 un, .int .i64 ts, .int .i64 ve, .int .i64 ca, .int .i64 dk, .string dt, .string dn, .string dc, .string dp, .bool du, .int .i64 dy, .int .i64 vk, .int .i64 vn, .string vs, .slice da dan dac, .int .i64 jo, .int .i64 ph, .string mk, .int .i64 wh])] 0) 32) Try.f72 (bodyOf Try.f72) (mkFr (List.map some [.v (.pointer (some ⟨b, 0, none⟩)), .v (.int .i64 at_), .v (.agg #[.int .i64 ck, .int .i64 y1, .int .i64 y2, .int .i64 y3, .int .i64 x1, .int .i64 x2, .int .i64 x3, .int .i64 ho, .slice ra rn rc, .slice wa wn wc, .int .i64 mi, .int .i64 un, .int .i64 ts, .int .i64 ve, .int .i64 ca, .int .i64 dk, .string dt, .string dn, .string dc, .string dp, .bool du, .int .i64 dy, .int .i64 vk, .int .i64 vn, .string vs, .slice da dan dac, .int .i64 jo, .int .i64 ph, .string mk, .int .i64 wh])]) 32) = vc_bmark π b at_ ck y1 y2 y3 x1 x2 x3 ho ra rn rc wa wn wc mi un ts ve ca dk dt dn dc dp du dy vk vn vs da dan dac jo ph mk wh := by kernel_rfl
theorem ok_bmark (b : Nat) (at_ : Int) (ck y1 y2 y3 x1 x2 x3 ho : Int) (ra : Option Addr) (rn rc : Nat) (wa : Option Addr) (wn wc : Nat) (mi un ts ve ca : Int) (dk : Int) (dt dn dc dp : ByteArray) (du : Bool) (dy vk vn : Int) (vs : ByteArray) (da : Option Addr) (dan dac : Nat) (jo ph : Int) (mk : ByteArray) (wh : Int) (R : Value → PH → Prop) (s : PH) (h : vc_bmark (RP Try.prog R) b at_ ck y1 y2 y3 x1 x2 x3 ho ra rn rc wa wn wc mi un ts ve ca dk dt dn dc dp du dy vk vn vs da dan dac jo ph mk wh s) : DCalls Try.prog 72 (List.map AV.val [.v (.pointer (some ⟨b, 0, none⟩)), .v (.int .i64 at_), .v (.agg #[.int .i64 ck, .int .i64 y1, .int .i64 y2, .int .i64 y3, .int .i64 x1, .int .i64 x2, .int .i64 x3, .int .i64 ho, .slice ra rn rc, .slice wa wn wc, .int .i64 mi, .int .i64 un, .int .i64 ts, .int .i64 ve, .int .i64 ca, .int .i64 dk, .string dt, .string dn, .string dc, .string dp, .bool du, .int .i64 dy, .int .i64 vk, .int .i64 vn, .string vs, .slice da dan dac, .int .i64 jo, .int .i64 ph, .string mk, .int .i64 wh])]).toArray s R :=
  calls_vcL (c := bodyOf Try.f72) (ann := ann_bmark) la_bmark (by kernel_rfl) Try.func72 rfl (by kernel_rfl) [.v (.pointer (some ⟨b, 0, none⟩)), .v (.int .i64 at_), .v (.agg #[.int .i64 ck, .int .i64 y1, .int .i64 y2, .int .i64 y3, .int .i64 x1, .int .i64 x2, .int .i64 x3, .int .i64 ho, .slice ra rn rc, .slice wa wn wc, .int .i64 mi, .int .i64 un, .int .i64 ts, .int .i64 ve, .int .i64 ca, .int .i64 dk, .string dt, .string dn, .string dc, .string dp, .bool du, .int .i64 dy, .int .i64 vk, .int .i64 vn, .string vs, .slice da dan dac, .int .i64 jo, .int .i64 ph, .string mk, .int .i64 wh])] [] (by rw [Try.ntmps72]; exact Nat.le_of_ble_eq_true rfl) (by kernel_rfl) (by rw [show Try.f72.ntmps = 32 from Try.ntmps72, eq_bmark]; exact h)
/-- (*lintel/board.Board).fail -/
def vc_bfail {W : Type} (π : Prims W) (b : Nat) (at_ : Int) (ck y1 y2 y3 x1 x2 x3 ho : Int) (ra : Option Addr) (rn rc : Nat) (wa : Option Addr) (wn wc : Nat) (mi un ts ve ca : Int) (dk : Int) (dt dn dc dp : ByteArray) (du : Bool) (dy vk vn : Int) (vs : ByteArray) (da : Option Addr) (dan dac : Nat) (jo ph : Int) (mk : ByteArray) (wh : Int) : W :=
  π.nw (Go.Obj.cells #[(Go.Value.int (IntKind.i64) ((4 : Int)))] (3 : Nat) ((0 : Nat), (0 : Nat))) fun r0 =>
  π.call (110 : Nat) #[(Go.Value.pointer (some (Addr.mk b (0 : Nat) none))), (Go.Value.agg #[(Go.Value.int (IntKind.i64) (ck)), (Go.Value.int (IntKind.i64) (y1)), (Go.Value.int (IntKind.i64) (y2)), (Go.Value.int (IntKind.i64) (y3)), (Go.Value.int (IntKind.i64) (x1)), (Go.Value.int (IntKind.i64) (x2)), (Go.Value.int (IntKind.i64) (x3)), (Go.Value.int (IntKind.i64) (ho)), (Go.Value.slice (ra) (rn) (rc)), (Go.Value.slice (wa) (wn) (wc)), (Go.Value.int (IntKind.i64) (mi)), (Go.Value.int (IntKind.i64) (un)), (Go.Value.int (IntKind.i64) (ts)), (Go.Value.int (IntKind.i64) (ve)), (Go.Value.int (IntKind.i64) (ca)), (Go.Value.int (IntKind.i64) (dk)), (Go.Value.string (dt)), (Go.Value.string (dn)), (Go.Value.string (dc)), (Go.Value.string (dp)), (Go.Value.bool (du)), (Go.Value.int (IntKind.i64) (dy)), (Go.Value.int (IntKind.i64) (vk)), (Go.Value.int (IntKind.i64) (vn)), (Go.Value.string (vs)), (Go.Value.slice (da) (dan) (dac)), (Go.Value.int (IntKind.i64) (jo)), (Go.Value.int (IntKind.i64) (ph)), (Go.Value.string (mk)), (Go.Value.int (IntKind.i64) (wh))]), (Go.Value.slice (some (Addr.mk r0 (0 : Nat) none)) ((1 : Nat)) ((1 : Nat)))] (false, [(false, [.ptr])]) fun ((p1, _), _) =>
  π.join [(true, [.int .i64, .int .i64, .int .i64, .int .i64, .int .i64, .int .i64, .int .i64, .int .i64, .slice, .slice, .int .i64, .int .i64, .int .i64, .int .i64, .int .i64, .int .i64, .str, .str, .str, .str, .bool, .int .i64, .int .i64, .int .i64, .str, .slice, .int .i64, .int .i64, .str, .int .i64]), (true, [.int .i64, .int .i64, .int .i64, .int .i64, .int .i64, .int .i64, .int .i64, .int .i64, .bool]), (false, [.ptr])] (fun J2 =>
    π.ite (p1.isNone) (
      π.ret (Go.Value.agg #[(Go.Value.int (IntKind.i64) ((160 : Int))), (Go.Value.int (IntKind.i64) ((0 : Int))), (Go.Value.int (IntKind.i64) ((0 : Int))), (Go.Value.int (IntKind.i64) ((0 : Int))), (Go.Value.int (IntKind.i64) ((0 : Int))), (Go.Value.int (IntKind.i64) ((0 : Int))), (Go.Value.int (IntKind.i64) ((0 : Int))), (Go.Value.int (IntKind.i64) ((0 : Int))), (Go.Value.bool (false))])
    ) (
      π.unSome (p1) fun p3 =>
      π.ld [.bool] (p3.add (17 : Nat)) fun ((b4 : Bool), _) =>
      π.ite (b4) (
        π.ret (Go.Value.agg #[(Go.Value.int (IntKind.i64) ((160 : Int))), (Go.Value.int (IntKind.i64) ((0 : Int))), (Go.Value.int (IntKind.i64) ((0 : Int))), (Go.Value.int (IntKind.i64) ((0 : Int))), (Go.Value.int (IntKind.i64) ((0 : Int))), (Go.Value.int (IntKind.i64) ((0 : Int))), (Go.Value.int (IntKind.i64) ((0 : Int))), (Go.Value.int (IntKind.i64) ((0 : Int))), (Go.Value.bool (false))])
      ) (
        J2 ((ck, y1, y2, y3, x1, x2, x3, ho, (ra, rn, rc), (wa, wn, wc), mi, un, ts, ve, ca, dk, dt, dn, dc, dp, du, dy, vk, vn, vs, (da, dan, dac), jo, ph, mk, wh, ()), ((0 : Int), (0 : Int), (0 : Int), (0 : Int), (0 : Int), (0 : Int), (0 : Int), (0 : Int), false, ()), (p1, ()), ())
      )
    )
  ) (fun (((x5 : Int), (x6 : Int), (x7 : Int), (x8 : Int), (x9 : Int), (x10 : Int), (x11 : Int), (x12 : Int), ((a13 : Option Addr), (n14 : Nat), (c15 : Nat)), ((a16 : Option Addr), (n17 : Nat), (c18 : Nat)), (x19 : Int), (x20 : Int), (x21 : Int), (x22 : Int), (x23 : Int), (x24 : Int), (t25 : ByteArray), (t26 : ByteArray), (t27 : ByteArray), (t28 : ByteArray), (b29 : Bool), (x30 : Int), (x31 : Int), (x32 : Int), (t33 : ByteArray), ((a34 : Option Addr), (n35 : Nat), (c36 : Nat)), (x37 : Int), (x38 : Int), (t39 : ByteArray), (x40 : Int), _), ((x41 : Int), (x42 : Int), (x43 : Int), (x44 : Int), (x45 : Int), (x46 : Int), (x47 : Int), (x48 : Int), (b49 : Bool), _), (p50, _), _) =>
    π.unSome (p50) fun p51 =>
    π.st (p51.add (17 : Nat)) [(Go.Value.bool (true))] <|
    π.unSome (p50) fun p52 =>
    π.st (p52.add (16 : Nat)) [(Go.Value.int (IntKind.i64) ((0 : Int)))] <|
    π.unSome (p50) fun p53 =>
    π.st (p53.add (19 : Nat)) [(Go.Value.string (ByteArray.mk #[]))] <|
    π.unSome (p50) fun p54 =>
    π.st (p54.add (21 : Nat)) [(Go.Value.int (IntKind.i64) (x40))] <|
    π.ret (Go.Value.agg #[(Go.Value.int (IntKind.i64) ((0 : Int))), (Go.Value.int (IntKind.i64) ((0 : Int))), (Go.Value.int (IntKind.i64) ((0 : Int))), (Go.Value.int (IntKind.i64) ((0 : Int))), (Go.Value.int (IntKind.i64) ((0 : Int))), (Go.Value.int (IntKind.i64) ((0 : Int))), (Go.Value.int (IntKind.i64) ((0 : Int))), (Go.Value.int (IntKind.i64) ((0 : Int))), (Go.Value.bool (true))])
  )
def ann_bfail : Ann := { draws := [(4, { A := [0, 1, 2, 3, 4, 5, 6, 7], chkL := [(8, [5]), (11, [5]), (14, [5])], eag := [9, 10, 12, 13, 15, 16] })], join := [(4, [(5, 72), (6, 80), (7, 127)])], loop := [] }
def la_bfail : LA := { ptr := [(5, 5, 0), (6, 6, 0), (25, 5, 29)], ty := [(5, 72), (6, 80)] }
set_option maxRecDepth 100000 in
theorem eq_bfail {W : Type} (π : Prims W) (b : Nat) (at_ : Int) (ck y1 y2 y3 x1 x2 x3 ho : Int) (ra : Option Addr) (rn rc : Nat) (wa : Option Addr) (wn wc : Nat) (mi un ts ve ca : Int) (dk : Int) (dt dn dc dp : ByteArray) (du : Bool) (dy vk vn : Int) (vs : ByteArray) (da : Option Addr) (dan dac : Nat) (jo ph : Int) (mk : ByteArray) (wh : Int) : bodyL π Try.prog la_bfail ann_bfail (mkFr (maskA [] [.v (.pointer (some ⟨b, 0, none⟩)), .v (.int .i64 at_), .v (.agg #[.int .i64 ck, .int .i64 y1, .int .i64 y2, .int .i64 y3, .int .i64 x1, .int .i64 x2, .int .i64 x3, .int .i64 ho, .slice ra rn rc, .slice wa wn wc, .int .i64 mi, .int .i64 un, .int .i64 ts, .int .i64 ve, .int .i64 ca, .int .i64 dk, .string dt, .string dn, .string dc, .string dp, .bool du, .int .i64 dy, .int .i64 vk, .int .i64 vn, .string vs, .slice da dan dac, .int .i64 jo, .int .i64 ph, .string mk, .int .i64 wh])] 0) 36) Try.f73 (bodyOf Try.f73) (mkFr (List.map some [.v (.pointer (some ⟨b, 0, none⟩)), .v (.int .i64 at_), .v (.agg #[.int .i64 ck, .int .i64 y1, .int .i64 y2, .int .i64 y3, .int .i64 x1, .int .i64 x2, .int .i64 x3, .int .i64 ho, .slice ra rn rc, .slice wa wn wc, .int .i64 mi, .int .i64 un, .int .i64 ts, .int .i64 ve, .int .i64 ca, .int .i64 dk, .string dt, .string dn, .string dc, .string dp, .bool du, .int .i64 dy, .int .i64 vk, .int .i64 vn, .string vs, .slice da dan dac, .int .i64 jo, .int .i64 ph, .string mk, .int .i64 wh])]) 36) = vc_bfail π b at_ ck y1 y2 y3 x1 x2 x3 ho ra rn rc wa wn wc mi un ts ve ca dk dt dn dc dp du dy vk vn vs da dan dac jo ph mk wh := by kernel_rfl
theorem ok_bfail (b : Nat) (at_ : Int) (ck y1 y2 y3 x1 x2 x3 ho : Int) (ra : Option Addr) (rn rc : Nat) (wa : Option Addr) (wn wc : Nat) (mi un ts ve ca : Int) (dk : Int) (dt dn dc dp : ByteArray) (du : Bool) (dy vk vn : Int) (vs : ByteArray) (da : Option Addr) (dan dac : Nat) (jo ph : Int) (mk : ByteArray) (wh : Int) (R : Value → PH → Prop) (s : PH) (h : vc_bfail (RP Try.prog R) b at_ ck y1 y2 y3 x1 x2 x3 ho ra rn rc wa wn wc mi un ts ve ca dk dt dn dc dp du dy vk vn vs da dan dac jo ph mk wh s) : DCalls Try.prog 73 (List.map AV.val [.v (.pointer (some ⟨b, 0, none⟩)), .v (.int .i64 at_), .v (.agg #[.int .i64 ck, .int .i64 y1, .int .i64 y2, .int .i64 y3, .int .i64 x1, .int .i64 x2, .int .i64 x3, .int .i64 ho, .slice ra rn rc, .slice wa wn wc, .int .i64 mi, .int .i64 un, .int .i64 ts, .int .i64 ve, .int .i64 ca, .int .i64 dk, .string dt, .string dn, .string dc, .string dp, .bool du, .int .i64 dy, .int .i64 vk, .int .i64 vn, .string vs, .slice da dan dac, .int .i64 jo, .int .i64 ph, .string mk, .int .i64 wh])]).toArray s R :=
  calls_vcL (c := bodyOf Try.f73) (ann := ann_bfail) la_bfail (by kernel_rfl) Try.func73 rfl (by kernel_rfl) [.v (.pointer (some ⟨b, 0, none⟩)), .v (.int .i64 at_), .v (.agg #[.int .i64 ck, .int .i64 y1, .int .i64 y2, .int .i64 y3, .int .i64 x1, .int .i64 x2, .int .i64 x3, .int .i64 ho, .slice ra rn rc, .slice wa wn wc, .int .i64 mi, .int .i64 un, .int .i64 ts, .int .i64 ve, .int .i64 ca, .int .i64 dk, .string dt, .string dn, .string dc, .string dp, .bool du, .int .i64 dy, .int .i64 vk, .int .i64 vn, .string vs, .slice da dan dac, .int .i64 jo, .int .i64 ph, .string mk, .int .i64 wh])] [] (by rw [Try.ntmps73]; exact Nat.le_of_ble_eq_true rfl) (by kernel_rfl) (by rw [show Try.f73.ntmps = 36 from Try.ntmps73, eq_bfail]; exact h)
/-- (*lintel/board.Board).Do -/
def vc_Do {W : Type} (π : Prims W) (b : Nat) (at_ : Int) (ck y1 y2 y3 x1 x2 x3 ho : Int) (ra : Option Addr) (rn rc : Nat) (wa : Option Addr) (wn wc : Nat) (mi un ts ve ca : Int) (dk : Int) (dt dn dc dp : ByteArray) (du : Bool) (dy vk vn : Int) (vs : ByteArray) (da : Option Addr) (dan dac : Nat) (jo ph : Int) (mk : ByteArray) (wh : Int) : W :=
  π.ite ((some (Addr.mk b (0 : Nat) none)).isNone) (
    π.ret (Go.Value.agg #[(Go.Value.int (IntKind.i64) ((2 : Int))), (Go.Value.int (IntKind.i64) ((0 : Int))), (Go.Value.int (IntKind.i64) ((0 : Int))), (Go.Value.int (IntKind.i64) ((0 : Int))), (Go.Value.int (IntKind.i64) ((0 : Int))), (Go.Value.int (IntKind.i64) ((0 : Int))), (Go.Value.int (IntKind.i64) ((0 : Int))), (Go.Value.int (IntKind.i64) ((0 : Int))), (Go.Value.bool (false))])
  ) (
    π.nw (Obj.map #[] (0 : Nat)) fun r0 =>
    π.mset (TypeDesc.int IntKind.i64) (some r0) (Go.Value.int (IntKind.i64) ((11 : Int))) (Go.Value.func (Fn.func (68 : Nat)) #[(Go.Value.pointer (some (Addr.mk b (0 : Nat) none)))] #[]) <|
    π.mset (TypeDesc.int IntKind.i64) (some r0) (Go.Value.int (IntKind.i64) ((12 : Int))) (Go.Value.func (Fn.func (69 : Nat)) #[(Go.Value.pointer (some (Addr.mk b (0 : Nat) none)))] #[]) <|
    π.mset (TypeDesc.int IntKind.i64) (some r0) (Go.Value.int (IntKind.i64) ((13 : Int))) (Go.Value.func (Fn.func (70 : Nat)) #[(Go.Value.pointer (some (Addr.mk b (0 : Nat) none)))] #[]) <|
    π.mset (TypeDesc.int IntKind.i64) (some r0) (Go.Value.int (IntKind.i64) ((14 : Int))) (Go.Value.func (Fn.func (71 : Nat)) #[(Go.Value.pointer (some (Addr.mk b (0 : Nat) none)))] #[]) <|
    π.mset (TypeDesc.int IntKind.i64) (some r0) (Go.Value.int (IntKind.i64) ((15 : Int))) (Go.Value.func (Fn.func (72 : Nat)) #[(Go.Value.pointer (some (Addr.mk b (0 : Nat) none)))] #[]) <|
    π.mset (TypeDesc.int IntKind.i64) (some r0) (Go.Value.int (IntKind.i64) ((16 : Int))) (Go.Value.func (Fn.func (73 : Nat)) #[(Go.Value.pointer (some (Addr.mk b (0 : Nat) none)))] #[]) <|
    π.look (TypeDesc.int IntKind.i64) (some r0) (Go.Value.int (IntKind.i64) (ck)) (Go.Value.nilFunc ) (false, [.raw]) fun ((v2 : Value), _) b1 =>
    π.ite (!b1) (
      π.ret (Go.Value.agg #[(Go.Value.int (IntKind.i64) ((1 : Int))), (Go.Value.int (IntKind.i64) ((0 : Int))), (Go.Value.int (IntKind.i64) ((0 : Int))), (Go.Value.int (IntKind.i64) ((0 : Int))), (Go.Value.int (IntKind.i64) ((0 : Int))), (Go.Value.int (IntKind.i64) ((0 : Int))), (Go.Value.int (IntKind.i64) ((0 : Int))), (Go.Value.int (IntKind.i64) ((0 : Int))), (Go.Value.bool (false))])
    ) (
      π.ite (decide (at_ < (0 : Int))) (
        π.ret (Go.Value.agg #[(Go.Value.int (IntKind.i64) ((1 : Int))), (Go.Value.int (IntKind.i64) ((0 : Int))), (Go.Value.int (IntKind.i64) ((0 : Int))), (Go.Value.int (IntKind.i64) ((0 : Int))), (Go.Value.int (IntKind.i64) ((0 : Int))), (Go.Value.int (IntKind.i64) ((0 : Int))), (Go.Value.int (IntKind.i64) ((0 : Int))), (Go.Value.int (IntKind.i64) ((0 : Int))), (Go.Value.bool (false))])
      ) (
        π.ite (decide (at_ > (1125899906842624 : Int))) (
          π.ret (Go.Value.agg #[(Go.Value.int (IntKind.i64) ((1 : Int))), (Go.Value.int (IntKind.i64) ((0 : Int))), (Go.Value.int (IntKind.i64) ((0 : Int))), (Go.Value.int (IntKind.i64) ((0 : Int))), (Go.Value.int (IntKind.i64) ((0 : Int))), (Go.Value.int (IntKind.i64) ((0 : Int))), (Go.Value.int (IntKind.i64) ((0 : Int))), (Go.Value.int (IntKind.i64) ((0 : Int))), (Go.Value.bool (false))])
        ) (
          π.callV v2 #[(Go.Value.int (IntKind.i64) (at_)), (Go.Value.agg #[(Go.Value.int (IntKind.i64) (ck)), (Go.Value.int (IntKind.i64) (y1)), (Go.Value.int (IntKind.i64) (y2)), (Go.Value.int (IntKind.i64) (y3)), (Go.Value.int (IntKind.i64) (x1)), (Go.Value.int (IntKind.i64) (x2)), (Go.Value.int (IntKind.i64) (x3)), (Go.Value.int (IntKind.i64) (ho)), (Go.Value.slice (ra) (rn) (rc)), (Go.Value.slice (wa) (wn) (wc)), (Go.Value.int (IntKind.i64) (mi)), (Go.Value.int (IntKind.i64) (un)), (Go.Value.int (IntKind.i64) (ts)), (Go.Value.int (IntKind.i64) (ve)), (Go.Value.int (IntKind.i64) (ca)), (Go.Value.int (IntKind.i64) (dk)), (Go.Value.string (dt)), (Go.Value.string (dn)), (Go.Value.string (dc)), (Go.Value.string (dp)), (Go.Value.bool (du)), (Go.Value.int (IntKind.i64) (dy)), (Go.Value.int (IntKind.i64) (vk)), (Go.Value.int (IntKind.i64) (vn)), (Go.Value.string (vs)), (Go.Value.slice (da) (dan) (dac)), (Go.Value.int (IntKind.i64) (jo)), (Go.Value.int (IntKind.i64) (ph)), (Go.Value.string (mk)), (Go.Value.int (IntKind.i64) (wh))])] (false, [(true, [.int .i64, .int .i64, .int .i64, .int .i64, .int .i64, .int .i64, .int .i64, .int .i64, .bool])]) fun (((x3 : Int), (x4 : Int), (x5 : Int), (x6 : Int), (x7 : Int), (x8 : Int), (x9 : Int), (x10 : Int), (b11 : Bool), _), _) =>
          π.ret (Go.Value.agg #[(Go.Value.int (IntKind.i64) (x3)), (Go.Value.int (IntKind.i64) (x4)), (Go.Value.int (IntKind.i64) (x5)), (Go.Value.int (IntKind.i64) (x6)), (Go.Value.int (IntKind.i64) (x7)), (Go.Value.int (IntKind.i64) (x8)), (Go.Value.int (IntKind.i64) (x9)), (Go.Value.int (IntKind.i64) (x10)), (Go.Value.bool (b11))])
        )
      )
    )
  )
def ann_Do : Ann := { draws := [], join := [], loop := [] }
def la_Do : LA := { ptr := [(5, 5, 0), (6, 6, 0), (29, 5, 0)], ty := [(5, 72), (6, 80)] }
set_option maxRecDepth 100000 in
theorem eq_Do {W : Type} (π : Prims W) (b : Nat) (at_ : Int) (ck y1 y2 y3 x1 x2 x3 ho : Int) (ra : Option Addr) (rn rc : Nat) (wa : Option Addr) (wn wc : Nat) (mi un ts ve ca : Int) (dk : Int) (dt dn dc dp : ByteArray) (du : Bool) (dy vk vn : Int) (vs : ByteArray) (da : Option Addr) (dan dac : Nat) (jo ph : Int) (mk : ByteArray) (wh : Int) : bodyL π Try.prog la_Do ann_Do (mkFr (maskA [] [.v (.pointer (some ⟨b, 0, none⟩)), .v (.int .i64 at_), .v (.agg #[.int .i64 ck, .int .i64 y1, .int .i64 y2, .int .i64 y3, .int .i64 x1, .int .i64 x2, .int .i64 x3, .int .i64 ho, .slice ra rn rc, .slice wa wn wc, .int .i64 mi, .int .i64 un, .int .i64 ts, .int .i64 ve, .int .i64 ca, .int .i64 dk, .string dt, .string dn, .string dc, .string dp, .bool du, .int .i64 dy, .int .i64 vk, .int .i64 vn, .string vs, .slice da dan dac, .int .i64 jo, .int .i64 ph, .string mk, .int .i64 wh])] 0) 49) Try.f32 (bodyOf Try.f32) (mkFr (List.map some [.v (.pointer (some ⟨b, 0, none⟩)), .v (.int .i64 at_), .v (.agg #[.int .i64 ck, .int .i64 y1, .int .i64 y2, .int .i64 y3, .int .i64 x1, .int .i64 x2, .int .i64 x3, .int .i64 ho, .slice ra rn rc, .slice wa wn wc, .int .i64 mi, .int .i64 un, .int .i64 ts, .int .i64 ve, .int .i64 ca, .int .i64 dk, .string dt, .string dn, .string dc, .string dp, .bool du, .int .i64 dy, .int .i64 vk, .int .i64 vn, .string vs, .slice da dan dac, .int .i64 jo, .int .i64 ph, .string mk, .int .i64 wh])]) 49) = vc_Do π b at_ ck y1 y2 y3 x1 x2 x3 ho ra rn rc wa wn wc mi un ts ve ca dk dt dn dc dp du dy vk vn vs da dan dac jo ph mk wh := by kernel_rfl
theorem ok_Do (b : Nat) (at_ : Int) (ck y1 y2 y3 x1 x2 x3 ho : Int) (ra : Option Addr) (rn rc : Nat) (wa : Option Addr) (wn wc : Nat) (mi un ts ve ca : Int) (dk : Int) (dt dn dc dp : ByteArray) (du : Bool) (dy vk vn : Int) (vs : ByteArray) (da : Option Addr) (dan dac : Nat) (jo ph : Int) (mk : ByteArray) (wh : Int) (R : Value → PH → Prop) (s : PH) (h : vc_Do (RP Try.prog R) b at_ ck y1 y2 y3 x1 x2 x3 ho ra rn rc wa wn wc mi un ts ve ca dk dt dn dc dp du dy vk vn vs da dan dac jo ph mk wh s) : DCalls Try.prog 32 (List.map AV.val [.v (.pointer (some ⟨b, 0, none⟩)), .v (.int .i64 at_), .v (.agg #[.int .i64 ck, .int .i64 y1, .int .i64 y2, .int .i64 y3, .int .i64 x1, .int .i64 x2, .int .i64 x3, .int .i64 ho, .slice ra rn rc, .slice wa wn wc, .int .i64 mi, .int .i64 un, .int .i64 ts, .int .i64 ve, .int .i64 ca, .int .i64 dk, .string dt, .string dn, .string dc, .string dp, .bool du, .int .i64 dy, .int .i64 vk, .int .i64 vn, .string vs, .slice da dan dac, .int .i64 jo, .int .i64 ph, .string mk, .int .i64 wh])]).toArray s R :=
  calls_vcL (c := bodyOf Try.f32) (ann := ann_Do) la_Do (by kernel_rfl) Try.func32 rfl (by kernel_rfl) [.v (.pointer (some ⟨b, 0, none⟩)), .v (.int .i64 at_), .v (.agg #[.int .i64 ck, .int .i64 y1, .int .i64 y2, .int .i64 y3, .int .i64 x1, .int .i64 x2, .int .i64 x3, .int .i64 ho, .slice ra rn rc, .slice wa wn wc, .int .i64 mi, .int .i64 un, .int .i64 ts, .int .i64 ve, .int .i64 ca, .int .i64 dk, .string dt, .string dn, .string dc, .string dp, .bool du, .int .i64 dy, .int .i64 vk, .int .i64 vn, .string vs, .slice da dan dac, .int .i64 jo, .int .i64 ph, .string mk, .int .i64 wh])] [] (by rw [Try.ntmps32]; exact Nat.le_of_ble_eq_true rfl) (by kernel_rfl) (by rw [show Try.f32.ntmps = 49 from Try.ntmps32, eq_Do]; exact h)
end Go.Proofs.Ythepfbcgpbkbdaa
end
