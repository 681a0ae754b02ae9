/-
  Schemas: the program's making of tables; its turn.
  Conditions: none; it proves no statement by itself.
-/
import Derived.Test.YthepfbcgpbkbdaaM13
set_option linter.unusedVariables false
set_option linter.unusedSimpArgs false
set_option maxHeartbeats 1000000
set_option maxRecDepth 100000
namespace Go.Proofs.Ythepfbcgpbkbdaa
open Fw Go
attribute [-simp] Fw.W.ld_iff Fw.W.st_iff

theorem b_tabs2 {s : PH} {b : Nat} {v l : Int} {a : Option Addr} {n c : Nat} (h : s b = some (.cells #[.int .i64 v, .int .i64 l, .slice a n c] 24 (0, 0))) {K : Den [.slice] → W.T} (hK : K ((a, n, c), ()) s) : W.ld [.slice] ((Addr.mk b 0 none).add 2) K s := by
  have := b_tabs h hK
  simpa only [W.unSome_some] using this
theorem not_t {b : Bool} (h : (!b) = true) : b = false := by cases b <;> simp_all
theorem not_f {b : Bool} (h : (!b) = false) : b = true := by cases b <;> simp_all
theorem all_take {α : Type} {f : α → Bool} {l : List α} {k : Nat} {x : α} (h : l[k]? = some x) : (l.take (k + 1)).all f = ((l.take k).all f && f x) := by
  rw [List.take_add_one, h]; simp
section
variable {s : PH} {b : Nat} {S : Sch} {t : Tri} {ps : List TabP}
/-- a table is put behind the others -/
theorem Gs.push {s1 : PH} {p : TabP} {K : W.T} {l : Int} (h : Gs s b S t ps) (hb : ps.length ≤ 4294967296) (m1 : Fw.Mod [b] s s1) (hc : s1 b = some (.cells #[.int .i64 S.version, .int .i64 l, .slice t.1 t.2.1 t.2.2] 24 (0, 0)))
    (ho : Own s1 p) (hn : p.L.Nodup) (hf : ∀ g ∈ p.L, s g = none)
    (hK : ∀ s' t' ps', Gs s' b ⟨S.version, l, S.tabs ++ [p.T]⟩ t' ps' → Step (b :: Lof t ps) (b :: Lof t' ps') s s' → K s') {F : Option Addr → Nat → Nat → W.T} (hF : ∀ a' n' c' s', W.st ⟨b, 2, none⟩ [.slice a' n' c'] K s' → F a' n' c' s') :
    W.nw (.cells #[.int .i64 p.T.id, .string p.T.name, .slice p.c.1 p.c.2.1 p.c.2.2, .slice p.x.1 p.x.2.1 p.x.2.2, .slice p.k.1 p.k.2.1 p.k.2.2] 42 (0, 0)) (fun r => W.app 42 5 96 [.int .i64 0, .string ⟨#[]⟩, .slice none 0 0, .slice none 0 0, .slice none 0 0] t.1 t.2.1 t.2.2 (Src.sl (some ⟨r, 0, none⟩) 1) F) s1 := by
  obtain ⟨ta, tn, tc⟩ := t
  have hnb := h.nb
  have hkb : s b ≠ none := by rw [h.cell]; simp
  have hH1 : Has s1 (ta, tn, tc) ps := h.has.mod m1 fun x hx => by simpa using fun e : x = b => hnb (e ▸ hx)
  have hpb : b ∉ p.L := fun e => hkb (hf b e)
  refine hH1.push (p := p) ho hn (fun g hg hg2 => h.has.known g hg2 (hf g hg)) hb ?_
  intro a' c' s2 h2 st2
  have hLb : b ∉ Lof (a', tn + 1, c') (ps ++ [p]) := fun e => by
    rcases st2.new b e with e | e
    · rcases List.mem_append.1 e with e | e
      · exact hnb e
      · exact hpb e
    · rw [hc] at e; cases e
  have hc2 := st2.mod.at hc (fun e => by
    rcases List.mem_append.1 e with e | e
    · exact hnb e
    · exact hpb e)
  refine hF _ _ _ _ ?_
  rw [W.st_at hc2]
  refine ⟨by simp, by simp, by simp [Value.oneCell'], ?_⟩
  have m3 : Fw.Mod [b] s2 (s2.upd b (.cells (setL #[.int .i64 S.version, .int .i64 l, .slice ta tn tc] 2 [.slice a' (tn + 1) c']) 24 (0, 0))) := Mod.upd (by simp)
  have hc3 : (s2.upd b (.cells (setL #[.int .i64 S.version, .int .i64 l, .slice ta tn tc] 2 [.slice a' (tn + 1) c']) 24 (0, 0))) b = some (.cells #[.int .i64 S.version, .int .i64 l, .slice a' (tn + 1) c'] 24 (0, 0)) := PH.upd_same _ _ _
  have hH3 := h2.mod m3 fun x hx => by simpa using fun e : x = b => hLb (e ▸ hx)
  refine hK _ (a', tn + 1, c') (ps ++ [p]) ⟨hc3, hH3, hLb, by simp [h.eq]⟩ ⟨?_, ?_⟩
  · have e2 : Fw.Mod (b :: Lof (ta, tn, tc) ps) s s2 := by
      refine (m1.mono (by simp)).fresh st2.mod fun x hx => ?_
      rcases List.mem_append.1 hx with e | e
      · exact .inl (List.mem_cons_of_mem _ e)
      · exact .inr (hf x e)
    exact e2.trans (m3.mono (by simp))
  · intro x hx
    rcases List.mem_cons.1 hx with rfl | hx
    · exact .inl (by simp)
    · rcases st2.new x hx with e | e
      · rcases List.mem_append.1 e with e | e
        · exact .inl (List.mem_cons_of_mem _ e)
        · exact .inr (hf x e)
      · by_cases hxb : x = b
        · exact .inl (by simp [hxb])
        · exact .inr (m1.none e (by simpa using hxb))
theorem c_create {s00 : PH} (h : Gs s b S t ps) (hb : S.Bd) (D : Ddl) {u : Tri} (hu0 : Sl colE s00 u D.cols) (m00 : Fw.Mod [] s00 s) (hb0 : s00 b = none) (hul : D.cols.length ≤ 1073741824) (st : Int) :
    DCalls Try.prog 77 #[cp b, ddlV D u, .int .i64 st, .int .i64 (tabAt S D.table)] s (OutG b (createTurn S D st) (Lof t ps) s) := by
  obtain ⟨ua, un, uc⟩ := u
  refine ok_create b D.kind D.table D.name D.column D.parent D.unique D.type D.dflt.kind D.dflt.n D.dflt.s ua un uc st (tabAt S D.table) _ s ?_
  unfold vc_create
  have hu := hu0.mono m00.le
  have hun : un = D.cols.length := hu.len
  have htn : t.2.1 = ps.length := h.has.row.len
  have hpl : S.tabs.length = ps.length := by rw [h.eq]; simp
  have hcell := h.cell
  obtain ⟨R, hR⟩ : ∃ R, OutG b (createTurn S D st) (Lof t ps) s = R := ⟨_, rfl⟩
  have hret : ∀ {e : Int}, createTurn S D st = .error e → R (.int .i64 e) s := fun e1 => by
    rw [← hR, e1]; exact ⟨rfl, Mod.refl _ _⟩
  rw [hR]
  have hlast := hb.last
  simp only [RP_join, RP_ite, RP_call, RP_callQ, RP_ret, RP_nw, RP_app, RP_st, RP_ld, RP_unSome, RP_guard, RP_loop, RP_still, RP_clr, RP_look, RP_mset, W.unSome_some]
  refine callq ((named D.table, ()), ()) (c_named D.table s) rfl ?_
  refine ⟨fun z s' => ∃ k : Nat, z = ((D.kind, D.table, D.name, D.column, D.parent, D.unique, D.type, D.dflt.kind, D.dflt.n, D.dflt.s, (ua, un, uc), ()), (named D.table && (D.cols.take k).all (fun c => named c.name), ()), ((D.cols.take k).all (fun c => typed c.kind), ()), ((ua, un, uc), ()), ((un : Int), ()), ((k : Int), ()), ()) ∧ k ≤ un ∧ s' = s,
    fun z _ => un - z.2.2.2.2.2.1.1.toNat, ⟨0, by simp, Nat.zero_le _, rfl⟩, ?_⟩
  rintro _ s0 ⟨k, rfl, hk, rfl⟩
  simp only [W.br_iff, decide_eq_true_eq, decide_eq_false_iff_not]
  refine ⟨fun hlt => ?_, fun hge => ?_⟩
  · have hlt : k < un := by omega
    obtain ⟨x, hx⟩ : ∃ x, D.cols[k]? = some x := ⟨_, List.getElem?_eq_getElem (by omega)⟩
    obtain ⟨ad, had, hh⟩ := hu.el.at_enc hx
    dsimp only at had
    subst had
    have hw := wrap_succ (k := k) (by omega)
    have hm : un - (k + 1) < un - k := by omega
    refine ⟨by omega, ?_⟩
    simp only [W.unSome_some, Int.toNat_natCast, hw]
    refine ld_has_z hh (y := (x.id, x.name, x.kind, x.state, x.dflt.kind, x.dflt.n, x.dflt.s, ())) rfl ?_
    have e1 := all_take (f := fun c : Col => named c.name) hx
    have e2 := all_take (f := fun c : Col => typed c.kind) hx
    generalize (D.cols.take k).all (fun c => named c.name) = N at e1 ⊢
    generalize (D.cols.take k).all (fun c => typed c.kind) = Q at e2 ⊢
    simp only [W.br_iff]
    refine ⟨fun hN => ?_, fun hN => ?_⟩
    · refine callq ((named x.name, ()), ()) (c_named x.name _) rfl ?_
      simp only [W.br_iff]
      refine ⟨fun hQ => ?_, fun hQ => ?_⟩
      · refine callq ((typed x.kind, ()), ()) (c_kind x.kind _) rfl ?_
        refine ⟨⟨k + 1, ?_, hlt, by trivial⟩, hm⟩
        rw [e1, e2, ← Bool.and_assoc, hN, hQ]; rfl
      · refine ⟨⟨k + 1, ?_, hlt, by trivial⟩, hm⟩
        rw [e1, e2, ← Bool.and_assoc, hN, hQ]; rfl
    · refine ⟨fun hQ => ?_, fun hQ => ?_⟩
      · refine callq ((typed x.kind, ()), ()) (c_kind x.kind _) rfl ?_
        refine ⟨⟨k + 1, ?_, hlt, by trivial⟩, hm⟩
        rw [e1, e2, ← Bool.and_assoc, hN, hQ]; rfl
      · refine ⟨⟨k + 1, ?_, hlt, by trivial⟩, hm⟩
        rw [e1, e2, ← Bool.and_assoc, hN, hQ]; rfl
  have hall : D.cols.take k = D.cols := List.take_of_length_le (by omega)
  rw [hall]
  refine W.join_gen (fun z s' => z = ((D.kind, D.table, D.name, D.column, D.parent, D.unique, D.type, D.dflt.kind, D.dflt.n, D.dflt.s, (ua, un, uc), ()), ()) ∧ s' = s0 ∧
    createTurn S D st = .ok ⟨S.version, S.last + 1 + D.cols.length, S.tabs ++ [⟨S.last + 1, D.table, mkCols (S.last + 2) D.cols, [], []⟩]⟩ ∧ D.cols.length ≤ 8) ?_ ?_
  rotate_left
  · intro J hJ
    simp only [W.br_iff]
    refine ⟨fun hN => hret ?_, fun hN => ?_⟩
    · unfold createTurn
      rw [if_pos (not_t hN)]
    have hN : ¬ (named D.table && D.cols.all fun c => named c.name) = false := by rw [not_f hN]; simp
    refine W.join_gen (fun z s' => z = ((D.kind, D.table, D.name, D.column, D.parent, D.unique, D.type, D.dflt.kind, D.dflt.n, D.dflt.s, (ua, un, uc), ()), (D.cols.all (fun c => typed c.kind), ()), ((decide (0 ≤ tabAt S D.table) || dbl D.cols), ()), ()) ∧ s' = s0) ?_ ?_
    rotate_left
    · intro J2 hJ2
      simp only [W.br_iff, decide_eq_true_eq, decide_eq_false_iff_not]
      refine ⟨fun h1 => hJ2 _ _ ⟨by rw [decide_eq_true (p := 0 ≤ tabAt S D.table) h1]; rfl, rfl⟩, fun h1 => ?_⟩
      refine callq ((dbl D.cols, ()), ()) (c_doubled (t := (ua, un, uc)) hu) rfl ?_
      exact hJ2 _ _ ⟨by rw [decide_eq_false (p := 0 ≤ tabAt S D.table) h1]; rfl, rfl⟩
    rintro _ s1 ⟨rfl, rfl⟩
    simp only [W.br_iff]
    refine ⟨fun h1 => hret (by unfold createTurn; rw [if_neg hN, if_pos h1]), fun h1 => ?_⟩
    have h1 : ¬ (decide (0 ≤ tabAt S D.table) || dbl D.cols) = true := by rw [h1]; simp
    refine b_tabs hcell ?_
    have hbad : (6 ≤ S.tabs.length ∨ D.cols.length < 1 ∨ 8 < D.cols.length) → createTurn S D st = .error 156 := fun e => by
      unfold createTurn; rw [if_neg hN, if_neg h1, if_pos (by simp only [Bool.or_eq_true, decide_eq_true_eq]; exact e)]
    simp only [W.br_iff, decide_eq_true_eq, decide_eq_false_iff_not]
    refine ⟨fun h2 => hret (hbad ?_), fun h2 => ⟨fun h3 => hret (hbad (by omega)), fun h3 => ⟨fun h4 => hret (hbad (by omega)), fun h4 => ?_⟩⟩⟩
    · have h2 : ((t.2.1 : Nat) : Int) = 6 := by simpa using h2
      omega
    have h2 : ((t.2.1 : Nat) : Int) ≠ 6 := by simpa using h2
    have ht6 := hb.tabs
    have hok : ¬ (decide (6 ≤ S.tabs.length) || (decide (D.cols.length < 1) || decide (8 < D.cols.length))) = true := by
      simp only [Bool.or_eq_true, decide_eq_true_eq]; omega
    refine ⟨fun h5 => hret (by unfold createTurn; rw [if_neg hN, if_neg h1, if_neg hok, if_pos (not_t h5)]), fun h5 => ?_⟩
    have h5 : ¬ (D.cols.all fun c => typed c.kind) = false := by rw [not_f h5]; simp
    refine ⟨fun h6 => hret (by unfold createTurn; rw [if_neg hN, if_neg h1, if_neg hok, if_neg h5, if_pos (by simpa using h6)]), fun h6 => hJ _ _ ⟨rfl, rfl, ?_, by omega⟩⟩
    unfold createTurn; rw [if_neg hN, if_neg h1, if_neg hok, if_neg h5, if_neg (by simpa using h6)]
  rintro _ s1 ⟨rfl, rfl, hTurn, h8⟩
  have hnb := h.nb
  have hkb : s1 b ≠ none := by rw [hcell]; simp
  refine b_bump hcell (wrap_in (by omega) (by omega)) fun s2 m2 c2 => ?_
  refine b_last c2 ?_
  refine ⟨fun z s' => ∃ (k : Nat) (a : Option Addr) (n c : Nat), z = ((S.last + 1, D.table, (a, n, c), (none, 0, 0), (none, 0, 0), ()), ((ua, un, uc), ()), ((un : Int), ()), ((k : Int), ()), ()) ∧ k ≤ un ∧ rowE colE s' 44 a n c (mkCols (S.last + 2) (D.cols.take k)) ∧ (∀ g ∈ Fw.blk a, s1 g = none) ∧
    Fw.Mod [b] s1 s' ∧ s' b = some (.cells #[.int .i64 S.version, .int .i64 (S.last + 1 + k), .slice t.1 t.2.1 t.2.2] 24 (0, 0)), fun z _ => un - z.2.2.2.1.1.toNat, ⟨0, none, 0, 0, rfl, Nat.zero_le _, rowE.nil, by simp [Fw.blk], m2, by simpa using c2⟩, ?_⟩
  rintro _ s3 ⟨k, a, n, c, rfl, hk, hrow, hfr, m3, c3⟩
  simp only [W.br_iff, decide_eq_true_eq, decide_eq_false_iff_not]
  refine ⟨fun hlt => ?_, fun hge => ?_⟩
  · have hlt : k < un := by omega
    obtain ⟨x, hx⟩ : ∃ x, D.cols[k]? = some x := ⟨_, List.getElem?_eq_getElem (by omega)⟩
    have hw := wrap_succ (k := k) (by omega)
    have hm : un - (k + 1) < un - k := by omega
    have hmb : ∀ g ∈ Fw.blk a, g ≠ b := fun g hg e => hkb (by rw [← e]; exact hfr g hg)
    have hn : n = k := by have := hrow.len; rw [mkCols_len, List.length_take] at this; omega
    refine ⟨by omega, ?_⟩
    have hu3 := hu0.mono (m00.fresh m3 (by simp [hb0])).le
    obtain ⟨ad, had, hh⟩ := hu3.el.at_enc hx
    dsimp only at had
    subst had
    simp only [W.unSome_some, Int.toNat_natCast, hw]
    refine ld_has_z hh (y := (x.id, x.name, x.kind, x.state, x.dflt.kind, x.dflt.n, x.dflt.s, ())) rfl ?_
    refine b_bump c3 (wrap_in (by omega) (by omega)) fun s4 m4 c4 => ?_
    refine b_last c4 ?_
    have hrow4 := hrow.mod m4 (fun g hg => by simpa using hmb g hg)
    refine W.nw_of fun r s5 hr m5 k5 => ?_
    have hmax : maxLen = 9223372036854775807 := rfl
    refine app_rowE (hrow4.mod m5 (by simp)) rfl (ys := [⟨S.last + 1 + k + 1, x.name, x.kind, 3, ⟨0, 0, ⟨#[]⟩⟩⟩]) (k := 1) (src_has (by have := has_block k5; simpa [colE] using this) rfl) rfl rfl (by omega) (by omega) ?_
    intro a' c' s6 h' hm6
    have m35 : Fw.Mod [b] s1 s5 := (m3.trans m4).trans (m5.mono (by simp))
    have hsnoc : mkCols (S.last + 2) (D.cols.take (k + 1)) = mkCols (S.last + 2) (D.cols.take k) ++ [⟨S.last + 1 + k + 1, x.name, x.kind, 3, ⟨0, 0, ⟨#[]⟩⟩⟩] := by
      have : D.cols.take (k + 1) = D.cols.take k ++ [x] := by rw [List.take_add_one, hx]; rfl
      rw [this, mkCols_snoc, List.length_take, Nat.min_eq_left (by omega)]
      congr 3; omega
    have hc5 := m5.at c4 (by simp)
    have hnba : b ∉ Fw.blk a := fun e => hmb b e rfl
    refine ⟨⟨k + 1, a', n + 1, c', rfl, hlt, by rw [hsnoc]; exact h', ?_, ?_, ?_⟩, hm⟩
    · rcases hm6 with ⟨e, _⟩ | ⟨g, e, hg, _⟩
      · rw [e]; exact hfr
      · rw [e]
        intro g' hg'
        have : g' = g := by simpa [Fw.blk] using hg'
        subst this
        by_cases e2 : g' = b
        · subst e2; rw [hc5] at hg; cases hg
        · exact m35.none hg (by simpa using e2)
    · rcases hm6 with ⟨_, hm6⟩ | ⟨_, _, _, hm6⟩
      · exact m35.fresh hm6 fun x hx => .inr (hfr x hx)
      · exact m35.trans (hm6.mono (by simp))
    · have := (show s6 b = _ from by
        rcases hm6 with ⟨_, hm6⟩ | ⟨_, _, _, hm6⟩
        · exact hm6.at hc5 hnba
        · exact hm6.at hc5 (by simp))
      rw [this, show S.last + 1 + (k : Int) + 1 = S.last + 1 + ((k + 1 : Nat) : Int) by omega]
  · have hall : D.cols.take k = D.cols := List.take_of_length_le (by omega)
    rw [hall] at hrow
    refine b_tabs c3 ?_
    refine h.push (p := ⟨⟨S.last + 1, D.table, mkCols (S.last + 2) D.cols, [], []⟩, (a, n, c), noTri, noTri⟩) (by have := hb.tabs; omega) m3 c3 ⟨hrow, rowE.nil, rowE.nil⟩ ?_ ?_ ?_ (fun a' n' c' s' hst => by simp only [W.unSome_some, add_mk, Nat.zero_add]; exact hst)
    · simpa [TabP.L, Fw.blk] using blk_nodup a
    · intro g hg
      refine hfr g ?_
      simpa [TabP.L, Fw.blk] using hg
    · intro s' t' ps' hG hS
      have hkl : (k : Int) = D.cols.length := by omega
      rw [← hR, hTurn]
      refine ⟨rfl, t', ps', ?_, hS⟩
      rw [hkl] at hG
      exact hG
theorem c_turn {s00 : PH} (h : Gs s b S t ps) (hb : S.Bd) (D : Ddl) {u : Tri} (hu0 : Sl colE s00 u D.cols) (m00 : Fw.Mod [] s00 s) (hb0 : s00 b = none) (hul : D.cols.length ≤ 1073741824) (st : Int) :
    DCalls Try.prog 39 #[cp b, ddlV D u, .int .i64 st] s (OutG b (turn1 S D st) (Lof t ps) s) := by
  obtain ⟨ua, un, uc⟩ := u
  refine ok_turn b D.kind D.table D.name D.column D.parent D.unique D.type D.dflt.kind D.dflt.n D.dflt.s ua un uc st _ s ?_
  unfold vc_turn
  have hcell := h.cell
  have hSch := h.sch hb
  have hout : ∀ {r : Res} {y s'}, OutG b r (Lof t ps) s y s' → ∃ n, y = .int .i64 n := by
    intro r y s' ho
    cases r with
    | error e => exact ⟨e, ho.1⟩
    | ok S' => exact ⟨0, ho.1⟩
  simp only [RP_join, RP_ite, RP_call, RP_callQ, RP_ret, RP_nw, RP_app, RP_st, RP_ld, RP_unSome, RP_guard, RP_loop, RP_still, RP_clr, RP_look, RP_mset, W.unSome_some]
  refine b_tabs2 hcell ?_
  refine W.callQ_of ((tabAt S D.table, ()), ()) (c_findT' hSch D.table) rfl ?_
  simp only [W.br_iff, decide_eq_true_eq, decide_eq_false_iff_not]
  refine ⟨fun h1 => ?_, fun h1 => ⟨fun h2 => ?_, fun h2 => ?_⟩⟩
  · have h1 : D.kind = 1 := by simpa using h1
    refine W.call_of (c_create h hb D hu0 m00 hb0 hul st) ?_
    intro y s' ho
    obtain ⟨n, rfl⟩ := hout ho
    refine ⟨((n, ()), ()), rfl, ?_⟩
    show OutG b (turn1 S D st) (Lof t ps) s (.int .i64 n) s'
    unfold turn1; rw [if_pos h1]; exact ho
  · have h1 : D.kind ≠ 1 := by simpa using h1
    show OutG b (turn1 S D st) (Lof t ps) s (.int .i64 150) s
    unfold turn1; rw [if_neg h1, if_pos h2]; exact ⟨rfl, Mod.refl _ _⟩
  have h1 : D.kind ≠ 1 := by simpa using h1
  obtain ⟨i, T, hi, hT, _⟩ := (seek_cases (fun T : Tab => decide (T.name = D.table)) S.tabs).resolve_left (fun e => by have := e.1; unfold tabAt at h2; omega)
  have hi : tabAt S D.table = (i : Int) := hi
  obtain ⟨p, hp, rfl⟩ : ∃ p, ps[i]? = some p ∧ p.T = T := by
    rw [h.eq, List.getElem?_map] at hT
    cases hq : ps[i]? with
    | none => rw [hq] at hT; cases hT
    | some pp => rw [hq] at hT; exact ⟨pp, rfl, Option.some.inj hT⟩
  obtain ⟨g, ht, _⟩ := h.has.row.at hp
  have htn : t.2.1 = ps.length := h.has.row.len
  have hil := (List.getElem?_eq_some_iff.1 hp).1
  have hTurn : turn1 S D st = if D.kind = 4 ∨ D.kind = 5 then colTurn S i p.T D st else if D.kind = 2 ∨ D.kind = 3 then idxTurn S i p.T D st else keyTurn S i p.T D st := by
    unfold turn1
    rw [if_neg h1, if_neg h2, hi]
    simp only [Int.toNat_natCast, hT]
  refine b_tabs hcell ?_
  rw [hi]
  refine ⟨by show (0 : Int) ≤ i ∧ (i : Int) < (t.2.1 : Nat); omega, ?_⟩
  dsimp only
  rw [ht]
  simp only [W.unSome_some, add_mk, Nat.zero_add, Int.toNat_natCast]
  refine W.join_gen (fun z s' => z = ((D.kind, D.table, D.name, D.column, D.parent, D.unique, D.type, D.dflt.kind, D.dflt.n, D.dflt.s, (ua, un, uc), ()), (some (Addr.mk g (i * 5) none), ()), (D.kind, ()), (decide (D.kind = 4 ∨ D.kind = 5), ()), ()) ∧ s' = s) ?_ ?_
  rotate_left
  · intro J hJ
    simp only [W.br_iff]
    refine ⟨fun h4 => hJ _ _ ⟨?_, rfl⟩, fun h4 => hJ _ _ ⟨?_, rfl⟩⟩
    · have h4 : D.kind = 4 := by simpa using h4
      simp [h4]
    · have h4 : D.kind ≠ 4 := by simpa using h4
      simp [h4, beq_dec]
  rintro _ s0 ⟨rfl, rfl⟩
  simp only [W.br_iff, decide_eq_true_eq, decide_eq_false_iff_not]
  refine ⟨fun h4 => ?_, fun h4 => ?_⟩
  · rw [if_pos h4] at hTurn
    refine W.call_of (c_columns h hb hp ht D (ua, un, uc) st) ?_
    intro y s' ho
    obtain ⟨n, rfl⟩ := hout ho
    refine ⟨((n, ()), ()), rfl, ?_⟩
    rw [← hTurn] at ho
    exact ho
  rw [if_neg h4] at hTurn
  refine ⟨fun h5 => ?_, fun h5 => ?_⟩
  · have h5 : D.kind = 2 := by simpa using h5
    rw [if_pos (.inl h5)] at hTurn
    refine W.call_of (c_indexes h hb hp ht D (ua, un, uc) st) ?_
    intro y s' ho
    obtain ⟨n, rfl⟩ := hout ho
    refine ⟨((n, ()), ()), rfl, ?_⟩
    rw [← hTurn] at ho
    exact ho
  have h5 : D.kind ≠ 2 := by simpa using h5
  refine ⟨fun h6 => ?_, fun h6 => ?_⟩
  · have h6 : D.kind = 3 := by simpa using h6
    rw [if_pos (.inr h6)] at hTurn
    refine W.call_of (c_indexes h hb hp ht D (ua, un, uc) st) ?_
    intro y s' ho
    obtain ⟨n, rfl⟩ := hout ho
    refine ⟨((n, ()), ()), rfl, ?_⟩
    rw [← hTurn] at ho
    exact ho
  have h6 : D.kind ≠ 3 := by simpa using h6
  rw [if_neg (fun e => Or.elim e h5 h6)] at hTurn
  refine W.call_of (c_foreigns h hb hp ht D (ua, un, uc) st) ?_
  intro y s' ho
  obtain ⟨n, rfl⟩ := hout ho
  refine ⟨((n, ()), ()), rfl, ?_⟩
  rw [← hTurn] at ho
  exact ho
end
theorem right_bd {S : Sch} (h : right S = true) : S.Bd ∧ 0 ≤ S.version ∧ S.version ≤ 1125899906842624 := by
  obtain ⟨a, b, c, d, e⟩ := right_iff.1 h
  unfold headB at a
  simp only [Bool.and_eq_true, decide_eq_true_eq] at a
  refine ⟨⟨b, fun T hT => ?_, a.2.2.1, a.2.2.2⟩, a.1, a.2.1⟩
  obtain ⟨i, hi⟩ := List.mem_iff_getElem?.1 hT
  obtain ⟨x1, x2, x3, x4, _⟩ := tabB_iff.1 (allI_iff.1 d i T hi)
  exact ⟨x1, x2, x3, x4⟩
/-- what a change gives, in memory: a schema of its own, all new -/
def Gives (s : PH) (S' : Sch) (e : Int) (y : Value) (s' : PH) : Prop :=
  ∃ t' ps', y = .tuple #[schV S' t', .int .i64 e] ∧ Has s' t' ps' ∧ S'.tabs = ps'.map (·.T) ∧ Fw.Mod [] s s' ∧ ∀ g ∈ Lof t' ps', s g = none
theorem gives_no {s s' : PH} {e : Int} (m : Fw.Mod [] s s') : Gives s noSch e (.tuple #[schV noSch noTri, .int .i64 e]) s' := ⟨noTri, [], rfl, Has.nil _, rfl, m, by simp [Lof, Fw.blk]⟩
theorem c_Turn {s : PH} {t : Tri} {S : Sch} {ps : List TabP} (h : SchIs s t S ps) (D : Ddl) {u : Tri} (hu : Sl colE s u D.cols) (hul : D.cols.length ≤ 1073741824) (st : Int) :
    DCalls Try.prog 14 #[schV S t, ddlV D u, .int .i64 st] s (Gives s (S.turn D st).1 (S.turn D st).2) := by
  obtain ⟨ua, un, uc⟩ := u
  obtain ⟨ta, tn, tc⟩ := t
  refine ok_Turn S.version S.last ta tn tc D.kind D.table D.name D.column D.parent D.unique D.type D.dflt.kind D.dflt.n D.dflt.s ua un uc st _ s ?_
  unfold vc_Turn
  obtain ⟨R, hR⟩ : ∃ R, Gives s (S.turn D st).1 (S.turn D st).2 = R := ⟨_, rfl⟩
  rw [hR]
  have htn : tn = ps.length := h.el.len
  simp only [RP_join, RP_ite, RP_call, RP_callQ, RP_ret, RP_nw, RP_app, RP_st, RP_ld, RP_unSome, RP_guard, RP_loop, RP_still, RP_clr, RP_look, RP_mset, W.unSome_some]
  refine W.join_gen (fun z s' => z = ((S.version, S.last, (ta, tn, tc), ()), (D.kind, D.table, D.name, D.column, D.parent, D.unique, D.type, D.dflt.kind, D.dflt.n, D.dflt.s, (ua, un, uc), ()), (0, 0, (none, 0, 0), ()), ()) ∧ s' = s ∧ right S = true ∧ 0 ≤ st ∧ st ≤ 3) ?_ ?_
  rotate_left
  · intro J hJ
    have hbad : ¬ (right S = true ∧ 0 ≤ st ∧ st ≤ 3) → R (.tuple #[schV noSch noTri, .int .i64 100]) s := by
      intro e
      have : S.turn D st = (noSch, 100) := by
        unfold Sch.turn; rw [if_pos]
        cases hr : right S
        · rfl
        · rw [hr] at e
          simp only [Bool.true_and, Bool.and_eq_false_iff, decide_eq_false_iff_not]
          simp only [true_and] at e
          omega
      rw [← hR, this]
      exact gives_no (Mod.refl _ _)
    have hc := c_Check h
    have hE : errS S = if right S = true then 0 else 100 := rfl
    generalize errS S = E at hc hE
    refine callq ((E, ()), ()) hc rfl ?_
    subst hE
    simp only [W.br_iff, decide_eq_true_eq, decide_eq_false_iff_not]
    refine ⟨fun h1 => hbad fun e => by rw [if_pos e.1] at h1; simp at h1, fun h1 => ⟨fun h2 => hbad (by omega), fun h2 => ⟨fun h3 => hbad (by omega), fun h3 => hJ _ _ ⟨rfl, rfl, ?_, by omega, by omega⟩⟩⟩⟩
    cases hr : right S
    · rw [hr] at h1; simp at h1
    · rfl
  rintro _ s0 ⟨rfl, rfl, hr, hst0, hst3⟩
  have hturn0 : S.turn D st = if D.kind < 1 ∨ 7 < D.kind then (noSch, 1) else match turn1 { S with version := S.version + 1 } D st with
      | .error e => (noSch, e)
      | .ok S' => (S', 0) := by
    unfold Sch.turn
    rw [if_neg (by rw [hr, decide_eq_true hst0, decide_eq_true hst3]; simp)]
    rfl
  refine W.join_gen (fun z s' => z = ((S.version, S.last, (ta, tn, tc), ()), (D.kind, D.table, D.name, D.column, D.parent, D.unique, D.type, D.dflt.kind, D.dflt.n, D.dflt.s, (ua, un, uc), ()), (0, 0, (none, 0, 0), ()), ()) ∧ s' = s0 ∧ ¬ (D.kind < 1 ∨ 7 < D.kind)) ?_ ?_
  rotate_left
  · intro J hJ
    have hbad : (D.kind < 1 ∨ 7 < D.kind) → R (.tuple #[schV noSch noTri, .int .i64 1]) s0 := by
      intro e
      rw [← hR, hturn0, if_pos e]
      exact gives_no (Mod.refl _ _)
    simp only [W.br_iff, decide_eq_true_eq, decide_eq_false_iff_not]
    exact ⟨fun h2 => hbad (by omega), fun h2 => ⟨fun h3 => hbad (by omega), fun h3 => hJ _ _ ⟨rfl, rfl, by omega⟩⟩⟩
  rintro _ s1 ⟨rfl, rfl, hkind⟩
  rw [if_neg hkind] at hturn0
  obtain ⟨hbd, hv0, hv1⟩ := right_bd hr
  have ht6 := hbd.tabs
  have hpl : S.tabs.length = ps.length := by rw [h.eq]; simp
  refine W.nw_of fun r s2 hr0 m2 k2 => ?_
  rw [W.st_at k2]
  refine ⟨by simp, by simp, by simp [Value.oneCell'], ?_⟩
  have k3 : (s2.upd r (.cells (setL #[.int .i64 0, .int .i64 0, .slice none 0 0] 0 [.int .i64 S.version, .int .i64 S.last, .slice ta tn tc]) 24 (0, 0))) r = some (.cells #[.int .i64 S.version, .int .i64 S.last, .slice ta tn tc] 24 (0, 0)) := PH.upd_same _ _ _
  have m3 : Fw.Mod [] s1 (s2.upd r (.cells (setL #[.int .i64 0, .int .i64 0, .slice none 0 0] 0 [.int .i64 S.version, .int .i64 S.last, .slice ta tn tc]) 24 (0, 0))) := m2.updLater (.inr hr0)
  generalize s2.upd r (.cells (setL #[.int .i64 0, .int .i64 0, .slice none 0 0] 0 [.int .i64 S.version, .int .i64 S.last, .slice ta tn tc]) 24 (0, 0)) = s3 at k3 m3 ⊢
  simp only [add_mk, Nat.zero_add]
  rw [W.ld_at k3]
  refine ⟨(S.version, ()), by simp, ?_⟩
  have hvw : IntKind.i64.wrap (S.version + 1) = S.version + 1 := wrap_in (by omega) (by omega)
  rw [W.st_at k3]
  refine ⟨by simp, by simp, by simp [Value.oneCell'], ?_⟩
  dsimp only
  rw [hvw]
  have k4 : (s3.upd r (.cells (setL #[.int .i64 S.version, .int .i64 S.last, .slice ta tn tc] 0 [.int .i64 (S.version + 1)]) 24 (0, 0))) r = some (.cells #[.int .i64 (S.version + 1), .int .i64 S.last, .slice ta tn tc] 24 (0, 0)) := PH.upd_same _ _ _
  have m4 : Fw.Mod [] s1 (s3.upd r (.cells (setL #[.int .i64 S.version, .int .i64 S.last, .slice ta tn tc] 0 [.int .i64 (S.version + 1)]) 24 (0, 0))) := m3.updLater (.inr hr0)
  generalize s3.upd r (.cells (setL #[.int .i64 S.version, .int .i64 S.last, .slice ta tn tc] 0 [.int .i64 (S.version + 1)]) 24 (0, 0)) = s4 at k4 m4 ⊢
  rw [W.st_at k4]
  refine ⟨by simp, by simp, by simp [Value.oneCell'], ?_⟩
  have k5 : (s4.upd r (.cells (setL #[.int .i64 (S.version + 1), .int .i64 S.last, .slice ta tn tc] 2 [.slice none 0 0]) 24 (0, 0))) r = some (.cells #[.int .i64 (S.version + 1), .int .i64 S.last, .slice none 0 0] 24 (0, 0)) := PH.upd_same _ _ _
  have m5 : Fw.Mod [] s1 (s4.upd r (.cells (setL #[.int .i64 (S.version + 1), .int .i64 S.last, .slice ta tn tc] 2 [.slice none 0 0]) 24 (0, 0))) := m4.updLater (.inr hr0)
  generalize s4.upd r (.cells (setL #[.int .i64 (S.version + 1), .int .i64 S.last, .slice ta tn tc] 2 [.slice none 0 0]) 24 (0, 0)) = s5 at k5 m5 ⊢
  refine ⟨fun z s' => ∃ (k : Nat) (tc' : Tri) (pc : List TabP), z = ((D.kind, D.table, D.name, D.column, D.parent, D.unique, D.type, D.dflt.kind, D.dflt.n, D.dflt.s, (ua, un, uc), ()), (0, 0, (none, 0, 0), ()), (Addr.mk r 0 none, ()), ((ta, tn, tc), ()), ((tn : Int), ()), ((k : Int), ()), ()) ∧ k ≤ tn ∧
    Gs s' r ⟨S.version + 1, S.last, S.tabs.take k⟩ tc' pc ∧ Fw.Mod [] s1 s' ∧ ∀ g ∈ Lof tc' pc, s1 g = none, fun z _ => tn - z.2.2.2.2.2.1.1.toNat, ⟨0, noTri, [], rfl, Nat.zero_le _, ⟨k5, Has.nil _, by simp [Lof, Fw.blk], rfl⟩, m5, by simp [Lof, Fw.blk]⟩, ?_⟩
  rintro _ s6 ⟨k, tc', pc, rfl, hk, hG, m6, hf⟩
  simp only [W.br_iff, decide_eq_true_eq, decide_eq_false_iff_not]
  refine ⟨fun hlt => ?_, fun hge => ?_⟩
  · have hlt : k < tn := by omega
    obtain ⟨p, hp⟩ : ∃ p, ps[k]? = some p := ⟨_, List.getElem?_eq_getElem (by omega)⟩
    have hT : S.tabs[k]? = some p.T := by rw [h.eq, List.getElem?_map, hp]; rfl
    have hS6 := h.mono m6.le
    obtain ⟨ad, had, hh⟩ := hS6.el.el.at_enc hp
    dsimp only at had
    subst had
    refine ⟨by omega, ?_⟩
    simp only [W.unSome_some, Int.toNat_natCast]
    refine ld_has_z hh (y := (p.T.id, p.T.name, p.c, p.x, p.k, ())) rfl ?_
    refine b_tabs2 hG.cell ?_
    refine W.call_of (c_copied (hS6.all p (get_mem hp))) ?_
    rintro _ s7 ⟨q, rfl, hqT, hqo, m7, hqf, hqn⟩
    refine ⟨((q.T.id, q.T.name, q.c, q.x, q.k, ()), ()), rfl, ?_⟩
    have hG7 := hG.mod m7 (by simp) (by simp)
    simp only [add_mk, Nat.zero_add]
    rw [W.still_at hG7.cell]
    refine ⟨by simp, ?_⟩
    have hpcl : pc.length = k := by
      have := congrArg List.length hG.eq
      simp only [List.length_map, List.length_take] at this
      omega
    have hq7 : ∀ g ∈ q.L, g ∉ Lof tc' pc := fun g hg hg2 => hG.has.known g hg2 (hqf g hg)
    have m67 : Fw.Mod [] s1 s7 := m6.trans m7
    have hpush := Gs.push (s := s6) (s1 := s7) (p := q) (l := S.last) (K := fun s' => (∃ (k' : Nat) (tc'' : Tri) (pc' : List TabP), (((D.kind, D.table, D.name, D.column, D.parent, D.unique, D.type, D.dflt.kind, D.dflt.n, D.dflt.s, (ua, un, uc), ()), (0, 0, (none, 0, 0), ()), (Addr.mk r 0 none, ()), ((some ad, tn, tc), ()), ((tn : Int), ()), (IntKind.i64.wrap ((k : Int) + 1), ()), ()) :
        MDen [(true, [.int .i64, .str, .str, .str, .str, .bool, .int .i64, .int .i64, .int .i64, .str, .slice]), (true, [.int .i64, .int .i64, .slice]), (false, [.addr]), (false, [.slice]), (false, [.int .i64]), (false, [.int .i64])]) =
        ((D.kind, D.table, D.name, D.column, D.parent, D.unique, D.type, D.dflt.kind, D.dflt.n, D.dflt.s, (ua, un, uc), ()), (0, 0, (none, 0, 0), ()), (Addr.mk r 0 none, ()), ((some ad, tn, tc), ()), ((tn : Int), ()), ((k' : Int), ()), ()) ∧ k' ≤ tn ∧
      Gs s' r ⟨S.version + 1, S.last, S.tabs.take k'⟩ tc'' pc' ∧ Fw.Mod [] s1 s' ∧ ∀ g ∈ Lof tc'' pc', s1 g = none) ∧ tn - (IntKind.i64.wrap ((k : Int) + 1)).toNat < tn - ((k : Int)).toNat) hG (by omega) (m7.mono (by simp)) hG7.cell hqo hqn hqf (by
        intro s' t' ps' hG' hS'
        rw [wrap_succ (k := k) (by omega)]
        refine ⟨⟨k + 1, t', ps', rfl, hlt, ?_, ?_, ?_⟩, by simp only [Int.toNat_natCast]; omega⟩
        · have e : S.tabs.take (k + 1) = S.tabs.take k ++ [q.T] := by rw [List.take_add_one, hT, hqT]; rfl
          rw [e]; exact hG'
        · refine m6.fresh hS'.mod fun x hx => ?_
          rcases List.mem_cons.1 hx with rfl | hx
          · exact .inr hr0
          · exact .inr (hf x hx)
        · intro g hg
          rcases hS'.new g (List.mem_cons_of_mem _ hg) with e | e
          · rcases List.mem_cons.1 e with rfl | e
            · exact hr0
            · exact hf g e
          · exact m6.none e (by simp)) (fun a' n' c' s' hst => hst)
    exact hpush
  · have hall : S.tabs.take k = S.tabs := List.take_of_length_le (by omega)
    rw [hall] at hG
    have hbd1 : Sch.Bd ⟨S.version + 1, S.last, S.tabs⟩ := ⟨hbd.tabs, hbd.each, hbd.last⟩
    have hmod : ∀ {s'}, Fw.Mod (r :: Lof tc' pc) s6 s' → Fw.Mod [] s1 s' := fun m => m6.fresh m fun x hx => by
      rcases List.mem_cons.1 hx with rfl | hx
      · exact .inr hr0
      · exact .inr (hf x hx)
    have herr := turn1_err ⟨S.version + 1, S.last, S.tabs⟩ D st
    refine W.call_of (c_turn hG hbd1 D hu m6 hr0 hul st) ?_
    intro y s7 ho
    generalize turn1 ⟨S.version + 1, S.last, S.tabs⟩ D st = res at ho hturn0 herr
    cases res with
    | error e =>
      obtain ⟨rfl, m7⟩ := ho
      refine ⟨((e, ()), ()), rfl, ?_⟩
      have he := herr e rfl
      simp only [W.br_iff]
      refine ⟨fun _ => ?_, fun hz => absurd (by simpa using hz) he⟩
      rw [← hR, hturn0]
      exact gives_no (hmod m7)
    | ok S' =>
      obtain ⟨rfl, t', ps', hG', hS'⟩ := ho
      refine ⟨((0, ()), ()), rfl, ?_⟩
      refine (W.br_iff _ _ _ _).2 ⟨fun hz => by simp at hz, fun _ => ?_⟩
      rw [W.ld_at hG'.cell]
      refine ⟨(S'.version, S'.last, (t'.1, t'.2.1, t'.2.2), ()), by simp, ?_⟩
      rw [← hR, hturn0]
      refine ⟨t', ps', rfl, hG'.has, hG'.eq, hmod hS'.mod, fun g hg => ?_⟩
      rcases hS'.new g (List.mem_cons_of_mem _ hg) with e | e
      · rcases List.mem_cons.1 e with rfl | e
        · exact hr0
        · exact hf g e
      · exact m6.none e (by simp)
end Go.Proofs.Ythepfbcgpbkbdaa
