/-
  Schemas: the document's copy; its making of tables.
  Conditions: none; it proves no statement by itself.
-/
import Derived.Test.YthepfbcgpbkbdaaM14
set_option linter.unusedVariables false
set_option linter.unusedSimpArgs false
set_option maxHeartbeats 1000000
set_option maxRecDepth 100000
namespace Go.Proofs.Ythepfbcgpbkbdaa
open Fw Go
attribute [-simp] Fw.W.ld_iff Fw.W.st_iff

/-- a new list grows -/
theorem grow {α : Type} {E : Enc α} {e : TypeId} {bytes : Nat} {zero : List Value} {s0 s : PH} {a : Option Addr} {n c : Nat} {xs : List α} {x : α} {K : Option Addr → Nat → Nat → W.T} (h : rowE E s e a n c xs) (hf : ∀ g ∈ Fw.blk a, s0 g = none) (m : Fw.Mod [] s0 s)
    (hz : zero.length = E.sz) (hl : xs.length ≤ 1099511627) (hby : bytes ≤ 100) (hK : ∀ a' c' s', rowE E s' e a' (n + 1) c' (xs ++ [x]) → (∀ g ∈ Fw.blk a', s0 g = none) → Fw.Mod [] s0 s' → K a' (n + 1) c' s') :
    W.nw (.cells (E.f x).toArray e (0, 0)) (fun r => W.app e E.sz bytes zero a n c (Src.sl (some ⟨r, 0, none⟩) 1) K) s := by
  refine W.nw_of fun r s1 hr m1 k1 => ?_
  have hmax : maxLen = 9223372036854775807 := rfl
  have hn : n = xs.length := h.len
  have hb : (n + 1) * bytes ≤ (n + 1) * 100 := Nat.mul_le_mul_left _ hby
  refine app_rowE (h.mod m1 (by simp)) hz (ys := [x]) (k := 1) (src_has (by have := has_block k1; simpa using this) rfl) rfl rfl (by omega) (by omega) ?_
  intro a' c' s2 h' hm
  refine hK a' c' s2 h' ?_ ?_
  · rcases hm with ⟨e, _⟩ | ⟨g, e, hg, _⟩
    · rw [e]; exact hf
    · intro g' hg'
      rw [e] at hg'
      have : g' = g := by simpa [Fw.blk] using hg'
      subst this
      exact (m.trans m1).none hg (by simp)
  · rcases hm with ⟨_, hm⟩ | ⟨_, _, _, hm⟩
    · exact (m.trans m1).fresh hm fun g hg => .inr (hf g hg)
    · exact (m.trans m1).trans hm
def GivesC (s : PH) (S' : Sch) (y : Value) (s' : PH) : Prop :=
  ∃ t' ps', y = schV S' t' ∧ Has s' t' ps' ∧ S'.tabs = ps'.map (·.T) ∧ Fw.Mod [] s s' ∧ ∀ g ∈ Lof t' ps', s g = none
theorem c_rCopy {s : PH} {t : Tri} {S : Sch} {ps : List TabP} (h : SchIs s t S ps) : DCalls Try.prog 13 #[schV S t] s (GivesC s S) := by
  obtain ⟨ta, tn, tc⟩ := t
  refine ok_rCopy S.version S.last ta tn tc _ s ?_
  unfold vc_rCopy
  have htn : tn = ps.length := h.el.len
  have hfew := h.el.few
  have hpl : S.tabs.length = ps.length := by rw [h.eq]; simp
  simp only [RP_join, RP_ite, RP_call, RP_callQ, RP_ret, RP_nw, RP_app, RP_st, RP_ld, RP_unSome, RP_guard, RP_loop, RP_still, RP_clr, RP_look, RP_mset, W.unSome_some]
  refine ⟨fun z s' => ∃ (k a2 a3 : Nat) (a1 : Option Addr) (pc : List TabP), z = ((S.version, S.last, (ta, tn, tc), ()), (0, 0, (none, 0, 0), ()), ((a1, a2, a3), ()), ((k : Int), ()), ()) ∧ k ≤ tn ∧ Has s' (a1, a2, a3) pc ∧ S.tabs.take k = pc.map (·.T) ∧ Fw.Mod [] s s' ∧ ∀ g ∈ Lof (a1, a2, a3) pc, s g = none,
    fun z _ => tn - z.2.2.2.1.1.toNat, ⟨0, 0, 0, none, [], rfl, Nat.zero_le _, Has.nil _, rfl, Mod.refl _ _, by simp [Lof, Fw.blk]⟩, ?_⟩
  rintro _ s1 ⟨k, a2, a3, a1, pc, rfl, hk, hH, he, m1, hf⟩
  simp only [W.br_iff, decide_eq_true_eq, decide_eq_false_iff_not]
  refine ⟨fun hlt => ?_, fun hge => ?_⟩
  · have hlt : k < tn := by omega
    obtain ⟨p, hp⟩ : ∃ p, ps[k]? = some p := ⟨_, List.getElem?_eq_getElem (by omega)⟩
    have hT : S.tabs[k]? = some p.T := by rw [h.eq, List.getElem?_map, hp]; rfl
    have hS1 := h.mono m1.le
    obtain ⟨ad, had, hh⟩ := hS1.el.el.at_enc hp
    dsimp only at had
    subst had
    refine ⟨by omega, ?_⟩
    simp only [W.unSome_some, Int.toNat_natCast]
    refine ld_has_z hh (y := (p.T.id, p.T.name, p.c, p.x, p.k, ())) rfl ?_
    have hP := hS1.all p (get_mem hp)
    have b1 := hP.c.few
    have b2 := hP.x.few
    have b3 := hP.k.few
    have l1 := hP.c.len
    have l2 := hP.x.len
    have l3 := hP.k.len
    refine row_copy (E := colE) (k := p.c.2.1) hP.c.el.src_enc rfl l1.symm (by omega) (by omega) rfl ?_
    intro u1 c1 s2 r1 m2 f1
    refine row_copy (E := idxE) (k := p.x.2.1) (hP.mono m2.le).x.el.src_enc rfl l2.symm (by omega) (by omega) rfl ?_
    intro u2 c2 s3 r2 m3 f2
    refine row_copy (E := forE) (k := p.k.2.1) (hP.mono (m2.trans m3).le).k.el.src_enc rfl l3.symm (by omega) (by omega) rfl ?_
    intro u3 c3 s4 r3 m4 f3
    have m24 := (m2.trans m3).trans m4
    have hpcl : pc.length = k := by
      have := congrArg List.length he
      simp only [List.length_map, List.length_take] at this
      omega
    have hn1 : ∀ g ∈ Fw.blk u1 ++ (Fw.blk u2 ++ Fw.blk u3), s1 g = none := by
      intro g hg
      simp only [List.mem_append] at hg
      rcases hg with hg | hg | hg
      · exact f1 g hg
      · exact m2.none (f2 g hg) (by simp)
      · exact (m2.trans m3).none (f3 g hg) (by simp)
    have hH4 := hH.mod m24 (by simp)
    refine hH4.push (p := ⟨p.T, (u1, p.c.2.1, c1), (u2, p.x.2.1, c2), (u3, p.k.2.1, c3)⟩) ⟨(r1.mod m3 (by simp)).mod m4 (by simp), r2.mod m4 (by simp), r3⟩ ?_ (fun g hg hg2 => hH.known g hg2 (hn1 g hg)) (by omega) ?_
    · simp only [TabP.L, List.nodup_append]
      refine ⟨blk_nodup _, ⟨blk_nodup _, blk_nodup _, ?_⟩, ?_⟩
      · rintro g hg _ hg2 rfl
        exact r2.known g hg (f3 g hg2)
      · rintro g hg _ hg2 rfl
        rcases List.mem_append.1 hg2 with hg2 | hg2
        · exact r1.known g hg (f2 g hg2)
        · exact (r1.mod m3 (by simp)).known g hg (f3 g hg2)
    · intro a' c' s5 h5 st5
      rw [wrap_succ (k := k) (by omega)]
      have m14 : Fw.Mod [] s s4 := m1.trans m24
      refine ⟨⟨k + 1, a2 + 1, c', a', pc ++ [⟨p.T, (u1, p.c.2.1, c1), (u2, p.x.2.1, c2), (u3, p.k.2.1, c3)⟩], rfl, hlt, h5, ?_, ?_, ?_⟩, by simp only [Int.toNat_natCast]; omega⟩
      · rw [List.take_add_one, hT, he]; simp
      · refine m14.fresh st5.mod fun x hx => ?_
        rcases List.mem_append.1 hx with hx | hx
        · exact .inr (hf x hx)
        · exact .inr (m1.none (hn1 x hx) (by simp))
      · intro g hg
        rcases st5.new g hg with e | e
        · rcases List.mem_append.1 e with e | e
          · exact hf g e
          · exact m1.none (hn1 g e) (by simp)
        · exact m14.none e (by simp)
  · have hall : S.tabs.take k = S.tabs := List.take_of_length_le (by omega)
    rw [hall] at he
    exact ⟨(a1, a2, a3), pc, rfl, hH, he, m1, hf⟩
/-- the document's changes: the schema or what is wrong -/
def OutR (r : Res) (L : List Nat) (s : PH) (y : Value) (s' : PH) : Prop := match r with
  | .error e => (∃ S'' t'', y = .tuple #[schV S'' t'', .int .i64 e]) ∧ Fw.Mod L s s'
  | .ok S' => ∃ t' ps', y = .tuple #[schV S' t', .int .i64 0] ∧ Has s' t' ps' ∧ S'.tabs = ps'.map (·.T) ∧ Step L (Lof t' ps') s s'
theorem c_rCreate {s : PH} {t : Tri} {S : Sch} {ps : List TabP} (hH : Has s t ps) (he : S.tabs = ps.map (·.T)) (hb : S.Bd) (D : Ddl) {u : Tri} (hu : Sl colE s u D.cols) (hul : D.cols.length ≤ 1073741824) (st : Int) :
    DCalls Try.prog 40 #[schV S t, ddlV D u, .int .i64 st] s (OutR (createTurn S D st) (Lof t ps) s) := by
  obtain ⟨ta, tn, tc⟩ := t
  obtain ⟨ua, un, uc⟩ := u
  refine ok_rCreate S.version S.last ta tn tc D.kind D.table D.name D.column D.parent D.unique D.type D.dflt.kind D.dflt.n D.dflt.s ua un uc st _ s ?_
  unfold vc_rCreate
  have hun : un = D.cols.length := hu.len
  have htn : tn = ps.length := hH.row.len
  have hpl : S.tabs.length = ps.length := by rw [he]; simp
  obtain ⟨R, hR⟩ : ∃ R, OutR (createTurn S D st) (Lof (ta, tn, tc) ps) s = R := ⟨_, rfl⟩
  have hret : ∀ {e : Int} {s'}, createTurn S D st = .error e → Fw.Mod [] s s' → R (.tuple #[schV S (ta, tn, tc), .int .i64 e]) s' := fun e1 m => by
    rw [← hR, e1]; exact ⟨⟨S, (ta, tn, tc), rfl⟩, m.mono (by simp)⟩
  rw [hR]
  have hlast := hb.last
  have hSch : SchIs s (ta, tn, tc) S ps := hH.is he (by have := hb.tabs; omega) (fun T hT => by obtain ⟨_, a, b, c⟩ := hb.each T hT; exact ⟨by omega, by omega, by omega⟩)
  simp only [RP_join, RP_ite, RP_call, RP_callQ, RP_ret, RP_nw, RP_app, RP_st, RP_ld, RP_unSome, RP_guard, RP_loop, RP_still, RP_clr, RP_look, RP_mset, W.unSome_some]
  refine callq ((named D.table, ()), ()) (c_rNamed D.table s) rfl ?_
  simp only [W.br_iff]
  have hbad1 : ¬ (named D.table = true ∧ ∀ c ∈ D.cols, named c.name = true) → createTurn S D st = .error 100 := by
    intro e
    unfold createTurn
    rw [if_pos]
    cases hN : (named D.table && D.cols.all fun c => named c.name)
    · rfl
    · simp only [Bool.and_eq_true, List.all_eq_true] at hN
      exact absurd hN e
  refine ⟨fun hN => hret (hbad1 fun e => by rw [e.1] at hN; cases hN) (Mod.refl _ _), fun hN => ?_⟩
  have hN : named D.table = true := not_f hN
  refine ⟨fun z s' => ∃ k : Nat, z = ((S.version, S.last, (ta, tn, tc), ()), (D.kind, D.table, D.name, D.column, D.parent, D.unique, D.type, D.dflt.kind, D.dflt.n, D.dflt.s, (ua, un, uc), ()), (0, 0, (none, 0, 0), ()), ((k : Int), ()), ()) ∧ k ≤ un ∧ s' = s ∧ ∀ c ∈ D.cols.take k, named c.name = true,
    fun z _ => un - z.2.2.2.1.1.toNat, ⟨0, rfl, Nat.zero_le _, rfl, by simp⟩, ?_⟩
  rintro _ s0 ⟨k, rfl, hk, rfl, hnames⟩
  simp only [W.br_iff, decide_eq_true_eq, decide_eq_false_iff_not]
  refine ⟨fun hlt => ?_, fun hge => ?_⟩
  · have hlt : k < un := by omega
    obtain ⟨x, hx⟩ : ∃ x, D.cols[k]? = some x := ⟨_, List.getElem?_eq_getElem (by omega)⟩
    obtain ⟨ad, had, hh⟩ := hu.el.at_enc hx
    dsimp only at had
    subst had
    refine ⟨by omega, ?_⟩
    simp only [W.unSome_some, Int.toNat_natCast]
    refine ld_has (j := 1) hh (cs := [.str]) (y := (x.name, ())) rfl ?_
    refine callq ((named x.name, ()), ()) (c_rNamed x.name _) rfl ?_
    simp only [W.br_iff]
    refine ⟨fun h1 => hret (hbad1 fun e => by rw [e.2 x (List.mem_of_getElem? hx)] at h1; cases h1) (Mod.refl _ _), fun h1 => ?_⟩
    rw [wrap_succ (k := k) (by omega)]
    refine ⟨⟨k + 1, rfl, hlt, by trivial, ?_⟩, by simp only [Int.toNat_natCast]; omega⟩
    intro c hc
    rw [List.take_add_one, hx] at hc
    rcases List.mem_append.1 hc with hc | hc
    · exact hnames c hc
    · have : c = x := by simpa using hc
      rw [this]; exact not_f h1
  have hall : D.cols.take k = D.cols := List.take_of_length_le (by omega)
  rw [hall] at hnames
  have hok1 : ¬ (named D.table && D.cols.all fun c => named c.name) = false := by
    have : (named D.table && D.cols.all fun c => named c.name) = true := by simp only [Bool.and_eq_true, List.all_eq_true]; exact ⟨hN, hnames⟩
    rw [this]; simp
  refine callq ((tabAt S D.table, ()), ()) (c_rTableAt (t := (ta, tn, tc)) hSch D.table) rfl ?_
  simp only [W.br_iff, decide_eq_true_eq, decide_eq_false_iff_not]
  have hbad2 : ¬ (tabAt S D.table < 0 ∧ dbl D.cols = false) → createTurn S D st = .error 152 := by
    intro e
    unfold createTurn
    rw [if_neg hok1, if_pos]
    cases hd : dbl D.cols
    · simp only [Bool.or_false, decide_eq_true_eq]
      have : ¬ tabAt S D.table < 0 := fun e2 => e ⟨e2, hd⟩
      omega
    · simp
  refine ⟨fun h1 => hret (hbad2 fun e => by omega) (Mod.refl _ _), fun h1 => ?_⟩
  have hwl : IntKind.i64.wrap (S.last + 1) = S.last + 1 := wrap_in (by omega) (by omega)
  rw [hwl]
  refine ⟨fun z s' => ∃ k : Nat, z = ((S.version, S.last, (ta, tn, tc), ()), (D.kind, D.table, D.name, D.column, D.parent, D.unique, D.type, D.dflt.kind, D.dflt.n, D.dflt.s, (ua, un, uc), ()), (0, 0, (none, 0, 0), ()), (S.last + 1, D.table, (ua, un, uc), (none, 0, 0), (none, 0, 0), ()), ((k : Int), ()), ()) ∧ k ≤ un ∧ s' = s0 ∧ upTo (condI (oneN D.cols) D.cols) k = true,
    fun z _ => un - z.2.2.2.2.1.1.toNat, ⟨0, rfl, Nat.zero_le _, rfl, rfl⟩, ?_⟩
  rintro _ s1 ⟨k, rfl, hk, rfl, hone⟩
  simp only [W.br_iff, decide_eq_true_eq, decide_eq_false_iff_not]
  refine ⟨fun hlt => ?_, fun hge => ?_⟩
  · have hlt : k < un := by omega
    obtain ⟨x, hx⟩ : ∃ x, D.cols[k]? = some x := ⟨_, List.getElem?_eq_getElem (by omega)⟩
    obtain ⟨ad, had, hh⟩ := hu.el.at_enc hx
    dsimp only at had
    subst had
    refine ⟨by omega, ?_⟩
    simp only [W.unSome_some, Int.toNat_natCast]
    refine ld_has (j := 1) hh (cs := [.str]) (y := (x.name, ())) rfl ?_
    refine W.callQ_of ((colAt ⟨S.last + 1, D.table, D.cols, [], []⟩ x.name, ()), ()) (c_rColumnAt (p := ⟨⟨S.last + 1, D.table, D.cols, [], []⟩, (some ad, un, uc), noTri, noTri⟩) hu x.name) rfl ?_
    simp only [W.br_iff]
    have hk' : D.cols.length = un := hun.symm
    refine ⟨fun h2 => hret (hbad2 fun e => ?_) (Mod.refl _ _), fun h2 => ?_⟩
    · have h2 : colAt ⟨S.last + 1, D.table, D.cols, [], []⟩ x.name ≠ (k : Int) := by simpa using h2
      have e2 := e.2
      unfold dbl at e2
      have e2 := upTo_iff.1 (not_f e2) k (by omega)
      rw [condI_at hx] at e2
      exact h2 (by unfold colAt; simpa using e2)
    · have h2 : colAt ⟨S.last + 1, D.table, D.cols, [], []⟩ x.name = (k : Int) := by simpa using h2
      rw [wrap_succ (k := k) (by omega)]
      refine ⟨⟨k + 1, rfl, hlt, by trivial, ?_⟩, by simp only [Int.toNat_natCast]; omega⟩
      rw [upTo_succ, hone, condI_at hx, Bool.true_and]
      exact decide_eq_true h2
  have hke : k = D.cols.length := by omega
  subst hke
  have hdbl := dbl_no hone
  have hok2 : ¬ (decide (0 ≤ tabAt S D.table) || dbl D.cols) = true := by
    rw [hdbl, Bool.or_false, decide_eq_true_eq]; omega
  have hbad3 : (6 ≤ S.tabs.length ∨ D.cols.length < 1 ∨ 8 < D.cols.length) → createTurn S D st = .error 156 := fun e => by
    unfold createTurn; rw [if_neg hok1, if_neg hok2, if_pos (by simp only [Bool.or_eq_true, decide_eq_true_eq]; exact e)]
  refine W.join_gen (fun z s' => z = ((S.version, S.last, (ta, tn, tc), ()), (D.kind, D.table, D.name, D.column, D.parent, D.unique, D.type, D.dflt.kind, D.dflt.n, D.dflt.s, (ua, un, uc), ()), (0, 0, (none, 0, 0), ()), (S.last + 1, D.table, (ua, un, uc), (none, 0, 0), (none, 0, 0), ()), ()) ∧ s' = s1 ∧ ¬ (6 ≤ S.tabs.length ∨ D.cols.length < 1 ∨ 8 < D.cols.length)) ?_ ?_
  rotate_left
  · intro J hJ
    simp only [W.br_iff, decide_eq_true_eq, decide_eq_false_iff_not]
    refine ⟨fun h2 => hret (hbad3 (by omega)) (Mod.refl _ _), fun h2 => ⟨fun h3 => hret (hbad3 ?_) (Mod.refl _ _), fun h3 => ⟨fun h4 => hret (hbad3 (by omega)) (Mod.refl _ _), fun h4 => hJ _ _ ⟨rfl, rfl, ?_⟩⟩⟩⟩
    · have h3 : (un : Int) = 0 := by simpa using h3
      omega
    · have h3 : (un : Int) ≠ 0 := by simpa using h3
      omega
  rintro _ s2 ⟨rfl, rfl, hnum⟩
  have hok3 : ¬ (decide (6 ≤ S.tabs.length) || (decide (D.cols.length < 1) || decide (8 < D.cols.length))) = true := by
    simp only [Bool.or_eq_true, decide_eq_true_eq]; exact hnum
  have hbad4 : ¬ (∀ c ∈ D.cols, typed c.kind = true) → createTurn S D st = .error 154 := by
    intro e
    unfold createTurn
    rw [if_neg hok1, if_neg hok2, if_neg hok3, if_pos]
    cases hN : (D.cols.all fun c => typed c.kind)
    · rfl
    · simp only [List.all_eq_true] at hN
      exact absurd hN e
  refine ⟨fun z s' => ∃ (k n c : Nat) (a : Option Addr), z = ((S.version, S.last, (ta, tn, tc), ()), (D.kind, D.table, D.name, D.column, D.parent, D.unique, D.type, D.dflt.kind, D.dflt.n, D.dflt.s, (ua, un, uc), ()), (0, 0, (none, 0, 0), ()), (S.last + 1, D.table, (a, n, c), (none, 0, 0), (none, 0, 0), ()), ((k : Int), ()), ()) ∧ k ≤ un ∧
    rowE colE s' 44 a n c (mkCols (S.last + 2) (D.cols.take k)) ∧ (∀ g ∈ Fw.blk a, s2 g = none) ∧ Fw.Mod [] s2 s' ∧ ∀ c ∈ D.cols.take k, typed c.kind = true, fun z _ => un - z.2.2.2.2.1.1.toNat, ⟨0, 0, 0, none, rfl, Nat.zero_le _, rowE.nil, by simp [Fw.blk], Mod.refl _ _, by simp⟩, ?_⟩
  rintro _ s3 ⟨k, n, c, a, rfl, hk, hrow, hfr, m3, htyp⟩
  simp only [W.br_iff, decide_eq_true_eq, decide_eq_false_iff_not]
  refine ⟨fun hlt => ?_, fun hge => ?_⟩
  · have hlt : k < un := by omega
    obtain ⟨x, hx⟩ : ∃ x, D.cols[k]? = some x := ⟨_, List.getElem?_eq_getElem (by omega)⟩
    have hu3 := hu.mono m3.le
    obtain ⟨ad, had, hh⟩ := hu3.el.at_enc hx
    dsimp only at had
    subst had
    have hn : n = k := by have := hrow.len; rw [mkCols_len, List.length_take] at this; omega
    refine ⟨by omega, ?_⟩
    simp only [W.unSome_some, Int.toNat_natCast]
    refine ld_has (j := 2) hh (cs := [.int .i64]) (y := (x.kind, ())) rfl ?_
    refine callq ((typed x.kind, ()), ()) (c_rTyped x.kind _) rfl ?_
    simp only [W.br_iff]
    refine ⟨fun h1 => hret (hbad4 fun e => by rw [e x (List.mem_of_getElem? hx)] at h1; cases h1) m3, fun h1 => ?_⟩
    refine ⟨by omega, ?_⟩
    simp only [W.unSome_some, Int.toNat_natCast]
    refine ld_has (j := 1) hh (cs := [.str]) (y := (x.name, ())) rfl ?_
    refine ⟨by omega, ?_⟩
    simp only [W.unSome_some, Int.toNat_natCast]
    refine ld_has (j := 2) hh (cs := [.int .i64]) (y := (x.kind, ())) rfl ?_
    have hid : IntKind.i64.wrap (IntKind.i64.wrap (S.last + 2) + (k : Int)) = S.last + 2 + k := by
      rw [wrap_in (n := S.last + 2) (by omega) (by omega), wrap_in (by omega) (by omega)]
    rw [hid]
    refine grow (E := colE) (x := ⟨S.last + 2 + k, x.name, x.kind, 3, ⟨0, 0, ⟨#[]⟩⟩⟩) hrow hfr m3 rfl (by rw [mkCols_len, List.length_take]; omega) (by omega) ?_
    intro a' c' s4 h4 f4 m4
    rw [wrap_succ (k := k) (by omega)]
    have hsnoc : mkCols (S.last + 2) (D.cols.take (k + 1)) = mkCols (S.last + 2) (D.cols.take k) ++ [⟨S.last + 2 + k, x.name, x.kind, 3, ⟨0, 0, ⟨#[]⟩⟩⟩] := by
      have : D.cols.take (k + 1) = D.cols.take k ++ [x] := by rw [List.take_add_one, hx]; rfl
      rw [this, mkCols_snoc, List.length_take, Nat.min_eq_left (by omega)]
    refine ⟨⟨k + 1, n + 1, c', a', rfl, hlt, by rw [hsnoc]; exact h4, f4, m4, ?_⟩, by simp only [Int.toNat_natCast]; omega⟩
    intro c hc
    rw [List.take_add_one, hx] at hc
    rcases List.mem_append.1 hc with hc | hc
    · exact htyp c hc
    · have : c = x := by simpa using hc
      rw [this]; exact not_f h1
  have hall : D.cols.take k = D.cols := List.take_of_length_le (by omega)
  rw [hall] at hrow htyp
  have hok4 : ¬ (D.cols.all fun c => typed c.kind) = false := by
    have : (D.cols.all fun c => typed c.kind) = true := by simp only [List.all_eq_true]; exact htyp
    rw [this]; simp
  refine ⟨fun h5 => hret (by unfold createTurn; rw [if_neg hok1, if_neg hok2, if_neg hok3, if_neg hok4, if_pos (by simpa using h5)]) m3, fun h5 => ?_⟩
  have hTurn : createTurn S D st = .ok ⟨S.version, S.last + 1 + D.cols.length, S.tabs ++ [⟨S.last + 1, D.table, mkCols (S.last + 2) D.cols, [], []⟩]⟩ := by
    unfold createTurn; rw [if_neg hok1, if_neg hok2, if_neg hok3, if_neg hok4, if_neg (by simpa using h5)]
  have hH3 := hH.mod m3 (by simp)
  have hL1 : ∀ g ∈ (TabP.mk ⟨S.last + 1, D.table, mkCols (S.last + 2) D.cols, [], []⟩ (a, n, c) noTri noTri).L, s2 g = none := by
    intro g hg
    refine hfr g ?_
    simpa [TabP.L, Fw.blk] using hg
  refine hH3.push (p := ⟨⟨S.last + 1, D.table, mkCols (S.last + 2) D.cols, [], []⟩, (a, n, c), noTri, noTri⟩) ⟨hrow, rowE.nil, rowE.nil⟩ (by simpa [TabP.L, Fw.blk] using blk_nodup a) (fun g hg hg2 => hH.known g hg2 (hL1 g hg)) (by have := hb.tabs; omega) ?_
  intro a' c' s5 h5 st5
  rw [← hR, hTurn]
  have hw2 : IntKind.i64.wrap (S.last + 1 + (un : Int)) = S.last + 1 + D.cols.length := by rw [wrap_in (by omega) (by omega), hun]
  rw [hwl, hw2]
  refine ⟨(a', tn + 1, c'), _, rfl, h5, by simp [he], ⟨?_, ?_⟩⟩
  · refine (m3.mono (by simp)).fresh st5.mod fun x hx => ?_
    rcases List.mem_append.1 hx with hx | hx
    · exact .inl hx
    · exact .inr (hL1 x hx)
  · intro x hx
    rcases st5.new x hx with e | e
    · rcases List.mem_append.1 e with e | e
      · exact .inl e
      · exact .inr (hL1 x e)
    · exact .inr (m3.none e (by simp))
end Go.Proofs.Ythepfbcgpbkbdaa
