/-
  Part 4 for the law: texts of this session's own, those parts that the claim needs, one behind the other.
  Conditions: none; it proves no statement by itself.
-/
import Derived.Test.YthepfbcgpbkbdaaBoardStillK3
set_option linter.unusedVariables false
set_option linter.unusedSectionVars false
set_option linter.unusedSimpArgs false
section
set_option linter.unusedVariables false
set_option linter.unusedSimpArgs false
set_option maxHeartbeats 1000000
set_option maxRecDepth 100000
namespace Go.Proofs.Ythepfbcgpbkbdaa
open Fw Go
attribute [-simp] Fw.W.ld_iff Fw.W.st_iff
def lseE : Enc Lse where
  sz := 3
  f l := [.int .i64 l.node, .int .i64 l.ver, .int .i64 l.til]
  len _ := rfl
  one l v hv := by simp at hv; rcases hv with rfl | rfl | rfl <;> rfl
  pos := by omega
/-- a job, and where its columns lie -/
structure JbP where
  j : Jb
  u : Tri
def jobE : Enc JbP where
  sz := 22
  f q := [.int .i64 q.j.id, .int .i64 q.j.call, .int .i64 q.j.y1, .int .i64 q.j.y2, .int .i64 q.j.y3, .int .i64 q.j.D.kind, .string q.j.D.table, .string q.j.D.name, .string q.j.D.column, .string q.j.D.parent, .bool q.j.D.unique, .int .i64 q.j.D.type,
    .int .i64 q.j.D.dflt.kind, .int .i64 q.j.D.dflt.n, .string q.j.D.dflt.s, .slice q.u.1 q.u.2.1 q.u.2.2, .int .i64 q.j.phase, .bool q.j.back, .bool q.j.drain, .string q.j.mark, .int .i64 q.j.fin, .int .i64 q.j.why]
  len _ := rfl
  one q v hv := by
    simp at hv
    rcases hv with rfl | rfl | rfl | rfl | rfl | rfl | rfl | rfl | rfl | rfl | rfl | rfl | rfl | rfl | rfl | rfl | rfl | rfl | rfl | rfl | rfl | rfl <;> rfl
  pos := by omega
abbrev ddlD (D : Ddl) (u : Tri) : Den [.int .i64, .str, .str, .str, .str, .bool, .int .i64, .int .i64, .int .i64, .str, .slice] := (D.kind, D.table, D.name, D.column, D.parent, D.unique, D.type, D.dflt.kind, D.dflt.n, D.dflt.s, u, ())
def Ty (s : PH) (g : Nat) (e : TypeId) : Prop := ∃ cur, s g = some (.cells cur e (0, 0))
theorem Ty.ne {s : PH} {g h : Nat} {e e' : TypeId} (h1 : Ty s g e) (h2 : Ty s h e') (hne : e ≠ e') : g ≠ h := by
  rintro rfl
  obtain ⟨c1, h1⟩ := h1
  obtain ⟨c2, h2⟩ := h2
  rw [h1] at h2; cases h2
  exact hne rfl
theorem row_ty {α : Type} {E : Enc α} {s : PH} {e : TypeId} {a : Option Addr} {n c : Nat} {xs : List α} (h : rowE E s e a n c xs) : ∀ g ∈ Fw.blk a, Ty s g e := by
  intro g hg
  rcases h.shape with ⟨rfl, _⟩ | ⟨g', rfl⟩
  · simp [Fw.blk] at hg
  · simp [Fw.blk] at hg; subst hg
    exact h.ty rfl
theorem Has.ty {s : PH} {t : Tri} {ps : List TabP} (h : Has s t ps) : ∀ g ∈ Lof t ps, Ty s g 42 ∨ Ty s g 44 ∨ Ty s g 106 ∨ Ty s g 109 := by
  intro g hg
  simp only [Lof, List.mem_append, List.mem_flatMap] at hg
  rcases hg with hg | ⟨p, hp, hg⟩
  · exact .inl (row_ty h.row g hg)
  · simp only [TabP.L, List.mem_append] at hg
    rcases hg with hg | hg | hg
    · exact .inr (.inl (row_ty (h.all p hp).c g hg))
    · exact .inr (.inr (.inl (row_ty (h.all p hp).x g hg)))
    · exact .inr (.inr (.inr (row_ty (h.all p hp).k g hg)))
/-- a board in the heap -/
structure Brd (s : PH) (b : Nat) (P : Pl) (t la ja : Tri) (ps : List TabP) (qs : List JbP) : Prop where
  blk : s b = some (.cells #[.int .i64 P.S.version, .int .i64 P.S.last, .slice t.1 t.2.1 t.2.2, .slice la.1 la.2.1 la.2.2, .slice ja.1 ja.2.1 ja.2.2] 126 (0, 0))
  has : Has s t ps
  teq : P.S.tabs = ps.map (·.T)
  sm : P.S.Sm
  lrow : rowE lseE s 89 la.1 la.2.1 la.2.2 P.L
  jrow : rowE jobE s 76 ja.1 ja.2.1 ja.2.2 qs
  jeq : P.J = qs.map (·.j)
  cols : ∀ q ∈ qs, rowE colE s 44 q.u.1 q.u.2.1 q.u.2.2 q.j.D.cols ∧ q.j.D.cols.length ≤ 1048576
def BL (b : Nat) (la ja : Tri) : List Nat := b :: (Fw.blk la.1 ++ Fw.blk ja.1)
/-- the same, places apart: L is what is written to -/
def BdAt (s : PH) (b : Nat) (P : Pl) (L : List Nat) : Prop := ∃ t la ja ps qs, L = BL b la ja ∧ Brd s b P t la ja ps qs
section
variable {s s' : PH} {b : Nat} {P : Pl} {t la ja : Tri} {ps : List TabP} {qs : List JbP}
theorem Brd.bty (h : Brd s b P t la ja ps qs) : Ty s b 126 := ⟨_, h.blk⟩
theorem Brd.tys (h : Brd s b P t la ja ps qs) : ∀ g ∈ BL b la ja, Ty s g 126 ∨ Ty s g 89 ∨ Ty s g 76 := by
  intro g hg
  simp only [BL, List.mem_cons, List.mem_append] at hg
  rcases hg with rfl | hg | hg
  · exact .inl h.bty
  · exact .inr (.inl (row_ty h.lrow g hg))
  · exact .inr (.inr (row_ty h.jrow g hg))
/-- the schema stays where the board's own blocks alone are written to -/
theorem Brd.hasM (h : Brd s b P t la ja ps qs) {M : List Nat} (hm : Fw.Mod M s s') (hM : ∀ g ∈ M, g ∈ BL b la ja) : Has s' t ps := by
  refine h.has.mod hm fun g hg hg2 => ?_
  have h1 := h.has.ty g hg
  have h2 := h.tys g (hM g hg2)
  rcases h1 with h1 | h1 | h1 | h1 <;> rcases h2 with h2 | h2 | h2 <;> exact (h1.ne h2 (by decide)) rfl
theorem Brd.colsM (h : Brd s b P t la ja ps qs) {M : List Nat} (hm : Fw.Mod M s s') (hM : ∀ g ∈ M, g ∈ BL b la ja) : ∀ q ∈ qs, rowE colE s' 44 q.u.1 q.u.2.1 q.u.2.2 q.j.D.cols ∧ q.j.D.cols.length ≤ 1048576 := by
  intro q hq
  refine ⟨(h.cols q hq).1.mod hm fun g hg hg2 => ?_, (h.cols q hq).2⟩
  have h1 := row_ty (h.cols q hq).1 g hg
  have h2 := h.tys g (hM g hg2)
  rcases h2 with h2 | h2 | h2 <;> exact (h1.ne h2 (by decide)) rfl
theorem Brd.bl (h : Brd s b P t la ja ps qs) : b ∉ Fw.blk la.1 ∧ b ∉ Fw.blk ja.1 ∧ ∀ g ∈ Fw.blk la.1, g ∉ Fw.blk ja.1 :=
  ⟨fun hg => (h.bty.ne (row_ty h.lrow b hg) (by decide)) rfl, fun hg => (h.bty.ne (row_ty h.jrow b hg) (by decide)) rfl, fun g hg hg2 => ((row_ty h.lrow g hg).ne (row_ty h.jrow g hg2) (by decide)) rfl⟩
theorem Brd.mod (h : Brd s b P t la ja ps qs) (hm : Fw.Mod [] s s') : Brd s' b P t la ja ps qs :=
  ⟨hm.at h.blk (by simp), h.hasM hm (by simp), h.teq, h.sm, h.lrow.mod hm (by simp), h.jrow.mod hm (by simp), h.jeq, h.colsM hm (by simp)⟩
theorem Brd.is (h : Brd s b P t la ja ps qs) : SchIs s t P.S ps := h.has.sm h.teq h.sm
theorem BdAt.mod {L : List Nat} (h : BdAt s b P L) (hm : Fw.Mod [] s s') : BdAt s' b P L := by
  obtain ⟨t, la, ja, ps, qs, rfl, h⟩ := h
  exact ⟨t, la, ja, ps, qs, rfl, h.mod hm⟩
theorem BdAt.known {L : List Nat} (h : BdAt s b P L) : ∀ g ∈ L, s g ≠ none := by
  obtain ⟨t, la, ja, ps, qs, rfl, h⟩ := h
  intro g hg
  rcases h.tys g hg with ⟨c, e⟩ | ⟨c, e⟩ | ⟨c, e⟩ <;> rw [e] <;> simp
end
abbrev noPl : Pl := ⟨noSch, [], []⟩
theorem c_bNew (s : PH) : DCalls Try.prog 30 #[] s fun y s' => ∃ b, y = cp b ∧ BdAt s' b noPl [b] ∧ Fw.Mod [] s s' ∧ s b = none := by
  refine ok_New _ s ?_
  unfold vc_New
  simp only [RP_nw, RP_ret]
  refine W.nw_of fun r s1 hr m1 k1 => ?_
  exact ⟨r, rfl, ⟨noTri, noTri, noTri, [], [], by simp [BL, Fw.blk], ⟨k1, Has.nil _, rfl, no_sm, rowE.nil, rowE.nil, rfl, by simp⟩⟩, m1, hr⟩
abbrev lseV (l : Lse) : Value := .agg #[.int .i64 l.node, .int .i64 l.ver, .int .i64 l.til]
theorem c_force (l : Lse) (now : Int) (s : PH) : DCalls Try.prog 109 #[lseV l, .int .i64 now] s fun y s' => y = .bool (forceB l now) ∧ s' = s := by
  refine ok_force l.node l.ver l.til now _ s ?_
  unfold vc_force
  simp [forceB]
/-- the job at hand -/
def handP (ja : Tri) (P : Pl) : Option Addr := match P.hand with | none => none | some (i, _) => ja.1.map fun a => a.add (i * 22)
theorem c_hand {s : PH} {b : Nat} {P : Pl} {t la ja : Tri} {ps : List TabP} {qs : List JbP} (h : Brd s b P t la ja ps qs) (hn : P.J.length ≤ 1000000) :
    DCalls Try.prog 65 #[cp b] s fun y s' => y = .pointer (handP ja P) ∧ s' = s := by
  refine ok_hand b _ s ?_
  unfold vc_hand
  have hb := h.blk
  have hl := h.jrow.len
  have hjl : P.J.length = qs.length := by rw [h.jeq, List.length_map]
  obtain ⟨R, hR⟩ : ∃ R : Value → PH → Prop, (fun y s' => y = .pointer (handP ja P) ∧ s' = s) = R := ⟨_, rfl⟩
  rw [hR]
  have hsk : handAt P.J = seek (fun q : JbP => decide (q.j.fin = 0)) qs 0 := by unfold handAt; rw [h.jeq, seek_map]
  obtain ⟨ja1, jn, jc⟩ := ja
  dsimp only at hl hb
  simp only [RP_unSome, RP_ld, RP_loop, RP_ite, RP_ret, RP_guard, W.unSome_some, add_mk, Nat.zero_add]
  rw [W.ld_at hb]
  refine ⟨((ja1, jn, jc), ()), rfl, ?_⟩
  refine ⟨fun z s' => ∃ k : Nat, z = (((jn : Int), ()), ((k : Int), ()), ()) ∧ k ≤ jn ∧ s' = s ∧ seek (fun q : JbP => decide (q.j.fin = 0)) (qs.drop k) k = handAt P.J, fun z _ => jn - z.2.1.1.toNat, ⟨0, rfl, Nat.zero_le _, rfl, by rw [hsk, List.drop_zero]⟩, ?_⟩
  rintro _ s ⟨k, rfl, hk, rfl, hs⟩
  refine (W.br_iff _ _ _ _).2 ⟨fun hlt => ?_, fun hge => ?_⟩
  · have hlt : (k : Int) < (jn : Int) := of_decide_eq_true hlt
    obtain ⟨q, hq⟩ : ∃ q, qs[k]? = some q := ⟨_, List.getElem?_eq_getElem (by omega)⟩
    obtain ⟨g, rfl, hh⟩ := h.jrow.at hq
    simp only [W.unSome_some, add_mk, Nat.zero_add]
    rw [W.ld_at hb]
    refine ⟨((some ⟨g, 0, none⟩, jn, jc), ()), rfl, ?_⟩
    dsimp only
    refine (W.guard_iff _ _ _).2 ⟨by omega, ?_⟩
    simp only [W.unSome_some, add_mk, Nat.zero_add, Int.toNat_natCast]
    have hh' : s.has ⟨g, k * 22, none⟩ (jobE.f q) := hh
    refine ld_hasm (j := 20) hh' (y := (q.j.fin, ())) rfl ?_
    rw [seek_step hq] at hs
    refine (W.br_iff _ _ _ _).2 ⟨fun e => ?_, fun e => ?_⟩
    · have e : (q.j.fin == 0) = true := e
      have e : q.j.fin = 0 := eq_of_beq e
      rw [if_pos (by simp [e])] at hs
      rw [← hR]
      have hqP : P.J[k]? = some q.j := by rw [h.jeq, List.getElem?_map, hq]; (first | done | rfl)
      have hhand : P.hand = some (k, q.j) := by
        unfold Pl.hand
        rw [← hs, if_neg (by omega), Int.toNat_natCast, hqP]; (first | done | rfl)
      refine ⟨?_, rfl⟩
      unfold handP
      rw [hhand]
      simp [add_mk]
    · have e : (q.j.fin == 0) = false := e
      have e : q.j.fin ≠ 0 := by simpa using e
      rw [if_neg (by simp [e])] at hs
      rw [wrap_succ (k := k) (by omega)]
      exact ⟨⟨k + 1, rfl, by omega, rfl, hs⟩, by simp only [Int.toNat_natCast]; omega⟩
  · have hge : ¬ (k : Int) < (jn : Int) := of_decide_eq_false hge
    rw [seek_end (by omega)] at hs
    rw [← hR]
    refine ⟨?_, rfl⟩
    unfold handP Pl.hand
    rw [← hs]; (first | done | rfl)
end Go.Proofs.Ythepfbcgpbkbdaa
end
section
set_option linter.unusedVariables false
set_option linter.unusedSimpArgs false
set_option maxHeartbeats 1000000
set_option maxRecDepth 100000
namespace Go.Proofs.Ythepfbcgpbkbdaa
open Fw Go
attribute [-simp] Fw.W.ld_iff Fw.W.st_iff
/-- a command, and where its lists lie -/
structure CmdP where
  c : Cm
  x1 : Int
  x2 : Int
  x3 : Int
  ho : Int
  r : Tri
  w : Tri
  mi : Int
  un : Int
  ts : Int
  u : Tri
abbrev cmdV (k : CmdP) : Value := .agg #[.int .i64 k.c.kind, .int .i64 k.c.y1, .int .i64 k.c.y2, .int .i64 k.c.y3, .int .i64 k.x1, .int .i64 k.x2, .int .i64 k.x3, .int .i64 k.ho, .slice k.r.1 k.r.2.1 k.r.2.2, .slice k.w.1 k.w.2.1 k.w.2.2, .int .i64 k.mi, .int .i64 k.un, .int .i64 k.ts, .int .i64 k.c.ver, .int .i64 k.c.call,
  .int .i64 k.c.D.kind, .string k.c.D.table, .string k.c.D.name, .string k.c.D.column, .string k.c.D.parent, .bool k.c.D.unique, .int .i64 k.c.D.type, .int .i64 k.c.D.dflt.kind, .int .i64 k.c.D.dflt.n, .string k.c.D.dflt.s, .slice k.u.1 k.u.2.1 k.u.2.2, .int .i64 k.c.job, .int .i64 k.c.phase, .string k.c.mark, .int .i64 k.c.why]
abbrev resV (r : Rs) : Value := .agg #[.int .i64 r.err, .int .i64 0, .int .i64 0, .int .i64 0, .int .i64 0, .int .i64 r.ver, .int .i64 r.til, .int .i64 r.job, .bool r.new]
theorem c_move {s : PH} {g o : Nat} {q : JbP} (hh : s.has ⟨g, o, none⟩ (jobE.f q)) (hp : 0 ≤ q.j.phase ∧ q.j.phase < ((movesOf q.j).length : Int)) :
    DCalls Try.prog 67 #[.pointer (some ⟨g, o, none⟩)] s fun y s' => y = .agg #[.int .i64 (moveOf q.j).1, .int .i64 (moveOf q.j).2] ∧ s' = s := by
  refine DCalls.quiet ?_
  refine ok_move ⟨g, o, none⟩ _ s ?_
  unfold vc_move
  simp only [RP_unSome, RP_ld, RP_call, RP_still, RP_guard, RP_ret, W.unSome_some, add_mk]
  refine ld_hasm (j := 5) hh (y := ddlD q.j.D q.u) rfl ?_
  simp only [W.unSome_some, add_mk]
  refine ld_hasm (j := 17) hh (cs := [.bool]) (y := (q.j.back, ())) rfl ?_
  simp only [W.unSome_some, add_mk]
  refine ld_hasm (j := 16) hh (cs := [.int .i64]) (y := (q.j.phase, ())) rfl ?_
  refine W.call_of (c_Path q.j.D q.u q.j.back s) ?_
  rintro _ s1 ⟨⟨va, vn, vc⟩, rfl, hr, m1⟩
  dsimp only at hr
  refine ⟨(((va, vn, vc), ()), ()), rfl, ?_⟩
  have hm : movesOf q.j = pairs (pathL q.j.D.kind q.j.back) := rfl
  have hvl := hr.len
  rw [← hm] at hr hvl
  obtain ⟨k, hk⟩ : ∃ k : Nat, q.j.phase = (k : Int) := ⟨q.j.phase.toNat, by omega⟩
  have hst : s1.has ⟨g, o + 16, none⟩ [.int .i64 q.j.phase] := by
    intro i v hv
    cases i with
    | zero => simp at hv; subst hv; rw [add_zero]; have := (hh.mono m1.le) 16 (.int .i64 q.j.phase) rfl; rwa [add_mk] at this
    | succ i => simp at hv
  refine (W.still_iff _ _ _ _ _ _).2 ⟨hst, ?_⟩
  dsimp only
  refine (W.guard_iff _ _ _).2 ⟨by omega, ?_⟩
  obtain ⟨x, hx⟩ : ∃ x, (movesOf q.j)[k]? = some x := ⟨_, List.getElem?_eq_getElem (by omega)⟩
  obtain ⟨g2, rfl, hh2⟩ := hr.at hx
  rw [hk]
  simp only [W.unSome_some, add_mk, Nat.zero_add, Int.toNat_natCast]
  refine ld_has_z (A := ⟨g2, k * 2, none⟩) hh2 (y := (x.1, x.2, ())) rfl ?_
  have hmv : moveOf q.j = x := by unfold moveOf; rw [hk, Int.toNat_natCast, hx]; (first | done | rfl)
  rw [hmv]
  exact ⟨rfl, m1⟩
theorem c_IndexI {s : PH} {a : Option Addr} {n c : Nat} {l : List Int} (h : intsAt s a n l) (hn : n ≤ 1000) (x : Int) :
    DCalls Try.prog 146 #[.slice a n c, .int .i64 x] s fun y s' => y = .int .i64 (seek (fun y : Int => decide (x = y)) l 0) ∧ s' = s := by
  refine ok_IndexI a n c x _ s ?_
  unfold vc_IndexI
  have hl := h.1
  simp only [RP_loop, RP_ite, RP_guard, RP_unSome, RP_ld, RP_ret]
  refine ⟨fun z s' => ∃ k : Nat, z = (((n : Int), ()), ((k : Int), ()), ()) ∧ k ≤ n ∧ s' = s ∧ seek (fun y : Int => decide (x = y)) (l.drop k) k = seek (fun y : Int => decide (x = y)) l 0, fun z _ => n - z.2.1.1.toNat, ⟨0, rfl, Nat.zero_le _, rfl, by rw [List.drop_zero]⟩, ?_⟩
  rintro _ s ⟨k, rfl, hk, rfl, hs⟩
  refine (W.br_iff _ _ _ _).2 ⟨fun hlt => ?_, fun hge => ?_⟩
  · have hlt : (k : Int) < (n : Int) := of_decide_eq_true hlt
    obtain ⟨y, hy⟩ : ∃ y, l[k]? = some y := ⟨_, List.getElem?_eq_getElem (by omega)⟩
    obtain ⟨ad, rfl, hc⟩ := h.2 k y hy
    dsimp only
    refine (W.guard_iff _ _ _).2 ⟨by omega, ?_⟩
    simp only [W.unSome_some, Int.toNat_natCast, Nat.mul_one]
    refine ld_one (c := .int .i64) (x := y) hc ?_
    rw [seek_step hy] at hs
    refine (W.br_iff _ _ _ _).2 ⟨fun e => ?_, fun e => ?_⟩
    · have e : (x == y) = true := e
      have e : x = y := eq_of_beq e
      rw [if_pos (by simp [e])] at hs
      rw [← hs]; exact ⟨rfl, rfl⟩
    · have e : (x == y) = false := e
      have e : x ≠ y := by simpa using e
      rw [if_neg (by simp [e])] at hs
      rw [wrap_succ (k := k) (by omega)]
      exact ⟨⟨k + 1, rfl, by omega, rfl, hs⟩, by simp only [Int.toNat_natCast]; omega⟩
  · have hge : ¬ (k : Int) < (n : Int) := of_decide_eq_false hge
    rw [seek_end (by omega)] at hs
    rw [← hs]; exact ⟨rfl, rfl⟩
theorem c_ContainsI {s : PH} {a : Option Addr} {n c : Nat} {l : List Int} (h : intsAt s a n l) (hn : n ≤ 1000) (x : Int) :
    DCalls Try.prog 137 #[.slice a n c, .int .i64 x] s fun y s' => y = .bool (decide (x ∈ l)) ∧ s' = s := by
  refine ok_ContainsI a n c x _ s ?_
  unfold vc_ContainsI
  simp only [RP_call, RP_ret]
  refine callq ((seek (fun y : Int => decide (x = y)) l 0, ()), ()) (c_IndexI h hn x) rfl ?_
  refine ⟨?_, rfl⟩
  have := seek_any (fun y : Int => decide (x = y)) l
  have e : decide (seek (fun y : Int => decide (x = y)) l 0 ≥ 0) = decide (0 ≤ seek (fun y : Int => decide (x = y)) l 0) := rfl
  dsimp only
  rw [e, this]
  congr 1
  rw [Bool.eq_iff_iff]
  simp
theorem ints_row {s : PH} {r : Nat} {l : List Int} (h : s r = some (.cells (l.map (Value.int .i64)).toArray 3 (0, 0))) : intsAt s (some ⟨r, 0, none⟩) l.length l := by
  refine ⟨rfl, fun i x hx => ⟨_, rfl, ?_⟩⟩
  have := has_block h
  refine this i _ ?_
  simp [hx]
/-- the job at hand that a command is about -/
def turnP (ja : Tri) (P : Pl) (c : Cm) (ks : List Int) : Option Addr := match P.turn c ks with | none => none | some (i, _) => ja.1.map fun a => a.add (i * 22)
section
variable {s : PH} {b : Nat} {P : Pl} {t la ja : Tri} {ps : List TabP} {qs : List JbP}
/-- where the job at hand lies -/
theorem Brd.at (h : Brd s b P t la ja ps qs) {i : Nat} {j : Jb} (hj : P.J[i]? = some j) : ∃ g q, ja.1 = some ⟨g, 0, none⟩ ∧ qs[i]? = some q ∧ q.j = j ∧ s.has ⟨g, i * 22, none⟩ (jobE.f q) := by
  rw [h.jeq, List.getElem?_map] at hj
  cases hq : qs[i]? with
  | none => rw [hq] at hj; cases hj
  | some q =>
    rw [hq] at hj
    simp only [Option.map_some, Option.some.injEq] at hj
    obtain ⟨g, hg, hh⟩ := h.jrow.at hq
    exact ⟨g, q, hg, rfl, hj, hh⟩
theorem c_bturn (h : Brd s b P t la ja ps qs) (hok : PlOk P) (hn : P.J.length ≤ 1000000) (k : CmdP) {ka : Option Addr} {kn kc : Nat} {ks : List Int} (hk : intsAt s ka kn ks) (hkn : kn ≤ 1000) :
    DCalls Try.prog 110 #[cp b, cmdV k, .slice ka kn kc] s fun y s' => y = .pointer (turnP ja P k.c ks) ∧ s' = s := by
  refine ok_bturn b k.c.kind k.c.y1 k.c.y2 k.c.y3 k.x1 k.x2 k.x3 k.ho k.r.1 k.r.2.1 k.r.2.2 k.w.1 k.w.2.1 k.w.2.2 k.mi k.un k.ts k.c.ver k.c.call k.c.D.kind k.c.D.table k.c.D.name k.c.D.column k.c.D.parent k.c.D.unique k.c.D.type k.c.D.dflt.kind k.c.D.dflt.n k.c.D.dflt.s k.u.1 k.u.2.1 k.u.2.2 k.c.job k.c.phase k.c.mark k.c.why ka kn kc _ s ?_
  unfold vc_bturn
  obtain ⟨R, hR⟩ : ∃ R : Value → PH → Prop, (fun y s' => y = .pointer (turnP ja P k.c ks) ∧ s' = s) = R := ⟨_, rfl⟩
  rw [hR]
  simp only [RP_call, RP_callQ, RP_ite, RP_unSome, RP_ld, RP_ret]
  refine callq ((handP ja P, ()), ()) (c_hand h hn) rfl ?_
  unfold turnP Pl.turn at hR
  unfold handP
  cases hh : P.hand with
  | none =>
    rw [hh] at hR
    refine (W.br_iff _ _ _ _).2 ⟨fun _ => ?_, fun e => (by cases e)⟩
    rw [← hR]; exact ⟨rfl, rfl⟩
  | some p =>
    obtain ⟨i, j⟩ := p
    rw [hh] at hR
    dsimp only at hR ⊢
    obtain ⟨hj, hf, _⟩ := hand_some hh
    obtain ⟨g, q, hg, hq, hqj, hhas⟩ := h.at hj
    have hph := hok.ph j (List.mem_of_getElem? hj) hf
    rw [hg] at hR ⊢
    simp only [Option.map_some, add_mk, Nat.zero_add] at hR ⊢
    have hhas' : s.has ⟨g, i * 22, none⟩ (jobE.f q) := hhas
    refine (W.br_iff _ _ _ _).2 ⟨fun e => (by cases e), fun _ => ?_⟩
    simp only [W.unSome_some, add_mk]
    refine ld_hasm (j := 0) hhas' (cs := [.int .i64]) (y := (q.j.id, ())) rfl ?_
    rw [hqj]
    refine (W.br_iff _ _ _ _).2 ⟨fun e => ?_, fun e => ?_⟩
    · have e : (j.id != k.c.job) = true := e
      have e : j.id ≠ k.c.job := by simpa using e
      rw [← hR, if_neg (fun e2 => e e2.1)]; exact ⟨rfl, rfl⟩
    have e1 : (j.id != k.c.job) = false := e
    have e1 : j.id = k.c.job := by simpa using e1
    simp only [W.unSome_some, add_mk]
    refine ld_hasm (j := 16) hhas' (cs := [.int .i64]) (y := (q.j.phase, ())) rfl ?_
    rw [hqj]
    refine (W.br_iff _ _ _ _).2 ⟨fun e => ?_, fun e => ?_⟩
    · have e : (j.phase != k.c.phase) = true := e
      have e : j.phase ≠ k.c.phase := by simpa using e
      rw [← hR, if_neg (fun e2 => e e2.2.1)]; exact ⟨rfl, rfl⟩
    have e2 : (j.phase != k.c.phase) = false := e
    have e2 : j.phase = k.c.phase := by simpa using e2
    refine W.callQ_of (((moveOf q.j).1, (moveOf q.j).2, ()), ()) (c_move hhas' (by rw [hqj]; exact hph)) rfl ?_
    rw [hqj]
    refine callq ((decide ((moveOf j).1 ∈ ks), ()), ()) (c_ContainsI hk hkn _) rfl ?_
    refine (W.br_iff _ _ _ _).2 ⟨fun e => ?_, fun e => ?_⟩
    · have e : (!decide ((moveOf j).1 ∈ ks)) = true := e
      have e : ¬ (moveOf j).1 ∈ ks := by simpa using e
      rw [← hR, if_neg (fun e2 => e e2.2.2)]; exact ⟨rfl, rfl⟩
    · have e : (!decide ((moveOf j).1 ∈ ks)) = false := e
      have e : (moveOf j).1 ∈ ks := by simpa using e
      rw [← hR, if_pos ⟨e1, e2, e⟩]; exact ⟨rfl, rfl⟩
/-- a job's cells are laid anew -/
theorem Brd.st (h : Brd s b P t la ja ps qs) {i : Nat} {q q' : JbP} (hq : qs[i]? = some q) {j : Nat} {vs : List Value} {k : W.T} (hx' : jobE.f q' = (jobE.f q).take j ++ vs ++ (jobE.f q).drop (j + vs.length)) (hj : j + vs.length ≤ 22)
    (hne : vs ≠ []) (h1 : ∀ v ∈ vs, v.oneCell' = true) (hu : q'.u = q.u) (hD : q'.j.D = q.j.D) {g : Nat} (ha : ja.1 = some ⟨g, 0, none⟩) (hk : ∀ s', Brd s' b (P.setJ i q'.j) t la ja ps (qs.set i q') → Fw.Mod [g] s s' → k s') : W.st ⟨g, i * 22 + j, none⟩ vs k s := by
  refine rowE.st (E := jobE) h.jrow hq hx' hj hne h1 ha fun s' hr m => ?_
  have hg : g ∈ Fw.blk ja.1 := by rw [ha]; simp [Fw.blk]
  have hgB : ∀ x ∈ [g], x ∈ BL b la ja := by
    intro x hx; simp at hx; subst hx
    simp [BL, hg]
  obtain ⟨o1, o2, o3⟩ := h.bl
  refine hk s' ⟨m.at h.blk (by simp; rintro rfl; exact o2 hg), h.hasM m hgB, h.teq, h.sm, h.lrow.mod m (fun x hx => by simp; rintro rfl; exact o3 x hx hg), hr, ?_, ?_⟩ m
  · show P.J.set i q'.j = _
    rw [h.jeq, List.map_set]
  · intro q2 hq2
    rcases List.mem_or_eq_of_mem_set hq2 with hq2 | rfl
    · exact h.colsM m hgB q2 hq2
    · rw [hu, hD]; exact h.colsM m hgB q (List.mem_of_getElem? hq)
end
theorem setJ_setJ (P : Pl) (i : Nat) (a c : Jb) : (P.setJ i a).setJ i c = P.setJ i c := by unfold Pl.setJ; simp
theorem setJ_at {P : Pl} {qs : List JbP} {i : Nat} {q q' : JbP} (hq : qs[i]? = some q) : (qs.set i q')[i]? = some q' := by
  rw [List.getElem?_set_self (List.getElem?_eq_some_iff.1 hq).1]
end Go.Proofs.Ythepfbcgpbkbdaa
end
section
set_option linter.unusedVariables false
set_option linter.unusedSimpArgs false
set_option maxHeartbeats 2000000
set_option maxRecDepth 100000
namespace Go.Proofs.Ythepfbcgpbkbdaa
open Fw Go
attribute [-simp] Fw.W.ld_iff Fw.W.st_iff
abbrev Jb.w (j : Jb) (phase : Int) (back drain : Bool) (mark : ByteArray) (fin why : Int) : Jb := ⟨j.id, j.call, j.y1, j.y2, j.y3, j.D, phase, back, drain, mark, fin, why⟩
theorem one1 {v : Value} (h : v.oneCell' = true) : ∀ w ∈ [v], w.oneCell' = true := by intro w hw; simp at hw; subst hw; exact h
def BdPost (s : PH) (b : Nat) (L : List Nat) (o : Rs × Pl) (y : Value) (s' : PH) : Prop := y = resV o.1 ∧ ∃ L', BdAt s' b o.2 L' ∧ Step L L' s s'
section
variable {s s' : PH} {b : Nat} {P P' : Pl} {t la ja : Tri} {ps : List TabP} {qs qs' : List JbP}
theorem post_same (h : Brd s b P t la ja ps qs) (hm : Fw.Mod [] s s') (r : Rs) : BdPost s b (BL b la ja) (r, P) (resV r) s' :=
  ⟨rfl, _, ⟨t, la, ja, ps, qs, rfl, h.mod hm⟩, ⟨hm.mono (by simp), fun x hx => .inl hx⟩⟩
theorem post_job (h' : Brd s' b P' t la ja ps qs') {g : Nat} (hg : ja.1 = some ⟨g, 0, none⟩) (hm : Fw.Mod [g] s s') (r : Rs) : BdPost s b (BL b la ja) (r, P') (resV r) s' :=
  ⟨rfl, _, ⟨t, la, ja, ps, qs', rfl, h'⟩, ⟨hm.mono (by intro x hx; simp at hx; subst hx; simp [BL, hg, Fw.blk]), fun x hx => .inl hx⟩⟩
theorem c_step (h : Brd s b P t la ja ps qs) {i g : Nat} {q : JbP} (hq : qs[i]? = some q) (hg : ja.1 = some ⟨g, 0, none⟩) (hph : 0 ≤ q.j.phase ∧ q.j.phase < ((movesOf q.j).length : Int)) :
    DCalls Try.prog 112 #[cp b, .pointer (some ⟨g, i * 22, none⟩)] s fun y s' => y = resV ⟨0, P.S.version, 0, 0, true⟩ ∧ ∃ qs', Brd s' b (P.setJ i q.j.step) t la ja ps qs' ∧ Fw.Mod [g] s s' := by
  refine ok_step b ⟨g, i * 22, none⟩ _ s ?_
  unfold vc_step
  obtain ⟨R, hR⟩ : ∃ R : Value → PH → Prop, (fun y s' => y = resV ⟨0, P.S.version, 0, 0, true⟩ ∧ ∃ qs', Brd s' b (P.setJ i q.j.step) t la ja ps qs' ∧ Fw.Mod [g] s s') = R := ⟨_, rfl⟩
  rw [hR]
  have hl := moves_len q.j
  have hfin : ∀ (s' : PH) (jn : Jb) (P' : Pl) (qs' : List JbP), Brd s' b P' t la ja ps qs' → P' = P.setJ i jn → jn = q.j.step → Fw.Mod [g] s s' → R (resV ⟨0, P.S.version, 0, 0, true⟩) s' := by
    rintro s' _ _ qs' hb rfl rfl m
    rw [← hR]
    exact ⟨rfl, qs', hb, m⟩
  have hw : IntKind.i64.wrap (q.j.phase + 1) = q.j.phase + 1 := wrap_in (by omega) (by omega)
  have at0 : ∀ {s qs'} {P' : Pl} {q : JbP}, Brd s b P' t la ja ps qs' → qs'[i]? = some q → s.has ⟨g, i * 22, none⟩ (jobE.f q) := by
    intro s qs' P' q h' hq'
    obtain ⟨g2, hg2, hh⟩ := h'.jrow.at hq'
    rw [hg] at hg2; cases hg2
    exact hh
  simp only [RP_unSome, RP_ld, RP_st, RP_call, RP_still, RP_ite, RP_ret, W.unSome_some, add_mk, Nat.zero_add]
  refine ld_hasm (j := 16) (at0 h hq) (cs := [.int .i64]) (y := (q.j.phase, ())) rfl ?_
  simp only [W.unSome_some, add_mk]
  refine h.st (q' := ⟨(q.j.w (IntKind.i64.wrap (q.j.phase + 1)) q.j.back q.j.drain q.j.mark q.j.fin q.j.why), q.u⟩) (j := 16) hq rfl (Nat.le_of_ble_eq_true rfl) (by simp) (one1 rfl) rfl rfl hg fun s1 h1 m1 => ?_
  simp only [W.unSome_some, add_mk]
  refine h1.st (q' := ⟨(q.j.w (IntKind.i64.wrap (q.j.phase + 1)) q.j.back q.j.drain (⟨#[]⟩) q.j.fin q.j.why), q.u⟩) (j := 19) (setJ_at (P := P) hq) rfl (Nat.le_of_ble_eq_true rfl) (by simp) (one1 rfl) rfl rfl hg fun s2 h2 m2 => ?_
  simp only [W.unSome_some, add_mk]
  have hq2 := setJ_at (P := P) (q' := ⟨(q.j.w (IntKind.i64.wrap (q.j.phase + 1)) q.j.back q.j.drain (⟨#[]⟩) q.j.fin q.j.why), q.u⟩) (setJ_at (P := P) (q' := ⟨(q.j.w (IntKind.i64.wrap (q.j.phase + 1)) q.j.back q.j.drain q.j.mark q.j.fin q.j.why), q.u⟩) hq)
  refine h2.st (q' := ⟨(q.j.w (IntKind.i64.wrap (q.j.phase + 1)) q.j.back (false) (⟨#[]⟩) q.j.fin q.j.why), q.u⟩) (j := 18) hq2 rfl (Nat.le_of_ble_eq_true rfl) (by simp) (one1 rfl) rfl rfl hg fun s3 h3 m3 => ?_
  simp only [W.unSome_some, add_mk]
  have hq3 := setJ_at (P := P) (q' := ⟨(q.j.w (IntKind.i64.wrap (q.j.phase + 1)) q.j.back (false) (⟨#[]⟩) q.j.fin q.j.why), q.u⟩) hq2
  have m03 := (m1.trans m2).trans m3
  have hh3 := at0 h3 hq3
  refine ld_hasm (j := 16) hh3 (cs := [.int .i64]) (y := (IntKind.i64.wrap (q.j.phase + 1), ())) rfl ?_
  simp only [W.unSome_some, add_mk]
  refine ld_hasm (j := 5) hh3 (y := ddlD q.j.D q.u) rfl ?_
  simp only [W.unSome_some, add_mk]
  refine ld_hasm (j := 17) hh3 (cs := [.bool]) (y := (q.j.back, ())) rfl ?_
  simp only [W.unSome_some, add_mk]
  refine W.call_of (c_Path q.j.D q.u q.j.back s3) ?_
  rintro _ s4 ⟨⟨va, vn, vc⟩, rfl, hr, m4⟩
  dsimp only at hr
  refine ⟨(((va, vn, vc), ()), ()), rfl, ?_⟩
  have hvl := hr.len
  have hm : movesOf q.j = pairs (pathL q.j.D.kind q.j.back) := rfl
  rw [← hm] at hvl
  have h4 := h3.mod m4
  have hst : s4.has ⟨g, i * 22 + 16, none⟩ [.int .i64 (IntKind.i64.wrap (q.j.phase + 1))] := by
    intro n v hv
    cases n with
    | zero => simp at hv; subst hv; rw [add_zero]; have := (hh3.mono m4.le) 16 (.int .i64 (IntKind.i64.wrap (q.j.phase + 1))) rfl; rwa [add_mk] at this
    | succ n => simp at hv
  refine (W.still_iff _ _ _ _ _ _).2 ⟨hst, ?_⟩
  dsimp only
  refine (W.br_iff _ _ _ _).2 ⟨fun e => ?_, fun e => ?_⟩
  · have e : (IntKind.i64.wrap (q.j.phase + 1) == (vn : Int)) = true := e
    have e : IntKind.i64.wrap (q.j.phase + 1) = ((movesOf q.j).length : Int) := by rw [← hvl]; exact eq_of_beq e
    simp only [W.unSome_some, add_mk]
    refine h4.st (q' := ⟨(q.j.w (IntKind.i64.wrap (q.j.phase + 1)) q.j.back (false) (⟨#[]⟩) (1) q.j.why), q.u⟩) (j := 20) hq3 rfl (Nat.le_of_ble_eq_true rfl) (by simp) (one1 rfl) rfl rfl hg fun s5 h5 m5 => ?_
    simp only [W.unSome_some, add_mk]
    have hq5 := setJ_at (P := P) (q' := ⟨(q.j.w (IntKind.i64.wrap (q.j.phase + 1)) q.j.back (false) (⟨#[]⟩) (1) q.j.why), q.u⟩) hq3
    refine ld_hasm (j := 17) (at0 h5 hq5) (cs := [.bool]) (y := (q.j.back, ())) rfl ?_
    have m05 := (m03.trans (m4.mono (by simp))).trans m5
    refine (W.br_iff _ _ _ _).2 ⟨fun eb => ?_, fun eb => ?_⟩
    · have eb : q.j.back = true := eb
      simp only [W.unSome_some, add_mk]
      refine h5.st (q' := ⟨(q.j.w (IntKind.i64.wrap (q.j.phase + 1)) q.j.back (false) (⟨#[]⟩) (2) q.j.why), q.u⟩) (j := 20) hq5 rfl (Nat.le_of_ble_eq_true rfl) (by simp) (one1 rfl) rfl rfl hg fun s6 h6 m6 => ?_
      simp only [W.unSome_some, add_mk]
      rw [W.ld_at h6.blk]
      refine ⟨(P.S.version, ()), rfl, ?_⟩
      simp only [setJ_setJ] at h6
      refine hfin _ _ _ _ h6 rfl ?_ (m05.trans m6)
      unfold Jb.step
      rw [if_pos e, if_pos eb]
    · have eb : q.j.back = false := eb
      simp only [W.unSome_some, add_mk]
      rw [W.ld_at h5.blk]
      refine ⟨(P.S.version, ()), rfl, ?_⟩
      simp only [setJ_setJ] at h5
      refine hfin _ _ _ _ h5 rfl ?_ m05
      unfold Jb.step
      rw [if_pos e, eb]; (first | done | rfl)
  · have e : (IntKind.i64.wrap (q.j.phase + 1) == (vn : Int)) = false := e
    have e : ¬ IntKind.i64.wrap (q.j.phase + 1) = ((movesOf q.j).length : Int) := by rw [← hvl]; simpa using e
    simp only [W.unSome_some, add_mk]
    rw [W.ld_at h4.blk]
    refine ⟨(P.S.version, ()), rfl, ?_⟩
    simp only [setJ_setJ] at h4
    refine hfin _ _ _ _ h4 rfl ?_ (m03.trans (m4.mono (by simp)))
    unfold Jb.step
    rw [if_neg e]
theorem turnP_none {c : Cm} {ks : List Int} (h : P.turn c ks = none) : turnP ja P c ks = none := by unfold turnP; rw [h]
theorem turnP_some {c : Cm} {ks : List Int} {i : Nat} {j : Jb} {g : Nat} (h : P.turn c ks = some (i, j)) (hg : ja.1 = some ⟨g, 0, none⟩) : turnP ja P c ks = some ⟨g, i * 22, none⟩ := by
  unfold turnP; rw [h]; simp [hg, add_mk]
theorem c_drain (h : Brd s b P t la ja ps qs) (hok : PlOk P) (hn : P.J.length ≤ 1000000) (k : CmdP) (now : Int) :
    DCalls Try.prog 70 #[cp b, .int .i64 now, cmdV k] s (BdPost s b (BL b la ja) (P.drain k.c)) := by
  refine ok_drain b now k.c.kind k.c.y1 k.c.y2 k.c.y3 k.x1 k.x2 k.x3 k.ho k.r.1 k.r.2.1 k.r.2.2 k.w.1 k.w.2.1 k.w.2.2 k.mi k.un k.ts k.c.ver k.c.call k.c.D.kind k.c.D.table k.c.D.name k.c.D.column k.c.D.parent k.c.D.unique k.c.D.type k.c.D.dflt.kind k.c.D.dflt.n k.c.D.dflt.s k.u.1 k.u.2.1 k.u.2.2 k.c.job k.c.phase k.c.mark k.c.why _ s ?_
  unfold vc_drain
  obtain ⟨R, hR⟩ : ∃ R, BdPost s b (BL b la ja) (P.drain k.c) = R := ⟨_, rfl⟩
  rw [hR]
  unfold Pl.drain at hR
  simp only [RP_nw, RP_call, RP_ite, RP_unSome, RP_ld, RP_st, RP_ret]
  refine W.nw_of fun r s1 hr m1 k1 => ?_
  have h1 := h.mod m1
  refine callq ((turnP ja P k.c [2], ()), ()) (c_bturn h1 hok hn k (ints_row (l := [2]) k1) (by decide)) rfl ?_
  cases ht : P.turn k.c [2] with
  | none =>
    rw [ht] at hR
    rw [turnP_none ht]
    refine (W.br_iff _ _ _ _).2 ⟨fun _ => ?_, fun e => (by cases e)⟩
    rw [← hR]; exact post_same h m1 _
  | some p =>
    obtain ⟨i, j⟩ := p
    rw [ht] at hR
    dsimp only at hR
    obtain ⟨hhd, _⟩ := turn_some ht
    obtain ⟨hj, hf, _⟩ := hand_some hhd
    obtain ⟨g, q, hg, hq, rfl, hhas⟩ := h1.at hj
    rw [turnP_some ht hg]
    refine (W.br_iff _ _ _ _).2 ⟨fun e => (by cases e), fun _ => ?_⟩
    simp only [W.unSome_some, add_mk]
    refine ld_hasm (j := 18) hhas (cs := [.bool]) (y := (q.j.drain, ())) rfl ?_
    simp only [W.unSome_some, add_mk]
    refine h1.st (q' := ⟨(q.j.w q.j.phase q.j.back (true) q.j.mark q.j.fin q.j.why), q.u⟩) (j := 18) hq rfl (Nat.le_of_ble_eq_true rfl) (by simp) (one1 rfl) rfl rfl hg fun s2 h2 m2 => ?_
    rw [← hR]
    exact post_job h2 hg ((m1.mono (by simp)).trans m2) ⟨0, 0, 0, 0, !q.j.drain⟩
theorem c_bmark (h : Brd s b P t la ja ps qs) (hok : PlOk P) (hn : P.J.length ≤ 1000000) (k : CmdP) (now : Int) :
    DCalls Try.prog 72 #[cp b, .int .i64 now, cmdV k] s (BdPost s b (BL b la ja) (P.mark k.c)) := by
  refine ok_bmark b now k.c.kind k.c.y1 k.c.y2 k.c.y3 k.x1 k.x2 k.x3 k.ho k.r.1 k.r.2.1 k.r.2.2 k.w.1 k.w.2.1 k.w.2.2 k.mi k.un k.ts k.c.ver k.c.call k.c.D.kind k.c.D.table k.c.D.name k.c.D.column k.c.D.parent k.c.D.unique k.c.D.type k.c.D.dflt.kind k.c.D.dflt.n k.c.D.dflt.s k.u.1 k.u.2.1 k.u.2.2 k.c.job k.c.phase k.c.mark k.c.why _ s ?_
  unfold vc_bmark
  obtain ⟨R, hR⟩ : ∃ R, BdPost s b (BL b la ja) (P.mark k.c) = R := ⟨_, rfl⟩
  rw [hR]
  unfold Pl.mark at hR
  simp only [RP_nw, RP_call, RP_ite, RP_unSome, RP_ld, RP_st, RP_ret]
  refine W.nw_of fun r s1 hr m1 k1 => ?_
  have h1 := h.mod m1
  refine callq ((turnP ja P k.c [4, 5], ()), ()) (c_bturn h1 hok hn k (ints_row (l := [4, 5]) k1) (by decide)) rfl ?_
  cases ht : P.turn k.c [4, 5] with
  | none =>
    rw [ht] at hR
    rw [turnP_none ht]
    refine (W.br_iff _ _ _ _).2 ⟨fun _ => ?_, fun e => (by cases e)⟩
    rw [← hR]; exact post_same h m1 _
  | some p =>
    obtain ⟨i, j⟩ := p
    rw [ht] at hR
    dsimp only at hR
    obtain ⟨hhd, _⟩ := turn_some ht
    obtain ⟨hj, hf, _⟩ := hand_some hhd
    have hph := hok.ph j (List.mem_of_getElem? hj) hf
    obtain ⟨g, q, hg, hq, rfl, hhas⟩ := h1.at hj
    rw [turnP_some ht hg]
    refine (W.br_iff _ _ _ _).2 ⟨fun e => (by cases e), fun _ => ?_⟩
    refine (W.br_iff _ _ _ _).2 ⟨fun e => ?_, fun e => ?_⟩
    · have e : (k.c.ver == 1) = true := e
      have e : k.c.ver = 1 := eq_of_beq e
      rw [if_pos e] at hR
      refine W.call_of (c_step h1 hq hg hph) ?_
      rintro _ s2 ⟨rfl, qs', h2, m2⟩
      refine ⟨((0, 0, 0, 0, 0, P.S.version, 0, 0, true, ()), ()), rfl, ?_⟩
      rw [← hR]
      exact post_job h2 hg ((m1.mono (by simp)).trans m2) ⟨0, 0, 0, 0, true⟩
    · have e : (k.c.ver == 1) = false := e
      have e : k.c.ver ≠ 1 := by simpa using e
      rw [if_neg e] at hR
      simp only [W.unSome_some, add_mk]
      refine ld_hasm (j := 19) hhas (cs := [.str]) (y := (q.j.mark, ())) rfl ?_
      simp only [W.unSome_some, add_mk]
      refine h1.st (q' := ⟨(q.j.w q.j.phase q.j.back q.j.drain (if (!Op.bytesLess q.j.mark.toList k.c.mark.toList) = true then q.j.mark else k.c.mark) q.j.fin q.j.why), q.u⟩) (j := 19) hq rfl (Nat.le_of_ble_eq_true rfl) (by simp) (one1 rfl) rfl rfl hg fun s2 h2 m2 => ?_
      rw [← hR]
      exact post_job h2 hg ((m1.mono (by simp)).trans m2) ⟨0, 0, 0, 0, true⟩
abbrev cmdD (k : CmdP) : Den [.int .i64, .int .i64, .int .i64, .int .i64, .int .i64, .int .i64, .int .i64, .int .i64, .slice, .slice, .int .i64, .int .i64, .int .i64, .int .i64, .int .i64, .int .i64, .str, .str, .str, .str, .bool, .int .i64, .int .i64, .int .i64, .str, .slice, .int .i64, .int .i64, .str, .int .i64] :=
  (k.c.kind, k.c.y1, k.c.y2, k.c.y3, k.x1, k.x2, k.x3, k.ho, k.r, k.w, k.mi, k.un, k.ts, k.c.ver, k.c.call, k.c.D.kind, k.c.D.table, k.c.D.name, k.c.D.column, k.c.D.parent, k.c.D.unique, k.c.D.type, k.c.D.dflt.kind, k.c.D.dflt.n, k.c.D.dflt.s, k.u, k.c.job, k.c.phase, k.c.mark, k.c.why, ())
abbrev zerD : Den [.int .i64, .int .i64, .int .i64, .int .i64, .int .i64, .int .i64, .int .i64, .int .i64, .bool] := (0, 0, 0, 0, 0, 0, 0, 0, false, ())
theorem c_bfail (h : Brd s b P t la ja ps qs) (hok : PlOk P) (hn : P.J.length ≤ 1000000) (k : CmdP) (now : Int) :
    DCalls Try.prog 73 #[cp b, .int .i64 now, cmdV k] s (BdPost s b (BL b la ja) (P.fail k.c)) := by
  refine ok_bfail b now k.c.kind k.c.y1 k.c.y2 k.c.y3 k.x1 k.x2 k.x3 k.ho k.r.1 k.r.2.1 k.r.2.2 k.w.1 k.w.2.1 k.w.2.2 k.mi k.un k.ts k.c.ver k.c.call k.c.D.kind k.c.D.table k.c.D.name k.c.D.column k.c.D.parent k.c.D.unique k.c.D.type k.c.D.dflt.kind k.c.D.dflt.n k.c.D.dflt.s k.u.1 k.u.2.1 k.u.2.2 k.c.job k.c.phase k.c.mark k.c.why _ s ?_
  unfold vc_bfail
  obtain ⟨R, hR⟩ : ∃ R, BdPost s b (BL b la ja) (P.fail k.c) = R := ⟨_, rfl⟩
  rw [hR]
  unfold Pl.fail at hR
  simp only [RP_nw, RP_call, RP_ite, RP_unSome, RP_ld, RP_st, RP_ret, RP_join]
  refine W.nw_of fun r s1 hr m1 k1 => ?_
  have h1 := h.mod m1
  refine callq ((turnP ja P k.c [4], ()), ()) (c_bturn h1 hok hn k (ints_row (l := [4]) k1) (by decide)) rfl ?_
  cases ht : P.turn k.c [4] with
  | none =>
    rw [ht] at hR
    rw [turnP_none ht]
    refine W.join_gen (fun _ _ => False) (fun _ _ h => h.elim) ?_
    intro J hJ
    refine (W.br_iff _ _ _ _).2 ⟨fun _ => ?_, fun e => (by cases e)⟩
    rw [← hR]; exact post_same h m1 _
  | some p =>
    obtain ⟨i, j⟩ := p
    rw [ht] at hR
    dsimp only at hR
    obtain ⟨hhd, _⟩ := turn_some ht
    obtain ⟨hj, hf, _⟩ := hand_some hhd
    obtain ⟨g, q, hg, hq, rfl, hhas⟩ := h1.at hj
    rw [turnP_some ht hg]
    refine W.join_gen (fun z s' => z = (cmdD k, zerD, (some (Addr.mk g (i * 22) none), ()), ()) ∧ s' = s1 ∧ q.j.back = false) ?_ ?_
    rotate_left
    · intro J hJ
      refine (W.br_iff _ _ _ _).2 ⟨fun e => (by cases e), fun _ => ?_⟩
      simp only [W.unSome_some, add_mk]
      refine ld_hasm (j := 17) hhas (cs := [.bool]) (y := (q.j.back, ())) rfl ?_
      refine (W.br_iff _ _ _ _).2 ⟨fun e => ?_, fun e => hJ _ _ ⟨rfl, rfl, e⟩⟩
      have e : q.j.back = true := e
      rw [if_pos e] at hR
      rw [← hR]; exact post_same h m1 _
    rintro _ s1 ⟨rfl, rfl, hbk⟩
    rename_i s1
    rw [if_neg (by rw [hbk]; simp)] at hR
    simp only [W.unSome_some, add_mk]
    refine h1.st (q' := ⟨(q.j.w q.j.phase (true) q.j.drain q.j.mark q.j.fin q.j.why), q.u⟩) (j := 17) hq rfl (Nat.le_of_ble_eq_true rfl) (by simp) (one1 rfl) rfl rfl hg fun s2 h2 m2 => ?_
    simp only [W.unSome_some, add_mk]
    have hq2 := setJ_at (P := P) (q' := ⟨(q.j.w q.j.phase (true) q.j.drain q.j.mark q.j.fin q.j.why), q.u⟩) hq
    refine h2.st (q' := ⟨(q.j.w (0) (true) q.j.drain q.j.mark q.j.fin q.j.why), q.u⟩) (j := 16) hq2 rfl (Nat.le_of_ble_eq_true rfl) (by simp) (one1 rfl) rfl rfl hg fun s3 h3 m3 => ?_
    simp only [W.unSome_some, add_mk]
    have hq3 := setJ_at (P := P) (q' := ⟨(q.j.w (0) (true) q.j.drain q.j.mark q.j.fin q.j.why), q.u⟩) hq2
    refine h3.st (q' := ⟨(q.j.w (0) (true) q.j.drain (⟨#[]⟩) q.j.fin q.j.why), q.u⟩) (j := 19) hq3 rfl (Nat.le_of_ble_eq_true rfl) (by simp) (one1 rfl) rfl rfl hg fun s4 h4 m4 => ?_
    simp only [W.unSome_some, add_mk]
    have hq4 := setJ_at (P := P) (q' := ⟨(q.j.w (0) (true) q.j.drain (⟨#[]⟩) q.j.fin q.j.why), q.u⟩) hq3
    refine h4.st (q' := ⟨(q.j.w (0) (true) q.j.drain (⟨#[]⟩) q.j.fin (k.c.why)), q.u⟩) (j := 21) hq4 rfl (Nat.le_of_ble_eq_true rfl) (by simp) (one1 rfl) rfl rfl hg fun s5 h5 m5 => ?_
    simp only [setJ_setJ] at h5
    rw [← hR]
    exact post_job h5 hg ((((m1.mono (by simp)).trans m2).trans m3).trans (m4.trans m5)) ⟨0, 0, 0, 0, true⟩
end
end Go.Proofs.Ythepfbcgpbkbdaa
end
section
set_option linter.unusedVariables false
set_option linter.unusedSimpArgs false
set_option maxHeartbeats 1000000
set_option maxRecDepth 100000
namespace Go.Proofs.Ythepfbcgpbkbdaa
open Fw Go
attribute [-simp] Fw.W.ld_iff Fw.W.st_iff
theorem Own.nodup {s : PH} {p : TabP} (h : Own s p) : p.L.Nodup := by
  have ty : ∀ {α : Type} {E : Enc α} {e : TypeId} {t : Tri} {xs : List α}, rowE E s e t.1 t.2.1 t.2.2 xs → ∀ g ∈ Fw.blk t.1, ∃ cur, s g = some (.cells cur e (0, 0)) := by
    intro α E e t xs hr g hg
    rcases hr.shape with ⟨h0, _⟩ | ⟨g', hg'⟩
    · rw [h0] at hg; simp [Fw.blk] at hg
    · have : g = g' := by rw [hg'] at hg; simpa [Fw.blk] using hg
      subst this
      exact hr.ty hg'
  have ne : ∀ {g : Nat} {e e' : TypeId}, (∃ cur, s g = some (.cells cur e (0, 0))) → (∃ cur, s g = some (.cells cur e' (0, 0))) → e = e' := by
    rintro g e e' ⟨c1, h1⟩ ⟨c2, h2⟩
    rw [h1] at h2; cases h2; (first | done | rfl)
  simp only [TabP.L, List.nodup_append]
  refine ⟨blk_nodup _, ⟨blk_nodup _, blk_nodup _, ?_⟩, ?_⟩
  · rintro g hg _ hg2 rfl
    exact absurd (ne (ty h.x g hg) (ty h.k g hg2)) (by decide)
  · rintro g hg _ hg2 rfl
    rcases List.mem_append.1 hg2 with hg2 | hg2
    · exact absurd (ne (ty h.c g hg) (ty h.x g hg2)) (by decide)
    · exact absurd (ne (ty h.c g hg) (ty h.k g hg2)) (by decide)
theorem nn_t {b : Bool} (h : (!!b) = true) : b = true := by cases b <;> simp_all
theorem nn_f {b : Bool} (h : (!!b) = false) : b = false := by cases b <;> simp_all
theorem filt_take {α : Type} {f : α → Bool} {l : List α} {k : Nat} {x : α} (h : l[k]? = some x) : (l.take (k + 1)).filter f = (l.take k).filter f ++ (if f x = true then [x] else []) := by
  rw [List.take_add_one, h]
  simp only [Option.toList_some, List.filter_append, List.filter_cons, List.filter_nil]
def sC (c : Col) : Bool := decide (c.state = 3)
def sX (c : Idx) : Bool := decide (c.state = 3)
def sF (c : For) : Bool := decide (c.state = 3)
def seenT (T : Tab) : Tab := { T with cols := T.cols.filter sC, idxs := T.idxs.filter sX, keys := T.keys.filter sF }
def Sch.seen (S : Sch) : Sch := { S with tabs := S.tabs.map seenT }
end Go.Proofs.Ythepfbcgpbkbdaa
end
section
set_option linter.unusedVariables false
set_option linter.unusedSimpArgs false
set_option maxHeartbeats 2000000
set_option maxRecDepth 100000
namespace Go.Proofs.Ythepfbcgpbkbdaa
open Fw Go
attribute [-simp] Fw.W.ld_iff Fw.W.st_iff
def goneB (now : Int) (m x : Lse) : Bool := !forceB x now || (decide (x.node = m.node) && decide (x.ver = m.ver))
def earlyB (below now : Int) (x : Lse) : Bool := decide (x.ver < below) && forceB x now
def IntAt (s : PH) (p : Nat) (n : Int) : Prop := s p = some (.cells #[.int .i64 n] 3 (0, 0))
def LseAt (s : PH) (p : Nat) (l : Lse) : Prop := s p = some (.cells #[.int .i64 l.node, .int .i64 l.ver, .int .i64 l.til] 89 (0, 0))
theorem IntAt.mod {M : List Nat} {s s' : PH} {p : Nat} {n : Int} (h : IntAt s p n) (hm : Fw.Mod M s s') (hp : p ∉ M) : IntAt s' p n := hm.at h hp
theorem LseAt.mod {M : List Nat} {s s' : PH} {p : Nat} {n : Lse} (h : LseAt s p n) (hm : Fw.Mod M s s') (hp : p ∉ M) : LseAt s' p n := hm.at h hp
abbrev fn2 (f : Nat) (p q : Nat) : Value := .func (.func f) #[] #[.pointer (some ⟨p, 0, none⟩), .pointer (some ⟨q, 0, none⟩)]
theorem c_grant1 {s : PH} {p q : Nat} {now : Int} {m : Lse} (hp : IntAt s p now) (hq : LseAt s q m) (x : Lse) : DCalls Try.prog 108 #[lseV x, cp p, cp q] s fun y s' => y = .bool (goneB now m x) ∧ s' = s := by
  refine ok_grant1 x.node x.ver x.til p q _ s ?_
  unfold vc_grant1
  unfold IntAt at hp
  unfold LseAt at hq
  simp only [RP_ld, RP_call, RP_ite, RP_ret, add_mk, Nat.zero_add]
  rw [W.ld_at hp]
  refine ⟨(now, ()), rfl, ?_⟩
  refine callq ((forceB x now, ()), ()) (c_force x now s) rfl ?_
  unfold goneB
  refine (W.br_iff _ _ _ _).2 ⟨fun e => ?_, fun e => ?_⟩
  · have e : (!forceB x now) = true := e
    rw [e]; exact ⟨rfl, rfl⟩
  · have e : (!forceB x now) = false := e
    rw [e, Bool.false_or]
    rw [W.ld_at hq]
    refine ⟨(m.node, ()), rfl, ?_⟩
    refine (W.br_iff _ _ _ _).2 ⟨fun e2 => ?_, fun e2 => ?_⟩
    · have e2 : (x.node == m.node) = true := e2
      have e2 : x.node = m.node := eq_of_beq e2
      rw [W.ld_at hq]
      refine ⟨(m.ver, ()), rfl, ?_⟩
      refine ⟨?_, rfl⟩
      rw [e2, decide_eq_true rfl, Bool.true_and]
      congr 1
    · have e2 : (x.node == m.node) = false := e2
      have e2 : x.node ≠ m.node := by simpa using e2
      rw [decide_eq_false e2, Bool.false_and]; exact ⟨rfl, rfl⟩
theorem c_clear1 {s : PH} {p q : Nat} {below now : Int} (hp : IntAt s p below) (hq : IntAt s q now) (x : Lse) : DCalls Try.prog 139 #[lseV x, cp p, cp q] s fun y s' => y = .bool (earlyB below now x) ∧ s' = s := by
  refine ok_clear1 x.node x.ver x.til p q _ s ?_
  unfold vc_clear1
  unfold IntAt at hp hq
  simp only [RP_ld, RP_call, RP_ite, RP_ret]
  rw [W.ld_at hp]
  refine ⟨(below, ()), rfl, ?_⟩
  unfold earlyB
  refine (W.br_iff _ _ _ _).2 ⟨fun e => ?_, fun e => ?_⟩
  · have e : decide (x.ver < below) = true := e
    rw [W.ld_at hq]
    refine ⟨(now, ()), rfl, ?_⟩
    refine callq ((forceB x now, ()), ()) (c_force x now s) rfl ?_
    rw [e, Bool.true_and]; exact ⟨rfl, rfl⟩
  · have e : decide (x.ver < below) = false := e
    rw [e, Bool.false_and]; exact ⟨rfl, rfl⟩
theorem c_IndexFuncL {s : PH} {a : Option Addr} {an ac : Nat} {xs : List Lse} (h : elems (Rd.enc lseE) s a an xs) (hn : xs.length ≤ 4294967296) {p q : Nat} {now : Int} {m : Lse} (hp : IntAt s p now) (hq : LseAt s q m) :
    DCalls Try.prog 136 #[.slice a an ac, fn2 108 p q] s fun y s' => y = .int .i64 (seek (goneB now m) xs 0) ∧ s' = s := by
  refine ok_IndexFuncL a an ac p q _ s ?_
  unfold vc_IndexFuncL
  have hlen := h.1
  simp only [RP_loop, RP_ite, RP_guard, RP_unSome, RP_ld, RP_call, RP_ret]
  refine ⟨fun z s' => ∃ k : Nat, z = (((an : Int), ()), ((k : Int), ()), ()) ∧ k ≤ an ∧ s' = s ∧ seek (goneB now m) (xs.drop k) k = seek (goneB now m) xs 0, fun z _ => an - z.2.1.1.toNat, ⟨0, rfl, Nat.zero_le _, rfl, rfl⟩, ?_⟩
  rintro _ s ⟨k, rfl, hk, rfl, hs⟩
  refine (W.br_iff _ _ _ _).2 ⟨fun hlt => ?_, fun hge => ?_⟩
  · have hlt : (k : Int) < (an : Int) := of_decide_eq_true hlt
    obtain ⟨x, hx⟩ : ∃ x, xs[k]? = some x := ⟨_, List.getElem?_eq_getElem (by omega)⟩
    obtain ⟨ad, rfl, hh⟩ := h.at_enc hx
    dsimp only
    refine (W.guard_iff _ _ _).2 ⟨by omega, ?_⟩
    simp only [W.unSome_some, Int.toNat_natCast]
    refine ld_has_z hh (y := (x.node, x.ver, x.til, ())) rfl ?_
    refine callq (((goneB now m) x, ()), ()) (c_grant1 hp hq x) rfl ?_
    rw [seek_step hx] at hs
    refine (W.br_iff _ _ _ _).2 ⟨fun he => ?_, fun he => ?_⟩
    · have he : (goneB now m) x = true := he
      rw [if_pos he] at hs
      rw [← hs]; exact ⟨rfl, rfl⟩
    · have he : (goneB now m) x = false := he
      rw [if_neg (by rw [he]; simp)] at hs
      rw [wrap_succ (k := k) (by omega)]
      exact ⟨⟨k + 1, rfl, by omega, rfl, hs⟩, by simp only [Int.toNat_natCast]; omega⟩
  · have hge : ¬ (k : Int) < (an : Int) := of_decide_eq_false hge
    rw [seek_end (by omega)] at hs
    rw [← hs]; exact ⟨rfl, rfl⟩
theorem c_IndexFuncE {s : PH} {a : Option Addr} {an ac : Nat} {xs : List Lse} (h : elems (Rd.enc lseE) s a an xs) (hn : xs.length ≤ 4294967296) {p q : Nat} {below now : Int} (hp : IntAt s p below) (hq : IntAt s q now) :
    DCalls Try.prog 136 #[.slice a an ac, fn2 139 p q] s fun y s' => y = .int .i64 (seek (earlyB below now) xs 0) ∧ s' = s := by
  refine ok_IndexFuncE a an ac p q _ s ?_
  unfold vc_IndexFuncE
  have hlen := h.1
  simp only [RP_loop, RP_ite, RP_guard, RP_unSome, RP_ld, RP_call, RP_ret]
  refine ⟨fun z s' => ∃ k : Nat, z = (((an : Int), ()), ((k : Int), ()), ()) ∧ k ≤ an ∧ s' = s ∧ seek (earlyB below now) (xs.drop k) k = seek (earlyB below now) xs 0, fun z _ => an - z.2.1.1.toNat, ⟨0, rfl, Nat.zero_le _, rfl, rfl⟩, ?_⟩
  rintro _ s ⟨k, rfl, hk, rfl, hs⟩
  refine (W.br_iff _ _ _ _).2 ⟨fun hlt => ?_, fun hge => ?_⟩
  · have hlt : (k : Int) < (an : Int) := of_decide_eq_true hlt
    obtain ⟨x, hx⟩ : ∃ x, xs[k]? = some x := ⟨_, List.getElem?_eq_getElem (by omega)⟩
    obtain ⟨ad, rfl, hh⟩ := h.at_enc hx
    dsimp only
    refine (W.guard_iff _ _ _).2 ⟨by omega, ?_⟩
    simp only [W.unSome_some, Int.toNat_natCast]
    refine ld_has_z hh (y := (x.node, x.ver, x.til, ())) rfl ?_
    refine callq (((earlyB below now) x, ()), ()) (c_clear1 hp hq x) rfl ?_
    rw [seek_step hx] at hs
    refine (W.br_iff _ _ _ _).2 ⟨fun he => ?_, fun he => ?_⟩
    · have he : (earlyB below now) x = true := he
      rw [if_pos he] at hs
      rw [← hs]; exact ⟨rfl, rfl⟩
    · have he : (earlyB below now) x = false := he
      rw [if_neg (by rw [he]; simp)] at hs
      rw [wrap_succ (k := k) (by omega)]
      exact ⟨⟨k + 1, rfl, by omega, rfl, hs⟩, by simp only [Int.toNat_natCast]; omega⟩
  · have hge : ¬ (k : Int) < (an : Int) := of_decide_eq_false hge
    rw [seek_end (by omega)] at hs
    rw [← hs]; exact ⟨rfl, rfl⟩
theorem c_ContainsL {s : PH} {a : Option Addr} {an ac : Nat} {xs : List Lse} (h : elems (Rd.enc lseE) s a an xs) (hn : xs.length ≤ 4294967296) {p q : Nat} {below now : Int} (hp : IntAt s p below) (hq : IntAt s q now) :
    DCalls Try.prog 138 #[.slice a an ac, fn2 139 p q] s fun y s' => y = .bool (xs.any (earlyB below now)) ∧ s' = s := by
  refine ok_ContainsL a an ac p q _ s ?_
  unfold vc_ContainsL
  simp only [RP_call, RP_ret]
  refine callq ((seek (earlyB below now) xs 0, ()), ()) (c_IndexFuncE h hn hp hq) rfl ?_
  refine ⟨?_, rfl⟩
  have e : decide (seek (earlyB below now) xs 0 ≥ 0) = decide (0 ≤ seek (earlyB below now) xs 0) := rfl
  dsimp only
  rw [e, seek_any]
theorem c_DelL {s : PH} {a : Option Addr} {n c : Nat} {xs : List Lse} (h : rowE lseE s 89 a n c xs) (hl : n ≤ 4294967296) {p q : Nat} {now : Int} {m : Lse} (hp : IntAt s p now) (hq : LseAt s q m) (hpa : p ∉ Fw.blk a) (hqa : q ∉ Fw.blk a) :
    DCalls Try.prog 107 #[.slice a n c, fn2 108 p q] s fun y s' =>
    ∃ m', y = .slice a m' c ∧ rowE lseE s' 89 a m' c (xs.filter fun x => !goneB now m x) ∧ Fw.Mod (Fw.blk a) s s' := by
  refine ok_DelL a n c p q _ s ?_
  unfold vc_DelL
  have hn : n = xs.length := h.len
  have hle := h.le
  obtain ⟨keep, hkeep⟩ : ∃ keep : Lse → Bool, (fun x => !goneB now m x) = keep := ⟨_, rfl⟩
  have hgk : (goneB now m) = fun x => !keep x := by funext x; rw [← hkeep]; simp
  rw [hkeep]
  simp only [RP_join, RP_ite, RP_call, RP_callQ, RP_ret, RP_nw, RP_app, RP_st, RP_ld, RP_unSome, RP_guard, RP_loop, RP_clr, W.unSome_some]
  have hidx := c_IndexFuncL (ac := c) (elems.of_row h) (by omega) hp hq
  rw [hgk] at hidx
  refine callq ((seek (fun x => !keep x) xs 0, ()), ()) hidx rfl ?_
  rcases seek_cases (fun x => !keep x) xs with ⟨h1, h2⟩ | ⟨i0, x0, h1, hx0, h3, h4⟩
  · rw [h1]
    refine (W.br_iff _ _ _ _).2 ⟨fun _ => ⟨n, rfl, ?_, Mod.refl _ _⟩, fun e => by cases e⟩
    have : xs.filter keep = xs := List.filter_eq_self.2 fun x hx => by have := h2 x hx; simpa using this
    rw [this]; exact h
  rw [h1]
  have hi0 := (List.getElem?_eq_some_iff.1 hx0).1
  refine (W.br_iff _ _ _ _).2 ⟨fun e => ?_, fun _ => ?_⟩
  · have e : ((i0 : Int) == -1) = true := e
    have : (i0 : Int) = -1 := eq_of_beq e
    omega
  dsimp only
  rw [wrap_succ (k := i0) (by omega)]
  have hbeg : (xs.take (i0 + 1)).filter keep = xs.take i0 := by
    rw [filt_take hx0]
    have h3' : keep x0 = false := by simpa using h3
    rw [h3']
    simp only [Bool.false_eq_true, if_false, List.append_nil]
    refine List.filter_eq_self.2 fun x hx => ?_
    obtain ⟨j, hj⟩ := List.mem_iff_getElem?.1 hx
    rw [List.getElem?_take] at hj
    split at hj
    · have := h4 j x ‹_› hj; simpa using this
    · cases hj
  refine ⟨fun z s' => ∃ (i j : Nat) (ys : List Lse), z = (((i : Int), ()), ((j : Int), ()), ()) ∧ i < j ∧ j ≤ n ∧ rowE lseE s' 89 a n c ys ∧ Fw.Mod (Fw.blk a) s s' ∧ ys.take i = (xs.take j).filter keep ∧ ys.drop j = xs.drop j, fun z _ => n - z.2.1.1.toNat,
    ⟨i0, i0 + 1, xs, rfl, by omega, by omega, h, Mod.refl _ _, hbeg.symm, rfl⟩, ?_⟩
  rintro _ s1 ⟨i, j, ys, rfl, hij, hjn, hrow, m1, htk, hdr⟩
  have hyl : n = ys.length := hrow.len
  simp only [W.br_iff, decide_eq_true_eq, decide_eq_false_iff_not]
  refine ⟨fun hlt => ?_, fun hge => ?_⟩
  · have hlt : j < n := by omega
    obtain ⟨x, hx⟩ : ∃ x, xs[j]? = some x := ⟨_, List.getElem?_eq_getElem (by omega)⟩
    have hy : ys[j]? = some x := by
      have e1 : (ys.drop j)[0]? = (xs.drop j)[0]? := by rw [hdr]
      simpa [List.getElem?_drop, hx] using e1
    obtain ⟨g, rfl, hh⟩ := hrow.at hy
    have hh' : s1.has ((Addr.mk g 0 none).add (j * 3)) (lseE.f x) := by rw [add_mk, Nat.zero_add]; exact hh
    refine ⟨by omega, ?_⟩
    simp only [W.unSome_some, Int.toNat_natCast]
    refine ld_has_z hh' (y := (x.node, x.ver, x.til, ())) rfl ?_
    have hcg := c_grant1 (hp.mod m1 hpa) (hq.mod m1 hqa) x
    have hgx : goneB now m x = !keep x := congrFun hgk x
    rw [hgx] at hcg
    refine callq ((!keep x, ()), ()) hcg rfl ?_
    have hst := filt_take (f := keep) hx
    have hdr' : ∀ zs : List Lse, zs.drop j = xs.drop j → zs.drop (j + 1) = xs.drop (j + 1) := fun zs e => by rw [← List.drop_drop, e, List.drop_drop]
    refine (W.br_iff _ _ _ _).2 ⟨fun hk => ?_, fun hk => ?_⟩
    · have hk : keep x = true := nn_t hk
      refine ⟨by omega, ?_⟩
      simp only [W.unSome_some, Int.toNat_natCast, add_mk, Nat.zero_add]
      obtain ⟨y, hyi⟩ : ∃ y, ys[i]? = some y := ⟨_, List.getElem?_eq_getElem (by omega)⟩
      refine rowE.st (E := lseE) (i := i) (j := 0) (x' := x) (vs := lseE.f x) hrow hyi rfl (by rw [lseE.len]; exact Nat.le_refl _) (by simp [lseE]) (lseE.one x) rfl fun s2 h2 m2 => ?_
      rw [wrap_succ (k := i) (by omega), wrap_succ (k := j) (by omega)]
      refine ⟨⟨i + 1, j + 1, ys.set i x, rfl, by omega, hlt, h2, m1.trans (m2.mono fun z hz => by simpa [Fw.blk] using hz), ?_, ?_⟩, by simp only [Int.toNat_natCast]; omega⟩
      · rw [hst, hk, if_pos rfl, ← htk, List.take_add_one, List.getElem?_set_self (by omega), List.take_set_of_le (Nat.le_refl _)]; (first | done | rfl)
      · rw [List.drop_set_of_lt (by omega)]; exact hdr' ys hdr
    · have hk : keep x = false := nn_f hk
      rw [wrap_succ (k := j) (by omega)]
      refine ⟨⟨i, j + 1, ys, rfl, by omega, hlt, hrow, m1, ?_, hdr' ys hdr⟩, by simp only [Int.toNat_natCast]; omega⟩
      rw [hst, hk]
      simpa using htk
  · have hje : j = n := by omega
    subst hje
    have hall : xs.take j = xs := List.take_of_length_le (by omega)
    rw [hall] at htk
    have hpre : rowE lseE s1 89 a i c (ys.take i) := by
      have := hrow.shrink (m := i) (c' := c) (by omega) (by omega) (Nat.le_refl _)
      have e : (if a = none then none else a) = a := by cases a <;> simp
      rwa [e] at this
    rw [htk] at hpre
    refine ⟨by omega, ?_⟩
    simp only [Int.toNat_natCast]
    refine clr_tail hpre rfl (by simp [Value.oneCell']) (by omega) fun s2 h2 m2 => ?_
    refine ⟨by omega, ?_⟩
    have he : (if c = 0 then a else Option.map (fun x => x.add 0) a) = a := by split <;> simp [map_add0]
    refine ⟨i, ?_, h2, m1.trans m2⟩
    simp only [he, Nat.sub_zero, Int.toNat_natCast]
section
variable {s : PH} {b : Nat} {P : Pl} {t la ja : Tri} {ps : List TabP} {qs : List JbP}
theorem c_Clear (h : Brd s b P t la ja ps qs) (hn : P.L.length ≤ 1000000) (now below : Int) :
    DCalls Try.prog 111 #[cp b, .int .i64 now, .int .i64 below] s fun y s' => y = .bool (clearB P now below) ∧ s' = s := by
  refine DCalls.quiet ?_
  refine ok_Clear b now below _ s ?_
  unfold vc_Clear
  simp only [RP_nw, RP_ite, RP_unSome, RP_ld, RP_call, RP_ret, Option.isNone_some, W.br_false]
  refine W.nw_of fun r0 s1 hr0 m1 k0 => ?_
  refine W.nw_of fun r1 s2 hr1 m2 k1 => ?_
  have h2 := h.mod (m1.trans m2)
  refine (W.br_iff _ _ _ _).2 ⟨fun e => (by cases e), fun _ => ?_⟩
  simp only [W.unSome_some, add_mk, Nat.zero_add]
  rw [W.ld_at h2.blk]
  refine ⟨(la, ()), rfl, ?_⟩
  refine W.call_of (c_ContainsL (ac := la.2.2) (elems.of_row h2.lrow) (by omega) (p := r1) (q := r0) (below := below) (now := now) k1 (m2.at k0 (by simp))) ?_
  rintro _ _ ⟨rfl, rfl⟩
  refine ⟨((P.L.any (earlyB below now), ()), ()), rfl, ?_⟩
  exact ⟨rfl, m1.trans m2⟩
end
end Go.Proofs.Ythepfbcgpbkbdaa
end
section
set_option linter.unusedVariables false
set_option linter.unusedSimpArgs false
set_option maxHeartbeats 4000000
set_option maxRecDepth 100000
namespace Go.Proofs.Ythepfbcgpbkbdaa
open Fw Go
attribute [-simp] Fw.W.ld_iff Fw.W.st_iff
/-- a store into a block that is known whole -/
theorem st_blk {s : PH} {b : Nat} {c c' : Array Value} {e : TypeId} {v : Value} {vs : List Value} {off : Nat} {k : W.T} (h : s b = some (.cells c e (0, 0))) (hs : off + (v :: vs).length ≤ c.size) (h1 : ∀ w ∈ v :: vs, w.oneCell' = true) (hc : setL c off (v :: vs) = c')
    (hk : ∀ s', s' = s.upd b (.cells c' e (0, 0)) → k s') : W.st ⟨b, off, none⟩ (v :: vs) k s :=
  (W.st_at h v vs off k).2 ⟨hs, by simp [frz], h1, hc ▸ hk _ rfl⟩
theorem one3 {u v w : Value} (h1 : u.oneCell' = true) (h2 : v.oneCell' = true) (h3 : w.oneCell' = true) : ∀ x ∈ [u, v, w], x.oneCell' = true := by
  intro x hx; simp at hx; rcases hx with rfl | rfl | rfl <;> assumption
section
variable {s s1 : PH} {b : Nat} {P : Pl} {t la ja : Tri} {ps : List TabP} {qs : List JbP}
/-- new leases -/
theorem Brd.newL (h : Brd s b P t la ja ps qs) {la' : Tri} {L' : List Lse} (hm : Fw.Mod (Fw.blk la.1) s s1) (hr : rowE lseE s1 89 la'.1 la'.2.1 la'.2.2 L') {s2 : PH}
    (hs2 : s2 = s1.upd b (.cells #[.int .i64 P.S.version, .int .i64 P.S.last, .slice t.1 t.2.1 t.2.2, .slice la'.1 la'.2.1 la'.2.2, .slice ja.1 ja.2.1 ja.2.2] 126 (0, 0))) :
    Brd s2 b { P with L := L' } t la' ja ps qs ∧ Fw.Mod (b :: Fw.blk la.1) s s2 := by
  subst hs2
  obtain ⟨o1, o2, o3⟩ := h.bl
  have hb1 : Ty s1 b 126 := ⟨_, hm.at h.blk o1⟩
  have m2 : Fw.Mod (b :: Fw.blk la.1) s (s1.upd b (.cells #[.int .i64 P.S.version, .int .i64 P.S.last, .slice t.1 t.2.1 t.2.2, .slice la'.1 la'.2.1 la'.2.2, .slice ja.1 ja.2.1 ja.2.2] 126 (0, 0))) := (hm.mono (by simp; exact fun x hx => .inr hx)).trans (Mod.upd (by simp))
  have hB : ∀ g ∈ b :: Fw.blk la.1, g ∈ BL b la ja := by intro g hg; simp [BL] at hg ⊢; rcases hg with rfl | hg <;> simp [*]
  refine ⟨⟨PH.upd_same _ _ _, h.hasM m2 hB, h.teq, h.sm, ?_, ?_, h.jeq, h.colsM m2 hB⟩, m2⟩
  · refine hr.mod (L := [b]) (Mod.upd (by simp)) fun x hx => ?_
    simp; rintro rfl
    exact (hb1.ne (row_ty hr x hx) (by decide)) rfl
  · refine h.jrow.mod m2 fun x hx => ?_
    simp; exact ⟨fun e => o2 (e ▸ hx), fun e => o3 x e hx⟩
/-- new jobs -/
theorem Brd.newJ (h : Brd s b P t la ja ps qs) {ja' : Tri} {qs' : List JbP} (hm : Fw.Mod (Fw.blk ja.1) s s1) (hr : rowE jobE s1 76 ja'.1 ja'.2.1 ja'.2.2 qs') (hc : ∀ q ∈ qs', rowE colE s1 44 q.u.1 q.u.2.1 q.u.2.2 q.j.D.cols ∧ q.j.D.cols.length ≤ 1048576) {s2 : PH}
    (hs2 : s2 = s1.upd b (.cells #[.int .i64 P.S.version, .int .i64 P.S.last, .slice t.1 t.2.1 t.2.2, .slice la.1 la.2.1 la.2.2, .slice ja'.1 ja'.2.1 ja'.2.2] 126 (0, 0))) :
    Brd s2 b { P with J := qs'.map (·.j) } t la ja' ps qs' ∧ Fw.Mod (b :: Fw.blk ja.1) s s2 := by
  subst hs2
  obtain ⟨o1, o2, o3⟩ := h.bl
  have hb1 : Ty s1 b 126 := ⟨_, hm.at h.blk o2⟩
  have m2 : Fw.Mod (b :: Fw.blk ja.1) s (s1.upd b (.cells #[.int .i64 P.S.version, .int .i64 P.S.last, .slice t.1 t.2.1 t.2.2, .slice la.1 la.2.1 la.2.2, .slice ja'.1 ja'.2.1 ja'.2.2] 126 (0, 0))) := (hm.mono (by simp; exact fun x hx => .inr hx)).trans (Mod.upd (by simp))
  have hB : ∀ g ∈ b :: Fw.blk ja.1, g ∈ BL b la ja := by intro g hg; simp [BL] at hg ⊢; rcases hg with rfl | hg <;> simp [*]
  have mu : ∀ {c : Array Value}, Fw.Mod [b] s1 (s1.upd b (.cells c 126 (0, 0))) := Mod.upd (by simp)
  refine ⟨⟨PH.upd_same _ _ _, h.hasM m2 hB, h.teq, h.sm, ?_, ?_, rfl, ?_⟩, m2⟩
  · refine h.lrow.mod m2 fun x hx => ?_
    simp; exact ⟨fun e => o1 (e ▸ hx), fun e => o3 x hx e⟩
  · refine hr.mod mu fun x hx => ?_
    simp; rintro rfl
    exact (hb1.ne (row_ty hr x hx) (by decide)) rfl
  · intro q hq
    refine ⟨(hc q hq).1.mod mu fun x hx => ?_, (hc q hq).2⟩
    simp; rintro rfl
    exact (hb1.ne (row_ty (hc q hq).1 x hx) (by decide)) rfl
/-- a new schema -/
theorem Brd.newS (h : Brd s b P t la ja ps qs) {t' : Tri} {ps' : List TabP} {S' : Sch} (hm : Fw.Mod [] s s1) (hH : Has s1 t' ps') (he : S'.tabs = ps'.map (·.T)) (hsm : S'.Sm) {s2 : PH}
    (hs2 : s2 = s1.upd b (.cells #[.int .i64 S'.version, .int .i64 S'.last, .slice t'.1 t'.2.1 t'.2.2, .slice la.1 la.2.1 la.2.2, .slice ja.1 ja.2.1 ja.2.2] 126 (0, 0))) :
    Brd s2 b { P with S := S' } t' la ja ps' qs ∧ Fw.Mod [b] s s2 := by
  subst hs2
  obtain ⟨o1, o2, o3⟩ := h.bl
  have hb1 : Ty s1 b 126 := ⟨_, hm.at h.blk (by simp)⟩
  have mu : ∀ {c : Array Value}, Fw.Mod [b] s1 (s1.upd b (.cells c 126 (0, 0))) := Mod.upd (by simp)
  have m2 : Fw.Mod [b] s (s1.upd b (.cells #[.int .i64 S'.version, .int .i64 S'.last, .slice t'.1 t'.2.1 t'.2.2, .slice la.1 la.2.1 la.2.2, .slice ja.1 ja.2.1 ja.2.2] 126 (0, 0))) := (hm.mono (by simp)).trans mu
  have hB : ∀ g ∈ [b], g ∈ BL b la ja := by intro g hg; simp at hg; subst hg; simp [BL]
  refine ⟨⟨PH.upd_same _ _ _, ?_, he, hsm, ?_, ?_, h.jeq, h.colsM m2 hB⟩, m2⟩
  · refine hH.mod mu fun g hg hg2 => ?_
    simp at hg2; subst hg2
    rcases hH.ty g hg with h1 | h1 | h1 | h1 <;> exact (h1.ne hb1 (by decide)) rfl
  · refine h.lrow.mod m2 fun x hx => ?_
    simp; rintro rfl; exact o1 hx
  · refine h.jrow.mod m2 fun x hx => ?_
    simp; rintro rfl; exact o2 hx
theorem step_new {L L' : List Nat} {s s' : PH} (hm : Fw.Mod L s s') (hk : ∀ x ∈ L', x ∉ L → s x = none) : Step L L' s s' :=
  ⟨hm, fun x hx => by by_cases h : x ∈ L; exact .inl h; exact .inr (hk x hx h)⟩
theorem c_grant (h : Brd s b P t la ja ps qs) (hn : P.J.length ≤ 1000000) (hnl : P.L.length ≤ 1000000) (k : CmdP) (now : Int) :
    DCalls Try.prog 68 #[cp b, .int .i64 now, cmdV k] s (BdPost s b (BL b la ja) (P.grant now k.c)) := by
  refine ok_grant b now k.c.kind k.c.y1 k.c.y2 k.c.y3 k.x1 k.x2 k.x3 k.ho k.r.1 k.r.2.1 k.r.2.2 k.w.1 k.w.2.1 k.w.2.2 k.mi k.un k.ts k.c.ver k.c.call k.c.D.kind k.c.D.table k.c.D.name k.c.D.column k.c.D.parent k.c.D.unique k.c.D.type k.c.D.dflt.kind k.c.D.dflt.n k.c.D.dflt.s k.u.1 k.u.2.1 k.u.2.2 k.c.job k.c.phase k.c.mark k.c.why _ s ?_
  unfold vc_grant
  obtain ⟨R, hR⟩ : ∃ R, BdPost s b (BL b la ja) (P.grant now k.c) = R := ⟨_, rfl⟩
  rw [hR]
  unfold Pl.grant at hR
  simp only [RP_nw, RP_call, RP_ite, RP_unSome, RP_ld, RP_st, RP_ret, RP_join, RP_app]
  refine W.nw_of fun r0 s1 hr0 m1 k1 => ?_
  have h1 := h.mod m1
  refine W.join_gen (fun z s' => z = ((Addr.mk r0 0 none, ()), cmdD k, zerD, ()) ∧ s' = s1 ∧ ¬ (P.hand.map fun p => p.2.drain) = some true) ?_ ?_
  rotate_left
  · intro J hJ
    refine callq ((handP ja P, ()), ()) (c_hand h1 hn) rfl ?_
    unfold handP
    cases hh : P.hand with
    | none =>
      refine (W.br_iff _ _ _ _).2 ⟨fun e => (by cases e), fun _ => hJ _ _ ⟨rfl, rfl, by simp [hh]⟩⟩
    | some p =>
      obtain ⟨i, j⟩ := p
      obtain ⟨hj, hf, _⟩ := hand_some hh
      obtain ⟨g, q, hg, hq, rfl, hhas⟩ := h1.at hj
      dsimp only
      rw [hg]
      simp only [Option.map_some, add_mk, Nat.zero_add]
      refine (W.br_iff _ _ _ _).2 ⟨fun _ => ?_, fun e => (by cases e)⟩
      simp only [W.unSome_some, add_mk]
      refine ld_hasm (j := 18) hhas (cs := [.bool]) (y := (q.j.drain, ())) rfl ?_
      refine (W.br_iff _ _ _ _).2 ⟨fun e => ?_, fun e => hJ _ _ ⟨rfl, rfl, ?_⟩⟩
      · have e : q.j.drain = true := e
        rw [if_pos (by simp [hh, e])] at hR
        rw [← hR]; exact post_same h m1 _
      · have e : q.j.drain = false := e
        simp [hh, e]
  rintro _ _ ⟨rfl, rfl, hnd⟩
  rename_i s1
  rw [if_neg hnd] at hR
  simp only [W.unSome_some, add_mk, Nat.zero_add]
  rw [W.ld_at h1.blk]
  refine ⟨(P.S.version, ()), rfl, ?_⟩
  rw [W.ld_at k1]
  refine ⟨(now, ()), rfl, ?_⟩
  dsimp only
  obtain ⟨m, hm⟩ : ∃ m : Lse, (⟨k.c.y1, P.S.version, IntKind.i64.wrap (now + 20)⟩ : Lse) = m := ⟨_, rfl⟩
  refine W.nw_of fun r1 s2 hr1 m2 k2 => ?_
  refine st_blk (c' := #[.int .i64 m.node, .int .i64 m.ver, .int .i64 m.til]) k2 (Nat.le_of_ble_eq_true rfl) (one3 rfl rfl rfl) (by rw [← hm]; (first | done | rfl)) fun s3 e3 => ?_
  have hr1s : s r1 = none := m1.none hr1 (by simp)
  have m23 : Fw.Mod [] s1 s3 := fun x hx _ => by
    rw [e3, PH.upd_other _ _ (fun e => hx (by rw [e]; exact hr1))]
    exact m2 x hx (by simp)
  have q3 : LseAt s3 r1 m := by rw [e3]; exact PH.upd_same _ _ _
  have p3 : IntAt s3 r0 now := m23.at k1 (by simp)
  have h3 := h1.mod m23
  have m13 := m1.trans m23
  clear e3 k2 m2
  simp only [W.unSome_some, add_mk, Nat.zero_add]
  rw [W.ld_at h3.blk]
  refine ⟨(la, ()), rfl, ?_⟩
  have hkn := h.lrow.known
  have hpa : r0 ∉ Fw.blk la.1 := fun hx => hkn r0 hx hr0
  have hqa : r1 ∉ Fw.blk la.1 := fun hx => hkn r1 hx hr1s
  have hLn : la.2.1 = P.L.length := h.lrow.len
  refine W.call_of (c_DelL h3.lrow (by omega) p3 q3 hpa hqa) ?_
  rintro _ s4 ⟨n4, rfl, hrow4, m4⟩
  refine ⟨(((la.1, n4, la.2.2), ()), ()), rfl, ?_⟩
  have hb4 := m4.at h3.blk h3.bl.1
  simp only [W.unSome_some, add_mk, Nat.zero_add]
  refine st_blk (c' := #[.int .i64 P.S.version, .int .i64 P.S.last, .slice t.1 t.2.1 t.2.2, .slice la.1 n4 la.2.2, .slice ja.1 ja.2.1 ja.2.2]) hb4 (Nat.le_of_ble_eq_true rfl) (one1 rfl) rfl fun s5 e5 => ?_
  obtain ⟨h5, m5⟩ := h3.newL (la' := (la.1, n4, la.2.2)) m4 hrow4 e5
  clear e5
  simp only [W.unSome_some, add_mk, Nat.zero_add]
  rw [W.ld_at h5.blk]
  refine ⟨((la.1, n4, la.2.2), ()), rfl, ?_⟩
  have hr1b : r1 ∉ b :: Fw.blk la.1 := by
    simp; refine ⟨fun e => ?_, hqa⟩
    subst e; have := h.blk; rw [hr1s] at this; cases this
  have q5 := q3.mod m5 hr1b
  unfold LseAt at q5
  rw [W.ld_at q5]
  refine ⟨(m.node, m.ver, m.til, ()), rfl, ?_⟩
  refine W.nw_of fun r2 s6 hr2 m6 k6 => ?_
  have h6 := h5.mod m6
  have hmax : maxLen = 9223372036854775807 := rfl
  have hn4 : n4 ≤ 1000000 := by
    have h1 := hrow4.len
    have h2 := List.length_filter_le (fun x => !goneB now m x) P.L
    omega
  dsimp only
  refine app_rowE (E := lseE) (k := 1) (ys := [m]) h6.lrow rfl (src_has (E := lseE) (has_block k6) rfl) rfl rfl (by omega) (by omega) ?_
  intro a' c' s7 hrow7 hm7
  have m7 : Fw.Mod (Fw.blk la.1) s6 s7 := by
    rcases hm7 with ⟨_, hm⟩ | ⟨_, _, _, hm⟩
    · exact hm
    · exact hm.mono (by simp)
  have hb7 := m7.at h6.blk h6.bl.1
  simp only [W.unSome_some, add_mk, Nat.zero_add]
  refine st_blk (c' := #[.int .i64 P.S.version, .int .i64 P.S.last, .slice t.1 t.2.1 t.2.2, .slice a' (n4 + 1) c', .slice ja.1 ja.2.1 ja.2.2]) hb7 (Nat.le_of_ble_eq_true rfl) (one1 rfl) rfl fun s8 e8 => ?_
  obtain ⟨h8, m8⟩ := h6.newL (la' := (a', n4 + 1, c')) m7 hrow7 e8
  clear e8
  have q8 : LseAt s8 r1 m := (LseAt.mod (M := []) q5 m6 (by simp)).mod m8 hr1b
  unfold LseAt at q8
  rw [W.ld_at q8]
  refine ⟨(m.ver, ()), rfl, ?_⟩
  rw [W.ld_at q8]
  refine ⟨(m.til, ()), rfl, ?_⟩
  have hBL : ∀ x ∈ b :: Fw.blk la.1, x ∈ BL b la ja := by intro g hg; simp [BL] at hg ⊢; rcases hg with rfl | hg <;> simp [*]
  have mall : Fw.Mod (BL b la ja) s s8 := ((m13.mono (by simp)).trans (m5.mono hBL)).trans ((m6.mono (by simp)).trans (m8.mono hBL))
  have m16 : Fw.Mod (BL b la ja) s s6 := ((m13.mono (by simp)).trans (m5.mono hBL)).trans (m6.mono (by simp))
  rw [← hR]
  refine ⟨?_, BL b (a', n4 + 1, c') ja, ⟨t, (a', n4 + 1, c'), ja, ps, qs, rfl, ?_⟩, step_new mall fun x hx hxL => ?_⟩
  · rw [← hm]
  · have e : (P.L.filter fun x => !goneB now m x) ++ [m] = P.L.filter (fun x => !(!forceB x now || (decide (x.node = k.c.y1) && decide (x.ver = P.S.version)))) ++ [⟨k.c.y1, P.S.version, IntKind.i64.wrap (now + 20)⟩] := by
      rw [← hm]; (first | done | rfl)
    rw [e] at h8
    exact h8
  · simp only [BL, List.mem_cons, List.mem_append] at hx hxL
    simp only [not_or] at hxL
    rcases hx with hx | hx | hx
    · exact absurd hx hxL.1
    · rcases hm7 with ⟨e, _⟩ | ⟨g, e, hg, _⟩
      · rw [e] at hx; exact absurd hx hxL.2.1
      · rw [e] at hx
        simp [Fw.blk] at hx
        subst hx
        exact m16.none hg (by simp only [BL, List.mem_cons, List.mem_append, not_or]; exact hxL)
    · exact absurd hx hxL.2.2
theorem take_filter_len {α : Type} {f : α → Bool} {l : List α} {k : Nat} {x : α} (h : l[k]? = some x) : ((l.take (k + 1)).filter f).length = ((l.take k).filter f).length + (if f x = true then 1 else 0) := by
  rw [filt_take h, List.length_append]; split <;> simp
theorem c_submit (h : Brd s b P t la ja ps qs) (hn : P.J.length ≤ 1000000) (k : CmdP) (hu : Sl colE s k.u k.c.D.cols) (hul : k.c.D.cols.length ≤ 1048576) (now : Int) :
    DCalls Try.prog 69 #[cp b, .int .i64 now, cmdV k] s (BdPost s b (BL b la ja) (P.submit k.c)) := by
  refine ok_submit b now k.c.kind k.c.y1 k.c.y2 k.c.y3 k.x1 k.x2 k.x3 k.ho k.r.1 k.r.2.1 k.r.2.2 k.w.1 k.w.2.1 k.w.2.2 k.mi k.un k.ts k.c.ver k.c.call k.c.D.kind k.c.D.table k.c.D.name k.c.D.column k.c.D.parent k.c.D.unique k.c.D.type k.c.D.dflt.kind k.c.D.dflt.n k.c.D.dflt.s k.u.1 k.u.2.1 k.u.2.2 k.c.job k.c.phase k.c.mark k.c.why _ s ?_
  unfold vc_submit
  obtain ⟨R, hR⟩ : ∃ R, BdPost s b (BL b la ja) (P.submit k.c) = R := ⟨_, rfl⟩
  rw [hR]
  unfold Pl.submit at hR
  simp only [RP_nw, RP_call, RP_ite, RP_unSome, RP_ld, RP_st, RP_ret, RP_join, RP_app, RP_loop, RP_guard]
  refine W.call_of (c_Path k.c.D k.u false s) ?_
  rintro _ s1 ⟨⟨va, vn, vc⟩, rfl, hr, m1⟩
  dsimp only at hr
  refine ⟨(((va, vn, vc), ()), ()), rfl, ?_⟩
  have hvl := hr.len
  have h1 := h.mod m1
  refine (W.br_iff _ _ _ _).2 ⟨fun e => ?_, fun e => ?_⟩
  · have e : ((vn : Int) == 0) = true := e
    have e : (vn : Int) = 0 := eq_of_beq e
    rw [if_pos (by omega)] at hR
    rw [← hR]; exact post_same h m1 _
  have e : ((vn : Int) == 0) = false := e
  have e : (vn : Int) ≠ 0 := by simpa using e
  rw [if_neg (by omega)] at hR
  simp only [W.unSome_some, add_mk, Nat.zero_add]
  rw [W.ld_at h1.blk]
  refine ⟨(ja, ()), rfl, ?_⟩
  have hjl := h1.jrow.len
  have hjn : P.J.length = qs.length := by rw [h.jeq, List.length_map]
  refine ⟨fun z s' => ∃ i : Nat, z = (cmdD k, zerD, (((running (P.J.take i) : Nat) : Int), ()), (ja, ()), ((ja.2.1 : Int), ()), ((i : Int), ()), ()) ∧ i ≤ ja.2.1 ∧ s' = s1 ∧ ∀ j ∈ P.J.take i, sameBy j k.c = false, fun z _ => ja.2.1 - z.2.2.2.2.2.1.1.toNat,
    ⟨0, rfl, Nat.zero_le _, rfl, by simp⟩, ?_⟩
  rintro _ _ ⟨i, rfl, hi, rfl, hno⟩
  rename_i s1
  refine (W.br_iff _ _ _ _).2 ⟨fun hlt => ?_, fun hge => ?_⟩
  · have hlt : (i : Int) < (ja.2.1 : Int) := of_decide_eq_true hlt
    obtain ⟨q, hq⟩ : ∃ q, qs[i]? = some q := ⟨_, List.getElem?_eq_getElem (by omega)⟩
    have hqP : P.J[i]? = some q.j := by rw [h.jeq, List.getElem?_map, hq]; (first | done | rfl)
    obtain ⟨g, hg, hh⟩ := h1.jrow.at hq
    dsimp only
    refine (W.guard_iff _ _ _).2 ⟨⟨by omega, hlt⟩, ?_⟩
    rw [hg]
    simp only [W.unSome_some, Int.toNat_natCast, add_mk, Nat.zero_add]
    refine ld_has_z (A := ⟨g, i * 22, none⟩) hh (cs := [.int .i64, .int .i64, .int .i64, .int .i64, .int .i64, .int .i64, .str, .str, .str, .str, .bool, .int .i64, .int .i64, .int .i64, .str, .slice, .int .i64, .bool, .bool, .str, .int .i64, .int .i64])
      (y := (q.j.id, q.j.call, q.j.y1, q.j.y2, q.j.y3, q.j.D.kind, q.j.D.table, q.j.D.name, q.j.D.column, q.j.D.parent, q.j.D.unique, q.j.D.type, q.j.D.dflt.kind, q.j.D.dflt.n, q.j.D.dflt.s, q.u, q.j.phase, q.j.back, q.j.drain, q.j.mark, q.j.fin, q.j.why, ())) rfl ?_
    refine (W.br_iff _ _ _ _).2 ⟨fun e => ?_, fun e => ?_⟩
    · have e : sameBy q.j k.c = true := e
      have hby : byAt P.J k.c = some q.j := by
        unfold byAt
        rw [List.find?_eq_some_iff_append]
        refine ⟨e, P.J.take i, P.J.drop (i + 1), ?_, fun a ha => by simp [hno a ha]⟩
        have hd := drop_some hqP
        rw [← hd, List.take_append_drop]
      rw [hby] at hR
      rw [← hR]; exact post_same h m1 _
    · have e : sameBy q.j k.c = false := e
      have hrun := take_filter_len (f := fun j : Jb => decide (j.fin = 0)) hqP
      have hno' : ∀ j ∈ P.J.take (i + 1), sameBy j k.c = false := by
        intro j hj
        rw [List.take_add_one, hqP] at hj
        simp only [Option.toList_some, List.mem_append, List.mem_singleton] at hj
        rcases hj with hj | rfl
        · exact hno j hj
        · exact e
      have hrl : running (P.J.take i) ≤ i := by
        unfold running
        have h1 := List.length_filter_le (fun j : Jb => decide (j.fin = 0)) (P.J.take i)
        rw [List.length_take] at h1; omega
      refine (W.br_iff _ _ _ _).2 ⟨fun e2 => ?_, fun e2 => ?_⟩
      · have e2 : (q.j.fin == 0) = true := e2
        have e2 : q.j.fin = 0 := eq_of_beq e2
        rw [if_pos (by simp [e2])] at hrun
        rw [wrap_succ (k := running (P.J.take i)) (by omega), wrap_succ (k := i) (by omega)]
        refine ⟨⟨i + 1, ?_, by omega, rfl, hno'⟩, by simp only [Int.toNat_natCast]; omega⟩
        have : running (P.J.take (i + 1)) = running (P.J.take i) + 1 := hrun
        rw [this, ← hg]
        try rfl
      · have e2 : (q.j.fin == 0) = false := e2
        have e2 : q.j.fin ≠ 0 := by simpa using e2
        rw [if_neg (by simp [e2])] at hrun
        rw [wrap_succ (k := i) (by omega)]
        refine ⟨⟨i + 1, ?_, by omega, rfl, hno'⟩, by simp only [Int.toNat_natCast]; omega⟩
        have : running (P.J.take (i + 1)) = running (P.J.take i) := hrun
        rw [this, ← hg]
        try rfl
  · have hge : ¬ (i : Int) < (ja.2.1 : Int) := of_decide_eq_false hge
    have hall : P.J.take i = P.J := List.take_of_length_le (by omega)
    rw [hall] at hno
    have hby : byAt P.J k.c = none := by
      unfold byAt
      rw [List.find?_eq_none]
      intro a ha; simp [hno a ha]
    rw [hby] at hR
    dsimp only at hR
    rw [hall]
    simp only [W.unSome_some, add_mk, Nat.zero_add]
    rw [W.ld_at h1.blk]
    refine ⟨(ja, ()), rfl, ?_⟩
    refine W.call_of (c_CloneC (hu.mono m1.le)) ?_
    rintro _ s2 ⟨u', rfl, hcol, m2, hnew⟩
    refine ⟨((u', ()), ()), rfl, ?_⟩
    have h2 := h1.mod m2
    have hrl : running P.J ≤ P.J.length := List.length_filter_le _ _
    have hid : IntKind.i64.wrap ((ja.2.1 : Int) + 1) = ((P.J.length + 1 : Nat) : Int) := by rw [wrap_succ (k := ja.2.1) (by omega)]; omega
    obtain ⟨nj, hnj⟩ : ∃ nj, newJob P.J k.c = nj := ⟨_, rfl⟩
    rw [hnj] at hR
    refine W.join_gen (fun z s' => z = (zerD, (nj.id, nj.call, nj.y1, nj.y2, nj.y3, nj.D.kind, nj.D.table, nj.D.name, nj.D.column, nj.D.parent, nj.D.unique, nj.D.type, nj.D.dflt.kind, nj.D.dflt.n, nj.D.dflt.s, u', nj.phase, nj.back, nj.drain, nj.mark, nj.fin, nj.why, ()), ()) ∧ s' = s2) ?_ ?_
    rotate_left
    · intro J hJ
      refine (W.br_iff _ _ _ _).2 ⟨fun e => hJ _ _ ⟨?_, rfl⟩, fun e => hJ _ _ ⟨?_, rfl⟩⟩
      · have e : ((running P.J : Nat) : Int) ≥ 4 := of_decide_eq_true e
        rw [← hnj]
        unfold newJob
        rw [if_pos (by omega), if_pos (by omega), ← hid]
      · have e : ¬ ((running P.J : Nat) : Int) ≥ 4 := of_decide_eq_false e
        rw [← hnj]
        unfold newJob
        rw [if_neg (by omega), if_neg (by omega), ← hid]
    rintro _ _ ⟨rfl, rfl⟩
    rename_i s2
    simp only [W.unSome_some, add_mk, Nat.zero_add]
    rw [W.ld_at h2.blk]
    refine ⟨(ja, ()), rfl, ?_⟩
    refine W.nw_of fun r3 s3 hr3 m3 k3 => ?_
    have h3 := h2.mod m3
    have hmax : maxLen = 9223372036854775807 := rfl
    have hl1 : ja.2.1 + 1 ≤ maxLen := by omega
    have hl2 : (ja.2.1 + 1) * 232 ≤ 140737488355328 := by omega
    refine app_rowE (E := jobE) (k := 1) (ys := [⟨nj, u'⟩]) h3.jrow rfl (src_has (E := jobE) (has_block k3) rfl) rfl rfl hl1 hl2 ?_
    intro a' c' s4 hrow4 hm4
    have m4 : Fw.Mod (Fw.blk ja.1) s3 s4 := by
      rcases hm4 with ⟨_, hm⟩ | ⟨_, _, _, hm⟩
      · exact hm
      · exact hm.mono (by simp)
    have hb4 := m4.at h3.blk h3.bl.2.1
    simp only [W.unSome_some, add_mk, Nat.zero_add]
    have hD : nj.D = k.c.D := by rw [← hnj]; (first | done | rfl)
    have hcol3 := hcol.mod m3 (by simp)
    have hcols4 : ∀ q ∈ qs ++ [⟨nj, u'⟩], rowE colE s4 44 q.u.1 q.u.2.1 q.u.2.2 q.j.D.cols ∧ q.j.D.cols.length ≤ 1048576 := by
      intro q hq
      simp only [List.mem_append, List.mem_singleton] at hq
      rcases hq with hq | rfl
      · exact h3.colsM m4 (fun g hg => by simp [BL, hg]) q hq
      · dsimp only
        rw [hD]
        refine ⟨hcol3.mod m4 fun g hg hg2 => ((row_ty hcol3 g hg).ne (row_ty h3.jrow g hg2) (by decide)) rfl, hul⟩
    refine st_blk (c' := #[.int .i64 P.S.version, .int .i64 P.S.last, .slice t.1 t.2.1 t.2.2, .slice la.1 la.2.1 la.2.2, .slice a' (ja.2.1 + 1) c']) hb4 (Nat.le_of_ble_eq_true rfl) (one1 rfl) rfl fun s5 e5 => ?_
    obtain ⟨h5, m5⟩ := h3.newJ (ja' := (a', ja.2.1 + 1, c')) m4 hrow4 hcols4 e5
    clear e5
    have hBL : ∀ x ∈ b :: Fw.blk ja.1, x ∈ BL b la ja := by intro g hg; simp [BL] at hg ⊢; rcases hg with rfl | hg <;> simp [*]
    have m13 := (m1.trans m2).trans m3
    have mall : Fw.Mod (BL b la ja) s s5 := (m13.mono (by simp)).trans (m5.mono hBL)
    rw [← hR]
    refine ⟨?_, BL b la (a', ja.2.1 + 1, c'), ⟨t, la, (a', ja.2.1 + 1, c'), ps, qs ++ [⟨nj, u'⟩], rfl, ?_⟩, step_new mall fun x hx hxL => ?_⟩
    · rw [← hnj]; (first | done | rfl)
    · have e : (qs ++ [(⟨nj, u'⟩ : JbP)]).map (·.j) = P.J ++ [nj] := by rw [List.map_append, ← h.jeq]; (first | done | rfl)
      rw [e] at h5
      exact h5
    · simp only [BL, List.mem_cons, List.mem_append] at hx hxL
      simp only [not_or] at hxL
      rcases hx with hx | hx | hx
      · exact absurd hx hxL.1
      · exact absurd hx hxL.2.1
      · rcases hm4 with ⟨e, _⟩ | ⟨g, e, hg, _⟩
        · rw [e] at hx; exact absurd hx hxL.2.2
        · rw [e] at hx
          simp [Fw.blk] at hx
          subst hx
          exact m13.none hg (by simp)
end
end Go.Proofs.Ythepfbcgpbkbdaa
end
section
set_option linter.unusedVariables false
set_option linter.unusedSimpArgs false
set_option maxHeartbeats 4000000
set_option maxRecDepth 100000
namespace Go.Proofs.Ythepfbcgpbkbdaa
open Fw Go
attribute [-simp] Fw.W.ld_iff Fw.W.st_iff
section
variable {s : PH} {b : Nat} {P : Pl} {t la ja : Tri} {ps : List TabP} {qs : List JbP}
theorem c_bnext (h : Brd s b P t la ja ps qs) (hok : PlOk P) (hn : P.J.length ≤ 1000000) (hnl : P.L.length ≤ 1000000) (k : CmdP) (now : Int) :
    DCalls Try.prog 71 #[cp b, .int .i64 now, cmdV k] s (BdPost s b (BL b la ja) (P.next now k.c)) := by
  refine ok_bnext b now k.c.kind k.c.y1 k.c.y2 k.c.y3 k.x1 k.x2 k.x3 k.ho k.r.1 k.r.2.1 k.r.2.2 k.w.1 k.w.2.1 k.w.2.2 k.mi k.un k.ts k.c.ver k.c.call k.c.D.kind k.c.D.table k.c.D.name k.c.D.column k.c.D.parent k.c.D.unique k.c.D.type k.c.D.dflt.kind k.c.D.dflt.n k.c.D.dflt.s k.u.1 k.u.2.1 k.u.2.2 k.c.job k.c.phase k.c.mark k.c.why _ s ?_
  unfold vc_bnext
  obtain ⟨R, hR⟩ : ∃ R, BdPost s b (BL b la ja) (P.next now k.c) = R := ⟨_, rfl⟩
  rw [hR]
  unfold Pl.next at hR
  simp only [RP_nw, RP_call, RP_callQ, RP_ite, RP_unSome, RP_ld, RP_st, RP_ret, RP_join, RP_still, RP_both]
  refine W.nw_of fun r s1 hr m1 k1 => ?_
  have h1 := h.mod m1
  refine callq ((turnP ja P k.c [1, 2, 3], ()), ()) (c_bturn h1 hok hn k (ints_row (l := [1, 2, 3]) k1) (by decide)) rfl ?_
  cases ht : P.turn k.c [1, 2, 3] with
  | none =>
    rw [ht] at hR
    rw [turnP_none ht]
    refine (W.br_iff _ _ _ _).2 ⟨fun _ => ?_, fun e => (by cases e)⟩
    rw [← hR]; exact post_same h m1 _
  | some p =>
    obtain ⟨i, j⟩ := p
    rw [ht] at hR
    dsimp only at hR
    obtain ⟨hhd, _⟩ := turn_some ht
    obtain ⟨hj, hf, _⟩ := hand_some hhd
    have hph := hok.ph j (List.mem_of_getElem? hj) hf
    obtain ⟨g, q, hg, hq, rfl, hhas⟩ := h1.at hj
    rw [turnP_some ht hg]
    refine (W.br_iff _ _ _ _).2 ⟨fun e => (by cases e), fun _ => ?_⟩
    refine W.callQ_of (((moveOf q.j).1, (moveOf q.j).2, ()), ()) (c_move hhas hph) rfl ?_
    obtain ⟨mk, ms, hmv⟩ : ∃ mk ms, moveOf q.j = (mk, ms) := ⟨_, _, rfl⟩
    rw [hmv] at hR ⊢
    dsimp only at hR ⊢
    simp only [W.unSome_some, add_mk, Nat.zero_add]
    rw [W.ld_at h1.blk]
    refine ⟨(P.S.version, ()), rfl, ?_⟩
    rw [W.still_at h1.blk]
    refine ⟨rfl, ?_⟩
    have hbel : belowOf P q.j = if mk = 2 then IntKind.i64.wrap (P.S.version + 1) else P.S.version := by unfold belowOf; rw [hmv]
    refine W.join_gen (fun z s' => z = (zerD, (some (Addr.mk g (i * 22) none), ()), (mk, ms, ()), (belowOf P q.j, ()), ()) ∧ s' = s1 ∧ ¬ (mk = 2 ∧ q.j.drain = false)) ?_ ?_
    rotate_left
    · intro J hJ
      refine (W.br_iff _ _ _ _).2 ⟨fun e => ?_, fun e => ?_⟩
      · have e : (mk == 2) = true := e
        have e : mk = 2 := eq_of_beq e
        rw [if_pos e] at hbel
        simp only [W.unSome_some, add_mk]
        refine ld_hasm (j := 18) hhas (cs := [.bool]) (y := (q.j.drain, ())) rfl ?_
        refine (W.br_iff _ _ _ _).2 ⟨fun e2 => ?_, fun e2 => hJ _ _ ⟨by rw [hbel], rfl, ?_⟩⟩
        · have e2 : (!q.j.drain) = true := e2
          rw [if_pos ⟨e, by simpa using e2⟩] at hR
          rw [← hR]; exact post_same h m1 _
        · have e2 : (!q.j.drain) = false := e2
          rintro ⟨_, e3⟩
          rw [e3] at e2; cases e2
      · have e : (mk == 2) = false := e
        have e : mk ≠ 2 := by simpa using e
        rw [if_neg e] at hbel
        exact hJ _ _ ⟨by rw [hbel], rfl, fun e3 => e e3.1⟩
    rintro _ _ ⟨rfl, rfl, hnd⟩
    rename_i s1
    rw [if_neg hnd] at hR
    refine callq ((clearB P now (belowOf P q.j), ()), ()) (c_Clear h1 hnl now (belowOf P q.j)) rfl ?_
    refine (W.br_iff _ _ _ _).2 ⟨fun e => ?_, fun e => ?_⟩
    · have e : (!clearB P now (belowOf P q.j)) = true := e
      rw [if_pos (by simpa using e)] at hR
      rw [← hR]; exact post_same h m1 _
    have e : (!clearB P now (belowOf P q.j)) = false := e
    rw [if_neg (by intro e3; rw [e3] at e; cases e)] at hR
    have hgB : ∀ x ∈ [g], x ∈ BL b la ja := by intro x hx; simp at hx; subst hx; simp [BL, hg, Fw.blk]
    refine (W.br_iff _ _ _ _).2 ⟨fun e => ?_, fun e => ?_⟩
    · have e : (mk != 3) = true := e
      rw [if_pos (by simpa using e)] at hR
      obtain ⟨S', x, hSx⟩ : ∃ S' x, P.S.turn q.j.D ms = (S', x) := ⟨_, _, rfl⟩
      have hsm := turn_sm P.S q.j.D ms
      have hcq := h1.cols q (List.mem_of_getElem? hq)
      have hT := c_Turn h1.is q.j.D (Sl.of_row (t := q.u) hcq.1 (by have := hcq.2; omega)) (by have := hcq.2; omega) ms
      rw [hSx] at hR hsm hT
      dsimp only at hR hsm hT
      refine W.join_gen (fun z s' => ∃ t' ps', z = (zerD, (some (Addr.mk g (i * 22) none), ()), (S'.version, S'.last, t', ()), (x, ()), ()) ∧ Has s' t' ps' ∧ S'.tabs = ps'.map (·.T) ∧ Fw.Mod [] s1 s') ?_ ?_
      rotate_left
      · intro J hJ
        simp only [W.unSome_some, add_mk, Nat.zero_add]
        rw [W.ld_at h1.blk]
        refine ⟨(P.S.version, P.S.last, t, ()), rfl, ?_⟩
        simp only [W.unSome_some, add_mk]
        refine ld_hasm (j := 5) hhas (y := ddlD q.j.D q.u) rfl ?_
        have hgo : ∀ K : MDen [(true, [CT.int .i64, CT.int .i64, CT.slice]), (false, [CT.int .i64])] → W.T, (∀ z s', (∃ t' ps', z = ((S'.version, S'.last, t', ()), (x, ()), ()) ∧ Has s' t' ps' ∧ S'.tabs = ps'.map (·.T) ∧ Fw.Mod [] s1 s') → K z s') →
            W.call Try.prog 14 #[schV P.S t, ddlV q.j.D q.u, .int .i64 ms] (true, [(true, [CT.int .i64, CT.int .i64, CT.slice]), (false, [CT.int .i64])]) K s1 := by
          intro K hK
          refine W.call_of hT ?_
          rintro _ s2 ⟨t', ps', rfl, hH, he, m2, f2⟩
          exact ⟨((S'.version, S'.last, t', ()), (x, ()), ()), rfl, hK _ _ ⟨t', ps', rfl, hH, he, m2⟩⟩
        refine ⟨hgo _ ?_, hgo _ ?_⟩ <;>
        · rintro _ s2 ⟨t', ps', rfl, hH, he, m2⟩
          exact hJ _ _ ⟨t', ps', rfl, hH, he, m2⟩
      rintro _ s2 ⟨t', ps', rfl, hH, he, m2⟩
      have h2 := h1.mod m2
      refine (W.br_iff _ _ _ _).2 ⟨fun e2 => ?_, fun e2 => ?_⟩
      · have e2 : (x != 0) = true := e2
        rw [if_pos (by simpa using e2)] at hR
        simp only [W.unSome_some, add_mk]
        refine h2.st (q' := ⟨q.j.w q.j.phase q.j.back q.j.drain q.j.mark 3 q.j.why, q.u⟩) (j := 20) hq rfl (Nat.le_of_ble_eq_true rfl) (by simp) (one1 rfl) rfl rfl hg fun s3 h3 m3 => ?_
        simp only [W.unSome_some, add_mk]
        have hq3 := setJ_at (P := P) (q' := ⟨q.j.w q.j.phase q.j.back q.j.drain q.j.mark 3 q.j.why, q.u⟩) hq
        refine h3.st (q' := ⟨q.j.w q.j.phase q.j.back q.j.drain q.j.mark 3 x, q.u⟩) (j := 21) hq3 rfl (Nat.le_of_ble_eq_true rfl) (by simp) (one1 rfl) rfl rfl hg fun s4 h4 m4 => ?_
        simp only [W.unSome_some, add_mk]
        have hq4 := setJ_at (P := P) (q' := ⟨q.j.w q.j.phase q.j.back q.j.drain q.j.mark 3 x, q.u⟩) hq3
        refine h4.st (q' := ⟨q.j.w q.j.phase q.j.back false q.j.mark 3 x, q.u⟩) (j := 18) hq4 rfl (Nat.le_of_ble_eq_true rfl) (by simp) (one1 rfl) rfl rfl hg fun s5 h5 m5 => ?_
        simp only [setJ_setJ] at h5
        rw [← hR]
        exact post_job h5 hg ((((m1.trans m2).mono (by simp)).trans m3).trans (m4.trans m5)) ⟨0, 0, 0, 0, true⟩
      · have e2 : (x != 0) = false := e2
        rw [if_neg (by simpa using e2)] at hR
        simp only [W.unSome_some, add_mk, Nat.zero_add]
        refine st_blk (c' := #[.int .i64 S'.version, .int .i64 S'.last, .slice t'.1 t'.2.1 t'.2.2, .slice la.1 la.2.1 la.2.2, .slice ja.1 ja.2.1 ja.2.2]) h2.blk (Nat.le_of_ble_eq_true rfl) (one3 rfl rfl rfl) rfl fun s3 e3 => ?_
        obtain ⟨h3, m3⟩ := h2.newS (Mod.refl [] s2) hH he hsm e3
        clear e3
        refine W.call_of (c_step h3 hq hg hph) ?_
        rintro _ s4 ⟨rfl, qs', h4, m4⟩
        refine ⟨((0, 0, 0, 0, 0, S'.version, 0, 0, true, ()), ()), rfl, ?_⟩
        rw [← hR]
        refine ⟨rfl, BL b la ja, ⟨t', la, ja, ps', qs', rfl, h4⟩, ⟨?_, fun y hy => .inl hy⟩⟩
        exact (((m1.trans m2).mono (by simp)).trans (m3.mono (by intro y hy; simp at hy; subst hy; simp [BL]))).trans (m4.mono hgB)
    · have e : (mk != 3) = false := e
      rw [if_neg (by simpa using e)] at hR
      refine W.call_of (c_step h1 hq hg hph) ?_
      rintro _ s2 ⟨rfl, qs', h2, m2⟩
      refine ⟨((0, 0, 0, 0, 0, P.S.version, 0, 0, true, ()), ()), rfl, ?_⟩
      rw [← hR]
      exact post_job h2 hg ((m1.mono (by simp)).trans m2) ⟨0, P.S.version, 0, 0, true⟩
abbrev bfn (f b : Nat) : Value := .func (.func f) #[cp b] #[]
theorem c_bDo (h : Brd s b P t la ja ps qs) (hok : PlOk P) (hn : P.J.length ≤ 1000000) (hnl : P.L.length ≤ 1000000) (k : CmdP) (hu : Sl colE s k.u k.c.D.cols) (hul : k.c.D.cols.length ≤ 1048576) (now : Int) :
    DCalls Try.prog 32 #[cp b, .int .i64 now, cmdV k] s (BdPost s b (BL b la ja) (P.do now k.c)) := by
  refine ok_Do b now k.c.kind k.c.y1 k.c.y2 k.c.y3 k.x1 k.x2 k.x3 k.ho k.r.1 k.r.2.1 k.r.2.2 k.w.1 k.w.2.1 k.w.2.2 k.mi k.un k.ts k.c.ver k.c.call k.c.D.kind k.c.D.table k.c.D.name k.c.D.column k.c.D.parent k.c.D.unique k.c.D.type k.c.D.dflt.kind k.c.D.dflt.n k.c.D.dflt.s k.u.1 k.u.2.1 k.u.2.2 k.c.job k.c.phase k.c.mark k.c.why _ s ?_
  unfold vc_Do
  obtain ⟨R, hR⟩ : ∃ R, BdPost s b (BL b la ja) (P.do now k.c) = R := ⟨_, rfl⟩
  rw [hR]
  simp only [RP_nw, RP_ite, RP_ret, RP_mset, RP_look, RP_callV]
  refine (W.br_iff _ _ _ _).2 ⟨fun e => (by cases e), fun _ => ?_⟩
  intro r hr
  have m1 : Fw.Mod [] s (s.upd r (.map #[] 0)) := Mod.new hr
  have i1 : isMap (intKey .i64) (fun v : Value => v) (s.upd r (.map #[] 0)) r [] := isMap.new
  obtain ⟨s1, hs1⟩ : ∃ s1, s.upd r (.map #[] 0) = s1 := ⟨_, rfl⟩
  rw [hs1] at m1 i1 ⊢
  refine mset_of i1 (key := 11) (v := bfn 68 b) fun o i2 => ?_
  have m2 := m1.updLater (o := o) (.inr hr)
  obtain ⟨s2, hs2⟩ : ∃ s2, s1.upd r o = s2 := ⟨_, rfl⟩
  rw [hs2] at m2 i2 ⊢
  refine mset_of i2 (key := 12) (v := bfn 69 b) fun o i3 => ?_
  have m3 := m2.updLater (o := o) (.inr hr)
  obtain ⟨s3, hs3⟩ : ∃ s3, s2.upd r o = s3 := ⟨_, rfl⟩
  rw [hs3] at m3 i3 ⊢
  refine mset_of i3 (key := 13) (v := bfn 70 b) fun o i4 => ?_
  have m4 := m3.updLater (o := o) (.inr hr)
  obtain ⟨s4, hs4⟩ : ∃ s4, s3.upd r o = s4 := ⟨_, rfl⟩
  rw [hs4] at m4 i4 ⊢
  refine mset_of i4 (key := 14) (v := bfn 71 b) fun o i5 => ?_
  have m5 := m4.updLater (o := o) (.inr hr)
  obtain ⟨s5, hs5⟩ : ∃ s5, s4.upd r o = s5 := ⟨_, rfl⟩
  rw [hs5] at m5 i5 ⊢
  refine mset_of i5 (key := 15) (v := bfn 72 b) fun o i6 => ?_
  have m6 := m5.updLater (o := o) (.inr hr)
  obtain ⟨s6, hs6⟩ : ∃ s6, s5.upd r o = s6 := ⟨_, rfl⟩
  rw [hs6] at m6 i6 ⊢
  refine mset_of i6 (key := 16) (v := bfn 73 b) fun o i7 => ?_
  have m7 := m6.updLater (o := o) (.inr hr)
  obtain ⟨s7, hs7⟩ : ∃ s7, s6.upd r o = s7 := ⟨_, rfl⟩
  rw [hs7] at m7 i7 ⊢
  have hf : aset (aset (aset (aset (aset (aset ([] : List (Int × Value)) 11 (bfn 68 b)) 12 (bfn 69 b)) 13 (bfn 70 b)) 14 (bfn 71 b)) 15 (bfn 72 b)) 16 (bfn 73 b) =
    [(11, bfn 68 b), (12, bfn 69 b), (13, bfn 70 b), (14, bfn 71 b), (15, bfn 72 b), (16, bfn 73 b)] := rfl
  rw [hf] at i7
  have h7 := h.mod m7
  have hu7 := hu.mono m7.le
  refine look_of i7 (key := k.c.kind) ?_
  unfold Pl.do at hR
  have hbad : (k.c.kind < 11 ∨ 16 < k.c.kind ∨ now < 0 ∨ 1125899906842624 < now) → R (resV (Rs.bad 1)) s7 := by
    intro e
    rw [if_pos e] at hR
    rw [← hR]; exact post_same h m7 _
  have hpost : ∀ o y s', BdPost s7 b (BL b la ja) o y s' → BdPost s b (BL b la ja) o y s' := by
    rintro o y s' ⟨rfl, L', hb, hs⟩
    refine ⟨rfl, L', hb, (m7.mono (by simp)).trans hs.mod, fun x hx => ?_⟩
    rcases hs.new x hx with h1 | h1
    · exact .inl h1
    · exact .inr (m7.none h1 (by simp))
  have hgo : ∀ (f : Nat) (fn : Func) (o : Rs × Pl), Try.prog.funcs[f]? = some fn → fn.body.isSome = true → (fn.name == "runtime.NumGoroutine") = false → DCalls Try.prog f #[cp b, .int .i64 now, cmdV k] s7 (BdPost s7 b (BL b la ja) o) →
      ¬ (k.c.kind < 11 ∨ 16 < k.c.kind) → (¬ (k.c.kind < 11 ∨ 16 < k.c.kind ∨ now < 0 ∨ 1125899906842624 < now) → BdPost s b (BL b la ja) o = R) →
      W.br (!true) (W.ret R (resV (Rs.bad 1))) (W.br (decide (now < 0)) (W.ret R (resV (Rs.bad 1))) (W.br (decide (now > 1125899906842624)) (W.ret R (resV (Rs.bad 1)))
        (W.callV Try.prog (bfn f b) #[.int .i64 now, cmdV k] (false, [(true, [CT.int .i64, CT.int .i64, CT.int .i64, CT.int .i64, CT.int .i64, CT.int .i64, CT.int .i64, CT.int .i64, CT.bool])]) fun x =>
          W.ret R (.agg #[.int .i64 x.1.1, .int .i64 x.1.2.1, .int .i64 x.1.2.2.1, .int .i64 x.1.2.2.2.1, .int .i64 x.1.2.2.2.2.1, .int .i64 x.1.2.2.2.2.2.1, .int .i64 x.1.2.2.2.2.2.2.1, .int .i64 x.1.2.2.2.2.2.2.2.1, .bool x.1.2.2.2.2.2.2.2.2.1])))) s7 := by
    intro f fn o g1 g2 g3 hd hk ho
    refine (W.br_iff _ _ _ _).2 ⟨fun e => (by cases e), fun _ => ?_⟩
    refine (W.br_iff _ _ _ _).2 ⟨fun e => hbad (.inr (.inr (.inl (of_decide_eq_true e)))), fun e1 => ?_⟩
    refine (W.br_iff _ _ _ _).2 ⟨fun e => hbad (.inr (.inr (.inr (of_decide_eq_true e)))), fun e2 => ?_⟩
    have e1 : ¬ now < 0 := of_decide_eq_false e1
    have e2 : ¬ now > 1125899906842624 := of_decide_eq_false e2
    refine ⟨f, #[cp b], #[], rfl, ⟨fn, g1, g2, g3⟩, ?_⟩
    have ea : #[cp b] ++ #[Value.int .i64 now, cmdV k] ++ #[] = #[cp b, .int .i64 now, cmdV k] := rfl
    rw [ea]
    refine hd.mono ?_
    rintro _ s' ⟨rfl, L', hb, hs⟩
    refine ⟨((o.1.err, 0, 0, 0, 0, o.1.ver, o.1.til, o.1.job, o.1.new, ()), ()), rfl, ?_⟩
    rw [← ho (by omega)]
    exact hpost _ _ _ ⟨rfl, L', hb, hs⟩
  by_cases e : k.c.kind = 11
  · have el : List.lookup k.c.kind [(11, bfn 68 b), (12, bfn 69 b), (13, bfn 70 b), (14, bfn 71 b), (15, bfn 72 b), ((16 : Int), bfn 73 b)] = some (bfn 68 b) := by rw [e]; (first | done | rfl)
    rw [el]
    refine ⟨(bfn 68 b, ()), rfl, ?_⟩
    exact hgo 68 Try.f68 _ Try.func68 (by kernel_rfl) (by kernel_rfl) (c_grant h7 hn hnl k now) (by omega) fun hc => by rw [if_neg hc] at hR; rw [if_pos e] at hR; exact hR
  by_cases e : k.c.kind = 12
  · have el : List.lookup k.c.kind [(11, bfn 68 b), (12, bfn 69 b), (13, bfn 70 b), (14, bfn 71 b), (15, bfn 72 b), ((16 : Int), bfn 73 b)] = some (bfn 69 b) := by rw [e]; (first | done | rfl)
    rw [el]
    refine ⟨(bfn 69 b, ()), rfl, ?_⟩
    exact hgo 69 Try.f69 _ Try.func69 (by kernel_rfl) (by kernel_rfl) (c_submit h7 hn k hu7 hul now) (by omega) fun hc => by rw [if_neg hc] at hR; rw [if_neg (by omega)] at hR; rw [if_pos e] at hR; exact hR
  by_cases e : k.c.kind = 13
  · have el : List.lookup k.c.kind [(11, bfn 68 b), (12, bfn 69 b), (13, bfn 70 b), (14, bfn 71 b), (15, bfn 72 b), ((16 : Int), bfn 73 b)] = some (bfn 70 b) := by rw [e]; (first | done | rfl)
    rw [el]
    refine ⟨(bfn 70 b, ()), rfl, ?_⟩
    exact hgo 70 Try.f70 _ Try.func70 (by kernel_rfl) (by kernel_rfl) (c_drain h7 hok hn k now) (by omega) fun hc => by rw [if_neg hc] at hR; rw [if_neg (by omega)] at hR; rw [if_neg (by omega)] at hR; rw [if_pos e] at hR; exact hR
  by_cases e : k.c.kind = 14
  · have el : List.lookup k.c.kind [(11, bfn 68 b), (12, bfn 69 b), (13, bfn 70 b), (14, bfn 71 b), (15, bfn 72 b), ((16 : Int), bfn 73 b)] = some (bfn 71 b) := by rw [e]; (first | done | rfl)
    rw [el]
    refine ⟨(bfn 71 b, ()), rfl, ?_⟩
    exact hgo 71 Try.f71 _ Try.func71 (by kernel_rfl) (by kernel_rfl) (c_bnext h7 hok hn hnl k now) (by omega) fun hc => by rw [if_neg hc] at hR; rw [if_neg (by omega)] at hR; rw [if_neg (by omega)] at hR; rw [if_neg (by omega)] at hR; rw [if_pos e] at hR; exact hR
  by_cases e : k.c.kind = 15
  · have el : List.lookup k.c.kind [(11, bfn 68 b), (12, bfn 69 b), (13, bfn 70 b), (14, bfn 71 b), (15, bfn 72 b), ((16 : Int), bfn 73 b)] = some (bfn 72 b) := by rw [e]; (first | done | rfl)
    rw [el]
    refine ⟨(bfn 72 b, ()), rfl, ?_⟩
    exact hgo 72 Try.f72 _ Try.func72 (by kernel_rfl) (by kernel_rfl) (c_bmark h7 hok hn k now) (by omega) fun hc => by rw [if_neg hc] at hR; rw [if_neg (by omega)] at hR; rw [if_neg (by omega)] at hR; rw [if_neg (by omega)] at hR; rw [if_neg (by omega)] at hR; rw [if_pos e] at hR; exact hR
  by_cases e : k.c.kind = 16
  · have el : List.lookup k.c.kind [(11, bfn 68 b), (12, bfn 69 b), (13, bfn 70 b), (14, bfn 71 b), (15, bfn 72 b), ((16 : Int), bfn 73 b)] = some (bfn 73 b) := by rw [e]; (first | done | rfl)
    rw [el]
    refine ⟨(bfn 73 b, ()), rfl, ?_⟩
    exact hgo 73 Try.f73 _ Try.func73 (by kernel_rfl) (by kernel_rfl) (c_bfail h7 hok hn k now) (by omega) fun hc => by rw [if_neg hc] at hR; rw [if_neg (by omega)] at hR; rw [if_neg (by omega)] at hR; rw [if_neg (by omega)] at hR; rw [if_neg (by omega)] at hR; rw [if_neg (by omega)] at hR; exact hR
  have el : List.lookup k.c.kind [(11, bfn 68 b), (12, bfn 69 b), (13, bfn 70 b), (14, bfn 71 b), (15, bfn 72 b), ((16 : Int), bfn 73 b)] = none := by
    rw [List.lookup_eq_none_iff]
    intro p hp
    simp at hp
    rcases hp with rfl | rfl | rfl | rfl | rfl | rfl <;> simp [*]
  rw [el]
  refine ⟨(.nilFunc, ()), rfl, ?_⟩
  exact (W.br_iff _ _ _ _).2 ⟨fun _ => hbad (by omega), fun e => (by cases e)⟩
end
end Go.Proofs.Ythepfbcgpbkbdaa
end
section
set_option linter.unusedVariables false
set_option maxHeartbeats 1000000
namespace Go.Proofs.Ythepfbcgpbkbdaa
open Fw Fw.W Go
/-- slices.Clone[[]lintel/api.Lease,lintel/api.Lease] -/
def vc_CloneL {W : Type} (π : Prims W) (a : Option Addr) (an ac : Nat) : W :=
  π.ite (a.isNone) (
    π.ret (Go.Value.slice (none) ((0 : Nat)) ((0 : Nat)))
  ) (
    π.nw (Go.Obj.cells #[] (89 : Nat) ((0 : Nat), (0 : Nat))) fun r0 =>
    π.app (89 : Nat) (3 : Nat) (24 : Nat) [(Go.Value.int (IntKind.i64) ((0 : Int))), (Go.Value.int (IntKind.i64) ((0 : Int))), (Go.Value.int (IntKind.i64) ((0 : Int)))] (some (Addr.mk r0 (0 : Nat) none)) ((0 : Nat)) ((0 : Nat)) (Src.sl a an) fun a1 n2 c3 =>
    π.ret (Go.Value.slice (a1) (n2) (c3))
  )
def ann_CloneL : Ann := { draws := [], join := [], loop := [] }
def la_CloneL : LA := { ptr := [], ty := [] }
set_option maxRecDepth 100000 in
theorem eq_CloneL {W : Type} (π : Prims W) (a : Option Addr) (an ac : Nat) : bodyL π Try.prog la_CloneL ann_CloneL (mkFr (maskA [] [.v (.slice a an ac)] 0) 8) Try.f114 (bodyOf Try.f114) (mkFr (List.map some [.v (.slice a an ac)]) 8) = vc_CloneL π a an ac := by kernel_rfl
theorem ok_CloneL (a : Option Addr) (an ac : Nat) (R : Value → PH → Prop) (s : PH) (h : vc_CloneL (RP Try.prog R) a an ac s) : DCalls Try.prog 114 (List.map AV.val [.v (.slice a an ac)]).toArray s R :=
  calls_vcL (c := bodyOf Try.f114) (ann := ann_CloneL) la_CloneL (by kernel_rfl) Try.func114 rfl (by kernel_rfl) [.v (.slice a an ac)] [] (by rw [Try.ntmps114]; exact Nat.le_of_ble_eq_true rfl) (by kernel_rfl) (by rw [show Try.f114.ntmps = 8 from Try.ntmps114, eq_CloneL]; exact h)
/-- slices.Clone[[]lintel/api.Job,lintel/api.Job] -/
def vc_CloneJ {W : Type} (π : Prims W) (a : Option Addr) (an ac : Nat) : W :=
  π.ite (a.isNone) (
    π.ret (Go.Value.slice (none) ((0 : Nat)) ((0 : Nat)))
  ) (
    π.nw (Go.Obj.cells #[] (76 : Nat) ((0 : Nat), (0 : Nat))) fun r0 =>
    π.app (76 : Nat) (22 : Nat) (232 : Nat) [(Go.Value.int (IntKind.i64) ((0 : Int))), (Go.Value.int (IntKind.i64) ((0 : Int))), (Go.Value.int (IntKind.i64) ((0 : Int))), (Go.Value.int (IntKind.i64) ((0 : Int))), (Go.Value.int (IntKind.i64) ((0 : Int))), (Go.Value.int (IntKind.i64) ((0 : Int))), (Go.Value.string (ByteArray.mk #[])), (Go.Value.string (ByteArray.mk #[])), (Go.Value.string (ByteArray.mk #[])), (Go.Value.string (ByteArray.mk #[])), (Go.Value.bool (false)), (Go.Value.int (IntKind.i64) ((0 : Int))), (Go.Value.int (IntKind.i64) ((0 : Int))), (Go.Value.int (IntKind.i64) ((0 : Int))), (Go.Value.string (ByteArray.mk #[])), (Go.Value.slice (none) ((0 : Nat)) ((0 : Nat))), (Go.Value.int (IntKind.i64) ((0 : Int))), (Go.Value.bool (false)), (Go.Value.bool (false)), (Go.Value.string (ByteArray.mk #[])), (Go.Value.int (IntKind.i64) ((0 : Int))), (Go.Value.int (IntKind.i64) ((0 : Int)))] (some (Addr.mk r0 (0 : Nat) none)) ((0 : Nat)) ((0 : Nat)) (Src.sl a an) fun a1 n2 c3 =>
    π.ret (Go.Value.slice (a1) (n2) (c3))
  )
def ann_CloneJ : Ann := { draws := [], join := [], loop := [] }
def la_CloneJ : LA := { ptr := [], ty := [] }
set_option maxRecDepth 100000 in
theorem eq_CloneJ {W : Type} (π : Prims W) (a : Option Addr) (an ac : Nat) : bodyL π Try.prog la_CloneJ ann_CloneJ (mkFr (maskA [] [.v (.slice a an ac)] 0) 8) Try.f115 (bodyOf Try.f115) (mkFr (List.map some [.v (.slice a an ac)]) 8) = vc_CloneJ π a an ac := by kernel_rfl
theorem ok_CloneJ (a : Option Addr) (an ac : Nat) (R : Value → PH → Prop) (s : PH) (h : vc_CloneJ (RP Try.prog R) a an ac s) : DCalls Try.prog 115 (List.map AV.val [.v (.slice a an ac)]).toArray s R :=
  calls_vcL (c := bodyOf Try.f115) (ann := ann_CloneJ) la_CloneJ (by kernel_rfl) Try.func115 rfl (by kernel_rfl) [.v (.slice a an ac)] [] (by rw [Try.ntmps115]; exact Nat.le_of_ble_eq_true rfl) (by kernel_rfl) (by rw [show Try.f115.ntmps = 8 from Try.ntmps115, eq_CloneJ]; exact h)
/-- lintel/lintelref16.Force -/
def vc_rForce {W : Type} (π : Prims W) (l1 l2 l3 : Int) (at_ : Int) : W :=
  π.ret (Go.Value.bool (decide (l3 ≥ IntKind.i64.wrap (at_ - (3 : Int)))))
def ann_rForce : Ann := { draws := [], join := [], loop := [] }
def la_rForce : LA := { ptr := [(2, 2, 0), (5, 2, 2)], ty := [(2, 89)] }
set_option maxRecDepth 100000 in
theorem eq_rForce {W : Type} (π : Prims W) (l1 l2 l3 : Int) (at_ : Int) : bodyL π Try.prog la_rForce ann_rForce (mkFr (maskA [] [.v (.agg #[.int .i64 l1, .int .i64 l2, .int .i64 l3]), .v (.int .i64 at_)] 0) 10) Try.f35 (bodyOf Try.f35) (mkFr (List.map some [.v (.agg #[.int .i64 l1, .int .i64 l2, .int .i64 l3]), .v (.int .i64 at_)]) 10) = vc_rForce π l1 l2 l3 at_ := by kernel_rfl
theorem ok_rForce (l1 l2 l3 : Int) (at_ : Int) (R : Value → PH → Prop) (s : PH) (h : vc_rForce (RP Try.prog R) l1 l2 l3 at_ s) : DCalls Try.prog 35 (List.map AV.val [.v (.agg #[.int .i64 l1, .int .i64 l2, .int .i64 l3]), .v (.int .i64 at_)]).toArray s R :=
  calls_vcL (c := bodyOf Try.f35) (ann := ann_rForce) la_rForce (by kernel_rfl) Try.func35 rfl (by kernel_rfl) [.v (.agg #[.int .i64 l1, .int .i64 l2, .int .i64 l3]), .v (.int .i64 at_)] [] (by rw [Try.ntmps35]; exact Nat.le_of_ble_eq_true rfl) (by kernel_rfl) (by rw [show Try.f35.ntmps = 10 from Try.ntmps35, eq_rForce]; exact h)
/-- lintel/lintellaw16.own -/
def vc_own {W : Type} (π : Prims W) (ck y1 y2 y3 x1 x2 x3 ho : Int) (ra : Option Addr) (rn rc : Nat) (wa : Option Addr) (wn wc : Nat) (mi un ts ve ca : Int) (dk : Int) (dt dn dc dp : ByteArray) (du : Bool) (dy vk vn : Int) (vs : ByteArray) (da : Option Addr) (dan dac : Nat) (jo ph : Int) (mk : ByteArray) (wh : Int) : W :=
  π.nw (Go.Obj.cells #[] (44 : Nat) ((0 : Nat), (0 : Nat))) fun r0 =>
  π.app (44 : Nat) (7 : Nat) (72 : Nat) [(Go.Value.int (IntKind.i64) ((0 : Int))), (Go.Value.string (ByteArray.mk #[])), (Go.Value.int (IntKind.i64) ((0 : Int))), (Go.Value.int (IntKind.i64) ((0 : Int))), (Go.Value.int (IntKind.i64) ((0 : Int))), (Go.Value.int (IntKind.i64) ((0 : Int))), (Go.Value.string (ByteArray.mk #[]))] (some (Addr.mk r0 (0 : Nat) none)) ((0 : Nat)) ((0 : Nat)) (Src.sl da dan) fun a1 n2 c3 =>
  π.ret (Go.Value.agg #[(Go.Value.int (IntKind.i64) (ck)), (Go.Value.int (IntKind.i64) (y1)), (Go.Value.int (IntKind.i64) (y2)), (Go.Value.int (IntKind.i64) (y3)), (Go.Value.int (IntKind.i64) (x1)), (Go.Value.int (IntKind.i64) (x2)), (Go.Value.int (IntKind.i64) (x3)), (Go.Value.int (IntKind.i64) (ho)), (Go.Value.slice (ra) (rn) (rc)), (Go.Value.slice (wa) (wn) (wc)), (Go.Value.int (IntKind.i64) (mi)), (Go.Value.int (IntKind.i64) (un)), (Go.Value.int (IntKind.i64) (ts)), (Go.Value.int (IntKind.i64) (ve)), (Go.Value.int (IntKind.i64) (ca)), (Go.Value.int (IntKind.i64) (dk)), (Go.Value.string (dt)), (Go.Value.string (dn)), (Go.Value.string (dc)), (Go.Value.string (dp)), (Go.Value.bool (du)), (Go.Value.int (IntKind.i64) (dy)), (Go.Value.int (IntKind.i64) (vk)), (Go.Value.int (IntKind.i64) (vn)), (Go.Value.string (vs)), (Go.Value.slice (a1) (n2) (c3)), (Go.Value.int (IntKind.i64) (jo)), (Go.Value.int (IntKind.i64) (ph)), (Go.Value.string (mk)), (Go.Value.int (IntKind.i64) (wh))])
def ann_own : Ann := { draws := [], join := [], loop := [] }
def la_own : LA := { ptr := [(1, 1, 0), (2, 2, 0), (4, 1, 15), (5, 1, 25), (8, 1, 15), (9, 1, 25)], ty := [(1, 72), (2, 72)] }
set_option maxRecDepth 100000 in
theorem eq_own {W : Type} (π : Prims W) (ck y1 y2 y3 x1 x2 x3 ho : Int) (ra : Option Addr) (rn rc : Nat) (wa : Option Addr) (wn wc : Nat) (mi un ts ve ca : Int) (dk : Int) (dt dn dc dp : ByteArray) (du : Bool) (dy vk vn : Int) (vs : ByteArray) (da : Option Addr) (dan dac : Nat) (jo ph : Int) (mk : ByteArray) (wh : Int) : bodyL π Try.prog la_own ann_own (mkFr (maskA [] [.v (.agg #[.int .i64 ck, .int .i64 y1, .int .i64 y2, .int .i64 y3, .int .i64 x1, .int .i64 x2, .int .i64 x3, .int .i64 ho, .slice ra rn rc, .slice wa wn wc, .int .i64 mi, .int .i64 un, .int .i64 ts, .int .i64 ve, .int .i64 ca, .int .i64 dk, .string dt, .string dn, .string dc, .string dp, .bool du, .int .i64 dy, .int .i64 vk, .int .i64 vn, .string vs, .slice da dan dac, .int .i64 jo, .int .i64 ph, .string mk, .int .i64 wh])] 0) 11) Try.f33 (bodyOf Try.f33) (mkFr (List.map some [.v (.agg #[.int .i64 ck, .int .i64 y1, .int .i64 y2, .int .i64 y3, .int .i64 x1, .int .i64 x2, .int .i64 x3, .int .i64 ho, .slice ra rn rc, .slice wa wn wc, .int .i64 mi, .int .i64 un, .int .i64 ts, .int .i64 ve, .int .i64 ca, .int .i64 dk, .string dt, .string dn, .string dc, .string dp, .bool du, .int .i64 dy, .int .i64 vk, .int .i64 vn, .string vs, .slice da dan dac, .int .i64 jo, .int .i64 ph, .string mk, .int .i64 wh])]) 11) = vc_own π ck y1 y2 y3 x1 x2 x3 ho ra rn rc wa wn wc mi un ts ve ca dk dt dn dc dp du dy vk vn vs da dan dac jo ph mk wh := by kernel_rfl
theorem ok_own (ck y1 y2 y3 x1 x2 x3 ho : Int) (ra : Option Addr) (rn rc : Nat) (wa : Option Addr) (wn wc : Nat) (mi un ts ve ca : Int) (dk : Int) (dt dn dc dp : ByteArray) (du : Bool) (dy vk vn : Int) (vs : ByteArray) (da : Option Addr) (dan dac : Nat) (jo ph : Int) (mk : ByteArray) (wh : Int) (R : Value → PH → Prop) (s : PH) (h : vc_own (RP Try.prog R) ck y1 y2 y3 x1 x2 x3 ho ra rn rc wa wn wc mi un ts ve ca dk dt dn dc dp du dy vk vn vs da dan dac jo ph mk wh s) : DCalls Try.prog 33 (List.map AV.val [.v (.agg #[.int .i64 ck, .int .i64 y1, .int .i64 y2, .int .i64 y3, .int .i64 x1, .int .i64 x2, .int .i64 x3, .int .i64 ho, .slice ra rn rc, .slice wa wn wc, .int .i64 mi, .int .i64 un, .int .i64 ts, .int .i64 ve, .int .i64 ca, .int .i64 dk, .string dt, .string dn, .string dc, .string dp, .bool du, .int .i64 dy, .int .i64 vk, .int .i64 vn, .string vs, .slice da dan dac, .int .i64 jo, .int .i64 ph, .string mk, .int .i64 wh])]).toArray s R :=
  calls_vcL (c := bodyOf Try.f33) (ann := ann_own) la_own (by kernel_rfl) Try.func33 rfl (by kernel_rfl) [.v (.agg #[.int .i64 ck, .int .i64 y1, .int .i64 y2, .int .i64 y3, .int .i64 x1, .int .i64 x2, .int .i64 x3, .int .i64 ho, .slice ra rn rc, .slice wa wn wc, .int .i64 mi, .int .i64 un, .int .i64 ts, .int .i64 ve, .int .i64 ca, .int .i64 dk, .string dt, .string dn, .string dc, .string dp, .bool du, .int .i64 dy, .int .i64 vk, .int .i64 vn, .string vs, .slice da dan dac, .int .i64 jo, .int .i64 ph, .string mk, .int .i64 wh])] [] (by rw [Try.ntmps33]; exact Nat.le_of_ble_eq_true rfl) (by kernel_rfl) (by rw [show Try.f33.ntmps = 11 from Try.ntmps33, eq_own]; exact h)
/-- lintel/lintellaw16.great -/
def vc_bgreat {W : Type} (π : Prims W) (a : Option Addr) (an ac : Nat) : W :=
  π.loop [(false, [.int .i64]), (false, [.slice]), (false, [.int .i64]), (false, [.int .i64])] (((0 : Int), ()), ((a, an, ac), ()), ((↑an : Int), ()), ((0 : Int), ()), ()) fun (((x1 : Int), _), (((a2 : Option Addr), (n3 : Nat), (c4 : Nat)), _), ((x5 : Int), _), ((x6 : Int), _), _) again0 =>
    π.ite (decide (x6 < x5)) (
      π.guard ((0 : Int) ≤ x6 ∧ x6 < (↑n3 : Int)) <|
      π.unSome (a2) fun p7 =>
      π.ld [.int .i64, .int .i64, .int .i64, .int .i64, .int .i64, .int .i64, .int .i64, .int .i64, .int .i64, .slice, .slice, .int .i64, .int .i64, .int .i64, .int .i64, .int .i64, .int .i64, .str, .str, .str, .str, .bool, .int .i64, .int .i64, .int .i64, .str, .slice, .int .i64, .int .i64, .str, .int .i64] (p7.add (x6.toNat * (31 : Nat))) fun ((x8 : Int), (x9 : Int), (x10 : Int), (x11 : Int), (x12 : Int), (x13 : Int), (x14 : Int), (x15 : Int), (x16 : Int), ((a17 : Option Addr), (n18 : Nat), (c19 : Nat)), ((a20 : Option Addr), (n21 : Nat), (c22 : Nat)), (x23 : Int), (x24 : Int), (x25 : Int), (x26 : Int), (x27 : Int), (x28 : Int), (t29 : ByteArray), (t30 : ByteArray), (t31 : ByteArray), (t32 : ByteArray), (b33 : Bool), (x34 : Int), (x35 : Int), (x36 : Int), (t37 : ByteArray), ((a38 : Option Addr), (n39 : Nat), (c40 : Nat)), (x41 : Int), (x42 : Int), (t43 : ByteArray), (x44 : Int), _) =>
      π.ite (decide (IntKind.i64.wrap (x1 + IntKind.i64.wrap ((1 : Int) + (↑n39 : Int))) > (1000 : Int))) (
        π.ret (Go.Value.bool (true))
      ) (
        again0 ((IntKind.i64.wrap (x1 + IntKind.i64.wrap ((1 : Int) + (↑n39 : Int))), ()), ((a2, n3, c4), ()), (x5, ()), (IntKind.i64.wrap (x6 + (1 : Int)), ()), ())
      )
    ) (
      π.ret (Go.Value.bool (decide ((↑an : Int) > (150 : Int))))
    )
def ann_bgreat : Ann := { draws := [], join := [], loop := [(3, [(3, 3), (6, 63), (7, 3), (8, 3)])] }
def la_bgreat : LA := { ptr := [(5, 5, 0), (13, 5, 1), (14, 5, 16), (15, 5, 26)], ty := [(5, 74)] }
set_option maxRecDepth 100000 in
theorem eq_bgreat {W : Type} (π : Prims W) (a : Option Addr) (an ac : Nat) : bodyL π Try.prog la_bgreat ann_bgreat (mkFr (maskA [] [.v (.slice a an ac)] 0) 26) Try.f29 (bodyOf Try.f29) (mkFr (List.map some [.v (.slice a an ac)]) 26) = vc_bgreat π a an ac := by kernel_rfl
theorem ok_bgreat (a : Option Addr) (an ac : Nat) (R : Value → PH → Prop) (s : PH) (h : vc_bgreat (RP Try.prog R) a an ac s) : DCalls Try.prog 29 (List.map AV.val [.v (.slice a an ac)]).toArray s R :=
  calls_vcL (c := bodyOf Try.f29) (ann := ann_bgreat) la_bgreat (by kernel_rfl) Try.func29 rfl (by kernel_rfl) [.v (.slice a an ac)] [] (by rw [Try.ntmps29]; exact Nat.le_of_ble_eq_true rfl) (by kernel_rfl) (by rw [show Try.f29.ntmps = 26 from Try.ntmps29, eq_bgreat]; exact h)
/-- lintel/lintellaw16.awake -/
def vc_bawake {W : Type} (π : Prims W) : W :=
  π.call (30 : Nat) #[] (false, [(false, [.ptr])]) fun ((p0, _), _) =>
  π.call (32 : Nat) #[(Go.Value.pointer (p0)), (Go.Value.int (IntKind.i64) ((5 : Int))), (Go.Value.agg #[(Go.Value.int (IntKind.i64) ((11 : Int))), (Go.Value.int (IntKind.i64) ((2 : Int))), (Go.Value.int (IntKind.i64) ((0 : Int))), (Go.Value.int (IntKind.i64) ((0 : Int))), (Go.Value.int (IntKind.i64) ((0 : Int))), (Go.Value.int (IntKind.i64) ((0 : Int))), (Go.Value.int (IntKind.i64) ((0 : Int))), (Go.Value.int (IntKind.i64) ((0 : Int))), (Go.Value.slice (none) ((0 : Nat)) ((0 : Nat))), (Go.Value.slice (none) ((0 : Nat)) ((0 : Nat))), (Go.Value.int (IntKind.i64) ((0 : Int))), (Go.Value.int (IntKind.i64) ((0 : Int))), (Go.Value.int (IntKind.i64) ((0 : Int))), (Go.Value.int (IntKind.i64) ((0 : Int))), (Go.Value.int (IntKind.i64) ((0 : Int))), (Go.Value.int (IntKind.i64) ((0 : Int))), (Go.Value.string (ByteArray.mk #[])), (Go.Value.string (ByteArray.mk #[])), (Go.Value.string (ByteArray.mk #[])), (Go.Value.string (ByteArray.mk #[])), (Go.Value.bool (false)), (Go.Value.int (IntKind.i64) ((0 : Int))), (Go.Value.int (IntKind.i64) ((0 : Int))), (Go.Value.int (IntKind.i64) ((0 : Int))), (Go.Value.string (ByteArray.mk #[])), (Go.Value.slice (none) ((0 : Nat)) ((0 : Nat))), (Go.Value.int (IntKind.i64) ((0 : Int))), (Go.Value.int (IntKind.i64) ((0 : Int))), (Go.Value.string (ByteArray.mk #[])), (Go.Value.int (IntKind.i64) ((0 : Int)))])] (false, [(true, [.int .i64, .int .i64, .int .i64, .int .i64, .int .i64, .int .i64, .int .i64, .int .i64, .bool])]) fun (((x1 : Int), (x2 : Int), (x3 : Int), (x4 : Int), (x5 : Int), (x6 : Int), (x7 : Int), (x8 : Int), (b9 : Bool), _), _) =>
  π.call (37 : Nat) #[] (false, [(true, [.int .i64, .str, .str, .str, .str, .bool, .int .i64, .int .i64, .int .i64, .str, .slice])]) fun (((x10 : Int), (t11 : ByteArray), (t12 : ByteArray), (t13 : ByteArray), (t14 : ByteArray), (b15 : Bool), (x16 : Int), (x17 : Int), (x18 : Int), (t19 : ByteArray), ((a20 : Option Addr), (n21 : Nat), (c22 : Nat)), _), _) =>
  π.call (32 : Nat) #[(Go.Value.pointer (p0)), (Go.Value.int (IntKind.i64) ((5 : Int))), (Go.Value.agg #[(Go.Value.int (IntKind.i64) ((12 : Int))), (Go.Value.int (IntKind.i64) ((0 : Int))), (Go.Value.int (IntKind.i64) ((0 : Int))), (Go.Value.int (IntKind.i64) ((1 : Int))), (Go.Value.int (IntKind.i64) ((0 : Int))), (Go.Value.int (IntKind.i64) ((0 : Int))), (Go.Value.int (IntKind.i64) ((0 : Int))), (Go.Value.int (IntKind.i64) ((0 : Int))), (Go.Value.slice (none) ((0 : Nat)) ((0 : Nat))), (Go.Value.slice (none) ((0 : Nat)) ((0 : Nat))), (Go.Value.int (IntKind.i64) ((0 : Int))), (Go.Value.int (IntKind.i64) ((0 : Int))), (Go.Value.int (IntKind.i64) ((0 : Int))), (Go.Value.int (IntKind.i64) ((0 : Int))), (Go.Value.int (IntKind.i64) ((0 : Int))), (Go.Value.int (IntKind.i64) (x10)), (Go.Value.string (t11)), (Go.Value.string (t12)), (Go.Value.string (t13)), (Go.Value.string (t14)), (Go.Value.bool (b15)), (Go.Value.int (IntKind.i64) (x16)), (Go.Value.int (IntKind.i64) (x17)), (Go.Value.int (IntKind.i64) (x18)), (Go.Value.string (t19)), (Go.Value.slice (a20) (n21) (c22)), (Go.Value.int (IntKind.i64) ((0 : Int))), (Go.Value.int (IntKind.i64) ((0 : Int))), (Go.Value.string (ByteArray.mk #[])), (Go.Value.int (IntKind.i64) ((0 : Int)))])] (false, [(true, [.int .i64, .int .i64, .int .i64, .int .i64, .int .i64, .int .i64, .int .i64, .int .i64, .bool])]) fun (((x23 : Int), (x24 : Int), (x25 : Int), (x26 : Int), (x27 : Int), (x28 : Int), (x29 : Int), (x30 : Int), (b31 : Bool), _), _) =>
  π.call (32 : Nat) #[(Go.Value.pointer (p0)), (Go.Value.int (IntKind.i64) ((6 : Int))), (Go.Value.agg #[(Go.Value.int (IntKind.i64) ((14 : Int))), (Go.Value.int (IntKind.i64) ((0 : Int))), (Go.Value.int (IntKind.i64) ((0 : Int))), (Go.Value.int (IntKind.i64) ((0 : Int))), (Go.Value.int (IntKind.i64) ((0 : Int))), (Go.Value.int (IntKind.i64) ((0 : Int))), (Go.Value.int (IntKind.i64) ((0 : Int))), (Go.Value.int (IntKind.i64) ((0 : Int))), (Go.Value.slice (none) ((0 : Nat)) ((0 : Nat))), (Go.Value.slice (none) ((0 : Nat)) ((0 : Nat))), (Go.Value.int (IntKind.i64) ((0 : Int))), (Go.Value.int (IntKind.i64) ((0 : Int))), (Go.Value.int (IntKind.i64) ((0 : Int))), (Go.Value.int (IntKind.i64) ((0 : Int))), (Go.Value.int (IntKind.i64) ((0 : Int))), (Go.Value.int (IntKind.i64) ((0 : Int))), (Go.Value.string (ByteArray.mk #[])), (Go.Value.string (ByteArray.mk #[])), (Go.Value.string (ByteArray.mk #[])), (Go.Value.string (ByteArray.mk #[])), (Go.Value.bool (false)), (Go.Value.int (IntKind.i64) ((0 : Int))), (Go.Value.int (IntKind.i64) ((0 : Int))), (Go.Value.int (IntKind.i64) ((0 : Int))), (Go.Value.string (ByteArray.mk #[])), (Go.Value.slice (none) ((0 : Nat)) ((0 : Nat))), (Go.Value.int (IntKind.i64) ((1 : Int))), (Go.Value.int (IntKind.i64) ((0 : Int))), (Go.Value.string (ByteArray.mk #[])), (Go.Value.int (IntKind.i64) ((0 : Int)))])] (false, [(true, [.int .i64, .int .i64, .int .i64, .int .i64, .int .i64, .int .i64, .int .i64, .int .i64, .bool])]) fun (((x32 : Int), (x33 : Int), (x34 : Int), (x35 : Int), (x36 : Int), (x37 : Int), (x38 : Int), (x39 : Int), (b40 : Bool), _), _) =>
  π.call (32 : Nat) #[(Go.Value.pointer (p0)), (Go.Value.int (IntKind.i64) ((6 : Int))), (Go.Value.agg #[(Go.Value.int (IntKind.i64) ((12 : Int))), (Go.Value.int (IntKind.i64) ((0 : Int))), (Go.Value.int (IntKind.i64) ((0 : Int))), (Go.Value.int (IntKind.i64) ((2 : Int))), (Go.Value.int (IntKind.i64) ((0 : Int))), (Go.Value.int (IntKind.i64) ((0 : Int))), (Go.Value.int (IntKind.i64) ((0 : Int))), (Go.Value.int (IntKind.i64) ((0 : Int))), (Go.Value.slice (none) ((0 : Nat)) ((0 : Nat))), (Go.Value.slice (none) ((0 : Nat)) ((0 : Nat))), (Go.Value.int (IntKind.i64) ((0 : Int))), (Go.Value.int (IntKind.i64) ((0 : Int))), (Go.Value.int (IntKind.i64) ((0 : Int))), (Go.Value.int (IntKind.i64) ((0 : Int))), (Go.Value.int (IntKind.i64) ((0 : Int))), (Go.Value.int (IntKind.i64) ((2 : Int))), (Go.Value.string (ByteArray.mk #[(116 : UInt8)])), (Go.Value.string (ByteArray.mk #[(105 : UInt8)])), (Go.Value.string (ByteArray.mk #[(98 : UInt8)])), (Go.Value.string (ByteArray.mk #[])), (Go.Value.bool (false)), (Go.Value.int (IntKind.i64) ((0 : Int))), (Go.Value.int (IntKind.i64) ((0 : Int))), (Go.Value.int (IntKind.i64) ((0 : Int))), (Go.Value.string (ByteArray.mk #[])), (Go.Value.slice (none) ((0 : Nat)) ((0 : Nat))), (Go.Value.int (IntKind.i64) ((0 : Int))), (Go.Value.int (IntKind.i64) ((0 : Int))), (Go.Value.string (ByteArray.mk #[])), (Go.Value.int (IntKind.i64) ((0 : Int)))])] (false, [(true, [.int .i64, .int .i64, .int .i64, .int .i64, .int .i64, .int .i64, .int .i64, .int .i64, .bool])]) fun (((x41 : Int), (x42 : Int), (x43 : Int), (x44 : Int), (x45 : Int), (x46 : Int), (x47 : Int), (x48 : Int), (b49 : Bool), _), _) =>
  π.call (32 : Nat) #[(Go.Value.pointer (p0)), (Go.Value.int (IntKind.i64) ((7 : Int))), (Go.Value.agg #[(Go.Value.int (IntKind.i64) ((14 : Int))), (Go.Value.int (IntKind.i64) ((0 : Int))), (Go.Value.int (IntKind.i64) ((0 : Int))), (Go.Value.int (IntKind.i64) ((0 : Int))), (Go.Value.int (IntKind.i64) ((0 : Int))), (Go.Value.int (IntKind.i64) ((0 : Int))), (Go.Value.int (IntKind.i64) ((0 : Int))), (Go.Value.int (IntKind.i64) ((0 : Int))), (Go.Value.slice (none) ((0 : Nat)) ((0 : Nat))), (Go.Value.slice (none) ((0 : Nat)) ((0 : Nat))), (Go.Value.int (IntKind.i64) ((0 : Int))), (Go.Value.int (IntKind.i64) ((0 : Int))), (Go.Value.int (IntKind.i64) ((0 : Int))), (Go.Value.int (IntKind.i64) ((0 : Int))), (Go.Value.int (IntKind.i64) ((0 : Int))), (Go.Value.int (IntKind.i64) ((0 : Int))), (Go.Value.string (ByteArray.mk #[])), (Go.Value.string (ByteArray.mk #[])), (Go.Value.string (ByteArray.mk #[])), (Go.Value.string (ByteArray.mk #[])), (Go.Value.bool (false)), (Go.Value.int (IntKind.i64) ((0 : Int))), (Go.Value.int (IntKind.i64) ((0 : Int))), (Go.Value.int (IntKind.i64) ((0 : Int))), (Go.Value.string (ByteArray.mk #[])), (Go.Value.slice (none) ((0 : Nat)) ((0 : Nat))), (Go.Value.int (IntKind.i64) ((2 : Int))), (Go.Value.int (IntKind.i64) ((0 : Int))), (Go.Value.string (ByteArray.mk #[])), (Go.Value.int (IntKind.i64) ((0 : Int)))])] (false, [(true, [.int .i64, .int .i64, .int .i64, .int .i64, .int .i64, .int .i64, .int .i64, .int .i64, .bool])]) fun (((x50 : Int), (x51 : Int), (x52 : Int), (x53 : Int), (x54 : Int), (x55 : Int), (x56 : Int), (x57 : Int), (b58 : Bool), _), _) =>
  π.call (32 : Nat) #[(Go.Value.pointer (p0)), (Go.Value.int (IntKind.i64) ((28 : Int))), (Go.Value.agg #[(Go.Value.int (IntKind.i64) ((14 : Int))), (Go.Value.int (IntKind.i64) ((0 : Int))), (Go.Value.int (IntKind.i64) ((0 : Int))), (Go.Value.int (IntKind.i64) ((0 : Int))), (Go.Value.int (IntKind.i64) ((0 : Int))), (Go.Value.int (IntKind.i64) ((0 : Int))), (Go.Value.int (IntKind.i64) ((0 : Int))), (Go.Value.int (IntKind.i64) ((0 : Int))), (Go.Value.slice (none) ((0 : Nat)) ((0 : Nat))), (Go.Value.slice (none) ((0 : Nat)) ((0 : Nat))), (Go.Value.int (IntKind.i64) ((0 : Int))), (Go.Value.int (IntKind.i64) ((0 : Int))), (Go.Value.int (IntKind.i64) ((0 : Int))), (Go.Value.int (IntKind.i64) ((0 : Int))), (Go.Value.int (IntKind.i64) ((0 : Int))), (Go.Value.int (IntKind.i64) ((0 : Int))), (Go.Value.string (ByteArray.mk #[])), (Go.Value.string (ByteArray.mk #[])), (Go.Value.string (ByteArray.mk #[])), (Go.Value.string (ByteArray.mk #[])), (Go.Value.bool (false)), (Go.Value.int (IntKind.i64) ((0 : Int))), (Go.Value.int (IntKind.i64) ((0 : Int))), (Go.Value.int (IntKind.i64) ((0 : Int))), (Go.Value.string (ByteArray.mk #[])), (Go.Value.slice (none) ((0 : Nat)) ((0 : Nat))), (Go.Value.int (IntKind.i64) ((2 : Int))), (Go.Value.int (IntKind.i64) ((0 : Int))), (Go.Value.string (ByteArray.mk #[])), (Go.Value.int (IntKind.i64) ((0 : Int)))])] (false, [(true, [.int .i64, .int .i64, .int .i64, .int .i64, .int .i64, .int .i64, .int .i64, .int .i64, .bool])]) fun (((x59 : Int), (x60 : Int), (x61 : Int), (x62 : Int), (x63 : Int), (x64 : Int), (x65 : Int), (x66 : Int), (b67 : Bool), _), _) =>
  π.call (32 : Nat) #[(Go.Value.pointer (p0)), (Go.Value.int (IntKind.i64) ((29 : Int))), (Go.Value.agg #[(Go.Value.int (IntKind.i64) ((14 : Int))), (Go.Value.int (IntKind.i64) ((0 : Int))), (Go.Value.int (IntKind.i64) ((0 : Int))), (Go.Value.int (IntKind.i64) ((0 : Int))), (Go.Value.int (IntKind.i64) ((0 : Int))), (Go.Value.int (IntKind.i64) ((0 : Int))), (Go.Value.int (IntKind.i64) ((0 : Int))), (Go.Value.int (IntKind.i64) ((0 : Int))), (Go.Value.slice (none) ((0 : Nat)) ((0 : Nat))), (Go.Value.slice (none) ((0 : Nat)) ((0 : Nat))), (Go.Value.int (IntKind.i64) ((0 : Int))), (Go.Value.int (IntKind.i64) ((0 : Int))), (Go.Value.int (IntKind.i64) ((0 : Int))), (Go.Value.int (IntKind.i64) ((0 : Int))), (Go.Value.int (IntKind.i64) ((0 : Int))), (Go.Value.int (IntKind.i64) ((0 : Int))), (Go.Value.string (ByteArray.mk #[])), (Go.Value.string (ByteArray.mk #[])), (Go.Value.string (ByteArray.mk #[])), (Go.Value.string (ByteArray.mk #[])), (Go.Value.bool (false)), (Go.Value.int (IntKind.i64) ((0 : Int))), (Go.Value.int (IntKind.i64) ((0 : Int))), (Go.Value.int (IntKind.i64) ((0 : Int))), (Go.Value.string (ByteArray.mk #[])), (Go.Value.slice (none) ((0 : Nat)) ((0 : Nat))), (Go.Value.int (IntKind.i64) ((2 : Int))), (Go.Value.int (IntKind.i64) ((0 : Int))), (Go.Value.string (ByteArray.mk #[])), (Go.Value.int (IntKind.i64) ((0 : Int)))])] (false, [(true, [.int .i64, .int .i64, .int .i64, .int .i64, .int .i64, .int .i64, .int .i64, .int .i64, .bool])]) fun (((x68 : Int), (x69 : Int), (x70 : Int), (x71 : Int), (x72 : Int), (x73 : Int), (x74 : Int), (x75 : Int), (b76 : Bool), _), _) =>
  π.ite (x1 == (0 : Int) && (x2 == (0 : Int) && (x3 == (0 : Int) && (x4 == (0 : Int) && (x5 == (0 : Int) && true)) && (x6 == (0 : Int) && (x7 == (25 : Int) && (x8 == (0 : Int) && (b9 == true && true))))))) (
    π.ite (x23 == (0 : Int) && (x24 == (0 : Int) && (x25 == (0 : Int) && (x26 == (0 : Int) && (x27 == (0 : Int) && true)) && (x28 == (0 : Int) && (x29 == (0 : Int) && (x30 == (1 : Int) && (b31 == true && true))))))) (
      π.ite (x32 == (0 : Int) && (x33 == (0 : Int) && (x34 == (0 : Int) && (x35 == (0 : Int) && (x36 == (0 : Int) && true)) && (x37 == (1 : Int) && (x38 == (0 : Int) && (x39 == (0 : Int) && (b40 == true && true))))))) (
        π.ite (x50 == (161 : Int)) (
          π.ite (x59 == (161 : Int)) (
            π.ite (x68 == (0 : Int) && (x69 == (0 : Int) && (x70 == (0 : Int) && (x71 == (0 : Int) && (x72 == (0 : Int) && true)) && (x73 == (2 : Int) && (x74 == (0 : Int) && (x75 == (0 : Int) && (b76 == true && true))))))) (
              π.ret (Go.Value.bool (true))
            ) (
              π.ret (Go.Value.bool (false))
            )
          ) (
            π.ret (Go.Value.bool (false))
          )
        ) (
          π.ret (Go.Value.bool (false))
        )
      ) (
        π.ret (Go.Value.bool (false))
      )
    ) (
      π.ret (Go.Value.bool (false))
    )
  ) (
    π.ret (Go.Value.bool (false))
  )
def ann_bawake : Ann := { draws := [], join := [], loop := [] }
def la_bawake : LA := { ptr := [(2, 2, 0), (3, 3, 0), (4, 4, 0), (5, 5, 0), (6, 6, 0), (7, 7, 0), (49, 5, 0), (54, 6, 0)], ty := [(2, 80), (3, 80), (4, 80), (5, 80), (6, 80), (7, 80)] }
set_option maxRecDepth 100000 in
theorem eq_bawake {W : Type} (π : Prims W) : bodyL π Try.prog la_bawake ann_bawake (mkFr (maskA [] [] 0) 71) Try.f28 (bodyOf Try.f28) (mkFr (List.map some []) 71) = vc_bawake π := by kernel_rfl
theorem ok_bawake (R : Value → PH → Prop) (s : PH) (h : vc_bawake (RP Try.prog R) s) : DCalls Try.prog 28 (List.map AV.val []).toArray s R :=
  calls_vcL (c := bodyOf Try.f28) (ann := ann_bawake) la_bawake (by kernel_rfl) Try.func28 rfl (by kernel_rfl) [] [] (by rw [Try.ntmps28]; exact Nat.le_of_ble_eq_true rfl) (by kernel_rfl) (by rw [show Try.f28.ntmps = 71 from Try.ntmps28, eq_bawake]; exact h)
/-- lintel/lintellaw16.BoardStill -/
def vc_BoardStill {W : Type} (π : Prims W) (a : Option Addr) (an ac : Nat) : W :=
  π.join [] (fun J0 =>
    π.call (28 : Nat) #[] (false, [(false, [.bool])]) fun (((b1 : Bool), _), _) =>
    π.ite (!b1) (
      π.call (28 : Nat) #[] (false, [(false, [.bool])]) fun (((b2 : Bool), _), _) =>
      π.ret (Go.Value.bool (b2))
    ) (
      π.call (29 : Nat) #[(Go.Value.slice (a) (an) (ac))] (false, [(false, [.bool])]) fun (((b3 : Bool), _), _) =>
      π.ite (b3) (
        π.call (28 : Nat) #[] (false, [(false, [.bool])]) fun (((b4 : Bool), _), _) =>
        π.ret (Go.Value.bool (b4))
      ) (
        J0 (())
      )
    )
  ) (fun (_) =>
    π.call (30 : Nat) #[] (false, [(false, [.ptr])]) fun ((p5, _), _) =>
    π.loop [(false, [.ptr]), (false, [.int .i64]), (false, [.slice]), (false, [.int .i64]), (false, [.int .i64])] ((p5, ()), ((0 : Int), ()), ((a, an, ac), ()), ((↑an : Int), ()), ((0 : Int), ()), ()) fun ((p7, _), ((x8 : Int), _), (((a9 : Option Addr), (n10 : Nat), (c11 : Nat)), _), ((x12 : Int), _), ((x13 : Int), _), _) again6 =>
      π.ite (decide (x13 < x12)) (
        π.guard ((0 : Int) ≤ x13 ∧ x13 < (↑n10 : Int)) <|
        π.unSome (a9) fun p14 =>
        π.ld [.int .i64, .int .i64, .int .i64, .int .i64, .int .i64, .int .i64, .int .i64, .int .i64, .int .i64, .slice, .slice, .int .i64, .int .i64, .int .i64, .int .i64, .int .i64, .int .i64, .str, .str, .str, .str, .bool, .int .i64, .int .i64, .int .i64, .str, .slice, .int .i64, .int .i64, .str, .int .i64] (p14.add (x13.toNat * (31 : Nat))) fun ((x15 : Int), (x16 : Int), (x17 : Int), (x18 : Int), (x19 : Int), (x20 : Int), (x21 : Int), (x22 : Int), (x23 : Int), ((a24 : Option Addr), (n25 : Nat), (c26 : Nat)), ((a27 : Option Addr), (n28 : Nat), (c29 : Nat)), (x30 : Int), (x31 : Int), (x32 : Int), (x33 : Int), (x34 : Int), (x35 : Int), (t36 : ByteArray), (t37 : ByteArray), (t38 : ByteArray), (t39 : ByteArray), (b40 : Bool), (x41 : Int), (x42 : Int), (x43 : Int), (t44 : ByteArray), ((a45 : Option Addr), (n46 : Nat), (c47 : Nat)), (x48 : Int), (x49 : Int), (t50 : ByteArray), (x51 : Int), _) =>
        π.call (31 : Nat) #[(Go.Value.pointer (p7))] (true, [(true, [.int .i64, .int .i64, .int .i64, .int .i64, .int .i64, .int .i64, .str, .str, .str, .str, .bool, .int .i64, .int .i64, .int .i64, .str, .slice, .int .i64, .bool, .bool, .str, .int .i64, .int .i64]), (true, [.int .i64, .int .i64]), (false, [.bool])]) fun (((x52 : Int), (x53 : Int), (x54 : Int), (x55 : Int), (x56 : Int), (x57 : Int), (t58 : ByteArray), (t59 : ByteArray), (t60 : ByteArray), (t61 : ByteArray), (b62 : Bool), (x63 : Int), (x64 : Int), (x65 : Int), (t66 : ByteArray), ((a67 : Option Addr), (n68 : Nat), (c69 : Nat)), (x70 : Int), (b71 : Bool), (b72 : Bool), (t73 : ByteArray), (x74 : Int), (x75 : Int), _), ((x76 : Int), (x77 : Int), _), ((b78 : Bool), _), _) =>
        π.call (36 : Nat) #[(Go.Value.pointer (p7))] (false, [(true, [.int .i64, .int .i64, .slice])]) fun (((x79 : Int), (x80 : Int), ((a81 : Option Addr), (n82 : Nat), (c83 : Nat)), _), _) =>
        π.call (33 : Nat) #[(Go.Value.agg #[(Go.Value.int (IntKind.i64) (x16)), (Go.Value.int (IntKind.i64) (x17)), (Go.Value.int (IntKind.i64) (x18)), (Go.Value.int (IntKind.i64) (x19)), (Go.Value.int (IntKind.i64) (x20)), (Go.Value.int (IntKind.i64) (x21)), (Go.Value.int (IntKind.i64) (x22)), (Go.Value.int (IntKind.i64) (x23)), (Go.Value.slice (a24) (n25) (c26)), (Go.Value.slice (a27) (n28) (c29)), (Go.Value.int (IntKind.i64) (x30)), (Go.Value.int (IntKind.i64) (x31)), (Go.Value.int (IntKind.i64) (x32)), (Go.Value.int (IntKind.i64) (x33)), (Go.Value.int (IntKind.i64) (x34)), (Go.Value.int (IntKind.i64) (x35)), (Go.Value.string (t36)), (Go.Value.string (t37)), (Go.Value.string (t38)), (Go.Value.string (t39)), (Go.Value.bool (b40)), (Go.Value.int (IntKind.i64) (x41)), (Go.Value.int (IntKind.i64) (x42)), (Go.Value.int (IntKind.i64) (x43)), (Go.Value.string (t44)), (Go.Value.slice (a45) (n46) (c47)), (Go.Value.int (IntKind.i64) (x48)), (Go.Value.int (IntKind.i64) (x49)), (Go.Value.string (t50)), (Go.Value.int (IntKind.i64) (x51))])] (false, [(true, [.int .i64, .int .i64, .int .i64, .int .i64, .int .i64, .int .i64, .int .i64, .int .i64, .slice, .slice, .int .i64, .int .i64, .int .i64, .int .i64, .int .i64, .int .i64, .str, .str, .str, .str, .bool, .int .i64, .int .i64, .int .i64, .str, .slice, .int .i64, .int .i64, .str, .int .i64])]) fun (((x84 : Int), (x85 : Int), (x86 : Int), (x87 : Int), (x88 : Int), (x89 : Int), (x90 : Int), (x91 : Int), ((a92 : Option Addr), (n93 : Nat), (c94 : Nat)), ((a95 : Option Addr), (n96 : Nat), (c97 : Nat)), (x98 : Int), (x99 : Int), (x100 : Int), (x101 : Int), (x102 : Int), (x103 : Int), (t104 : ByteArray), (t105 : ByteArray), (t106 : ByteArray), (t107 : ByteArray), (b108 : Bool), (x109 : Int), (x110 : Int), (x111 : Int), (t112 : ByteArray), ((a113 : Option Addr), (n114 : Nat), (c115 : Nat)), (x116 : Int), (x117 : Int), (t118 : ByteArray), (x119 : Int), _), _) =>
        π.call (32 : Nat) #[(Go.Value.pointer (p7)), (Go.Value.int (IntKind.i64) (if (if (562949953421312 : Int) < x15 then (562949953421312 : Int) else x15) > x8 then if (562949953421312 : Int) < x15 then (562949953421312 : Int) else x15 else x8)), (Go.Value.agg #[(Go.Value.int (IntKind.i64) (x84)), (Go.Value.int (IntKind.i64) (x85)), (Go.Value.int (IntKind.i64) (x86)), (Go.Value.int (IntKind.i64) (x87)), (Go.Value.int (IntKind.i64) (x88)), (Go.Value.int (IntKind.i64) (x89)), (Go.Value.int (IntKind.i64) (x90)), (Go.Value.int (IntKind.i64) (x91)), (Go.Value.slice (a92) (n93) (c94)), (Go.Value.slice (a95) (n96) (c97)), (Go.Value.int (IntKind.i64) (x98)), (Go.Value.int (IntKind.i64) (x99)), (Go.Value.int (IntKind.i64) (x100)), (Go.Value.int (IntKind.i64) (x101)), (Go.Value.int (IntKind.i64) (x102)), (Go.Value.int (IntKind.i64) (x103)), (Go.Value.string (t104)), (Go.Value.string (t105)), (Go.Value.string (t106)), (Go.Value.string (t107)), (Go.Value.bool (b108)), (Go.Value.int (IntKind.i64) (x109)), (Go.Value.int (IntKind.i64) (x110)), (Go.Value.int (IntKind.i64) (x111)), (Go.Value.string (t112)), (Go.Value.slice (a113) (n114) (c115)), (Go.Value.int (IntKind.i64) (x116)), (Go.Value.int (IntKind.i64) (x117)), (Go.Value.string (t118)), (Go.Value.int (IntKind.i64) (x119))])] (false, [(true, [.int .i64, .int .i64, .int .i64, .int .i64, .int .i64, .int .i64, .int .i64, .int .i64, .bool])]) fun (((x120 : Int), (x121 : Int), (x122 : Int), (x123 : Int), (x124 : Int), (x125 : Int), (x126 : Int), (x127 : Int), (b128 : Bool), _), _) =>
        π.join [(false, [.ptr]), (false, [.int .i64]), (false, [.slice]), (false, [.int .i64]), (false, [.int .i64])] (fun J129 =>
          π.call (36 : Nat) #[(Go.Value.pointer (p7))] (false, [(true, [.int .i64, .int .i64, .slice])]) fun (((x130 : Int), (x131 : Int), ((a132 : Option Addr), (n133 : Nat), (c134 : Nat)), _), _) =>
          π.ite (!b78) (
            again6 ((p7, ()), (if (if (562949953421312 : Int) < x15 then (562949953421312 : Int) else x15) > x8 then if (562949953421312 : Int) < x15 then (562949953421312 : Int) else x15 else x8, ()), ((a9, n10, c11), ()), (x12, ()), (IntKind.i64.wrap (x13 + (1 : Int)), ()), ())
          ) (
            π.ite (x76 != (2 : Int)) (
              again6 ((p7, ()), (if (if (562949953421312 : Int) < x15 then (562949953421312 : Int) else x15) > x8 then if (562949953421312 : Int) < x15 then (562949953421312 : Int) else x15 else x8, ()), ((a9, n10, c11), ()), (x12, ()), (IntKind.i64.wrap (x13 + (1 : Int)), ()), ())
            ) (
              π.ite (x130 == x79) (
                again6 ((p7, ()), (if (if (562949953421312 : Int) < x15 then (562949953421312 : Int) else x15) > x8 then if (562949953421312 : Int) < x15 then (562949953421312 : Int) else x15 else x8, ()), ((a9, n10, c11), ()), (x12, ()), (IntKind.i64.wrap (x13 + (1 : Int)), ()), ())
              ) (
                π.ite (x74 != (0 : Int)) (
                  again6 ((p7, ()), (if (if (562949953421312 : Int) < x15 then (562949953421312 : Int) else x15) > x8 then if (562949953421312 : Int) < x15 then (562949953421312 : Int) else x15 else x8, ()), ((a9, n10, c11), ()), (x12, ()), (IntKind.i64.wrap (x13 + (1 : Int)), ()), ())
                ) (
                  J129 ((p7, ()), (if (if (562949953421312 : Int) < x15 then (562949953421312 : Int) else x15) > x8 then if (562949953421312 : Int) < x15 then (562949953421312 : Int) else x15 else x8, ()), ((a9, n10, c11), ()), (x12, ()), (x13, ()), ())
                )
              )
            )
          )
        ) (fun ((p135, _), ((x136 : Int), _), (((a137 : Option Addr), (n138 : Nat), (c139 : Nat)), _), ((x140 : Int), _), ((x141 : Int), _), _) =>
          π.call (34 : Nat) #[(Go.Value.pointer (p135))] (false, [(true, [.int .i64, .int .i64, .slice, .slice, .slice])]) fun (((x142 : Int), (x143 : Int), ((a144 : Option Addr), (n145 : Nat), (c146 : Nat)), ((a147 : Option Addr), (n148 : Nat), (c149 : Nat)), ((a150 : Option Addr), (n151 : Nat), (c152 : Nat)), _), _) =>
          π.loop [(false, [.ptr]), (false, [.int .i64]), (false, [.slice]), (false, [.int .i64]), (false, [.int .i64]), (false, [.slice]), (false, [.int .i64]), (false, [.int .i64])] ((p135, ()), (x136, ()), ((a137, n138, c139), ()), (x140, ()), (x141, ()), ((a147, n148, c149), ()), ((↑n148 : Int), ()), ((0 : Int), ()), ()) fun ((p154, _), ((x155 : Int), _), (((a156 : Option Addr), (n157 : Nat), (c158 : Nat)), _), ((x159 : Int), _), ((x160 : Int), _), (((a161 : Option Addr), (n162 : Nat), (c163 : Nat)), _), ((x164 : Int), _), ((x165 : Int), _), _) again153 =>
            π.ite (decide (x165 < x164)) (
              π.guard ((0 : Int) ≤ x165 ∧ x165 < (↑n162 : Int)) <|
              π.unSome (a161) fun p166 =>
              π.ld [.int .i64, .int .i64, .int .i64] (p166.add (x165.toNat * (3 : Nat))) fun ((x167 : Int), (x168 : Int), (x169 : Int), _) =>
              π.call (35 : Nat) #[(Go.Value.agg #[(Go.Value.int (IntKind.i64) (x167)), (Go.Value.int (IntKind.i64) (x168)), (Go.Value.int (IntKind.i64) (x169))]), (Go.Value.int (IntKind.i64) (x155))] (false, [(false, [.bool])]) fun (((b170 : Bool), _), _) =>
              π.ite (b170) (
                π.ret (Go.Value.bool (false))
              ) (
                again153 ((p154, ()), (x155, ()), ((a156, n157, c158), ()), (x159, ()), (x160, ()), ((a161, n162, c163), ()), (x164, ()), (IntKind.i64.wrap (x165 + (1 : Int)), ()), ())
              )
            ) (
              again6 ((p154, ()), (x155, ()), ((a156, n157, c158), ()), (x159, ()), (IntKind.i64.wrap (x160 + (1 : Int)), ()), ())
            )
        )
      ) (
        π.ret (Go.Value.bool (true))
      )
  )
def ann_BoardStill : Ann := { draws := [], join := [(3, []), (14, [(3, 65), (4, 3), (22, 63), (23, 3), (24, 3)])], loop := [(6, [(3, 65), (4, 3), (22, 63), (23, 3), (24, 3)]), (15, [(3, 65), (4, 3), (22, 63), (23, 3), (24, 3), (70, 83), (71, 3), (72, 3)])] }
def la_BoardStill : LA := { ptr := [(6, 6, 0), (7, 7, 0), (8, 8, 0), (13, 13, 0), (29, 6, 0), (44, 6, 1), (54, 8, 0), (64, 7, 20)], ty := [(6, 74), (7, 76), (8, 56), (13, 89)] }
set_option maxRecDepth 100000 in
theorem eq_BoardStill {W : Type} (π : Prims W) (a : Option Addr) (an ac : Nat) : bodyL π Try.prog la_BoardStill ann_BoardStill (mkFr (maskA [] [.v (.slice a an ac)] 0) 81) Try.f10 (bodyOf Try.f10) (mkFr (List.map some [.v (.slice a an ac)]) 81) = vc_BoardStill π a an ac := by kernel_rfl
theorem ok_BoardStill (a : Option Addr) (an ac : Nat) (R : Value → PH → Prop) (s : PH) (h : vc_BoardStill (RP Try.prog R) a an ac s) : DCalls Try.prog 10 (List.map AV.val [.v (.slice a an ac)]).toArray s R :=
  calls_vcL (c := bodyOf Try.f10) (ann := ann_BoardStill) la_BoardStill (by kernel_rfl) Try.func10 rfl (by kernel_rfl) [.v (.slice a an ac)] [] (by rw [Try.ntmps10]; exact Nat.le_of_ble_eq_true rfl) (by kernel_rfl) (by rw [show Try.f10.ntmps = 81 from Try.ntmps10, eq_BoardStill]; exact h)
end Go.Proofs.Ythepfbcgpbkbdaa
end
section
set_option linter.unusedVariables false
set_option linter.unusedSimpArgs false
set_option maxHeartbeats 4000000
set_option maxRecDepth 100000
namespace Go.Proofs.Ythepfbcgpbkbdaa
open Fw Go
attribute [-simp] Fw.W.ld_iff Fw.W.st_iff
theorem set_sameB {α : Type} {l : List α} {i : Nat} {x : α} (h : l[i]? = some x) : l.set i x = l := by
  apply List.ext_getElem?
  intro n
  by_cases e : i = n
  · subst e; rw [List.getElem?_set_self (List.getElem?_eq_some_iff.1 h).1, h]
  · rw [List.getElem?_set_ne e]
theorem c_rForce (l : Lse) (now : Int) (s : PH) : DCalls Try.prog 35 #[lseV l, .int .i64 now] s fun y s' => y = .bool (forceB l now) ∧ s' = s := by
  refine ok_rForce l.node l.ver l.til now _ s ?_
  unfold vc_rForce
  simp [forceB]
theorem c_CloneL {s : PH} {t : Tri} {xs : List Lse} (h : Sl lseE s t xs) : DCalls Try.prog 114 #[.slice t.1 t.2.1 t.2.2] s fun y s' => ∃ u : Tri, y = u.v ∧ rowE lseE s' 89 u.1 u.2.1 u.2.2 xs ∧ Fw.Mod [] s s' ∧ ∀ g ∈ Fw.blk u.1, s g = none := by
  obtain ⟨a, an, ac⟩ := t
  refine ok_CloneL a an ac _ s ?_
  unfold vc_CloneL
  have hlen := h.len
  have hfew := h.few
  dsimp only at hlen
  simp only [RP_ite, W.br_iff]
  refine ⟨fun hnone => ?_, fun hsome => ?_⟩
  · cases a with
    | some ad => cases hnone
    | none =>
      have : xs = [] := by
        cases xs with
        | nil => rfl
        | cons x xs => obtain ⟨ad, h1, _⟩ := h.el.at_enc (i := 0) rfl; cases h1
      subst this
      exact ⟨noTri, rfl, rowE.nil, Mod.refl _ _, by simp [Fw.blk]⟩
  · simp only [RP_nw]
    refine row_copy (E := lseE) (k := an) h.el.src_enc rfl hlen.symm (by omega) (by omega) rfl ?_
    intro a' c' s' hrow hm hf
    exact ⟨(a', an, c'), rfl, hrow, hm, hf⟩
theorem c_CloneJ {s : PH} {t : Tri} {xs : List JbP} (h : Sl jobE s t xs) : DCalls Try.prog 115 #[.slice t.1 t.2.1 t.2.2] s fun y s' => ∃ u : Tri, y = u.v ∧ rowE jobE s' 76 u.1 u.2.1 u.2.2 xs ∧ Fw.Mod [] s s' ∧ ∀ g ∈ Fw.blk u.1, s g = none := by
  obtain ⟨a, an, ac⟩ := t
  refine ok_CloneJ a an ac _ s ?_
  unfold vc_CloneJ
  have hlen := h.len
  have hfew := h.few
  dsimp only at hlen
  simp only [RP_ite, W.br_iff]
  refine ⟨fun hnone => ?_, fun hsome => ?_⟩
  · cases a with
    | some ad => cases hnone
    | none =>
      have : xs = [] := by
        cases xs with
        | nil => rfl
        | cons x xs => obtain ⟨ad, h1, _⟩ := h.el.at_enc (i := 0) rfl; cases h1
      subst this
      exact ⟨noTri, rfl, rowE.nil, Mod.refl _ _, by simp [Fw.blk]⟩
  · simp only [RP_nw]
    refine row_copy (E := jobE) (k := an) h.el.src_enc rfl hlen.symm (by omega) (by omega) rfl ?_
    intro a' c' s' hrow hm hf
    exact ⟨(a', an, c'), rfl, hrow, hm, hf⟩
theorem c_bTables {s : PH} {t : Tri} {S : Sch} {ps : List TabP} (h : SchIs s t S ps) :
    DCalls Try.prog 113 #[schV S t] s fun y s' => ∃ t' ps', y = schV S t' ∧ Has s' t' ps' ∧ S.tabs = ps'.map (·.T) ∧ Fw.Mod [] s s' := by
  obtain ⟨ta, tn, tc⟩ := t
  refine ok_bTables S.version S.last ta tn tc _ s ?_
  unfold vc_bTables
  have htn : tn = ps.length := h.el.len
  have hfew := h.el.few
  have hpl : S.tabs.length = ps.length := by rw [h.eq]; simp
  simp only [RP_join, RP_ite, RP_call, RP_callQ, RP_ret, RP_nw, RP_app, RP_st, RP_ld, RP_unSome, RP_guard, RP_loop, W.unSome_some]
  refine ⟨fun z s' => ∃ (k a2 a3 : Nat) (a1 : Option Addr) (pc : List TabP), z = ((S.version, S.last, (ta, tn, tc), ()), (0, 0, (none, 0, 0), ()), ((a1, a2, a3), ()), ((ta, tn, tc), ()), ((tn : Int), ()), ((k : Int), ()), ()) ∧ k ≤ tn ∧ Has s' (a1, a2, a3) pc ∧ (S.tabs.take k) = pc.map (·.T) ∧ Fw.Mod [] s s' ∧ ∀ g ∈ Lof (a1, a2, a3) pc, s g = none,
    fun z _ => tn - z.2.2.2.2.2.1.1.toNat, ⟨0, 0, 0, none, [], rfl, Nat.zero_le _, Has.nil _, rfl, Mod.refl _ _, by simp [Lof, Fw.blk]⟩, ?_⟩
  rintro _ s1 ⟨k, a2, a3, a1, pc, rfl, hk, hH, he, m1, hf⟩
  simp only [W.br_iff, decide_eq_true_eq, decide_eq_false_iff_not]
  refine ⟨fun hlt => ?_, fun hge => ?_⟩
  · have hlt : k < tn := by omega
    obtain ⟨p, hp⟩ : ∃ p, ps[k]? = some p := ⟨_, List.getElem?_eq_getElem (by omega)⟩
    have hT : S.tabs[k]? = some p.T := by rw [h.eq, List.getElem?_map, hp]; (first | done | rfl)
    have hS1 := h.mono m1.le
    obtain ⟨ad, had, hh⟩ := hS1.el.el.at_enc hp
    dsimp only at had
    subst had
    refine ⟨by omega, ?_⟩
    simp only [W.unSome_some, Int.toNat_natCast]
    refine ld_has_z hh (y := (p.T.id, p.T.name, p.c, p.x, p.k, ())) rfl ?_
    have hP := hS1.all p (get_mem hp)
    refine W.call_of (c_CloneC hP.c) ?_
    rintro _ s2 ⟨uc, rfl, hc, m2, fc⟩
    refine ⟨((uc, ()), ()), rfl, ?_⟩
    refine W.call_of (c_CloneX (hP.x.mono m2.le)) ?_
    rintro _ s3 ⟨ux, rfl, hx, m3, fx⟩
    refine ⟨((ux, ()), ()), rfl, ?_⟩
    refine W.call_of (c_CloneF (hP.k.mono (m2.trans m3).le)) ?_
    rintro _ s4 ⟨uk, rfl, hkk, m4, fk⟩
    refine ⟨((uk, ()), ()), rfl, ?_⟩
    have hq : Own s4 ⟨p.T, uc, ux, uk⟩ := ⟨(hc.mod m3 (by simp)).mod m4 (by simp), hx.mod m4 (by simp), hkk⟩
    have m24 := (m2.trans m3).trans m4
    have fq : ∀ g ∈ TabP.L ⟨p.T, uc, ux, uk⟩, s1 g = none := by
      intro g hg
      simp only [TabP.L, List.mem_append] at hg
      rcases hg with hg | hg | hg
      · exact fc g hg
      · exact m2.none (fx g hg) (by simp)
      · exact (m2.trans m3).none (fk g hg) (by simp)
    have hH4 := hH.mod m24 (by simp)
    have hpcl : pc.length = k := by
      have := congrArg List.length he
      rw [List.length_take, List.length_map] at this; omega
    refine Has.push hH4 hq hq.nodup (fun g hg hg2 => hH.known g hg2 (fq g hg)) (by omega) ?_
    intro a' c' s5 hH5 hst
    have hal := hH.row.len
    dsimp only at hal
    rw [wrap_succ (k := k) (by omega)]
    have mm : Fw.Mod [] s s5 := (m1.trans m24).fresh hst.mod fun x hx => by
      rcases List.mem_append.1 hx with hx | hx
      · exact .inr (hf x hx)
      · exact .inr (m1.none (fq x hx) (by simp))
    refine ⟨⟨k + 1, a2 + 1, c', a', pc ++ [⟨p.T, uc, ux, uk⟩], rfl, hlt, hH5, ?_, mm, ?_⟩, by simp only [Int.toNat_natCast]; omega⟩
    · rw [List.take_add_one, hT, he, List.map_append]; (first | done | rfl)
    · intro g hg
      rcases hst.new g hg with h1 | h1
      · rcases List.mem_append.1 h1 with h1 | h1
        · exact hf g h1
        · exact m1.none (fq g h1) (by simp)
      · exact (m1.trans m24).none h1 (by simp)
  · rw [List.take_of_length_le (by omega)] at he
    exact ⟨(a1, a2, a3), pc, rfl, hH, he, m1⟩
/-- a copy of a plan -/
structure Cop (s s' : PH) (P : Pl) (t la ja : Tri) : Prop where
  ex : ∃ ps qs, Has s' t ps ∧ P.S.tabs = ps.map (·.T) ∧ P.J = qs.map (·.j) ∧ rowE jobE s' 76 ja.1 ja.2.1 ja.2.2 qs ∧ ∀ q ∈ qs, rowE colE s' 44 q.u.1 q.u.2.1 q.u.2.2 q.j.D.cols ∧ q.j.D.cols.length ≤ 1048576
  lrow : rowE lseE s' 89 la.1 la.2.1 la.2.2 P.L
  mod : Fw.Mod [] s s'
abbrev planV (P : Pl) (t la ja : Tri) : Value := .agg #[.int .i64 P.S.version, .int .i64 P.S.last, .slice t.1 t.2.1 t.2.2, .slice la.1 la.2.1 la.2.2, .slice ja.1 ja.2.1 ja.2.2]
section
variable {s : PH} {b : Nat} {P : Pl} {t la ja : Tri} {ps : List TabP} {qs : List JbP}
theorem c_bCopied (h : Brd s b P t la ja ps qs) (hn : P.J.length ≤ 1000000) (hnl : P.L.length ≤ 1000000) :
    DCalls Try.prog 74 #[planV P t la ja] s fun y s' => ∃ t' la' ja', y = planV P t' la' ja' ∧ Cop s s' P t' la' ja' := by
  refine ok_bCopied P.S.version P.S.last t.1 t.2.1 t.2.2 la.1 la.2.1 la.2.2 ja.1 ja.2.1 ja.2.2 _ s ?_
  unfold vc_bCopied
  have hjn : P.J.length = qs.length := by rw [h.jeq, List.length_map]
  simp only [RP_ite, RP_call, RP_ret, RP_st, RP_ld, RP_unSome, RP_guard, RP_loop]
  refine W.call_of (c_bTables h.is) ?_
  rintro _ s1 ⟨t', ps', rfl, hH, he, m1⟩
  refine ⟨((P.S.version, P.S.last, t', ()), ()), rfl, ?_⟩
  have h1 := h.mod m1
  refine W.call_of (c_CloneL (t := la) (Sl.of_row h1.lrow (by omega))) ?_
  rintro _ s2 ⟨la', rfl, hl2, m2, fl⟩
  refine ⟨((la', ()), ()), rfl, ?_⟩
  have h2 := h1.mod m2
  refine W.call_of (c_CloneJ (t := ja) (Sl.of_row h2.jrow (by omega))) ?_
  rintro _ s3 ⟨⟨ja1, jn, jc⟩, rfl, hj3, m3, fj⟩
  refine ⟨(((ja1, jn, jc), ()), ()), rfl, ?_⟩
  have h3 := h2.mod m3
  have m13 := (m1.trans m2).trans m3
  have hH3 := (hH.mod m2 (by simp)).mod m3 (by simp)
  have hl3 := hl2.mod m3 (by simp)
  have hjl := hj3.len
  dsimp only at hj3 hjl fj
  have fj0 : ∀ g ∈ Fw.blk ja1, s g = none := fun g hg => (m1.trans m2).none (fj g hg) (by simp)
  refine ⟨fun z s' => ∃ (i : Nat) (qs' : List JbP), z = ((P.S.version, P.S.last, t', la', (ja1, jn, jc), ()), (0, 0, (none, 0, 0), (none, 0, 0), (none, 0, 0), ()), ((jn : Int), ()), ((i : Int), ()), ()) ∧ i ≤ jn ∧ Has s' t' ps' ∧ rowE lseE s' 89 la'.1 la'.2.1 la'.2.2 P.L ∧ rowE jobE s' 76 ja1 jn jc qs' ∧ P.J = qs'.map (·.j) ∧
    (∀ q ∈ qs', rowE colE s' 44 q.u.1 q.u.2.1 q.u.2.2 q.j.D.cols ∧ q.j.D.cols.length ≤ 1048576) ∧ Fw.Mod [] s s', fun z _ => jn - z.2.2.2.1.1.toNat, ⟨0, qs, rfl, Nat.zero_le _, hH3, hl3, hj3, h.jeq, h3.cols, m13⟩, ?_⟩
  rintro _ s4 ⟨i, qs', rfl, hi, hH4, hl4, hj4, hje, hc4, m4⟩
  refine (W.br_iff _ _ _ _).2 ⟨fun hlt => ?_, fun hge => ?_⟩
  · have hlt : (i : Int) < (jn : Int) := of_decide_eq_true hlt
    have hjl4 := hj4.len
    obtain ⟨q, hq⟩ : ∃ q, qs'[i]? = some q := ⟨_, List.getElem?_eq_getElem (by omega)⟩
    obtain ⟨g, rfl, hh⟩ := hj4.at hq
    dsimp only
    refine (W.guard_iff _ _ _).2 ⟨by omega, ?_⟩
    simp only [W.unSome_some, Int.toNat_natCast, add_mk, Nat.zero_add]
    have hh' : s4.has ⟨g, i * 22, none⟩ (jobE.f q) := hh
    refine ld_hasm (o := i * 22) (j := 15) hh' (cs := [.slice]) (y := (q.u, ())) rfl ?_
    have hcq := hc4 q (List.mem_of_getElem? hq)
    refine W.call_of (c_CloneC (Sl.of_row (t := q.u) hcq.1 (by have := hcq.2; omega))) ?_
    rintro _ s5 ⟨u', rfl, hu5, m5, fu⟩
    refine ⟨((u', ()), ()), rfl, ?_⟩
    refine (W.guard_iff _ _ _).2 ⟨by omega, ?_⟩
    simp only [W.unSome_some, Int.toNat_natCast, add_mk, Nat.zero_add]
    refine rowE.st (E := jobE) (hj4.mod m5 (by simp)) hq (x' := ⟨q.j, u'⟩) (j := 15) (vs := [.slice u'.1 u'.2.1 u'.2.2]) rfl (Nat.le_of_ble_eq_true rfl) (by simp) (one1 rfl) rfl fun s6 hj6 m6 => ?_
    have gJ : Ty s5 g 76 := row_ty (hj4.mod m5 (by simp)) g (by simp [Fw.blk])
    have hgf : s g = none := fj0 g (by simp [Fw.blk])
    rw [wrap_succ (k := i) (by omega)]
    refine ⟨⟨i + 1, qs'.set i ⟨q.j, u'⟩, rfl, by omega, ?_, ?_, hj6, ?_, ?_, (m4.trans m5).fresh m6 (by simp [hgf])⟩, by simp only [Int.toNat_natCast]; omega⟩
    · have hH5 := hH4.mod m5 (by simp)
      refine hH5.mod m6 fun x hx hx2 => ?_
      simp at hx2; subst hx2
      rcases hH5.ty x hx with h1 | h1 | h1 | h1 <;> exact (h1.ne gJ (by decide)) rfl
    · have hl5 := hl4.mod m5 (by simp)
      refine hl5.mod m6 fun x hx hx2 => ?_
      simp at hx2; subst hx2
      exact ((row_ty hl5 x hx).ne gJ (by decide)) rfl
    · rw [List.map_set, ← hje]
      have : P.J[i]? = some q.j := by rw [hje, List.getElem?_map, hq]; (first | done | rfl)
      exact (set_sameB this).symm
    · intro q2 hq2
      have keep : ∀ {u : Tri} {l : List Col}, rowE colE s5 44 u.1 u.2.1 u.2.2 l → rowE colE s6 44 u.1 u.2.1 u.2.2 l := fun {u l} hr => hr.mod m6 fun x hx hx2 => by
        simp at hx2; subst hx2
        exact ((row_ty hr x hx).ne gJ (by decide)) rfl
      rcases List.mem_or_eq_of_mem_set hq2 with hq2 | rfl
      · exact ⟨keep ((hc4 q2 hq2).1.mod m5 (by simp)), (hc4 q2 hq2).2⟩
      · exact ⟨keep hu5, hcq.2⟩
  · exact ⟨t', la', (ja1, jn, jc), rfl, ⟨ps', qs', hH4, he, hje, hj4, hc4⟩, hl4, m4⟩
theorem c_Save (h : Brd s b P t la ja ps qs) (hn : P.J.length ≤ 1000000) (hnl : P.L.length ≤ 1000000) :
    DCalls Try.prog 34 #[cp b] s fun y s' => ∃ t' la' ja', y = planV P t' la' ja' ∧ Cop s s' P t' la' ja' := by
  refine ok_Save b _ s ?_
  unfold vc_Save
  simp only [RP_ite, RP_call, RP_ret, RP_ld, RP_unSome]
  refine (W.br_iff _ _ _ _).2 ⟨fun e => (by cases e), fun _ => ?_⟩
  simp only [W.unSome_some, add_mk, Nat.zero_add]
  rw [W.ld_at h.blk]
  refine ⟨(P.S.version, P.S.last, t, la, ja, ()), rfl, ?_⟩
  refine W.call_of (c_bCopied h hn hnl) ?_
  rintro _ s1 ⟨t', la', ja', rfl, hc⟩
  refine ⟨((P.S.version, P.S.last, t', la', ja', ()), ()), rfl, ?_⟩
  exact ⟨t', la', ja', rfl, hc⟩
theorem c_bSchema (h : Brd s b P t la ja ps qs) (hn : P.J.length ≤ 1000000) (hnl : P.L.length ≤ 1000000) :
    DCalls Try.prog 36 #[cp b] s fun y s' => ∃ t', y = schV P.S t' ∧ Fw.Mod [] s s' := by
  refine ok_bSchema b _ s ?_
  unfold vc_bSchema
  simp only [RP_call, RP_ret]
  refine W.call_of (c_Save h hn hnl) ?_
  rintro _ s1 ⟨t', la', ja', rfl, hc⟩
  refine ⟨((P.S.version, P.S.last, t', la', ja', ()), ()), rfl, ?_⟩
  exact ⟨t', rfl, hc.mod⟩
abbrev jobV (j : Jb) (u : Tri) : Value := .agg #[.int .i64 j.id, .int .i64 j.call, .int .i64 j.y1, .int .i64 j.y2, .int .i64 j.y3, .int .i64 j.D.kind, .string j.D.table, .string j.D.name, .string j.D.column, .string j.D.parent, .bool j.D.unique, .int .i64 j.D.type,
    .int .i64 j.D.dflt.kind, .int .i64 j.D.dflt.n, .string j.D.dflt.s, .slice u.1 u.2.1 u.2.2, .int .i64 j.phase, .bool j.back, .bool j.drain, .string j.mark, .int .i64 j.fin, .int .i64 j.why]
abbrev noJb : Jb := ⟨0, 0, 0, 0, 0, ⟨0, ⟨#[]⟩, ⟨#[]⟩, ⟨#[]⟩, ⟨#[]⟩, false, 0, ⟨0, 0, ⟨#[]⟩⟩, []⟩, 0, false, false, ⟨#[]⟩, 0, 0⟩
def handV (P : Pl) (u : Tri) : Value := match P.hand with
  | none => .tuple #[jobV noJb noTri, .agg #[.int .i64 0, .int .i64 0], .bool false]
  | some (_, j) => .tuple #[jobV j u, .agg #[.int .i64 (moveOf j).1, .int .i64 (moveOf j).2], .bool true]
abbrev jobD (j : Jb) (u : Tri) : Den [.int .i64, .int .i64, .int .i64, .int .i64, .int .i64, .int .i64, .str, .str, .str, .str, .bool, .int .i64, .int .i64, .int .i64, .str, .slice, .int .i64, .bool, .bool, .str, .int .i64, .int .i64] :=
  (j.id, j.call, j.y1, j.y2, j.y3, j.D.kind, j.D.table, j.D.name, j.D.column, j.D.parent, j.D.unique, j.D.type, j.D.dflt.kind, j.D.dflt.n, j.D.dflt.s, u, j.phase, j.back, j.drain, j.mark, j.fin, j.why, ())
end
end Go.Proofs.Ythepfbcgpbkbdaa
end
section
set_option linter.unusedVariables false
set_option linter.unusedSimpArgs false
set_option maxHeartbeats 400000
set_option maxRecDepth 100000
namespace Go.Proofs.Ythepfbcgpbkbdaa
open Fw Go
attribute [-simp] Fw.W.ld_iff Fw.W.st_iff
theorem setL_full {l : List Value} {cc : Array Value} (h : l.length = cc.size) : setL cc 0 l = l.toArray := by
  apply Array.toList_inj.1
  rw [setL_toList _ _ _ (by omega)]
  simp [h]
section
variable {s : PH} {b : Nat} {P : Pl} {t la ja : Tri} {ps : List TabP} {qs : List JbP}
theorem c_Hand (h : Brd s b P t la ja ps qs) (hok : PlOk P) (hn : P.J.length ≤ 1000000) :
    DCalls Try.prog 31 #[cp b] s fun y s' => ∃ u, y = handV P u ∧ Fw.Mod [] s s' := by
  refine ok_Hand b _ s ?_
  unfold vc_Hand
  obtain ⟨R, hR⟩ : ∃ R : Value → PH → Prop, (fun y s' => ∃ u, y = handV P u ∧ Fw.Mod [] s s') = R := ⟨_, rfl⟩
  rw [hR]
  unfold handV at hR
  simp only [RP_ite, RP_call, RP_callQ, RP_ret, RP_ld, RP_st, RP_nw, RP_unSome, RP_join]
  have hch := c_hand h hn
  obtain ⟨pz, hpz⟩ : ∃ pz, handP ja P = pz := ⟨_, rfl⟩
  rw [hpz] at hch
  unfold handP at hpz
  refine W.join_gen (fun z s' => s' = s ∧ ∃ i j, P.hand = some (i, j)) ?_ ?_
  rotate_left
  · intro J hJ
    refine (W.br_iff _ _ _ _).2 ⟨fun e => (by cases e), fun _ => ?_⟩
    refine callq ((pz, ()), ()) hch rfl ?_
    cases hh : P.hand with
    | none =>
      rw [hh] at hR hpz
      subst hpz
      refine (W.br_iff _ _ _ _).2 ⟨fun _ => ?_, fun e => (by cases e)⟩
      rw [← hR]; exact ⟨noTri, rfl, Mod.refl _ _⟩
    | some p =>
      obtain ⟨i, j⟩ := p
      obtain ⟨hj, hf, _⟩ := hand_some hh
      obtain ⟨g, q, hg, hq, rfl, hhas⟩ := h.at hj
      rw [hh, hg] at hpz
      subst hpz
      refine (W.br_iff _ _ _ _).2 ⟨fun e => (by cases e), fun _ => hJ _ _ ⟨rfl, i, q.j, hh⟩⟩
  rintro z _ ⟨rfl, i, j, hh⟩
  rename_i s
  refine callq ((pz, ()), ()) hch rfl ?_
  rw [hh] at hR hpz
  obtain ⟨hj, hf, _⟩ := hand_some hh
  have hph := hok.ph j (List.mem_of_getElem? hj) hf
  obtain ⟨g, q, hg, hq, rfl, hhas⟩ := h.at hj
  dsimp only at hR
  rw [hg] at hpz
  simp only [Option.map_some, add_mk, Nat.zero_add] at hpz
  subst hpz
  simp only [W.unSome_some]
  refine ld_has_z hhas (y := jobD q.j q.u) rfl ?_
  refine W.nw_of fun r s1 hr m1 k1 => ?_
  have hone : ∀ w ∈ jobE.f q, w.oneCell' = true := jobE.one q
  refine st_blk (c' := (jobE.f q).toArray) k1 (Nat.le_of_ble_eq_true rfl) hone (setL_full rfl) fun s2 e2 => ?_
  have m2 : Fw.Mod [] s s2 := by rw [e2]; exact m1.updLater (.inr hr)
  have k2 : s2 r = some (.cells (jobE.f q).toArray 76 (0, 0)) := by rw [e2]; exact PH.upd_same _ _ _
  clear e2
  simp only [add_mk, Nat.zero_add]
  rw [W.ld_at k2]
  refine ⟨(q.u, ()), rfl, ?_⟩
  have hcq := (h.mod m2).cols q (List.mem_of_getElem? hq)
  refine W.call_of (c_CloneC (Sl.of_row (t := q.u) hcq.1 (by have := hcq.2; omega))) ?_
  rintro _ s3 ⟨u', rfl, hu3, m3, fu⟩
  refine ⟨((u', ()), ()), rfl, ?_⟩
  have k3 := m3.at k2 (by simp)
  simp only [add_mk, Nat.zero_add]
  refine st_blk (c' := (jobE.f ⟨q.j, u'⟩).toArray) k3 (Nat.le_of_ble_eq_true rfl) (one1 rfl) rfl fun s4 e4 => ?_
  have m4 : Fw.Mod [] s s4 := by rw [e4]; exact (m2.trans m3).updLater (.inr hr)
  have k4 : s4 r = some (.cells (jobE.f ⟨q.j, u'⟩).toArray 76 (0, 0)) := by rw [e4]; exact PH.upd_same _ _ _
  clear e4
  have hh4 : s4.has ⟨r, 0, none⟩ (jobE.f ⟨q.j, u'⟩) := has_block k4
  refine ld_has_z hh4 (y := jobD q.j u') rfl ?_
  refine W.callQ_of (((moveOf q.j).1, (moveOf q.j).2, ()), ()) (c_move (q := ⟨q.j, u'⟩) hh4 hph) rfl ?_
  rw [← hR]
  exact ⟨u', rfl, m4⟩
end
end Go.Proofs.Ythepfbcgpbkbdaa
end
section
set_option linter.unusedVariables false
set_option linter.unusedSimpArgs false
set_option maxHeartbeats 2000000
set_option maxRecDepth 100000
namespace Go.Proofs.Ythepfbcgpbkbdaa
open Fw Go
open Go.ChangeShapes Go.WideShapes Go.ChangeAt Go.RowKit Go.Deep
attribute [-simp] Fw.W.ld_iff Fw.W.st_iff
def rdTri : Rd Tri where
  sz := 1
  is _ cs t := cs = [.slice t.1 t.2.1 t.2.2]
  len h := by rw [h]; (first | done | rfl)
  mono _ h := h
theorem opens_tri {P : Program} {t e : TypeId} (ht : P.underlying t = some (.slice e)) (hc : P.cellsOf t = 1) : Opens P t rdTri := by
  refine ⟨hc, ?_⟩
  intro H enc W fuel cs x h hw
  rcases open_slice ht h with ⟨rfl, _⟩ | ⟨a, len, cap, m, n, D, Pl, rfl, _⟩
  · exact ⟨(none, 0, 0), rfl⟩
  · exact ⟨(some a, len, cap), rfl⟩
def rdTid : Rd (Int × Int × Int × Unit) := Rd.pair (Rd.int .i64) (Rd.pair (Rd.int .i64) (Rd.pair (Rd.int .i64) Rd.unit))
theorem opTid : Opens Try.prog 68 rdTid := opens_struct (.cons rfl op3 (.cons rfl op3 (.cons rfl op3 (.nil _)))) Try.underlying68 (by kernel_rfl)
theorem opErr : Opens Try.prog 33 (Rd.int .i64) := opens_int Try.underlying33 (by kernel_rfl)
def rdCmd : Rd CmdP := (Rd.pair (Rd.int .i64) (Rd.pair rdTid (Rd.pair rdTid (Rd.pair (Rd.int .i64) (Rd.pair rdTri (Rd.pair rdTri (Rd.pair (Rd.int .i64) (Rd.pair (Rd.int .i64) (Rd.pair (Rd.int .i64) (Rd.pair (Rd.int .i64) (Rd.pair (Rd.int .i64) (Rd.pair rdDdl (Rd.pair (Rd.int .i64) (Rd.pair (Rd.int .i64) (Rd.pair Rd.str (Rd.pair (Rd.int .i64) Rd.unit)))))))))))))))).map
  fun (kind, (y1, y2, y3, _), (x1, x2, x3, _), ho, r, w, mi, un, ts, ver, call, D, job, phase, mark, why, _) => ⟨⟨kind, y1, y2, y3, ver, call, D, job, phase, mark, why⟩, x1, x2, x3, ho, r, w, mi, un, ts, noTri⟩
theorem opCmd : Opens Try.prog 72 rdCmd := opens_map _ (opens_struct (.cons rfl op3 (.cons rfl opTid (.cons rfl opTid (.cons rfl op3 (.cons rfl (opens_tri Try.underlying69 (by kernel_rfl)) (.cons rfl (opens_tri Try.underlying70 (by kernel_rfl))
  (.cons rfl op3 (.cons rfl op3 (.cons rfl op3 (.cons rfl op3 (.cons rfl op3 (.cons rfl op29 (.cons rfl op3 (.cons rfl op3 (.cons rfl op9 (.cons rfl opErr (.nil _))))))))))))))))) Try.underlying72 (by kernel_rfl))
structure OpB where
  at_ : Int
  k : CmdP
def rdOpB : Rd OpB := (Rd.pair (Rd.int .i64) (Rd.pair rdCmd Rd.unit)).map fun (a, k, _) => ⟨a, k⟩
theorem opOpB : Opens Try.prog 74 rdOpB := opens_map _ (opens_struct (.cons rfl op3 (.cons rfl opCmd (.nil _))) Try.underlying74 (by kernel_rfl))
abbrev CmdP.at (k : CmdP) (u : Tri) : CmdP := ⟨k.c, k.x1, k.x2, k.x3, k.ho, k.r, k.w, k.mi, k.un, k.ts, u⟩
abbrev opCells (o : OpB) (u : Tri) : List Value := [.int .i64 o.at_, .int .i64 o.k.c.kind, .int .i64 o.k.c.y1, .int .i64 o.k.c.y2, .int .i64 o.k.c.y3, .int .i64 o.k.x1, .int .i64 o.k.x2, .int .i64 o.k.x3, .int .i64 o.k.ho, .slice o.k.r.1 o.k.r.2.1 o.k.r.2.2, .slice o.k.w.1 o.k.w.2.1 o.k.w.2.2, .int .i64 o.k.mi, .int .i64 o.k.un, .int .i64 o.k.ts, .int .i64 o.k.c.ver, .int .i64 o.k.c.call,
  .int .i64 o.k.c.D.kind, .string o.k.c.D.table, .string o.k.c.D.name, .string o.k.c.D.column, .string o.k.c.D.parent, .bool o.k.c.D.unique, .int .i64 o.k.c.D.type, .int .i64 o.k.c.D.dflt.kind, .int .i64 o.k.c.D.dflt.n, .string o.k.c.D.dflt.s, .slice u.1 u.2.1 u.2.2, .int .i64 o.k.c.job, .int .i64 o.k.c.phase, .string o.k.c.mark, .int .i64 o.k.c.why]
theorem rdOpB_is {s : PH} {cs : List Value} {o : OpB} (h : rdOpB.is s cs o) : ∃ u : Tri, cs = opCells o u ∧ SlB colE s u o.k.c.D.cols ∧ o.at_ ≤ 9223372036854775807 := by
  obtain ⟨⟨a, k, _⟩, rfl, c1, c2, rfl, ⟨rfl, w1⟩, c3, c4, rfl, ⟨⟨kind, ⟨y1, y2, y3, _⟩, ⟨x1, x2, x3, _⟩, ho, r, w, mi, un, ts, ver, call, D, job, phase, mark, why, _⟩, rfl, d1, d2, rfl, ⟨rfl, _⟩, e1, e2, rfl, ⟨t1, t2, rfl, ⟨rfl, _⟩, t3, t4, rfl, ⟨rfl, _⟩, t5, t6, rfl, ⟨rfl, _⟩, rfl⟩,
    f1, f2, rfl, ⟨v1, v2, rfl, ⟨rfl, _⟩, v3, v4, rfl, ⟨rfl, _⟩, v5, v6, rfl, ⟨rfl, _⟩, rfl⟩, g1, g2, rfl, ⟨rfl, _⟩, h1, h2, rfl, rfl, i1, i2, rfl, rfl, j1, j2, rfl, ⟨rfl, _⟩, k1, k2, rfl, ⟨rfl, _⟩, l1, l2, rfl, ⟨rfl, _⟩, m1, m2, rfl, ⟨rfl, _⟩, n1, n2, rfl, ⟨rfl, _⟩, o1, o2, rfl, hD,
    p1, p2, rfl, ⟨rfl, _⟩, q1, q2, rfl, ⟨rfl, _⟩, r1, r2, rfl, ⟨rfl, _⟩, s1, s2, rfl, ⟨rfl, _⟩, rfl⟩, rfl⟩ := h
  obtain ⟨u, rfl, hu⟩ := rdDdl_is hD
  exact ⟨u, rfl, hu, (wf_i64 w1).2⟩
theorem opB_at {s : PH} {a : Option Addr} {n : Nat} {ops : List OpB} (h : elems rdOpB s a n ops) {i : Nat} {o : OpB} (ho : ops[i]? = some o) : ∃ (ad : Addr) (u : Tri), a = some ad ∧ s.has (ad.add (i * 31)) (opCells o u) ∧ SlB colE s u o.k.c.D.cols ∧ o.at_ ≤ 9223372036854775807 := by
  obtain ⟨ad, cs, h1, h2, h3⟩ := h.2 i o ho
  obtain ⟨u, rfl, hu, hw⟩ := rdOpB_is h2
  exact ⟨ad, u, h1, h3, hu, hw⟩
theorem SlB.mono {α : Type} {E : Enc α} {s s' : PH} {t : Tri} {xs : List α} (h : SlB E s t xs) (hm : s.le s') : SlB E s' t xs := by
  cases h; constructor <;> first | assumption | (rename_i h1 _ _; exact h1.mono hm) | skip
abbrev opD (o : OpB) (u : Tri) : Den [.int .i64, .int .i64, .int .i64, .int .i64, .int .i64, .int .i64, .int .i64, .int .i64, .int .i64, .slice, .slice, .int .i64, .int .i64, .int .i64, .int .i64, .int .i64, .int .i64, .str, .str, .str, .str, .bool, .int .i64, .int .i64, .int .i64, .str, .slice, .int .i64, .int .i64, .str, .int .i64] := (o.at_, cmdD (o.k.at u))
def csum (l : List OpB) : Nat := (l.map fun o => 1 + o.k.c.D.cols.length).sum
theorem csum_snoc {l : List OpB} {i : Nat} {o : OpB} (h : l[i]? = some o) : csum (l.take (i + 1)) = csum (l.take i) + (1 + o.k.c.D.cols.length) := by
  unfold csum; rw [List.take_add_one, h]; simp
theorem csum_at {l : List OpB} {o : OpB} (h : o ∈ l) : 1 + o.k.c.D.cols.length ≤ csum l := by
  induction l with
  | nil => cases h
  | cons x l ih =>
    unfold csum at ih ⊢
    simp only [List.map_cons, List.sum_cons]
    rcases List.mem_cons.1 h with rfl | h
    · omega
    · have := ih h; omega
theorem c_bgreat {s : PH} {a : Option Addr} {n c : Nat} {ops : List OpB} (h : elems rdOpB s a n ops) (hn : n ≤ 1099511627776000) : DCalls Try.prog 29 #[.slice a n c] s fun y s' => (∃ b : Bool, y = .bool b ∧ (b = false → ops.length ≤ 150 ∧ csum ops ≤ 1000)) ∧ s' = s := by
  refine ok_bgreat a n c _ s ?_
  unfold vc_bgreat
  obtain ⟨R, hR⟩ : ∃ R : Value → PH → Prop, (fun y s' => (∃ b : Bool, y = .bool b ∧ (b = false → ops.length ≤ 150 ∧ csum ops ≤ 1000)) ∧ s' = s) = R := ⟨_, rfl⟩
  rw [hR]
  have hl : n = ops.length := h.1
  simp only [RP_ite, RP_ret, RP_guard, RP_loop, RP_unSome, RP_ld]
  refine ⟨fun z s' => ∃ i : Nat, z = (((csum (ops.take i) : Int), ()), ((a, n, c), ()), ((n : Int), ()), ((i : Int), ()), ()) ∧ i ≤ n ∧ csum (ops.take i) ≤ 1000 ∧ s' = s, fun z _ => n - z.2.2.2.1.1.toNat, ⟨0, rfl, Nat.zero_le _, by simp [csum], rfl⟩, ?_⟩
  rintro _ s ⟨i, rfl, hi, hs, rfl⟩
  refine (W.br_iff _ _ _ _).2 ⟨fun hlt => ?_, fun hge => ?_⟩
  · have hlt : (i : Int) < (n : Int) := of_decide_eq_true hlt
    obtain ⟨o, ho⟩ : ∃ o, ops[i]? = some o := ⟨_, List.getElem?_eq_getElem (by omega)⟩
    obtain ⟨ad, u, rfl, hh, hu, _⟩ := opB_at h ho
    have hss := csum_snoc ho
    have hul : u.2.1 = o.k.c.D.cols.length := hu.el.1
    have hub : u.2.1 ≤ 281474976710656 := by have := hu.big; omega
    dsimp only
    refine (W.guard_iff _ _ _).2 ⟨by omega, ?_⟩
    simp only [W.unSome_some, Int.toNat_natCast]
    refine ld_has_z hh (y := opD o u) rfl ?_
    have hw0 : IntKind.i64.wrap ((csum (ops.take i) : Int) + IntKind.i64.wrap (1 + (u.2.1 : Int))) = ((csum (ops.take (i + 1)) : Nat) : Int) := by
      rw [wrap_in (n := 1 + (u.2.1 : Int)) (by omega) (by omega), wrap_in (by omega) (by omega)]; omega
    dsimp only
    rw [hw0]
    refine (W.br_iff _ _ _ _).2 ⟨fun hbig => ?_, fun hbig => ?_⟩
    · rw [← hR]; exact ⟨⟨true, rfl, fun e => by cases e⟩, rfl⟩
    · have hbig : ¬ ((csum (ops.take (i + 1)) : Int) > 1000) := of_decide_eq_false hbig
      rw [wrap_succ (k := i) (by omega)]
      exact ⟨⟨i + 1, rfl, by omega, by omega, rfl⟩, by simp only [Int.toNat_natCast]; omega⟩
  · have hge : ¬ (i : Int) < (n : Int) := of_decide_eq_false hge
    rw [List.take_of_length_le (by omega)] at hs
    rw [← hR]
    refine ⟨⟨_, rfl, fun e => ⟨?_, hs⟩⟩, rfl⟩
    have e : ¬ ((n : Int) > 150) := of_decide_eq_false e
    omega
theorem c_own {s : PH} (k : CmdP) (hu : Sl colE s k.u k.c.D.cols) : DCalls Try.prog 33 #[cmdV k] s fun y s' => ∃ u', y = cmdV (k.at u') ∧ Sl colE s' u' k.c.D.cols ∧ Fw.Mod [] s s' := by
  refine ok_own k.c.kind k.c.y1 k.c.y2 k.c.y3 k.x1 k.x2 k.x3 k.ho k.r.1 k.r.2.1 k.r.2.2 k.w.1 k.w.2.1 k.w.2.2 k.mi k.un k.ts k.c.ver k.c.call k.c.D.kind k.c.D.table k.c.D.name k.c.D.column k.c.D.parent k.c.D.unique k.c.D.type k.c.D.dflt.kind k.c.D.dflt.n k.c.D.dflt.s k.u.1 k.u.2.1 k.u.2.2 k.c.job k.c.phase k.c.mark k.c.why _ s ?_
  unfold vc_own
  have hlen := hu.len
  have hfew := hu.few
  simp only [RP_nw, RP_app, RP_ret]
  refine row_copy (E := colE) (k := k.u.2.1) hu.el.src_enc rfl hlen.symm (by omega) (by omega) rfl ?_
  intro a' c' s' hrow hm hf
  exact ⟨(a', k.u.2.1, c'), rfl, Sl.of_row (t := (a', k.u.2.1, c')) hrow hfew, hm⟩
end Go.Proofs.Ythepfbcgpbkbdaa
end
section
set_option linter.unusedVariables false
set_option linter.unusedSimpArgs false
set_option maxHeartbeats 2000000
set_option maxRecDepth 100000
namespace Go.Proofs.Ythepfbcgpbkbdaa
open Fw Go
attribute [-simp] Fw.W.ld_iff Fw.W.st_iff
theorem do_len (P : Pl) (now : Int) (c : Cm) : (P.do now c).2.J.length ≤ P.J.length + 1 ∧ (P.do now c).2.L.length ≤ P.L.length + 1 := by
  have hset : ∀ (i : Nat) (j : Jb), (P.setJ i j).J.length ≤ P.J.length + 1 ∧ (P.setJ i j).L.length ≤ P.L.length + 1 := fun i j => by
    unfold Pl.setJ; simp
  have h0 : P.J.length ≤ P.J.length + 1 ∧ P.L.length ≤ P.L.length + 1 := ⟨Nat.le_succ _, Nat.le_succ _⟩
  unfold Pl.do
  split
  · exact h0
  split
  · unfold Pl.grant
    split
    · exact h0
    · refine ⟨Nat.le_succ _, ?_⟩
      dsimp only
      rw [List.length_append]
      have := List.length_filter_le (fun x => !(!forceB x now || (decide (x.node = c.y1) && decide (x.ver = P.S.version)))) P.L
      simp only [List.length_cons, List.length_nil]; omega
  split
  · unfold Pl.submit
    split
    · exact h0
    · split
      · exact h0
      · refine ⟨?_, Nat.le_succ _⟩
        dsimp only
        rw [List.length_append]; simp
  split
  · unfold Pl.drain
    split
    · exact h0
    · exact hset _ _
  split
  · unfold Pl.next
    split
    · exact h0
    · split
      · exact h0
      split
      · exact h0
      split
      · split
        · exact hset _ _
        · refine ⟨?_, Nat.le_succ _⟩
          dsimp only
          rw [List.length_set]; omega
      · exact hset _ _
  split
  · unfold Pl.mark
    split
    · exact h0
    · dsimp only
      split <;> exact hset _ _
  · unfold Pl.fail
    split
    · exact h0
    · split
      · exact h0
      · exact hset _ _
theorem PlOk.new : PlOk noPl := ⟨by simp, by simp, by decide, by decide⟩
/-- a board of one's own -/
def BI (s0 s : PH) (b : Nat) (P : Pl) : Prop := ∃ L, BdAt s b P L ∧ (∀ g ∈ L, s0 g = none) ∧ Fw.Mod [] s0 s
section
variable {s0 s s' : PH} {b : Nat} {P : Pl}
theorem BI.mod (h : BI s0 s b P) : Fw.Mod [] s0 s := by obtain ⟨_, _, _, m⟩ := h; exact m
theorem BI.same (h : BI s0 s b P) (hm : Fw.Mod [] s s') : BI s0 s' b P := by
  obtain ⟨L, h1, h2, h3⟩ := h
  exact ⟨L, h1.mod hm, h2, h3.trans hm⟩
theorem BI.do (h : BI s0 s b P) (hok : PlOk P) (hn : P.J.length ≤ 1000000) (hnl : P.L.length ≤ 1000000) (k : CmdP) (hu : Sl colE s k.u k.c.D.cols) (hul : k.c.D.cols.length ≤ 1048576) (now : Int) :
    DCalls Try.prog 32 #[cp b, .int .i64 now, cmdV k] s fun y s' => y = resV (P.do now k.c).1 ∧ BI s0 s' b (P.do now k.c).2 := by
  obtain ⟨L, ⟨t, la, ja, ps, qs, rfl, h1⟩, h2, h3⟩ := h
  refine (c_bDo h1 hok hn hnl k hu hul now).mono ?_
  rintro _ s' ⟨rfl, L', hb, hs⟩
  refine ⟨rfl, L', hb, fun g hg => ?_, h3.fresh hs.mod fun x hx => .inr (h2 x hx)⟩
  rcases hs.new g hg with h4 | h4
  · exact h2 g h4
  · exact h3.none h4 (by simp)
theorem BI.save (h : BI s0 s b P) (hn : P.J.length ≤ 1000000) (hnl : P.L.length ≤ 1000000) :
    DCalls Try.prog 34 #[cp b] s fun y s' => ∃ t' la' ja', y = planV P t' la' ja' ∧ Cop s s' P t' la' ja' ∧ BI s0 s' b P := by
  have h0 := h
  obtain ⟨L, ⟨t, la, ja, ps, qs, rfl, h1⟩, h2, h3⟩ := h
  refine (c_Save h1 hn hnl).mono ?_
  rintro _ s' ⟨t', la', ja', rfl, hc⟩
  exact ⟨t', la', ja', rfl, hc, h0.same hc.mod⟩
theorem BI.schema (h : BI s0 s b P) (hn : P.J.length ≤ 1000000) (hnl : P.L.length ≤ 1000000) :
    DCalls Try.prog 36 #[cp b] s fun y s' => ∃ t', y = schV P.S t' ∧ BI s0 s' b P := by
  have h0 := h
  obtain ⟨L, ⟨t, la, ja, ps, qs, rfl, h1⟩, h2, h3⟩ := h
  refine (c_bSchema h1 hn hnl).mono ?_
  rintro _ s' ⟨t', rfl, hc⟩
  exact ⟨t', rfl, h0.same hc⟩
theorem BI.hand (h : BI s0 s b P) (hok : PlOk P) (hn : P.J.length ≤ 1000000) :
    DCalls Try.prog 31 #[cp b] s fun y s' => ∃ u, y = handV P u ∧ BI s0 s' b P := by
  have h0 := h
  obtain ⟨L, ⟨t, la, ja, ps, qs, rfl, h1⟩, h2, h3⟩ := h
  refine (c_Hand h1 hok hn).mono ?_
  rintro _ s' ⟨u, rfl, hc⟩
  exact ⟨u, rfl, h0.same hc⟩
end
abbrev noD : Ddl := ⟨0, emp, emp, emp, emp, false, 0, ⟨0, 0, emp⟩, []⟩
abbrev mkC (kind y1 y3 job : Int) (D : Ddl) : Cm := ⟨kind, y1, 0, y3, 0, 0, D, job, 0, emp, 0⟩
abbrev mkP (c : Cm) (u : Tri) : CmdP := ⟨c, 0, 0, 0, 0, noTri, noTri, 0, 0, 0, u⟩
def aw1 := noPl.do 5 (mkC 11 2 0 0 noD)
def aw2 := aw1.2.do 5 (mkC 12 0 1 0 exD)
def aw3 := aw2.2.do 6 (mkC 14 0 0 1 noD)
def aw4 := aw3.2.do 6 (mkC 12 0 2 0 exD2)
def aw5 := aw4.2.do 7 (mkC 14 0 0 2 noD)
def aw6 := aw5.2.do 28 (mkC 14 0 0 2 noD)
def aw7 := aw6.2.do 29 (mkC 14 0 0 2 noD)
theorem aw1r : aw1.1 = ⟨0, 0, 25, 0, true⟩ := by kernel_rfl
theorem aw2r : aw2.1 = ⟨0, 0, 0, 1, true⟩ := by kernel_rfl
theorem aw3r : aw3.1 = ⟨0, 1, 0, 0, true⟩ := by kernel_rfl
theorem aw5r : aw5.1.err = 161 := by kernel_rfl
theorem aw6r : aw6.1.err = 161 := by kernel_rfl
theorem aw7r : aw7.1 = ⟨0, 2, 0, 0, true⟩ := by kernel_rfl
theorem c_bawake (s : PH) : DCalls Try.prog 28 #[] s fun y s' => y = .bool true ∧ s' = s := by
  refine DCalls.quiet ?_
  refine ok_bawake _ s ?_
  unfold vc_bawake
  simp only [RP_call, RP_ite, RP_ret]
  refine W.call_of (c_bNew s) ?_
  rintro _ s1 ⟨b, rfl, hB, m1, hb⟩
  refine ⟨((some ⟨b, 0, none⟩, ()), ()), rfl, ?_⟩
  have g0 : BI s s1 b noPl := ⟨[b], hB, by simp [hb], m1⟩
  have l0 : noPl.J.length ≤ 0 ∧ noPl.L.length ≤ 0 := ⟨Nat.le_refl _, Nat.le_refl _⟩
  have ok0 := PlOk.new
  have next : ∀ {P : Pl} {n : Nat} (now : Int) (c : Cm), PlOk P → P.J.length ≤ n ∧ P.L.length ≤ n → PlOk (P.do now c).2 ∧ (P.do now c).2.J.length ≤ n + 1 ∧ (P.do now c).2.L.length ≤ n + 1 := fun {P n} now c hok hl => by
    have := do_len P now c
    exact ⟨hok.do now c, by omega, by omega⟩
  obtain ⟨ok1, l1⟩ : PlOk aw1.2 ∧ aw1.2.J.length ≤ 1 ∧ aw1.2.L.length ≤ 1 := next 5 (mkC 11 2 0 0 noD) ok0 l0
  obtain ⟨ok2, l2⟩ : PlOk aw2.2 ∧ aw2.2.J.length ≤ 2 ∧ aw2.2.L.length ≤ 2 := next 5 (mkC 12 0 1 0 exD) ok1 l1
  obtain ⟨ok3, l3⟩ : PlOk aw3.2 ∧ aw3.2.J.length ≤ 3 ∧ aw3.2.L.length ≤ 3 := next 6 (mkC 14 0 0 1 noD) ok2 l2
  obtain ⟨ok4, l4⟩ : PlOk aw4.2 ∧ aw4.2.J.length ≤ 4 ∧ aw4.2.L.length ≤ 4 := next 6 (mkC 12 0 2 0 exD2) ok3 l3
  obtain ⟨ok5, l5⟩ : PlOk aw5.2 ∧ aw5.2.J.length ≤ 5 ∧ aw5.2.L.length ≤ 5 := next 7 (mkC 14 0 0 2 noD) ok4 l4
  obtain ⟨ok6, l6⟩ : PlOk aw6.2 ∧ aw6.2.J.length ≤ 6 ∧ aw6.2.L.length ≤ 6 := next 28 (mkC 14 0 0 2 noD) ok5 l5
  have d1 := g0.do ok0 (Nat.le_trans l0.1 (by decide)) (Nat.le_trans l0.2 (by decide)) (mkP (mkC 11 2 0 0 noD) noTri) Sl.nil (by decide) 5
  refine W.call_of d1 ?_
  rintro _ s2 ⟨rfl, g1⟩
  have g1 : BI s s2 b aw1.2 := g1
  refine ⟨((aw1.1.err, 0, 0, 0, 0, aw1.1.ver, aw1.1.til, aw1.1.job, aw1.1.new, ()), ()), rfl, ?_⟩
  refine W.call_of (c_Example s2) ?_
  rintro _ s3 ⟨u, rfl, hu, m3⟩
  refine ⟨(ddlD exD u, ()), rfl, ?_⟩
  have d2 := (g1.same m3).do ok1 (Nat.le_trans l1.1 (by decide)) (Nat.le_trans l1.2 (by decide)) (mkP (mkC 12 0 1 0 exD) u) hu (by show exD.cols.length ≤ 1048576; decide) 5
  refine W.call_of d2 ?_
  rintro _ s4 ⟨rfl, g2⟩
  have g2 : BI s s4 b aw2.2 := g2
  refine ⟨((aw2.1.err, 0, 0, 0, 0, aw2.1.ver, aw2.1.til, aw2.1.job, aw2.1.new, ()), ()), rfl, ?_⟩
  have d3 := g2.do ok2 (Nat.le_trans l2.1 (by decide)) (Nat.le_trans l2.2 (by decide)) (mkP (mkC 14 0 0 1 noD) noTri) Sl.nil (by decide) 6
  refine W.call_of d3 ?_
  rintro _ s5 ⟨rfl, g3⟩
  have g3 : BI s s5 b aw3.2 := g3
  refine ⟨((aw3.1.err, 0, 0, 0, 0, aw3.1.ver, aw3.1.til, aw3.1.job, aw3.1.new, ()), ()), rfl, ?_⟩
  have d4 := g3.do ok3 (Nat.le_trans l3.1 (by decide)) (Nat.le_trans l3.2 (by decide)) (mkP (mkC 12 0 2 0 exD2) noTri) Sl.nil (by decide) 6
  refine W.call_of d4 ?_
  rintro _ s6 ⟨rfl, g4⟩
  have g4 : BI s s6 b aw4.2 := g4
  refine ⟨((aw4.1.err, 0, 0, 0, 0, aw4.1.ver, aw4.1.til, aw4.1.job, aw4.1.new, ()), ()), rfl, ?_⟩
  have d5 := g4.do ok4 (Nat.le_trans l4.1 (by decide)) (Nat.le_trans l4.2 (by decide)) (mkP (mkC 14 0 0 2 noD) noTri) Sl.nil (by decide) 7
  refine W.call_of d5 ?_
  rintro _ s7 ⟨rfl, g5⟩
  have g5 : BI s s7 b aw5.2 := g5
  refine ⟨((aw5.1.err, 0, 0, 0, 0, aw5.1.ver, aw5.1.til, aw5.1.job, aw5.1.new, ()), ()), rfl, ?_⟩
  have d6 := g5.do ok5 (Nat.le_trans l5.1 (by decide)) (Nat.le_trans l5.2 (by decide)) (mkP (mkC 14 0 0 2 noD) noTri) Sl.nil (by decide) 28
  refine W.call_of d6 ?_
  rintro _ s8 ⟨rfl, g6⟩
  have g6 : BI s s8 b aw6.2 := g6
  refine ⟨((aw6.1.err, 0, 0, 0, 0, aw6.1.ver, aw6.1.til, aw6.1.job, aw6.1.new, ()), ()), rfl, ?_⟩
  have d7 := g6.do ok6 (Nat.le_trans l6.1 (by decide)) (Nat.le_trans l6.2 (by decide)) (mkP (mkC 14 0 0 2 noD) noTri) Sl.nil (by decide) 29
  refine W.call_of d7 ?_
  rintro _ s9 ⟨rfl, g7⟩
  have g7 : BI s s9 b aw7.2 := g7
  refine ⟨((aw7.1.err, 0, 0, 0, 0, aw7.1.ver, aw7.1.til, aw7.1.job, aw7.1.new, ()), ()), rfl, ?_⟩
  have m9 := g7.mod
  rw [aw1r, aw2r, aw3r, aw5r, aw6r, aw7r]
  refine (W.br_iff _ _ _ _).2 ⟨fun _ => ?_, fun e => (by cases e)⟩
  refine (W.br_iff _ _ _ _).2 ⟨fun _ => ?_, fun e => (by cases e)⟩
  refine (W.br_iff _ _ _ _).2 ⟨fun _ => ?_, fun e => (by cases e)⟩
  refine (W.br_iff _ _ _ _).2 ⟨fun _ => ?_, fun e => (by cases e)⟩
  refine (W.br_iff _ _ _ _).2 ⟨fun _ => ?_, fun e => (by cases e)⟩
  refine (W.br_iff _ _ _ _).2 ⟨fun _ => ⟨rfl, m9⟩, fun e => (by cases e)⟩
end Go.Proofs.Ythepfbcgpbkbdaa
end
section
set_option linter.unusedVariables false
set_option linter.unusedSimpArgs false
set_option maxHeartbeats 2000000
set_option maxRecDepth 100000
namespace Go.Proofs.Ythepfbcgpbkbdaa
open Fw Go
attribute [-simp] Fw.W.ld_iff Fw.W.st_iff
theorem handV_is (P : Pl) (u : Tri) : ∃ jz uz mz okz, handV P u = .tuple #[jobV jz uz, .agg #[.int .i64 mz.1, .int .i64 mz.2], .bool okz] ∧ (okz = true → ∃ i, P.hand = some (i, jz) ∧ mz = moveOf jz) := by
  unfold handV
  cases hh : P.hand with
  | none => exact ⟨noJb, noTri, (0, 0), false, rfl, fun e => by cases e⟩
  | some p => exact ⟨p.2, u, moveOf p.2, true, rfl, fun _ => ⟨p.1, rfl, rfl⟩⟩
abbrev planD (P : Pl) (t la ja : Tri) : Den [.int .i64, .int .i64, .slice, .slice, .slice] := (P.S.version, P.S.last, t, la, ja, ())
def clock (now at_ : Int) : Int := if (if 562949953421312 < at_ then 562949953421312 else at_) > now then (if 562949953421312 < at_ then 562949953421312 else at_) else now
theorem clock_ok {now : Int} (at_ : Int) (h0 : 0 ≤ now) (h1 : now ≤ 562949953421312) : 0 ≤ clock now at_ ∧ clock now at_ ≤ 562949953421312 ∧ now ≤ clock now at_ := by
  unfold clock; split
  · split <;> omega
  · omega
end Go.Proofs.Ythepfbcgpbkbdaa
end
section
set_option linter.unusedVariables false
set_option linter.unusedSimpArgs false
set_option maxHeartbeats 2000000
set_option maxRecDepth 100000
namespace Go.Proofs.Ythepfbcgpbkbdaa
open Fw Go
attribute [-simp] Fw.W.ld_iff Fw.W.st_iff
theorem c_BoardStill {s0 : PH} {a : Option Addr} {n c : Nat} {ops : List OpB} (h : elems rdOpB s0 a n ops) (hn : n ≤ 1099511627776000) : DCalls Try.prog 10 #[.slice a n c] s0 fun y s' => y = .bool true ∧ Fw.Mod [] s0 s' := by
  refine ok_BoardStill a n c _ s0 ?_
  unfold vc_BoardStill
  obtain ⟨R, hR⟩ : ∃ R : Value → PH → Prop, (fun y s' => y = .bool true ∧ Fw.Mod [] s0 s') = R := ⟨_, rfl⟩
  rw [hR]
  have hnl : n = ops.length := h.1
  simp only [RP_ite, RP_ret, RP_guard, RP_loop, RP_unSome, RP_ld, RP_call, RP_join]
  refine W.join_gen (fun z s' => s' = s0 ∧ ops.length ≤ 150 ∧ csum ops ≤ 1000) ?_ ?_
  rotate_left
  · intro J hJ
    refine W.call_of (c_bawake s0) ?_
    rintro _ s1 ⟨rfl, rfl⟩
    refine ⟨((true, ()), ()), rfl, ?_⟩
    refine (W.br_iff _ _ _ _).2 ⟨fun e => (by cases e), fun _ => ?_⟩
    refine W.call_of (c_bgreat h hn) ?_
    rintro _ _ ⟨⟨b, rfl, hb2⟩, rfl⟩
    refine ⟨((b, ()), ()), rfl, ?_⟩
    refine (W.br_iff _ _ _ _).2 ⟨fun e => ?_, fun e => hJ _ _ ⟨rfl, hb2 e⟩⟩
    refine W.call_of (c_bawake _) ?_
    rintro _ _ ⟨rfl, rfl⟩
    refine ⟨((true, ()), ()), rfl, ?_⟩
    rw [← hR]; exact ⟨rfl, Mod.refl _ _⟩
  rintro _ _ ⟨rfl, hlen, hsum⟩
  rename_i s0
  refine W.call_of (c_bNew s0) ?_
  rintro _ s1 ⟨b, rfl, hB, m1, hb⟩
  refine ⟨((some ⟨b, 0, none⟩, ()), ()), rfl, ?_⟩
  have g0 : BI s0 s1 b noPl := ⟨[b], hB, by simp [hb], m1⟩
  refine ⟨fun z s' => ∃ (i : Nat) (now : Int) (P : Pl), z = ((some (Addr.mk b 0 none), ()), (now, ()), ((a, n, c), ()), ((n : Int), ()), ((i : Int), ()), ()) ∧ i ≤ n ∧ BI s0 s' b P ∧ PlOk P ∧ P.J.length ≤ i ∧ P.L.length ≤ i ∧ 0 ≤ now ∧ now ≤ 562949953421312,
    fun z _ => n - z.2.2.2.2.1.1.toNat, ⟨0, 0, noPl, rfl, Nat.zero_le _, g0, PlOk.new, Nat.le_refl _, Nat.le_refl _, Int.le_refl _, by omega⟩, ?_⟩
  clear g0 hB hb m1
  rintro _ s ⟨i, now, P, rfl, hi, hI, hok, hJ, hL, hn0, hn1⟩
  refine (W.br_iff _ _ _ _).2 ⟨fun hlt => ?_, fun hge => ?_⟩
  rotate_left
  · rw [← hR]; exact ⟨rfl, hI.mod⟩
  have hlt : (i : Int) < (n : Int) := of_decide_eq_true hlt
  obtain ⟨o, hoi⟩ : ∃ o, ops[i]? = some o := ⟨_, List.getElem?_eq_getElem (by omega)⟩
  obtain ⟨ad, u, rfl, hh, hu, hat⟩ := opB_at h hoi
  have hcs := csum_at (List.mem_of_getElem? hoi)
  have huS := hu.few (by omega)
  dsimp only
  refine (W.guard_iff _ _ _).2 ⟨by omega, ?_⟩
  simp only [W.unSome_some, Int.toNat_natCast]
  refine ld_has_z (hh.mono hI.mod.le) (y := opD o u) rfl ?_
  refine W.call_of (hI.hand hok (by omega)) ?_
  rintro _ s1 ⟨uh, rfl, hI1⟩
  obtain ⟨jz, uz, mz, okz, hz, hzz⟩ := handV_is P uh
  refine ⟨(jobD jz uz, (mz.1, mz.2, ()), (okz, ()), ()), hz.symm, ?_⟩
  refine W.call_of (hI1.schema (by omega) (by omega)) ?_
  rintro _ s1 ⟨ts, rfl, hI1⟩
  refine ⟨((P.S.version, P.S.last, ts, ()), ()), rfl, ?_⟩
  refine W.call_of (c_own (o.k.at u) (huS.mono hI1.mod.le)) ?_
  rintro _ s2 ⟨u2, rfl, hu2, m2⟩
  refine ⟨(cmdD (o.k.at u2), ()), rfl, ?_⟩
  have hI2 := hI1.same m2
  obtain ⟨c0, c1, c2⟩ := clock_ok (now := now) o.at_ hn0 hn1
  have hd := hI2.do hok (by omega) (by omega) (o.k.at u2) hu2 (by show o.k.c.D.cols.length ≤ _; omega) (clock now o.at_)
  refine W.call_of hd ?_
  obtain ⟨nw, hnw⟩ : ∃ nw, clock now o.at_ = nw := ⟨_, rfl⟩
  have hclk : (if (if 562949953421312 < o.at_ then 562949953421312 else o.at_) > now then (if 562949953421312 < o.at_ then 562949953421312 else o.at_) else now) = nw := hnw
  rw [hnw] at c0 c1 c2
  have hdl := do_len P nw o.k.c
  have hok' := hok.do nw o.k.c
  have hst : ∀ i j, P.hand = some (i, j) → (moveOf j).1 = 2 → (P.do nw o.k.c).2.S.version ≠ P.S.version → ∀ l ∈ (P.do nw o.k.c).2.L, forceB l nw = false := fun i j h1 h2 h3 => do_still hok h1 h2 h3
  rintro _ s3 ⟨rfl, hI3⟩
  dsimp only
  have hnw' : clock now o.at_ = nw := hnw
  rw [hnw'] at hI3 ⊢
  rw [hclk]
  obtain ⟨rs, P', hrP⟩ : ∃ rs P', P.do nw o.k.c = (rs, P') := ⟨_, _, rfl⟩
  have hI3 : BI s0 s3 b (P.do nw o.k.c).2 := hI3
  rw [hrP] at hdl hok' hst hI3
  dsimp only at hdl hok' hst hI3
  refine ⟨((rs.err, 0, 0, 0, 0, rs.ver, rs.til, rs.job, rs.new, ()), ()), by rw [show P.do nw (o.k.at u2).c = (rs, P') from hrP]; (first | done | rfl), ?_⟩
  have hw1 : IntKind.i64.wrap ((i : Int) + 1) = ((i + 1 : Nat) : Int) := wrap_succ (k := i) (by omega)
  refine W.join_gen (fun z s' => z = ((some (Addr.mk b 0 none), ()), (nw, ()), ((some ad, n, c), ()), ((n : Int), ()), ((i : Int), ()), ()) ∧ BI s0 s' b P' ∧ ∀ l ∈ P'.L, forceB l nw = false) ?_ ?_
  rotate_left
  · intro J hJ
    refine W.call_of (hI3.schema (by omega) (by omega)) ?_
    rintro _ s4 ⟨ts2, rfl, hI4⟩
    refine ⟨((P'.S.version, P'.S.last, ts2, ()), ()), rfl, ?_⟩
    dsimp only
    rw [hw1]
    refine (W.br_iff _ _ _ _).2 ⟨fun e1 => ?_, fun e1 => (W.br_iff _ _ _ _).2 ⟨fun e2 => ?_, fun e2 => (W.br_iff _ _ _ _).2 ⟨fun e3 => ?_, fun e3 => (W.br_iff _ _ _ _).2 ⟨fun e4 => ?_, fun e4 => hJ _ _ ⟨rfl, hI4, ?_⟩⟩⟩⟩⟩
    · exact ⟨⟨i + 1, nw, P', rfl, by omega, hI4, hok', by omega, by omega, c0, c1⟩, by simp only [Int.toNat_natCast]; omega⟩
    · exact ⟨⟨i + 1, nw, P', rfl, by omega, hI4, hok', by omega, by omega, c0, c1⟩, by simp only [Int.toNat_natCast]; omega⟩
    · exact ⟨⟨i + 1, nw, P', rfl, by omega, hI4, hok', by omega, by omega, c0, c1⟩, by simp only [Int.toNat_natCast]; omega⟩
    · exact ⟨⟨i + 1, nw, P', rfl, by omega, hI4, hok', by omega, by omega, c0, c1⟩, by simp only [Int.toNat_natCast]; omega⟩
    · have e1 : (!okz) = false := e1
      have e1 : okz = true := by cases okz <;> simp_all
      obtain ⟨ih, h1, h2⟩ := hzz e1
      have e2 : (mz.1 != 2) = false := e2
      have e2 : mz.1 = 2 := by simpa using e2
      have e3 : (P'.S.version == P.S.version) = false := e3
      have e3 : P'.S.version ≠ P.S.version := by simpa using e3
      exact hst ih jz h1 (by rw [← h2]; exact e2) e3
  rintro _ s3 ⟨rfl, hI3, hall⟩
  refine W.call_of (hI3.save (by omega) (by omega)) ?_
  rintro _ s4 ⟨t', la', ja', rfl, hc, hI4⟩
  refine ⟨(planD P' t' la' ja', ()), rfl, ?_⟩
  obtain ⟨la1, ln, lc⟩ := la'
  have hlr := hc.lrow
  have hll := hlr.len
  dsimp only at hlr hll
  have hv0 := hok'.v0
  refine ⟨fun z s' => ∃ k : Nat, z = ((some (Addr.mk b 0 none), ()), (nw, ()), ((some ad, n, c), ()), ((n : Int), ()), ((i : Int), ()), ((la1, ln, lc), ()), ((ln : Int), ()), ((k : Int), ()), ()) ∧ k ≤ ln ∧ s' = s4, fun z _ => ln - z.2.2.2.2.2.2.2.1.1.toNat, ⟨0, rfl, Nat.zero_le _, rfl⟩, ?_⟩
  rintro _ _ ⟨k, rfl, hk, rfl⟩
  rename_i s4
  refine (W.br_iff _ _ _ _).2 ⟨fun hkl => ?_, fun hkl => ?_⟩
  · have hkl : (k : Int) < (ln : Int) := of_decide_eq_true hkl
    obtain ⟨l, hl⟩ : ∃ l, P'.L[k]? = some l := ⟨_, List.getElem?_eq_getElem (by omega)⟩
    have hlm := List.mem_of_getElem? hl
    obtain ⟨g, rfl, hlh⟩ := hlr.at hl
    dsimp only
    refine (W.guard_iff _ _ _).2 ⟨by omega, ?_⟩
    simp only [W.unSome_some, Int.toNat_natCast, add_mk, Nat.zero_add]
    have hlh' : s4.has ⟨g, k * 3, none⟩ (lseE.f l) := hlh
    refine ld_has_z hlh' (y := (l.node, l.ver, l.til, ())) rfl ?_
    have hagain : (fun (x' : MDen [(false, [CT.ptr]), (false, [CT.int .i64]), (false, [CT.slice]), (false, [CT.int .i64]), (false, [CT.int .i64]), (false, [CT.slice]), (false, [CT.int .i64]), (false, [CT.int .i64])]) s' => (∃ k : Nat, x' = ((some (Addr.mk b 0 none), ()), (nw, ()), ((some ad, n, c), ()), ((n : Int), ()), ((i : Int), ()), ((some ⟨g, 0, none⟩, ln, lc), ()), ((ln : Int), ()), ((k : Int), ()), ()) ∧ k ≤ ln ∧ s' = s4) ∧ ln - x'.2.2.2.2.2.2.2.1.1.toNat < ln - (k : Int).toNat)
        ((some (Addr.mk b 0 none), ()), (nw, ()), ((some ad, n, c), ()), ((n : Int), ()), ((i : Int), ()), ((some ⟨g, 0, none⟩, ln, lc), ()), ((ln : Int), ()), (((k + 1 : Nat) : Int), ()), ()) s4 :=
      ⟨⟨k + 1, rfl, by omega, rfl⟩, by simp only [Int.toNat_natCast]; omega⟩
    have hfo := hall l hlm
    refine callq ((forceB l nw, ()), ()) (c_rForce l nw _) rfl ?_
    rw [hfo]
    refine (W.br_iff _ _ _ _).2 ⟨fun e => (by cases e), fun _ => ?_⟩
    rw [wrap_succ (k := k) (by omega)]
    exact hagain
  · dsimp only
    rw [hw1]
    exact ⟨⟨i + 1, nw, P', rfl, by omega, hI4, hok', by omega, by omega, c0, c1⟩, by simp only [Int.toNat_natCast]; omega⟩
end Go.Proofs.Ythepfbcgpbkbdaa
end
