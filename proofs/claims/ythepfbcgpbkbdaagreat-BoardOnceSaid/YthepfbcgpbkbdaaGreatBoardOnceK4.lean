/-
  Part 4 for the law: texts of this session's own, those parts that the claim needs, one behind the other.
  Conditions: none; it proves no statement by itself.
-/
import Derived.Test.YthepfbcgpbkbdaaGreatBoardOnceK3
set_option linter.unusedVariables false
set_option linter.unusedSectionVars false
set_option linter.unusedSimpArgs false
section
set_option linter.unusedVariables false
set_option linter.unusedSimpArgs false
set_option maxHeartbeats 1000000
set_option maxRecDepth 100000
namespace Go.Proofs.YthepfbcgpbkbdaaGreat
open Fw Go
attribute [-simp] Fw.W.ld_iff Fw.W.st_iff
def movE : Enc (Int × Int) where
  sz := 2
  f m := [.int .i64 m.1, .int .i64 m.2]
  len _ := rfl
  one p v hv := by simp at hv; rcases hv with rfl | rfl <;> rfl
  pos := by omega
def pairs : List Int → List (Int × Int)
  | x :: y :: l => (x, y) :: pairs l
  | _ => []
theorem row_lit {α : Type} {E : Enc α} {s : PH} {r n : Nat} {cur : Array Value} {e : TypeId} {xs : List α} (h : s r = some (.cells cur e (0, 0))) (hc : cur.toList = xs.flatMap E.f) (hn : xs.length = n) (hl : n ≤ 1000) : rowE E s e (some ⟨r, 0, none⟩) n n xs := by
  have hmax : maxLen = 9223372036854775807 := rfl
  have hlen := flat_len (E := E) xs
  rw [hn] at hlen
  have hsz : cur.size = n * E.sz := by rw [← Array.length_toList, hc, hlen]
  exact ⟨hlen, Nat.le_refl _, by omega, .inr ⟨r, cur, rfl, h, by omega, by rw [hc, ← hlen, List.take_length]⟩⟩
theorem pairs_len : ∀ (l : List Int), (pairs l).length ≤ l.length
  | [] => by simp [pairs]
  | [a] => by simp [pairs]
  | a :: b :: l => by have := pairs_len l; simp only [pairs, List.length_cons]; omega
def pathL (kind : Int) (back : Bool) : List Int :=
  if back = true then (if kind = 2 then [1, 1, 3, 0, 5, 0, 1, 0] else if kind = 4 then [1, 1, 1, 0] else if kind = 6 then [1, 0] else [])
  else if kind = 1 then [1, 3] else if kind = 2 then [1, 1, 1, 2, 3, 0, 4, 0, 1, 3] else if kind = 3 then [1, 2, 1, 1, 3, 0, 5, 0, 1, 0] else if kind = 4 then [1, 1, 1, 2, 3, 0, 4, 0, 2, 3]
  else if kind = 5 then [2, 2, 1, 1, 1, 0] else if kind = 6 then [1, 2, 3, 0, 4, 0, 1, 3] else if kind = 7 then [1, 0] else []
def PathIs (s : PH) (kind : Int) (back : Bool) (y : Value) (s' : PH) : Prop := ∃ u : Tri, y = u.v ∧ rowE movE s' 61 u.1 u.2.1 u.2.2 (pairs (pathL kind back)) ∧ Fw.Mod [] s s'
theorem c_bump (state : Int) (s : PH) : DCalls Tryz.prog 93 #[.int .i64 state] s fun y s' => y = .agg #[.int .i64 1, .int .i64 state] ∧ s' = s := by
  refine ok_bump state _ s ?_
  unfold vc_bump
  simp
theorem bump_V {s : PH} {n : Int} {k : MDen [(true, [.int .i64, .int .i64])] → W.T} (hk : k ((1, n, ()), ()) s) : W.callV Tryz.prog (.func (.func 93) #[] #[]) #[.int .i64 n] (false, [(true, [.int .i64, .int .i64])]) k s := by
  refine callV_of' (cap := #[]) Tryz.func93 rfl (by kernel_rfl) (c_bump n s) ?_
  rintro _ s' ⟨rfl, rfl⟩
  exact ⟨((1, n, ()), ()), rfl, hk⟩
theorem c_Path (D : Ddl) (u : Tri) (back : Bool) (s : PH) : DCalls Tryz.prog 62 #[ddlV D u, .bool back] s (PathIs s D.kind back) := by
  obtain ⟨ua, un, uc⟩ := u
  refine ok_Path D.kind D.table D.name D.column D.parent D.unique D.type D.dflt.kind D.dflt.n D.dflt.s ua un uc back _ s ?_
  unfold vc_Path
  obtain ⟨kind, hkind⟩ : ∃ k, D.kind = k := ⟨_, rfl⟩
  rw [hkind]
  simp only [RP_join, RP_ite, RP_call, RP_callQ, RP_callV, RP_ret, RP_nw, RP_app, RP_st, RP_ld, RP_unSome, RP_guard, RP_loop, W.unSome_some]
  have go : ∀ (l : List (Int × Int)) (cur : Array Value) (n : Nat), cur.toList = l.flatMap movE.f → l.length = n → n ≤ 1000 → pairs (pathL kind back) = l → W.nw (.cells cur 61 (0, 0)) (fun r => W.ret (PathIs s kind back) (.slice (some ⟨r, 0, none⟩) n n)) s :=
    fun l cur n h1 h2 h3 h4 => W.nw_of fun r s1 hr m1 k1 => ⟨(some ⟨r, 0, none⟩, n, n), rfl, by rw [h4]; exact row_lit k1 h1 h2 h3, m1⟩
  have none_ : pathL kind back = [] → PathIs s kind back (.slice none 0 0) s := fun h => ⟨noTri, rfl, by rw [h]; exact rowE.nil, Mod.refl _ _⟩
  refine W.join_gen (fun z s' => z = ((kind, D.table, D.name, D.column, D.parent, D.unique, D.type, D.dflt.kind, D.dflt.n, D.dflt.s, (ua, un, uc), ()), (.func (.func 93) #[] #[], ()), (3, 0, ()), (4, 0, ()), (5, 0, ()), ()) ∧ s' = s ∧ back = false) ?_ ?_
  rotate_left
  · intro J hJ
    refine W.join_gen (fun z s' => z = ((kind, D.table, D.name, D.column, D.parent, D.unique, D.type, D.dflt.kind, D.dflt.n, D.dflt.s, (ua, un, uc), ()), (.func (.func 93) #[] #[], ()), (3, 0, ()), (4, 0, ()), (5, 0, ()), (back && decide (kind = 2), ()), ()) ∧ s' = s) ?_ ?_
    rotate_left
    · intro J1 hJ1
      refine (W.br_iff _ _ _ _).2 ⟨fun hb => hJ1 _ _ ⟨by rw [hb, beq_dec]; (first | done | rfl), rfl⟩, fun hb => hJ1 _ _ ⟨by rw [hb]; (first | done | rfl), rfl⟩⟩
    rintro _ s0 ⟨rfl, rfl⟩
    refine (W.br_iff _ _ _ _).2 ⟨fun h2 => ?_, fun h2 => ?_⟩
    · have h2 : (back && decide (kind = 2)) = true := h2
      simp only [Bool.and_eq_true, decide_eq_true_eq] at h2
      refine bump_V (bump_V ?_)
      exact go [(1, 1), (3, 0), (5, 0), (1, 0)] _ 4 rfl rfl (by omega) (by rw [h2.1, h2.2]; (first | done | rfl))
    have h2 : ¬ (back = true ∧ kind = 2) := by
      have h2 : (back && decide (kind = 2)) = false := h2
      intro e; rw [e.1, e.2] at h2; cases h2
    refine W.join_gen (fun z s' => z = ((kind, D.table, D.name, D.column, D.parent, D.unique, D.type, D.dflt.kind, D.dflt.n, D.dflt.s, (ua, un, uc), ()), (.func (.func 93) #[] #[], ()), (3, 0, ()), (4, 0, ()), (5, 0, ()), (back && decide (kind = 4), ()), ()) ∧ s' = s0) ?_ ?_
    rotate_left
    · intro J1 hJ1
      refine (W.br_iff _ _ _ _).2 ⟨fun hb => hJ1 _ _ ⟨by rw [hb, beq_dec]; (first | done | rfl), rfl⟩, fun hb => hJ1 _ _ ⟨by rw [hb]; (first | done | rfl), rfl⟩⟩
    rintro _ s1 ⟨rfl, rfl⟩
    refine (W.br_iff _ _ _ _).2 ⟨fun h4 => ?_, fun h4 => ?_⟩
    · have h4 : (back && decide (kind = 4)) = true := h4
      simp only [Bool.and_eq_true, decide_eq_true_eq] at h4
      refine bump_V (bump_V ?_)
      exact go [(1, 1), (1, 0)] _ 2 rfl rfl (by omega) (by rw [h4.1, h4.2]; (first | done | rfl))
    have h4 : ¬ (back = true ∧ kind = 4) := by
      have h4 : (back && decide (kind = 4)) = false := h4
      intro e; rw [e.1, e.2] at h4; cases h4
    refine (W.br_iff _ _ _ _).2 ⟨fun hb => ?_, fun hb => ?_⟩
    · refine (W.br_iff _ _ _ _).2 ⟨fun h6 => ?_, fun h6 => ?_⟩
      · have h6 : kind = 6 := by simpa using h6
        refine bump_V ?_
        exact go [(1, 0)] _ 1 rfl rfl (by omega) (by rw [hb, h6]; (first | done | rfl))
      · have h6 : kind ≠ 6 := by simpa using h6
        refine (W.br_iff _ _ _ _).2 ⟨fun _ => none_ ?_, fun e => by rw [hb] at e; cases e⟩
        unfold pathL
        rw [if_pos hb, if_neg (fun e => h2 ⟨hb, e⟩), if_neg (fun e => h4 ⟨hb, e⟩), if_neg h6]
    · refine (W.br_iff _ _ _ _).2 ⟨fun e => (by rw [hb] at e; cases e), fun _ => hJ _ _ ⟨rfl, rfl, hb⟩⟩
  rintro _ s0 ⟨rfl, rfl, hb⟩
  simp only [W.br_iff]
  refine ⟨fun h1 => ?_, fun h1 => ⟨fun h2 => ?_, fun h2 => ⟨fun h3 => ?_, fun h3 => ⟨fun h4 => ?_, fun h4 => ⟨fun h5 => ?_, fun h5 => ⟨fun h6 => ?_, fun h6 => ⟨fun h7 => ?_, fun h7 => ?_⟩⟩⟩⟩⟩⟩⟩
  · exact bump_V (go [(1, 3)] _ 1 rfl rfl (by omega) (by have h1 : kind = 1 := by simpa using h1
                                                         rw [hb, h1]; (first | done | rfl)))
  · exact bump_V (bump_V (bump_V (go [(1, 1), (1, 2), (3, 0), (4, 0), (1, 3)] _ 5 rfl rfl (by omega) (by have h2 : kind = 2 := by simpa using h2
                                                                                                         rw [hb, h2]; (first | done | rfl)))))
  · exact bump_V (bump_V (bump_V (go [(1, 2), (1, 1), (3, 0), (5, 0), (1, 0)] _ 5 rfl rfl (by omega) (by have h2 : kind = 3 := by simpa using h3
                                                                                                         rw [hb, h2]; (first | done | rfl)))))
  · exact bump_V (bump_V (go [(1, 1), (1, 2), (3, 0), (4, 0), (2, 3)] _ 5 rfl rfl (by omega) (by have h2 : kind = 4 := by simpa using h4
                                                                                                 rw [hb, h2]; (first | done | rfl))))
  · exact bump_V (bump_V (go [(2, 2), (1, 1), (1, 0)] _ 3 rfl rfl (by omega) (by have h2 : kind = 5 := by simpa using h5
                                                                                 rw [hb, h2]; (first | done | rfl))))
  · exact bump_V (bump_V (go [(1, 2), (3, 0), (4, 0), (1, 3)] _ 4 rfl rfl (by omega) (by have h2 : kind = 6 := by simpa using h6
                                                                                         rw [hb, h2]; (first | done | rfl))))
  · exact bump_V (go [(1, 0)] _ 1 rfl rfl (by omega) (by have h2 : kind = 7 := by simpa using h7
                                                         rw [hb, h2]; (first | done | rfl)))
  · refine none_ ?_
    simp at h1 h2 h3 h4 h5 h6 h7
    unfold pathL
    rw [if_neg (by rw [hb]; simp), if_neg h1, if_neg h2, if_neg h3, if_neg h4, if_neg h5, if_neg h6, if_neg h7]
end Go.Proofs.YthepfbcgpbkbdaaGreat
end
section
set_option linter.unusedVariables false
set_option linter.unusedSimpArgs false
set_option maxHeartbeats 1000000
set_option maxRecDepth 100000
namespace Go.Proofs.YthepfbcgpbkbdaaGreat
open Fw Go
attribute [-simp] Fw.W.ld_iff Fw.W.st_iff
def stC (T : Tab) (name : ByteArray) : Int := if colAt T name < 0 then 0 else match T.cols[(colAt T name).toNat]? with | some x => x.state | none => 0
def stX (T : Tab) (name : ByteArray) : Int := if idxAt T name < 0 then 0 else match T.idxs[(idxAt T name).toNat]? with | some x => x.state | none => 0
def stF (T : Tab) (name : ByteArray) : Int := if keyAt T name < 0 then 0 else match T.keys[(keyAt T name).toNat]? with | some x => x.state | none => 0
def stateOf (S : Sch) (D : Ddl) : Int :=
  if D.kind = 1 then (if tabAt S D.table < 0 then 0 else 3)
  else if tabAt S D.table < 0 then 0
  else match S.tabs[(tabAt S D.table).toNat]? with
  | none => 0
  | some T => if D.kind = 4 ∨ D.kind = 5 then stC T D.column else if D.kind = 2 ∨ D.kind = 3 then stX T D.name else stF T D.name
end Go.Proofs.YthepfbcgpbkbdaaGreat
end
section
set_option linter.unusedVariables false
set_option linter.unusedSimpArgs false
set_option maxHeartbeats 1000000
set_option maxRecDepth 100000
namespace Go.Proofs.YthepfbcgpbkbdaaGreat
open Fw Go
attribute [-simp] Fw.W.ld_iff Fw.W.st_iff
def withoutT (T : Tab) (D : Ddl) : Tab :=
  { T with cols := if (D.kind = 4 ∨ D.kind = 5) ∧ 0 ≤ colAt T D.column then T.cols.eraseIdx (colAt T D.column).toNat else T.cols
           idxs := if (D.kind = 2 ∨ D.kind = 3) ∧ 0 ≤ idxAt T D.name then T.idxs.eraseIdx (idxAt T D.name).toNat else T.idxs
           keys := if 6 ≤ D.kind ∧ 0 ≤ keyAt T D.name then T.keys.eraseIdx (keyAt T D.name).toNat else T.keys }
def outOf (D : Ddl) (T : Tab) : List Tab := if T.name ≠ D.table then [T] else if D.kind = 1 then [] else [withoutT T D]
def Sch.without (S : Sch) (D : Ddl) : Sch := ⟨0, 0, S.tabs.flatMap (outOf D)⟩
end Go.Proofs.YthepfbcgpbkbdaaGreat
end
section
set_option linter.unusedVariables false
set_option linter.unusedSimpArgs false
set_option maxHeartbeats 1000000
set_option maxRecDepth 100000
namespace Go.Proofs.YthepfbcgpbkbdaaGreat
open Fw Go
attribute [-simp] Fw.W.ld_iff Fw.W.st_iff
theorem Own.off {s : PH} {p : TabP} (h : Own s p) {a : Option Addr} {n c : Nat} {ps : List TabP} (hr : rowE tabE s 139 a n c ps) : ∀ g ∈ p.L, g ∉ Fw.blk a := by
  have ty : ∀ {α : Type} {E : Enc α} {e : TypeId} {a : Option Addr} {n c : Nat} {xs : List α}, rowE E s e a n c xs → ∀ g ∈ Fw.blk a, ∃ cur, s g = some (.cells cur e (0, 0)) := by
    intro α E e a n c xs hr g hg
    rcases hr.shape with ⟨h0, _⟩ | ⟨g', hg'⟩
    · rw [h0] at hg; simp [Fw.blk] at hg
    · have : g = g' := by rw [hg'] at hg; simpa [Fw.blk] using hg
      subst this
      exact hr.ty hg'
  have ne : ∀ {g : Nat} {e e' : TypeId}, (∃ cur, s g = some (.cells cur e (0, 0))) → (∃ cur, s g = some (.cells cur e' (0, 0))) → e = e' := by
    rintro g e e' ⟨c1, h1⟩ ⟨c2, h2⟩
    rw [h1] at h2; cases h2; (first | done | rfl)
  intro g hg hg2
  simp only [TabP.L, List.mem_append] at hg
  rcases hg with hg | hg | hg
  · exact absurd (ne (ty h.c g hg) (ty hr g hg2)) (by decide)
  · exact absurd (ne (ty h.x g hg) (ty hr g hg2)) (by decide)
  · exact absurd (ne (ty h.k g hg) (ty hr g hg2)) (by decide)
end Go.Proofs.YthepfbcgpbkbdaaGreat
end
section
set_option linter.unusedVariables false
set_option linter.unusedSimpArgs false
set_option maxHeartbeats 1000000
set_option maxRecDepth 100000
namespace Go.Proofs.YthepfbcgpbkbdaaGreat
open Fw Go
attribute [-simp] Fw.W.ld_iff Fw.W.st_iff
/-- a schema, and where its tables lie -/
structure SchP where
  S : Sch
  t : Tri
/-- the heap without what lies in the blocks -/
def hid (L : List Nat) (s : PH) : PH := fun k => if k ∈ L then none else s k
theorem hid_le (L : List Nat) (s : PH) : (hid L s).le s := fun b o h => by
  unfold hid at h
  split at h
  · cases h
  · exact h
theorem hid_step {L L' : List Nat} {s s' : PH} (m : Fw.Mod L s s') (hL : ∀ g ∈ L', g ∈ L ∨ s g = none) : (hid L s).le (hid L' s') := fun b o h => by
  unfold hid at h ⊢
  split at h
  · cases h
  · rename_i hb
    have hk : s b ≠ none := by rw [h]; simp
    rw [if_neg (fun e => by rcases hL b e with e | e; exact hb e; exact hk e), m b hk hb]; exact h
/-- schemas that can be read beside the list's own block -/
def Read (s : PH) (a : Option Addr) (p : SchP) : Prop := ∃ ps, SchIs (hid (Fw.blk a) s) p.t p.S ps
theorem Read.is {s : PH} {a : Option Addr} {p : SchP} (h : Read s a p) : ∃ ps, SchIs s p.t p.S ps := by
  obtain ⟨ps, hp⟩ := h
  exact ⟨ps, hp.mono (hid_le _ _)⟩
theorem Read.step {s s' : PH} {a a' : Option Addr} {p : SchP} (h : Read s a p) (m : Fw.Mod (Fw.blk a) s s') (hL : ∀ g ∈ Fw.blk a', g ∈ Fw.blk a ∨ s g = none) : Read s' a' p := by
  obtain ⟨ps, hp⟩ := h
  exact ⟨ps, hp.mono (hid_step m hL)⟩
end Go.Proofs.YthepfbcgpbkbdaaGreat
end
section
set_option linter.unusedVariables false
set_option linter.unusedSimpArgs false
set_option maxHeartbeats 1000000
set_option maxRecDepth 100000
namespace Go.Proofs.YthepfbcgpbkbdaaGreat
open Fw Go
theorem turn_ok {S S' : Sch} {D : Ddl} {st : Int} (h : S.turn D st = (S', 0)) : right S = true ∧ 0 ≤ st ∧ st ≤ 3 ∧ 1 ≤ D.kind ∧ D.kind ≤ 7 ∧ turn1 { S with version := S.version + 1 } D st = .ok S' := by
  unfold Sch.turn at h
  by_cases hr : (right S && (decide (0 ≤ st) && decide (st ≤ 3))) = false
  · rw [if_pos hr] at h
    have : (100 : Int) = 0 := congrArg Prod.snd h
    omega
  rw [if_neg hr] at h
  by_cases hk : D.kind < 1 ∨ 7 < D.kind
  · rw [if_pos hk] at h
    have : (1 : Int) = 0 := congrArg Prod.snd h
    omega
  rw [if_neg hk] at h
  have hr : (right S && (decide (0 ≤ st) && decide (st ≤ 3))) = true := by
    cases e : (right S && (decide (0 ≤ st) && decide (st ≤ 3)))
    · exact absurd e hr
    · rfl
  simp only [Bool.and_eq_true, decide_eq_true_eq] at hr
  cases e : turn1 { S with version := S.version + 1 } D st with
  | error n =>
    rw [e] at h
    have := congrArg Prod.snd h
    exact absurd this (turn1_err _ _ _ n e)
  | ok S2 =>
    rw [e] at h
    have := congrArg Prod.fst h
    subst this
    exact ⟨hr.1, hr.2.1, hr.2.2, by omega, by omega, rfl⟩
def Res.All (P : Sch → Prop) (r : Res) : Prop := ∀ S', r = .ok S' → P S'
theorem all_ite {P : Sch → Prop} {c : Prop} [Decidable c] {a b : Res} (ha : c → a.All P) (hb : ¬ c → b.All P) : Res.All P (if c then a else b) := by
  by_cases h : c
  · rw [if_pos h]; exact ha h
  · rw [if_neg h]; exact hb h
theorem all_e {P : Sch → Prop} {e : Int} : Res.All P (.error e) := fun S' h' => by cases h'
theorem all_o {P : Sch → Prop} {S : Sch} (h : P S) : Res.All P (.ok S) := fun e' h' => by cases h'; exact h
/-- a change leaves the version, but for its one step -/
theorem turn1_version (S : Sch) (D : Ddl) (st : Int) : (turn1 S D st).All fun S' => S'.version = S.version := by
  unfold turn1 createTurn colTurn idxTurn keyTurn
  repeat' (first | (refine all_ite (fun _ => ?_) (fun _ => ?_)) | exact all_e | exact all_o rfl | split)
end Go.Proofs.YthepfbcgpbkbdaaGreat
end
section
set_option linter.unusedVariables false
set_option linter.unusedSimpArgs false
set_option maxHeartbeats 1000000
set_option maxRecDepth 100000
namespace Go.Proofs.YthepfbcgpbkbdaaGreat
open Fw Go
/-- names that may be, each there once -/
def NamesOk {α : Type} (f : α → ByteArray) (l : List α) : Prop := (∀ x ∈ l, named (f x) = true) ∧ (l.map f).Nodup
theorem nod_once {α β : Type} [DecidableEq β] {f : α → β} {l : List α} : (l.map f).Nodup ↔ ∀ (i : Nat) (x : α), l[i]? = some x → seek (fun y : α => decide (f y = f x)) l 0 = (i : Int) := by
  constructor
  · intro h i x hx
    rcases seek_cases (fun y : α => decide (f y = f x)) l with ⟨_, e⟩ | ⟨j, y, e, hy, hp, hmin⟩
    · have := e x (List.mem_of_getElem? hx)
      simp at this
    · rw [e]
      have hp : f y = f x := of_decide_eq_true hp
      obtain ⟨hi1, hi2⟩ := List.getElem?_eq_some_iff.1 hx
      obtain ⟨hj1, hj2⟩ := List.getElem?_eq_some_iff.1 hy
      have := (List.getElem_inj (i := j) (j := i) (h₀ := by simpa using hj1) (h₁ := by simpa using hi1) h).1 (by simp only [List.getElem_map, hi2, hj2, hp])
      omega
  · intro h
    rw [List.Nodup, List.pairwise_iff_getElem]
    intro i j hi hj hij e
    simp only [List.getElem_map] at e
    simp only [List.length_map] at hi hj
    have h1 := h i l[i] (by simp)
    have h2 := h j l[j] (by simp)
    rw [e] at h1
    rw [h1] at h2
    omega
theorem namesC_iff {l : List Col} : allI (nameC l) l = true ↔ NamesOk Col.name l := by
  rw [allI_iff]
  unfold NamesOk
  rw [nod_once]
  constructor
  · intro h
    refine ⟨fun x hx => ?_, fun i x hx => ?_⟩
    · obtain ⟨i, hi⟩ := List.mem_iff_getElem?.1 hx
      have := h i x hi
      unfold nameC at this
      simp only [Bool.and_eq_true, decide_eq_true_eq] at this
      exact this.1
    · have := h i x hx
      unfold nameC at this
      simp only [Bool.and_eq_true, decide_eq_true_eq] at this
      exact this.2
  · rintro ⟨h1, h2⟩ i x hx
    unfold nameC
    simp only [Bool.and_eq_true, decide_eq_true_eq]
    exact ⟨h1 x (List.mem_of_getElem? hx), h2 i x hx⟩
theorem namesX_iff {l : List Idx} : allI (nameX l) l = true ↔ NamesOk Idx.name l := by
  rw [allI_iff]
  unfold NamesOk
  rw [nod_once]
  constructor
  · intro h
    refine ⟨fun x hx => ?_, fun i x hx => ?_⟩
    · obtain ⟨i, hi⟩ := List.mem_iff_getElem?.1 hx
      have := h i x hi
      unfold nameX at this
      simp only [Bool.and_eq_true, decide_eq_true_eq] at this
      exact this.1
    · have := h i x hx
      unfold nameX at this
      simp only [Bool.and_eq_true, decide_eq_true_eq] at this
      exact this.2
  · rintro ⟨h1, h2⟩ i x hx
    unfold nameX
    simp only [Bool.and_eq_true, decide_eq_true_eq]
    exact ⟨h1 x (List.mem_of_getElem? hx), h2 i x hx⟩
theorem namesF_iff {l : List For} : allI (nameF l) l = true ↔ NamesOk For.name l := by
  rw [allI_iff]
  unfold NamesOk
  rw [nod_once]
  constructor
  · intro h
    refine ⟨fun x hx => ?_, fun i x hx => ?_⟩
    · obtain ⟨i, hi⟩ := List.mem_iff_getElem?.1 hx
      have := h i x hi
      unfold nameF at this
      simp only [Bool.and_eq_true, decide_eq_true_eq] at this
      exact this.1
    · have := h i x hx
      unfold nameF at this
      simp only [Bool.and_eq_true, decide_eq_true_eq] at this
      exact this.2
  · rintro ⟨h1, h2⟩ i x hx
    unfold nameF
    simp only [Bool.and_eq_true, decide_eq_true_eq]
    exact ⟨h1 x (List.mem_of_getElem? hx), h2 i x hx⟩
theorem namesT_iff {l : List Tab} : allI (nameT l) l = true ↔ NamesOk Tab.name l := by
  rw [allI_iff]
  unfold NamesOk
  rw [nod_once]
  constructor
  · intro h
    refine ⟨fun x hx => ?_, fun i x hx => ?_⟩
    · obtain ⟨i, hi⟩ := List.mem_iff_getElem?.1 hx
      have := h i x hi
      unfold nameT at this
      simp only [Bool.and_eq_true, decide_eq_true_eq] at this
      exact this.1
    · have := h i x hx
      unfold nameT at this
      simp only [Bool.and_eq_true, decide_eq_true_eq] at this
      exact this.2
  · rintro ⟨h1, h2⟩ i x hx
    unfold nameT
    simp only [Bool.and_eq_true, decide_eq_true_eq]
    exact ⟨h1 x (List.mem_of_getElem? hx), h2 i x hx⟩
theorem runIds_iff (last : Int) : ∀ (l seen : List Int), runIds last l seen = true ↔ (∀ n ∈ l, 1 ≤ n ∧ n ≤ last ∧ n ∉ seen) ∧ l.Nodup
  | [], seen => by simp [runIds]
  | n :: l, seen => by
    simp only [runIds, Bool.and_eq_true, decide_eq_true_eq, Bool.not_eq_true', decide_eq_false_iff_not, runIds_iff last l, List.nodup_cons, List.mem_cons]
    constructor
    · rintro ⟨⟨a, b⟩, c, d, e⟩
      refine ⟨?_, fun hn => (d n hn).2.2 (.inl rfl), e⟩
      rintro m (rfl | hm)
      · exact ⟨a, b, c⟩
      · exact ⟨(d m hm).1, (d m hm).2.1, fun h => (d m hm).2.2 (.inr h)⟩
    · rintro ⟨a, b, c⟩
      refine ⟨⟨(a n (.inl rfl)).1, (a n (.inl rfl)).2.1⟩, (a n (.inl rfl)).2.2, fun m hm => ⟨(a m (.inr hm)).1, (a m (.inr hm)).2.1, ?_⟩, c⟩
      rintro (rfl | h)
      · exact b hm
      · exact (a m (.inr hm)).2.2 h
/-- the kind of a table's first column -/
def hk (T : Tab) : Option Int := T.cols.head?.map (·.kind)
def StOk (n : Int) : Prop := 1 ≤ n ∧ n ≤ 3
theorem stateB_iff {n : Int} : stateB n = true ↔ StOk n := by unfold stateB StOk; simp
structure ColOk (c : Col) : Prop where
  st : StOk c.state
  ty : typed c.kind = true
  fi : fits c.dflt c.kind = true
def KeyOk (tabs : List Tab) (T : Tab) (x : For) : Prop := StOk x.state ∧ ∃ c ∈ T.cols, c.id = x.column ∧ ∃ P ∈ tabs, P.id = x.parent ∧ hk P = some c.kind
structure TabOk (tabs : List Tab) (T : Tab) : Prop where
  c1 : 1 ≤ T.cols.length
  c8 : T.cols.length ≤ 8
  x8 : T.idxs.length ≤ 8
  k8 : T.keys.length ≤ 8
  nc : NamesOk Col.name T.cols
  nx : NamesOk Idx.name T.idxs
  nk : NamesOk For.name T.keys
  first : ∀ c, T.cols.head? = some c → c.state = 3
  cs : ∀ c ∈ T.cols, ColOk c
  xs : ∀ x ∈ T.idxs, StOk x.state ∧ ∃ c ∈ T.cols, c.id = x.column
  ks : ∀ x ∈ T.keys, KeyOk tabs T x
structure SchOk (S : Sch) : Prop where
  v0 : 0 ≤ S.version
  v1 : S.version ≤ 1125899906842624
  l0 : 0 ≤ S.last
  l1 : S.last ≤ 1125899906842624
  few : S.tabs.length ≤ 6
  nt : NamesOk Tab.name S.tabs
  ts : ∀ T ∈ S.tabs, TabOk S.tabs T
  ids : ∀ n ∈ S.tabs.flatMap idsOf, 1 ≤ n ∧ n ≤ S.last
  nod : (S.tabs.flatMap idsOf).Nodup
theorem nod_of_flat {α : Type} {f : Tab → List Int} {l : List Tab} (h : (l.flatMap f).Nodup) {T : Tab} (hT : T ∈ l) : (f T).Nodup := by
  obtain ⟨a, b, rfl⟩ := List.append_of_mem hT
  simp only [List.flatMap_append, List.flatMap_cons, List.nodup_append] at h
  exact h.2.1.1
theorem ids_inj {tabs : List Tab} (h : (tabs.flatMap idsOf).Nodup) {T : Tab} (hT : T ∈ tabs) : (T.cols.map (·.id)).Nodup := by
  have := nod_of_flat (α := Nat) h hT
  unfold idsOf at this
  simp only [List.nodup_cons, List.nodup_append] at this
  exact this.2.1
theorem tabs_inj {tabs : List Tab} (h : (tabs.flatMap idsOf).Nodup) : (tabs.map (·.id)).Nodup := by
  refine List.Nodup.sublist ?_ h
  clear h
  induction tabs with
  | nil => simp
  | cons T l ih =>
    simp only [List.map_cons, List.flatMap_cons]
    unfold idsOf
    simp only [List.cons_append]
    refine List.Sublist.cons_cons _ ?_
    exact List.Sublist.trans ih (List.sublist_append_right _ _)
theorem at_id {α : Type} {f : α → Int} {l : List α} (h : (l.map f).Nodup) {x : α} (hx : x ∈ l) : ∃ i : Nat, seek (fun y : α => decide (f y = f x)) l 0 = (i : Int) ∧ l[i]? = some x := by
  obtain ⟨i, hi⟩ := List.mem_iff_getElem?.1 hx
  exact ⟨i, nod_once.1 h i x hi, hi⟩
theorem keyB_ok {S : Sch} {T : Tab} {i : Nat} {x : For} (hn : (S.tabs.flatMap idsOf).Nodup) (hT : T ∈ S.tabs) : keyB S T i x = true ↔ KeyOk S.tabs T x := by
  unfold keyB KeyOk
  simp only [Bool.and_eq_true, decide_eq_true_eq, stateB_iff]
  constructor
  · rintro ⟨a, b, c, d⟩
    refine ⟨a, ?_⟩
    unfold colOf at b
    unfold tabOf at c
    obtain ⟨j, y, hj, hy, hp, _⟩ := (seek_cases (fun y : Col => decide (y.id = x.column)) T.cols).resolve_left (fun e => by have := e.1; omega)
    obtain ⟨k, P, hk', hP, hpp, _⟩ := (seek_cases (fun y : Tab => decide (y.id = x.parent)) S.tabs).resolve_left (fun e => by have := e.1; omega)
    refine ⟨y, List.mem_of_getElem? hy, of_decide_eq_true hp, P, List.mem_of_getElem? hP, of_decide_eq_true hpp, ?_⟩
    unfold parB tabOf colOf at d
    rw [hj, hk'] at d
    simp only [Int.toNat_natCast, hP, hy] at d
    unfold hk
    split at d
    · rename_i c0 r e
      rw [e]
      simp only [List.head?_cons, Option.map_some]
      rw [of_decide_eq_true d]
    · cases d
  · rintro ⟨a, c, hc, e1, P, hP, e2, hh⟩
    obtain ⟨j, hj, hjc⟩ := at_id (f := fun c : Col => c.id) (ids_inj hn hT) hc
    obtain ⟨k, hk', hkP⟩ := at_id (f := fun c : Tab => c.id) (tabs_inj hn) hP
    rw [e1] at hj
    rw [e2] at hk'
    have h1 : colOf T x.column = (j : Int) := hj
    have h2 : tabOf S x.parent = (k : Int) := hk'
    refine ⟨a, by omega, by omega, ?_⟩
    unfold parB
    rw [h1, h2]
    simp only [Int.toNat_natCast, hjc, hkP]
    unfold hk at hh
    cases e : P.cols with
    | nil => rw [e] at hh; cases hh
    | cons c0 r =>
      rw [e] at hh
      simp only [List.head?_cons, Option.map_some, Option.some.injEq] at hh
      simp [hh]
theorem idxB_ok {T : Tab} {i : Nat} {x : Idx} : idxB T i x = true ↔ StOk x.state ∧ ∃ c ∈ T.cols, c.id = x.column := by
  unfold idxB
  simp only [Bool.and_eq_true, decide_eq_true_eq, stateB_iff]
  unfold colOf
  rcases seek_cases (fun y : Col => decide (y.id = x.column)) T.cols with ⟨e, h⟩ | ⟨j, y, e, hy, hp, _⟩
  · rw [e]
    constructor
    · rintro ⟨_, b⟩; omega
    · rintro ⟨_, c, hc, e2⟩
      have := h c hc
      simp [e2] at this
  · rw [e]
    constructor
    · rintro ⟨a, _⟩; exact ⟨a, y, List.mem_of_getElem? hy, of_decide_eq_true hp⟩
    · rintro ⟨a, _⟩; exact ⟨a, by omega⟩
theorem colB_ok {i : Nat} {c : Col} : colB i c = true ↔ ColOk c := by
  unfold colB
  simp only [Bool.and_eq_true, stateB_iff]
  exact ⟨fun ⟨a, b, c⟩ => ⟨a, b, c⟩, fun h => ⟨h.st, h.ty, h.fi⟩⟩
theorem allI_mem {α : Type} {p : Nat → α → Bool} {Q : α → Prop} {xs : List α} (h : ∀ i, ∀ x ∈ xs, (p i x = true ↔ Q x)) : allI p xs = true ↔ ∀ x ∈ xs, Q x := by
  rw [allI_iff]
  constructor
  · intro g x hx
    obtain ⟨i, hi⟩ := List.mem_iff_getElem?.1 hx
    exact (h i x hx).1 (g i x hi)
  · intro g i x hi
    exact (h i x (List.mem_of_getElem? hi)).2 (g x (List.mem_of_getElem? hi))
theorem tabB_ok {S : Sch} {T : Tab} (hn : (S.tabs.flatMap idsOf).Nodup) (hT : T ∈ S.tabs) : tabB S T = true ↔ TabOk S.tabs T := by
  rw [tabB_iff, namesC_iff, namesX_iff, namesF_iff, allI_mem (Q := ColOk) (fun i x _ => colB_ok), allI_mem (Q := fun x : Idx => StOk x.state ∧ ∃ c ∈ T.cols, c.id = x.column) (fun i x _ => idxB_ok), allI_mem (Q := KeyOk S.tabs T) (fun i x _ => keyB_ok hn hT)]
  have hf : 1 ≤ T.cols.length → (first3 T = true ↔ ∀ c, T.cols.head? = some c → c.state = 3) := by
    intro h1
    unfold first3
    cases e : T.cols with
    | nil => rw [e] at h1; simp at h1
    | cons c r => simp
  constructor
  · rintro ⟨a, b, c, d, e, f, g, h, i, j, k⟩
    exact ⟨a, b, c, d, e, f, g, (hf a).1 h, i, j, k⟩
  · rintro ⟨a, b, c, d, e, f, g, h, i, j, k⟩
    exact ⟨a, b, c, d, e, f, g, (hf a).2 h, i, j, k⟩
theorem right_ok {S : Sch} : right S = true ↔ SchOk S := by
  rw [right_iff, namesT_iff, runIds_iff]
  have h0 : headB S = true ↔ 0 ≤ S.version ∧ S.version ≤ 1125899906842624 ∧ 0 ≤ S.last ∧ S.last ≤ 1125899906842624 := by
    unfold headB; simp only [Bool.and_eq_true, decide_eq_true_eq]
  rw [h0]
  constructor
  · rintro ⟨⟨a, b, c, d⟩, e, f, g, h, i⟩
    refine ⟨a, b, c, d, e, f, (allI_mem (p := fun _ T => tabB S T) (Q := TabOk S.tabs) (xs := S.tabs) (fun _ T hT => tabB_ok i hT)).1 g, fun n hn => ⟨(h n hn).1, (h n hn).2.1⟩, i⟩
  · rintro ⟨a, b, c, d, e, f, g, h, i⟩
    exact ⟨⟨a, b, c, d⟩, e, f, (allI_mem (p := fun _ T => tabB S T) (Q := TabOk S.tabs) (xs := S.tabs) (fun _ T hT => tabB_ok i hT)).2 g, fun n hn => ⟨(h n hn).1, (h n hn).2, by simp⟩, i⟩
end Go.Proofs.YthepfbcgpbkbdaaGreat
end
section
set_option linter.unusedVariables false
set_option linter.unusedSimpArgs false
set_option maxHeartbeats 1000000
set_option maxRecDepth 100000
namespace Go.Proofs.YthepfbcgpbkbdaaGreat
open Fw Go
theorem KeyOk.put {a b : List Tab} {T T' U : Tab} {x : For} (h : KeyOk (a ++ T :: b) U x) (hid : T'.id = T.id) (hh : hk T' = hk T) : KeyOk (a ++ T' :: b) U x := by
  obtain ⟨h1, c, hc, e1, P, hP, e2, e3⟩ := h
  refine ⟨h1, c, hc, e1, ?_⟩
  simp only [List.mem_append, List.mem_cons] at hP
  rcases hP with hP | rfl | hP
  · exact ⟨P, by simp [hP], e2, e3⟩
  · exact ⟨T', by simp, by rw [hid, e2], by rw [hh, e3]⟩
  · exact ⟨P, by simp [hP], e2, e3⟩
theorem TabOk.put {a b : List Tab} {T T' U : Tab} (h : TabOk (a ++ T :: b) U) (hid : T'.id = T.id) (hh : hk T' = hk T) : TabOk (a ++ T' :: b) U :=
  { h with ks := fun x hx => (h.ks x hx).put hid hh }
section
variable {S : Sch} (h : SchOk S) {a b : List Tab} {T : Tab} (e : S.tabs = a ++ T :: b) {v l : Int} (hv0 : 0 ≤ v) (hv1 : v ≤ 1125899906842624) (hl : S.last ≤ l) (hl1 : l ≤ 1125899906842624)
include h e hv0 hv1 hl hl1
end
theorem placed_in {α : Type} {l : List α} {j : Nat} {st : Int} {x' y : α} (h : y ∈ placed l j st x') : y ∈ l ∨ (st ≠ 0 ∧ y = x') := by
  unfold placed at h
  split at h
  · exact .inl (List.mem_of_mem_eraseIdx h)
  · rename_i h0
    rcases List.mem_or_eq_of_mem_set h with h | h
    · exact .inl h
    · exact .inr ⟨h0, h⟩
theorem set_same {α : Type} : ∀ {l : List α} {j : Nat} {x : α}, l[j]? = some x → l.set j x = l
  | [], _, _, h => by simp at h
  | y :: l, 0, x, h => by simp at h; simp [h]
  | y :: l, j + 1, x, h => by simp only [List.set_cons_succ]; rw [set_same (by simpa using h)]
theorem placed_sub {α β : Type} {f : α → β} {l : List α} {j : Nat} {st : Int} {x x' : α} (hx : l[j]? = some x) (hf : f x' = f x) : ((placed l j st x').map f).Sublist (l.map f) := by
  unfold placed
  split
  · exact (List.eraseIdx_sublist l j).map f
  · rw [List.map_set, hf, set_same (by rw [List.getElem?_map, hx]; (first | done | rfl))]
    exact List.Sublist.refl _
theorem NamesOk.placed {α : Type} {f : α → ByteArray} {l : List α} {j : Nat} {st : Int} {x x' : α} (h : NamesOk f l) (hx : l[j]? = some x) (hf : f x' = f x) : NamesOk f (placed l j st x') := by
  refine ⟨fun y hy => ?_, List.Nodup.sublist (placed_sub hx hf) h.2⟩
  rcases placed_in hy with hy | ⟨_, rfl⟩
  · exact h.1 y hy
  · rw [hf]; exact h.1 x (List.mem_of_getElem? hx)
theorem NamesOk.app {α : Type} {f : α → ByteArray} {l : List α} {x : α} (h : NamesOk f l) (hn : named (f x) = true) (hx : ∀ y ∈ l, f y ≠ f x) : NamesOk f (l ++ [x]) := by
  refine ⟨fun y hy => ?_, ?_⟩
  · rcases List.mem_append.1 hy with hy | hy
    · exact h.1 y hy
    · have : y = x := by simpa using hy
      subst this; exact hn
  · rw [List.map_append, List.nodup_append]
    refine ⟨h.2, by simp, ?_⟩
    intro u hu w hw
    obtain ⟨y, hy, rfl⟩ := List.mem_map.1 hu
    have : w = f x := by simpa using hw
    subst this
    exact hx y hy
end Go.Proofs.YthepfbcgpbkbdaaGreat
end
section
set_option linter.unusedVariables false
set_option linter.unusedSimpArgs false
set_option maxHeartbeats 1000000
set_option maxRecDepth 100000
namespace Go.Proofs.YthepfbcgpbkbdaaGreat
open Fw Go
inductive Did (S : Sch) (D : Ddl) (st : Int) : Sch → Prop
  | create (h1 : D.kind = 1) (hn : named D.table = true) (hc : ∀ c ∈ D.cols, named c.name = true) (ht : tabAt S D.table < 0) (hd : dbl D.cols = false) (h6 : S.tabs.length < 6) (c1 : 1 ≤ D.cols.length) (c8 : D.cols.length ≤ 8)
      (ty : ∀ c ∈ D.cols, typed c.kind = true) (s3 : st = 3) : Did S D st ⟨S.version, S.last + 1 + D.cols.length, S.tabs ++ [⟨S.last + 1, D.table, mkCols (S.last + 2) D.cols, [], []⟩]⟩
  | colAdd (i : Nat) (T : Tab) (kd : D.kind = 4) (hi : tabAt S D.table = (i : Int)) (hT : S.tabs[i]? = some T) (ha : colAt T D.column < 0) (hf : freshE D.column T.cols.length = 0) (ty : typed D.type = true) (fi : fits D.dflt D.type = true) (s0 : st ≠ 0) :
      Did S D st ⟨S.version, S.last + 1, S.tabs.set i { T with cols := T.cols ++ [⟨S.last + 1, D.column, D.type, st, D.dflt⟩] }⟩
  | colPut (i : Nat) (T : Tab) (j : Nat) (x : Col) (kd : D.kind = 4 ∨ D.kind = 5) (hi : tabAt S D.table = (i : Int)) (hT : S.tabs[i]? = some T) (hj : colAt T D.column = (j : Int)) (hx : T.cols[j]? = some x) (hn : x.name = D.column)
      (h4 : D.kind = 4 → x.state ≠ 3) (h5 : D.kind = 5 → used T j x = false) : Did S D st ⟨S.version, S.last, S.tabs.set i { T with cols := placed T.cols j st (x.put st) }⟩
  | idxAdd (i : Nat) (T : Tab) (c : Col) (kd : D.kind = 2) (hi : tabAt S D.table = (i : Int)) (hT : S.tabs[i]? = some T) (ha : idxAt T D.name < 0) (hf : freshE D.name T.idxs.length = 0) (hc : c ∈ T.cols) (s0 : st ≠ 0) :
      Did S D st ⟨S.version, S.last + 1, S.tabs.set i { T with idxs := T.idxs ++ [⟨S.last + 1, D.name, c.id, D.unique, st⟩] }⟩
  | idxPut (i : Nat) (T : Tab) (j : Nat) (x : Idx) (kd : D.kind = 2 ∨ D.kind = 3) (hi : tabAt S D.table = (i : Int)) (hT : S.tabs[i]? = some T) (hj : idxAt T D.name = (j : Int)) (hx : T.idxs[j]? = some x) (hn : x.name = D.name)
      (h4 : D.kind = 2 → x.state ≠ 3) : Did S D st ⟨S.version, S.last, S.tabs.set i { T with idxs := placed T.idxs j st (x.put st) }⟩
  | keyAdd (i : Nat) (T : Tab) (c : Col) (P : Tab) (kd : D.kind = 6) (hi : tabAt S D.table = (i : Int)) (hT : S.tabs[i]? = some T) (ha : keyAt T D.name < 0) (hf : freshE D.name T.keys.length = 0) (hc : c ∈ T.cols) (hP : P ∈ S.tabs) (hh : hk P = some c.kind) (s0 : st ≠ 0) :
      Did S D st ⟨S.version, S.last + 1, S.tabs.set i { T with keys := T.keys ++ [⟨S.last + 1, D.name, c.id, P.id, st⟩] }⟩
  | keyPut (i : Nat) (T : Tab) (j : Nat) (x : For) (kd : D.kind = 6 ∨ D.kind = 7) (hi : tabAt S D.table = (i : Int)) (hT : S.tabs[i]? = some T) (hj : keyAt T D.name = (j : Int)) (hx : T.keys[j]? = some x) (hn : x.name = D.name)
      (h4 : D.kind = 6 → x.state ≠ 3) : Did S D st ⟨S.version, S.last, S.tabs.set i { T with keys := placed T.keys j st (x.put st) }⟩
/-- nothing needs the column that a change names -/
def Free (S : Sch) (D : Ddl) : Prop := ∀ (i : Nat) (T : Tab) (j : Nat) (x : Col), tabAt S D.table = (i : Int) → S.tabs[i]? = some T → colAt T D.column = (j : Int) → T.cols[j]? = some x → (∀ y ∈ T.idxs, y.column ≠ x.id) ∧ (∀ y ∈ T.keys, y.column ≠ x.id)
end Go.Proofs.YthepfbcgpbkbdaaGreat
end
section
set_option linter.unusedVariables false
set_option linter.unusedSimpArgs false
set_option maxHeartbeats 1000000
set_option maxRecDepth 100000
namespace Go.Proofs.YthepfbcgpbkbdaaGreat
open Fw Go
structure Ready (S : Sch) (D : Ddl) : Prop where
  tab : ∃ (i : Nat) (T : Tab), tabAt S D.table = (i : Int) ∧ S.tabs[i]? = some T ∧ (D.kind = 4 ∨ D.kind = 5 → ∃ (j : Nat) (x : Col), colAt T D.column = (j : Int) ∧ T.cols[j]? = some x ∧ j ≠ 0) ∧
    (D.kind = 2 ∨ D.kind = 3 → ∃ (j : Nat) (x : Idx), idxAt T D.name = (j : Int) ∧ T.idxs[j]? = some x) ∧ (D.kind = 6 ∨ D.kind = 7 → ∃ (j : Nat) (x : For), keyAt T D.name = (j : Int) ∧ T.keys[j]? = some x)
  free : D.kind = 4 ∨ D.kind = 5 → Free S D
structure Stepped (S : Sch) (D : Ddl) (st : Int) (S' : Sch) : Prop where
  ok : SchOk S'
  ver : S'.version = S.version + 1
  last : S'.last ≤ S.last + 9
  state : stateOf S' D = st
  rest : S'.without D = S.without D
  ready : D.kind ≠ 1 → st ≠ 0 → Ready S' D
end Go.Proofs.YthepfbcgpbkbdaaGreat
end
section
set_option linter.unusedVariables false
set_option linter.unusedSimpArgs false
set_option maxHeartbeats 1000000
set_option maxRecDepth 100000
namespace Go.Proofs.YthepfbcgpbkbdaaGreat
open Fw Go
structure Lse where
  node : Int
  ver : Int
  til : Int
  deriving DecidableEq
structure Jb where
  id : Int
  call : Int
  y1 : Int
  y2 : Int
  y3 : Int
  D : Ddl
  phase : Int
  back : Bool
  drain : Bool
  mark : ByteArray
  fin : Int
  why : Int
structure Pl where
  S : Sch
  L : List Lse
  J : List Jb
/-- what of a command counts here -/
structure Cm where
  kind : Int
  y1 : Int
  y2 : Int
  y3 : Int
  ver : Int
  call : Int
  D : Ddl
  job : Int
  phase : Int
  mark : ByteArray
  why : Int
structure Rs where
  err : Int
  ver : Int
  til : Int
  job : Int
  new : Bool
  deriving DecidableEq
abbrev Rs.bad (e : Int) : Rs := ⟨e, 0, 0, 0, false⟩
def forceB (l : Lse) (now : Int) : Bool := decide (l.til ≥ IntKind.i64.wrap (now - 3))
def handAt (J : List Jb) : Int := seek (fun j : Jb => decide (j.fin = 0)) J 0
def movesOf (j : Jb) : List (Int × Int) := pairs (pathL j.D.kind j.back)
def moveOf (j : Jb) : Int × Int := ((movesOf j)[j.phase.toNat]?).getD (0, 0)
/-- the job at hand -/
def Pl.hand (P : Pl) : Option (Nat × Jb) := if handAt P.J < 0 then none else (P.J[(handAt P.J).toNat]?).map fun j => ((handAt P.J).toNat, j)
def clearB (P : Pl) (now below : Int) : Bool := !(P.L.any fun l => decide (l.ver < below) && forceB l now)
def Pl.grant (P : Pl) (now : Int) (c : Cm) : Rs × Pl :=
  if (P.hand.map fun p => p.2.drain) = some true then (.bad 162, P)
  else (⟨0, P.S.version, IntKind.i64.wrap (now + 20), 0, true⟩,
    { P with L := P.L.filter (fun x => !(!forceB x now || (decide (x.node = c.y1) && decide (x.ver = P.S.version)))) ++ [⟨c.y1, P.S.version, IntKind.i64.wrap (now + 20)⟩] })
def sameBy (j : Jb) (c : Cm) : Bool := j.y1 == c.y1 && (j.y2 == c.y2 && (j.y3 == c.y3 && true))
def byAt (J : List Jb) (c : Cm) : Option Jb := J.find? fun j => sameBy j c
def running (J : List Jb) : Nat := (J.filter fun j => decide (j.fin = 0)).length
def newJob (J : List Jb) (c : Cm) : Jb := ⟨(J.length + 1 : Nat), c.call, c.y1, c.y2, c.y3, c.D, 0, false, false, ⟨#[]⟩, if 4 ≤ running J then 3 else 0, if 4 ≤ running J then 156 else 0⟩
def Pl.submit (P : Pl) (c : Cm) : Rs × Pl :=
  if (pairs (pathL c.D.kind false)).length = 0 then (.bad 1, P)
  else match byAt P.J c with
  | some j => (⟨0, 0, 0, j.id, false⟩, P)
  | none => (⟨0, 0, 0, (P.J.length + 1 : Nat), true⟩, { P with J := P.J ++ [newJob P.J c] })
/-- the job at hand, if a command is about it, and its move is one of some kinds -/
def Pl.turn (P : Pl) (c : Cm) (kinds : List Int) : Option (Nat × Jb) :=
  match P.hand with
  | none => none
  | some (i, j) => if j.id = c.job ∧ j.phase = c.phase ∧ (moveOf j).1 ∈ kinds then some (i, j) else none
def Pl.setJ (P : Pl) (i : Nat) (j : Jb) : Pl := { P with J := P.J.set i j }
def Jb.step (j : Jb) : Jb :=
  { j with phase := IntKind.i64.wrap (j.phase + 1), mark := ⟨#[]⟩, drain := false, fin := if IntKind.i64.wrap (j.phase + 1) = (movesOf j).length then (if j.back then 2 else 1) else j.fin }
def Pl.drain (P : Pl) (c : Cm) : Rs × Pl :=
  match P.turn c [2] with
  | none => (.bad 160, P)
  | some (i, j) => (⟨0, 0, 0, 0, !j.drain⟩, P.setJ i { j with drain := true })
def belowOf (P : Pl) (j : Jb) : Int := if (moveOf j).1 = 2 then IntKind.i64.wrap (P.S.version + 1) else P.S.version
def Pl.next (P : Pl) (now : Int) (c : Cm) : Rs × Pl :=
  match P.turn c [1, 2, 3] with
  | none => (.bad 160, P)
  | some (i, j) =>
    if (moveOf j).1 = 2 ∧ j.drain = false then (.bad 160, P)
    else if clearB P now (belowOf P j) = false then (.bad 161, P)
    else if (moveOf j).1 ≠ 3 then
      (if (P.S.turn j.D (moveOf j).2).2 ≠ 0 then (⟨0, 0, 0, 0, true⟩, P.setJ i { j with fin := 3, why := (P.S.turn j.D (moveOf j).2).2, drain := false })
       else (⟨0, (P.S.turn j.D (moveOf j).2).1.version, 0, 0, true⟩, { P with S := (P.S.turn j.D (moveOf j).2).1, J := P.J.set i j.step }))
    else (⟨0, P.S.version, 0, 0, true⟩, P.setJ i j.step)
def Pl.mark (P : Pl) (c : Cm) : Rs × Pl :=
  match P.turn c [4, 5] with
  | none => (.bad 160, P)
  | some (i, j) => (⟨0, 0, 0, 0, true⟩, if c.ver = 1 then P.setJ i j.step else P.setJ i { j with mark := if (!Op.bytesLess j.mark.toList c.mark.toList) = true then j.mark else c.mark })
def Pl.fail (P : Pl) (c : Cm) : Rs × Pl :=
  match P.turn c [4] with
  | none => (.bad 160, P)
  | some (i, j) => if j.back then (.bad 160, P) else (⟨0, 0, 0, 0, true⟩, P.setJ i { j with back := true, phase := 0, mark := ⟨#[]⟩, why := c.why })
def Pl.do (P : Pl) (now : Int) (c : Cm) : Rs × Pl :=
  if c.kind < 11 ∨ 16 < c.kind ∨ now < 0 ∨ 1125899906842624 < now then (.bad 1, P)
  else if c.kind = 11 then P.grant now c else if c.kind = 12 then P.submit c else if c.kind = 13 then P.drain c else if c.kind = 14 then P.next now c
  else if c.kind = 15 then P.mark c else P.fail c
/-- what stays true of a board -/
structure PlOk (P : Pl) : Prop where
  ph : ∀ j ∈ P.J, j.fin = 0 → 0 ≤ j.phase ∧ j.phase < ((movesOf j).length : Int)
  vs : ∀ l ∈ P.L, l.ver ≤ P.S.version
  v0 : 0 ≤ P.S.version ∧ P.S.version ≤ 1125899906842625
theorem hand_some {P : Pl} {i : Nat} {j : Jb} (h : P.hand = some (i, j)) : P.J[i]? = some j ∧ j.fin = 0 ∧ handAt P.J = (i : Int) := by
  unfold Pl.hand at h
  split at h
  · cases h
  · rename_i h0
    obtain ⟨k, x, hk, hx, hp, _⟩ := (seek_cases (fun j : Jb => decide (j.fin = 0)) P.J).resolve_left (fun e => by have := e.1; unfold handAt at h0; omega)
    have hk : handAt P.J = (k : Int) := hk
    rw [hk] at h
    simp only [Int.toNat_natCast, hx, Option.map_some, Option.some.injEq, Prod.mk.injEq] at h
    obtain ⟨rfl, rfl⟩ := h
    exact ⟨hx, of_decide_eq_true hp, hk⟩
end Go.Proofs.YthepfbcgpbkbdaaGreat
end
section
set_option linter.unusedVariables false
set_option linter.unusedSimpArgs false
set_option maxHeartbeats 1000000
set_option maxRecDepth 100000
namespace Go.Proofs.YthepfbcgpbkbdaaGreat
open Fw Go
theorem turn_some {P : Pl} {c : Cm} {ks : List Int} {i : Nat} {j : Jb} (h : P.turn c ks = some (i, j)) : P.hand = some (i, j) ∧ (moveOf j).1 ∈ ks ∧ j.id = c.job ∧ j.phase = c.phase := by
  unfold Pl.turn at h
  split at h
  · cases h
  · rename_i i' j' hh
    split at h
    · rename_i hc
      simp only [Option.some.injEq, Prod.mk.injEq] at h
      obtain ⟨rfl, rfl⟩ := h
      exact ⟨hh, hc.2.2, hc.1, hc.2.1⟩
    · cases h
theorem turn_ver {S : Sch} {D : Ddl} {st : Int} (h : ¬ (S.turn D st).2 ≠ 0) : (S.turn D st).1.version = S.version + 1 ∧ right S = true := by
  obtain ⟨S', e, he⟩ : ∃ S' e, S.turn D st = (S', e) := ⟨_, _, rfl⟩
  rw [he] at h ⊢
  have h : e = 0 := by simpa using h
  subst h
  obtain ⟨hr, _, _, _, _, ht⟩ := turn_ok he
  exact ⟨turn1_version _ _ _ S' ht, hr⟩
theorem set_ph {P : Pl} (h : ∀ j ∈ P.J, j.fin = 0 → 0 ≤ j.phase ∧ j.phase < ((movesOf j).length : Int)) {i : Nat} {j' : Jb} (hj : j'.fin = 0 → 0 ≤ j'.phase ∧ j'.phase < ((movesOf j').length : Int)) : ∀ j ∈ P.J.set i j', j.fin = 0 → 0 ≤ j.phase ∧ j.phase < ((movesOf j).length : Int) := by
  intro j hm hf
  rcases List.mem_or_eq_of_mem_set hm with hm | rfl
  · exact h j hm hf
  · exact hj hf
theorem moves_len (j : Jb) : (movesOf j).length ≤ 10 := by
  unfold movesOf
  have : (pathL j.D.kind j.back).length ≤ 10 := by
    unfold pathL
    repeat' split
    all_goals decide
  have := pairs_len (pathL j.D.kind j.back)
  omega
theorem step_ph {j : Jb} (h : 0 ≤ j.phase ∧ j.phase < ((movesOf j).length : Int)) : j.step.fin = 0 → 0 ≤ j.step.phase ∧ j.step.phase < ((movesOf j.step).length : Int) := by
  have hl := moves_len j
  have hw : IntKind.i64.wrap (j.phase + 1) = j.phase + 1 := wrap_in (by omega) (by omega)
  have hm : movesOf j.step = movesOf j := rfl
  rw [hm]
  unfold Jb.step
  dsimp only
  rw [hw]
  intro hf
  by_cases he : j.phase + 1 = (movesOf j).length
  · rw [if_pos he] at hf
    split at hf <;> omega
  · omega
theorem PlOk.do {P : Pl} (h : PlOk P) (now : Int) (c : Cm) : PlOk (P.do now c).2 := by
  have keep : PlOk P := h
  unfold Pl.do
  split
  · exact h
  split
  · unfold Pl.grant
    split
    · exact h
    · refine ⟨h.ph, fun l hl => ?_, h.v0⟩
      simp only [List.mem_append, List.mem_filter, List.mem_singleton] at hl
      rcases hl with hl | rfl
      · exact h.vs l hl.1
      · exact Int.le_refl _
  split
  · unfold Pl.submit
    split
    · exact h
    · rename_i hp
      split
      · exact h
      · refine ⟨fun j hj hf => ?_, h.vs, h.v0⟩
        simp only [List.mem_append, List.mem_singleton] at hj
        rcases hj with hj | rfl
        · exact h.ph j hj hf
        · refine ⟨Int.le_refl _, ?_⟩
          show (0 : Int) < ((pairs (pathL c.D.kind false)).length : Int)
          omega
  split
  · unfold Pl.drain
    split
    · exact h
    · rename_i i j ht
      obtain ⟨hh, _⟩ := turn_some ht
      obtain ⟨hj, hf, _⟩ := hand_some hh
      exact ⟨set_ph h.ph fun hf' => h.ph j (List.mem_of_getElem? hj) hf, h.vs, h.v0⟩
  split
  · unfold Pl.next
    split
    · exact h
    · rename_i i j ht
      obtain ⟨hh, _⟩ := turn_some ht
      obtain ⟨hj, hf, _⟩ := hand_some hh
      have hph := h.ph j (List.mem_of_getElem? hj) hf
      split
      · exact h
      split
      · exact h
      split
      · split
        · exact ⟨set_ph h.ph fun hf' => by (exfalso; dsimp only at hf'; omega), h.vs, h.v0⟩
        · rename_i hne
          obtain ⟨e1, e2⟩ := turn_ver hne
          have hr := (right_ok.1 e2).v1
          refine ⟨set_ph h.ph (step_ph hph), fun l hl => ?_, ?_⟩
          · have := h.vs l hl
            dsimp only
            omega
          · have := h.v0
            dsimp only
            omega
      · exact ⟨set_ph h.ph (step_ph hph), h.vs, h.v0⟩
  split
  · unfold Pl.mark
    split
    · exact h
    · rename_i i j ht
      obtain ⟨hh, _⟩ := turn_some ht
      obtain ⟨hj, hf, _⟩ := hand_some hh
      have hph := h.ph j (List.mem_of_getElem? hj) hf
      dsimp only
      split
      · exact ⟨set_ph h.ph (step_ph hph), h.vs, h.v0⟩
      · exact ⟨set_ph h.ph fun _ => hph, h.vs, h.v0⟩
  · unfold Pl.fail
    split
    · exact h
    · rename_i i j ht
      obtain ⟨hh, hm, _⟩ := turn_some ht
      obtain ⟨hj, hf, _⟩ := hand_some hh
      have hph := h.ph j (List.mem_of_getElem? hj) hf
      split
      · exact h
      · rename_i hb
        refine ⟨set_ph h.ph fun hf' => ⟨Int.le_refl _, ?_⟩, h.vs, h.v0⟩
        have hb : j.back = false := by cases e : j.back <;> simp_all
        show (0 : Int) < ((pairs (pathL j.D.kind true)).length : Int)
        have hm : (moveOf j).1 = 4 := by simpa using hm
        unfold moveOf movesOf at hm
        rw [hb] at hm
        have hk : j.D.kind = 2 ∨ j.D.kind = 4 ∨ j.D.kind = 6 := by
          have hx : ∀ l : List (Int × Int), (∀ m ∈ l, m.1 ≠ 4) → ((l[j.phase.toNat]?).getD (0, 0)).1 ≠ 4 := by
            intro l hl
            cases e : l[j.phase.toNat]? with
            | none => simp
            | some m => simpa using hl m (List.mem_of_getElem? e)
          by_cases h2 : j.D.kind = 2
          · exact .inl h2
          by_cases h4 : j.D.kind = 4
          · exact .inr (.inl h4)
          by_cases h6 : j.D.kind = 6
          · exact .inr (.inr h6)
          exfalso
          refine hx (pairs (pathL j.D.kind false)) ?_ hm
          unfold pathL
          rw [if_neg (by simp)]
          by_cases h1 : j.D.kind = 1
          · rw [if_pos h1]; decide
          rw [if_neg h1, if_neg h2]
          by_cases h3 : j.D.kind = 3
          · rw [if_pos h3]; decide
          rw [if_neg h3, if_neg h4]
          by_cases h5 : j.D.kind = 5
          · rw [if_pos h5]; decide
          rw [if_neg h5, if_neg h6]
          by_cases h7 : j.D.kind = 7
          · rw [if_pos h7]; decide
          rw [if_neg h7]; simp [pairs]
        rcases hk with hk | hk | hk <;> rw [hk] <;> decide
end Go.Proofs.YthepfbcgpbkbdaaGreat
end
section
set_option linter.unusedVariables false
set_option maxHeartbeats 1000000
namespace Go.Proofs.YthepfbcgpbkbdaaGreat
open Fw Fw.W Go
/-- lintel/board.New -/
def vc_New {W : Type} (π : Prims W) : W :=
  π.nw (Go.Obj.cells #[(Go.Value.int (IntKind.i64) ((0 : Int))), (Go.Value.int (IntKind.i64) ((0 : Int))), (Go.Value.slice (none) ((0 : Nat)) ((0 : Nat))), (Go.Value.slice (none) ((0 : Nat)) ((0 : Nat))), (Go.Value.slice (none) ((0 : Nat)) ((0 : Nat)))] (79 : Nat) ((0 : Nat), (0 : Nat))) fun r0 =>
  π.ret (Go.Value.pointer (some (Addr.mk r0 (0 : Nat) none)))
def ann_New : Ann := { draws := [], join := [], loop := [] }
def la_New : LA := { ptr := [], ty := [] }
set_option maxRecDepth 100000 in
theorem eq_New {W : Type} (π : Prims W) : bodyL π Tryz.prog la_New ann_New (mkFr (maskA [] [] 0) 3) Tryz.f8 (bodyOf Tryz.f8) (mkFr (List.map some []) 3) = vc_New π := by kernel_rfl
theorem ok_New (R : Value → PH → Prop) (s : PH) (h : vc_New (RP Tryz.prog R) s) : DCalls Tryz.prog 8 (List.map AV.val []).toArray s R :=
  calls_vcL (c := bodyOf Tryz.f8) (ann := ann_New) la_New (by kernel_rfl) Tryz.func8 rfl (by kernel_rfl) [] [] (by rw [Tryz.ntmps8]; exact Nat.le_of_ble_eq_true rfl) (by kernel_rfl) (by rw [show Tryz.f8.ntmps = 3 from Tryz.ntmps8, eq_New]; exact h)
/-- lintel/board.tables -/
def vc_bTables {W : Type} (π : Prims W) (sv sl : Int) (sa : Option Addr) (san sac : Nat) : W :=
  π.loop [(true, [.int .i64, .int .i64, .slice]), (true, [.int .i64, .int .i64, .slice]), (false, [.slice]), (false, [.slice]), (false, [.int .i64]), (false, [.int .i64])] ((sv, sl, (sa, san, sac), ()), ((0 : Int), (0 : Int), (none, (0 : Nat), (0 : Nat)), ()), ((none, (0 : Nat), (0 : Nat)), ()), ((sa, san, sac), ()), ((↑san : Int), ()), ((0 : Int), ()), ()) fun (((x1 : Int), (x2 : Int), ((a3 : Option Addr), (n4 : Nat), (c5 : Nat)), _), ((x6 : Int), (x7 : Int), ((a8 : Option Addr), (n9 : Nat), (c10 : Nat)), _), (((a11 : Option Addr), (n12 : Nat), (c13 : Nat)), _), (((a14 : Option Addr), (n15 : Nat), (c16 : Nat)), _), ((x17 : Int), _), ((x18 : Int), _), _) again0 =>
    π.ite (decide (x18 < x17)) (
      π.guard ((0 : Int) ≤ x18 ∧ x18 < (↑n15 : Int)) <|
      π.unSome (a14) fun p19 =>
      π.ld [.int .i64, .str, .slice, .slice, .slice] (p19.add (x18.toNat * (5 : Nat))) fun ((x20 : Int), (t21 : ByteArray), ((a22 : Option Addr), (n23 : Nat), (c24 : Nat)), ((a25 : Option Addr), (n26 : Nat), (c27 : Nat)), ((a28 : Option Addr), (n29 : Nat), (c30 : Nat)), _) =>
      π.call (40 : Nat) #[(Go.Value.slice (a22) (n23) (c24))] (false, [(false, [.slice])]) fun ((((a31 : Option Addr), (n32 : Nat), (c33 : Nat)), _), _) =>
      π.call (97 : Nat) #[(Go.Value.slice (a25) (n26) (c27))] (false, [(false, [.slice])]) fun ((((a34 : Option Addr), (n35 : Nat), (c36 : Nat)), _), _) =>
      π.call (98 : Nat) #[(Go.Value.slice (a28) (n29) (c30))] (false, [(false, [.slice])]) fun ((((a37 : Option Addr), (n38 : Nat), (c39 : Nat)), _), _) =>
      π.nw (Go.Obj.cells #[(Go.Value.int (IntKind.i64) (x20)), (Go.Value.string (t21)), (Go.Value.slice (a31) (n32) (c33)), (Go.Value.slice (a34) (n35) (c36)), (Go.Value.slice (a37) (n38) (c39))] (139 : Nat) ((0 : Nat), (0 : Nat))) fun r40 =>
      π.app (139 : Nat) (5 : Nat) (96 : Nat) [(Go.Value.int (IntKind.i64) ((0 : Int))), (Go.Value.string (ByteArray.mk #[])), (Go.Value.slice (none) ((0 : Nat)) ((0 : Nat))), (Go.Value.slice (none) ((0 : Nat)) ((0 : Nat))), (Go.Value.slice (none) ((0 : Nat)) ((0 : Nat)))] (a11) (n12) (c13) (Src.sl (some (Addr.mk r40 (0 : Nat) none)) (1 : Nat)) fun a41 n42 c43 =>
      again0 ((x1, x2, (a3, n4, c5), ()), (x6, x7, (a8, n9, c10), ()), ((a41, n42, c43), ()), ((a14, n15, c16), ()), (x17, ()), (IntKind.i64.wrap (x18 + (1 : Int)), ()), ())
    ) (
      π.ret (Go.Value.agg #[(Go.Value.int (IntKind.i64) (x1)), (Go.Value.int (IntKind.i64) (x2)), (Go.Value.slice (a11) (n12) (c13))])
    )
def ann_bTables : Ann := { draws := [(5, { A := [0, 1, 3, 4, 6, 7], chkL := [(2, [4, 7]), (5, [7])], eag := [9, 11, 13] })], join := [], loop := [(3, [(1, 44), (2, 44), (3, 42), (7, 42), (8, 3), (9, 3)])] }
def la_bTables : LA := { ptr := [(1, 1, 0), (2, 2, 0), (5, 5, 0), (6, 1, 2), (13, 5, 2), (16, 5, 3), (19, 5, 4), (22, 5, 2), (23, 5, 3), (24, 5, 4), (31, 1, 2)], ty := [(1, 44), (2, 44), (5, 139)] }
set_option maxRecDepth 100000 in
theorem eq_bTables {W : Type} (π : Prims W) (sv sl : Int) (sa : Option Addr) (san sac : Nat) : bodyL π Tryz.prog la_bTables ann_bTables (mkFr (maskA [] [.v (.agg #[.int .i64 sv, .int .i64 sl, .slice sa san sac])] 0) 33) Tryz.f68 (bodyOf Tryz.f68) (mkFr (List.map some [.v (.agg #[.int .i64 sv, .int .i64 sl, .slice sa san sac])]) 33) = vc_bTables π sv sl sa san sac := by kernel_rfl
theorem ok_bTables (sv sl : Int) (sa : Option Addr) (san sac : Nat) (R : Value → PH → Prop) (s : PH) (h : vc_bTables (RP Tryz.prog R) sv sl sa san sac s) : DCalls Tryz.prog 68 (List.map AV.val [.v (.agg #[.int .i64 sv, .int .i64 sl, .slice sa san sac])]).toArray s R :=
  calls_vcL (c := bodyOf Tryz.f68) (ann := ann_bTables) la_bTables (by kernel_rfl) Tryz.func68 rfl (by kernel_rfl) [.v (.agg #[.int .i64 sv, .int .i64 sl, .slice sa san sac])] [] (by rw [Tryz.ntmps68]; exact Nat.le_of_ble_eq_true rfl) (by kernel_rfl) (by rw [show Tryz.f68.ntmps = 33 from Tryz.ntmps68, eq_bTables]; exact h)
/-- lintel/board.copied -/
def vc_bCopied {W : Type} (π : Prims W) (sv sl : Int) (sa : Option Addr) (san sac : Nat) (la : Option Addr) (lan lac : Nat) (ja : Option Addr) (jan jac : Nat) : W :=
  π.call (68 : Nat) #[(Go.Value.agg #[(Go.Value.int (IntKind.i64) (sv)), (Go.Value.int (IntKind.i64) (sl)), (Go.Value.slice (sa) (san) (sac))])] (false, [(true, [.int .i64, .int .i64, .slice])]) fun (((x0 : Int), (x1 : Int), ((a2 : Option Addr), (n3 : Nat), (c4 : Nat)), _), _) =>
  π.call (69 : Nat) #[(Go.Value.slice (la) (lan) (lac))] (false, [(false, [.slice])]) fun ((((a5 : Option Addr), (n6 : Nat), (c7 : Nat)), _), _) =>
  π.call (70 : Nat) #[(Go.Value.slice (ja) (jan) (jac))] (false, [(false, [.slice])]) fun ((((a8 : Option Addr), (n9 : Nat), (c10 : Nat)), _), _) =>
  π.loop [(true, [.int .i64, .int .i64, .slice, .slice, .slice]), (true, [.int .i64, .int .i64, .slice, .slice, .slice]), (false, [.int .i64]), (false, [.int .i64])] ((x0, x1, (a2, n3, c4), (a5, n6, c7), (a8, n9, c10), ()), ((0 : Int), (0 : Int), (none, (0 : Nat), (0 : Nat)), (none, (0 : Nat), (0 : Nat)), (none, (0 : Nat), (0 : Nat)), ()), ((↑n9 : Int), ()), ((0 : Int), ()), ()) fun (((x12 : Int), (x13 : Int), ((a14 : Option Addr), (n15 : Nat), (c16 : Nat)), ((a17 : Option Addr), (n18 : Nat), (c19 : Nat)), ((a20 : Option Addr), (n21 : Nat), (c22 : Nat)), _), ((x23 : Int), (x24 : Int), ((a25 : Option Addr), (n26 : Nat), (c27 : Nat)), ((a28 : Option Addr), (n29 : Nat), (c30 : Nat)), ((a31 : Option Addr), (n32 : Nat), (c33 : Nat)), _), ((x34 : Int), _), ((x35 : Int), _), _) again11 =>
    π.ite (decide (x35 < x34)) (
      π.guard ((0 : Int) ≤ x35 ∧ x35 < (↑n21 : Int)) <|
      π.unSome (a20) fun p36 =>
      π.ld [.slice] (((p36.add (x35.toNat * (22 : Nat))).add (5 : Nat)).add (10 : Nat)) fun (((a37 : Option Addr), (n38 : Nat), (c39 : Nat)), _) =>
      π.call (40 : Nat) #[(Go.Value.slice (a37) (n38) (c39))] (false, [(false, [.slice])]) fun ((((a40 : Option Addr), (n41 : Nat), (c42 : Nat)), _), _) =>
      π.guard ((0 : Int) ≤ x35 ∧ x35 < (↑n21 : Int)) <|
      π.unSome (a20) fun p43 =>
      π.st (((p43.add (x35.toNat * (22 : Nat))).add (5 : Nat)).add (10 : Nat)) [(Go.Value.slice (a40) (n41) (c42))] <|
      again11 ((x12, x13, (a14, n15, c16), (a17, n18, c19), (a20, n21, c22), ()), (x23, x24, (a25, n26, c27), (a28, n29, c30), (a31, n32, c33), ()), (x34, ()), (IntKind.i64.wrap (x35 + (1 : Int)), ()), ())
    ) (
      π.ret (Go.Value.agg #[(Go.Value.int (IntKind.i64) (x12)), (Go.Value.int (IntKind.i64) (x13)), (Go.Value.slice (a14) (n15) (c16)), (Go.Value.slice (a17) (n18) (c19)), (Go.Value.slice (a20) (n21) (c22))])
    )
def ann_bCopied : Ann := { draws := [(2, { A := [0, 1, 3, 4], chkL := [(2, [4])], eag := [6, 8] }), (6, { A := [0, 1, 2, 3, 4, 5, 6, 7, 8, 9], chkL := [(10, [1])], eag := [11, 12, 13] })], join := [], loop := [(4, [(1, 54), (2, 54), (18, 3), (19, 3)])] }
def la_bCopied : LA := { ptr := [(1, 1, 0), (2, 2, 0), (4, 1, 0), (7, 1, 0), (8, 1, 3), (11, 1, 4), (14, 1, 3), (15, 1, 4), (16, 1, 4), (22, 1, 4), (25, 1, 4)], ty := [(1, 54), (2, 54)] }
set_option maxRecDepth 100000 in
theorem eq_bCopied {W : Type} (π : Prims W) (sv sl : Int) (sa : Option Addr) (san sac : Nat) (la : Option Addr) (lan lac : Nat) (ja : Option Addr) (jan jac : Nat) : bodyL π Tryz.prog la_bCopied ann_bCopied (mkFr (maskA [] [.v (.agg #[.int .i64 sv, .int .i64 sl, .slice sa san sac, .slice la lan lac, .slice ja jan jac])] 0) 38) Tryz.f38 (bodyOf Tryz.f38) (mkFr (List.map some [.v (.agg #[.int .i64 sv, .int .i64 sl, .slice sa san sac, .slice la lan lac, .slice ja jan jac])]) 38) = vc_bCopied π sv sl sa san sac la lan lac ja jan jac := by kernel_rfl
theorem ok_bCopied (sv sl : Int) (sa : Option Addr) (san sac : Nat) (la : Option Addr) (lan lac : Nat) (ja : Option Addr) (jan jac : Nat) (R : Value → PH → Prop) (s : PH) (h : vc_bCopied (RP Tryz.prog R) sv sl sa san sac la lan lac ja jan jac s) : DCalls Tryz.prog 38 (List.map AV.val [.v (.agg #[.int .i64 sv, .int .i64 sl, .slice sa san sac, .slice la lan lac, .slice ja jan jac])]).toArray s R :=
  calls_vcL (c := bodyOf Tryz.f38) (ann := ann_bCopied) la_bCopied (by kernel_rfl) Tryz.func38 rfl (by kernel_rfl) [.v (.agg #[.int .i64 sv, .int .i64 sl, .slice sa san sac, .slice la lan lac, .slice ja jan jac])] [] (by rw [Tryz.ntmps38]; exact Nat.le_of_ble_eq_true rfl) (by kernel_rfl) (by rw [show Tryz.f38.ntmps = 38 from Tryz.ntmps38, eq_bCopied]; exact h)
/-- (*lintel/board.Board).Save -/
def vc_Save {W : Type} (π : Prims W) (b : Nat) : W :=
  π.ite ((some (Addr.mk b (0 : Nat) none)).isNone) (
    π.ret (Go.Value.agg #[(Go.Value.int (IntKind.i64) ((0 : Int))), (Go.Value.int (IntKind.i64) ((0 : Int))), (Go.Value.slice (none) ((0 : Nat)) ((0 : Nat))), (Go.Value.slice (none) ((0 : Nat)) ((0 : Nat))), (Go.Value.slice (none) ((0 : Nat)) ((0 : Nat)))])
  ) (
    π.unSome (some (Addr.mk b (0 : Nat) none)) fun p0 =>
    π.ld [.int .i64, .int .i64, .slice, .slice, .slice] (p0.add (0 : Nat)) fun ((x1 : Int), (x2 : Int), ((a3 : Option Addr), (n4 : Nat), (c5 : Nat)), ((a6 : Option Addr), (n7 : Nat), (c8 : Nat)), ((a9 : Option Addr), (n10 : Nat), (c11 : Nat)), _) =>
    π.call (38 : Nat) #[(Go.Value.agg #[(Go.Value.int (IntKind.i64) (x1)), (Go.Value.int (IntKind.i64) (x2)), (Go.Value.slice (a3) (n4) (c5)), (Go.Value.slice (a6) (n7) (c8)), (Go.Value.slice (a9) (n10) (c11))])] (false, [(true, [.int .i64, .int .i64, .slice, .slice, .slice])]) fun (((x12 : Int), (x13 : Int), ((a14 : Option Addr), (n15 : Nat), (c16 : Nat)), ((a17 : Option Addr), (n18 : Nat), (c19 : Nat)), ((a20 : Option Addr), (n21 : Nat), (c22 : Nat)), _), _) =>
    π.ret (Go.Value.agg #[(Go.Value.int (IntKind.i64) (x12)), (Go.Value.int (IntKind.i64) (x13)), (Go.Value.slice (a14) (n15) (c16)), (Go.Value.slice (a17) (n18) (c19)), (Go.Value.slice (a20) (n21) (c22))])
  )
def ann_Save : Ann := { draws := [], join := [], loop := [] }
def la_Save : LA := { ptr := [(2, 2, 0)], ty := [(2, 54)] }
set_option maxRecDepth 100000 in
theorem eq_Save {W : Type} (π : Prims W) (b : Nat) : bodyL π Tryz.prog la_Save ann_Save (mkFr (maskA [] [.v (.pointer (some ⟨b, 0, none⟩))] 0) 11) Tryz.f13 (bodyOf Tryz.f13) (mkFr (List.map some [.v (.pointer (some ⟨b, 0, none⟩))]) 11) = vc_Save π b := by kernel_rfl
theorem ok_Save (b : Nat) (R : Value → PH → Prop) (s : PH) (h : vc_Save (RP Tryz.prog R) b s) : DCalls Tryz.prog 13 (List.map AV.val [.v (.pointer (some ⟨b, 0, none⟩))]).toArray s R :=
  calls_vcL (c := bodyOf Tryz.f13) (ann := ann_Save) la_Save (by kernel_rfl) Tryz.func13 rfl (by kernel_rfl) [.v (.pointer (some ⟨b, 0, none⟩))] [] (by rw [Tryz.ntmps13]; exact Nat.le_of_ble_eq_true rfl) (by kernel_rfl) (by rw [show Tryz.f13.ntmps = 11 from Tryz.ntmps13, eq_Save]; exact h)
/-- (*lintel/board.Board).Schema -/
def vc_bSchema {W : Type} (π : Prims W) (b : Nat) : W :=
  π.call (13 : Nat) #[(Go.Value.pointer (some (Addr.mk b (0 : Nat) none)))] (false, [(true, [.int .i64, .int .i64, .slice, .slice, .slice])]) fun (((x0 : Int), (x1 : Int), ((a2 : Option Addr), (n3 : Nat), (c4 : Nat)), ((a5 : Option Addr), (n6 : Nat), (c7 : Nat)), ((a8 : Option Addr), (n9 : Nat), (c10 : Nat)), _), _) =>
  π.ret (Go.Value.agg #[(Go.Value.int (IntKind.i64) (x0)), (Go.Value.int (IntKind.i64) (x1)), (Go.Value.slice (a2) (n3) (c4))])
def ann_bSchema : Ann := { draws := [], join := [], loop := [] }
def la_bSchema : LA := { ptr := [(2, 2, 0)], ty := [(2, 44)] }
set_option maxRecDepth 100000 in
theorem eq_bSchema {W : Type} (π : Prims W) (b : Nat) : bodyL π Tryz.prog la_bSchema ann_bSchema (mkFr (maskA [] [.v (.pointer (some ⟨b, 0, none⟩))] 0) 6) Tryz.f9 (bodyOf Tryz.f9) (mkFr (List.map some [.v (.pointer (some ⟨b, 0, none⟩))]) 6) = vc_bSchema π b := by kernel_rfl
theorem ok_bSchema (b : Nat) (R : Value → PH → Prop) (s : PH) (h : vc_bSchema (RP Tryz.prog R) b s) : DCalls Tryz.prog 9 (List.map AV.val [.v (.pointer (some ⟨b, 0, none⟩))]).toArray s R :=
  calls_vcL (c := bodyOf Tryz.f9) (ann := ann_bSchema) la_bSchema (by kernel_rfl) Tryz.func9 rfl (by kernel_rfl) [.v (.pointer (some ⟨b, 0, none⟩))] [] (by rw [Tryz.ntmps9]; exact Nat.le_of_ble_eq_true rfl) (by kernel_rfl) (by rw [show Tryz.f9.ntmps = 6 from Tryz.ntmps9, eq_bSchema]; exact h)
/-- lintel/board.force -/
def vc_force {W : Type} (π : Prims W) (l1 l2 l3 : Int) (at_ : Int) : W :=
  π.ret (Go.Value.bool (decide (l3 ≥ IntKind.i64.wrap (at_ - (3 : Int)))))
def ann_force : Ann := { draws := [], join := [], loop := [] }
def la_force : LA := { ptr := [(2, 2, 0), (5, 2, 2)], ty := [(2, 86)] }
set_option maxRecDepth 100000 in
theorem eq_force {W : Type} (π : Prims W) (l1 l2 l3 : Int) (at_ : Int) : bodyL π Tryz.prog la_force ann_force (mkFr (maskA [] [.v (.agg #[.int .i64 l1, .int .i64 l2, .int .i64 l3]), .v (.int .i64 at_)] 0) 10) Tryz.f44 (bodyOf Tryz.f44) (mkFr (List.map some [.v (.agg #[.int .i64 l1, .int .i64 l2, .int .i64 l3]), .v (.int .i64 at_)]) 10) = vc_force π l1 l2 l3 at_ := by kernel_rfl
theorem ok_force (l1 l2 l3 : Int) (at_ : Int) (R : Value → PH → Prop) (s : PH) (h : vc_force (RP Tryz.prog R) l1 l2 l3 at_ s) : DCalls Tryz.prog 44 (List.map AV.val [.v (.agg #[.int .i64 l1, .int .i64 l2, .int .i64 l3]), .v (.int .i64 at_)]).toArray s R :=
  calls_vcL (c := bodyOf Tryz.f44) (ann := ann_force) la_force (by kernel_rfl) Tryz.func44 rfl (by kernel_rfl) [.v (.agg #[.int .i64 l1, .int .i64 l2, .int .i64 l3]), .v (.int .i64 at_)] [] (by rw [Tryz.ntmps44]; exact Nat.le_of_ble_eq_true rfl) (by kernel_rfl) (by rw [show Tryz.f44.ntmps = 10 from Tryz.ntmps44, eq_force]; exact h)
/-- (*lintel/board.Board).hand -/
def vc_hand {W : Type} (π : Prims W) (b : Nat) : W :=
  π.unSome (some (Addr.mk b (0 : Nat) none)) fun p0 =>
  π.ld [.slice] ((p0.add (0 : Nat)).add (4 : Nat)) fun (((a1 : Option Addr), (n2 : Nat), (c3 : Nat)), _) =>
  π.loop [(false, [.int .i64]), (false, [.int .i64])] (((↑n2 : Int), ()), ((0 : Int), ()), ()) fun (((x5 : Int), _), ((x6 : Int), _), _) again4 =>
    π.ite (decide (x6 < x5)) (
      π.unSome (some (Addr.mk b (0 : Nat) none)) fun p7 =>
      π.ld [.slice] ((p7.add (0 : Nat)).add (4 : Nat)) fun (((a8 : Option Addr), (n9 : Nat), (c10 : Nat)), _) =>
      π.guard ((0 : Int) ≤ x6 ∧ x6 < (↑n9 : Int)) <|
      π.unSome (a8) fun p11 =>
      π.unSome (some (p11.add (x6.toNat * (22 : Nat)))) fun p12 =>
      π.ld [.int .i64] (p12.add (20 : Nat)) fun ((x13 : Int), _) =>
      π.ite (x13 == (0 : Int)) (
        π.ret (Go.Value.pointer (some (p11.add (x6.toNat * (22 : Nat)))))
      ) (
        again4 ((x5, ()), (IntKind.i64.wrap (x6 + (1 : Int)), ()), ())
      )
    ) (
      π.ret (Go.Value.pointer (none))
    )
def ann_hand : Ann := { draws := [], join := [], loop := [(2, [(10, 3), (11, 3)])] }
def la_hand : LA := { ptr := [], ty := [] }
set_option maxRecDepth 100000 in
theorem eq_hand {W : Type} (π : Prims W) (b : Nat) : bodyL π Tryz.prog la_hand ann_hand (mkFr (maskA [] [.v (.pointer (some ⟨b, 0, none⟩))] 0) 28) Tryz.f39 (bodyOf Tryz.f39) (mkFr (List.map some [.v (.pointer (some ⟨b, 0, none⟩))]) 28) = vc_hand π b := by kernel_rfl
theorem ok_hand (b : Nat) (R : Value → PH → Prop) (s : PH) (h : vc_hand (RP Tryz.prog R) b s) : DCalls Tryz.prog 39 (List.map AV.val [.v (.pointer (some ⟨b, 0, none⟩))]).toArray s R :=
  calls_vcL (c := bodyOf Tryz.f39) (ann := ann_hand) la_hand (by kernel_rfl) Tryz.func39 rfl (by kernel_rfl) [.v (.pointer (some ⟨b, 0, none⟩))] [] (by rw [Tryz.ntmps39]; exact Nat.le_of_ble_eq_true rfl) (by kernel_rfl) (by rw [show Tryz.f39.ntmps = 28 from Tryz.ntmps39, eq_hand]; exact h)
/-- lintel/board.move -/
def vc_move {W : Type} (π : Prims W) (p : Addr) : W :=
  π.unSome (some p) fun p0 =>
  π.ld [.int .i64, .str, .str, .str, .str, .bool, .int .i64, .int .i64, .int .i64, .str, .slice] (p0.add (5 : Nat)) fun ((x1 : Int), (t2 : ByteArray), (t3 : ByteArray), (t4 : ByteArray), (t5 : ByteArray), (b6 : Bool), (x7 : Int), (x8 : Int), (x9 : Int), (t10 : ByteArray), ((a11 : Option Addr), (n12 : Nat), (c13 : Nat)), _) =>
  π.unSome (some p) fun p14 =>
  π.ld [.bool] (p14.add (17 : Nat)) fun ((b15 : Bool), _) =>
  π.unSome (some p) fun p16 =>
  π.ld [.int .i64] (p16.add (16 : Nat)) fun ((x17 : Int), _) =>
  π.call (62 : Nat) #[(Go.Value.agg #[(Go.Value.int (IntKind.i64) (x1)), (Go.Value.string (t2)), (Go.Value.string (t3)), (Go.Value.string (t4)), (Go.Value.string (t5)), (Go.Value.bool (b6)), (Go.Value.int (IntKind.i64) (x7)), (Go.Value.int (IntKind.i64) (x8)), (Go.Value.int (IntKind.i64) (x9)), (Go.Value.string (t10)), (Go.Value.slice (a11) (n12) (c13))]), (Go.Value.bool (b15))] (false, [(false, [.slice])]) fun ((((a18 : Option Addr), (n19 : Nat), (c20 : Nat)), _), _) =>
  π.still [.int .i64] (p16.add (16 : Nat)) (x17, ()) <|
  π.guard ((0 : Int) ≤ x17 ∧ x17 < (↑n19 : Int)) <|
  π.unSome (a18) fun p21 =>
  π.ld [.int .i64, .int .i64] (p21.add (x17.toNat * (2 : Nat))) fun ((x22 : Int), (x23 : Int), _) =>
  π.ret (Go.Value.agg #[(Go.Value.int (IntKind.i64) (x22)), (Go.Value.int (IntKind.i64) (x23))])
def ann_move : Ann := { draws := [(1, { A := [0, 1, 2, 3, 4, 5, 6, 7, 9, 10, 11, 12], chkL := [(8, [12])], eag := [13] })], join := [], loop := [] }
def la_move : LA := { ptr := [(2, 2, 0)], ty := [(2, 61)] }
set_option maxRecDepth 100000 in
theorem eq_move {W : Type} (π : Prims W) (p : Addr) : bodyL π Tryz.prog la_move ann_move (mkFr (maskA [] [.v (.pointer (some p))] 0) 18) Tryz.f41 (bodyOf Tryz.f41) (mkFr (List.map some [.v (.pointer (some p))]) 18) = vc_move π p := by kernel_rfl
theorem ok_move (p : Addr) (R : Value → PH → Prop) (s : PH) (h : vc_move (RP Tryz.prog R) p s) : DCalls Tryz.prog 41 (List.map AV.val [.v (.pointer (some p))]).toArray s R :=
  calls_vcL (c := bodyOf Tryz.f41) (ann := ann_move) la_move (by kernel_rfl) Tryz.func41 rfl (by kernel_rfl) [.v (.pointer (some p))] [] (by rw [Tryz.ntmps41]; exact Nat.le_of_ble_eq_true rfl) (by kernel_rfl) (by rw [show Tryz.f41.ntmps = 18 from Tryz.ntmps41, eq_move]; exact h)
/-- (*lintel/board.Board).Hand -/
def vc_Hand {W : Type} (π : Prims W) (b : Nat) : W :=
  π.join [(true, [.int .i64, .int .i64, .int .i64, .int .i64, .int .i64, .int .i64, .str, .str, .str, .str, .bool, .int .i64, .int .i64, .int .i64, .str, .slice, .int .i64, .bool, .bool, .str, .int .i64, .int .i64]), (true, [.int .i64, .int .i64])] (fun J0 =>
    π.ite ((some (Addr.mk b (0 : Nat) none)).isNone) (
      π.ret (Go.Value.tuple #[(Go.Value.agg #[(Go.Value.int (IntKind.i64) ((0 : Int))), (Go.Value.int (IntKind.i64) ((0 : Int))), (Go.Value.int (IntKind.i64) ((0 : Int))), (Go.Value.int (IntKind.i64) ((0 : Int))), (Go.Value.int (IntKind.i64) ((0 : Int))), (Go.Value.int (IntKind.i64) ((0 : Int))), (Go.Value.string (ByteArray.mk #[])), (Go.Value.string (ByteArray.mk #[])), (Go.Value.string (ByteArray.mk #[])), (Go.Value.string (ByteArray.mk #[])), (Go.Value.bool (false)), (Go.Value.int (IntKind.i64) ((0 : Int))), (Go.Value.int (IntKind.i64) ((0 : Int))), (Go.Value.int (IntKind.i64) ((0 : Int))), (Go.Value.string (ByteArray.mk #[])), (Go.Value.slice (none) ((0 : Nat)) ((0 : Nat))), (Go.Value.int (IntKind.i64) ((0 : Int))), (Go.Value.bool (false)), (Go.Value.bool (false)), (Go.Value.string (ByteArray.mk #[])), (Go.Value.int (IntKind.i64) ((0 : Int))), (Go.Value.int (IntKind.i64) ((0 : Int)))]), (Go.Value.agg #[(Go.Value.int (IntKind.i64) ((0 : Int))), (Go.Value.int (IntKind.i64) ((0 : Int)))]), (Go.Value.bool (false))])
    ) (
      π.call (39 : Nat) #[(Go.Value.pointer (some (Addr.mk b (0 : Nat) none)))] (false, [(false, [.ptr])]) fun ((p1, _), _) =>
      π.ite (p1.isNone) (
        π.ret (Go.Value.tuple #[(Go.Value.agg #[(Go.Value.int (IntKind.i64) ((0 : Int))), (Go.Value.int (IntKind.i64) ((0 : Int))), (Go.Value.int (IntKind.i64) ((0 : Int))), (Go.Value.int (IntKind.i64) ((0 : Int))), (Go.Value.int (IntKind.i64) ((0 : Int))), (Go.Value.int (IntKind.i64) ((0 : Int))), (Go.Value.string (ByteArray.mk #[])), (Go.Value.string (ByteArray.mk #[])), (Go.Value.string (ByteArray.mk #[])), (Go.Value.string (ByteArray.mk #[])), (Go.Value.bool (false)), (Go.Value.int (IntKind.i64) ((0 : Int))), (Go.Value.int (IntKind.i64) ((0 : Int))), (Go.Value.int (IntKind.i64) ((0 : Int))), (Go.Value.string (ByteArray.mk #[])), (Go.Value.slice (none) ((0 : Nat)) ((0 : Nat))), (Go.Value.int (IntKind.i64) ((0 : Int))), (Go.Value.bool (false)), (Go.Value.bool (false)), (Go.Value.string (ByteArray.mk #[])), (Go.Value.int (IntKind.i64) ((0 : Int))), (Go.Value.int (IntKind.i64) ((0 : Int)))]), (Go.Value.agg #[(Go.Value.int (IntKind.i64) ((0 : Int))), (Go.Value.int (IntKind.i64) ((0 : Int)))]), (Go.Value.bool (false))])
      ) (
        J0 (((0 : Int), (0 : Int), (0 : Int), (0 : Int), (0 : Int), (0 : Int), ByteArray.mk #[], ByteArray.mk #[], ByteArray.mk #[], ByteArray.mk #[], false, (0 : Int), (0 : Int), (0 : Int), ByteArray.mk #[], (none, (0 : Nat), (0 : Nat)), (0 : Int), false, false, ByteArray.mk #[], (0 : Int), (0 : Int), ()), ((0 : Int), (0 : Int), ()), ())
      )
    )
  ) (fun (((x2 : Int), (x3 : Int), (x4 : Int), (x5 : Int), (x6 : Int), (x7 : Int), (t8 : ByteArray), (t9 : ByteArray), (t10 : ByteArray), (t11 : ByteArray), (b12 : Bool), (x13 : Int), (x14 : Int), (x15 : Int), (t16 : ByteArray), ((a17 : Option Addr), (n18 : Nat), (c19 : Nat)), (x20 : Int), (b21 : Bool), (b22 : Bool), (t23 : ByteArray), (x24 : Int), (x25 : Int), _), ((x26 : Int), (x27 : Int), _), _) =>
    π.call (39 : Nat) #[(Go.Value.pointer (some (Addr.mk b (0 : Nat) none)))] (false, [(false, [.ptr])]) fun ((p28, _), _) =>
    π.unSome (p28) fun p29 =>
    π.ld [.int .i64, .int .i64, .int .i64, .int .i64, .int .i64, .int .i64, .str, .str, .str, .str, .bool, .int .i64, .int .i64, .int .i64, .str, .slice, .int .i64, .bool, .bool, .str, .int .i64, .int .i64] (p29) fun ((x30 : Int), (x31 : Int), (x32 : Int), (x33 : Int), (x34 : Int), (x35 : Int), (t36 : ByteArray), (t37 : ByteArray), (t38 : ByteArray), (t39 : ByteArray), (b40 : Bool), (x41 : Int), (x42 : Int), (x43 : Int), (t44 : ByteArray), ((a45 : Option Addr), (n46 : Nat), (c47 : Nat)), (x48 : Int), (b49 : Bool), (b50 : Bool), (t51 : ByteArray), (x52 : Int), (x53 : Int), _) =>
    π.nw (Go.Obj.cells #[(Go.Value.int (IntKind.i64) ((0 : Int))), (Go.Value.int (IntKind.i64) ((0 : Int))), (Go.Value.int (IntKind.i64) ((0 : Int))), (Go.Value.int (IntKind.i64) ((0 : Int))), (Go.Value.int (IntKind.i64) ((0 : Int))), (Go.Value.int (IntKind.i64) ((0 : Int))), (Go.Value.string (ByteArray.mk #[])), (Go.Value.string (ByteArray.mk #[])), (Go.Value.string (ByteArray.mk #[])), (Go.Value.string (ByteArray.mk #[])), (Go.Value.bool (false)), (Go.Value.int (IntKind.i64) ((0 : Int))), (Go.Value.int (IntKind.i64) ((0 : Int))), (Go.Value.int (IntKind.i64) ((0 : Int))), (Go.Value.string (ByteArray.mk #[])), (Go.Value.slice (none) ((0 : Nat)) ((0 : Nat))), (Go.Value.int (IntKind.i64) ((0 : Int))), (Go.Value.bool (false)), (Go.Value.bool (false)), (Go.Value.string (ByteArray.mk #[])), (Go.Value.int (IntKind.i64) ((0 : Int))), (Go.Value.int (IntKind.i64) ((0 : Int)))] (58 : Nat) ((0 : Nat), (0 : Nat))) fun r54 =>
    π.st (Addr.mk r54 (0 : Nat) none) [(Go.Value.int (IntKind.i64) (x30)), (Go.Value.int (IntKind.i64) (x31)), (Go.Value.int (IntKind.i64) (x32)), (Go.Value.int (IntKind.i64) (x33)), (Go.Value.int (IntKind.i64) (x34)), (Go.Value.int (IntKind.i64) (x35)), (Go.Value.string (t36)), (Go.Value.string (t37)), (Go.Value.string (t38)), (Go.Value.string (t39)), (Go.Value.bool (b40)), (Go.Value.int (IntKind.i64) (x41)), (Go.Value.int (IntKind.i64) (x42)), (Go.Value.int (IntKind.i64) (x43)), (Go.Value.string (t44)), (Go.Value.slice (a45) (n46) (c47)), (Go.Value.int (IntKind.i64) (x48)), (Go.Value.bool (b49)), (Go.Value.bool (b50)), (Go.Value.string (t51)), (Go.Value.int (IntKind.i64) (x52)), (Go.Value.int (IntKind.i64) (x53))] <|
    π.ld [.slice] (((Addr.mk r54 (0 : Nat) none).add (5 : Nat)).add (10 : Nat)) fun (((a55 : Option Addr), (n56 : Nat), (c57 : Nat)), _) =>
    π.call (40 : Nat) #[(Go.Value.slice (a55) (n56) (c57))] (false, [(false, [.slice])]) fun ((((a58 : Option Addr), (n59 : Nat), (c60 : Nat)), _), _) =>
    π.st (((Addr.mk r54 (0 : Nat) none).add (5 : Nat)).add (10 : Nat)) [(Go.Value.slice (a58) (n59) (c60))] <|
    π.ld [.int .i64, .int .i64, .int .i64, .int .i64, .int .i64, .int .i64, .str, .str, .str, .str, .bool, .int .i64, .int .i64, .int .i64, .str, .slice, .int .i64, .bool, .bool, .str, .int .i64, .int .i64] (Addr.mk r54 (0 : Nat) none) fun ((x61 : Int), (x62 : Int), (x63 : Int), (x64 : Int), (x65 : Int), (x66 : Int), (t67 : ByteArray), (t68 : ByteArray), (t69 : ByteArray), (t70 : ByteArray), (b71 : Bool), (x72 : Int), (x73 : Int), (x74 : Int), (t75 : ByteArray), ((a76 : Option Addr), (n77 : Nat), (c78 : Nat)), (x79 : Int), (b80 : Bool), (b81 : Bool), (t82 : ByteArray), (x83 : Int), (x84 : Int), _) =>
    π.callQ (41 : Nat) #[(Go.Value.pointer (some (Addr.mk r54 (0 : Nat) none)))] (false, [(true, [.int .i64, .int .i64])]) fun (((x85 : Int), (x86 : Int), _), _) =>
    π.ret (Go.Value.tuple #[(Go.Value.agg #[(Go.Value.int (IntKind.i64) (x61)), (Go.Value.int (IntKind.i64) (x62)), (Go.Value.int (IntKind.i64) (x63)), (Go.Value.int (IntKind.i64) (x64)), (Go.Value.int (IntKind.i64) (x65)), (Go.Value.int (IntKind.i64) (x66)), (Go.Value.string (t67)), (Go.Value.string (t68)), (Go.Value.string (t69)), (Go.Value.string (t70)), (Go.Value.bool (b71)), (Go.Value.int (IntKind.i64) (x72)), (Go.Value.int (IntKind.i64) (x73)), (Go.Value.int (IntKind.i64) (x74)), (Go.Value.string (t75)), (Go.Value.slice (a76) (n77) (c78)), (Go.Value.int (IntKind.i64) (x79)), (Go.Value.bool (b80)), (Go.Value.bool (b81)), (Go.Value.string (t82)), (Go.Value.int (IntKind.i64) (x83)), (Go.Value.int (IntKind.i64) (x84))]), (Go.Value.agg #[(Go.Value.int (IntKind.i64) (x85)), (Go.Value.int (IntKind.i64) (x86))]), (Go.Value.bool (true))])
  )
def ann_Hand : Ann := { draws := [(5, { A := [0, 1], quiet := [1], eag := [4] })], join := [(3, [(2, 58), (3, 61)])], loop := [] }
def la_Hand : LA := { ptr := [(2, 2, 0), (3, 3, 0)], ty := [(2, 58), (3, 61)] }
set_option maxRecDepth 100000 in
theorem eq_Hand {W : Type} (π : Prims W) (b : Nat) : bodyL π Tryz.prog la_Hand ann_Hand (mkFr (maskA [] [.v (.pointer (some ⟨b, 0, none⟩))] 0) 27) Tryz.f15 (bodyOf Tryz.f15) (mkFr (List.map some [.v (.pointer (some ⟨b, 0, none⟩))]) 27) = vc_Hand π b := by kernel_rfl
theorem ok_Hand (b : Nat) (R : Value → PH → Prop) (s : PH) (h : vc_Hand (RP Tryz.prog R) b s) : DCalls Tryz.prog 15 (List.map AV.val [.v (.pointer (some ⟨b, 0, none⟩))]).toArray s R :=
  calls_vcL (c := bodyOf Tryz.f15) (ann := ann_Hand) la_Hand (by kernel_rfl) Tryz.func15 rfl (by kernel_rfl) [.v (.pointer (some ⟨b, 0, none⟩))] [] (by rw [Tryz.ntmps15]; exact Nat.le_of_ble_eq_true rfl) (by kernel_rfl) (by rw [show Tryz.f15.ntmps = 27 from Tryz.ntmps15, eq_Hand]; exact h)
/-- (*lintel/board.Board).grant$1 -/
def vc_grant1 {W : Type} (π : Prims W) (l1 l2 l3 : Int) (p q : Nat) : W :=
  π.ld [.int .i64] (Addr.mk p (0 : Nat) none) fun ((x0 : Int), _) =>
  π.call (44 : Nat) #[(Go.Value.agg #[(Go.Value.int (IntKind.i64) (l1)), (Go.Value.int (IntKind.i64) (l2)), (Go.Value.int (IntKind.i64) (l3))]), (Go.Value.int (IntKind.i64) (x0))] (false, [(false, [.bool])]) fun (((b1 : Bool), _), _) =>
  π.ite (!b1) (
    π.ret (Go.Value.bool (true))
  ) (
    π.ld [.int .i64] ((Addr.mk q (0 : Nat) none).add (0 : Nat)) fun ((x2 : Int), _) =>
    π.ite (l1 == x2) (
      π.ld [.int .i64] ((Addr.mk q (0 : Nat) none).add (1 : Nat)) fun ((x3 : Int), _) =>
      π.ret (Go.Value.bool (l2 == x3))
    ) (
      π.ret (Go.Value.bool (false))
    )
  )
def ann_grant1 : Ann := { draws := [], join := [], loop := [] }
def la_grant1 : LA := { ptr := [(3, 3, 0), (10, 3, 0), (16, 3, 1)], ty := [(3, 86)] }
set_option maxRecDepth 100000 in
theorem eq_grant1 {W : Type} (π : Prims W) (l1 l2 l3 : Int) (p q : Nat) : bodyL π Tryz.prog la_grant1 ann_grant1 (mkFr (maskA [] [.v (.agg #[.int .i64 l1, .int .i64 l2, .int .i64 l3]), .v (.pointer (some ⟨p, 0, none⟩)), .v (.pointer (some ⟨q, 0, none⟩))] 0) 23) Tryz.f61 (bodyOf Tryz.f61) (mkFr (List.map some [.v (.agg #[.int .i64 l1, .int .i64 l2, .int .i64 l3]), .v (.pointer (some ⟨p, 0, none⟩)), .v (.pointer (some ⟨q, 0, none⟩))]) 23) = vc_grant1 π l1 l2 l3 p q := by kernel_rfl
theorem ok_grant1 (l1 l2 l3 : Int) (p q : Nat) (R : Value → PH → Prop) (s : PH) (h : vc_grant1 (RP Tryz.prog R) l1 l2 l3 p q s) : DCalls Tryz.prog 61 (List.map AV.val [.v (.agg #[.int .i64 l1, .int .i64 l2, .int .i64 l3]), .v (.pointer (some ⟨p, 0, none⟩)), .v (.pointer (some ⟨q, 0, none⟩))]).toArray s R :=
  calls_vcL (c := bodyOf Tryz.f61) (ann := ann_grant1) la_grant1 (by kernel_rfl) Tryz.func61 rfl (by kernel_rfl) [.v (.agg #[.int .i64 l1, .int .i64 l2, .int .i64 l3]), .v (.pointer (some ⟨p, 0, none⟩)), .v (.pointer (some ⟨q, 0, none⟩))] [] (by rw [Tryz.ntmps61]; exact Nat.le_of_ble_eq_true rfl) (by kernel_rfl) (by rw [show Tryz.f61.ntmps = 23 from Tryz.ntmps61, eq_grant1]; exact h)
/-- slices.DeleteFunc[[]lintel/api.Lease,lintel/api.Lease] -/
def vc_DelL {W : Type} (π : Prims W) (a : Option Addr) (an ac : Nat) (p q : Nat) : W :=
  π.call (71 : Nat) #[(Go.Value.slice (a) (an) (ac)), (Go.Value.func (Fn.func (61 : Nat)) #[] #[(Go.Value.pointer (some (Addr.mk p (0 : Nat) none))), (Go.Value.pointer (some (Addr.mk q (0 : Nat) none)))])] (false, [(false, [.int .i64])]) fun (((x0 : Int), _), _) =>
  π.ite (x0 == (-1 : Int)) (
    π.ret (Go.Value.slice (a) (an) (ac))
  ) (
    π.loop [(false, [.int .i64]), (false, [.int .i64])] ((x0, ()), (IntKind.i64.wrap (x0 + (1 : Int)), ()), ()) fun (((x2 : Int), _), ((x3 : Int), _), _) again1 =>
      π.ite (decide (x3 < (↑an : Int))) (
        π.guard ((0 : Int) ≤ x3 ∧ x3 < (↑an : Int)) <|
        π.unSome (a) fun p4 =>
        π.ld [.int .i64, .int .i64, .int .i64] (p4.add (x3.toNat * (3 : Nat))) fun ((x5 : Int), (x6 : Int), (x7 : Int), _) =>
        π.call (61 : Nat) #[(Go.Value.agg #[(Go.Value.int (IntKind.i64) (x5)), (Go.Value.int (IntKind.i64) (x6)), (Go.Value.int (IntKind.i64) (x7))]), (Go.Value.pointer (some (Addr.mk p (0 : Nat) none))), (Go.Value.pointer (some (Addr.mk q (0 : Nat) none)))] (false, [(false, [.bool])]) fun (((b8 : Bool), _), _) =>
        π.ite (!b8) (
          π.guard ((0 : Int) ≤ x2 ∧ x2 < (↑an : Int)) <|
          π.unSome (a) fun p9 =>
          π.st (p9.add (x2.toNat * (3 : Nat))) [(Go.Value.int (IntKind.i64) (x5)), (Go.Value.int (IntKind.i64) (x6)), (Go.Value.int (IntKind.i64) (x7))] <|
          again1 ((IntKind.i64.wrap (x2 + (1 : Int)), ()), (IntKind.i64.wrap (x3 + (1 : Int)), ()), ())
        ) (
          again1 ((x2, ()), (IntKind.i64.wrap (x3 + (1 : Int)), ()), ())
        )
      ) (
        π.guard ((0 : Int) ≤ x2 ∧ x2 ≤ (↑an : Int) ∧ (↑an : Int) ≤ (↑ac : Int)) <|
        π.clr [(Go.Value.int (IntKind.i64) ((0 : Int))), (Go.Value.int (IntKind.i64) ((0 : Int))), (Go.Value.int (IntKind.i64) ((0 : Int)))] (if ac = x2.toNat then a else Option.map (fun x => x.add (x2.toNat * (3 : Nat))) a) ((↑an : Int).toNat - x2.toNat) <|
        π.guard ((0 : Int) ≤ (0 : Int) ∧ (0 : Int) ≤ x2 ∧ x2 ≤ (↑ac : Int)) <|
        π.ret (Go.Value.slice (if ac = (0 : Nat) then a else Option.map (fun x => x.add (0 : Nat)) a) (x2.toNat - (0 : Nat)) (ac - (0 : Nat)))
      )
  )
def ann_DelL : Ann := { draws := [], join := [], loop := [(5, [(5, 3), (6, 3)])] }
def la_DelL : LA := { ptr := [(7, 7, 0)], ty := [(7, 86)] }
set_option maxRecDepth 100000 in
theorem eq_DelL {W : Type} (π : Prims W) (a : Option Addr) (an ac : Nat) (p q : Nat) : bodyL π Tryz.prog la_DelL ann_DelL (mkFr (maskA [] [.v (.slice a an ac), .v (.func (.func 61) #[] #[.pointer (some ⟨p, 0, none⟩), .pointer (some ⟨q, 0, none⟩)])] 0) 42) Tryz.f60 (bodyOf Tryz.f60) (mkFr (List.map some [.v (.slice a an ac), .v (.func (.func 61) #[] #[.pointer (some ⟨p, 0, none⟩), .pointer (some ⟨q, 0, none⟩)])]) 42) = vc_DelL π a an ac p q := by kernel_rfl
theorem ok_DelL (a : Option Addr) (an ac : Nat) (p q : Nat) (R : Value → PH → Prop) (s : PH) (h : vc_DelL (RP Tryz.prog R) a an ac p q s) : DCalls Tryz.prog 60 (List.map AV.val [.v (.slice a an ac), .v (.func (.func 61) #[] #[.pointer (some ⟨p, 0, none⟩), .pointer (some ⟨q, 0, none⟩)])]).toArray s R :=
  calls_vcL (c := bodyOf Tryz.f60) (ann := ann_DelL) la_DelL (by kernel_rfl) Tryz.func60 rfl (by kernel_rfl) [.v (.slice a an ac), .v (.func (.func 61) #[] #[.pointer (some ⟨p, 0, none⟩), .pointer (some ⟨q, 0, none⟩)])] [] (by rw [Tryz.ntmps60]; exact Nat.le_of_ble_eq_true rfl) (by kernel_rfl) (by rw [show Tryz.f60.ntmps = 42 from Tryz.ntmps60, eq_DelL]; exact h)
/-- slices.IndexFunc[[]lintel/api.Lease,lintel/api.Lease] -/
def vc_IndexFuncL {W : Type} (π : Prims W) (a : Option Addr) (an ac : Nat) (p q : Nat) : W :=
  π.loop [(false, [.int .i64]), (false, [.int .i64])] (((↑an : Int), ()), ((0 : Int), ()), ()) fun (((x1 : Int), _), ((x2 : Int), _), _) again0 =>
    π.ite (decide (x2 < x1)) (
      π.guard ((0 : Int) ≤ x2 ∧ x2 < (↑an : Int)) <|
      π.unSome (a) fun p3 =>
      π.ld [.int .i64, .int .i64, .int .i64] (p3.add (x2.toNat * (3 : Nat))) fun ((x4 : Int), (x5 : Int), (x6 : Int), _) =>
      π.call (61 : Nat) #[(Go.Value.agg #[(Go.Value.int (IntKind.i64) (x4)), (Go.Value.int (IntKind.i64) (x5)), (Go.Value.int (IntKind.i64) (x6))]), (Go.Value.pointer (some (Addr.mk p (0 : Nat) none))), (Go.Value.pointer (some (Addr.mk q (0 : Nat) none)))] (false, [(false, [.bool])]) fun (((b7 : Bool), _), _) =>
      π.ite (b7) (
        π.ret (Go.Value.int (IntKind.i64) (x2))
      ) (
        again0 ((x1, ()), (IntKind.i64.wrap (x2 + (1 : Int)), ()), ())
      )
    ) (
      π.ret (Go.Value.int (IntKind.i64) ((-1 : Int)))
    )
def ann_IndexFuncL : Ann := { draws := [], join := [], loop := [(2, [(7, 3), (8, 3)])] }
def la_IndexFuncL : LA := { ptr := [], ty := [] }
set_option maxRecDepth 100000 in
theorem eq_IndexFuncL {W : Type} (π : Prims W) (a : Option Addr) (an ac : Nat) (p q : Nat) : bodyL π Tryz.prog la_IndexFuncL ann_IndexFuncL (mkFr (maskA [] [.v (.slice a an ac), .v (.func (.func 61) #[] #[.pointer (some ⟨p, 0, none⟩), .pointer (some ⟨q, 0, none⟩)])] 0) 19) Tryz.f71 (bodyOf Tryz.f71) (mkFr (List.map some [.v (.slice a an ac), .v (.func (.func 61) #[] #[.pointer (some ⟨p, 0, none⟩), .pointer (some ⟨q, 0, none⟩)])]) 19) = vc_IndexFuncL π a an ac p q := by kernel_rfl
theorem ok_IndexFuncL (a : Option Addr) (an ac : Nat) (p q : Nat) (R : Value → PH → Prop) (s : PH) (h : vc_IndexFuncL (RP Tryz.prog R) a an ac p q s) : DCalls Tryz.prog 71 (List.map AV.val [.v (.slice a an ac), .v (.func (.func 61) #[] #[.pointer (some ⟨p, 0, none⟩), .pointer (some ⟨q, 0, none⟩)])]).toArray s R :=
  calls_vcL (c := bodyOf Tryz.f71) (ann := ann_IndexFuncL) la_IndexFuncL (by kernel_rfl) Tryz.func71 rfl (by kernel_rfl) [.v (.slice a an ac), .v (.func (.func 61) #[] #[.pointer (some ⟨p, 0, none⟩), .pointer (some ⟨q, 0, none⟩)])] [] (by rw [Tryz.ntmps71]; exact Nat.le_of_ble_eq_true rfl) (by kernel_rfl) (by rw [show Tryz.f71.ntmps = 19 from Tryz.ntmps71, eq_IndexFuncL]; exact h)
/-- (*lintel/board.Board).grant -/
def vc_grant {W : Type} (π : Prims W) (b : Nat) (at_ : Int) (ck y1 y2 y3 x1 x2 x3 ho : Int) (ra : Option Addr) (rn rc : Nat) (wa : Option Addr) (wn wc : Nat) (mi un ts ve ca : Int) (dk : Int) (dt dn dc dp : ByteArray) (du : Bool) (dy vk vn : Int) (vs : ByteArray) (da : Option Addr) (dan dac : Nat) (jo ph : Int) (mk : ByteArray) (wh : Int) : W :=
  π.nw (Go.Obj.cells #[(Go.Value.int (IntKind.i64) (at_))] (3 : Nat) ((0 : Nat), (0 : Nat))) fun r0 =>
  π.join [(false, [.addr]), (true, [.int .i64, .int .i64, .int .i64, .int .i64, .int .i64, .int .i64, .int .i64, .int .i64, .slice, .slice, .int .i64, .int .i64, .int .i64, .int .i64, .int .i64, .int .i64, .str, .str, .str, .str, .bool, .int .i64, .int .i64, .int .i64, .str, .slice, .int .i64, .int .i64, .str, .int .i64]), (true, [.int .i64, .int .i64, .int .i64, .int .i64, .int .i64, .int .i64, .int .i64, .int .i64, .bool])] (fun J1 =>
    π.call (39 : Nat) #[(Go.Value.pointer (some (Addr.mk b (0 : Nat) none)))] (false, [(false, [.ptr])]) fun ((p2, _), _) =>
    π.ite (!p2.isNone) (
      π.unSome (p2) fun p3 =>
      π.ld [.bool] (p3.add (18 : Nat)) fun ((b4 : Bool), _) =>
      π.ite (b4) (
        π.ret (Go.Value.agg #[(Go.Value.int (IntKind.i64) ((162 : Int))), (Go.Value.int (IntKind.i64) ((0 : Int))), (Go.Value.int (IntKind.i64) ((0 : Int))), (Go.Value.int (IntKind.i64) ((0 : Int))), (Go.Value.int (IntKind.i64) ((0 : Int))), (Go.Value.int (IntKind.i64) ((0 : Int))), (Go.Value.int (IntKind.i64) ((0 : Int))), (Go.Value.int (IntKind.i64) ((0 : Int))), (Go.Value.bool (false))])
      ) (
        J1 ((Addr.mk r0 (0 : Nat) none, ()), (ck, y1, y2, y3, x1, x2, x3, ho, (ra, rn, rc), (wa, wn, wc), mi, un, ts, ve, ca, dk, dt, dn, dc, dp, du, dy, vk, vn, vs, (da, dan, dac), jo, ph, mk, wh, ()), ((0 : Int), (0 : Int), (0 : Int), (0 : Int), (0 : Int), (0 : Int), (0 : Int), (0 : Int), false, ()), ())
      )
    ) (
      J1 ((Addr.mk r0 (0 : Nat) none, ()), (ck, y1, y2, y3, x1, x2, x3, ho, (ra, rn, rc), (wa, wn, wc), mi, un, ts, ve, ca, dk, dt, dn, dc, dp, du, dy, vk, vn, vs, (da, dan, dac), jo, ph, mk, wh, ()), ((0 : Int), (0 : Int), (0 : Int), (0 : Int), (0 : Int), (0 : Int), (0 : Int), (0 : Int), false, ()), ())
    )
  ) (fun ((p5, _), ((x6 : Int), (x7 : Int), (x8 : Int), (x9 : Int), (x10 : Int), (x11 : Int), (x12 : Int), (x13 : Int), ((a14 : Option Addr), (n15 : Nat), (c16 : Nat)), ((a17 : Option Addr), (n18 : Nat), (c19 : Nat)), (x20 : Int), (x21 : Int), (x22 : Int), (x23 : Int), (x24 : Int), (x25 : Int), (t26 : ByteArray), (t27 : ByteArray), (t28 : ByteArray), (t29 : ByteArray), (b30 : Bool), (x31 : Int), (x32 : Int), (x33 : Int), (t34 : ByteArray), ((a35 : Option Addr), (n36 : Nat), (c37 : Nat)), (x38 : Int), (x39 : Int), (t40 : ByteArray), (x41 : Int), _), ((x42 : Int), (x43 : Int), (x44 : Int), (x45 : Int), (x46 : Int), (x47 : Int), (x48 : Int), (x49 : Int), (b50 : Bool), _), _) =>
    π.unSome (some (Addr.mk b (0 : Nat) none)) fun p51 =>
    π.ld [.int .i64] (((p51.add (0 : Nat)).add (0 : Nat)).add (0 : Nat)) fun ((x52 : Int), _) =>
    π.ld [.int .i64] (p5) fun ((x53 : Int), _) =>
    π.nw (Go.Obj.cells #[(Go.Value.int (IntKind.i64) ((0 : Int))), (Go.Value.int (IntKind.i64) ((0 : Int))), (Go.Value.int (IntKind.i64) ((0 : Int)))] (86 : Nat) ((0 : Nat), (0 : Nat))) fun r54 =>
    π.st (Addr.mk r54 (0 : Nat) none) [(Go.Value.int (IntKind.i64) (x7)), (Go.Value.int (IntKind.i64) (x52)), (Go.Value.int (IntKind.i64) (IntKind.i64.wrap (x53 + (20 : Int))))] <|
    π.unSome (some (Addr.mk b (0 : Nat) none)) fun p55 =>
    π.ld [.slice] ((p55.add (0 : Nat)).add (3 : Nat)) fun (((a56 : Option Addr), (n57 : Nat), (c58 : Nat)), _) =>
    π.call (60 : Nat) #[(Go.Value.slice (a56) (n57) (c58)), (Go.Value.func (Fn.func (61 : Nat)) #[] #[(Go.Value.pointer (some p5)), (Go.Value.pointer (some (Addr.mk r54 (0 : Nat) none)))])] (false, [(false, [.slice])]) fun ((((a59 : Option Addr), (n60 : Nat), (c61 : Nat)), _), _) =>
    π.unSome (some (Addr.mk b (0 : Nat) none)) fun p62 =>
    π.st ((p62.add (0 : Nat)).add (3 : Nat)) [(Go.Value.slice (a59) (n60) (c61))] <|
    π.unSome (some (Addr.mk b (0 : Nat) none)) fun p63 =>
    π.ld [.slice] ((p63.add (0 : Nat)).add (3 : Nat)) fun (((a64 : Option Addr), (n65 : Nat), (c66 : Nat)), _) =>
    π.ld [.int .i64, .int .i64, .int .i64] (Addr.mk r54 (0 : Nat) none) fun ((x67 : Int), (x68 : Int), (x69 : Int), _) =>
    π.nw (Go.Obj.cells #[(Go.Value.int (IntKind.i64) (x67)), (Go.Value.int (IntKind.i64) (x68)), (Go.Value.int (IntKind.i64) (x69))] (86 : Nat) ((0 : Nat), (0 : Nat))) fun r70 =>
    π.app (86 : Nat) (3 : Nat) (24 : Nat) [(Go.Value.int (IntKind.i64) ((0 : Int))), (Go.Value.int (IntKind.i64) ((0 : Int))), (Go.Value.int (IntKind.i64) ((0 : Int)))] (a64) (n65) (c66) (Src.sl (some (Addr.mk r70 (0 : Nat) none)) (1 : Nat)) fun a71 n72 c73 =>
    π.unSome (some (Addr.mk b (0 : Nat) none)) fun p74 =>
    π.st ((p74.add (0 : Nat)).add (3 : Nat)) [(Go.Value.slice (a71) (n72) (c73))] <|
    π.ld [.int .i64] ((Addr.mk r54 (0 : Nat) none).add (1 : Nat)) fun ((x75 : Int), _) =>
    π.ld [.int .i64] ((Addr.mk r54 (0 : Nat) none).add (2 : Nat)) fun ((x76 : Int), _) =>
    π.ret (Go.Value.agg #[(Go.Value.int (IntKind.i64) ((0 : Int))), (Go.Value.int (IntKind.i64) ((0 : Int))), (Go.Value.int (IntKind.i64) ((0 : Int))), (Go.Value.int (IntKind.i64) ((0 : Int))), (Go.Value.int (IntKind.i64) ((0 : Int))), (Go.Value.int (IntKind.i64) (x75)), (Go.Value.int (IntKind.i64) (x76)), (Go.Value.int (IntKind.i64) ((0 : Int))), (Go.Value.bool (true))])
  )
def ann_grant : Ann := { draws := [(4, { A := [0, 1, 2, 3, 4, 5, 6, 7, 8, 9, 10, 11] }), (6, { A := [0, 1, 2, 3, 4, 5, 6], eag := [9, 10, 11] })], join := [(4, [(4, 1000000), (5, 39), (6, 47)])], loop := [] }
def la_grant : LA := { ptr := [(5, 5, 0), (6, 6, 0), (20, 5, 1), (21, 5, 1)], ty := [(5, 39), (6, 47)] }
set_option maxRecDepth 100000 in
theorem eq_grant {W : Type} (π : Prims W) (b : Nat) (at_ : Int) (ck y1 y2 y3 x1 x2 x3 ho : Int) (ra : Option Addr) (rn rc : Nat) (wa : Option Addr) (wn wc : Nat) (mi un ts ve ca : Int) (dk : Int) (dt dn dc dp : ByteArray) (du : Bool) (dy vk vn : Int) (vs : ByteArray) (da : Option Addr) (dan dac : Nat) (jo ph : Int) (mk : ByteArray) (wh : Int) : bodyL π Tryz.prog la_grant ann_grant (mkFr (maskA [] [.v (.pointer (some ⟨b, 0, none⟩)), .v (.int .i64 at_), .v (.agg #[.int .i64 ck, .int .i64 y1, .int .i64 y2, .int .i64 y3, .int .i64 x1, .int .i64 x2, .int .i64 x3, .int .i64 ho, .slice ra rn rc, .slice wa wn wc, .int .i64 mi, .int .i64 un, .int .i64 ts, .int .i64 ve, .int .i64 ca, .int .i64 dk, .string dt, .string dn, .string dc, .string dp, .bool du, .int .i64 dy, .int .i64 vk, .int .i64 vn, .string vs, .slice da dan dac, .int .i64 jo, .int .i64 ph, .string mk, .int .i64 wh])] 0) 60) Tryz.f25 (bodyOf Tryz.f25) (mkFr (List.map some [.v (.pointer (some ⟨b, 0, none⟩)), .v (.int .i64 at_), .v (.agg #[.int .i64 ck, .int .i64 y1, .int .i64 y2, .int .i64 y3, .int .i64 x1, .int .i64 x2, .int .i64 x3, .int .i64 ho, .slice ra rn rc, .slice wa wn wc, .int .i64 mi, .int .i64 un, .int .i64 ts, .int .i64 ve, .int .i64 ca, .int .i64 dk, .string dt, .string dn, .string dc, .string dp, .bool du, .int .i64 dy, .int .i64 vk, .int .i64 vn, .string vs, .slice da dan dac, .int .i64 jo, .int .i64 ph, .string mk, .int .i64 wh])]) 60) = vc_grant π b at_ ck y1 y2 y3 x1 x2 x3 ho ra rn rc wa wn wc mi un ts ve ca dk dt dn dc dp du dy vk vn vs da dan dac jo ph mk wh := by kernel_rfl
theorem ok_grant (b : Nat) (at_ : Int) (ck y1 y2 y3 x1 x2 x3 ho : Int) (ra : Option Addr) (rn rc : Nat) (wa : Option Addr) (wn wc : Nat) (mi un ts ve ca : Int) (dk : Int) (dt dn dc dp : ByteArray) (du : Bool) (dy vk vn : Int) (vs : ByteArray) (da : Option Addr) (dan dac : Nat) (jo ph : Int) (mk : ByteArray) (wh : Int) (R : Value → PH → Prop) (s : PH) (h : vc_grant (RP Tryz.prog R) b at_ ck y1 y2 y3 x1 x2 x3 ho ra rn rc wa wn wc mi un ts ve ca dk dt dn dc dp du dy vk vn vs da dan dac jo ph mk wh s) : DCalls Tryz.prog 25 (List.map AV.val [.v (.pointer (some ⟨b, 0, none⟩)), .v (.int .i64 at_), .v (.agg #[.int .i64 ck, .int .i64 y1, .int .i64 y2, .int .i64 y3, .int .i64 x1, .int .i64 x2, .int .i64 x3, .int .i64 ho, .slice ra rn rc, .slice wa wn wc, .int .i64 mi, .int .i64 un, .int .i64 ts, .int .i64 ve, .int .i64 ca, .int .i64 dk, .string dt, .string dn, .string dc, .string dp, .bool du, .int .i64 dy, .int .i64 vk, .int .i64 vn, .string vs, .slice da dan dac, .int .i64 jo, .int .i64 ph, .string mk, .int .i64 wh])]).toArray s R :=
  calls_vcL (c := bodyOf Tryz.f25) (ann := ann_grant) la_grant (by kernel_rfl) Tryz.func25 rfl (by kernel_rfl) [.v (.pointer (some ⟨b, 0, none⟩)), .v (.int .i64 at_), .v (.agg #[.int .i64 ck, .int .i64 y1, .int .i64 y2, .int .i64 y3, .int .i64 x1, .int .i64 x2, .int .i64 x3, .int .i64 ho, .slice ra rn rc, .slice wa wn wc, .int .i64 mi, .int .i64 un, .int .i64 ts, .int .i64 ve, .int .i64 ca, .int .i64 dk, .string dt, .string dn, .string dc, .string dp, .bool du, .int .i64 dy, .int .i64 vk, .int .i64 vn, .string vs, .slice da dan dac, .int .i64 jo, .int .i64 ph, .string mk, .int .i64 wh])] [] (by rw [Tryz.ntmps25]; exact Nat.le_of_ble_eq_true rfl) (by kernel_rfl) (by rw [show Tryz.f25.ntmps = 60 from Tryz.ntmps25, eq_grant]; exact h)
/-- (*lintel/board.Board).submit -/
def vc_submit {W : Type} (π : Prims W) (b : Nat) (at_ : Int) (ck y1 y2 y3 x1 x2 x3 ho : Int) (ra : Option Addr) (rn rc : Nat) (wa : Option Addr) (wn wc : Nat) (mi un ts ve ca : Int) (dk : Int) (dt dn dc dp : ByteArray) (du : Bool) (dy vk vn : Int) (vs : ByteArray) (da : Option Addr) (dan dac : Nat) (jo ph : Int) (mk : ByteArray) (wh : Int) : W :=
  π.call (62 : Nat) #[(Go.Value.agg #[(Go.Value.int (IntKind.i64) (dk)), (Go.Value.string (dt)), (Go.Value.string (dn)), (Go.Value.string (dc)), (Go.Value.string (dp)), (Go.Value.bool (du)), (Go.Value.int (IntKind.i64) (dy)), (Go.Value.int (IntKind.i64) (vk)), (Go.Value.int (IntKind.i64) (vn)), (Go.Value.string (vs)), (Go.Value.slice (da) (dan) (dac))]), (Go.Value.bool (false))] (false, [(false, [.slice])]) fun ((((a0 : Option Addr), (n1 : Nat), (c2 : Nat)), _), _) =>
  π.ite ((↑n1 : Int) == (0 : Int)) (
    π.ret (Go.Value.agg #[(Go.Value.int (IntKind.i64) ((1 : Int))), (Go.Value.int (IntKind.i64) ((0 : Int))), (Go.Value.int (IntKind.i64) ((0 : Int))), (Go.Value.int (IntKind.i64) ((0 : Int))), (Go.Value.int (IntKind.i64) ((0 : Int))), (Go.Value.int (IntKind.i64) ((0 : Int))), (Go.Value.int (IntKind.i64) ((0 : Int))), (Go.Value.int (IntKind.i64) ((0 : Int))), (Go.Value.bool (false))])
  ) (
    π.unSome (some (Addr.mk b (0 : Nat) none)) fun p3 =>
    π.ld [.slice] ((p3.add (0 : Nat)).add (4 : Nat)) fun (((a4 : Option Addr), (n5 : Nat), (c6 : Nat)), _) =>
    π.loop [(true, [.int .i64, .int .i64, .int .i64, .int .i64, .int .i64, .int .i64, .int .i64, .int .i64, .slice, .slice, .int .i64, .int .i64, .int .i64, .int .i64, .int .i64, .int .i64, .str, .str, .str, .str, .bool, .int .i64, .int .i64, .int .i64, .str, .slice, .int .i64, .int .i64, .str, .int .i64]), (true, [.int .i64, .int .i64, .int .i64, .int .i64, .int .i64, .int .i64, .int .i64, .int .i64, .bool]), (false, [.int .i64]), (false, [.slice]), (false, [.int .i64]), (false, [.int .i64])] ((ck, y1, y2, y3, x1, x2, x3, ho, (ra, rn, rc), (wa, wn, wc), mi, un, ts, ve, ca, dk, dt, dn, dc, dp, du, dy, vk, vn, vs, (da, dan, dac), jo, ph, mk, wh, ()), ((0 : Int), (0 : Int), (0 : Int), (0 : Int), (0 : Int), (0 : Int), (0 : Int), (0 : Int), false, ()), ((0 : Int), ()), ((a4, n5, c6), ()), ((↑n5 : Int), ()), ((0 : Int), ()), ()) fun (((x8 : Int), (x9 : Int), (x10 : Int), (x11 : Int), (x12 : Int), (x13 : Int), (x14 : Int), (x15 : Int), ((a16 : Option Addr), (n17 : Nat), (c18 : Nat)), ((a19 : Option Addr), (n20 : Nat), (c21 : Nat)), (x22 : Int), (x23 : Int), (x24 : Int), (x25 : Int), (x26 : Int), (x27 : Int), (t28 : ByteArray), (t29 : ByteArray), (t30 : ByteArray), (t31 : ByteArray), (b32 : Bool), (x33 : Int), (x34 : Int), (x35 : Int), (t36 : ByteArray), ((a37 : Option Addr), (n38 : Nat), (c39 : Nat)), (x40 : Int), (x41 : Int), (t42 : ByteArray), (x43 : Int), _), ((x44 : Int), (x45 : Int), (x46 : Int), (x47 : Int), (x48 : Int), (x49 : Int), (x50 : Int), (x51 : Int), (b52 : Bool), _), ((x53 : Int), _), (((a54 : Option Addr), (n55 : Nat), (c56 : Nat)), _), ((x57 : Int), _), ((x58 : Int), _), _) again7 =>
      π.ite (decide (x58 < x57)) (
        π.guard ((0 : Int) ≤ x58 ∧ x58 < (↑n55 : Int)) <|
        π.unSome (a54) fun p59 =>
        π.ld [.int .i64, .int .i64, .int .i64, .int .i64, .int .i64, .int .i64, .str, .str, .str, .str, .bool, .int .i64, .int .i64, .int .i64, .str, .slice, .int .i64, .bool, .bool, .str, .int .i64, .int .i64] (p59.add (x58.toNat * (22 : Nat))) fun ((x60 : Int), (x61 : Int), (x62 : Int), (x63 : Int), (x64 : Int), (x65 : Int), (t66 : ByteArray), (t67 : ByteArray), (t68 : ByteArray), (t69 : ByteArray), (b70 : Bool), (x71 : Int), (x72 : Int), (x73 : Int), (t74 : ByteArray), ((a75 : Option Addr), (n76 : Nat), (c77 : Nat)), (x78 : Int), (b79 : Bool), (b80 : Bool), (t81 : ByteArray), (x82 : Int), (x83 : Int), _) =>
        π.ite (x62 == x9 && (x63 == x10 && (x64 == x11 && true))) (
          π.ret (Go.Value.agg #[(Go.Value.int (IntKind.i64) ((0 : Int))), (Go.Value.int (IntKind.i64) ((0 : Int))), (Go.Value.int (IntKind.i64) ((0 : Int))), (Go.Value.int (IntKind.i64) ((0 : Int))), (Go.Value.int (IntKind.i64) ((0 : Int))), (Go.Value.int (IntKind.i64) ((0 : Int))), (Go.Value.int (IntKind.i64) ((0 : Int))), (Go.Value.int (IntKind.i64) (x60)), (Go.Value.bool (false))])
        ) (
          π.ite (x82 == (0 : Int)) (
            again7 ((x8, x9, x10, x11, x12, x13, x14, x15, (a16, n17, c18), (a19, n20, c21), x22, x23, x24, x25, x26, x27, t28, t29, t30, t31, b32, x33, x34, x35, t36, (a37, n38, c39), x40, x41, t42, x43, ()), (x44, x45, x46, x47, x48, x49, x50, x51, b52, ()), (IntKind.i64.wrap (x53 + (1 : Int)), ()), ((a54, n55, c56), ()), (x57, ()), (IntKind.i64.wrap (x58 + (1 : Int)), ()), ())
          ) (
            again7 ((x8, x9, x10, x11, x12, x13, x14, x15, (a16, n17, c18), (a19, n20, c21), x22, x23, x24, x25, x26, x27, t28, t29, t30, t31, b32, x33, x34, x35, t36, (a37, n38, c39), x40, x41, t42, x43, ()), (x44, x45, x46, x47, x48, x49, x50, x51, b52, ()), (x53, ()), ((a54, n55, c56), ()), (x57, ()), (IntKind.i64.wrap (x58 + (1 : Int)), ()), ())
          )
        )
      ) (
        π.unSome (some (Addr.mk b (0 : Nat) none)) fun p84 =>
        π.ld [.slice] ((p84.add (0 : Nat)).add (4 : Nat)) fun (((a85 : Option Addr), (n86 : Nat), (c87 : Nat)), _) =>
        π.call (40 : Nat) #[(Go.Value.slice (a37) (n38) (c39))] (false, [(false, [.slice])]) fun ((((a88 : Option Addr), (n89 : Nat), (c90 : Nat)), _), _) =>
        π.join [(true, [.int .i64, .int .i64, .int .i64, .int .i64, .int .i64, .int .i64, .int .i64, .int .i64, .bool]), (true, [.int .i64, .int .i64, .int .i64, .int .i64, .int .i64, .int .i64, .str, .str, .str, .str, .bool, .int .i64, .int .i64, .int .i64, .str, .slice, .int .i64, .bool, .bool, .str, .int .i64, .int .i64])] (fun J91 =>
          π.ite (decide (x53 ≥ (4 : Int))) (
            J91 ((x44, x45, x46, x47, x48, x49, x50, x51, b52, ()), (IntKind.i64.wrap ((↑n86 : Int) + (1 : Int)), x26, x9, x10, x11, x27, t28, t29, t30, t31, b32, x33, x34, x35, t36, (a88, n89, c90), (0 : Int), false, false, ByteArray.mk #[], (3 : Int), (156 : Int), ()), ())
          ) (
            J91 ((x44, x45, x46, x47, x48, x49, x50, x51, b52, ()), (IntKind.i64.wrap ((↑n86 : Int) + (1 : Int)), x26, x9, x10, x11, x27, t28, t29, t30, t31, b32, x33, x34, x35, t36, (a88, n89, c90), (0 : Int), false, false, ByteArray.mk #[], (0 : Int), (0 : Int), ()), ())
          )
        ) (fun (((x92 : Int), (x93 : Int), (x94 : Int), (x95 : Int), (x96 : Int), (x97 : Int), (x98 : Int), (x99 : Int), (b100 : Bool), _), ((x101 : Int), (x102 : Int), (x103 : Int), (x104 : Int), (x105 : Int), (x106 : Int), (t107 : ByteArray), (t108 : ByteArray), (t109 : ByteArray), (t110 : ByteArray), (b111 : Bool), (x112 : Int), (x113 : Int), (x114 : Int), (t115 : ByteArray), ((a116 : Option Addr), (n117 : Nat), (c118 : Nat)), (x119 : Int), (b120 : Bool), (b121 : Bool), (t122 : ByteArray), (x123 : Int), (x124 : Int), _), _) =>
          π.unSome (some (Addr.mk b (0 : Nat) none)) fun p125 =>
          π.ld [.slice] ((p125.add (0 : Nat)).add (4 : Nat)) fun (((a126 : Option Addr), (n127 : Nat), (c128 : Nat)), _) =>
          π.nw (Go.Obj.cells #[(Go.Value.int (IntKind.i64) (x101)), (Go.Value.int (IntKind.i64) (x102)), (Go.Value.int (IntKind.i64) (x103)), (Go.Value.int (IntKind.i64) (x104)), (Go.Value.int (IntKind.i64) (x105)), (Go.Value.int (IntKind.i64) (x106)), (Go.Value.string (t107)), (Go.Value.string (t108)), (Go.Value.string (t109)), (Go.Value.string (t110)), (Go.Value.bool (b111)), (Go.Value.int (IntKind.i64) (x112)), (Go.Value.int (IntKind.i64) (x113)), (Go.Value.int (IntKind.i64) (x114)), (Go.Value.string (t115)), (Go.Value.slice (a116) (n117) (c118)), (Go.Value.int (IntKind.i64) (x119)), (Go.Value.bool (b120)), (Go.Value.bool (b121)), (Go.Value.string (t122)), (Go.Value.int (IntKind.i64) (x123)), (Go.Value.int (IntKind.i64) (x124))] (58 : Nat) ((0 : Nat), (0 : Nat))) fun r129 =>
          π.app (58 : Nat) (22 : Nat) (232 : Nat) [(Go.Value.int (IntKind.i64) ((0 : Int))), (Go.Value.int (IntKind.i64) ((0 : Int))), (Go.Value.int (IntKind.i64) ((0 : Int))), (Go.Value.int (IntKind.i64) ((0 : Int))), (Go.Value.int (IntKind.i64) ((0 : Int))), (Go.Value.int (IntKind.i64) ((0 : Int))), (Go.Value.string (ByteArray.mk #[])), (Go.Value.string (ByteArray.mk #[])), (Go.Value.string (ByteArray.mk #[])), (Go.Value.string (ByteArray.mk #[])), (Go.Value.bool (false)), (Go.Value.int (IntKind.i64) ((0 : Int))), (Go.Value.int (IntKind.i64) ((0 : Int))), (Go.Value.int (IntKind.i64) ((0 : Int))), (Go.Value.string (ByteArray.mk #[])), (Go.Value.slice (none) ((0 : Nat)) ((0 : Nat))), (Go.Value.int (IntKind.i64) ((0 : Int))), (Go.Value.bool (false)), (Go.Value.bool (false)), (Go.Value.string (ByteArray.mk #[])), (Go.Value.int (IntKind.i64) ((0 : Int))), (Go.Value.int (IntKind.i64) ((0 : Int)))] (a126) (n127) (c128) (Src.sl (some (Addr.mk r129 (0 : Nat) none)) (1 : Nat)) fun a130 n131 c132 =>
          π.unSome (some (Addr.mk b (0 : Nat) none)) fun p133 =>
          π.st ((p133.add (0 : Nat)).add (4 : Nat)) [(Go.Value.slice (a130) (n131) (c132))] <|
          π.ret (Go.Value.agg #[(Go.Value.int (IntKind.i64) ((0 : Int))), (Go.Value.int (IntKind.i64) ((0 : Int))), (Go.Value.int (IntKind.i64) ((0 : Int))), (Go.Value.int (IntKind.i64) ((0 : Int))), (Go.Value.int (IntKind.i64) ((0 : Int))), (Go.Value.int (IntKind.i64) ((0 : Int))), (Go.Value.int (IntKind.i64) ((0 : Int))), (Go.Value.int (IntKind.i64) (x101)), (Go.Value.bool (true))])
        )
      )
  )
def ann_submit : Ann := { draws := [(12, { A := [0, 1, 2, 3, 4, 5, 6, 7, 8, 9, 10, 11, 12, 13] }), (16, { A := [0, 1, 2, 3, 4, 5, 6], eag := [9, 10, 11] })], join := [(16, [(6, 47), (10, 58)])], loop := [(5, [(5, 39), (6, 47), (7, 3), (21, 52), (22, 3), (23, 3)])] }
def la_submit : LA := { ptr := [(5, 5, 0), (6, 6, 0), (9, 9, 0), (10, 10, 0), (11, 5, 15), (27, 9, 2), (29, 5, 1), (32, 9, 0), (35, 9, 20), (48, 5, 14), (50, 5, 1), (52, 5, 15), (55, 5, 15), (56, 5, 25), (59, 10, 5), (60, 10, 15), (63, 10, 20), (64, 10, 21), (77, 10, 0)], ty := [(5, 39), (6, 47), (9, 58), (10, 58)] }
set_option maxRecDepth 100000 in
theorem eq_submit {W : Type} (π : Prims W) (b : Nat) (at_ : Int) (ck y1 y2 y3 x1 x2 x3 ho : Int) (ra : Option Addr) (rn rc : Nat) (wa : Option Addr) (wn wc : Nat) (mi un ts ve ca : Int) (dk : Int) (dt dn dc dp : ByteArray) (du : Bool) (dy vk vn : Int) (vs : ByteArray) (da : Option Addr) (dan dac : Nat) (jo ph : Int) (mk : ByteArray) (wh : Int) : bodyL π Tryz.prog la_submit ann_submit (mkFr (maskA [] [.v (.pointer (some ⟨b, 0, none⟩)), .v (.int .i64 at_), .v (.agg #[.int .i64 ck, .int .i64 y1, .int .i64 y2, .int .i64 y3, .int .i64 x1, .int .i64 x2, .int .i64 x3, .int .i64 ho, .slice ra rn rc, .slice wa wn wc, .int .i64 mi, .int .i64 un, .int .i64 ts, .int .i64 ve, .int .i64 ca, .int .i64 dk, .string dt, .string dn, .string dc, .string dp, .bool du, .int .i64 dy, .int .i64 vk, .int .i64 vn, .string vs, .slice da dan dac, .int .i64 jo, .int .i64 ph, .string mk, .int .i64 wh])] 0) 80) Tryz.f26 (bodyOf Tryz.f26) (mkFr (List.map some [.v (.pointer (some ⟨b, 0, none⟩)), .v (.int .i64 at_), .v (.agg #[.int .i64 ck, .int .i64 y1, .int .i64 y2, .int .i64 y3, .int .i64 x1, .int .i64 x2, .int .i64 x3, .int .i64 ho, .slice ra rn rc, .slice wa wn wc, .int .i64 mi, .int .i64 un, .int .i64 ts, .int .i64 ve, .int .i64 ca, .int .i64 dk, .string dt, .string dn, .string dc, .string dp, .bool du, .int .i64 dy, .int .i64 vk, .int .i64 vn, .string vs, .slice da dan dac, .int .i64 jo, .int .i64 ph, .string mk, .int .i64 wh])]) 80) = vc_submit π b at_ ck y1 y2 y3 x1 x2 x3 ho ra rn rc wa wn wc mi un ts ve ca dk dt dn dc dp du dy vk vn vs da dan dac jo ph mk wh := by kernel_rfl
theorem ok_submit (b : Nat) (at_ : Int) (ck y1 y2 y3 x1 x2 x3 ho : Int) (ra : Option Addr) (rn rc : Nat) (wa : Option Addr) (wn wc : Nat) (mi un ts ve ca : Int) (dk : Int) (dt dn dc dp : ByteArray) (du : Bool) (dy vk vn : Int) (vs : ByteArray) (da : Option Addr) (dan dac : Nat) (jo ph : Int) (mk : ByteArray) (wh : Int) (R : Value → PH → Prop) (s : PH) (h : vc_submit (RP Tryz.prog R) b at_ ck y1 y2 y3 x1 x2 x3 ho ra rn rc wa wn wc mi un ts ve ca dk dt dn dc dp du dy vk vn vs da dan dac jo ph mk wh s) : DCalls Tryz.prog 26 (List.map AV.val [.v (.pointer (some ⟨b, 0, none⟩)), .v (.int .i64 at_), .v (.agg #[.int .i64 ck, .int .i64 y1, .int .i64 y2, .int .i64 y3, .int .i64 x1, .int .i64 x2, .int .i64 x3, .int .i64 ho, .slice ra rn rc, .slice wa wn wc, .int .i64 mi, .int .i64 un, .int .i64 ts, .int .i64 ve, .int .i64 ca, .int .i64 dk, .string dt, .string dn, .string dc, .string dp, .bool du, .int .i64 dy, .int .i64 vk, .int .i64 vn, .string vs, .slice da dan dac, .int .i64 jo, .int .i64 ph, .string mk, .int .i64 wh])]).toArray s R :=
  calls_vcL (c := bodyOf Tryz.f26) (ann := ann_submit) la_submit (by kernel_rfl) Tryz.func26 rfl (by kernel_rfl) [.v (.pointer (some ⟨b, 0, none⟩)), .v (.int .i64 at_), .v (.agg #[.int .i64 ck, .int .i64 y1, .int .i64 y2, .int .i64 y3, .int .i64 x1, .int .i64 x2, .int .i64 x3, .int .i64 ho, .slice ra rn rc, .slice wa wn wc, .int .i64 mi, .int .i64 un, .int .i64 ts, .int .i64 ve, .int .i64 ca, .int .i64 dk, .string dt, .string dn, .string dc, .string dp, .bool du, .int .i64 dy, .int .i64 vk, .int .i64 vn, .string vs, .slice da dan dac, .int .i64 jo, .int .i64 ph, .string mk, .int .i64 wh])] [] (by rw [Tryz.ntmps26]; exact Nat.le_of_ble_eq_true rfl) (by kernel_rfl) (by rw [show Tryz.f26.ntmps = 80 from Tryz.ntmps26, eq_submit]; exact h)
/-- slices.Index[[]int,int] -/
def vc_IndexI {W : Type} (π : Prims W) (a : Option Addr) (an ac : Nat) (n : Int) : W :=
  π.loop [(false, [.int .i64]), (false, [.int .i64])] (((↑an : Int), ()), ((0 : Int), ()), ()) fun (((x1 : Int), _), ((x2 : Int), _), _) again0 =>
    π.ite (decide (x2 < x1)) (
      π.guard ((0 : Int) ≤ x2 ∧ x2 < (↑an : Int)) <|
      π.unSome (a) fun p3 =>
      π.ld [.int .i64] (p3.add (x2.toNat * (1 : Nat))) fun ((x4 : Int), _) =>
      π.ite (n == x4) (
        π.ret (Go.Value.int (IntKind.i64) (x2))
      ) (
        again0 ((x1, ()), (IntKind.i64.wrap (x2 + (1 : Int)), ()), ())
      )
    ) (
      π.ret (Go.Value.int (IntKind.i64) ((-1 : Int)))
    )
def ann_IndexI : Ann := { draws := [], join := [], loop := [(2, [(7, 3), (8, 3)])] }
def la_IndexI : LA := { ptr := [], ty := [] }
set_option maxRecDepth 100000 in
theorem eq_IndexI {W : Type} (π : Prims W) (a : Option Addr) (an ac : Nat) (n : Int) : bodyL π Tryz.prog la_IndexI ann_IndexI (mkFr (maskA [] [.v (.slice a an ac), .v (.int .i64 n)] 0) 19) Tryz.f137 (bodyOf Tryz.f137) (mkFr (List.map some [.v (.slice a an ac), .v (.int .i64 n)]) 19) = vc_IndexI π a an ac n := by kernel_rfl
theorem ok_IndexI (a : Option Addr) (an ac : Nat) (n : Int) (R : Value → PH → Prop) (s : PH) (h : vc_IndexI (RP Tryz.prog R) a an ac n s) : DCalls Tryz.prog 137 (List.map AV.val [.v (.slice a an ac), .v (.int .i64 n)]).toArray s R :=
  calls_vcL (c := bodyOf Tryz.f137) (ann := ann_IndexI) la_IndexI (by kernel_rfl) Tryz.func137 rfl (by kernel_rfl) [.v (.slice a an ac), .v (.int .i64 n)] [] (by rw [Tryz.ntmps137]; exact Nat.le_of_ble_eq_true rfl) (by kernel_rfl) (by rw [show Tryz.f137.ntmps = 19 from Tryz.ntmps137, eq_IndexI]; exact h)
/-- slices.Contains[[]int,int] -/
def vc_ContainsI {W : Type} (π : Prims W) (a : Option Addr) (an ac : Nat) (n : Int) : W :=
  π.call (137 : Nat) #[(Go.Value.slice (a) (an) (ac)), (Go.Value.int (IntKind.i64) (n))] (false, [(false, [.int .i64])]) fun (((x0 : Int), _), _) =>
  π.ret (Go.Value.bool (decide (x0 ≥ (0 : Int))))
def ann_ContainsI : Ann := { draws := [], join := [], loop := [] }
def la_ContainsI : LA := { ptr := [], ty := [] }
set_option maxRecDepth 100000 in
theorem eq_ContainsI {W : Type} (π : Prims W) (a : Option Addr) (an ac : Nat) (n : Int) : bodyL π Tryz.prog la_ContainsI ann_ContainsI (mkFr (maskA [] [.v (.slice a an ac), .v (.int .i64 n)] 0) 9) Tryz.f94 (bodyOf Tryz.f94) (mkFr (List.map some [.v (.slice a an ac), .v (.int .i64 n)]) 9) = vc_ContainsI π a an ac n := by kernel_rfl
theorem ok_ContainsI (a : Option Addr) (an ac : Nat) (n : Int) (R : Value → PH → Prop) (s : PH) (h : vc_ContainsI (RP Tryz.prog R) a an ac n s) : DCalls Tryz.prog 94 (List.map AV.val [.v (.slice a an ac), .v (.int .i64 n)]).toArray s R :=
  calls_vcL (c := bodyOf Tryz.f94) (ann := ann_ContainsI) la_ContainsI (by kernel_rfl) Tryz.func94 rfl (by kernel_rfl) [.v (.slice a an ac), .v (.int .i64 n)] [] (by rw [Tryz.ntmps94]; exact Nat.le_of_ble_eq_true rfl) (by kernel_rfl) (by rw [show Tryz.f94.ntmps = 9 from Tryz.ntmps94, eq_ContainsI]; exact h)
/-- (*lintel/board.Board).turn -/
def vc_bturn {W : Type} (π : Prims W) (b : Nat) (ck y1 y2 y3 x1 x2 x3 ho : Int) (ra : Option Addr) (rn rc : Nat) (wa : Option Addr) (wn wc : Nat) (mi un ts ve ca : Int) (dk : Int) (dt dn dc dp : ByteArray) (du : Bool) (dy vk vn : Int) (vs : ByteArray) (da : Option Addr) (dan dac : Nat) (jo ph : Int) (mk : ByteArray) (wh : Int) (k : Option Addr) (kn kc : Nat) : W :=
  π.call (39 : Nat) #[(Go.Value.pointer (some (Addr.mk b (0 : Nat) none)))] (false, [(false, [.ptr])]) fun ((p0, _), _) =>
  π.ite (p0.isNone) (
    π.ret (Go.Value.pointer (none))
  ) (
    π.unSome (p0) fun p1 =>
    π.ld [.int .i64] (p1.add (0 : Nat)) fun ((x2 : Int), _) =>
    π.ite (x2 != jo) (
      π.ret (Go.Value.pointer (none))
    ) (
      π.unSome (p0) fun p3 =>
      π.ld [.int .i64] (p3.add (16 : Nat)) fun ((x4 : Int), _) =>
      π.ite (x4 != ph) (
        π.ret (Go.Value.pointer (none))
      ) (
        π.callQ (41 : Nat) #[(Go.Value.pointer (p0))] (false, [(true, [.int .i64, .int .i64])]) fun (((x5 : Int), (x6 : Int), _), _) =>
        π.call (94 : Nat) #[(Go.Value.slice (k) (kn) (kc)), (Go.Value.int (IntKind.i64) (x5))] (false, [(false, [.bool])]) fun (((b7 : Bool), _), _) =>
        π.ite (!b7) (
          π.ret (Go.Value.pointer (none))
        ) (
          π.ret (Go.Value.pointer (p0))
        )
      )
    )
  )
def ann_bturn : Ann := { draws := [(2, { A := [0, 1, 2, 3, 4, 5, 6, 7, 8, 9, 10, 11, 12, 13, 14, 15, 16, 17, 18, 19, 20, 21, 22, 23, 24], quiet := [23], eag := [26, 27] })], join := [], loop := [] }
def la_bturn : LA := { ptr := [(4, 4, 0), (17, 4, 26), (26, 4, 27)], ty := [(4, 39)] }
set_option maxRecDepth 100000 in
theorem eq_bturn {W : Type} (π : Prims W) (b : Nat) (ck y1 y2 y3 x1 x2 x3 ho : Int) (ra : Option Addr) (rn rc : Nat) (wa : Option Addr) (wn wc : Nat) (mi un ts ve ca : Int) (dk : Int) (dt dn dc dp : ByteArray) (du : Bool) (dy vk vn : Int) (vs : ByteArray) (da : Option Addr) (dan dac : Nat) (jo ph : Int) (mk : ByteArray) (wh : Int) (k : Option Addr) (kn kc : Nat) : bodyL π Tryz.prog la_bturn ann_bturn (mkFr (maskA [] [.v (.pointer (some ⟨b, 0, none⟩)), .v (.agg #[.int .i64 ck, .int .i64 y1, .int .i64 y2, .int .i64 y3, .int .i64 x1, .int .i64 x2, .int .i64 x3, .int .i64 ho, .slice ra rn rc, .slice wa wn wc, .int .i64 mi, .int .i64 un, .int .i64 ts, .int .i64 ve, .int .i64 ca, .int .i64 dk, .string dt, .string dn, .string dc, .string dp, .bool du, .int .i64 dy, .int .i64 vk, .int .i64 vn, .string vs, .slice da dan dac, .int .i64 jo, .int .i64 ph, .string mk, .int .i64 wh]), .v (.slice k kn kc)] 0) 39) Tryz.f63 (bodyOf Tryz.f63) (mkFr (List.map some [.v (.pointer (some ⟨b, 0, none⟩)), .v (.agg #[.int .i64 ck, .int .i64 y1, .int .i64 y2, .int .i64 y3, .int .i64 x1, .int .i64 x2, .int .i64 x3, .int .i64 ho, .slice ra rn rc, .slice wa wn wc, .int .i64 mi, .int .i64 un, .int .i64 ts, .int .i64 ve, .int .i64 ca, .int .i64 dk, .string dt, .string dn, .string dc, .string dp, .bool du, .int .i64 dy, .int .i64 vk, .int .i64 vn, .string vs, .slice da dan dac, .int .i64 jo, .int .i64 ph, .string mk, .int .i64 wh]), .v (.slice k kn kc)]) 39) = vc_bturn π b ck y1 y2 y3 x1 x2 x3 ho ra rn rc wa wn wc mi un ts ve ca dk dt dn dc dp du dy vk vn vs da dan dac jo ph mk wh k kn kc := by kernel_rfl
theorem ok_bturn (b : Nat) (ck y1 y2 y3 x1 x2 x3 ho : Int) (ra : Option Addr) (rn rc : Nat) (wa : Option Addr) (wn wc : Nat) (mi un ts ve ca : Int) (dk : Int) (dt dn dc dp : ByteArray) (du : Bool) (dy vk vn : Int) (vs : ByteArray) (da : Option Addr) (dan dac : Nat) (jo ph : Int) (mk : ByteArray) (wh : Int) (k : Option Addr) (kn kc : Nat) (R : Value → PH → Prop) (s : PH) (h : vc_bturn (RP Tryz.prog R) b ck y1 y2 y3 x1 x2 x3 ho ra rn rc wa wn wc mi un ts ve ca dk dt dn dc dp du dy vk vn vs da dan dac jo ph mk wh k kn kc s) : DCalls Tryz.prog 63 (List.map AV.val [.v (.pointer (some ⟨b, 0, none⟩)), .v (.agg #[.int .i64 ck, .int .i64 y1, .int .i64 y2, .int .i64 y3, .int .i64 x1, .int .i64 x2, .int .i64 x3, .int .i64 ho, .slice ra rn rc, .slice wa wn wc, .int .i64 mi, .int .i64 un, .int .i64 ts, .int .i64 ve, .int .i64 ca, .int .i64 dk, .string dt, .string dn, .string dc, .string dp, .bool du, .int .i64 dy, .int .i64 vk, .int .i64 vn, .string vs, .slice da dan dac, .int .i64 jo, .int .i64 ph, .string mk, .int .i64 wh]), .v (.slice k kn kc)]).toArray s R :=
  calls_vcL (c := bodyOf Tryz.f63) (ann := ann_bturn) la_bturn (by kernel_rfl) Tryz.func63 rfl (by kernel_rfl) [.v (.pointer (some ⟨b, 0, none⟩)), .v (.agg #[.int .i64 ck, .int .i64 y1, .int .i64 y2, .int .i64 y3, .int .i64 x1, .int .i64 x2, .int .i64 x3, .int .i64 ho, .slice ra rn rc, .slice wa wn wc, .int .i64 mi, .int .i64 un, .int .i64 ts, .int .i64 ve, .int .i64 ca, .int .i64 dk, .string dt, .string dn, .string dc, .string dp, .bool du, .int .i64 dy, .int .i64 vk, .int .i64 vn, .string vs, .slice da dan dac, .int .i64 jo, .int .i64 ph, .string mk, .int .i64 wh]), .v (.slice k kn kc)] [] (by rw [Tryz.ntmps63]; exact Nat.le_of_ble_eq_true rfl) (by kernel_rfl) (by rw [show Tryz.f63.ntmps = 39 from Tryz.ntmps63, eq_bturn]; exact h)
/-- (*lintel/board.Board).drain -/
def vc_drain {W : Type} (π : Prims W) (b : Nat) (at_ : Int) (ck y1 y2 y3 x1 x2 x3 ho : Int) (ra : Option Addr) (rn rc : Nat) (wa : Option Addr) (wn wc : Nat) (mi un ts ve ca : Int) (dk : Int) (dt dn dc dp : ByteArray) (du : Bool) (dy vk vn : Int) (vs : ByteArray) (da : Option Addr) (dan dac : Nat) (jo ph : Int) (mk : ByteArray) (wh : Int) : W :=
  π.nw (Go.Obj.cells #[(Go.Value.int (IntKind.i64) ((2 : Int)))] (3 : Nat) ((0 : Nat), (0 : Nat))) fun r0 =>
  π.call (63 : Nat) #[(Go.Value.pointer (some (Addr.mk b (0 : Nat) none))), (Go.Value.agg #[(Go.Value.int (IntKind.i64) (ck)), (Go.Value.int (IntKind.i64) (y1)), (Go.Value.int (IntKind.i64) (y2)), (Go.Value.int (IntKind.i64) (y3)), (Go.Value.int (IntKind.i64) (x1)), (Go.Value.int (IntKind.i64) (x2)), (Go.Value.int (IntKind.i64) (x3)), (Go.Value.int (IntKind.i64) (ho)), (Go.Value.slice (ra) (rn) (rc)), (Go.Value.slice (wa) (wn) (wc)), (Go.Value.int (IntKind.i64) (mi)), (Go.Value.int (IntKind.i64) (un)), (Go.Value.int (IntKind.i64) (ts)), (Go.Value.int (IntKind.i64) (ve)), (Go.Value.int (IntKind.i64) (ca)), (Go.Value.int (IntKind.i64) (dk)), (Go.Value.string (dt)), (Go.Value.string (dn)), (Go.Value.string (dc)), (Go.Value.string (dp)), (Go.Value.bool (du)), (Go.Value.int (IntKind.i64) (dy)), (Go.Value.int (IntKind.i64) (vk)), (Go.Value.int (IntKind.i64) (vn)), (Go.Value.string (vs)), (Go.Value.slice (da) (dan) (dac)), (Go.Value.int (IntKind.i64) (jo)), (Go.Value.int (IntKind.i64) (ph)), (Go.Value.string (mk)), (Go.Value.int (IntKind.i64) (wh))]), (Go.Value.slice (some (Addr.mk r0 (0 : Nat) none)) ((1 : Nat)) ((1 : Nat)))] (false, [(false, [.ptr])]) fun ((p1, _), _) =>
  π.ite (p1.isNone) (
    π.ret (Go.Value.agg #[(Go.Value.int (IntKind.i64) ((160 : Int))), (Go.Value.int (IntKind.i64) ((0 : Int))), (Go.Value.int (IntKind.i64) ((0 : Int))), (Go.Value.int (IntKind.i64) ((0 : Int))), (Go.Value.int (IntKind.i64) ((0 : Int))), (Go.Value.int (IntKind.i64) ((0 : Int))), (Go.Value.int (IntKind.i64) ((0 : Int))), (Go.Value.int (IntKind.i64) ((0 : Int))), (Go.Value.bool (false))])
  ) (
    π.unSome (p1) fun p2 =>
    π.ld [.bool] (p2.add (18 : Nat)) fun ((b3 : Bool), _) =>
    π.unSome (p1) fun p4 =>
    π.st (p4.add (18 : Nat)) [(Go.Value.bool (true))] <|
    π.ret (Go.Value.agg #[(Go.Value.int (IntKind.i64) ((0 : Int))), (Go.Value.int (IntKind.i64) ((0 : Int))), (Go.Value.int (IntKind.i64) ((0 : Int))), (Go.Value.int (IntKind.i64) ((0 : Int))), (Go.Value.int (IntKind.i64) ((0 : Int))), (Go.Value.int (IntKind.i64) ((0 : Int))), (Go.Value.int (IntKind.i64) ((0 : Int))), (Go.Value.int (IntKind.i64) ((0 : Int))), (Go.Value.bool (!b3))])
  )
def ann_drain : Ann := { draws := [], join := [], loop := [] }
def la_drain : LA := { ptr := [(5, 5, 0), (6, 6, 0), (8, 8, 0)], ty := [(5, 39), (6, 47), (8, 47)] }
set_option maxRecDepth 100000 in
theorem eq_drain {W : Type} (π : Prims W) (b : Nat) (at_ : Int) (ck y1 y2 y3 x1 x2 x3 ho : Int) (ra : Option Addr) (rn rc : Nat) (wa : Option Addr) (wn wc : Nat) (mi un ts ve ca : Int) (dk : Int) (dt dn dc dp : ByteArray) (du : Bool) (dy vk vn : Int) (vs : ByteArray) (da : Option Addr) (dan dac : Nat) (jo ph : Int) (mk : ByteArray) (wh : Int) : bodyL π Tryz.prog la_drain ann_drain (mkFr (maskA [] [.v (.pointer (some ⟨b, 0, none⟩)), .v (.int .i64 at_), .v (.agg #[.int .i64 ck, .int .i64 y1, .int .i64 y2, .int .i64 y3, .int .i64 x1, .int .i64 x2, .int .i64 x3, .int .i64 ho, .slice ra rn rc, .slice wa wn wc, .int .i64 mi, .int .i64 un, .int .i64 ts, .int .i64 ve, .int .i64 ca, .int .i64 dk, .string dt, .string dn, .string dc, .string dp, .bool du, .int .i64 dy, .int .i64 vk, .int .i64 vn, .string vs, .slice da dan dac, .int .i64 jo, .int .i64 ph, .string mk, .int .i64 wh])] 0) 26) Tryz.f27 (bodyOf Tryz.f27) (mkFr (List.map some [.v (.pointer (some ⟨b, 0, none⟩)), .v (.int .i64 at_), .v (.agg #[.int .i64 ck, .int .i64 y1, .int .i64 y2, .int .i64 y3, .int .i64 x1, .int .i64 x2, .int .i64 x3, .int .i64 ho, .slice ra rn rc, .slice wa wn wc, .int .i64 mi, .int .i64 un, .int .i64 ts, .int .i64 ve, .int .i64 ca, .int .i64 dk, .string dt, .string dn, .string dc, .string dp, .bool du, .int .i64 dy, .int .i64 vk, .int .i64 vn, .string vs, .slice da dan dac, .int .i64 jo, .int .i64 ph, .string mk, .int .i64 wh])]) 26) = vc_drain π b at_ ck y1 y2 y3 x1 x2 x3 ho ra rn rc wa wn wc mi un ts ve ca dk dt dn dc dp du dy vk vn vs da dan dac jo ph mk wh := by kernel_rfl
theorem ok_drain (b : Nat) (at_ : Int) (ck y1 y2 y3 x1 x2 x3 ho : Int) (ra : Option Addr) (rn rc : Nat) (wa : Option Addr) (wn wc : Nat) (mi un ts ve ca : Int) (dk : Int) (dt dn dc dp : ByteArray) (du : Bool) (dy vk vn : Int) (vs : ByteArray) (da : Option Addr) (dan dac : Nat) (jo ph : Int) (mk : ByteArray) (wh : Int) (R : Value → PH → Prop) (s : PH) (h : vc_drain (RP Tryz.prog R) b at_ ck y1 y2 y3 x1 x2 x3 ho ra rn rc wa wn wc mi un ts ve ca dk dt dn dc dp du dy vk vn vs da dan dac jo ph mk wh s) : DCalls Tryz.prog 27 (List.map AV.val [.v (.pointer (some ⟨b, 0, none⟩)), .v (.int .i64 at_), .v (.agg #[.int .i64 ck, .int .i64 y1, .int .i64 y2, .int .i64 y3, .int .i64 x1, .int .i64 x2, .int .i64 x3, .int .i64 ho, .slice ra rn rc, .slice wa wn wc, .int .i64 mi, .int .i64 un, .int .i64 ts, .int .i64 ve, .int .i64 ca, .int .i64 dk, .string dt, .string dn, .string dc, .string dp, .bool du, .int .i64 dy, .int .i64 vk, .int .i64 vn, .string vs, .slice da dan dac, .int .i64 jo, .int .i64 ph, .string mk, .int .i64 wh])]).toArray s R :=
  calls_vcL (c := bodyOf Tryz.f27) (ann := ann_drain) la_drain (by kernel_rfl) Tryz.func27 rfl (by kernel_rfl) [.v (.pointer (some ⟨b, 0, none⟩)), .v (.int .i64 at_), .v (.agg #[.int .i64 ck, .int .i64 y1, .int .i64 y2, .int .i64 y3, .int .i64 x1, .int .i64 x2, .int .i64 x3, .int .i64 ho, .slice ra rn rc, .slice wa wn wc, .int .i64 mi, .int .i64 un, .int .i64 ts, .int .i64 ve, .int .i64 ca, .int .i64 dk, .string dt, .string dn, .string dc, .string dp, .bool du, .int .i64 dy, .int .i64 vk, .int .i64 vn, .string vs, .slice da dan dac, .int .i64 jo, .int .i64 ph, .string mk, .int .i64 wh])] [] (by rw [Tryz.ntmps27]; exact Nat.le_of_ble_eq_true rfl) (by kernel_rfl) (by rw [show Tryz.f27.ntmps = 26 from Tryz.ntmps27, eq_drain]; exact h)
/-- (*lintel/board.Board).step -/
def vc_step {W : Type} (π : Prims W) (b : Nat) (p : Addr) : W :=
  π.unSome (some p) fun p0 =>
  π.ld [.int .i64] (p0.add (16 : Nat)) fun ((x1 : Int), _) =>
  π.unSome (some p) fun p2 =>
  π.st (p2.add (16 : Nat)) [(Go.Value.int (IntKind.i64) (IntKind.i64.wrap (x1 + (1 : Int))))] <|
  π.unSome (some p) fun p3 =>
  π.st (p3.add (19 : Nat)) [(Go.Value.string (ByteArray.mk #[]))] <|
  π.unSome (some p) fun p4 =>
  π.st (p4.add (18 : Nat)) [(Go.Value.bool (false))] <|
  π.unSome (some p) fun p5 =>
  π.ld [.int .i64] (p5.add (16 : Nat)) fun ((x6 : Int), _) =>
  π.unSome (some p) fun p7 =>
  π.ld [.int .i64, .str, .str, .str, .str, .bool, .int .i64, .int .i64, .int .i64, .str, .slice] (p7.add (5 : Nat)) fun ((x8 : Int), (t9 : ByteArray), (t10 : ByteArray), (t11 : ByteArray), (t12 : ByteArray), (b13 : Bool), (x14 : Int), (x15 : Int), (x16 : Int), (t17 : ByteArray), ((a18 : Option Addr), (n19 : Nat), (c20 : Nat)), _) =>
  π.unSome (some p) fun p21 =>
  π.ld [.bool] (p21.add (17 : Nat)) fun ((b22 : Bool), _) =>
  π.call (62 : Nat) #[(Go.Value.agg #[(Go.Value.int (IntKind.i64) (x8)), (Go.Value.string (t9)), (Go.Value.string (t10)), (Go.Value.string (t11)), (Go.Value.string (t12)), (Go.Value.bool (b13)), (Go.Value.int (IntKind.i64) (x14)), (Go.Value.int (IntKind.i64) (x15)), (Go.Value.int (IntKind.i64) (x16)), (Go.Value.string (t17)), (Go.Value.slice (a18) (n19) (c20))]), (Go.Value.bool (b22))] (false, [(false, [.slice])]) fun ((((a23 : Option Addr), (n24 : Nat), (c25 : Nat)), _), _) =>
  π.still [.int .i64] (p5.add (16 : Nat)) (x6, ()) <|
  π.ite (x6 == (↑n24 : Int)) (
    π.unSome (some p) fun p26 =>
    π.st (p26.add (20 : Nat)) [(Go.Value.int (IntKind.i64) ((1 : Int)))] <|
    π.unSome (some p) fun p27 =>
    π.ld [.bool] (p27.add (17 : Nat)) fun ((b28 : Bool), _) =>
    π.ite (b28) (
      π.unSome (some p) fun p29 =>
      π.st (p29.add (20 : Nat)) [(Go.Value.int (IntKind.i64) ((2 : Int)))] <|
      π.unSome (some (Addr.mk b (0 : Nat) none)) fun p30 =>
      π.ld [.int .i64] (((p30.add (0 : Nat)).add (0 : Nat)).add (0 : Nat)) fun ((x31 : Int), _) =>
      π.ret (Go.Value.agg #[(Go.Value.int (IntKind.i64) ((0 : Int))), (Go.Value.int (IntKind.i64) ((0 : Int))), (Go.Value.int (IntKind.i64) ((0 : Int))), (Go.Value.int (IntKind.i64) ((0 : Int))), (Go.Value.int (IntKind.i64) ((0 : Int))), (Go.Value.int (IntKind.i64) (x31)), (Go.Value.int (IntKind.i64) ((0 : Int))), (Go.Value.int (IntKind.i64) ((0 : Int))), (Go.Value.bool (true))])
    ) (
      π.unSome (some (Addr.mk b (0 : Nat) none)) fun p32 =>
      π.ld [.int .i64] (((p32.add (0 : Nat)).add (0 : Nat)).add (0 : Nat)) fun ((x33 : Int), _) =>
      π.ret (Go.Value.agg #[(Go.Value.int (IntKind.i64) ((0 : Int))), (Go.Value.int (IntKind.i64) ((0 : Int))), (Go.Value.int (IntKind.i64) ((0 : Int))), (Go.Value.int (IntKind.i64) ((0 : Int))), (Go.Value.int (IntKind.i64) ((0 : Int))), (Go.Value.int (IntKind.i64) (x33)), (Go.Value.int (IntKind.i64) ((0 : Int))), (Go.Value.int (IntKind.i64) ((0 : Int))), (Go.Value.bool (true))])
    )
  ) (
    π.unSome (some (Addr.mk b (0 : Nat) none)) fun p34 =>
    π.ld [.int .i64] (((p34.add (0 : Nat)).add (0 : Nat)).add (0 : Nat)) fun ((x35 : Int), _) =>
    π.ret (Go.Value.agg #[(Go.Value.int (IntKind.i64) ((0 : Int))), (Go.Value.int (IntKind.i64) ((0 : Int))), (Go.Value.int (IntKind.i64) ((0 : Int))), (Go.Value.int (IntKind.i64) ((0 : Int))), (Go.Value.int (IntKind.i64) ((0 : Int))), (Go.Value.int (IntKind.i64) (x35)), (Go.Value.int (IntKind.i64) ((0 : Int))), (Go.Value.int (IntKind.i64) ((0 : Int))), (Go.Value.bool (true))])
  )
def ann_step : Ann := { draws := [(3, { A := [0, 1, 2, 3, 4, 5, 6, 7, 8, 9, 10, 11], chkL := [(12, [3])], eag := [13, 14] })], join := [], loop := [] }
def la_step : LA := { ptr := [(4, 4, 0)], ty := [(4, 47)] }
set_option maxRecDepth 100000 in
theorem eq_step {W : Type} (π : Prims W) (b : Nat) (p : Addr) : bodyL π Tryz.prog la_step ann_step (mkFr (maskA [] [.v (.pointer (some ⟨b, 0, none⟩)), .v (.pointer (some p))] 0) 50) Tryz.f65 (bodyOf Tryz.f65) (mkFr (List.map some [.v (.pointer (some ⟨b, 0, none⟩)), .v (.pointer (some p))]) 50) = vc_step π b p := by kernel_rfl
theorem ok_step (b : Nat) (p : Addr) (R : Value → PH → Prop) (s : PH) (h : vc_step (RP Tryz.prog R) b p s) : DCalls Tryz.prog 65 (List.map AV.val [.v (.pointer (some ⟨b, 0, none⟩)), .v (.pointer (some p))]).toArray s R :=
  calls_vcL (c := bodyOf Tryz.f65) (ann := ann_step) la_step (by kernel_rfl) Tryz.func65 rfl (by kernel_rfl) [.v (.pointer (some ⟨b, 0, none⟩)), .v (.pointer (some p))] [] (by rw [Tryz.ntmps65]; exact Nat.le_of_ble_eq_true rfl) (by kernel_rfl) (by rw [show Tryz.f65.ntmps = 50 from Tryz.ntmps65, eq_step]; exact h)
/-- (*lintel/board.Board).Clear$1 -/
def vc_clear1 {W : Type} (π : Prims W) (l1 l2 l3 : Int) (p q : Nat) : W :=
  π.ld [.int .i64] (Addr.mk p (0 : Nat) none) fun ((x0 : Int), _) =>
  π.ite (decide (l2 < x0)) (
    π.ld [.int .i64] (Addr.mk q (0 : Nat) none) fun ((x1 : Int), _) =>
    π.call (44 : Nat) #[(Go.Value.agg #[(Go.Value.int (IntKind.i64) (l1)), (Go.Value.int (IntKind.i64) (l2)), (Go.Value.int (IntKind.i64) (l3))]), (Go.Value.int (IntKind.i64) (x1))] (false, [(false, [.bool])]) fun (((b2 : Bool), _), _) =>
    π.ret (Go.Value.bool (b2))
  ) (
    π.ret (Go.Value.bool (false))
  )
def ann_clear1 : Ann := { draws := [], join := [], loop := [] }
def la_clear1 : LA := { ptr := [(3, 3, 0), (5, 3, 1)], ty := [(3, 86)] }
set_option maxRecDepth 100000 in
theorem eq_clear1 {W : Type} (π : Prims W) (l1 l2 l3 : Int) (p q : Nat) : bodyL π Tryz.prog la_clear1 ann_clear1 (mkFr (maskA [] [.v (.agg #[.int .i64 l1, .int .i64 l2, .int .i64 l3]), .v (.pointer (some ⟨p, 0, none⟩)), .v (.pointer (some ⟨q, 0, none⟩))] 0) 14) Tryz.f43 (bodyOf Tryz.f43) (mkFr (List.map some [.v (.agg #[.int .i64 l1, .int .i64 l2, .int .i64 l3]), .v (.pointer (some ⟨p, 0, none⟩)), .v (.pointer (some ⟨q, 0, none⟩))]) 14) = vc_clear1 π l1 l2 l3 p q := by kernel_rfl
theorem ok_clear1 (l1 l2 l3 : Int) (p q : Nat) (R : Value → PH → Prop) (s : PH) (h : vc_clear1 (RP Tryz.prog R) l1 l2 l3 p q s) : DCalls Tryz.prog 43 (List.map AV.val [.v (.agg #[.int .i64 l1, .int .i64 l2, .int .i64 l3]), .v (.pointer (some ⟨p, 0, none⟩)), .v (.pointer (some ⟨q, 0, none⟩))]).toArray s R :=
  calls_vcL (c := bodyOf Tryz.f43) (ann := ann_clear1) la_clear1 (by kernel_rfl) Tryz.func43 rfl (by kernel_rfl) [.v (.agg #[.int .i64 l1, .int .i64 l2, .int .i64 l3]), .v (.pointer (some ⟨p, 0, none⟩)), .v (.pointer (some ⟨q, 0, none⟩))] [] (by rw [Tryz.ntmps43]; exact Nat.le_of_ble_eq_true rfl) (by kernel_rfl) (by rw [show Tryz.f43.ntmps = 14 from Tryz.ntmps43, eq_clear1]; exact h)
/-- slices.ContainsFunc[[]lintel/api.Lease,lintel/api.Lease] -/
def vc_ContainsL {W : Type} (π : Prims W) (a : Option Addr) (an ac : Nat) (p q : Nat) : W :=
  π.call (71 : Nat) #[(Go.Value.slice (a) (an) (ac)), (Go.Value.func (Fn.func (43 : Nat)) #[] #[(Go.Value.pointer (some (Addr.mk p (0 : Nat) none))), (Go.Value.pointer (some (Addr.mk q (0 : Nat) none)))])] (false, [(false, [.int .i64])]) fun (((x0 : Int), _), _) =>
  π.ret (Go.Value.bool (decide (x0 ≥ (0 : Int))))
def ann_ContainsL : Ann := { draws := [], join := [], loop := [] }
def la_ContainsL : LA := { ptr := [], ty := [] }
set_option maxRecDepth 100000 in
theorem eq_ContainsL {W : Type} (π : Prims W) (a : Option Addr) (an ac : Nat) (p q : Nat) : bodyL π Tryz.prog la_ContainsL ann_ContainsL (mkFr (maskA [] [.v (.slice a an ac), .v (.func (.func 43) #[] #[.pointer (some ⟨p, 0, none⟩), .pointer (some ⟨q, 0, none⟩)])] 0) 9) Tryz.f42 (bodyOf Tryz.f42) (mkFr (List.map some [.v (.slice a an ac), .v (.func (.func 43) #[] #[.pointer (some ⟨p, 0, none⟩), .pointer (some ⟨q, 0, none⟩)])]) 9) = vc_ContainsL π a an ac p q := by kernel_rfl
theorem ok_ContainsL (a : Option Addr) (an ac : Nat) (p q : Nat) (R : Value → PH → Prop) (s : PH) (h : vc_ContainsL (RP Tryz.prog R) a an ac p q s) : DCalls Tryz.prog 42 (List.map AV.val [.v (.slice a an ac), .v (.func (.func 43) #[] #[.pointer (some ⟨p, 0, none⟩), .pointer (some ⟨q, 0, none⟩)])]).toArray s R :=
  calls_vcL (c := bodyOf Tryz.f42) (ann := ann_ContainsL) la_ContainsL (by kernel_rfl) Tryz.func42 rfl (by kernel_rfl) [.v (.slice a an ac), .v (.func (.func 43) #[] #[.pointer (some ⟨p, 0, none⟩), .pointer (some ⟨q, 0, none⟩)])] [] (by rw [Tryz.ntmps42]; exact Nat.le_of_ble_eq_true rfl) (by kernel_rfl) (by rw [show Tryz.f42.ntmps = 9 from Tryz.ntmps42, eq_ContainsL]; exact h)
/-- slices.IndexFunc[[]lintel/api.Lease,lintel/api.Lease] -/
def vc_IndexFuncE {W : Type} (π : Prims W) (a : Option Addr) (an ac : Nat) (p q : Nat) : W :=
  π.loop [(false, [.int .i64]), (false, [.int .i64])] (((↑an : Int), ()), ((0 : Int), ()), ()) fun (((x1 : Int), _), ((x2 : Int), _), _) again0 =>
    π.ite (decide (x2 < x1)) (
      π.guard ((0 : Int) ≤ x2 ∧ x2 < (↑an : Int)) <|
      π.unSome (a) fun p3 =>
      π.ld [.int .i64, .int .i64, .int .i64] (p3.add (x2.toNat * (3 : Nat))) fun ((x4 : Int), (x5 : Int), (x6 : Int), _) =>
      π.call (43 : Nat) #[(Go.Value.agg #[(Go.Value.int (IntKind.i64) (x4)), (Go.Value.int (IntKind.i64) (x5)), (Go.Value.int (IntKind.i64) (x6))]), (Go.Value.pointer (some (Addr.mk p (0 : Nat) none))), (Go.Value.pointer (some (Addr.mk q (0 : Nat) none)))] (false, [(false, [.bool])]) fun (((b7 : Bool), _), _) =>
      π.ite (b7) (
        π.ret (Go.Value.int (IntKind.i64) (x2))
      ) (
        again0 ((x1, ()), (IntKind.i64.wrap (x2 + (1 : Int)), ()), ())
      )
    ) (
      π.ret (Go.Value.int (IntKind.i64) ((-1 : Int)))
    )
def ann_IndexFuncE : Ann := { draws := [], join := [], loop := [(2, [(7, 3), (8, 3)])] }
def la_IndexFuncE : LA := { ptr := [], ty := [] }
set_option maxRecDepth 100000 in
theorem eq_IndexFuncE {W : Type} (π : Prims W) (a : Option Addr) (an ac : Nat) (p q : Nat) : bodyL π Tryz.prog la_IndexFuncE ann_IndexFuncE (mkFr (maskA [] [.v (.slice a an ac), .v (.func (.func 43) #[] #[.pointer (some ⟨p, 0, none⟩), .pointer (some ⟨q, 0, none⟩)])] 0) 19) Tryz.f71 (bodyOf Tryz.f71) (mkFr (List.map some [.v (.slice a an ac), .v (.func (.func 43) #[] #[.pointer (some ⟨p, 0, none⟩), .pointer (some ⟨q, 0, none⟩)])]) 19) = vc_IndexFuncE π a an ac p q := by kernel_rfl
theorem ok_IndexFuncE (a : Option Addr) (an ac : Nat) (p q : Nat) (R : Value → PH → Prop) (s : PH) (h : vc_IndexFuncE (RP Tryz.prog R) a an ac p q s) : DCalls Tryz.prog 71 (List.map AV.val [.v (.slice a an ac), .v (.func (.func 43) #[] #[.pointer (some ⟨p, 0, none⟩), .pointer (some ⟨q, 0, none⟩)])]).toArray s R :=
  calls_vcL (c := bodyOf Tryz.f71) (ann := ann_IndexFuncE) la_IndexFuncE (by kernel_rfl) Tryz.func71 rfl (by kernel_rfl) [.v (.slice a an ac), .v (.func (.func 43) #[] #[.pointer (some ⟨p, 0, none⟩), .pointer (some ⟨q, 0, none⟩)])] [] (by rw [Tryz.ntmps71]; exact Nat.le_of_ble_eq_true rfl) (by kernel_rfl) (by rw [show Tryz.f71.ntmps = 19 from Tryz.ntmps71, eq_IndexFuncE]; exact h)
/-- (*lintel/board.Board).Clear -/
def vc_Clear {W : Type} (π : Prims W) (b : Nat) (at_ below : Int) : W :=
  π.nw (Go.Obj.cells #[(Go.Value.int (IntKind.i64) (at_))] (3 : Nat) ((0 : Nat), (0 : Nat))) fun r0 =>
  π.nw (Go.Obj.cells #[(Go.Value.int (IntKind.i64) (below))] (3 : Nat) ((0 : Nat), (0 : Nat))) fun r1 =>
  π.ite ((some (Addr.mk b (0 : Nat) none)).isNone) (
    π.ret (Go.Value.bool (true))
  ) (
    π.unSome (some (Addr.mk b (0 : Nat) none)) fun p2 =>
    π.ld [.slice] ((p2.add (0 : Nat)).add (3 : Nat)) fun (((a3 : Option Addr), (n4 : Nat), (c5 : Nat)), _) =>
    π.call (42 : Nat) #[(Go.Value.slice (a3) (n4) (c5)), (Go.Value.func (Fn.func (43 : Nat)) #[] #[(Go.Value.pointer (some (Addr.mk r1 (0 : Nat) none))), (Go.Value.pointer (some (Addr.mk r0 (0 : Nat) none)))])] (false, [(false, [.bool])]) fun (((b6 : Bool), _), _) =>
    π.ret (Go.Value.bool (!b6))
  )
def ann_Clear : Ann := { draws := [], join := [], loop := [] }
def la_Clear : LA := { ptr := [], ty := [] }
set_option maxRecDepth 100000 in
theorem eq_Clear {W : Type} (π : Prims W) (b : Nat) (at_ below : Int) : bodyL π Tryz.prog la_Clear ann_Clear (mkFr (maskA [] [.v (.pointer (some ⟨b, 0, none⟩)), .v (.int .i64 at_), .v (.int .i64 below)] 0) 19) Tryz.f16 (bodyOf Tryz.f16) (mkFr (List.map some [.v (.pointer (some ⟨b, 0, none⟩)), .v (.int .i64 at_), .v (.int .i64 below)]) 19) = vc_Clear π b at_ below := by kernel_rfl
theorem ok_Clear (b : Nat) (at_ below : Int) (R : Value → PH → Prop) (s : PH) (h : vc_Clear (RP Tryz.prog R) b at_ below s) : DCalls Tryz.prog 16 (List.map AV.val [.v (.pointer (some ⟨b, 0, none⟩)), .v (.int .i64 at_), .v (.int .i64 below)]).toArray s R :=
  calls_vcL (c := bodyOf Tryz.f16) (ann := ann_Clear) la_Clear (by kernel_rfl) Tryz.func16 rfl (by kernel_rfl) [.v (.pointer (some ⟨b, 0, none⟩)), .v (.int .i64 at_), .v (.int .i64 below)] [] (by rw [Tryz.ntmps16]; exact Nat.le_of_ble_eq_true rfl) (by kernel_rfl) (by rw [show Tryz.f16.ntmps = 19 from Tryz.ntmps16, eq_Clear]; exact h)
/-- (*lintel/board.Board).next -/
def vc_bnext {W : Type} (π : Prims W) (b : Nat) (at_ : Int) (ck y1 y2 y3 x1 x2 x3 ho : Int) (ra : Option Addr) (rn rc : Nat) (wa : Option Addr) (wn wc : Nat) (mi un ts ve ca : Int) (dk : Int) (dt dn dc dp : ByteArray) (du : Bool) (dy vk vn : Int) (vs : ByteArray) (da : Option Addr) (dan dac : Nat) (jo ph : Int) (mk : ByteArray) (wh : Int) : W :=
  π.nw (Go.Obj.cells #[(Go.Value.int (IntKind.i64) ((1 : Int))), (Go.Value.int (IntKind.i64) ((2 : Int))), (Go.Value.int (IntKind.i64) ((3 : Int)))] (3 : Nat) ((0 : Nat), (0 : Nat))) fun r0 =>
  π.call (63 : Nat) #[(Go.Value.pointer (some (Addr.mk b (0 : Nat) none))), (Go.Value.agg #[(Go.Value.int (IntKind.i64) (ck)), (Go.Value.int (IntKind.i64) (y1)), (Go.Value.int (IntKind.i64) (y2)), (Go.Value.int (IntKind.i64) (y3)), (Go.Value.int (IntKind.i64) (x1)), (Go.Value.int (IntKind.i64) (x2)), (Go.Value.int (IntKind.i64) (x3)), (Go.Value.int (IntKind.i64) (ho)), (Go.Value.slice (ra) (rn) (rc)), (Go.Value.slice (wa) (wn) (wc)), (Go.Value.int (IntKind.i64) (mi)), (Go.Value.int (IntKind.i64) (un)), (Go.Value.int (IntKind.i64) (ts)), (Go.Value.int (IntKind.i64) (ve)), (Go.Value.int (IntKind.i64) (ca)), (Go.Value.int (IntKind.i64) (dk)), (Go.Value.string (dt)), (Go.Value.string (dn)), (Go.Value.string (dc)), (Go.Value.string (dp)), (Go.Value.bool (du)), (Go.Value.int (IntKind.i64) (dy)), (Go.Value.int (IntKind.i64) (vk)), (Go.Value.int (IntKind.i64) (vn)), (Go.Value.string (vs)), (Go.Value.slice (da) (dan) (dac)), (Go.Value.int (IntKind.i64) (jo)), (Go.Value.int (IntKind.i64) (ph)), (Go.Value.string (mk)), (Go.Value.int (IntKind.i64) (wh))]), (Go.Value.slice (some (Addr.mk r0 (0 : Nat) none)) ((3 : Nat)) ((3 : Nat)))] (false, [(false, [.ptr])]) fun ((p1, _), _) =>
  π.ite (p1.isNone) (
    π.ret (Go.Value.agg #[(Go.Value.int (IntKind.i64) ((160 : Int))), (Go.Value.int (IntKind.i64) ((0 : Int))), (Go.Value.int (IntKind.i64) ((0 : Int))), (Go.Value.int (IntKind.i64) ((0 : Int))), (Go.Value.int (IntKind.i64) ((0 : Int))), (Go.Value.int (IntKind.i64) ((0 : Int))), (Go.Value.int (IntKind.i64) ((0 : Int))), (Go.Value.int (IntKind.i64) ((0 : Int))), (Go.Value.bool (false))])
  ) (
    π.callQ (41 : Nat) #[(Go.Value.pointer (p1))] (false, [(true, [.int .i64, .int .i64])]) fun (((x2 : Int), (x3 : Int), _), _) =>
    π.unSome (some (Addr.mk b (0 : Nat) none)) fun p4 =>
    π.ld [.int .i64] (((p4.add (0 : Nat)).add (0 : Nat)).add (0 : Nat)) fun ((x5 : Int), _) =>
    π.still [.int .i64] (((p4.add (0 : Nat)).add (0 : Nat)).add (0 : Nat)) (x5, ()) <|
    π.join [(true, [.int .i64, .int .i64, .int .i64, .int .i64, .int .i64, .int .i64, .int .i64, .int .i64, .bool]), (false, [.ptr]), (true, [.int .i64, .int .i64]), (false, [.int .i64])] (fun J6 =>
      π.ite (x2 == (2 : Int)) (
        π.unSome (p1) fun p7 =>
        π.ld [.bool] (p7.add (18 : Nat)) fun ((b8 : Bool), _) =>
        π.ite (!b8) (
          π.ret (Go.Value.agg #[(Go.Value.int (IntKind.i64) ((160 : Int))), (Go.Value.int (IntKind.i64) ((0 : Int))), (Go.Value.int (IntKind.i64) ((0 : Int))), (Go.Value.int (IntKind.i64) ((0 : Int))), (Go.Value.int (IntKind.i64) ((0 : Int))), (Go.Value.int (IntKind.i64) ((0 : Int))), (Go.Value.int (IntKind.i64) ((0 : Int))), (Go.Value.int (IntKind.i64) ((0 : Int))), (Go.Value.bool (false))])
        ) (
          J6 (((0 : Int), (0 : Int), (0 : Int), (0 : Int), (0 : Int), (0 : Int), (0 : Int), (0 : Int), false, ()), (p1, ()), (x2, x3, ()), (IntKind.i64.wrap (x5 + (1 : Int)), ()), ())
        )
      ) (
        J6 (((0 : Int), (0 : Int), (0 : Int), (0 : Int), (0 : Int), (0 : Int), (0 : Int), (0 : Int), false, ()), (p1, ()), (x2, x3, ()), (x5, ()), ())
      )
    ) (fun (((x9 : Int), (x10 : Int), (x11 : Int), (x12 : Int), (x13 : Int), (x14 : Int), (x15 : Int), (x16 : Int), (b17 : Bool), _), (p18, _), ((x19 : Int), (x20 : Int), _), ((x21 : Int), _), _) =>
      π.call (16 : Nat) #[(Go.Value.pointer (some (Addr.mk b (0 : Nat) none))), (Go.Value.int (IntKind.i64) (at_)), (Go.Value.int (IntKind.i64) (x21))] (false, [(false, [.bool])]) fun (((b22 : Bool), _), _) =>
      π.ite (!b22) (
        π.ret (Go.Value.agg #[(Go.Value.int (IntKind.i64) ((161 : Int))), (Go.Value.int (IntKind.i64) ((0 : Int))), (Go.Value.int (IntKind.i64) ((0 : Int))), (Go.Value.int (IntKind.i64) ((0 : Int))), (Go.Value.int (IntKind.i64) ((0 : Int))), (Go.Value.int (IntKind.i64) ((0 : Int))), (Go.Value.int (IntKind.i64) ((0 : Int))), (Go.Value.int (IntKind.i64) ((0 : Int))), (Go.Value.bool (false))])
      ) (
        π.ite (x19 != (3 : Int)) (
          π.join [(true, [.int .i64, .int .i64, .int .i64, .int .i64, .int .i64, .int .i64, .int .i64, .int .i64, .bool]), (false, [.ptr]), (true, [.int .i64, .int .i64, .slice]), (false, [.int .i64])] (fun J23 =>
            π.unSome (some (Addr.mk b (0 : Nat) none)) fun p24 =>
            π.ld [.int .i64, .int .i64, .slice] ((p24.add (0 : Nat)).add (0 : Nat)) fun ((x25 : Int), (x26 : Int), ((a27 : Option Addr), (n28 : Nat), (c29 : Nat)), _) =>
            π.unSome (p18) fun p30 =>
            π.ld [.int .i64, .str, .str, .str, .str, .bool, .int .i64, .int .i64, .int .i64, .str, .slice] (p30.add (5 : Nat)) fun ((x31 : Int), (t32 : ByteArray), (t33 : ByteArray), (t34 : ByteArray), (t35 : ByteArray), (b36 : Bool), (x37 : Int), (x38 : Int), (x39 : Int), (t40 : ByteArray), ((a41 : Option Addr), (n42 : Nat), (c43 : Nat)), _) =>
            π.both (
              π.call (64 : Nat) #[(Go.Value.agg #[(Go.Value.int (IntKind.i64) (x25)), (Go.Value.int (IntKind.i64) (x26)), (Go.Value.slice (a27) (n28) (c29))]), (Go.Value.agg #[(Go.Value.int (IntKind.i64) (x31)), (Go.Value.string (t32)), (Go.Value.string (t33)), (Go.Value.string (t34)), (Go.Value.string (t35)), (Go.Value.bool (b36)), (Go.Value.int (IntKind.i64) (x37)), (Go.Value.int (IntKind.i64) (x38)), (Go.Value.int (IntKind.i64) (x39)), (Go.Value.string (t40)), (Go.Value.slice (a41) (n42) (c43))]), (Go.Value.int (IntKind.i64) (x20))] (true, [(true, [.int .i64, .int .i64, .slice]), (false, [.int .i64])]) fun (((x44 : Int), (x45 : Int), ((a46 : Option Addr), (n47 : Nat), (c48 : Nat)), _), ((x49 : Int), _), _) =>
              J23 ((x9, x10, x11, x12, x13, x14, x15, x16, b17, ()), (p18, ()), (x44, x45, (a46, n47, c48), ()), (x49, ()), ())
            ) (
              π.call (64 : Nat) #[(Go.Value.agg #[(Go.Value.int (IntKind.i64) (x25)), (Go.Value.int (IntKind.i64) (x26)), (Go.Value.slice (a27) (n28) (c29))]), (Go.Value.agg #[(Go.Value.int (IntKind.i64) (x31)), (Go.Value.string (t32)), (Go.Value.string (t33)), (Go.Value.string (t34)), (Go.Value.string (t35)), (Go.Value.bool (b36)), (Go.Value.int (IntKind.i64) (x37)), (Go.Value.int (IntKind.i64) (x38)), (Go.Value.int (IntKind.i64) (x39)), (Go.Value.string (t40)), (Go.Value.slice (a41) (n42) (c43))]), (Go.Value.int (IntKind.i64) (x20))] (true, [(true, [.int .i64, .int .i64, .slice]), (false, [.int .i64])]) fun (((x50 : Int), (x51 : Int), ((a52 : Option Addr), (n53 : Nat), (c54 : Nat)), _), ((x55 : Int), _), _) =>
              J23 ((x9, x10, x11, x12, x13, x14, x15, x16, b17, ()), (p18, ()), (x50, x51, (a52, n53, c54), ()), (x55, ()), ())
            )
          ) (fun (((x56 : Int), (x57 : Int), (x58 : Int), (x59 : Int), (x60 : Int), (x61 : Int), (x62 : Int), (x63 : Int), (b64 : Bool), _), (p65, _), ((x66 : Int), (x67 : Int), ((a68 : Option Addr), (n69 : Nat), (c70 : Nat)), _), ((x71 : Int), _), _) =>
            π.ite (x71 != (0 : Int)) (
              π.unSome (p65) fun p72 =>
              π.st (p72.add (20 : Nat)) [(Go.Value.int (IntKind.i64) ((3 : Int)))] <|
              π.unSome (p65) fun p73 =>
              π.st (p73.add (21 : Nat)) [(Go.Value.int (IntKind.i64) (x71))] <|
              π.unSome (p65) fun p74 =>
              π.st (p74.add (18 : Nat)) [(Go.Value.bool (false))] <|
              π.ret (Go.Value.agg #[(Go.Value.int (IntKind.i64) ((0 : Int))), (Go.Value.int (IntKind.i64) ((0 : Int))), (Go.Value.int (IntKind.i64) ((0 : Int))), (Go.Value.int (IntKind.i64) ((0 : Int))), (Go.Value.int (IntKind.i64) ((0 : Int))), (Go.Value.int (IntKind.i64) ((0 : Int))), (Go.Value.int (IntKind.i64) ((0 : Int))), (Go.Value.int (IntKind.i64) ((0 : Int))), (Go.Value.bool (true))])
            ) (
              π.unSome (some (Addr.mk b (0 : Nat) none)) fun p75 =>
              π.st ((p75.add (0 : Nat)).add (0 : Nat)) [(Go.Value.int (IntKind.i64) (x66)), (Go.Value.int (IntKind.i64) (x67)), (Go.Value.slice (a68) (n69) (c70))] <|
              π.call (65 : Nat) #[(Go.Value.pointer (some (Addr.mk b (0 : Nat) none))), (Go.Value.pointer (p65))] (false, [(true, [.int .i64, .int .i64, .int .i64, .int .i64, .int .i64, .int .i64, .int .i64, .int .i64, .bool])]) fun (((x76 : Int), (x77 : Int), (x78 : Int), (x79 : Int), (x80 : Int), (x81 : Int), (x82 : Int), (x83 : Int), (b84 : Bool), _), _) =>
              π.ret (Go.Value.agg #[(Go.Value.int (IntKind.i64) (x76)), (Go.Value.int (IntKind.i64) (x77)), (Go.Value.int (IntKind.i64) (x78)), (Go.Value.int (IntKind.i64) (x79)), (Go.Value.int (IntKind.i64) (x80)), (Go.Value.int (IntKind.i64) (x81)), (Go.Value.int (IntKind.i64) (x82)), (Go.Value.int (IntKind.i64) (x83)), (Go.Value.bool (b84))])
            )
          )
        ) (
          π.call (65 : Nat) #[(Go.Value.pointer (some (Addr.mk b (0 : Nat) none))), (Go.Value.pointer (p18))] (false, [(true, [.int .i64, .int .i64, .int .i64, .int .i64, .int .i64, .int .i64, .int .i64, .int .i64, .bool])]) fun (((x85 : Int), (x86 : Int), (x87 : Int), (x88 : Int), (x89 : Int), (x90 : Int), (x91 : Int), (x92 : Int), (b93 : Bool), _), _) =>
          π.ret (Go.Value.agg #[(Go.Value.int (IntKind.i64) (x85)), (Go.Value.int (IntKind.i64) (x86)), (Go.Value.int (IntKind.i64) (x87)), (Go.Value.int (IntKind.i64) (x88)), (Go.Value.int (IntKind.i64) (x89)), (Go.Value.int (IntKind.i64) (x90)), (Go.Value.int (IntKind.i64) (x91)), (Go.Value.int (IntKind.i64) (x92)), (Go.Value.bool (b93))])
        )
      )
    )
  )
def ann_bnext : Ann := { draws := [(4, { A := [0, 1, 2, 3, 4, 5, 6, 7], quiet := [1], chkL := [(9, [7])], eag := [10] }), (12, { A := [0, 1, 2, 3, 4, 5, 6, 7, 8, 9, 10], eag := [12, 13, 14, 17] })], join := [(9, [(6, 47), (7, 93), (8, 61), (9, 3)]), (13, [(6, 47), (7, 93), (10, 44), (11, 37)])], loop := [] }
def la_bnext : LA := { ptr := [(5, 5, 0), (6, 6, 0), (8, 8, 0), (10, 10, 0), (27, 8, 0), (44, 8, 0), (57, 8, 1)], ty := [(5, 39), (6, 47), (8, 61), (10, 44)] }
set_option maxRecDepth 100000 in
theorem eq_bnext {W : Type} (π : Prims W) (b : Nat) (at_ : Int) (ck y1 y2 y3 x1 x2 x3 ho : Int) (ra : Option Addr) (rn rc : Nat) (wa : Option Addr) (wn wc : Nat) (mi un ts ve ca : Int) (dk : Int) (dt dn dc dp : ByteArray) (du : Bool) (dy vk vn : Int) (vs : ByteArray) (da : Option Addr) (dan dac : Nat) (jo ph : Int) (mk : ByteArray) (wh : Int) : bodyL π Tryz.prog la_bnext ann_bnext (mkFr (maskA [] [.v (.pointer (some ⟨b, 0, none⟩)), .v (.int .i64 at_), .v (.agg #[.int .i64 ck, .int .i64 y1, .int .i64 y2, .int .i64 y3, .int .i64 x1, .int .i64 x2, .int .i64 x3, .int .i64 ho, .slice ra rn rc, .slice wa wn wc, .int .i64 mi, .int .i64 un, .int .i64 ts, .int .i64 ve, .int .i64 ca, .int .i64 dk, .string dt, .string dn, .string dc, .string dp, .bool du, .int .i64 dy, .int .i64 vk, .int .i64 vn, .string vs, .slice da dan dac, .int .i64 jo, .int .i64 ph, .string mk, .int .i64 wh])] 0) 83) Tryz.f28 (bodyOf Tryz.f28) (mkFr (List.map some [.v (.pointer (some ⟨b, 0, none⟩)), .v (.int .i64 at_), .v (.agg #[.int .i64 ck, .int .i64 y1, .int .i64 y2, .int .i64 y3, .int .i64 x1, .int .i64 x2, .int .i64 x3, .int .i64 ho, .slice ra rn rc, .slice wa wn wc, .int .i64 mi, .int .i64 un, .int .i64 ts, .int .i64 ve, .int .i64 ca, .int .i64 dk, .string dt, .string dn, .string dc, .string dp, .bool du, .int .i64 dy, .int .i64 vk, .int .i64 vn, .string vs, .slice da dan dac, .int .i64 jo, .int .i64 ph, .string mk, .int .i64 wh])]) 83) = vc_bnext π b at_ ck y1 y2 y3 x1 x2 x3 ho ra rn rc wa wn wc mi un ts ve ca dk dt dn dc dp du dy vk vn vs da dan dac jo ph mk wh := by kernel_rfl
theorem ok_bnext (b : Nat) (at_ : Int) (ck y1 y2 y3 x1 x2 x3 ho : Int) (ra : Option Addr) (rn rc : Nat) (wa : Option Addr) (wn wc : Nat) (mi un ts ve ca : Int) (dk : Int) (dt dn dc dp : ByteArray) (du : Bool) (dy vk vn : Int) (vs : ByteArray) (da : Option Addr) (dan dac : Nat) (jo ph : Int) (mk : ByteArray) (wh : Int) (R : Value → PH → Prop) (s : PH) (h : vc_bnext (RP Tryz.prog R) b at_ ck y1 y2 y3 x1 x2 x3 ho ra rn rc wa wn wc mi un ts ve ca dk dt dn dc dp du dy vk vn vs da dan dac jo ph mk wh s) : DCalls Tryz.prog 28 (List.map AV.val [.v (.pointer (some ⟨b, 0, none⟩)), .v (.int .i64 at_), .v (.agg #[.int .i64 ck, .int .i64 y1, .int .i64 y2, .int .i64 y3, .int .i64 x1, .int .i64 x2, .int .i64 x3, .int .i64 ho, .slice ra rn rc, .slice wa wn wc, .int .i64 mi, .int .i64 un, .int .i64 ts, .int .i64 ve, .int .i64 ca, .int .i64 dk, .string dt, .string dn, .string dc, .string dp, .bool du, .int .i64 dy, .int .i64 vk, .int .i64 vn, .string vs, .slice da dan dac, .int .i64 jo, .int .i64 ph, .string mk, .int .i64 wh])]).toArray s R :=
  calls_vcL (c := bodyOf Tryz.f28) (ann := ann_bnext) la_bnext (by kernel_rfl) Tryz.func28 rfl (by kernel_rfl) [.v (.pointer (some ⟨b, 0, none⟩)), .v (.int .i64 at_), .v (.agg #[.int .i64 ck, .int .i64 y1, .int .i64 y2, .int .i64 y3, .int .i64 x1, .int .i64 x2, .int .i64 x3, .int .i64 ho, .slice ra rn rc, .slice wa wn wc, .int .i64 mi, .int .i64 un, .int .i64 ts, .int .i64 ve, .int .i64 ca, .int .i64 dk, .string dt, .string dn, .string dc, .string dp, .bool du, .int .i64 dy, .int .i64 vk, .int .i64 vn, .string vs, .slice da dan dac, .int .i64 jo, .int .i64 ph, .string mk, .int .i64 wh])] [] (by rw [Tryz.ntmps28]; exact Nat.le_of_ble_eq_true rfl) (by kernel_rfl) (by rw [show Tryz.f28.ntmps = 83 from Tryz.ntmps28, eq_bnext]; exact h)
/-- (*lintel/board.Board).mark -/
def vc_bmark {W : Type} (π : Prims W) (b : Nat) (at_ : Int) (ck y1 y2 y3 x1 x2 x3 ho : Int) (ra : Option Addr) (rn rc : Nat) (wa : Option Addr) (wn wc : Nat) (mi un ts ve ca : Int) (dk : Int) (dt dn dc dp : ByteArray) (du : Bool) (dy vk vn : Int) (vs : ByteArray) (da : Option Addr) (dan dac : Nat) (jo ph : Int) (mk : ByteArray) (wh : Int) : W :=
  π.nw (Go.Obj.cells #[(Go.Value.int (IntKind.i64) ((4 : Int))), (Go.Value.int (IntKind.i64) ((5 : Int)))] (3 : Nat) ((0 : Nat), (0 : Nat))) fun r0 =>
  π.call (63 : Nat) #[(Go.Value.pointer (some (Addr.mk b (0 : Nat) none))), (Go.Value.agg #[(Go.Value.int (IntKind.i64) (ck)), (Go.Value.int (IntKind.i64) (y1)), (Go.Value.int (IntKind.i64) (y2)), (Go.Value.int (IntKind.i64) (y3)), (Go.Value.int (IntKind.i64) (x1)), (Go.Value.int (IntKind.i64) (x2)), (Go.Value.int (IntKind.i64) (x3)), (Go.Value.int (IntKind.i64) (ho)), (Go.Value.slice (ra) (rn) (rc)), (Go.Value.slice (wa) (wn) (wc)), (Go.Value.int (IntKind.i64) (mi)), (Go.Value.int (IntKind.i64) (un)), (Go.Value.int (IntKind.i64) (ts)), (Go.Value.int (IntKind.i64) (ve)), (Go.Value.int (IntKind.i64) (ca)), (Go.Value.int (IntKind.i64) (dk)), (Go.Value.string (dt)), (Go.Value.string (dn)), (Go.Value.string (dc)), (Go.Value.string (dp)), (Go.Value.bool (du)), (Go.Value.int (IntKind.i64) (dy)), (Go.Value.int (IntKind.i64) (vk)), (Go.Value.int (IntKind.i64) (vn)), (Go.Value.string (vs)), (Go.Value.slice (da) (dan) (dac)), (Go.Value.int (IntKind.i64) (jo)), (Go.Value.int (IntKind.i64) (ph)), (Go.Value.string (mk)), (Go.Value.int (IntKind.i64) (wh))]), (Go.Value.slice (some (Addr.mk r0 (0 : Nat) none)) ((2 : Nat)) ((2 : Nat)))] (false, [(false, [.ptr])]) fun ((p1, _), _) =>
  π.ite (p1.isNone) (
    π.ret (Go.Value.agg #[(Go.Value.int (IntKind.i64) ((160 : Int))), (Go.Value.int (IntKind.i64) ((0 : Int))), (Go.Value.int (IntKind.i64) ((0 : Int))), (Go.Value.int (IntKind.i64) ((0 : Int))), (Go.Value.int (IntKind.i64) ((0 : Int))), (Go.Value.int (IntKind.i64) ((0 : Int))), (Go.Value.int (IntKind.i64) ((0 : Int))), (Go.Value.int (IntKind.i64) ((0 : Int))), (Go.Value.bool (false))])
  ) (
    π.ite (ve == (1 : Int)) (
      π.call (65 : Nat) #[(Go.Value.pointer (some (Addr.mk b (0 : Nat) none))), (Go.Value.pointer (p1))] (false, [(true, [.int .i64, .int .i64, .int .i64, .int .i64, .int .i64, .int .i64, .int .i64, .int .i64, .bool])]) fun (((x2 : Int), (x3 : Int), (x4 : Int), (x5 : Int), (x6 : Int), (x7 : Int), (x8 : Int), (x9 : Int), (b10 : Bool), _), _) =>
      π.ret (Go.Value.agg #[(Go.Value.int (IntKind.i64) ((0 : Int))), (Go.Value.int (IntKind.i64) ((0 : Int))), (Go.Value.int (IntKind.i64) ((0 : Int))), (Go.Value.int (IntKind.i64) ((0 : Int))), (Go.Value.int (IntKind.i64) ((0 : Int))), (Go.Value.int (IntKind.i64) ((0 : Int))), (Go.Value.int (IntKind.i64) ((0 : Int))), (Go.Value.int (IntKind.i64) ((0 : Int))), (Go.Value.bool (true))])
    ) (
      π.unSome (p1) fun p11 =>
      π.ld [.str] (p11.add (19 : Nat)) fun ((t12 : ByteArray), _) =>
      π.unSome (p1) fun p13 =>
      π.st (p13.add (19 : Nat)) [(Go.Value.string (if (!Op.bytesLess t12.toList mk.toList) = true then t12 else mk))] <|
      π.ret (Go.Value.agg #[(Go.Value.int (IntKind.i64) ((0 : Int))), (Go.Value.int (IntKind.i64) ((0 : Int))), (Go.Value.int (IntKind.i64) ((0 : Int))), (Go.Value.int (IntKind.i64) ((0 : Int))), (Go.Value.int (IntKind.i64) ((0 : Int))), (Go.Value.int (IntKind.i64) ((0 : Int))), (Go.Value.int (IntKind.i64) ((0 : Int))), (Go.Value.int (IntKind.i64) ((0 : Int))), (Go.Value.bool (true))])
    )
  )
def ann_bmark : Ann := { draws := [(6, { A := [0, 1, 2, 3, 4, 5, 6, 7, 8, 9] })], join := [], loop := [] }
def la_bmark : LA := { ptr := [(5, 5, 0), (6, 6, 0), (15, 5, 13), (26, 5, 28)], ty := [(5, 39), (6, 47)] }
set_option maxRecDepth 100000 in
theorem eq_bmark {W : Type} (π : Prims W) (b : Nat) (at_ : Int) (ck y1 y2 y3 x1 x2 x3 ho : Int) (ra : Option Addr) (rn rc : Nat) (wa : Option Addr) (wn wc : Nat) (mi un ts ve ca : Int) (dk : Int) (dt dn dc dp : ByteArray) (du : Bool) (dy vk vn : Int) (vs : ByteArray) (da : Option Addr) (dan dac : Nat) (jo ph : Int) (mk : ByteArray) (wh : Int) : bodyL π Tryz.prog la_bmark ann_bmark (mkFr (maskA [] [.v (.pointer (some ⟨b, 0, none⟩)), .v (.int .i64 at_), .v (.agg #[.int .i64 ck, .int .i64 y1, .int .i64 y2, .int .i64 y3, .int .i64 x1, .int .i64 x2, .int .i64 x3, .int .i64 ho, .slice ra rn rc, .slice wa wn wc, .int .i64 mi, .int .i64 un, .int .i64 ts, .int .i64 ve, .int .i64 ca, .int .i64 dk, .string dt, .string dn, .string dc, .string dp, .bool du, .int .i64 dy, .int .i64 vk, .int .i64 vn, .string vs, .slice da dan dac, .int .i64 jo, .int .i64 ph, .string mk, .int .i64 wh])] 0) 32) Tryz.f29 (bodyOf Tryz.f29) (mkFr (List.map some [.v (.pointer (some ⟨b, 0, none⟩)), .v (.int .i64 at_), .v (.agg #[.int .i64 ck, .int .i64 y1, .int .i64 y2, .int .i64 y3, .int .i64 x1, .int .i64 x2, .int .i64 x3, .int .i64 ho, .slice ra rn rc, .slice wa wn wc, .int .i64 mi, .int .i64 un, .int .i64 ts, .int .i64 ve, .int .i64 ca, .int .i64 dk, .string dt, .string dn, .string dc, .string dp, .bool du, .int .i64 dy, .int .i64 vk, .int .i64 vn, .string vs, .slice da dan dac, .int .i64 jo, .int .i64 ph, .string mk, .int .i64 wh])]) 32) = vc_bmark π b at_ ck y1 y2 y3 x1 x2 x3 ho ra rn rc wa wn wc mi un ts ve ca dk dt dn dc dp du dy vk vn vs da dan dac jo ph mk wh := by kernel_rfl
theorem ok_bmark (b : Nat) (at_ : Int) (ck y1 y2 y3 x1 x2 x3 ho : Int) (ra : Option Addr) (rn rc : Nat) (wa : Option Addr) (wn wc : Nat) (mi un ts ve ca : Int) (dk : Int) (dt dn dc dp : ByteArray) (du : Bool) (dy vk vn : Int) (vs : ByteArray) (da : Option Addr) (dan dac : Nat) (jo ph : Int) (mk : ByteArray) (wh : Int) (R : Value → PH → Prop) (s : PH) (h : vc_bmark (RP Tryz.prog R) b at_ ck y1 y2 y3 x1 x2 x3 ho ra rn rc wa wn wc mi un ts ve ca dk dt dn dc dp du dy vk vn vs da dan dac jo ph mk wh s) : DCalls Tryz.prog 29 (List.map AV.val [.v (.pointer (some ⟨b, 0, none⟩)), .v (.int .i64 at_), .v (.agg #[.int .i64 ck, .int .i64 y1, .int .i64 y2, .int .i64 y3, .int .i64 x1, .int .i64 x2, .int .i64 x3, .int .i64 ho, .slice ra rn rc, .slice wa wn wc, .int .i64 mi, .int .i64 un, .int .i64 ts, .int .i64 ve, .int .i64 ca, .int .i64 dk, .string dt, .string dn, .string dc, .string dp, .bool du, .int .i64 dy, .int .i64 vk, .int .i64 vn, .string vs, .slice da dan dac, .int .i64 jo, .int .i64 ph, .string mk, .int .i64 wh])]).toArray s R :=
  calls_vcL (c := bodyOf Tryz.f29) (ann := ann_bmark) la_bmark (by kernel_rfl) Tryz.func29 rfl (by kernel_rfl) [.v (.pointer (some ⟨b, 0, none⟩)), .v (.int .i64 at_), .v (.agg #[.int .i64 ck, .int .i64 y1, .int .i64 y2, .int .i64 y3, .int .i64 x1, .int .i64 x2, .int .i64 x3, .int .i64 ho, .slice ra rn rc, .slice wa wn wc, .int .i64 mi, .int .i64 un, .int .i64 ts, .int .i64 ve, .int .i64 ca, .int .i64 dk, .string dt, .string dn, .string dc, .string dp, .bool du, .int .i64 dy, .int .i64 vk, .int .i64 vn, .string vs, .slice da dan dac, .int .i64 jo, .int .i64 ph, .string mk, .int .i64 wh])] [] (by rw [Tryz.ntmps29]; exact Nat.le_of_ble_eq_true rfl) (by kernel_rfl) (by rw [show Tryz.f29.ntmps = 32 from Tryz.ntmps29, eq_bmark]; exact h)
/-- (*lintel/board.Board).fail -/
def vc_bfail {W : Type} (π : Prims W) (b : Nat) (at_ : Int) (ck y1 y2 y3 x1 x2 x3 ho : Int) (ra : Option Addr) (rn rc : Nat) (wa : Option Addr) (wn wc : Nat) (mi un ts ve ca : Int) (dk : Int) (dt dn dc dp : ByteArray) (du : Bool) (dy vk vn : Int) (vs : ByteArray) (da : Option Addr) (dan dac : Nat) (jo ph : Int) (mk : ByteArray) (wh : Int) : W :=
  π.nw (Go.Obj.cells #[(Go.Value.int (IntKind.i64) ((4 : Int)))] (3 : Nat) ((0 : Nat), (0 : Nat))) fun r0 =>
  π.call (63 : Nat) #[(Go.Value.pointer (some (Addr.mk b (0 : Nat) none))), (Go.Value.agg #[(Go.Value.int (IntKind.i64) (ck)), (Go.Value.int (IntKind.i64) (y1)), (Go.Value.int (IntKind.i64) (y2)), (Go.Value.int (IntKind.i64) (y3)), (Go.Value.int (IntKind.i64) (x1)), (Go.Value.int (IntKind.i64) (x2)), (Go.Value.int (IntKind.i64) (x3)), (Go.Value.int (IntKind.i64) (ho)), (Go.Value.slice (ra) (rn) (rc)), (Go.Value.slice (wa) (wn) (wc)), (Go.Value.int (IntKind.i64) (mi)), (Go.Value.int (IntKind.i64) (un)), (Go.Value.int (IntKind.i64) (ts)), (Go.Value.int (IntKind.i64) (ve)), (Go.Value.int (IntKind.i64) (ca)), (Go.Value.int (IntKind.i64) (dk)), (Go.Value.string (dt)), (Go.Value.string (dn)), (Go.Value.string (dc)), (Go.Value.string (dp)), (Go.Value.bool (du)), (Go.Value.int (IntKind.i64) (dy)), (Go.Value.int (IntKind.i64) (vk)), (Go.Value.int (IntKind.i64) (vn)), (Go.Value.string (vs)), (Go.Value.slice (da) (dan) (dac)), (Go.Value.int (IntKind.i64) (jo)), (Go.Value.int (IntKind.i64) (ph)), (Go.Value.string (mk)), (Go.Value.int (IntKind.i64) (wh))]), (Go.Value.slice (some (Addr.mk r0 (0 : Nat) none)) ((1 : Nat)) ((1 : Nat)))] (false, [(false, [.ptr])]) fun ((p1, _), _) =>
  π.join [(true, [.int .i64, .int .i64, .int .i64, .int .i64, .int .i64, .int .i64, .int .i64, .int .i64, .slice, .slice, .int .i64, .int .i64, .int .i64, .int .i64, .int .i64, .int .i64, .str, .str, .str, .str, .bool, .int .i64, .int .i64, .int .i64, .str, .slice, .int .i64, .int .i64, .str, .int .i64]), (true, [.int .i64, .int .i64, .int .i64, .int .i64, .int .i64, .int .i64, .int .i64, .int .i64, .bool]), (false, [.ptr])] (fun J2 =>
    π.ite (p1.isNone) (
      π.ret (Go.Value.agg #[(Go.Value.int (IntKind.i64) ((160 : Int))), (Go.Value.int (IntKind.i64) ((0 : Int))), (Go.Value.int (IntKind.i64) ((0 : Int))), (Go.Value.int (IntKind.i64) ((0 : Int))), (Go.Value.int (IntKind.i64) ((0 : Int))), (Go.Value.int (IntKind.i64) ((0 : Int))), (Go.Value.int (IntKind.i64) ((0 : Int))), (Go.Value.int (IntKind.i64) ((0 : Int))), (Go.Value.bool (false))])
    ) (
      π.unSome (p1) fun p3 =>
      π.ld [.bool] (p3.add (17 : Nat)) fun ((b4 : Bool), _) =>
      π.ite (b4) (
        π.ret (Go.Value.agg #[(Go.Value.int (IntKind.i64) ((160 : Int))), (Go.Value.int (IntKind.i64) ((0 : Int))), (Go.Value.int (IntKind.i64) ((0 : Int))), (Go.Value.int (IntKind.i64) ((0 : Int))), (Go.Value.int (IntKind.i64) ((0 : Int))), (Go.Value.int (IntKind.i64) ((0 : Int))), (Go.Value.int (IntKind.i64) ((0 : Int))), (Go.Value.int (IntKind.i64) ((0 : Int))), (Go.Value.bool (false))])
      ) (
        J2 ((ck, y1, y2, y3, x1, x2, x3, ho, (ra, rn, rc), (wa, wn, wc), mi, un, ts, ve, ca, dk, dt, dn, dc, dp, du, dy, vk, vn, vs, (da, dan, dac), jo, ph, mk, wh, ()), ((0 : Int), (0 : Int), (0 : Int), (0 : Int), (0 : Int), (0 : Int), (0 : Int), (0 : Int), false, ()), (p1, ()), ())
      )
    )
  ) (fun (((x5 : Int), (x6 : Int), (x7 : Int), (x8 : Int), (x9 : Int), (x10 : Int), (x11 : Int), (x12 : Int), ((a13 : Option Addr), (n14 : Nat), (c15 : Nat)), ((a16 : Option Addr), (n17 : Nat), (c18 : Nat)), (x19 : Int), (x20 : Int), (x21 : Int), (x22 : Int), (x23 : Int), (x24 : Int), (t25 : ByteArray), (t26 : ByteArray), (t27 : ByteArray), (t28 : ByteArray), (b29 : Bool), (x30 : Int), (x31 : Int), (x32 : Int), (t33 : ByteArray), ((a34 : Option Addr), (n35 : Nat), (c36 : Nat)), (x37 : Int), (x38 : Int), (t39 : ByteArray), (x40 : Int), _), ((x41 : Int), (x42 : Int), (x43 : Int), (x44 : Int), (x45 : Int), (x46 : Int), (x47 : Int), (x48 : Int), (b49 : Bool), _), (p50, _), _) =>
    π.unSome (p50) fun p51 =>
    π.st (p51.add (17 : Nat)) [(Go.Value.bool (true))] <|
    π.unSome (p50) fun p52 =>
    π.st (p52.add (16 : Nat)) [(Go.Value.int (IntKind.i64) ((0 : Int)))] <|
    π.unSome (p50) fun p53 =>
    π.st (p53.add (19 : Nat)) [(Go.Value.string (ByteArray.mk #[]))] <|
    π.unSome (p50) fun p54 =>
    π.st (p54.add (21 : Nat)) [(Go.Value.int (IntKind.i64) (x40))] <|
    π.ret (Go.Value.agg #[(Go.Value.int (IntKind.i64) ((0 : Int))), (Go.Value.int (IntKind.i64) ((0 : Int))), (Go.Value.int (IntKind.i64) ((0 : Int))), (Go.Value.int (IntKind.i64) ((0 : Int))), (Go.Value.int (IntKind.i64) ((0 : Int))), (Go.Value.int (IntKind.i64) ((0 : Int))), (Go.Value.int (IntKind.i64) ((0 : Int))), (Go.Value.int (IntKind.i64) ((0 : Int))), (Go.Value.bool (true))])
  )
def ann_bfail : Ann := { draws := [(4, { A := [0, 1, 2, 3, 4, 5, 6, 7], chkL := [(8, [5]), (11, [5]), (14, [5])], eag := [9, 10, 12, 13, 15, 16] })], join := [(4, [(5, 39), (6, 47), (7, 93)])], loop := [] }
def la_bfail : LA := { ptr := [(5, 5, 0), (6, 6, 0), (25, 5, 29)], ty := [(5, 39), (6, 47)] }
set_option maxRecDepth 100000 in
theorem eq_bfail {W : Type} (π : Prims W) (b : Nat) (at_ : Int) (ck y1 y2 y3 x1 x2 x3 ho : Int) (ra : Option Addr) (rn rc : Nat) (wa : Option Addr) (wn wc : Nat) (mi un ts ve ca : Int) (dk : Int) (dt dn dc dp : ByteArray) (du : Bool) (dy vk vn : Int) (vs : ByteArray) (da : Option Addr) (dan dac : Nat) (jo ph : Int) (mk : ByteArray) (wh : Int) : bodyL π Tryz.prog la_bfail ann_bfail (mkFr (maskA [] [.v (.pointer (some ⟨b, 0, none⟩)), .v (.int .i64 at_), .v (.agg #[.int .i64 ck, .int .i64 y1, .int .i64 y2, .int .i64 y3, .int .i64 x1, .int .i64 x2, .int .i64 x3, .int .i64 ho, .slice ra rn rc, .slice wa wn wc, .int .i64 mi, .int .i64 un, .int .i64 ts, .int .i64 ve, .int .i64 ca, .int .i64 dk, .string dt, .string dn, .string dc, .string dp, .bool du, .int .i64 dy, .int .i64 vk, .int .i64 vn, .string vs, .slice da dan dac, .int .i64 jo, .int .i64 ph, .string mk, .int .i64 wh])] 0) 36) Tryz.f30 (bodyOf Tryz.f30) (mkFr (List.map some [.v (.pointer (some ⟨b, 0, none⟩)), .v (.int .i64 at_), .v (.agg #[.int .i64 ck, .int .i64 y1, .int .i64 y2, .int .i64 y3, .int .i64 x1, .int .i64 x2, .int .i64 x3, .int .i64 ho, .slice ra rn rc, .slice wa wn wc, .int .i64 mi, .int .i64 un, .int .i64 ts, .int .i64 ve, .int .i64 ca, .int .i64 dk, .string dt, .string dn, .string dc, .string dp, .bool du, .int .i64 dy, .int .i64 vk, .int .i64 vn, .string vs, .slice da dan dac, .int .i64 jo, .int .i64 ph, .string mk, .int .i64 wh])]) 36) = vc_bfail π b at_ ck y1 y2 y3 x1 x2 x3 ho ra rn rc wa wn wc mi un ts ve ca dk dt dn dc dp du dy vk vn vs da dan dac jo ph mk wh := by kernel_rfl
theorem ok_bfail (b : Nat) (at_ : Int) (ck y1 y2 y3 x1 x2 x3 ho : Int) (ra : Option Addr) (rn rc : Nat) (wa : Option Addr) (wn wc : Nat) (mi un ts ve ca : Int) (dk : Int) (dt dn dc dp : ByteArray) (du : Bool) (dy vk vn : Int) (vs : ByteArray) (da : Option Addr) (dan dac : Nat) (jo ph : Int) (mk : ByteArray) (wh : Int) (R : Value → PH → Prop) (s : PH) (h : vc_bfail (RP Tryz.prog R) b at_ ck y1 y2 y3 x1 x2 x3 ho ra rn rc wa wn wc mi un ts ve ca dk dt dn dc dp du dy vk vn vs da dan dac jo ph mk wh s) : DCalls Tryz.prog 30 (List.map AV.val [.v (.pointer (some ⟨b, 0, none⟩)), .v (.int .i64 at_), .v (.agg #[.int .i64 ck, .int .i64 y1, .int .i64 y2, .int .i64 y3, .int .i64 x1, .int .i64 x2, .int .i64 x3, .int .i64 ho, .slice ra rn rc, .slice wa wn wc, .int .i64 mi, .int .i64 un, .int .i64 ts, .int .i64 ve, .int .i64 ca, .int .i64 dk, .string dt, .string dn, .string dc, .string dp, .bool du, .int .i64 dy, .int .i64 vk, .int .i64 vn, .string vs, .slice da dan dac, .int .i64 jo, .int .i64 ph, .string mk, .int .i64 wh])]).toArray s R :=
  calls_vcL (c := bodyOf Tryz.f30) (ann := ann_bfail) la_bfail (by kernel_rfl) Tryz.func30 rfl (by kernel_rfl) [.v (.pointer (some ⟨b, 0, none⟩)), .v (.int .i64 at_), .v (.agg #[.int .i64 ck, .int .i64 y1, .int .i64 y2, .int .i64 y3, .int .i64 x1, .int .i64 x2, .int .i64 x3, .int .i64 ho, .slice ra rn rc, .slice wa wn wc, .int .i64 mi, .int .i64 un, .int .i64 ts, .int .i64 ve, .int .i64 ca, .int .i64 dk, .string dt, .string dn, .string dc, .string dp, .bool du, .int .i64 dy, .int .i64 vk, .int .i64 vn, .string vs, .slice da dan dac, .int .i64 jo, .int .i64 ph, .string mk, .int .i64 wh])] [] (by rw [Tryz.ntmps30]; exact Nat.le_of_ble_eq_true rfl) (by kernel_rfl) (by rw [show Tryz.f30.ntmps = 36 from Tryz.ntmps30, eq_bfail]; exact h)
/-- (*lintel/board.Board).Do -/
def vc_Do {W : Type} (π : Prims W) (b : Nat) (at_ : Int) (ck y1 y2 y3 x1 x2 x3 ho : Int) (ra : Option Addr) (rn rc : Nat) (wa : Option Addr) (wn wc : Nat) (mi un ts ve ca : Int) (dk : Int) (dt dn dc dp : ByteArray) (du : Bool) (dy vk vn : Int) (vs : ByteArray) (da : Option Addr) (dan dac : Nat) (jo ph : Int) (mk : ByteArray) (wh : Int) : W :=
  π.ite ((some (Addr.mk b (0 : Nat) none)).isNone) (
    π.ret (Go.Value.agg #[(Go.Value.int (IntKind.i64) ((2 : Int))), (Go.Value.int (IntKind.i64) ((0 : Int))), (Go.Value.int (IntKind.i64) ((0 : Int))), (Go.Value.int (IntKind.i64) ((0 : Int))), (Go.Value.int (IntKind.i64) ((0 : Int))), (Go.Value.int (IntKind.i64) ((0 : Int))), (Go.Value.int (IntKind.i64) ((0 : Int))), (Go.Value.int (IntKind.i64) ((0 : Int))), (Go.Value.bool (false))])
  ) (
    π.nw (Obj.map #[] (0 : Nat)) fun r0 =>
    π.mset (TypeDesc.int IntKind.i64) (some r0) (Go.Value.int (IntKind.i64) ((11 : Int))) (Go.Value.func (Fn.func (25 : Nat)) #[(Go.Value.pointer (some (Addr.mk b (0 : Nat) none)))] #[]) <|
    π.mset (TypeDesc.int IntKind.i64) (some r0) (Go.Value.int (IntKind.i64) ((12 : Int))) (Go.Value.func (Fn.func (26 : Nat)) #[(Go.Value.pointer (some (Addr.mk b (0 : Nat) none)))] #[]) <|
    π.mset (TypeDesc.int IntKind.i64) (some r0) (Go.Value.int (IntKind.i64) ((13 : Int))) (Go.Value.func (Fn.func (27 : Nat)) #[(Go.Value.pointer (some (Addr.mk b (0 : Nat) none)))] #[]) <|
    π.mset (TypeDesc.int IntKind.i64) (some r0) (Go.Value.int (IntKind.i64) ((14 : Int))) (Go.Value.func (Fn.func (28 : Nat)) #[(Go.Value.pointer (some (Addr.mk b (0 : Nat) none)))] #[]) <|
    π.mset (TypeDesc.int IntKind.i64) (some r0) (Go.Value.int (IntKind.i64) ((15 : Int))) (Go.Value.func (Fn.func (29 : Nat)) #[(Go.Value.pointer (some (Addr.mk b (0 : Nat) none)))] #[]) <|
    π.mset (TypeDesc.int IntKind.i64) (some r0) (Go.Value.int (IntKind.i64) ((16 : Int))) (Go.Value.func (Fn.func (30 : Nat)) #[(Go.Value.pointer (some (Addr.mk b (0 : Nat) none)))] #[]) <|
    π.look (TypeDesc.int IntKind.i64) (some r0) (Go.Value.int (IntKind.i64) (ck)) (Go.Value.nilFunc ) (false, [.raw]) fun ((v2 : Value), _) b1 =>
    π.ite (!b1) (
      π.ret (Go.Value.agg #[(Go.Value.int (IntKind.i64) ((1 : Int))), (Go.Value.int (IntKind.i64) ((0 : Int))), (Go.Value.int (IntKind.i64) ((0 : Int))), (Go.Value.int (IntKind.i64) ((0 : Int))), (Go.Value.int (IntKind.i64) ((0 : Int))), (Go.Value.int (IntKind.i64) ((0 : Int))), (Go.Value.int (IntKind.i64) ((0 : Int))), (Go.Value.int (IntKind.i64) ((0 : Int))), (Go.Value.bool (false))])
    ) (
      π.ite (decide (at_ < (0 : Int))) (
        π.ret (Go.Value.agg #[(Go.Value.int (IntKind.i64) ((1 : Int))), (Go.Value.int (IntKind.i64) ((0 : Int))), (Go.Value.int (IntKind.i64) ((0 : Int))), (Go.Value.int (IntKind.i64) ((0 : Int))), (Go.Value.int (IntKind.i64) ((0 : Int))), (Go.Value.int (IntKind.i64) ((0 : Int))), (Go.Value.int (IntKind.i64) ((0 : Int))), (Go.Value.int (IntKind.i64) ((0 : Int))), (Go.Value.bool (false))])
      ) (
        π.ite (decide (at_ > (1125899906842624 : Int))) (
          π.ret (Go.Value.agg #[(Go.Value.int (IntKind.i64) ((1 : Int))), (Go.Value.int (IntKind.i64) ((0 : Int))), (Go.Value.int (IntKind.i64) ((0 : Int))), (Go.Value.int (IntKind.i64) ((0 : Int))), (Go.Value.int (IntKind.i64) ((0 : Int))), (Go.Value.int (IntKind.i64) ((0 : Int))), (Go.Value.int (IntKind.i64) ((0 : Int))), (Go.Value.int (IntKind.i64) ((0 : Int))), (Go.Value.bool (false))])
        ) (
          π.callV v2 #[(Go.Value.int (IntKind.i64) (at_)), (Go.Value.agg #[(Go.Value.int (IntKind.i64) (ck)), (Go.Value.int (IntKind.i64) (y1)), (Go.Value.int (IntKind.i64) (y2)), (Go.Value.int (IntKind.i64) (y3)), (Go.Value.int (IntKind.i64) (x1)), (Go.Value.int (IntKind.i64) (x2)), (Go.Value.int (IntKind.i64) (x3)), (Go.Value.int (IntKind.i64) (ho)), (Go.Value.slice (ra) (rn) (rc)), (Go.Value.slice (wa) (wn) (wc)), (Go.Value.int (IntKind.i64) (mi)), (Go.Value.int (IntKind.i64) (un)), (Go.Value.int (IntKind.i64) (ts)), (Go.Value.int (IntKind.i64) (ve)), (Go.Value.int (IntKind.i64) (ca)), (Go.Value.int (IntKind.i64) (dk)), (Go.Value.string (dt)), (Go.Value.string (dn)), (Go.Value.string (dc)), (Go.Value.string (dp)), (Go.Value.bool (du)), (Go.Value.int (IntKind.i64) (dy)), (Go.Value.int (IntKind.i64) (vk)), (Go.Value.int (IntKind.i64) (vn)), (Go.Value.string (vs)), (Go.Value.slice (da) (dan) (dac)), (Go.Value.int (IntKind.i64) (jo)), (Go.Value.int (IntKind.i64) (ph)), (Go.Value.string (mk)), (Go.Value.int (IntKind.i64) (wh))])] (false, [(true, [.int .i64, .int .i64, .int .i64, .int .i64, .int .i64, .int .i64, .int .i64, .int .i64, .bool])]) fun (((x3 : Int), (x4 : Int), (x5 : Int), (x6 : Int), (x7 : Int), (x8 : Int), (x9 : Int), (x10 : Int), (b11 : Bool), _), _) =>
          π.ret (Go.Value.agg #[(Go.Value.int (IntKind.i64) (x3)), (Go.Value.int (IntKind.i64) (x4)), (Go.Value.int (IntKind.i64) (x5)), (Go.Value.int (IntKind.i64) (x6)), (Go.Value.int (IntKind.i64) (x7)), (Go.Value.int (IntKind.i64) (x8)), (Go.Value.int (IntKind.i64) (x9)), (Go.Value.int (IntKind.i64) (x10)), (Go.Value.bool (b11))])
        )
      )
    )
  )
def ann_Do : Ann := { draws := [], join := [], loop := [] }
def la_Do : LA := { ptr := [(5, 5, 0), (6, 6, 0), (29, 5, 0)], ty := [(5, 39), (6, 47)] }
set_option maxRecDepth 100000 in
theorem eq_Do {W : Type} (π : Prims W) (b : Nat) (at_ : Int) (ck y1 y2 y3 x1 x2 x3 ho : Int) (ra : Option Addr) (rn rc : Nat) (wa : Option Addr) (wn wc : Nat) (mi un ts ve ca : Int) (dk : Int) (dt dn dc dp : ByteArray) (du : Bool) (dy vk vn : Int) (vs : ByteArray) (da : Option Addr) (dan dac : Nat) (jo ph : Int) (mk : ByteArray) (wh : Int) : bodyL π Tryz.prog la_Do ann_Do (mkFr (maskA [] [.v (.pointer (some ⟨b, 0, none⟩)), .v (.int .i64 at_), .v (.agg #[.int .i64 ck, .int .i64 y1, .int .i64 y2, .int .i64 y3, .int .i64 x1, .int .i64 x2, .int .i64 x3, .int .i64 ho, .slice ra rn rc, .slice wa wn wc, .int .i64 mi, .int .i64 un, .int .i64 ts, .int .i64 ve, .int .i64 ca, .int .i64 dk, .string dt, .string dn, .string dc, .string dp, .bool du, .int .i64 dy, .int .i64 vk, .int .i64 vn, .string vs, .slice da dan dac, .int .i64 jo, .int .i64 ph, .string mk, .int .i64 wh])] 0) 49) Tryz.f10 (bodyOf Tryz.f10) (mkFr (List.map some [.v (.pointer (some ⟨b, 0, none⟩)), .v (.int .i64 at_), .v (.agg #[.int .i64 ck, .int .i64 y1, .int .i64 y2, .int .i64 y3, .int .i64 x1, .int .i64 x2, .int .i64 x3, .int .i64 ho, .slice ra rn rc, .slice wa wn wc, .int .i64 mi, .int .i64 un, .int .i64 ts, .int .i64 ve, .int .i64 ca, .int .i64 dk, .string dt, .string dn, .string dc, .string dp, .bool du, .int .i64 dy, .int .i64 vk, .int .i64 vn, .string vs, .slice da dan dac, .int .i64 jo, .int .i64 ph, .string mk, .int .i64 wh])]) 49) = vc_Do π b at_ ck y1 y2 y3 x1 x2 x3 ho ra rn rc wa wn wc mi un ts ve ca dk dt dn dc dp du dy vk vn vs da dan dac jo ph mk wh := by kernel_rfl
theorem ok_Do (b : Nat) (at_ : Int) (ck y1 y2 y3 x1 x2 x3 ho : Int) (ra : Option Addr) (rn rc : Nat) (wa : Option Addr) (wn wc : Nat) (mi un ts ve ca : Int) (dk : Int) (dt dn dc dp : ByteArray) (du : Bool) (dy vk vn : Int) (vs : ByteArray) (da : Option Addr) (dan dac : Nat) (jo ph : Int) (mk : ByteArray) (wh : Int) (R : Value → PH → Prop) (s : PH) (h : vc_Do (RP Tryz.prog R) b at_ ck y1 y2 y3 x1 x2 x3 ho ra rn rc wa wn wc mi un ts ve ca dk dt dn dc dp du dy vk vn vs da dan dac jo ph mk wh s) : DCalls Tryz.prog 10 (List.map AV.val [.v (.pointer (some ⟨b, 0, none⟩)), .v (.int .i64 at_), .v (.agg #[.int .i64 ck, .int .i64 y1, .int .i64 y2, .int .i64 y3, .int .i64 x1, .int .i64 x2, .int .i64 x3, .int .i64 ho, .slice ra rn rc, .slice wa wn wc, .int .i64 mi, .int .i64 un, .int .i64 ts, .int .i64 ve, .int .i64 ca, .int .i64 dk, .string dt, .string dn, .string dc, .string dp, .bool du, .int .i64 dy, .int .i64 vk, .int .i64 vn, .string vs, .slice da dan dac, .int .i64 jo, .int .i64 ph, .string mk, .int .i64 wh])]).toArray s R :=
  calls_vcL (c := bodyOf Tryz.f10) (ann := ann_Do) la_Do (by kernel_rfl) Tryz.func10 rfl (by kernel_rfl) [.v (.pointer (some ⟨b, 0, none⟩)), .v (.int .i64 at_), .v (.agg #[.int .i64 ck, .int .i64 y1, .int .i64 y2, .int .i64 y3, .int .i64 x1, .int .i64 x2, .int .i64 x3, .int .i64 ho, .slice ra rn rc, .slice wa wn wc, .int .i64 mi, .int .i64 un, .int .i64 ts, .int .i64 ve, .int .i64 ca, .int .i64 dk, .string dt, .string dn, .string dc, .string dp, .bool du, .int .i64 dy, .int .i64 vk, .int .i64 vn, .string vs, .slice da dan dac, .int .i64 jo, .int .i64 ph, .string mk, .int .i64 wh])] [] (by rw [Tryz.ntmps10]; exact Nat.le_of_ble_eq_true rfl) (by kernel_rfl) (by rw [show Tryz.f10.ntmps = 49 from Tryz.ntmps10, eq_Do]; exact h)
end Go.Proofs.YthepfbcgpbkbdaaGreat
end
section
set_option linter.unusedVariables false
set_option linter.unusedSimpArgs false
set_option maxHeartbeats 1000000
set_option maxRecDepth 100000
namespace Go.Proofs.YthepfbcgpbkbdaaGreat
open Fw Go
attribute [-simp] Fw.W.ld_iff Fw.W.st_iff
def lseE : Enc Lse where
  sz := 3
  f l := [.int .i64 l.node, .int .i64 l.ver, .int .i64 l.til]
  len _ := rfl
  one l v hv := by simp at hv; rcases hv with rfl | rfl | rfl <;> rfl
  pos := by omega
/-- a job, and where its columns lie -/
structure JbP where
  j : Jb
  u : Tri
def jobE : Enc JbP where
  sz := 22
  f q := [.int .i64 q.j.id, .int .i64 q.j.call, .int .i64 q.j.y1, .int .i64 q.j.y2, .int .i64 q.j.y3, .int .i64 q.j.D.kind, .string q.j.D.table, .string q.j.D.name, .string q.j.D.column, .string q.j.D.parent, .bool q.j.D.unique, .int .i64 q.j.D.type,
    .int .i64 q.j.D.dflt.kind, .int .i64 q.j.D.dflt.n, .string q.j.D.dflt.s, .slice q.u.1 q.u.2.1 q.u.2.2, .int .i64 q.j.phase, .bool q.j.back, .bool q.j.drain, .string q.j.mark, .int .i64 q.j.fin, .int .i64 q.j.why]
  len _ := rfl
  one q v hv := by
    simp at hv
    rcases hv with rfl | rfl | rfl | rfl | rfl | rfl | rfl | rfl | rfl | rfl | rfl | rfl | rfl | rfl | rfl | rfl | rfl | rfl | rfl | rfl | rfl | rfl <;> rfl
  pos := by omega
abbrev ddlD (D : Ddl) (u : Tri) : Den [.int .i64, .str, .str, .str, .str, .bool, .int .i64, .int .i64, .int .i64, .str, .slice] := (D.kind, D.table, D.name, D.column, D.parent, D.unique, D.type, D.dflt.kind, D.dflt.n, D.dflt.s, u, ())
def Ty (s : PH) (g : Nat) (e : TypeId) : Prop := ∃ cur, s g = some (.cells cur e (0, 0))
theorem Ty.ne {s : PH} {g h : Nat} {e e' : TypeId} (h1 : Ty s g e) (h2 : Ty s h e') (hne : e ≠ e') : g ≠ h := by
  rintro rfl
  obtain ⟨c1, h1⟩ := h1
  obtain ⟨c2, h2⟩ := h2
  rw [h1] at h2; cases h2
  exact hne rfl
theorem row_ty {α : Type} {E : Enc α} {s : PH} {e : TypeId} {a : Option Addr} {n c : Nat} {xs : List α} (h : rowE E s e a n c xs) : ∀ g ∈ Fw.blk a, Ty s g e := by
  intro g hg
  rcases h.shape with ⟨rfl, _⟩ | ⟨g', rfl⟩
  · simp [Fw.blk] at hg
  · simp [Fw.blk] at hg; subst hg
    exact h.ty rfl
theorem Has.ty {s : PH} {t : Tri} {ps : List TabP} (h : Has s t ps) : ∀ g ∈ Lof t ps, Ty s g 139 ∨ Ty s g 97 ∨ Ty s g 142 ∨ Ty s g 144 := by
  intro g hg
  simp only [Lof, List.mem_append, List.mem_flatMap] at hg
  rcases hg with hg | ⟨p, hp, hg⟩
  · exact .inl (row_ty h.row g hg)
  · simp only [TabP.L, List.mem_append] at hg
    rcases hg with hg | hg | hg
    · exact .inr (.inl (row_ty (h.all p hp).c g hg))
    · exact .inr (.inr (.inl (row_ty (h.all p hp).x g hg)))
    · exact .inr (.inr (.inr (row_ty (h.all p hp).k g hg)))
/-- a board in the heap -/
structure Brd (s : PH) (b : Nat) (P : Pl) (t la ja : Tri) (ps : List TabP) (qs : List JbP) : Prop where
  blk : s b = some (.cells #[.int .i64 P.S.version, .int .i64 P.S.last, .slice t.1 t.2.1 t.2.2, .slice la.1 la.2.1 la.2.2, .slice ja.1 ja.2.1 ja.2.2] 79 (0, 0))
  has : Has s t ps
  teq : P.S.tabs = ps.map (·.T)
  sm : P.S.Sm
  lrow : rowE lseE s 86 la.1 la.2.1 la.2.2 P.L
  jrow : rowE jobE s 58 ja.1 ja.2.1 ja.2.2 qs
  jeq : P.J = qs.map (·.j)
  cols : ∀ q ∈ qs, rowE colE s 97 q.u.1 q.u.2.1 q.u.2.2 q.j.D.cols ∧ q.j.D.cols.length ≤ 1048576
def BL (b : Nat) (la ja : Tri) : List Nat := b :: (Fw.blk la.1 ++ Fw.blk ja.1)
/-- the same, places apart: L is what is written to -/
def BdAt (s : PH) (b : Nat) (P : Pl) (L : List Nat) : Prop := ∃ t la ja ps qs, L = BL b la ja ∧ Brd s b P t la ja ps qs
section
variable {s s' : PH} {b : Nat} {P : Pl} {t la ja : Tri} {ps : List TabP} {qs : List JbP}
theorem Brd.bty (h : Brd s b P t la ja ps qs) : Ty s b 79 := ⟨_, h.blk⟩
theorem Brd.tys (h : Brd s b P t la ja ps qs) : ∀ g ∈ BL b la ja, Ty s g 79 ∨ Ty s g 86 ∨ Ty s g 58 := by
  intro g hg
  simp only [BL, List.mem_cons, List.mem_append] at hg
  rcases hg with rfl | hg | hg
  · exact .inl h.bty
  · exact .inr (.inl (row_ty h.lrow g hg))
  · exact .inr (.inr (row_ty h.jrow g hg))
/-- the schema stays where the board's own blocks alone are written to -/
theorem Brd.hasM (h : Brd s b P t la ja ps qs) {M : List Nat} (hm : Fw.Mod M s s') (hM : ∀ g ∈ M, g ∈ BL b la ja) : Has s' t ps := by
  refine h.has.mod hm fun g hg hg2 => ?_
  have h1 := h.has.ty g hg
  have h2 := h.tys g (hM g hg2)
  rcases h1 with h1 | h1 | h1 | h1 <;> rcases h2 with h2 | h2 | h2 <;> exact (h1.ne h2 (by decide)) rfl
theorem Brd.colsM (h : Brd s b P t la ja ps qs) {M : List Nat} (hm : Fw.Mod M s s') (hM : ∀ g ∈ M, g ∈ BL b la ja) : ∀ q ∈ qs, rowE colE s' 97 q.u.1 q.u.2.1 q.u.2.2 q.j.D.cols ∧ q.j.D.cols.length ≤ 1048576 := by
  intro q hq
  refine ⟨(h.cols q hq).1.mod hm fun g hg hg2 => ?_, (h.cols q hq).2⟩
  have h1 := row_ty (h.cols q hq).1 g hg
  have h2 := h.tys g (hM g hg2)
  rcases h2 with h2 | h2 | h2 <;> exact (h1.ne h2 (by decide)) rfl
theorem Brd.bl (h : Brd s b P t la ja ps qs) : b ∉ Fw.blk la.1 ∧ b ∉ Fw.blk ja.1 ∧ ∀ g ∈ Fw.blk la.1, g ∉ Fw.blk ja.1 :=
  ⟨fun hg => (h.bty.ne (row_ty h.lrow b hg) (by decide)) rfl, fun hg => (h.bty.ne (row_ty h.jrow b hg) (by decide)) rfl, fun g hg hg2 => ((row_ty h.lrow g hg).ne (row_ty h.jrow g hg2) (by decide)) rfl⟩
theorem Brd.mod (h : Brd s b P t la ja ps qs) (hm : Fw.Mod [] s s') : Brd s' b P t la ja ps qs :=
  ⟨hm.at h.blk (by simp), h.hasM hm (by simp), h.teq, h.sm, h.lrow.mod hm (by simp), h.jrow.mod hm (by simp), h.jeq, h.colsM hm (by simp)⟩
theorem Brd.is (h : Brd s b P t la ja ps qs) : SchIs s t P.S ps := h.has.sm h.teq h.sm
theorem BdAt.mod {L : List Nat} (h : BdAt s b P L) (hm : Fw.Mod [] s s') : BdAt s' b P L := by
  obtain ⟨t, la, ja, ps, qs, rfl, h⟩ := h
  exact ⟨t, la, ja, ps, qs, rfl, h.mod hm⟩
theorem BdAt.known {L : List Nat} (h : BdAt s b P L) : ∀ g ∈ L, s g ≠ none := by
  obtain ⟨t, la, ja, ps, qs, rfl, h⟩ := h
  intro g hg
  rcases h.tys g hg with ⟨c, e⟩ | ⟨c, e⟩ | ⟨c, e⟩ <;> rw [e] <;> simp
end
abbrev noPl : Pl := ⟨noSch, [], []⟩
theorem c_bNew (s : PH) : DCalls Tryz.prog 8 #[] s fun y s' => ∃ b, y = cp b ∧ BdAt s' b noPl [b] ∧ Fw.Mod [] s s' ∧ s b = none := by
  refine ok_New _ s ?_
  unfold vc_New
  simp only [RP_nw, RP_ret]
  refine W.nw_of fun r s1 hr m1 k1 => ?_
  exact ⟨r, rfl, ⟨noTri, noTri, noTri, [], [], by simp [BL, Fw.blk], ⟨k1, Has.nil _, rfl, no_sm, rowE.nil, rowE.nil, rfl, by simp⟩⟩, m1, hr⟩
abbrev lseV (l : Lse) : Value := .agg #[.int .i64 l.node, .int .i64 l.ver, .int .i64 l.til]
theorem c_force (l : Lse) (now : Int) (s : PH) : DCalls Tryz.prog 44 #[lseV l, .int .i64 now] s fun y s' => y = .bool (forceB l now) ∧ s' = s := by
  refine ok_force l.node l.ver l.til now _ s ?_
  unfold vc_force
  simp [forceB]
/-- the job at hand -/
def handP (ja : Tri) (P : Pl) : Option Addr := match P.hand with | none => none | some (i, _) => ja.1.map fun a => a.add (i * 22)
theorem c_hand {s : PH} {b : Nat} {P : Pl} {t la ja : Tri} {ps : List TabP} {qs : List JbP} (h : Brd s b P t la ja ps qs) (hn : P.J.length ≤ 1000000) :
    DCalls Tryz.prog 39 #[cp b] s fun y s' => y = .pointer (handP ja P) ∧ s' = s := by
  refine ok_hand b _ s ?_
  unfold vc_hand
  have hb := h.blk
  have hl := h.jrow.len
  have hjl : P.J.length = qs.length := by rw [h.jeq, List.length_map]
  obtain ⟨R, hR⟩ : ∃ R : Value → PH → Prop, (fun y s' => y = .pointer (handP ja P) ∧ s' = s) = R := ⟨_, rfl⟩
  rw [hR]
  have hsk : handAt P.J = seek (fun q : JbP => decide (q.j.fin = 0)) qs 0 := by unfold handAt; rw [h.jeq, seek_map]
  obtain ⟨ja1, jn, jc⟩ := ja
  dsimp only at hl hb
  simp only [RP_unSome, RP_ld, RP_loop, RP_ite, RP_ret, RP_guard, W.unSome_some, add_mk, Nat.zero_add]
  rw [W.ld_at hb]
  refine ⟨((ja1, jn, jc), ()), rfl, ?_⟩
  refine ⟨fun z s' => ∃ k : Nat, z = (((jn : Int), ()), ((k : Int), ()), ()) ∧ k ≤ jn ∧ s' = s ∧ seek (fun q : JbP => decide (q.j.fin = 0)) (qs.drop k) k = handAt P.J, fun z _ => jn - z.2.1.1.toNat, ⟨0, rfl, Nat.zero_le _, rfl, by rw [hsk, List.drop_zero]⟩, ?_⟩
  rintro _ s ⟨k, rfl, hk, rfl, hs⟩
  refine (W.br_iff _ _ _ _).2 ⟨fun hlt => ?_, fun hge => ?_⟩
  · have hlt : (k : Int) < (jn : Int) := of_decide_eq_true hlt
    obtain ⟨q, hq⟩ : ∃ q, qs[k]? = some q := ⟨_, List.getElem?_eq_getElem (by omega)⟩
    obtain ⟨g, rfl, hh⟩ := h.jrow.at hq
    simp only [W.unSome_some, add_mk, Nat.zero_add]
    rw [W.ld_at hb]
    refine ⟨((some ⟨g, 0, none⟩, jn, jc), ()), rfl, ?_⟩
    dsimp only
    refine (W.guard_iff _ _ _).2 ⟨by omega, ?_⟩
    simp only [W.unSome_some, add_mk, Nat.zero_add, Int.toNat_natCast]
    have hh' : s.has ⟨g, k * 22, none⟩ (jobE.f q) := hh
    refine ld_hasm (j := 20) hh' (y := (q.j.fin, ())) rfl ?_
    rw [seek_step hq] at hs
    refine (W.br_iff _ _ _ _).2 ⟨fun e => ?_, fun e => ?_⟩
    · have e : (q.j.fin == 0) = true := e
      have e : q.j.fin = 0 := eq_of_beq e
      rw [if_pos (by simp [e])] at hs
      rw [← hR]
      have hqP : P.J[k]? = some q.j := by rw [h.jeq, List.getElem?_map, hq]; (first | done | rfl)
      have hhand : P.hand = some (k, q.j) := by
        unfold Pl.hand
        rw [← hs, if_neg (by omega), Int.toNat_natCast, hqP]; (first | done | rfl)
      refine ⟨?_, rfl⟩
      unfold handP
      rw [hhand]
      simp [add_mk]
    · have e : (q.j.fin == 0) = false := e
      have e : q.j.fin ≠ 0 := by simpa using e
      rw [if_neg (by simp [e])] at hs
      rw [wrap_succ (k := k) (by omega)]
      exact ⟨⟨k + 1, rfl, by omega, rfl, hs⟩, by simp only [Int.toNat_natCast]; omega⟩
  · have hge : ¬ (k : Int) < (jn : Int) := of_decide_eq_false hge
    rw [seek_end (by omega)] at hs
    rw [← hR]
    refine ⟨?_, rfl⟩
    unfold handP Pl.hand
    rw [← hs]; (first | done | rfl)
end Go.Proofs.YthepfbcgpbkbdaaGreat
end
section
set_option linter.unusedVariables false
set_option linter.unusedSimpArgs false
set_option maxHeartbeats 1000000
set_option maxRecDepth 100000
namespace Go.Proofs.YthepfbcgpbkbdaaGreat
open Fw Go
attribute [-simp] Fw.W.ld_iff Fw.W.st_iff
/-- a command, and where its lists lie -/
structure CmdP where
  c : Cm
  x1 : Int
  x2 : Int
  x3 : Int
  ho : Int
  r : Tri
  w : Tri
  mi : Int
  un : Int
  ts : Int
  u : Tri
abbrev cmdV (k : CmdP) : Value := .agg #[.int .i64 k.c.kind, .int .i64 k.c.y1, .int .i64 k.c.y2, .int .i64 k.c.y3, .int .i64 k.x1, .int .i64 k.x2, .int .i64 k.x3, .int .i64 k.ho, .slice k.r.1 k.r.2.1 k.r.2.2, .slice k.w.1 k.w.2.1 k.w.2.2, .int .i64 k.mi, .int .i64 k.un, .int .i64 k.ts, .int .i64 k.c.ver, .int .i64 k.c.call,
  .int .i64 k.c.D.kind, .string k.c.D.table, .string k.c.D.name, .string k.c.D.column, .string k.c.D.parent, .bool k.c.D.unique, .int .i64 k.c.D.type, .int .i64 k.c.D.dflt.kind, .int .i64 k.c.D.dflt.n, .string k.c.D.dflt.s, .slice k.u.1 k.u.2.1 k.u.2.2, .int .i64 k.c.job, .int .i64 k.c.phase, .string k.c.mark, .int .i64 k.c.why]
abbrev resV (r : Rs) : Value := .agg #[.int .i64 r.err, .int .i64 0, .int .i64 0, .int .i64 0, .int .i64 0, .int .i64 r.ver, .int .i64 r.til, .int .i64 r.job, .bool r.new]
theorem c_move {s : PH} {g o : Nat} {q : JbP} (hh : s.has ⟨g, o, none⟩ (jobE.f q)) (hp : 0 ≤ q.j.phase ∧ q.j.phase < ((movesOf q.j).length : Int)) :
    DCalls Tryz.prog 41 #[.pointer (some ⟨g, o, none⟩)] s fun y s' => y = .agg #[.int .i64 (moveOf q.j).1, .int .i64 (moveOf q.j).2] ∧ s' = s := by
  refine DCalls.quiet ?_
  refine ok_move ⟨g, o, none⟩ _ s ?_
  unfold vc_move
  simp only [RP_unSome, RP_ld, RP_call, RP_still, RP_guard, RP_ret, W.unSome_some, add_mk]
  refine ld_hasm (j := 5) hh (y := ddlD q.j.D q.u) rfl ?_
  simp only [W.unSome_some, add_mk]
  refine ld_hasm (j := 17) hh (cs := [.bool]) (y := (q.j.back, ())) rfl ?_
  simp only [W.unSome_some, add_mk]
  refine ld_hasm (j := 16) hh (cs := [.int .i64]) (y := (q.j.phase, ())) rfl ?_
  refine W.call_of (c_Path q.j.D q.u q.j.back s) ?_
  rintro _ s1 ⟨⟨va, vn, vc⟩, rfl, hr, m1⟩
  dsimp only at hr
  refine ⟨(((va, vn, vc), ()), ()), rfl, ?_⟩
  have hm : movesOf q.j = pairs (pathL q.j.D.kind q.j.back) := rfl
  have hvl := hr.len
  rw [← hm] at hr hvl
  obtain ⟨k, hk⟩ : ∃ k : Nat, q.j.phase = (k : Int) := ⟨q.j.phase.toNat, by omega⟩
  have hst : s1.has ⟨g, o + 16, none⟩ [.int .i64 q.j.phase] := by
    intro i v hv
    cases i with
    | zero => simp at hv; subst hv; rw [add_zero]; have := (hh.mono m1.le) 16 (.int .i64 q.j.phase) rfl; rwa [add_mk] at this
    | succ i => simp at hv
  refine (W.still_iff _ _ _ _ _ _).2 ⟨hst, ?_⟩
  dsimp only
  refine (W.guard_iff _ _ _).2 ⟨by omega, ?_⟩
  obtain ⟨x, hx⟩ : ∃ x, (movesOf q.j)[k]? = some x := ⟨_, List.getElem?_eq_getElem (by omega)⟩
  obtain ⟨g2, rfl, hh2⟩ := hr.at hx
  rw [hk]
  simp only [W.unSome_some, add_mk, Nat.zero_add, Int.toNat_natCast]
  refine ld_has_z (A := ⟨g2, k * 2, none⟩) hh2 (y := (x.1, x.2, ())) rfl ?_
  have hmv : moveOf q.j = x := by unfold moveOf; rw [hk, Int.toNat_natCast, hx]; (first | done | rfl)
  rw [hmv]
  exact ⟨rfl, m1⟩
theorem c_IndexI {s : PH} {a : Option Addr} {n c : Nat} {l : List Int} (h : intsAt s a n l) (hn : n ≤ 1000) (x : Int) :
    DCalls Tryz.prog 137 #[.slice a n c, .int .i64 x] s fun y s' => y = .int .i64 (seek (fun y : Int => decide (x = y)) l 0) ∧ s' = s := by
  refine ok_IndexI a n c x _ s ?_
  unfold vc_IndexI
  have hl := h.1
  simp only [RP_loop, RP_ite, RP_guard, RP_unSome, RP_ld, RP_ret]
  refine ⟨fun z s' => ∃ k : Nat, z = (((n : Int), ()), ((k : Int), ()), ()) ∧ k ≤ n ∧ s' = s ∧ seek (fun y : Int => decide (x = y)) (l.drop k) k = seek (fun y : Int => decide (x = y)) l 0, fun z _ => n - z.2.1.1.toNat, ⟨0, rfl, Nat.zero_le _, rfl, by rw [List.drop_zero]⟩, ?_⟩
  rintro _ s ⟨k, rfl, hk, rfl, hs⟩
  refine (W.br_iff _ _ _ _).2 ⟨fun hlt => ?_, fun hge => ?_⟩
  · have hlt : (k : Int) < (n : Int) := of_decide_eq_true hlt
    obtain ⟨y, hy⟩ : ∃ y, l[k]? = some y := ⟨_, List.getElem?_eq_getElem (by omega)⟩
    obtain ⟨ad, rfl, hc⟩ := h.2 k y hy
    dsimp only
    refine (W.guard_iff _ _ _).2 ⟨by omega, ?_⟩
    simp only [W.unSome_some, Int.toNat_natCast, Nat.mul_one]
    refine ld_one (c := .int .i64) (x := y) hc ?_
    rw [seek_step hy] at hs
    refine (W.br_iff _ _ _ _).2 ⟨fun e => ?_, fun e => ?_⟩
    · have e : (x == y) = true := e
      have e : x = y := eq_of_beq e
      rw [if_pos (by simp [e])] at hs
      rw [← hs]; exact ⟨rfl, rfl⟩
    · have e : (x == y) = false := e
      have e : x ≠ y := by simpa using e
      rw [if_neg (by simp [e])] at hs
      rw [wrap_succ (k := k) (by omega)]
      exact ⟨⟨k + 1, rfl, by omega, rfl, hs⟩, by simp only [Int.toNat_natCast]; omega⟩
  · have hge : ¬ (k : Int) < (n : Int) := of_decide_eq_false hge
    rw [seek_end (by omega)] at hs
    rw [← hs]; exact ⟨rfl, rfl⟩
theorem c_ContainsI {s : PH} {a : Option Addr} {n c : Nat} {l : List Int} (h : intsAt s a n l) (hn : n ≤ 1000) (x : Int) :
    DCalls Tryz.prog 94 #[.slice a n c, .int .i64 x] s fun y s' => y = .bool (decide (x ∈ l)) ∧ s' = s := by
  refine ok_ContainsI a n c x _ s ?_
  unfold vc_ContainsI
  simp only [RP_call, RP_ret]
  refine callq ((seek (fun y : Int => decide (x = y)) l 0, ()), ()) (c_IndexI h hn x) rfl ?_
  refine ⟨?_, rfl⟩
  have := seek_any (fun y : Int => decide (x = y)) l
  have e : decide (seek (fun y : Int => decide (x = y)) l 0 ≥ 0) = decide (0 ≤ seek (fun y : Int => decide (x = y)) l 0) := rfl
  dsimp only
  rw [e, this]
  congr 1
  rw [Bool.eq_iff_iff]
  simp
theorem ints_row {s : PH} {r : Nat} {l : List Int} (h : s r = some (.cells (l.map (Value.int .i64)).toArray 3 (0, 0))) : intsAt s (some ⟨r, 0, none⟩) l.length l := by
  refine ⟨rfl, fun i x hx => ⟨_, rfl, ?_⟩⟩
  have := has_block h
  refine this i _ ?_
  simp [hx]
/-- the job at hand that a command is about -/
def turnP (ja : Tri) (P : Pl) (c : Cm) (ks : List Int) : Option Addr := match P.turn c ks with | none => none | some (i, _) => ja.1.map fun a => a.add (i * 22)
section
variable {s : PH} {b : Nat} {P : Pl} {t la ja : Tri} {ps : List TabP} {qs : List JbP}
/-- where the job at hand lies -/
theorem Brd.at (h : Brd s b P t la ja ps qs) {i : Nat} {j : Jb} (hj : P.J[i]? = some j) : ∃ g q, ja.1 = some ⟨g, 0, none⟩ ∧ qs[i]? = some q ∧ q.j = j ∧ s.has ⟨g, i * 22, none⟩ (jobE.f q) := by
  rw [h.jeq, List.getElem?_map] at hj
  cases hq : qs[i]? with
  | none => rw [hq] at hj; cases hj
  | some q =>
    rw [hq] at hj
    simp only [Option.map_some, Option.some.injEq] at hj
    obtain ⟨g, hg, hh⟩ := h.jrow.at hq
    exact ⟨g, q, hg, rfl, hj, hh⟩
theorem c_bturn (h : Brd s b P t la ja ps qs) (hok : PlOk P) (hn : P.J.length ≤ 1000000) (k : CmdP) {ka : Option Addr} {kn kc : Nat} {ks : List Int} (hk : intsAt s ka kn ks) (hkn : kn ≤ 1000) :
    DCalls Tryz.prog 63 #[cp b, cmdV k, .slice ka kn kc] s fun y s' => y = .pointer (turnP ja P k.c ks) ∧ s' = s := by
  refine ok_bturn b k.c.kind k.c.y1 k.c.y2 k.c.y3 k.x1 k.x2 k.x3 k.ho k.r.1 k.r.2.1 k.r.2.2 k.w.1 k.w.2.1 k.w.2.2 k.mi k.un k.ts k.c.ver k.c.call k.c.D.kind k.c.D.table k.c.D.name k.c.D.column k.c.D.parent k.c.D.unique k.c.D.type k.c.D.dflt.kind k.c.D.dflt.n k.c.D.dflt.s k.u.1 k.u.2.1 k.u.2.2 k.c.job k.c.phase k.c.mark k.c.why ka kn kc _ s ?_
  unfold vc_bturn
  obtain ⟨R, hR⟩ : ∃ R : Value → PH → Prop, (fun y s' => y = .pointer (turnP ja P k.c ks) ∧ s' = s) = R := ⟨_, rfl⟩
  rw [hR]
  simp only [RP_call, RP_callQ, RP_ite, RP_unSome, RP_ld, RP_ret]
  refine callq ((handP ja P, ()), ()) (c_hand h hn) rfl ?_
  unfold turnP Pl.turn at hR
  unfold handP
  cases hh : P.hand with
  | none =>
    rw [hh] at hR
    refine (W.br_iff _ _ _ _).2 ⟨fun _ => ?_, fun e => (by cases e)⟩
    rw [← hR]; exact ⟨rfl, rfl⟩
  | some p =>
    obtain ⟨i, j⟩ := p
    rw [hh] at hR
    dsimp only at hR ⊢
    obtain ⟨hj, hf, _⟩ := hand_some hh
    obtain ⟨g, q, hg, hq, hqj, hhas⟩ := h.at hj
    have hph := hok.ph j (List.mem_of_getElem? hj) hf
    rw [hg] at hR ⊢
    simp only [Option.map_some, add_mk, Nat.zero_add] at hR ⊢
    have hhas' : s.has ⟨g, i * 22, none⟩ (jobE.f q) := hhas
    refine (W.br_iff _ _ _ _).2 ⟨fun e => (by cases e), fun _ => ?_⟩
    simp only [W.unSome_some, add_mk]
    refine ld_hasm (j := 0) hhas' (cs := [.int .i64]) (y := (q.j.id, ())) rfl ?_
    rw [hqj]
    refine (W.br_iff _ _ _ _).2 ⟨fun e => ?_, fun e => ?_⟩
    · have e : (j.id != k.c.job) = true := e
      have e : j.id ≠ k.c.job := by simpa using e
      rw [← hR, if_neg (fun e2 => e e2.1)]; exact ⟨rfl, rfl⟩
    have e1 : (j.id != k.c.job) = false := e
    have e1 : j.id = k.c.job := by simpa using e1
    simp only [W.unSome_some, add_mk]
    refine ld_hasm (j := 16) hhas' (cs := [.int .i64]) (y := (q.j.phase, ())) rfl ?_
    rw [hqj]
    refine (W.br_iff _ _ _ _).2 ⟨fun e => ?_, fun e => ?_⟩
    · have e : (j.phase != k.c.phase) = true := e
      have e : j.phase ≠ k.c.phase := by simpa using e
      rw [← hR, if_neg (fun e2 => e e2.2.1)]; exact ⟨rfl, rfl⟩
    have e2 : (j.phase != k.c.phase) = false := e
    have e2 : j.phase = k.c.phase := by simpa using e2
    refine W.callQ_of (((moveOf q.j).1, (moveOf q.j).2, ()), ()) (c_move hhas' (by rw [hqj]; exact hph)) rfl ?_
    rw [hqj]
    refine callq ((decide ((moveOf j).1 ∈ ks), ()), ()) (c_ContainsI hk hkn _) rfl ?_
    refine (W.br_iff _ _ _ _).2 ⟨fun e => ?_, fun e => ?_⟩
    · have e : (!decide ((moveOf j).1 ∈ ks)) = true := e
      have e : ¬ (moveOf j).1 ∈ ks := by simpa using e
      rw [← hR, if_neg (fun e2 => e e2.2.2)]; exact ⟨rfl, rfl⟩
    · have e : (!decide ((moveOf j).1 ∈ ks)) = false := e
      have e : (moveOf j).1 ∈ ks := by simpa using e
      rw [← hR, if_pos ⟨e1, e2, e⟩]; exact ⟨rfl, rfl⟩
/-- a job's cells are laid anew -/
theorem Brd.st (h : Brd s b P t la ja ps qs) {i : Nat} {q q' : JbP} (hq : qs[i]? = some q) {j : Nat} {vs : List Value} {k : W.T} (hx' : jobE.f q' = (jobE.f q).take j ++ vs ++ (jobE.f q).drop (j + vs.length)) (hj : j + vs.length ≤ 22)
    (hne : vs ≠ []) (h1 : ∀ v ∈ vs, v.oneCell' = true) (hu : q'.u = q.u) (hD : q'.j.D = q.j.D) {g : Nat} (ha : ja.1 = some ⟨g, 0, none⟩) (hk : ∀ s', Brd s' b (P.setJ i q'.j) t la ja ps (qs.set i q') → Fw.Mod [g] s s' → k s') : W.st ⟨g, i * 22 + j, none⟩ vs k s := by
  refine rowE.st (E := jobE) h.jrow hq hx' hj hne h1 ha fun s' hr m => ?_
  have hg : g ∈ Fw.blk ja.1 := by rw [ha]; simp [Fw.blk]
  have hgB : ∀ x ∈ [g], x ∈ BL b la ja := by
    intro x hx; simp at hx; subst hx
    simp [BL, hg]
  obtain ⟨o1, o2, o3⟩ := h.bl
  refine hk s' ⟨m.at h.blk (by simp; rintro rfl; exact o2 hg), h.hasM m hgB, h.teq, h.sm, h.lrow.mod m (fun x hx => by simp; rintro rfl; exact o3 x hx hg), hr, ?_, ?_⟩ m
  · show P.J.set i q'.j = _
    rw [h.jeq, List.map_set]
  · intro q2 hq2
    rcases List.mem_or_eq_of_mem_set hq2 with hq2 | rfl
    · exact h.colsM m hgB q2 hq2
    · rw [hu, hD]; exact h.colsM m hgB q (List.mem_of_getElem? hq)
end
theorem setJ_setJ (P : Pl) (i : Nat) (a c : Jb) : (P.setJ i a).setJ i c = P.setJ i c := by unfold Pl.setJ; simp
theorem setJ_at {P : Pl} {qs : List JbP} {i : Nat} {q q' : JbP} (hq : qs[i]? = some q) : (qs.set i q')[i]? = some q' := by
  rw [List.getElem?_set_self (List.getElem?_eq_some_iff.1 hq).1]
end Go.Proofs.YthepfbcgpbkbdaaGreat
end
section
set_option linter.unusedVariables false
set_option linter.unusedSimpArgs false
set_option maxHeartbeats 2000000
set_option maxRecDepth 100000
namespace Go.Proofs.YthepfbcgpbkbdaaGreat
open Fw Go
attribute [-simp] Fw.W.ld_iff Fw.W.st_iff
abbrev Jb.w (j : Jb) (phase : Int) (back drain : Bool) (mark : ByteArray) (fin why : Int) : Jb := ⟨j.id, j.call, j.y1, j.y2, j.y3, j.D, phase, back, drain, mark, fin, why⟩
theorem one1 {v : Value} (h : v.oneCell' = true) : ∀ w ∈ [v], w.oneCell' = true := by intro w hw; simp at hw; subst hw; exact h
def BdPost (s : PH) (b : Nat) (L : List Nat) (o : Rs × Pl) (y : Value) (s' : PH) : Prop := y = resV o.1 ∧ ∃ L', BdAt s' b o.2 L' ∧ Step L L' s s'
section
variable {s s' : PH} {b : Nat} {P P' : Pl} {t la ja : Tri} {ps : List TabP} {qs qs' : List JbP}
theorem post_same (h : Brd s b P t la ja ps qs) (hm : Fw.Mod [] s s') (r : Rs) : BdPost s b (BL b la ja) (r, P) (resV r) s' :=
  ⟨rfl, _, ⟨t, la, ja, ps, qs, rfl, h.mod hm⟩, ⟨hm.mono (by simp), fun x hx => .inl hx⟩⟩
theorem post_job (h' : Brd s' b P' t la ja ps qs') {g : Nat} (hg : ja.1 = some ⟨g, 0, none⟩) (hm : Fw.Mod [g] s s') (r : Rs) : BdPost s b (BL b la ja) (r, P') (resV r) s' :=
  ⟨rfl, _, ⟨t, la, ja, ps, qs', rfl, h'⟩, ⟨hm.mono (by intro x hx; simp at hx; subst hx; simp [BL, hg, Fw.blk]), fun x hx => .inl hx⟩⟩
theorem c_step (h : Brd s b P t la ja ps qs) {i g : Nat} {q : JbP} (hq : qs[i]? = some q) (hg : ja.1 = some ⟨g, 0, none⟩) (hph : 0 ≤ q.j.phase ∧ q.j.phase < ((movesOf q.j).length : Int)) :
    DCalls Tryz.prog 65 #[cp b, .pointer (some ⟨g, i * 22, none⟩)] s fun y s' => y = resV ⟨0, P.S.version, 0, 0, true⟩ ∧ ∃ qs', Brd s' b (P.setJ i q.j.step) t la ja ps qs' ∧ Fw.Mod [g] s s' := by
  refine ok_step b ⟨g, i * 22, none⟩ _ s ?_
  unfold vc_step
  obtain ⟨R, hR⟩ : ∃ R : Value → PH → Prop, (fun y s' => y = resV ⟨0, P.S.version, 0, 0, true⟩ ∧ ∃ qs', Brd s' b (P.setJ i q.j.step) t la ja ps qs' ∧ Fw.Mod [g] s s') = R := ⟨_, rfl⟩
  rw [hR]
  have hl := moves_len q.j
  have hfin : ∀ (s' : PH) (jn : Jb) (P' : Pl) (qs' : List JbP), Brd s' b P' t la ja ps qs' → P' = P.setJ i jn → jn = q.j.step → Fw.Mod [g] s s' → R (resV ⟨0, P.S.version, 0, 0, true⟩) s' := by
    rintro s' _ _ qs' hb rfl rfl m
    rw [← hR]
    exact ⟨rfl, qs', hb, m⟩
  have hw : IntKind.i64.wrap (q.j.phase + 1) = q.j.phase + 1 := wrap_in (by omega) (by omega)
  have at0 : ∀ {s qs'} {P' : Pl} {q : JbP}, Brd s b P' t la ja ps qs' → qs'[i]? = some q → s.has ⟨g, i * 22, none⟩ (jobE.f q) := by
    intro s qs' P' q h' hq'
    obtain ⟨g2, hg2, hh⟩ := h'.jrow.at hq'
    rw [hg] at hg2; cases hg2
    exact hh
  simp only [RP_unSome, RP_ld, RP_st, RP_call, RP_still, RP_ite, RP_ret, W.unSome_some, add_mk, Nat.zero_add]
  refine ld_hasm (j := 16) (at0 h hq) (cs := [.int .i64]) (y := (q.j.phase, ())) rfl ?_
  simp only [W.unSome_some, add_mk]
  refine h.st (q' := ⟨(q.j.w (IntKind.i64.wrap (q.j.phase + 1)) q.j.back q.j.drain q.j.mark q.j.fin q.j.why), q.u⟩) (j := 16) hq rfl (Nat.le_of_ble_eq_true rfl) (by simp) (one1 rfl) rfl rfl hg fun s1 h1 m1 => ?_
  simp only [W.unSome_some, add_mk]
  refine h1.st (q' := ⟨(q.j.w (IntKind.i64.wrap (q.j.phase + 1)) q.j.back q.j.drain (⟨#[]⟩) q.j.fin q.j.why), q.u⟩) (j := 19) (setJ_at (P := P) hq) rfl (Nat.le_of_ble_eq_true rfl) (by simp) (one1 rfl) rfl rfl hg fun s2 h2 m2 => ?_
  simp only [W.unSome_some, add_mk]
  have hq2 := setJ_at (P := P) (q' := ⟨(q.j.w (IntKind.i64.wrap (q.j.phase + 1)) q.j.back q.j.drain (⟨#[]⟩) q.j.fin q.j.why), q.u⟩) (setJ_at (P := P) (q' := ⟨(q.j.w (IntKind.i64.wrap (q.j.phase + 1)) q.j.back q.j.drain q.j.mark q.j.fin q.j.why), q.u⟩) hq)
  refine h2.st (q' := ⟨(q.j.w (IntKind.i64.wrap (q.j.phase + 1)) q.j.back (false) (⟨#[]⟩) q.j.fin q.j.why), q.u⟩) (j := 18) hq2 rfl (Nat.le_of_ble_eq_true rfl) (by simp) (one1 rfl) rfl rfl hg fun s3 h3 m3 => ?_
  simp only [W.unSome_some, add_mk]
  have hq3 := setJ_at (P := P) (q' := ⟨(q.j.w (IntKind.i64.wrap (q.j.phase + 1)) q.j.back (false) (⟨#[]⟩) q.j.fin q.j.why), q.u⟩) hq2
  have m03 := (m1.trans m2).trans m3
  have hh3 := at0 h3 hq3
  refine ld_hasm (j := 16) hh3 (cs := [.int .i64]) (y := (IntKind.i64.wrap (q.j.phase + 1), ())) rfl ?_
  simp only [W.unSome_some, add_mk]
  refine ld_hasm (j := 5) hh3 (y := ddlD q.j.D q.u) rfl ?_
  simp only [W.unSome_some, add_mk]
  refine ld_hasm (j := 17) hh3 (cs := [.bool]) (y := (q.j.back, ())) rfl ?_
  simp only [W.unSome_some, add_mk]
  refine W.call_of (c_Path q.j.D q.u q.j.back s3) ?_
  rintro _ s4 ⟨⟨va, vn, vc⟩, rfl, hr, m4⟩
  dsimp only at hr
  refine ⟨(((va, vn, vc), ()), ()), rfl, ?_⟩
  have hvl := hr.len
  have hm : movesOf q.j = pairs (pathL q.j.D.kind q.j.back) := rfl
  rw [← hm] at hvl
  have h4 := h3.mod m4
  have hst : s4.has ⟨g, i * 22 + 16, none⟩ [.int .i64 (IntKind.i64.wrap (q.j.phase + 1))] := by
    intro n v hv
    cases n with
    | zero => simp at hv; subst hv; rw [add_zero]; have := (hh3.mono m4.le) 16 (.int .i64 (IntKind.i64.wrap (q.j.phase + 1))) rfl; rwa [add_mk] at this
    | succ n => simp at hv
  refine (W.still_iff _ _ _ _ _ _).2 ⟨hst, ?_⟩
  dsimp only
  refine (W.br_iff _ _ _ _).2 ⟨fun e => ?_, fun e => ?_⟩
  · have e : (IntKind.i64.wrap (q.j.phase + 1) == (vn : Int)) = true := e
    have e : IntKind.i64.wrap (q.j.phase + 1) = ((movesOf q.j).length : Int) := by rw [← hvl]; exact eq_of_beq e
    simp only [W.unSome_some, add_mk]
    refine h4.st (q' := ⟨(q.j.w (IntKind.i64.wrap (q.j.phase + 1)) q.j.back (false) (⟨#[]⟩) (1) q.j.why), q.u⟩) (j := 20) hq3 rfl (Nat.le_of_ble_eq_true rfl) (by simp) (one1 rfl) rfl rfl hg fun s5 h5 m5 => ?_
    simp only [W.unSome_some, add_mk]
    have hq5 := setJ_at (P := P) (q' := ⟨(q.j.w (IntKind.i64.wrap (q.j.phase + 1)) q.j.back (false) (⟨#[]⟩) (1) q.j.why), q.u⟩) hq3
    refine ld_hasm (j := 17) (at0 h5 hq5) (cs := [.bool]) (y := (q.j.back, ())) rfl ?_
    have m05 := (m03.trans (m4.mono (by simp))).trans m5
    refine (W.br_iff _ _ _ _).2 ⟨fun eb => ?_, fun eb => ?_⟩
    · have eb : q.j.back = true := eb
      simp only [W.unSome_some, add_mk]
      refine h5.st (q' := ⟨(q.j.w (IntKind.i64.wrap (q.j.phase + 1)) q.j.back (false) (⟨#[]⟩) (2) q.j.why), q.u⟩) (j := 20) hq5 rfl (Nat.le_of_ble_eq_true rfl) (by simp) (one1 rfl) rfl rfl hg fun s6 h6 m6 => ?_
      simp only [W.unSome_some, add_mk]
      rw [W.ld_at h6.blk]
      refine ⟨(P.S.version, ()), rfl, ?_⟩
      simp only [setJ_setJ] at h6
      refine hfin _ _ _ _ h6 rfl ?_ (m05.trans m6)
      unfold Jb.step
      rw [if_pos e, if_pos eb]
    · have eb : q.j.back = false := eb
      simp only [W.unSome_some, add_mk]
      rw [W.ld_at h5.blk]
      refine ⟨(P.S.version, ()), rfl, ?_⟩
      simp only [setJ_setJ] at h5
      refine hfin _ _ _ _ h5 rfl ?_ m05
      unfold Jb.step
      rw [if_pos e, eb]; (first | done | rfl)
  · have e : (IntKind.i64.wrap (q.j.phase + 1) == (vn : Int)) = false := e
    have e : ¬ IntKind.i64.wrap (q.j.phase + 1) = ((movesOf q.j).length : Int) := by rw [← hvl]; simpa using e
    simp only [W.unSome_some, add_mk]
    rw [W.ld_at h4.blk]
    refine ⟨(P.S.version, ()), rfl, ?_⟩
    simp only [setJ_setJ] at h4
    refine hfin _ _ _ _ h4 rfl ?_ (m03.trans (m4.mono (by simp)))
    unfold Jb.step
    rw [if_neg e]
theorem turnP_none {c : Cm} {ks : List Int} (h : P.turn c ks = none) : turnP ja P c ks = none := by unfold turnP; rw [h]
theorem turnP_some {c : Cm} {ks : List Int} {i : Nat} {j : Jb} {g : Nat} (h : P.turn c ks = some (i, j)) (hg : ja.1 = some ⟨g, 0, none⟩) : turnP ja P c ks = some ⟨g, i * 22, none⟩ := by
  unfold turnP; rw [h]; simp [hg, add_mk]
theorem c_drain (h : Brd s b P t la ja ps qs) (hok : PlOk P) (hn : P.J.length ≤ 1000000) (k : CmdP) (now : Int) :
    DCalls Tryz.prog 27 #[cp b, .int .i64 now, cmdV k] s (BdPost s b (BL b la ja) (P.drain k.c)) := by
  refine ok_drain b now k.c.kind k.c.y1 k.c.y2 k.c.y3 k.x1 k.x2 k.x3 k.ho k.r.1 k.r.2.1 k.r.2.2 k.w.1 k.w.2.1 k.w.2.2 k.mi k.un k.ts k.c.ver k.c.call k.c.D.kind k.c.D.table k.c.D.name k.c.D.column k.c.D.parent k.c.D.unique k.c.D.type k.c.D.dflt.kind k.c.D.dflt.n k.c.D.dflt.s k.u.1 k.u.2.1 k.u.2.2 k.c.job k.c.phase k.c.mark k.c.why _ s ?_
  unfold vc_drain
  obtain ⟨R, hR⟩ : ∃ R, BdPost s b (BL b la ja) (P.drain k.c) = R := ⟨_, rfl⟩
  rw [hR]
  unfold Pl.drain at hR
  simp only [RP_nw, RP_call, RP_ite, RP_unSome, RP_ld, RP_st, RP_ret]
  refine W.nw_of fun r s1 hr m1 k1 => ?_
  have h1 := h.mod m1
  refine callq ((turnP ja P k.c [2], ()), ()) (c_bturn h1 hok hn k (ints_row (l := [2]) k1) (by decide)) rfl ?_
  cases ht : P.turn k.c [2] with
  | none =>
    rw [ht] at hR
    rw [turnP_none ht]
    refine (W.br_iff _ _ _ _).2 ⟨fun _ => ?_, fun e => (by cases e)⟩
    rw [← hR]; exact post_same h m1 _
  | some p =>
    obtain ⟨i, j⟩ := p
    rw [ht] at hR
    dsimp only at hR
    obtain ⟨hhd, _⟩ := turn_some ht
    obtain ⟨hj, hf, _⟩ := hand_some hhd
    obtain ⟨g, q, hg, hq, rfl, hhas⟩ := h1.at hj
    rw [turnP_some ht hg]
    refine (W.br_iff _ _ _ _).2 ⟨fun e => (by cases e), fun _ => ?_⟩
    simp only [W.unSome_some, add_mk]
    refine ld_hasm (j := 18) hhas (cs := [.bool]) (y := (q.j.drain, ())) rfl ?_
    simp only [W.unSome_some, add_mk]
    refine h1.st (q' := ⟨(q.j.w q.j.phase q.j.back (true) q.j.mark q.j.fin q.j.why), q.u⟩) (j := 18) hq rfl (Nat.le_of_ble_eq_true rfl) (by simp) (one1 rfl) rfl rfl hg fun s2 h2 m2 => ?_
    rw [← hR]
    exact post_job h2 hg ((m1.mono (by simp)).trans m2) ⟨0, 0, 0, 0, !q.j.drain⟩
theorem c_bmark (h : Brd s b P t la ja ps qs) (hok : PlOk P) (hn : P.J.length ≤ 1000000) (k : CmdP) (now : Int) :
    DCalls Tryz.prog 29 #[cp b, .int .i64 now, cmdV k] s (BdPost s b (BL b la ja) (P.mark k.c)) := by
  refine ok_bmark b now k.c.kind k.c.y1 k.c.y2 k.c.y3 k.x1 k.x2 k.x3 k.ho k.r.1 k.r.2.1 k.r.2.2 k.w.1 k.w.2.1 k.w.2.2 k.mi k.un k.ts k.c.ver k.c.call k.c.D.kind k.c.D.table k.c.D.name k.c.D.column k.c.D.parent k.c.D.unique k.c.D.type k.c.D.dflt.kind k.c.D.dflt.n k.c.D.dflt.s k.u.1 k.u.2.1 k.u.2.2 k.c.job k.c.phase k.c.mark k.c.why _ s ?_
  unfold vc_bmark
  obtain ⟨R, hR⟩ : ∃ R, BdPost s b (BL b la ja) (P.mark k.c) = R := ⟨_, rfl⟩
  rw [hR]
  unfold Pl.mark at hR
  simp only [RP_nw, RP_call, RP_ite, RP_unSome, RP_ld, RP_st, RP_ret]
  refine W.nw_of fun r s1 hr m1 k1 => ?_
  have h1 := h.mod m1
  refine callq ((turnP ja P k.c [4, 5], ()), ()) (c_bturn h1 hok hn k (ints_row (l := [4, 5]) k1) (by decide)) rfl ?_
  cases ht : P.turn k.c [4, 5] with
  | none =>
    rw [ht] at hR
    rw [turnP_none ht]
    refine (W.br_iff _ _ _ _).2 ⟨fun _ => ?_, fun e => (by cases e)⟩
    rw [← hR]; exact post_same h m1 _
  | some p =>
    obtain ⟨i, j⟩ := p
    rw [ht] at hR
    dsimp only at hR
    obtain ⟨hhd, _⟩ := turn_some ht
    obtain ⟨hj, hf, _⟩ := hand_some hhd
    have hph := hok.ph j (List.mem_of_getElem? hj) hf
    obtain ⟨g, q, hg, hq, rfl, hhas⟩ := h1.at hj
    rw [turnP_some ht hg]
    refine (W.br_iff _ _ _ _).2 ⟨fun e => (by cases e), fun _ => ?_⟩
    refine (W.br_iff _ _ _ _).2 ⟨fun e => ?_, fun e => ?_⟩
    · have e : (k.c.ver == 1) = true := e
      have e : k.c.ver = 1 := eq_of_beq e
      rw [if_pos e] at hR
      refine W.call_of (c_step h1 hq hg hph) ?_
      rintro _ s2 ⟨rfl, qs', h2, m2⟩
      refine ⟨((0, 0, 0, 0, 0, P.S.version, 0, 0, true, ()), ()), rfl, ?_⟩
      rw [← hR]
      exact post_job h2 hg ((m1.mono (by simp)).trans m2) ⟨0, 0, 0, 0, true⟩
    · have e : (k.c.ver == 1) = false := e
      have e : k.c.ver ≠ 1 := by simpa using e
      rw [if_neg e] at hR
      simp only [W.unSome_some, add_mk]
      refine ld_hasm (j := 19) hhas (cs := [.str]) (y := (q.j.mark, ())) rfl ?_
      simp only [W.unSome_some, add_mk]
      refine h1.st (q' := ⟨(q.j.w q.j.phase q.j.back q.j.drain (if (!Op.bytesLess q.j.mark.toList k.c.mark.toList) = true then q.j.mark else k.c.mark) q.j.fin q.j.why), q.u⟩) (j := 19) hq rfl (Nat.le_of_ble_eq_true rfl) (by simp) (one1 rfl) rfl rfl hg fun s2 h2 m2 => ?_
      rw [← hR]
      exact post_job h2 hg ((m1.mono (by simp)).trans m2) ⟨0, 0, 0, 0, true⟩
abbrev cmdD (k : CmdP) : Den [.int .i64, .int .i64, .int .i64, .int .i64, .int .i64, .int .i64, .int .i64, .int .i64, .slice, .slice, .int .i64, .int .i64, .int .i64, .int .i64, .int .i64, .int .i64, .str, .str, .str, .str, .bool, .int .i64, .int .i64, .int .i64, .str, .slice, .int .i64, .int .i64, .str, .int .i64] :=
  (k.c.kind, k.c.y1, k.c.y2, k.c.y3, k.x1, k.x2, k.x3, k.ho, k.r, k.w, k.mi, k.un, k.ts, k.c.ver, k.c.call, k.c.D.kind, k.c.D.table, k.c.D.name, k.c.D.column, k.c.D.parent, k.c.D.unique, k.c.D.type, k.c.D.dflt.kind, k.c.D.dflt.n, k.c.D.dflt.s, k.u, k.c.job, k.c.phase, k.c.mark, k.c.why, ())
abbrev zerD : Den [.int .i64, .int .i64, .int .i64, .int .i64, .int .i64, .int .i64, .int .i64, .int .i64, .bool] := (0, 0, 0, 0, 0, 0, 0, 0, false, ())
theorem c_bfail (h : Brd s b P t la ja ps qs) (hok : PlOk P) (hn : P.J.length ≤ 1000000) (k : CmdP) (now : Int) :
    DCalls Tryz.prog 30 #[cp b, .int .i64 now, cmdV k] s (BdPost s b (BL b la ja) (P.fail k.c)) := by
  refine ok_bfail b now k.c.kind k.c.y1 k.c.y2 k.c.y3 k.x1 k.x2 k.x3 k.ho k.r.1 k.r.2.1 k.r.2.2 k.w.1 k.w.2.1 k.w.2.2 k.mi k.un k.ts k.c.ver k.c.call k.c.D.kind k.c.D.table k.c.D.name k.c.D.column k.c.D.parent k.c.D.unique k.c.D.type k.c.D.dflt.kind k.c.D.dflt.n k.c.D.dflt.s k.u.1 k.u.2.1 k.u.2.2 k.c.job k.c.phase k.c.mark k.c.why _ s ?_
  unfold vc_bfail
  obtain ⟨R, hR⟩ : ∃ R, BdPost s b (BL b la ja) (P.fail k.c) = R := ⟨_, rfl⟩
  rw [hR]
  unfold Pl.fail at hR
  simp only [RP_nw, RP_call, RP_ite, RP_unSome, RP_ld, RP_st, RP_ret, RP_join]
  refine W.nw_of fun r s1 hr m1 k1 => ?_
  have h1 := h.mod m1
  refine callq ((turnP ja P k.c [4], ()), ()) (c_bturn h1 hok hn k (ints_row (l := [4]) k1) (by decide)) rfl ?_
  cases ht : P.turn k.c [4] with
  | none =>
    rw [ht] at hR
    rw [turnP_none ht]
    refine W.join_gen (fun _ _ => False) (fun _ _ h => h.elim) ?_
    intro J hJ
    refine (W.br_iff _ _ _ _).2 ⟨fun _ => ?_, fun e => (by cases e)⟩
    rw [← hR]; exact post_same h m1 _
  | some p =>
    obtain ⟨i, j⟩ := p
    rw [ht] at hR
    dsimp only at hR
    obtain ⟨hhd, _⟩ := turn_some ht
    obtain ⟨hj, hf, _⟩ := hand_some hhd
    obtain ⟨g, q, hg, hq, rfl, hhas⟩ := h1.at hj
    rw [turnP_some ht hg]
    refine W.join_gen (fun z s' => z = (cmdD k, zerD, (some (Addr.mk g (i * 22) none), ()), ()) ∧ s' = s1 ∧ q.j.back = false) ?_ ?_
    rotate_left
    · intro J hJ
      refine (W.br_iff _ _ _ _).2 ⟨fun e => (by cases e), fun _ => ?_⟩
      simp only [W.unSome_some, add_mk]
      refine ld_hasm (j := 17) hhas (cs := [.bool]) (y := (q.j.back, ())) rfl ?_
      refine (W.br_iff _ _ _ _).2 ⟨fun e => ?_, fun e => hJ _ _ ⟨rfl, rfl, e⟩⟩
      have e : q.j.back = true := e
      rw [if_pos e] at hR
      rw [← hR]; exact post_same h m1 _
    rintro _ s1 ⟨rfl, rfl, hbk⟩
    rename_i s1
    rw [if_neg (by rw [hbk]; simp)] at hR
    simp only [W.unSome_some, add_mk]
    refine h1.st (q' := ⟨(q.j.w q.j.phase (true) q.j.drain q.j.mark q.j.fin q.j.why), q.u⟩) (j := 17) hq rfl (Nat.le_of_ble_eq_true rfl) (by simp) (one1 rfl) rfl rfl hg fun s2 h2 m2 => ?_
    simp only [W.unSome_some, add_mk]
    have hq2 := setJ_at (P := P) (q' := ⟨(q.j.w q.j.phase (true) q.j.drain q.j.mark q.j.fin q.j.why), q.u⟩) hq
    refine h2.st (q' := ⟨(q.j.w (0) (true) q.j.drain q.j.mark q.j.fin q.j.why), q.u⟩) (j := 16) hq2 rfl (Nat.le_of_ble_eq_true rfl) (by simp) (one1 rfl) rfl rfl hg fun s3 h3 m3 => ?_
    simp only [W.unSome_some, add_mk]
    have hq3 := setJ_at (P := P) (q' := ⟨(q.j.w (0) (true) q.j.drain q.j.mark q.j.fin q.j.why), q.u⟩) hq2
    refine h3.st (q' := ⟨(q.j.w (0) (true) q.j.drain (⟨#[]⟩) q.j.fin q.j.why), q.u⟩) (j := 19) hq3 rfl (Nat.le_of_ble_eq_true rfl) (by simp) (one1 rfl) rfl rfl hg fun s4 h4 m4 => ?_
    simp only [W.unSome_some, add_mk]
    have hq4 := setJ_at (P := P) (q' := ⟨(q.j.w (0) (true) q.j.drain (⟨#[]⟩) q.j.fin q.j.why), q.u⟩) hq3
    refine h4.st (q' := ⟨(q.j.w (0) (true) q.j.drain (⟨#[]⟩) q.j.fin (k.c.why)), q.u⟩) (j := 21) hq4 rfl (Nat.le_of_ble_eq_true rfl) (by simp) (one1 rfl) rfl rfl hg fun s5 h5 m5 => ?_
    simp only [setJ_setJ] at h5
    rw [← hR]
    exact post_job h5 hg ((((m1.mono (by simp)).trans m2).trans m3).trans (m4.trans m5)) ⟨0, 0, 0, 0, true⟩
end
end Go.Proofs.YthepfbcgpbkbdaaGreat
end
section
set_option linter.unusedVariables false
set_option linter.unusedSimpArgs false
set_option maxHeartbeats 1000000
set_option maxRecDepth 100000
namespace Go.Proofs.YthepfbcgpbkbdaaGreat
open Fw Go
attribute [-simp] Fw.W.ld_iff Fw.W.st_iff
theorem Own.nodup {s : PH} {p : TabP} (h : Own s p) : p.L.Nodup := by
  have ty : ∀ {α : Type} {E : Enc α} {e : TypeId} {t : Tri} {xs : List α}, rowE E s e t.1 t.2.1 t.2.2 xs → ∀ g ∈ Fw.blk t.1, ∃ cur, s g = some (.cells cur e (0, 0)) := by
    intro α E e t xs hr g hg
    rcases hr.shape with ⟨h0, _⟩ | ⟨g', hg'⟩
    · rw [h0] at hg; simp [Fw.blk] at hg
    · have : g = g' := by rw [hg'] at hg; simpa [Fw.blk] using hg
      subst this
      exact hr.ty hg'
  have ne : ∀ {g : Nat} {e e' : TypeId}, (∃ cur, s g = some (.cells cur e (0, 0))) → (∃ cur, s g = some (.cells cur e' (0, 0))) → e = e' := by
    rintro g e e' ⟨c1, h1⟩ ⟨c2, h2⟩
    rw [h1] at h2; cases h2; (first | done | rfl)
  simp only [TabP.L, List.nodup_append]
  refine ⟨blk_nodup _, ⟨blk_nodup _, blk_nodup _, ?_⟩, ?_⟩
  · rintro g hg _ hg2 rfl
    exact absurd (ne (ty h.x g hg) (ty h.k g hg2)) (by decide)
  · rintro g hg _ hg2 rfl
    rcases List.mem_append.1 hg2 with hg2 | hg2
    · exact absurd (ne (ty h.c g hg) (ty h.x g hg2)) (by decide)
    · exact absurd (ne (ty h.c g hg) (ty h.k g hg2)) (by decide)
theorem nn_t {b : Bool} (h : (!!b) = true) : b = true := by cases b <;> simp_all
theorem nn_f {b : Bool} (h : (!!b) = false) : b = false := by cases b <;> simp_all
theorem filt_take {α : Type} {f : α → Bool} {l : List α} {k : Nat} {x : α} (h : l[k]? = some x) : (l.take (k + 1)).filter f = (l.take k).filter f ++ (if f x = true then [x] else []) := by
  rw [List.take_add_one, h]
  simp only [Option.toList_some, List.filter_append, List.filter_cons, List.filter_nil]
def sC (c : Col) : Bool := decide (c.state = 3)
def sX (c : Idx) : Bool := decide (c.state = 3)
def sF (c : For) : Bool := decide (c.state = 3)
def seenT (T : Tab) : Tab := { T with cols := T.cols.filter sC, idxs := T.idxs.filter sX, keys := T.keys.filter sF }
def Sch.seen (S : Sch) : Sch := { S with tabs := S.tabs.map seenT }
end Go.Proofs.YthepfbcgpbkbdaaGreat
end
section
set_option linter.unusedVariables false
set_option linter.unusedSimpArgs false
set_option maxHeartbeats 2000000
set_option maxRecDepth 100000
namespace Go.Proofs.YthepfbcgpbkbdaaGreat
open Fw Go
attribute [-simp] Fw.W.ld_iff Fw.W.st_iff
def goneB (now : Int) (m x : Lse) : Bool := !forceB x now || (decide (x.node = m.node) && decide (x.ver = m.ver))
def earlyB (below now : Int) (x : Lse) : Bool := decide (x.ver < below) && forceB x now
def IntAt (s : PH) (p : Nat) (n : Int) : Prop := s p = some (.cells #[.int .i64 n] 3 (0, 0))
def LseAt (s : PH) (p : Nat) (l : Lse) : Prop := s p = some (.cells #[.int .i64 l.node, .int .i64 l.ver, .int .i64 l.til] 86 (0, 0))
theorem IntAt.mod {M : List Nat} {s s' : PH} {p : Nat} {n : Int} (h : IntAt s p n) (hm : Fw.Mod M s s') (hp : p ∉ M) : IntAt s' p n := hm.at h hp
theorem LseAt.mod {M : List Nat} {s s' : PH} {p : Nat} {n : Lse} (h : LseAt s p n) (hm : Fw.Mod M s s') (hp : p ∉ M) : LseAt s' p n := hm.at h hp
abbrev fn2 (f : Nat) (p q : Nat) : Value := .func (.func f) #[] #[.pointer (some ⟨p, 0, none⟩), .pointer (some ⟨q, 0, none⟩)]
theorem c_grant1 {s : PH} {p q : Nat} {now : Int} {m : Lse} (hp : IntAt s p now) (hq : LseAt s q m) (x : Lse) : DCalls Tryz.prog 61 #[lseV x, cp p, cp q] s fun y s' => y = .bool (goneB now m x) ∧ s' = s := by
  refine ok_grant1 x.node x.ver x.til p q _ s ?_
  unfold vc_grant1
  unfold IntAt at hp
  unfold LseAt at hq
  simp only [RP_ld, RP_call, RP_ite, RP_ret, add_mk, Nat.zero_add]
  rw [W.ld_at hp]
  refine ⟨(now, ()), rfl, ?_⟩
  refine callq ((forceB x now, ()), ()) (c_force x now s) rfl ?_
  unfold goneB
  refine (W.br_iff _ _ _ _).2 ⟨fun e => ?_, fun e => ?_⟩
  · have e : (!forceB x now) = true := e
    rw [e]; exact ⟨rfl, rfl⟩
  · have e : (!forceB x now) = false := e
    rw [e, Bool.false_or]
    rw [W.ld_at hq]
    refine ⟨(m.node, ()), rfl, ?_⟩
    refine (W.br_iff _ _ _ _).2 ⟨fun e2 => ?_, fun e2 => ?_⟩
    · have e2 : (x.node == m.node) = true := e2
      have e2 : x.node = m.node := eq_of_beq e2
      rw [W.ld_at hq]
      refine ⟨(m.ver, ()), rfl, ?_⟩
      refine ⟨?_, rfl⟩
      rw [e2, decide_eq_true rfl, Bool.true_and]
      congr 1
    · have e2 : (x.node == m.node) = false := e2
      have e2 : x.node ≠ m.node := by simpa using e2
      rw [decide_eq_false e2, Bool.false_and]; exact ⟨rfl, rfl⟩
theorem c_clear1 {s : PH} {p q : Nat} {below now : Int} (hp : IntAt s p below) (hq : IntAt s q now) (x : Lse) : DCalls Tryz.prog 43 #[lseV x, cp p, cp q] s fun y s' => y = .bool (earlyB below now x) ∧ s' = s := by
  refine ok_clear1 x.node x.ver x.til p q _ s ?_
  unfold vc_clear1
  unfold IntAt at hp hq
  simp only [RP_ld, RP_call, RP_ite, RP_ret]
  rw [W.ld_at hp]
  refine ⟨(below, ()), rfl, ?_⟩
  unfold earlyB
  refine (W.br_iff _ _ _ _).2 ⟨fun e => ?_, fun e => ?_⟩
  · have e : decide (x.ver < below) = true := e
    rw [W.ld_at hq]
    refine ⟨(now, ()), rfl, ?_⟩
    refine callq ((forceB x now, ()), ()) (c_force x now s) rfl ?_
    rw [e, Bool.true_and]; exact ⟨rfl, rfl⟩
  · have e : decide (x.ver < below) = false := e
    rw [e, Bool.false_and]; exact ⟨rfl, rfl⟩
theorem c_IndexFuncL {s : PH} {a : Option Addr} {an ac : Nat} {xs : List Lse} (h : elems (Rd.enc lseE) s a an xs) (hn : xs.length ≤ 4294967296) {p q : Nat} {now : Int} {m : Lse} (hp : IntAt s p now) (hq : LseAt s q m) :
    DCalls Tryz.prog 71 #[.slice a an ac, fn2 61 p q] s fun y s' => y = .int .i64 (seek (goneB now m) xs 0) ∧ s' = s := by
  refine ok_IndexFuncL a an ac p q _ s ?_
  unfold vc_IndexFuncL
  have hlen := h.1
  simp only [RP_loop, RP_ite, RP_guard, RP_unSome, RP_ld, RP_call, RP_ret]
  refine ⟨fun z s' => ∃ k : Nat, z = (((an : Int), ()), ((k : Int), ()), ()) ∧ k ≤ an ∧ s' = s ∧ seek (goneB now m) (xs.drop k) k = seek (goneB now m) xs 0, fun z _ => an - z.2.1.1.toNat, ⟨0, rfl, Nat.zero_le _, rfl, rfl⟩, ?_⟩
  rintro _ s ⟨k, rfl, hk, rfl, hs⟩
  refine (W.br_iff _ _ _ _).2 ⟨fun hlt => ?_, fun hge => ?_⟩
  · have hlt : (k : Int) < (an : Int) := of_decide_eq_true hlt
    obtain ⟨x, hx⟩ : ∃ x, xs[k]? = some x := ⟨_, List.getElem?_eq_getElem (by omega)⟩
    obtain ⟨ad, rfl, hh⟩ := h.at_enc hx
    dsimp only
    refine (W.guard_iff _ _ _).2 ⟨by omega, ?_⟩
    simp only [W.unSome_some, Int.toNat_natCast]
    refine ld_has_z hh (y := (x.node, x.ver, x.til, ())) rfl ?_
    refine callq (((goneB now m) x, ()), ()) (c_grant1 hp hq x) rfl ?_
    rw [seek_step hx] at hs
    refine (W.br_iff _ _ _ _).2 ⟨fun he => ?_, fun he => ?_⟩
    · have he : (goneB now m) x = true := he
      rw [if_pos he] at hs
      rw [← hs]; exact ⟨rfl, rfl⟩
    · have he : (goneB now m) x = false := he
      rw [if_neg (by rw [he]; simp)] at hs
      rw [wrap_succ (k := k) (by omega)]
      exact ⟨⟨k + 1, rfl, by omega, rfl, hs⟩, by simp only [Int.toNat_natCast]; omega⟩
  · have hge : ¬ (k : Int) < (an : Int) := of_decide_eq_false hge
    rw [seek_end (by omega)] at hs
    rw [← hs]; exact ⟨rfl, rfl⟩
theorem c_IndexFuncE {s : PH} {a : Option Addr} {an ac : Nat} {xs : List Lse} (h : elems (Rd.enc lseE) s a an xs) (hn : xs.length ≤ 4294967296) {p q : Nat} {below now : Int} (hp : IntAt s p below) (hq : IntAt s q now) :
    DCalls Tryz.prog 71 #[.slice a an ac, fn2 43 p q] s fun y s' => y = .int .i64 (seek (earlyB below now) xs 0) ∧ s' = s := by
  refine ok_IndexFuncE a an ac p q _ s ?_
  unfold vc_IndexFuncE
  have hlen := h.1
  simp only [RP_loop, RP_ite, RP_guard, RP_unSome, RP_ld, RP_call, RP_ret]
  refine ⟨fun z s' => ∃ k : Nat, z = (((an : Int), ()), ((k : Int), ()), ()) ∧ k ≤ an ∧ s' = s ∧ seek (earlyB below now) (xs.drop k) k = seek (earlyB below now) xs 0, fun z _ => an - z.2.1.1.toNat, ⟨0, rfl, Nat.zero_le _, rfl, rfl⟩, ?_⟩
  rintro _ s ⟨k, rfl, hk, rfl, hs⟩
  refine (W.br_iff _ _ _ _).2 ⟨fun hlt => ?_, fun hge => ?_⟩
  · have hlt : (k : Int) < (an : Int) := of_decide_eq_true hlt
    obtain ⟨x, hx⟩ : ∃ x, xs[k]? = some x := ⟨_, List.getElem?_eq_getElem (by omega)⟩
    obtain ⟨ad, rfl, hh⟩ := h.at_enc hx
    dsimp only
    refine (W.guard_iff _ _ _).2 ⟨by omega, ?_⟩
    simp only [W.unSome_some, Int.toNat_natCast]
    refine ld_has_z hh (y := (x.node, x.ver, x.til, ())) rfl ?_
    refine callq (((earlyB below now) x, ()), ()) (c_clear1 hp hq x) rfl ?_
    rw [seek_step hx] at hs
    refine (W.br_iff _ _ _ _).2 ⟨fun he => ?_, fun he => ?_⟩
    · have he : (earlyB below now) x = true := he
      rw [if_pos he] at hs
      rw [← hs]; exact ⟨rfl, rfl⟩
    · have he : (earlyB below now) x = false := he
      rw [if_neg (by rw [he]; simp)] at hs
      rw [wrap_succ (k := k) (by omega)]
      exact ⟨⟨k + 1, rfl, by omega, rfl, hs⟩, by simp only [Int.toNat_natCast]; omega⟩
  · have hge : ¬ (k : Int) < (an : Int) := of_decide_eq_false hge
    rw [seek_end (by omega)] at hs
    rw [← hs]; exact ⟨rfl, rfl⟩
theorem c_ContainsL {s : PH} {a : Option Addr} {an ac : Nat} {xs : List Lse} (h : elems (Rd.enc lseE) s a an xs) (hn : xs.length ≤ 4294967296) {p q : Nat} {below now : Int} (hp : IntAt s p below) (hq : IntAt s q now) :
    DCalls Tryz.prog 42 #[.slice a an ac, fn2 43 p q] s fun y s' => y = .bool (xs.any (earlyB below now)) ∧ s' = s := by
  refine ok_ContainsL a an ac p q _ s ?_
  unfold vc_ContainsL
  simp only [RP_call, RP_ret]
  refine callq ((seek (earlyB below now) xs 0, ()), ()) (c_IndexFuncE h hn hp hq) rfl ?_
  refine ⟨?_, rfl⟩
  have e : decide (seek (earlyB below now) xs 0 ≥ 0) = decide (0 ≤ seek (earlyB below now) xs 0) := rfl
  dsimp only
  rw [e, seek_any]
theorem c_DelL {s : PH} {a : Option Addr} {n c : Nat} {xs : List Lse} (h : rowE lseE s 86 a n c xs) (hl : n ≤ 4294967296) {p q : Nat} {now : Int} {m : Lse} (hp : IntAt s p now) (hq : LseAt s q m) (hpa : p ∉ Fw.blk a) (hqa : q ∉ Fw.blk a) :
    DCalls Tryz.prog 60 #[.slice a n c, fn2 61 p q] s fun y s' =>
    ∃ m', y = .slice a m' c ∧ rowE lseE s' 86 a m' c (xs.filter fun x => !goneB now m x) ∧ Fw.Mod (Fw.blk a) s s' := by
  refine ok_DelL a n c p q _ s ?_
  unfold vc_DelL
  have hn : n = xs.length := h.len
  have hle := h.le
  obtain ⟨keep, hkeep⟩ : ∃ keep : Lse → Bool, (fun x => !goneB now m x) = keep := ⟨_, rfl⟩
  have hgk : (goneB now m) = fun x => !keep x := by funext x; rw [← hkeep]; simp
  rw [hkeep]
  simp only [RP_join, RP_ite, RP_call, RP_callQ, RP_ret, RP_nw, RP_app, RP_st, RP_ld, RP_unSome, RP_guard, RP_loop, RP_clr, W.unSome_some]
  have hidx := c_IndexFuncL (ac := c) (elems.of_row h) (by omega) hp hq
  rw [hgk] at hidx
  refine callq ((seek (fun x => !keep x) xs 0, ()), ()) hidx rfl ?_
  rcases seek_cases (fun x => !keep x) xs with ⟨h1, h2⟩ | ⟨i0, x0, h1, hx0, h3, h4⟩
  · rw [h1]
    refine (W.br_iff _ _ _ _).2 ⟨fun _ => ⟨n, rfl, ?_, Mod.refl _ _⟩, fun e => by cases e⟩
    have : xs.filter keep = xs := List.filter_eq_self.2 fun x hx => by have := h2 x hx; simpa using this
    rw [this]; exact h
  rw [h1]
  have hi0 := (List.getElem?_eq_some_iff.1 hx0).1
  refine (W.br_iff _ _ _ _).2 ⟨fun e => ?_, fun _ => ?_⟩
  · have e : ((i0 : Int) == -1) = true := e
    have : (i0 : Int) = -1 := eq_of_beq e
    omega
  dsimp only
  rw [wrap_succ (k := i0) (by omega)]
  have hbeg : (xs.take (i0 + 1)).filter keep = xs.take i0 := by
    rw [filt_take hx0]
    have h3' : keep x0 = false := by simpa using h3
    rw [h3']
    simp only [Bool.false_eq_true, if_false, List.append_nil]
    refine List.filter_eq_self.2 fun x hx => ?_
    obtain ⟨j, hj⟩ := List.mem_iff_getElem?.1 hx
    rw [List.getElem?_take] at hj
    split at hj
    · have := h4 j x ‹_› hj; simpa using this
    · cases hj
  refine ⟨fun z s' => ∃ (i j : Nat) (ys : List Lse), z = (((i : Int), ()), ((j : Int), ()), ()) ∧ i < j ∧ j ≤ n ∧ rowE lseE s' 86 a n c ys ∧ Fw.Mod (Fw.blk a) s s' ∧ ys.take i = (xs.take j).filter keep ∧ ys.drop j = xs.drop j, fun z _ => n - z.2.1.1.toNat,
    ⟨i0, i0 + 1, xs, rfl, by omega, by omega, h, Mod.refl _ _, hbeg.symm, rfl⟩, ?_⟩
  rintro _ s1 ⟨i, j, ys, rfl, hij, hjn, hrow, m1, htk, hdr⟩
  have hyl : n = ys.length := hrow.len
  simp only [W.br_iff, decide_eq_true_eq, decide_eq_false_iff_not]
  refine ⟨fun hlt => ?_, fun hge => ?_⟩
  · have hlt : j < n := by omega
    obtain ⟨x, hx⟩ : ∃ x, xs[j]? = some x := ⟨_, List.getElem?_eq_getElem (by omega)⟩
    have hy : ys[j]? = some x := by
      have e1 : (ys.drop j)[0]? = (xs.drop j)[0]? := by rw [hdr]
      simpa [List.getElem?_drop, hx] using e1
    obtain ⟨g, rfl, hh⟩ := hrow.at hy
    have hh' : s1.has ((Addr.mk g 0 none).add (j * 3)) (lseE.f x) := by rw [add_mk, Nat.zero_add]; exact hh
    refine ⟨by omega, ?_⟩
    simp only [W.unSome_some, Int.toNat_natCast]
    refine ld_has_z hh' (y := (x.node, x.ver, x.til, ())) rfl ?_
    have hcg := c_grant1 (hp.mod m1 hpa) (hq.mod m1 hqa) x
    have hgx : goneB now m x = !keep x := congrFun hgk x
    rw [hgx] at hcg
    refine callq ((!keep x, ()), ()) hcg rfl ?_
    have hst := filt_take (f := keep) hx
    have hdr' : ∀ zs : List Lse, zs.drop j = xs.drop j → zs.drop (j + 1) = xs.drop (j + 1) := fun zs e => by rw [← List.drop_drop, e, List.drop_drop]
    refine (W.br_iff _ _ _ _).2 ⟨fun hk => ?_, fun hk => ?_⟩
    · have hk : keep x = true := nn_t hk
      refine ⟨by omega, ?_⟩
      simp only [W.unSome_some, Int.toNat_natCast, add_mk, Nat.zero_add]
      obtain ⟨y, hyi⟩ : ∃ y, ys[i]? = some y := ⟨_, List.getElem?_eq_getElem (by omega)⟩
      refine rowE.st (E := lseE) (i := i) (j := 0) (x' := x) (vs := lseE.f x) hrow hyi rfl (by rw [lseE.len]; exact Nat.le_refl _) (by simp [lseE]) (lseE.one x) rfl fun s2 h2 m2 => ?_
      rw [wrap_succ (k := i) (by omega), wrap_succ (k := j) (by omega)]
      refine ⟨⟨i + 1, j + 1, ys.set i x, rfl, by omega, hlt, h2, m1.trans (m2.mono fun z hz => by simpa [Fw.blk] using hz), ?_, ?_⟩, by simp only [Int.toNat_natCast]; omega⟩
      · rw [hst, hk, if_pos rfl, ← htk, List.take_add_one, List.getElem?_set_self (by omega), List.take_set_of_le (Nat.le_refl _)]; (first | done | rfl)
      · rw [List.drop_set_of_lt (by omega)]; exact hdr' ys hdr
    · have hk : keep x = false := nn_f hk
      rw [wrap_succ (k := j) (by omega)]
      refine ⟨⟨i, j + 1, ys, rfl, by omega, hlt, hrow, m1, ?_, hdr' ys hdr⟩, by simp only [Int.toNat_natCast]; omega⟩
      rw [hst, hk]
      simpa using htk
  · have hje : j = n := by omega
    subst hje
    have hall : xs.take j = xs := List.take_of_length_le (by omega)
    rw [hall] at htk
    have hpre : rowE lseE s1 86 a i c (ys.take i) := by
      have := hrow.shrink (m := i) (c' := c) (by omega) (by omega) (Nat.le_refl _)
      have e : (if a = none then none else a) = a := by cases a <;> simp
      rwa [e] at this
    rw [htk] at hpre
    refine ⟨by omega, ?_⟩
    simp only [Int.toNat_natCast]
    refine clr_tail hpre rfl (by simp [Value.oneCell']) (by omega) fun s2 h2 m2 => ?_
    refine ⟨by omega, ?_⟩
    have he : (if c = 0 then a else Option.map (fun x => x.add 0) a) = a := by split <;> simp [map_add0]
    refine ⟨i, ?_, h2, m1.trans m2⟩
    simp only [he, Nat.sub_zero, Int.toNat_natCast]
section
variable {s : PH} {b : Nat} {P : Pl} {t la ja : Tri} {ps : List TabP} {qs : List JbP}
theorem c_Clear (h : Brd s b P t la ja ps qs) (hn : P.L.length ≤ 1000000) (now below : Int) :
    DCalls Tryz.prog 16 #[cp b, .int .i64 now, .int .i64 below] s fun y s' => y = .bool (clearB P now below) ∧ s' = s := by
  refine DCalls.quiet ?_
  refine ok_Clear b now below _ s ?_
  unfold vc_Clear
  simp only [RP_nw, RP_ite, RP_unSome, RP_ld, RP_call, RP_ret, Option.isNone_some, W.br_false]
  refine W.nw_of fun r0 s1 hr0 m1 k0 => ?_
  refine W.nw_of fun r1 s2 hr1 m2 k1 => ?_
  have h2 := h.mod (m1.trans m2)
  refine (W.br_iff _ _ _ _).2 ⟨fun e => (by cases e), fun _ => ?_⟩
  simp only [W.unSome_some, add_mk, Nat.zero_add]
  rw [W.ld_at h2.blk]
  refine ⟨(la, ()), rfl, ?_⟩
  refine W.call_of (c_ContainsL (ac := la.2.2) (elems.of_row h2.lrow) (by omega) (p := r1) (q := r0) (below := below) (now := now) k1 (m2.at k0 (by simp))) ?_
  rintro _ _ ⟨rfl, rfl⟩
  refine ⟨((P.L.any (earlyB below now), ()), ()), rfl, ?_⟩
  exact ⟨rfl, m1.trans m2⟩
end
end Go.Proofs.YthepfbcgpbkbdaaGreat
end
