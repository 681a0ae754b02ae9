/-
  Schemas: the moves of a change; the law SchemaPaths.
  Conditions: none; it proves no statement by itself.
-/
import Derived.Test.YthepfbcgpbkbdaaM20
set_option linter.unusedVariables false
set_option linter.unusedSimpArgs false
set_option maxHeartbeats 1000000
set_option maxRecDepth 100000
namespace Go.Proofs.Ythepfbcgpbkbdaa
open Fw Go
attribute [-simp] Fw.W.ld_iff Fw.W.st_iff

def movE : Enc (Int × Int) where
  sz := 2
  f m := [.int .i64 m.1, .int .i64 m.2]
  len _ := rfl
  one p v hv := by simp at hv; rcases hv with rfl | rfl <;> rfl
  pos := by omega
def pairs : List Int → List (Int × Int)
  | x :: y :: l => (x, y) :: pairs l
  | _ => []
theorem pairs_app : ∀ (l : List Int) (x y : Int), l.length % 2 = 0 → pairs (l ++ [x, y]) = pairs l ++ [(x, y)]
  | [], x, y, _ => rfl
  | [a], x, y, h => by simp at h
  | a :: b :: l, x, y, h => by
    have := pairs_app l x y (by simp only [List.length_cons] at h; omega)
    simp only [List.cons_append, pairs, this]
theorem row_lit {α : Type} {E : Enc α} {s : PH} {r n : Nat} {cur : Array Value} {e : TypeId} {xs : List α} (h : s r = some (.cells cur e (0, 0))) (hc : cur.toList = xs.flatMap E.f) (hn : xs.length = n) (hl : n ≤ 1000) : rowE E s e (some ⟨r, 0, none⟩) n n xs := by
  have hmax : maxLen = 9223372036854775807 := rfl
  have hlen := flat_len (E := E) xs
  rw [hn] at hlen
  have hsz : cur.size = n * E.sz := by rw [← Array.length_toList, hc, hlen]
  exact ⟨hlen, Nat.le_refl _, by omega, .inr ⟨r, cur, rfl, h, by omega, by rw [hc, ← hlen, List.take_length]⟩⟩
theorem pairs_len : ∀ (l : List Int), (pairs l).length ≤ l.length
  | [] => by simp [pairs]
  | [a] => by simp [pairs]
  | a :: b :: l => by have := pairs_len l; simp only [pairs, List.length_cons]; omega
theorem c_rMoves {s : PH} {a : Option Addr} {an ac : Nat} {l : List Int} (h : elems (Rd.enc intE) s a an l) (hl : l.length ≤ 100) (he : l.length % 2 = 0) :
    DCalls Try.prog 64 #[.slice a an ac] s fun y s' => ∃ u : Tri, y = u.v ∧ rowE movE s' 56 u.1 u.2.1 u.2.2 (pairs l) ∧ Fw.Mod [] s s' := by
  refine ok_rMoves a an ac _ s ?_
  unfold vc_rMoves
  have hlen := h.1
  simp only [RP_join, RP_ite, RP_call, RP_callQ, RP_ret, RP_nw, RP_app, RP_st, RP_ld, RP_unSome, RP_guard, RP_loop, W.unSome_some]
  refine ⟨fun z s' => ∃ (k n c : Nat) (b : Option Addr), z = (((b, n, c), ()), (((2 * k : Nat) : Int), ()), ()) ∧ 2 * k ≤ an ∧ rowE movE s' 56 b n c (pairs (l.take (2 * k))) ∧ (∀ g ∈ Fw.blk b, s g = none) ∧ Fw.Mod [] s s', fun z _ => an - z.2.1.1.toNat, ⟨0, 0, 0, none, rfl, Nat.zero_le _, rowE.nil, by simp [Fw.blk], Mod.refl _ _⟩, ?_⟩
  rintro _ s1 ⟨k, n, c, b, rfl, hk, hrow, hf, m1⟩
  have hw1 : IntKind.i64.wrap (((2 * k : Nat) : Int) + 1) = ((2 * k + 1 : Nat) : Int) := by rw [wrap_in (by omega) (by omega)]; omega
  have hw2 : IntKind.i64.wrap (((2 * k : Nat) : Int) + 2) = ((2 * (k + 1) : Nat) : Int) := by rw [wrap_in (by omega) (by omega)]; omega
  dsimp only
  rw [hw1, hw2]
  simp only [W.br_iff, decide_eq_true_eq, decide_eq_false_iff_not]
  refine ⟨fun hlt => ?_, fun hge => ?_⟩
  · have hlt : 2 * k + 1 < an := by omega
    obtain ⟨x, hx⟩ : ∃ x, l[2 * k]? = some x := ⟨_, List.getElem?_eq_getElem (by omega)⟩
    obtain ⟨y, hy⟩ : ∃ y, l[2 * k + 1]? = some y := ⟨_, List.getElem?_eq_getElem (by omega)⟩
    have h1 := h.mono m1.le
    obtain ⟨ad, had, hh⟩ := h1.at_enc hx
    obtain ⟨ad', had', hh'⟩ := h1.at_enc hy
    subst had
    cases had'
    refine ⟨by omega, ?_⟩
    simp only [W.unSome_some, Int.toNat_natCast]
    refine ld_has_z hh (cs := [.int .i64]) (y := (x, ())) rfl ?_
    refine ⟨by omega, ?_⟩
    simp only [W.unSome_some, Int.toNat_natCast]
    refine ld_has_z hh' (cs := [.int .i64]) (y := (y, ())) rfl ?_
    have htk : l.take (2 * (k + 1)) = l.take (2 * k) ++ [x, y] := by
      rw [show 2 * (k + 1) = 2 * k + 1 + 1 by omega, List.take_add_one, hy, List.take_add_one, hx]; simp
    have hp : pairs (l.take (2 * (k + 1))) = pairs (l.take (2 * k)) ++ [(x, y)] := by
      rw [htk, pairs_app _ _ _ (by rw [List.length_take]; omega)]
    have hpl := pairs_len (l.take (2 * k))
    rw [List.length_take] at hpl
    refine grow (E := movE) (x := (x, y)) hrow hf m1 rfl (by omega) (by omega) ?_
    intro a' c' s2 h2 f2 m2
    exact ⟨⟨k + 1, n + 1, c', a', rfl, by omega, by rw [hp]; exact h2, f2, m2⟩, by omega⟩
  · have hall : l.take (2 * k) = l := List.take_of_length_le (by omega)
    rw [hall] at hrow
    exact ⟨(b, n, c), rfl, hrow, m1⟩
def pathL (kind : Int) (back : Bool) : List Int :=
  if back = true then (if kind = 2 then [1, 1, 3, 0, 5, 0, 1, 0] else if kind = 4 then [1, 1, 1, 0] else if kind = 6 then [1, 0] else [])
  else if kind = 1 then [1, 3] else if kind = 2 then [1, 1, 1, 2, 3, 0, 4, 0, 1, 3] else if kind = 3 then [1, 2, 1, 1, 3, 0, 5, 0, 1, 0] else if kind = 4 then [1, 1, 1, 2, 3, 0, 4, 0, 2, 3]
  else if kind = 5 then [2, 2, 1, 1, 1, 0] else if kind = 6 then [1, 2, 3, 0, 4, 0, 1, 3] else if kind = 7 then [1, 0] else []
def PathIs (s : PH) (kind : Int) (back : Bool) (y : Value) (s' : PH) : Prop := ∃ u : Tri, y = u.v ∧ rowE movE s' 56 u.1 u.2.1 u.2.2 (pairs (pathL kind back)) ∧ Fw.Mod [] s s'
theorem path_lit {s s1 : PH} {l : List Int} {R : Value → PH → Prop} (m : Fw.Mod [] s s1) (hl : l.length ≤ 100) (he : l.length % 2 = 0) (hR : ∀ (u : Tri) s', rowE movE s' 56 u.1 u.2.1 u.2.2 (pairs l) → Fw.Mod [] s s' → R u.v s') :
    W.nw (.cells (l.map (Value.int .i64)).toArray 3 (0, 0)) (fun r => W.call Try.prog 64 #[.slice (some ⟨r, 0, none⟩) l.length l.length] (false, [(false, [.slice])]) fun x => W.ret R (.slice x.1.1.1 x.1.1.2.1 x.1.1.2.2)) s1 := by
  refine W.nw_of fun r s2 hr m2 k2 => ?_
  refine W.call_of (c_rMoves (nums_lit (l := l) k2) hl he) ?_
  rintro _ s3 ⟨u, rfl, hrow, m3⟩
  exact ⟨((u, ()), ()), rfl, hR u s3 hrow ((m.trans m2).trans m3)⟩
theorem c_rPath (kind : Int) (back : Bool) (s : PH) : DCalls Try.prog 24 #[.int .i64 kind, .bool back] s (PathIs s kind back) := by
  refine ok_rPath kind back _ s ?_
  unfold vc_rPath
  simp only [RP_join, RP_ite, RP_call, RP_callQ, RP_ret, RP_nw, RP_app, RP_st, RP_ld, RP_unSome, RP_guard, RP_loop, W.unSome_some, W.br_iff]
  have go : ∀ (l : List Int), l.length ≤ 100 → l.length % 2 = 0 → pathL kind back = l → W.nw (.cells (l.map (Value.int .i64)).toArray 3 (0, 0)) (fun r => W.call Try.prog 64 #[.slice (some ⟨r, 0, none⟩) l.length l.length] (false, [(false, [.slice])]) fun x => W.ret (PathIs s kind back) (.slice x.1.1.1 x.1.1.2.1 x.1.1.2.2)) s :=
    fun l h1 h2 h3 => path_lit (Mod.refl _ _) h1 h2 fun u s' hr hm => ⟨u, rfl, by rw [h3]; exact hr, hm⟩
  have none_ : pathL kind back = [] → PathIs s kind back (.slice none 0 0) s := fun h => ⟨noTri, rfl, by rw [h]; exact rowE.nil, Mod.refl _ _⟩
  refine ⟨fun hb => ⟨fun h2 => ?_, fun h2 => ⟨fun h4 => ?_, fun h4 => ⟨fun h6 => ?_, fun h6 => ?_⟩⟩⟩, fun hb => ⟨fun h1 => ?_, fun h1 => ⟨fun h2 => ?_, fun h2 => ⟨fun h3 => ?_, fun h3 => ⟨fun h4 => ?_, fun h4 => ⟨fun h5 => ?_, fun h5 => ⟨fun h6 => ?_, fun h6 => ⟨fun h7 => ?_, fun h7 => ?_⟩⟩⟩⟩⟩⟩⟩⟩
  · exact go [1, 1, 3, 0, 5, 0, 1, 0] (by decide) (by decide) (by simp_all [pathL])
  · exact go [1, 1, 1, 0] (by decide) (by decide) (by simp_all [pathL])
  · exact go [1, 0] (by decide) (by decide) (by simp_all [pathL])
  · exact none_ (by simp_all [pathL])
  · exact go [1, 3] (by decide) (by decide) (by simp_all [pathL])
  · exact go [1, 1, 1, 2, 3, 0, 4, 0, 1, 3] (by decide) (by decide) (by simp_all [pathL])
  · exact go [1, 2, 1, 1, 3, 0, 5, 0, 1, 0] (by decide) (by decide) (by simp_all [pathL])
  · exact go [1, 1, 1, 2, 3, 0, 4, 0, 2, 3] (by decide) (by decide) (by simp_all [pathL])
  · exact go [2, 2, 1, 1, 1, 0] (by decide) (by decide) (by simp_all [pathL])
  · exact go [1, 2, 3, 0, 4, 0, 1, 3] (by decide) (by decide) (by simp_all [pathL])
  · exact go [1, 0] (by decide) (by decide) (by simp_all [pathL])
  · exact none_ (by simp_all [pathL])
theorem c_bump (state : Int) (s : PH) : DCalls Try.prog 63 #[.int .i64 state] s fun y s' => y = .agg #[.int .i64 1, .int .i64 state] ∧ s' = s := by
  refine ok_bump state _ s ?_
  unfold vc_bump
  simp
theorem bump_V {s : PH} {n : Int} {k : MDen [(true, [.int .i64, .int .i64])] → W.T} (hk : k ((1, n, ()), ()) s) : W.callV Try.prog (.func (.func 63) #[] #[]) #[.int .i64 n] (false, [(true, [.int .i64, .int .i64])]) k s := by
  refine callV_of' (cap := #[]) Try.func63 rfl (by kernel_rfl) (c_bump n s) ?_
  rintro _ s' ⟨rfl, rfl⟩
  exact ⟨((1, n, ()), ()), rfl, hk⟩
theorem c_Path (D : Ddl) (u : Tri) (back : Bool) (s : PH) : DCalls Try.prog 23 #[ddlV D u, .bool back] s (PathIs s D.kind back) := by
  obtain ⟨ua, un, uc⟩ := u
  refine ok_Path D.kind D.table D.name D.column D.parent D.unique D.type D.dflt.kind D.dflt.n D.dflt.s ua un uc back _ s ?_
  unfold vc_Path
  obtain ⟨kind, hkind⟩ : ∃ k, D.kind = k := ⟨_, rfl⟩
  rw [hkind]
  simp only [RP_join, RP_ite, RP_call, RP_callQ, RP_callV, RP_ret, RP_nw, RP_app, RP_st, RP_ld, RP_unSome, RP_guard, RP_loop, W.unSome_some]
  have go : ∀ (l : List (Int × Int)) (cur : Array Value) (n : Nat), cur.toList = l.flatMap movE.f → l.length = n → n ≤ 1000 → pairs (pathL kind back) = l → W.nw (.cells cur 56 (0, 0)) (fun r => W.ret (PathIs s kind back) (.slice (some ⟨r, 0, none⟩) n n)) s :=
    fun l cur n h1 h2 h3 h4 => W.nw_of fun r s1 hr m1 k1 => ⟨(some ⟨r, 0, none⟩, n, n), rfl, by rw [h4]; exact row_lit k1 h1 h2 h3, m1⟩
  have none_ : pathL kind back = [] → PathIs s kind back (.slice none 0 0) s := fun h => ⟨noTri, rfl, by rw [h]; exact rowE.nil, Mod.refl _ _⟩
  refine W.join_gen (fun z s' => z = ((kind, D.table, D.name, D.column, D.parent, D.unique, D.type, D.dflt.kind, D.dflt.n, D.dflt.s, (ua, un, uc), ()), (.func (.func 63) #[] #[], ()), (3, 0, ()), (4, 0, ()), (5, 0, ()), ()) ∧ s' = s ∧ back = false) ?_ ?_
  rotate_left
  · intro J hJ
    refine W.join_gen (fun z s' => z = ((kind, D.table, D.name, D.column, D.parent, D.unique, D.type, D.dflt.kind, D.dflt.n, D.dflt.s, (ua, un, uc), ()), (.func (.func 63) #[] #[], ()), (3, 0, ()), (4, 0, ()), (5, 0, ()), (back && decide (kind = 2), ()), ()) ∧ s' = s) ?_ ?_
    rotate_left
    · intro J1 hJ1
      refine (W.br_iff _ _ _ _).2 ⟨fun hb => hJ1 _ _ ⟨by rw [hb, beq_dec]; rfl, rfl⟩, fun hb => hJ1 _ _ ⟨by rw [hb]; rfl, rfl⟩⟩
    rintro _ s0 ⟨rfl, rfl⟩
    refine (W.br_iff _ _ _ _).2 ⟨fun h2 => ?_, fun h2 => ?_⟩
    · have h2 : (back && decide (kind = 2)) = true := h2
      simp only [Bool.and_eq_true, decide_eq_true_eq] at h2
      refine bump_V (bump_V ?_)
      exact go [(1, 1), (3, 0), (5, 0), (1, 0)] _ 4 rfl rfl (by omega) (by rw [h2.1, h2.2]; rfl)
    have h2 : ¬ (back = true ∧ kind = 2) := by
      have h2 : (back && decide (kind = 2)) = false := h2
      intro e; rw [e.1, e.2] at h2; cases h2
    refine W.join_gen (fun z s' => z = ((kind, D.table, D.name, D.column, D.parent, D.unique, D.type, D.dflt.kind, D.dflt.n, D.dflt.s, (ua, un, uc), ()), (.func (.func 63) #[] #[], ()), (3, 0, ()), (4, 0, ()), (5, 0, ()), (back && decide (kind = 4), ()), ()) ∧ s' = s0) ?_ ?_
    rotate_left
    · intro J1 hJ1
      refine (W.br_iff _ _ _ _).2 ⟨fun hb => hJ1 _ _ ⟨by rw [hb, beq_dec]; rfl, rfl⟩, fun hb => hJ1 _ _ ⟨by rw [hb]; rfl, rfl⟩⟩
    rintro _ s1 ⟨rfl, rfl⟩
    refine (W.br_iff _ _ _ _).2 ⟨fun h4 => ?_, fun h4 => ?_⟩
    · have h4 : (back && decide (kind = 4)) = true := h4
      simp only [Bool.and_eq_true, decide_eq_true_eq] at h4
      refine bump_V (bump_V ?_)
      exact go [(1, 1), (1, 0)] _ 2 rfl rfl (by omega) (by rw [h4.1, h4.2]; rfl)
    have h4 : ¬ (back = true ∧ kind = 4) := by
      have h4 : (back && decide (kind = 4)) = false := h4
      intro e; rw [e.1, e.2] at h4; cases h4
    refine (W.br_iff _ _ _ _).2 ⟨fun hb => ?_, fun hb => ?_⟩
    · refine (W.br_iff _ _ _ _).2 ⟨fun h6 => ?_, fun h6 => ?_⟩
      · have h6 : kind = 6 := by simpa using h6
        refine bump_V ?_
        exact go [(1, 0)] _ 1 rfl rfl (by omega) (by rw [hb, h6]; rfl)
      · have h6 : kind ≠ 6 := by simpa using h6
        refine (W.br_iff _ _ _ _).2 ⟨fun _ => none_ ?_, fun e => by rw [hb] at e; cases e⟩
        unfold pathL
        rw [if_pos hb, if_neg (fun e => h2 ⟨hb, e⟩), if_neg (fun e => h4 ⟨hb, e⟩), if_neg h6]
    · refine (W.br_iff _ _ _ _).2 ⟨fun e => (by rw [hb] at e; cases e), fun _ => hJ _ _ ⟨rfl, rfl, hb⟩⟩
  rintro _ s0 ⟨rfl, rfl, hb⟩
  simp only [W.br_iff]
  refine ⟨fun h1 => ?_, fun h1 => ⟨fun h2 => ?_, fun h2 => ⟨fun h3 => ?_, fun h3 => ⟨fun h4 => ?_, fun h4 => ⟨fun h5 => ?_, fun h5 => ⟨fun h6 => ?_, fun h6 => ⟨fun h7 => ?_, fun h7 => ?_⟩⟩⟩⟩⟩⟩⟩
  · exact bump_V (go [(1, 3)] _ 1 rfl rfl (by omega) (by have h1 : kind = 1 := by simpa using h1
                                                         rw [hb, h1]; rfl))
  · exact bump_V (bump_V (bump_V (go [(1, 1), (1, 2), (3, 0), (4, 0), (1, 3)] _ 5 rfl rfl (by omega) (by have h2 : kind = 2 := by simpa using h2
                                                                                                         rw [hb, h2]; rfl))))
  · exact bump_V (bump_V (bump_V (go [(1, 2), (1, 1), (3, 0), (5, 0), (1, 0)] _ 5 rfl rfl (by omega) (by have h2 : kind = 3 := by simpa using h3
                                                                                                         rw [hb, h2]; rfl))))
  · exact bump_V (bump_V (go [(1, 1), (1, 2), (3, 0), (4, 0), (2, 3)] _ 5 rfl rfl (by omega) (by have h2 : kind = 4 := by simpa using h4
                                                                                                 rw [hb, h2]; rfl)))
  · exact bump_V (bump_V (go [(2, 2), (1, 1), (1, 0)] _ 3 rfl rfl (by omega) (by have h2 : kind = 5 := by simpa using h5
                                                                                 rw [hb, h2]; rfl)))
  · exact bump_V (bump_V (go [(1, 2), (3, 0), (4, 0), (1, 3)] _ 4 rfl rfl (by omega) (by have h2 : kind = 6 := by simpa using h6
                                                                                         rw [hb, h2]; rfl)))
  · exact bump_V (go [(1, 0)] _ 1 rfl rfl (by omega) (by have h2 : kind = 7 := by simpa using h7
                                                         rw [hb, h2]; rfl))
  · refine none_ ?_
    simp at h1 h2 h3 h4 h5 h6 h7
    unfold pathL
    rw [if_neg (by rw [hb]; simp), if_neg h1, if_neg h2, if_neg h3, if_neg h4, if_neg h5, if_neg h6, if_neg h7]
theorem law_SchemaPaths (D : Ddl) (u : Tri) (back : Bool) (s : PH) : DCalls Try.prog 6 #[ddlV D u, .bool back] s fun y s' => y = .bool true ∧ Fw.Mod [] s s' := by
  obtain ⟨ua, un, uc⟩ := u
  refine ok_SchemaPaths D.kind D.table D.name D.column D.parent D.unique D.type D.dflt.kind D.dflt.n D.dflt.s ua un uc back _ s ?_
  unfold vc_SchemaPaths
  simp only [RP_join, RP_ite, RP_call, RP_callQ, RP_callV, RP_ret, RP_nw, RP_app, RP_st, RP_ld, RP_unSome, RP_guard, RP_loop, W.unSome_some]
  refine W.call_of (c_Path D (ua, un, uc) back s) ?_
  rintro _ s1 ⟨⟨a1, n1, c1⟩, rfl, r1, m1⟩
  refine ⟨(((a1, n1, c1), ()), ()), rfl, ?_⟩
  refine W.call_of (c_rPath D.kind back s1) ?_
  rintro _ s2 ⟨⟨a2, n2, c2⟩, rfl, r2, m2⟩
  refine ⟨(((a2, n2, c2), ()), ()), rfl, ?_⟩
  have hpl : (pathL D.kind back).length ≤ 10 := by
    unfold pathL
    repeat' split
    all_goals decide
  have hpl2 := pairs_len (pathL D.kind back)
  generalize pairs (pathL D.kind back) = l at r1 r2 hpl2
  have r1' := elems.of_row (r1.mod m2 (by simp))
  have r2' := elems.of_row r2
  have e1 : n1 = l.length := r1.len
  have e2 : n2 = l.length := r2.len
  have hmx := r1.max
  have hlx := r1.le
  have hmax : maxLen = 9223372036854775807 := rfl
  refine W.join_gen (fun z s' => z = (((a1, n1, c1), ()), ((a2, n2, c2), ()), ()) ∧ s' = s2) ?_ ?_
  rotate_left
  · intro J hJ
    refine callq ((true, ()), ()) (c_awake _) rfl ?_
    refine (W.br_iff _ _ _ _).2 ⟨fun e => (by cases e), fun _ => ?_⟩
    refine (W.br_iff _ _ _ _).2 ⟨fun e => ?_, fun _ => hJ _ _ ⟨rfl, rfl⟩⟩
    have e : (((n1 : Nat) : Int) != ((n2 : Nat) : Int)) = true := e
    rw [e1, e2] at e
    simp at e
  rintro _ s3 ⟨rfl, rfl⟩
  refine ⟨fun z s' => ∃ k : Nat, z = (((a1, n1, c1), ()), ((a2, n2, c2), ()), ((n1 : Int), ()), ((k : Int), ()), ()) ∧ k ≤ n1 ∧ s' = s3, fun z _ => n1 - z.2.2.2.1.1.toNat, ⟨0, rfl, Nat.zero_le _, rfl⟩, ?_⟩
  rintro _ s4 ⟨k, rfl, hk, rfl⟩
  simp only [W.br_iff, decide_eq_true_eq, decide_eq_false_iff_not]
  refine ⟨fun hlt => ?_, fun hge => ⟨rfl, m1.trans m2⟩⟩
  have hlt : k < n1 := by omega
  obtain ⟨x, hx⟩ : ∃ x, l[k]? = some x := ⟨_, List.getElem?_eq_getElem (by omega)⟩
  obtain ⟨ad, had, hh⟩ := r1'.at_enc hx
  obtain ⟨ad', had', hh'⟩ := r2'.at_enc hx
  subst had had'
  refine ⟨by omega, ?_⟩
  simp only [W.unSome_some, Int.toNat_natCast]
  refine ld_has_z hh (cs := [.int .i64, .int .i64]) (y := (x.1, x.2, ())) rfl ?_
  refine ⟨by omega, ?_⟩
  simp only [W.unSome_some, Int.toNat_natCast]
  refine ld_has_z hh' (cs := [.int .i64, .int .i64]) (y := (x.1, x.2, ())) rfl ?_
  refine (W.br_iff _ _ _ _).2 ⟨fun e => ?_, fun _ => ?_⟩
  · have e : (!(x.1 == x.1 && (x.2 == x.2 && true))) = true := e
    simp at e
  rw [wrap_succ (k := k) (by omega)]
  exact ⟨⟨k + 1, rfl, hlt, rfl⟩, by simp only [Int.toNat_natCast]; omega⟩
theorem c_SchemaPaths {s : PH} {ds : Array Value} {D : Ddl} (k : rdDdl.is s ds.toList D) (back : Bool) : DCalls Try.prog 6 #[.agg ds, .bool back] s fun y s' => y = .bool true ∧ Fw.Mod [] s s' := by
  obtain ⟨u, e2, hU⟩ := rdDdl_is k
  rw [agg_arr e2]
  exact law_SchemaPaths D u back s
end Go.Proofs.Ythepfbcgpbkbdaa
