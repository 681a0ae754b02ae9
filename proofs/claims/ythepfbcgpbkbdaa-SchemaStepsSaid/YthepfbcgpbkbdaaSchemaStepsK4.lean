/-
  Part 4 for the law: texts of this session's own, those parts that the claim needs, one behind the other.
  Conditions: none; it proves no statement by itself.
-/
import Derived.Test.YthepfbcgpbkbdaaSchemaStepsK3
set_option linter.unusedVariables false
set_option linter.unusedSectionVars false
set_option linter.unusedSimpArgs false
section
set_option linter.unusedVariables false
set_option linter.unusedSimpArgs false
set_option maxHeartbeats 1000000
set_option maxRecDepth 100000
namespace Go.Proofs.Ythepfbcgpbkbdaa
open Fw Go
attribute [-simp] Fw.W.ld_iff Fw.W.st_iff
def pubAt (T : Tab) (name : ByteArray) : Int := if 0 ≤ colAt T name then (match T.cols[(colAt T name).toNat]? with | some c => if c.state = 3 then colAt T name else -1 | none => -1) else -1
def dbl (cols : List Col) : Bool := !(upTo (condI (fun i (c : Col) => decide (seek (fun y : Col => decide (y.name = c.name)) cols 0 = i)) cols) cols.length)
def mkCols : Int → List Col → List Col
  | _, [] => []
  | n, c :: cs => ⟨n, c.name, c.kind, 3, ⟨0, 0, ⟨#[]⟩⟩⟩ :: mkCols (n + 1) cs
theorem mkCols_len : ∀ (l : List Col) (n : Int), (mkCols n l).length = l.length
  | [], n => rfl
  | c :: l, n => by simp [mkCols, mkCols_len l]
theorem mkCols_snoc : ∀ (l : List Col) (n : Int) (c : Col), mkCols n (l ++ [c]) = mkCols n l ++ [⟨n + l.length, c.name, c.kind, 3, ⟨0, 0, ⟨#[]⟩⟩⟩]
  | [], n, c => by simp [mkCols]
  | d :: l, n, c => by simp [mkCols, mkCols_snoc l]; omega
abbrev Res := Except Int Sch
def createTurn (S : Sch) (D : Ddl) (st : Int) : Res :=
  if (named D.table && D.cols.all fun c => named c.name) = false then .error 100
  else if (decide (0 ≤ tabAt S D.table) || dbl D.cols) = true then .error 152
  else if (decide (6 ≤ S.tabs.length) || (decide (D.cols.length < 1) || decide (8 < D.cols.length))) = true then .error 156
  else if (D.cols.all fun c => typed c.kind) = false then .error 154
  else if st ≠ 3 then .error 1
  else .ok ⟨S.version, S.last + 1 + D.cols.length, S.tabs ++ [⟨S.last + 1, D.table, mkCols (S.last + 2) D.cols, [], []⟩]⟩
def placed {α : Type} (l : List α) (k : Nat) (st : Int) (x' : α) : List α := if st = 0 then l.eraseIdx k else l.set k x'
def used (T : Tab) (k : Int) (x : Col) : Bool := decide (k = 0) || (T.idxs.any (fun y => decide (y.column = x.id)) || T.keys.any (fun y => decide (y.column = x.id)))
def Col.put (c : Col) (st : Int) : Col := { c with state := st }
def Idx.put (c : Idx) (st : Int) : Idx := { c with state := st }
def For.put (c : For) (st : Int) : For := { c with state := st }
def colTurn (S : Sch) (i : Nat) (T : Tab) (D : Ddl) (st : Int) : Res :=
  if D.kind = 4 ∧ colAt T D.column < 0 then
    if freshE D.column T.cols.length ≠ 0 then .error (freshE D.column T.cols.length)
    else if (typed D.type && fits D.dflt D.type) = false then .error 154
    else if st = 0 then .error 1
    else .ok ⟨S.version, S.last + 1, S.tabs.set i { T with cols := T.cols ++ [⟨S.last + 1, D.column, D.type, st, D.dflt⟩] }⟩
  else if colAt T D.column < 0 then .error 151
  else match T.cols[(colAt T D.column).toNat]? with
  | none => .error 151
  | some x => if D.kind = 4 ∧ x.state = 3 then .error 152
    else if D.kind = 5 ∧ used T (colAt T D.column) x = true then .error 155
    else .ok ⟨S.version, S.last, S.tabs.set i { T with cols := placed T.cols (colAt T D.column).toNat st (x.put st) }⟩
def idxTurn (S : Sch) (i : Nat) (T : Tab) (D : Ddl) (st : Int) : Res :=
  if D.kind = 2 ∧ idxAt T D.name < 0 then
    if freshE D.name T.idxs.length ≠ 0 then .error (freshE D.name T.idxs.length)
    else if pubAt T D.column < 0 then .error 151
    else if st = 0 then .error 1
    else match T.cols[(pubAt T D.column).toNat]? with
    | none => .error 151
    | some c => .ok ⟨S.version, S.last + 1, S.tabs.set i { T with idxs := T.idxs ++ [⟨S.last + 1, D.name, c.id, D.unique, st⟩] }⟩
  else if idxAt T D.name < 0 then .error 153
  else match T.idxs[(idxAt T D.name).toNat]? with
  | none => .error 153
  | some x => if D.kind = 2 ∧ x.state = 3 then .error 152
    else .ok ⟨S.version, S.last, S.tabs.set i { T with idxs := placed T.idxs (idxAt T D.name).toNat st (x.put st) }⟩
def keyTurn (S : Sch) (i : Nat) (T : Tab) (D : Ddl) (st : Int) : Res :=
  if D.kind = 6 ∧ keyAt T D.name < 0 then
    if freshE D.name T.keys.length ≠ 0 then .error (freshE D.name T.keys.length)
    else if pubAt T D.column < 0 then .error 151
    else if tabAt S D.parent < 0 then .error 150
    else match T.cols[(pubAt T D.column).toNat]?, S.tabs[(tabAt S D.parent).toNat]? with
    | some c, some P => (match P.cols with
      | [] => .error 154
      | c0 :: _ => if c.kind ≠ c0.kind then .error 154
        else if st = 0 then .error 1
        else .ok ⟨S.version, S.last + 1, S.tabs.set i { T with keys := T.keys ++ [⟨S.last + 1, D.name, c.id, P.id, st⟩] }⟩)
    | _, _ => .error 151
  else if keyAt T D.name < 0 then .error 153
  else match T.keys[(keyAt T D.name).toNat]? with
  | none => .error 153
  | some x => if D.kind = 6 ∧ x.state = 3 then .error 152
    else .ok ⟨S.version, S.last, S.tabs.set i { T with keys := placed T.keys (keyAt T D.name).toNat st (x.put st) }⟩
def turn1 (S : Sch) (D : Ddl) (st : Int) : Res :=
  if D.kind = 1 then createTurn S D st
  else if tabAt S D.table < 0 then .error 150
  else match S.tabs[(tabAt S D.table).toNat]? with
  | none => .error 150
  | some T => if D.kind = 4 ∨ D.kind = 5 then colTurn S (tabAt S D.table).toNat T D st
    else if D.kind = 2 ∨ D.kind = 3 then idxTurn S (tabAt S D.table).toNat T D st
    else keyTurn S (tabAt S D.table).toNat T D st
abbrev noSch : Sch := ⟨0, 0, []⟩
def Sch.turn (S : Sch) (D : Ddl) (st : Int) : Sch × Int :=
  if (right S && (decide (0 ≤ st) && decide (st ≤ 3))) = false then (noSch, 100)
  else if D.kind < 1 ∨ 7 < D.kind then (noSch, 1)
  else match turn1 { S with version := S.version + 1 } D st with
  | .error e => (noSch, e)
  | .ok S' => (S', 0)
def Res.ErrOk (r : Res) : Prop := ∀ e, r = .error e → e ≠ 0
theorem err_ite {c : Prop} [Decidable c] {a b : Res} (ha : c → a.ErrOk) (hb : ¬ c → b.ErrOk) : Res.ErrOk (if c then a else b) := by
  by_cases h : c
  · rw [if_pos h]; exact ha h
  · rw [if_neg h]; exact hb h
theorem err_e {e : Int} (h : e ≠ 0) : Res.ErrOk (.error e) := fun e' h' => by cases h'; exact h
theorem err_o {S : Sch} : Res.ErrOk (.ok S) := fun e' h' => by cases h'
theorem turn1_err (S : Sch) (D : Ddl) (st : Int) : Res.ErrOk (turn1 S D st) := by
  have h1 : Res.ErrOk (createTurn S D st) := by unfold createTurn; repeat' (first | (refine err_ite (fun _ => ?_) (fun _ => ?_)) | exact err_o | exact err_e (by decide) | exact err_e ‹_› | split)
  have h2 : ∀ i T, Res.ErrOk (colTurn S i T D st) := by intro i T; unfold colTurn; repeat' (first | (refine err_ite (fun _ => ?_) (fun _ => ?_)) | exact err_o | exact err_e (by decide) | exact err_e ‹_› | split)
  have h3 : ∀ i T, Res.ErrOk (idxTurn S i T D st) := by intro i T; unfold idxTurn; repeat' (first | (refine err_ite (fun _ => ?_) (fun _ => ?_)) | exact err_o | exact err_e (by decide) | exact err_e ‹_› | split)
  have h4 : ∀ i T, Res.ErrOk (keyTurn S i T D st) := by intro i T; unfold keyTurn; repeat' (first | (refine err_ite (fun _ => ?_) (fun _ => ?_)) | exact err_o | exact err_e (by decide) | exact err_e ‹_› | split)
  unfold turn1
  repeat' (first | exact h1 | exact h2 _ _ | exact h3 _ _ | exact h4 _ _ | (refine err_ite (fun _ => ?_) (fun _ => ?_)) | exact err_e (by decide) | split)
def Lof (t : Tri) (ps : List TabP) : List Nat := Fw.blk t.1 ++ ps.flatMap TabP.L
structure Has (s : PH) (t : Tri) (ps : List TabP) : Prop where
  row : rowE tabE s 42 t.1 t.2.1 t.2.2 ps
  all : ∀ p ∈ ps, Own s p
  nod : (Lof t ps).Nodup
theorem Has.nil (s : PH) : Has s noTri [] := ⟨rowE.nil, fun p hp => by simp at hp, by simp [Lof, Fw.blk]⟩
theorem Has.known {s : PH} {t : Tri} {ps : List TabP} (h : Has s t ps) : ∀ g ∈ Lof t ps, s g ≠ none := by
  intro g hg
  simp only [Lof, List.mem_append, List.mem_flatMap] at hg
  rcases hg with hg | ⟨p, hp, hg⟩
  · exact h.row.known g hg
  · exact (h.all p hp).known g hg
theorem Lof_t {t : Tri} {ps : List TabP} {g : Nat} (h : g ∈ Fw.blk t.1) : g ∈ Lof t ps := List.mem_append.2 (.inl h)
theorem Lof_p {t : Tri} {ps : List TabP} {p : TabP} (hp : p ∈ ps) {g : Nat} (h : g ∈ p.L) : g ∈ Lof t ps := List.mem_append.2 (.inr (List.mem_flatMap.2 ⟨p, hp, h⟩))
theorem Has.mod {s s' : PH} {t : Tri} {ps : List TabP} {M : List Nat} (h : Has s t ps) (hm : Fw.Mod M s s') (hd : ∀ g ∈ Lof t ps, g ∉ M) : Has s' t ps :=
  ⟨h.row.mod hm fun g hg => hd g (Lof_t hg), fun p hp => (h.all p hp).mod hm fun g hg => hd g (Lof_p hp hg), h.nod⟩
theorem Has.is {s : PH} {t : Tri} {ps : List TabP} (h : Has s t ps) {S : Sch} (he : S.tabs = ps.map (·.T)) (hn : S.tabs.length ≤ 4294967296) (hf : ∀ T ∈ S.tabs, T.Few) : SchIs s t S ps :=
  ⟨Sl.of_row h.row (by rw [he, List.length_map] at hn; exact hn), he, fun p hp => (h.all p hp).is (hf _ (by rw [he]; exact List.mem_map_of_mem hp))⟩
theorem Has.push {s : PH} {a : Option Addr} {n c : Nat} {ps : List TabP} {p : TabP} {K : Option Addr → Nat → Nat → W.T} (h : Has s (a, n, c) ps) (ho : Own s p) (hp : p.L.Nodup) (hd : ∀ g ∈ p.L, g ∉ Lof (a, n, c) ps) (hl : ps.length ≤ 4294967296)
    (hK : ∀ a' c' s', Has s' (a', n + 1, c') (ps ++ [p]) → Step (Lof (a, n, c) ps ++ p.L) (Lof (a', n + 1, c') (ps ++ [p])) s s' → K a' (n + 1) c' s') :
    W.nw (.cells (tabE.f p).toArray 42 (0, 0)) (fun r => W.app 42 5 96 [.int .i64 0, .string ⟨#[]⟩, .slice none 0 0, .slice none 0 0, .slice none 0 0] a n c (Src.sl (some ⟨r, 0, none⟩) 1) K) s := by
  refine W.nw_of fun r s1 hr m1 k1 => ?_
  have hmax : maxLen = 9223372036854775807 := rfl
  have hn : n = ps.length := h.row.len
  have h1 := h.mod m1 (by simp)
  have ho1 := ho.mod m1 (by simp)
  refine app_rowE h1.row rfl (ys := [p]) (k := 1) (src_has (by have := has_block k1; simpa using this) rfl) rfl rfl (by dsimp only; omega) (by dsimp only; omega) ?_
  intro a' c' s' h' hm
  have hdt : ∀ g ∈ ps.flatMap TabP.L, g ∉ Fw.blk a := by
    intro g hg hg2
    have := h.nod
    simp only [Lof, List.nodup_append] at this
    exact this.2.2 g hg2 g hg rfl
  have hrest : (ps.flatMap TabP.L ++ p.L).Nodup := by
    rw [List.nodup_append]
    have := h.nod
    simp only [Lof, List.nodup_append] at this
    refine ⟨this.2.1, hp, ?_⟩
    rintro g hg _ hg2 rfl
    exact hd g hg2 (List.mem_append.2 (.inr hg))
  have hL : Lof (a', n + 1, c') (ps ++ [p]) = Fw.blk a' ++ (ps.flatMap TabP.L ++ p.L) := by simp [Lof, List.flatMap_append]
  have hLp : ∀ g ∈ ps.flatMap TabP.L ++ p.L, g ∈ Lof (a, n, c) ps ++ p.L := by
    intro g hg
    rcases List.mem_append.1 hg with hg | hg
    · exact List.mem_append.2 (.inl (List.mem_append.2 (.inr hg)))
    · exact List.mem_append.2 (.inr hg)
  rcases hm with ⟨rfl, hm⟩ | ⟨g, rfl, hg, hm⟩
  · refine hK _ _ _ ⟨h', ?_, ?_⟩ ⟨(m1.mono (by simp)).trans (hm.mono fun x hx => List.mem_append.2 (.inl (Lof_t (ps := ps) hx))), ?_⟩
    · intro q hq
      rcases List.mem_append.1 hq with hq | hq
      · exact (h1.all q hq).mod hm fun g hg => hdt g (List.mem_flatMap.2 ⟨q, hq, hg⟩)
      · have : q = p := by simpa using hq
        subst this
        exact ho1.mod hm fun g hg hg2 => hd g hg (Lof_t hg2)
    · rw [hL, List.nodup_append]
      refine ⟨blk_nodup _, hrest, ?_⟩
      rintro g hg _ hg2 rfl
      rcases List.mem_append.1 hg2 with hg2 | hg2
      · exact hdt g hg2 hg
      · exact hd g hg2 (Lof_t hg)
    · intro x hx
      rw [hL] at hx
      rcases List.mem_append.1 hx with hx | hx
      · exact .inl (List.mem_append.2 (.inl (Lof_t hx)))
      · exact .inl (hLp x hx)
  · have hg0 : s g = none := m1.none hg (by simp)
    refine hK _ _ _ ⟨h', ?_, ?_⟩ ⟨(m1.trans hm).mono (by simp), ?_⟩
    · intro q hq
      rcases List.mem_append.1 hq with hq | hq
      · exact (h1.all q hq).mod hm (by simp)
      · have : q = p := by simpa using hq
        subst this
        exact ho1.mod hm (by simp)
    · rw [hL, List.nodup_append]
      refine ⟨blk_nodup _, hrest, ?_⟩
      rintro g' hg' _ hg2 rfl
      have : g' = g := by simpa [Fw.blk] using hg'
      subst this
      rcases List.mem_append.1 hg2 with hg2 | hg2
      · exact h.known g' (List.mem_append.2 (.inr hg2)) hg0
      · exact ho.known g' hg2 hg0
    · intro x hx
      rw [hL] at hx
      rcases List.mem_append.1 hx with hx | hx
      · have : x = g := by simpa [Fw.blk] using hx
        subst this
        exact .inr hg0
      · exact .inl (hLp x hx)
theorem Lof_mid {t : Tri} {l r : List TabP} {p : TabP} {g : Nat} : g ∈ Lof t (l ++ p :: r) ↔ (g ∈ Fw.blk t.1 ∨ g ∈ l.flatMap TabP.L ∨ g ∈ r.flatMap TabP.L) ∨ g ∈ p.L := by
  simp only [Lof, List.flatMap_append, List.flatMap_cons, List.mem_append]
  constructor
  · rintro (h | h | h | h)
    · exact .inl (.inl h)
    · exact .inl (.inr (.inl h))
    · exact .inr h
    · exact .inl (.inr (.inr h))
  · rintro ((h | h | h) | h)
    · exact .inl h
    · exact .inr (.inl h)
    · exact .inr (.inr (.inr h))
    · exact .inr (.inr (.inl h))
theorem Lof_nod {t : Tri} {l r : List TabP} {p : TabP} : (Lof t (l ++ p :: r)).Nodup ↔ (Fw.blk t.1 ++ (l.flatMap TabP.L ++ r.flatMap TabP.L)).Nodup ∧ p.L.Nodup ∧ ∀ g ∈ p.L, ¬ (g ∈ Fw.blk t.1 ∨ g ∈ l.flatMap TabP.L ∨ g ∈ r.flatMap TabP.L) := by
  have : (Lof t (l ++ p :: r)).Perm ((Fw.blk t.1 ++ (l.flatMap TabP.L ++ r.flatMap TabP.L)) ++ p.L) := by
    simp only [Lof, List.flatMap_append, List.flatMap_cons, List.append_assoc]
    refine List.Perm.append_left _ (List.Perm.append_left _ List.perm_append_comm)
  rw [this.nodup_iff, List.nodup_append]
  constructor
  · rintro ⟨a, b, c⟩
    refine ⟨a, b, fun g hg h => c g ?_ g hg rfl⟩
    simp only [List.mem_append]; exact h
  · rintro ⟨a, b, c⟩
    refine ⟨a, b, ?_⟩
    rintro g hg _ hg2 rfl
    simp only [List.mem_append] at hg
    exact c g hg2 hg
/-- table i is laid anew, its lists having been worked on -/
theorem Has.put {s s1 : PH} {t : Tri} {ps : List TabP} {i : Nat} {p p' : TabP} {K : W.T} (h : Has s t ps) (hp : ps[i]? = some p) (hm : Fw.Mod p.L s s1) (ho : Own s1 p') (hnd : p'.L.Nodup) (hf : ∀ g ∈ p'.L, g ∈ p.L ∨ s g = none) {j : Nat} {vs : List Value}
    (hx' : tabE.f p' = (tabE.f p).take j ++ vs ++ (tabE.f p).drop (j + vs.length)) (hj : j + vs.length ≤ 5) (hne : vs ≠ []) {g : Nat} (ha : t.1 = some ⟨g, 0, none⟩)
    (hK : ∀ s2, Has s2 t (ps.set i p') → Step (Lof t ps) (Lof t (ps.set i p')) s s2 → K s2) : W.st ⟨g, i * 5 + j, none⟩ vs K s1 := by
  have hi := (List.getElem?_eq_some_iff.1 hp).1
  obtain ⟨l, r, rfl, hl⟩ : ∃ l r, ps = l ++ p :: r ∧ l.length = i := ⟨ps.take i, ps.drop (i + 1), by rw [← drop_some hp, List.take_append_drop], by simp; omega⟩
  subst hl
  have hset : (l ++ p :: r).set l.length p' = l ++ p' :: r := by simp
  rw [hset] at hK
  have hn0 := Lof_nod.1 h.nod
  have hkn := h.known
  have hap : ∀ g, (g ∈ Fw.blk t.1 ∨ g ∈ l.flatMap TabP.L ∨ g ∈ r.flatMap TabP.L) → g ∉ p.L := fun g hg hg2 => hn0.2.2 g hg2 hg
  have hrow1 : rowE tabE s1 42 t.1 t.2.1 t.2.2 (l ++ p :: r) := h.row.mod hm fun g hg => hap g (.inl hg)
  have hvs : ∀ v ∈ vs, v.oneCell' = true := fun v hv => tabE.one p' v (by rw [hx']; simp [hv])
  have hgk : s g ≠ none := h.row.known g (by rw [ha]; simp [Fw.blk])
  have hgp : g ∉ p'.L := fun e => by
    rcases hf g e with e | e
    · exact hap g (.inl (by rw [ha]; simp [Fw.blk])) e
    · exact hgk e
  refine rowE.st (E := tabE) (i := l.length) (j := j) (x' := p') hrow1 hp hx' hj hne hvs ha fun s2 h2 m2 => ?_
  rw [hset] at h2
  have hgl : ∀ x, x ∈ l.flatMap TabP.L ∨ x ∈ r.flatMap TabP.L → x ∉ [g] := by
    intro x hx hx2
    have hx2 : x = g := by simpa using hx2
    subst hx2
    have := hn0.1
    rw [List.nodup_append] at this
    exact this.2.2 x (by rw [ha]; simp [Fw.blk]) x (List.mem_append.2 hx) rfl
  refine hK s2 ⟨h2, ?_, ?_⟩ ⟨?_, ?_⟩
  · intro q hq
    have hq' : q ∈ l ∨ q = p' ∨ q ∈ r := by simpa using hq
    rcases hq' with hq' | rfl | hq'
    · have hL : ∀ x ∈ q.L, x ∈ l.flatMap TabP.L := fun x hx => List.mem_flatMap.2 ⟨q, hq', hx⟩
      exact ((h.all q (by simp [hq'])).mod hm fun x hx => hap x (.inr (.inl (hL x hx)))).mod m2 fun x hx => hgl x (.inl (hL x hx))
    · exact ho.mod m2 fun x hx hx2 => by
        have hx2 : x = g := by simpa using hx2
        subst hx2
        exact hgp hx
    · have hL : ∀ x ∈ q.L, x ∈ r.flatMap TabP.L := fun x hx => List.mem_flatMap.2 ⟨q, hq', hx⟩
      exact ((h.all q (by simp [hq'])).mod hm fun x hx => hap x (.inr (.inr (hL x hx)))).mod m2 fun x hx => hgl x (.inr (hL x hx))
  · refine Lof_nod.2 ⟨hn0.1, hnd, fun x hx hx2 => ?_⟩
    rcases hf x hx with e | e
    · exact hap x hx2 e
    · refine hkn x (Lof_mid.2 (.inl hx2)) e
  · refine (hm.mono fun x hx => Lof_mid.2 (.inr hx)).trans (m2.mono fun x hx => ?_)
    have : x = g := by simpa using hx
    subst this
    exact Lof_t (by rw [ha]; simp [Fw.blk])
  · intro x hx
    rcases Lof_mid.1 hx with hx | hx
    · exact .inl (Lof_mid.2 (.inl hx))
    · rcases hf x hx with e | e
      · exact .inl (Lof_mid.2 (.inr e))
      · exact .inr e
end Go.Proofs.Ythepfbcgpbkbdaa
end
section
set_option linter.unusedVariables false
set_option linter.unusedSimpArgs false
set_option maxHeartbeats 1000000
set_option maxRecDepth 100000
namespace Go.Proofs.Ythepfbcgpbkbdaa
open Fw Go
attribute [-simp] Fw.W.ld_iff Fw.W.st_iff
/-- an append that has room stays where it is -/
theorem app_room {e : TypeId} {sz bytes : Nat} {zero : List Value} {b : Option Addr} {n c : Nat} {src : Src} {K : Option Addr → Nat → Nat → W.T} {s : PH} (hr : n + src.len ≤ c) (h : W.app e sz bytes zero b n c src (fun a' n' c' s' => (a' = b ∧ c' = c) → K a' n' c' s') s) : W.app e sz bytes zero b n c src K s := by
  obtain ⟨old, news, h1, h2, h3, h4, h5, h6, h7⟩ := h
  refine ⟨old, news, h1, h2, h3, h4, h5, fun hle => ?_, fun hlt => by omega⟩
  have h6 := h6 hle
  cases b with
  | none => exact h6 ⟨rfl, rfl⟩
  | some a => exact ⟨h6.1, h6.2 ⟨rfl, rfl⟩⟩
theorem zeros_one {zero : List Value} (h : ∀ v ∈ zero, v.oneCell' = true) (N : Nat) : (Builtin.zeroCells zero.toArray N).toList.length = N * zero.length ∧ ∀ v ∈ (Builtin.zeroCells zero.toArray N).toList, v.oneCell' = true := by
  refine ⟨by simp [Builtin.zeroCells], fun v hv => ?_⟩
  simp only [Builtin.zeroCells, Array.toList_map, Array.toList_range, List.mem_map, List.mem_range, List.size_toArray] at hv
  obtain ⟨i, hi, rfl⟩ := hv
  have hpos : 0 < zero.length := by
    rcases Nat.eq_zero_or_pos zero.length with q | q
    · rw [q] at hi; omega
    · exact q
  have hlt := Nat.mod_lt i hpos
  rw [getElem!_pos _ _ (by simpa using hlt)]
  exact h _ (by simp)
/-- the room behind a row is cleared -/
theorem clr_tail {α : Type} {E : Enc α} {s : PH} {e : TypeId} {a : Option Addr} {m c N : Nat} {xs : List α} {zero : List Value} {K : W.T} (h : rowE E s e a m c xs) (hz : zero.length = E.sz) (h1 : ∀ v ∈ zero, v.oneCell' = true) (hN : m + N ≤ c)
    (hK : ∀ s', rowE E s' e a m c xs → Fw.Mod (Fw.blk a) s s' → K s') : W.clr zero (if c = m then a else a.map (·.add (m * E.sz))) N K s := by
  obtain ⟨hl, ho⟩ := zeros_one h1 N
  rw [hz] at hl
  unfold W.clr
  generalize (Builtin.zeroCells zero.toArray N).toList = news at hl ho
  by_cases hc : c = m
  · subst hc
    have hN0 : N = 0 := by omega
    subst hN0
    have : news = [] := List.length_eq_zero_iff.1 (by rw [hl, Nat.zero_mul])
    subst this
    rw [if_pos rfl]
    cases a with
    | none => exact hK s h (Mod.refl _ _)
    | some a => exact ⟨fun i hi => absurd hi (Nat.not_lt_zero _), fun v hv => by simp at hv, hK s h (Mod.refl _ _)⟩
  · rw [if_neg hc]
    obtain ⟨g1, g2, g3, ⟨rfl, rfl, rfl⟩ | ⟨g, cur, rfl, hg, hcc, ht⟩⟩ := id h
    · exact absurd rfl hc
    · simp only [Option.map_some, add_mk, Nat.zero_add]
      have hb : (m + N) * E.sz ≤ cur.size := Nat.le_trans (Nat.mul_le_mul_right _ hN) hcc
      rw [Nat.add_mul] at hb
      refine ⟨fun i hi => ?_, ho, ?_⟩
      · rw [add_mk]
        refine ⟨?_, ?_⟩
        · unfold PH.cell?; dsimp only; rw [hg]
          have : m * E.sz + i < cur.size := by omega
          simp [this]
        · unfold PH.frozen?; dsimp only; rw [hg]; simp
      · cases news with
        | nil => exact hK s h (Mod.refl _ _)
        | cons v news =>
          rw [PH.stores_eq (e := e) (f := (0, 0)) rfl (v :: news) 0 cur s hg (by simp)]
          refine hK _ ⟨g1, g2, g3, .inr ⟨g, _, rfl, PH.upd_same _ _ _, by rw [setL_size]; exact hcc, ?_⟩⟩ (Mod.upd (by simp [Fw.blk]))
          simp only [Nat.add_zero]
          rw [setL_toList _ _ _ (by omega), ← ht]
          rw [List.append_assoc, List.take_append_of_le_length (by simp; omega), List.take_take, Nat.min_self]
theorem map_add0 (a : Option Addr) : a.map (·.add 0) = a := by cases a <;> simp [add_zero]
/-- a table's lists worked on: p becomes p' -/
structure Work (s s1 : PH) (p p' : TabP) : Prop where
  md : Fw.Mod p.L s s1
  own : Own s1 p'
  nd : p'.L.Nodup
  fr : ∀ g ∈ p'.L, g ∈ p.L ∨ s g = none
theorem Has.nodp {s : PH} {t : Tri} {ps : List TabP} {p : TabP} (h : Has s t ps) (hp : p ∈ ps) : p.L.Nodup := by
  obtain ⟨l, r, rfl⟩ := List.append_of_mem hp
  exact (Lof_nod.1 h.nod).2.1
theorem Has.put0 {s s1 s2 : PH} {t : Tri} {ps : List TabP} {i : Nat} {p p' : TabP} (h : Has s t ps) (hp : ps[i]? = some p) (hw : Work s s1 p p') (h2 : rowE tabE s2 42 t.1 t.2.1 t.2.2 (ps.set i p')) (m2 : Fw.Mod (Fw.blk t.1) s1 s2) :
    Has s2 t (ps.set i p') ∧ Step (Lof t ps) (Lof t (ps.set i p')) s s2 := by
  obtain ⟨hm, ho, hnd, hf⟩ := hw
  have hi := (List.getElem?_eq_some_iff.1 hp).1
  obtain ⟨l, r, rfl, hl⟩ : ∃ l r, ps = l ++ p :: r ∧ l.length = i := ⟨ps.take i, ps.drop (i + 1), by rw [← drop_some hp, List.take_append_drop], by simp; omega⟩
  subst hl
  have hset : (l ++ p :: r).set l.length p' = l ++ p' :: r := by simp
  rw [hset] at h2 ⊢
  have hn0 := Lof_nod.1 h.nod
  have hkn := h.known
  have hap : ∀ g, (g ∈ Fw.blk t.1 ∨ g ∈ l.flatMap TabP.L ∨ g ∈ r.flatMap TabP.L) → g ∉ p.L := fun g hg hg2 => hn0.2.2 g hg2 hg
  have hgl : ∀ x, x ∈ l.flatMap TabP.L ∨ x ∈ r.flatMap TabP.L → x ∉ Fw.blk t.1 := by
    intro x hx hx2
    have := hn0.1
    rw [List.nodup_append] at this
    exact this.2.2 x hx2 x (List.mem_append.2 hx) rfl
  refine ⟨⟨h2, ?_, ?_⟩, ⟨?_, ?_⟩⟩
  · intro q hq
    have hq' : q ∈ l ∨ q = p' ∨ q ∈ r := by simpa using hq
    rcases hq' with hq' | rfl | hq'
    · have hL : ∀ x ∈ q.L, x ∈ l.flatMap TabP.L := fun x hx => List.mem_flatMap.2 ⟨q, hq', hx⟩
      exact ((h.all q (by simp [hq'])).mod hm fun x hx => hap x (.inr (.inl (hL x hx)))).mod m2 fun x hx => hgl x (.inl (hL x hx))
    · exact ho.mod m2 fun x hx hx2 => by
        rcases hf x hx with e | e
        · exact hap x (.inl hx2) e
        · exact h.row.known x hx2 e
    · have hL : ∀ x ∈ q.L, x ∈ r.flatMap TabP.L := fun x hx => List.mem_flatMap.2 ⟨q, hq', hx⟩
      exact ((h.all q (by simp [hq'])).mod hm fun x hx => hap x (.inr (.inr (hL x hx)))).mod m2 fun x hx => hgl x (.inr (hL x hx))
  · refine Lof_nod.2 ⟨hn0.1, hnd, fun x hx hx2 => ?_⟩
    rcases hf x hx with e | e
    · exact hap x hx2 e
    · refine hkn x (Lof_mid.2 (.inl hx2)) e
  · exact (hm.mono fun x hx => Lof_mid.2 (.inr hx)).trans (m2.mono fun x hx => Lof_t hx)
  · intro x hx
    rcases Lof_mid.1 hx with hx | hx
    · exact .inl (Lof_mid.2 (.inl hx))
    · rcases hf x hx with e | e
      · exact .inl (Lof_mid.2 (.inr e))
      · exact .inr e
theorem Has.same {s s1 : PH} {t : Tri} {ps : List TabP} {i : Nat} {p p' : TabP} (h : Has s t ps) (hp : ps[i]? = some p) (hw : Work s s1 p p') (he : tabE.f p' = tabE.f p) :
    Has s1 t (ps.set i p') ∧ Step (Lof t ps) (Lof t (ps.set i p')) s s1 := by
  refine h.put0 hp hw ?_ (Mod.refl _ _)
  have hi := (List.getElem?_eq_some_iff.1 hp).1
  have hn0 := h.nod
  have hap : ∀ g ∈ Fw.blk t.1, g ∉ p.L := by
    intro g hg hg2
    simp only [Lof, List.nodup_append] at hn0
    exact hn0.2.2 g hg g (List.mem_flatMap.2 ⟨p, List.mem_of_getElem? hp, hg2⟩) rfl
  have hrow := h.row.mod hw.md hap
  unfold rowE at hrow ⊢
  have : (ps.set i p').flatMap tabE.f = ps.flatMap tabE.f := by
    obtain ⟨l, r, e, hl⟩ : ∃ l r, ps = l ++ p :: r ∧ l.length = i := ⟨ps.take i, ps.drop (i + 1), by rw [← drop_some hp, List.take_append_drop], by simp; omega⟩
    subst hl; subst e
    simp [he]
  rw [this]; exact hrow
theorem Has.store {s s1 : PH} {t : Tri} {ps : List TabP} {i : Nat} {p p' : TabP} {K : W.T} (h : Has s t ps) (hp : ps[i]? = some p) (hw : Work s s1 p p') {j : Nat} {vs : List Value}
    (hx' : tabE.f p' = (tabE.f p).take j ++ vs ++ (tabE.f p).drop (j + vs.length)) (hj : j + vs.length ≤ 5) (hne : vs ≠ []) {g : Nat} (ha : t.1 = some ⟨g, 0, none⟩)
    (hK : ∀ s2, Has s2 t (ps.set i p') → Step (Lof t ps) (Lof t (ps.set i p')) s s2 → K s2) : W.st ⟨g, i * 5 + j, none⟩ vs K s1 :=
  h.put hp hw.md hw.own hw.nd hw.fr hx' hj hne ha hK
abbrev zC : List Value := [.int .i64 0, .string ⟨#[]⟩, .int .i64 0, .int .i64 0, .int .i64 0, .int .i64 0, .string ⟨#[]⟩]
theorem work_c {s s1 : PH} {p : TabP} (ho : Own s p) (hn : p.L.Nodup) {u : Tri} {xs : List Col} (hr : rowE colE s1 44 u.1 u.2.1 u.2.2 xs) (hm : Fw.Mod (Fw.blk p.c.1) s s1) (hf : ∀ g ∈ Fw.blk u.1, g ∈ Fw.blk p.c.1 ∨ s g = none) :
    Work s s1 p ⟨{ p.T with cols := xs }, u, p.x, p.k⟩ := by
  have hn' := hn
  simp only [TabP.L, List.nodup_append] at hn'
  obtain ⟨n1, ⟨n2, n3, n4⟩, n5⟩ := hn'
  have e1 : ∀ g ∈ Fw.blk p.c.1, g ∉ Fw.blk p.x.1 := fun g h h2 => n5 g h g (List.mem_append.2 (.inl h2)) rfl
  have e2 : ∀ g ∈ Fw.blk p.c.1, g ∉ Fw.blk p.k.1 := fun g h h2 => n5 g h g (List.mem_append.2 (.inr h2)) rfl
  have e3 : ∀ g ∈ Fw.blk p.x.1, g ∉ Fw.blk p.k.1 := fun g h h2 => n4 g h g h2 rfl
  have e1' : ∀ g ∈ Fw.blk p.x.1, g ∉ Fw.blk p.c.1 := fun g h h2 => e1 g h2 h
  have e2' : ∀ g ∈ Fw.blk p.k.1, g ∉ Fw.blk p.c.1 := fun g h h2 => e2 g h2 h
  have e3' : ∀ g ∈ Fw.blk p.k.1, g ∉ Fw.blk p.x.1 := fun g h h2 => e3 g h2 h
  have kc := ho.c.known
  have kx := ho.x.known
  have kk := ho.k.known
  have ap : ∀ g ∈ Fw.blk u.1, g ∉ Fw.blk p.x.1 ∧ g ∉ Fw.blk p.k.1 := by
    intro g hg
    rcases hf g hg with e | e
    · exact ⟨e1 g e, e2 g e⟩
    · exact ⟨fun h => kx g h e, fun h => kk g h e⟩
  refine ⟨hm.mono fun g hg => by simp only [TabP.L, List.mem_append]; exact .inl hg, ⟨hr, ho.x.mod hm e1', ho.k.mod hm e2'⟩, ?_, ?_⟩
  · simp only [TabP.L, List.nodup_append, List.mem_append]
    exact ⟨blk_nodup _, ⟨n2, n3, n4⟩, fun g hg y hy e => by subst e; exact Or.elim hy (ap g hg).1 (ap g hg).2⟩
  · intro g hg
    simp only [TabP.L, List.mem_append] at hg ⊢
    rcases hg with hg | hg | hg
    · exact (hf g hg).imp_left .inl
    · exact .inl (.inr (.inl hg))
    · exact .inl (.inr (.inr hg))
theorem Has.app_c {s : PH} {t : Tri} {ps : List TabP} {i : Nat} {p : TabP} {K : Option Addr → Nat → Nat → W.T} (h : Has s t ps) (hp : ps[i]? = some p) (x : Col) (hl : p.T.cols.length ≤ 4294967296)
    (hK : ∀ (u : Tri) s1, u.2.1 = p.c.2.1 + 1 → Work s s1 p ⟨{ p.T with cols := p.T.cols ++ [x] }, u, p.x, p.k⟩ → K u.1 u.2.1 u.2.2 s1) : W.nw (.cells (colE.f x).toArray 44 (0, 0)) (fun r => W.app 44 7 72 zC p.c.1 p.c.2.1 p.c.2.2 (Src.sl (some ⟨r, 0, none⟩) 1) K) s := by
  refine W.nw_of fun r s1 hr m1 k1 => ?_
  have hmax : maxLen = 9223372036854775807 := rfl
  have hpm := List.mem_of_getElem? hp
  have ho := h.all p hpm
  have hn : p.c.2.1 = p.T.cols.length := ho.c.len
  refine app_rowE (ho.c.mod m1 (by simp)) rfl (ys := [x]) (k := 1) (src_has (by have := has_block k1; simpa using this) rfl) rfl rfl (by omega) (by omega) ?_
  intro a' c' s2 h' hm
  refine hK (a', p.c.2.1 + 1, c') s2 rfl (work_c ho (h.nodp hpm) (u := (a', p.c.2.1 + 1, c')) h' ?_ ?_)
  · rcases hm with ⟨_, hm⟩ | ⟨g, _, _, hm⟩
    · exact (m1.mono (by simp)).trans hm
    · exact (m1.trans hm).mono (by simp)
  · rcases hm with ⟨e, hm⟩ | ⟨g, e, hg, hm⟩
    · intro g hg; dsimp only at hg; rw [e] at hg; exact .inl hg
    · intro g' hg'
      dsimp only at hg'
      rw [e] at hg'
      have : g' = g := by simpa [Fw.blk] using hg'
      subst this
      exact .inr (m1.none hg (by simp))
theorem c_DeleteC {s : PH} {a : Option Addr} {n c k : Nat} {xs : List Col} (h : rowE colE s 44 a n c xs) (hk : k < n) (hl : n ≤ 4294967296) : DCalls Try.prog 141 #[.slice a n c, .int .i64 k, .int .i64 ((k + 1 : Nat) : Int)] s fun y s' =>
    y = .slice a (n - 1) c ∧ rowE colE s' 44 a (n - 1) c (xs.eraseIdx k) ∧ Fw.Mod (Fw.blk a) s s' := by
  refine ok_DeleteC a n c k ((k + 1 : Nat) : Int) _ s ?_
  unfold vc_DeleteC
  have hn : n = xs.length := h.len
  have hle := h.le
  have hmax : maxLen = 9223372036854775807 := rfl
  have hcm := h.max
  simp only [RP_guard, W.guard_iff, RP_ite, W.br_iff, RP_app, RP_ret, RP_clr]
  refine ⟨by omega, fun e => ?_, fun _ => ?_⟩
  · have e : (k : Int) = ((k + 1 : Nat) : Int) := by simpa using e
    omega
  refine ⟨by omega, by omega, ?_⟩
  have hpre : rowE colE s 44 a k c (xs.take k) := by
    have := h.shrink (m := k) (c' := c) (by omega) (by omega) (Nat.le_refl _)
    have e : (if a = none then none else a) = a := by cases a <;> simp
    rwa [e] at this
  have hsrc := h.src (i := k + 1) (m := n - (k + 1)) (by omega)
  have he : (if c = 0 then a else Option.map (fun x => x.add 0) a) = a := by split <;> simp [map_add0]
  simp only [Int.toNat_natCast, Nat.sub_zero, he]
  refine app_room (by show k + (n - (k + 1)) ≤ c; omega) ?_
  refine app_rowE hpre rfl (ys := (xs.drop (k + 1)).take (n - (k + 1))) (k := n - (k + 1)) hsrc rfl (by rw [List.length_take, List.length_drop]; omega) (by omega) (by omega) ?_
  rintro a' c' s' h' hm ⟨rfl, rfl⟩
  have hlist : xs.take k ++ (xs.drop (k + 1)).take (n - (k + 1)) = xs.eraseIdx k := by
    rw [List.eraseIdx_eq_take_drop_succ, List.take_of_length_le (l := xs.drop (k + 1)) (by rw [List.length_drop]; omega)]
  rw [hlist, show k + (n - (k + 1)) = n - 1 by omega] at h'
  have hm' : Fw.Mod (Fw.blk a') s s' := by
    rcases hm with ⟨_, hm⟩ | ⟨g, e, hg, hm⟩
    · exact hm
    · exact hm.mono (by simp)
  rw [show k + (n - (k + 1)) = n - 1 by omega]
  refine ⟨by omega, ?_⟩
  try simp only [Int.toNat_natCast]
  refine clr_tail h' rfl (by simp [Value.oneCell']) (by omega) fun s2 h2 m2 => ⟨rfl, h2, hm'.trans m2⟩
theorem c_stateC (A : Addr) (s : PH) : DCalls Try.prog 124 #[.pointer (some A)] s fun y s' => y = .pointer (some (A.add 3)) ∧ s' = s := by
  refine ok_stateC A _ s ?_
  unfold vc_stateC
  simp
theorem c_placeC {s : PH} {t : Tri} {ps : List TabP} {i k g : Nat} {p : TabP} {x : Col} (h : Has s t ps) (hp : ps[i]? = some p) (hx : p.T.cols[k]? = some x) (ht : t.1 = some ⟨g, 0, none⟩) (hl : p.T.cols.length ≤ 4294967296) (st : Int) :
    DCalls Try.prog 123 #[.pointer (some ⟨g, i * 5 + 2, none⟩), .int .i64 k, .int .i64 st, .func (.func 124) #[] #[]] s fun y s' => y = .tuple #[] ∧
      ∃ ps', Has s' t ps' ∧ ps'.map (·.T) = (ps.map (·.T)).set i { p.T with cols := placed p.T.cols k st (x.put st) } ∧ Step (Lof t ps) (Lof t ps') s s' := by
  refine ok_placeC ⟨g, i * 5 + 2, none⟩ k st _ s ?_
  unfold vc_placeC
  have hpm := List.mem_of_getElem? hp
  have ho := h.all p hpm
  have hn : p.c.2.1 = p.T.cols.length := ho.c.len
  have hkl := (List.getElem?_eq_some_iff.1 hx).1
  obtain ⟨g', hg', hh⟩ := h.row.at hp
  rw [ht] at hg'
  cases hg'
  have hh' : s.has (Addr.mk g (i * 5) none) (tabE.f p) := hh
  have hld : ∀ (K : Den [.slice] → W.T), K (p.c, ()) s → W.ld [.slice] ⟨g, i * 5 + 2, none⟩ K s := by
    intro K hK
    have := ld_has (j := 2) (cs := [.slice]) (y := (p.c, ())) hh' rfl hK
    rwa [add_mk] at this
  simp only [RP_ite, W.br_iff, RP_unSome, W.unSome_some, RP_ld, RP_call, RP_st, RP_ret, RP_guard]
  refine ⟨fun h0 => ?_, fun h0 => ?_⟩
  · have h0 : st = 0 := by simpa using h0
    refine hld _ ?_
    rw [wrap_succ (k := k) (by omega)]
    refine W.call_of (c_DeleteC ho.c (k := k) (by show k < p.c.2.1; omega) (by show p.c.2.1 ≤ _; omega)) ?_
    rintro _ s1 ⟨rfl, h1, m1⟩
    refine ⟨(((p.c.1, p.c.2.1 - 1, p.c.2.2), ()), ()), rfl, ?_⟩
    simp only [W.unSome_some]
    have hw := work_c ho (h.nodp hpm) (u := (p.c.1, p.c.2.1 - 1, p.c.2.2)) h1 m1 (fun g hg => .inl hg)
    refine h.store hp hw (j := 2) (vs := [.slice p.c.1 (p.c.2.1 - 1) p.c.2.2]) rfl (by simp) (by simp) ht fun s2 h2 st2 => ?_
    refine ⟨rfl, _, h2, ?_, st2⟩
    rw [List.map_set]; unfold placed; rw [if_pos h0]
  · have h0 : st ≠ 0 := by simpa using h0
    refine hld _ ?_
    refine ⟨by show (0 : Int) ≤ k ∧ (k : Int) < (p.c.2.1 : Nat); omega, ?_⟩
    obtain ⟨gc, hgc, hhc⟩ := ho.c.at hx
    rw [hgc]
    simp only [W.unSome_some, Int.toNat_natCast]
    refine callq ((some (((Addr.mk gc 0 none).add (k * 7)).add 3), ()), ()) (c_stateC _ s) rfl ?_
    simp only [W.unSome_some, add_mk, Nat.zero_add]
    refine rowE.st (E := colE) (i := k) (j := 3) (x' := x.put st) (vs := [.int .i64 st]) ho.c hx rfl (by show 3 + 1 ≤ 7; omega) (by simp) (by simp [Value.oneCell']) hgc fun s1 h1 m1 => ?_
    have hw := work_c ho (h.nodp hpm) (u := p.c) h1 (m1.mono fun x hx => by rw [hgc]; simpa [Fw.blk] using hx) (fun g hg => .inl hg)
    obtain ⟨h2, st2⟩ := h.same hp hw rfl
    refine ⟨rfl, _, h2, ?_, st2⟩
    rw [List.map_set]; unfold placed; rw [if_neg h0]
abbrev zX : List Value := [.int .i64 0, .string ⟨#[]⟩, .int .i64 0, .bool false, .int .i64 0]
theorem work_x {s s1 : PH} {p : TabP} (ho : Own s p) (hn : p.L.Nodup) {u : Tri} {xs : List Idx} (hr : rowE idxE s1 106 u.1 u.2.1 u.2.2 xs) (hm : Fw.Mod (Fw.blk p.x.1) s s1) (hf : ∀ g ∈ Fw.blk u.1, g ∈ Fw.blk p.x.1 ∨ s g = none) :
    Work s s1 p ⟨{ p.T with idxs := xs }, p.c, u, p.k⟩ := by
  have hn' := hn
  simp only [TabP.L, List.nodup_append] at hn'
  obtain ⟨n1, ⟨n2, n3, n4⟩, n5⟩ := hn'
  have e1 : ∀ g ∈ Fw.blk p.c.1, g ∉ Fw.blk p.x.1 := fun g h h2 => n5 g h g (List.mem_append.2 (.inl h2)) rfl
  have e2 : ∀ g ∈ Fw.blk p.c.1, g ∉ Fw.blk p.k.1 := fun g h h2 => n5 g h g (List.mem_append.2 (.inr h2)) rfl
  have e3 : ∀ g ∈ Fw.blk p.x.1, g ∉ Fw.blk p.k.1 := fun g h h2 => n4 g h g h2 rfl
  have e1' : ∀ g ∈ Fw.blk p.x.1, g ∉ Fw.blk p.c.1 := fun g h h2 => e1 g h2 h
  have e2' : ∀ g ∈ Fw.blk p.k.1, g ∉ Fw.blk p.c.1 := fun g h h2 => e2 g h2 h
  have e3' : ∀ g ∈ Fw.blk p.k.1, g ∉ Fw.blk p.x.1 := fun g h h2 => e3 g h2 h
  have kc := ho.c.known
  have kx := ho.x.known
  have kk := ho.k.known
  have ap : ∀ g ∈ Fw.blk u.1, g ∉ Fw.blk p.c.1 ∧ g ∉ Fw.blk p.k.1 := by
    intro g hg
    rcases hf g hg with e | e
    · exact ⟨e1' g e, e3 g e⟩
    · exact ⟨fun h => kc g h e, fun h => kk g h e⟩
  refine ⟨hm.mono fun g hg => by simp only [TabP.L, List.mem_append]; exact .inr (.inl hg), ⟨ho.c.mod hm e1, hr, ho.k.mod hm e3'⟩, ?_, ?_⟩
  · simp only [TabP.L, List.nodup_append, List.mem_append]
    exact ⟨n1, ⟨blk_nodup _, n3, fun g hg y hy e => by subst e; exact (ap g hg).2 hy⟩, fun g hg y hy e => by subst e; exact Or.elim hy (fun hy => (ap g hy).1 hg) (e2 g hg)⟩
  · intro g hg
    simp only [TabP.L, List.mem_append] at hg ⊢
    rcases hg with hg | hg | hg
    · exact .inl (.inl hg)
    · exact (hf g hg).imp_left fun e => .inr (.inl e)
    · exact .inl (.inr (.inr hg))
theorem Has.app_x {s : PH} {t : Tri} {ps : List TabP} {i : Nat} {p : TabP} {K : Option Addr → Nat → Nat → W.T} (h : Has s t ps) (hp : ps[i]? = some p) (x : Idx) (hl : p.T.idxs.length ≤ 4294967296)
    (hK : ∀ (u : Tri) s1, u.2.1 = p.x.2.1 + 1 → Work s s1 p ⟨{ p.T with idxs := p.T.idxs ++ [x] }, p.c, u, p.k⟩ → K u.1 u.2.1 u.2.2 s1) : W.nw (.cells (idxE.f x).toArray 106 (0, 0)) (fun r => W.app 106 5 48 zX p.x.1 p.x.2.1 p.x.2.2 (Src.sl (some ⟨r, 0, none⟩) 1) K) s := by
  refine W.nw_of fun r s1 hr m1 k1 => ?_
  have hmax : maxLen = 9223372036854775807 := rfl
  have hpm := List.mem_of_getElem? hp
  have ho := h.all p hpm
  have hn : p.x.2.1 = p.T.idxs.length := ho.x.len
  refine app_rowE (ho.x.mod m1 (by simp)) rfl (ys := [x]) (k := 1) (src_has (by have := has_block k1; simpa using this) rfl) rfl rfl (by omega) (by omega) ?_
  intro a' c' s2 h' hm
  refine hK (a', p.x.2.1 + 1, c') s2 rfl (work_x ho (h.nodp hpm) (u := (a', p.x.2.1 + 1, c')) h' ?_ ?_)
  · rcases hm with ⟨_, hm⟩ | ⟨g, _, _, hm⟩
    · exact (m1.mono (by simp)).trans hm
    · exact (m1.trans hm).mono (by simp)
  · rcases hm with ⟨e, hm⟩ | ⟨g, e, hg, hm⟩
    · intro g hg; dsimp only at hg; rw [e] at hg; exact .inl hg
    · intro g' hg'
      dsimp only at hg'
      rw [e] at hg'
      have : g' = g := by simpa [Fw.blk] using hg'
      subst this
      exact .inr (m1.none hg (by simp))
theorem c_DeleteX {s : PH} {a : Option Addr} {n c k : Nat} {xs : List Idx} (h : rowE idxE s 106 a n c xs) (hk : k < n) (hl : n ≤ 4294967296) : DCalls Try.prog 143 #[.slice a n c, .int .i64 k, .int .i64 ((k + 1 : Nat) : Int)] s fun y s' =>
    y = .slice a (n - 1) c ∧ rowE idxE s' 106 a (n - 1) c (xs.eraseIdx k) ∧ Fw.Mod (Fw.blk a) s s' := by
  refine ok_DeleteX a n c k ((k + 1 : Nat) : Int) _ s ?_
  unfold vc_DeleteX
  have hn : n = xs.length := h.len
  have hle := h.le
  have hmax : maxLen = 9223372036854775807 := rfl
  have hcm := h.max
  simp only [RP_guard, W.guard_iff, RP_ite, W.br_iff, RP_app, RP_ret, RP_clr]
  refine ⟨by omega, fun e => ?_, fun _ => ?_⟩
  · have e : (k : Int) = ((k + 1 : Nat) : Int) := by simpa using e
    omega
  refine ⟨by omega, by omega, ?_⟩
  have hpre : rowE idxE s 106 a k c (xs.take k) := by
    have := h.shrink (m := k) (c' := c) (by omega) (by omega) (Nat.le_refl _)
    have e : (if a = none then none else a) = a := by cases a <;> simp
    rwa [e] at this
  have hsrc := h.src (i := k + 1) (m := n - (k + 1)) (by omega)
  have he : (if c = 0 then a else Option.map (fun x => x.add 0) a) = a := by split <;> simp [map_add0]
  simp only [Int.toNat_natCast, Nat.sub_zero, he]
  refine app_room (by show k + (n - (k + 1)) ≤ c; omega) ?_
  refine app_rowE hpre rfl (ys := (xs.drop (k + 1)).take (n - (k + 1))) (k := n - (k + 1)) hsrc rfl (by rw [List.length_take, List.length_drop]; omega) (by omega) (by omega) ?_
  rintro a' c' s' h' hm ⟨rfl, rfl⟩
  have hlist : xs.take k ++ (xs.drop (k + 1)).take (n - (k + 1)) = xs.eraseIdx k := by
    rw [List.eraseIdx_eq_take_drop_succ, List.take_of_length_le (l := xs.drop (k + 1)) (by rw [List.length_drop]; omega)]
  rw [hlist, show k + (n - (k + 1)) = n - 1 by omega] at h'
  have hm' : Fw.Mod (Fw.blk a') s s' := by
    rcases hm with ⟨_, hm⟩ | ⟨g, e, hg, hm⟩
    · exact hm
    · exact hm.mono (by simp)
  rw [show k + (n - (k + 1)) = n - 1 by omega]
  refine ⟨by omega, ?_⟩
  try simp only [Int.toNat_natCast]
  refine clr_tail h' rfl (by simp [Value.oneCell']) (by omega) fun s2 h2 m2 => ⟨rfl, h2, hm'.trans m2⟩
theorem c_stateX (A : Addr) (s : PH) : DCalls Try.prog 128 #[.pointer (some A)] s fun y s' => y = .pointer (some (A.add 4)) ∧ s' = s := by
  refine ok_stateX A _ s ?_
  unfold vc_stateX
  simp
theorem c_placeX {s : PH} {t : Tri} {ps : List TabP} {i k g : Nat} {p : TabP} {x : Idx} (h : Has s t ps) (hp : ps[i]? = some p) (hx : p.T.idxs[k]? = some x) (ht : t.1 = some ⟨g, 0, none⟩) (hl : p.T.idxs.length ≤ 4294967296) (st : Int) :
    DCalls Try.prog 127 #[.pointer (some ⟨g, i * 5 + 3, none⟩), .int .i64 k, .int .i64 st, .func (.func 128) #[] #[]] s fun y s' => y = .tuple #[] ∧
      ∃ ps', Has s' t ps' ∧ ps'.map (·.T) = (ps.map (·.T)).set i { p.T with idxs := placed p.T.idxs k st (x.put st) } ∧ Step (Lof t ps) (Lof t ps') s s' := by
  refine ok_placeX ⟨g, i * 5 + 3, none⟩ k st _ s ?_
  unfold vc_placeX
  have hpm := List.mem_of_getElem? hp
  have ho := h.all p hpm
  have hn : p.x.2.1 = p.T.idxs.length := ho.x.len
  have hkl := (List.getElem?_eq_some_iff.1 hx).1
  obtain ⟨g', hg', hh⟩ := h.row.at hp
  rw [ht] at hg'
  cases hg'
  have hh' : s.has (Addr.mk g (i * 5) none) (tabE.f p) := hh
  have hld : ∀ (K : Den [.slice] → W.T), K (p.x, ()) s → W.ld [.slice] ⟨g, i * 5 + 3, none⟩ K s := by
    intro K hK
    have := ld_has (j := 3) (cs := [.slice]) (y := (p.x, ())) hh' rfl hK
    rwa [add_mk] at this
  simp only [RP_ite, W.br_iff, RP_unSome, W.unSome_some, RP_ld, RP_call, RP_st, RP_ret, RP_guard]
  refine ⟨fun h0 => ?_, fun h0 => ?_⟩
  · have h0 : st = 0 := by simpa using h0
    refine hld _ ?_
    rw [wrap_succ (k := k) (by omega)]
    refine W.call_of (c_DeleteX ho.x (k := k) (by show k < p.x.2.1; omega) (by show p.x.2.1 ≤ _; omega)) ?_
    rintro _ s1 ⟨rfl, h1, m1⟩
    refine ⟨(((p.x.1, p.x.2.1 - 1, p.x.2.2), ()), ()), rfl, ?_⟩
    simp only [W.unSome_some]
    have hw := work_x ho (h.nodp hpm) (u := (p.x.1, p.x.2.1 - 1, p.x.2.2)) h1 m1 (fun g hg => .inl hg)
    refine h.store hp hw (j := 3) (vs := [.slice p.x.1 (p.x.2.1 - 1) p.x.2.2]) rfl (by simp) (by simp) ht fun s2 h2 st2 => ?_
    refine ⟨rfl, _, h2, ?_, st2⟩
    rw [List.map_set]; unfold placed; rw [if_pos h0]
  · have h0 : st ≠ 0 := by simpa using h0
    refine hld _ ?_
    refine ⟨by show (0 : Int) ≤ k ∧ (k : Int) < (p.x.2.1 : Nat); omega, ?_⟩
    obtain ⟨gc, hgc, hhc⟩ := ho.x.at hx
    rw [hgc]
    simp only [W.unSome_some, Int.toNat_natCast]
    refine callq ((some (((Addr.mk gc 0 none).add (k * 5)).add 4), ()), ()) (c_stateX _ s) rfl ?_
    simp only [W.unSome_some, add_mk, Nat.zero_add]
    refine rowE.st (E := idxE) (i := k) (j := 4) (x' := x.put st) (vs := [.int .i64 st]) ho.x hx rfl (by show 4 + 1 ≤ 5; omega) (by simp) (by simp [Value.oneCell']) hgc fun s1 h1 m1 => ?_
    have hw := work_x ho (h.nodp hpm) (u := p.x) h1 (m1.mono fun x hx => by rw [hgc]; simpa [Fw.blk] using hx) (fun g hg => .inl hg)
    obtain ⟨h2, st2⟩ := h.same hp hw rfl
    refine ⟨rfl, _, h2, ?_, st2⟩
    rw [List.map_set]; unfold placed; rw [if_neg h0]
abbrev zF : List Value := [.int .i64 0, .string ⟨#[]⟩, .int .i64 0, .int .i64 0, .int .i64 0]
theorem work_k {s s1 : PH} {p : TabP} (ho : Own s p) (hn : p.L.Nodup) {u : Tri} {xs : List For} (hr : rowE forE s1 109 u.1 u.2.1 u.2.2 xs) (hm : Fw.Mod (Fw.blk p.k.1) s s1) (hf : ∀ g ∈ Fw.blk u.1, g ∈ Fw.blk p.k.1 ∨ s g = none) :
    Work s s1 p ⟨{ p.T with keys := xs }, p.c, p.x, u⟩ := by
  have hn' := hn
  simp only [TabP.L, List.nodup_append] at hn'
  obtain ⟨n1, ⟨n2, n3, n4⟩, n5⟩ := hn'
  have e1 : ∀ g ∈ Fw.blk p.c.1, g ∉ Fw.blk p.x.1 := fun g h h2 => n5 g h g (List.mem_append.2 (.inl h2)) rfl
  have e2 : ∀ g ∈ Fw.blk p.c.1, g ∉ Fw.blk p.k.1 := fun g h h2 => n5 g h g (List.mem_append.2 (.inr h2)) rfl
  have e3 : ∀ g ∈ Fw.blk p.x.1, g ∉ Fw.blk p.k.1 := fun g h h2 => n4 g h g h2 rfl
  have e1' : ∀ g ∈ Fw.blk p.x.1, g ∉ Fw.blk p.c.1 := fun g h h2 => e1 g h2 h
  have e2' : ∀ g ∈ Fw.blk p.k.1, g ∉ Fw.blk p.c.1 := fun g h h2 => e2 g h2 h
  have e3' : ∀ g ∈ Fw.blk p.k.1, g ∉ Fw.blk p.x.1 := fun g h h2 => e3 g h2 h
  have kc := ho.c.known
  have kx := ho.x.known
  have kk := ho.k.known
  have ap : ∀ g ∈ Fw.blk u.1, g ∉ Fw.blk p.c.1 ∧ g ∉ Fw.blk p.x.1 := by
    intro g hg
    rcases hf g hg with e | e
    · exact ⟨e2' g e, e3' g e⟩
    · exact ⟨fun h => kc g h e, fun h => kx g h e⟩
  refine ⟨hm.mono fun g hg => by simp only [TabP.L, List.mem_append]; exact .inr (.inr hg), ⟨ho.c.mod hm e2, ho.x.mod hm e3, hr⟩, ?_, ?_⟩
  · simp only [TabP.L, List.nodup_append, List.mem_append]
    exact ⟨n1, ⟨n2, blk_nodup _, fun g hg y hy e => by subst e; exact (ap g hy).2 hg⟩, fun g hg y hy e => by subst e; exact Or.elim hy (e1 g hg) (fun hy => (ap g hy).1 hg)⟩
  · intro g hg
    simp only [TabP.L, List.mem_append] at hg ⊢
    rcases hg with hg | hg | hg
    · exact .inl (.inl hg)
    · exact .inl (.inr (.inl hg))
    · exact (hf g hg).imp_left fun e => .inr (.inr e)
theorem Has.app_k {s : PH} {t : Tri} {ps : List TabP} {i : Nat} {p : TabP} {K : Option Addr → Nat → Nat → W.T} (h : Has s t ps) (hp : ps[i]? = some p) (x : For) (hl : p.T.keys.length ≤ 4294967296)
    (hK : ∀ (u : Tri) s1, u.2.1 = p.k.2.1 + 1 → Work s s1 p ⟨{ p.T with keys := p.T.keys ++ [x] }, p.c, p.x, u⟩ → K u.1 u.2.1 u.2.2 s1) : W.nw (.cells (forE.f x).toArray 109 (0, 0)) (fun r => W.app 109 5 48 zF p.k.1 p.k.2.1 p.k.2.2 (Src.sl (some ⟨r, 0, none⟩) 1) K) s := by
  refine W.nw_of fun r s1 hr m1 k1 => ?_
  have hmax : maxLen = 9223372036854775807 := rfl
  have hpm := List.mem_of_getElem? hp
  have ho := h.all p hpm
  have hn : p.k.2.1 = p.T.keys.length := ho.k.len
  refine app_rowE (ho.k.mod m1 (by simp)) rfl (ys := [x]) (k := 1) (src_has (by have := has_block k1; simpa using this) rfl) rfl rfl (by omega) (by omega) ?_
  intro a' c' s2 h' hm
  refine hK (a', p.k.2.1 + 1, c') s2 rfl (work_k ho (h.nodp hpm) (u := (a', p.k.2.1 + 1, c')) h' ?_ ?_)
  · rcases hm with ⟨_, hm⟩ | ⟨g, _, _, hm⟩
    · exact (m1.mono (by simp)).trans hm
    · exact (m1.trans hm).mono (by simp)
  · rcases hm with ⟨e, hm⟩ | ⟨g, e, hg, hm⟩
    · intro g hg; dsimp only at hg; rw [e] at hg; exact .inl hg
    · intro g' hg'
      dsimp only at hg'
      rw [e] at hg'
      have : g' = g := by simpa [Fw.blk] using hg'
      subst this
      exact .inr (m1.none hg (by simp))
theorem c_DeleteF {s : PH} {a : Option Addr} {n c k : Nat} {xs : List For} (h : rowE forE s 109 a n c xs) (hk : k < n) (hl : n ≤ 4294967296) : DCalls Try.prog 145 #[.slice a n c, .int .i64 k, .int .i64 ((k + 1 : Nat) : Int)] s fun y s' =>
    y = .slice a (n - 1) c ∧ rowE forE s' 109 a (n - 1) c (xs.eraseIdx k) ∧ Fw.Mod (Fw.blk a) s s' := by
  refine ok_DeleteF a n c k ((k + 1 : Nat) : Int) _ s ?_
  unfold vc_DeleteF
  have hn : n = xs.length := h.len
  have hle := h.le
  have hmax : maxLen = 9223372036854775807 := rfl
  have hcm := h.max
  simp only [RP_guard, W.guard_iff, RP_ite, W.br_iff, RP_app, RP_ret, RP_clr]
  refine ⟨by omega, fun e => ?_, fun _ => ?_⟩
  · have e : (k : Int) = ((k + 1 : Nat) : Int) := by simpa using e
    omega
  refine ⟨by omega, by omega, ?_⟩
  have hpre : rowE forE s 109 a k c (xs.take k) := by
    have := h.shrink (m := k) (c' := c) (by omega) (by omega) (Nat.le_refl _)
    have e : (if a = none then none else a) = a := by cases a <;> simp
    rwa [e] at this
  have hsrc := h.src (i := k + 1) (m := n - (k + 1)) (by omega)
  have he : (if c = 0 then a else Option.map (fun x => x.add 0) a) = a := by split <;> simp [map_add0]
  simp only [Int.toNat_natCast, Nat.sub_zero, he]
  refine app_room (by show k + (n - (k + 1)) ≤ c; omega) ?_
  refine app_rowE hpre rfl (ys := (xs.drop (k + 1)).take (n - (k + 1))) (k := n - (k + 1)) hsrc rfl (by rw [List.length_take, List.length_drop]; omega) (by omega) (by omega) ?_
  rintro a' c' s' h' hm ⟨rfl, rfl⟩
  have hlist : xs.take k ++ (xs.drop (k + 1)).take (n - (k + 1)) = xs.eraseIdx k := by
    rw [List.eraseIdx_eq_take_drop_succ, List.take_of_length_le (l := xs.drop (k + 1)) (by rw [List.length_drop]; omega)]
  rw [hlist, show k + (n - (k + 1)) = n - 1 by omega] at h'
  have hm' : Fw.Mod (Fw.blk a') s s' := by
    rcases hm with ⟨_, hm⟩ | ⟨g, e, hg, hm⟩
    · exact hm
    · exact hm.mono (by simp)
  rw [show k + (n - (k + 1)) = n - 1 by omega]
  refine ⟨by omega, ?_⟩
  try simp only [Int.toNat_natCast]
  refine clr_tail h' rfl (by simp [Value.oneCell']) (by omega) fun s2 h2 m2 => ⟨rfl, h2, hm'.trans m2⟩
theorem c_stateF (A : Addr) (s : PH) : DCalls Try.prog 131 #[.pointer (some A)] s fun y s' => y = .pointer (some (A.add 4)) ∧ s' = s := by
  refine ok_stateF A _ s ?_
  unfold vc_stateF
  simp
theorem c_placeF {s : PH} {t : Tri} {ps : List TabP} {i k g : Nat} {p : TabP} {x : For} (h : Has s t ps) (hp : ps[i]? = some p) (hx : p.T.keys[k]? = some x) (ht : t.1 = some ⟨g, 0, none⟩) (hl : p.T.keys.length ≤ 4294967296) (st : Int) :
    DCalls Try.prog 130 #[.pointer (some ⟨g, i * 5 + 4, none⟩), .int .i64 k, .int .i64 st, .func (.func 131) #[] #[]] s fun y s' => y = .tuple #[] ∧
      ∃ ps', Has s' t ps' ∧ ps'.map (·.T) = (ps.map (·.T)).set i { p.T with keys := placed p.T.keys k st (x.put st) } ∧ Step (Lof t ps) (Lof t ps') s s' := by
  refine ok_placeF ⟨g, i * 5 + 4, none⟩ k st _ s ?_
  unfold vc_placeF
  have hpm := List.mem_of_getElem? hp
  have ho := h.all p hpm
  have hn : p.k.2.1 = p.T.keys.length := ho.k.len
  have hkl := (List.getElem?_eq_some_iff.1 hx).1
  obtain ⟨g', hg', hh⟩ := h.row.at hp
  rw [ht] at hg'
  cases hg'
  have hh' : s.has (Addr.mk g (i * 5) none) (tabE.f p) := hh
  have hld : ∀ (K : Den [.slice] → W.T), K (p.k, ()) s → W.ld [.slice] ⟨g, i * 5 + 4, none⟩ K s := by
    intro K hK
    have := ld_has (j := 4) (cs := [.slice]) (y := (p.k, ())) hh' rfl hK
    rwa [add_mk] at this
  simp only [RP_ite, W.br_iff, RP_unSome, W.unSome_some, RP_ld, RP_call, RP_st, RP_ret, RP_guard]
  refine ⟨fun h0 => ?_, fun h0 => ?_⟩
  · have h0 : st = 0 := by simpa using h0
    refine hld _ ?_
    rw [wrap_succ (k := k) (by omega)]
    refine W.call_of (c_DeleteF ho.k (k := k) (by show k < p.k.2.1; omega) (by show p.k.2.1 ≤ _; omega)) ?_
    rintro _ s1 ⟨rfl, h1, m1⟩
    refine ⟨(((p.k.1, p.k.2.1 - 1, p.k.2.2), ()), ()), rfl, ?_⟩
    simp only [W.unSome_some]
    have hw := work_k ho (h.nodp hpm) (u := (p.k.1, p.k.2.1 - 1, p.k.2.2)) h1 m1 (fun g hg => .inl hg)
    refine h.store hp hw (j := 4) (vs := [.slice p.k.1 (p.k.2.1 - 1) p.k.2.2]) rfl (by simp) (by simp) ht fun s2 h2 st2 => ?_
    refine ⟨rfl, _, h2, ?_, st2⟩
    rw [List.map_set]; unfold placed; rw [if_pos h0]
  · have h0 : st ≠ 0 := by simpa using h0
    refine hld _ ?_
    refine ⟨by show (0 : Int) ≤ k ∧ (k : Int) < (p.k.2.1 : Nat); omega, ?_⟩
    obtain ⟨gc, hgc, hhc⟩ := ho.k.at hx
    rw [hgc]
    simp only [W.unSome_some, Int.toNat_natCast]
    refine callq ((some (((Addr.mk gc 0 none).add (k * 5)).add 4), ()), ()) (c_stateF _ s) rfl ?_
    simp only [W.unSome_some, add_mk, Nat.zero_add]
    refine rowE.st (E := forE) (i := k) (j := 4) (x' := x.put st) (vs := [.int .i64 st]) ho.k hx rfl (by show 4 + 1 ≤ 5; omega) (by simp) (by simp [Value.oneCell']) hgc fun s1 h1 m1 => ?_
    have hw := work_k ho (h.nodp hpm) (u := p.k) h1 (m1.mono fun x hx => by rw [hgc]; simpa [Fw.blk] using hx) (fun g hg => .inl hg)
    obtain ⟨h2, st2⟩ := h.same hp hw rfl
    refine ⟨rfl, _, h2, ?_, st2⟩
    rw [List.map_set]; unfold placed; rw [if_neg h0]
end Go.Proofs.Ythepfbcgpbkbdaa
end
section
set_option linter.unusedVariables false
set_option linter.unusedSimpArgs false
set_option maxHeartbeats 1000000
set_option maxRecDepth 100000
namespace Go.Proofs.Ythepfbcgpbkbdaa
open Fw Go
attribute [-simp] Fw.W.ld_iff Fw.W.st_iff
theorem seek_cases {α : Type} (p : α → Bool) (l : List α) : (seek p l 0 = -1 ∧ ∀ x ∈ l, p x = false) ∨ ∃ (j : Nat) (x : α), seek p l 0 = (j : Int) ∧ l[j]? = some x ∧ p x = true ∧ ∀ j' y, j' < j → l[j']? = some y → p y = false := by
  rcases seek_spec (p := p) l 0 with h | ⟨j, x, h1, h2, h3, h4⟩
  · exact .inl h
  · exact .inr ⟨j, x, by simpa using h1, h2, h3, h4⟩
theorem seek_any {α : Type} (p : α → Bool) (l : List α) : decide (0 ≤ seek p l 0) = l.any p := by
  rcases seek_cases p l with ⟨h1, h2⟩ | ⟨j, x, h1, h2, h3, _⟩
  · rw [h1]
    have : l.any p = false := by rw [List.any_eq_false]; intro x hx; simp [h2 x hx]
    rw [this]; (first | done | rfl)
  · rw [h1]
    have : l.any p = true := List.any_eq_true.2 ⟨x, List.mem_of_getElem? h2, h3⟩
    rw [this]; exact decide_eq_true (by omega)
theorem seek_here {α : Type} {p : α → Bool} {l : List α} {k : Nat} {x : α} (hx : l[k]? = some x) (hp : p x = true) : seek p l 0 = (k : Int) ↔ ∀ y ∈ l.take k, p y = false := by
  rcases seek_cases p l with ⟨h1, h2⟩ | ⟨j, y, h1, h2, h3, h4⟩
  · have := h2 x (List.mem_of_getElem? hx); rw [hp] at this; cases this
  · rw [h1]
    constructor
    · intro e
      have e : j = k := by omega
      subst e
      intro z hz
      obtain ⟨i, hi⟩ := List.mem_iff_getElem?.1 hz
      rw [List.getElem?_take] at hi
      split at hi
      · exact h4 i z ‹_› hi
      · cases hi
    · intro h
      rcases Nat.lt_trichotomy j k with q | q | q
      · have := h y (List.mem_iff_getElem?.2 ⟨j, by rw [List.getElem?_take_of_lt q]; exact h2⟩)
        rw [h3] at this; cases this
      · rw [q]
      · have := h4 k x q hx
        rw [hp] at this; cases this
theorem pubAt_lt {T : Tab} {name : ByteArray} {s : PH} {t : Tri} : pubAt T name < 0 ∨ ∃ (j : Nat) (c : Col), pubAt T name = (j : Int) ∧ T.cols[j]? = some c ∧ c.state = 3 := by
  unfold pubAt colAt
  rcases seek_cases (fun c : Col => decide (c.name = name)) T.cols with ⟨h1, h2⟩ | ⟨j, c, h1, h2, h3, h4⟩
  · rw [h1]; left; simp
  · rw [h1, if_pos (by omega)]
    simp only [Int.toNat_natCast, h2]
    by_cases h : c.state = 3
    · rw [if_pos h]; exact .inr ⟨j, c, rfl, h2, h⟩
    · rw [if_neg h]; left; omega
theorem c_public {s : PH} {A : Addr} {p : TabP} (hA : s.has A (tabE.f p)) (h : Sl colE s p.c p.T.cols) (name : ByteArray) : DCalls Try.prog 126 #[.pointer (some A), .string name] s fun y s' => y = .int .i64 (pubAt p.T name) ∧ s' = s := by
  refine ok_public A name _ s ?_
  unfold vc_public
  have hlen : p.c.2.1 = p.T.cols.length := h.len
  simp only [RP_unSome, W.unSome_some, RP_ld]
  refine ld_has (j := 2) hA (cs := [.slice]) (y := (p.c, ())) rfl ?_
  simp only [RP_call]
  refine callq ((colAt p.T name, ()), ()) (c_findC h.el h.few name) rfl ?_
  rcases seek_cases (fun c : Col => decide (c.name = name)) p.T.cols with ⟨h1, h2⟩ | ⟨j, c, h1, h2, h3, h4⟩
  · have e : colAt p.T name = -1 := h1
    unfold pubAt
    simp [e, W.br_iff]
  · have e : colAt p.T name = (j : Int) := h1
    have hj := (List.getElem?_eq_some_iff.1 h2).1
    obtain ⟨ad, had, hh⟩ := h.el.at_enc h2
    unfold pubAt
    rw [e, if_pos (by omega)]
    simp only [Int.toNat_natCast, h2, RP_ite, W.br_iff, decide_eq_true_eq, decide_eq_false_iff_not, RP_ret, W.ret_iff, RP_guard, W.guard_iff, RP_unSome, W.unSome_some, RP_ld]
    refine ⟨fun _ => ?_, fun h => by omega⟩
    refine ld_has (j := 2) hA (cs := [.slice]) (y := (p.c, ())) rfl ?_
    refine ⟨by show (0 : Int) ≤ j ∧ (j : Int) < (p.c.2.1 : Nat); omega, ?_⟩
    rw [had]
    simp only [W.unSome_some]
    refine ld_has (j := 3) hh (cs := [.int .i64]) (y := (c.state, ())) rfl ?_
    simp only [W.br_iff, W.ret_iff]
    refine ⟨fun h => ?_, fun h => ?_⟩
    · have h : c.state ≠ 3 := by simpa using h
      rw [if_neg h]; exact ⟨rfl, trivial⟩
    · have h : c.state = 3 := by simpa using h
      rw [if_pos h]; exact ⟨rfl, trivial⟩
abbrev oneN (cols : List Col) (i : Nat) (c : Col) : Bool := decide (seek (fun y : Col => decide (y.name = c.name)) cols 0 = i)
theorem dbl_yes {cols : List Col} {k : Nat} {c : Col} (hc : cols[k]? = some c) (h : c.name ∈ (cols.take k).map (·.name)) : dbl cols = true := by
  have hk := (List.getElem?_eq_some_iff.1 hc).1
  have h1 : condI (oneN cols) cols k = false := by
    rw [condI_at hc]
    refine decide_eq_false fun e => ?_
    have := (seek_here (p := fun y : Col => decide (y.name = c.name)) hc (by simp)).1 e
    obtain ⟨y, hy, hn⟩ := List.mem_map.1 h
    have := this y hy
    simp [hn] at this
  unfold dbl
  have := upTo_no (c := condI (oneN cols) cols) h1 hk
  rw [this]; (first | done | rfl)
theorem dbl_step {cols : List Col} {k : Nat} {c : Col} (hc : cols[k]? = some c) (hu : upTo (condI (oneN cols) cols) k = true) (h : c.name ∉ (cols.take k).map (·.name)) : upTo (condI (oneN cols) cols) (k + 1) = true := by
  rw [upTo_succ, hu, condI_at hc, Bool.true_and]
  refine decide_eq_true ((seek_here (p := fun y : Col => decide (y.name = c.name)) hc (by simp)).2 fun y hy => ?_)
  refine decide_eq_false fun e => h (List.mem_map.2 ⟨y, hy, e⟩)
theorem dbl_no {cols : List Col} (h : upTo (condI (oneN cols) cols) cols.length = true) : dbl cols = false := by
  unfold dbl; rw [h]; (first | done | rfl)
theorem c_doubled {s : PH} {t : Tri} {xs : List Col} (h : Sl colE s t xs) : DCalls Try.prog 116 #[.slice t.1 t.2.1 t.2.2] s fun y s' => y = .bool (dbl xs) ∧ s' = s := by
  obtain ⟨a, an, ac⟩ := t
  refine DCalls.quiet (ok_doubled a an ac _ s ?_)
  unfold vc_doubled
  have hlen : an = xs.length := h.len
  have hfew := h.few
  simp only [RP_nw]
  refine W.nw_of fun m s1 hm m1 k1 => ?_
  simp only [RP_loop]
  refine ⟨fun z s' => ∃ k : Nat, z = ((some m, ()), ((a, an, ac), ()), ((an : Int), ()), ((k : Int), ()), ()) ∧ k ≤ an ∧ Fw.Mod [m] s1 s' ∧ upTo (condI (oneN xs) xs) k = true ∧
    ∃ f, isMap strKey boolV s' m f ∧ ∀ n, f.lookup n = if n ∈ (xs.take k).map (·.name) then some true else none, fun z _ => an - z.2.2.2.1.1.toNat,
    ⟨0, rfl, Nat.zero_le _, Mod.refl _ _, rfl, [], ⟨#[], 0, k1, rfl, Go.MapKept.stamped_empty 0⟩, by simp⟩, ?_⟩
  rintro _ s2 ⟨k, rfl, hk, m2, hu, f, hf, hs⟩
  have m02 : Fw.Mod [] s s2 := m1.fresh m2 (by simp [hm])
  have h2 := h.mono m02.le
  simp only [RP_ite, W.br_iff, decide_eq_true_eq, decide_eq_false_iff_not]
  refine ⟨fun hlt => ?_, fun hge => ?_⟩
  · have hlt : k < an := by omega
    obtain ⟨x, hx⟩ : ∃ x, xs[k]? = some x := ⟨_, List.getElem?_eq_getElem (by omega)⟩
    obtain ⟨ad, had, hh⟩ := h2.el.at_enc hx
    dsimp only at had
    subst had
    simp only [RP_guard, W.guard_iff, RP_unSome, W.unSome_some, RP_ld, Int.toNat_natCast]
    refine ⟨by omega, ?_⟩
    refine ld_has_z hh (y := (x.id, x.name, x.kind, x.state, x.dflt.kind, x.dflt.n, x.dflt.s, ())) rfl ?_
    refine look_of (ke := strKey) hf (key := x.name) ?_
    rw [hs x.name]
    by_cases hn : x.name ∈ (xs.take k).map (·.name)
    · rw [if_pos hn]
      refine ⟨(true, ()), rfl, ?_⟩
      refine (W.br_iff _ _ _ _).2 ⟨fun _ => ⟨by rw [dbl_yes hx hn], m02⟩, fun e => by cases e⟩
    · rw [if_neg hn]
      refine ⟨(false, ()), rfl, ?_⟩
      refine (W.br_iff _ _ _ _).2 ⟨fun e => (by cases e), fun _ => ?_⟩
      refine mset_of (ke := strKey) hf (v := true) fun o ho => ?_
      rw [wrap_succ (k := k) (by omega)]
      refine ⟨⟨k + 1, rfl, hlt, m2.updLater (.inl (by simp)), dbl_step hx hu hn, _, ho, fun n => ?_⟩, ?_⟩
      · have e : (xs.take (k + 1)).map (·.name) = (xs.take k).map (·.name) ++ [x.name] := by rw [List.take_add_one, hx]; simp
        rw [lookup_aset, hs n, e]
        dsimp only
        by_cases e : n = x.name
        · subst e; simp
        · have : (n == x.name) = false := by simpa using e
          rw [this]
          simp [e]
      · simp only [Int.toNat_natCast]; omega
  · have hke : k = xs.length := by omega
    subst hke
    exact ⟨by rw [dbl_no hu], m02⟩
theorem c_colsX (x : Idx) {p : Nat} {s : PH} {id : Int} (hp : s p = some (.cells #[.int .i64 id] 3 (0, 0))) : DCalls Try.prog 120 #[idxV x, cp p] s fun y s' => y = .bool (decide (x.column = id)) ∧ s' = s := by
  refine ok_colsX x.id x.name x.column x.unique x.state p _ s ?_
  unfold vc_colsX
  simp [W.ld_at hp, beq_dec]
theorem c_IndexFuncXc {a : Option Addr} {an ac p : Nat} {s : PH} {id : Int} {xs : List Idx} (h : elems (Rd.enc idxE) s a an xs) (hn : xs.length ≤ 4294967296) (hp : s p = some (.cells #[.int .i64 id] 3 (0, 0))) :
    DCalls Try.prog 105 #[.slice a an ac, .func (.func 120) #[] #[cp p]] s fun y s' => y = .int .i64 (seek (fun x => decide (x.column = id)) xs 0) ∧ s' = s := by
  refine ok_IndexFuncXc a an ac p _ s ?_
  unfold vc_IndexFuncXc
  have hlen := h.1
  simp only [RP_loop]
  refine ⟨fun z s' => ∃ k : Nat, z = (((an : Int), ()), ((k : Int), ()), ()) ∧ k ≤ an ∧ s' = s ∧ seek (fun x => decide (x.column = id)) (xs.drop k) k = seek (fun x => decide (x.column = id)) xs 0, fun z _ => an - z.2.1.1.toNat, ⟨0, rfl, Nat.zero_le _, rfl, rfl⟩, ?_⟩
  rintro _ s ⟨k, rfl, hk, rfl, hs⟩
  simp [W.br_iff]
  refine ⟨fun hlt => ⟨hlt, ?_⟩, fun hge => ?_⟩
  · obtain ⟨x, hx⟩ : ∃ x, xs[k]? = some x := ⟨_, List.getElem?_eq_getElem (by omega)⟩
    obtain ⟨ad, rfl, hh⟩ := h.at_enc hx
    simp only [W.unSome_some]
    refine ld_has_z hh (y := (x.id, x.name, x.column, x.unique, x.state, ())) rfl ?_
    refine W.call_of (c_colsX x hp) ?_
    rintro _ s ⟨rfl, rfl⟩
    refine ⟨((decide (x.column = id), ()), ()), rfl, ?_⟩
    rw [seek_step hx] at hs
    simp [W.br_iff, wrap_succ (k := k) (by omega)]
    refine ⟨fun he => ?_, fun he => ⟨⟨k + 1, by simp, hlt, ?_⟩, by omega⟩⟩
    · rw [← hs, if_pos (by simpa using he)]
    · rw [← hs, if_neg (by simpa using he)]
  · rw [← hs, seek_end (by omega)]
theorem c_ContainsX {t : Tri} {p : Nat} {s : PH} {id : Int} {xs : List Idx} (h : Sl idxE s t xs) (hp : s p = some (.cells #[.int .i64 id] 3 (0, 0))) :
    DCalls Try.prog 119 #[.slice t.1 t.2.1 t.2.2, .func (.func 120) #[] #[cp p]] s fun y s' => y = .bool (xs.any fun x => decide (x.column = id)) ∧ s' = s := by
  refine ok_ContainsX t.1 t.2.1 t.2.2 p _ s ?_
  unfold vc_ContainsX
  simp only [RP_callQ, RP_call]
  refine callq ((seek (fun x : Idx => decide (x.column = id)) xs 0, ()), ()) (c_IndexFuncXc h.el h.few hp) rfl ?_
  simp only [RP_ret, W.ret_iff, and_true]
  rw [← seek_any]
theorem c_colsF (x : For) {p : Nat} {s : PH} {id : Int} (hp : s p = some (.cells #[.int .i64 id] 3 (0, 0))) : DCalls Try.prog 122 #[forV x, cp p] s fun y s' => y = .bool (decide (x.column = id)) ∧ s' = s := by
  refine ok_colsF x.id x.name x.column x.parent x.state p _ s ?_
  unfold vc_colsF
  simp [W.ld_at hp, beq_dec]
theorem c_IndexFuncFc {a : Option Addr} {an ac p : Nat} {s : PH} {id : Int} {xs : List For} (h : elems (Rd.enc forE) s a an xs) (hn : xs.length ≤ 4294967296) (hp : s p = some (.cells #[.int .i64 id] 3 (0, 0))) :
    DCalls Try.prog 106 #[.slice a an ac, .func (.func 122) #[] #[cp p]] s fun y s' => y = .int .i64 (seek (fun x => decide (x.column = id)) xs 0) ∧ s' = s := by
  refine ok_IndexFuncFc a an ac p _ s ?_
  unfold vc_IndexFuncFc
  have hlen := h.1
  simp only [RP_loop]
  refine ⟨fun z s' => ∃ k : Nat, z = (((an : Int), ()), ((k : Int), ()), ()) ∧ k ≤ an ∧ s' = s ∧ seek (fun x => decide (x.column = id)) (xs.drop k) k = seek (fun x => decide (x.column = id)) xs 0, fun z _ => an - z.2.1.1.toNat, ⟨0, rfl, Nat.zero_le _, rfl, rfl⟩, ?_⟩
  rintro _ s ⟨k, rfl, hk, rfl, hs⟩
  simp [W.br_iff]
  refine ⟨fun hlt => ⟨hlt, ?_⟩, fun hge => ?_⟩
  · obtain ⟨x, hx⟩ : ∃ x, xs[k]? = some x := ⟨_, List.getElem?_eq_getElem (by omega)⟩
    obtain ⟨ad, rfl, hh⟩ := h.at_enc hx
    simp only [W.unSome_some]
    refine ld_has_z hh (y := (x.id, x.name, x.column, x.parent, x.state, ())) rfl ?_
    refine W.call_of (c_colsF x hp) ?_
    rintro _ s ⟨rfl, rfl⟩
    refine ⟨((decide (x.column = id), ()), ()), rfl, ?_⟩
    rw [seek_step hx] at hs
    simp [W.br_iff, wrap_succ (k := k) (by omega)]
    refine ⟨fun he => ?_, fun he => ⟨⟨k + 1, by simp, hlt, ?_⟩, by omega⟩⟩
    · rw [← hs, if_pos (by simpa using he)]
    · rw [← hs, if_neg (by simpa using he)]
  · rw [← hs, seek_end (by omega)]
theorem c_ContainsF {t : Tri} {p : Nat} {s : PH} {id : Int} {xs : List For} (h : Sl forE s t xs) (hp : s p = some (.cells #[.int .i64 id] 3 (0, 0))) :
    DCalls Try.prog 121 #[.slice t.1 t.2.1 t.2.2, .func (.func 122) #[] #[cp p]] s fun y s' => y = .bool (xs.any fun x => decide (x.column = id)) ∧ s' = s := by
  refine ok_ContainsF t.1 t.2.1 t.2.2 p _ s ?_
  unfold vc_ContainsF
  simp only [RP_callQ, RP_call]
  refine callq ((seek (fun x : For => decide (x.column = id)) xs 0, ()), ()) (c_IndexFuncFc h.el h.few hp) rfl ?_
  simp only [RP_ret, W.ret_iff, and_true]
  rw [← seek_any]
end Go.Proofs.Ythepfbcgpbkbdaa
end
section
set_option linter.unusedVariables false
set_option linter.unusedSimpArgs false
set_option maxHeartbeats 1000000
set_option maxRecDepth 100000
namespace Go.Proofs.Ythepfbcgpbkbdaa
open Fw Go
attribute [-simp] Fw.W.ld_iff Fw.W.st_iff
structure Sch.Bd (S : Sch) : Prop where
  tabs : S.tabs.length ≤ 6
  each : ∀ T ∈ S.tabs, 1 ≤ T.cols.length ∧ T.cols.length ≤ 8 ∧ T.idxs.length ≤ 8 ∧ T.keys.length ≤ 8
  last : 0 ≤ S.last ∧ S.last ≤ 1125899906842624
/-- the schema that the program works on, its own at b -/
structure Gs (s : PH) (b : Nat) (S : Sch) (t : Tri) (ps : List TabP) : Prop where
  cell : s b = some (.cells #[.int .i64 S.version, .int .i64 S.last, .slice t.1 t.2.1 t.2.2] 24 (0, 0))
  has : Has s t ps
  nb : b ∉ Lof t ps
  eq : S.tabs = ps.map (·.T)
def OutG (b : Nat) (r : Res) (L : List Nat) (s : PH) (y : Value) (s' : PH) : Prop := match r with
  | .error e => y = .int .i64 e ∧ Fw.Mod (b :: L) s s'
  | .ok S' => y = .int .i64 0 ∧ ∃ t' ps', Gs s' b S' t' ps' ∧ Step (b :: L) (b :: Lof t' ps') s s'
theorem Gs.mod {s s' : PH} {b : Nat} {S : Sch} {t : Tri} {ps : List TabP} {M : List Nat} (h : Gs s b S t ps) (hm : Fw.Mod M s s') (hb : b ∉ M) (hd : ∀ g ∈ Lof t ps, g ∉ M) : Gs s' b S t ps :=
  ⟨hm.at h.cell hb, h.has.mod hm hd, h.nb, h.eq⟩
theorem Gs.sch {s : PH} {b : Nat} {S : Sch} {t : Tri} {ps : List TabP} (h : Gs s b S t ps) (hb : S.Bd) : SchIs s t S ps :=
  h.has.is h.eq (by have := hb.tabs; omega) fun T hT => by
    obtain ⟨_, a, b, c⟩ := hb.each T hT
    exact ⟨by omega, by omega, by omega⟩
theorem Gs.then {s s1 s3 : PH} {b : Nat} {S S' : Sch} {t : Tri} {ps ps' : List TabP} (h : Gs s b S t ps) (m1 : Fw.Mod [b] s s1) (hc : s1 b = some (.cells #[.int .i64 S'.version, .int .i64 S'.last, .slice t.1 t.2.1 t.2.2] 24 (0, 0)))
    (h3 : Has s3 t ps') (st : Step (Lof t ps) (Lof t ps') s1 s3) (he : S'.tabs = ps'.map (·.T)) : Gs s3 b S' t ps' ∧ Step (b :: Lof t ps) (b :: Lof t ps') s s3 := by
  refine ⟨⟨st.mod.at hc h.nb, h3, fun hb => ?_, he⟩, ⟨(m1.mono (by simp)).trans (st.mod.mono fun x hx => List.mem_cons_of_mem _ hx), fun x hx => ?_⟩⟩
  · rcases st.new b hb with e | e
    · exact h.nb e
    · rw [hc] at e; cases e
  · rcases List.mem_cons.1 hx with rfl | hx
    · exact .inl (by simp)
    · rcases st.new x hx with e | e
      · exact .inl (List.mem_cons_of_mem _ e)
      · by_cases hxb : x = b
        · exact .inl (by simp [hxb])
        · exact .inr (m1.none e (by simpa using hxb))
theorem Gs.tabHas {s : PH} {t : Tri} {ps : List TabP} {g i : Nat} {p : TabP} (h : Has s t ps) (hp : ps[i]? = some p) (ht : t.1 = some ⟨g, 0, none⟩) : s.has ⟨g, i * 5, none⟩ (tabE.f p) := by
  obtain ⟨g', hg', hh⟩ := h.row.at hp
  rw [ht] at hg'; cases hg'
  exact hh
theorem ld_hasm {g o : Nat} {l : List Value} {cs : List CT} {y : Den cs} {k : Den cs → W.T} {s : PH} {j : Nat} (h : s.has ⟨g, o, none⟩ l) (hl : (l.drop j).take cs.length = vals cs y) (hk : k y s) : W.ld cs ⟨g, o + j, none⟩ k s := by
  have := ld_has (j := j) h hl hk
  rwa [add_mk] at this
theorem set_map {ps : List TabP} {i : Nat} {p' : TabP} : (ps.set i p').map (·.T) = (ps.map (·.T)).set i p'.T := by rw [List.map_set]
section
variable {s : PH} {b : Nat} {S : Sch} {t : Tri} {ps : List TabP} {i g : Nat} {p : TabP}
theorem c_columns (h : Gs s b S t ps) (hb : S.Bd) (hp : ps[i]? = some p) (ht : t.1 = some ⟨g, 0, none⟩) (D : Ddl) (u : Tri) (st : Int) :
    DCalls Try.prog 78 #[cp b, .pointer (some ⟨g, i * 5, none⟩), ddlV D u, .int .i64 st] s (OutG b (colTurn S i p.T D st) (Lof t ps) s) := by
  obtain ⟨ua, un, uc⟩ := u
  refine ok_columns b ⟨g, i * 5, none⟩ D.kind D.table D.name D.column D.parent D.unique D.type D.dflt.kind D.dflt.n D.dflt.s ua un uc st _ s ?_
  unfold vc_columns
  have hSch := h.sch hb
  have hpm := List.mem_of_getElem? hp
  have hP := hSch.all p hpm
  have hT : p.T ∈ S.tabs := by rw [h.eq]; exact List.mem_map_of_mem hpm
  obtain ⟨b1, b2, b3, b4⟩ := hb.each p.T hT
  have hA := Gs.tabHas h.has hp ht
  have hcn : p.c.2.1 = p.T.cols.length := hP.c.len
  have hcell := h.cell
  simp only [RP_join, RP_ite, RP_call, RP_callQ, RP_ret, RP_nw, RP_app, RP_st, RP_ld, RP_unSome, RP_guard, RP_loop, RP_still, RP_clr, RP_look, RP_mset, W.unSome_some]
  refine ld_has (j := 2) hA (cs := [.slice]) (y := (p.c, ())) rfl ?_
  refine W.callQ_of ((colAt p.T D.column, ()), ()) (c_findC hP.c.el hP.c.few D.column) rfl ?_
  obtain ⟨R, hR⟩ : ∃ R, OutG b (colTurn S i p.T D st) (Lof t ps) s = R := ⟨_, rfl⟩
  have hret : ∀ {e : Int} {s'}, colTurn S i p.T D st = .error e → Fw.Mod (b :: Lof t ps) s s' → R (.int .i64 e) s' := fun e1 m => by
    rw [← hR, e1]; exact ⟨rfl, m⟩
  rw [hR]
  have hlast : IntKind.i64.wrap (S.last + 1) = S.last + 1 := wrap_in (by have := hb.last; omega) (by have := hb.last; omega)
  refine W.join_gen (fun z s' => z = ((D.kind, D.table, D.name, D.column, D.parent, D.unique, D.type, D.dflt.kind, D.dflt.n, D.dflt.s, (ua, un, uc), ()), (colAt p.T D.column, ()), ()) ∧ s' = s ∧
    ∃ (j : Nat) (x : Col), colAt p.T D.column = (j : Int) ∧ p.T.cols[j]? = some x ∧ ¬ (D.kind = 4 ∧ x.state = 3)) ?_ ?_
  rotate_left
  · intro J hJ
    refine W.join_gen (fun z s' => z = ((D.kind, D.table, D.name, D.column, D.parent, D.unique, D.type, D.dflt.kind, D.dflt.n, D.dflt.s, (ua, un, uc), ()), (colAt p.T D.column, ()), (decide (D.kind = 4 ∧ colAt p.T D.column < 0), ()), ()) ∧ s' = s) ?_ ?_
    rotate_left
    · intro J6 hJ6
      simp only [W.br_iff]
      refine ⟨fun h4 => hJ6 _ _ ⟨?_, rfl⟩, fun h4 => hJ6 _ _ ⟨?_, rfl⟩⟩
      · have h4 : D.kind = 4 := by simpa using h4
        simp [h4]
      · have h4 : D.kind ≠ 4 := by simpa using h4
        simp [h4]
    rintro _ s0 ⟨rfl, rfl⟩
    simp only [W.br_iff, decide_eq_true_eq, decide_eq_false_iff_not]
    refine ⟨fun hadd => ?_, fun hadd => ?_⟩
    · have hTurn : colTurn S i p.T D st = if freshE D.column p.T.cols.length ≠ 0 then .error (freshE D.column p.T.cols.length)
          else if (typed D.type && fits D.dflt D.type) = false then .error 154
          else if st = 0 then .error 1
          else .ok ⟨S.version, S.last + 1, S.tabs.set i { p.T with cols := p.T.cols ++ [⟨S.last + 1, D.column, D.type, st, D.dflt⟩] }⟩ := by
        unfold colTurn; rw [if_pos hadd]
      try simp only [W.unSome_some]
      refine ld_has (j := 2) hA (cs := [.slice]) (y := (p.c, ())) rfl ?_
      refine W.callQ_of ((freshE D.column p.c.2.1, ()), ()) (c_fresh D.column p.c.2.1 _) rfl ?_
      rw [hcn]
      simp only [W.br_iff]
      refine ⟨fun hf => ?_, fun hf => ?_⟩
      · have hf : freshE D.column p.T.cols.length ≠ 0 := by simpa using hf
        exact hret (by rw [hTurn, if_pos hf]) (Mod.refl _ _)
      have hf : freshE D.column p.T.cols.length = 0 := by simpa using hf
      rw [if_neg (by rw [hf]; simp)] at hTurn
      refine W.join_gen (fun z s' => z = ((D.kind, D.table, D.name, D.column, D.parent, D.unique, D.type, D.dflt.kind, D.dflt.n, D.dflt.s, (ua, un, uc), ()), ()) ∧ s' = s0 ∧ (typed D.type && fits D.dflt D.type) = true) ?_ ?_
      rotate_left
      · intro J7 hJ7
        refine callq ((typed D.type, ()), ()) (c_kind D.type _) rfl ?_
        simp only [W.br_iff]
        refine ⟨fun hk => ?_, fun hk => ?_⟩
        · have hk : typed D.type = false := by simpa using hk
          exact hret (by rw [hTurn, if_pos (by rw [hk]; (first | done | rfl))]) (Mod.refl _ _)
        have hk : typed D.type = true := by simpa using hk
        refine callq ((fits D.dflt D.type, ()), ()) (c_fits D.dflt D.type _) rfl ?_
        simp only [W.br_iff]
        refine ⟨fun hk2 => ?_, fun hk2 => ?_⟩
        · have hk2 : fits D.dflt D.type = false := by simpa using hk2
          exact hret (by rw [hTurn, if_pos (by rw [hk, hk2]; (first | done | rfl))]) (Mod.refl _ _)
        have hk2 : fits D.dflt D.type = true := by simpa using hk2
        exact hJ7 _ _ ⟨rfl, rfl, by rw [hk, hk2]; (first | done | rfl)⟩
      rintro _ s1 ⟨rfl, rfl, hk⟩
      rw [if_neg (by rw [hk]; simp)] at hTurn
      simp only [W.br_iff]
      refine ⟨fun h0 => ?_, fun h0 => ?_⟩
      · have h0 : st = 0 := by simpa using h0
        exact hret (by rw [hTurn, if_pos h0]) (Mod.refl _ _)
      have h0 : st ≠ 0 := by simpa using h0
      rw [if_neg h0] at hTurn
      have hnb : b ∉ Lof t ps := h.nb
      simp [W.ld_at hcell, W.st_at hcell, hlast, -W.nw_iff]
      have m1 : Fw.Mod [b] s1 (s1.upd b (.cells #[.int .i64 S.version, .int .i64 (S.last + 1), .slice t.1 t.2.1 t.2.2] 24 (0, 0))) := Mod.upd (by simp)
      have hc1 : (s1.upd b (.cells #[.int .i64 S.version, .int .i64 (S.last + 1), .slice t.1 t.2.1 t.2.2] 24 (0, 0))) b = some (.cells #[.int .i64 S.version, .int .i64 (S.last + 1), .slice t.1 t.2.1 t.2.2] 24 (0, 0)) := PH.upd_same _ _ _
      generalize s1.upd b (.cells #[.int .i64 S.version, .int .i64 (S.last + 1), .slice t.1 t.2.1 t.2.2] 24 (0, 0)) = s2 at m1 hc1 ⊢
      have hH2 : Has s2 t ps := h.has.mod m1 (fun x hx => by simpa using fun e : x = b => hnb (e ▸ hx))
      have hA2 := Gs.tabHas hH2 hp ht
      refine ld_hasm (j := 2) hA2 (cs := [.slice]) (y := (p.c, ())) rfl ?_
      simp [W.ld_at hc1, -W.nw_iff]
      refine hH2.app_c hp ⟨S.last + 1, D.column, D.type, st, D.dflt⟩ (by omega) ?_
      intro u s3 hu hw
      simp only [W.unSome_some, add_mk]
      refine hH2.store hp hw (j := 2) (vs := [.slice u.1 u.2.1 u.2.2]) rfl (by simp) (by simp) ht fun s4 h4 st4 => ?_
      obtain ⟨hG, hS⟩ := h.then (S' := ⟨S.version, S.last + 1, S.tabs.set i { p.T with cols := p.T.cols ++ [⟨S.last + 1, D.column, D.type, st, D.dflt⟩] }⟩) m1 hc1 h4 st4 (by dsimp only; rw [set_map, h.eq])
      rw [← hR, hTurn]
      exact ⟨rfl, t, _, hG, hS⟩
    · have hTurn : colTurn S i p.T D st = if colAt p.T D.column < 0 then .error 151 else match p.T.cols[(colAt p.T D.column).toNat]? with
          | none => .error 151
          | some x => if D.kind = 4 ∧ x.state = 3 then .error 152
            else if D.kind = 5 ∧ used p.T (colAt p.T D.column) x = true then .error 155
            else .ok ⟨S.version, S.last, S.tabs.set i { p.T with cols := placed p.T.cols (colAt p.T D.column).toNat st (x.put st) }⟩ := by
        unfold colTurn; rw [if_neg hadd]; (first | done | rfl)
      have hneg : colAt p.T D.column < 0 → R (.int .i64 151) s0 := fun e => hret (by rw [hTurn, if_pos e]) (Mod.refl _ _)
      have hpos : ¬ colAt p.T D.column < 0 → ∃ (j : Nat) (x : Col), colAt p.T D.column = (j : Int) ∧ p.T.cols[j]? = some x := by
        intro e
        rcases seek_cases (fun c : Col => decide (c.name = D.column)) p.T.cols with ⟨h1, _⟩ | ⟨j, x, h1, h2, _⟩
        · exact absurd h1 (by unfold colAt at e; omega)
        · exact ⟨j, x, h1, h2⟩
      refine ⟨fun h4 => ?_, fun h4 => ⟨hneg, fun hn => ?_⟩⟩
      · have h4 : D.kind = 4 := by simpa using h4
        have hn : ¬ colAt p.T D.column < 0 := fun e => hadd ⟨h4, e⟩
        obtain ⟨j, x, hj, hx⟩ := hpos hn
        have hjl := (List.getElem?_eq_some_iff.1 hx).1
        simp only [W.unSome_some]
        refine ld_has (j := 2) hA (cs := [.slice]) (y := (p.c, ())) rfl ?_
        rw [hj]
        refine ⟨by show (0 : Int) ≤ j ∧ (j : Int) < (p.c.2.1 : Nat); omega, ?_⟩
        obtain ⟨ad, had, hh⟩ := hP.c.el.at_enc hx
        rw [had]
        simp only [W.unSome_some, Int.toNat_natCast]
        refine ld_has (j := 3) hh (cs := [.int .i64]) (y := (x.state, ())) rfl ?_
        rw [hj, if_neg (by omega)] at hTurn
        simp only [Int.toNat_natCast, hx] at hTurn
        simp only [W.br_iff, decide_eq_true_eq, decide_eq_false_iff_not]
        refine ⟨fun h3 => ?_, fun h3 => ⟨fun e => by omega, fun _ => ?_⟩⟩
        · have h3 : x.state = 3 := by simpa using h3
          exact hret (by rw [hTurn, if_pos ⟨h4, h3⟩]) (Mod.refl _ _)
        · have h3 : x.state ≠ 3 := by simpa using h3
          refine hJ _ _ ⟨by rw [hj], rfl, j, x, hj, hx, fun e => h3 e.2⟩
      · have h4 : D.kind ≠ 4 := by simpa using h4
        obtain ⟨j, x, hj, hx⟩ := hpos hn
        exact hJ _ _ ⟨rfl, rfl, j, x, hj, hx, fun e => h4 e.1⟩
  rintro _ s0 ⟨rfl, rfl, j, x, hj, hx, hno⟩
  have hjl := (List.getElem?_eq_some_iff.1 hx).1
  have hTurn : colTurn S i p.T D st = if D.kind = 5 ∧ used p.T j x = true then .error 155
      else .ok ⟨S.version, S.last, S.tabs.set i { p.T with cols := placed p.T.cols j st (x.put st) }⟩ := by
    unfold colTurn
    rw [hj, if_neg (by omega), if_neg (by omega)]
    simp only [Int.toNat_natCast, hx]
    rw [if_neg hno]
  try simp only [W.unSome_some]
  refine ld_has (j := 2) hA (cs := [.slice]) (y := (p.c, ())) rfl ?_
  rw [hj]
  refine ⟨by show (0 : Int) ≤ j ∧ (j : Int) < (p.c.2.1 : Nat); omega, ?_⟩
  obtain ⟨ad, had, hh⟩ := hP.c.el.at_enc hx
  rw [had]
  simp only [W.unSome_some, Int.toNat_natCast]
  refine ld_has (j := 0) hh (cs := [.int .i64]) (y := (x.id, ())) rfl ?_
  refine W.nw_of fun r s1 hr m1 k1 => ?_
  rw [W.st_at k1]
  refine ⟨by simp, by simp, by simp [Value.oneCell'], ?_⟩
  have m2 : Fw.Mod [] s0 (s1.upd r (.cells (setL #[.int .i64 0] 0 [.int .i64 x.id]) 3 (0, 0))) := m1.updLater (.inr hr)
  have k2 : (s1.upd r (.cells (setL #[.int .i64 0] 0 [.int .i64 x.id]) 3 (0, 0))) r = some (.cells #[.int .i64 x.id] 3 (0, 0)) := PH.upd_same _ _ _
  show W.br _ _ _ (s1.upd r (.cells (setL #[.int .i64 0] 0 [.int .i64 x.id]) 3 (0, 0)))
  generalize s1.upd r (.cells (setL #[.int .i64 0] 0 [.int .i64 x.id]) 3 (0, 0)) = s2 at m2 k2 ⊢
  have hG2 := h.mod m2 (by simp) (by simp)
  have hS2 := hG2.sch hb
  have hP2 := hS2.all p hpm
  have hA2 := Gs.tabHas hG2.has hp ht
  have fin : ¬ (D.kind = 5 ∧ used p.T j x = true) → W.call Try.prog 123 #[.pointer (some ⟨g, i * 5 + 2, none⟩), .int .i64 j, .int .i64 st, .func (.func 124) #[] #[]] (true, []) (fun _ => W.ret R (.int .i64 0)) s2 := by
    intro hu
    refine W.call_of (c_placeC hG2.has hp hx ht (by omega) st) ?_
    rintro _ s3 ⟨rfl, ps', h3, he, st3⟩
    refine ⟨(), rfl, ?_⟩
    rw [if_neg hu] at hTurn
    obtain ⟨hG, hS⟩ := h.then (S' := ⟨S.version, S.last, S.tabs.set i { p.T with cols := placed p.T.cols j st (x.put st) }⟩) (m2.mono (by simp)) hG2.cell h3 st3 (by dsimp only; rw [he, h.eq])
    rw [← hR, hTurn]
    exact ⟨rfl, t, ps', hG, hS⟩
  have h155 : D.kind = 5 → used p.T j x = true → R (.int .i64 155) s2 := fun h5 hu => hret (by rw [hTurn, if_pos ⟨h5, hu⟩]) (m2.mono (by simp))
  simp only [W.br_iff, add_mk, W.unSome_some]
  refine ⟨fun h0 => ?_, fun h0 => ?_⟩
  · have h0 : (j : Int) = 0 := by simpa using h0
    have hu : used p.T j x = true := by unfold used; rw [h0]; (first | done | rfl)
    refine ⟨fun h5 => h155 (by simpa using h5) hu, fun h5 => fin fun e => ?_⟩
    have h5 : D.kind ≠ 5 := by simpa using h5
    exact h5 e.1
  have h0 : (j : Int) ≠ 0 := by simpa using h0
  refine ld_hasm (j := 3) hA2 (cs := [.slice]) (y := (p.x, ())) rfl ?_
  refine callq ((p.T.idxs.any fun y => decide (y.column = x.id), ()), ()) (c_ContainsX hP2.x k2) rfl ?_
  simp only [W.br_iff, W.unSome_some, add_mk]
  refine ⟨fun hx1 => ?_, fun hx1 => ?_⟩
  · have hu : used p.T j x = true := by unfold used; rw [show (p.T.idxs.any fun y => decide (y.column = x.id)) = true from hx1]; simp
    refine ⟨fun h5 => h155 (by simpa using h5) hu, fun h5 => fin fun e => ?_⟩
    have h5 : D.kind ≠ 5 := by simpa using h5
    exact h5 e.1
  refine ld_hasm (j := 4) hA2 (cs := [.slice]) (y := (p.k, ())) rfl ?_
  refine callq ((p.T.keys.any fun y => decide (y.column = x.id), ()), ()) (c_ContainsF hP2.k k2) rfl ?_
  simp only [W.br_iff, W.unSome_some, add_mk]
  refine ⟨fun h5 => ⟨fun hk => h155 (by simpa using h5) ?_, fun hk => fin fun e => ?_⟩, fun h5 => fin fun e => ?_⟩
  · unfold used; rw [show (p.T.keys.any fun y => decide (y.column = x.id)) = true from hk]; simp
  · have := e.2
    unfold used at this
    rw [show (p.T.idxs.any fun y => decide (y.column = x.id)) = false from hx1, show (p.T.keys.any fun y => decide (y.column = x.id)) = false from hk, decide_eq_false h0] at this
    cases this
  · have h5 : D.kind ≠ 5 := by simpa using h5
    exact h5 e.1
end
end Go.Proofs.Ythepfbcgpbkbdaa
end
section
set_option linter.unusedVariables false
set_option linter.unusedSimpArgs false
set_option maxHeartbeats 1000000
set_option maxRecDepth 100000
namespace Go.Proofs.Ythepfbcgpbkbdaa
open Fw Go
attribute [-simp] Fw.W.ld_iff Fw.W.st_iff
theorem b_last {s : PH} {b : Nat} {v l : Int} {a : Option Addr} {n c : Nat} (h : s b = some (.cells #[.int .i64 v, .int .i64 l, .slice a n c] 24 (0, 0))) {K : Den [.int .i64] → W.T} (hK : K (l, ()) s) : W.unSome (some (Addr.mk b 0 none)) (fun p => W.ld [.int .i64] (p.add 1) K) s := by
  simp only [W.unSome_some, add_mk, Nat.zero_add]
  rw [W.ld_at h]
  exact ⟨(l, ()), by simp, hK⟩
theorem b_tabs {s : PH} {b : Nat} {v l : Int} {a : Option Addr} {n c : Nat} (h : s b = some (.cells #[.int .i64 v, .int .i64 l, .slice a n c] 24 (0, 0))) {K : Den [.slice] → W.T} (hK : K ((a, n, c), ()) s) : W.unSome (some (Addr.mk b 0 none)) (fun p => W.ld [.slice] (p.add 2) K) s := by
  simp only [W.unSome_some, add_mk, Nat.zero_add]
  rw [W.ld_at h]
  exact ⟨((a, n, c), ()), by simp, hK⟩
theorem b_bump {s : PH} {b : Nat} {v l : Int} {a : Option Addr} {n c : Nat} (h : s b = some (.cells #[.int .i64 v, .int .i64 l, .slice a n c] 24 (0, 0))) (hl : IntKind.i64.wrap (l + 1) = l + 1) {K : W.T}
    (hK : ∀ s2, Fw.Mod [b] s s2 → s2 b = some (.cells #[.int .i64 v, .int .i64 (l + 1), .slice a n c] 24 (0, 0)) → K s2) :
    W.unSome (some (Addr.mk b 0 none)) (fun p => W.ld [.int .i64] (p.add 1) fun x => W.unSome (some (Addr.mk b 0 none)) fun p' => W.st (p'.add 1) [.int .i64 (IntKind.i64.wrap (x.1 + 1))] K) s := by
  refine b_last h ?_
  simp only [W.unSome_some, add_mk, Nat.zero_add, hl]
  rw [W.st_at h]
  exact ⟨by simp, by simp, by simp [Value.oneCell'], hK _ (Mod.upd (by simp)) (PH.upd_same _ _ _)⟩
section
variable {s : PH} {b : Nat} {S : Sch} {t : Tri} {ps : List TabP} {i g : Nat} {p : TabP}
theorem c_indexes (h : Gs s b S t ps) (hb : S.Bd) (hp : ps[i]? = some p) (ht : t.1 = some ⟨g, 0, none⟩) (D : Ddl) (u : Tri) (st : Int) :
    DCalls Try.prog 79 #[cp b, .pointer (some ⟨g, i * 5, none⟩), ddlV D u, .int .i64 st] s (OutG b (idxTurn S i p.T D st) (Lof t ps) s) := by
  obtain ⟨ua, un, uc⟩ := u
  refine ok_indexes b ⟨g, i * 5, none⟩ D.kind D.table D.name D.column D.parent D.unique D.type D.dflt.kind D.dflt.n D.dflt.s ua un uc st _ s ?_
  unfold vc_indexes
  have hSch := h.sch hb
  have hpm := List.mem_of_getElem? hp
  have hP := hSch.all p hpm
  have hT : p.T ∈ S.tabs := by rw [h.eq]; exact List.mem_map_of_mem hpm
  obtain ⟨b1, b2, b3, b4⟩ := hb.each p.T hT
  have hA := Gs.tabHas h.has hp ht
  have hcn : p.c.2.1 = p.T.cols.length := hP.c.len
  have hln : p.x.2.1 = p.T.idxs.length := hP.x.len
  have hcell := h.cell
  simp only [RP_join, RP_ite, RP_call, RP_callQ, RP_ret, RP_nw, RP_app, RP_st, RP_ld, RP_unSome, RP_guard, RP_loop, RP_still, RP_clr, RP_look, RP_mset, W.unSome_some]
  refine ld_has (j := 3) hA (cs := [.slice]) (y := (p.x, ())) rfl ?_
  refine W.callQ_of ((idxAt p.T D.name, ()), ()) (c_findX hP.x.el hP.x.few D.name) rfl ?_
  obtain ⟨R, hR⟩ : ∃ R, OutG b (idxTurn S i p.T D st) (Lof t ps) s = R := ⟨_, rfl⟩
  have hret : ∀ {e : Int} {s'}, idxTurn S i p.T D st = .error e → Fw.Mod (b :: Lof t ps) s s' → R (.int .i64 e) s' := fun e1 m => by
    rw [← hR, e1]; exact ⟨rfl, m⟩
  rw [hR]
  have hlast : IntKind.i64.wrap (S.last + 1) = S.last + 1 := wrap_in (by have := hb.last; omega) (by have := hb.last; omega)
  refine W.join_gen (fun z s' => z = ((D.kind, D.table, D.name, D.column, D.parent, D.unique, D.type, D.dflt.kind, D.dflt.n, D.dflt.s, (ua, un, uc), ()), (idxAt p.T D.name, ()), (decide (D.kind = 2 ∧ idxAt p.T D.name < 0), ()), ()) ∧ s' = s) ?_ ?_
  rotate_left
  · intro J6 hJ6
    simp only [W.br_iff]
    refine ⟨fun h4 => hJ6 _ _ ⟨?_, rfl⟩, fun h4 => hJ6 _ _ ⟨?_, rfl⟩⟩
    · have h4 : D.kind = 2 := by simpa using h4
      simp [h4]
    · have h4 : D.kind ≠ 2 := by simpa using h4
      simp [h4]
  rintro _ s0 ⟨rfl, rfl⟩
  simp only [W.br_iff, decide_eq_true_eq, decide_eq_false_iff_not]
  refine ⟨fun hadd => ?_, fun hadd => ?_⟩
  · simp only [W.unSome_some]
    refine ld_has (j := 3) hA (cs := [.slice]) (y := (p.x, ())) rfl ?_
    refine W.callQ_of ((freshE D.name p.x.2.1, ()), ()) (c_fresh D.name p.x.2.1 _) rfl ?_
    rw [hln]
    simp only [W.br_iff, W.unSome_some]
    refine ⟨fun hf => ?_, fun hf => ?_⟩
    · have hf : freshE D.name p.T.idxs.length ≠ 0 := by simpa using hf
      exact hret (by unfold idxTurn; rw [if_pos hadd, if_pos hf]) (Mod.refl _ _)
    have hf : freshE D.name p.T.idxs.length = 0 := by simpa using hf
    have hnf : ¬ (freshE D.name p.T.idxs.length ≠ 0) := by rw [hf]; simp
    have hnb : b ∉ Lof t ps := h.nb
    refine callq ((pubAt p.T D.column, ()), ()) (c_public hA hP.c D.column) rfl ?_
    simp only [W.br_iff, decide_eq_true_eq, decide_eq_false_iff_not]
    refine ⟨fun hp1 => hret (by unfold idxTurn; rw [if_pos hadd, if_neg hnf, if_pos hp1]) (Mod.refl _ _), fun hp1 => ⟨fun h0 => hret (by unfold idxTurn; rw [if_pos hadd, if_neg hnf, if_neg hp1, if_pos (by simpa using h0)]) (Mod.refl _ _), fun h0 => ?_⟩⟩
    have h0 : st ≠ 0 := by simpa using h0
    obtain ⟨j, c, hj, hc, _⟩ := (pubAt_lt (T := p.T) (name := D.column) (s := s0) (t := t)).resolve_left hp1
    have hjl := (List.getElem?_eq_some_iff.1 hc).1
    have hTurn : idxTurn S i p.T D st = .ok ⟨S.version, S.last + 1, S.tabs.set i { p.T with idxs := p.T.idxs ++ [⟨S.last + 1, D.name, c.id, D.unique, st⟩] }⟩ := by
      unfold idxTurn
      rw [if_pos hadd, if_neg hnf, if_neg hp1, if_neg h0, hj]
      simp only [Int.toNat_natCast, hc]
    rw [hj]
    refine b_bump hcell hlast fun s2 m1 hc1 => ?_
    have hH2 : Has s2 t ps := h.has.mod m1 (fun x hx => by simpa using fun e : x = b => hnb (e ▸ hx))
    have hA2 := Gs.tabHas hH2 hp ht
    have hP2 := (hH2.is h.eq (by have := hb.tabs; omega) (fun T hT => by obtain ⟨_, a, b, c⟩ := hb.each T hT; exact ⟨by omega, by omega, by omega⟩)).all p hpm
    simp only [W.unSome_some]
    refine ld_has (j := 3) hA2 (cs := [.slice]) (y := (p.x, ())) rfl ?_
    refine b_last hc1 ?_
    simp only [W.unSome_some]
    refine ld_has (j := 2) hA2 (cs := [.slice]) (y := (p.c, ())) rfl ?_
    refine ⟨by show (0 : Int) ≤ j ∧ (j : Int) < (p.c.2.1 : Nat); omega, ?_⟩
    obtain ⟨ad, had, hh⟩ := hP2.c.el.at_enc hc
    rw [had]
    simp only [W.unSome_some, Int.toNat_natCast]
    refine ld_has (j := 0) hh (cs := [.int .i64]) (y := (c.id, ())) rfl ?_
    refine hH2.app_x hp ⟨S.last + 1, D.name, c.id, D.unique, st⟩ (by omega) ?_
    intro u s3 hu hw
    simp only [W.unSome_some, add_mk]
    refine hH2.store hp hw (j := 3) (vs := [.slice u.1 u.2.1 u.2.2]) rfl (by simp) (by simp) ht fun s4 h4 st4 => ?_
    obtain ⟨hG, hS⟩ := h.then (S' := ⟨S.version, S.last + 1, S.tabs.set i { p.T with idxs := p.T.idxs ++ [⟨S.last + 1, D.name, c.id, D.unique, st⟩] }⟩) m1 hc1 h4 st4 (by dsimp only; rw [set_map, h.eq])
    rw [← hR, hTurn]
    exact ⟨rfl, t, _, hG, hS⟩
  · have hneg : idxAt p.T D.name < 0 → R (.int .i64 153) s0 := fun e => hret (by unfold idxTurn; rw [if_neg hadd, if_pos e]) (Mod.refl _ _)
    have hpos : ¬ idxAt p.T D.name < 0 → ∃ (j : Nat) (x : Idx), idxAt p.T D.name = (j : Int) ∧ p.T.idxs[j]? = some x := by
      intro e
      rcases seek_cases (fun c : Idx => decide (c.name = D.name)) p.T.idxs with ⟨h1, _⟩ | ⟨j, x, h1, h2, _⟩
      · exact absurd h1 (by unfold idxAt at e; omega)
      · exact ⟨j, x, h1, h2⟩
    have fin : ∀ (j : Nat) (x : Idx), idxAt p.T D.name = (j : Int) → p.T.idxs[j]? = some x → ¬ (D.kind = 2 ∧ x.state = 3) → W.call Try.prog 127 #[.pointer (some ⟨g, i * 5 + 3, none⟩), .int .i64 j, .int .i64 st, .func (.func 128) #[] #[]] (true, []) (fun _ => W.ret R (.int .i64 0)) s0 := by
      intro j x hj hx hu
      refine W.call_of (c_placeX h.has hp hx ht (by omega) st) ?_
      rintro _ s3 ⟨rfl, ps', h3, he, st3⟩
      refine ⟨(), rfl, ?_⟩
      have hTurn : idxTurn S i p.T D st = .ok ⟨S.version, S.last, S.tabs.set i { p.T with idxs := placed p.T.idxs j st (x.put st) }⟩ := by
        unfold idxTurn
        rw [if_neg hadd, hj, if_neg (by omega)]
        simp only [Int.toNat_natCast, hx]
        rw [if_neg hu]
      obtain ⟨hG, hS⟩ := h.then (S' := ⟨S.version, S.last, S.tabs.set i { p.T with idxs := placed p.T.idxs j st (x.put st) }⟩) (Mod.refl _ _) h.cell h3 st3 (by dsimp only; rw [he, h.eq])
      rw [← hR, hTurn]
      exact ⟨rfl, t, ps', hG, hS⟩
    refine ⟨fun h4 => ?_, fun h4 => ⟨hneg, fun hn => ?_⟩⟩
    · have h4 : D.kind = 2 := by simpa using h4
      have hn : ¬ idxAt p.T D.name < 0 := fun e => hadd ⟨h4, e⟩
      obtain ⟨j, x, hj, hx⟩ := hpos hn
      have hjl := (List.getElem?_eq_some_iff.1 hx).1
      simp only [W.unSome_some]
      refine ld_has (j := 3) hA (cs := [.slice]) (y := (p.x, ())) rfl ?_
      rw [hj]
      refine ⟨by show (0 : Int) ≤ j ∧ (j : Int) < (p.x.2.1 : Nat); omega, ?_⟩
      obtain ⟨ad, had, hh⟩ := hP.x.el.at_enc hx
      rw [had]
      simp only [W.unSome_some, Int.toNat_natCast]
      refine ld_has (j := 4) hh (cs := [.int .i64]) (y := (x.state, ())) rfl ?_
      simp only [W.br_iff, decide_eq_true_eq, decide_eq_false_iff_not, add_mk, W.unSome_some]
      refine ⟨fun h3 => ?_, fun h3 => ⟨fun e => by omega, fun _ => ?_⟩⟩
      · have h3 : x.state = 3 := by simpa using h3
        refine hret ?_ (Mod.refl _ _)
        unfold idxTurn
        rw [if_neg hadd, hj, if_neg (by omega)]
        simp only [Int.toNat_natCast, hx]
        rw [if_pos ⟨h4, h3⟩]
      · have h3 : x.state ≠ 3 := by simpa using h3
        exact fin j x hj hx (fun e => h3 e.2)
    · have h4 : D.kind ≠ 2 := by simpa using h4
      obtain ⟨j, x, hj, hx⟩ := hpos hn
      simp only [W.unSome_some, add_mk, hj]
      exact fin j x hj hx (fun e => h4 e.1)
theorem c_foreigns (h : Gs s b S t ps) (hb : S.Bd) (hp : ps[i]? = some p) (ht : t.1 = some ⟨g, 0, none⟩) (D : Ddl) (u : Tri) (st : Int) :
    DCalls Try.prog 80 #[cp b, .pointer (some ⟨g, i * 5, none⟩), ddlV D u, .int .i64 st] s (OutG b (keyTurn S i p.T D st) (Lof t ps) s) := by
  obtain ⟨ua, un, uc⟩ := u
  refine ok_foreigns b ⟨g, i * 5, none⟩ D.kind D.table D.name D.column D.parent D.unique D.type D.dflt.kind D.dflt.n D.dflt.s ua un uc st _ s ?_
  unfold vc_foreigns
  have hSch := h.sch hb
  have hpm := List.mem_of_getElem? hp
  have hP := hSch.all p hpm
  have hT : p.T ∈ S.tabs := by rw [h.eq]; exact List.mem_map_of_mem hpm
  obtain ⟨b1, b2, b3, b4⟩ := hb.each p.T hT
  have hA := Gs.tabHas h.has hp ht
  have hcn : p.c.2.1 = p.T.cols.length := hP.c.len
  have hln : p.k.2.1 = p.T.keys.length := hP.k.len
  have hcell := h.cell
  simp only [RP_join, RP_ite, RP_call, RP_callQ, RP_ret, RP_nw, RP_app, RP_st, RP_ld, RP_unSome, RP_guard, RP_loop, RP_still, RP_clr, RP_look, RP_mset, W.unSome_some]
  refine ld_has (j := 4) hA (cs := [.slice]) (y := (p.k, ())) rfl ?_
  refine W.callQ_of ((keyAt p.T D.name, ()), ()) (c_findF hP.k.el hP.k.few D.name) rfl ?_
  obtain ⟨R, hR⟩ : ∃ R, OutG b (keyTurn S i p.T D st) (Lof t ps) s = R := ⟨_, rfl⟩
  have hret : ∀ {e : Int} {s'}, keyTurn S i p.T D st = .error e → Fw.Mod (b :: Lof t ps) s s' → R (.int .i64 e) s' := fun e1 m => by
    rw [← hR, e1]; exact ⟨rfl, m⟩
  rw [hR]
  have hlast : IntKind.i64.wrap (S.last + 1) = S.last + 1 := wrap_in (by have := hb.last; omega) (by have := hb.last; omega)
  refine W.join_gen (fun z s' => z = ((D.kind, D.table, D.name, D.column, D.parent, D.unique, D.type, D.dflt.kind, D.dflt.n, D.dflt.s, (ua, un, uc), ()), (keyAt p.T D.name, ()), (decide (D.kind = 6 ∧ keyAt p.T D.name < 0), ()), ()) ∧ s' = s) ?_ ?_
  rotate_left
  · intro J6 hJ6
    simp only [W.br_iff]
    refine ⟨fun h4 => hJ6 _ _ ⟨?_, rfl⟩, fun h4 => hJ6 _ _ ⟨?_, rfl⟩⟩
    · have h4 : D.kind = 6 := by simpa using h4
      simp [h4]
    · have h4 : D.kind ≠ 6 := by simpa using h4
      simp [h4]
  rintro _ s0 ⟨rfl, rfl⟩
  simp only [W.br_iff, decide_eq_true_eq, decide_eq_false_iff_not]
  refine ⟨fun hadd => ?_, fun hadd => ?_⟩
  · simp only [W.unSome_some]
    refine ld_has (j := 4) hA (cs := [.slice]) (y := (p.k, ())) rfl ?_
    refine W.callQ_of ((freshE D.name p.k.2.1, ()), ()) (c_fresh D.name p.k.2.1 _) rfl ?_
    rw [hln]
    simp only [W.br_iff, W.unSome_some]
    refine ⟨fun hf => ?_, fun hf => ?_⟩
    · have hf : freshE D.name p.T.keys.length ≠ 0 := by simpa using hf
      exact hret (by unfold keyTurn; rw [if_pos hadd, if_pos hf]) (Mod.refl _ _)
    have hf : freshE D.name p.T.keys.length = 0 := by simpa using hf
    have hnf : ¬ (freshE D.name p.T.keys.length ≠ 0) := by rw [hf]; simp
    have hnb : b ∉ Lof t ps := h.nb
    refine W.callQ_of ((pubAt p.T D.column, ()), ()) (c_public hA hP.c D.column) rfl ?_
    refine b_tabs hcell ?_
    refine W.callQ_of ((tabAt S D.parent, ()), ()) (c_findT' hSch D.parent) rfl ?_
    simp only [W.br_iff, decide_eq_true_eq, decide_eq_false_iff_not]
    refine ⟨fun hp1 => hret (by unfold keyTurn; rw [if_pos hadd, if_neg hnf, if_pos hp1]) (Mod.refl _ _), fun hp1 => ⟨fun hp2 => hret (by unfold keyTurn; rw [if_pos hadd, if_neg hnf, if_neg hp1, if_pos hp2]) (Mod.refl _ _), fun hp2 => ?_⟩⟩
    obtain ⟨j, c, hj, hc, _⟩ := (pubAt_lt (T := p.T) (name := D.column) (s := s0) (t := t)).resolve_left hp1
    have hjl := (List.getElem?_eq_some_iff.1 hc).1
    obtain ⟨j2, P, hj2, hP2, _⟩ := (seek_cases (fun T : Tab => decide (T.name = D.parent)) S.tabs).resolve_left (fun e => by have := e.1; unfold tabAt at hp2; omega)
    have hj2 : tabAt S D.parent = (j2 : Int) := hj2
    obtain ⟨pp, hpp, hppT⟩ : ∃ pp, ps[j2]? = some pp ∧ pp.T = P := by
      rw [h.eq, List.getElem?_map] at hP2
      cases hq : ps[j2]? with
      | none => rw [hq] at hP2; cases hP2
      | some pp => rw [hq] at hP2; exact ⟨pp, rfl, Option.some.inj hP2⟩
    have hj2l := (List.getElem?_eq_some_iff.1 hpp).1
    have hPm := List.mem_of_getElem? hpp
    have hPP := hSch.all pp hPm
    have hPT : P ∈ S.tabs := List.mem_of_getElem? hP2
    obtain ⟨d1, _⟩ := hb.each P hPT
    subst hppT
    have hpcn : pp.c.2.1 = pp.T.cols.length := hPP.c.len
    have htn : t.2.1 = ps.length := h.has.row.len
    obtain ⟨c0, cs, hcs⟩ : ∃ c0 cs, pp.T.cols = c0 :: cs := by
      cases hc : pp.T.cols with
      | nil => rw [hc] at d1; simp at d1
      | cons a b => exact ⟨a, b, rfl⟩
    have hTurn : keyTurn S i p.T D st = if c.kind ≠ c0.kind then .error 154 else if st = 0 then .error 1 else .ok ⟨S.version, S.last + 1, S.tabs.set i { p.T with keys := p.T.keys ++ [⟨S.last + 1, D.name, c.id, pp.T.id, st⟩] }⟩ := by
      unfold keyTurn
      rw [if_pos hadd, if_neg hnf, if_neg hp1, if_neg hp2, hj, hj2]
      simp only [Int.toNat_natCast, hc, hP2, hcs]
    rw [hj, hj2]
    simp only [W.unSome_some]
    refine ld_has (j := 2) hA (cs := [.slice]) (y := (p.c, ())) rfl ?_
    refine ⟨by show (0 : Int) ≤ j ∧ (j : Int) < (p.c.2.1 : Nat); omega, ?_⟩
    obtain ⟨ad, had, hh⟩ := hP.c.el.at_enc hc
    rw [had]
    simp only [W.unSome_some, Int.toNat_natCast]
    refine ld_has (j := 2) hh (cs := [.int .i64]) (y := (c.kind, ())) rfl ?_
    refine b_tabs hcell ?_
    have hA3 := Gs.tabHas h.has hpp ht
    refine ⟨by show (0 : Int) ≤ j2 ∧ (j2 : Int) < (t.2.1 : Nat); omega, ?_⟩
    dsimp only
    rw [ht]
    simp only [W.unSome_some, add_mk, Nat.zero_add, Int.toNat_natCast]
    refine ld_hasm (j := 2) hA3 (cs := [.slice]) (y := (pp.c, ())) rfl ?_
    refine ⟨by show (0 : Int) ≤ 0 ∧ (0 : Int) < (pp.c.2.1 : Nat); omega, ?_⟩
    obtain ⟨ad5, had5, hh5⟩ := hPP.c.el.at_enc (i := 0) (x := c0) (by rw [hcs]; (first | done | rfl))
    rw [had5]
    simp only [W.unSome_some]
    rw [Nat.zero_mul] at hh5
    refine ld_has (j := 2) hh5 (cs := [.int .i64]) (y := (c0.kind, ())) rfl ?_
    simp only [W.br_iff]
    refine ⟨fun hk => hret (by rw [hTurn, if_pos (by simpa using hk)]) (Mod.refl _ _), fun hk => ⟨fun h0 => hret (by rw [hTurn, if_neg (by simpa using hk), if_pos (by simpa using h0)]) (Mod.refl _ _), fun h0 => ?_⟩⟩
    rw [if_neg (by simpa using hk), if_neg (by simpa using h0)] at hTurn
    refine b_bump hcell hlast fun s2 m1 hc1 => ?_
    have hH2 : Has s2 t ps := h.has.mod m1 (fun x hx => by simpa using fun e : x = b => hnb (e ▸ hx))
    have hA2 := Gs.tabHas hH2 hp ht
    have hA4 := Gs.tabHas hH2 hpp ht
    have hSch2 : SchIs s2 t S ps := hH2.is h.eq (by have := hb.tabs; omega) (fun T hT => by obtain ⟨_, a, b, c⟩ := hb.each T hT; exact ⟨by omega, by omega, by omega⟩)
    have hP2' := hSch2.all p hpm
    simp only [W.unSome_some]
    refine ld_has (j := 4) hA2 (cs := [.slice]) (y := (p.k, ())) rfl ?_
    refine b_last hc1 ?_
    simp only [W.unSome_some]
    refine ld_has (j := 2) hA2 (cs := [.slice]) (y := (p.c, ())) rfl ?_
    refine ⟨by show (0 : Int) ≤ j ∧ (j : Int) < (p.c.2.1 : Nat); omega, ?_⟩
    obtain ⟨ad6, had6, hh6⟩ := hP2'.c.el.at_enc hc
    rw [had6]
    simp only [W.unSome_some, Int.toNat_natCast]
    refine ld_has (j := 0) hh6 (cs := [.int .i64]) (y := (c.id, ())) rfl ?_
    refine b_tabs hc1 ?_
    refine ⟨by show (0 : Int) ≤ j2 ∧ (j2 : Int) < (t.2.1 : Nat); omega, ?_⟩
    dsimp only
    rw [ht]
    simp only [W.unSome_some, add_mk, Nat.zero_add, Int.toNat_natCast]
    refine ld_hasm (j := 0) hA4 (cs := [.int .i64]) (y := (pp.T.id, ())) rfl ?_
    refine hH2.app_k hp ⟨S.last + 1, D.name, c.id, pp.T.id, st⟩ (by omega) ?_
    intro u s3 hu hw
    simp only [W.unSome_some, add_mk]
    refine hH2.store hp hw (j := 4) (vs := [.slice u.1 u.2.1 u.2.2]) rfl (by simp) (by simp) ht fun s4 h4 st4 => ?_
    obtain ⟨hG, hS⟩ := h.then (S' := ⟨S.version, S.last + 1, S.tabs.set i { p.T with keys := p.T.keys ++ [⟨S.last + 1, D.name, c.id, pp.T.id, st⟩] }⟩) m1 hc1 h4 st4 (by dsimp only; rw [set_map, h.eq])
    rw [← hR, hTurn]
    exact ⟨rfl, t, _, hG, hS⟩
  · have hneg : keyAt p.T D.name < 0 → R (.int .i64 153) s0 := fun e => hret (by unfold keyTurn; rw [if_neg hadd, if_pos e]) (Mod.refl _ _)
    have hpos : ¬ keyAt p.T D.name < 0 → ∃ (j : Nat) (x : For), keyAt p.T D.name = (j : Int) ∧ p.T.keys[j]? = some x := by
      intro e
      rcases seek_cases (fun c : For => decide (c.name = D.name)) p.T.keys with ⟨h1, _⟩ | ⟨j, x, h1, h2, _⟩
      · exact absurd h1 (by unfold keyAt at e; omega)
      · exact ⟨j, x, h1, h2⟩
    have fin : ∀ (j : Nat) (x : For), keyAt p.T D.name = (j : Int) → p.T.keys[j]? = some x → ¬ (D.kind = 6 ∧ x.state = 3) → W.call Try.prog 130 #[.pointer (some ⟨g, i * 5 + 4, none⟩), .int .i64 j, .int .i64 st, .func (.func 131) #[] #[]] (true, []) (fun _ => W.ret R (.int .i64 0)) s0 := by
      intro j x hj hx hu
      refine W.call_of (c_placeF h.has hp hx ht (by omega) st) ?_
      rintro _ s3 ⟨rfl, ps', h3, he, st3⟩
      refine ⟨(), rfl, ?_⟩
      have hTurn : keyTurn S i p.T D st = .ok ⟨S.version, S.last, S.tabs.set i { p.T with keys := placed p.T.keys j st (x.put st) }⟩ := by
        unfold keyTurn
        rw [if_neg hadd, hj, if_neg (by omega)]
        simp only [Int.toNat_natCast, hx]
        rw [if_neg hu]
      obtain ⟨hG, hS⟩ := h.then (S' := ⟨S.version, S.last, S.tabs.set i { p.T with keys := placed p.T.keys j st (x.put st) }⟩) (Mod.refl _ _) h.cell h3 st3 (by dsimp only; rw [he, h.eq])
      rw [← hR, hTurn]
      exact ⟨rfl, t, ps', hG, hS⟩
    refine ⟨fun h4 => ?_, fun h4 => ⟨hneg, fun hn => ?_⟩⟩
    · have h4 : D.kind = 6 := by simpa using h4
      have hn : ¬ keyAt p.T D.name < 0 := fun e => hadd ⟨h4, e⟩
      obtain ⟨j, x, hj, hx⟩ := hpos hn
      have hjl := (List.getElem?_eq_some_iff.1 hx).1
      simp only [W.unSome_some]
      refine ld_has (j := 4) hA (cs := [.slice]) (y := (p.k, ())) rfl ?_
      rw [hj]
      refine ⟨by show (0 : Int) ≤ j ∧ (j : Int) < (p.k.2.1 : Nat); omega, ?_⟩
      obtain ⟨ad, had, hh⟩ := hP.k.el.at_enc hx
      rw [had]
      simp only [W.unSome_some, Int.toNat_natCast]
      refine ld_has (j := 4) hh (cs := [.int .i64]) (y := (x.state, ())) rfl ?_
      simp only [W.br_iff, decide_eq_true_eq, decide_eq_false_iff_not, add_mk, W.unSome_some]
      refine ⟨fun h3 => ?_, fun h3 => ⟨fun e => by omega, fun _ => ?_⟩⟩
      · have h3 : x.state = 3 := by simpa using h3
        refine hret ?_ (Mod.refl _ _)
        unfold keyTurn
        rw [if_neg hadd, hj, if_neg (by omega)]
        simp only [Int.toNat_natCast, hx]
        rw [if_pos ⟨h4, h3⟩]
      · have h3 : x.state ≠ 3 := by simpa using h3
        exact fin j x hj hx (fun e => h3 e.2)
    · have h4 : D.kind ≠ 6 := by simpa using h4
      obtain ⟨j, x, hj, hx⟩ := hpos hn
      simp only [W.unSome_some, add_mk, hj]
      exact fin j x hj hx (fun e => h4 e.1)
end
end Go.Proofs.Ythepfbcgpbkbdaa
end
section
set_option linter.unusedVariables false
set_option linter.unusedSimpArgs false
set_option maxHeartbeats 1000000
set_option maxRecDepth 100000
namespace Go.Proofs.Ythepfbcgpbkbdaa
open Fw Go
attribute [-simp] Fw.W.ld_iff Fw.W.st_iff
theorem b_tabs2 {s : PH} {b : Nat} {v l : Int} {a : Option Addr} {n c : Nat} (h : s b = some (.cells #[.int .i64 v, .int .i64 l, .slice a n c] 24 (0, 0))) {K : Den [.slice] → W.T} (hK : K ((a, n, c), ()) s) : W.ld [.slice] ((Addr.mk b 0 none).add 2) K s := by
  have := b_tabs h hK
  simpa only [W.unSome_some] using this
theorem not_t {b : Bool} (h : (!b) = true) : b = false := by cases b <;> simp_all
theorem not_f {b : Bool} (h : (!b) = false) : b = true := by cases b <;> simp_all
theorem all_take {α : Type} {f : α → Bool} {l : List α} {k : Nat} {x : α} (h : l[k]? = some x) : (l.take (k + 1)).all f = ((l.take k).all f && f x) := by
  rw [List.take_add_one, h]; simp
section
variable {s : PH} {b : Nat} {S : Sch} {t : Tri} {ps : List TabP}
/-- a table is put behind the others -/
theorem Gs.push {s1 : PH} {p : TabP} {K : W.T} {l : Int} (h : Gs s b S t ps) (hb : ps.length ≤ 4294967296) (m1 : Fw.Mod [b] s s1) (hc : s1 b = some (.cells #[.int .i64 S.version, .int .i64 l, .slice t.1 t.2.1 t.2.2] 24 (0, 0)))
    (ho : Own s1 p) (hn : p.L.Nodup) (hf : ∀ g ∈ p.L, s g = none)
    (hK : ∀ s' t' ps', Gs s' b ⟨S.version, l, S.tabs ++ [p.T]⟩ t' ps' → Step (b :: Lof t ps) (b :: Lof t' ps') s s' → K s') {F : Option Addr → Nat → Nat → W.T} (hF : ∀ a' n' c' s', W.st ⟨b, 2, none⟩ [.slice a' n' c'] K s' → F a' n' c' s') :
    W.nw (.cells #[.int .i64 p.T.id, .string p.T.name, .slice p.c.1 p.c.2.1 p.c.2.2, .slice p.x.1 p.x.2.1 p.x.2.2, .slice p.k.1 p.k.2.1 p.k.2.2] 42 (0, 0)) (fun r => W.app 42 5 96 [.int .i64 0, .string ⟨#[]⟩, .slice none 0 0, .slice none 0 0, .slice none 0 0] t.1 t.2.1 t.2.2 (Src.sl (some ⟨r, 0, none⟩) 1) F) s1 := by
  obtain ⟨ta, tn, tc⟩ := t
  have hnb := h.nb
  have hkb : s b ≠ none := by rw [h.cell]; simp
  have hH1 : Has s1 (ta, tn, tc) ps := h.has.mod m1 fun x hx => by simpa using fun e : x = b => hnb (e ▸ hx)
  have hpb : b ∉ p.L := fun e => hkb (hf b e)
  refine hH1.push (p := p) ho hn (fun g hg hg2 => h.has.known g hg2 (hf g hg)) hb ?_
  intro a' c' s2 h2 st2
  have hLb : b ∉ Lof (a', tn + 1, c') (ps ++ [p]) := fun e => by
    rcases st2.new b e with e | e
    · rcases List.mem_append.1 e with e | e
      · exact hnb e
      · exact hpb e
    · rw [hc] at e; cases e
  have hc2 := st2.mod.at hc (fun e => by
    rcases List.mem_append.1 e with e | e
    · exact hnb e
    · exact hpb e)
  refine hF _ _ _ _ ?_
  rw [W.st_at hc2]
  refine ⟨by simp, by simp, by simp [Value.oneCell'], ?_⟩
  have m3 : Fw.Mod [b] s2 (s2.upd b (.cells (setL #[.int .i64 S.version, .int .i64 l, .slice ta tn tc] 2 [.slice a' (tn + 1) c']) 24 (0, 0))) := Mod.upd (by simp)
  have hc3 : (s2.upd b (.cells (setL #[.int .i64 S.version, .int .i64 l, .slice ta tn tc] 2 [.slice a' (tn + 1) c']) 24 (0, 0))) b = some (.cells #[.int .i64 S.version, .int .i64 l, .slice a' (tn + 1) c'] 24 (0, 0)) := PH.upd_same _ _ _
  have hH3 := h2.mod m3 fun x hx => by simpa using fun e : x = b => hLb (e ▸ hx)
  refine hK _ (a', tn + 1, c') (ps ++ [p]) ⟨hc3, hH3, hLb, by simp [h.eq]⟩ ⟨?_, ?_⟩
  · have e2 : Fw.Mod (b :: Lof (ta, tn, tc) ps) s s2 := by
      refine (m1.mono (by simp)).fresh st2.mod fun x hx => ?_
      rcases List.mem_append.1 hx with e | e
      · exact .inl (List.mem_cons_of_mem _ e)
      · exact .inr (hf x e)
    exact e2.trans (m3.mono (by simp))
  · intro x hx
    rcases List.mem_cons.1 hx with rfl | hx
    · exact .inl (by simp)
    · rcases st2.new x hx with e | e
      · rcases List.mem_append.1 e with e | e
        · exact .inl (List.mem_cons_of_mem _ e)
        · exact .inr (hf x e)
      · by_cases hxb : x = b
        · exact .inl (by simp [hxb])
        · exact .inr (m1.none e (by simpa using hxb))
theorem c_create {s00 : PH} (h : Gs s b S t ps) (hb : S.Bd) (D : Ddl) {u : Tri} (hu0 : Sl colE s00 u D.cols) (m00 : Fw.Mod [] s00 s) (hb0 : s00 b = none) (hul : D.cols.length ≤ 1073741824) (st : Int) :
    DCalls Try.prog 77 #[cp b, ddlV D u, .int .i64 st, .int .i64 (tabAt S D.table)] s (OutG b (createTurn S D st) (Lof t ps) s) := by
  obtain ⟨ua, un, uc⟩ := u
  refine ok_create b D.kind D.table D.name D.column D.parent D.unique D.type D.dflt.kind D.dflt.n D.dflt.s ua un uc st (tabAt S D.table) _ s ?_
  unfold vc_create
  have hu := hu0.mono m00.le
  have hun : un = D.cols.length := hu.len
  have htn : t.2.1 = ps.length := h.has.row.len
  have hpl : S.tabs.length = ps.length := by rw [h.eq]; simp
  have hcell := h.cell
  obtain ⟨R, hR⟩ : ∃ R, OutG b (createTurn S D st) (Lof t ps) s = R := ⟨_, rfl⟩
  have hret : ∀ {e : Int}, createTurn S D st = .error e → R (.int .i64 e) s := fun e1 => by
    rw [← hR, e1]; exact ⟨rfl, Mod.refl _ _⟩
  rw [hR]
  have hlast := hb.last
  simp only [RP_join, RP_ite, RP_call, RP_callQ, RP_ret, RP_nw, RP_app, RP_st, RP_ld, RP_unSome, RP_guard, RP_loop, RP_still, RP_clr, RP_look, RP_mset, W.unSome_some]
  refine callq ((named D.table, ()), ()) (c_named D.table s) rfl ?_
  refine ⟨fun z s' => ∃ k : Nat, z = ((D.kind, D.table, D.name, D.column, D.parent, D.unique, D.type, D.dflt.kind, D.dflt.n, D.dflt.s, (ua, un, uc), ()), (named D.table && (D.cols.take k).all (fun c => named c.name), ()), ((D.cols.take k).all (fun c => typed c.kind), ()), ((ua, un, uc), ()), ((un : Int), ()), ((k : Int), ()), ()) ∧ k ≤ un ∧ s' = s,
    fun z _ => un - z.2.2.2.2.2.1.1.toNat, ⟨0, by simp, Nat.zero_le _, rfl⟩, ?_⟩
  rintro _ s0 ⟨k, rfl, hk, rfl⟩
  simp only [W.br_iff, decide_eq_true_eq, decide_eq_false_iff_not]
  refine ⟨fun hlt => ?_, fun hge => ?_⟩
  · have hlt : k < un := by omega
    obtain ⟨x, hx⟩ : ∃ x, D.cols[k]? = some x := ⟨_, List.getElem?_eq_getElem (by omega)⟩
    obtain ⟨ad, had, hh⟩ := hu.el.at_enc hx
    dsimp only at had
    subst had
    have hw := wrap_succ (k := k) (by omega)
    have hm : un - (k + 1) < un - k := by omega
    refine ⟨by omega, ?_⟩
    simp only [W.unSome_some, Int.toNat_natCast, hw]
    refine ld_has_z hh (y := (x.id, x.name, x.kind, x.state, x.dflt.kind, x.dflt.n, x.dflt.s, ())) rfl ?_
    have e1 := all_take (f := fun c : Col => named c.name) hx
    have e2 := all_take (f := fun c : Col => typed c.kind) hx
    generalize (D.cols.take k).all (fun c => named c.name) = N at e1 ⊢
    generalize (D.cols.take k).all (fun c => typed c.kind) = Q at e2 ⊢
    simp only [W.br_iff]
    refine ⟨fun hN => ?_, fun hN => ?_⟩
    · refine callq ((named x.name, ()), ()) (c_named x.name _) rfl ?_
      simp only [W.br_iff]
      refine ⟨fun hQ => ?_, fun hQ => ?_⟩
      · refine callq ((typed x.kind, ()), ()) (c_kind x.kind _) rfl ?_
        refine ⟨⟨k + 1, ?_, hlt, by trivial⟩, hm⟩
        rw [e1, e2, ← Bool.and_assoc, hN, hQ]; (first | done | rfl)
      · refine ⟨⟨k + 1, ?_, hlt, by trivial⟩, hm⟩
        rw [e1, e2, ← Bool.and_assoc, hN, hQ]; (first | done | rfl)
    · refine ⟨fun hQ => ?_, fun hQ => ?_⟩
      · refine callq ((typed x.kind, ()), ()) (c_kind x.kind _) rfl ?_
        refine ⟨⟨k + 1, ?_, hlt, by trivial⟩, hm⟩
        rw [e1, e2, ← Bool.and_assoc, hN, hQ]; (first | done | rfl)
      · refine ⟨⟨k + 1, ?_, hlt, by trivial⟩, hm⟩
        rw [e1, e2, ← Bool.and_assoc, hN, hQ]; (first | done | rfl)
  have hall : D.cols.take k = D.cols := List.take_of_length_le (by omega)
  rw [hall]
  refine W.join_gen (fun z s' => z = ((D.kind, D.table, D.name, D.column, D.parent, D.unique, D.type, D.dflt.kind, D.dflt.n, D.dflt.s, (ua, un, uc), ()), ()) ∧ s' = s0 ∧
    createTurn S D st = .ok ⟨S.version, S.last + 1 + D.cols.length, S.tabs ++ [⟨S.last + 1, D.table, mkCols (S.last + 2) D.cols, [], []⟩]⟩ ∧ D.cols.length ≤ 8) ?_ ?_
  rotate_left
  · intro J hJ
    simp only [W.br_iff]
    refine ⟨fun hN => hret ?_, fun hN => ?_⟩
    · unfold createTurn
      rw [if_pos (not_t hN)]
    have hN : ¬ (named D.table && D.cols.all fun c => named c.name) = false := by rw [not_f hN]; simp
    refine W.join_gen (fun z s' => z = ((D.kind, D.table, D.name, D.column, D.parent, D.unique, D.type, D.dflt.kind, D.dflt.n, D.dflt.s, (ua, un, uc), ()), (D.cols.all (fun c => typed c.kind), ()), ((decide (0 ≤ tabAt S D.table) || dbl D.cols), ()), ()) ∧ s' = s0) ?_ ?_
    rotate_left
    · intro J2 hJ2
      simp only [W.br_iff, decide_eq_true_eq, decide_eq_false_iff_not]
      refine ⟨fun h1 => hJ2 _ _ ⟨by rw [decide_eq_true (p := 0 ≤ tabAt S D.table) h1]; (first | done | rfl), rfl⟩, fun h1 => ?_⟩
      refine callq ((dbl D.cols, ()), ()) (c_doubled (t := (ua, un, uc)) hu) rfl ?_
      exact hJ2 _ _ ⟨by rw [decide_eq_false (p := 0 ≤ tabAt S D.table) h1]; (first | done | rfl), rfl⟩
    rintro _ s1 ⟨rfl, rfl⟩
    simp only [W.br_iff]
    refine ⟨fun h1 => hret (by unfold createTurn; rw [if_neg hN, if_pos h1]), fun h1 => ?_⟩
    have h1 : ¬ (decide (0 ≤ tabAt S D.table) || dbl D.cols) = true := by rw [h1]; simp
    refine b_tabs hcell ?_
    have hbad : (6 ≤ S.tabs.length ∨ D.cols.length < 1 ∨ 8 < D.cols.length) → createTurn S D st = .error 156 := fun e => by
      unfold createTurn; rw [if_neg hN, if_neg h1, if_pos (by simp only [Bool.or_eq_true, decide_eq_true_eq]; exact e)]
    simp only [W.br_iff, decide_eq_true_eq, decide_eq_false_iff_not]
    refine ⟨fun h2 => hret (hbad ?_), fun h2 => ⟨fun h3 => hret (hbad (by omega)), fun h3 => ⟨fun h4 => hret (hbad (by omega)), fun h4 => ?_⟩⟩⟩
    · have h2 : ((t.2.1 : Nat) : Int) = 6 := by simpa using h2
      omega
    have h2 : ((t.2.1 : Nat) : Int) ≠ 6 := by simpa using h2
    have ht6 := hb.tabs
    have hok : ¬ (decide (6 ≤ S.tabs.length) || (decide (D.cols.length < 1) || decide (8 < D.cols.length))) = true := by
      simp only [Bool.or_eq_true, decide_eq_true_eq]; omega
    refine ⟨fun h5 => hret (by unfold createTurn; rw [if_neg hN, if_neg h1, if_neg hok, if_pos (not_t h5)]), fun h5 => ?_⟩
    have h5 : ¬ (D.cols.all fun c => typed c.kind) = false := by rw [not_f h5]; simp
    refine ⟨fun h6 => hret (by unfold createTurn; rw [if_neg hN, if_neg h1, if_neg hok, if_neg h5, if_pos (by simpa using h6)]), fun h6 => hJ _ _ ⟨rfl, rfl, ?_, by omega⟩⟩
    unfold createTurn; rw [if_neg hN, if_neg h1, if_neg hok, if_neg h5, if_neg (by simpa using h6)]
  rintro _ s1 ⟨rfl, rfl, hTurn, h8⟩
  have hnb := h.nb
  have hkb : s1 b ≠ none := by rw [hcell]; simp
  refine b_bump hcell (wrap_in (by omega) (by omega)) fun s2 m2 c2 => ?_
  refine b_last c2 ?_
  refine ⟨fun z s' => ∃ (k : Nat) (a : Option Addr) (n c : Nat), z = ((S.last + 1, D.table, (a, n, c), (none, 0, 0), (none, 0, 0), ()), ((ua, un, uc), ()), ((un : Int), ()), ((k : Int), ()), ()) ∧ k ≤ un ∧ rowE colE s' 44 a n c (mkCols (S.last + 2) (D.cols.take k)) ∧ (∀ g ∈ Fw.blk a, s1 g = none) ∧
    Fw.Mod [b] s1 s' ∧ s' b = some (.cells #[.int .i64 S.version, .int .i64 (S.last + 1 + k), .slice t.1 t.2.1 t.2.2] 24 (0, 0)), fun z _ => un - z.2.2.2.1.1.toNat, ⟨0, none, 0, 0, rfl, Nat.zero_le _, rowE.nil, by simp [Fw.blk], m2, by simpa using c2⟩, ?_⟩
  rintro _ s3 ⟨k, a, n, c, rfl, hk, hrow, hfr, m3, c3⟩
  simp only [W.br_iff, decide_eq_true_eq, decide_eq_false_iff_not]
  refine ⟨fun hlt => ?_, fun hge => ?_⟩
  · have hlt : k < un := by omega
    obtain ⟨x, hx⟩ : ∃ x, D.cols[k]? = some x := ⟨_, List.getElem?_eq_getElem (by omega)⟩
    have hw := wrap_succ (k := k) (by omega)
    have hm : un - (k + 1) < un - k := by omega
    have hmb : ∀ g ∈ Fw.blk a, g ≠ b := fun g hg e => hkb (by rw [← e]; exact hfr g hg)
    have hn : n = k := by have := hrow.len; rw [mkCols_len, List.length_take] at this; omega
    refine ⟨by omega, ?_⟩
    have hu3 := hu0.mono (m00.fresh m3 (by simp [hb0])).le
    obtain ⟨ad, had, hh⟩ := hu3.el.at_enc hx
    dsimp only at had
    subst had
    simp only [W.unSome_some, Int.toNat_natCast, hw]
    refine ld_has_z hh (y := (x.id, x.name, x.kind, x.state, x.dflt.kind, x.dflt.n, x.dflt.s, ())) rfl ?_
    refine b_bump c3 (wrap_in (by omega) (by omega)) fun s4 m4 c4 => ?_
    refine b_last c4 ?_
    have hrow4 := hrow.mod m4 (fun g hg => by simpa using hmb g hg)
    refine W.nw_of fun r s5 hr m5 k5 => ?_
    have hmax : maxLen = 9223372036854775807 := rfl
    refine app_rowE (hrow4.mod m5 (by simp)) rfl (ys := [⟨S.last + 1 + k + 1, x.name, x.kind, 3, ⟨0, 0, ⟨#[]⟩⟩⟩]) (k := 1) (src_has (by have := has_block k5; simpa [colE] using this) rfl) rfl rfl (by omega) (by omega) ?_
    intro a' c' s6 h' hm6
    have m35 : Fw.Mod [b] s1 s5 := (m3.trans m4).trans (m5.mono (by simp))
    have hsnoc : mkCols (S.last + 2) (D.cols.take (k + 1)) = mkCols (S.last + 2) (D.cols.take k) ++ [⟨S.last + 1 + k + 1, x.name, x.kind, 3, ⟨0, 0, ⟨#[]⟩⟩⟩] := by
      have : D.cols.take (k + 1) = D.cols.take k ++ [x] := by rw [List.take_add_one, hx]; (first | done | rfl)
      rw [this, mkCols_snoc, List.length_take, Nat.min_eq_left (by omega)]
      congr 3; omega
    have hc5 := m5.at c4 (by simp)
    have hnba : b ∉ Fw.blk a := fun e => hmb b e rfl
    refine ⟨⟨k + 1, a', n + 1, c', rfl, hlt, by rw [hsnoc]; exact h', ?_, ?_, ?_⟩, hm⟩
    · rcases hm6 with ⟨e, _⟩ | ⟨g, e, hg, _⟩
      · rw [e]; exact hfr
      · rw [e]
        intro g' hg'
        have : g' = g := by simpa [Fw.blk] using hg'
        subst this
        by_cases e2 : g' = b
        · subst e2; rw [hc5] at hg; cases hg
        · exact m35.none hg (by simpa using e2)
    · rcases hm6 with ⟨_, hm6⟩ | ⟨_, _, _, hm6⟩
      · exact m35.fresh hm6 fun x hx => .inr (hfr x hx)
      · exact m35.trans (hm6.mono (by simp))
    · have := (show s6 b = _ from by
        rcases hm6 with ⟨_, hm6⟩ | ⟨_, _, _, hm6⟩
        · exact hm6.at hc5 hnba
        · exact hm6.at hc5 (by simp))
      rw [this, show S.last + 1 + (k : Int) + 1 = S.last + 1 + ((k + 1 : Nat) : Int) by omega]
  · have hall : D.cols.take k = D.cols := List.take_of_length_le (by omega)
    rw [hall] at hrow
    refine b_tabs c3 ?_
    refine h.push (p := ⟨⟨S.last + 1, D.table, mkCols (S.last + 2) D.cols, [], []⟩, (a, n, c), noTri, noTri⟩) (by have := hb.tabs; omega) m3 c3 ⟨hrow, rowE.nil, rowE.nil⟩ ?_ ?_ ?_ (fun a' n' c' s' hst => by simp only [W.unSome_some, add_mk, Nat.zero_add]; exact hst)
    · simpa [TabP.L, Fw.blk] using blk_nodup a
    · intro g hg
      refine hfr g ?_
      simpa [TabP.L, Fw.blk] using hg
    · intro s' t' ps' hG hS
      have hkl : (k : Int) = D.cols.length := by omega
      rw [← hR, hTurn]
      refine ⟨rfl, t', ps', ?_, hS⟩
      rw [hkl] at hG
      exact hG
theorem c_turn {s00 : PH} (h : Gs s b S t ps) (hb : S.Bd) (D : Ddl) {u : Tri} (hu0 : Sl colE s00 u D.cols) (m00 : Fw.Mod [] s00 s) (hb0 : s00 b = none) (hul : D.cols.length ≤ 1073741824) (st : Int) :
    DCalls Try.prog 39 #[cp b, ddlV D u, .int .i64 st] s (OutG b (turn1 S D st) (Lof t ps) s) := by
  obtain ⟨ua, un, uc⟩ := u
  refine ok_turn b D.kind D.table D.name D.column D.parent D.unique D.type D.dflt.kind D.dflt.n D.dflt.s ua un uc st _ s ?_
  unfold vc_turn
  have hcell := h.cell
  have hSch := h.sch hb
  have hout : ∀ {r : Res} {y s'}, OutG b r (Lof t ps) s y s' → ∃ n, y = .int .i64 n := by
    intro r y s' ho
    cases r with
    | error e => exact ⟨e, ho.1⟩
    | ok S' => exact ⟨0, ho.1⟩
  simp only [RP_join, RP_ite, RP_call, RP_callQ, RP_ret, RP_nw, RP_app, RP_st, RP_ld, RP_unSome, RP_guard, RP_loop, RP_still, RP_clr, RP_look, RP_mset, W.unSome_some]
  refine b_tabs2 hcell ?_
  refine W.callQ_of ((tabAt S D.table, ()), ()) (c_findT' hSch D.table) rfl ?_
  simp only [W.br_iff, decide_eq_true_eq, decide_eq_false_iff_not]
  refine ⟨fun h1 => ?_, fun h1 => ⟨fun h2 => ?_, fun h2 => ?_⟩⟩
  · have h1 : D.kind = 1 := by simpa using h1
    refine W.call_of (c_create h hb D hu0 m00 hb0 hul st) ?_
    intro y s' ho
    obtain ⟨n, rfl⟩ := hout ho
    refine ⟨((n, ()), ()), rfl, ?_⟩
    show OutG b (turn1 S D st) (Lof t ps) s (.int .i64 n) s'
    unfold turn1; rw [if_pos h1]; exact ho
  · have h1 : D.kind ≠ 1 := by simpa using h1
    show OutG b (turn1 S D st) (Lof t ps) s (.int .i64 150) s
    unfold turn1; rw [if_neg h1, if_pos h2]; exact ⟨rfl, Mod.refl _ _⟩
  have h1 : D.kind ≠ 1 := by simpa using h1
  obtain ⟨i, T, hi, hT, _⟩ := (seek_cases (fun T : Tab => decide (T.name = D.table)) S.tabs).resolve_left (fun e => by have := e.1; unfold tabAt at h2; omega)
  have hi : tabAt S D.table = (i : Int) := hi
  obtain ⟨p, hp, rfl⟩ : ∃ p, ps[i]? = some p ∧ p.T = T := by
    rw [h.eq, List.getElem?_map] at hT
    cases hq : ps[i]? with
    | none => rw [hq] at hT; cases hT
    | some pp => rw [hq] at hT; exact ⟨pp, rfl, Option.some.inj hT⟩
  obtain ⟨g, ht, _⟩ := h.has.row.at hp
  have htn : t.2.1 = ps.length := h.has.row.len
  have hil := (List.getElem?_eq_some_iff.1 hp).1
  have hTurn : turn1 S D st = if D.kind = 4 ∨ D.kind = 5 then colTurn S i p.T D st else if D.kind = 2 ∨ D.kind = 3 then idxTurn S i p.T D st else keyTurn S i p.T D st := by
    unfold turn1
    rw [if_neg h1, if_neg h2, hi]
    simp only [Int.toNat_natCast, hT]
  refine b_tabs hcell ?_
  rw [hi]
  refine ⟨by show (0 : Int) ≤ i ∧ (i : Int) < (t.2.1 : Nat); omega, ?_⟩
  dsimp only
  rw [ht]
  simp only [W.unSome_some, add_mk, Nat.zero_add, Int.toNat_natCast]
  refine W.join_gen (fun z s' => z = ((D.kind, D.table, D.name, D.column, D.parent, D.unique, D.type, D.dflt.kind, D.dflt.n, D.dflt.s, (ua, un, uc), ()), (some (Addr.mk g (i * 5) none), ()), (D.kind, ()), (decide (D.kind = 4 ∨ D.kind = 5), ()), ()) ∧ s' = s) ?_ ?_
  rotate_left
  · intro J hJ
    simp only [W.br_iff]
    refine ⟨fun h4 => hJ _ _ ⟨?_, rfl⟩, fun h4 => hJ _ _ ⟨?_, rfl⟩⟩
    · have h4 : D.kind = 4 := by simpa using h4
      simp [h4]
    · have h4 : D.kind ≠ 4 := by simpa using h4
      simp [h4, beq_dec]
  rintro _ s0 ⟨rfl, rfl⟩
  simp only [W.br_iff, decide_eq_true_eq, decide_eq_false_iff_not]
  refine ⟨fun h4 => ?_, fun h4 => ?_⟩
  · rw [if_pos h4] at hTurn
    refine W.call_of (c_columns h hb hp ht D (ua, un, uc) st) ?_
    intro y s' ho
    obtain ⟨n, rfl⟩ := hout ho
    refine ⟨((n, ()), ()), rfl, ?_⟩
    rw [← hTurn] at ho
    exact ho
  rw [if_neg h4] at hTurn
  refine ⟨fun h5 => ?_, fun h5 => ?_⟩
  · have h5 : D.kind = 2 := by simpa using h5
    rw [if_pos (.inl h5)] at hTurn
    refine W.call_of (c_indexes h hb hp ht D (ua, un, uc) st) ?_
    intro y s' ho
    obtain ⟨n, rfl⟩ := hout ho
    refine ⟨((n, ()), ()), rfl, ?_⟩
    rw [← hTurn] at ho
    exact ho
  have h5 : D.kind ≠ 2 := by simpa using h5
  refine ⟨fun h6 => ?_, fun h6 => ?_⟩
  · have h6 : D.kind = 3 := by simpa using h6
    rw [if_pos (.inr h6)] at hTurn
    refine W.call_of (c_indexes h hb hp ht D (ua, un, uc) st) ?_
    intro y s' ho
    obtain ⟨n, rfl⟩ := hout ho
    refine ⟨((n, ()), ()), rfl, ?_⟩
    rw [← hTurn] at ho
    exact ho
  have h6 : D.kind ≠ 3 := by simpa using h6
  rw [if_neg (fun e => Or.elim e h5 h6)] at hTurn
  refine W.call_of (c_foreigns h hb hp ht D (ua, un, uc) st) ?_
  intro y s' ho
  obtain ⟨n, rfl⟩ := hout ho
  refine ⟨((n, ()), ()), rfl, ?_⟩
  rw [← hTurn] at ho
  exact ho
end
theorem right_bd {S : Sch} (h : right S = true) : S.Bd ∧ 0 ≤ S.version ∧ S.version ≤ 1125899906842624 := by
  obtain ⟨a, b, c, d, e⟩ := right_iff.1 h
  unfold headB at a
  simp only [Bool.and_eq_true, decide_eq_true_eq] at a
  refine ⟨⟨b, fun T hT => ?_, a.2.2.1, a.2.2.2⟩, a.1, a.2.1⟩
  obtain ⟨i, hi⟩ := List.mem_iff_getElem?.1 hT
  obtain ⟨x1, x2, x3, x4, _⟩ := tabB_iff.1 (allI_iff.1 d i T hi)
  exact ⟨x1, x2, x3, x4⟩
/-- what a change gives, in memory: a schema of its own, all new -/
def Gives (s : PH) (S' : Sch) (e : Int) (y : Value) (s' : PH) : Prop :=
  ∃ t' ps', y = .tuple #[schV S' t', .int .i64 e] ∧ Has s' t' ps' ∧ S'.tabs = ps'.map (·.T) ∧ Fw.Mod [] s s' ∧ ∀ g ∈ Lof t' ps', s g = none
theorem gives_no {s s' : PH} {e : Int} (m : Fw.Mod [] s s') : Gives s noSch e (.tuple #[schV noSch noTri, .int .i64 e]) s' := ⟨noTri, [], rfl, Has.nil _, rfl, m, by simp [Lof, Fw.blk]⟩
theorem c_Turn {s : PH} {t : Tri} {S : Sch} {ps : List TabP} (h : SchIs s t S ps) (D : Ddl) {u : Tri} (hu : Sl colE s u D.cols) (hul : D.cols.length ≤ 1073741824) (st : Int) :
    DCalls Try.prog 14 #[schV S t, ddlV D u, .int .i64 st] s (Gives s (S.turn D st).1 (S.turn D st).2) := by
  obtain ⟨ua, un, uc⟩ := u
  obtain ⟨ta, tn, tc⟩ := t
  refine ok_Turn S.version S.last ta tn tc D.kind D.table D.name D.column D.parent D.unique D.type D.dflt.kind D.dflt.n D.dflt.s ua un uc st _ s ?_
  unfold vc_Turn
  obtain ⟨R, hR⟩ : ∃ R, Gives s (S.turn D st).1 (S.turn D st).2 = R := ⟨_, rfl⟩
  rw [hR]
  have htn : tn = ps.length := h.el.len
  simp only [RP_join, RP_ite, RP_call, RP_callQ, RP_ret, RP_nw, RP_app, RP_st, RP_ld, RP_unSome, RP_guard, RP_loop, RP_still, RP_clr, RP_look, RP_mset, W.unSome_some]
  refine W.join_gen (fun z s' => z = ((S.version, S.last, (ta, tn, tc), ()), (D.kind, D.table, D.name, D.column, D.parent, D.unique, D.type, D.dflt.kind, D.dflt.n, D.dflt.s, (ua, un, uc), ()), (0, 0, (none, 0, 0), ()), ()) ∧ s' = s ∧ right S = true ∧ 0 ≤ st ∧ st ≤ 3) ?_ ?_
  rotate_left
  · intro J hJ
    have hbad : ¬ (right S = true ∧ 0 ≤ st ∧ st ≤ 3) → R (.tuple #[schV noSch noTri, .int .i64 100]) s := by
      intro e
      have : S.turn D st = (noSch, 100) := by
        unfold Sch.turn; rw [if_pos]
        cases hr : right S
        · rfl
        · rw [hr] at e
          simp only [Bool.true_and, Bool.and_eq_false_iff, decide_eq_false_iff_not]
          simp only [true_and] at e
          omega
      rw [← hR, this]
      exact gives_no (Mod.refl _ _)
    have hc := c_Check h
    have hE : errS S = if right S = true then 0 else 100 := rfl
    generalize errS S = E at hc hE
    refine callq ((E, ()), ()) hc rfl ?_
    subst hE
    simp only [W.br_iff, decide_eq_true_eq, decide_eq_false_iff_not]
    refine ⟨fun h1 => hbad fun e => by rw [if_pos e.1] at h1; simp at h1, fun h1 => ⟨fun h2 => hbad (by omega), fun h2 => ⟨fun h3 => hbad (by omega), fun h3 => hJ _ _ ⟨rfl, rfl, ?_, by omega, by omega⟩⟩⟩⟩
    cases hr : right S
    · rw [hr] at h1; simp at h1
    · rfl
  rintro _ s0 ⟨rfl, rfl, hr, hst0, hst3⟩
  have hturn0 : S.turn D st = if D.kind < 1 ∨ 7 < D.kind then (noSch, 1) else match turn1 { S with version := S.version + 1 } D st with
      | .error e => (noSch, e)
      | .ok S' => (S', 0) := by
    unfold Sch.turn
    rw [if_neg (by rw [hr, decide_eq_true hst0, decide_eq_true hst3]; simp)]
    first | done | rfl
  refine W.join_gen (fun z s' => z = ((S.version, S.last, (ta, tn, tc), ()), (D.kind, D.table, D.name, D.column, D.parent, D.unique, D.type, D.dflt.kind, D.dflt.n, D.dflt.s, (ua, un, uc), ()), (0, 0, (none, 0, 0), ()), ()) ∧ s' = s0 ∧ ¬ (D.kind < 1 ∨ 7 < D.kind)) ?_ ?_
  rotate_left
  · intro J hJ
    have hbad : (D.kind < 1 ∨ 7 < D.kind) → R (.tuple #[schV noSch noTri, .int .i64 1]) s0 := by
      intro e
      rw [← hR, hturn0, if_pos e]
      exact gives_no (Mod.refl _ _)
    simp only [W.br_iff, decide_eq_true_eq, decide_eq_false_iff_not]
    exact ⟨fun h2 => hbad (by omega), fun h2 => ⟨fun h3 => hbad (by omega), fun h3 => hJ _ _ ⟨rfl, rfl, by omega⟩⟩⟩
  rintro _ s1 ⟨rfl, rfl, hkind⟩
  rw [if_neg hkind] at hturn0
  obtain ⟨hbd, hv0, hv1⟩ := right_bd hr
  have ht6 := hbd.tabs
  have hpl : S.tabs.length = ps.length := by rw [h.eq]; simp
  refine W.nw_of fun r s2 hr0 m2 k2 => ?_
  rw [W.st_at k2]
  refine ⟨by simp, by simp, by simp [Value.oneCell'], ?_⟩
  have k3 : (s2.upd r (.cells (setL #[.int .i64 0, .int .i64 0, .slice none 0 0] 0 [.int .i64 S.version, .int .i64 S.last, .slice ta tn tc]) 24 (0, 0))) r = some (.cells #[.int .i64 S.version, .int .i64 S.last, .slice ta tn tc] 24 (0, 0)) := PH.upd_same _ _ _
  have m3 : Fw.Mod [] s1 (s2.upd r (.cells (setL #[.int .i64 0, .int .i64 0, .slice none 0 0] 0 [.int .i64 S.version, .int .i64 S.last, .slice ta tn tc]) 24 (0, 0))) := m2.updLater (.inr hr0)
  generalize s2.upd r (.cells (setL #[.int .i64 0, .int .i64 0, .slice none 0 0] 0 [.int .i64 S.version, .int .i64 S.last, .slice ta tn tc]) 24 (0, 0)) = s3 at k3 m3 ⊢
  simp only [add_mk, Nat.zero_add]
  rw [W.ld_at k3]
  refine ⟨(S.version, ()), by simp, ?_⟩
  have hvw : IntKind.i64.wrap (S.version + 1) = S.version + 1 := wrap_in (by omega) (by omega)
  rw [W.st_at k3]
  refine ⟨by simp, by simp, by simp [Value.oneCell'], ?_⟩
  dsimp only
  rw [hvw]
  have k4 : (s3.upd r (.cells (setL #[.int .i64 S.version, .int .i64 S.last, .slice ta tn tc] 0 [.int .i64 (S.version + 1)]) 24 (0, 0))) r = some (.cells #[.int .i64 (S.version + 1), .int .i64 S.last, .slice ta tn tc] 24 (0, 0)) := PH.upd_same _ _ _
  have m4 : Fw.Mod [] s1 (s3.upd r (.cells (setL #[.int .i64 S.version, .int .i64 S.last, .slice ta tn tc] 0 [.int .i64 (S.version + 1)]) 24 (0, 0))) := m3.updLater (.inr hr0)
  generalize s3.upd r (.cells (setL #[.int .i64 S.version, .int .i64 S.last, .slice ta tn tc] 0 [.int .i64 (S.version + 1)]) 24 (0, 0)) = s4 at k4 m4 ⊢
  rw [W.st_at k4]
  refine ⟨by simp, by simp, by simp [Value.oneCell'], ?_⟩
  have k5 : (s4.upd r (.cells (setL #[.int .i64 (S.version + 1), .int .i64 S.last, .slice ta tn tc] 2 [.slice none 0 0]) 24 (0, 0))) r = some (.cells #[.int .i64 (S.version + 1), .int .i64 S.last, .slice none 0 0] 24 (0, 0)) := PH.upd_same _ _ _
  have m5 : Fw.Mod [] s1 (s4.upd r (.cells (setL #[.int .i64 (S.version + 1), .int .i64 S.last, .slice ta tn tc] 2 [.slice none 0 0]) 24 (0, 0))) := m4.updLater (.inr hr0)
  generalize s4.upd r (.cells (setL #[.int .i64 (S.version + 1), .int .i64 S.last, .slice ta tn tc] 2 [.slice none 0 0]) 24 (0, 0)) = s5 at k5 m5 ⊢
  refine ⟨fun z s' => ∃ (k : Nat) (tc' : Tri) (pc : List TabP), z = ((D.kind, D.table, D.name, D.column, D.parent, D.unique, D.type, D.dflt.kind, D.dflt.n, D.dflt.s, (ua, un, uc), ()), (0, 0, (none, 0, 0), ()), (Addr.mk r 0 none, ()), ((ta, tn, tc), ()), ((tn : Int), ()), ((k : Int), ()), ()) ∧ k ≤ tn ∧
    Gs s' r ⟨S.version + 1, S.last, S.tabs.take k⟩ tc' pc ∧ Fw.Mod [] s1 s' ∧ ∀ g ∈ Lof tc' pc, s1 g = none, fun z _ => tn - z.2.2.2.2.2.1.1.toNat, ⟨0, noTri, [], rfl, Nat.zero_le _, ⟨k5, Has.nil _, by simp [Lof, Fw.blk], rfl⟩, m5, by simp [Lof, Fw.blk]⟩, ?_⟩
  rintro _ s6 ⟨k, tc', pc, rfl, hk, hG, m6, hf⟩
  simp only [W.br_iff, decide_eq_true_eq, decide_eq_false_iff_not]
  refine ⟨fun hlt => ?_, fun hge => ?_⟩
  · have hlt : k < tn := by omega
    obtain ⟨p, hp⟩ : ∃ p, ps[k]? = some p := ⟨_, List.getElem?_eq_getElem (by omega)⟩
    have hT : S.tabs[k]? = some p.T := by rw [h.eq, List.getElem?_map, hp]; (first | done | rfl)
    have hS6 := h.mono m6.le
    obtain ⟨ad, had, hh⟩ := hS6.el.el.at_enc hp
    dsimp only at had
    subst had
    refine ⟨by omega, ?_⟩
    simp only [W.unSome_some, Int.toNat_natCast]
    refine ld_has_z hh (y := (p.T.id, p.T.name, p.c, p.x, p.k, ())) rfl ?_
    refine b_tabs2 hG.cell ?_
    refine W.call_of (c_copied (hS6.all p (get_mem hp))) ?_
    rintro _ s7 ⟨q, rfl, hqT, hqo, m7, hqf, hqn⟩
    refine ⟨((q.T.id, q.T.name, q.c, q.x, q.k, ()), ()), rfl, ?_⟩
    have hG7 := hG.mod m7 (by simp) (by simp)
    simp only [add_mk, Nat.zero_add]
    rw [W.still_at hG7.cell]
    refine ⟨by simp, ?_⟩
    have hpcl : pc.length = k := by
      have := congrArg List.length hG.eq
      simp only [List.length_map, List.length_take] at this
      omega
    have hq7 : ∀ g ∈ q.L, g ∉ Lof tc' pc := fun g hg hg2 => hG.has.known g hg2 (hqf g hg)
    have m67 : Fw.Mod [] s1 s7 := m6.trans m7
    have hpush := Gs.push (s := s6) (s1 := s7) (p := q) (l := S.last) (K := fun s' => (∃ (k' : Nat) (tc'' : Tri) (pc' : List TabP), (((D.kind, D.table, D.name, D.column, D.parent, D.unique, D.type, D.dflt.kind, D.dflt.n, D.dflt.s, (ua, un, uc), ()), (0, 0, (none, 0, 0), ()), (Addr.mk r 0 none, ()), ((some ad, tn, tc), ()), ((tn : Int), ()), (IntKind.i64.wrap ((k : Int) + 1), ()), ()) :
        MDen [(true, [.int .i64, .str, .str, .str, .str, .bool, .int .i64, .int .i64, .int .i64, .str, .slice]), (true, [.int .i64, .int .i64, .slice]), (false, [.addr]), (false, [.slice]), (false, [.int .i64]), (false, [.int .i64])]) =
        ((D.kind, D.table, D.name, D.column, D.parent, D.unique, D.type, D.dflt.kind, D.dflt.n, D.dflt.s, (ua, un, uc), ()), (0, 0, (none, 0, 0), ()), (Addr.mk r 0 none, ()), ((some ad, tn, tc), ()), ((tn : Int), ()), ((k' : Int), ()), ()) ∧ k' ≤ tn ∧
      Gs s' r ⟨S.version + 1, S.last, S.tabs.take k'⟩ tc'' pc' ∧ Fw.Mod [] s1 s' ∧ ∀ g ∈ Lof tc'' pc', s1 g = none) ∧ tn - (IntKind.i64.wrap ((k : Int) + 1)).toNat < tn - ((k : Int)).toNat) hG (by omega) (m7.mono (by simp)) hG7.cell hqo hqn hqf (by
        intro s' t' ps' hG' hS'
        rw [wrap_succ (k := k) (by omega)]
        refine ⟨⟨k + 1, t', ps', rfl, hlt, ?_, ?_, ?_⟩, by simp only [Int.toNat_natCast]; omega⟩
        · have e : S.tabs.take (k + 1) = S.tabs.take k ++ [q.T] := by rw [List.take_add_one, hT, hqT]; (first | done | rfl)
          rw [e]; exact hG'
        · refine m6.fresh hS'.mod fun x hx => ?_
          rcases List.mem_cons.1 hx with rfl | hx
          · exact .inr hr0
          · exact .inr (hf x hx)
        · intro g hg
          rcases hS'.new g (List.mem_cons_of_mem _ hg) with e | e
          · rcases List.mem_cons.1 e with rfl | e
            · exact hr0
            · exact hf g e
          · exact m6.none e (by simp)) (fun a' n' c' s' hst => hst)
    exact hpush
  · have hall : S.tabs.take k = S.tabs := List.take_of_length_le (by omega)
    rw [hall] at hG
    have hbd1 : Sch.Bd ⟨S.version + 1, S.last, S.tabs⟩ := ⟨hbd.tabs, hbd.each, hbd.last⟩
    have hmod : ∀ {s'}, Fw.Mod (r :: Lof tc' pc) s6 s' → Fw.Mod [] s1 s' := fun m => m6.fresh m fun x hx => by
      rcases List.mem_cons.1 hx with rfl | hx
      · exact .inr hr0
      · exact .inr (hf x hx)
    have herr := turn1_err ⟨S.version + 1, S.last, S.tabs⟩ D st
    refine W.call_of (c_turn hG hbd1 D hu m6 hr0 hul st) ?_
    intro y s7 ho
    generalize turn1 ⟨S.version + 1, S.last, S.tabs⟩ D st = res at ho hturn0 herr
    cases res with
    | error e =>
      obtain ⟨rfl, m7⟩ := ho
      refine ⟨((e, ()), ()), rfl, ?_⟩
      have he := herr e rfl
      simp only [W.br_iff]
      refine ⟨fun _ => ?_, fun hz => absurd (by simpa using hz) he⟩
      rw [← hR, hturn0]
      exact gives_no (hmod m7)
    | ok S' =>
      obtain ⟨rfl, t', ps', hG', hS'⟩ := ho
      refine ⟨((0, ()), ()), rfl, ?_⟩
      refine (W.br_iff _ _ _ _).2 ⟨fun hz => by simp at hz, fun _ => ?_⟩
      rw [W.ld_at hG'.cell]
      refine ⟨(S'.version, S'.last, (t'.1, t'.2.1, t'.2.2), ()), by simp, ?_⟩
      rw [← hR, hturn0]
      refine ⟨t', ps', rfl, hG'.has, hG'.eq, hmod hS'.mod, fun g hg => ?_⟩
      rcases hS'.new g (List.mem_cons_of_mem _ hg) with e | e
      · rcases List.mem_cons.1 e with rfl | e
        · exact hr0
        · exact hf g e
      · exact m6.none e (by simp)
end Go.Proofs.Ythepfbcgpbkbdaa
end
section
set_option linter.unusedVariables false
set_option linter.unusedSimpArgs false
set_option maxHeartbeats 1000000
set_option maxRecDepth 100000
namespace Go.Proofs.Ythepfbcgpbkbdaa
open Fw Go
attribute [-simp] Fw.W.ld_iff Fw.W.st_iff
def GivesC (s : PH) (S' : Sch) (y : Value) (s' : PH) : Prop :=
  ∃ t' ps', y = schV S' t' ∧ Has s' t' ps' ∧ S'.tabs = ps'.map (·.T) ∧ Fw.Mod [] s s' ∧ ∀ g ∈ Lof t' ps', s g = none
theorem c_rCopy {s : PH} {t : Tri} {S : Sch} {ps : List TabP} (h : SchIs s t S ps) : DCalls Try.prog 13 #[schV S t] s (GivesC s S) := by
  obtain ⟨ta, tn, tc⟩ := t
  refine ok_rCopy S.version S.last ta tn tc _ s ?_
  unfold vc_rCopy
  have htn : tn = ps.length := h.el.len
  have hfew := h.el.few
  have hpl : S.tabs.length = ps.length := by rw [h.eq]; simp
  simp only [RP_join, RP_ite, RP_call, RP_callQ, RP_ret, RP_nw, RP_app, RP_st, RP_ld, RP_unSome, RP_guard, RP_loop, RP_still, RP_clr, RP_look, RP_mset, W.unSome_some]
  refine ⟨fun z s' => ∃ (k a2 a3 : Nat) (a1 : Option Addr) (pc : List TabP), z = ((S.version, S.last, (ta, tn, tc), ()), (0, 0, (none, 0, 0), ()), ((a1, a2, a3), ()), ((k : Int), ()), ()) ∧ k ≤ tn ∧ Has s' (a1, a2, a3) pc ∧ S.tabs.take k = pc.map (·.T) ∧ Fw.Mod [] s s' ∧ ∀ g ∈ Lof (a1, a2, a3) pc, s g = none,
    fun z _ => tn - z.2.2.2.1.1.toNat, ⟨0, 0, 0, none, [], rfl, Nat.zero_le _, Has.nil _, rfl, Mod.refl _ _, by simp [Lof, Fw.blk]⟩, ?_⟩
  rintro _ s1 ⟨k, a2, a3, a1, pc, rfl, hk, hH, he, m1, hf⟩
  simp only [W.br_iff, decide_eq_true_eq, decide_eq_false_iff_not]
  refine ⟨fun hlt => ?_, fun hge => ?_⟩
  · have hlt : k < tn := by omega
    obtain ⟨p, hp⟩ : ∃ p, ps[k]? = some p := ⟨_, List.getElem?_eq_getElem (by omega)⟩
    have hT : S.tabs[k]? = some p.T := by rw [h.eq, List.getElem?_map, hp]; (first | done | rfl)
    have hS1 := h.mono m1.le
    obtain ⟨ad, had, hh⟩ := hS1.el.el.at_enc hp
    dsimp only at had
    subst had
    refine ⟨by omega, ?_⟩
    simp only [W.unSome_some, Int.toNat_natCast]
    refine ld_has_z hh (y := (p.T.id, p.T.name, p.c, p.x, p.k, ())) rfl ?_
    have hP := hS1.all p (get_mem hp)
    have b1 := hP.c.few
    have b2 := hP.x.few
    have b3 := hP.k.few
    have l1 := hP.c.len
    have l2 := hP.x.len
    have l3 := hP.k.len
    refine row_copy (E := colE) (k := p.c.2.1) hP.c.el.src_enc rfl l1.symm (by omega) (by omega) rfl ?_
    intro u1 c1 s2 r1 m2 f1
    refine row_copy (E := idxE) (k := p.x.2.1) (hP.mono m2.le).x.el.src_enc rfl l2.symm (by omega) (by omega) rfl ?_
    intro u2 c2 s3 r2 m3 f2
    refine row_copy (E := forE) (k := p.k.2.1) (hP.mono (m2.trans m3).le).k.el.src_enc rfl l3.symm (by omega) (by omega) rfl ?_
    intro u3 c3 s4 r3 m4 f3
    have m24 := (m2.trans m3).trans m4
    have hpcl : pc.length = k := by
      have := congrArg List.length he
      simp only [List.length_map, List.length_take] at this
      omega
    have hn1 : ∀ g ∈ Fw.blk u1 ++ (Fw.blk u2 ++ Fw.blk u3), s1 g = none := by
      intro g hg
      simp only [List.mem_append] at hg
      rcases hg with hg | hg | hg
      · exact f1 g hg
      · exact m2.none (f2 g hg) (by simp)
      · exact (m2.trans m3).none (f3 g hg) (by simp)
    have hH4 := hH.mod m24 (by simp)
    refine hH4.push (p := ⟨p.T, (u1, p.c.2.1, c1), (u2, p.x.2.1, c2), (u3, p.k.2.1, c3)⟩) ⟨(r1.mod m3 (by simp)).mod m4 (by simp), r2.mod m4 (by simp), r3⟩ ?_ (fun g hg hg2 => hH.known g hg2 (hn1 g hg)) (by omega) ?_
    · simp only [TabP.L, List.nodup_append]
      refine ⟨blk_nodup _, ⟨blk_nodup _, blk_nodup _, ?_⟩, ?_⟩
      · rintro g hg _ hg2 rfl
        exact r2.known g hg (f3 g hg2)
      · rintro g hg _ hg2 rfl
        rcases List.mem_append.1 hg2 with hg2 | hg2
        · exact r1.known g hg (f2 g hg2)
        · exact (r1.mod m3 (by simp)).known g hg (f3 g hg2)
    · intro a' c' s5 h5 st5
      rw [wrap_succ (k := k) (by omega)]
      have m14 : Fw.Mod [] s s4 := m1.trans m24
      refine ⟨⟨k + 1, a2 + 1, c', a', pc ++ [⟨p.T, (u1, p.c.2.1, c1), (u2, p.x.2.1, c2), (u3, p.k.2.1, c3)⟩], rfl, hlt, h5, ?_, ?_, ?_⟩, by simp only [Int.toNat_natCast]; omega⟩
      · rw [List.take_add_one, hT, he]; simp
      · refine m14.fresh st5.mod fun x hx => ?_
        rcases List.mem_append.1 hx with hx | hx
        · exact .inr (hf x hx)
        · exact .inr (m1.none (hn1 x hx) (by simp))
      · intro g hg
        rcases st5.new g hg with e | e
        · rcases List.mem_append.1 e with e | e
          · exact hf g e
          · exact m1.none (hn1 g e) (by simp)
        · exact m14.none e (by simp)
  · have hall : S.tabs.take k = S.tabs := List.take_of_length_le (by omega)
    rw [hall] at he
    exact ⟨(a1, a2, a3), pc, rfl, hH, he, m1, hf⟩
end Go.Proofs.Ythepfbcgpbkbdaa
end
section
set_option linter.unusedVariables false
set_option linter.unusedSimpArgs false
set_option maxHeartbeats 2000000
set_option maxRecDepth 100000
namespace Go.Proofs.Ythepfbcgpbkbdaa
open Fw Go
attribute [-simp] Fw.W.ld_iff Fw.W.st_iff
/-- no state is nothing -/
structure Sch.Sn (S : Sch) : Prop where
  c : ∀ T ∈ S.tabs, ∀ x ∈ T.cols, x.state ≠ 0
  x : ∀ T ∈ S.tabs, ∀ x ∈ T.idxs, x.state ≠ 0
  k : ∀ T ∈ S.tabs, ∀ x ∈ T.keys, x.state ≠ 0
def pos (k : Nat) (st : Int) (j : Nat) : Nat := if st = 0 ∧ k < j then j - 1 else j
theorem take_snoc {α : Type} {l : List α} {k : Nat} {x : α} (h : l[k]? = some x) : l.take (k + 1) = l.take k ++ [x] := by rw [List.take_add_one, h]; (first | done | rfl)
theorem placed_len {α : Type} {l : List α} {k : Nat} {st : Int} {x' : α} : (placed l k st x').length ≤ l.length := by
  unfold placed; split
  · rw [List.length_eraseIdx]; split <;> omega
  · rw [List.length_set]; exact Nat.le_refl _
section
variable {s : PH} {S : Sch} {t : Tri} {ps : List TabP} {i : Nat} {p : TabP}
end
end Go.Proofs.Ythepfbcgpbkbdaa
end
section
set_option linter.unusedVariables false
set_option linter.unusedSimpArgs false
set_option maxHeartbeats 1000000
set_option maxRecDepth 100000
namespace Go.Proofs.Ythepfbcgpbkbdaa
open Fw Go
attribute [-simp] Fw.W.ld_iff Fw.W.st_iff
def Res.out (r : Res) : Sch × Int := match r with
  | .error e => (noSch, e)
  | .ok S' => (S', 0)
end Go.Proofs.Ythepfbcgpbkbdaa
end
section
set_option linter.unusedVariables false
set_option linter.unusedSimpArgs false
set_option maxHeartbeats 1000000
set_option maxRecDepth 100000
namespace Go.Proofs.Ythepfbcgpbkbdaa
open Fw Go
theorem named_sm {t : ByteArray} (h : named t = true) : t.size ≤ 281474976710656 := by
  unfold named at h
  simp only [Bool.and_eq_true, decide_eq_true_eq] at h
  omega
theorem valOk_sm {v : Val} (h : valOk v = true) : v.s.size ≤ 281474976710656 := by
  unfold valOk at h
  split at h
  · simp only [Bool.and_eq_true, decide_eq_true_eq] at h
    rw [h.2]; exact Nat.zero_le _
  · split at h
    · simp only [decide_eq_true_eq] at h
      rw [h]; exact Nat.zero_le _
    · split at h
      · simp only [Bool.and_eq_true, decide_eq_true_eq] at h
        omega
      · cases h
theorem fits_sm {v : Val} {k : Int} (h : fits v k = true) : v.s.size ≤ 281474976710656 := by
  unfold fits at h
  simp only [Bool.and_eq_true] at h
  exact valOk_sm h.1
theorem fresh_sm {t : ByteArray} {n : Int} (h : ¬ (freshE t n ≠ 0)) : t.size ≤ 281474976710656 := by
  refine named_sm ?_
  cases hn : named t
  · exact absurd (by unfold freshE; rw [if_pos hn]; decide) h
  · rfl
theorem placed_mem {α : Type} {l : List α} {k : Nat} {st : Int} {x' y : α} (h : y ∈ placed l k st x') : y ∈ l ∨ y = x' := by
  unfold placed at h
  split at h
  · exact .inl (List.mem_of_mem_eraseIdx h)
  · exact List.mem_or_eq_of_mem_set h
theorem placed_le {α : Type} {l : List α} {k : Nat} {st : Int} {x' : α} : (placed l k st x').length ≤ l.length := placed_len
theorem sum_le {α : Type} {f : α → Nat} {b : Nat} : ∀ (l : List α), (∀ x ∈ l, f x ≤ b) → (l.map f).sum ≤ l.length * b
  | [], _ => by simp
  | x :: l, h => by
    have h1 := h x (by simp)
    have h2 := sum_le l fun y hy => h y (by simp [hy])
    simp only [List.map_cons, List.sum_cons, List.length_cons, Nat.succ_mul]
    omega
theorem sm_of {S : Sch} (h : ∀ T ∈ S.tabs, T.Sm ∧ T.cost ≤ 28) (hl : S.tabs.length ≤ 10) : S.Sm := by
  refine ⟨fun T hT => (h T hT).1, ?_⟩
  have := sum_le (f := Tab.cost) (b := 28) S.tabs fun T hT => (h T hT).2
  unfold Sch.cost
  omega
theorem right_sm {S : Sch} (h : right S = true) : ∀ T ∈ S.tabs, T.Sm ∧ T.cost ≤ 25 ∧ T.cols.length ≤ 8 ∧ T.idxs.length ≤ 8 ∧ T.keys.length ≤ 8 := by
  obtain ⟨a, b, c, d, e⟩ := right_iff.1 h
  intro T hT
  obtain ⟨i, hi⟩ := List.mem_iff_getElem?.1 hT
  obtain ⟨l1, l2, l3, l4, n1, n2, n3, _, c1, _, _⟩ := tabB_iff.1 (allI_iff.1 d i T hi)
  have hn := allI_iff.1 c i T hi
  unfold nameT at hn
  simp only [Bool.and_eq_true] at hn
  refine ⟨⟨named_sm hn.1, fun x hx => ?_, fun x hx => ?_, fun x hx => ?_⟩, by unfold Tab.cost; omega, l2, l3, l4⟩
  · obtain ⟨j, hj⟩ := List.mem_iff_getElem?.1 hx
    have g1 := allI_iff.1 n1 j x hj
    have g2 := allI_iff.1 c1 j x hj
    unfold nameC at g1
    unfold colB at g2
    simp only [Bool.and_eq_true] at g1 g2
    exact ⟨named_sm g1.1, fits_sm g2.2.2⟩
  · obtain ⟨j, hj⟩ := List.mem_iff_getElem?.1 hx
    have g1 := allI_iff.1 n2 j x hj
    unfold nameX at g1
    simp only [Bool.and_eq_true] at g1
    exact named_sm g1.1
  · obtain ⟨j, hj⟩ := List.mem_iff_getElem?.1 hx
    have g1 := allI_iff.1 n3 j x hj
    unfold nameF at g1
    simp only [Bool.and_eq_true] at g1
    exact named_sm g1.1
theorem mkCols_sm : ∀ (l : List Col) (n : Int), (∀ c ∈ l, c.name.size ≤ 281474976710656) → ∀ c ∈ mkCols n l, c.Sm
  | [], n, _ => by simp [mkCols]
  | d :: l, n, h => by
    intro c hc
    simp only [mkCols, List.mem_cons] at hc
    rcases hc with rfl | hc
    · exact ⟨h d (by simp), Nat.zero_le _⟩
    · exact mkCols_sm l _ (fun x hx => h x (by simp [hx])) c hc
def Res.SmOk (r : Res) : Prop := ∀ S', r = .ok S' → S'.Sm
theorem smo_ite {c : Prop} [Decidable c] {a b : Res} (ha : c → a.SmOk) (hb : ¬ c → b.SmOk) : Res.SmOk (if c then a else b) := by
  by_cases h : c
  · rw [if_pos h]; exact ha h
  · rw [if_neg h]; exact hb h
theorem smo_e {e : Int} : Res.SmOk (.error e) := fun S' h' => by cases h'
theorem smo_o {S : Sch} (h : S.Sm) : Res.SmOk (.ok S) := fun e' h' => by cases h'; exact h
theorem set_sm {S : Sch} {v l : Int} {i : Nat} {T T' : Tab} (h : ∀ T ∈ S.tabs, T.Sm ∧ T.cost ≤ 25 ∧ T.cols.length ≤ 8 ∧ T.idxs.length ≤ 8 ∧ T.keys.length ≤ 8) (hl : S.tabs.length ≤ 6) (h1 : T'.Sm) (h2 : T'.cost ≤ 28) : Sch.Sm ⟨v, l, S.tabs.set i T'⟩ := by
  refine sm_of (fun U hU => ?_) (by simp; omega)
  rcases List.mem_or_eq_of_mem_set hU with hU | rfl
  · obtain ⟨a, b, _⟩ := h U hU; exact ⟨a, by omega⟩
  · exact ⟨h1, h2⟩
theorem turn1_sm {S : Sch} {D : Ddl} {st : Int} (h : ∀ T ∈ S.tabs, T.Sm ∧ T.cost ≤ 25 ∧ T.cols.length ≤ 8 ∧ T.idxs.length ≤ 8 ∧ T.keys.length ≤ 8) (hl : S.tabs.length ≤ 6) : (turn1 S D st).SmOk := by
  unfold turn1
  refine smo_ite (fun _ => ?_) fun _ => smo_ite (fun _ => smo_e) fun _ => ?_
  · unfold createTurn
    refine smo_ite (fun _ => smo_e) fun hn => smo_ite (fun _ => smo_e) fun _ => smo_ite (fun _ => smo_e) fun h8 => smo_ite (fun _ => smo_e) fun _ => smo_ite (fun _ => smo_e) fun _ => smo_o ?_
    have hn : (named D.table && D.cols.all fun c => named c.name) = true := by
      cases e : (named D.table && D.cols.all fun c => named c.name)
      · exact absurd e hn
      · rfl
    simp only [Bool.and_eq_true, List.all_eq_true] at hn
    simp only [Bool.or_eq_true, decide_eq_true_eq] at h8
    refine sm_of (fun U hU => ?_) (by simp; omega)
    rcases List.mem_append.1 hU with hU | hU
    · obtain ⟨a, b, _⟩ := h U hU; exact ⟨a, by omega⟩
    · have : U = ⟨S.last + 1, D.table, mkCols (S.last + 2) D.cols, [], []⟩ := by simpa using hU
      subst this
      refine ⟨⟨named_sm hn.1, mkCols_sm _ _ fun c hc => named_sm (hn.2 c hc), by simp, by simp⟩, ?_⟩
      unfold Tab.cost
      simp only [mkCols_len, List.length_nil]
      omega
  split
  · exact smo_e
  rename_i T hT
  obtain ⟨hTs, hTc, c8, x8, k8⟩ := h T (List.mem_of_getElem? hT)
  refine smo_ite (fun _ => ?_) fun _ => smo_ite (fun _ => ?_) fun _ => ?_
  · unfold colTurn
    refine smo_ite (fun _ => smo_ite (fun _ => smo_e) fun hf => smo_ite (fun _ => smo_e) fun hk => smo_ite (fun _ => smo_e) fun _ => smo_o ?_) fun _ => smo_ite (fun _ => smo_e) fun _ => ?_
    · have hk : (typed D.type && fits D.dflt D.type) = true := by
        cases e : (typed D.type && fits D.dflt D.type)
        · exact absurd e hk
        · rfl
      simp only [Bool.and_eq_true] at hk
      refine set_sm (T := T) h hl ⟨hTs.name, fun x hx => ?_, hTs.idxs, hTs.keys⟩ (by unfold Tab.cost; simp only [List.length_append, List.length_singleton]; omega)
      rcases List.mem_append.1 hx with hx | hx
      · exact hTs.cols x hx
      · have : x = ⟨S.last + 1, D.column, D.type, st, D.dflt⟩ := by simpa using hx
        subst this
        exact ⟨fresh_sm hf, fits_sm hk.2⟩
    · split
      · exact smo_e
      rename_i x hx
      refine smo_ite (fun _ => smo_e) fun _ => smo_ite (fun _ => smo_e) fun _ => smo_o ?_
      have hp := placed_le (l := T.cols) (k := (colAt T D.column).toNat) (st := st) (x' := x.put st)
      refine set_sm (T := T) h hl ⟨hTs.name, fun y hy => ?_, hTs.idxs, hTs.keys⟩ (by unfold Tab.cost; dsimp only; omega)
      rcases placed_mem hy with hy | rfl
      · exact hTs.cols y hy
      · exact hTs.cols x (List.mem_of_getElem? hx)
  · unfold idxTurn
    refine smo_ite (fun _ => smo_ite (fun _ => smo_e) fun hf => smo_ite (fun _ => smo_e) fun hk => smo_ite (fun _ => smo_e) fun _ => ?_) fun _ => smo_ite (fun _ => smo_e) fun _ => ?_
    · split
      · exact smo_e
      rename_i c hc
      refine smo_o (set_sm (T := T) h hl ⟨hTs.name, hTs.cols, fun x hx => ?_, hTs.keys⟩ (by unfold Tab.cost; simp only [List.length_append, List.length_singleton]; omega))
      rcases List.mem_append.1 hx with hx | hx
      · exact hTs.idxs x hx
      · have : x = ⟨S.last + 1, D.name, c.id, D.unique, st⟩ := by simpa using hx
        subst this
        exact fresh_sm hf
    · split
      · exact smo_e
      rename_i x hx
      refine smo_ite (fun _ => smo_e) fun _ => smo_o ?_
      have hp := placed_le (l := T.idxs) (k := (idxAt T D.name).toNat) (st := st) (x' := x.put st)
      refine set_sm (T := T) h hl ⟨hTs.name, hTs.cols, fun y hy => ?_, hTs.keys⟩ (by unfold Tab.cost; dsimp only; omega)
      rcases placed_mem hy with hy | rfl
      · exact hTs.idxs y hy
      · exact hTs.idxs x (List.mem_of_getElem? hx)
  · unfold keyTurn
    refine smo_ite (fun _ => smo_ite (fun _ => smo_e) fun hf => smo_ite (fun _ => smo_e) fun hk => smo_ite (fun _ => smo_e) fun _ => ?_) fun _ => smo_ite (fun _ => smo_e) fun _ => ?_
    · split
      · rename_i c P hc hP
        split
        · exact smo_e
        · refine smo_ite (fun _ => smo_e) fun _ => smo_ite (fun _ => smo_e) fun _ => smo_o (set_sm (T := T) h hl ⟨hTs.name, hTs.cols, hTs.idxs, fun x hx => ?_⟩ (by unfold Tab.cost; simp only [List.length_append, List.length_singleton]; omega))
          rcases List.mem_append.1 hx with hx | hx
          · exact hTs.keys x hx
          · have : x = ⟨S.last + 1, D.name, c.id, P.id, st⟩ := by simpa using hx
            subst this
            exact fresh_sm hf
      · exact smo_e
    · split
      · exact smo_e
      rename_i x hx
      refine smo_ite (fun _ => smo_e) fun _ => smo_o ?_
      have hp := placed_le (l := T.keys) (k := (keyAt T D.name).toNat) (st := st) (x' := x.put st)
      refine set_sm (T := T) h hl ⟨hTs.name, hTs.cols, hTs.idxs, fun y hy => ?_⟩ (by unfold Tab.cost; dsimp only; omega)
      rcases placed_mem hy with hy | rfl
      · exact hTs.keys y hy
      · exact hTs.keys x (List.mem_of_getElem? hx)
theorem no_sm : noSch.Sm := ⟨by simp, by simp [Sch.cost]⟩
theorem turn_sm (S : Sch) (D : Ddl) (st : Int) : (S.turn D st).1.Sm := by
  unfold Sch.turn
  by_cases hr : (right S && (decide (0 ≤ st) && decide (st ≤ 3))) = false
  · rw [if_pos hr]; exact no_sm
  rw [if_neg hr]
  have hr : right S = true := by
    cases e : right S
    · rw [e] at hr; exact absurd rfl hr
    · rfl
  split
  · exact no_sm
  · have := turn1_sm (S := { S with version := S.version + 1 }) (D := D) (st := st) (fun T hT => right_sm hr T hT) (right_iff.1 hr).2.1
    cases e : turn1 { S with version := S.version + 1 } D st with
    | error e => exact no_sm
    | ok S' => exact this S' e
theorem Sch.Sm.few {S : Sch} (h : S.Sm) : S.tabs.length ≤ 4294967296 ∧ ∀ T ∈ S.tabs, T.Few := by
  have hc := h.cost
  unfold Sch.cost at hc
  have key : ∀ l : List Tab, l.length ≤ (l.map Tab.cost).sum ∧ ∀ T ∈ l, T.cost ≤ (l.map Tab.cost).sum := by
    intro l
    induction l with
    | nil => simp
    | cons a l ih =>
      simp only [List.map_cons, List.sum_cons, List.length_cons]
      have ha : 1 ≤ a.cost := by unfold Tab.cost; omega
      refine ⟨by have := ih.1; omega, fun T hT => ?_⟩
      rcases List.mem_cons.1 hT with rfl | hT
      · omega
      · have := ih.2 T hT; omega
  obtain ⟨k1, k2⟩ := key S.tabs
  refine ⟨by omega, fun T hT => ?_⟩
  have := k2 T hT
  have hT2 : T.cost = 1 + T.cols.length + T.idxs.length + T.keys.length := rfl
  exact ⟨by omega, by omega, by omega⟩
theorem Has.sm {s : PH} {t : Tri} {ps : List TabP} {S : Sch} (h : Has s t ps) (he : S.tabs = ps.map (·.T)) (hs : S.Sm) : SchIs s t S ps := h.is he hs.few.1 hs.few.2
end Go.Proofs.Ythepfbcgpbkbdaa
end
section
set_option linter.unusedVariables false
set_option linter.unusedSimpArgs false
set_option maxHeartbeats 1000000
set_option maxRecDepth 100000
namespace Go.Proofs.Ythepfbcgpbkbdaa
open Fw Go
attribute [-simp] Fw.W.ld_iff Fw.W.st_iff
def rdVal : Rd Val := (Rd.pair (Rd.int .i64) (Rd.pair (Rd.int .i64) (Rd.pair Rd.str Rd.unit))).map fun x => ⟨x.1, x.2.1, x.2.2.1⟩
def rdCol : Rd Col := (Rd.pair (Rd.int .i64) (Rd.pair Rd.str (Rd.pair (Rd.int .i64) (Rd.pair (Rd.int .i64) (Rd.pair rdVal Rd.unit))))).map fun x => ⟨x.1, x.2.1, x.2.2.1, x.2.2.2.1, x.2.2.2.2.1⟩
def rdIdx : Rd Idx := (Rd.pair (Rd.int .i64) (Rd.pair Rd.str (Rd.pair (Rd.int .i64) (Rd.pair Rd.bool (Rd.pair (Rd.int .i64) Rd.unit))))).map fun x => ⟨x.1, x.2.1, x.2.2.1, x.2.2.2.1, x.2.2.2.2.1⟩
def rdFor : Rd For := (Rd.pair (Rd.int .i64) (Rd.pair Rd.str (Rd.pair (Rd.int .i64) (Rd.pair (Rd.int .i64) (Rd.pair (Rd.int .i64) Rd.unit))))).map fun x => ⟨x.1, x.2.1, x.2.2.1, x.2.2.2.1, x.2.2.2.2.1⟩
def rdTab : Rd Tab := (Rd.pair (Rd.int .i64) (Rd.pair Rd.str (Rd.pair (Rd.sl rdCol 72) (Rd.pair (Rd.sl rdIdx 48) (Rd.pair (Rd.sl rdFor 48) Rd.unit))))).map fun x => ⟨x.1, x.2.1, x.2.2.1, x.2.2.2.1, x.2.2.2.2.1⟩
def rdSch : Rd Sch := (Rd.pair (Rd.int .i64) (Rd.pair (Rd.int .i64) (Rd.pair (Rd.sl rdTab 96) Rd.unit))).map fun x => ⟨x.1, x.2.1, x.2.2.1⟩
def rdDdlF : Rd (Int × ByteArray × ByteArray × ByteArray × ByteArray × Bool × Int × Val × List Col × Unit) :=
  Rd.pair (Rd.int .i64) (Rd.pair Rd.str (Rd.pair Rd.str (Rd.pair Rd.str (Rd.pair Rd.str (Rd.pair Rd.bool (Rd.pair (Rd.int .i64) (Rd.pair rdVal (Rd.pair (Rd.sl rdCol 72) Rd.unit))))))))
def rdDdl : Rd Ddl := rdDdlF.map fun x => ⟨x.1, x.2.1, x.2.2.1, x.2.2.2.1, x.2.2.2.2.1, x.2.2.2.2.2.1, x.2.2.2.2.2.2.1, x.2.2.2.2.2.2.2.1, x.2.2.2.2.2.2.2.2.1⟩
theorem op3 : Opens Try.prog 3 (Rd.int .i64) := opens_int Try.underlying3 (by kernel_rfl)
theorem op9 : Opens Try.prog 9 Rd.str := opens_str Try.underlying9 (by kernel_rfl)
theorem op4 : Opens Try.prog 4 Rd.bool := opens_bool Try.underlying4 (by kernel_rfl)
theorem op26 : Opens Try.prog 26 rdVal := opens_map _ (opens_struct (.cons rfl op3 (.cons rfl (opens_int Try.underlying2 (by kernel_rfl)) (.cons rfl op9 (.nil _)))) Try.underlying26 (by kernel_rfl))
theorem op44 : Opens Try.prog 44 rdCol := opens_map _ (opens_struct (.cons rfl op3 (.cons rfl op9 (.cons rfl op3 (.cons rfl op3 (.cons rfl op26 (.nil _)))))) Try.underlying44 (by kernel_rfl))
theorem op106 : Opens Try.prog 106 rdIdx := opens_map _ (opens_struct (.cons rfl op3 (.cons rfl op9 (.cons rfl op3 (.cons rfl op4 (.cons rfl op3 (.nil _)))))) Try.underlying106 (by kernel_rfl))
theorem op109 : Opens Try.prog 109 rdFor := opens_map _ (opens_struct (.cons rfl op3 (.cons rfl op9 (.cons rfl op3 (.cons rfl op3 (.cons rfl op3 (.nil _)))))) Try.underlying109 (by kernel_rfl))
theorem op27 : Opens Try.prog 27 (Rd.sl rdCol 72) := opens_sl op44 Try.underlying27 (by kernel_rfl) (by kernel_rfl)
theorem op39 : Opens Try.prog 39 (Rd.sl rdIdx 48) := opens_sl op106 Try.underlying39 (by kernel_rfl) (by kernel_rfl)
theorem op40 : Opens Try.prog 40 (Rd.sl rdFor 48) := opens_sl op109 Try.underlying40 (by kernel_rfl) (by kernel_rfl)
theorem op42 : Opens Try.prog 42 rdTab := opens_map _ (opens_struct (.cons rfl op3 (.cons rfl op9 (.cons rfl op27 (.cons rfl op39 (.cons rfl op40 (.nil _)))))) Try.underlying42 (by kernel_rfl))
theorem op22 : Opens Try.prog 22 (Rd.sl rdTab 96) := opens_sl op42 Try.underlying22 (by kernel_rfl) (by kernel_rfl)
theorem op24 : Opens Try.prog 24 rdSch := opens_map _ (opens_struct (.cons rfl op3 (.cons rfl op3 (.cons rfl op22 (.nil _)))) Try.underlying24 (by kernel_rfl))
theorem op29 : Opens Try.prog 29 rdDdl := opens_map _ (opens_struct (.cons rfl op3 (.cons rfl op9 (.cons rfl op9 (.cons rfl op9 (.cons rfl op9 (.cons rfl op4 (.cons rfl op3 (.cons rfl op26 (.cons rfl op27 (.nil _)))))))))) Try.underlying29 (by kernel_rfl))
theorem rsz : reachBytes ≤ 281474976710656 := by decide
theorem rdVal_is {s : PH} {cs : List Value} {v : Val} (h : rdVal.is s cs v) : cs = [.int .i64 v.kind, .int .i64 v.n, .string v.s] ∧ v.s.size ≤ 281474976710656 := by
  obtain ⟨x, rfl, c1, c2, rfl, ⟨rfl, _⟩, d1, d2, rfl, ⟨rfl, _⟩, e1, e2, rfl, ⟨rfl, h3⟩, rfl⟩ := h
  exact ⟨rfl, Nat.le_trans h3 rsz⟩
theorem rdCol_is {s : PH} {cs : List Value} {c : Col} (h : rdCol.is s cs c) : cs = colE.f c ∧ c.Sm := by
  obtain ⟨x, rfl, c1, c2, rfl, ⟨rfl, _⟩, d1, d2, rfl, ⟨rfl, h2⟩, e1, e2, rfl, ⟨rfl, _⟩, f1, f2, rfl, ⟨rfl, _⟩, g1, g2, rfl, h5, rfl⟩ := h
  obtain ⟨rfl, h6⟩ := rdVal_is h5
  exact ⟨rfl, Nat.le_trans h2 rsz, h6⟩
theorem rdIdx_is {s : PH} {cs : List Value} {c : Idx} (h : rdIdx.is s cs c) : cs = idxE.f c ∧ c.name.size ≤ 281474976710656 := by
  obtain ⟨x, rfl, c1, c2, rfl, ⟨rfl, _⟩, d1, d2, rfl, ⟨rfl, h2⟩, e1, e2, rfl, ⟨rfl, _⟩, f1, f2, rfl, rfl, g1, g2, rfl, ⟨rfl, _⟩, rfl⟩ := h
  exact ⟨rfl, Nat.le_trans h2 rsz⟩
theorem rdFor_is {s : PH} {cs : List Value} {c : For} (h : rdFor.is s cs c) : cs = forE.f c ∧ c.name.size ≤ 281474976710656 := by
  obtain ⟨x, rfl, c1, c2, rfl, ⟨rfl, _⟩, d1, d2, rfl, ⟨rfl, h2⟩, e1, e2, rfl, ⟨rfl, _⟩, f1, f2, rfl, ⟨rfl, _⟩, g1, g2, rfl, ⟨rfl, _⟩, rfl⟩ := h
  exact ⟨rfl, Nat.le_trans h2 rsz⟩
/-- elements that can be read; they may be many -/
structure SlB {α : Type} (E : Enc α) (s : PH) (t : Tri) (xs : List α) : Prop where
  el : elems (Rd.enc E) s t.1 t.2.1 xs
  le : t.2.1 ≤ t.2.2
  big : xs.length ≤ 4398046511104
theorem SlB.few {α : Type} {E : Enc α} {s : PH} {t : Tri} {xs : List α} (h : SlB E s t xs) (hl : xs.length ≤ 4294967296) : Sl E s t xs := ⟨h.el, h.le, hl⟩
theorem sl_open {α : Type} {R : Rd α} {E : Enc α} {P : α → Prop} {bytes : Nat} {s : PH} {cs : List Value} {xs : List α} (hb : 48 ≤ bytes) (hz : R.sz = E.sz) (hi : ∀ cs x, R.is s cs x → cs = E.f x ∧ P x) (h : (Rd.sl R bytes).is s cs xs) :
    ∃ t : Tri, cs = [t.v] ∧ SlB E s t xs ∧ ∀ x ∈ xs, P x := by
  obtain ⟨a, n, c, rfl, h1, h2, h3, h4⟩ := h
  refine ⟨(a, n, c), rfl, ⟨h4.imp hz fun cs x hx => (hi cs x hx).1, h1, ?_⟩, fun x hx => ?_⟩
  · have hr : reachBytes = 140737488351232 := rfl
    have : c * 48 ≤ c * bytes := Nat.mul_le_mul_left _ hb
    have := h4.1
    omega
  · obtain ⟨i, hi2⟩ := List.mem_iff_getElem?.1 hx
    obtain ⟨ad, cs', _, h6, _⟩ := h4.2 i x hi2
    exact (hi cs' x h6).2
structure TabB (s : PH) (p : TabP) : Prop where
  c : SlB colE s p.c p.T.cols
  x : SlB idxE s p.x p.T.idxs
  k : SlB forE s p.k p.T.keys
structure SchB (s : PH) (t : Tri) (S : Sch) (ps : List TabP) : Prop where
  el : SlB tabE s t ps
  eq : S.tabs = ps.map (·.T)
  all : ∀ p ∈ ps, TabB s p
theorem rdTab_is {s : PH} {cs : List Value} {T : Tab} (h : rdTab.is s cs T) : ∃ p : TabP, p.T = T ∧ cs = tabE.f p ∧ TabB s p ∧ T.Sm := by
  obtain ⟨x, rfl, c1, c2, rfl, ⟨rfl, _⟩, d1, d2, rfl, ⟨rfl, h2⟩, e1, e2, rfl, h3, f1, f2, rfl, h4, g1, g2, rfl, h5, rfl⟩ := h
  obtain ⟨t1, rfl, k1, n1⟩ := sl_open (by omega) rfl (fun cs x hx => rdCol_is hx) h3
  obtain ⟨t2, rfl, k2, n2⟩ := sl_open (by omega) rfl (fun cs x hx => rdIdx_is hx) h4
  obtain ⟨t3, rfl, k3, n3⟩ := sl_open (by omega) rfl (fun cs x hx => rdFor_is hx) h5
  exact ⟨⟨_, t1, t2, t3⟩, rfl, rfl, ⟨k1, k2, k3⟩, ⟨Nat.le_trans h2 rsz, n1, n2, n3⟩⟩
theorem tabs_choose : ∀ (l : List Tab) (Q : Nat → TabP → Prop), (∀ i T, l[i]? = some T → ∃ p : TabP, p.T = T ∧ Q i p) → ∃ ps : List TabP, ps.map (·.T) = l ∧ ∀ i p, ps[i]? = some p → Q i p
  | [], Q, _ => ⟨[], rfl, fun i p h => by simp at h⟩
  | T :: l, Q, h => by
    obtain ⟨p, hp, hq⟩ := h 0 T rfl
    obtain ⟨ps, he, hr⟩ := tabs_choose l (fun i => Q (i + 1)) fun i T' hT => h (i + 1) T' hT
    refine ⟨p :: ps, by simp [hp, he], fun i q hi => ?_⟩
    cases i with
    | zero => simp at hi; subst hi; exact hq
    | succ i => exact hr i q hi
theorem rdSch_is {s : PH} {cs : List Value} {S : Sch} (h : rdSch.is s cs S) : ∃ t ps, cs = [.int .i64 S.version, .int .i64 S.last, .slice t.1 t.2.1 t.2.2] ∧ SchB s t S ps ∧ ∀ T ∈ S.tabs, T.Sm := by
  obtain ⟨x, rfl, c1, c2, rfl, ⟨rfl, _⟩, d1, d2, rfl, ⟨rfl, _⟩, e1, e2, rfl, ⟨a, n, c, rfl, h1, h2, h3, h4⟩, rfl⟩ := h
  obtain ⟨ps, he, hq⟩ := tabs_choose x.2.2.1 (fun i p => (∃ ad, a = some ad ∧ s.has (ad.add (i * 5)) (tabE.f p)) ∧ TabB s p ∧ p.T.Sm) fun i T hT => by
    obtain ⟨ad, cs, k1, k2, k3⟩ := h4.2 i T hT
    obtain ⟨p, rfl, rfl, k4, k5⟩ := rdTab_is k2
    exact ⟨p, rfl, ⟨ad, k1, k3⟩, k4, k5⟩
  have hlen : ps.length = n := by rw [h4.1, ← he, List.length_map]
  refine ⟨(a, n, c), ps, rfl, ⟨⟨⟨hlen.symm, fun i p hp => ?_⟩, h1, ?_⟩, he.symm, fun p hp => ?_⟩, fun T hT => ?_⟩
  · obtain ⟨⟨ad, k1, k2⟩, _⟩ := hq i p hp
    exact ⟨ad, _, k1, rfl, k2⟩
  · have hr : reachBytes = 140737488351232 := rfl
    omega
  · obtain ⟨i, hi⟩ := List.mem_iff_getElem?.1 hp
    exact (hq i p hi).2.1
  · rw [show (Sch.mk x.1 x.2.1 x.2.2.1).tabs = ps.map (·.T) from he.symm] at hT
    obtain ⟨p, hp, rfl⟩ := List.mem_map.1 hT
    obtain ⟨i, hi⟩ := List.mem_iff_getElem?.1 hp
    exact (hq i p hi).2.2
theorem rdDdl_is {s : PH} {cs : List Value} {D : Ddl} (h : rdDdl.is s cs D) : ∃ t : Tri, cs = [.int .i64 D.kind, .string D.table, .string D.name, .string D.column, .string D.parent, .bool D.unique, .int .i64 D.type, .int .i64 D.dflt.kind, .int .i64 D.dflt.n, .string D.dflt.s, .slice t.1 t.2.1 t.2.2] ∧ SlB colE s t D.cols := by
  obtain ⟨x, rfl, c1, c2, rfl, ⟨rfl, _⟩, d1, d2, rfl, ⟨rfl, _⟩, e1, e2, rfl, ⟨rfl, _⟩, f1, f2, rfl, ⟨rfl, _⟩, g1, g2, rfl, ⟨rfl, _⟩, i1, i2, rfl, rfl, j1, j2, rfl, ⟨rfl, _⟩, k1, k2, rfl, hv, l1, l2, rfl, hc, rfl⟩ := h
  obtain ⟨rfl, _⟩ := rdVal_is hv
  obtain ⟨t, rfl, k, _⟩ := sl_open (by omega) rfl (fun cs x hx => rdCol_is hx) hc
  exact ⟨t, rfl, k⟩
def wsum (l : List Tab) : Nat := (l.map fun T => T.cols.length + T.idxs.length + T.keys.length).sum
theorem wsum_take {l : List Tab} {k : Nat} {T : Tab} (h : l[k]? = some T) : wsum (l.take (k + 1)) = wsum (l.take k) + (T.cols.length + T.idxs.length + T.keys.length) := by
  unfold wsum; rw [List.take_add_one, h]; simp
theorem c_great {s : PH} {t : Tri} {S : Sch} {ps : List TabP} (h : SchB s t S ps) (D : Ddl) {u : Tri} (hu : SlB colE s u D.cols) :
    DCalls Try.prog 12 #[schV S t, ddlV D u] s fun y s' => (∃ b, y = .bool b ∧ (b = false → S.tabs.length + D.cols.length + wsum S.tabs ≤ 300)) ∧ s' = s := by
  obtain ⟨ua, un, uc⟩ := u
  obtain ⟨ta, tn, tc⟩ := t
  refine ok_great S.version S.last ta tn tc D.kind D.table D.name D.column D.parent D.unique D.type D.dflt.kind D.dflt.n D.dflt.s ua un uc _ s ?_
  unfold vc_great
  have htn : tn = ps.length := h.el.el.1
  have hpl : S.tabs.length = ps.length := by rw [h.eq]; simp
  have hun : un = D.cols.length := hu.el.1
  have hb1 := h.el.big
  have hb2 := hu.big
  simp only [RP_join, RP_ite, RP_call, RP_callQ, RP_ret, RP_nw, RP_app, RP_st, RP_ld, RP_unSome, RP_guard, RP_loop, RP_still, RP_clr, RP_look, RP_mset, W.unSome_some]
  have hw0 : IntKind.i64.wrap ((tn : Int) + (un : Int)) = ((tn + un : Nat) : Int) := by rw [wrap_in (by omega) (by omega)]; omega
  rw [hw0]
  refine ⟨fun z s' => ∃ k : Nat, z = ((((tn + un + wsum (S.tabs.take k) : Nat) : Int), ()), ((ta, tn, tc), ()), ((tn : Int), ()), ((k : Int), ()), ()) ∧ k ≤ tn ∧ s' = s ∧ tn + un + wsum (S.tabs.take k) ≤ 17592186044416, fun z _ => tn - z.2.2.2.1.1.toNat, ⟨0, by simp [wsum], Nat.zero_le _, rfl, by simp [wsum]; omega⟩, ?_⟩
  rintro _ s0 ⟨k, rfl, hk, rfl, hN⟩
  simp only [W.br_iff, decide_eq_true_eq, decide_eq_false_iff_not]
  refine ⟨fun hlt => ?_, fun hge => ?_⟩
  · have hlt : k < tn := by omega
    obtain ⟨p, hp⟩ : ∃ p, ps[k]? = some p := ⟨_, List.getElem?_eq_getElem (by omega)⟩
    have hT : S.tabs[k]? = some p.T := by rw [h.eq, List.getElem?_map, hp]; (first | done | rfl)
    obtain ⟨ad, had, hh⟩ := h.el.el.at_enc hp
    dsimp only at had
    subst had
    refine ⟨by omega, ?_⟩
    simp only [W.unSome_some, Int.toNat_natCast]
    refine ld_has_z hh (y := (p.T.id, p.T.name, p.c, p.x, p.k, ())) rfl ?_
    have hP := h.all p (get_mem hp)
    have l1 : p.c.2.1 = p.T.cols.length := hP.c.el.1
    have l2 : p.x.2.1 = p.T.idxs.length := hP.x.el.1
    have l3 : p.k.2.1 = p.T.keys.length := hP.k.el.1
    have g1 := hP.c.big
    have g2 := hP.x.big
    have g3 := hP.k.big
    have hs := wsum_take hT
    have hw : IntKind.i64.wrap (((tn + un + wsum (S.tabs.take k) : Nat) : Int) + IntKind.i64.wrap (IntKind.i64.wrap (((p.c.2.1 : Nat) : Int) + ((p.x.2.1 : Nat) : Int)) + ((p.k.2.1 : Nat) : Int))) = ((tn + un + wsum (S.tabs.take (k + 1)) : Nat) : Int) := by
      rw [wrap_in (n := ((p.c.2.1 : Nat) : Int) + ((p.x.2.1 : Nat) : Int)) (by omega) (by omega), wrap_in (n := ((p.c.2.1 : Nat) : Int) + ((p.x.2.1 : Nat) : Int) + ((p.k.2.1 : Nat) : Int)) (by omega) (by omega), wrap_in (by omega) (by omega), hs]
      omega
    dsimp only
    rw [hw]
    simp only [W.br_iff, decide_eq_true_eq, decide_eq_false_iff_not]
    refine ⟨fun hgt => ⟨⟨true, rfl, fun e => by cases e⟩, by trivial⟩, fun hle => ?_⟩
    rw [wrap_succ (k := k) (by omega)]
    refine ⟨⟨k + 1, rfl, hlt, by trivial, by omega⟩, by simp only [Int.toNat_natCast]; omega⟩
  · have hall : S.tabs.take k = S.tabs := List.take_of_length_le (by omega)
    rw [hall]
    refine ⟨⟨_, rfl, fun e => ?_⟩, by trivial⟩
    have e := of_decide_eq_false e
    omega
theorem SchB.is {s : PH} {t : Tri} {S : Sch} {ps : List TabP} (h : SchB s t S ps) (hl : S.tabs.length + wsum S.tabs ≤ 300) : SchIs s t S ps := by
  have key : ∀ (l : List Tab), ∀ T ∈ l, T.cols.length + T.idxs.length + T.keys.length ≤ wsum l := by
    intro l
    induction l with
    | nil => simp
    | cons a l ih =>
      intro T hT
      have e : wsum (a :: l) = (a.cols.length + a.idxs.length + a.keys.length) + wsum l := by simp [wsum]
      rcases List.mem_cons.1 hT with rfl | hT
      · omega
      · have := ih T hT; omega
  have hpl : S.tabs.length = ps.length := by rw [h.eq]; simp
  refine ⟨h.el.few (by omega), h.eq, fun p hp => ?_⟩
  have hT : p.T ∈ S.tabs := by rw [h.eq]; exact List.mem_map_of_mem hp
  have := key S.tabs p.T hT
  obtain ⟨a, b, c⟩ := h.all p hp
  exact ⟨a.few (by omega), b.few (by omega), c.few (by omega)⟩
abbrev bs (l : List UInt8) : ByteArray := ⟨l.toArray⟩
abbrev emp : ByteArray := ⟨#[]⟩
def exD : Ddl := ⟨1, bs [116], emp, emp, emp, false, 0, ⟨0, 0, emp⟩, [⟨0, bs [97], 1, 0, ⟨0, 0, emp⟩⟩, ⟨0, bs [98], 2, 0, ⟨0, 0, emp⟩⟩]⟩
def exS1 : Sch := ⟨1, 3, [⟨1, bs [116], [⟨2, bs [97], 1, 3, ⟨0, 0, emp⟩⟩, ⟨3, bs [98], 2, 3, ⟨0, 0, emp⟩⟩], [], []⟩]⟩
def exD2 : Ddl := ⟨2, bs [116], bs [105], bs [98], emp, false, 0, ⟨0, 0, emp⟩, []⟩
def exS2 : Sch := ⟨2, 4, [⟨1, bs [116], [⟨2, bs [97], 1, 3, ⟨0, 0, emp⟩⟩, ⟨3, bs [98], 2, 3, ⟨0, 0, emp⟩⟩], [⟨4, bs [105], 3, false, 1⟩], []⟩]⟩
def exD3 : Ddl := ⟨5, bs [116], emp, bs [98], emp, false, 0, ⟨0, 0, emp⟩, []⟩
theorem ex1 : noSch.turn exD 3 = (exS1, 0) := by kernel_rfl
theorem ex2 : exS1.turn exD2 1 = (exS2, 0) := by kernel_rfl
theorem ex3 : exS2.turn exD3 2 = (noSch, 155) := by kernel_rfl
theorem c_Example (s : PH) : DCalls Try.prog 37 #[] s fun y s' => ∃ u : Tri, y = ddlV exD u ∧ Sl colE s' u exD.cols ∧ Fw.Mod [] s s' := by
  refine ok_Example _ s ?_
  unfold vc_Example
  simp only [RP_join, RP_ite, RP_call, RP_callQ, RP_ret, RP_nw, RP_app, RP_st, RP_ld, RP_unSome, RP_guard, RP_loop, RP_still, RP_clr, RP_look, RP_mset, W.unSome_some]
  refine W.nw_of fun r s1 hr m1 k1 => ?_
  refine ⟨(some ⟨r, 0, none⟩, 2, 2), rfl, ⟨⟨rfl, fun i x hx => ?_⟩, Nat.le_refl _, by decide⟩, m1⟩
  refine ⟨⟨r, 0, none⟩, _, rfl, rfl, ?_⟩
  have hb := has_block k1
  have hz : (Rd.enc colE).sz = 7 := rfl
  rw [hz]
  match i with
  | 0 =>
    simp [exD] at hx; subst hx
    have := PH.has.sub (l1 := []) (l2 := colE.f ⟨0, bs [97], 1, 0, ⟨0, 0, emp⟩⟩) (l3 := colE.f ⟨0, bs [98], 2, 0, ⟨0, 0, emp⟩⟩) hb
    exact this
  | 1 =>
    simp [exD] at hx; subst hx
    have := PH.has.sub (l1 := colE.f ⟨0, bs [97], 1, 0, ⟨0, 0, emp⟩⟩) (l2 := colE.f ⟨0, bs [98], 2, 0, ⟨0, 0, emp⟩⟩) (l3 := []) hb
    exact this
  | i + 2 => simp [exD] at hx
theorem gives_at {s : PH} {S' : Sch} {e : Int} {y : Value} {s' : PH} (h : Gives s S' e y s') (hs : S'.Sm) : ∃ t ps, y = .tuple #[schV S' t, .int .i64 e] ∧ SchIs s' t S' ps ∧ Has s' t ps ∧ Fw.Mod [] s s' ∧ ∀ g ∈ Lof t ps, s g = none := by
  obtain ⟨t, ps, rfl, hH, he, m, hf⟩ := h
  exact ⟨t, ps, rfl, hH.sm he hs, hH, m, hf⟩
theorem c_awake (s : PH) : DCalls Try.prog 11 #[] s fun y s' => y = .bool true ∧ s' = s := by
  refine DCalls.quiet (ok_awake _ s ?_)
  unfold vc_awake
  simp only [RP_join, RP_ite, RP_call, RP_callQ, RP_ret, RP_nw, RP_app, RP_st, RP_ld, RP_unSome, RP_guard, RP_loop, RP_still, RP_clr, RP_look, RP_mset, W.unSome_some]
  refine W.call_of (c_Example s) ?_
  rintro _ s1 ⟨u, rfl, hu, m1⟩
  refine ⟨((exD.kind, exD.table, exD.name, exD.column, exD.parent, exD.unique, exD.type, exD.dflt.kind, exD.dflt.n, exD.dflt.s, u, ()), ()), rfl, ?_⟩
  have hno : SchIs s1 noTri noSch [] := ⟨Sl.nil, rfl, by simp⟩
  have hc1 := c_Turn hno exD hu (by decide) 3
  have hz1 := turn_sm noSch exD 3
  rw [ex1] at hc1 hz1
  refine W.call_of hc1 ?_
  intro y s2 hg
  obtain ⟨t2, ps2, rfl, hS2, _, m2, _⟩ := gives_at hg hz1
  refine ⟨((exS1.version, exS1.last, t2, ()), (0, ()), ()), rfl, ?_⟩
  have hc2 := c_Turn hS2 exD2 (u := noTri) Sl.nil (by decide) 1
  have hz2 := turn_sm exS1 exD2 1
  rw [ex2] at hc2 hz2
  refine W.call_of hc2 ?_
  intro y s3 hg
  obtain ⟨t3, ps3, rfl, hS3, hH3, m3, _⟩ := gives_at hg hz2
  refine ⟨((exS2.version, exS2.last, t3, ()), (0, ()), ()), rfl, ?_⟩
  have hc3 := c_Turn hS3 exD3 (u := noTri) Sl.nil (by decide) 2
  have hz3 := turn_sm exS2 exD3 2
  rw [ex3] at hc3 hz3
  refine W.call_of hc3 ?_
  intro y s4 hg
  obtain ⟨t4, ps4, rfl, hS4, _, m4, _⟩ := gives_at hg hz3
  refine ⟨((noSch.version, noSch.last, t4, ()), (155, ()), ()), rfl, ?_⟩
  have hm : Fw.Mod [] s s4 := ((m1.trans m2).trans m3).trans m4
  have hS34 := hS3.mono m4.le
  have hlen : t3.2.1 = ps3.length := hS34.el.el.1
  have hpl : exS2.tabs.length = ps3.length := by rw [hS34.eq]; simp
  obtain ⟨p, hp⟩ : ∃ p, ps3[0]? = some p := ⟨_, List.getElem?_eq_getElem (by rw [← hpl]; decide)⟩
  have hT : exS2.tabs[0]? = some p.T := by rw [hS34.eq, List.getElem?_map, hp]; (first | done | rfl)
  obtain ⟨ad, had, hh⟩ := hS34.el.el.at_enc hp
  have hx : p.x.2.1 = p.T.idxs.length := (hS34.all p (get_mem hp)).x.len
  have hTv : p.T.idxs.length = 1 := by
    have : p.T = (exS2.tabs[0]?).getD ⟨0, emp, [], [], []⟩ := by rw [hT]; (first | done | rfl)
    rw [this]; (first | done | rfl)
  refine (W.br_iff _ _ _ _).2 ⟨fun _ => ?_, fun e => by cases e⟩
  refine (W.br_iff _ _ _ _).2 ⟨fun _ => ?_, fun e => by cases e⟩
  refine (W.br_iff _ _ _ _).2 ⟨fun _ => ?_, fun e => by cases e⟩
  refine (W.br_iff _ _ _ _).2 ⟨fun _ => ?_, fun e => by cases e⟩
  refine (W.br_iff _ _ _ _).2 ⟨fun _ => ?_, fun e => by cases e⟩
  have hn1 : t3.2.1 = 1 := by rw [hlen, ← hpl]; (first | done | rfl)
  refine ⟨by show (0 : Int) ≤ 0 ∧ (0 : Int) < (t3.2.1 : Nat); omega, ?_⟩
  dsimp only
  rw [had]
  simp only [W.unSome_some]
  rw [Nat.zero_mul] at hh
  refine ld_has (j := 3) hh (cs := [.slice]) (y := (p.x, ())) rfl ?_
  refine (W.br_iff _ _ _ _).2 ⟨fun _ => ?_, fun e => ?_⟩
  · refine (W.br_iff _ _ _ _).2 ⟨fun _ => ⟨rfl, hm⟩, fun e => by cases e⟩
  · have e : (((p.x.2.1 : Nat) : Int) == 1) = false := e
    rw [hx, hTv] at e
    cases e
end Go.Proofs.Ythepfbcgpbkbdaa
end
section
set_option linter.unusedVariables false
set_option linter.unusedSimpArgs false
set_option maxHeartbeats 1000000
set_option maxRecDepth 100000
namespace Go.Proofs.Ythepfbcgpbkbdaa
open Fw Go
attribute [-simp] Fw.W.ld_iff Fw.W.st_iff
abbrev noDdl : Ddl := ⟨0, emp, emp, emp, emp, false, 0, ⟨0, 0, emp⟩, []⟩
theorem agg_arr {cs : Array Value} {l : List Value} (h : cs.toList = l) : Value.agg cs = .agg l.toArray := by rw [← h]
end Go.Proofs.Ythepfbcgpbkbdaa
end
section
set_option linter.unusedVariables false
set_option linter.unusedSimpArgs false
set_option maxHeartbeats 1000000
set_option maxRecDepth 100000
namespace Go.Proofs.Ythepfbcgpbkbdaa
open Fw Go
attribute [-simp] Fw.W.ld_iff Fw.W.st_iff
def movE : Enc (Int × Int) where
  sz := 2
  f m := [.int .i64 m.1, .int .i64 m.2]
  len _ := rfl
  one p v hv := by simp at hv; rcases hv with rfl | rfl <;> rfl
  pos := by omega
def pairs : List Int → List (Int × Int)
  | x :: y :: l => (x, y) :: pairs l
  | _ => []
theorem row_lit {α : Type} {E : Enc α} {s : PH} {r n : Nat} {cur : Array Value} {e : TypeId} {xs : List α} (h : s r = some (.cells cur e (0, 0))) (hc : cur.toList = xs.flatMap E.f) (hn : xs.length = n) (hl : n ≤ 1000) : rowE E s e (some ⟨r, 0, none⟩) n n xs := by
  have hmax : maxLen = 9223372036854775807 := rfl
  have hlen := flat_len (E := E) xs
  rw [hn] at hlen
  have hsz : cur.size = n * E.sz := by rw [← Array.length_toList, hc, hlen]
  exact ⟨hlen, Nat.le_refl _, by omega, .inr ⟨r, cur, rfl, h, by omega, by rw [hc, ← hlen, List.take_length]⟩⟩
theorem pairs_len : ∀ (l : List Int), (pairs l).length ≤ l.length
  | [] => by simp [pairs]
  | [a] => by simp [pairs]
  | a :: b :: l => by have := pairs_len l; simp only [pairs, List.length_cons]; omega
def pathL (kind : Int) (back : Bool) : List Int :=
  if back = true then (if kind = 2 then [1, 1, 3, 0, 5, 0, 1, 0] else if kind = 4 then [1, 1, 1, 0] else if kind = 6 then [1, 0] else [])
  else if kind = 1 then [1, 3] else if kind = 2 then [1, 1, 1, 2, 3, 0, 4, 0, 1, 3] else if kind = 3 then [1, 2, 1, 1, 3, 0, 5, 0, 1, 0] else if kind = 4 then [1, 1, 1, 2, 3, 0, 4, 0, 2, 3]
  else if kind = 5 then [2, 2, 1, 1, 1, 0] else if kind = 6 then [1, 2, 3, 0, 4, 0, 1, 3] else if kind = 7 then [1, 0] else []
def PathIs (s : PH) (kind : Int) (back : Bool) (y : Value) (s' : PH) : Prop := ∃ u : Tri, y = u.v ∧ rowE movE s' 56 u.1 u.2.1 u.2.2 (pairs (pathL kind back)) ∧ Fw.Mod [] s s'
theorem c_bump (state : Int) (s : PH) : DCalls Try.prog 63 #[.int .i64 state] s fun y s' => y = .agg #[.int .i64 1, .int .i64 state] ∧ s' = s := by
  refine ok_bump state _ s ?_
  unfold vc_bump
  simp
theorem bump_V {s : PH} {n : Int} {k : MDen [(true, [.int .i64, .int .i64])] → W.T} (hk : k ((1, n, ()), ()) s) : W.callV Try.prog (.func (.func 63) #[] #[]) #[.int .i64 n] (false, [(true, [.int .i64, .int .i64])]) k s := by
  refine callV_of' (cap := #[]) Try.func63 rfl (by kernel_rfl) (c_bump n s) ?_
  rintro _ s' ⟨rfl, rfl⟩
  exact ⟨((1, n, ()), ()), rfl, hk⟩
theorem c_Path (D : Ddl) (u : Tri) (back : Bool) (s : PH) : DCalls Try.prog 23 #[ddlV D u, .bool back] s (PathIs s D.kind back) := by
  obtain ⟨ua, un, uc⟩ := u
  refine ok_Path D.kind D.table D.name D.column D.parent D.unique D.type D.dflt.kind D.dflt.n D.dflt.s ua un uc back _ s ?_
  unfold vc_Path
  obtain ⟨kind, hkind⟩ : ∃ k, D.kind = k := ⟨_, rfl⟩
  rw [hkind]
  simp only [RP_join, RP_ite, RP_call, RP_callQ, RP_callV, RP_ret, RP_nw, RP_app, RP_st, RP_ld, RP_unSome, RP_guard, RP_loop, W.unSome_some]
  have go : ∀ (l : List (Int × Int)) (cur : Array Value) (n : Nat), cur.toList = l.flatMap movE.f → l.length = n → n ≤ 1000 → pairs (pathL kind back) = l → W.nw (.cells cur 56 (0, 0)) (fun r => W.ret (PathIs s kind back) (.slice (some ⟨r, 0, none⟩) n n)) s :=
    fun l cur n h1 h2 h3 h4 => W.nw_of fun r s1 hr m1 k1 => ⟨(some ⟨r, 0, none⟩, n, n), rfl, by rw [h4]; exact row_lit k1 h1 h2 h3, m1⟩
  have none_ : pathL kind back = [] → PathIs s kind back (.slice none 0 0) s := fun h => ⟨noTri, rfl, by rw [h]; exact rowE.nil, Mod.refl _ _⟩
  refine W.join_gen (fun z s' => z = ((kind, D.table, D.name, D.column, D.parent, D.unique, D.type, D.dflt.kind, D.dflt.n, D.dflt.s, (ua, un, uc), ()), (.func (.func 63) #[] #[], ()), (3, 0, ()), (4, 0, ()), (5, 0, ()), ()) ∧ s' = s ∧ back = false) ?_ ?_
  rotate_left
  · intro J hJ
    refine W.join_gen (fun z s' => z = ((kind, D.table, D.name, D.column, D.parent, D.unique, D.type, D.dflt.kind, D.dflt.n, D.dflt.s, (ua, un, uc), ()), (.func (.func 63) #[] #[], ()), (3, 0, ()), (4, 0, ()), (5, 0, ()), (back && decide (kind = 2), ()), ()) ∧ s' = s) ?_ ?_
    rotate_left
    · intro J1 hJ1
      refine (W.br_iff _ _ _ _).2 ⟨fun hb => hJ1 _ _ ⟨by rw [hb, beq_dec]; (first | done | rfl), rfl⟩, fun hb => hJ1 _ _ ⟨by rw [hb]; (first | done | rfl), rfl⟩⟩
    rintro _ s0 ⟨rfl, rfl⟩
    refine (W.br_iff _ _ _ _).2 ⟨fun h2 => ?_, fun h2 => ?_⟩
    · have h2 : (back && decide (kind = 2)) = true := h2
      simp only [Bool.and_eq_true, decide_eq_true_eq] at h2
      refine bump_V (bump_V ?_)
      exact go [(1, 1), (3, 0), (5, 0), (1, 0)] _ 4 rfl rfl (by omega) (by rw [h2.1, h2.2]; (first | done | rfl))
    have h2 : ¬ (back = true ∧ kind = 2) := by
      have h2 : (back && decide (kind = 2)) = false := h2
      intro e; rw [e.1, e.2] at h2; cases h2
    refine W.join_gen (fun z s' => z = ((kind, D.table, D.name, D.column, D.parent, D.unique, D.type, D.dflt.kind, D.dflt.n, D.dflt.s, (ua, un, uc), ()), (.func (.func 63) #[] #[], ()), (3, 0, ()), (4, 0, ()), (5, 0, ()), (back && decide (kind = 4), ()), ()) ∧ s' = s0) ?_ ?_
    rotate_left
    · intro J1 hJ1
      refine (W.br_iff _ _ _ _).2 ⟨fun hb => hJ1 _ _ ⟨by rw [hb, beq_dec]; (first | done | rfl), rfl⟩, fun hb => hJ1 _ _ ⟨by rw [hb]; (first | done | rfl), rfl⟩⟩
    rintro _ s1 ⟨rfl, rfl⟩
    refine (W.br_iff _ _ _ _).2 ⟨fun h4 => ?_, fun h4 => ?_⟩
    · have h4 : (back && decide (kind = 4)) = true := h4
      simp only [Bool.and_eq_true, decide_eq_true_eq] at h4
      refine bump_V (bump_V ?_)
      exact go [(1, 1), (1, 0)] _ 2 rfl rfl (by omega) (by rw [h4.1, h4.2]; (first | done | rfl))
    have h4 : ¬ (back = true ∧ kind = 4) := by
      have h4 : (back && decide (kind = 4)) = false := h4
      intro e; rw [e.1, e.2] at h4; cases h4
    refine (W.br_iff _ _ _ _).2 ⟨fun hb => ?_, fun hb => ?_⟩
    · refine (W.br_iff _ _ _ _).2 ⟨fun h6 => ?_, fun h6 => ?_⟩
      · have h6 : kind = 6 := by simpa using h6
        refine bump_V ?_
        exact go [(1, 0)] _ 1 rfl rfl (by omega) (by rw [hb, h6]; (first | done | rfl))
      · have h6 : kind ≠ 6 := by simpa using h6
        refine (W.br_iff _ _ _ _).2 ⟨fun _ => none_ ?_, fun e => by rw [hb] at e; cases e⟩
        unfold pathL
        rw [if_pos hb, if_neg (fun e => h2 ⟨hb, e⟩), if_neg (fun e => h4 ⟨hb, e⟩), if_neg h6]
    · refine (W.br_iff _ _ _ _).2 ⟨fun e => (by rw [hb] at e; cases e), fun _ => hJ _ _ ⟨rfl, rfl, hb⟩⟩
  rintro _ s0 ⟨rfl, rfl, hb⟩
  simp only [W.br_iff]
  refine ⟨fun h1 => ?_, fun h1 => ⟨fun h2 => ?_, fun h2 => ⟨fun h3 => ?_, fun h3 => ⟨fun h4 => ?_, fun h4 => ⟨fun h5 => ?_, fun h5 => ⟨fun h6 => ?_, fun h6 => ⟨fun h7 => ?_, fun h7 => ?_⟩⟩⟩⟩⟩⟩⟩
  · exact bump_V (go [(1, 3)] _ 1 rfl rfl (by omega) (by have h1 : kind = 1 := by simpa using h1
                                                         rw [hb, h1]; (first | done | rfl)))
  · exact bump_V (bump_V (bump_V (go [(1, 1), (1, 2), (3, 0), (4, 0), (1, 3)] _ 5 rfl rfl (by omega) (by have h2 : kind = 2 := by simpa using h2
                                                                                                         rw [hb, h2]; (first | done | rfl)))))
  · exact bump_V (bump_V (bump_V (go [(1, 2), (1, 1), (3, 0), (5, 0), (1, 0)] _ 5 rfl rfl (by omega) (by have h2 : kind = 3 := by simpa using h3
                                                                                                         rw [hb, h2]; (first | done | rfl)))))
  · exact bump_V (bump_V (go [(1, 1), (1, 2), (3, 0), (4, 0), (2, 3)] _ 5 rfl rfl (by omega) (by have h2 : kind = 4 := by simpa using h4
                                                                                                 rw [hb, h2]; (first | done | rfl))))
  · exact bump_V (bump_V (go [(2, 2), (1, 1), (1, 0)] _ 3 rfl rfl (by omega) (by have h2 : kind = 5 := by simpa using h5
                                                                                 rw [hb, h2]; (first | done | rfl))))
  · exact bump_V (bump_V (go [(1, 2), (3, 0), (4, 0), (1, 3)] _ 4 rfl rfl (by omega) (by have h2 : kind = 6 := by simpa using h6
                                                                                         rw [hb, h2]; (first | done | rfl))))
  · exact bump_V (go [(1, 0)] _ 1 rfl rfl (by omega) (by have h2 : kind = 7 := by simpa using h7
                                                         rw [hb, h2]; (first | done | rfl)))
  · refine none_ ?_
    simp at h1 h2 h3 h4 h5 h6 h7
    unfold pathL
    rw [if_neg (by rw [hb]; simp), if_neg h1, if_neg h2, if_neg h3, if_neg h4, if_neg h5, if_neg h6, if_neg h7]
end Go.Proofs.Ythepfbcgpbkbdaa
end
section
set_option linter.unusedVariables false
set_option linter.unusedSimpArgs false
set_option maxHeartbeats 1000000
set_option maxRecDepth 100000
namespace Go.Proofs.Ythepfbcgpbkbdaa
open Fw Go
attribute [-simp] Fw.W.ld_iff Fw.W.st_iff
def stC (T : Tab) (name : ByteArray) : Int := if colAt T name < 0 then 0 else match T.cols[(colAt T name).toNat]? with | some x => x.state | none => 0
def stX (T : Tab) (name : ByteArray) : Int := if idxAt T name < 0 then 0 else match T.idxs[(idxAt T name).toNat]? with | some x => x.state | none => 0
def stF (T : Tab) (name : ByteArray) : Int := if keyAt T name < 0 then 0 else match T.keys[(keyAt T name).toNat]? with | some x => x.state | none => 0
def stateOf (S : Sch) (D : Ddl) : Int :=
  if D.kind = 1 then (if tabAt S D.table < 0 then 0 else 3)
  else if tabAt S D.table < 0 then 0
  else match S.tabs[(tabAt S D.table).toNat]? with
  | none => 0
  | some T => if D.kind = 4 ∨ D.kind = 5 then stC T D.column else if D.kind = 2 ∨ D.kind = 3 then stX T D.name else stF T D.name
theorem c_rState {s : PH} {t : Tri} {S : Sch} {ps : List TabP} (h : SchIs s t S ps) (D : Ddl) (u : Tri) : DCalls Try.prog 25 #[schV S t, ddlV D u] s fun y s' => y = .int .i64 (stateOf S D) ∧ s' = s := by
  obtain ⟨ua, un, uc⟩ := u
  obtain ⟨ta, tn, tc⟩ := t
  refine ok_rState S.version S.last ta tn tc D.kind D.table D.name D.column D.parent D.unique D.type D.dflt.kind D.dflt.n D.dflt.s ua un uc _ s ?_
  unfold vc_rState
  obtain ⟨R, hR⟩ : ∃ R : Value → PH → Prop, (fun y s' => y = .int .i64 (stateOf S D) ∧ s' = s) = R := ⟨_, rfl⟩
  have hret : ∀ {n : Int}, stateOf S D = n → R (.int .i64 n) s := fun e => by rw [← hR, ← e]; exact ⟨rfl, rfl⟩
  rw [hR]
  simp only [RP_join, RP_ite, RP_call, RP_callQ, RP_ret, RP_nw, RP_app, RP_st, RP_ld, RP_unSome, RP_guard, RP_loop, W.unSome_some]
  have hc := c_rTableAt (t := (ta, tn, tc)) h D.table
  refine callq ((tabAt S D.table, ()), ()) hc rfl ?_
  simp only [W.br_iff, decide_eq_true_eq, decide_eq_false_iff_not]
  refine ⟨fun h1 => ⟨fun h2 => hret ?_, fun h2 => hret ?_⟩, fun h1 => ⟨fun h2 => hret ?_, fun h2 => ?_⟩⟩
  · have h1 : D.kind = 1 := by simpa using h1
    unfold stateOf; rw [if_pos h1, if_pos h2]
  · have h1 : D.kind = 1 := by simpa using h1
    unfold stateOf; rw [if_pos h1, if_neg h2]
  · have h1 : D.kind ≠ 1 := by simpa using h1
    unfold stateOf; rw [if_neg h1, if_pos h2]
  have h1 : D.kind ≠ 1 := by simpa using h1
  obtain ⟨i, T, hi, hT, _⟩ := (seek_cases (fun T : Tab => decide (T.name = D.table)) S.tabs).resolve_left (fun e => by have := e.1; unfold tabAt at h2; omega)
  have hi : tabAt S D.table = (i : Int) := hi
  obtain ⟨p, hp, rfl⟩ : ∃ p, ps[i]? = some p ∧ p.T = T := by
    rw [h.eq, List.getElem?_map] at hT
    cases hq : ps[i]? with
    | none => rw [hq] at hT; cases hT
    | some pp => rw [hq] at hT; exact ⟨pp, rfl, Option.some.inj hT⟩
  have htn : tn = ps.length := h.el.len
  have hil := (List.getElem?_eq_some_iff.1 hp).1
  obtain ⟨ad, had, hh⟩ := h.el.el.at_enc hp
  dsimp only at had
  subst had
  have hst : stateOf S D = if D.kind = 4 ∨ D.kind = 5 then stC p.T D.column else if D.kind = 2 ∨ D.kind = 3 then stX p.T D.name else stF p.T D.name := by
    unfold stateOf
    rw [if_neg h1, if_neg h2, hi]
    simp only [Int.toNat_natCast, hT]
  have hP := h.all p (get_mem hp)
  obtain ⟨T, ⟨ca, can, cac⟩, ⟨xa, xan, xac⟩, ⟨ka, kan, kac⟩⟩ := p
  dsimp only at hst hT
  have hcan : can = T.cols.length := hP.c.len
  have hxan : xan = T.idxs.length := hP.x.len
  have hkan : kan = T.keys.length := hP.k.len
  rw [hi]
  refine ⟨by omega, ?_⟩
  simp only [W.unSome_some, Int.toNat_natCast]
  refine ld_has_z hh (y := (T.id, T.name, (ca, can, cac), (xa, xan, xac), (ka, kan, kac), ())) rfl ?_
  refine W.join_gen (fun z s' => z = ((D.kind, D.table, D.name, D.column, D.parent, D.unique, D.type, D.dflt.kind, D.dflt.n, D.dflt.s, (ua, un, uc), ()), (T.id, T.name, (ca, can, cac), (xa, xan, xac), (ka, kan, kac), ()), (decide (D.kind = 4 ∨ D.kind = 5), ()), ()) ∧ s' = s) ?_ ?_
  rotate_left
  · intro J hJ
    refine (W.br_iff _ _ _ _).2 ⟨fun h4 => hJ _ _ ⟨?_, rfl⟩, fun h4 => hJ _ _ ⟨?_, rfl⟩⟩
    · have h4 : D.kind = 4 := by simpa using h4
      simp [h4]
    · have h4 : D.kind ≠ 4 := by simpa using h4
      simp [h4, beq_dec]
  rintro _ s0 ⟨rfl, rfl⟩
  simp only [W.br_iff, decide_eq_true_eq, decide_eq_false_iff_not]
  refine ⟨fun h4 => ?_, fun h4 => ?_⟩
  · rw [if_pos h4] at hst
    have hc := c_rColumnAt (p := ⟨T, (ca, can, cac), (xa, xan, xac), (ka, kan, kac)⟩) hP.c D.column
    refine callq ((colAt T D.column, ()), ()) hc rfl ?_
    simp only [W.br_iff, decide_eq_true_eq, decide_eq_false_iff_not]
    refine ⟨fun hge => ?_, fun hlt => hret (by rw [hst]; unfold stC; rw [if_pos (by omega)])⟩
    obtain ⟨j, x, hj, hx, _⟩ := (seek_cases (fun c : Col => decide (c.name = D.column)) T.cols).resolve_left (fun e => by have := e.1; unfold colAt at hge; omega)
    have hj : colAt T D.column = (j : Int) := hj
    have hjl := (List.getElem?_eq_some_iff.1 hx).1
    obtain ⟨ad2, had2, hh2⟩ := hP.c.el.at_enc hx
    dsimp only at had2
    subst had2
    rw [hj]
    refine ⟨by omega, ?_⟩
    simp only [W.unSome_some, Int.toNat_natCast]
    refine ld_has (j := 3) hh2 (cs := [.int .i64]) (y := (x.state, ())) rfl ?_
    refine hret ?_
    rw [hst]; unfold stC
    rw [hj, if_neg (by omega)]
    simp only [Int.toNat_natCast, hx]
  rw [if_neg h4] at hst
  refine W.join_gen (fun z s' => z = ((D.kind, D.table, D.name, D.column, D.parent, D.unique, D.type, D.dflt.kind, D.dflt.n, D.dflt.s, (ua, un, uc), ()), (T.id, T.name, (ca, can, cac), (xa, xan, xac), (ka, kan, kac), ()), (decide (D.kind = 2 ∨ D.kind = 3), ()), ()) ∧ s' = s0) ?_ ?_
  rotate_left
  · intro J hJ
    refine (W.br_iff _ _ _ _).2 ⟨fun h4 => hJ _ _ ⟨?_, rfl⟩, fun h4 => hJ _ _ ⟨?_, rfl⟩⟩
    · have h4 : D.kind = 2 := by simpa using h4
      simp [h4]
    · have h4 : D.kind ≠ 2 := by simpa using h4
      simp [h4, beq_dec]
  rintro _ s1 ⟨rfl, rfl⟩
  simp only [W.br_iff, decide_eq_true_eq, decide_eq_false_iff_not]
  refine ⟨fun h5 => ?_, fun h5 => ?_⟩
  · rw [if_pos h5] at hst
    have hc := c_rIndexAt (p := ⟨T, (ca, can, cac), (xa, xan, xac), (ka, kan, kac)⟩) hP.x D.name
    refine callq ((idxAt T D.name, ()), ()) hc rfl ?_
    simp only [W.br_iff, decide_eq_true_eq, decide_eq_false_iff_not]
    refine ⟨fun hge => ?_, fun hlt => hret (by rw [hst]; unfold stX; rw [if_pos (by omega)])⟩
    obtain ⟨j, x, hj, hx, _⟩ := (seek_cases (fun c : Idx => decide (c.name = D.name)) T.idxs).resolve_left (fun e => by have := e.1; unfold idxAt at hge; omega)
    have hj : idxAt T D.name = (j : Int) := hj
    have hjl := (List.getElem?_eq_some_iff.1 hx).1
    obtain ⟨ad2, had2, hh2⟩ := hP.x.el.at_enc hx
    dsimp only at had2
    subst had2
    rw [hj]
    refine ⟨by omega, ?_⟩
    simp only [W.unSome_some, Int.toNat_natCast]
    refine ld_has (j := 4) hh2 (cs := [.int .i64]) (y := (x.state, ())) rfl ?_
    refine hret ?_
    rw [hst]; unfold stX
    rw [hj, if_neg (by omega)]
    simp only [Int.toNat_natCast, hx]
  · rw [if_neg h5] at hst
    have hc := c_rKeyAt (p := ⟨T, (ca, can, cac), (xa, xan, xac), (ka, kan, kac)⟩) hP.k D.name
    refine callq ((keyAt T D.name, ()), ()) hc rfl ?_
    simp only [W.br_iff, decide_eq_true_eq, decide_eq_false_iff_not]
    refine ⟨fun hge => ?_, fun hlt => hret (by rw [hst]; unfold stF; rw [if_pos (by omega)])⟩
    obtain ⟨j, x, hj, hx, _⟩ := (seek_cases (fun c : For => decide (c.name = D.name)) T.keys).resolve_left (fun e => by have := e.1; unfold keyAt at hge; omega)
    have hj : keyAt T D.name = (j : Int) := hj
    have hjl := (List.getElem?_eq_some_iff.1 hx).1
    obtain ⟨ad2, had2, hh2⟩ := hP.k.el.at_enc hx
    dsimp only at had2
    subst had2
    rw [hj]
    refine ⟨by omega, ?_⟩
    simp only [W.unSome_some, Int.toNat_natCast]
    refine ld_has (j := 4) hh2 (cs := [.int .i64]) (y := (x.state, ())) rfl ?_
    refine hret ?_
    rw [hst]; unfold stF
    rw [hj, if_neg (by omega)]
    simp only [Int.toNat_natCast, hx]
end Go.Proofs.Ythepfbcgpbkbdaa
end
section
set_option linter.unusedVariables false
set_option linter.unusedSimpArgs false
set_option maxHeartbeats 1000000
set_option maxRecDepth 100000
namespace Go.Proofs.Ythepfbcgpbkbdaa
open Fw Go
attribute [-simp] Fw.W.ld_iff Fw.W.st_iff
/-- a new list of all but one -/
theorem erase_copy {α : Type} {E : Enc α} {s : PH} {e : TypeId} {bytes : Nat} {zero : List Value} {a : Option Addr} {n c k : Nat} {xs : List α} {K : Option Addr → Nat → Nat → W.T} (h : rowE E s e a n c xs) (hk : k < n) (hl : n ≤ 4294967296) (hby : bytes ≤ 100) (hz : zero.length = E.sz)
    (hK : ∀ a' n' c' s', rowE E s' e a' n' c' (xs.eraseIdx k) → Fw.Mod [] s s' → (∀ g ∈ Fw.blk a', s g = none) → K a' n' c' s') :
    W.nw (.cells #[] e (0, 0)) (fun r => W.app e E.sz bytes zero (some ⟨r, 0, none⟩) 0 0 (Src.sl (if c = 0 then a else Option.map (fun x => x.add 0) a) k) fun a1 n1 c1 =>
      W.app e E.sz bytes zero a1 n1 c1 (Src.sl (if c = k + 1 then a else Option.map (fun x => x.add ((k + 1) * E.sz)) a) (n - (k + 1))) K) s := by
  have hn : n = xs.length := h.len
  have hmax : maxLen = 9223372036854775807 := rfl
  have he : (if c = 0 then a else Option.map (fun x => x.add 0) a) = a := by split <;> simp [map_add0]
  rw [he]
  have hb1 : k * bytes ≤ k * 100 := Nat.mul_le_mul_left _ hby
  refine row_copy (E := E) (k := k) (xs := xs.take k) (h.src_take (by omega)) rfl (by rw [List.length_take]; omega) (by omega) (by omega) hz ?_
  intro a1 c1 s1 r1 m1 f1
  have h1 := h.mod m1 (by simp)
  have hb2 : (k + (n - (k + 1))) * bytes ≤ (k + (n - (k + 1))) * 100 := Nat.mul_le_mul_left _ hby
  refine app_rowE r1 hz (ys := (xs.drop (k + 1)).take (n - (k + 1))) (k := n - (k + 1)) (h1.src (by omega)) rfl (by rw [List.length_take, List.length_drop]; omega) (by omega) (by omega) ?_
  intro a2 c2 s2 r2 hm
  have hlist : xs.take k ++ (xs.drop (k + 1)).take (n - (k + 1)) = xs.eraseIdx k := by
    rw [List.eraseIdx_eq_take_drop_succ, List.take_of_length_le (l := xs.drop (k + 1)) (by rw [List.length_drop]; omega)]
  rw [hlist] at r2
  refine hK _ _ _ _ r2 ?_ ?_
  · rcases hm with ⟨_, hm⟩ | ⟨_, _, _, hm⟩
    · exact m1.fresh hm fun g hg => .inr (f1 g hg)
    · exact m1.trans hm
  · rcases hm with ⟨e, _⟩ | ⟨g, e, hg, _⟩
    · rw [e]; exact f1
    · rw [e]
      intro g' hg'
      have : g' = g := by simpa [Fw.blk] using hg'
      subst this
      exact m1.none hg (by simp)
def withoutT (T : Tab) (D : Ddl) : Tab :=
  { T with cols := if (D.kind = 4 ∨ D.kind = 5) ∧ 0 ≤ colAt T D.column then T.cols.eraseIdx (colAt T D.column).toNat else T.cols
           idxs := if (D.kind = 2 ∨ D.kind = 3) ∧ 0 ≤ idxAt T D.name then T.idxs.eraseIdx (idxAt T D.name).toNat else T.idxs
           keys := if 6 ≤ D.kind ∧ 0 ≤ keyAt T D.name then T.keys.eraseIdx (keyAt T D.name).toNat else T.keys }
def outOf (D : Ddl) (T : Tab) : List Tab := if T.name ≠ D.table then [T] else if D.kind = 1 then [] else [withoutT T D]
def Sch.without (S : Sch) (D : Ddl) : Sch := ⟨0, 0, S.tabs.flatMap (outOf D)⟩
end Go.Proofs.Ythepfbcgpbkbdaa
end
section
set_option linter.unusedVariables false
set_option linter.unusedSimpArgs false
set_option maxHeartbeats 1000000
set_option maxRecDepth 100000
namespace Go.Proofs.Ythepfbcgpbkbdaa
open Fw Go
attribute [-simp] Fw.W.ld_iff Fw.W.st_iff
/-- a new list grows; what it leaves as it was -/
theorem grow2 {α : Type} {E : Enc α} {e : TypeId} {bytes : Nat} {zero : List Value} {s0 s : PH} {a : Option Addr} {n c : Nat} {xs : List α} {x : α} {K : Option Addr → Nat → Nat → W.T} (h : rowE E s e a n c xs) (hf : ∀ g ∈ Fw.blk a, s0 g = none) (m : Fw.Mod [] s0 s)
    (hz : zero.length = E.sz) (hl : xs.length ≤ 1099511627776) (hby : bytes ≤ 100) (hK : ∀ a' c' s', rowE E s' e a' (n + 1) c' (xs ++ [x]) → (∀ g ∈ Fw.blk a', s0 g = none) → Fw.Mod [] s0 s' → Fw.Mod (Fw.blk a) s s' → K a' (n + 1) c' s') :
    W.nw (.cells (E.f x).toArray e (0, 0)) (fun r => W.app e E.sz bytes zero a n c (Src.sl (some ⟨r, 0, none⟩) 1) K) s := by
  refine W.nw_of fun r s1 hr m1 k1 => ?_
  have hmax : maxLen = 9223372036854775807 := rfl
  have hn : n = xs.length := h.len
  have hb : (n + 1) * bytes ≤ (n + 1) * 100 := Nat.mul_le_mul_left _ hby
  refine app_rowE (h.mod m1 (by simp)) hz (ys := [x]) (k := 1) (src_has (by have := has_block k1; simpa using this) rfl) rfl rfl (by omega) (by omega) ?_
  intro a' c' s2 h' hm
  refine hK a' c' s2 h' ?_ ?_ ?_
  · rcases hm with ⟨e, _⟩ | ⟨g, e, hg, _⟩
    · rw [e]; exact hf
    · intro g' hg'
      rw [e] at hg'
      have : g' = g := by simpa [Fw.blk] using hg'
      subst this
      exact (m.trans m1).none hg (by simp)
  · rcases hm with ⟨_, hm⟩ | ⟨_, _, _, hm⟩
    · exact (m.trans m1).fresh hm fun g hg => .inr (hf g hg)
    · exact (m.trans m1).trans hm
  · rcases hm with ⟨_, hm⟩ | ⟨_, _, _, hm⟩
    · exact (m1.mono (by simp)).trans hm
    · exact (m1.trans hm).mono (by simp)
theorem Own.off {s : PH} {p : TabP} (h : Own s p) {a : Option Addr} {n c : Nat} {ps : List TabP} (hr : rowE tabE s 42 a n c ps) : ∀ g ∈ p.L, g ∉ Fw.blk a := by
  have ty : ∀ {α : Type} {E : Enc α} {e : TypeId} {a : Option Addr} {n c : Nat} {xs : List α}, rowE E s e a n c xs → ∀ g ∈ Fw.blk a, ∃ cur, s g = some (.cells cur e (0, 0)) := by
    intro α E e a n c xs hr g hg
    rcases hr.shape with ⟨h0, _⟩ | ⟨g', hg'⟩
    · rw [h0] at hg; simp [Fw.blk] at hg
    · have : g = g' := by rw [hg'] at hg; simpa [Fw.blk] using hg
      subst this
      exact hr.ty hg'
  have ne : ∀ {g : Nat} {e e' : TypeId}, (∃ cur, s g = some (.cells cur e (0, 0))) → (∃ cur, s g = some (.cells cur e' (0, 0))) → e = e' := by
    rintro g e e' ⟨c1, h1⟩ ⟨c2, h2⟩
    rw [h1] at h2; cases h2; (first | done | rfl)
  intro g hg hg2
  simp only [TabP.L, List.mem_append] at hg
  rcases hg with hg | hg | hg
  · exact absurd (ne (ty h.c g hg) (ty hr g hg2)) (by decide)
  · exact absurd (ne (ty h.x g hg) (ty hr g hg2)) (by decide)
  · exact absurd (ne (ty h.k g hg) (ty hr g hg2)) (by decide)
theorem c_rWithout {s : PH} {t : Tri} {S : Sch} {ps : List TabP} (h : SchIs s t S ps) (D : Ddl) (u : Tri) :
    DCalls Try.prog 27 #[schV S t, ddlV D u] s fun y s' => ∃ t' ps', y = schV (S.without D) t' ∧ SchIs s' t' (S.without D) ps' ∧ Fw.Mod [] s s' := by
  obtain ⟨ua, un, uc⟩ := u
  obtain ⟨ta, tn, tc⟩ := t
  refine ok_rWithout S.version S.last ta tn tc D.kind D.table D.name D.column D.parent D.unique D.type D.dflt.kind D.dflt.n D.dflt.s ua un uc _ s ?_
  unfold vc_rWithout
  have hpl : S.tabs.length = ps.length := by rw [h.eq]; simp
  have hfew := h.el.few
  simp only [RP_join, RP_ite, RP_call, RP_callQ, RP_ret, RP_nw, RP_app, RP_st, RP_ld, RP_unSome, RP_guard, RP_loop, W.unSome_some]
  have hcp := c_rCopy h
  refine W.call_of hcp ?_
  rintro _ s1 ⟨⟨ta1, tn1, tc1⟩, ps1, rfl, hH1, he1, m1, f1⟩
  refine ⟨((S.version, S.last, (ta1, tn1, tc1), ()), ()), rfl, ?_⟩
  have htn1 : tn1 = ps1.length := hH1.row.len
  have hpl1 : S.tabs.length = ps1.length := by rw [he1]; simp
  have hS1 : SchIs s1 (ta1, tn1, tc1) S ps1 := hH1.is he1 (by omega) (fun T hT => by
    rw [h.eq] at hT
    obtain ⟨p, hp, rfl⟩ := List.mem_map.1 hT
    exact (h.all p hp).few)
  have hoc : ∀ T, (outOf D T).length ≤ 1 := by intro T; unfold outOf; split <;> (try split) <;> simp
  have hol : ∀ l : List Tab, (l.flatMap (outOf D)).length ≤ l.length := by
    intro l
    induction l with
    | nil => simp
    | cons a l ih => have := hoc a; simp only [List.flatMap_cons, List.length_append, List.length_cons]; omega
  refine ⟨fun z s' => ∃ (k n c : Nat) (b : Option Addr) (pc : List TabP), z = ((S.version, S.last, (ta1, tn1, tc1), ()), (D.kind, D.table, D.name, D.column, D.parent, D.unique, D.type, D.dflt.kind, D.dflt.n, D.dflt.s, (ua, un, uc), ()), (0, 0, (none, 0, 0), ()), ((b, n, c), ()), ((k : Int), ()), ()) ∧ k ≤ tn1 ∧ rowE tabE s' 42 b n c pc ∧ (∀ g ∈ Fw.blk b, s1 g = none) ∧ Fw.Mod [] s1 s' ∧ (∀ p ∈ pc, Own s' p ∧ p.T.Few) ∧ (S.tabs.take k).flatMap (outOf D) = pc.map (·.T),
    fun z _ => tn1 - z.2.2.2.2.1.1.toNat, ⟨0, 0, 0, none, [], rfl, Nat.zero_le _, rowE.nil, by simp [Fw.blk], Mod.refl _ _, by simp, rfl⟩, ?_⟩
  rintro _ s2 ⟨k, n, c, b, pc, rfl, hk, hrow, hfr, m2, hall2, hpc⟩
  simp only [W.br_iff, decide_eq_true_eq, decide_eq_false_iff_not]
  refine ⟨fun hlt => ?_, fun hge => ?_⟩
  · have hlt : k < tn1 := by omega
    obtain ⟨p, hp⟩ : ∃ p, ps1[k]? = some p := ⟨_, List.getElem?_eq_getElem (by omega)⟩
    have hT : S.tabs[k]? = some p.T := by rw [he1, List.getElem?_map, hp]; (first | done | rfl)
    have hS2 := hS1.mono m2.le
    have hH2 := hH1.mod m2 (by simp)
    obtain ⟨ad, had, hh⟩ := hS2.el.el.at_enc hp
    dsimp only at had
    subst had
    have hP := hS2.all p (get_mem hp)
    have hO := hH2.all p (get_mem hp)
    have hstep : (S.tabs.take (k + 1)).flatMap (outOf D) = pc.map (·.T) ++ outOf D p.T := by rw [take_snoc hT, List.flatMap_append, hpc]; simp
    have hlen : pc.length ≤ 4294967296 := by
      have e1 := congrArg List.length hpc
      have e2 := hol (S.tabs.take k)
      rw [List.length_take] at e2
      rw [List.length_map] at e1
      omega
    obtain ⟨T, ⟨ca, can, cac⟩, ⟨xa, xan, xac⟩, ⟨ka, kan, kac⟩⟩ := p
    dsimp only at hstep hT
    have hcan : can = T.cols.length := hP.c.len
    have hxan : xan = T.idxs.length := hP.x.len
    have hkan : kan = T.keys.length := hP.k.len
    have bc := hP.c.few
    have bx := hP.x.few
    have bk := hP.k.few
    dsimp only at bc bx bk
    have lec : can ≤ cac := hP.c.le
    have lex : xan ≤ xac := hP.x.le
    have lek : kan ≤ kac := hP.k.le
    refine ⟨by omega, ?_⟩
    simp only [W.unSome_some, Int.toNat_natCast]
    refine ld_has_z hh (y := (T.id, T.name, (ca, can, cac), (xa, xan, xac), (ka, kan, kac), ())) rfl ?_
    have hw := wrap_succ (k := k) (by omega)
    have push : ∀ (s3 : PH) (q : TabP), Fw.Mod [] s2 s3 → Own s3 q → q.T.Few → outOf D T = [q.T] →
        W.nw (.cells (tabE.f q).toArray 42 (0, 0)) (fun r => W.app 42 5 96 [.int .i64 0, .string ⟨#[]⟩, .slice none 0 0, .slice none 0 0, .slice none 0 0] b n c (Src.sl (some ⟨r, 0, none⟩) 1) fun a' n' c' s' =>
          (∃ (k' n c : Nat) (b : Option Addr) (pc : List TabP), (((S.version, S.last, (some ad, tn1, tc1), ()), (D.kind, D.table, D.name, D.column, D.parent, D.unique, D.type, D.dflt.kind, D.dflt.n, D.dflt.s, (ua, un, uc), ()), (0, 0, (none, 0, 0), ()), ((a', n', c'), ()), (IntKind.i64.wrap ((k : Int) + 1), ()), ()) : MDen [(true, [.int .i64, .int .i64, .slice]), (true, [.int .i64, .str, .str, .str, .str, .bool, .int .i64, .int .i64, .int .i64, .str, .slice]), (true, [.int .i64, .int .i64, .slice]), (false, [.slice]), (false, [.int .i64])]) = ((S.version, S.last, (some ad, tn1, tc1), ()), (D.kind, D.table, D.name, D.column, D.parent, D.unique, D.type, D.dflt.kind, D.dflt.n, D.dflt.s, (ua, un, uc), ()), (0, 0, (none, 0, 0), ()), ((b, n, c), ()), ((k' : Int), ()), ()) ∧ k' ≤ tn1 ∧ rowE tabE s' 42 b n c pc ∧ (∀ g ∈ Fw.blk b, s1 g = none) ∧ Fw.Mod [] s1 s' ∧ (∀ p ∈ pc, Own s' p ∧ p.T.Few) ∧ (S.tabs.take k').flatMap (outOf D) = pc.map (·.T)) ∧ tn1 - (IntKind.i64.wrap ((k : Int) + 1)).toNat < tn1 - k) s3 := by
      intro s3 q m3 hq hqf ho
      have m13 := m2.trans m3
      have hrow3 := hrow.mod m3 (by simp)
      refine grow2 (E := tabE) (x := q) hrow3 hfr m13 rfl (by omega) (by omega) ?_
      intro a' c' s4 h4 f4 m4 m34
      rw [hw]
      refine ⟨⟨k + 1, n + 1, c', a', pc ++ [q], rfl, hlt, h4, f4, m4, fun p hp => ?_, by rw [hstep, ho]; simp⟩, by simp only [Int.toNat_natCast]; omega⟩
      rcases List.mem_append.1 hp with hp | hp
      · obtain ⟨o1, o2⟩ := hall2 p hp
        have o3 := o1.mod m3 (by simp)
        exact ⟨o3.mod m34 (o3.off hrow3), o2⟩
      · have : p = q := by simpa using hp
        subst this
        exact ⟨hq.mod m34 (hq.off hrow3), hqf⟩
    have hNe : (T.name.toList == D.table.toList) = decide (T.name = D.table) := toList_beq _ _
    simp only [W.br_iff]
    refine ⟨fun hne => ?_, fun heq => ?_⟩
    · have hne : ¬ T.name = D.table := by
        rw [hNe] at hne
        exact of_decide_eq_false (not_t hne)
      exact push s2 ⟨T, (ca, can, cac), (xa, xan, xac), (ka, kan, kac)⟩ (Mod.refl _ _) hO ⟨bc, bx, bk⟩ (by unfold outOf; rw [if_pos hne])
    have heq : T.name = D.table := by
      rw [hNe] at heq
      exact of_decide_eq_true (not_f heq)
    refine ⟨fun h1 => ?_, fun h1 => ?_⟩
    · have h1 : D.kind = 1 := by simpa using h1
      rw [hw]
      refine ⟨⟨k + 1, n, c, b, pc, rfl, hlt, hrow, hfr, m2, hall2, ?_⟩, by simp only [Int.toNat_natCast]; omega⟩
      rw [hstep]; unfold outOf; rw [if_neg (fun e => e heq), if_pos h1]; simp
    have h1 : D.kind ≠ 1 := by simpa using h1
    have hout : outOf D T = [withoutT T D] := by unfold outOf; rw [if_neg (fun e => e heq), if_neg h1]
    have hwf : (withoutT T D).Few := by
      unfold withoutT
      refine ⟨?_, ?_, ?_⟩ <;> dsimp only <;> split <;> (try rw [List.length_eraseIdx]) <;> (try split) <;> omega
    refine W.join_gen (fun z s' => ∃ a5 n5 c5, z = ((S.version, S.last, (some ad, tn1, tc1), ()), (D.kind, D.table, D.name, D.column, D.parent, D.unique, D.type, D.dflt.kind, D.dflt.n, D.dflt.s, (ua, un, uc), ()), (0, 0, (none, 0, 0), ()), ((b, n, c), ()), ((k : Int), ()), (T.id, T.name, (a5, n5, c5), (xa, xan, xac), (ka, kan, kac), ()), ()) ∧ Fw.Mod [] s2 s' ∧ rowE colE s' 44 a5 n5 c5 (withoutT T D).cols) ?_ ?_
    rotate_left
    · intro J hJ
      have hc := c_rColumnAt (s := s2) (p := ⟨⟨T.id, T.name, T.cols, T.idxs, T.keys⟩, (ca, can, cac), (xa, xan, xac), (ka, kan, kac)⟩) hP.c D.column
      obtain ⟨E, hE⟩ : ∃ E, colAt T D.column = E := ⟨_, rfl⟩
      have hE' : colAt ⟨T.id, T.name, T.cols, T.idxs, T.keys⟩ D.column = E := hE
      dsimp only at hc
      rw [hE'] at hc
      refine callq ((E, ()), ()) hc rfl ?_
      refine W.join_gen (fun z s' => z = ((S.version, S.last, (some ad, tn1, tc1), ()), (D.kind, D.table, D.name, D.column, D.parent, D.unique, D.type, D.dflt.kind, D.dflt.n, D.dflt.s, (ua, un, uc), ()), (0, 0, (none, 0, 0), ()), ((b, n, c), ()), ((k : Int), ()), (T.id, T.name, (ca, can, cac), (xa, xan, xac), (ka, kan, kac), ()), (E, ()), (decide ((D.kind = 4 ∨ D.kind = 5) ∧ 0 ≤ E), ()), ()) ∧ s' = s2) ?_ ?_
      rotate_left
      · intro J5 hJ5
        refine (W.br_iff _ _ _ _).2 ⟨fun h4 => hJ5 _ _ ⟨?_, rfl⟩, fun h4 => (W.br_iff _ _ _ _).2 ⟨fun h5 => hJ5 _ _ ⟨?_, rfl⟩, fun h5 => hJ5 _ _ ⟨?_, rfl⟩⟩⟩
        · have h4 : D.kind = 4 := by simpa using h4
          simp [h4]
        · have h5 : D.kind = 5 := by simpa using h5
          simp [h5]
        · have h4 : D.kind ≠ 4 := by simpa using h4
          have h5 : D.kind ≠ 5 := by simpa using h5
          simp [h4, h5]
      rintro _ s8 ⟨rfl, rfl⟩
      simp only [W.br_iff, decide_eq_true_eq, decide_eq_false_iff_not]
      refine ⟨fun hyes => ?_, fun hno => ?_⟩
      · obtain ⟨j, x, hj, hx, _⟩ := (seek_cases (fun c : Col => decide (c.name = D.column)) T.cols).resolve_left (fun e => by have := e.1; have hE2 : seek (fun c : Col => decide (c.name = D.column)) T.cols 0 = E := hE; omega)
        have hj : E = (j : Int) := by rw [← hE]; exact hj
        have hjl := (List.getElem?_eq_some_iff.1 hx).1
        subst hj
        refine ⟨by omega, ?_⟩
        rw [wrap_succ (k := j) (by omega)]
        refine ⟨by omega, ?_⟩
        simp only [Int.toNat_natCast, Nat.sub_zero]
        refine erase_copy (n := can) (c := cac) (k := j) hO.c (by omega) (by omega) (by omega) rfl ?_
        intro a' n' c' s9 r9 m9 f9
        have hwl : (withoutT T D).cols = T.cols.eraseIdx j := by unfold withoutT; dsimp only; rw [hE, if_pos hyes]; (first | done | rfl)
        exact hJ _ _ ⟨a', n', c', rfl, m9, by rw [hwl]; exact r9⟩
      · have hwl : (withoutT T D).cols = T.cols := by unfold withoutT; dsimp only; rw [hE, if_neg hno]
        exact hJ _ _ ⟨ca, can, cac, rfl, Mod.refl _ _, by rw [hwl]; exact hO.c⟩
    rintro _ s3 ⟨a5, n5, c5, rfl, m3, r3⟩
    have hP3 := hP.mono m3.le
    have hO3 := hO.mod m3 (by simp)
    refine W.join_gen (fun z s' => ∃ a6 n6 c6, z = ((S.version, S.last, (some ad, tn1, tc1), ()), (D.kind, D.table, D.name, D.column, D.parent, D.unique, D.type, D.dflt.kind, D.dflt.n, D.dflt.s, (ua, un, uc), ()), (0, 0, (none, 0, 0), ()), ((b, n, c), ()), ((k : Int), ()), (T.id, T.name, (a5, n5, c5), (a6, n6, c6), (ka, kan, kac), ()), ()) ∧ Fw.Mod [] s2 s' ∧ rowE colE s' 44 a5 n5 c5 (withoutT T D).cols ∧ rowE idxE s' 106 a6 n6 c6 (withoutT T D).idxs) ?_ ?_
    rotate_left
    · intro J hJ
      have hc := c_rIndexAt (s := s3) (p := ⟨⟨T.id, T.name, T.cols, T.idxs, T.keys⟩, (a5, n5, c5), (xa, xan, xac), (ka, kan, kac)⟩) hP3.x D.name
      obtain ⟨E, hE⟩ : ∃ E, idxAt T D.name = E := ⟨_, rfl⟩
      have hE' : idxAt ⟨T.id, T.name, T.cols, T.idxs, T.keys⟩ D.name = E := hE
      dsimp only at hc
      rw [hE'] at hc
      refine callq ((E, ()), ()) hc rfl ?_
      refine W.join_gen (fun z s' => z = ((S.version, S.last, (some ad, tn1, tc1), ()), (D.kind, D.table, D.name, D.column, D.parent, D.unique, D.type, D.dflt.kind, D.dflt.n, D.dflt.s, (ua, un, uc), ()), (0, 0, (none, 0, 0), ()), ((b, n, c), ()), ((k : Int), ()), (T.id, T.name, (a5, n5, c5), (xa, xan, xac), (ka, kan, kac), ()), (E, ()), (decide ((D.kind = 2 ∨ D.kind = 3) ∧ 0 ≤ E), ()), ()) ∧ s' = s3) ?_ ?_
      rotate_left
      · intro J5 hJ5
        refine (W.br_iff _ _ _ _).2 ⟨fun h4 => hJ5 _ _ ⟨?_, rfl⟩, fun h4 => (W.br_iff _ _ _ _).2 ⟨fun h5 => hJ5 _ _ ⟨?_, rfl⟩, fun h5 => hJ5 _ _ ⟨?_, rfl⟩⟩⟩
        · have h4 : D.kind = 2 := by simpa using h4
          simp [h4]
        · have h5 : D.kind = 3 := by simpa using h5
          simp [h5]
        · have h4 : D.kind ≠ 2 := by simpa using h4
          have h5 : D.kind ≠ 3 := by simpa using h5
          simp [h4, h5]
      rintro _ s8 ⟨rfl, rfl⟩
      simp only [W.br_iff, decide_eq_true_eq, decide_eq_false_iff_not]
      refine ⟨fun hyes => ?_, fun hno => ?_⟩
      · obtain ⟨j, x, hj, hx, _⟩ := (seek_cases (fun c : Idx => decide (c.name = D.name)) T.idxs).resolve_left (fun e => by have := e.1; have hE2 : seek (fun c : Idx => decide (c.name = D.name)) T.idxs 0 = E := hE; omega)
        have hj : E = (j : Int) := by rw [← hE]; exact hj
        have hjl := (List.getElem?_eq_some_iff.1 hx).1
        subst hj
        refine ⟨by omega, ?_⟩
        rw [wrap_succ (k := j) (by omega)]
        refine ⟨by omega, ?_⟩
        simp only [Int.toNat_natCast, Nat.sub_zero]
        refine erase_copy (n := xan) (c := xac) (k := j) hO3.x (by omega) (by omega) (by omega) rfl ?_
        intro a' n' c' s9 r9 m9 f9
        have hwl : (withoutT T D).idxs = T.idxs.eraseIdx j := by unfold withoutT; dsimp only; rw [hE, if_pos hyes]; (first | done | rfl)
        exact hJ _ _ ⟨a', n', c', rfl, m3.trans m9, r3.mod m9 (by simp), by rw [hwl]; exact r9⟩
      · have hwl : (withoutT T D).idxs = T.idxs := by unfold withoutT; dsimp only; rw [hE, if_neg hno]
        exact hJ _ _ ⟨xa, xan, xac, rfl, m3, r3, by rw [hwl]; exact hO3.x⟩
    rintro _ s4 ⟨a6, n6, c6, rfl, m4, r4, q4⟩
    have hP4 := hP.mono m4.le
    have hO4 := hO.mod m4 (by simp)
    have hc := c_rKeyAt (s := s4) (p := ⟨⟨T.id, T.name, T.cols, T.idxs, T.keys⟩, (a5, n5, c5), (a6, n6, c6), (ka, kan, kac)⟩) hP4.k D.name
    obtain ⟨E, hE⟩ : ∃ E, keyAt T D.name = E := ⟨_, rfl⟩
    have hE' : keyAt ⟨T.id, T.name, T.cols, T.idxs, T.keys⟩ D.name = E := hE
    dsimp only at hc
    rw [hE'] at hc
    refine callq ((E, ()), ()) hc rfl ?_
    refine W.join_gen (fun z s' => z = ((S.version, S.last, (some ad, tn1, tc1), ()), (D.kind, D.table, D.name, D.column, D.parent, D.unique, D.type, D.dflt.kind, D.dflt.n, D.dflt.s, (ua, un, uc), ()), (0, 0, (none, 0, 0), ()), ((b, n, c), ()), ((k : Int), ()), (T.id, T.name, (a5, n5, c5), (a6, n6, c6), (ka, kan, kac), ()), (E, ()), (decide ((6 ≤ D.kind) ∧ 0 ≤ E), ()), ()) ∧ s' = s4) ?_ ?_
    rotate_left
    · intro J5 hJ5
      refine (W.br_iff _ _ _ _).2 ⟨fun h4 => hJ5 _ _ ⟨?_, rfl⟩, fun h4 => hJ5 _ _ ⟨?_, rfl⟩⟩
      · have h4 : 6 ≤ D.kind := by have := of_decide_eq_true h4; omega
        simp [h4]
      · have h4 : ¬ 6 ≤ D.kind := by have := of_decide_eq_false h4; omega
        simp [h4]
    rintro _ s8 ⟨rfl, rfl⟩
    simp only [W.br_iff, decide_eq_true_eq, decide_eq_false_iff_not]
    refine ⟨fun hyes => ?_, fun hno => ?_⟩
    · obtain ⟨j, x, hj, hx, _⟩ := (seek_cases (fun c : For => decide (c.name = D.name)) T.keys).resolve_left (fun e => by have := e.1; have hE2 : seek (fun c : For => decide (c.name = D.name)) T.keys 0 = E := hE; omega)
      have hj : E = (j : Int) := by rw [← hE]; exact hj
      have hjl := (List.getElem?_eq_some_iff.1 hx).1
      subst hj
      refine ⟨by omega, ?_⟩
      rw [wrap_succ (k := j) (by omega)]
      refine ⟨by omega, ?_⟩
      simp only [Int.toNat_natCast, Nat.sub_zero]
      refine erase_copy (n := kan) (c := kac) (k := j) hO4.k (by omega) (by omega) (by omega) rfl ?_
      intro a' n' c' s9 r9 m9 f9
      have hwl : (withoutT T D).keys = T.keys.eraseIdx j := by unfold withoutT; dsimp only; rw [hE, if_pos hyes]; (first | done | rfl)
      exact push _ ⟨withoutT T D, (a5, n5, c5), (a6, n6, c6), (a', n', c')⟩ (m4.trans m9) ⟨r4.mod m9 (by simp), q4.mod m9 (by simp), by rw [hwl]; exact r9⟩ hwf hout
    · have hwl : (withoutT T D).keys = T.keys := by unfold withoutT; dsimp only; rw [hE, if_neg hno]
      exact push _ ⟨withoutT T D, (a5, n5, c5), (a6, n6, c6), (ka, kan, kac)⟩ m4 ⟨r4, q4, by rw [hwl]; exact hO4.k⟩ hwf hout
  · have hall : S.tabs.take k = S.tabs := List.take_of_length_le (by omega)
    rw [hall] at hpc
    have hl2 : pc.length ≤ 4294967296 := by
      have e1 := congrArg List.length hpc
      have e2 := hol S.tabs
      rw [List.length_map] at e1
      omega
    exact ⟨(b, n, c), pc, rfl, ⟨Sl.of_row hrow hl2, hpc, fun p hp => (hall2 p hp).1.is (hall2 p hp).2⟩, m1.trans m2⟩
end Go.Proofs.Ythepfbcgpbkbdaa
end
section
set_option linter.unusedVariables false
set_option linter.unusedSimpArgs false
set_option maxHeartbeats 1000000
set_option maxRecDepth 100000
namespace Go.Proofs.Ythepfbcgpbkbdaa
open Fw Go
attribute [-simp] Fw.W.ld_iff Fw.W.st_iff
/-- a schema, and where its tables lie -/
structure SchP where
  S : Sch
  t : Tri
def schE : Enc SchP where
  sz := 3
  f p := [.int .i64 p.S.version, .int .i64 p.S.last, .slice p.t.1 p.t.2.1 p.t.2.2]
  len _ := rfl
  one p v hv := by simp at hv; rcases hv with rfl | rfl | rfl <;> rfl
  pos := by omega
def moved (D : Ddl) (S : Sch) (m : Int × Int) : Sch × Int := if m.1 = 1 ∨ m.1 = 2 then S.turn D m.2 else (S, 0)
def walk (D : Ddl) : Sch → List (Int × Int) → List Sch × Bool
  | _, [] => ([], true)
  | S, m :: ms => if (moved D S m).2 ≠ 0 then ([], false) else ((moved D S m).1 :: (walk D (moved D S m).1 ms).1, (walk D (moved D S m).1 ms).2)
theorem walk_cons (D : Ddl) (S : Sch) (m : Int × Int) (ms : List (Int × Int)) : walk D S (m :: ms) = if (moved D S m).2 ≠ 0 then ([], false) else ((moved D S m).1 :: (walk D (moved D S m).1 ms).1, (walk D (moved D S m).1 ms).2) := rfl
/-- the heap without what lies in the blocks -/
def hid (L : List Nat) (s : PH) : PH := fun k => if k ∈ L then none else s k
theorem hid_le (L : List Nat) (s : PH) : (hid L s).le s := fun b o h => by
  unfold hid at h
  split at h
  · cases h
  · exact h
theorem hid_mod (L : List Nat) (s : PH) : Fw.Mod L s (hid L s) := fun k _ h => by unfold hid; rw [if_neg h]
theorem hid_step {L L' : List Nat} {s s' : PH} (m : Fw.Mod L s s') (hL : ∀ g ∈ L', g ∈ L ∨ s g = none) : (hid L s).le (hid L' s') := fun b o h => by
  unfold hid at h ⊢
  split at h
  · cases h
  · rename_i hb
    have hk : s b ≠ none := by rw [h]; simp
    rw [if_neg (fun e => by rcases hL b e with e | e; exact hb e; exact hk e), m b hk hb]; exact h
/-- schemas that can be read beside the list's own block -/
def Read (s : PH) (a : Option Addr) (p : SchP) : Prop := ∃ ps, SchIs (hid (Fw.blk a) s) p.t p.S ps
theorem Read.is {s : PH} {a : Option Addr} {p : SchP} (h : Read s a p) : ∃ ps, SchIs s p.t p.S ps := by
  obtain ⟨ps, hp⟩ := h
  exact ⟨ps, hp.mono (hid_le _ _)⟩
theorem grow3 {α : Type} {E : Enc α} {e : TypeId} {bytes : Nat} {zero : List Value} {s : PH} {a : Option Addr} {n c : Nat} {xs : List α} {x : α} {K : Option Addr → Nat → Nat → W.T} (h : rowE E s e a n c xs)
    (hz : zero.length = E.sz) (hl : xs.length ≤ 1099511627776) (hby : bytes ≤ 100) (hK : ∀ a' c' s', rowE E s' e a' (n + 1) c' (xs ++ [x]) → (∀ g ∈ Fw.blk a', g ∈ Fw.blk a ∨ s g = none) → Fw.Mod (Fw.blk a) s s' → K a' (n + 1) c' s') :
    W.nw (.cells (E.f x).toArray e (0, 0)) (fun r => W.app e E.sz bytes zero a n c (Src.sl (some ⟨r, 0, none⟩) 1) K) s := by
  refine W.nw_of fun r s1 hr m1 k1 => ?_
  have hmax : maxLen = 9223372036854775807 := rfl
  have hn : n = xs.length := h.len
  have hb : (n + 1) * bytes ≤ (n + 1) * 100 := Nat.mul_le_mul_left _ hby
  refine app_rowE (h.mod m1 (by simp)) hz (ys := [x]) (k := 1) (src_has (by have := has_block k1; simpa using this) rfl) rfl rfl (by omega) (by omega) ?_
  intro a' c' s2 h' hm
  refine hK a' c' s2 h' ?_ ?_
  · rcases hm with ⟨e, _⟩ | ⟨g, e, hg, _⟩
    · rw [e]; exact fun g hg => .inl hg
    · intro g' hg'
      rw [e] at hg'
      have : g' = g := by simpa [Fw.blk] using hg'
      subst this
      exact .inr (m1.none hg (by simp))
  · rcases hm with ⟨_, hm⟩ | ⟨_, _, _, hm⟩
    · exact (m1.mono (by simp)).trans hm
    · exact (m1.trans hm).mono (by simp)
theorem Read.step {s s' : PH} {a a' : Option Addr} {p : SchP} (h : Read s a p) (m : Fw.Mod (Fw.blk a) s s') (hL : ∀ g ∈ Fw.blk a', g ∈ Fw.blk a ∨ s g = none) : Read s' a' p := by
  obtain ⟨ps, hp⟩ := h
  exact ⟨ps, hp.mono (hid_step m hL)⟩
def WalkIs (s : PH) (D : Ddl) (S : Sch) (ms : List (Int × Int)) (y : Value) (s' : PH) : Prop :=
  ∃ (v : Tri) (l : List SchP), y = .tuple #[v.v, .bool (walk D S ms).2] ∧ rowE schE s' 24 v.1 v.2.1 v.2.2 l ∧ l.map (·.S) = S :: (walk D S ms).1 ∧ (∀ p ∈ l, ∃ ps, SchIs s' p.t p.S ps) ∧ Fw.Mod [] s s'
theorem c_walked {s : PH} {t : Tri} {S : Sch} {ps : List TabP} (h : SchIs s t S ps) (D : Ddl) {u : Tri} (hu : Sl colE s u D.cols) (hul : D.cols.length ≤ 1073741824) {mt : Tri} {ms : List (Int × Int)} (hm : elems (Rd.enc movE) s mt.1 mt.2.1 ms) (hml : ms.length ≤ 1000) :
    DCalls Try.prog 26 #[schV S t, ddlV D u, mt.v] s (WalkIs s D S ms) := by
  obtain ⟨ua, un, uc⟩ := u
  obtain ⟨ta, tn, tc⟩ := t
  obtain ⟨ma, mn, mc⟩ := mt
  refine ok_walked S.version S.last ta tn tc D.kind D.table D.name D.column D.parent D.unique D.type D.dflt.kind D.dflt.n D.dflt.s ua un uc ma mn mc _ s ?_
  unfold vc_walked
  have hmn : mn = ms.length := hm.1
  obtain ⟨R, hR⟩ : ∃ R, WalkIs s D S ms = R := ⟨_, rfl⟩
  rw [hR]
  simp only [RP_join, RP_ite, RP_call, RP_callQ, RP_ret, RP_nw, RP_app, RP_st, RP_ld, RP_unSome, RP_guard, RP_loop, W.unSome_some]
  refine W.nw_of fun r s1 hr m1 k1 => ?_
  have r1 : rowE schE s1 24 (some ⟨r, 0, none⟩) 1 1 [⟨S, (ta, tn, tc)⟩] := row_one (E := schE) (e := 24) k1 rfl
  have rd1 : Read s1 (some ⟨r, 0, none⟩) ⟨S, (ta, tn, tc)⟩ := by
    refine ⟨ps, h.mono ?_⟩
    have := hid_step (L := []) (L' := [r]) m1 (fun g hg => by have : g = r := by simpa using hg
                                                              subst this; exact .inr hr)
    have e : hid [] s = s := by funext k; simp [hid]
    rw [e] at this
    exact this
  have hfr : ∀ g ∈ Fw.blk (some (Addr.mk r 0 none)), s g = none := by
    intro g hg
    have : g = r := by simpa [Fw.blk] using hg
    subst this
    exact hr
  have hrd1 : ∀ q ∈ [SchP.mk S (ta, tn, tc)], Read s1 (some (Addr.mk r 0 none)) q := by
    intro q hq
    have : q = ⟨S, (ta, tn, tc)⟩ := by simpa using hq
    subst this
    exact rd1
  refine ⟨fun z s' => ∃ (k n c : Nat) (a : Option Addr) (l : List SchP) (p : SchP) (pre : List Sch), z = ((p.S.version, p.S.last, p.t, ()), (D.kind, D.table, D.name, D.column, D.parent, D.unique, D.type, D.dflt.kind, D.dflt.n, D.dflt.s, (ua, un, uc), ()), ((a, n, c), ()), ((ma, mn, mc), ()), ((mn : Int), ()), ((k : Int), ()), ()) ∧ k ≤ mn ∧ rowE schE s' 24 a n c l ∧ (∀ g ∈ Fw.blk a, s g = none) ∧
    Fw.Mod [] s s' ∧ (∀ q ∈ l, Read s' a q) ∧ Read s' a p ∧ l.map (·.S) = S :: pre ∧ l.length = k + 1 ∧ walk D S ms = (pre ++ (walk D p.S (ms.drop k)).1, (walk D p.S (ms.drop k)).2), fun z _ => mn - z.2.2.2.2.2.1.1.toNat,
    ⟨0, 1, 1, _, _, ⟨S, (ta, tn, tc)⟩, [], rfl, Nat.zero_le _, r1, hfr, m1, hrd1, rd1, rfl, rfl, rfl⟩, ?_⟩
  rintro _ s2 ⟨k, n, c, a, l, p, pre, rfl, hk, hrow, hf, m2, hrd, hrp, hl, hll, hwk⟩
  have hend : ∀ s3 b, Fw.Mod [] s2 s3 → walk D S ms = (pre, b) → R (.tuple #[.slice a n c, .bool b]) s3 := by
    intro s3 b m3 e
    rw [← hR]
    refine ⟨(a, n, c), l, by rw [e], hrow.mod m3 (by simp), by rw [e]; exact hl, fun q hq => ?_, m2.trans m3⟩
    obtain ⟨qs, hq2⟩ := (hrd q hq).is
    exact ⟨qs, hq2.mono m3.le⟩
  simp only [W.br_iff, decide_eq_true_eq, decide_eq_false_iff_not]
  refine ⟨fun hlt => ?_, fun hge => ?_⟩
  · have hlt : k < mn := by omega
    obtain ⟨x, hx⟩ : ∃ x, ms[k]? = some x := ⟨_, List.getElem?_eq_getElem (by omega)⟩
    have hdr : ms.drop k = x :: ms.drop (k + 1) := drop_some hx
    rw [hdr] at hwk
    obtain ⟨ad, had, hh⟩ := (hm.mono m2.le).at_enc hx
    dsimp only at had
    subst had
    refine ⟨by omega, ?_⟩
    simp only [W.unSome_some, Int.toNat_natCast]
    refine ld_has_z hh (y := (x.1, x.2, ())) rfl ?_
    have hw := wrap_succ (k := k) (by omega)
    have next : ∀ (s3 : PH) (q : SchP), Fw.Mod [] s2 s3 → Read s3 a q → moved D p.S x = (q.S, 0) →
        W.nw (.cells (schE.f q).toArray 24 (0, 0)) (fun r => W.app 24 3 40 [.int .i64 0, .int .i64 0, .slice none 0 0] a n c (Src.sl (some ⟨r, 0, none⟩) 1) fun a' n' c' s' =>
          (∃ (k' n c : Nat) (a : Option Addr) (l : List SchP) (p' : SchP) (pre : List Sch), (((q.S.version, q.S.last, q.t, ()), (D.kind, D.table, D.name, D.column, D.parent, D.unique, D.type, D.dflt.kind, D.dflt.n, D.dflt.s, (ua, un, uc), ()), ((a', n', c'), ()), ((some ad, mn, mc), ()), ((mn : Int), ()), (IntKind.i64.wrap ((k : Int) + 1), ()), ()) : MDen [(true, [.int .i64, .int .i64, .slice]), (true, [.int .i64, .str, .str, .str, .str, .bool, .int .i64, .int .i64, .int .i64, .str, .slice]), (false, [.slice]), (false, [.slice]), (false, [.int .i64]), (false, [.int .i64])]) =
            ((p'.S.version, p'.S.last, p'.t, ()), (D.kind, D.table, D.name, D.column, D.parent, D.unique, D.type, D.dflt.kind, D.dflt.n, D.dflt.s, (ua, un, uc), ()), ((a, n, c), ()), ((some ad, mn, mc), ()), ((mn : Int), ()), ((k' : Int), ()), ()) ∧ k' ≤ mn ∧ rowE schE s' 24 a n c l ∧ (∀ g ∈ Fw.blk a, s g = none) ∧
            Fw.Mod [] s s' ∧ (∀ q ∈ l, Read s' a q) ∧ Read s' a p' ∧ l.map (·.S) = S :: pre ∧ l.length = k' + 1 ∧ walk D S ms = (pre ++ (walk D p'.S (ms.drop k')).1, (walk D p'.S (ms.drop k')).2)) ∧ mn - (IntKind.i64.wrap ((k : Int) + 1)).toNat < mn - k) s3 := by
      intro s3 q m3 hq hmv
      refine grow3 (E := schE) (x := q) (hrow.mod m3 (by simp)) rfl (by omega) (by omega) ?_
      intro a' c' s4 h4 f4 m4
      have m13 := m2.trans m3
      have hq4 := hq.step m4 f4
      rw [hw]
      refine ⟨⟨k + 1, n + 1, c', a', l ++ [q], q, pre ++ [q.S], rfl, hlt, h4, fun g hg => ?_, m13.fresh m4 fun g hg => .inr (hf g hg), fun q' hq' => ?_, hq4, by simp [hl], by simp [hll], ?_⟩, by simp only [Int.toNat_natCast]; omega⟩
      · rcases f4 g hg with e | e
        · exact hf g e
        · exact m13.none e (by simp)
      · rcases List.mem_append.1 hq' with hq' | hq'
        · exact ((hrd q' hq').step (m3.mono (by simp)) (fun g hg => .inl hg)).step m4 f4
        · have : q' = q := by simpa using hq'
          subst this
          exact hq4
      · rw [hwk]
        rw [walk_cons, hmv, if_neg (by simp)]
        simp
    refine W.join_gen (fun z s' => z = ((p.S.version, p.S.last, p.t, ()), (D.kind, D.table, D.name, D.column, D.parent, D.unique, D.type, D.dflt.kind, D.dflt.n, D.dflt.s, (ua, un, uc), ()), ((a, n, c), ()), (x.1, x.2, ()), ((some ad, mn, mc), ()), ((mn : Int), ()), ((k : Int), ()), (decide (x.1 = 1 ∨ x.1 = 2), ()), ()) ∧ s' = s2) ?_ ?_
    rotate_left
    · intro J hJ
      refine (W.br_iff _ _ _ _).2 ⟨fun h4 => hJ _ _ ⟨?_, rfl⟩, fun h4 => hJ _ _ ⟨?_, rfl⟩⟩
      · have h4 : x.1 = 1 := by simpa using h4
        simp [h4]
      · have h4 : x.1 ≠ 1 := by simpa using h4
        simp [h4, beq_dec]
    rintro _ s3 ⟨rfl, rfl⟩
    simp only [W.br_iff, decide_eq_true_eq, decide_eq_false_iff_not]
    refine ⟨fun hmv => ?_, fun hmv => ?_⟩
    · obtain ⟨qs, hq⟩ := hrp.is
      have hcT := c_Turn hq D (hu.mono m2.le) hul x.2
      have hsm := turn_sm p.S D x.2
      have hmoved : moved D p.S x = p.S.turn D x.2 := by unfold moved; rw [if_pos hmv]
      generalize p.S.turn D x.2 = pr at hcT hsm hmoved
      obtain ⟨S', e⟩ := pr
      dsimp only at hcT hsm
      refine W.call_of hcT ?_
      intro y s4 hg
      obtain ⟨t2, ps2, rfl, hS2, hH2, m4, f4⟩ := gives_at hg hsm
      refine ⟨((S'.version, S'.last, t2, ()), (e, ()), ()), rfl, ?_⟩
      refine (W.br_iff _ _ _ _).2 ⟨fun hne => ?_, fun he => ?_⟩
      · have hne : (e != 0) = true := hne
        have hne : e ≠ 0 := by simpa using hne
        refine hend s4 false m4 ?_
        rw [hwk, walk_cons, hmoved, if_pos hne]; simp
      · have he : (e != 0) = false := he
        have he : e = 0 := by simpa using he
        subst he
        have hHh : Has (hid (Fw.blk a) s4) t2 ps2 := hH2.mod (hid_mod (Fw.blk a) s4) fun g hg hg2 => hrow.known g hg2 (f4 g hg)
        exact next s4 ⟨S', t2⟩ m4 ⟨ps2, hHh.sm (by obtain ⟨t', ps', e1, e2, e3, _⟩ := hg; exact hS2.eq) hsm⟩ hmoved
    · exact next s3 p (Mod.refl _ _) hrp (by unfold moved; rw [if_neg hmv])
  · have hke : k = ms.length := by omega
    have hdr : ms.drop k = [] := List.drop_eq_nil_of_le (by omega)
    rw [hdr] at hwk
    refine hend s2 true (Mod.refl _ _) ?_
    rw [hwk]; simp [walk]
end Go.Proofs.Ythepfbcgpbkbdaa
end
