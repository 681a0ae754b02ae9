/-
  Schemas: a change, plainly; a schema of one's own in memory.
  Conditions: none; it proves no statement by itself.
-/
import Derived.Test.YthepfbcgpbkbdaaM8
set_option linter.unusedVariables false
set_option linter.unusedSimpArgs false
set_option maxHeartbeats 1000000
set_option maxRecDepth 100000
namespace Go.Proofs.Ythepfbcgpbkbdaa
open Fw Go
attribute [-simp] Fw.W.ld_iff Fw.W.st_iff

/-! ## a change, plainly -/
def pubAt (T : Tab) (name : ByteArray) : Int := if 0 ≤ colAt T name then (match T.cols[(colAt T name).toNat]? with | some c => if c.state = 3 then colAt T name else -1 | none => -1) else -1
def dbl (cols : List Col) : Bool := !(upTo (condI (fun i (c : Col) => decide (seek (fun y : Col => decide (y.name = c.name)) cols 0 = i)) cols) cols.length)
def mkCols : Int → List Col → List Col
  | _, [] => []
  | n, c :: cs => ⟨n, c.name, c.kind, 3, ⟨0, 0, ⟨#[]⟩⟩⟩ :: mkCols (n + 1) cs
theorem mkCols_len : ∀ (l : List Col) (n : Int), (mkCols n l).length = l.length
  | [], n => rfl
  | c :: l, n => by simp [mkCols, mkCols_len l]
theorem mkCols_snoc : ∀ (l : List Col) (n : Int) (c : Col), mkCols n (l ++ [c]) = mkCols n l ++ [⟨n + l.length, c.name, c.kind, 3, ⟨0, 0, ⟨#[]⟩⟩⟩]
  | [], n, c => by simp [mkCols]
  | d :: l, n, c => by simp [mkCols, mkCols_snoc l]; omega
abbrev Res := Except Int Sch
def createTurn (S : Sch) (D : Ddl) (st : Int) : Res :=
  if (named D.table && D.cols.all fun c => named c.name) = false then .error 100
  else if (decide (0 ≤ tabAt S D.table) || dbl D.cols) = true then .error 152
  else if (decide (6 ≤ S.tabs.length) || (decide (D.cols.length < 1) || decide (8 < D.cols.length))) = true then .error 156
  else if (D.cols.all fun c => typed c.kind) = false then .error 154
  else if st ≠ 3 then .error 1
  else .ok ⟨S.version, S.last + 1 + D.cols.length, S.tabs ++ [⟨S.last + 1, D.table, mkCols (S.last + 2) D.cols, [], []⟩]⟩
def placed {α : Type} (l : List α) (k : Nat) (st : Int) (x' : α) : List α := if st = 0 then l.eraseIdx k else l.set k x'
def used (T : Tab) (k : Int) (x : Col) : Bool := decide (k = 0) || (T.idxs.any (fun y => decide (y.column = x.id)) || T.keys.any (fun y => decide (y.column = x.id)))
def Col.put (c : Col) (st : Int) : Col := { c with state := st }
def Idx.put (c : Idx) (st : Int) : Idx := { c with state := st }
def For.put (c : For) (st : Int) : For := { c with state := st }
def colTurn (S : Sch) (i : Nat) (T : Tab) (D : Ddl) (st : Int) : Res :=
  if D.kind = 4 ∧ colAt T D.column < 0 then
    if freshE D.column T.cols.length ≠ 0 then .error (freshE D.column T.cols.length)
    else if (typed D.type && fits D.dflt D.type) = false then .error 154
    else if st = 0 then .error 1
    else .ok ⟨S.version, S.last + 1, S.tabs.set i { T with cols := T.cols ++ [⟨S.last + 1, D.column, D.type, st, D.dflt⟩] }⟩
  else if colAt T D.column < 0 then .error 151
  else match T.cols[(colAt T D.column).toNat]? with
  | none => .error 151
  | some x => if D.kind = 4 ∧ x.state = 3 then .error 152
    else if D.kind = 5 ∧ used T (colAt T D.column) x = true then .error 155
    else .ok ⟨S.version, S.last, S.tabs.set i { T with cols := placed T.cols (colAt T D.column).toNat st (x.put st) }⟩
def idxTurn (S : Sch) (i : Nat) (T : Tab) (D : Ddl) (st : Int) : Res :=
  if D.kind = 2 ∧ idxAt T D.name < 0 then
    if freshE D.name T.idxs.length ≠ 0 then .error (freshE D.name T.idxs.length)
    else if pubAt T D.column < 0 then .error 151
    else if st = 0 then .error 1
    else match T.cols[(pubAt T D.column).toNat]? with
    | none => .error 151
    | some c => .ok ⟨S.version, S.last + 1, S.tabs.set i { T with idxs := T.idxs ++ [⟨S.last + 1, D.name, c.id, D.unique, st⟩] }⟩
  else if idxAt T D.name < 0 then .error 153
  else match T.idxs[(idxAt T D.name).toNat]? with
  | none => .error 153
  | some x => if D.kind = 2 ∧ x.state = 3 then .error 152
    else .ok ⟨S.version, S.last, S.tabs.set i { T with idxs := placed T.idxs (idxAt T D.name).toNat st (x.put st) }⟩
def keyTurn (S : Sch) (i : Nat) (T : Tab) (D : Ddl) (st : Int) : Res :=
  if D.kind = 6 ∧ keyAt T D.name < 0 then
    if freshE D.name T.keys.length ≠ 0 then .error (freshE D.name T.keys.length)
    else if pubAt T D.column < 0 then .error 151
    else if tabAt S D.parent < 0 then .error 150
    else match T.cols[(pubAt T D.column).toNat]?, S.tabs[(tabAt S D.parent).toNat]? with
    | some c, some P => (match P.cols with
      | [] => .error 154
      | c0 :: _ => if c.kind ≠ c0.kind then .error 154
        else if st = 0 then .error 1
        else .ok ⟨S.version, S.last + 1, S.tabs.set i { T with keys := T.keys ++ [⟨S.last + 1, D.name, c.id, P.id, st⟩] }⟩)
    | _, _ => .error 151
  else if keyAt T D.name < 0 then .error 153
  else match T.keys[(keyAt T D.name).toNat]? with
  | none => .error 153
  | some x => if D.kind = 6 ∧ x.state = 3 then .error 152
    else .ok ⟨S.version, S.last, S.tabs.set i { T with keys := placed T.keys (keyAt T D.name).toNat st (x.put st) }⟩
def turn1 (S : Sch) (D : Ddl) (st : Int) : Res :=
  if D.kind = 1 then createTurn S D st
  else if tabAt S D.table < 0 then .error 150
  else match S.tabs[(tabAt S D.table).toNat]? with
  | none => .error 150
  | some T => if D.kind = 4 ∨ D.kind = 5 then colTurn S (tabAt S D.table).toNat T D st
    else if D.kind = 2 ∨ D.kind = 3 then idxTurn S (tabAt S D.table).toNat T D st
    else keyTurn S (tabAt S D.table).toNat T D st
abbrev noSch : Sch := ⟨0, 0, []⟩
def Sch.turn (S : Sch) (D : Ddl) (st : Int) : Sch × Int :=
  if (right S && (decide (0 ≤ st) && decide (st ≤ 3))) = false then (noSch, 100)
  else if D.kind < 1 ∨ 7 < D.kind then (noSch, 1)
  else match turn1 { S with version := S.version + 1 } D st with
  | .error e => (noSch, e)
  | .ok S' => (S', 0)
theorem freshE_ne {name : ByteArray} {n : Int} (h : freshE name n ≠ 0) : freshE name n = 100 ∨ freshE name n = 156 := by
  unfold freshE at h ⊢; split
  · exact .inl rfl
  · split
    · exact .inr rfl
    · simp_all
def Res.ErrOk (r : Res) : Prop := ∀ e, r = .error e → e ≠ 0
theorem err_ite {c : Prop} [Decidable c] {a b : Res} (ha : c → a.ErrOk) (hb : ¬ c → b.ErrOk) : Res.ErrOk (if c then a else b) := by
  by_cases h : c
  · rw [if_pos h]; exact ha h
  · rw [if_neg h]; exact hb h
theorem err_e {e : Int} (h : e ≠ 0) : Res.ErrOk (.error e) := fun e' h' => by cases h'; exact h
theorem err_o {S : Sch} : Res.ErrOk (.ok S) := fun e' h' => by cases h'
theorem turn1_err (S : Sch) (D : Ddl) (st : Int) : Res.ErrOk (turn1 S D st) := by
  have h1 : Res.ErrOk (createTurn S D st) := by unfold createTurn; repeat' (first | (refine err_ite (fun _ => ?_) (fun _ => ?_)) | exact err_o | exact err_e (by decide) | exact err_e ‹_› | split)
  have h2 : ∀ i T, Res.ErrOk (colTurn S i T D st) := by intro i T; unfold colTurn; repeat' (first | (refine err_ite (fun _ => ?_) (fun _ => ?_)) | exact err_o | exact err_e (by decide) | exact err_e ‹_› | split)
  have h3 : ∀ i T, Res.ErrOk (idxTurn S i T D st) := by intro i T; unfold idxTurn; repeat' (first | (refine err_ite (fun _ => ?_) (fun _ => ?_)) | exact err_o | exact err_e (by decide) | exact err_e ‹_› | split)
  have h4 : ∀ i T, Res.ErrOk (keyTurn S i T D st) := by intro i T; unfold keyTurn; repeat' (first | (refine err_ite (fun _ => ?_) (fun _ => ?_)) | exact err_o | exact err_e (by decide) | exact err_e ‹_› | split)
  unfold turn1
  repeat' (first | exact h1 | exact h2 _ _ | exact h3 _ _ | exact h4 _ _ | (refine err_ite (fun _ => ?_) (fun _ => ?_)) | exact err_e (by decide) | split)

/-! ## a schema of one's own -/
def Lof (t : Tri) (ps : List TabP) : List Nat := Fw.blk t.1 ++ ps.flatMap TabP.L
structure Has (s : PH) (t : Tri) (ps : List TabP) : Prop where
  row : rowE tabE s 42 t.1 t.2.1 t.2.2 ps
  all : ∀ p ∈ ps, Own s p
  nod : (Lof t ps).Nodup
theorem Has.nil (s : PH) : Has s noTri [] := ⟨rowE.nil, fun p hp => by simp at hp, by simp [Lof, Fw.blk]⟩
theorem Has.known {s : PH} {t : Tri} {ps : List TabP} (h : Has s t ps) : ∀ g ∈ Lof t ps, s g ≠ none := by
  intro g hg
  simp only [Lof, List.mem_append, List.mem_flatMap] at hg
  rcases hg with hg | ⟨p, hp, hg⟩
  · exact h.row.known g hg
  · exact (h.all p hp).known g hg
theorem Lof_t {t : Tri} {ps : List TabP} {g : Nat} (h : g ∈ Fw.blk t.1) : g ∈ Lof t ps := List.mem_append.2 (.inl h)
theorem Lof_p {t : Tri} {ps : List TabP} {p : TabP} (hp : p ∈ ps) {g : Nat} (h : g ∈ p.L) : g ∈ Lof t ps := List.mem_append.2 (.inr (List.mem_flatMap.2 ⟨p, hp, h⟩))
theorem Has.mod {s s' : PH} {t : Tri} {ps : List TabP} {M : List Nat} (h : Has s t ps) (hm : Fw.Mod M s s') (hd : ∀ g ∈ Lof t ps, g ∉ M) : Has s' t ps :=
  ⟨h.row.mod hm fun g hg => hd g (Lof_t hg), fun p hp => (h.all p hp).mod hm fun g hg => hd g (Lof_p hp hg), h.nod⟩
theorem Has.is {s : PH} {t : Tri} {ps : List TabP} (h : Has s t ps) {S : Sch} (he : S.tabs = ps.map (·.T)) (hn : S.tabs.length ≤ 4294967296) (hf : ∀ T ∈ S.tabs, T.Few) : SchIs s t S ps :=
  ⟨Sl.of_row h.row (by rw [he, List.length_map] at hn; exact hn), he, fun p hp => (h.all p hp).is (hf _ (by rw [he]; exact List.mem_map_of_mem hp))⟩
theorem Has.push {s : PH} {a : Option Addr} {n c : Nat} {ps : List TabP} {p : TabP} {K : Option Addr → Nat → Nat → W.T} (h : Has s (a, n, c) ps) (ho : Own s p) (hp : p.L.Nodup) (hd : ∀ g ∈ p.L, g ∉ Lof (a, n, c) ps) (hl : ps.length ≤ 4294967296)
    (hK : ∀ a' c' s', Has s' (a', n + 1, c') (ps ++ [p]) → Step (Lof (a, n, c) ps ++ p.L) (Lof (a', n + 1, c') (ps ++ [p])) s s' → K a' (n + 1) c' s') :
    W.nw (.cells (tabE.f p).toArray 42 (0, 0)) (fun r => W.app 42 5 96 [.int .i64 0, .string ⟨#[]⟩, .slice none 0 0, .slice none 0 0, .slice none 0 0] a n c (Src.sl (some ⟨r, 0, none⟩) 1) K) s := by
  refine W.nw_of fun r s1 hr m1 k1 => ?_
  have hmax : maxLen = 9223372036854775807 := rfl
  have hn : n = ps.length := h.row.len
  have h1 := h.mod m1 (by simp)
  have ho1 := ho.mod m1 (by simp)
  refine app_rowE h1.row rfl (ys := [p]) (k := 1) (src_has (by have := has_block k1; simpa using this) rfl) rfl rfl (by dsimp only; omega) (by dsimp only; omega) ?_
  intro a' c' s' h' hm
  have hdt : ∀ g ∈ ps.flatMap TabP.L, g ∉ Fw.blk a := by
    intro g hg hg2
    have := h.nod
    simp only [Lof, List.nodup_append] at this
    exact this.2.2 g hg2 g hg rfl
  have hrest : (ps.flatMap TabP.L ++ p.L).Nodup := by
    rw [List.nodup_append]
    have := h.nod
    simp only [Lof, List.nodup_append] at this
    refine ⟨this.2.1, hp, ?_⟩
    rintro g hg _ hg2 rfl
    exact hd g hg2 (List.mem_append.2 (.inr hg))
  have hL : Lof (a', n + 1, c') (ps ++ [p]) = Fw.blk a' ++ (ps.flatMap TabP.L ++ p.L) := by simp [Lof, List.flatMap_append]
  have hLp : ∀ g ∈ ps.flatMap TabP.L ++ p.L, g ∈ Lof (a, n, c) ps ++ p.L := by
    intro g hg
    rcases List.mem_append.1 hg with hg | hg
    · exact List.mem_append.2 (.inl (List.mem_append.2 (.inr hg)))
    · exact List.mem_append.2 (.inr hg)
  rcases hm with ⟨rfl, hm⟩ | ⟨g, rfl, hg, hm⟩
  · refine hK _ _ _ ⟨h', ?_, ?_⟩ ⟨(m1.mono (by simp)).trans (hm.mono fun x hx => List.mem_append.2 (.inl (Lof_t (ps := ps) hx))), ?_⟩
    · intro q hq
      rcases List.mem_append.1 hq with hq | hq
      · exact (h1.all q hq).mod hm fun g hg => hdt g (List.mem_flatMap.2 ⟨q, hq, hg⟩)
      · have : q = p := by simpa using hq
        subst this
        exact ho1.mod hm fun g hg hg2 => hd g hg (Lof_t hg2)
    · rw [hL, List.nodup_append]
      refine ⟨blk_nodup _, hrest, ?_⟩
      rintro g hg _ hg2 rfl
      rcases List.mem_append.1 hg2 with hg2 | hg2
      · exact hdt g hg2 hg
      · exact hd g hg2 (Lof_t hg)
    · intro x hx
      rw [hL] at hx
      rcases List.mem_append.1 hx with hx | hx
      · exact .inl (List.mem_append.2 (.inl (Lof_t hx)))
      · exact .inl (hLp x hx)
  · have hg0 : s g = none := m1.none hg (by simp)
    refine hK _ _ _ ⟨h', ?_, ?_⟩ ⟨(m1.trans hm).mono (by simp), ?_⟩
    · intro q hq
      rcases List.mem_append.1 hq with hq | hq
      · exact (h1.all q hq).mod hm (by simp)
      · have : q = p := by simpa using hq
        subst this
        exact ho1.mod hm (by simp)
    · rw [hL, List.nodup_append]
      refine ⟨blk_nodup _, hrest, ?_⟩
      rintro g' hg' _ hg2 rfl
      have : g' = g := by simpa [Fw.blk] using hg'
      subst this
      rcases List.mem_append.1 hg2 with hg2 | hg2
      · exact h.known g' (List.mem_append.2 (.inr hg2)) hg0
      · exact ho.known g' hg2 hg0
    · intro x hx
      rw [hL] at hx
      rcases List.mem_append.1 hx with hx | hx
      · have : x = g := by simpa [Fw.blk] using hx
        subst this
        exact .inr hg0
      · exact .inl (hLp x hx)
theorem Lof_mid {t : Tri} {l r : List TabP} {p : TabP} {g : Nat} : g ∈ Lof t (l ++ p :: r) ↔ (g ∈ Fw.blk t.1 ∨ g ∈ l.flatMap TabP.L ∨ g ∈ r.flatMap TabP.L) ∨ g ∈ p.L := by
  simp only [Lof, List.flatMap_append, List.flatMap_cons, List.mem_append]
  constructor
  · rintro (h | h | h | h)
    · exact .inl (.inl h)
    · exact .inl (.inr (.inl h))
    · exact .inr h
    · exact .inl (.inr (.inr h))
  · rintro ((h | h | h) | h)
    · exact .inl h
    · exact .inr (.inl h)
    · exact .inr (.inr (.inr h))
    · exact .inr (.inr (.inl h))
theorem Lof_nod {t : Tri} {l r : List TabP} {p : TabP} : (Lof t (l ++ p :: r)).Nodup ↔ (Fw.blk t.1 ++ (l.flatMap TabP.L ++ r.flatMap TabP.L)).Nodup ∧ p.L.Nodup ∧ ∀ g ∈ p.L, ¬ (g ∈ Fw.blk t.1 ∨ g ∈ l.flatMap TabP.L ∨ g ∈ r.flatMap TabP.L) := by
  have : (Lof t (l ++ p :: r)).Perm ((Fw.blk t.1 ++ (l.flatMap TabP.L ++ r.flatMap TabP.L)) ++ p.L) := by
    simp only [Lof, List.flatMap_append, List.flatMap_cons, List.append_assoc]
    refine List.Perm.append_left _ (List.Perm.append_left _ List.perm_append_comm)
  rw [this.nodup_iff, List.nodup_append]
  constructor
  · rintro ⟨a, b, c⟩
    refine ⟨a, b, fun g hg h => c g ?_ g hg rfl⟩
    simp only [List.mem_append]; exact h
  · rintro ⟨a, b, c⟩
    refine ⟨a, b, ?_⟩
    rintro g hg _ hg2 rfl
    simp only [List.mem_append] at hg
    exact c g hg2 hg
/-- table i is laid anew, its lists having been worked on -/
theorem Has.put {s s1 : PH} {t : Tri} {ps : List TabP} {i : Nat} {p p' : TabP} {K : W.T} (h : Has s t ps) (hp : ps[i]? = some p) (hm : Fw.Mod p.L s s1) (ho : Own s1 p') (hnd : p'.L.Nodup) (hf : ∀ g ∈ p'.L, g ∈ p.L ∨ s g = none) {j : Nat} {vs : List Value}
    (hx' : tabE.f p' = (tabE.f p).take j ++ vs ++ (tabE.f p).drop (j + vs.length)) (hj : j + vs.length ≤ 5) (hne : vs ≠ []) {g : Nat} (ha : t.1 = some ⟨g, 0, none⟩)
    (hK : ∀ s2, Has s2 t (ps.set i p') → Step (Lof t ps) (Lof t (ps.set i p')) s s2 → K s2) : W.st ⟨g, i * 5 + j, none⟩ vs K s1 := by
  have hi := (List.getElem?_eq_some_iff.1 hp).1
  obtain ⟨l, r, rfl, hl⟩ : ∃ l r, ps = l ++ p :: r ∧ l.length = i := ⟨ps.take i, ps.drop (i + 1), by rw [← drop_some hp, List.take_append_drop], by simp; omega⟩
  subst hl
  have hset : (l ++ p :: r).set l.length p' = l ++ p' :: r := by simp
  rw [hset] at hK
  have hn0 := Lof_nod.1 h.nod
  have hkn := h.known
  have hap : ∀ g, (g ∈ Fw.blk t.1 ∨ g ∈ l.flatMap TabP.L ∨ g ∈ r.flatMap TabP.L) → g ∉ p.L := fun g hg hg2 => hn0.2.2 g hg2 hg
  have hrow1 : rowE tabE s1 42 t.1 t.2.1 t.2.2 (l ++ p :: r) := h.row.mod hm fun g hg => hap g (.inl hg)
  have hvs : ∀ v ∈ vs, v.oneCell' = true := fun v hv => tabE.one p' v (by rw [hx']; simp [hv])
  have hgk : s g ≠ none := h.row.known g (by rw [ha]; simp [Fw.blk])
  have hgp : g ∉ p'.L := fun e => by
    rcases hf g e with e | e
    · exact hap g (.inl (by rw [ha]; simp [Fw.blk])) e
    · exact hgk e
  refine rowE.st (E := tabE) (i := l.length) (j := j) (x' := p') hrow1 hp hx' hj hne hvs ha fun s2 h2 m2 => ?_
  rw [hset] at h2
  have hgl : ∀ x, x ∈ l.flatMap TabP.L ∨ x ∈ r.flatMap TabP.L → x ∉ [g] := by
    intro x hx hx2
    have hx2 : x = g := by simpa using hx2
    subst hx2
    have := hn0.1
    rw [List.nodup_append] at this
    exact this.2.2 x (by rw [ha]; simp [Fw.blk]) x (List.mem_append.2 hx) rfl
  refine hK s2 ⟨h2, ?_, ?_⟩ ⟨?_, ?_⟩
  · intro q hq
    have hq' : q ∈ l ∨ q = p' ∨ q ∈ r := by simpa using hq
    rcases hq' with hq' | rfl | hq'
    · have hL : ∀ x ∈ q.L, x ∈ l.flatMap TabP.L := fun x hx => List.mem_flatMap.2 ⟨q, hq', hx⟩
      exact ((h.all q (by simp [hq'])).mod hm fun x hx => hap x (.inr (.inl (hL x hx)))).mod m2 fun x hx => hgl x (.inl (hL x hx))
    · exact ho.mod m2 fun x hx hx2 => by
        have hx2 : x = g := by simpa using hx2
        subst hx2
        exact hgp hx
    · have hL : ∀ x ∈ q.L, x ∈ r.flatMap TabP.L := fun x hx => List.mem_flatMap.2 ⟨q, hq', hx⟩
      exact ((h.all q (by simp [hq'])).mod hm fun x hx => hap x (.inr (.inr (hL x hx)))).mod m2 fun x hx => hgl x (.inr (hL x hx))
  · refine Lof_nod.2 ⟨hn0.1, hnd, fun x hx hx2 => ?_⟩
    rcases hf x hx with e | e
    · exact hap x hx2 e
    · refine hkn x (Lof_mid.2 (.inl hx2)) e
  · refine (hm.mono fun x hx => Lof_mid.2 (.inr hx)).trans (m2.mono fun x hx => ?_)
    have : x = g := by simpa using hx
    subst this
    exact Lof_t (by rw [ha]; simp [Fw.blk])
  · intro x hx
    rcases Lof_mid.1 hx with hx | hx
    · exact .inl (Lof_mid.2 (.inl hx))
    · rcases hf x hx with e | e
      · exact .inl (Lof_mid.2 (.inr e))
      · exact .inr e
end Go.Proofs.Ythepfbcgpbkbdaa
