/-
  The ballot in memory, and what its small functions do.
  Conditions: none; it proves no statement by itself.
-/
import Derived.Test.YtfpbiecmobdnnaaVc1
import Derived.Test.YtfpbiecmobdnnaaFwR
import Derived.Test.YtfpbiecmobdnnaaFwO
set_option linter.unusedVariables false
set_option linter.unusedSimpArgs false
set_option maxHeartbeats 1000000
namespace Go.Proofs.Ytfpbiecmobdnnaa
open Fw Go
attribute [-simp] Fw.W.ld_iff Fw.W.st_iff

/-! ## what is in memory -/
structure Ent where
  term : Int
  at_ : Int
  born : Int
  text : ByteArray
  deriving DecidableEq
abbrev noEnt : Ent := ⟨0, 0, 0, ⟨#[]⟩⟩
def entE : Enc Ent where
  sz := 4
  f e := [.int .i64 e.term, .int .i64 e.at_, .int .i64 e.born, .string e.text]
  len _ := rfl
  one p v hv := by simp at hv; rcases hv with rfl | rfl | rfl | rfl <;> rfl
  pos := by omega
def entV (e : Ent) : Value := .agg #[.int .i64 e.term, .int .i64 e.at_, .int .i64 e.born, .string e.text]
def intE : Enc Int where
  sz := 1
  f n := [.int .i64 n]
  len _ := rfl
  one p v hv := by simp at hv; subst hv; rfl
  pos := by omega
def boolE : Enc Bool where
  sz := 1
  f b := [.bool b]
  len _ := rfl
  one p v hv := by simp at hv; subst hv; rfl
  pos := by omega

abbrev Tri := Option Addr × Nat × Nat
def Tri.v (t : Tri) : Value := .slice t.1 t.2.1 t.2.2
/-- what a ballot stands for -/
structure BS where
  id : Int
  size : Int
  term : Int
  vote : Int
  role : Int
  lead : Int
  base : Int
  last : Int
  commit : Int
  baseTerm : Int
  snap : ByteArray
  log : List Ent
  votes : List Bool
  next : List Int
  mat : List Int
  touched : Bool
  whole : Bool
  from_ : Int
abbrev BS.cells (B : BS) (l v n m : Tri) : Array Value :=
  #[.int .i64 B.id, .int .i64 B.size, .int .i64 B.term, .int .i64 B.vote, .int .i64 B.role, .int .i64 B.lead, .int .i64 B.base, .int .i64 B.last, .int .i64 B.commit, .int .i64 B.baseTerm, .string B.snap,
    .slice l.1 l.2.1 l.2.2, .slice v.1 v.2.1 v.2.2, .slice n.1 n.2.1 n.2.2, .slice m.1 m.2.1 m.2.2, .bool B.touched, .bool B.whole, .int .i64 B.from_]
structure Bal (s : PH) (b : Nat) (l v n m : Tri) (B : BS) : Prop where
  cell : s b = some (.cells (B.cells l v n m) 67 (0, 0))
  log : rowE entE s 39 l.1 l.2.1 l.2.2 B.log
  votes : rowE boolE s 4 v.1 v.2.1 v.2.2 B.votes
  next : rowE intE s 3 n.1 n.2.1 n.2.2 B.next
  mat : rowE intE s 3 m.1 m.2.1 m.2.2 B.mat
  nm : ∀ x ∈ Fw.blk n.1, x ∉ Fw.blk m.1
def bL (b : Nat) (l v n m : Tri) : List Nat := b :: (Fw.blk l.1 ++ (Fw.blk v.1 ++ (Fw.blk n.1 ++ Fw.blk m.1)))
def bptr (b : Nat) : Value := .pointer (some ⟨b, 0, none⟩)

section
variable {s s' : PH} {b : Nat} {l v n m : Tri} {B : BS}
/-- blocks of rows of different types are different -/
theorem row_ne2 {α : Type} {E : Enc α} {e e' : TypeId} {a : Option Addr} {k c g : Nat} {xs : List α} {o : Array Value} {f : Nat × Nat} (h : rowE E s e a k c xs) (hg : s g = some (.cells o e' f)) (he : e ≠ e') : g ∉ blk a := by
  intro hx
  rcases h.shape with ⟨rfl, _⟩ | ⟨g', rfl⟩
  · simp [blk] at hx
  · simp [blk] at hx; subst hx
    obtain ⟨cur, hc⟩ := h.ty rfl
    rw [hg] at hc; cases hc; exact he rfl
theorem row_ne3 {α β : Type} {E : Enc α} {E' : Enc β} {e e' : TypeId} {a a' : Option Addr} {k c k' c' : Nat} {xs : List α} {ys : List β} (h : rowE E s e a k c xs) (h' : rowE E' s e' a' k' c' ys) (he : e ≠ e') : ∀ x ∈ blk a', x ∉ blk a := by
  intro x hx
  rcases h'.shape with ⟨rfl, _⟩ | ⟨g', rfl⟩
  · simp [blk] at hx
  · simp [blk] at hx; subst hx
    obtain ⟨cur, hc⟩ := h'.ty rfl
    exact row_ne2 h hc he
theorem Bal.known (h : Bal s b l v n m B) : ∀ x ∈ bL b l v n m, s x ≠ none := by
  intro x hx
  simp only [bL, List.mem_cons, List.mem_append] at hx
  rcases hx with rfl | hx | hx | hx | hx
  · simp [h.cell]
  · exact h.log.known x hx
  · exact h.votes.known x hx
  · exact h.next.known x hx
  · exact h.mat.known x hx
theorem Bal.mod {M : List Nat} (h : Bal s b l v n m B) (hm : Fw.Mod M s s') (hd : ∀ x ∈ bL b l v n m, x ∉ M) : Bal s' b l v n m B := by
  simp only [bL, List.mem_cons, List.mem_append] at hd
  exact ⟨hm.at h.cell (hd b (.inl rfl)), h.log.mod hm fun x hx => hd x (.inr (.inl hx)), h.votes.mod hm fun x hx => hd x (.inr (.inr (.inl hx))), h.next.mod hm fun x hx => hd x (.inr (.inr (.inr (.inl hx)))),
    h.mat.mod hm fun x hx => hd x (.inr (.inr (.inr (.inr hx)))), h.nm⟩
theorem Bal.new (h : Bal s b l v n m B) (hm : Fw.Mod [] s s') : Bal s' b l v n m B := h.mod hm (by simp)
theorem Bal.ne (h : Bal s b l v n m B) : b ∉ blk l.1 ∧ b ∉ blk v.1 ∧ b ∉ blk n.1 ∧ b ∉ blk m.1 :=
  ⟨row_ne2 h.log h.cell (by decide), row_ne2 h.votes h.cell (by decide), row_ne2 h.next h.cell (by decide), row_ne2 h.mat h.cell (by decide)⟩
/-- its own cells are laid anew; the rows too, where they are others -/
theorem balOf {o : Array Value} (hb : s b = some (.cells o 67 (0, 0))) {B' : BS} {l' v' n' m' : Tri} (h1 : rowE entE s 39 l'.1 l'.2.1 l'.2.2 B'.log) (h2 : rowE boolE s 4 v'.1 v'.2.1 v'.2.2 B'.votes) (h3 : rowE intE s 3 n'.1 n'.2.1 n'.2.2 B'.next) (h4 : rowE intE s 3 m'.1 m'.2.1 m'.2.2 B'.mat)
    (h5 : ∀ x ∈ Fw.blk n'.1, x ∉ Fw.blk m'.1) {o' : Obj} (ho : o' = .cells (B'.cells l' v' n' m') 67 (0, 0) := by rfl) : Bal (s.upd b o') b l' v' n' m' B' := by
  subst ho
  have hm : Fw.Mod [b] s (s.upd b (.cells (B'.cells l' v' n' m') 67 (0, 0))) := Mod.upd (by simp)
  exact ⟨PH.upd_same _ _ _, h1.mod hm fun x hx => by simp; rintro rfl; exact row_ne2 h1 hb (by decide) hx, h2.mod hm fun x hx => by simp; rintro rfl; exact row_ne2 h2 hb (by decide) hx,
    h3.mod hm fun x hx => by simp; rintro rfl; exact row_ne2 h3 hb (by decide) hx, h4.mod hm fun x hx => by simp; rintro rfl; exact row_ne2 h4 hb (by decide) hx, h5⟩
theorem Bal.lay (h : Bal s b l v n m B) {B' : BS} {o' : Obj} (e1 : B'.log = B.log := by rfl) (e2 : B'.votes = B.votes := by rfl) (e3 : B'.next = B.next := by rfl) (e4 : B'.mat = B.mat := by rfl) (ho : o' = .cells (B'.cells l v n m) 67 (0, 0) := by rfl) : Bal (s.upd b o') b l v n m B' :=
  balOf h.cell (by rw [e1]; exact h.log) (by rw [e2]; exact h.votes) (by rw [e3]; exact h.next) (by rw [e4]; exact h.mat) h.nm ho
theorem bL_self : b ∈ bL b l v n m := by simp [bL]
end

/-- as far as numbers go -/
structure BS.Small (B : BS) : Prop where
  base0 : 0 ≤ B.base
  base1 : B.base ≤ 4611686018427387904
  log1 : B.log.length ≤ 1073741824
def BS.lst (B : BS) : Int := B.base + B.log.length
theorem BS.Small.last {B : BS} (h : B.Small) : IntKind.i64.wrap (B.base + (B.log.length : Int)) = B.lst := by
  obtain ⟨h1, h2, h3⟩ := h
  exact wrap_in (by omega) (by omega)

section
variable {s : PH} {b : Nat} {l v n m : Tri} {B : BS}
theorem c_last (h : Bal s b l v n m B) (hs : B.Small) : DCalls Try.prog 26 #[bptr b] s fun x s' => x = .int .i64 B.lst ∧ s' = s := by
  refine ok_last b _ s ?_
  have hb := h.cell
  have hl := h.log.len
  unfold vc_last
  simp [W.ld_at hb]
  rw [hl, hs.last]

theorem c_clean (h : Bal s b l v n m B) (hs : B.Small) : DCalls Try.prog 23 #[bptr b] s fun x s' => x = .tuple #[] ∧ Bal s' b l v n m { B with touched := false, whole := false, from_ := B.lst + 1 } ∧ Fw.Mod [b] s s' := by
  refine ok_clean b _ s ?_
  have hb := h.cell
  unfold vc_clean
  simp only [RP_call]
  refine W.call_of (c_last h hs) ?_
  rintro _ s ⟨rfl, rfl⟩
  refine ⟨((B.lst, ()), ()), rfl, ?_⟩
  have hw : IntKind.i64.wrap (B.lst + 1) = B.lst + 1 := by
    obtain ⟨h1, h2, h3⟩ := hs
    unfold BS.lst
    exact wrap_in (by omega) (by omega)
  simp [W.ld_at hb, W.st_at hb, hw]
  exact ⟨h.lay, Mod.upd (by simp)⟩

def newBS (id size : Int) : BS := ⟨id, size, 0, -1, 0, -1, 0, 0, 0, 0, ⟨#[]⟩, [], [], [], [], false, false, 1⟩
abbrev noTri : Tri := (none, 0, 0)
def okNew (id size : Int) : Prop := 1 ≤ size ∧ size ≤ 5 ∧ 0 ≤ id ∧ id < size
instance (id size : Int) : Decidable (okNew id size) := by unfold okNew; infer_instance
def NewPost (id size : Int) (s : PH) (x : Value) (s' : PH) : Prop :=
  (okNew id size ∧ ∃ b, x = .tuple #[bptr b, .int .i64 0] ∧ Bal s' b noTri noTri noTri noTri (newBS id size) ∧ Fw.Mod [] s s' ∧ s b = none) ∨ (¬ okNew id size ∧ x = .tuple #[.pointer none, .int .i64 1] ∧ s' = s)
theorem c_New (id size : Int) (s : PH) : DCalls Try.prog 7 #[.int .i64 id, .int .i64 size] s (NewPost id size s) := by
  refine ok_New id size _ s ?_
  unfold vc_New
  have hno : ¬ okNew id size → NewPost id size s (.tuple #[.pointer none, .int .i64 1]) s := fun h => .inr ⟨h, rfl, rfl⟩
  simp [W.br_iff]
  refine ⟨fun h => hno (by unfold okNew; omega), fun h1 => ⟨fun h => hno (by unfold okNew; omega), fun h2 => ⟨fun h => hno (by unfold okNew; omega), fun h3 => ⟨fun h => hno (by unfold okNew; omega), fun h4 => ?_⟩⟩⟩⟩
  intro r hr
  have h0 : Bal (s.upd r (.cells ({ newBS id size with from_ := 0 }.cells noTri noTri noTri noTri) 67 (0, 0))) r noTri noTri noTri noTri { newBS id size with from_ := 0 } :=
    ⟨PH.upd_same _ _ _, rowE.nil, rowE.nil, rowE.nil, rowE.nil, by simp [Fw.blk]⟩
  refine W.call_of (c_clean h0 ⟨by show (0 : Int) ≤ 0; omega, by show (0 : Int) ≤ _; omega, Nat.zero_le _⟩) ?_
  rintro _ s2 ⟨rfl, h2, m2⟩
  refine ⟨(), rfl, ?_⟩
  exact .inl ⟨by unfold okNew; omega, r, rfl, h2, (Mod.new hr).fresh m2 (by simp [hr]), hr⟩

/-- the entry at a number -/
def BS.entry (B : BS) (i : Int) : Option Ent := if i ≤ B.base ∨ B.lst < i then none else B.log[(i - B.base - 1).toNat]?
theorem BS.entry_in {B : BS} {i : Int} (h1 : B.base < i) (h2 : i ≤ B.lst) : ∃ e, B.entry i = some e ∧ B.log[(i - B.base - 1).toNat]? = some e := by
  have hlt : (i - B.base - 1).toNat < B.log.length := by unfold BS.lst at h2; omega
  exact ⟨_, by unfold BS.entry; rw [if_neg (by omega), List.getElem?_eq_getElem hlt], List.getElem?_eq_getElem hlt⟩
theorem BS.entry_out {B : BS} {i : Int} (h : i ≤ B.base ∨ B.lst < i) : B.entry i = none := by unfold BS.entry; rw [if_pos h]
def Num (i : Int) : Prop := -4611686018427387904 ≤ i ∧ i ≤ 4611686018427387904
def EntryPost (B : BS) (i : Int) (s : PH) (x : Value) (s' : PH) : Prop := x = .tuple #[entV ((B.entry i).getD noEnt), .bool (B.entry i).isSome] ∧ Fw.Mod [] s s'
theorem c_Entry (h : Bal s b l v n m B) (hs : B.Small) {i : Int} (hi : Num i) : DCalls Try.prog 11 #[bptr b, .int .i64 i] s (EntryPost B i s) := by
  refine ok_Entry b i _ s ?_
  have hb := h.cell
  unfold vc_Entry
  simp [W.br_iff]
  intro r hr
  have hbr := ne_of_known hb hr
  have m1 : Fw.Mod [] s (s.upd r (.cells #[.int .i64 0, .int .i64 0, .int .i64 0, .string ⟨#[]⟩] 39 (0, 0))) := Mod.new hr
  have hb1 := m1.at hb (by simp)
  have no : B.entry i = none → EntryPost B i s (.tuple #[.agg #[.int .i64 0, .int .i64 0, .int .i64 0, .string ⟨#[]⟩], .bool false]) (s.upd r (.cells #[.int .i64 0, .int .i64 0, .int .i64 0, .string ⟨#[]⟩] 39 (0, 0))) := by
    intro e; exact ⟨by rw [e]; rfl, m1⟩
  simp [W.ld_at hb1, W.br_iff]
  refine ⟨fun h1 => no (BS.entry_out (.inl h1)), fun h1 => ?_⟩
  refine W.call_of (c_last (h.new m1) hs) ?_
  rintro _ _ ⟨rfl, rfl⟩
  refine ⟨((B.lst, ()), ()), rfl, ?_⟩
  simp [W.ld_at hb1, W.br_iff]
  refine ⟨fun h2 => no (BS.entry_out (.inr h2)), fun h2 => ?_⟩
  obtain ⟨e, he, he'⟩ := BS.entry_in (B := B) (i := i) (by omega) h2
  obtain ⟨g, hg, hhas⟩ := ((h.new m1).log).at he'
  have hn := h.log.len
  obtain ⟨i1, i2⟩ := hi
  obtain ⟨q1, q2, q3⟩ := hs
  obtain ⟨k, hk⟩ : ∃ k : Nat, (i - B.base - 1).toNat = k := ⟨_, rfl⟩
  have hw : IntKind.i64.wrap (IntKind.i64.wrap (i - B.base) - 1) = (k : Int) := by
    unfold BS.lst at h2
    rw [wrap_in (n := i - B.base) (by omega) (by omega), wrap_in (by omega) (by omega)]; omega
  have hlt := (List.getElem?_eq_some_iff.1 he').1
  rw [hk] at hhas hlt
  rw [hg]
  simp [hw]
  refine ⟨by omega, ?_⟩
  refine ld_has_z (A := ⟨g, k * 4, none⟩) hhas (cs := [.int .i64, .int .i64, .int .i64, .str]) (y := (e.term, e.at_, e.born, e.text, ())) rfl ?_
  have hgr : g ≠ r := by
    rintro rfl
    have : g ∈ Fw.blk l.1 := by rw [hg]; simp [Fw.blk]
    exact h.log.known _ this hr
  simp
  exact ⟨by rw [he]; rfl, Mod.new hr⟩

def BS.termAt (B : BS) (i : Int) : Int × Bool := if i = B.base then (B.baseTerm, true) else (((B.entry i).getD noEnt).term, (B.entry i).isSome)
def TermPost (B : BS) (i : Int) (s : PH) (x : Value) (s' : PH) : Prop := x = .tuple #[.int .i64 (B.termAt i).1, .bool (B.termAt i).2] ∧ Fw.Mod [] s s'
theorem c_term (h : Bal s b l v n m B) (hs : B.Small) {i : Int} (hi : Num i) : DCalls Try.prog 55 #[bptr b, .int .i64 i] s (TermPost B i s) := by
  refine ok_term b i _ s ?_
  have hb := h.cell
  unfold vc_term
  simp [W.ld_at hb, W.br_iff]
  refine ⟨fun h1 => ⟨by simp [BS.termAt, h1], Mod.refl _ _⟩, fun h1 => ?_⟩
  refine W.call_of (c_Entry h hs hi) ?_
  rintro _ s1 ⟨rfl, m1⟩
  generalize he : (B.entry i).getD noEnt = e
  refine ⟨((e.term, e.at_, e.born, e.text, ()), ((B.entry i).isSome, ()), ()), rfl, ?_⟩
  simp
  intro r hr
  refine ⟨by simp [BS.termAt, h1, he], m1.trans (Mod.new hr)⟩

/-- entries, copied -/
def ClonePost (ys : List Ent) (s : PH) (x : Value) (s' : PH) : Prop := ∃ t : Tri, x = t.v ∧ t.2.1 = ys.length ∧ rowE entE s' 39 t.1 t.2.1 t.2.2 ys ∧ Fw.Mod [] s s' ∧ ∀ g ∈ Fw.blk t.1, s g = none
theorem c_Clone {a : Option Addr} {an ac : Nat} {ys : List Ent} (h : srcIs s 4 (.sl a an) (ys.flatMap entE.f)) (hy : ys.length = an) (hl : an ≤ 1073741824) : DCalls Try.prog 38 #[.slice a an ac] s (ClonePost ys s) := by
  refine ok_Clone a an ac _ s ?_
  unfold vc_Clone
  have hmax : maxLen = 9223372036854775807 := rfl
  cases a with
  | none =>
    have : ys = [] := by
      have := h.2
      refine List.length_eq_zero_iff.1 ?_
      omega
    subst this
    simp
    exact ⟨noTri, rfl, rfl, rowE.nil, Mod.refl _ _, by simp [Fw.blk]⟩
  | some ad =>
    simp
    intro r hr
    have m1 : Fw.Mod [] s (s.upd r (.cells #[] 39 (0, 0))) := Mod.new hr
    have h0 : rowE entE (s.upd r (.cells #[] 39 (0, 0))) 39 (some ⟨r, 0, none⟩) 0 0 [] := ⟨by simp, Nat.le_refl _, by simp, .inr ⟨r, #[], rfl, PH.upd_same _ _ _, by simp, by simp⟩⟩
    have hsrc : srcIs (s.upd r (.cells #[] 39 (0, 0))) 4 (.sl (some ad) an) (ys.flatMap entE.f) := ⟨h.1, h.2.mono m1.le⟩
    refine app_rowE (E := entE) (k := an) (ys := ys) h0 rfl hsrc rfl hy (by omega) (by omega) ?_
    intro a' c' s' h' m'
    simp only [List.nil_append, Nat.zero_add] at h' ⊢
    refine ⟨(a', an, c'), rfl, hy.symm, h', ?_⟩
    rcases m' with ⟨rfl, m'⟩ | ⟨g, rfl, hg, m'⟩
    · exact ⟨m1.fresh m' (by simp [Fw.blk, hr]), by simp [Fw.blk, hr]⟩
    · exact ⟨m1.trans m', by simp [Fw.blk]; exact m1.none hg (by simp)⟩

/-- the log is laid anew from an entry on -/
def BS.set (B : BS) (i : Int) (ys : List Ent) : BS := { B with log := B.log.take (i - B.base - 1).toNat ++ ys, touched := true, from_ := if i < B.from_ then i else B.from_ }
def SetPost (B : BS) (b : Nat) (l v n m : Tri) (s : PH) (x : Value) (s' : PH) : Prop := ∃ l' : Tri, x = .tuple #[] ∧ Bal s' b l' v n m B ∧ Step (bL b l v n m) (bL b l' v n m) s s'
theorem bL_mem_l {x : Nat} (h : x ∈ Fw.blk l.1) : x ∈ bL b l v n m := by simp [bL, h]
theorem c_set (h : Bal s b l v n m B) (hs : B.Small) {i : Int} (h1 : B.base < i) (h2 : i ≤ B.lst + 1) {a : Option Addr} {an ac : Nat} {ys : List Ent} (ha : srcIs s 4 (.sl a an) (ys.flatMap entE.f)) (hy : ys.length = an) (hl : an ≤ 1073741824) :
    DCalls Try.prog 53 #[bptr b, .int .i64 i, .slice a an ac] s (SetPost (B.set i ys) b l v n m s) := by
  refine ok_set b i a an ac _ s ?_
  have hb := h.cell
  have hmax : maxLen = 9223372036854775807 := rfl
  have hlen := h.log.len
  have hcap := h.log.le
  have hmx := h.log.max
  obtain ⟨q1, q2, q3⟩ := hs
  unfold BS.lst at h2
  obtain ⟨k, hk⟩ : ∃ k : Nat, (i - B.base - 1).toNat = k := ⟨_, rfl⟩
  have hw : IntKind.i64.wrap (IntKind.i64.wrap (i - B.base) - 1) = (k : Int) := by
    rw [wrap_in (n := i - B.base) (by omega) (by omega), wrap_in (by omega) (by omega)]; omega
  unfold vc_set
  simp [W.ld_at hb, hw]
  refine ⟨by omega, ?_⟩
  have hrow := h.log.shrink (m := k) (c' := k) (by omega) (Nat.le_refl _) (by omega)
  have hadr : (if l.1 = none then none else l.1) = l.1 := by split <;> simp_all
  rw [hadr] at hrow
  refine app_rowE (E := entE) (k := an) (ys := ys) hrow rfl ha rfl hy (by omega) (by omega) ?_
  intro a' c' s' h' m'
  have hne := h.ne
  have old : ∀ {M : List Nat}, Fw.Mod M s s' → (∀ x ∈ M, x ∈ Fw.blk l.1) → s' b = some (.cells (B.cells l v n m) 67 (0, 0)) ∧ rowE boolE s' 4 v.1 v.2.1 v.2.2 B.votes ∧ rowE intE s' 3 n.1 n.2.1 n.2.2 B.next ∧ rowE intE s' 3 m.1 m.2.1 m.2.2 B.mat := by
    intro M hm hM
    exact ⟨hm.at hb fun hx => hne.1 (hM b hx), h.votes.mod hm fun x hx hx' => row_ne3 h.log h.votes (by decide) x hx (hM x hx'), h.next.mod hm fun x hx hx' => row_ne3 h.log h.next (by decide) x hx (hM x hx'),
      h.mat.mod hm fun x hx hx' => row_ne3 h.log h.mat (by decide) x hx (hM x hx')⟩
  have hM : ∃ M, Fw.Mod M s s' ∧ (∀ x ∈ M, x ∈ Fw.blk l.1) ∧ ∀ x ∈ Fw.blk a', x ∈ Fw.blk l.1 ∨ s x = none := by
    rcases m' with ⟨rfl, m'⟩ | ⟨g, rfl, hg, m'⟩
    · exact ⟨_, m', fun x hx => hx, fun x hx => .inl hx⟩
    · exact ⟨[], m', by simp, by simp [Fw.blk, hg]⟩
  obtain ⟨M, hm, hMl, hnew⟩ := hM
  obtain ⟨hb', hv', hn', hm'⟩ := old hm hMl
  simp [W.ld_at hb', W.st_at hb']
  refine ⟨(a', k + an, c'), rfl, ?_, ?_⟩
  · refine balOf (B' := B.set i ys) (l' := (a', k + an, c')) hb' ?_ hv' hn' hm' h.nm
    unfold BS.set
    simp only [hk]; exact h'
  · refine ⟨(hm.mono (L' := bL b l v n m) fun x hx => bL_mem_l (hMl x hx)).updLater (.inl (by simp [bL])), ?_⟩
    intro x hx
    simp only [bL, List.mem_cons, List.mem_append] at hx ⊢
    rcases hx with hx | hx | hx
    · exact .inl (.inl hx)
    · rcases hnew x hx with h1 | h1
      · exact .inl (.inr (.inl h1))
      · exact .inr h1
    · exact .inl (.inr (.inr hx))

theorem c_turn (h : Bal s b l v n m B) (term vote role : Int) : DCalls Try.prog 40 #[bptr b, .int .i64 term, .int .i64 vote, .int .i64 role] s fun x s' =>
    x = .tuple #[] ∧ Bal s' b l v n m { B with term := term, vote := vote, role := role, lead := -1, touched := true } ∧ Fw.Mod [b] s s' := by
  refine ok_turn b term vote role _ s ?_
  have hb := h.cell
  unfold vc_turn
  simp [W.st_at hb]
  exact ⟨h.lay, Mod.upd (by simp)⟩
/-- another base -/
def BS.rebase (B : BS) (i term : Int) (snap : ByteArray) (rest : List Ent) : BS := { B with base := i, baseTerm := term, snap := snap, log := rest, touched := true, whole := true }
theorem c_rebase (h : Bal s b l v n m B) (i term : Int) (snap : ByteArray) {a : Option Addr} {an ac : Nat} {ys : List Ent} (ha : rowE entE s 39 a an ac ys) : DCalls Try.prog 56 #[bptr b, .int .i64 i, .int .i64 term, .string snap, .slice a an ac] s fun x s' =>
    x = .tuple #[] ∧ Bal s' b (a, an, ac) v n m (B.rebase i term snap ys) ∧ Fw.Mod [b] s s' := by
  refine ok_rebase b i term snap a an ac _ s ?_
  have hb := h.cell
  unfold vc_rebase
  simp [W.st_at hb]
  exact ⟨balOf (B' := B.rebase i term snap ys) (l' := (a, an, ac)) hb ha h.votes h.next h.mat h.nm, Mod.upd (by simp)⟩
theorem c_Snap (h : Bal s b l v n m B) : DCalls Try.prog 20 #[bptr b] s fun x s' => x = .string B.snap ∧ s' = s := by
  refine ok_Snap b _ s ?_
  have hb := h.cell
  unfold vc_Snap
  simp [W.ld_at hb]
def BS.stand (B : BS) : Value := .agg #[.int .i64 B.term, .int .i64 B.vote, .int .i64 B.role, .int .i64 B.lead, .int .i64 B.base, .int .i64 B.lst, .int .i64 B.commit]
def StandPost (B : BS) (s : PH) (x : Value) (s' : PH) : Prop := x = B.stand ∧ Fw.Mod [] s s'
theorem c_Stand (h : Bal s b l v n m B) (hs : B.Small) : DCalls Try.prog 10 #[bptr b] s (StandPost B s) := by
  refine ok_Stand b _ s ?_
  have hb := h.cell
  unfold vc_Stand
  simp only [RP_nw]
  refine W.nw_of fun r s1 hr m1 k1 => ?_
  have hb1 := m1.at hb (by simp)
  simp [W.ld_at hb1, -W.nw_iff]
  refine W.nw_of fun r2 s2 hr2 m2 k2 => ?_
  have hne : r ≠ r2 := ne_of_known k1 hr2
  have k1' := m2.at k1 (by simp)
  simp [W.st_at k2]
  refine W.call_of (c_last ((h.new m1).new (m2.updLater (.inr hr2))) hs) ?_
  rintro _ s3 ⟨rfl, rfl⟩
  refine ⟨((B.lst, ()), ()), rfl, ?_⟩
  simp [fun o => W.st_at (upd_at k1' hne o)]
  exact ⟨rfl, ((m1.trans (m2.updLater (.inr hr2)))).updLater (.inr hr)⟩
end
end Go.Proofs.Ytfpbiecmobdnnaa
