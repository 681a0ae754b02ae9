/-
  Part 23 for the law: lemmas.
  Conditions: none.
-/
import Derived.Test.YtcdggocbjnmeaaaGreatGroupHoldsK22
set_option maxHeartbeats 4000000
set_option maxRecDepth 100000
set_option linter.unusedVariables false
set_option linter.unusedSimpArgs false
set_option linter.unusedSectionVars false
namespace Go.Proofs.YtcdggocbjnmeaaaGreat
open Fw Go Go.IntKind
section
attribute [-simp] Fw.W.ld_iff Fw.W.st_iff
structure Ent where
 term : Int
 at_ : Int
 born : Int
 text : ByteArray
 deriving DecidableEq
abbrev noEnt : Ent := ⟨0, 0, 0, ⟨#[]⟩⟩
def entE : Enc Ent where
 sz := 4
 f e := [.int .i64 e.term, .int .i64 e.at_, .int .i64 e.born, .string e.text]
 len _ := rfl
 one p v hv := by simp at hv; rcases hv with rfl | rfl | rfl | rfl <;> rfl
 pos := by omega
def entV (e : Ent) : Value := .agg #[.int .i64 e.term, .int .i64 e.at_, .int .i64 e.born, .string e.text]
def intE : Enc Int where
 sz := 1
 f n := [.int .i64 n]
 len _ := rfl
 one p v hv := by simp at hv; subst hv; (first | done | rfl)
 pos := by omega
def boolE : Enc Bool where
 sz := 1
 f b := [.bool b]
 len _ := rfl
 one p v hv := by simp at hv; subst hv; (first | done | rfl)
 pos := by omega
abbrev Tri := Option Addr × Nat × Nat
def Tri.v (t : Tri) : Value := .slice t.1 t.2.1 t.2.2
structure BS where
 id : Int
 size : Int
 term : Int
 vote : Int
 role : Int
 lead : Int
 base : Int
 last : Int
 commit : Int
 baseTerm : Int
 snap : ByteArray
 log : List Ent
 votes : List Bool
 next : List Int
 mat : List Int
 touched : Bool
 whole : Bool
 from_ : Int
abbrev BS.cells (B : BS) (l v n m : Tri) : Array Value :=
 #[.int .i64 B.id, .int .i64 B.size, .int .i64 B.term, .int .i64 B.vote, .int .i64 B.role, .int .i64 B.lead, .int .i64 B.base, .int .i64 B.last, .int .i64 B.commit, .int .i64 B.baseTerm, .string B.snap,
  .slice l.1 l.2.1 l.2.2, .slice v.1 v.2.1 v.2.2, .slice n.1 n.2.1 n.2.2, .slice m.1 m.2.1 m.2.2, .bool B.touched, .bool B.whole, .int .i64 B.from_]
structure Bal (s : PH) (b : Nat) (l v n m : Tri) (B : BS) : Prop where
 cell : s b = some (.cells (B.cells l v n m) 101 (0, 0))
 log : rowE entE s 43 l.1 l.2.1 l.2.2 B.log
 votes : rowE boolE s 4 v.1 v.2.1 v.2.2 B.votes
 next : rowE intE s 3 n.1 n.2.1 n.2.2 B.next
 mat : rowE intE s 3 m.1 m.2.1 m.2.2 B.mat
 nm : ∀ x ∈ Fw.blk n.1, x ∉ Fw.blk m.1
def bL (b : Nat) (l v n m : Tri) : List Nat := b :: (Fw.blk l.1 ++ (Fw.blk v.1 ++ (Fw.blk n.1 ++ Fw.blk m.1)))
def bptr (b : Nat) : Value := .pointer (some ⟨b, 0, none⟩)
section
variable {s s' : PH} {b : Nat} {l v n m : Tri} {B : BS}
theorem row_ne2 {α : Type} {E : Enc α} {e e' : TypeId} {a : Option Addr} {k c g : Nat} {xs : List α} {o : Array Value} {f : Nat × Nat} (h : rowE E s e a k c xs) (hg : s g = some (.cells o e' f)) (he : e ≠ e') : g ∉ blk a := by
 intro hx
 rcases h.shape with ⟨rfl, _⟩ | ⟨g', rfl⟩
 ·simp [blk] at hx
 ·simp [blk] at hx; subst hx
  obtain ⟨cur, hc⟩ := h.ty rfl
  rw [hg] at hc; cases hc; exact he rfl
theorem row_ne3 {α β : Type} {E : Enc α} {E' : Enc β} {e e' : TypeId} {a a' : Option Addr} {k c k' c' : Nat} {xs : List α} {ys : List β} (h : rowE E s e a k c xs) (h' : rowE E' s e' a' k' c' ys) (he : e ≠ e') : ∀ x ∈ blk a', x ∉ blk a := by
 intro x hx
 rcases h'.shape with ⟨rfl, _⟩ | ⟨g', rfl⟩
 ·simp [blk] at hx
 ·simp [blk] at hx; subst hx
  obtain ⟨cur, hc⟩ := h'.ty rfl
  exact row_ne2 h hc he
theorem Bal.known (h : Bal s b l v n m B) : ∀ x ∈ bL b l v n m, s x ≠ none := by
 intro x hx
 simp only [bL, List.mem_cons, List.mem_append] at hx
 rcases hx with rfl | hx | hx | hx | hx
 ·simp [h.cell]
 ·exact h.log.known x hx
 ·exact h.votes.known x hx
 ·exact h.next.known x hx
 ·exact h.mat.known x hx
theorem Bal.mod {M : List Nat} (h : Bal s b l v n m B) (hm : Fw.Mod M s s') (hd : ∀ x ∈ bL b l v n m, x ∉ M) : Bal s' b l v n m B := by
 simp only [bL, List.mem_cons, List.mem_append] at hd
 exact ⟨hm.at h.cell (hd b (.inl rfl)), h.log.mod hm fun x hx => hd x (.inr (.inl hx)), h.votes.mod hm fun x hx => hd x (.inr (.inr (.inl hx))), h.next.mod hm fun x hx => hd x (.inr (.inr (.inr (.inl hx)))),
  h.mat.mod hm fun x hx => hd x (.inr (.inr (.inr (.inr hx)))), h.nm⟩
theorem Bal.new (h : Bal s b l v n m B) (hm : Fw.Mod [] s s') : Bal s' b l v n m B := h.mod hm (by simp)
theorem Bal.ne (h : Bal s b l v n m B) : b ∉ blk l.1 ∧ b ∉ blk v.1 ∧ b ∉ blk n.1 ∧ b ∉ blk m.1 :=
 ⟨row_ne2 h.log h.cell (by decide), row_ne2 h.votes h.cell (by decide), row_ne2 h.next h.cell (by decide), row_ne2 h.mat h.cell (by decide)⟩
theorem balOf {o : Array Value} (hb : s b = some (.cells o 101 (0, 0))) {B' : BS} {l' v' n' m' : Tri} (h1 : rowE entE s 43 l'.1 l'.2.1 l'.2.2 B'.log) (h2 : rowE boolE s 4 v'.1 v'.2.1 v'.2.2 B'.votes) (h3 : rowE intE s 3 n'.1 n'.2.1 n'.2.2 B'.next) (h4 : rowE intE s 3 m'.1 m'.2.1 m'.2.2 B'.mat)
  (h5 : ∀ x ∈ Fw.blk n'.1, x ∉ Fw.blk m'.1) {o' : Obj} (ho : o' = .cells (B'.cells l' v' n' m') 101 (0, 0) := by rfl) : Bal (s.upd b o') b l' v' n' m' B' := by
 subst ho
 have hm : Fw.Mod [b] s (s.upd b (.cells (B'.cells l' v' n' m') 101 (0, 0))) := Mod.upd (by simp)
 exact ⟨PH.upd_same _ _ _, h1.mod hm fun x hx => by simp; rintro rfl; exact row_ne2 h1 hb (by decide) hx, h2.mod hm fun x hx => by simp; rintro rfl; exact row_ne2 h2 hb (by decide) hx,
  h3.mod hm fun x hx => by simp; rintro rfl; exact row_ne2 h3 hb (by decide) hx, h4.mod hm fun x hx => by simp; rintro rfl; exact row_ne2 h4 hb (by decide) hx, h5⟩
theorem Bal.lay (h : Bal s b l v n m B) {B' : BS} {o' : Obj} (e1 : B'.log = B.log := by rfl) (e2 : B'.votes = B.votes := by rfl) (e3 : B'.next = B.next := by rfl) (e4 : B'.mat = B.mat := by rfl) (ho : o' = .cells (B'.cells l v n m) 101 (0, 0) := by rfl) : Bal (s.upd b o') b l v n m B' :=
 balOf h.cell (by rw [e1]; exact h.log) (by rw [e2]; exact h.votes) (by rw [e3]; exact h.next) (by rw [e4]; exact h.mat) h.nm ho
theorem bL_self : b ∈ bL b l v n m := by simp [bL]
end
structure BS.Small (B : BS) : Prop where
 base0 : 0 ≤ B.base
 base1 : B.base ≤ 4611686018427387904
 log1 : B.log.length ≤ 1073741824
def BS.lst (B : BS) : Int := B.base + B.log.length
theorem BS.Small.last {B : BS} (h : B.Small) : i64.wrap (B.base + (B.log.length : Int)) = B.lst := by
 obtain ⟨h1, h2, h3⟩ := h
 exact wrap_in (by omega) (by omega)
section
variable {s : PH} {b : Nat} {l v n m : Tri} {B : BS}
theorem c_last (h : Bal s b l v n m B) (hs : B.Small) : DCalls Tryz.prog 55 #[bptr b] s fun x s' => x = .int .i64 B.lst ∧ s' = s := by
 refine ok_last b _ s ?_
 have hb := h.cell
 have hl := h.log.len
 unfold vc_last
 simp [W.ld_at hb]
 rw [hl, hs.last]
theorem c_clean (h : Bal s b l v n m B) (hs : B.Small) : DCalls Tryz.prog 87 #[bptr b] s fun x s' => x = .tuple #[] ∧ Bal s' b l v n m { B with touched := false, whole := false, from_ := B.lst + 1 } ∧ Fw.Mod [b] s s' := by
 refine ok_clean b _ s ?_
 have hb := h.cell
 unfold vc_clean
 simp only [RP_call]
 refine W.call_of (c_last h hs) ?_
 rintro _ s ⟨rfl, rfl⟩
 refine ⟨((B.lst, ()), ()), rfl, ?_⟩
 have hw : i64.wrap (B.lst + 1) = B.lst + 1 := by
  obtain ⟨h1, h2, h3⟩ := hs
  unfold BS.lst
  exact wrap_in (by omega) (by omega)
 simp [W.ld_at hb, W.st_at hb, hw]
 exact ⟨h.lay, Mod.upd (by simp)⟩
def newBS (id size : Int) : BS := ⟨id, size, 0, -1, 0, -1, 0, 0, 0, 0, ⟨#[]⟩, [], [], [], [], false, false, 1⟩
abbrev noTri : Tri := (none, 0, 0)
def okNew (id size : Int) : Prop := 1 ≤ size ∧ size ≤ 5 ∧ 0 ≤ id ∧ id < size
instance (id size : Int) : Decidable (okNew id size) := by unfold okNew; infer_instance
def NewPost (id size : Int) (s : PH) (x : Value) (s' : PH) : Prop :=
 (okNew id size ∧ ∃ b, x = .tuple #[bptr b, .int .i64 0] ∧ Bal s' b noTri noTri noTri noTri (newBS id size) ∧ Fw.Mod [] s s' ∧ s b = none) ∨ (¬ okNew id size ∧ x = .tuple #[.pointer none, .int .i64 1] ∧ s' = s)
theorem c_bNew (id size : Int) (s : PH) : DCalls Tryz.prog 86 #[.int .i64 id, .int .i64 size] s (NewPost id size s) := by
 refine ok_bNew id size _ s ?_
 unfold vc_bNew
 have hno : ¬ okNew id size → NewPost id size s (.tuple #[.pointer none, .int .i64 1]) s := fun h => .inr ⟨h, rfl, rfl⟩
 simp [W.br_iff]
 refine ⟨fun h => hno (by unfold okNew; omega), fun h1 => ⟨fun h => hno (by unfold okNew; omega), fun h2 => ⟨fun h => hno (by unfold okNew; omega), fun h3 => ⟨fun h => hno (by unfold okNew; omega), fun h4 => ?_⟩⟩⟩⟩
 intro r hr
 have h0 : Bal (s.upd r (.cells ({ newBS id size with from_ := 0 }.cells noTri noTri noTri noTri) 101 (0, 0))) r noTri noTri noTri noTri { newBS id size with from_ := 0 } :=
  ⟨PH.upd_same _ _ _, rowE.nil, rowE.nil, rowE.nil, rowE.nil, by simp [Fw.blk]⟩
 refine W.call_of (c_clean h0 ⟨by show (0 : Int) ≤ 0; omega, by show (0 : Int) ≤ _; omega, Nat.zero_le _⟩) ?_
 rintro _ s2 ⟨rfl, h2, m2⟩
 refine ⟨(), rfl, ?_⟩
 exact .inl ⟨by unfold okNew; omega, r, rfl, h2, (Mod.new hr).fresh m2 (by simp [hr]), hr⟩
def BS.entry (B : BS) (i : Int) : Option Ent := if i ≤ B.base ∨ B.lst < i then none else B.log[(i - B.base - 1).toNat]?
theorem BS.entry_in {B : BS} {i : Int} (h1 : B.base < i) (h2 : i ≤ B.lst) : ∃ e, B.entry i = some e ∧ B.log[(i - B.base - 1).toNat]? = some e := by
 have hlt : (i - B.base - 1).toNat < B.log.length := by unfold BS.lst at h2; omega
 exact ⟨_, by unfold BS.entry; rw [if_neg (by omega), List.getElem?_eq_getElem hlt], List.getElem?_eq_getElem hlt⟩
theorem BS.entry_out {B : BS} {i : Int} (h : i ≤ B.base ∨ B.lst < i) : B.entry i = none := by unfold BS.entry; rw [if_pos h]
def Num (i : Int) : Prop := -4611686018427387904 ≤ i ∧ i ≤ 4611686018427387904
def EntryPost (B : BS) (i : Int) (s : PH) (x : Value) (s' : PH) : Prop := x = .tuple #[entV ((B.entry i).getD noEnt), .bool (B.entry i).isSome] ∧ Fw.Mod [] s s'
theorem c_Entry (h : Bal s b l v n m B) (hs : B.Small) {i : Int} (hi : Num i) : DCalls Tryz.prog 35 #[bptr b, .int .i64 i] s (EntryPost B i s) := by
 refine ok_Entry b i _ s ?_
 have hb := h.cell
 unfold vc_Entry
 simp [W.br_iff]
 intro r hr
 have hbr := ne_of_known hb hr
 have m1 : Fw.Mod [] s (s.upd r (.cells #[.int .i64 0, .int .i64 0, .int .i64 0, .string ⟨#[]⟩] 43 (0, 0))) := Mod.new hr
 have hb1 := m1.at hb (by simp)
 have no : B.entry i = none → EntryPost B i s (.tuple #[.agg #[.int .i64 0, .int .i64 0, .int .i64 0, .string ⟨#[]⟩], .bool false]) (s.upd r (.cells #[.int .i64 0, .int .i64 0, .int .i64 0, .string ⟨#[]⟩] 43 (0, 0))) := by
  intro e; exact ⟨by rw [e]; (first | done | rfl), m1⟩
 simp [W.ld_at hb1, W.br_iff]
 refine ⟨fun h1 => no (BS.entry_out (.inl h1)), fun h1 => ?_⟩
 refine W.call_of (c_last (h.new m1) hs) ?_
 rintro _ _ ⟨rfl, rfl⟩
 refine ⟨((B.lst, ()), ()), rfl, ?_⟩
 simp [W.ld_at hb1, W.br_iff]
 refine ⟨fun h2 => no (BS.entry_out (.inr h2)), fun h2 => ?_⟩
 obtain ⟨e, he, he'⟩ := BS.entry_in (B := B) (i := i) (by omega) h2
 obtain ⟨g, hg, hhas⟩ := ((h.new m1).log).at he'
 have hn := h.log.len
 obtain ⟨i1, i2⟩ := hi
 obtain ⟨q1, q2, q3⟩ := hs
 obtain ⟨k, hk⟩ : ∃ k : Nat, (i - B.base - 1).toNat = k := ⟨_, rfl⟩
 have hw : i64.wrap (i64.wrap (i - B.base) - 1) = (k : Int) := by
  unfold BS.lst at h2
  rw [wrap_in (n := i - B.base) (by omega) (by omega), wrap_in (by omega) (by omega)]; omega
 have hlt := (List.getElem?_eq_some_iff.1 he').1
 rw [hk] at hhas hlt
 rw [hg]
 simp [hw]
 refine ⟨by omega, ?_⟩
 refine ld_has_z (A := ⟨g, k * 4, none⟩) hhas (cs := [.int .i64, .int .i64, .int .i64, .str]) (y := (e.term, e.at_, e.born, e.text, ())) rfl ?_
 have hgr : g ≠ r := by
  rintro rfl
  have : g ∈ Fw.blk l.1 := by rw [hg]; simp [Fw.blk]
  exact h.log.known _ this hr
 simp
 exact ⟨by rw [he]; (first | done | rfl), Mod.new hr⟩
def BS.termAt (B : BS) (i : Int) : Int × Bool := if i = B.base then (B.baseTerm, true) else (((B.entry i).getD noEnt).term, (B.entry i).isSome)
def TermPost (B : BS) (i : Int) (s : PH) (x : Value) (s' : PH) : Prop := x = .tuple #[.int .i64 (B.termAt i).1, .bool (B.termAt i).2] ∧ Fw.Mod [] s s'
theorem c_term (h : Bal s b l v n m B) (hs : B.Small) {i : Int} (hi : Num i) : DCalls Tryz.prog 77 #[bptr b, .int .i64 i] s (TermPost B i s) := by
 refine ok_term b i _ s ?_
 have hb := h.cell
 unfold vc_term
 simp [W.ld_at hb, W.br_iff]
 refine ⟨fun h1 => ⟨by simp [BS.termAt, h1], Mod.refl _ _⟩, fun h1 => ?_⟩
 refine W.call_of (c_Entry h hs hi) ?_
 rintro _ s1 ⟨rfl, m1⟩
 generalize he : (B.entry i).getD noEnt = e
 refine ⟨((e.term, e.at_, e.born, e.text, ()), ((B.entry i).isSome, ()), ()), rfl, ?_⟩
 simp
 intro r hr
 refine ⟨by simp [BS.termAt, h1, he], m1.trans (Mod.new hr)⟩
def ClonePost (ys : List Ent) (s : PH) (x : Value) (s' : PH) : Prop := ∃ t : Tri, x = t.v ∧ t.2.1 = ys.length ∧ rowE entE s' 43 t.1 t.2.1 t.2.2 ys ∧ Fw.Mod [] s s' ∧ ∀ g ∈ Fw.blk t.1, s g = none
theorem c_Clone {a : Option Addr} {an ac : Nat} {ys : List Ent} (h : srcIs s 4 (.sl a an) (ys.flatMap entE.f)) (hy : ys.length = an) (hl : an ≤ 1073741824) : DCalls Tryz.prog 79 #[.slice a an ac] s (ClonePost ys s) := by
 refine ok_Clone a an ac _ s ?_
 unfold vc_Clone
 have hmax : maxLen = 9223372036854775807 := rfl
 cases a with
 | none =>
  have : ys = [] := by
   have := h.2
   refine List.length_eq_zero_iff.1 ?_
   omega
  subst this
  simp
  exact ⟨noTri, rfl, rfl, rowE.nil, Mod.refl _ _, by simp [Fw.blk]⟩
 | some ad =>
  simp
  intro r hr
  have m1 : Fw.Mod [] s (s.upd r (.cells #[] 43 (0, 0))) := Mod.new hr
  have h0 : rowE entE (s.upd r (.cells #[] 43 (0, 0))) 43 (some ⟨r, 0, none⟩) 0 0 [] := ⟨by simp, Nat.le_refl _, by simp, .inr ⟨r, #[], rfl, PH.upd_same _ _ _, by simp, by simp⟩⟩
  have hsrc : srcIs (s.upd r (.cells #[] 43 (0, 0))) 4 (.sl (some ad) an) (ys.flatMap entE.f) := ⟨h.1, h.2.mono m1.le⟩
  refine app_rowE (E := entE) (k := an) (ys := ys) h0 rfl hsrc rfl hy (by omega) (by omega) ?_
  intro a' c' s' h' m'
  simp only [List.nil_append, Nat.zero_add] at h' ⊢
  refine ⟨(a', an, c'), rfl, hy.symm, h', ?_⟩
  rcases m' with ⟨rfl, m'⟩ | ⟨g, rfl, hg, m'⟩
  ·exact ⟨m1.fresh m' (by simp [Fw.blk, hr]), by simp [Fw.blk, hr]⟩
  ·exact ⟨m1.trans m', by simp [Fw.blk]; exact m1.none hg (by simp)⟩
def BS.set (B : BS) (i : Int) (ys : List Ent) : BS := { B with log := B.log.take (i - B.base - 1).toNat ++ ys, touched := true, from_ := if i < B.from_ then i else B.from_ }
def SetPost (B : BS) (b : Nat) (l v n m : Tri) (s : PH) (x : Value) (s' : PH) : Prop := ∃ l' : Tri, x = .tuple #[] ∧ Bal s' b l' v n m B ∧ Step (bL b l v n m) (bL b l' v n m) s s'
theorem bL_mem_l {x : Nat} (h : x ∈ Fw.blk l.1) : x ∈ bL b l v n m := by simp [bL, h]
theorem c_set (h : Bal s b l v n m B) (hs : B.Small) {i : Int} (h1 : B.base < i) (h2 : i ≤ B.lst + 1) {a : Option Addr} {an ac : Nat} {ys : List Ent} (ha : srcIs s 4 (.sl a an) (ys.flatMap entE.f)) (hy : ys.length = an) (hl : an ≤ 1073741824) :
  DCalls Tryz.prog 73 #[bptr b, .int .i64 i, .slice a an ac] s (SetPost (B.set i ys) b l v n m s) := by
 refine ok_set b i a an ac _ s ?_
 have hb := h.cell
 have hmax : maxLen = 9223372036854775807 := rfl
 have hlen := h.log.len
 have hcap := h.log.le
 have hmx := h.log.max
 obtain ⟨q1, q2, q3⟩ := hs
 unfold BS.lst at h2
 obtain ⟨k, hk⟩ : ∃ k : Nat, (i - B.base - 1).toNat = k := ⟨_, rfl⟩
 have hw : i64.wrap (i64.wrap (i - B.base) - 1) = (k : Int) := by
  rw [wrap_in (n := i - B.base) (by omega) (by omega), wrap_in (by omega) (by omega)]; omega
 unfold vc_set
 simp [W.ld_at hb, hw]
 refine ⟨by omega, ?_⟩
 have hrow := h.log.shrink (m := k) (c' := k) (by omega) (Nat.le_refl _) (by omega)
 have hadr : (if l.1 = none then none else l.1) = l.1 := by split <;> simp_all
 rw [hadr] at hrow
 refine app_rowE (E := entE) (k := an) (ys := ys) hrow rfl ha rfl hy (by omega) (by omega) ?_
 intro a' c' s' h' m'
 have hne := h.ne
 have old : ∀ {M : List Nat}, Fw.Mod M s s' → (∀ x ∈ M, x ∈ Fw.blk l.1) → s' b = some (.cells (B.cells l v n m) 101 (0, 0)) ∧ rowE boolE s' 4 v.1 v.2.1 v.2.2 B.votes ∧ rowE intE s' 3 n.1 n.2.1 n.2.2 B.next ∧ rowE intE s' 3 m.1 m.2.1 m.2.2 B.mat := by
  intro M hm hM
  exact ⟨hm.at hb fun hx => hne.1 (hM b hx), h.votes.mod hm fun x hx hx' => row_ne3 h.log h.votes (by decide) x hx (hM x hx'), h.next.mod hm fun x hx hx' => row_ne3 h.log h.next (by decide) x hx (hM x hx'),
   h.mat.mod hm fun x hx hx' => row_ne3 h.log h.mat (by decide) x hx (hM x hx')⟩
 have hM : ∃ M, Fw.Mod M s s' ∧ (∀ x ∈ M, x ∈ Fw.blk l.1) ∧ ∀ x ∈ Fw.blk a', x ∈ Fw.blk l.1 ∨ s x = none := by
  rcases m' with ⟨rfl, m'⟩ | ⟨g, rfl, hg, m'⟩
  ·exact ⟨_, m', fun x hx => hx, fun x hx => .inl hx⟩
  ·exact ⟨[], m', by simp, by simp [Fw.blk, hg]⟩
 obtain ⟨M, hm, hMl, hnew⟩ := hM
 obtain ⟨hb', hv', hn', hm'⟩ := old hm hMl
 simp [W.ld_at hb', W.st_at hb']
 refine ⟨(a', k + an, c'), rfl, ?_, ?_⟩
 ·refine balOf (B' := B.set i ys) (l' := (a', k + an, c')) hb' ?_ hv' hn' hm' h.nm
  unfold BS.set
  simp only [hk]; exact h'
 ·refine ⟨(hm.mono (L' := bL b l v n m) fun x hx => bL_mem_l (hMl x hx)).updLater (.inl (by simp [bL])), ?_⟩
  intro x hx
  simp only [bL, List.mem_cons, List.mem_append] at hx ⊢
  rcases hx with hx | hx | hx
  ·exact .inl (.inl hx)
  ·rcases hnew x hx with h1 | h1
   ·exact .inl (.inr (.inl h1))
   ·exact .inr h1
  ·exact .inl (.inr (.inr hx))
theorem c_turn (h : Bal s b l v n m B) (term vote role : Int) : DCalls Tryz.prog 68 #[bptr b, .int .i64 term, .int .i64 vote, .int .i64 role] s fun x s' =>
  x = .tuple #[] ∧ Bal s' b l v n m { B with term := term, vote := vote, role := role, lead := -1, touched := true } ∧ Fw.Mod [b] s s' := by
 refine ok_turn b term vote role _ s ?_
 have hb := h.cell
 unfold vc_turn
 simp [W.st_at hb]
 exact ⟨h.lay, Mod.upd (by simp)⟩
def BS.rebase (B : BS) (i term : Int) (snap : ByteArray) (rest : List Ent) : BS := { B with base := i, baseTerm := term, snap := snap, log := rest, touched := true, whole := true }
theorem c_rebase (h : Bal s b l v n m B) (i term : Int) (snap : ByteArray) {a : Option Addr} {an ac : Nat} {ys : List Ent} (ha : rowE entE s 43 a an ac ys) : DCalls Tryz.prog 78 #[bptr b, .int .i64 i, .int .i64 term, .string snap, .slice a an ac] s fun x s' =>
  x = .tuple #[] ∧ Bal s' b (a, an, ac) v n m (B.rebase i term snap ys) ∧ Fw.Mod [b] s s' := by
 refine ok_rebase b i term snap a an ac _ s ?_
 have hb := h.cell
 unfold vc_rebase
 simp [W.st_at hb]
 exact ⟨balOf (B' := B.rebase i term snap ys) (l' := (a, an, ac)) hb ha h.votes h.next h.mat h.nm, Mod.upd (by simp)⟩
theorem c_Snap (h : Bal s b l v n m B) : DCalls Tryz.prog 54 #[bptr b] s fun x s' => x = .string B.snap ∧ s' = s := by
 refine ok_Snap b _ s ?_
 have hb := h.cell
 unfold vc_Snap
 simp [W.ld_at hb]
def BS.stand (B : BS) : Value := .agg #[.int .i64 B.term, .int .i64 B.vote, .int .i64 B.role, .int .i64 B.lead, .int .i64 B.base, .int .i64 B.lst, .int .i64 B.commit]
def StandPost (B : BS) (s : PH) (x : Value) (s' : PH) : Prop := x = B.stand ∧ Fw.Mod [] s s'
theorem c_Stand (h : Bal s b l v n m B) (hs : B.Small) : DCalls Tryz.prog 34 #[bptr b] s (StandPost B s) := by
 refine ok_Stand b _ s ?_
 have hb := h.cell
 unfold vc_Stand
 simp only [RP_nw]
 refine W.nw_of fun r s1 hr m1 k1 => ?_
 have hb1 := m1.at hb (by simp)
 simp [W.ld_at hb1, -W.nw_iff]
 refine W.nw_of fun r2 s2 hr2 m2 k2 => ?_
 have hne : r ≠ r2 := ne_of_known k1 hr2
 have k1' := m2.at k1 (by simp)
 simp [W.st_at k2]
 refine W.call_of (c_last ((h.new m1).new (m2.updLater (.inr hr2))) hs) ?_
 rintro _ s3 ⟨rfl, rfl⟩
 refine ⟨((B.lst, ()), ()), rfl, ?_⟩
 simp [fun o => W.st_at (upd_at k1' hne o)]
 exact ⟨rfl, ((m1.trans (m2.updLater (.inr hr2)))).updLater (.inr hr)⟩
end
end
section
attribute [-simp] Fw.W.ld_iff Fw.W.st_iff
theorem c_Mul {c : Int} (h : c = 1 ∨ c = 2 ∨ c = 3 ∨ c = 4 ∨ c = 5) (s : PH) : DCalls Tryz.prog 113 #[.int .u64 1, .int .u64 c] s fun x s' => x = .tuple #[.int .u64 0, .int .u64 c] ∧ s' = s := by
 refine ok_Mul 1 c _ s ?_
 unfold vc_Mul
 simp only [RP_call]
 refine W.call_of (Q := fun x s' => x = .tuple #[.int .u64 0, .int .u64 c] ∧ s' = s) (ok_Mul64 1 c _ s ?_) ?_
 ·rcases h with rfl | rfl | rfl | rfl | rfl <;> exact ⟨by kernel_rfl, rfl⟩
 ·rintro _ s ⟨rfl, rfl⟩
  refine ⟨((0, ()), (c, ()), ()), rfl, ?_⟩
  simp
theorem stores_row {s : PH} {g off : Nat} {cur : Array Value} {e : TypeId} {vs : List Value} (h : s g = some (.cells cur e (0, 0))) (hv : vs ≠ []) (hl : off + vs.length ≤ cur.size) :
  s.open_ ⟨g, off, none⟩ vs.length ∧ s.stores ⟨g, off, none⟩ 0 vs = s.upd g (.cells (setL cur off vs) e (0, 0)) := by
 constructor
 ·rw [open_iff (a := ⟨g, off, none⟩) h (by cases vs; exact absurd rfl hv; simp)]
  exact ⟨rfl, hl, .inr (.inr (Nat.le_refl _))⟩
 ·have := PH.stores_eq (a := ⟨g, off, none⟩) (e := e) (f := (0, 0)) rfl vs 0 cur s h hv
  simpa using this
theorem flat_rep (k : Nat) (x : Int) : (List.replicate k x).flatMap intE.f = List.replicate k (Value.int .i64 x) := by
 induction k with
 | zero => rfl
 | succ k ih => rw [List.replicate_succ, List.flatMap_cons, ih, List.replicate_succ]; (first | done | rfl)
def RepPost (c : Nat) (x : Int) (s : PH) (v : Value) (s' : PH) : Prop := ∃ t : Tri, v = t.v ∧ rowE intE s' 3 t.1 t.2.1 t.2.2 (List.replicate c x) ∧ Fw.Mod [] s s' ∧ ∀ g ∈ Fw.blk t.1, s g = none
theorem c_Repeat {s : PH} {r : Nat} {x : Int} {f : TypeId} (hr : s r = some (.cells #[.int .i64 x] f (0, 0))) {c : Nat} (h1 : 1 ≤ c) (h5 : c ≤ 5) : DCalls Tryz.prog 103 #[.slice (some ⟨r, 0, none⟩) 1 1, .int .i64 c] s (RepPost c x s) := by
 refine ok_Repeat (some ⟨r, 0, none⟩) 1 1 c _ s ?_
 unfold vc_Repeat
 simp only [RP_join, W.join_iff, RP_ite, W.br_iff, RP_call]
 have hc : u64.wrap ((c : Nat) : Int) = c ∧ u64.wrap ((1 : Nat) : Int) = 1 ∧ i64.wrap ((c : Nat) : Int) = c := by
  refine ⟨?_, by decide, wrap_in (by omega) (by omega)⟩
  have : c = 1 ∨ c = 2 ∨ c = 3 ∨ c = 4 ∨ c = 5 := by omega
  rcases this with rfl | rfl | rfl | rfl | rfl <;> decide
 refine ⟨fun h => by simp at h; omega, fun _ => ?_⟩
 rw [hc.1, hc.2.1]
 refine W.call_of (c_Mul (by omega) s) ?_
 rintro _ s ⟨rfl, rfl⟩
 refine ⟨((0, ()), ((c : Int), ()), ()), rfl, ?_⟩
 simp only [W.join_iff, W.br_iff]
 refine ⟨fun h => by simp at h, fun _ => ⟨fun h => by simp at h; omega, fun _ => ?_⟩⟩
 simp only [hc.2.2, RP_mksl, RP_cpy]
 refine ⟨by omega, Int.le_refl _, by omega, by omega, ?_⟩
 intro b hb
 have hz := zero_one (.int .i64 0) c
 have hz : Builtin.zeroCells [Value.int .i64 0].toArray ((c : Nat) : Int).toNat = (List.replicate c (Value.int .i64 0)).toArray := hz
 rw [hz]
 have hne : r ≠ b := ne_of_known hr hb
 have m1 : Fw.Mod [] s (s.upd b (.cells (List.replicate c (Value.int .i64 0)).toArray 3 (0, 0))) := Mod.new hb
 have hr1 := m1.at hr (by simp)
 have hmin : Nat.min 1 ((c : Nat) : Int).toNat = 1 := Nat.min_eq_left h1
 refine ⟨[.int .i64 x], ?_, by simp [Value.oneCell'], ?_⟩
 ·rw [hmin]
  exact ⟨rfl, has_block hr1⟩
 rw [hmin]
 have hst := stores_row (off := 0) (vs := [.int .i64 x]) (PH.upd_same s b (.cells (List.replicate c (Value.int .i64 0)).toArray 3 (0, 0))) (by simp) (by simp; omega)
 refine ⟨hst.1, ?_⟩
 rw [hst.2, PH.upd_upd]
 simp only [RP_loop]
 refine ⟨fun z s' => ∃ k : Nat, z = (((some ⟨b, 0, none⟩, c, c), ()), ((k : Int), ()), ()) ∧ 1 ≤ k ∧ k ≤ c ∧ s' = s.upd b (.cells (List.replicate k (Value.int .i64 x) ++ List.replicate (c - k) (Value.int .i64 0)).toArray 3 (0, 0)), fun z _ => c - z.2.1.1.toNat, ?_, ?_⟩
 ·refine ⟨1, rfl, Nat.le_refl _, h1, ?_⟩
  congr 2
  obtain ⟨c', rfl⟩ : ∃ c', c = c' + 1 := ⟨c - 1, by omega⟩
  apply Array.ext'
  simp [List.replicate_succ]
 rintro _ _ ⟨k, rfl, hk1, hkc, rfl⟩
 simp only [W.br_iff, decide_eq_true_eq, decide_eq_false_iff_not]
 refine ⟨fun hlt => ?_, fun hge => ?_⟩
 ·have hlt : k < c := by simpa using hlt
  simp
  refine ⟨by omega, ?_⟩
  have hk0 : ¬ c = k := by omega
  have hc0 : ¬ c = 0 := by omega
  simp only [hk0, hc0, if_false, add_mk, Nat.zero_add]
  have q1 : Nat.min k (c - k) ≤ k := Nat.min_le_left _ _
  have q2 : Nat.min k (c - k) ≤ c - k := Nat.min_le_right _ _
  have q3 : 1 ≤ Nat.min k (c - k) := Nat.le_min.2 ⟨hk1, by omega⟩
  generalize hq : Nat.min k (c - k) = q at q1 q2 q3
  refine ⟨List.replicate q (Value.int .i64 x), ?_, ?_, ?_⟩
  ·rw [hq]
   refine ⟨by simp, ?_⟩
   intro j v hv
   rw [List.getElem?_replicate] at hv
   split at hv
   ·rename_i hj
    cases hv
    rw [add_mk]
    unfold PH.cell?
    simp
    rw [List.getElem?_append_left (by simp; omega), List.getElem?_replicate, if_pos (by omega)]
   ·cases hv
  ·intro v hv; rw [List.mem_replicate] at hv; rw [hv.2]; (first | done | rfl)
  have hst := stores_row (off := k) (vs := List.replicate q (Value.int .i64 x)) (PH.upd_same s b (.cells (List.replicate k (Value.int .i64 x) ++ List.replicate (c - k) (Value.int .i64 0)).toArray 3 (0, 0))) (by intro e; have := congrArg List.length e; simp at this; omega) (by simp; omega)
  rw [hq]
  simp only [W.cpyK]
  have happ : (List.replicate k (Value.int .i64 x)).toArray ++ (List.replicate (c - k) (Value.int .i64 0)).toArray = (List.replicate k (Value.int .i64 x) ++ List.replicate (c - k) (Value.int .i64 0)).toArray := by simp
  first | rw [happ] | skip
  refine ⟨hst.1, ?_⟩
  rw [hst.2, PH.upd_upd]
  have hw : i64.wrap ((k : Int) + ((q : Nat) : Int)) = ((k + q : Nat) : Int) := by rw [wrap_in (by omega) (by omega)]; simp
  refine ⟨⟨k + q, by rw [hw], by omega, by omega, ?_⟩, by rw [hw]; simp only [Int.toNat_natCast]; omega⟩
  congr 2
  apply Array.ext'
  rw [setL_toList _ _ _ (by simp; omega)]
  simp only [List.length_replicate]
  rw [List.take_append_of_le_length (by simp), List.take_of_length_le (by simp), List.drop_append]
  rw [List.drop_eq_nil_of_le (by simp)]
  simp only [List.length_replicate, List.nil_append, List.drop_replicate]
  rw [List.replicate_append_replicate]
  congr 2
  omega
 ·have hkc' : k = c := by have : ¬ k < c := by simpa using hge
                          omega
  subst hkc'
  refine ⟨(some ⟨b, 0, none⟩, k, k), rfl, ?_, Mod.new hb, by simp [Fw.blk, hb]⟩
  refine ⟨by rw [flat_len]; simp [intE], Nat.le_refl _, by show k ≤ 9223372036854775807; omega, .inr ⟨b, _, rfl, PH.upd_same _ _ _, by simp [intE], ?_⟩⟩
  rw [flat_rep]; simp [intE]
end
section
attribute [-simp] Fw.W.ld_iff Fw.W.st_iff
structure Msg where
 kind : Int
 from_ : Int
 to : Int
 term : Int
 index : Int := 0
 prev : Int := 0
 commit : Int := 0
 good : Bool := false
 list : List Ent := []
 snap : ByteArray := ⟨#[]⟩
abbrev msgCells (M : Msg) (t : Tri) : List Value :=
 [.int .i64 M.kind, .int .i64 M.from_, .int .i64 M.to, .int .i64 M.term, .int .i64 M.index, .int .i64 M.prev, .int .i64 M.commit, .bool M.good, .slice t.1 t.2.1 t.2.2, .string M.snap]
abbrev msgV (M : Msg) (t : Tri) : Value :=
 .agg #[.int .i64 M.kind, .int .i64 M.from_, .int .i64 M.to, .int .i64 M.term, .int .i64 M.index, .int .i64 M.prev, .int .i64 M.commit, .bool M.good, .slice t.1 t.2.1 t.2.2, .string M.snap]
def rmE : Enc (Msg × Tri) where
 sz := 10
 f p := msgCells p.1 p.2
 len _ := rfl
 one p v hv := by simp at hv; rcases hv with rfl | rfl | rfl | rfl | rfl | rfl | rfl | rfl | rfl | rfl <;> rfl
 pos := by omega
def mF (t : Tri) (ps : List (Msg × Tri)) : List Nat := Fw.blk t.1 ++ ps.flatMap fun p => Fw.blk p.2.1
structure Msgs (s : PH) (t : Tri) (ps : List (Msg × Tri)) : Prop where
 row : rowE rmE s 119 t.1 t.2.1 t.2.2 ps
 lists : ∀ p ∈ ps, rowE entE s 43 p.2.1 p.2.2.1 p.2.2.2 p.1.list
theorem Msgs.known {s : PH} {t : Tri} {ps : List (Msg × Tri)} (h : Msgs s t ps) : ∀ x ∈ mF t ps, s x ≠ none := by
 intro x hx
 simp only [mF, List.mem_append, List.mem_flatMap] at hx
 rcases hx with hx | ⟨p, hp, hx⟩
 ·exact h.row.known x hx
 ·exact (h.lists p hp).known x hx
theorem Msgs.mod {s s' : PH} {t : Tri} {ps : List (Msg × Tri)} {M : List Nat} (h : Msgs s t ps) (hm : Fw.Mod M s s') (hd : ∀ x ∈ mF t ps, x ∉ M) : Msgs s' t ps := by
 simp only [mF, List.mem_append, List.mem_flatMap] at hd
 exact ⟨h.row.mod hm fun x hx => hd x (.inl hx), fun p hp => (h.lists p hp).mod hm fun x hx => hd x (.inr ⟨p, hp, hx⟩)⟩
theorem Msgs.nil (s : PH) : Msgs s noTri [] := ⟨rowE.nil, by simp⟩
section
variable {s : PH} {b : Nat} {l v n m : Tri} {B : BS}
def BS.msg (B : BS) (kind to : Int) : Msg := { kind := kind, from_ := B.id, to := to, term := B.term }
def ValPost (x0 : Value) (s : PH) (x : Value) (s' : PH) : Prop := x = x0 ∧ Fw.Mod [] s s'
theorem c_msg (h : Bal s b l v n m B) (kind to : Int) : DCalls Tryz.prog 91 #[bptr b, .int .i64 kind, .int .i64 to] s (ValPost (msgV (B.msg kind to) noTri) s) := by
 refine ok_msg b kind to _ s ?_
 have hb := h.cell
 unfold vc_msg
 simp only [RP_nw]
 refine W.nw_of fun r s1 hr m1 k1 => ?_
 have hb1 := m1.at hb (by simp)
 simp [W.ld_at hb1, W.st_at k1]
 exact ⟨rfl, m1.updLater (.inr hr)⟩
def BS.askM (B : BS) (to : Int) : Msg := { B.msg 1 to with index := B.lst, prev := (B.termAt B.lst).1 }
theorem num_lst {B : BS} (hs : B.Small) (hb : B.base ≤ 4611686016279904256) : Num B.lst := by
 obtain ⟨h1, h2, h3⟩ := hs
 unfold BS.lst Num; omega
theorem c_ask (h : Bal s b l v n m B) (hs : B.Small) (hbs : B.base ≤ 4611686016279904256) (to : Int) : DCalls Tryz.prog 70 #[bptr b, .int .i64 to] s (ValPost (msgV (B.askM to) noTri) s) := by
 refine ok_ask b to _ s ?_
 unfold vc_ask
 simp only [RP_nw]
 refine W.nw_of fun r s1 hr m1 k1 => ?_
 simp only [RP_call]
 refine W.call_of (c_msg (h.new m1) 1 to) ?_
 rintro _ s2 ⟨rfl, m2⟩
 refine ⟨((1, B.id, to, B.term, 0, 0, 0, false, (none, 0, 0), ⟨#[]⟩, ()), ()), rfl, ?_⟩
 have m12 := m1.trans m2
 have k2 := m2.at k1 (by simp)
 refine W.nw_of fun r13 s3 hr3 m3 k3 => ?_
 have m13 := m12.trans m3
 have k2' := m3.at k2 (by simp)
 have hne : r ≠ r13 := ne_of_known k2 hr3
 simp [W.st_at k3]
 have hB : ∀ o, Bal (s3.upd r13 o) b l v n m B := fun o => (h.new m12).new (m3.updLater (.inr hr3))
 refine W.call_of (c_last (hB _) hs) ?_
 rintro _ _ ⟨rfl, rfl⟩
 refine ⟨((B.lst, ()), ()), rfl, ?_⟩
 simp
 have m3' : Fw.Mod [] s2 (s3.upd r13 (.cells #[.int .i64 1, .int .i64 B.id, .int .i64 to, .int .i64 B.term, .int .i64 B.lst, .int .i64 0, .int .i64 0, .bool false, .slice none 0 0, .string ⟨#[]⟩] 119 (0, 0))) := m3.updLater (.inr hr3)
 have k3' := PH.upd_same s3 r13 (.cells #[.int .i64 1, .int .i64 B.id, .int .i64 to, .int .i64 B.term, .int .i64 B.lst, .int .i64 0, .int .i64 0, .bool false, .slice none 0 0, .string ⟨#[]⟩] 119 (0, 0))
 have k2'' := upd_at k2' hne (.cells #[.int .i64 1, .int .i64 B.id, .int .i64 to, .int .i64 B.term, .int .i64 B.lst, .int .i64 0, .int .i64 0, .bool false, .slice none 0 0, .string ⟨#[]⟩] 119 (0, 0))
 generalize s3.upd r13 (.cells #[.int .i64 1, .int .i64 B.id, .int .i64 to, .int .i64 B.term, .int .i64 B.lst, .int .i64 0, .int .i64 0, .bool false, .slice none 0 0, .string ⟨#[]⟩] 119 (0, 0)) = s4 at m3' k3' k2''
 refine W.call_of (c_term ((h.new m12).new m3') hs (num_lst hs hbs)) ?_
 rintro _ s5 ⟨rfl, m5⟩
 refine ⟨(((B.termAt B.lst).1, ()), ((B.termAt B.lst).2, ()), ()), rfl, ?_⟩
 have k5 := m5.at k3' (by simp)
 have k6 := m5.at k2'' (by simp)
 simp [W.st_at k5, fun o => W.st_at (upd_at k6 hne o)]
 refine ⟨rfl, ?_⟩
 have hrs : s r = none := hr
 have hr13 : s r13 = none := m12.none hr3 (by simp)
 exact ((((m12.trans m3').trans m5).updLater (.inr hr13)).updLater (.inr hrs))
def MsgsPost (ms : List Msg) (s : PH) (x : Value) (s' : PH) : Prop := ∃ t ps, x = Tri.v t ∧ Msgs s' t ps ∧ ps.map (·.1) = ms ∧ Fw.Mod [] s s' ∧ ∀ y ∈ mF t ps, s y = none
theorem c_told (h : Bal s b l v n m B) (to : Int) (good : Bool) (i : Int) : DCalls Tryz.prog 92 #[bptr b, .int .i64 to, .bool good, .int .i64 i] s (MsgsPost [{ B.msg 4 to with good := good, index := i }] s) := by
 refine ok_told b to good i _ s ?_
 unfold vc_told
 simp only [RP_call]
 refine W.call_of (c_msg h 4 to) ?_
 rintro _ s2 ⟨rfl, m2⟩
 refine ⟨((4, B.id, to, B.term, 0, 0, 0, false, (none, 0, 0), ⟨#[]⟩, ()), ()), rfl, ?_⟩
 simp only [RP_nw]
 refine W.nw_of fun r s3 hr m3 k3 => ?_
 simp [W.st_at k3, -W.nw_iff]
 refine W.nw_of fun r2 s4 hr4 m4 k4 => ?_
 have m3' := m3.updLater (.inr hr) (o := .cells #[.int .i64 4, .int .i64 B.id, .int .i64 to, .int .i64 B.term, .int .i64 i, .int .i64 0, .int .i64 0, .bool good, .slice none 0 0, .string ⟨#[]⟩] 119 (0, 0))
 refine ⟨(some ⟨r2, 0, none⟩, 1, 1), [({ B.msg 4 to with good := good, index := i }, noTri)], rfl, ⟨row_one k4 rfl, ?_⟩, rfl, (m2.trans m3').trans m4, ?_⟩
 ·intro p hp; simp at hp; subst hp; exact rowE.nil
 ·intro y hy
  simp [mF, Fw.blk] at hy
  subst hy
  exact m2.none (m3'.none hr4 (by simp)) (by simp)
def BS.feedM (B : BS) (to nx : Int) : Msg :=
 if nx ≤ B.base then { B.msg 5 to with index := B.base, prev := B.baseTerm, snap := B.snap }
 else { B.msg 3 to with index := nx - 1, commit := B.commit, prev := (B.termAt (nx - 1)).1, list := (B.log.drop (nx - B.base - 1).toNat).take 8 }
def FeedPost (M : Msg) (s : PH) (x : Value) (s' : PH) : Prop := ∃ t : Tri, x = msgV M t ∧ rowE entE s' 43 t.1 t.2.1 t.2.2 M.list ∧ Fw.Mod [] s s' ∧ ∀ y ∈ Fw.blk t.1, s y = none
theorem c_feed (h : Bal s b l v n m B) (hs : B.Small) (hbs : B.base ≤ 4611686016279904256) {to : Nat} {nx : Int} (hn : B.next[to]? = some nx) (hx : nx ≤ B.base ∨ B.base < nx ∧ nx ≤ B.lst + 1) : DCalls Tryz.prog 72 #[bptr b, .int .i64 to] s (FeedPost (B.feedM to nx) s) := by
 refine ok_feed b to _ s ?_
 unfold vc_feed
 simp only [RP_nw]
 refine W.nw_of fun r s1 hr m1 k1 => ?_
 have hB1 := h.new m1
 have hb1 := hB1.cell
 have hnl := h.next.len
 have hlt := (List.getElem?_eq_some_iff.1 hn).1
 obtain ⟨g, hg, hhas⟩ := hB1.next.at hn
 simp [W.ld_at hb1, -W.nw_iff]
 refine ⟨by omega, ?_⟩
 rw [hg]
 simp only [W.unSome_some, add_mk, Nat.zero_add]
 have hhas : s1.has ⟨g, to, none⟩ [.int .i64 nx] := by
  have : to * intE.sz = to := Nat.mul_one _
  rw [this] at hhas; exact hhas
 refine ld_has_z hhas (cs := [.int .i64]) (y := (nx, ())) rfl ?_
 simp [W.ld_at hb1, W.br_iff, -W.nw_iff]
 refine ⟨fun h1 => ?_, fun h1 => ?_⟩
 ·refine W.call_of (c_msg hB1 5 to) ?_
  rintro _ s2 ⟨rfl, m2⟩
  refine ⟨((5, B.id, to, B.term, 0, 0, 0, false, (none, 0, 0), ⟨#[]⟩, ()), ()), rfl, ?_⟩
  refine W.nw_of fun r21 s3 hr3 m3 k3 => ?_
  have hb3 := ((hB1.new m2).new m3).cell
  have k1' := (m2.trans m3).at k1 (by simp)
  have hne : r ≠ r21 := ne_of_known (m2.at k1 (by simp)) hr3
  have hbr : b ≠ r21 := ne_of_known (hB1.new m2).cell hr3
  simp [W.st_at k3, fun o => W.ld_at (upd_at hb3 hbr o), fun o => W.still_at (upd_at hb3 hbr o), fun o => W.st_at (upd_at k1' hne o)]
  refine ⟨noTri, ?_, ?_, ?_, by simp [Fw.blk]⟩
  ·simp [BS.feedM, h1, BS.msg]
  ·simp only [BS.feedM, if_pos h1]; exact rowE.nil
  ·exact (((m1.trans m2).trans m3).updLater (.inr ((m1.trans m2).none hr3 (by simp)))).updLater (.inr hr)
 ·have h1' : ¬ nx ≤ B.base := by omega
  obtain ⟨hx1, hx2⟩ := hx.resolve_left h1'
  refine W.call_of (c_msg hB1 3 to) ?_
  rintro _ s2 ⟨rfl, m2⟩
  refine ⟨((3, B.id, to, B.term, 0, 0, 0, false, (none, 0, 0), ⟨#[]⟩, ()), ()), rfl, ?_⟩
  refine W.nw_of fun r64 s3 hr3 m3 k3 => ?_
  have hb3 := ((hB1.new m2).new m3).cell
  have k1' := (m2.trans m3).at k1 (by simp)
  have hne : r ≠ r64 := ne_of_known (m2.at k1 (by simp)) hr3
  have hbr : b ≠ r64 := ne_of_known (hB1.new m2).cell hr3
  obtain ⟨q1, q2, q3⟩ := id hs
  have hlst : B.lst = B.base + B.log.length := rfl
  have hw1 : i64.wrap (nx - 1) = nx - 1 := wrap_in (by omega) (by omega)
  simp [W.st_at k3, fun o => W.ld_at (upd_at hb3 hbr o), fun o => W.still_at (upd_at hb3 hbr o), hw1]
  have m4 : Fw.Mod [] s2 (s3.upd r64 (.cells #[.int .i64 3, .int .i64 B.id, .int .i64 to, .int .i64 B.term, .int .i64 (nx - 1), .int .i64 0, .int .i64 B.commit, .bool false, .slice none 0 0, .string ⟨#[]⟩] 119 (0, 0))) := m3.updLater (.inr hr3)
  have k4 := PH.upd_same s3 r64 (.cells #[.int .i64 3, .int .i64 B.id, .int .i64 to, .int .i64 B.term, .int .i64 (nx - 1), .int .i64 0, .int .i64 B.commit, .bool false, .slice none 0 0, .string ⟨#[]⟩] 119 (0, 0))
  have k1'' := upd_at k1' hne (.cells #[.int .i64 3, .int .i64 B.id, .int .i64 to, .int .i64 B.term, .int .i64 (nx - 1), .int .i64 0, .int .i64 B.commit, .bool false, .slice none 0 0, .string ⟨#[]⟩] 119 (0, 0))
  generalize s3.upd r64 (.cells #[.int .i64 3, .int .i64 B.id, .int .i64 to, .int .i64 B.term, .int .i64 (nx - 1), .int .i64 0, .int .i64 B.commit, .bool false, .slice none 0 0, .string ⟨#[]⟩] 119 (0, 0)) = s4 at m4 k4 k1''
  refine W.call_of (c_term ((hB1.new m2).new m4) hs (by unfold Num; omega)) ?_
  rintro _ s5 ⟨rfl, m5⟩
  refine ⟨(((B.termAt (nx - 1)).1, ()), ((B.termAt (nx - 1)).2, ()), ()), rfl, ?_⟩
  have hB5 := ((hB1.new m2).new m4).new m5
  have hb5 := hB5.cell
  have k5 := m5.at k4 (by simp)
  have k6 := m5.at k1'' (by simp)
  obtain ⟨k, hk⟩ : ∃ k : Nat, (nx - B.base - 1).toNat = k := ⟨_, rfl⟩
  have hw2 : i64.wrap (i64.wrap (nx - B.base) - 1) = (k : Int) := by
   rw [wrap_in (n := nx - B.base) (by omega) (by omega), wrap_in (by omega) (by omega)]; omega
  have hll := hB5.log.len
  have hlc := hB5.log.le
  simp [W.st_at k5, fun o => W.ld_at (upd_at hb5 hbr o), hw2]
  have m6 : ∀ o, Fw.Mod [] s (s5.upd r64 o) := fun o => (((m1.trans m2).trans m4).trans m5).updLater (.inr ((m1.trans m2).none hr3 (by simp)))
  have hmn : (if (8 : Int) < ((l.2.1 - k : Nat) : Int) then (8 : Int) else ((l.2.1 - k : Nat) : Int)).toNat = min 8 (l.2.1 - k) := by split <;> omega
  refine ⟨⟨by omega, by omega⟩, ⟨by split <;> omega, by split <;> omega⟩, ?_⟩
  rw [hmn]
  have hB6 : ∀ o, Bal (s5.upd r64 o) b l v n m B := fun o => h.new (m6 o)
  refine W.call_of (c_Clone (ys := (B.log.drop k).take (min 8 (l.2.1 - k))) ((hB6 _).log.src (i := k) (m := min 8 (l.2.1 - k)) (by omega)) (by simp; omega) (by omega)) ?_
  rintro _ s7 ⟨t, rfl, ht, hrow, m7, hfr⟩
  refine ⟨((t, ()), ()), rfl, ?_⟩
  have k7 := m7.at (PH.upd_same _ _ _) (by simp)
  have k8 := m7.at (upd_at k6 hne _) (by simp)
  simp [W.st_at k7, fun o => W.st_at (upd_at k8 hne o)]
  have hr64 : s r64 = none := (m1.trans m2).none hr3 (by simp)
  have m8 := (((m6 _).trans m7).updLater (b := r64) (.inr hr64) (o := .cells #[.int .i64 3, .int .i64 B.id, .int .i64 to, .int .i64 B.term, .int .i64 (nx - 1), .int .i64 (B.termAt (nx - 1)).1, .int .i64 B.commit, .bool false, t.v, .string ⟨#[]⟩] 119 (0, 0))).updLater (b := r) (.inr hr) (o := .cells #[.int .i64 3, .int .i64 B.id, .int .i64 to, .int .i64 B.term, .int .i64 (nx - 1), .int .i64 (B.termAt (nx - 1)).1, .int .i64 B.commit, .bool false, t.v, .string ⟨#[]⟩] 119 (0, 0))
  refine ⟨t, ?_, ?_, m8, fun y hy => (m6 _).none (hfr y hy) (by simp)⟩
  ·simp [BS.feedM, h1', BS.msg]
  ·have e : (B.feedM to nx).list = (B.log.drop k).take (min 8 (l.2.1 - k)) := by
    simp only [BS.feedM, if_neg h1', hk]
    rw [hll]
    by_cases h8 : 8 ≤ B.log.length - k
    ·rw [Nat.min_eq_left h8]
    ·rw [Nat.min_eq_right (by omega), List.take_of_length_le (by simp; omega), List.take_of_length_le (by simp)]
   rw [e]
   have hm9 : Fw.Mod [r64, r] s7 ((s7.upd r64 (.cells #[.int .i64 3, .int .i64 B.id, .int .i64 to, .int .i64 B.term, .int .i64 (nx - 1), .int .i64 (B.termAt (nx - 1)).1, .int .i64 B.commit, .bool false, t.v, .string ⟨#[]⟩] 119 (0, 0))).upd r (.cells #[.int .i64 3, .int .i64 B.id, .int .i64 to, .int .i64 B.term, .int .i64 (nx - 1), .int .i64 (B.termAt (nx - 1)).1, .int .i64 B.commit, .bool false, t.v, .string ⟨#[]⟩] 119 (0, 0))) :=
    ((Mod.refl _ _).updLater (.inl (by simp))).updLater (.inl (by simp))
   refine hrow.mod hm9 fun y hy => ?_
   have h3 := hfr y hy
   simp
   constructor
   ·rintro rfl; rw [PH.upd_same] at h3; cases h3
   ·rintro rfl; rw [upd_at k6 hne] at h3; cases h3
abbrev zeroMsg : List Value := [.int .i64 0, .int .i64 0, .int .i64 0, .int .i64 0, .int .i64 0, .int .i64 0, .int .i64 0, .bool false, .slice none 0 0, .string ⟨#[]⟩]
theorem app_msgs {s1 : PH} {t t' : Tri} {ps qs : List (Msg × Tri)} (Fr : Nat → Prop) (hFr : ∀ g, s1 g = none → Fr g) (h : Msgs s1 t ps) (h' : Msgs s1 t' qs) (hf : ∀ y ∈ mF t ps, Fr y) (hf' : ∀ y ∈ mF t' qs, Fr y) (hd : ∀ y ∈ mF t' qs, y ∉ Fw.blk t.1) (hd' : ∀ p ∈ ps, ∀ y ∈ Fw.blk p.2.1, y ∉ Fw.blk t.1) (hc : t.2.1 ≤ 1000) (hc' : t'.2.1 ≤ 1000)
  {K : Option Addr → Nat → Nat → W.T} (hK : ∀ a n c s', Msgs s' (a, n, c) (ps ++ qs) → (∀ y ∈ mF (a, n, c) (ps ++ qs), Fr y) → Fw.Mod (Fw.blk t.1) s1 s' → K a n c s') :
  W.app 119 10 104 zeroMsg t.1 t.2.1 t.2.2 (.sl t'.1 t'.2.1) K s1 := by
 have hmax : maxLen = 9223372036854775807 := rfl
 refine app_rowE (E := rmE) (k := t'.2.1) (ys := qs) h.row rfl h'.row.src0 rfl h'.row.len.symm (by omega) (by omega) ?_
 intro a c s' hr hm'
 have hM : Fw.Mod (Fw.blk t.1) s1 s' := by
  rcases hm' with ⟨_, m⟩ | ⟨g, _, _, m⟩
  ·exact m
  ·exact m.mono (by simp)
 refine hK a _ c s' ⟨hr, ?_⟩ ?_ hM
 ·intro p hp
  rcases List.mem_append.1 hp with hp | hp
  ·exact (h.lists p hp).mod hM fun y hy => hd' p hp y hy
  ·exact (h'.lists p hp).mod hM fun y hy => hd y (by simp only [mF, List.mem_append, List.mem_flatMap]; exact .inr ⟨p, hp, hy⟩)
 ·intro y hy
  simp only [mF, List.mem_append, List.mem_flatMap] at hy
  rcases hy with hy | ⟨p, hp, hy⟩
  ·rcases hm' with ⟨rfl, m⟩ | ⟨g, rfl, hg, m⟩
   ·exact hf y (by simp [mF, hy])
   ·simp [Fw.blk] at hy; subst hy; exact hFr _ hg
  ·rcases hp with hp | hp
   ·exact hf y (by simp only [mF, List.mem_append, List.mem_flatMap]; exact .inr ⟨p, hp, hy⟩)
   ·exact hf' y (by simp only [mF, List.mem_append, List.mem_flatMap]; exact .inr ⟨p, hp, hy⟩)
theorem Msgs.apart {s : PH} {t : Tri} {ps : List (Msg × Tri)} (h : Msgs s t ps) : ∀ p ∈ ps, ∀ y ∈ Fw.blk p.2.1, y ∉ Fw.blk t.1 := fun p hp y hy => row_ne3 h.row (h.lists p hp) (by decide) y hy
theorem push_msg {s s1 s2 : PH} {t t' : Tri} {ps : List (Msg × Tri)} {M : Msg} (h : Msgs s1 t ps) (hm : Fw.Mod [] s s1) (hf : ∀ y ∈ mF t ps, s y = none) (hrow : rowE entE s2 43 t'.1 t'.2.1 t'.2.2 M.list) (m2 : Fw.Mod [] s1 s2) (hf' : ∀ y ∈ Fw.blk t'.1, s1 y = none) (hc : t.2.1 ≤ 1000)
  {K : Option Addr → Nat → Nat → W.T} (hK : ∀ a n c s', Msgs s' (a, n, c) (ps ++ [(M, t')]) → Fw.Mod [] s s' → (∀ y ∈ mF (a, n, c) (ps ++ [(M, t')]), s y = none) → K a n c s') :
  W.nw (.cells (msgCells M t').toArray 119 (0, 0)) (fun r => W.app 119 10 104 zeroMsg t.1 t.2.1 t.2.2 (.sl (some ⟨r, 0, none⟩) 1) K) s2 := by
 refine W.nw_of fun r s3 hr m3 k3 => ?_
 have m23 := m2.trans m3
 have hms : Msgs s3 (some ⟨r, 0, none⟩, 1, 1) [(M, t')] := ⟨row_one k3 rfl, fun p hp => by simp at hp; subst hp; exact hrow.mod m3 (by simp)⟩
 have hrs1 : s1 r = none := m2.none hr (by simp)
 have hd : ∀ y ∈ mF (some ⟨r, 0, none⟩, 1, 1) [(M, t')], s1 y = none := by
  intro y hy
  simp [mF, Fw.blk] at hy
  rcases hy with rfl | hy
  ·exact hrs1
  ·exact hf' y (by simpa [Fw.blk] using hy)
 have hm3 := hm.trans m23
 exact app_msgs (fun y => s y = none) (fun g hg => hm3.none hg (by simp)) (h.mod m23 (by simp)) hms hf (fun y hy => hm.none (hd y hy) (by simp)) (fun y hy hy' => (h.known y (by simp [mF, hy'])) (hd y hy)) h.apart hc (by show 1 ≤ 1000; omega)
  fun a n c s' g1 g2 g3 => hK a n c s' g1 (hm3.fresh g3 fun y hy => .inr (hf y (by simp [mF, hy]))) g2
def BS.others (B : BS) (f : Nat → Msg) (k : Nat) : List Msg := ((List.range k).filter fun (i : Nat) => !((i : Int) == B.id)).map f
theorem BS.others_succ (B : BS) (f : Nat → Msg) (k : Nat) : B.others f (k + 1) = if (k : Int) = B.id then B.others f k else B.others f k ++ [f k] := by
 unfold BS.others
 rw [List.range_succ, List.filter_append]
 by_cases h : (k : Int) = B.id
 ·simp [h]
 ·have : (!((k : Int) == B.id)) = true := by simpa using h
  simp [h]
theorem BS.others_len (B : BS) (f : Nat → Msg) (k : Nat) : (B.others f k).length ≤ k := by
 unfold BS.others
 rw [List.length_map]
 exact Nat.le_trans (List.length_filter_le _ _) (by simp)
abbrev BS.feeds (B : BS) : List Msg := B.others (fun to => B.feedM to ((B.next[to]?).getD 0)) B.size.toNat
abbrev BS.asks (B : BS) : List Msg := B.others (fun to => B.askM to) B.size.toNat
structure BS.Fed (B : BS) : Prop where
 len : B.next.length = B.size.toNat
 rng : ∀ (i : Nat) nx, B.next[i]? = some nx → nx ≤ B.base ∨ B.base < nx ∧ nx ≤ B.lst + 1
def OthersZ (B : BS) (f : Nat → Msg) (s : PH) (z : MDen [(false, [.slice]), (false, [.int .i64]), (false, [.int .i64])]) (s' : PH) : Prop :=
 ∃ (k : Nat) (t : Tri) (ps : List (Msg × Tri)), z = ((t, ()), (B.size, ()), ((k : Int), ()), ()) ∧ (k : Int) ≤ B.size ∧ Msgs s' t ps ∧ ps.map (·.1) = B.others f k ∧ Fw.Mod [] s s' ∧ ∀ y ∈ mF t ps, s y = none
theorem c_othersFeed (h : Bal s b l v n m B) (hs : B.Small) (hbs : B.base ≤ 4611686016279904256) (hz : 0 ≤ B.size ∧ B.size ≤ 5) (hF : B.Fed) :
  DCalls Tryz.prog 69 #[bptr b, .func (.func 72) #[bptr b] #[]] s (MsgsPost B.feeds s) := by
 refine ok_othersFeed b _ s ?_
 unfold vc_othersFeed
 have hb := h.cell
 simp [W.ld_at hb, -W.nw_iff]
 refine ⟨OthersZ B (fun to => B.feedM to ((B.next[to]?).getD 0)) s, fun z _ => B.size.toNat - z.2.2.1.1.toNat, ⟨0, noTri, [], rfl, hz.1, Msgs.nil s, rfl, Mod.refl _ _, by simp [mF, Fw.blk]⟩, ?_⟩
 rintro _ s1 ⟨k, t, ps, rfl, hk, hms, hps, m1, hf⟩
 have hb1 := (h.new m1).cell
 have htl : t.2.1 = ps.length := hms.row.len
 have hpl : ps.length ≤ k := by
  have := B.others_len (fun to => B.feedM to ((B.next[to]?).getD 0)) k
  rw [← hps] at this; simpa using this
 have hw : i64.wrap ((k : Int) + 1) = ((k + 1 : Nat) : Int) := by rw [wrap_in (by omega) (by omega)]; simp
 simp [W.br_iff, W.ld_at hb1, -W.nw_iff]
 refine ⟨fun hlt => ⟨fun hne => ?_, fun he => ?_⟩, fun hge => ?_⟩
 ·obtain ⟨nx, hnx⟩ : ∃ nx, B.next[k]? = some nx := ⟨_, List.getElem?_eq_getElem (by rw [hF.len]; omega)⟩
  refine W.call_of (c_feed (h.new m1) hs hbs hnx (hF.rng k nx hnx)) ?_
  rintro _ s2 ⟨t', rfl, hrow, m2, hf'⟩
  have hM : B.feedM k ((B.next[k]?).getD 0) = B.feedM k nx := by rw [hnx]; (first | done | rfl)
  generalize B.feedM k nx = M at hrow hM
  refine ⟨((M.kind, M.from_, M.to, M.term, M.index, M.prev, M.commit, M.good, t', M.snap, ()), ()), rfl, ?_⟩
  refine push_msg (M := M) (t' := t') hms m1 hf hrow m2 hf' (by omega) ?_
  intro a' n' c' s' g1 g2 g3
  refine ⟨⟨k + 1, (a', n', c'), _, by rw [hw], by omega, g1, ?_, g2, g3⟩, by simp only [hw, Int.toNat_natCast]; omega⟩
  rw [List.map_append, hps, B.others_succ, if_neg hne]
  simp [hM]
 ·rw [hw]
  refine ⟨⟨k + 1, t, ps, rfl, by omega, hms, ?_, m1, hf⟩, by simp only [Int.toNat_natCast]; omega⟩
  rw [B.others_succ, if_pos he, hps]
 ·refine ⟨t, ps, rfl, hms, ?_, m1, hf⟩
  rw [hps]
  have : B.size.toNat = k := by omega
  show _ = B.others _ B.size.toNat
  rw [this]
theorem c_othersAsk (h : Bal s b l v n m B) (hs : B.Small) (hbs : B.base ≤ 4611686016279904256) (hz : 0 ≤ B.size ∧ B.size ≤ 5) :
  DCalls Tryz.prog 69 #[bptr b, .func (.func 70) #[bptr b] #[]] s (MsgsPost B.asks s) := by
 refine ok_othersAsk b _ s ?_
 unfold vc_othersAsk
 have hb := h.cell
 simp [W.ld_at hb, -W.nw_iff]
 refine ⟨OthersZ B (fun to => B.askM to) s, fun z _ => B.size.toNat - z.2.2.1.1.toNat, ⟨0, noTri, [], rfl, hz.1, Msgs.nil s, rfl, Mod.refl _ _, by simp [mF, Fw.blk]⟩, ?_⟩
 rintro _ s1 ⟨k, t, ps, rfl, hk, hms, hps, m1, hf⟩
 have hb1 := (h.new m1).cell
 have htl : t.2.1 = ps.length := hms.row.len
 have hpl : ps.length ≤ k := by
  have := B.others_len (fun to => B.askM to) k
  rw [← hps] at this; simpa using this
 have hw : i64.wrap ((k : Int) + 1) = ((k + 1 : Nat) : Int) := by rw [wrap_in (by omega) (by omega)]; simp
 simp [W.br_iff, W.ld_at hb1, -W.nw_iff]
 refine ⟨fun hlt => ⟨fun hne => ?_, fun he => ?_⟩, fun hge => ?_⟩
 ·refine W.call_of (c_ask (h.new m1) hs hbs k) ?_
  rintro _ s2 ⟨rfl, m2⟩
  generalize hM : B.askM k = M
  refine ⟨((M.kind, M.from_, M.to, M.term, M.index, M.prev, M.commit, M.good, noTri, M.snap, ()), ()), rfl, ?_⟩
  have hl : M.list = [] := by rw [← hM]; (first | done | rfl)
  refine push_msg (M := M) (t' := noTri) hms m1 hf (by rw [hl]; exact rowE.nil) m2 (by simp [Fw.blk]) (by omega) ?_
  intro a' n' c' s' g1 g2 g3
  refine ⟨⟨k + 1, (a', n', c'), _, by rw [hw], by omega, g1, ?_, g2, g3⟩, by simp only [hw, Int.toNat_natCast]; omega⟩
  rw [List.map_append, hps, B.others_succ, if_neg hne]
  simp [hM]
 ·rw [hw]
  refine ⟨⟨k + 1, t, ps, rfl, by omega, hms, ?_, m1, hf⟩, by simp only [Int.toNat_natCast]; omega⟩
  rw [B.others_succ, if_pos he, hps]
 ·refine ⟨t, ps, rfl, hms, ?_, m1, hf⟩
  rw [hps]
  have : B.size.toNat = k := by omega
  show _ = B.others _ B.size.toNat
  rw [this]
end
end
end Go.Proofs.YtcdggocbjnmeaaaGreat
section
namespace Strip
abbrev Bs := List UInt8
def crcBit (x : Nat) : Nat := if x % 2 = 1 then (x / 2) ^^^ 3988292384 else x / 2
def crcBits : Nat → Nat → Nat
 | 0, x => x
 | n + 1, x => crcBits n (crcBit x)
def crcByte (x : Nat) (b : UInt8) : Nat := crcBits 8 (x ^^^ b.toNat)
def crc (l : Bs) : Nat := l.foldl crcByte 4294967295 ^^^ 4294967295
def be4 (n : Nat) : Bs := [UInt8.ofNat (n / 16777216), UInt8.ofNat (n / 65536), UInt8.ofNat (n / 256), UInt8.ofNat n]
def le4 (n : Nat) : Bs := [UInt8.ofNat n, UInt8.ofNat (n / 256), UInt8.ofNat (n / 65536), UInt8.ofNat (n / 16777216)]
def hd (p : Bs) : Bs := be4 p.length ++ le4 (crc (be4 p.length ++ p))
def rec1 (p : Bs) : Bs := hd p ++ p
def dec : Bs → Nat
 | a :: b :: c :: d :: _ => ((a.toNat * 256 + b.toNat) * 256 + c.toNat) * 256 + d.toNat
 | _ => 0
theorem hd_len (p : Bs) : (hd p).length = 8 := rfl
theorem rec_len (p : Bs) : (rec1 p).length = 8 + p.length := by simp [rec1, hd_len]
theorem dec_be4 {n : Nat} (h : n < 4294967296) (x : Bs) : dec (be4 n ++ x) = n := by
 simp only [be4, dec, List.cons_append, List.nil_append, UInt8.toNat_ofNat']
 omega
theorem dec_rec {p : Bs} (h : p.length ≤ 65536) (x : Bs) : dec (rec1 p ++ x) = p.length := by
 unfold rec1 hd
 rw [List.append_assoc, List.append_assoc]
 exact dec_be4 (by omega) _
def first (l : Bs) : Option Bs :=
 if l.length < 8 then none else if 65536 < dec l ∨ l.length < 8 + dec l then none else if rec1 ((l.drop 8).take (dec l)) = l.take (8 + dec l) then some ((l.drop 8).take (dec l)) else none
theorem first_rec {p : Bs} (h : p.length ≤ 65536) (x : Bs) : first (rec1 p ++ x) = some p := by
 have hl := rec_len p
 have e : ((rec1 p ++ x).drop 8).take p.length = p := by
  unfold rec1
  rw [List.append_assoc, List.drop_append_of_le_length (by rw [hd_len]; exact Nat.le_refl _), List.drop_of_length_le (by rw [hd_len]; exact Nat.le_refl _), List.nil_append, List.take_append_of_le_length (Nat.le_refl _), List.take_length]
 unfold first
 rw [dec_rec h, if_neg (by rw [List.length_append]; omega), if_neg (by rw [List.length_append]; omega), e, if_pos]
 rw [List.take_append_of_le_length (by omega), List.take_of_length_le (by omega)]
theorem first_some {l p : Bs} (h : first l = some p) : p.length ≤ 65536 ∧ ∃ x, l = rec1 p ++ x := by
 unfold first at h
 split at h
 ·cases h
 split at h
 ·cases h
 rename_i h1 h2
 split at h
 ·rename_i h3
  have h := Option.some.inj h
  subst h
  refine ⟨by rw [List.length_take]; omega, l.drop (8 + dec l), ?_⟩
  rw [h3, List.take_append_drop]
 ·cases h
theorem first_cut {p : Bs} (h : p.length ≤ 65536) {q : Nat} (hq : q < 8 + p.length) (x : Bs) : first ((rec1 p ++ x).take q) = none := by
 unfold first
 by_cases h8 : q < 8
 ·rw [if_pos (by rw [List.length_take]; omega)]
 ·have hl := rec_len p
  have e : dec ((rec1 p ++ x).take q) = p.length := by
   obtain ⟨k, rfl⟩ : ∃ k, q = 8 + k := ⟨q - 8, by omega⟩
   have : (rec1 p ++ x).take (8 + k) = be4 p.length ++ (le4 (crc (be4 p.length ++ p)) ++ (p ++ x).take k) := by
    unfold rec1
    rw [List.append_assoc, List.take_append, hd_len, Nat.add_sub_cancel_left, List.take_of_length_le (by rw [hd_len]; omega)]
    unfold hd
    rw [List.append_assoc]
   rw [this]
   exact dec_be4 (by omega) _
  rw [e]
  by_cases hn : ((rec1 p ++ x).take q).length < 8
  ·rw [if_pos hn]
  ·rw [if_neg hn, if_pos (.inr (by rw [List.length_take]; omega))]
def scanF : Nat → Bs → List Bs × Nat
 | 0, _ => ([], 0)
 | f + 1, l => match first l with
  | none => ([], 0)
  | some p => (p :: (scanF f (l.drop (8 + p.length))).1, 8 + p.length + (scanF f (l.drop (8 + p.length))).2)
def scan (l : Bs) : List Bs × Nat := scanF (l.length + 1) l
theorem scanF_eq : ∀ (f g : Nat) (l : Bs), l.length < f → l.length < g → scanF f l = scanF g l
 | 0, _, l, h, _ => by omega
 | _, 0, l, _, h => by omega
 | f + 1, g + 1, l, h1, h2 => by
  unfold scanF
  cases hf : first l with
  | none => rfl
  | some p =>
   obtain ⟨_, x, rfl⟩ := first_some hf
   have hl := rec_len p
   dsimp only
   rw [List.length_append] at h1 h2
   have hd : ((rec1 p ++ x).drop (8 + p.length)).length = x.length := by rw [List.length_drop, List.length_append]; omega
   rw [scanF_eq f g _ (by omega) (by omega)]
theorem scan_none {l : Bs} (h : first l = none) : scan l = ([], 0) := by unfold scan scanF; rw [h]
theorem scan_some {l p : Bs} (h : first l = some p) : scan l = (p :: (scan (l.drop (8 + p.length))).1, 8 + p.length + (scan (l.drop (8 + p.length))).2) := by
 have e : scan l = match first l with
  | none => ([], 0)
  | some p => (p :: (scanF l.length (l.drop (8 + p.length))).1, 8 + p.length + (scanF l.length (l.drop (8 + p.length))).2) := rfl
 rw [e, h]
 obtain ⟨_, x, rfl⟩ := first_some h
 have hl := rec_len p
 have hd : ((rec1 p ++ x).drop (8 + p.length)).length = x.length := by rw [List.length_drop, List.length_append]; omega
 dsimp only
 rw [scanF_eq (rec1 p ++ x).length (((rec1 p ++ x).drop (8 + p.length)).length + 1) _ (by rw [hd, List.length_append]; omega) (by omega)]
 first | done | rfl
def recs (ps : List Bs) : Bs := ps.flatMap rec1
theorem scan_rec {p : Bs} (h : p.length ≤ 65536) (x : Bs) : scan (rec1 p ++ x) = (p :: (scan x).1, 8 + p.length + (scan x).2) := by
 rw [scan_some (first_rec h x)]
 have : (rec1 p ++ x).drop (8 + p.length) = x := by rw [← rec_len, List.drop_left]
 rw [this]
theorem scan_nil : scan [] = ([], 0) := scan_none (by unfold first; simp)
theorem scan_recs {ps : List Bs} (h : ∀ p ∈ ps, p.length ≤ 65536) (x : Bs) : scan (recs ps ++ x) = (ps ++ (scan x).1, (recs ps).length + (scan x).2) := by
 induction ps with
 | nil => simp [recs]
 | cons p ps ih =>
  have e : recs (p :: ps) ++ x = rec1 p ++ (recs ps ++ x) := by simp [recs]
  rw [e, scan_rec (h p (by simp)), ih (fun q hq => h q (by simp [hq]))]
  have : (recs (p :: ps)).length = 8 + p.length + (recs ps).length := by simp [recs, rec_len]
  rw [this]
  simp [Nat.add_assoc]
theorem scan_spec : ∀ (f : Nat) (l : Bs), l.length < f → (∀ p ∈ (scan l).1, p.length ≤ 65536) ∧ l.take (scan l).2 = recs (scan l).1 ∧ (scan l).2 ≤ l.length
 | 0, l, h => by omega
 | f + 1, l, h => by
  cases hf : first l with
  | none => rw [scan_none hf]; simp [recs]
  | some p =>
   rw [scan_some hf]
   obtain ⟨h1, x, rfl⟩ := first_some hf
   have hl := rec_len p
   have hd : (rec1 p ++ x).drop (8 + p.length) = x := by rw [← rec_len, List.drop_left]
   rw [hd]
   rw [List.length_append] at h
   obtain ⟨i1, i2, i3⟩ := scan_spec f x (by omega)
   refine ⟨?_, ?_, ?_⟩
   ·intro q hq
    simp only [List.mem_cons] at hq
    rcases hq with rfl | hq
    ·exact h1
    ·exact i1 q hq
   ·dsimp only
    rw [List.take_append, hl, List.take_of_length_le (by omega), Nat.add_sub_cancel_left, i2]
    simp [recs]
   ·simp only [List.length_append]; omega
theorem scan_cut : ∀ (ps : List Bs) (q : Nat), (∀ p ∈ ps, p.length ≤ 65536) → ∃ k, k ≤ ps.length ∧ scan ((recs ps).take q) = (ps.take k, (recs (ps.take k)).length) ∧ (recs (ps.take k)).length ≤ q ∧ ∀ j, (recs (ps.take j)).length ≤ q → j ≤ ps.length → j ≤ k
 | [], q, _ => ⟨0, Nat.le_refl _, by simp [recs, scan_nil], by simp [recs], by simp⟩
 | p :: ps, q, h => by
  have hp := h p (by simp)
  have e : recs (p :: ps) = rec1 p ++ recs ps := by simp [recs]
  have hl := rec_len p
  by_cases hq : q < 8 + p.length
  ·refine ⟨0, Nat.zero_le _, ?_, by simp [recs], ?_⟩
   ·rw [e, scan_none (first_cut hp hq _)]; simp [recs]
   ·intro j hj hjl
    cases j with
    | zero => exact Nat.le_refl _
    | succ j =>
     have : (recs ((p :: ps).take (j + 1))).length = 8 + p.length + (recs (ps.take j)).length := by simp [recs, rec_len]
     omega
  ·obtain ⟨k, k1, k2, k3, k4⟩ := scan_cut ps (q - (8 + p.length)) (fun x hx => h x (by simp [hx]))
   have hlen : ∀ j, (recs ((p :: ps).take (j + 1))).length = 8 + p.length + (recs (ps.take j)).length := fun j => by simp [recs, rec_len]
   refine ⟨k + 1, by simp; omega, ?_, ?_, ?_⟩
   ·rw [e, List.take_append, List.take_of_length_le (by omega), hl, scan_rec hp, k2, hlen]
    simp
   ·rw [hlen]; omega
   ·intro j hj hjl
    cases j with
    | zero => omega
    | succ j =>
     rw [hlen] at hj
     have := k4 j (by omega) (by simpa using hjl)
     omega
end Strip
end
namespace Go.Proofs.YtcdggocbjnmeaaaGreat
open Fw Go Go.IntKind
section
abbrev toL (s : ByteArray) : List UInt8 := s.data.toList
def ofL (l : List UInt8) : ByteArray := ⟨l.toArray⟩
theorem ofL_toL (s : ByteArray) : ofL (toL s) = s := by cases s; simp [ofL]
theorem toL_ofL (l : List UInt8) : toL (ofL l) = l := by simp [toL, ofL]
theorem toL_len (s : ByteArray) : (toL s).length = s.size := by rw [Array.length_toList]; (first | done | rfl)
theorem ofL_size (l : List UInt8) : (ofL l).size = l.length := by rw [← toL_len, toL_ofL]
theorem toL_append (a b : ByteArray) : toL (a ++ b) = toL a ++ toL b := by simp [toL]
theorem toL_extract (s : ByteArray) (i j : Nat) : toL (s.extract i j) = (toL s).extract i j := by simp [toL]
theorem toL_take (s : ByteArray) (j : Nat) : toL (s.extract 0 j) = (toL s).take j := by rw [toL_extract]; simp
theorem toL_inj {a b : ByteArray} (h : toL a = toL b) : a = b := by rw [← ofL_toL a, ← ofL_toL b, h]
def scanB (s : ByteArray) : List ByteArray × Nat := ((Strip.scan (toL s)).1.map ofL, (Strip.scan (toL s)).2)
def bigB (l : List ByteArray) : Bool := l.any fun p => decide (65536 < p.size)
def recsB (l : List ByteArray) : ByteArray := ofL (Strip.recs (l.map toL))
def allB (l : List ByteArray) : ByteArray × Int := if bigB l = true then (⟨#[]⟩, 30) else (recsB l, 0)
theorem scanB_le (s : ByteArray) : (scanB s).2 ≤ s.size := by
 have := (Strip.scan_spec ((toL s).length + 1) (toL s) (by omega)).2.2
 rw [toL_len] at this
 exact this
theorem recs_len_le (l : List ByteArray) : (recsB l).size = (l.map fun p => 8 + p.size).sum := by
 unfold recsB
 rw [ofL_size]
 induction l with
 | nil => rfl
 | cons p l ih =>
  simp only [List.map_cons, List.sum_cons, Strip.recs, List.flatMap_cons, List.length_append, Strip.rec_len]
  rw [toL_len]
  unfold Strip.recs at ih
  rw [ih]
theorem not_big {l : List ByteArray} (h : bigB l = false) : ∀ p ∈ l.map toL, p.length ≤ 65536 := by
 intro p hp
 obtain ⟨q, hq, rfl⟩ := List.mem_map.1 hp
 unfold bigB at h
 simp only [List.any_eq_false, decide_eq_true_eq] at h
 have := h q hq
 rw [toL_len]; omega
theorem scanB_small (s : ByteArray) : bigB (scanB s).1 = false := by
 unfold bigB
 simp only [List.any_eq_false, decide_eq_true_eq]
 intro q hq
 unfold scanB at hq
 obtain ⟨p, hp, rfl⟩ := List.mem_map.1 hq
 have := (Strip.scan_spec ((toL s).length + 1) (toL s) (by omega)).1 p hp
 rw [ofL_size]; omega
theorem scanB_spec (s : ByteArray) : s.extract 0 (scanB s).2 = recsB (scanB s).1 := by
 apply toL_inj
 rw [toL_take]
 unfold recsB scanB
 rw [toL_ofL, List.map_map]
 have : (toL ∘ ofL : List UInt8 → List UInt8) = id := by funext l; exact toL_ofL l
 rw [this, List.map_id]
 exact (Strip.scan_spec ((toL s).length + 1) (toL s) (by omega)).2.1
theorem scanB_recs {l : List ByteArray} (h : bigB l = false) : scanB (recsB l) = (l, (recsB l).size) := by
 have h1 := Strip.scan_recs (not_big h) []
 rw [List.append_nil, Strip.scan_nil] at h1
 unfold scanB
 have e : toL (recsB l) = Strip.recs (l.map toL) := by unfold recsB; rw [toL_ofL]
 rw [e, h1]
 simp only [List.append_nil, Nat.add_zero, List.map_map]
 have : (ofL ∘ toL : ByteArray → ByteArray) = id := by funext s; exact ofL_toL s
 rw [this, List.map_id, ← toL_len, e]
theorem scanB_cut {l : List ByteArray} (h : bigB l = false) (q : Nat) : ∃ k, k ≤ l.length ∧ scanB ((recsB l).extract 0 q) = (l.take k, (recsB (l.take k)).size) ∧ ∀ j, (recsB (l.take j)).size ≤ q → j ≤ l.length → j ≤ k := by
 obtain ⟨k, k1, k2, _, k4⟩ := Strip.scan_cut (l.map toL) q (not_big h)
 have e : toL (recsB l) = Strip.recs (l.map toL) := by unfold recsB; rw [toL_ofL]
 have e2 : ∀ j, (recsB (l.take j)).size = (Strip.recs ((l.map toL).take j)).length := fun j => by unfold recsB; rw [ofL_size, List.map_take]
 refine ⟨k, by simpa using k1, ?_, fun j hj hl => k4 j (by rw [← e2]; exact hj) (by simpa using hl)⟩
 unfold scanB
 rw [toL_take, e, k2]
 have : (ofL ∘ toL : ByteArray → ByteArray) = id := by funext s; exact ofL_toL s
 rw [← List.map_take, List.map_map, this, List.map_id, e2, List.map_take]
end
section
open Fw.W
def vc_Sum {W : Type} (π : Prims W) (t : ByteArray) : W :=
 π.loop [(false, [.int .u32]), (false, [.int .i64]), (false, [.int .i64])] (((4294967295 : Int), ()), ((↑t.size : Int), ()), ((0 : Int), ()), ()) fun (((x1 : Int), _), ((x2 : Int), _), ((x3 : Int), _), _) again0 =>
  π.ite (decide (x3 < x2)) (
   π.guard (0 ≤ x3 ∧ x3 < (↑t.size : Int)) <|
   π.loop [(false, [.int .u32]), (false, [.int .i64]), (false, [.int .i64]), (false, [.int .i64])] ((u32.wrap (↑(BitVec.ofInt (32 : Nat) x1 ^^^ BitVec.ofInt (32 : Nat) (u32.wrap (↑(t[x3.toNat]?.getD (0 : UInt8)).toNat : Int))).toNat : Int), ()), (x2, ()), (x3, ()), ((0 : Int), ()), ()) fun (((x5 : Int), _), ((x6 : Int), _), ((x7 : Int), _), ((x8 : Int), _), _) again4 =>
    π.ite (decide (x8 < 8)) (
     again4 ((u32.wrap (↑(BitVec.ofInt (32 : Nat) (x5.fdiv (2 : Int)) ^^^ BitVec.ofInt (32 : Nat) (u32.wrap (↑(BitVec.ofInt (32 : Nat) (3988292384 : Int) &&& BitVec.ofInt (32 : Nat) (u32.wrap ((0 : Int) - u32.wrap (↑(BitVec.ofInt (32 : Nat) x5 &&& BitVec.ofInt (32 : Nat) (1 : Int)).toNat : Int)))).toNat : Int))).toNat : Int), ()), (x6, ()), (x7, ()), (i64.wrap (x8 + 1), ()), ())
    ) (
     again0 ((x5, ()), (x6, ()), (i64.wrap (x7 + 1), ()), ())
    )
  ) (
   π.ret (.int .u32 (u32.wrap (↑(BitVec.ofInt (32 : Nat) (4294967295 : Int) ^^^ BitVec.ofInt (32 : Nat) x1).toNat : Int)))
  )
def ann_Sum : Ann := { loop := [(3, [(3, 133), (6, 3), (7, 3)]), (7, [(3, 133), (6, 3), (7, 3), (16, 3)])] }
def la_Sum : LA := {}
theorem eq_Sum {W : Type} (π : Prims W) (t : ByteArray) : bodyE π Tryz.prog la_Sum ann_Sum 29 Tryz.f75 (bodyOf Tryz.f75) [.v (.string t)] [] = vc_Sum π t := by kernel_rfl
theorem ok_Sum (t : ByteArray) (R : RT) (s : PH) (h : vc_Sum (RP Tryz.prog R) t s) : DCalls Tryz.prog 75 (List.map AV.val [.v (.string t)]).toArray s R :=
 callsE (c := bodyOf Tryz.f75) la_Sum mo Tryz.func75 rfl (by kernel_rfl) Tryz.ntmps75 rfl (by kernel_rfl) (eq_Sum ..) h
def vc_long {W : Type} (π : Prims W) (n : Int) : W :=
 π.nw (Obj.cells #[(.int .u8 (u8.wrap (n.fdiv (16777216 : Int)))), (.int .u8 (u8.wrap (n.fdiv (65536 : Int)))), (.int .u8 (u8.wrap (n.fdiv (256 : Int)))), (.int .u8 (u8.wrap n))] (5 : Nat) (0, 0)) fun r0 =>
 π.b2s (some (Addr.mk r0 0 none)) ((4 : Nat)) fun t1 =>
 π.ret (.string t1)
def ann_long : Ann := {}
def la_long : LA := {}
theorem eq_long {W : Type} (π : Prims W) (n : Int) : bodyE π Tryz.prog la_long ann_long 16 Tryz.f76 (bodyOf Tryz.f76) [.v (.int .i64 n)] [] = vc_long π n := by kernel_rfl
theorem ok_long (n : Int) (R : RT) (s : PH) (h : vc_long (RP Tryz.prog R) n s) : DCalls Tryz.prog 76 (List.map AV.val [.v (.int .i64 n)]).toArray s R :=
 callsE (c := bodyOf Tryz.f76) la_long mo Tryz.func76 rfl (by kernel_rfl) Tryz.ntmps76 rfl (by kernel_rfl) (eq_long ..) h
def vc_Put {W : Type} (π : Prims W) (t : ByteArray) : W :=
 π.ite (decide ((↑t.size : Int) > 65536)) (
  π.ret (.tuple #[(.string ⟨#[]⟩), (.int .i64 30)])
 ) (
  π.call 76 #[(.int .i64 ((↑t.size : Int)))] (false, [(false, [.str])]) fun (((t0 : ByteArray), _), _) =>
  π.guard ((↑(t0.size + t.size) : Int) ≤ 9223372036854775807) <|
  π.call 75 #[(.string (t0 ++ t))] (false, [(false, [.int .u32])]) fun (((x1 : Int), _), _) =>
  π.callQ 76 #[(.int .i64 ((↑t.size : Int)))] (false, [(false, [.str])]) fun (((t2 : ByteArray), _), _) =>
  π.nw (Obj.cells #[(.int .u8 (u8.wrap x1)), (.int .u8 (u8.wrap (x1.fdiv (256 : Int)))), (.int .u8 (u8.wrap (x1.fdiv (65536 : Int)))), (.int .u8 (u8.wrap (x1.fdiv (16777216 : Int))))] (5 : Nat) (0, 0)) fun r3 =>
  π.b2s (some (Addr.mk r3 0 none)) ((4 : Nat)) fun t4 =>
  π.guard ((↑(t2.size + t4.size) : Int) ≤ 9223372036854775807) <|
  π.guard ((↑((t2 ++ t4).size + t.size) : Int) ≤ 9223372036854775807) <|
  π.ret (.tuple #[(.string (t2 ++ t4 ++ t)), (.int .i64 0)])
 )
def ann_Put : Ann := { draws := [(4, { A := [0, 1, 2, 3, 4, 5, 6, 7, 8, 9, 10, 11, 12, 13, 17], quiet := [2], eag := [16, 18, 19, 20] })],  }
def la_Put : LA := {}
theorem eq_Put {W : Type} (π : Prims W) (t : ByteArray) : bodyE π Tryz.prog la_Put ann_Put 33 Tryz.f51 (bodyOf Tryz.f51) [.v (.string t)] [] = vc_Put π t := by kernel_rfl
theorem ok_Put (t : ByteArray) (R : RT) (s : PH) (h : vc_Put (RP Tryz.prog R) t s) : DCalls Tryz.prog 51 (List.map AV.val [.v (.string t)]).toArray s R :=
 callsE (c := bodyOf Tryz.f51) la_Put mo Tryz.func51 rfl (by kernel_rfl) Tryz.ntmps51 rfl (by kernel_rfl) (eq_Put ..) h
def vc_first {W : Type} (π : Prims W) (t : ByteArray) : W :=
 π.ite (decide ((↑t.size : Int) < 8)) (
  π.ret (.tuple #[(.string ⟨#[]⟩), (.bool false)])
 ) (
  π.guard ((0 : Int) ≤ 0 ∧ 0 < (↑t.size : Int)) <|
  π.guard ((0 : Int) ≤ 1 ∧ 1 < (↑t.size : Int)) <|
  π.guard ((0 : Int) ≤ 2 ∧ 2 < (↑t.size : Int)) <|
  π.guard ((0 : Int) ≤ 3 ∧ 3 < (↑t.size : Int)) <|
  π.ite (decide (i64.wrap (↑(BitVec.ofInt (64 : Nat) (i64.wrap (↑(BitVec.ofInt (64 : Nat) (i64.wrap (↑(BitVec.ofInt (64 : Nat) (i64.wrap (i64.wrap (↑(t[(0 : Nat)]?.getD (0 : UInt8)).toNat : Int) * 16777216)) ||| BitVec.ofInt (64 : Nat) (i64.wrap (i64.wrap (↑(t[(1 : Nat)]?.getD (0 : UInt8)).toNat : Int) * 65536))).toNat : Int)) ||| BitVec.ofInt (64 : Nat) (i64.wrap (i64.wrap (↑(t[(2 : Nat)]?.getD (0 : UInt8)).toNat : Int) * 256))).toNat : Int)) ||| BitVec.ofInt (64 : Nat) (i64.wrap (↑(t[(3 : Nat)]?.getD (0 : UInt8)).toNat : Int))).toNat : Int) > 65536)) (
   π.ret (.tuple #[(.string ⟨#[]⟩), (.bool false)])
  ) (
   π.ite (decide (i64.wrap (↑(BitVec.ofInt (64 : Nat) (i64.wrap (↑(BitVec.ofInt (64 : Nat) (i64.wrap (↑(BitVec.ofInt (64 : Nat) (i64.wrap (i64.wrap (↑(t[(0 : Nat)]?.getD (0 : UInt8)).toNat : Int) * 16777216)) ||| BitVec.ofInt (64 : Nat) (i64.wrap (i64.wrap (↑(t[(1 : Nat)]?.getD (0 : UInt8)).toNat : Int) * 65536))).toNat : Int)) ||| BitVec.ofInt (64 : Nat) (i64.wrap (i64.wrap (↑(t[(2 : Nat)]?.getD (0 : UInt8)).toNat : Int) * 256))).toNat : Int)) ||| BitVec.ofInt (64 : Nat) (i64.wrap (↑(t[(3 : Nat)]?.getD (0 : UInt8)).toNat : Int))).toNat : Int) > i64.wrap ((↑t.size : Int) - 8))) (
    π.ret (.tuple #[(.string ⟨#[]⟩), (.bool false)])
   ) (
    π.guard ((0 : Int) ≤ 8 ∧ 8 ≤ i64.wrap ((8 : Int) + i64.wrap (↑(BitVec.ofInt (64 : Nat) (i64.wrap (↑(BitVec.ofInt (64 : Nat) (i64.wrap (↑(BitVec.ofInt (64 : Nat) (i64.wrap (i64.wrap (↑(t[(0 : Nat)]?.getD (0 : UInt8)).toNat : Int) * 16777216)) ||| BitVec.ofInt (64 : Nat) (i64.wrap (i64.wrap (↑(t[(1 : Nat)]?.getD (0 : UInt8)).toNat : Int) * 65536))).toNat : Int)) ||| BitVec.ofInt (64 : Nat) (i64.wrap (i64.wrap (↑(t[(2 : Nat)]?.getD (0 : UInt8)).toNat : Int) * 256))).toNat : Int)) ||| BitVec.ofInt (64 : Nat) (i64.wrap (↑(t[(3 : Nat)]?.getD (0 : UInt8)).toNat : Int))).toNat : Int)) ∧ i64.wrap ((8 : Int) + i64.wrap (↑(BitVec.ofInt (64 : Nat) (i64.wrap (↑(BitVec.ofInt (64 : Nat) (i64.wrap (↑(BitVec.ofInt (64 : Nat) (i64.wrap (i64.wrap (↑(t[(0 : Nat)]?.getD (0 : UInt8)).toNat : Int) * 16777216)) ||| BitVec.ofInt (64 : Nat) (i64.wrap (i64.wrap (↑(t[(1 : Nat)]?.getD (0 : UInt8)).toNat : Int) * 65536))).toNat : Int)) ||| BitVec.ofInt (64 : Nat) (i64.wrap (i64.wrap (↑(t[(2 : Nat)]?.getD (0 : UInt8)).toNat : Int) * 256))).toNat : Int)) ||| BitVec.ofInt (64 : Nat) (i64.wrap (↑(t[(3 : Nat)]?.getD (0 : UInt8)).toNat : Int))).toNat : Int)) ≤ (↑t.size : Int)) <|
    π.call 51 #[(.string (t.extract (8 : Nat) (i64.wrap ((8 : Int) + i64.wrap (↑(BitVec.ofInt (64 : Nat) (i64.wrap (↑(BitVec.ofInt (64 : Nat) (i64.wrap (↑(BitVec.ofInt (64 : Nat) (i64.wrap (i64.wrap (↑(t[(0 : Nat)]?.getD (0 : UInt8)).toNat : Int) * 16777216)) ||| BitVec.ofInt (64 : Nat) (i64.wrap (i64.wrap (↑(t[(1 : Nat)]?.getD (0 : UInt8)).toNat : Int) * 65536))).toNat : Int)) ||| BitVec.ofInt (64 : Nat) (i64.wrap (i64.wrap (↑(t[(2 : Nat)]?.getD (0 : UInt8)).toNat : Int) * 256))).toNat : Int)) ||| BitVec.ofInt (64 : Nat) (i64.wrap (↑(t[(3 : Nat)]?.getD (0 : UInt8)).toNat : Int))).toNat : Int))).toNat))] (true, [(false, [.str]), (false, [.int .i64])]) fun (((t0 : ByteArray), _), ((x1 : Int), _), _) =>
    π.guard ((0 : Int) ≤ 8 ∧ 8 ≤ i64.wrap ((8 : Int) + i64.wrap (↑(BitVec.ofInt (64 : Nat) (i64.wrap (↑(BitVec.ofInt (64 : Nat) (i64.wrap (↑(BitVec.ofInt (64 : Nat) (i64.wrap (i64.wrap (↑(t[(0 : Nat)]?.getD (0 : UInt8)).toNat : Int) * 16777216)) ||| BitVec.ofInt (64 : Nat) (i64.wrap (i64.wrap (↑(t[(1 : Nat)]?.getD (0 : UInt8)).toNat : Int) * 65536))).toNat : Int)) ||| BitVec.ofInt (64 : Nat) (i64.wrap (i64.wrap (↑(t[(2 : Nat)]?.getD (0 : UInt8)).toNat : Int) * 256))).toNat : Int)) ||| BitVec.ofInt (64 : Nat) (i64.wrap (↑(t[(3 : Nat)]?.getD (0 : UInt8)).toNat : Int))).toNat : Int)) ∧ i64.wrap ((8 : Int) + i64.wrap (↑(BitVec.ofInt (64 : Nat) (i64.wrap (↑(BitVec.ofInt (64 : Nat) (i64.wrap (↑(BitVec.ofInt (64 : Nat) (i64.wrap (i64.wrap (↑(t[(0 : Nat)]?.getD (0 : UInt8)).toNat : Int) * 16777216)) ||| BitVec.ofInt (64 : Nat) (i64.wrap (i64.wrap (↑(t[(1 : Nat)]?.getD (0 : UInt8)).toNat : Int) * 65536))).toNat : Int)) ||| BitVec.ofInt (64 : Nat) (i64.wrap (i64.wrap (↑(t[(2 : Nat)]?.getD (0 : UInt8)).toNat : Int) * 256))).toNat : Int)) ||| BitVec.ofInt (64 : Nat) (i64.wrap (↑(t[(3 : Nat)]?.getD (0 : UInt8)).toNat : Int))).toNat : Int)) ≤ (↑t.size : Int)) <|
    π.guard ((0 : Int) ≤ 0 ∧ 0 ≤ i64.wrap ((8 : Int) + i64.wrap (↑(BitVec.ofInt (64 : Nat) (i64.wrap (↑(BitVec.ofInt (64 : Nat) (i64.wrap (↑(BitVec.ofInt (64 : Nat) (i64.wrap (i64.wrap (↑(t[(0 : Nat)]?.getD (0 : UInt8)).toNat : Int) * 16777216)) ||| BitVec.ofInt (64 : Nat) (i64.wrap (i64.wrap (↑(t[(1 : Nat)]?.getD (0 : UInt8)).toNat : Int) * 65536))).toNat : Int)) ||| BitVec.ofInt (64 : Nat) (i64.wrap (i64.wrap (↑(t[(2 : Nat)]?.getD (0 : UInt8)).toNat : Int) * 256))).toNat : Int)) ||| BitVec.ofInt (64 : Nat) (i64.wrap (↑(t[(3 : Nat)]?.getD (0 : UInt8)).toNat : Int))).toNat : Int)) ∧ i64.wrap ((8 : Int) + i64.wrap (↑(BitVec.ofInt (64 : Nat) (i64.wrap (↑(BitVec.ofInt (64 : Nat) (i64.wrap (↑(BitVec.ofInt (64 : Nat) (i64.wrap (i64.wrap (↑(t[(0 : Nat)]?.getD (0 : UInt8)).toNat : Int) * 16777216)) ||| BitVec.ofInt (64 : Nat) (i64.wrap (i64.wrap (↑(t[(1 : Nat)]?.getD (0 : UInt8)).toNat : Int) * 65536))).toNat : Int)) ||| BitVec.ofInt (64 : Nat) (i64.wrap (i64.wrap (↑(t[(2 : Nat)]?.getD (0 : UInt8)).toNat : Int) * 256))).toNat : Int)) ||| BitVec.ofInt (64 : Nat) (i64.wrap (↑(t[(3 : Nat)]?.getD (0 : UInt8)).toNat : Int))).toNat : Int)) ≤ (↑t.size : Int)) <|
    π.ret (.tuple #[(.string (t.extract (8 : Nat) (i64.wrap ((8 : Int) + i64.wrap (↑(BitVec.ofInt (64 : Nat) (i64.wrap (↑(BitVec.ofInt (64 : Nat) (i64.wrap (↑(BitVec.ofInt (64 : Nat) (i64.wrap (i64.wrap (↑(t[(0 : Nat)]?.getD (0 : UInt8)).toNat : Int) * 16777216)) ||| BitVec.ofInt (64 : Nat) (i64.wrap (i64.wrap (↑(t[(1 : Nat)]?.getD (0 : UInt8)).toNat : Int) * 65536))).toNat : Int)) ||| BitVec.ofInt (64 : Nat) (i64.wrap (i64.wrap (↑(t[(2 : Nat)]?.getD (0 : UInt8)).toNat : Int) * 256))).toNat : Int)) ||| BitVec.ofInt (64 : Nat) (i64.wrap (↑(t[(3 : Nat)]?.getD (0 : UInt8)).toNat : Int))).toNat : Int))).toNat)), (.bool (t0.toList == (t.extract (0 : Nat) (i64.wrap ((8 : Int) + i64.wrap (↑(BitVec.ofInt (64 : Nat) (i64.wrap (↑(BitVec.ofInt (64 : Nat) (i64.wrap (↑(BitVec.ofInt (64 : Nat) (i64.wrap (i64.wrap (↑(t[(0 : Nat)]?.getD (0 : UInt8)).toNat : Int) * 16777216)) ||| BitVec.ofInt (64 : Nat) (i64.wrap (i64.wrap (↑(t[(1 : Nat)]?.getD (0 : UInt8)).toNat : Int) * 65536))).toNat : Int)) ||| BitVec.ofInt (64 : Nat) (i64.wrap (i64.wrap (↑(t[(2 : Nat)]?.getD (0 : UInt8)).toNat : Int) * 256))).toNat : Int)) ||| BitVec.ofInt (64 : Nat) (i64.wrap (↑(t[(3 : Nat)]?.getD (0 : UInt8)).toNat : Int))).toNat : Int))).toNat).toList))])
   )
  )
 )
def ann_first : Ann := { draws := [(3, { A := [0, 1, 2, 3, 4, 5, 6, 7, 8, 9, 10, 11, 12, 13, 14, 15, 16, 17, 18] }), (7, { A := [0, 1, 2, 3, 4, 5, 6, 7, 8, 9, 10, 11] })],  }
def la_first : LA := {}
theorem eq_first {W : Type} (π : Prims W) (t : ByteArray) : bodyE π Tryz.prog la_first ann_first 55 Tryz.f80 (bodyOf Tryz.f80) [.v (.string t)] [] = vc_first π t := by kernel_rfl
theorem ok_first (t : ByteArray) (R : RT) (s : PH) (h : vc_first (RP Tryz.prog R) t s) : DCalls Tryz.prog 80 (List.map AV.val [.v (.string t)]).toArray s R :=
 callsE (c := bodyOf Tryz.f80) la_first mo Tryz.func80 rfl (by kernel_rfl) Tryz.ntmps80 rfl (by kernel_rfl) (eq_first ..) h
def vc_Scan {W : Type} (π : Prims W) (t : ByteArray) : W :=
 π.loop [(false, [.slice]), (false, [.int .i64])] (((none, (0 : Nat), (0 : Nat)), ()), ((0 : Int), ()), ()) fun ((((a1 : Option Addr), (n2 : Nat), (c3 : Nat)), _), ((x4 : Int), _), _) again0 =>
  π.guard (0 ≤ x4 ∧ x4 ≤ (↑t.size : Int) ∧ (↑t.size : Int) ≤ (↑t.size : Int)) <|
  π.call 80 #[(.string (t.extract x4.toNat (↑t.size : Int).toNat))] (true, [(false, [.str]), (false, [.bool])]) fun (((t5 : ByteArray), _), ((b6 : Bool), _), _) =>
  π.ite (!b6) (
   π.ret (.tuple #[(.slice a1 n2 c3), (.int .i64 x4)])
  ) (
   π.nw (Obj.cells #[(.string t5)] (9 : Nat) (0, 0)) fun r7 =>
   π.app (9 : Nat) (1 : Nat) (16 : Nat) [(.string ⟨#[]⟩)] (a1) (n2) (c3) (Src.sl (some (Addr.mk r7 0 none)) (1 : Nat)) fun a8 n9 c10 =>
   again0 (((a8, n9, c10), ()), (i64.wrap (x4 + i64.wrap ((8 : Int) + (↑t5.size : Int))), ()), ())
  )
def ann_Scan : Ann := { loop := [(3, [(4, 28), (5, 3)])] }
def la_Scan : LA := {}
theorem eq_Scan {W : Type} (π : Prims W) (t : ByteArray) : bodyE π Tryz.prog la_Scan ann_Scan 28 Tryz.f53 (bodyOf Tryz.f53) [.v (.string t)] [] = vc_Scan π t := by kernel_rfl
theorem ok_Scan (t : ByteArray) (R : RT) (s : PH) (h : vc_Scan (RP Tryz.prog R) t s) : DCalls Tryz.prog 53 (List.map AV.val [.v (.string t)]).toArray s R :=
 callsE (c := bodyOf Tryz.f53) la_Scan mo Tryz.func53 rfl (by kernel_rfl) Tryz.ntmps53 rfl (by kernel_rfl) (eq_Scan ..) h
def vc_Same {W : Type} (π : Prims W) (a : Option Addr) (n c : Nat) (a2 : Option Addr) (n2 c2 : Nat) : W :=
 π.ite ((↑n : Int) != (↑n2 : Int)) (
  π.ret (.bool false)
 ) (
  π.loop [(false, [.int .i64])] (((0 : Int), ()), ()) fun (((x1 : Int), _), _) again0 =>
   π.ite (decide (x1 < (↑n : Int))) (
    π.guard (0 ≤ x1 ∧ x1 < (↑n : Int)) <|
    π.unSome (a) fun p2 =>
    π.ld [.str] (p2.add (x1.toNat * 1)) fun ((t3 : ByteArray), _) =>
    π.guard (0 ≤ x1 ∧ x1 < (↑n2 : Int)) <|
    π.unSome (a2) fun p4 =>
    π.ld [.str] (p4.add (x1.toNat * 1)) fun ((t5 : ByteArray), _) =>
    π.ite (!t3.toList == t5.toList) (
     π.ret (.bool false)
    ) (
     again0 ((i64.wrap (x1 + 1), ()), ())
    )
   ) (
    π.ret (.bool true)
   )
 )
def ann_Same : Ann := { draws := [(6, { A := [0, 1, 2, 3, 4, 5, 6, 7, 8] })], loop := [(4, [(5, 3)])] }
def la_Same : LA := {}
theorem eq_Same {W : Type} (π : Prims W) (a : Option Addr) (n c : Nat) (a2 : Option Addr) (n2 c2 : Nat) : bodyE π Tryz.prog la_Same ann_Same 26 Tryz.f21 (bodyOf Tryz.f21) [.v (.slice a n c), .v (.slice a2 n2 c2)] [] = vc_Same π a n c a2 n2 c2 := by kernel_rfl
theorem ok_Same (a : Option Addr) (n c : Nat) (a2 : Option Addr) (n2 c2 : Nat) (R : RT) (s : PH) (h : vc_Same (RP Tryz.prog R) a n c a2 n2 c2 s) : DCalls Tryz.prog 21 (List.map AV.val [.v (.slice a n c), .v (.slice a2 n2 c2)]).toArray s R :=
 callsE (c := bodyOf Tryz.f21) la_Same mo Tryz.func21 rfl (by kernel_rfl) Tryz.ntmps21 rfl (by kernel_rfl) (eq_Same ..) h
def vc_Open {W : Type} (π : Prims W) (b : Nat) (nm : ByteArray) : W :=
 π.call 82 #[(.pointer (some (Addr.mk b 0 none))), (.string nm)] (true, [(false, [.str]), (false, [.int .i64])]) fun (((t0 : ByteArray), _), ((x1 : Int), _), _) =>
 π.ite (x1 != 0) (
  π.ret (.tuple #[(.pointer none), (.slice none 0 0), (.int .i64 x1)])
 ) (
  π.call 53 #[(.string t0)] (true, [(false, [.slice]), (false, [.int .i64])]) fun ((((a2 : Option Addr), (n3 : Nat), (c4 : Nat)), _), ((x5 : Int), _), _) =>
  π.ite (decide (x5 < (↑t0.size : Int))) (
   π.guard ((0 : Int) ≤ 0 ∧ 0 ≤ x5 ∧ x5 ≤ (↑t0.size : Int)) <|
   π.call 83 #[(.pointer (some (Addr.mk b 0 none))), (.string nm), (.string (t0.extract (0 : Nat) x5.toNat))] (false, [(false, [.int .i64])]) fun (((x6 : Int), _), _) =>
   π.ite (x6 != 0) (
    π.ret (.tuple #[(.pointer none), (.slice none 0 0), (.int .i64 x6)])
   ) (
    π.nw (Obj.cells #[(.pointer (some (Addr.mk b 0 none))), (.string nm)] (147 : Nat) (0, 0)) fun r7 =>
    π.ret (.tuple #[(.pointer (some (Addr.mk r7 0 none))), (.slice a2 n3 c4), (.int .i64 0)])
   )
  ) (
   π.nw (Obj.cells #[(.pointer (some (Addr.mk b 0 none))), (.string nm)] (147 : Nat) (0, 0)) fun r8 =>
   π.ret (.tuple #[(.pointer (some (Addr.mk r8 0 none))), (.slice a2 n3 c4), (.int .i64 0)])
  )
 )
def ann_Open : Ann := {}
def la_Open : LA := {}
theorem eq_Open {W : Type} (π : Prims W) (b : Nat) (nm : ByteArray) : bodyE π Tryz.prog la_Open ann_Open 44 Tryz.f57 (bodyOf Tryz.f57) [.v (.pointer (some ⟨b, 0, none⟩)), .v (.string nm)] [] = vc_Open π b nm := by kernel_rfl
theorem ok_Open (b : Nat) (nm : ByteArray) (R : RT) (s : PH) (h : vc_Open (RP Tryz.prog R) b nm s) : DCalls Tryz.prog 57 (List.map AV.val [.v (.pointer (some ⟨b, 0, none⟩)), .v (.string nm)]).toArray s R :=
 callsE (c := bodyOf Tryz.f57) la_Open mo Tryz.func57 rfl (by kernel_rfl) Tryz.ntmps57 rfl (by kernel_rfl) (eq_Open ..) h
def vc_records {W : Type} (π : Prims W) (x : Nat) (a : Option Addr) (n c : Nat) : W :=
 π.ite ((some (Addr.mk x 0 none)).isNone) (
  π.ret (.tuple #[(.string ⟨#[]⟩), (.int .i64 2)])
 ) (
  π.loop [(false, [.str]), (false, [.slice]), (false, [.int .i64]), (false, [.int .i64])] ((ByteArray.mk #[], ()), ((a, n, c), ()), ((↑n : Int), ()), ((0 : Int), ()), ()) fun (((t1 : ByteArray), _), (((a2 : Option Addr), (n3 : Nat), (c4 : Nat)), _), ((x5 : Int), _), ((x6 : Int), _), _) again0 =>
   π.ite (decide (x6 < x5)) (
    π.guard (0 ≤ x6 ∧ x6 < (↑n3 : Int)) <|
    π.unSome (a2) fun p7 =>
    π.ld [.str] (p7.add (x6.toNat * 1)) fun ((t8 : ByteArray), _) =>
    π.call 51 #[(.string t8)] (true, [(false, [.str]), (false, [.int .i64])]) fun (((t9 : ByteArray), _), ((x10 : Int), _), _) =>
    π.ite (x10 != 0) (
     π.ret (.tuple #[(.string ⟨#[]⟩), (.int .i64 x10)])
    ) (
     π.guard ((↑(t1.size + t9.size) : Int) ≤ 9223372036854775807) <|
     again0 ((t1 ++ t9, ()), ((a2, n3, c4), ()), (x5, ()), (i64.wrap (x6 + 1), ()), ())
    )
   ) (
    π.ret (.tuple #[(.string t1), (.int .i64 0)])
   )
 )
def ann_records : Ann := { loop := [(5, [(6, 9), (13, 28), (14, 3), (15, 3)])] }
def la_records : LA := {}
theorem eq_records {W : Type} (π : Prims W) (x : Nat) (a : Option Addr) (n c : Nat) : bodyE π Tryz.prog la_records ann_records 32 Tryz.f98 (bodyOf Tryz.f98) [.v (.pointer (some ⟨x, 0, none⟩)), .v (.slice a n c)] [] = vc_records π x a n c := by kernel_rfl
theorem ok_records (x : Nat) (a : Option Addr) (n c : Nat) (R : RT) (s : PH) (h : vc_records (RP Tryz.prog R) x a n c s) : DCalls Tryz.prog 98 (List.map AV.val [.v (.pointer (some ⟨x, 0, none⟩)), .v (.slice a n c)]).toArray s R :=
 callsE (c := bodyOf Tryz.f98) la_records mo Tryz.func98 rfl (by kernel_rfl) Tryz.ntmps98 rfl (by kernel_rfl) (eq_records ..) h
def vc_dAppend {W : Type} (π : Prims W) (x : Nat) (a : Option Addr) (n c : Nat) : W :=
 π.call 98 #[(.pointer (some (Addr.mk x 0 none))), (.slice a n c)] (true, [(false, [.str]), (false, [.int .i64])]) fun (((t0 : ByteArray), _), ((x1 : Int), _), _) =>
 π.join [(false, [.str])] (fun J2 =>
  π.ite (x1 != 0) (
   π.ret (.int .i64 x1)
  ) (
   π.ite ((↑n : Int) == 0) (
    π.ret (.int .i64 x1)
   ) (
    J2 ((t0, ()), ())
   )
  )
 ) (fun (((t3 : ByteArray), _), _) =>
  π.unSome (some (Addr.mk x 0 none)) fun p4 =>
  π.ld [.ptr] (p4.add 0) fun (p5, _) =>
  π.unSome (some (Addr.mk x 0 none)) fun p6 =>
  π.ld [.str] (p6.add 1) fun ((t7 : ByteArray), _) =>
  π.call 99 #[(.pointer (p5)), (.string t7), (.string t3)] (false, [(false, [.int .i64])]) fun (((x8 : Int), _), _) =>
  π.ite (x8 != 0) (
   π.ret (.int .i64 x8)
  ) (
   π.unSome (some (Addr.mk x 0 none)) fun p9 =>
   π.ld [.ptr] (p9.add 0) fun (p10, _) =>
   π.unSome (some (Addr.mk x 0 none)) fun p11 =>
   π.ld [.str] (p11.add 1) fun ((t12 : ByteArray), _) =>
   π.call 100 #[(.pointer (p10)), (.string t12)] (false, [(false, [.int .i64])]) fun (((x13 : Int), _), _) =>
   π.ret (.int .i64 x13)
  )
 )
def ann_dAppend : Ann := { draws := [(4, { A := [0, 1, 2, 3, 4, 5, 6, 7, 8], eag := [10] }), (7, { A := [0, 1, 2, 3, 4, 5, 6, 7], eag := [9] })], join := [(4, [(5, 9)])],  }
def la_dAppend : LA := {}
theorem eq_dAppend {W : Type} (π : Prims W) (x : Nat) (a : Option Addr) (n c : Nat) : bodyE π Tryz.prog la_dAppend ann_dAppend 44 Tryz.f63 (bodyOf Tryz.f63) [.v (.pointer (some ⟨x, 0, none⟩)), .v (.slice a n c)] [] = vc_dAppend π x a n c := by kernel_rfl
theorem ok_dAppend (x : Nat) (a : Option Addr) (n c : Nat) (R : RT) (s : PH) (h : vc_dAppend (RP Tryz.prog R) x a n c s) : DCalls Tryz.prog 63 (List.map AV.val [.v (.pointer (some ⟨x, 0, none⟩)), .v (.slice a n c)]).toArray s R :=
 callsE (c := bodyOf Tryz.f63) la_dAppend mo Tryz.func63 rfl (by kernel_rfl) Tryz.ntmps63 rfl (by kernel_rfl) (eq_dAppend ..) h
def vc_dRewrite {W : Type} (π : Prims W) (x : Nat) (a : Option Addr) (n c : Nat) : W :=
 π.call 98 #[(.pointer (some (Addr.mk x 0 none))), (.slice a n c)] (true, [(false, [.str]), (false, [.int .i64])]) fun (((t0 : ByteArray), _), ((x1 : Int), _), _) =>
 π.ite (x1 != 0) (
  π.ret (.int .i64 x1)
 ) (
  π.unSome (some (Addr.mk x 0 none)) fun p2 =>
  π.ld [.ptr] (p2.add 0) fun (p3, _) =>
  π.unSome (some (Addr.mk x 0 none)) fun p4 =>
  π.ld [.str] (p4.add 1) fun ((t5 : ByteArray), _) =>
  π.call 83 #[(.pointer (p3)), (.string t5), (.string t0)] (false, [(false, [.int .i64])]) fun (((x6 : Int), _), _) =>
  π.ret (.int .i64 x6)
 )
def ann_dRewrite : Ann := { draws := [(4, { A := [0, 1, 2, 3, 4, 5, 6, 7, 8], eag := [10] })],  }
def la_dRewrite : LA := {}
theorem eq_dRewrite {W : Type} (π : Prims W) (x : Nat) (a : Option Addr) (n c : Nat) : bodyE π Tryz.prog la_dRewrite ann_dRewrite 26 Tryz.f64 (bodyOf Tryz.f64) [.v (.pointer (some ⟨x, 0, none⟩)), .v (.slice a n c)] [] = vc_dRewrite π x a n c := by kernel_rfl
theorem ok_dRewrite (x : Nat) (a : Option Addr) (n c : Nat) (R : RT) (s : PH) (h : vc_dRewrite (RP Tryz.prog R) x a n c s) : DCalls Tryz.prog 64 (List.map AV.val [.v (.pointer (some ⟨x, 0, none⟩)), .v (.slice a n c)]).toArray s R :=
 callsE (c := bodyOf Tryz.f64) la_dRewrite mo Tryz.func64 rfl (by kernel_rfl) Tryz.ntmps64 rfl (by kernel_rfl) (eq_dRewrite ..) h
end
end Go.Proofs.YtcdggocbjnmeaaaGreat
