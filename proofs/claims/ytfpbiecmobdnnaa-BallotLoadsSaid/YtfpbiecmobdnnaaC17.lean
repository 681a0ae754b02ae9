/-
  The document's ballot in memory, and what its small functions do.
  Conditions: none; it proves no statement by itself.
-/
import Derived.Test.YtfpbiecmobdnnaaC16
import Derived.Test.YtfpbiecmobdnnaaVc5
set_option linter.unusedVariables false
set_option linter.unusedSimpArgs false
set_option maxHeartbeats 1000000
namespace Go.Proofs.Ytfpbiecmobdnnaa
open Fw Go
attribute [-simp] Fw.W.ld_iff Fw.W.st_iff

/-- THE DOCUMENT'S BALLOT: the same plain state; its rows are of five -/
structure RS where
  has : Nat → Bool
  next : Nat → Int
  mat : Nat → Int
abbrev refCells (B : BS) (X : RS) (l o : Tri) : Array Value :=
  #[.int .i64 B.id, .int .i64 B.size, .int .i64 B.term, .int .i64 B.vote, .int .i64 B.role, .int .i64 B.lead, .int .i64 B.base, .int .i64 B.baseTerm, .string B.snap, .slice l.1 l.2.1 l.2.2,
    .bool (X.has 0), .bool (X.has 1), .bool (X.has 2), .bool (X.has 3), .bool (X.has 4), .int .i64 (X.next 0), .int .i64 (X.next 1), .int .i64 (X.next 2), .int .i64 (X.next 3), .int .i64 (X.next 4),
    .int .i64 (X.mat 0), .int .i64 (X.mat 1), .int .i64 (X.mat 2), .int .i64 (X.mat 3), .int .i64 (X.mat 4), .int .i64 B.commit, .bool B.touched, .bool B.whole, .int .i64 B.from_, .slice o.1 o.2.1 o.2.2]
structure Ref (s : PH) (r : Nat) (l o : Tri) (ps : List (Msg × Tri)) (B : BS) (X : RS) : Prop where
  cell : s r = some (.cells (refCells B X l o) 78 (0, 0))
  log : rowE entE s 39 l.1 l.2.1 l.2.2 B.log
  out : Msgs s o ps
  apart : ∀ p ∈ ps, ∀ x ∈ Fw.blk p.2.1, x ∉ Fw.blk l.1
/-- the blocks of the document's ballot -/
def rL (r : Nat) (l o : Tri) (ps : List (Msg × Tri)) : List Nat := r :: (Fw.blk l.1 ++ mF o ps)

section
variable {s s' : PH} {r : Nat} {l o : Tri} {ps : List (Msg × Tri)} {B : BS} {X : RS}
theorem Ref.known (h : Ref s r l o ps B X) : ∀ x ∈ rL r l o ps, s x ≠ none := by
  intro x hx
  simp only [rL, List.mem_cons, List.mem_append] at hx
  rcases hx with rfl | hx | hx
  · simp [h.cell]
  · exact h.log.known x hx
  · exact h.out.known x hx
theorem Ref.mod {M : List Nat} (h : Ref s r l o ps B X) (hm : Fw.Mod M s s') (hd : ∀ x ∈ rL r l o ps, x ∉ M) : Ref s' r l o ps B X := by
  simp only [rL, List.mem_cons, List.mem_append] at hd
  exact ⟨hm.at h.cell (hd r (.inl rfl)), h.log.mod hm fun x hx => hd x (.inr (.inl hx)), h.out.mod hm fun x hx => hd x (.inr (.inr hx)), h.apart⟩
theorem Ref.new (h : Ref s r l o ps B X) (hm : Fw.Mod [] s s') : Ref s' r l o ps B X := h.mod hm (by simp)
/-- its own cells are laid anew -/
theorem refOf {c : Array Value} (hr : s r = some (.cells c 78 (0, 0))) {B' : BS} {X' : RS} {l' o' : Tri} {ps' : List (Msg × Tri)} (h1 : rowE entE s 39 l'.1 l'.2.1 l'.2.2 B'.log) (h2 : Msgs s o' ps') (h3 : ∀ p ∈ ps', ∀ x ∈ Fw.blk p.2.1, x ∉ Fw.blk l'.1)
    {ob : Obj} (ho : ob = .cells (refCells B' X' l' o') 78 (0, 0) := by rfl) : Ref (s.upd r ob) r l' o' ps' B' X' := by
  subst ho
  have hm : Fw.Mod [r] s (s.upd r (.cells (refCells B' X' l' o') 78 (0, 0))) := Mod.upd (by simp)
  refine ⟨PH.upd_same _ _ _, h1.mod hm fun x hx => by simp; rintro rfl; exact row_ne2 h1 hr (by decide) hx, h2.mod hm fun x hx => ?_, h3⟩
  simp only [mF, List.mem_append, List.mem_flatMap] at hx
  simp; rintro rfl
  rcases hx with hx | ⟨p, hp, hx⟩
  · exact row_ne2 h2.row hr (by decide) hx
  · exact row_ne2 (h2.lists p hp) hr (by decide) hx
theorem Ref.lay (h : Ref s r l o ps B X) {B' : BS} {X' : RS} {ob : Obj} (e1 : B'.log = B.log := by rfl) (ho : ob = .cells (refCells B' X' l o) 78 (0, 0) := by rfl) : Ref (s.upd r ob) r l o ps B' X' :=
  refOf h.cell (by rw [e1]; exact h.log) h.out h.apart ho

theorem c_rLast (h : Ref s r l o ps B X) (hs : B.Small) : DCalls Try.prog 37 #[bptr r] s fun x s' => x = .int .i64 B.lst ∧ s' = s := by
  refine ok_rLast r _ s ?_
  have hb := h.cell
  have hl := h.log.len
  unfold vc_rLast
  simp [W.ld_at hb]
  rw [hl, hs.last]
def BS.rTerm (B : BS) (i : Int) : Int := if i = B.base then B.baseTerm else if i < B.base ∨ B.lst < i then -1 else ((B.entry i).getD noEnt).term
theorem c_rTermAt (h : Ref s r l o ps B X) (hs : B.Small) {i : Int} (hi : Num i) : DCalls Try.prog 58 #[bptr r, .int .i64 i] s fun x s' => x = .int .i64 (B.rTerm i) ∧ s' = s := by
  refine ok_rTermAt r i _ s ?_
  have hb := h.cell
  unfold vc_rTermAt
  simp [W.ld_at hb, W.br_iff]
  refine ⟨fun h1 => by unfold BS.rTerm; rw [if_pos h1], fun h1 => ⟨fun h2 => by unfold BS.rTerm; rw [if_neg h1, if_pos (.inl h2)], fun h2 => ?_⟩⟩
  refine W.call_of (c_rLast h hs) ?_
  rintro _ _ ⟨rfl, rfl⟩
  refine ⟨((B.lst, ()), ()), rfl, ?_⟩
  simp [W.ld_at hb, W.br_iff]
  refine ⟨fun h3 => by unfold BS.rTerm; rw [if_neg h1, if_pos (.inr h3)], fun h3 => ?_⟩
  obtain ⟨e, he, he'⟩ := BS.entry_in (B := B) (i := i) (by omega) (by omega)
  obtain ⟨g, hg, hhas⟩ := h.log.at he'
  have hn := h.log.len
  obtain ⟨i1, i2⟩ := hi
  obtain ⟨q1, q2, q3⟩ := hs
  obtain ⟨k, hk⟩ : ∃ k : Nat, (i - B.base - 1).toNat = k := ⟨_, rfl⟩
  have hw : IntKind.i64.wrap (IntKind.i64.wrap (i - B.base) - 1) = (k : Int) := by
    unfold BS.lst at h3
    rw [wrap_in (n := i - B.base) (by omega) (by omega), wrap_in (by omega) (by omega)]; omega
  have hlt := (List.getElem?_eq_some_iff.1 he').1
  rw [hk] at hhas hlt
  rw [hg]
  simp [hw]
  refine ⟨by omega, ?_⟩
  refine ld_has_z (A := ⟨g, k * 4, none⟩) hhas (cs := [.int .i64]) (y := (e.term, ())) rfl ?_
  show _ ∧ _
  refine ⟨?_, rfl⟩
  unfold BS.rTerm
  rw [if_neg h1, if_neg (by omega), he]; rfl
theorem rTerm_eq {B : BS} {i : Int} (h : (B.termAt i).2 = true) : B.rTerm i = (B.termAt i).1 := by
  unfold BS.termAt at h ⊢
  unfold BS.rTerm
  split
  · rfl
  · rename_i h1
    rw [if_neg h1] at h
    rw [if_neg]
    intro hc
    rw [B.entry_out (by omega)] at h
    simp at h

def noRS : RS := ⟨fun _ => false, fun _ => 0, fun _ => 0⟩
def rNewPost (id size : Int) (s : PH) (x : Value) (s' : PH) : Prop :=
  (okNew id size ∧ ∃ r, x = .tuple #[bptr r, .bool true] ∧ Ref s' r noTri noTri [] (newBS id size) noRS ∧ Fw.Mod [] s s' ∧ s r = none) ∨ (¬ okNew id size ∧ x = .tuple #[.pointer none, .bool false] ∧ s' = s)
theorem c_rNew (id size : Int) (s : PH) : DCalls Try.prog 13 #[.int .i64 id, .int .i64 size] s (rNewPost id size s) := by
  refine ok_rNew id size _ s ?_
  unfold vc_rNew
  have hno : ¬ okNew id size → rNewPost id size s (.tuple #[.pointer none, .bool false]) s := fun h => .inr ⟨h, rfl, rfl⟩
  simp [W.br_iff]
  refine ⟨fun h => hno (by unfold okNew; omega), fun h1 => ⟨fun h => hno (by unfold okNew; omega), fun h2 => ⟨fun h => hno (by unfold okNew; omega), fun h3 => ⟨fun h => hno (by unfold okNew; omega), fun h4 => ?_⟩⟩⟩⟩
  intro r hr
  exact .inl ⟨by unfold okNew; omega, r, rfl, ⟨PH.upd_same _ _ _, rowE.nil, Msgs.nil _, by simp⟩, Mod.new hr, hr⟩
end
end Go.Proofs.Ytfpbiecmobdnnaa
