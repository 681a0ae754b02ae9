/-
  The document's diary, over the heap.
  Conditions: none; it proves no statement by itself.
-/
import Derived.Test.YtcdggocbjnmeaaaDT7
set_option linter.unusedVariables false
set_option linter.unusedSimpArgs false
set_option maxHeartbeats 4000000
set_option maxRecDepth 100000
namespace Go.Proofs.Ytcdggocbjnmeaaa
open Fw Go
attribute [-simp] Fw.W.ld_iff Fw.W.st_iff

/-- what an opening hands out -/
structure OpenedQ (s : PH) (r : List ByteArray × Int) (D : Nat → PH → Prop) (y : Value) (s' : PH) : Prop where
  ex : ∃ px a c, y = .tuple #[.pointer px, .slice a r.1.length c, .int .i64 r.2] ∧ rowE strE s' 9 a r.1.length c r.1 ∧ (∀ g ∈ Fw.blk a, s g = none) ∧ ((r.2 = 0 ∧ ∃ x, px = some ⟨x, 0, none⟩ ∧ D x s') ∨ (r.2 ≠ 0 ∧ px = none))
def QIs (s : PH) (y r : Nat) (nm : ByteArray) : Prop := s y = some (.cells #[.pointer (some ⟨r, 0, none⟩), .string nm] 69 (0, 0))
theorem QIs.mod {L : List Nat} {s s' : PH} {y r : Nat} {nm : ByteArray} (h : QIs s y r nm) (m : Fw.Mod L s s') (hx : y ∉ L) : QIs s' y r nm := m.at h hx
section
variable {s : PH} {r : Nat} {L : List Nat} {e : DS}
theorem RefIs.types (h : RefIs s r L e) {g : Nat} (hg : g ∈ L) : ∃ cur, s g = some (.cells cur 43 (0, 0)) ∨ s g = some (.cells cur 76 (0, 0)) := by
  obtain ⟨a, n, c, rfl, hr, hrow⟩ := h.ex
  rcases List.mem_cons.1 hg with rfl | hg
  · exact ⟨_, .inl hr⟩
  · rcases hrow.shape with ⟨rfl, _⟩ | ⟨g', rfl⟩
    · simp [Fw.blk] at hg
    · simp [Fw.blk] at hg; subst hg
      obtain ⟨cur, hc⟩ := hrow.ty rfl
      exact ⟨cur, .inr hc⟩
theorem RefIs.offQ (h : RefIs s r L e) {y r' : Nat} {nm : ByteArray} (hq : QIs s y r' nm) : y ∉ L := fun hg => by
  obtain ⟨cur, h1 | h1⟩ := h.types hg <;> (unfold QIs at hq; rw [hq] at h1; cases h1)
theorem RefIs.offX (h : RefIs s r L e) {x b : Nat} {nm : ByteArray} (hq : DiaryIs s x b nm) : x ∉ L := fun hg => by
  obtain ⟨cur, h1 | h1⟩ := h.types hg <;> (unfold DiaryIs at hq; rw [hq] at h1; cases h1)
theorem RefIs.offD (h : RefIs s r L e) {b m : Nat} {d : DS} (hd : DriveIs s b m d) : b ∉ L ∧ m ∉ L := by
  refine ⟨fun hg => ?_, fun hg => ?_⟩
  · have := hd.blk
    obtain ⟨cur, h1 | h1⟩ := h.types hg <;> (rw [this] at h1; cases h1)
  · obtain ⟨es, c, h2, _⟩ := hd.map
    obtain ⟨cur, h1 | h1⟩ := h.types hg <;> (rw [h2] at h1; cases h1)
theorem RefIs.offD' (h : RefIs s r L e) {b m : Nat} {d : DS} (hd : DriveIs s b m d) : ∀ x ∈ L, x ∉ [b, m] := by
  intro x hx e
  simp at e
  rcases e with rfl | rfl
  · exact (h.offD hd).1 hx
  · exact (h.offD hd).2 hx
theorem QIs.off {y r : Nat} {nm : ByteArray} (hq : QIs s y r nm) {b m : Nat} {d : DS} (hd : DriveIs s b m d) : y ∉ [b, m] := by
  intro hx
  simp at hx
  unfold QIs at hq
  rcases hx with rfl | rfl
  · have := hd.blk; rw [hq] at this; cases this
  · obtain ⟨es, c, h1, _⟩ := hd.map; rw [hq] at h1; cases h1
theorem RefIs.offS (h : RefIs s r L e) {a : Option Addr} {n c : Nat} {xs : List ByteArray} (hr : rowE strE s 9 a n c xs) : ∀ g ∈ Fw.blk a, g ∉ L := fun g hg hl => by
  obtain ⟨cur, hc⟩ := str_off hr hg
  obtain ⟨cur2, h1 | h1⟩ := h.types hl <;> (rw [hc] at h1; cases h1)
theorem drv_offS {b m : Nat} {d : DS} (hd : DriveIs s b m d) {a : Option Addr} {n c : Nat} {xs : List ByteArray} (hr : rowE strE s 9 a n c xs) : ∀ g ∈ Fw.blk a, g ∉ [b, m] := fun g hg hl => by
  obtain ⟨cur, hc⟩ := str_off hr hg
  simp at hl
  rcases hl with rfl | rfl
  · have := hd.blk; rw [hc] at this; cases this
  · obtain ⟨es, c, h1, _⟩ := hd.map; rw [hc] at h1; cases h1

theorem c_rOpen (h : RefIs s r L e) (hn : e.Names) (nm : ByteArray) (hz : (e.rread nm).1.size ≤ 1099511627776) : DCalls Try.prog 16 #[dptr r, .string nm] s fun y s' =>
    OpenedQ s (e.ropens nm).1 (fun x s' => QIs s' x r nm) y s' ∧ ∃ L', RefIs s' r L' (e.ropens nm).2 ∧ Step L L' s s' := by
  refine ok_rOpen r nm _ s ?_
  unfold vc_rOpen
  obtain ⟨O, ho⟩ : ∃ O, e.ropens nm = O := ⟨_, rfl⟩
  rw [ho]
  unfold DS.ropens at ho
  obtain ⟨R, hR⟩ : ∃ R : Value → PH → Prop, (fun y s' => OpenedQ s O.1 (fun x s' => QIs s' x r nm) y s' ∧ ∃ L', RefIs s' r L' O.2 ∧ Step L L' s s') = R := ⟨_, rfl⟩
  rw [hR]
  simp only [RP_ite, RP_ret, RP_guard, RP_call, RP_nw]
  obtain ⟨t, x, hte⟩ : ∃ t x, e.rread nm = (t, x) := ⟨_, _, rfl⟩
  have hrd := c_rRead h hn nm
  rw [hte] at hrd hz ho
  dsimp only at hz ho
  refine W.call_of hrd ?_
  rintro _ s ⟨rfl, rfl⟩
  refine ⟨((t, ()), (x, ()), ()), rfl, ?_⟩
  refine (W.br_iff _ _ _ _).2 ⟨fun e1 => ?_, fun e1 => ?_⟩
  · have e1 : (x != 0) = true := e1
    have e1 : x ≠ 0 := by simpa using e1
    rw [if_pos e1] at ho
    rw [← hR]
    refine ⟨⟨none, none, 0, ?_, ?_, by simp [Fw.blk], .inr ?_⟩, L, ?_, Step.refl _ _⟩
    · rw [← ho]; rfl
    · rw [← ho]; exact rowE.nil
    · rw [← ho]; exact ⟨e1, rfl⟩
    · rw [← ho]; exact h
  have e1 : (x != 0) = false := e1
  have e1 : x = 0 := by simpa using e1
  subst e1
  rw [if_neg (by simp)] at ho
  obtain ⟨l, k, hlk⟩ : ∃ l k, scanB t = (l, k) := ⟨_, _, rfl⟩
  have hsc := c_rScan t hz s
  have hkt := scanB_le t
  unfold ScanIs at hsc
  rw [hlk] at hsc ho hkt
  dsimp only at hsc ho hkt
  refine W.call_of hsc ?_
  rintro _ s1 ⟨a, c, rfl, hrow, hf, m1⟩
  refine ⟨(((a, l.length, c), ()), ((k : Int), ()), ()), rfl, ?_⟩
  have h1 := h.mod m1 (by simp)
  refine (W.br_iff _ _ _ _).2 ⟨fun e2 => ?_, fun e2 => ?_⟩
  · have e2 : (k : Int) < (t.size : Int) := of_decide_eq_true e2
    rw [if_pos (by omega)] at ho
    dsimp only
    refine (W.guard_iff _ _ _).2 ⟨by omega, ?_⟩
    simp only [Int.toNat_natCast]
    obtain ⟨f, d', hd'⟩ : ∃ f d', e.rswap nm (t.extract 0 k) = (f, d') := ⟨_, _, rfl⟩
    have hsw := c_rSwap h1 hn nm (t.extract 0 k)
    rw [hd'] at hsw ho
    dsimp only at hsw ho
    refine W.call_of hsw ?_
    rintro _ s2 ⟨rfl, L', h2, m2⟩
    refine ⟨((f, ()), ()), rfl, ?_⟩
    have m12 : Step L L' s s2 := ⟨(m1.mono (by simp)).trans m2.mod, fun x hx => (m2.new x hx).imp_right fun h => m1.none h (by simp)⟩
    refine (W.br_iff _ _ _ _).2 ⟨fun e3 => ?_, fun e3 => ?_⟩
    · have e3 : (f != 0) = true := e3
      have e3 : f ≠ 0 := by simpa using e3
      rw [if_pos e3] at ho
      rw [← hR]
      refine ⟨⟨none, none, 0, ?_, ?_, by simp [Fw.blk], .inr ?_⟩, L', ?_, m12⟩
      · rw [← ho]; rfl
      · rw [← ho]; exact rowE.nil
      · rw [← ho]; exact ⟨e3, rfl⟩
      · rw [← ho]; exact h2
    · have e3 : (f != 0) = false := e3
      have e3 : f = 0 := by simpa using e3
      subst e3
      rw [if_neg (by simp)] at ho
      refine W.nw_of fun x s3 hx m3 k3 => ?_
      have hdis : ∀ g ∈ Fw.blk a, g ∉ L := fun g hg hl => h.known g hl (hf g hg)
      rw [← hR]
      refine ⟨⟨some ⟨x, 0, none⟩, a, c, ?_, ?_, hf, .inl ⟨?_, x, rfl, k3⟩⟩, L', ?_, ⟨m12.mod.trans (m3.mono (by simp)), m12.new⟩⟩
      · rw [← ho]
      · rw [← ho]; exact (hrow.mod m2.mod hdis).mod m3 (by simp)
      · rw [← ho]
      · rw [← ho]; exact h2.mod m3 (by simp)
  · have e2 : ¬ (k : Int) < (t.size : Int) := of_decide_eq_false e2
    rw [if_neg (by omega)] at ho
    refine W.nw_of fun x s3 hx m3 k3 => ?_
    rw [← hR]
    refine ⟨⟨some ⟨x, 0, none⟩, a, c, ?_, ?_, hf, .inl ⟨?_, x, rfl, k3⟩⟩, L, ?_, ⟨(m1.trans m3).mono (by simp), fun x hx => .inl hx⟩⟩
    · rw [← ho]
    · rw [← ho]; exact hrow.mod m3 (by simp)
    · rw [← ho]
    · rw [← ho]; exact h1.mod m3 (by simp)
theorem c_qAppend {y : Nat} {nm : ByteArray} (hy : QIs s y r nm) (h : RefIs s r L e) (hn : e.Names) {a : Option Addr} {n c : Nat} {l : List ByteArray} (hl : elems (Rd.enc strE) s a n l) (hll : l.length ≤ 1099511627776) (hz : ∀ p ∈ e.files, p.2.1.size + (recsB l).size ≤ 4611686018427387904) (hz2 : (recsB l).size ≤ 4611686018427387904) (hn2 : (e.rappend nm (allB l).1).2.Names) :
    DCalls Try.prog 18 #[dptr y, .slice a n c] s fun v s' => v = .int .i64 (e.rputs nm l).1 ∧ ∃ L', RefIs s' r L' (e.rputs nm l).2 ∧ Step L L' s s' := by
  refine ok_qAppend y a n c _ s ?_
  unfold vc_qAppend
  have hnl : n = l.length := hl.1
  obtain ⟨O, ho⟩ : ∃ O, e.rputs nm l = O := ⟨_, rfl⟩
  rw [ho]
  unfold DS.rputs at ho
  obtain ⟨R, hR⟩ : ∃ R : Value → PH → Prop, (fun v s' => v = .int .i64 O.1 ∧ ∃ L', RefIs s' r L' O.2 ∧ Step L L' s s') = R := ⟨_, rfl⟩
  rw [hR]
  simp only [RP_ite, RP_ret, RP_guard, RP_call, RP_nw, RP_join, RP_unSome, RP_ld]
  refine W.call_of (c_rRecords (c := c) hl hll hz2) ?_
  rintro _ s ⟨rfl, rfl⟩
  refine ⟨(((allB l).1, ()), ((allB l).2, ()), ()), rfl, ?_⟩
  have hall : (allB l).2 = 0 → (allB l).1 = recsB l := by
    intro e; unfold allB at e ⊢
    split
    · rename_i hb; rw [if_pos hb] at e; simp at e
    · rfl
  obtain ⟨t, x, hte⟩ : ∃ t x, allB l = (t, x) := ⟨_, _, rfl⟩
  rw [hte] at ho hall hn2 ⊢
  dsimp only at ho hall hn2
  refine W.join_gen (fun z s'' => z = ((t, ()), ()) ∧ s'' = s ∧ ¬ (x ≠ 0 ∨ l.length = 0)) ?_ ?_
  rotate_left
  · intro J hJ
    have hfin : (x ≠ 0 ∨ l.length = 0) → R (.int .i64 x) s := by
      intro hc
      rw [if_pos hc] at ho
      rw [← hR, ← ho]
      exact ⟨rfl, L, h, Step.refl _ _⟩
    refine (W.br_iff _ _ _ _).2 ⟨fun e1 => hfin (.inl (by simpa using e1)), fun e1 => (W.br_iff _ _ _ _).2 ⟨fun e2 => hfin (.inr ?_), fun e2 => hJ _ _ ⟨rfl, rfl, ?_⟩⟩⟩
    · have e2 : (((n : Nat) : Int) == 0) = true := e2
      have : ((n : Nat) : Int) = 0 := eq_of_beq e2
      omega
    · have e1 : (x != 0) = false := e1
      have e2 : (((n : Nat) : Int) == 0) = false := e2
      have h1 : x = 0 := by simpa using e1
      have h2 : ((n : Nat) : Int) ≠ 0 := by simpa using e2
      omega
  rintro _ s2 ⟨rfl, rfl, hc⟩
  rw [if_neg hc] at ho
  have he0 : x = 0 := by omega
  have ht := hall he0
  subst ht
  have hb := hy
  unfold QIs at hb
  simp only [W.unSome_some, add_mk, Nat.zero_add]
  rw [W.ld_at hb]
  refine ⟨(some ⟨r, 0, none⟩, ()), rfl, ?_⟩
  simp only [W.unSome_some, add_mk, Nat.zero_add]
  rw [W.ld_at hb]
  refine ⟨(nm, ()), rfl, ?_⟩
  refine W.call_of (c_rAppend h hn nm (recsB l) (fun p hp => by have := hz p hp; omega) (by omega)) ?_
  rintro _ s3 ⟨rfl, L3, h3, m3⟩
  obtain ⟨f, d', hd'⟩ : ∃ f d', e.rappend nm (recsB l) = (f, d') := ⟨_, _, rfl⟩
  rw [hd'] at h3 ho hn2 ⊢
  dsimp only at h3 ho hn2 ⊢
  refine ⟨((f, ()), ()), rfl, ?_⟩
  refine (W.br_iff _ _ _ _).2 ⟨fun e1 => ?_, fun e1 => ?_⟩
  · have e1 : (f != 0) = true := e1
    rw [if_pos (by simpa using e1)] at ho
    rw [← hR, ← ho]
    exact ⟨rfl, L3, h3, m3⟩
  · have e1 : (f != 0) = false := e1
    rw [if_neg (by simpa using e1)] at ho
    have hb3 := hy.mod m3.mod (h.offQ hy)
    unfold QIs at hb3
    simp only [W.unSome_some, add_mk, Nat.zero_add]
    rw [W.ld_at hb3]
    refine ⟨(some ⟨r, 0, none⟩, ()), rfl, ?_⟩
    simp only [W.unSome_some, add_mk, Nat.zero_add]
    rw [W.ld_at hb3]
    refine ⟨(nm, ()), rfl, ?_⟩
    refine W.call_of (c_rSync h3 hn2 nm) ?_
    rintro _ s4 ⟨rfl, h4, m4⟩
    refine ⟨(((d'.rsync nm).1, ()), ()), rfl, ?_⟩
    rw [← hR, ← ho]
    exact ⟨rfl, L3, h4, m3.trans ⟨m4, fun x hx => .inl hx⟩⟩
theorem c_qRewrite {y : Nat} {nm : ByteArray} (hy : QIs s y r nm) (h : RefIs s r L e) (hn : e.Names) {a : Option Addr} {n c : Nat} {l : List ByteArray} (hl : elems (Rd.enc strE) s a n l) (hll : l.length ≤ 1099511627776) (hz : (recsB l).size ≤ 4611686018427387904) :
    DCalls Try.prog 20 #[dptr y, .slice a n c] s fun v s' => v = .int .i64 (e.rrewrites nm l).1 ∧ ∃ L', RefIs s' r L' (e.rrewrites nm l).2 ∧ Step L L' s s' := by
  refine ok_qRewrite y a n c _ s ?_
  unfold vc_qRewrite
  obtain ⟨O, ho⟩ : ∃ O, e.rrewrites nm l = O := ⟨_, rfl⟩
  rw [ho]
  unfold DS.rrewrites at ho
  obtain ⟨R, hR⟩ : ∃ R : Value → PH → Prop, (fun v s' => v = .int .i64 O.1 ∧ ∃ L', RefIs s' r L' O.2 ∧ Step L L' s s') = R := ⟨_, rfl⟩
  rw [hR]
  simp only [RP_ite, RP_ret, RP_guard, RP_call, RP_nw, RP_join, RP_unSome, RP_ld]
  refine W.call_of (c_rRecords (c := c) hl hll hz) ?_
  rintro _ s ⟨rfl, rfl⟩
  refine ⟨(((allB l).1, ()), ((allB l).2, ()), ()), rfl, ?_⟩
  obtain ⟨t, x, hte⟩ : ∃ t x, allB l = (t, x) := ⟨_, _, rfl⟩
  rw [hte] at ho ⊢
  dsimp only at ho
  refine (W.br_iff _ _ _ _).2 ⟨fun e1 => ?_, fun e1 => ?_⟩
  · have e1 : (x != 0) = true := e1
    rw [if_pos (by simpa using e1)] at ho
    rw [← hR, ← ho]
    exact ⟨rfl, L, h, Step.refl _ _⟩
  · have e1 : (x != 0) = false := e1
    rw [if_neg (by simpa using e1)] at ho
    have hb := hy
    unfold QIs at hb
    simp only [W.unSome_some, add_mk, Nat.zero_add]
    rw [W.ld_at hb]
    refine ⟨(some ⟨r, 0, none⟩, ()), rfl, ?_⟩
    simp only [W.unSome_some, add_mk, Nat.zero_add]
    rw [W.ld_at hb]
    refine ⟨(nm, ()), rfl, ?_⟩
    refine W.call_of (c_rSwap h hn nm t) ?_
    rintro _ s3 ⟨rfl, L3, h3, m3⟩
    refine ⟨(((e.rswap nm t).1, ()), ()), rfl, ?_⟩
    rw [← hR, ← ho]
    exact ⟨rfl, L3, h3, m3⟩
end
end Go.Proofs.Ytcdggocbjnmeaaa
