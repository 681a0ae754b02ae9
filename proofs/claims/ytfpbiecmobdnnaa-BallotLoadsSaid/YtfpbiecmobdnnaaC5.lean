/-
  The ballot: messages that came: is one let by; votes; how a node was fed.
  Conditions: none; it proves no statement by itself.
-/
import Derived.Test.YtfpbiecmobdnnaaC4
set_option linter.unusedVariables false
set_option linter.unusedSimpArgs false
set_option maxHeartbeats 1000000
namespace Go.Proofs.Ytfpbiecmobdnnaa
open Fw Go
attribute [-simp] Fw.W.ld_iff Fw.W.st_iff

def FAR : Int := 1099511627776
def Msg.strange (M : Msg) (id size : Int) : Bool :=
  M.to != id || (M.from_ == id || (decide (M.from_ < 0) || (decide (M.from_ ≥ size) || (decide (M.kind < 1) || (decide (M.kind > 5) || (decide (M.term < 1) || (decide (M.term > FAR) ||
    (decide (M.index < (if M.kind == 4 then -1 else 0)) || (decide (M.index > FAR) || ((decide (M.prev < 0) || decide (M.prev > FAR)) || (decide (M.commit < 0) || decide (M.commit > FAR))))))))))))

section
variable {s : PH} {b : Nat} {l v n m : Tri} {B : BS}
theorem c_strange1 (x : Int) (s : PH) : DCalls Try.prog 71 #[.int .i64 x] s fun y s' => y = .bool (decide (x < 0) || decide (x > FAR)) ∧ s' = s := by
  refine ok_strange1 x _ s ?_
  unfold vc_strange1
  simp [W.br_iff, FAR]
  omega
theorem c_strange (h : Bal s b l v n m B) (M : Msg) (t : Tri) : DCalls Try.prog 44 #[bptr b, msgV M t] s (ValPost (.bool (M.strange B.id B.size)) s) := by
  refine ok_strange b M.kind M.from_ M.to M.term M.index M.prev M.commit M.good t.1 t.2.1 t.2.2 M.snap _ s ?_
  unfold vc_strange
  simp only [RP_nw]
  refine W.nw_of fun r s1 hr m1 k1 => ?_
  have hb1 := (h.new m1).cell
  have fin : ∀ x, x = M.strange B.id B.size → ValPost (.bool (M.strange B.id B.size)) s (.bool x) s1 := by rintro x rfl; exact ⟨rfl, m1⟩
  simp only [RP_join]
  refine W.join_gen (fun z s' => s' = s1 ∧ z = ((Addr.mk r 0 none, ()), ((if M.kind == 4 then -1 else 0), ()), ())) ?_ ?_
  · rintro _ s1 ⟨rfl, rfl⟩
    simp only [RP_ld, RP_ite, RP_unSome, RP_ret, RP_call, add_mk, Nat.zero_add, W.ld_at k1, W.ld_at hb1, W.unSome_some, W.br_iff, W.ret_iff]
    have hstr : M.strange B.id B.size = (M.to != B.id || (M.from_ == B.id || (decide (M.from_ < 0) || (decide (M.from_ ≥ B.size) || (decide (M.kind < 1) || (decide (M.kind > 5) || (decide (M.term < 1) || (decide (M.term > FAR) ||
      (decide (M.index < (if M.kind == 4 then -1 else 0)) || (decide (M.index > FAR) || ((decide (M.prev < 0) || decide (M.prev > FAR)) || (decide (M.commit < 0) || decide (M.commit > FAR)))))))))))) ) := rfl
    simp
    refine ⟨fun h1 => fin _ (by rw [hstr]; simp [h1]), fun h1 => ⟨fun h2 => fin _ (by rw [hstr]; simp [h2]), fun h2 => ⟨fun h3 => fin _ (by rw [hstr]; simp [h3]), fun h3 => ⟨fun h4 => fin _ (by rw [hstr]; simp [h4]), fun h4 => ⟨fun h5 => fin _ (by rw [hstr]; simp [h5]), fun h5 => ⟨fun h6 => fin _ (by rw [hstr]; simp [h6]), fun h6 =>
      ⟨fun h7 => fin _ (by rw [hstr]; simp [h7]), fun h7 => ⟨fun h8 => fin _ (by rw [hstr]; simp [h8, FAR]), fun h8 => ⟨fun h9 => fin _ (by rw [hstr]; simp [h9]), fun h9 => ⟨fun h10 => fin _ (by rw [hstr]; simp [h10, FAR]), fun h10 => ?_⟩⟩⟩⟩⟩⟩⟩⟩⟩⟩
    refine W.call_of (c_strange1 M.prev s1) ?_
    rintro _ s1 ⟨rfl, rfl⟩
    generalize hp : (decide (M.prev < 0) || decide (M.prev > FAR)) = bp at hstr
    refine ⟨((bp, ()), ()), rfl, ?_⟩
    simp only [W.br_iff, W.ret_iff, W.ld_at k1]
    refine ⟨fun h11 => fin _ (by have h11 : bp = true := h11; rw [hstr]; simp [h11]), fun h11 => ?_⟩
    have h11 : bp = false := h11
    simp
    refine W.call_of (c_strange1 M.commit s1) ?_
    rintro _ s1 ⟨rfl, rfl⟩
    refine ⟨((decide (M.commit < 0) || decide (M.commit > FAR), ()), ()), rfl, ?_⟩
    refine fin _ ?_
    rw [hstr]
    have e1 : (M.to != B.id) = false := by simpa using h1
    have e2 : (M.from_ == B.id) = false := by simpa using h2
    have e3 : decide (M.from_ < 0) = false := decide_eq_false (by omega)
    have e4 : decide (M.from_ ≥ B.size) = false := decide_eq_false (by omega)
    have e5 : decide (M.kind < 1) = false := decide_eq_false (by omega)
    have e6 : decide (M.kind > 5) = false := decide_eq_false (by omega)
    have e7 : decide (M.term < 1) = false := decide_eq_false (by omega)
    have e8 : decide (M.term > FAR) = false := decide_eq_false (by unfold FAR; omega)
    have e9 : decide (M.index < (if M.kind == 4 then -1 else 0)) = false := decide_eq_false (by simp; exact h9)
    have e10 : decide (M.index > FAR) = false := decide_eq_false (by unfold FAR; omega)
    rw [h11, e1, e2, e3, e4, e5, e6, e7, e8, e9, e10]
    rfl
  · intro K hK
    simp [W.br_iff, W.ld_at k1]
    refine ⟨fun h => hK _ _ ⟨rfl, by simp [h]⟩, fun h => hK _ _ ⟨rfl, by simp [h]⟩⟩

/-! ## somebody stands for election -/
def BS.askGood (B : BS) (M : Msg) : Bool := (decide (B.vote < 0) || B.vote == M.from_) && (decide (M.prev > (B.termAt B.lst).1) || (M.prev == (B.termAt B.lst).1 && decide (M.index ≥ B.lst)))
def BS.asked (B : BS) (M : Msg) : BS × List Msg := (if B.askGood M then { B with vote := M.from_, touched := true } else B, [{ B.msg 2 M.from_ with good := B.askGood M }])
def OnePost (B' : BS) (ms : List Msg) (b : Nat) (l v n m : Tri) (s : PH) (x : Value) (s' : PH) : Prop := ∃ t ps, x = Tri.v t ∧ Msgs s' t ps ∧ ps.map (·.1) = ms ∧ Bal s' b l v n m B' ∧ Fw.Mod [b] s s' ∧ ∀ y ∈ mF t ps, s y = none
theorem one_of {s s5 s6 : PH} {M : Msg} {r : Nat} {B' : BS} (h : Bal s5 b l v n m B') (m5 : Fw.Mod [b] s s5) (hb : s b ≠ none) (hr : s5 r = none) (m6 : Fw.Mod [] s5 s6) (k6 : s6 r = some (.cells (msgCells M noTri).toArray 32 (0, 0))) (hl : M.list = []) : OnePost B' [M] b l v n m s (.slice (some ⟨r, 0, none⟩) 1 1) s6 := by
  refine ⟨(some ⟨r, 0, none⟩, 1, 1), [(M, noTri)], rfl, ⟨row_one k6 rfl, ?_⟩, rfl, h.new m6, m5.trans (m6.mono (by simp)), ?_⟩
  · intro p hp; simp at hp; subst hp; rw [hl]; exact rowE.nil
  · intro y hy
    simp [mF, Fw.blk] at hy
    subst hy
    refine m5.none hr ?_
    simp; rintro rfl; rw [h.cell] at hr; cases hr
theorem c_asked (h : Bal s b l v n m B) (hok : B.Ok) (M : Msg) (t : Tri) : DCalls Try.prog 47 #[bptr b, msgV M t] s (OnePost (B.asked M).1 (B.asked M).2 b l v n m s) := by
  refine ok_asked b M.kind M.from_ M.to M.term M.index M.prev M.commit M.good t.1 t.2.1 t.2.2 M.snap _ s ?_
  unfold vc_asked
  simp only [RP_nw]
  refine W.nw_of fun r s1 hr m1 k1 => ?_
  have hbs : s b ≠ none := by rw [h.cell]; simp
  simp only [RP_call]
  refine W.call_of (c_last (h.new m1) hok.small) ?_
  rintro _ s1 ⟨rfl, rfl⟩
  refine ⟨((B.lst, ()), ()), rfl, ?_⟩
  refine W.call_of (c_term (h.new m1) hok.small (num_lst hok.small hok.base)) ?_
  rintro _ s2 ⟨rfl, m2⟩
  generalize hlt : (B.termAt B.lst).1 = lt
  refine ⟨((lt, ()), ((B.termAt B.lst).2, ()), ()), by rw [← hlt]; rfl, ?_⟩
  have k2 := m2.at k1 (by simp)
  simp [W.ld_at k2, -W.nw_iff]
  refine W.call_of (c_msg (h.new (m1.trans m2)) 2 M.from_) ?_
  rintro _ s3 ⟨rfl, m3⟩
  refine ⟨((2, B.id, M.from_, B.term, 0, 0, 0, false, (none, 0, 0), ⟨#[]⟩, ()), ()), rfl, ?_⟩
  have m13 := (m1.trans m2).trans m3
  have k3 := m3.at k2 (by simp)
  refine W.nw_of fun r17 s4 hr4 m4 k4 => ?_
  have hne : r ≠ r17 := ne_of_known k3 hr4
  have hbr : b ≠ r17 := ne_of_known (h.new m13).cell hr4
  have hb4 := ((h.new m13).new m4).cell
  have k34 := m4.at k3 (by simp)
  have hgood : B.askGood M = ((decide (B.vote < 0) || B.vote == M.from_) && (decide (M.prev > lt) || (M.prev == lt && decide (M.index ≥ B.lst)))) := by unfold BS.askGood; rw [hlt]
  have hr17 : s r17 = none := m13.none hr4 (by simp)
  have m14 := m13.trans m4
  -- the answer, good
  have yes : B.askGood M = true → ∀ s5, s5 = ((s4.upd r17 (.cells (msgCells { B.msg 2 M.from_ with good := true } noTri).toArray 32 (0, 0))).upd b (.cells ({ B with vote := M.from_, touched := true }.cells l v n m) 67 (0, 0))) → ∀ r', s5 r' = none →
      OnePost (B.asked M).1 (B.asked M).2 b l v n m s (.slice (some ⟨r', 0, none⟩) 1 1) (s5.upd r' (.cells (msgCells { B.msg 2 M.from_ with good := true } noTri).toArray 32 (0, 0))) := by
    rintro hg s5 rfl r' hr'
    have e : B.asked M = ({ B with vote := M.from_, touched := true }, [{ B.msg 2 M.from_ with good := true }]) := by unfold BS.asked; rw [hg]; rfl
    rw [e]
    exact one_of (((h.new (m14.updLater (.inr hr17)))).lay) (((m14.updLater (.inr hr17)).mono (by simp)).updLater (.inl (by simp))) hbs hr' (Mod.new hr') (PH.upd_same _ _ _) rfl
  have no : B.askGood M = false → ∀ s5, s5 = (s4.upd r17 (.cells (msgCells { B.msg 2 M.from_ with good := false } noTri).toArray 32 (0, 0))) → ∀ r', s5 r' = none →
      OnePost (B.asked M).1 (B.asked M).2 b l v n m s (.slice (some ⟨r', 0, none⟩) 1 1) (s5.upd r' (.cells (msgCells { B.msg 2 M.from_ with good := false } noTri).toArray 32 (0, 0))) := by
    rintro hg s5 rfl r' hr'
    have e : B.asked M = (B, [{ B.msg 2 M.from_ with good := false }]) := by unfold BS.asked; rw [hg]; rfl
    rw [e]
    exact one_of (h.new (m14.updLater (.inr hr17))) ((m14.updLater (.inr hr17)).mono (by simp)) hbs hr' (Mod.new hr') (PH.upd_same _ _ _) rfl
  have k17 : ∀ (c : Array Value) (e : TypeId) (o' : Obj), ((s4.upd r17 (.cells c e (0, 0))).upd b o') r17 = some (.cells c e (0, 0)) := fun c e o' => upd_at (PH.upd_same _ _ _) hbr.symm o'
  have hB17 : ∀ o, Bal (s4.upd r17 o) b l v n m B := fun o => h.new (m14.updLater (.inr hr17))
  have hwn : ∀ x y : Int, ¬ x < y → ¬ x = y → y < x := fun x y h1 h2 => by omega
  have key : (M.prev = lt → ¬ lt < M.prev) := by intro h; omega
  simp [W.st_at k4, fun o => W.ld_at (upd_at hb4 hbr o), fun o => W.ld_at (upd_at k34 hne o), fun o => W.st_at (upd_at hb4 hbr o), fun c e o' => W.ld_at (k17 c e o'), W.br_iff]
  have last : ((decide (B.vote < 0) || B.vote == M.from_) = true) → M.prev = lt → (B.lst ≤ M.index → B.askGood M = true) ∧ (M.index < B.lst → B.askGood M = false) := by
    intro h1 h2
    rw [hgood, h1, h2]
    constructor
    · intro h3; simp [h3]
    · intro h3; simp; exact h3
  refine ⟨fun h1 => ⟨fun h2 => yes ?_ _ rfl, fun h2 => ⟨fun h3 => ?_, fun h3 => no ?_ _ rfl⟩⟩, fun h1 => ⟨fun h2 => ⟨fun h3 => yes ?_ _ rfl, fun h3 => ⟨fun h4 => ?_, fun h4 => no ?_ _ rfl⟩⟩, fun h2 => no ?_ _ rfl⟩⟩
  · rw [hgood]; simp [h1, h2]
  · have hl := last (by simp [h1]) h3
    refine W.callQ_of ((B.lst, ()), ()) (c_last (hB17 _) hok.small) rfl ?_
    simp [fun o => W.ld_at (upd_at hb4 hbr o), fun o => W.ld_at (upd_at k34 hne o), fun o => W.st_at (upd_at hb4 hbr o), fun c e o' => W.ld_at (k17 c e o'), W.br_iff]
    exact ⟨fun h => by simp only [h, decide_true]; exact yes (hl.1 h) _ rfl, fun h => by have h' : decide (B.lst ≤ M.index) = false := decide_eq_false (by omega)
                                                                                         simp only [h']; exact no (hl.2 h) _ rfl⟩
  · rw [hgood]; simp [h3]; omega
  · rw [hgood]; simp [h2, h3]
  · have hl := last (by simp [h2]) h4
    refine W.callQ_of ((B.lst, ()), ()) (c_last (hB17 _) hok.small) rfl ?_
    simp [fun o => W.ld_at (upd_at hb4 hbr o), fun o => W.ld_at (upd_at k34 hne o), fun o => W.st_at (upd_at hb4 hbr o), fun c e o' => W.ld_at (k17 c e o'), W.br_iff]
    exact ⟨fun h => by simp only [h, decide_true]; exact yes (hl.1 h) _ rfl, fun h => by have h' : decide (B.lst ≤ M.index) = false := decide_eq_false (by omega)
                                                                                         simp only [h']; exact no (hl.2 h) _ rfl⟩
  · rw [hgood]; simp [h4]; omega
  · rw [hgood]; simp [h2]; omega

/-! ## elements of its rows -/
theorem Bal.setVote (h : Bal s b l v n m B) {f : Nat} {x : Bool} (hx : B.votes[f]? = some x) (y : Bool) : ∃ g, v.1 = some ⟨g, 0, none⟩ ∧ g ∈ bL b l v n m ∧
    ∀ K : W.T, (∀ s', Bal s' b l v n m { B with votes := B.votes.set f y } → Fw.Mod [g] s s' → K s') → W.st ⟨g, f, none⟩ [.bool y] K s := by
  obtain ⟨g, hg, _⟩ := h.votes.at hx
  have hgb : g ∈ Fw.blk v.1 := by rw [hg]; simp [Fw.blk]
  refine ⟨g, hg, by simp [bL, hgb], fun K hK => ?_⟩
  have : W.st ⟨g, f * boolE.sz + 0, none⟩ [.bool y] K s := by
    refine h.votes.st hx (x' := y) rfl (by show 0 + 1 ≤ 1; omega) (by simp) (by simp [Value.oneCell']) hg ?_
    intro s' hr hm
    have hdis : ∀ {z}, z ∈ [g] → z ∈ Fw.blk v.1 := fun hz => by simp at hz; subst hz; exact hgb
    refine hK s' ⟨hm.at h.cell fun hz => h.ne.2.1 (hdis hz), h.log.mod hm fun z hz hz' => row_ne3 h.log h.votes (by decide) z (hdis hz') hz, hr, h.next.mod hm fun z hz hz' => row_ne3 h.next h.votes (by decide) z (hdis hz') hz,
      h.mat.mod hm fun z hz hz' => row_ne3 h.mat h.votes (by decide) z (hdis hz') hz, h.nm⟩ hm
  rwa [show f * boolE.sz + 0 = f from by show f * 1 + 0 = f; omega] at this
theorem Bal.getNext (h : Bal s b l v n m B) {f : Nat} {x : Int} (hx : B.next[f]? = some x) : ∃ g, n.1 = some ⟨g, 0, none⟩ ∧ g ∈ bL b l v n m ∧ s.has ⟨g, f, none⟩ [.int .i64 x] ∧
    ∀ (y : Int) (K : W.T), (∀ s', Bal s' b l v n m { B with next := B.next.set f y } → Fw.Mod [g] s s' → K s') → W.st ⟨g, f, none⟩ [.int .i64 y] K s := by
  obtain ⟨g, hg, hh⟩ := h.next.at hx
  have hgb : g ∈ Fw.blk n.1 := by rw [hg]; simp [Fw.blk]
  have e : f * intE.sz = f := Nat.mul_one _
  rw [e] at hh
  refine ⟨g, hg, by simp [bL, hgb], hh, fun y K hK => ?_⟩
  have : W.st ⟨g, f * intE.sz + 0, none⟩ [.int .i64 y] K s := by
    refine h.next.st hx (x' := y) rfl (by show 0 + 1 ≤ 1; omega) (by simp) (by simp [Value.oneCell']) hg ?_
    intro s' hr hm
    have hdis : ∀ {z}, z ∈ [g] → z ∈ Fw.blk n.1 := fun hz => by simp at hz; subst hz; exact hgb
    refine hK s' ⟨hm.at h.cell fun hz => h.ne.2.2.1 (hdis hz), h.log.mod hm fun z hz hz' => row_ne3 h.log h.next (by decide) z (hdis hz') hz, h.votes.mod hm fun z hz hz' => row_ne3 h.votes h.next (by decide) z (hdis hz') hz, hr,
      h.mat.mod hm fun z hz hz' => h.nm z (hdis hz') hz, h.nm⟩ hm
  rwa [e, Nat.add_zero] at this
theorem Bal.getMat (h : Bal s b l v n m B) {f : Nat} {x : Int} (hx : B.mat[f]? = some x) : ∃ g, m.1 = some ⟨g, 0, none⟩ ∧ g ∈ bL b l v n m ∧ s.has ⟨g, f, none⟩ [.int .i64 x] ∧
    ∀ (y : Int) (K : W.T), (∀ s', Bal s' b l v n m { B with mat := B.mat.set f y } → Fw.Mod [g] s s' → K s') → W.st ⟨g, f, none⟩ [.int .i64 y] K s := by
  obtain ⟨g, hg, hh⟩ := h.mat.at hx
  have hgb : g ∈ Fw.blk m.1 := by rw [hg]; simp [Fw.blk]
  have e : f * intE.sz = f := Nat.mul_one _
  rw [e] at hh
  refine ⟨g, hg, by simp [bL, hgb], hh, fun y K hK => ?_⟩
  have : W.st ⟨g, f * intE.sz + 0, none⟩ [.int .i64 y] K s := by
    refine h.mat.st hx (x' := y) rfl (by show 0 + 1 ≤ 1; omega) (by simp) (by simp [Value.oneCell']) hg ?_
    intro s' hr hm
    have hdis : ∀ {z}, z ∈ [g] → z ∈ Fw.blk m.1 := fun hz => by simp at hz; subst hz; exact hgb
    refine hK s' ⟨hm.at h.cell fun hz => h.ne.2.2.2 (hdis hz), h.log.mod hm fun z hz hz' => row_ne3 h.log h.mat (by decide) z (hdis hz') hz, h.votes.mod hm fun z hz hz' => row_ne3 h.votes h.mat (by decide) z (hdis hz') hz,
      h.next.mod hm fun z hz hz' => h.nm z hz (hdis hz'), hr, h.nm⟩ hm
  rwa [e, Nat.add_zero] at this

/-! ## a vote came -/
def BS.voted (B : BS) (M : Msg) : BS × List Msg := if B.role ≠ 1 ∨ M.good = false then (B, []) else { B with votes := B.votes.set M.from_.toNat true }.counted
theorem OpPost.start {R : BS × List Msg} {L L' : List Nat} {s0 : PH} {x : Value} {s' : PH} (h : OpPost R b L' s x s') (st : Step L L' s0 s) : OpPost R b L s0 x s' := by
  obtain ⟨t, ps, l', v', n', m', h1, h2, h3, h4, h5, h6⟩ := h
  refine ⟨t, ps, l', v', n', m', h1, h2, st.trans h3, h4, h5, fun y hy => ⟨?_, (h6 y hy).2⟩⟩
  rcases (h6 y hy).1 with g | g
  · exact st.new y g
  · by_cases hl : y ∈ L
    · exact .inl hl
    · exact .inr (st.mod.none g hl)
theorem OpPost.noMsgs {B' : BS} {L : List Nat} {s0 s' : PH} {l v n m : Tri} (h : Bal s' b l v n m B') (st : Step L (bL b l v n m) s0 s') : OpPost (B', []) b L s0 (.slice none 0 0) s' :=
  ⟨noTri, [], l, v, n, m, rfl, h, st, Msgs.nil _, rfl, by simp [mF, Fw.blk]⟩
theorem c_voted (h : Bal s b l v n m B) (hok : B.Ok) (hv : B.role = 1 → B.votes.length = B.size.toNat) (hlc : B.commit ≤ B.lst) (hl1 : B.log.length + 1 ≤ 1073741824) (M : Msg) (t : Tri) (hf0 : 0 ≤ M.from_) (hf1 : M.from_ < B.size) :
    DCalls Try.prog 48 #[bptr b, msgV M t] s (OpPost (B.voted M) b (bL b l v n m) s) := by
  refine ok_voted b M.kind M.from_ M.to M.term M.index M.prev M.commit M.good t.1 t.2.1 t.2.2 M.snap _ s ?_
  unfold vc_voted
  simp only [RP_nw]
  refine W.nw_of fun r s1 hr m1 k1 => ?_
  have h1 := h.new m1
  have hb1 := h1.cell
  have st1 : Step (bL b l v n m) (bL b l v n m) s s1 := ⟨m1.mono (by simp), fun x hx => .inl hx⟩
  have no : (B.role ≠ 1 ∨ M.good = false) → OpPost (B.voted M) b (bL b l v n m) s (.slice none 0 0) s1 := by
    intro hc
    have : B.voted M = (B, []) := by unfold BS.voted; rw [if_pos hc]
    rw [this]; exact OpPost.noMsgs h1 st1
  simp only [RP_join]
  refine W.join_gen (fun z s' => s' = s1 ∧ z = ((Addr.mk r 0 none, ()), ()) ∧ B.role = 1 ∧ M.good = true) ?_ ?_
  · rintro _ s1 ⟨rfl, rfl, hr1, hg⟩
    have hvl := hv hr1
    obtain ⟨f, hf⟩ : ∃ f : Nat, M.from_ = f := ⟨M.from_.toNat, by omega⟩
    obtain ⟨x, hx⟩ : ∃ x, B.votes[f]? = some x := ⟨_, List.getElem?_eq_getElem (by omega)⟩
    obtain ⟨g, hgv, hgm, hst⟩ := h1.setVote hx true
    have hvn := h1.votes.len
    simp [W.ld_at hb1, W.ld_at k1, hf]
    refine ⟨by omega, ?_⟩
    rw [hgv]
    simp only [W.unSome_some, add_mk, Nat.zero_add]
    refine hst _ fun s2 h2 m2 => ?_
    have hvd : B.voted M = { B with votes := B.votes.set f true }.counted := by
      unfold BS.voted
      rw [if_neg (by rw [hr1, hg]; simp), hf]; rfl
    have st2 : Step (bL b l v n m) (bL b l v n m) s s2 := st1.trans ⟨m2.mono (by simpa using hgm), fun x hx => .inl hx⟩
    refine W.call_of (c_counted h2 ⟨⟨hok.small.base0, hok.small.base1, hok.small.log1⟩, hok.base, hok.size, hok.id, hok.com⟩ (by show (B.votes.set f true).length = _; simp [hvl]) hlc hl1) ?_
    rintro x s3 hp
    obtain ⟨t', ps, l', v', n', m', rfl, q⟩ := hp
    refine ⟨((t', ()), ()), rfl, ?_⟩
    rw [hvd]
    exact OpPost.start ⟨t', ps, l', v', n', m', rfl, q⟩ st2
  · intro K hK
    simp [W.ld_at hb1, W.ld_at k1, W.br_iff]
    refine ⟨fun h => no (.inl h), fun h => ⟨fun hg => no (.inr hg), fun hg => hK _ _ ⟨rfl, rfl, h, hg⟩⟩⟩
end
end Go.Proofs.Ytfpbiecmobdnnaa
