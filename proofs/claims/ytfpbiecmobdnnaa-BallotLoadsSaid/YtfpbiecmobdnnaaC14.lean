/-
  The ballot's laws: do the calls hold more than is played; one call.
  Conditions: none; it proves no statement by itself.
-/
import Derived.Test.YtfpbiecmobdnnaaC13
set_option linter.unusedVariables false
set_option linter.unusedSimpArgs false
set_option maxHeartbeats 1000000
set_option maxRecDepth 100000
namespace Go.Proofs.Ytfpbiecmobdnnaa
open Fw Go
attribute [-simp] Fw.W.ld_iff Fw.W.st_iff

def OpD.size (o : OpD) : Nat := 1 + o.text.size + o.M.list.length + o.M.snap.size
def total (l : List OpD) : Nat := (l.map OpD.size).sum
theorem total_take {l : List OpD} {i : Nat} {o : OpD} (h : l[i]? = some o) : total (l.take (i + 1)) = total (l.take i) + o.size := by
  unfold total
  rw [List.take_add_one, h]; simp
theorem total_take_le (l : List OpD) (i : Nat) : total (l.take i) ≤ total l := by
  unfold total
  conv => rhs; rw [← List.take_append_drop i l]
  rw [List.map_append, List.sum_append]; omega
theorem rdMsg_snap {s : PH} {cs : List Value} {M : Msg} (h : rdMsg.is s cs M) : M.snap.size ≤ 140737488355328 := by
  obtain ⟨x, rfl, c1, c2, rfl, ⟨rfl, h1⟩, d1, d2, rfl, ⟨rfl, h2⟩, e1, e2, rfl, ⟨rfl, h3⟩, f1, f2, rfl, ⟨rfl, h4⟩, g1, g2, rfl, ⟨rfl, h5⟩, i1, i2, rfl, ⟨rfl, h6⟩, j1, j2, rfl, ⟨rfl, h7⟩, k1, k2, rfl, rfl, l1, l2, rfl, ⟨a, n, c, rfl, g3, g4, g5, g6⟩, m1, m2, rfl, ⟨rfl, h9⟩, rfl⟩ := h
  have hr : reachBytes = 140737488351232 := rfl
  rw [hr] at h9
  exact Nat.le_trans h9 (by decide)
theorem rdOp_is2 {s : PH} {cs : List Value} {o : OpD} (h : rdOp.is s cs o) : ∃ t : Tri, cs = opCells o t ∧ MsgIs s (msgCells o.M t) o.M t ∧ o.text.size ≤ 140737488355328 ∧ o.M.snap.size ≤ 140737488355328 := by
  have h0 := h
  obtain ⟨x, rfl, c1, c2, rfl, ⟨rfl, h1⟩, d1, d2, rfl, ⟨rfl, h2⟩, e1, e2, rfl, ⟨rfl, h3⟩, f1, f2, rfl, ⟨rfl, h4⟩, g1, g2, rfl, h5, rfl⟩ := h
  have hr : reachBytes = 140737488351232 := rfl
  obtain ⟨t, ht1, ht2⟩ := rdOp_is h0
  rw [hr] at h4
  exact ⟨t, ht1, ht2, Nat.le_trans h4 (by decide), rdMsg_snap h5⟩
theorem op_at {s : PH} {a : Option Addr} {n : Nat} {ops : List OpD} (h : elems rdOp s a n ops) {i : Nat} {o : OpD} (ho : ops[i]? = some o) :
    ∃ ad t, a = some ad ∧ s.has (ad.add (i * 14)) (opCells o t) ∧ MsgIs s (msgCells o.M t) o.M t ∧ o.text.size ≤ 140737488355328 ∧ o.M.snap.size ≤ 140737488355328 := by
  obtain ⟨ad, cs, h1, h2, h3⟩ := h.2 i o ho
  obtain ⟨t, rfl, h4⟩ := rdOp_is2 h2
  exact ⟨ad, t, h1, h3, h4⟩
def greatB (ops : List OpD) : Bool := decide (total ops > 16384) || decide (ops.length > 200)
def GrZ (ops : List OpD) (a : Option Addr) (n c : Nat) (s : PH) (z : MDen [(false, [.int .i64]), (false, [.slice]), (false, [.int .i64]), (false, [.int .i64])]) (s' : PH) : Prop :=
  ∃ i : Nat, z = ((((total (ops.take i) : Nat) : Int), ()), ((a, n, c), ()), ((n : Int), ()), ((i : Int), ()), ()) ∧ i ≤ n ∧ total (ops.take i) ≤ 16384 ∧ Fw.Mod [] s s'
theorem c_great {s : PH} {a : Option Addr} {n c : Nat} {ops : List OpD} (h : elems rdOp s a n ops) (hn : n ≤ 140737488355328) : DCalls Try.prog 9 #[.slice a n c] s fun v s' => v = .bool (greatB ops) ∧ Fw.Mod [] s s' := by
  refine ok_great a n c _ s ?_
  unfold vc_great
  simp only [RP_loop]
  refine ⟨GrZ ops a n c s, fun z _ => n - z.2.2.2.1.1.toNat, ⟨0, rfl, Nat.zero_le _, Nat.zero_le _, Mod.refl _ _⟩, ?_⟩
  rintro _ s3 ⟨i, rfl, hi, ht, m3⟩
  have hlen := h.1
  simp [W.br_iff, -W.nw_iff]
  refine ⟨fun hlt => ⟨hlt, ?_⟩, fun hge => ?_⟩
  · obtain ⟨o, ho⟩ : ∃ o, ops[i]? = some o := ⟨_, List.getElem?_eq_getElem (by omega)⟩
    obtain ⟨ad, t, rfl, hhas, hM, hs1, hs2⟩ := op_at (h.mono m3.le) ho
    simp only [W.unSome_some]
    refine ld_has_z hhas (y := (o.kind, o.a, o.b, o.text, o.M.kind, o.M.from_, o.M.to, o.M.term, o.M.index, o.M.prev, o.M.commit, o.M.good, t, o.M.snap, ())) rfl ?_
    refine W.nw_of fun r s4 hr m4 k4 => ?_
    have hkl := hM.view.len
    have hroom := hM.room
    have htt := total_take ho
    have hsz : o.size = 1 + o.text.size + o.M.list.length + o.M.snap.size := rfl
    have e1 : IntKind.i64.wrap (((total (ops.take i) : Nat) : Int) + IntKind.i64.wrap (IntKind.i64.wrap (IntKind.i64.wrap (1 + (o.text.size : Int)) + (t.2.1 : Int)) + (o.M.snap.size : Int))) = ((total (ops.take (i + 1)) : Nat) : Int) := by
      rw [wrap_in (n := 1 + (o.text.size : Int)) (by omega) (by omega), wrap_in (n := 1 + (o.text.size : Int) + (t.2.1 : Int)) (by omega) (by omega), wrap_in (n := 1 + (o.text.size : Int) + (t.2.1 : Int) + (o.M.snap.size : Int)) (by omega) (by omega), wrap_in (by omega) (by omega), htt]
      omega
    have hw : IntKind.i64.wrap ((i : Int) + 1) = ((i + 1 : Nat) : Int) := by rw [wrap_in (by omega) (by omega)]; simp
    have m5 : ∀ o', Fw.Mod [] s (s4.upd r o') := fun o' => (m3.trans m4).updLater (.inr (m3.none hr (by simp)))
    simp [W.st_at k4, W.br_iff, e1, hw]
    refine ⟨fun hb => ⟨?_, m5 _⟩, fun hb => ⟨⟨i + 1, by simp, by omega, by omega, m5 _⟩, by omega⟩⟩
    have := total_take_le ops (i + 1)
    unfold greatB
    rw [decide_eq_true (by omega)]; rfl
  · have : ops.take i = ops := List.take_of_length_le (by omega)
    rw [this] at ht
    refine ⟨?_, m3⟩
    unfold greatB
    rw [decide_eq_false (p := total ops > 16384) (by omega), hlen]; simp; omega

/-! ## one call -/
def BS.did (B : BS) (o : OpD) : BS × List Msg × Int :=
  if o.kind = 1 then (B.timeout.1, B.timeout.2, 0) else
  if o.kind = 2 then (B, if B.role = 2 then B.feeds else [], 0) else
  if o.kind = 3 then ((B.propose o.a o.b o.text).2.1, (B.propose o.a o.b o.text).2.2, (B.propose o.a o.b o.text).1) else
  if o.kind = 4 then ((B.take o.M).1, (B.take o.M).2, 0) else
  if o.kind = 5 then (B.cut o.a o.text, [], if B.cuts o.a = true then 1 else 0) else (B, [], 0)
def DidPost (R : BS × List Msg × Int) (b : Nat) (L : List Nat) (s : PH) (x : Value) (s' : PH) : Prop := ∃ y, x = .tuple #[y, .int .i64 R.2.2] ∧ OpPost (R.1, R.2.1) b L s y s'
section
variable {s : PH} {b : Nat} {l v n m : Tri} {B : BS}
theorem DidPost.of {R : BS × List Msg} {L L' : List Nat} {k : Int} {s0 s : PH} {y : Value} {s' : PH} (st : Step L L' s0 s) (h : OpPost R b L' s y s') : DidPost (R.1, R.2, k) b L s0 (.tuple #[y, .int .i64 k]) s' :=
  ⟨y, rfl, OpPost.start h st⟩
theorem c_did (h : Bal s b l v n m B) {z : Int} (hI : B.Inv z) (hz : 0 ≤ z ∧ z ≤ 900000) (o : OpD) (t : Tri) (ho : MsgIs s (msgCells o.M t) o.M t) (hll : o.M.list.length ≤ 20000) :
    DCalls Try.prog 12 #[bptr b, opV o t] s (DidPost (B.did o) b (bL b l v n m) s) := by
  refine ok_did b o.kind o.a o.b o.text o.M.kind o.M.from_ o.M.to o.M.term o.M.index o.M.prev o.M.commit o.M.good t.1 t.2.1 t.2.2 o.M.snap _ s ?_
  have hR := hI.run
  have hlen := hI.len
  have hFAR : FAR = 1099511627776 := rfl
  have ht := hI.term
  unfold vc_did
  simp only [RP_nw]
  refine W.nw_of fun r s1 hr m1 k1 => ?_
  have h1 := h.new m1
  have st1 : Step (bL b l v n m) (bL b l v n m) s s1 := ⟨m1.mono (by simp), fun x hx => .inl hx⟩
  unfold BS.did
  simp [W.ld_at k1, W.br_iff]
  refine ⟨fun e => ?_, fun e1 => ⟨fun e => ?_, fun e2 => ⟨fun e => ?_, fun e3 => ⟨fun e => ?_, fun e4 => ⟨fun e => ?_, fun e5 => ?_⟩⟩⟩⟩⟩
  · rw [if_pos e]
    refine W.call_of (c_Timeout h1 hR.ok hR.lc (by omega) (by unfold Num; omega)) ?_
    intro x s2 hp
    obtain ⟨t', q⟩ := hp
    obtain ⟨ps, l', v', n', m', rfl, q⟩ := q
    exact ⟨((t', ()), ()), rfl, DidPost.of st1 ⟨t', ps, l', v', n', m', rfl, q⟩⟩
  · rw [if_neg e1, if_pos e]
    refine W.call_of (c_Beat h1 hR.ok fun hr => (hR.ld hr).fed) ?_
    intro x s2 hp
    obtain ⟨t', ps, l', v', n', m', rfl, q⟩ := hp
    exact ⟨((t', ()), ()), rfl, DidPost.of st1 ⟨t', ps, l', v', n', m', rfl, q⟩⟩
  · rw [if_neg e1, if_neg e2, if_pos e]
    refine W.call_of (c_Propose h1 hR.ok hR.ld hR.lc (by omega) o.a o.b o.text) ?_
    rintro _ s2 ⟨y, rfl, hp⟩
    generalize B.propose o.a o.b o.text = R at hp
    obtain ⟨t', ps, l', v', n', m', rfl, q⟩ := hp
    exact ⟨((R.1, ()), (t', ()), ()), rfl, DidPost.of st1 ⟨t', ps, l', v', n', m', rfl, q⟩⟩
  · rw [if_neg e1, if_neg e2, if_neg e3, if_pos e]
    refine W.call_of (c_copied (ho.mono m1.le)) ?_
    rintro _ s2 ⟨t', rfl, hrow, m2, hf⟩
    refine ⟨((o.M.kind, o.M.from_, o.M.to, o.M.term, o.M.index, o.M.prev, o.M.commit, o.M.good, t', o.M.snap, ()), ()), rfl, ?_⟩
    have st2 : Step (bL b l v n m) (bL b l v n m) s s2 := st1.trans ⟨m2.mono (by simp), fun x hx => .inl hx⟩
    refine W.call_of (c_Take (h1.new m2) hR (by omega) o.M t' hrow (by omega)) ?_
    intro x s3 hp
    obtain ⟨t3, ps, l', v', n', m', rfl, q⟩ := hp
    exact ⟨((t3, ()), ()), rfl, DidPost.of st2 ⟨t3, ps, l', v', n', m', rfl, q⟩⟩
  · rw [if_neg e1, if_neg e2, if_neg e3, if_neg e4, if_pos e]
    refine W.call_of (c_Cut h1 hR.ok.small hR.ok.base hR.lc o.a o.text) ?_
    rintro _ s2 ⟨l', rfl, h2, st2⟩
    refine ⟨((B.cuts o.a, ()), ()), rfl, ?_⟩
    simp only [W.br_iff]
    refine ⟨fun hc => ?_, fun hc => ?_⟩
    · have hc : B.cuts o.a = true := hc
      rw [if_pos hc]; exact ⟨_, rfl, OpPost.noMsgs h2 (st1.trans st2)⟩
    · have hc : B.cuts o.a = false := hc
      rw [hc]; exact ⟨_, rfl, OpPost.noMsgs h2 (st1.trans st2)⟩
  · rw [if_neg e1, if_neg e2, if_neg e3, if_neg e4, if_neg e5]
    exact ⟨_, rfl, OpPost.noMsgs h1 st1⟩
theorem Inv.did {B : BS} {z : Int} (h : B.Inv z) (o : OpD) (hz : 0 ≤ z ∧ z ≤ 900000) (hll : o.M.list.length ≤ 20000) : (B.did o).1.Inv (z + (2 + o.M.list.length)) := by
  unfold BS.did
  split
  · exact (Inv.timeout h (by omega)).mono (by omega)
  · split
    · exact h.mono (by omega)
    · split
      · exact (Inv.propose h (by omega) o.a o.b o.text).mono (by omega)
      · split
        · exact (Inv.take h o.M (by omega)).mono (by omega)
        · split
          · unfold BS.cut
            dsimp only
            split
            · exact h.mono (by omega)
            · exact (Inv.cut h (by omega) (by omega) (by omega) _ o.text).mono (by omega)
          · exact h.mono (by omega)
end
end Go.Proofs.Ytfpbiecmobdnnaa
