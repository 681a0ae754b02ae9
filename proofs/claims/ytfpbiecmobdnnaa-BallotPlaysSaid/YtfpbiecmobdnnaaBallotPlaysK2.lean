/-
  Part 2 for the law: texts of this session's own, those parts that the claim needs, one behind the other.
  Conditions: none; it proves no statement by itself.
-/
import Derived.Test.YtfpbiecmobdnnaaBallotPlaysK1
set_option linter.unusedVariables false
set_option linter.unusedSectionVars false
set_option linter.unusedSimpArgs false
section
set_option linter.unusedVariables false
set_option linter.unusedSimpArgs false
set_option maxHeartbeats 1000000
namespace Go.Proofs.Ytfpbiecmobdnnaa
open Fw Go
attribute [-simp] Fw.W.ld_iff Fw.W.st_iff
/-- how many of the first k have entry i -/
def BS.cnt (B : BS) (i : Int) (k : Nat) : Nat := ((List.range k).filter fun (j : Nat) => !((j : Int) == B.id) && decide (i ≤ (B.mat[j]?).getD 0)).length
theorem BS.cnt_succ (B : BS) (i : Int) (k : Nat) : B.cnt i (k + 1) = if (k : Int) ≠ B.id ∧ i ≤ (B.mat[k]?).getD 0 then B.cnt i k + 1 else B.cnt i k := by
  unfold BS.cnt
  rw [List.range_succ, List.filter_append, List.length_append]
  by_cases h : (k : Int) = B.id
  · simp [h]
  · have h' : ((k : Int) == B.id) = false := by simpa using h
    by_cases g : i ≤ (B.mat[k]?).getD 0
    · simp [h, h', g]
    · simp [h, h', g]
theorem BS.cnt_le (B : BS) (i : Int) (k : Nat) : B.cnt i k ≤ k := by
  unfold BS.cnt
  exact Nat.le_trans (List.length_filter_le _ _) (by simp)
def BS.wins (B : BS) (i : Int) : Bool := ((B.termAt i).1 == B.term) && decide (B.size < 2 * (1 + B.cnt i B.mat.length : Nat))
def BS.best (B : BS) : Nat → Option Int
  | 0 => none
  | d + 1 => if B.wins (B.commit + (d + 1 : Nat)) then some (B.commit + (d + 1 : Nat)) else B.best d
def BS.settled (B : BS) : BS × List Msg := match B.best (B.lst - B.commit).toNat with
  | some i => ({ B with commit := i }, { B with commit := i }.feeds)
  | none => (B, [])
theorem settled_len (B : BS) : B.settled.2.length ≤ B.size.toNat := by
  unfold BS.settled
  split
  · exact BS.others_len _ _ _
  · exact Nat.zero_le _
structure BS.Ok (B : BS) : Prop where
  small : B.Small
  base : B.base ≤ 4611686016279904256
  size : 1 ≤ B.size ∧ B.size ≤ 5
  id : 0 ≤ B.id ∧ B.id < B.size
  com : B.base ≤ B.commit
section
variable {s : PH} {b : Nat} {l v n m : Tri} {B : BS}
def SetlPost (B : BS) (b : Nat) (l v n m : Tri) (s : PH) (x : Value) (s' : PH) : Prop := ∃ t ps, x = Tri.v t ∧ Msgs s' t ps ∧ ps.map (·.1) = B.settled.2 ∧ Bal s' b l v n m B.settled.1 ∧ Fw.Mod [b] s s' ∧ ∀ y ∈ mF t ps, s y = none
def SetlZ (B : BS) (s : PH) (z : MDen [(false, [.int .i64])]) (s' : PH) : Prop := ∃ d : Nat, z = ((B.commit + (d : Int), ()), ()) ∧ B.commit + d ≤ B.lst ∧ B.best (B.lst - B.commit).toNat = B.best d ∧ Fw.Mod [] s s'
def CntZ (B : BS) (m : Tri) (i : Int) (s : PH) (z : MDen [(false, [.int .i64]), (false, [.int .i64]), (false, [.slice]), (false, [.int .i64]), (false, [.int .i64])]) (s' : PH) : Prop :=
  ∃ k : Nat, z = ((i, ()), (((1 + B.cnt i k : Nat) : Int), ()), (m, ()), ((m.2.1 : Int), ()), ((k : Int), ()), ()) ∧ k ≤ m.2.1 ∧ s' = s
theorem c_settle (h : Bal s b l v n m B) (hok : B.Ok) (hF : B.Fed) (hm : B.mat.length = B.size.toNat) (hlc : B.commit ≤ B.lst) : DCalls Try.prog 54 #[bptr b] s (SetlPost B b l v n m s) := by
  refine ok_settle b _ s ?_
  unfold vc_settle
  have hs := hok.small
  have hnl := num_lst hs hok.base
  have hsz := hok.size
  have hcb := hok.com
  obtain ⟨q1, q2, q3⟩ := id hs
  unfold Num at hnl
  simp only [RP_call]
  refine W.call_of (c_last h hs) ?_
  rintro _ s ⟨rfl, rfl⟩
  refine ⟨((B.lst, ()), ()), rfl, ?_⟩
  simp only [RP_loop]
  refine ⟨SetlZ B s, fun z _ => (z.1.1 - B.commit).toNat, ⟨(B.lst - B.commit).toNat, ?_, by omega, rfl, Mod.refl _ _⟩, ?_⟩
  · have : B.commit + ((B.lst - B.commit).toNat : Int) = B.lst := by omega
    rw [this]
  rintro _ s1 ⟨d, rfl, hd, hbest, m1⟩
  have hB1 := h.new m1
  have hb1 := hB1.cell
  simp [W.ld_at hb1, W.br_iff]
  refine ⟨fun hlt => ?_, fun hge => ?_⟩
  · obtain ⟨d', rfl⟩ : ∃ d', d = d' + 1 := ⟨d - 1, by omega⟩
    generalize hi : B.commit + ((d' + 1 : Nat) : Int) = i
    have hi' : B.commit + ((d' : Int) + 1) = i := by omega
    have hml := hB1.mat.len
    refine ⟨CntZ B m i s1, fun z _ => m.2.1 - z.2.2.2.2.1.1.toNat, ⟨0, by simp [BS.cnt], Nat.zero_le _, rfl⟩, ?_⟩
    rintro _ s1 ⟨k, rfl, hk, rfl⟩
    have hcl := B.cnt_le i k
    have hw : IntKind.i64.wrap ((k : Int) + 1) = ((k + 1 : Nat) : Int) := by rw [wrap_in (by omega) (by omega)]; simp
    have hwc : IntKind.i64.wrap (((1 + B.cnt i k : Nat) : Int) + 1) = ((1 + (B.cnt i k + 1) : Nat) : Int) := by rw [wrap_in (by omega) (by omega)]; simp; omega
    have hb1' := hB1.cell
    simp [W.br_iff, W.ld_at hb1']
    refine ⟨fun hkn => ⟨hkn, ?_⟩, fun hkn => ?_⟩
    · obtain ⟨x, hx⟩ : ∃ x, B.mat[k]? = some x := ⟨_, List.getElem?_eq_getElem (by omega)⟩
      obtain ⟨g, hg, hhas⟩ := hB1.mat.at hx
      have hmt : (some (Addr.mk g 0 none), m.2.1, m.2.2) = m := by rw [← hg]
      rw [hg]
      simp only [W.unSome_some, add_mk, Nat.zero_add]
      have hhas : s1.has ⟨g, k, none⟩ [.int .i64 x] := by
        have : k * intE.sz = k := Nat.mul_one _
        rw [this] at hhas; exact hhas
      refine ld_has_z hhas (cs := [.int .i64]) (y := (x, ())) rfl ?_
      simp [W.br_iff, W.ld_at hb1']
      have hgx : (B.mat[k]?).getD 0 = x := by rw [hx]; (first | done | rfl)
      refine ⟨fun hne => ⟨fun hge => ⟨⟨k + 1, ?_, by omega, rfl⟩, by rw [hw]; simp only [Int.toNat_natCast]; omega⟩, fun hlt2 => ⟨⟨k + 1, ?_, by omega, rfl⟩, by rw [hw]; simp only [Int.toNat_natCast]; omega⟩⟩,
        fun he => ⟨⟨k + 1, ?_, by omega, rfl⟩, by rw [hw]; simp only [Int.toNat_natCast]; omega⟩⟩
      · rw [B.cnt_succ, if_pos ⟨hne, by rw [hgx]; exact hge⟩, hw, ← hwc]; simp; exact hmt
      · rw [B.cnt_succ, if_neg (by rw [hgx]; omega), hw]; simp; exact hmt
      · rw [B.cnt_succ, if_neg (by intro h; exact h.1 he), hw]; simp; exact hmt
    · have hkm : k = B.mat.length := by omega
      refine W.call_of (c_term hB1 hs (i := i) (by unfold Num; omega)) ?_
      rintro _ s2 ⟨rfl, m2⟩
      refine ⟨(((B.termAt i).1, ()), ((B.termAt i).2, ()), ()), rfl, ?_⟩
      have hB2 := hB1.new m2
      have hb2 := hB2.cell
      have m12 := m1.trans m2
      have hwi : IntKind.i64.wrap (i - 1) = B.commit + (d' : Int) := by rw [wrap_in (by omega) (by omega)]; omega
      have hw2 : IntKind.i64.wrap (2 * (1 + (B.cnt i k : Int))) = 2 * (1 + (B.cnt i k : Int)) := wrap_in (by omega) (by omega)
      have hno : B.wins i = false → SetlZ B s ((IntKind.i64.wrap (i - 1), ()), ()) s2 ∧ max (IntKind.i64.wrap (i - 1) - B.commit) 0 < i - B.commit := by
        intro hwin
        rw [hwi]
        refine ⟨⟨d', rfl, by omega, ?_, m12⟩, by omega⟩
        rw [hbest]
        show (if B.wins (B.commit + ((d' + 1 : Nat) : Int)) then _ else _) = _
        rw [hi, hwin]; (first | done | rfl)
      simp [W.br_iff, W.ld_at hb2, hw2]
      refine ⟨fun ht => ⟨fun hmaj => ?_, fun hmaj => ?_⟩, fun ht => ?_⟩
      · have hwin : B.wins i = true := by
          unfold BS.wins
          rw [ht, ← hkm]
          simp; omega
        have hset : B.settled = ({ B with commit := i }, { B with commit := i }.feeds) := by
          unfold BS.settled; rw [hbest]
          have : B.best (d' + 1) = some i := by
            show (if B.wins (B.commit + ((d' + 1 : Nat) : Int)) then _ else _) = _
            rw [hi, hwin]; (first | done | rfl)
          rw [this]
        simp [W.st_at hb2]
        have hB3 : Bal (s2.upd b (.cells ({ B with commit := i }.cells l v n m) 67 (0, 0))) b l v n m { B with commit := i } := hB2.lay
        have m3 : Fw.Mod [b] s (s2.upd b (.cells ({ B with commit := i }.cells l v n m) 67 (0, 0))) := (m12.mono (by simp)).updLater (.inl (by simp))
        refine W.call_of (c_othersFeed hB3 ⟨q1, q2, q3⟩ hok.base ⟨by have := hsz.1; show 0 ≤ B.size; omega, hsz.2⟩ ⟨hF.len, hF.rng⟩) ?_
        rintro _ s4 ⟨t, ps, rfl, hms, hps, m4, hf⟩
        refine ⟨((t, ()), ()), rfl, ?_⟩
        refine ⟨t, ps, rfl, hms, by rw [hset]; exact hps, by rw [hset]; exact hB3.new m4, m3.trans (m4.mono (by simp)), fun y hy => ?_⟩
        have hyb : y ≠ b := by rintro rfl; have := hf y hy; rw [PH.upd_same] at this; cases this
        exact m3.none (hf y hy) (by simpa using hyb)
      · exact hno (by unfold BS.wins; rw [← hkm]; simp; intro _; omega)
      · exact hno (by unfold BS.wins; simp [ht])
  · have hd0 : d = 0 := by omega
    subst hd0
    have hset : B.settled = (B, []) := by unfold BS.settled; rw [hbest]; (first | done | rfl)
    refine ⟨noTri, [], rfl, Msgs.nil _, by rw [hset]; (first | done | rfl), by rw [hset]; exact hB1, m1.mono (by simp), by simp [mF, Fw.blk]⟩
def BS.nvotes (B : BS) : Nat := (B.votes.filter _root_.id).length
def BS.lead2 (B : BS) : BS := { B with role := 2, lead := B.id, next := List.replicate B.size.toNat (B.lst + 1), mat := List.replicate B.size.toNat 0 }
def BS.counted (B : BS) : BS × List Msg :=
  if 2 * (B.nvotes : Int) ≤ B.size then (B, []) else
    let B3 := B.lead2.set (B.lst + 1) [{ noEnt with term := B.term }]
    (B3.settled.1, B3.feeds ++ B3.settled.2)
def OpPost (R : BS × List Msg) (b : Nat) (L : List Nat) (s : PH) (x : Value) (s' : PH) : Prop :=
  ∃ t ps l' v' n' m', x = Tri.v t ∧ Bal s' b l' v' n' m' R.1 ∧ Step L (bL b l' v' n' m') s s' ∧ Msgs s' t ps ∧ ps.map (·.1) = R.2 ∧ ∀ y ∈ mF t ps, (y ∈ L ∨ s y = none) ∧ y ∉ bL b l' v' n' m'
theorem mksl_int {k : Nat → W.T} {s : PH} {c : Nat} (hc : c ≤ 1000) (h : ∀ r s1, s r = none → Fw.Mod [] s s1 → rowE intE s1 3 (some ⟨r, 0, none⟩) c c (List.replicate c 0) → k r s1) : W.mksl 3 1 8 [.int .i64 0] (c : Int) (c : Int) k s := by
  refine ⟨by omega, Int.le_refl _, by omega, by omega, fun r hr => ?_⟩
  have hz : Builtin.zeroCells [Value.int .i64 0].toArray ((c : Nat) : Int).toNat = (List.replicate c (Value.int .i64 0)).toArray := zero_one (.int .i64 0) c
  rw [hz]
  refine h r _ hr (Mod.new hr) ⟨by rw [flat_len]; simp [intE], Nat.le_refl _, by show c ≤ 9223372036854775807; omega, .inr ⟨r, _, rfl, PH.upd_same _ _ _, by simp [intE], ?_⟩⟩
  rw [flat_rep]; simp [intE]
/-- the two rows of a leader are laid -/
theorem lay_rows {s s1 : PH} {t1 t2 : Tri} {x y : List Int} {K : W.T} (h : Bal s b l v n m B) (m1 : Fw.Mod [] s s1) (h1 : rowE intE s1 3 t1.1 t1.2.1 t1.2.2 x) (h2 : rowE intE s1 3 t2.1 t2.2.1 t2.2.2 y)
    (f1 : ∀ z ∈ Fw.blk t1.1, s z = none) (f2 : ∀ z ∈ Fw.blk t2.1, s z = none) (hd : ∀ z ∈ Fw.blk t1.1, z ∉ Fw.blk t2.1) (hK : ∀ s', Bal s' b l v t1 t2 { B with next := x, mat := y } → Step (bL b l v n m) (bL b l v t1 t2) s s' → K s') :
    W.st ⟨b, 13, none⟩ [.slice t1.1 t1.2.1 t1.2.2] (W.unSome (some ⟨b, 0, none⟩) fun p => W.st (p.add 14) [.slice t2.1 t2.2.1 t2.2.2] K) s1 := by
  have hB1 := h.new m1
  have hb1 := hB1.cell
  simp [W.st_at hb1]
  have hbn : s b ≠ none := by rw [h.cell]; simp
  refine hK _ (balOf (B' := { B with next := x, mat := y }) (n' := t1) (m' := t2) hb1 hB1.log hB1.votes h1 h2 hd) ⟨(m1.mono (by simp)).updLater (.inl (by simp [bL])), ?_⟩
  intro z hz
  simp only [bL, List.mem_cons, List.mem_append] at hz ⊢
  rcases hz with hz | hz | hz | hz | hz
  · exact .inl (.inl hz)
  · exact .inl (.inr (.inl hz))
  · exact .inl (.inr (.inr (.inl hz)))
  · exact .inr (f1 z hz)
  · exact .inr (f2 z hz)
def VotZ (B : BS) (v : Tri) (s : PH) (z : MDen [(false, [.int .i64]), (false, [.slice]), (false, [.int .i64]), (false, [.int .i64])]) (s' : PH) : Prop :=
  ∃ k : Nat, z = (((((B.votes.take k).filter id).length : Int), ()), (v, ()), ((v.2.1 : Int), ()), ((k : Int), ()), ()) ∧ k ≤ v.2.1 ∧ s' = s
theorem c_counted (h : Bal s b l v n m B) (hok : B.Ok) (hv : B.votes.length = B.size.toNat) (hlc : B.commit ≤ B.lst) (hl1 : B.log.length + 1 ≤ 1073741824) : DCalls Try.prog 43 #[bptr b] s (OpPost B.counted b (bL b l v n m) s) := by
  refine ok_counted b _ s ?_
  unfold vc_counted
  have hb := h.cell
  have hs := hok.small
  have hsz := hok.size
  have hvl := h.votes.len
  obtain ⟨q1, q2, q3⟩ := id hs
  simp [W.ld_at hb]
  refine ⟨VotZ B v s, fun z _ => v.2.1 - z.2.2.2.1.1.toNat, ⟨0, rfl, Nat.zero_le _, rfl⟩, ?_⟩
  rintro _ s ⟨k, rfl, hk, rfl⟩
  have hcl : ((B.votes.take k).filter id).length ≤ k := Nat.le_trans (List.length_filter_le _ _) (by simp; omega)
  have hw : IntKind.i64.wrap ((k : Int) + 1) = ((k + 1 : Nat) : Int) := by rw [wrap_in (by omega) (by omega)]; simp
  have hwc : IntKind.i64.wrap ((((B.votes.take k).filter id).length : Int) + 1) = ((((B.votes.take k).filter id).length + 1 : Nat) : Int) := by rw [wrap_in (by omega) (by omega)]; simp
  simp [W.br_iff, W.ld_at hb]
  refine ⟨fun hkn => ⟨hkn, ?_⟩, fun hkn => ?_⟩
  · obtain ⟨x, hx⟩ : ∃ x, B.votes[k]? = some x := ⟨_, List.getElem?_eq_getElem (by omega)⟩
    obtain ⟨g, hg, hhas⟩ := h.votes.at hx
    have hmt : (some (Addr.mk g 0 none), v.2.1, v.2.2) = v := by rw [← hg]
    rw [hg]
    simp only [W.unSome_some, add_mk, Nat.zero_add]
    have hhas : s.has ⟨g, k, none⟩ [.bool x] := by
      have : k * boolE.sz = k := Nat.mul_one _
      rw [this] at hhas; exact hhas
    refine ld_has_z hhas (cs := [.bool]) (y := (x, ())) rfl ?_
    simp only [RP_ite, W.br_iff]
    refine ⟨fun hxt => ⟨⟨k + 1, ?_, by omega, rfl⟩, by rw [hw]; simp only [Int.toNat_natCast]; omega⟩, fun hxf => ⟨⟨k + 1, ?_, by omega, rfl⟩, by rw [hw]; simp only [Int.toNat_natCast]; omega⟩⟩
    · have hxt : x = true := hxt
      rw [hwc, hw, List.take_add_one, hx, hxt]; simp; exact hmt
    · have hxf : x = false := hxf
      rw [hw, List.take_add_one, hx, hxf]; simp; exact hmt
  · have hfull : B.votes.take k = B.votes := List.take_of_length_le (by omega)
    have hnv : ((B.votes.take k).filter id).length = B.nvotes := by rw [hfull]; (first | done | rfl)
    have hnv5 : B.nvotes ≤ 5 := by rw [← hnv]; omega
    rw [hnv]
    have hw2 : IntKind.i64.wrap (2 * (B.nvotes : Int)) = 2 * (B.nvotes : Int) := wrap_in (by omega) (by omega)
    rw [hw2]
    refine ⟨fun hle => ?_, fun hgt => ?_⟩
    · have : B.counted = (B, []) := by unfold BS.counted; rw [if_pos hle]
      rw [this]
      exact ⟨noTri, [], l, v, n, m, rfl, h, Step.refl _ _, Msgs.nil _, rfl, by simp [mF, Fw.blk]⟩
    have hcnt : B.counted = ((B.lead2.set (B.lst + 1) [{ noEnt with term := B.term }]).settled.1, (B.lead2.set (B.lst + 1) [{ noEnt with term := B.term }]).feeds ++ (B.lead2.set (B.lst + 1) [{ noEnt with term := B.term }]).settled.2) := by
      unfold BS.counted; rw [if_neg (by omega)]
    simp [W.st_at hb]
    have h2 : Bal (s.upd b (.cells ({ B with role := 2, lead := B.id }.cells l v n m) 67 (0, 0))) b l v n m { B with role := 2, lead := B.id } := h.lay
    have m2 : Fw.Mod [b] s (s.upd b (.cells ({ B with role := 2, lead := B.id }.cells l v n m) 67 (0, 0))) := Mod.upd (by simp)
    generalize hs2 : s.upd b (.cells ({ B with role := 2, lead := B.id }.cells l v n m) 67 (0, 0)) = s2 at h2 m2
    clear hs2
    have hs' : { B with role := 2, lead := B.id }.Small := ⟨q1, q2, q3⟩
    obtain ⟨c, hc⟩ : ∃ c : Nat, B.size = c := ⟨B.size.toNat, by omega⟩
    have hct : B.size.toNat = c := by omega
    have hlst : B.lst = B.base + B.log.length := rfl
    have hbase := hok.base
    refine W.join_gen (fun _ s' => ∃ n' m', Bal s' b l v n' m' B.lead2 ∧ Step (bL b l v n m) (bL b l v n' m') s2 s') ?_ ?_
    · rintro _ s3 ⟨n', m', h3, st3⟩
      have hwl : IntKind.i64.wrap (B.lst + 1) = B.lst + 1 := wrap_in (by omega) (by omega)
      have hsm : B.lead2.Small := ⟨q1, q2, q3⟩
      refine W.callQ_of ((B.lst, ()), ()) (c_last h3 hsm) rfl ?_
      have hb3 := h3.cell
      simp [W.ld_at hb3, -W.nw_iff, hwl]
      refine W.nw_of fun r50 s4 hr4 m4 k4 => ?_
      have st1 : Step (bL b l v n m) (bL b l v n' m') s s4 := (Step.trans (L' := bL b l v n m) ⟨m2.mono (by simp [bL]), fun x hx => .inl hx⟩ st3).trans ⟨m4.mono (by simp), fun x hx => .inl hx⟩
      refine W.call_of (c_set (h3.new m4) hsm (i := B.lst + 1) (ys := [{ noEnt with term := B.term }]) (by show B.base < _; omega) (Int.le_refl _) (row_one (E := entE) (x := { noEnt with term := B.term }) k4 rfl).src0 rfl (by omega)) ?_
      rintro _ s5 ⟨l', rfl, h5, st5⟩
      refine ⟨(), rfl, ?_⟩
      have st2 := st1.trans st5
      have hB3s : (B.lead2.set (B.lst + 1) [{ noEnt with term := B.term }]).log.length ≤ B.log.length + 1 := by
        unfold BS.set BS.lead2
        simp only [List.length_append, List.length_take, List.length_cons, List.length_nil]; omega
      have hl3 : (B.lead2.set (B.lst + 1) [{ noEnt with term := B.term }]).log.length = B.log.length + 1 := by
        unfold BS.set BS.lead2
        simp only [List.length_append, List.length_take, List.length_cons, List.length_nil]; omega
      have hlst3 : (B.lead2.set (B.lst + 1) [{ noEnt with term := B.term }]).lst = B.lst + 1 := by
        have e : (B.lead2.set (B.lst + 1) [{ noEnt with term := B.term }]).lst = B.base + ((B.lead2.set (B.lst + 1) [{ noEnt with term := B.term }]).log.length : Int) := rfl
        rw [e, hl3, hlst]; omega
      have hok3 : (B.lead2.set (B.lst + 1) [{ noEnt with term := B.term }]).Ok := ⟨⟨q1, q2, by omega⟩, hbase, hsz, hok.id, hok.com⟩
      have hF3 : (B.lead2.set (B.lst + 1) [{ noEnt with term := B.term }]).Fed := by
        refine ⟨by show (List.replicate _ _).length = _; simp; (first | done | rfl), fun i nx hnx => ?_⟩
        have : (List.replicate B.size.toNat (B.lst + 1))[i]? = some nx := hnx
        rw [List.getElem?_replicate] at this
        split at this
        · cases this
          right
          rw [hlst3]
          exact ⟨by show B.base < _; omega, by omega⟩
        · cases this
      have hm3 : (B.lead2.set (B.lst + 1) [{ noEnt with term := B.term }]).mat.length = (B.lead2.set (B.lst + 1) [{ noEnt with term := B.term }]).size.toNat := by show (List.replicate _ _).length = _; simp; (first | done | rfl)
      have hlc3 : (B.lead2.set (B.lst + 1) [{ noEnt with term := B.term }]).commit ≤ (B.lead2.set (B.lst + 1) [{ noEnt with term := B.term }]).lst := by rw [hlst3]; show B.commit ≤ _; omega
      generalize B.lead2.set (B.lst + 1) [{ noEnt with term := B.term }] = B3 at h5 hok3 hF3 hm3 hlc3 hcnt
      rw [hcnt]
      have hz3 := hok3.size
      refine W.call_of (c_othersFeed h5 hok3.small hok3.base ⟨by omega, hz3.2⟩ hF3) ?_
      rintro _ s6 ⟨t1, ps1, rfl, hms1, hps1, m6, hf1⟩
      refine ⟨((t1, ()), ()), rfl, ?_⟩
      have h6 := h5.new m6
      refine W.call_of (c_settle h6 hok3 hF3 hm3 hlc3) ?_
      rintro _ s7 ⟨t2, ps2, rfl, hms2, hps2, h7, m7, hf2⟩
      refine ⟨((t2, ()), ()), rfl, ?_⟩
      have hb1 : ∀ y ∈ mF t1 ps1, y ≠ b := fun y hy e => by subst e; have := hf1 y hy; rw [h5.cell] at this; cases this
      have hms1' := hms1.mod m7 (fun y hy => by simpa using hb1 y hy)
      have st3 : Step (bL b l v n m) (bL b l' v n' m') s s7 := (st2.trans ⟨m6.mono (by simp), fun x hx => .inl hx⟩).trans ⟨m7.mono (by simp [bL]), fun x hx => .inl hx⟩
      have hl1' : t1.2.1 ≤ 5 := by
        have h1 := hms1.row.len
        have h2 := congrArg List.length hps1
        have h3 := B3.others_len (fun to => B3.feedM to ((B3.next[to]?).getD 0)) B3.size.toNat
        simp only [List.length_map] at h2
        have h4 : B3.feeds.length = (B3.others (fun to => B3.feedM to ((B3.next[to]?).getD 0)) B3.size.toNat).length := rfl
        omega
      have hl2' : t2.2.1 ≤ 5 := by
        have h1 := hms2.row.len
        have h2 := congrArg List.length hps2
        have h5 := settled_len B3
        simp only [List.length_map] at h2
        omega
      refine app_msgs (fun y => (y ∈ bL b l v n m ∨ s y = none) ∧ y ∉ bL b l' v n' m') ?_ hms1' hms2 ?_ ?_ ?_ hms1.apart (by omega) (by omega) ?_
      · intro g hg
        refine ⟨?_, fun hx => h7.known g hx hg⟩
        by_cases hx : g ∈ bL b l v n m
        · exact .inl hx
        · exact .inr (st3.mod.none hg hx)
      · intro y hy
        have h0 := hf1 y hy
        refine ⟨?_, fun hx => h5.known y hx h0⟩
        by_cases hx : y ∈ bL b l v n m
        · exact .inl hx
        · exact .inr (st2.mod.none h0 hx)
      · intro y hy
        have h0 := hf2 y hy
        refine ⟨?_, fun hx => h6.known y hx h0⟩
        by_cases hx : y ∈ bL b l v n m
        · exact .inl hx
        · exact .inr (st2.mod.none (m6.none h0 (by simp)) hx)
      · intro y hy hy'
        exact hms1.known y (by simp [mF, hy']) (hf2 y hy)
      · intro a' n'' c' s' g1 g2 g3
        have hdis : ∀ x ∈ bL b l' v n' m', x ∉ Fw.blk t1.1 := fun x hx hx' => h5.known x hx (hf1 x (by simp [mF, hx']))
        refine ⟨(a', n'', c'), ps1 ++ ps2, l', v, n', m', rfl, h7.mod g3 hdis, ?_, g1, by rw [List.map_append, hps1, hps2], g2⟩
        refine ⟨fun x h1 h2 => ?_, st3.new⟩
        rw [g3 x ?_ ?_, st3.mod x h1 h2]
        · rw [st3.mod x h1 h2]; exact h1
        · intro hx'
          have := hf1 x (by simp [mF, hx'])
          have h3 := st2.mod.none this h2
          exact h1 h3
    · intro J hJ
      have hb2 := h2.cell
      have hfin : ∀ {s1 : PH} {t1 t2 : Tri}, Fw.Mod [] s2 s1 → rowE intE s1 3 t1.1 t1.2.1 t1.2.2 (List.replicate c (B.lst + 1)) → rowE intE s1 3 t2.1 t2.2.1 t2.2.2 (List.replicate c 0) → (∀ z ∈ Fw.blk t1.1, s2 z = none) → (∀ z ∈ Fw.blk t2.1, s2 z = none) → (∀ z ∈ Fw.blk t1.1, z ∉ Fw.blk t2.1) →
          W.st ⟨b, 13, none⟩ [.slice t1.1 t1.2.1 t1.2.2] (W.unSome (some ⟨b, 0, none⟩) fun p => W.st (p.add 14) [.slice t2.1 t2.2.1 t2.2.2] (J ())) s1 := by
        intro s1 t1 t2 m1 h1 h2' f1 f2 hd
        refine lay_rows h2 m1 h1 h2' f1 f2 hd fun s' hB hst => hJ _ _ ⟨t1, t2, ?_, hst⟩
        have : B.lead2 = { { B with role := 2, lead := B.id } with next := List.replicate c (B.lst + 1), mat := List.replicate c 0 } := by unfold BS.lead2; rw [hct]
        rw [this]; exact hB
      refine W.callQ_of ((B.lst, ()), ()) (c_last h2 hs') rfl ?_
      have hwl : IntKind.i64.wrap (B.lst + 1) = B.lst + 1 := wrap_in (by omega) (by omega)
      simp [W.ld_at hb2, -W.nw_iff, hwl]
      rw [hc]
      simp only [Int.toNat_natCast]
      have hc1 : 1 ≤ c := by omega
      have hc5 : c ≤ 5 := by omega
      have frs : ∀ {s4 s5 : PH} {x : Nat}, Fw.Mod [] s2 s4 → s4 x = none → s2 x = none := fun m e => m.none e (by simp)
      refine ⟨?_, ?_⟩
      · refine W.nw_of fun r25 s4 hr4 m4 k4 => ?_
        refine ⟨?_, ?_⟩
        · refine W.call_of (c_Repeat k4 hc1 hc5) ?_
          rintro _ s5 ⟨t1, rfl, h1, m5, f1⟩
          refine ⟨((t1, ()), ()), rfl, ?_⟩
          have m25 := m4.trans m5
          have hb5 := (h2.new m25).cell
          have f1' : ∀ z ∈ Fw.blk t1.1, s2 z = none := fun z hz => m4.none (f1 z hz) (by simp)
          simp [W.still_at hb5, hc, -W.nw_iff]
          refine ⟨?_, ?_⟩
          · refine mksl_int (by omega) fun r30 s6 hr6 m6 h6 => ?_
            refine hfin (t2 := (some ⟨r30, 0, none⟩, c, c)) (m25.trans m6) (h1.mod m6 (by simp)) h6 f1' (by simp [Fw.blk]; exact m25.none hr6 (by simp)) (fun z hz => ?_)
            simp [Fw.blk]; rintro rfl; exact h1.known z hz hr6
          · simp [W.st_at hb5]
            have hdm : ∀ z ∈ Fw.blk t1.1, z ∉ Fw.blk m.1 := fun z hz hz' => h2.mat.known z hz' (f1' z hz)
            have h6 : Bal (s5.upd b (.cells ({ B with role := 2, lead := B.id, next := List.replicate c (B.lst + 1) }.cells l v t1 m) 67 (0, 0))) b l v t1 m { B with role := 2, lead := B.id, next := List.replicate c (B.lst + 1) } :=
              balOf (B' := { B with role := 2, lead := B.id, next := List.replicate c (B.lst + 1) }) hb5 (h2.new m25).log (h2.new m25).votes h1 (h2.new m25).mat hdm
            have m6 : Fw.Mod [b] s2 (s5.upd b (.cells ({ B with role := 2, lead := B.id, next := List.replicate c (B.lst + 1) }.cells l v t1 m) 67 (0, 0))) := (m25.mono (by simp)).updLater (.inl (by simp))
            refine mksl_int (by omega) fun r32 s7 hr7 m7 h7 => ?_
            have h67 := h6.new m7
            have hb7 := h67.cell
            simp [W.st_at hb7]
            have hr2 : s2 r32 = none := by
              have : r32 ≠ b := by rintro rfl; rw [PH.upd_same] at hr7; cases hr7
              exact m6.none hr7 (by simpa using this)
            refine hJ _ _ ⟨t1, (some ⟨r32, 0, none⟩, c, c), ?_, ⟨((m6.trans (m7.mono (by simp))).updLater (.inl (by simp))).mono (by simp [bL]), ?_⟩⟩
            · have : B.lead2 = { { B with role := 2, lead := B.id } with next := List.replicate c (B.lst + 1), mat := List.replicate c 0 } := by unfold BS.lead2; rw [hct]
              rw [this]
              refine balOf (B' := { B with role := 2, lead := B.id, next := List.replicate c (B.lst + 1), mat := List.replicate c 0 }) (m' := (some ⟨r32, 0, none⟩, c, c)) hb7 h67.log h67.votes h67.next h7 (fun z hz => ?_)
              simp [Fw.blk]; rintro rfl
              exact h6.next.known z hz hr7
            · intro z hz
              simp only [bL, List.mem_cons, List.mem_append] at hz ⊢
              rcases hz with hz | hz | hz | hz | hz
              · exact .inl (.inl hz)
              · exact .inl (.inr (.inl hz))
              · exact .inl (.inr (.inr (.inl hz)))
              · exact .inr (f1' z hz)
              · simp [Fw.blk] at hz; subst hz; exact .inr hr2
        · refine mksl_int (by omega) fun r34 s5 hr5 m5 h5 => ?_
          have m25 := m4.trans m5
          refine W.call_of (c_Repeat (m5.at k4 (by simp)) hc1 hc5) ?_
          rintro _ s6 ⟨t1, rfl, h1, m6, f1⟩
          refine ⟨((t1, ()), ()), rfl, ?_⟩
          have m26 := m25.trans m6
          have hb6 := (h2.new m26).cell
          simp only [W.still_iff]
          refine ⟨?_, ?_⟩
          · have := (W.still_at hb6 (.int .i64) [] 1 ((c : Int), ()) (fun _ => True)).2 ⟨by simp [hc], trivial⟩
            exact this.1
          simp only [W.unSome_some, add_mk, Nat.zero_add]
          refine hfin (t2 := (some ⟨r34, 0, none⟩, c, c)) m26 h1 (h5.mod m6 (by simp)) (fun z hz => m25.none (f1 z hz) (by simp)) (by simp [Fw.blk]; exact m4.none hr5 (by simp)) (fun z hz => ?_)
          simp [Fw.blk]; rintro rfl
          have := f1 z hz
          exact h5.known z (by simp [Fw.blk]) this
      · refine mksl_int (by omega) fun r40 s4 hr4 m4 h4 => ?_
        refine W.nw_of fun r41 s5 hr5 m5 k5 => ?_
        have m25 := m4.trans m5
        refine W.call_of (c_Repeat k5 hc1 hc5) ?_
        rintro _ s6 ⟨t1, rfl, h1, m6, f1⟩
        refine ⟨((t1, ()), ()), rfl, ?_⟩
        have m26 := m25.trans m6
        have hb6 := (h2.new m26).cell
        simp only [W.still_iff]
        refine ⟨?_, ?_⟩
        · have := (W.still_at hb6 (.int .i64) [] 1 ((c : Int), ()) (fun _ => True)).2 ⟨by simp [hc], trivial⟩
          exact this.1
        simp only [W.unSome_some, add_mk, Nat.zero_add]
        refine hfin (t2 := (some ⟨r40, 0, none⟩, c, c)) m26 h1 ((h4.mod m5 (by simp)).mod m6 (by simp)) (fun z hz => m25.none (f1 z hz) (by simp)) (by simp [Fw.blk]; exact hr4) (fun z hz => ?_)
        simp [Fw.blk]; rintro rfl
        have := f1 z hz
        exact (h4.mod m5 (by simp)).known z (by simp [Fw.blk]) this
end
end Go.Proofs.Ytfpbiecmobdnnaa
end
section
set_option linter.unusedVariables false
set_option linter.unusedSimpArgs false
set_option maxHeartbeats 1000000
namespace Go.Proofs.Ytfpbiecmobdnnaa
open Fw Go
attribute [-simp] Fw.W.ld_iff Fw.W.st_iff
def FAR : Int := 1099511627776
def Msg.strange (M : Msg) (id size : Int) : Bool :=
  M.to != id || (M.from_ == id || (decide (M.from_ < 0) || (decide (M.from_ ≥ size) || (decide (M.kind < 1) || (decide (M.kind > 5) || (decide (M.term < 1) || (decide (M.term > FAR) ||
    (decide (M.index < (if M.kind == 4 then -1 else 0)) || (decide (M.index > FAR) || ((decide (M.prev < 0) || decide (M.prev > FAR)) || (decide (M.commit < 0) || decide (M.commit > FAR))))))))))))
section
variable {s : PH} {b : Nat} {l v n m : Tri} {B : BS}
theorem c_strange1 (x : Int) (s : PH) : DCalls Try.prog 71 #[.int .i64 x] s fun y s' => y = .bool (decide (x < 0) || decide (x > FAR)) ∧ s' = s := by
  refine ok_strange1 x _ s ?_
  unfold vc_strange1
  simp [W.br_iff, FAR]
  omega
theorem c_strange (h : Bal s b l v n m B) (M : Msg) (t : Tri) : DCalls Try.prog 44 #[bptr b, msgV M t] s (ValPost (.bool (M.strange B.id B.size)) s) := by
  refine ok_strange b M.kind M.from_ M.to M.term M.index M.prev M.commit M.good t.1 t.2.1 t.2.2 M.snap _ s ?_
  unfold vc_strange
  simp only [RP_nw]
  refine W.nw_of fun r s1 hr m1 k1 => ?_
  have hb1 := (h.new m1).cell
  have fin : ∀ x, x = M.strange B.id B.size → ValPost (.bool (M.strange B.id B.size)) s (.bool x) s1 := by rintro x rfl; exact ⟨rfl, m1⟩
  simp only [RP_join]
  refine W.join_gen (fun z s' => s' = s1 ∧ z = ((Addr.mk r 0 none, ()), ((if M.kind == 4 then -1 else 0), ()), ())) ?_ ?_
  · rintro _ s1 ⟨rfl, rfl⟩
    simp only [RP_ld, RP_ite, RP_unSome, RP_ret, RP_call, add_mk, Nat.zero_add, W.ld_at k1, W.ld_at hb1, W.unSome_some, W.br_iff, W.ret_iff]
    have hstr : M.strange B.id B.size = (M.to != B.id || (M.from_ == B.id || (decide (M.from_ < 0) || (decide (M.from_ ≥ B.size) || (decide (M.kind < 1) || (decide (M.kind > 5) || (decide (M.term < 1) || (decide (M.term > FAR) ||
      (decide (M.index < (if M.kind == 4 then -1 else 0)) || (decide (M.index > FAR) || ((decide (M.prev < 0) || decide (M.prev > FAR)) || (decide (M.commit < 0) || decide (M.commit > FAR)))))))))))) ) := rfl
    simp
    refine ⟨fun h1 => fin _ (by rw [hstr]; simp [h1]), fun h1 => ⟨fun h2 => fin _ (by rw [hstr]; simp [h2]), fun h2 => ⟨fun h3 => fin _ (by rw [hstr]; simp [h3]), fun h3 => ⟨fun h4 => fin _ (by rw [hstr]; simp [h4]), fun h4 => ⟨fun h5 => fin _ (by rw [hstr]; simp [h5]), fun h5 => ⟨fun h6 => fin _ (by rw [hstr]; simp [h6]), fun h6 =>
      ⟨fun h7 => fin _ (by rw [hstr]; simp [h7]), fun h7 => ⟨fun h8 => fin _ (by rw [hstr]; simp [h8, FAR]), fun h8 => ⟨fun h9 => fin _ (by rw [hstr]; simp [h9]), fun h9 => ⟨fun h10 => fin _ (by rw [hstr]; simp [h10, FAR]), fun h10 => ?_⟩⟩⟩⟩⟩⟩⟩⟩⟩⟩
    refine W.call_of (c_strange1 M.prev s1) ?_
    rintro _ s1 ⟨rfl, rfl⟩
    generalize hp : (decide (M.prev < 0) || decide (M.prev > FAR)) = bp at hstr
    refine ⟨((bp, ()), ()), rfl, ?_⟩
    simp only [W.br_iff, W.ret_iff, W.ld_at k1]
    refine ⟨fun h11 => fin _ (by have h11 : bp = true := h11; rw [hstr]; simp [h11]), fun h11 => ?_⟩
    have h11 : bp = false := h11
    simp
    refine W.call_of (c_strange1 M.commit s1) ?_
    rintro _ s1 ⟨rfl, rfl⟩
    refine ⟨((decide (M.commit < 0) || decide (M.commit > FAR), ()), ()), rfl, ?_⟩
    refine fin _ ?_
    rw [hstr]
    have e1 : (M.to != B.id) = false := by simpa using h1
    have e2 : (M.from_ == B.id) = false := by simpa using h2
    have e3 : decide (M.from_ < 0) = false := decide_eq_false (by omega)
    have e4 : decide (M.from_ ≥ B.size) = false := decide_eq_false (by omega)
    have e5 : decide (M.kind < 1) = false := decide_eq_false (by omega)
    have e6 : decide (M.kind > 5) = false := decide_eq_false (by omega)
    have e7 : decide (M.term < 1) = false := decide_eq_false (by omega)
    have e8 : decide (M.term > FAR) = false := decide_eq_false (by unfold FAR; omega)
    have e9 : decide (M.index < (if M.kind == 4 then -1 else 0)) = false := decide_eq_false (by simp; exact h9)
    have e10 : decide (M.index > FAR) = false := decide_eq_false (by unfold FAR; omega)
    rw [h11, e1, e2, e3, e4, e5, e6, e7, e8, e9, e10]
    first | done | rfl
  · intro K hK
    simp [W.br_iff, W.ld_at k1]
    refine ⟨fun h => hK _ _ ⟨rfl, by simp [h]⟩, fun h => hK _ _ ⟨rfl, by simp [h]⟩⟩
def BS.askGood (B : BS) (M : Msg) : Bool := (decide (B.vote < 0) || B.vote == M.from_) && (decide (M.prev > (B.termAt B.lst).1) || (M.prev == (B.termAt B.lst).1 && decide (M.index ≥ B.lst)))
def BS.asked (B : BS) (M : Msg) : BS × List Msg := (if B.askGood M then { B with vote := M.from_, touched := true } else B, [{ B.msg 2 M.from_ with good := B.askGood M }])
def OnePost (B' : BS) (ms : List Msg) (b : Nat) (l v n m : Tri) (s : PH) (x : Value) (s' : PH) : Prop := ∃ t ps, x = Tri.v t ∧ Msgs s' t ps ∧ ps.map (·.1) = ms ∧ Bal s' b l v n m B' ∧ Fw.Mod [b] s s' ∧ ∀ y ∈ mF t ps, s y = none
theorem one_of {s s5 s6 : PH} {M : Msg} {r : Nat} {B' : BS} (h : Bal s5 b l v n m B') (m5 : Fw.Mod [b] s s5) (hb : s b ≠ none) (hr : s5 r = none) (m6 : Fw.Mod [] s5 s6) (k6 : s6 r = some (.cells (msgCells M noTri).toArray 32 (0, 0))) (hl : M.list = []) : OnePost B' [M] b l v n m s (.slice (some ⟨r, 0, none⟩) 1 1) s6 := by
  refine ⟨(some ⟨r, 0, none⟩, 1, 1), [(M, noTri)], rfl, ⟨row_one k6 rfl, ?_⟩, rfl, h.new m6, m5.trans (m6.mono (by simp)), ?_⟩
  · intro p hp; simp at hp; subst hp; rw [hl]; exact rowE.nil
  · intro y hy
    simp [mF, Fw.blk] at hy
    subst hy
    refine m5.none hr ?_
    simp; rintro rfl; rw [h.cell] at hr; cases hr
theorem c_asked (h : Bal s b l v n m B) (hok : B.Ok) (M : Msg) (t : Tri) : DCalls Try.prog 47 #[bptr b, msgV M t] s (OnePost (B.asked M).1 (B.asked M).2 b l v n m s) := by
  refine ok_asked b M.kind M.from_ M.to M.term M.index M.prev M.commit M.good t.1 t.2.1 t.2.2 M.snap _ s ?_
  unfold vc_asked
  simp only [RP_nw]
  refine W.nw_of fun r s1 hr m1 k1 => ?_
  have hbs : s b ≠ none := by rw [h.cell]; simp
  simp only [RP_call]
  refine W.call_of (c_last (h.new m1) hok.small) ?_
  rintro _ s1 ⟨rfl, rfl⟩
  refine ⟨((B.lst, ()), ()), rfl, ?_⟩
  refine W.call_of (c_term (h.new m1) hok.small (num_lst hok.small hok.base)) ?_
  rintro _ s2 ⟨rfl, m2⟩
  generalize hlt : (B.termAt B.lst).1 = lt
  refine ⟨((lt, ()), ((B.termAt B.lst).2, ()), ()), by rw [← hlt]; (first | done | rfl), ?_⟩
  have k2 := m2.at k1 (by simp)
  simp [W.ld_at k2, -W.nw_iff]
  refine W.call_of (c_msg (h.new (m1.trans m2)) 2 M.from_) ?_
  rintro _ s3 ⟨rfl, m3⟩
  refine ⟨((2, B.id, M.from_, B.term, 0, 0, 0, false, (none, 0, 0), ⟨#[]⟩, ()), ()), rfl, ?_⟩
  have m13 := (m1.trans m2).trans m3
  have k3 := m3.at k2 (by simp)
  refine W.nw_of fun r17 s4 hr4 m4 k4 => ?_
  have hne : r ≠ r17 := ne_of_known k3 hr4
  have hbr : b ≠ r17 := ne_of_known (h.new m13).cell hr4
  have hb4 := ((h.new m13).new m4).cell
  have k34 := m4.at k3 (by simp)
  have hgood : B.askGood M = ((decide (B.vote < 0) || B.vote == M.from_) && (decide (M.prev > lt) || (M.prev == lt && decide (M.index ≥ B.lst)))) := by unfold BS.askGood; rw [hlt]
  have hr17 : s r17 = none := m13.none hr4 (by simp)
  have m14 := m13.trans m4
  -- the answer, good
  have yes : B.askGood M = true → ∀ s5, s5 = ((s4.upd r17 (.cells (msgCells { B.msg 2 M.from_ with good := true } noTri).toArray 32 (0, 0))).upd b (.cells ({ B with vote := M.from_, touched := true }.cells l v n m) 67 (0, 0))) → ∀ r', s5 r' = none →
      OnePost (B.asked M).1 (B.asked M).2 b l v n m s (.slice (some ⟨r', 0, none⟩) 1 1) (s5.upd r' (.cells (msgCells { B.msg 2 M.from_ with good := true } noTri).toArray 32 (0, 0))) := by
    rintro hg s5 rfl r' hr'
    have e : B.asked M = ({ B with vote := M.from_, touched := true }, [{ B.msg 2 M.from_ with good := true }]) := by unfold BS.asked; rw [hg]; (first | done | rfl)
    rw [e]
    exact one_of (((h.new (m14.updLater (.inr hr17)))).lay) (((m14.updLater (.inr hr17)).mono (by simp)).updLater (.inl (by simp))) hbs hr' (Mod.new hr') (PH.upd_same _ _ _) rfl
  have no : B.askGood M = false → ∀ s5, s5 = (s4.upd r17 (.cells (msgCells { B.msg 2 M.from_ with good := false } noTri).toArray 32 (0, 0))) → ∀ r', s5 r' = none →
      OnePost (B.asked M).1 (B.asked M).2 b l v n m s (.slice (some ⟨r', 0, none⟩) 1 1) (s5.upd r' (.cells (msgCells { B.msg 2 M.from_ with good := false } noTri).toArray 32 (0, 0))) := by
    rintro hg s5 rfl r' hr'
    have e : B.asked M = (B, [{ B.msg 2 M.from_ with good := false }]) := by unfold BS.asked; rw [hg]; (first | done | rfl)
    rw [e]
    exact one_of (h.new (m14.updLater (.inr hr17))) ((m14.updLater (.inr hr17)).mono (by simp)) hbs hr' (Mod.new hr') (PH.upd_same _ _ _) rfl
  have k17 : ∀ (c : Array Value) (e : TypeId) (o' : Obj), ((s4.upd r17 (.cells c e (0, 0))).upd b o') r17 = some (.cells c e (0, 0)) := fun c e o' => upd_at (PH.upd_same _ _ _) hbr.symm o'
  have hB17 : ∀ o, Bal (s4.upd r17 o) b l v n m B := fun o => h.new (m14.updLater (.inr hr17))
  have hwn : ∀ x y : Int, ¬ x < y → ¬ x = y → y < x := fun x y h1 h2 => by omega
  have key : (M.prev = lt → ¬ lt < M.prev) := by intro h; omega
  simp [W.st_at k4, fun o => W.ld_at (upd_at hb4 hbr o), fun o => W.ld_at (upd_at k34 hne o), fun o => W.st_at (upd_at hb4 hbr o), fun c e o' => W.ld_at (k17 c e o'), W.br_iff]
  have last : ((decide (B.vote < 0) || B.vote == M.from_) = true) → M.prev = lt → (B.lst ≤ M.index → B.askGood M = true) ∧ (M.index < B.lst → B.askGood M = false) := by
    intro h1 h2
    rw [hgood, h1, h2]
    constructor
    · intro h3; simp [h3]
    · intro h3; simp; exact h3
  refine ⟨fun h1 => ⟨fun h2 => yes ?_ _ rfl, fun h2 => ⟨fun h3 => ?_, fun h3 => no ?_ _ rfl⟩⟩, fun h1 => ⟨fun h2 => ⟨fun h3 => yes ?_ _ rfl, fun h3 => ⟨fun h4 => ?_, fun h4 => no ?_ _ rfl⟩⟩, fun h2 => no ?_ _ rfl⟩⟩
  · rw [hgood]; simp [h1, h2]
  · have hl := last (by simp [h1]) h3
    refine W.callQ_of ((B.lst, ()), ()) (c_last (hB17 _) hok.small) rfl ?_
    simp [fun o => W.ld_at (upd_at hb4 hbr o), fun o => W.ld_at (upd_at k34 hne o), fun o => W.st_at (upd_at hb4 hbr o), fun c e o' => W.ld_at (k17 c e o'), W.br_iff]
    exact ⟨fun h => by simp only [h, decide_true]; exact yes (hl.1 h) _ rfl, fun h => by have h' : decide (B.lst ≤ M.index) = false := decide_eq_false (by omega)
                                                                                         simp only [h']; exact no (hl.2 h) _ rfl⟩
  · rw [hgood]; simp [h3]; omega
  · rw [hgood]; simp [h2, h3]
  · have hl := last (by simp [h2]) h4
    refine W.callQ_of ((B.lst, ()), ()) (c_last (hB17 _) hok.small) rfl ?_
    simp [fun o => W.ld_at (upd_at hb4 hbr o), fun o => W.ld_at (upd_at k34 hne o), fun o => W.st_at (upd_at hb4 hbr o), fun c e o' => W.ld_at (k17 c e o'), W.br_iff]
    exact ⟨fun h => by simp only [h, decide_true]; exact yes (hl.1 h) _ rfl, fun h => by have h' : decide (B.lst ≤ M.index) = false := decide_eq_false (by omega)
                                                                                         simp only [h']; exact no (hl.2 h) _ rfl⟩
  · rw [hgood]; simp [h4]; omega
  · rw [hgood]; simp [h2]; omega
theorem Bal.setVote (h : Bal s b l v n m B) {f : Nat} {x : Bool} (hx : B.votes[f]? = some x) (y : Bool) : ∃ g, v.1 = some ⟨g, 0, none⟩ ∧ g ∈ bL b l v n m ∧
    ∀ K : W.T, (∀ s', Bal s' b l v n m { B with votes := B.votes.set f y } → Fw.Mod [g] s s' → K s') → W.st ⟨g, f, none⟩ [.bool y] K s := by
  obtain ⟨g, hg, _⟩ := h.votes.at hx
  have hgb : g ∈ Fw.blk v.1 := by rw [hg]; simp [Fw.blk]
  refine ⟨g, hg, by simp [bL, hgb], fun K hK => ?_⟩
  have : W.st ⟨g, f * boolE.sz + 0, none⟩ [.bool y] K s := by
    refine h.votes.st hx (x' := y) rfl (by show 0 + 1 ≤ 1; omega) (by simp) (by simp [Value.oneCell']) hg ?_
    intro s' hr hm
    have hdis : ∀ {z}, z ∈ [g] → z ∈ Fw.blk v.1 := fun hz => by simp at hz; subst hz; exact hgb
    refine hK s' ⟨hm.at h.cell fun hz => h.ne.2.1 (hdis hz), h.log.mod hm fun z hz hz' => row_ne3 h.log h.votes (by decide) z (hdis hz') hz, hr, h.next.mod hm fun z hz hz' => row_ne3 h.next h.votes (by decide) z (hdis hz') hz,
      h.mat.mod hm fun z hz hz' => row_ne3 h.mat h.votes (by decide) z (hdis hz') hz, h.nm⟩ hm
  rwa [show f * boolE.sz + 0 = f from by show f * 1 + 0 = f; omega] at this
theorem Bal.getNext (h : Bal s b l v n m B) {f : Nat} {x : Int} (hx : B.next[f]? = some x) : ∃ g, n.1 = some ⟨g, 0, none⟩ ∧ g ∈ bL b l v n m ∧ s.has ⟨g, f, none⟩ [.int .i64 x] ∧
    ∀ (y : Int) (K : W.T), (∀ s', Bal s' b l v n m { B with next := B.next.set f y } → Fw.Mod [g] s s' → K s') → W.st ⟨g, f, none⟩ [.int .i64 y] K s := by
  obtain ⟨g, hg, hh⟩ := h.next.at hx
  have hgb : g ∈ Fw.blk n.1 := by rw [hg]; simp [Fw.blk]
  have e : f * intE.sz = f := Nat.mul_one _
  rw [e] at hh
  refine ⟨g, hg, by simp [bL, hgb], hh, fun y K hK => ?_⟩
  have : W.st ⟨g, f * intE.sz + 0, none⟩ [.int .i64 y] K s := by
    refine h.next.st hx (x' := y) rfl (by show 0 + 1 ≤ 1; omega) (by simp) (by simp [Value.oneCell']) hg ?_
    intro s' hr hm
    have hdis : ∀ {z}, z ∈ [g] → z ∈ Fw.blk n.1 := fun hz => by simp at hz; subst hz; exact hgb
    refine hK s' ⟨hm.at h.cell fun hz => h.ne.2.2.1 (hdis hz), h.log.mod hm fun z hz hz' => row_ne3 h.log h.next (by decide) z (hdis hz') hz, h.votes.mod hm fun z hz hz' => row_ne3 h.votes h.next (by decide) z (hdis hz') hz, hr,
      h.mat.mod hm fun z hz hz' => h.nm z (hdis hz') hz, h.nm⟩ hm
  rwa [e, Nat.add_zero] at this
theorem Bal.getMat (h : Bal s b l v n m B) {f : Nat} {x : Int} (hx : B.mat[f]? = some x) : ∃ g, m.1 = some ⟨g, 0, none⟩ ∧ g ∈ bL b l v n m ∧ s.has ⟨g, f, none⟩ [.int .i64 x] ∧
    ∀ (y : Int) (K : W.T), (∀ s', Bal s' b l v n m { B with mat := B.mat.set f y } → Fw.Mod [g] s s' → K s') → W.st ⟨g, f, none⟩ [.int .i64 y] K s := by
  obtain ⟨g, hg, hh⟩ := h.mat.at hx
  have hgb : g ∈ Fw.blk m.1 := by rw [hg]; simp [Fw.blk]
  have e : f * intE.sz = f := Nat.mul_one _
  rw [e] at hh
  refine ⟨g, hg, by simp [bL, hgb], hh, fun y K hK => ?_⟩
  have : W.st ⟨g, f * intE.sz + 0, none⟩ [.int .i64 y] K s := by
    refine h.mat.st hx (x' := y) rfl (by show 0 + 1 ≤ 1; omega) (by simp) (by simp [Value.oneCell']) hg ?_
    intro s' hr hm
    have hdis : ∀ {z}, z ∈ [g] → z ∈ Fw.blk m.1 := fun hz => by simp at hz; subst hz; exact hgb
    refine hK s' ⟨hm.at h.cell fun hz => h.ne.2.2.2 (hdis hz), h.log.mod hm fun z hz hz' => row_ne3 h.log h.mat (by decide) z (hdis hz') hz, h.votes.mod hm fun z hz hz' => row_ne3 h.votes h.mat (by decide) z (hdis hz') hz,
      h.next.mod hm fun z hz hz' => h.nm z hz (hdis hz'), hr, h.nm⟩ hm
  rwa [e, Nat.add_zero] at this
def BS.voted (B : BS) (M : Msg) : BS × List Msg := if B.role ≠ 1 ∨ M.good = false then (B, []) else { B with votes := B.votes.set M.from_.toNat true }.counted
theorem OpPost.start {R : BS × List Msg} {L L' : List Nat} {s0 : PH} {x : Value} {s' : PH} (h : OpPost R b L' s x s') (st : Step L L' s0 s) : OpPost R b L s0 x s' := by
  obtain ⟨t, ps, l', v', n', m', h1, h2, h3, h4, h5, h6⟩ := h
  refine ⟨t, ps, l', v', n', m', h1, h2, st.trans h3, h4, h5, fun y hy => ⟨?_, (h6 y hy).2⟩⟩
  rcases (h6 y hy).1 with g | g
  · exact st.new y g
  · by_cases hl : y ∈ L
    · exact .inl hl
    · exact .inr (st.mod.none g hl)
theorem OpPost.noMsgs {B' : BS} {L : List Nat} {s0 s' : PH} {l v n m : Tri} (h : Bal s' b l v n m B') (st : Step L (bL b l v n m) s0 s') : OpPost (B', []) b L s0 (.slice none 0 0) s' :=
  ⟨noTri, [], l, v, n, m, rfl, h, st, Msgs.nil _, rfl, by simp [mF, Fw.blk]⟩
theorem c_voted (h : Bal s b l v n m B) (hok : B.Ok) (hv : B.role = 1 → B.votes.length = B.size.toNat) (hlc : B.commit ≤ B.lst) (hl1 : B.log.length + 1 ≤ 1073741824) (M : Msg) (t : Tri) (hf0 : 0 ≤ M.from_) (hf1 : M.from_ < B.size) :
    DCalls Try.prog 48 #[bptr b, msgV M t] s (OpPost (B.voted M) b (bL b l v n m) s) := by
  refine ok_voted b M.kind M.from_ M.to M.term M.index M.prev M.commit M.good t.1 t.2.1 t.2.2 M.snap _ s ?_
  unfold vc_voted
  simp only [RP_nw]
  refine W.nw_of fun r s1 hr m1 k1 => ?_
  have h1 := h.new m1
  have hb1 := h1.cell
  have st1 : Step (bL b l v n m) (bL b l v n m) s s1 := ⟨m1.mono (by simp), fun x hx => .inl hx⟩
  have no : (B.role ≠ 1 ∨ M.good = false) → OpPost (B.voted M) b (bL b l v n m) s (.slice none 0 0) s1 := by
    intro hc
    have : B.voted M = (B, []) := by unfold BS.voted; rw [if_pos hc]
    rw [this]; exact OpPost.noMsgs h1 st1
  simp only [RP_join]
  refine W.join_gen (fun z s' => s' = s1 ∧ z = ((Addr.mk r 0 none, ()), ()) ∧ B.role = 1 ∧ M.good = true) ?_ ?_
  · rintro _ s1 ⟨rfl, rfl, hr1, hg⟩
    have hvl := hv hr1
    obtain ⟨f, hf⟩ : ∃ f : Nat, M.from_ = f := ⟨M.from_.toNat, by omega⟩
    obtain ⟨x, hx⟩ : ∃ x, B.votes[f]? = some x := ⟨_, List.getElem?_eq_getElem (by omega)⟩
    obtain ⟨g, hgv, hgm, hst⟩ := h1.setVote hx true
    have hvn := h1.votes.len
    simp [W.ld_at hb1, W.ld_at k1, hf]
    refine ⟨by omega, ?_⟩
    rw [hgv]
    simp only [W.unSome_some, add_mk, Nat.zero_add]
    refine hst _ fun s2 h2 m2 => ?_
    have hvd : B.voted M = { B with votes := B.votes.set f true }.counted := by
      unfold BS.voted
      rw [if_neg (by rw [hr1, hg]; simp), hf]; (first | done | rfl)
    have st2 : Step (bL b l v n m) (bL b l v n m) s s2 := st1.trans ⟨m2.mono (by simpa using hgm), fun x hx => .inl hx⟩
    refine W.call_of (c_counted h2 ⟨⟨hok.small.base0, hok.small.base1, hok.small.log1⟩, hok.base, hok.size, hok.id, hok.com⟩ (by show (B.votes.set f true).length = _; simp [hvl]) hlc hl1) ?_
    rintro x s3 hp
    obtain ⟨t', ps, l', v', n', m', rfl, q⟩ := hp
    refine ⟨((t', ()), ()), rfl, ?_⟩
    rw [hvd]
    exact OpPost.start ⟨t', ps, l', v', n', m', rfl, q⟩ st2
  · intro K hK
    simp [W.ld_at hb1, W.ld_at k1, W.br_iff]
    refine ⟨fun h => no (.inl h), fun h => ⟨fun hg => no (.inr hg), fun hg => hK _ _ ⟨rfl, rfl, h, hg⟩⟩⟩
end
end Go.Proofs.Ytfpbiecmobdnnaa
end
section
set_option linter.unusedVariables false
set_option linter.unusedSimpArgs false
set_option maxHeartbeats 1000000
namespace Go.Proofs.Ytfpbiecmobdnnaa
open Fw Go
attribute [-simp] Fw.W.ld_iff Fw.W.st_iff
def mx (a b : Int) : Int := if b > a then b else a
def mn (a b : Int) : Int := if b < a then b else a
/-- a leader's rows -/
structure BS.Ldr (B : BS) : Prop where
  nlen : B.next.length = B.size.toNat
  mlen : B.mat.length = B.size.toNat
  nr : ∀ (i : Nat) x, B.next[i]? = some x → 0 ≤ x ∧ x ≤ B.lst + 1
  mr : ∀ (i : Nat) x, B.mat[i]? = some x → 0 ≤ x ∧ x ≤ B.lst
theorem BS.Ldr.fed {B : BS} (h : B.Ldr) : B.Fed := ⟨h.nlen, fun i nx hn => by have := (h.nr i nx hn).2; omega⟩
def BS.nx (B : BS) (f : Nat) : Int := (B.next[f]?).getD 0
def BS.mt (B : BS) (f : Nat) : Int := (B.mat[f]?).getD 0
/-- it was not fed -/
def BS.unfed (B : BS) (f : Nat) (i : Int) : BS := { B with next := B.next.set f (mx (B.mt f + 1) (mn (B.nx f - 1) (i + 1))) }
/-- it has them up to there -/
def BS.fedTo (B : BS) (f : Nat) (i : Int) : BS := { B with mat := B.mat.set f (mx (B.mt f) (mn i B.lst)), next := B.next.set f (mx (B.mt f) (mn i B.lst) + 1) }
def BS.heard (B : BS) (M : Msg) : BS × List Msg :=
  if B.role ≠ 2 then (B, []) else
  let f := M.from_.toNat
  if M.good = false then (B.unfed f M.index, [(B.unfed f M.index).feedM M.from_ ((B.unfed f M.index).nx f)])
  else
    let R := (B.fedTo f M.index).settled
    if R.1.mt f > B.mt f ∧ R.1.nx f ≤ R.1.lst then (R.1, R.2 ++ [R.1.feedM M.from_ (R.1.nx f)]) else R
theorem BS.Ldr.unfed {B : BS} (h : B.Ldr) {f : Nat} (hf : f < B.size.toNat) (i : Int) : (B.unfed f i).Ldr := by
  refine ⟨by show (B.next.set _ _).length = _; rw [List.length_set]; exact h.nlen, h.mlen, fun j x hx => ?_, h.mr⟩
  have hx : (B.next.set f (mx (B.mt f + 1) (mn (B.nx f - 1) (i + 1))))[j]? = some x := hx
  show 0 ≤ x ∧ x ≤ B.lst + 1
  rw [List.getElem?_set] at hx
  split at hx
  · split at hx
    · cases hx
      have h1 : B.mat[f]? = some (B.mt f) := by unfold BS.mt; rw [List.getElem?_eq_getElem (by rw [h.mlen]; exact hf)]; (first | done | rfl)
      have h2 : B.next[f]? = some (B.nx f) := by unfold BS.nx; rw [List.getElem?_eq_getElem (by rw [h.nlen]; exact hf)]; (first | done | rfl)
      have g1 := h.mr _ _ h1
      have g2 := h.nr _ _ h2
      unfold mx mn
      repeat' split
      all_goals omega
    · cases hx
  · exact h.nr j x hx
theorem BS.Ldr.fedTo {B : BS} (h : B.Ldr) {f : Nat} (hf : f < B.size.toNat) (i : Int) (hl : 0 ≤ B.lst) : (B.fedTo f i).Ldr := by
  have h1 : B.mat[f]? = some (B.mt f) := by unfold BS.mt; rw [List.getElem?_eq_getElem (by rw [h.mlen]; exact hf)]; (first | done | rfl)
  have g1 := h.mr _ _ h1
  have hb : 0 ≤ mx (B.mt f) (mn i B.lst) ∧ mx (B.mt f) (mn i B.lst) ≤ B.lst := by
    unfold mx mn
    repeat' split
    all_goals omega
  refine ⟨by show (B.next.set _ _).length = _; rw [List.length_set]; exact h.nlen, by show (B.mat.set _ _).length = _; rw [List.length_set]; exact h.mlen, fun j x hx => ?_, fun j x hx => ?_⟩
  · have hx : (B.next.set f (mx (B.mt f) (mn i B.lst) + 1))[j]? = some x := hx
    show 0 ≤ x ∧ x ≤ B.lst + 1
    rw [List.getElem?_set] at hx
    split at hx
    · split at hx
      · cases hx; omega
      · cases hx
    · exact h.nr j x hx
  · have hx : (B.mat.set f (mx (B.mt f) (mn i B.lst)))[j]? = some x := hx
    show 0 ≤ x ∧ x ≤ B.lst
    rw [List.getElem?_set] at hx
    split at hx
    · split at hx
      · cases hx; omega
      · cases hx
    · exact h.mr j x hx
section
variable {s : PH} {b : Nat} {l v n m : Tri} {B : BS}
/-- one message alone -/
theorem op_one {s0 s2 s3 s4 : PH} {B2 : BS} {M2 : Msg} {t' : Tri} {r : Nat} (h2 : Bal s2 b l v n m B2) {L : List Nat} (st : Step L (bL b l v n m) s0 s2) (m3 : Fw.Mod [] s2 s3) (hrow : rowE entE s3 39 t'.1 t'.2.1 t'.2.2 M2.list) (hf : ∀ y ∈ Fw.blk t'.1, s2 y = none)
    (hr : s3 r = none) (m4 : Fw.Mod [] s3 s4) (k4 : s4 r = some (.cells (msgCells M2 t').toArray 32 (0, 0))) : OpPost (B2, [M2]) b L s0 (.slice (some ⟨r, 0, none⟩) 1 1) s4 := by
  have m24 := m3.trans m4
  refine ⟨(some ⟨r, 0, none⟩, 1, 1), [(M2, t')], l, v, n, m, rfl, h2.new m24, st.trans ⟨m24.mono (by simp), fun x hx => .inl hx⟩, ⟨row_one k4 rfl, fun p hp => by simp at hp; subst hp; exact hrow.mod m4 (by simp)⟩, rfl, ?_⟩
  intro y hy
  have hy2 : s2 y = none := by
    simp [mF, Fw.blk] at hy
    rcases hy with rfl | hy
    · exact m3.none hr (by simp)
    · exact hf y (by simpa [Fw.blk] using hy)
  refine ⟨?_, fun hx => h2.known y hx hy2⟩
  by_cases hl : y ∈ L
  · exact .inl hl
  · exact .inr (st.mod.none hy2 hl)
/-- a message behind others -/
theorem push_msg2 {s1 s2 : PH} {t t' : Tri} {ps : List (Msg × Tri)} {M : Msg} (Fr : Nat → Prop) (hFr : ∀ g, s1 g = none → Fr g) (h : Msgs s1 t ps) (hf : ∀ y ∈ mF t ps, Fr y) (hrow : rowE entE s2 39 t'.1 t'.2.1 t'.2.2 M.list) (m2 : Fw.Mod [] s1 s2) (hf' : ∀ y ∈ Fw.blk t'.1, s1 y = none) (hc : t.2.1 ≤ 1000)
    {K : Option Addr → Nat → Nat → W.T} (hK : ∀ a n c s', Msgs s' (a, n, c) (ps ++ [(M, t')]) → Fw.Mod (Fw.blk t.1) s1 s' → (∀ y ∈ mF (a, n, c) (ps ++ [(M, t')]), Fr y) → K a n c s') :
    W.nw (.cells (msgCells M t').toArray 32 (0, 0)) (fun r => W.app 32 10 104 zeroMsg t.1 t.2.1 t.2.2 (.sl (some ⟨r, 0, none⟩) 1) K) s2 := by
  refine W.nw_of fun r s3 hr m3 k3 => ?_
  have m23 := m2.trans m3
  have hms : Msgs s3 (some ⟨r, 0, none⟩, 1, 1) [(M, t')] := ⟨row_one k3 rfl, fun p hp => by simp at hp; subst hp; exact hrow.mod m3 (by simp)⟩
  have hd : ∀ y ∈ mF (some ⟨r, 0, none⟩, 1, 1) [(M, t')], s1 y = none := by
    intro y hy
    simp [mF, Fw.blk] at hy
    rcases hy with rfl | hy
    · exact m2.none hr (by simp)
    · exact hf' y (by simpa [Fw.blk] using hy)
  exact app_msgs Fr (fun g hg => hFr g (m23.none hg (by simp))) (h.mod m23 (by simp)) hms hf (fun y hy => hFr y (hd y hy)) (fun y hy hy' => (h.known y (by simp [mF, hy'])) (hd y hy)) h.apart hc (by show 1 ≤ 1000; omega)
    fun a n c s' g1 g2 g3 => hK a n c s' g1 ((m23.mono (by simp)).trans g3) g2
theorem c_heard (h : Bal s b l v n m B) (hok : B.Ok) (hL : B.role = 2 → B.Ldr) (hlc : B.commit ≤ B.lst) (M : Msg) (t : Tri) (hf0 : 0 ≤ M.from_) (hf1 : M.from_ < B.size) (hi : -1 ≤ M.index ∧ M.index ≤ FAR) :
    DCalls Try.prog 50 #[bptr b, msgV M t] s (OpPost (B.heard M) b (bL b l v n m) s) := by
  refine ok_heard b M.kind M.from_ M.to M.term M.index M.prev M.commit M.good t.1 t.2.1 t.2.2 M.snap _ s ?_
  unfold vc_heard
  simp only [RP_nw]
  refine W.nw_of fun r s1 hr m1 k1 => ?_
  have h1 := h.new m1
  have hb1 := h1.cell
  have hbr : b ≠ r := ne_of_known h.cell hr
  have st1 : Step (bL b l v n m) (bL b l v n m) s s1 := ⟨m1.mono (by simp), fun x hx => .inl hx⟩
  have hs := hok.small
  obtain ⟨q1, q2, q3⟩ := id hs
  have hnl := num_lst hs hok.base
  unfold Num at hnl
  unfold FAR at hi
  simp [W.ld_at hb1, W.ld_at k1, W.br_iff, -W.nw_iff]
  refine ⟨fun hrole => ?_, fun hrole => ?_⟩
  · have : B.heard M = (B, []) := by unfold BS.heard; rw [if_pos hrole]
    rw [this]; exact OpPost.noMsgs h1 st1
  have hL := hL hrole
  obtain ⟨f, hf⟩ : ∃ f : Nat, M.from_ = f := ⟨M.from_.toNat, by omega⟩
  have hfs : f < B.size.toNat := by omega
  have hnx : B.next[f]? = some (B.nx f) := by unfold BS.nx; rw [List.getElem?_eq_getElem (by rw [hL.nlen]; exact hfs)]; (first | done | rfl)
  have hmt : B.mat[f]? = some (B.mt f) := by unfold BS.mt; rw [List.getElem?_eq_getElem (by rw [hL.mlen]; exact hfs)]; (first | done | rfl)
  have gn := hL.nr _ _ hnx
  have gm := hL.mr _ _ hmt
  have hnn := h1.next.len
  have hmn := h1.mat.len
  obtain ⟨g, hg, hgm, hhas, hst⟩ := h1.getNext hnx
  obtain ⟨g2, hg2, hgm2, hhas2, hst2⟩ := h1.getMat hmt
  have hn1 := hL.nlen
  have hm1 := hL.mlen
  refine ⟨fun hgood => ?_, fun hgood => ?_⟩
  · rw [hf]
    refine ⟨by omega, ?_⟩
    rw [hg2]
    simp only [W.unSome_some, add_mk, Nat.zero_add, Int.toNat_natCast]
    refine ld_has_z hhas2 (cs := [.int .i64]) (y := (B.mt f, ())) rfl ?_
    simp [W.ld_at hb1, -W.nw_iff]
    refine ⟨by omega, ?_⟩
    rw [hg]
    simp only [W.unSome_some, add_mk, Nat.zero_add]
    refine ld_has_z hhas (cs := [.int .i64]) (y := (B.nx f, ())) rfl ?_
    simp [W.ld_at k1, -W.nw_iff]
    refine ⟨by omega, ?_⟩
    have e1 : IntKind.i64.wrap (M.index + 1) = M.index + 1 := wrap_in (by omega) (by omega)
    have e2 : IntKind.i64.wrap (B.nx f - 1) = B.nx f - 1 := wrap_in (by omega) (by omega)
    have e3 : IntKind.i64.wrap (B.mt f + 1) = B.mt f + 1 := wrap_in (by omega) (by omega)
    rw [e1, e2, e3]
    have e4 : (if B.mt f + 1 < (if M.index + 1 < B.nx f - 1 then M.index + 1 else B.nx f - 1) then (if M.index + 1 < B.nx f - 1 then M.index + 1 else B.nx f - 1) else B.mt f + 1) = mx (B.mt f + 1) (mn (B.nx f - 1) (M.index + 1)) := by unfold mx mn; (first | done | rfl)
    rw [e4]
    refine hst _ _ fun s2 h2 m2 => ?_
    have h2 : Bal s2 b l v n m (B.unfed f M.index) := h2
    have hL2 := hL.unfed hfs M.index
    have st2 : Step (bL b l v n m) (bL b l v n m) s s2 := st1.trans ⟨m2.mono (by simpa using hgm), fun x hx => .inl hx⟩
    have hnx2 : (B.unfed f M.index).next[f]? = some ((B.unfed f M.index).nx f) := by unfold BS.nx; rw [List.getElem?_eq_getElem (by rw [hL2.nlen]; exact hfs)]; (first | done | rfl)
    have hh : B.heard M = (B.unfed f M.index, [(B.unfed f M.index).feedM M.from_ ((B.unfed f M.index).nx f)]) := by
      unfold BS.heard
      rw [if_neg (by simp [hrole])]
      simp only [hgood, if_true, hf, Int.toNat_natCast]
    rw [hh, hf]
    have hs2 : (B.unfed f M.index).Small := ⟨q1, q2, q3⟩
    have hbb : (B.unfed f M.index).base ≤ 4611686016279904256 := hok.base
    generalize B.unfed f M.index = B2 at h2 hL2 hnx2 hs2 hbb
    refine W.call_of (c_feed h2 hs2 hbb hnx2 (hL2.fed.rng f _ hnx2)) ?_
    rintro _ s3 ⟨t', rfl, hrow, m3, hf'⟩
    generalize B2.feedM f (B2.nx f) = M2 at hrow
    refine ⟨((M2.kind, M2.from_, M2.to, M2.term, M2.index, M2.prev, M2.commit, M2.good, t', M2.snap, ()), ()), rfl, ?_⟩
    refine W.nw_of fun r35 s4 hr4 m4 k4 => ?_
    exact op_one h2 st2 m3 hrow hf' hr4 m4 k4
  · rw [hf]
    refine ⟨by omega, ?_⟩
    rw [hg2]
    simp only [W.unSome_some, add_mk, Nat.zero_add, Int.toNat_natCast]
    refine ld_has_z hhas2 (cs := [.int .i64]) (y := (B.mt f, ())) rfl ?_
    simp [W.ld_at hb1, W.ld_at k1, -W.nw_iff]
    refine W.callQ_of ((B.lst, ()), ()) (c_last h1 hs) rfl ?_
    simp [W.ld_at hb1, W.ld_at k1, -W.nw_iff]
    refine ⟨by omega, ?_⟩
    rw [hg2]
    have e4 : (if B.mt f < (if B.lst < M.index then B.lst else M.index) then (if B.lst < M.index then B.lst else M.index) else B.mt f) = mx (B.mt f) (mn M.index B.lst) := by unfold mx mn; (first | done | rfl)
    simp only [W.unSome_some, add_mk, Nat.zero_add, e4]
    refine hst2 _ _ fun s2 h2 m2 => ?_
    have hb2 := h2.cell
    obtain ⟨g3, hg3, hgm3, hhas3, hst3⟩ := h2.getNext (f := f) (x := B.nx f) hnx
    obtain ⟨g4, hg4, hgm4, hhas4, hst4⟩ := h2.getMat (f := f) (x := mx (B.mt f) (mn M.index B.lst)) (by show (B.mat.set f _)[f]? = _; rw [List.getElem?_set_self (by omega)])
    simp [W.ld_at hb2, -W.nw_iff]
    refine ⟨by omega, ?_⟩
    rw [hg4]
    simp only [W.unSome_some, add_mk, Nat.zero_add]
    refine ld_has_z hhas4 (cs := [.int .i64]) (y := (mx (B.mt f) (mn M.index B.lst), ())) rfl ?_
    simp only [W.guard_iff]
    refine ⟨by omega, ?_⟩
    rw [hg3]
    have hb5 : 0 ≤ mx (B.mt f) (mn M.index B.lst) ∧ mx (B.mt f) (mn M.index B.lst) ≤ B.lst := by
      unfold mx mn
      repeat' split
      all_goals omega
    have e5 : IntKind.i64.wrap (mx (B.mt f) (mn M.index B.lst) + 1) = mx (B.mt f) (mn M.index B.lst) + 1 := wrap_in (by omega) (by omega)
    simp only [W.unSome_some, add_mk, Nat.zero_add, e5]
    refine hst3 _ _ fun s3 h3 m3 => ?_
    have h3 : Bal s3 b l v n m (B.fedTo f M.index) := h3
    have hL3 := hL.fedTo hfs M.index (by omega)
    have hh : B.heard M = (if (B.fedTo f M.index).settled.1.mt f > B.mt f ∧ (B.fedTo f M.index).settled.1.nx f ≤ (B.fedTo f M.index).settled.1.lst then ((B.fedTo f M.index).settled.1, (B.fedTo f M.index).settled.2 ++ [(B.fedTo f M.index).settled.1.feedM M.from_ ((B.fedTo f M.index).settled.1.nx f)]) else (B.fedTo f M.index).settled) := by
      unfold BS.heard
      rw [if_neg (by simp [hrole])]
      simp only [hgood, hf, Int.toNat_natCast, Bool.true_eq_false, if_false]
    rw [hh, hf]
    have hok3 : (B.fedTo f M.index).Ok := ⟨⟨q1, q2, q3⟩, hok.base, hok.size, hok.id, hok.com⟩
    have hlc3 : (B.fedTo f M.index).commit ≤ (B.fedTo f M.index).lst := hlc
    have hsz3 : (B.fedTo f M.index).size = B.size := rfl
    have st3 : Step (bL b l v n m) (bL b l v n m) s s3 := (st1.trans ⟨m2.mono (by simpa using hgm2), fun x hx => .inl hx⟩).trans ⟨m3.mono (by simpa using hgm3), fun x hx => .inl hx⟩
    generalize B.fedTo f M.index = B3 at h3 hL3 hok3 hlc3 hsz3
    refine W.call_of (c_settle h3 hok3 hL3.fed hL3.mlen hlc3) ?_
    rintro _ s4 ⟨t4, ps4, rfl, hms4, hps4, h4, m4, hf4⟩
    refine ⟨((t4, ()), ()), rfl, ?_⟩
    have hset : B3.settled.1.next = B3.next ∧ B3.settled.1.mat = B3.mat ∧ B3.settled.1.base = B3.base ∧ B3.settled.1.log = B3.log := by
      unfold BS.settled; split <;> exact ⟨rfl, rfl, rfl, rfl⟩
    have hlen4 := settled_len B3
    generalize hR : B3.settled = R at h4 hset hps4 hlen4
    obtain ⟨e6, e7, e8, e9⟩ := hset
    have hb4 := h4.cell
    have st4 : Step (bL b l v n m) (bL b l v n m) s s4 := st3.trans ⟨m4.mono (by simp [bL]), fun x hx => .inl hx⟩
    have hmt4 : R.1.mat[f]? = some (R.1.mt f) := by unfold BS.mt; rw [e7, List.getElem?_eq_getElem (by rw [hL3.mlen, hsz3]; exact hfs)]; (first | done | rfl)
    have hnx4 : R.1.next[f]? = some (R.1.nx f) := by unfold BS.nx; rw [e6, List.getElem?_eq_getElem (by rw [hL3.nlen, hsz3]; exact hfs)]; (first | done | rfl)
    have hl4 : R.1.lst = B3.lst := by unfold BS.lst; rw [e8, e9]
    have hs4 : R.1.Small := ⟨by rw [e8]; exact hok3.small.base0, by rw [e8]; exact hok3.small.base1, by rw [e9]; exact hok3.small.log1⟩
    have hnn4 := h4.next.len
    have hmn4 := h4.mat.len
    have hm4l := hL3.mlen
    have hn4l := hL3.nlen
    rw [e7] at hmn4
    rw [e6] at hnn4
    obtain ⟨g5, hg5, hgm5, hhas5, _⟩ := h4.getMat hmt4
    obtain ⟨g6, hg6, hgm6, hhas6, _⟩ := h4.getNext hnx4
    have htl : t4.2.1 ≤ 5 := by
      have a1 := hms4.row.len
      have a2 := congrArg List.length hps4
      simp only [List.length_map] at a2
      have := hok3.size.2
      omega
    -- the messages are new
    have hnew : ∀ y, (s3 y = none ∨ s4 y = none) → (y ∈ bL b l v n m ∨ s y = none) ∧ y ∉ bL b l v n m := by
      intro y hy
      have hn : y ∉ bL b l v n m := fun hx => by
        rcases hy with hy | hy
        · exact h3.known y hx hy
        · exact h4.known y hx hy
      refine ⟨.inr ?_, hn⟩
      rcases hy with hy | hy
      · exact st3.mod.none hy hn
      · exact st4.mod.none hy hn
    have stop : OpPost R b (bL b l v n m) s t4.v s4 := ⟨t4, ps4, l, v, n, m, rfl, h4, st4, hms4, hps4, fun y hy => hnew y (.inl (hf4 y hy))⟩
    simp [W.ld_at hb4, -W.nw_iff]
    refine ⟨by omega, ?_⟩
    rw [hg5]
    simp only [W.unSome_some, add_mk, Nat.zero_add]
    refine ld_has_z hhas5 (cs := [.int .i64]) (y := (R.1.mt f, ())) rfl ?_
    simp [W.ld_at hb4, W.br_iff, -W.nw_iff]
    refine ⟨fun hgt => ⟨by omega, ?_⟩, fun hle => ?_⟩
    · rw [hg6]
      simp only [W.unSome_some, add_mk, Nat.zero_add]
      refine ld_has_z hhas6 (cs := [.int .i64]) (y := (R.1.nx f, ())) rfl ?_
      refine W.callQ_of ((R.1.lst, ()), ()) (c_last h4 hs4) rfl ?_
      simp [W.br_iff, -W.nw_iff]
      refine ⟨fun hle => ?_, fun hgt2 => ?_⟩
      · rw [if_pos ⟨hgt, hle⟩]
        refine W.call_of (c_feed h4 hs4 (by rw [e8]; exact hok3.base) hnx4 (by omega)) ?_
        rintro _ s5 ⟨t', rfl, hrow, m5, hf'⟩
        generalize R.1.feedM f (R.1.nx f) = M2 at hrow
        refine ⟨((M2.kind, M2.from_, M2.to, M2.term, M2.index, M2.prev, M2.commit, M2.good, t', M2.snap, ()), ()), rfl, ?_⟩
        refine push_msg2 (M := M2) (fun y => (y ∈ bL b l v n m ∨ s y = none) ∧ y ∉ bL b l v n m) (fun g hg => hnew g (.inr hg)) hms4 (fun y hy => hnew y (.inl (hf4 y hy))) hrow m5 hf' (by omega) ?_
        intro a' n' c' s6 k1 k2 k3
        have hdis : ∀ x ∈ bL b l v n m, x ∉ Fw.blk t4.1 := fun x hx hx' => (hnew x (.inl (hf4 x (by simp [mF, hx'])))).2 hx
        refine ⟨(a', n', c'), ps4 ++ [(M2, t')], l, v, n, m, rfl, h4.mod k2 hdis, ?_, k1, by rw [List.map_append, hps4]; (first | done | rfl), k3⟩
        refine ⟨fun x g1 g2 => ?_, fun x hx => .inl hx⟩
        rw [k2 x ?_ ?_, st4.mod x g1 g2]
        · rw [st4.mod x g1 g2]; exact g1
        · intro hx'
          rcases (hnew x (.inl (hf4 x (by simp [mF, hx'])))).1 with a | a
          · exact g2 a
          · exact g1 a
      · rw [if_neg (by intro hc; omega)]
        exact stop
    · rw [if_neg (by intro hc; omega)]
      exact stop
end
end Go.Proofs.Ytfpbiecmobdnnaa
end
section
set_option linter.unusedVariables false
set_option linter.unusedSimpArgs false
set_option maxHeartbeats 1000000
namespace Go.Proofs.Ytfpbiecmobdnnaa
open Fw Go
attribute [-simp] Fw.W.ld_iff Fw.W.st_iff
section
variable {s : PH} {b : Nat} {l v n m : Tri} {B : BS}
theorem op_msgs {s0 s2 s3 : PH} {B2 : BS} {L : List Nat} {ms : List Msg} {x : Value} (h2 : Bal s2 b l v n m B2) (st : Step L (bL b l v n m) s0 s2) (hp : MsgsPost ms s2 x s3) : OpPost (B2, ms) b L s0 x s3 := by
  obtain ⟨t, ps, rfl, hms, hps, m3, hf⟩ := hp
  refine ⟨t, ps, l, v, n, m, rfl, h2.new m3, st.trans ⟨m3.mono (by simp), fun x hx => .inl hx⟩, hms, hps, fun y hy => ⟨?_, fun hx => h2.known y hx (hf y hy)⟩⟩
  by_cases hl : y ∈ L
  · exact .inl hl
  · exact .inr (st.mod.none (hf y hy) hl)
def BS.toldM (B : BS) (to : Int) (good : Bool) (i : Int) : Msg := { B.msg 4 to with good := good, index := i }
def BS.given (B : BS) (M : Msg) : BS × List Msg :=
  if B.role = 2 then (B, []) else
  if M.index ≤ B.commit then ({ B with role := 0, lead := M.from_ }, [B.toldM M.from_ true M.index]) else
  ({ ({ B with role := 0, lead := M.from_ }.rebase M.index M.prev M.snap (if B.termAt M.index = (M.prev, true) then B.log.drop (M.index - B.base).toNat else [])) with commit := M.index }, [B.toldM M.from_ true M.index])
theorem termAt_le {B : BS} {i : Int} (h : (B.termAt i).2 = true) (hb : B.base ≤ i) : i ≤ B.lst := by
  unfold BS.termAt at h
  split at h
  · rename_i e; unfold BS.lst; omega
  · by_cases hl : B.lst < i
    · rw [BS.entry_out (.inr hl)] at h; cases h
    · omega
def GivJ (B2 : BS) (b : Nat) (v n m : Tri) (rest : List Ent) (r : Nat) (c : Array Value) (s1 : PH) (z : MDen [(false, [.addr]), (false, [.slice])]) (s' : PH) : Prop :=
  ∃ t : Tri, z = ((Addr.mk r 0 none, ()), (t, ()), ()) ∧ rowE entE s' 39 t.1 t.2.1 t.2.2 rest ∧ (∀ y ∈ Fw.blk t.1, s1 y = none) ∧ Fw.Mod [] s1 s'
theorem c_given (h : Bal s b l v n m B) (hok : B.Ok) (hlc : B.commit ≤ B.lst) (M : Msg) (t : Tri) (hi : -1 ≤ M.index ∧ M.index ≤ FAR) :
    DCalls Try.prog 51 #[bptr b, msgV M t] s (OpPost (B.given M) b (bL b l v n m) s) := by
  refine ok_given b M.kind M.from_ M.to M.term M.index M.prev M.commit M.good t.1 t.2.1 t.2.2 M.snap _ s ?_
  unfold vc_given
  simp only [RP_nw]
  refine W.nw_of fun r s1 hr m1 k1 => ?_
  have h1 := h.new m1
  have hb1 := h1.cell
  have hbr : b ≠ r := ne_of_known h.cell hr
  have hs := hok.small
  obtain ⟨q1, q2, q3⟩ := id hs
  have hcb := hok.com
  unfold FAR at hi
  have st1 : Step (bL b l v n m) (bL b l v n m) s s1 := ⟨m1.mono (by simp), fun x hx => .inl hx⟩
  have k1' : ∀ o, (s1.upd b o) r = some (.cells (msgCells M t).toArray 32 (0, 0)) := fun o => upd_at k1 hbr.symm o
  simp [W.ld_at hb1, W.ld_at k1, W.br_iff, W.st_at hb1, fun o => W.ld_at (k1' o), fun o => W.still_at (k1' o)]
  refine ⟨fun hrole => ?_, fun hrole => ?_⟩
  · have : B.given M = (B, []) := by unfold BS.given; rw [if_pos hrole]
    rw [this]; exact OpPost.noMsgs h1 st1
  have hB2 : Bal (s1.upd b (.cells ({ B with role := 0, lead := M.from_ }.cells l v n m) 67 (0, 0))) b l v n m { B with role := 0, lead := M.from_ } := h1.lay
  have st2 : Step (bL b l v n m) (bL b l v n m) s (s1.upd b (.cells ({ B with role := 0, lead := M.from_ }.cells l v n m) 67 (0, 0))) := st1.trans ⟨Mod.upd (by simp [bL]), fun x hx => .inl hx⟩
  have k2 := k1' (.cells ({ B with role := 0, lead := M.from_ }.cells l v n m) 67 (0, 0))
  generalize hs2 : s1.upd b (.cells ({ B with role := 0, lead := M.from_ }.cells l v n m) 67 (0, 0)) = s2 at hB2 st2 k2
  have hs2' : { B with role := 0, lead := M.from_ }.Small := ⟨q1, q2, q3⟩
  refine ⟨fun hle => ?_, fun hgt => ?_⟩
  · have : B.given M = ({ B with role := 0, lead := M.from_ }, [B.toldM M.from_ true M.index]) := by unfold BS.given; rw [if_neg hrole, if_pos hle]
    rw [this]
    refine W.call_of (c_told hB2 M.from_ true M.index) ?_
    intro x s3 hp
    obtain ⟨t3, ps, rfl, q⟩ := hp
    refine ⟨((t3, ()), ()), rfl, ?_⟩
    exact op_msgs hB2 st2 ⟨t3, ps, rfl, q⟩
  have hg : B.given M = ({ ({ B with role := 0, lead := M.from_ }.rebase M.index M.prev M.snap (if B.termAt M.index = (M.prev, true) then B.log.drop (M.index - B.base).toNat else [])) with commit := M.index }, [B.toldM M.from_ true M.index]) := by
    unfold BS.given; rw [if_neg hrole, if_neg (by omega)]
  rw [hg]
  refine W.join_gen (GivJ { B with role := 0, lead := M.from_ } b v n m (if B.termAt M.index = (M.prev, true) then B.log.drop (M.index - B.base).toNat else []) r (msgCells M t).toArray s2) ?_ ?_
  · rintro _ s3 ⟨t3, rfl, hrow, hf3, m3⟩
    have h3 := hB2.new m3
    have k3 := m3.at k2 (by simp)
    simp [W.ld_at k3]
    refine W.call_of (c_rebase h3 M.index M.prev M.snap hrow) ?_
    rintro _ s4 ⟨rfl, h4, m4⟩
    refine ⟨(), rfl, ?_⟩
    have k4 := m4.at k3 (by simpa using hbr.symm)
    have hb4 := h4.cell
    simp [W.ld_at k4, W.st_at hb4, fun o => W.ld_at (upd_at k4 hbr.symm o)]
    have h5 : Bal (s4.upd b (.cells ({ ({ B with role := 0, lead := M.from_ }.rebase M.index M.prev M.snap (if B.termAt M.index = (M.prev, true) then B.log.drop (M.index - B.base).toNat else [])) with commit := M.index }.cells (t3.1, t3.2.1, t3.2.2) v n m) 67 (0, 0))) b (t3.1, t3.2.1, t3.2.2) v n m
        { ({ B with role := 0, lead := M.from_ }.rebase M.index M.prev M.snap (if B.termAt M.index = (M.prev, true) then B.log.drop (M.index - B.base).toNat else [])) with commit := M.index } := h4.lay
    have st5 : Step (bL b l v n m) (bL b (t3.1, t3.2.1, t3.2.2) v n m) s (s4.upd b (.cells ({ ({ B with role := 0, lead := M.from_ }.rebase M.index M.prev M.snap (if B.termAt M.index = (M.prev, true) then B.log.drop (M.index - B.base).toNat else [])) with commit := M.index }.cells (t3.1, t3.2.1, t3.2.2) v n m) 67 (0, 0))) := by
      refine st2.trans ⟨(((m3.mono (by simp)).trans (m4.mono (by simp [bL]))).updLater (.inl (by simp [bL]))), ?_⟩
      intro y hy
      simp only [bL, List.mem_cons, List.mem_append] at hy ⊢
      rcases hy with hy | hy | hy
      · exact .inl (.inl hy)
      · exact .inr (hf3 y hy)
      · exact .inl (.inr (.inr hy))
    refine W.call_of (c_told h5 M.from_ true M.index) ?_
    intro x s6 hp
    obtain ⟨t6, ps, rfl, q⟩ := hp
    refine ⟨((t6, ()), ()), rfl, ?_⟩
    exact op_msgs h5 st5 ⟨t6, ps, rfl, q⟩
  · intro J hJ
    simp [W.ld_at k2]
    refine W.call_of (c_term hB2 hs2' (i := M.index) (by unfold Num; omega)) ?_
    rintro _ s3 ⟨rfl, m3⟩
    have hte : ({ B with role := 0, lead := M.from_ } : BS).termAt M.index = B.termAt M.index := rfl
    rw [hte]
    refine ⟨(((B.termAt M.index).1, ()), ((B.termAt M.index).2, ()), ()), rfl, ?_⟩
    have k3 := m3.at k2 (by simp)
    have h3 := hB2.new m3
    have hb3 := h3.cell
    have hnone : B.termAt M.index ≠ (M.prev, true) → J ((Addr.mk r 0 none, ()), ((none, 0, 0), ()), ()) s3 := by
      intro hne
      exact hJ _ _ ⟨noTri, rfl, by rw [if_neg hne]; exact rowE.nil, by simp [Fw.blk], m3⟩
    simp [W.ld_at k3, W.ld_at hb3, W.br_iff]
    refine ⟨fun hok2 => ⟨fun hpe => ?_, fun hpn => ?_⟩, fun hno => ?_⟩
    · have hlle := termAt_le hok2 (by omega)
      have hlst : B.lst = B.base + B.log.length := rfl
      obtain ⟨k, hk⟩ : ∃ k : Nat, (M.index - B.base).toNat = k := ⟨_, rfl⟩
      have hw : IntKind.i64.wrap (M.index - B.base) = (k : Int) := by rw [wrap_in (by omega) (by omega)]; omega
      have hll := h3.log.len
      have hlc2 := h3.log.le
      have hll : l.2.1 = B.log.length := hll
      simp [hw]
      refine ⟨⟨by omega, by omega⟩, ?_⟩
      have hsrc := h3.log.src (i := k) (m := l.2.1 - k) (by omega)
      rw [List.take_of_length_le (by rw [List.length_drop, hll]; exact Nat.le_refl _)] at hsrc
      refine W.call_of (c_Clone (ys := B.log.drop k) hsrc (by rw [List.length_drop, hll]) (by omega)) ?_
      rintro _ s4 ⟨t4, rfl, _, hrow4, m4, hf4⟩
      refine ⟨((t4, ()), ()), rfl, ?_⟩
      refine hJ _ _ ⟨t4, rfl, ?_, fun y hy => m3.none (hf4 y hy) (by simp), m3.trans m4⟩
      rw [if_pos (Prod.ext hpe hok2), hk]; exact hrow4
    · exact hnone (by intro e; rw [e] at hpn; exact hpn rfl)
    · exact hnone (by intro e; rw [e] at hno; cases hno)
end
end Go.Proofs.Ytfpbiecmobdnnaa
end
section
set_option linter.unusedVariables false
set_option linter.unusedSimpArgs false
set_option maxHeartbeats 1000000
namespace Go.Proofs.Ytfpbiecmobdnnaa
open Fw Go
attribute [-simp] Fw.W.ld_iff Fw.W.st_iff
/-- entries that can be read -/
structure View (s : PH) (a : Option Addr) (n c : Nat) (xs : List Ent) : Prop where
  len : n = xs.length
  le : n ≤ c
  all : ∀ j x, xs[j]? = some x → ∃ ad, a = some ad ∧ s.has (ad.add (j * 4)) (entE.f x)
theorem View.of {s : PH} {t : Tri} {xs : List Ent} (h : rowE entE s 39 t.1 t.2.1 t.2.2 xs) : View s t.1 t.2.1 t.2.2 xs := by
  refine ⟨h.len, h.le, fun j x hx => ?_⟩
  obtain ⟨g, hg, hh⟩ := h.at hx
  exact ⟨_, hg, by rw [add_mk, Nat.zero_add]; exact hh⟩
theorem View.mono {s s' : PH} {a : Option Addr} {n c : Nat} {xs : List Ent} (h : View s a n c xs) (hm : s.le s') : View s' a n c xs :=
  ⟨h.len, h.le, fun j x hx => by obtain ⟨ad, h1, h2⟩ := h.all j x hx; exact ⟨ad, h1, h2.mono hm⟩⟩
theorem View.sub {s : PH} {a : Option Addr} {n c : Nat} {xs : List Ent} (h : View s a n c xs) {k : Nat} (hk : k ≤ n) : View s (if c = k then a else a.map (·.add (k * 4))) (n - k) (c - k) (xs.drop k) := by
  have hl := h.len
  have hc := h.le
  refine ⟨by rw [List.length_drop]; omega, by omega, fun j x hx => ?_⟩
  rw [List.getElem?_drop] at hx
  have hj := (List.getElem?_eq_some_iff.1 hx).1
  obtain ⟨ad, h1, h2⟩ := h.all _ x hx
  rw [if_neg (by omega), h1]
  refine ⟨_, rfl, ?_⟩
  have : (ad.add (k * 4)).add (j * 4) = ad.add ((k + j) * 4) := by
    rw [Nat.add_mul]
    unfold Addr.add
    by_cases e1 : k * 4 = 0 <;> by_cases e2 : j * 4 = 0 <;> simp [e1, e2, Nat.add_assoc]
  rw [this]; exact h2
theorem View.src {s : PH} {a : Option Addr} {n c : Nat} {xs : List Ent} (h : View s a n c xs) : srcIs s 4 (.sl a n) (xs.flatMap entE.f) := by
  have hl := h.len
  cases a with
  | none =>
    have : xs = [] := by
      cases xs with
      | nil => rfl
      | cons x xs => obtain ⟨ad, h1, _⟩ := h.all 0 x rfl; cases h1
    subst this
    exact ⟨rfl, by rw [hl]; (first | done | rfl)⟩
  | some ad =>
    refine ⟨by rw [flat_len, hl]; (first | done | rfl), ?_⟩
    intro i v hv
    have hi := (List.getElem?_eq_some_iff.1 hv).1
    rw [flat_len] at hi
    have hi : i < xs.length * 4 := hi
    have hq : i / 4 < xs.length := by omega
    have hx : xs[i / 4]? = some xs[i / 4] := List.getElem?_eq_getElem hq
    obtain ⟨l, r, he, hll, _, _⟩ := flat_at (E := entE) hx
    obtain ⟨ad', h1, h2⟩ := h.all _ _ hx
    cases h1
    have hlen4 : (entE.f xs[i / 4]).length = 4 := entE.len _
    have hll : l.length = i / 4 * 4 := hll
    rw [he, List.append_assoc, List.getElem?_append_right (by omega), List.getElem?_append_left (by omega), hll] at hv
    have := h2 _ _ hv
    rwa [show (ad.add (i / 4 * 4)).add (i - i / 4 * 4) = ad.add i from ?_] at this
    unfold Addr.add
    by_cases e1 : i / 4 * 4 = 0
    · have e3 : i - i / 4 * 4 = i := by omega
      simp [e1]
    · by_cases e2 : i - i / 4 * 4 = 0
      · have e3 : i / 4 * 4 = i := by omega
        simp [e2, e3]
      · have e3 : i ≠ 0 := by omega
        have e4 : i / 4 * 4 + (i - i / 4 * 4) = i := by omega
        simp [e1, e2, e3, Nat.add_assoc, e4]
/-- entries from i + 1 on are laid, from the first one on that is not there -/
def BS.merge (B : BS) (i : Int) : List Ent → BS
  | [] => B
  | e :: r => if B.termAt (i + 1) = (e.term, true) then B.merge (i + 1) r else B.set (i + 1) (e :: r)
def BS.fed (B : BS) (M : Msg) : BS × List Msg :=
  if B.role = 2 then (B, []) else
  let B1 := { B with role := 0, lead := M.from_ }
  let e := M.index + M.list.length
  if e ≤ B.commit then (B1, [B.toldM M.from_ true e]) else
  if ¬ M.index < B.commit ∧ B.termAt M.index ≠ (M.prev, true) then (B1, [B.toldM M.from_ false (mn B.lst (M.index - 1))]) else
  let B2 := if M.index < B.commit then B1.merge B.commit (M.list.drop (B.commit - M.index).toNat) else B1.merge M.index M.list
  ({ B2 with commit := mx B2.commit (mn M.commit e) }, [B.toldM M.from_ true e])
theorem merge_same (B : BS) : ∀ (L : List Ent) (i : Int), (B.merge i L).id = B.id ∧ (B.merge i L).term = B.term ∧ (B.merge i L).commit = B.commit ∧ (B.merge i L).base = B.base
  | [], _ => ⟨rfl, rfl, rfl, rfl⟩
  | e :: r, i => by
    simp only [BS.merge]
    split
    · exact merge_same B r (i + 1)
    · exact ⟨rfl, rfl, rfl, rfl⟩
section
variable {s : PH} {b : Nat} {l v n m : Tri} {B : BS}
def fedX (B : BS) (M : Msg) : List Ent := if M.index < B.commit then M.list.drop (B.commit - M.index).toNat else M.list
def fedI (B : BS) (M : Msg) : Int := if M.index < B.commit then B.commit else M.index
def FedJ (B : BS) (b : Nat) (l v n m : Tri) (M : Msg) (t0 : Tri) (r : Nat) (L : List Nat) (s0 : PH) (z : MDen [(false, [.addr]), (false, [.int .i64]), (false, [.slice]), (false, [.int .i64])]) (s' : PH) : Prop :=
  ∃ t : Tri, z = ((Addr.mk r 0 none, ()), (M.index + M.list.length, ()), (t, ()), (fedI B M, ()), ()) ∧ View s' t.1 t.2.1 t.2.2 (fedX B M) ∧ Bal s' b l v n m { B with role := 0, lead := M.from_ } ∧ Step L (bL b l v n m) s0 s' ∧
    s' r = some (.cells (msgCells M t0).toArray 32 (0, 0)) ∧ B.base ≤ fedI B M ∧ fedI B M ≤ B.lst ∧ ¬ (¬ M.index < B.commit ∧ B.termAt M.index ≠ (M.prev, true))
def FedK (B : BS) (b : Nat) (v n m : Tri) (M : Msg) (t0 : Tri) (r : Nat) (L : List Nat) (s0 : PH) (z : MDen [(false, [.addr]), (false, [.int .i64])]) (s' : PH) : Prop :=
  ∃ l' : Tri, z = ((Addr.mk r 0 none, ()), (M.index + M.list.length, ()), ()) ∧ Bal s' b l' v n m ({ B with role := 0, lead := M.from_ }.merge (fedI B M) (fedX B M)) ∧ Step L (bL b l' v n m) s0 s' ∧
    s' r = some (.cells (msgCells M t0).toArray 32 (0, 0))
def FedZ (B : BS) (b : Nat) (l v n m : Tri) (M : Msg) (t0 t : Tri) (r : Nat) (L : List Nat) (s0 : PH) (z : MDen [(false, [.addr]), (false, [.int .i64]), (false, [.slice]), (false, [.int .i64]), (false, [.slice]), (false, [.int .i64]), (false, [.int .i64])]) (s' : PH) : Prop :=
  ∃ k : Nat, z = ((Addr.mk r 0 none, ()), (M.index + M.list.length, ()), (t, ()), (fedI B M, ()), (t, ()), ((t.2.1 : Int), ()), ((k : Int), ()), ()) ∧ k ≤ t.2.1 ∧ View s' t.1 t.2.1 t.2.2 (fedX B M) ∧ Bal s' b l v n m { B with role := 0, lead := M.from_ } ∧
    Step L (bL b l v n m) s0 s' ∧ s' r = some (.cells (msgCells M t0).toArray 32 (0, 0)) ∧ fedI B M + k ≤ B.lst ∧ { B with role := 0, lead := M.from_ }.merge (fedI B M) (fedX B M) = { B with role := 0, lead := M.from_ }.merge (fedI B M + k) ((fedX B M).drop k)
theorem c_fed (h : Bal s b l v n m B) (hok : B.Ok) (hlc : B.commit ≤ B.lst) (M : Msg) (t : Tri) (hrow : rowE entE s 39 t.1 t.2.1 t.2.2 M.list) (hll : M.list.length ≤ 1000000) (hi : 0 ≤ M.index ∧ M.index ≤ FAR) :
    DCalls Try.prog 49 #[bptr b, msgV M t] s (OpPost (B.fed M) b (bL b l v n m) s) := by
  refine ok_fed b M.kind M.from_ M.to M.term M.index M.prev M.commit M.good t.1 t.2.1 t.2.2 M.snap _ s ?_
  unfold vc_fed
  simp only [RP_nw]
  refine W.nw_of fun r s1 hr m1 k1 => ?_
  have h1 := h.new m1
  have hb1 := h1.cell
  have hbr : b ≠ r := ne_of_known h.cell hr
  have hs := hok.small
  obtain ⟨q1, q2, q3⟩ := id hs
  have hcb := hok.com
  have hbb := hok.base
  have hlst : B.lst = B.base + B.log.length := rfl
  have hnl := num_lst hs hok.base
  unfold Num at hnl
  unfold FAR at hi
  have htn : t.2.1 = M.list.length := hrow.len
  have htc := hrow.le
  have st1 : Step (bL b l v n m) (bL b l v n m) s s1 := ⟨m1.mono (by simp), fun x hx => .inl hx⟩
  have k1' : ∀ o, (s1.upd b o) r = some (.cells (msgCells M t).toArray 32 (0, 0)) := fun o => upd_at k1 hbr.symm o
  have hwe : IntKind.i64.wrap (M.index + (t.2.1 : Int)) = M.index + M.list.length := by rw [htn, wrap_in (by omega) (by omega)]
  simp [W.ld_at hb1, W.ld_at k1, W.br_iff, W.st_at hb1, fun o => W.ld_at (k1' o), fun o => W.still_at (k1' o), hwe]
  refine ⟨fun hrole => ?_, fun hrole => ?_⟩
  · have : B.fed M = (B, []) := by unfold BS.fed; rw [if_pos hrole]
    rw [this]; exact OpPost.noMsgs h1 st1
  have hB2 : Bal (s1.upd b (.cells ({ B with role := 0, lead := M.from_ }.cells l v n m) 67 (0, 0))) b l v n m { B with role := 0, lead := M.from_ } := h1.lay
  have st2 : Step (bL b l v n m) (bL b l v n m) s (s1.upd b (.cells ({ B with role := 0, lead := M.from_ }.cells l v n m) 67 (0, 0))) := st1.trans ⟨Mod.upd (by simp [bL]), fun x hx => .inl hx⟩
  have k2 := k1' (.cells ({ B with role := 0, lead := M.from_ }.cells l v n m) 67 (0, 0))
  have hrow2 : rowE entE (s1.upd b (.cells ({ B with role := 0, lead := M.from_ }.cells l v n m) 67 (0, 0))) 39 t.1 t.2.1 t.2.2 M.list := (hrow.mod m1 (by simp)).mod (L := [b]) (Mod.upd (by simp)) fun x hx => by simp; rintro rfl; exact row_ne2 (hrow.mod m1 (by simp)) hb1 (by decide) hx
  generalize hs2 : s1.upd b (.cells ({ B with role := 0, lead := M.from_ }.cells l v n m) 67 (0, 0)) = s2 at hB2 st2 k2 hrow2
  clear hs2
  have hs2' : { B with role := 0, lead := M.from_ }.Small := ⟨q1, q2, q3⟩
  have hb2 := hB2.cell
  refine ⟨fun hle => ?_, fun hgt => ?_⟩
  · have : B.fed M = ({ B with role := 0, lead := M.from_ }, [B.toldM M.from_ true (M.index + M.list.length)]) := by unfold BS.fed; rw [if_neg hrole]; simp only [hle, if_true]
    rw [this]
    refine W.call_of (c_told hB2 M.from_ true (M.index + M.list.length)) ?_
    intro x s3 hp
    obtain ⟨t3, ps, rfl, q⟩ := hp
    refine ⟨((t3, ()), ()), rfl, ?_⟩
    exact op_msgs hB2 st2 ⟨t3, ps, rfl, q⟩
  have hgt' : ¬ M.index + (M.list.length : Int) ≤ B.commit := by omega
  refine W.join_gen (FedJ B b l v n m M t r (bL b l v n m) s) ?_ ?_
  · rintro _ s3 ⟨t3, rfl, hv3, h3, st3, k3, hI0, hI1, hc⟩
    have hxl : (fedX B M).length ≤ 1000000 := by
      unfold fedX; split
      · rw [List.length_drop]; omega
      · exact hll
    have hIn : Num (fedI B M) := by unfold Num; omega
    have hg : ¬ (¬ M.index < B.commit ∧ B.termAt M.index ≠ (M.prev, true)) → B.fed M = ({ ({ B with role := 0, lead := M.from_ }.merge (fedI B M) (fedX B M)) with commit := mx B.commit (mn M.commit (M.index + M.list.length)) }, [B.toldM M.from_ true (M.index + M.list.length)]) := by
      intro hc
      have e2 : (if M.index < B.commit then { B with role := 0, lead := M.from_ }.merge B.commit (M.list.drop (B.commit - M.index).toNat) else { B with role := 0, lead := M.from_ }.merge M.index M.list) = { B with role := 0, lead := M.from_ }.merge (fedI B M) (fedX B M) := by
        unfold fedI fedX; split <;> rfl
      unfold BS.fed; rw [if_neg hrole]; simp only [hgt', if_false]
      rw [if_neg hc]
      simp only [e2, (merge_same { B with role := 0, lead := M.from_ } (fedX B M) (fedI B M)).2.2.1]
    refine W.join_gen (FedK B b v n m M t r (bL b l v n m) s) ?_ ?_
    · rintro _ s4 ⟨l', rfl, h4, st4, k4⟩
      have hb4 := h4.cell
      obtain ⟨e1, e2, e3, e4⟩ := merge_same { B with role := 0, lead := M.from_ } (fedX B M) (fedI B M)
      have k4' : ∀ o, (s4.upd b o) r = some (.cells (msgCells M t).toArray 32 (0, 0)) := fun o => upd_at k4 hbr.symm o
      rw [hg hc]
      dsimp only at e1 e2 e3 e4
      generalize hBB : BS.merge { B with role := 0, lead := M.from_ } (fedI B M) (fedX B M) = B3 at h4 hb4 e1 e2 e3 e4 ⊢
      have hmm : (if (if M.index + (M.list.length : Int) < M.commit then M.index + (M.list.length : Int) else M.commit) > B3.commit then (if M.index + (M.list.length : Int) < M.commit then M.index + (M.list.length : Int) else M.commit) else B3.commit) = mx B.commit (mn M.commit (M.index + M.list.length)) := by rw [e3]; (first | done | rfl)
      simp [W.ld_at hb4, W.ld_at k4, W.br_iff, W.st_at hb4, fun o => W.ld_at (k4' o)]
      simp only [gt_iff_lt] at hmm
      rw [hmm]
      have h5 : Bal (s4.upd b (.cells ({ B3 with commit := mx B.commit (mn M.commit (M.index + M.list.length)) }.cells l' v n m) 67 (0, 0))) b l' v n m { B3 with commit := mx B.commit (mn M.commit (M.index + M.list.length)) } := h4.lay
      have st5 : Step (bL b l v n m) (bL b l' v n m) s (s4.upd b (.cells ({ B3 with commit := mx B.commit (mn M.commit (M.index + M.list.length)) }.cells l' v n m) 67 (0, 0))) := st4.trans ⟨Mod.upd (by simp [bL]), fun x hx => .inl hx⟩
      refine W.call_of (c_told h5 M.from_ true (M.index + M.list.length)) ?_
      intro x s6 hp
      obtain ⟨t6, ps, rfl, q⟩ := hp
      refine ⟨((t6, ()), ()), rfl, ?_⟩
      have hmsg : ({ BS.msg { B3 with commit := mx B.commit (mn M.commit (M.index + M.list.length)) } 4 M.from_ with good := true, index := M.index + M.list.length } : Msg) = B.toldM M.from_ true (M.index + M.list.length) := by
        unfold BS.toldM BS.msg; simp only [e1, e2]
      rw [← hmsg]
      exact op_msgs h5 st5 ⟨t6, ps, rfl, q⟩
    · intro J hJ
      simp only [RP_loop]
      refine ⟨FedZ B b l v n m M t t3 r (bL b l v n m) s, fun z _ => t3.2.1 - z.2.2.2.2.2.2.1.1.toNat, ⟨0, rfl, by omega, hv3, h3, st3, k3, by simpa using hI1, by simp⟩, ?_⟩
      rintro _ s4 ⟨k, rfl, hk, hv4, h4, st4, k4, hIk, hmg⟩
      have hb4 := h4.cell
      have hvl := hv4.len
      have hvc := hv4.le
      have hw12 : IntKind.i64.wrap (IntKind.i64.wrap (fedI B M + 1) + (k : Int)) = fedI B M + k + 1 := by
        unfold Num at hIn
        rw [wrap_in (n := fedI B M + 1) (by omega) (by omega), wrap_in (by omega) (by omega)]; omega
      have hwk : IntKind.i64.wrap ((k : Int) + 1) = ((k + 1 : Nat) : Int) := by rw [wrap_in (by omega) (by omega)]; simp
      simp [W.br_iff, -W.nw_iff]
      refine ⟨fun hkn => ⟨hkn, ?_⟩, fun hkn => ?_⟩
      · obtain ⟨e, he⟩ : ∃ e, (fedX B M)[k]? = some e := ⟨_, List.getElem?_eq_getElem (by omega)⟩
        obtain ⟨ad, had, hhas⟩ := hv4.all _ _ he
        have htri : (some ad, t3.2.1, t3.2.2) = t3 := by rw [← had]
        have hdrop : (fedX B M).drop k = e :: (fedX B M).drop (k + 1) := by
          have hlt := (List.getElem?_eq_some_iff.1 he).1
          rw [List.drop_eq_getElem_cons hlt, (List.getElem?_eq_some_iff.1 he).2]
        have hsub := (hv4.sub (k := k) (by omega))
        rw [had]
        simp only [W.unSome_some]
        refine ld_has_z hhas (cs := [.int .i64, .int .i64, .int .i64, .str]) (y := (e.term, e.at_, e.born, e.text, ())) rfl ?_
        refine W.nw_of fun q s5 hq m5 k5 => ?_
        simp [W.st_at k5, hw12]
        have m6 : Fw.Mod [] s4 (s5.upd q (.cells #[.int .i64 e.term, .int .i64 e.at_, .int .i64 e.born, .string e.text] 39 (0, 0))) := m5.updLater (.inr hq)
        have k6 : (s5.upd q (.cells #[.int .i64 e.term, .int .i64 e.at_, .int .i64 e.born, .string e.text] 39 (0, 0))) q = some (.cells #[.int .i64 e.term, .int .i64 e.at_, .int .i64 e.born, .string e.text] 39 (0, 0)) := PH.upd_same _ _ _
        generalize s5.upd q (.cells #[.int .i64 e.term, .int .i64 e.at_, .int .i64 e.born, .string e.text] 39 (0, 0)) = s6 at m6 k6 ⊢
        have h6 := h4.new m6
        refine W.call_of (c_term h6 hs2' (i := fedI B M + k + 1) (by unfold Num at hIn ⊢; omega)) ?_
        rintro _ s7 ⟨rfl, m7⟩
        have hte : ({ B with role := 0, lead := M.from_ } : BS).termAt (fedI B M + k + 1) = B.termAt (fedI B M + k + 1) := rfl
        rw [hte]
        generalize hT : B.termAt (fedI B M + k + 1) = T at hte ⊢
        obtain ⟨T1, T2⟩ := T
        refine ⟨((T1, ()), (T2, ()), ()), rfl, ?_⟩
        have m67 := m6.trans m7
        have h7 := h4.new m67
        have k7 := m7.at k6 (by simp)
        have kr7 := m67.at k4 (by simp)
        have hv7 : View s7 (if t3.2.2 = k then some ad else some (ad.add (k * 4))) (t3.2.1 - k) (t3.2.2 - k) ((fedX B M).drop k) := by
          have := hsub.mono m67.le
          rw [had] at this; exact this
        have st7 : Step (bL b l v n m) (bL b l v n m) s s7 := st4.trans ⟨m67.mono (by simp), fun x hx => .inl hx⟩
        have hset : (T1, T2) ≠ (e.term, true) → ∀ (x : Value) (s8 : PH), SetPost ({ B with role := 0, lead := M.from_ }.set (fedI B M + k + 1) ((fedX B M).drop k)) b l v n m s7 x s8 → x = .tuple #[] ∧ J ((Addr.mk r 0 none, ()), (M.index + M.list.length, ()), ()) s8 := by
          rintro hne x s8 ⟨l', rfl, h8, st8⟩
          refine ⟨rfl, hJ _ _ ⟨l', rfl, ?_, st7.trans st8, ?_⟩⟩
          · rw [hmg, hdrop]
            simp only [BS.merge]
            rw [hte, if_neg hne, ← hdrop]; exact h8
          · exact st8.mod.at kr7 (fun hx => by
              have hh := h7.log
              simp only [bL, List.mem_cons, List.mem_append] at hx
              rcases hx with hx | hx | hx | hx | hx
              · exact hbr hx.symm
              · exact row_ne2 h7.log kr7 (by decide) hx
              · exact row_ne2 h7.votes kr7 (by decide) hx
              · exact row_ne2 h7.next kr7 (by decide) hx
              · exact row_ne2 h7.mat kr7 (by decide) hx)
        simp [W.br_iff, W.ld_at k7]
        have hcall : ∀ (R : Value → PH → Prop), (∀ x s8, SetPost ({ B with role := 0, lead := M.from_ }.set (fedI B M + k + 1) ((fedX B M).drop k)) b l v n m s7 x s8 → R x s8) → DCalls Try.prog 53 #[bptr b, .int .i64 (fedI B M + k + 1), .slice (if t3.2.2 = k then some ad else some (ad.add (k * 4))) (t3.2.1 - k) (t3.2.2 - k)] s7 R := by
          intro R hR
          refine (c_set h7 hs2' (i := fedI B M + k + 1) ?_ ?_ hv7.src (by rw [List.length_drop]; omega) (by omega)).mono hR
          · show B.base < _; omega
          · show _ ≤ B.lst + 1; omega
        refine ⟨fun h0 => ⟨⟨by omega, by omega⟩, ?_⟩, fun h1 => ⟨fun hne => ⟨⟨by omega, by omega⟩, ?_⟩, fun heq => ⟨⟨k + 1, ?_, by omega, hv4.mono m67.le, h7, st7, kr7, ?_, ?_⟩, by rw [hwk]; simp only [Int.toNat_natCast]; omega⟩⟩⟩
        · refine W.call_of (hcall _ (hset (by rw [h0]; intro h; cases h))) ?_
          rintro _ s8 ⟨rfl, hJ8⟩
          exact ⟨(), rfl, hJ8⟩
        · refine W.call_of (hcall _ (hset (by intro h; exact hne (congrArg Prod.fst h)))) ?_
          rintro _ s8 ⟨rfl, hJ8⟩
          exact ⟨(), rfl, hJ8⟩
        · rw [hwk, htri]
        · have : fedI B M + k + 1 ≤ B.lst := termAt_le (B := B) (by rw [hT]; exact h1) (by omega)
          push_cast; omega
        · rw [hmg, hdrop]
          simp only [BS.merge]
          rw [hte, if_pos (by rw [heq, h1])]
          rw [show ((k + 1 : Nat) : Int) = (k : Int) + 1 by push_cast; (first | done | rfl), ← Int.add_assoc]
      · refine hJ _ _ ⟨l, rfl, ?_, st4, k4⟩
        have : (fedX B M).drop k = [] := List.drop_eq_nil_of_le (by omega)
        rw [hmg, this]
        exact h4
  · intro J hJ
    simp [W.ld_at hb2, W.br_iff]
    refine ⟨fun hlt => ?_, fun hge => ?_⟩
    · obtain ⟨k, hk⟩ : ∃ k : Nat, (B.commit - M.index).toNat = k := ⟨_, rfl⟩
      have hw : IntKind.i64.wrap (B.commit - M.index) = (k : Int) := by rw [wrap_in (by omega) (by omega)]; omega
      rw [hw]
      refine ⟨⟨by omega, by omega, by omega⟩, ?_⟩
      simp only [Int.toNat_natCast]
      have hX : fedX B M = M.list.drop k := by unfold fedX; rw [if_pos hlt, hk]
      have hI : fedI B M = B.commit := by unfold fedI; rw [if_pos hlt]
      refine hJ _ _ ⟨(if t.2.2 = k then t.1 else t.1.map (·.add (k * 4)), t.2.1 - k, t.2.2 - k), by rw [hI], by rw [hX]; exact (View.of hrow2).sub (by omega), hB2, st2, k2, by rw [hI]; exact hcb, by rw [hI]; exact hlc, fun q => q.1 hlt⟩
    · have hX : fedX B M = M.list := by unfold fedX; rw [if_neg (by omega)]
      have hI : fedI B M = M.index := by unfold fedI; rw [if_neg (by omega)]
      refine W.call_of (c_term hB2 hs2' (i := M.index) (by unfold Num; omega)) ?_
      rintro _ s3 ⟨rfl, m3⟩
      have hte : ({ B with role := 0, lead := M.from_ } : BS).termAt M.index = B.termAt M.index := rfl
      rw [hte]
      refine ⟨(((B.termAt M.index).1, ()), ((B.termAt M.index).2, ()), ()), rfl, ?_⟩
      have k3 := m3.at k2 (by simp)
      have h3 := hB2.new m3
      have hb3 := h3.cell
      have st3 : Step (bL b l v n m) (bL b l v n m) s s3 := st2.trans ⟨m3.mono (by simp), fun x hx => .inl hx⟩
      refine W.join_gen (fun z s' => s' = s3 ∧ z = ((Addr.mk r 0 none, ()), (M.index + M.list.length, ()), (t, ()), (M.index, ()), (!decide (B.termAt M.index = (M.prev, true)), ()), ())) ?_ ?_
      · rintro _ s3 ⟨rfl, rfl⟩
        simp [W.br_iff, W.ld_at k3]
        refine ⟨fun hno => ?_, fun hyes => ?_⟩
        · have hno : B.termAt M.index ≠ (M.prev, true) := hno
          have hg : B.fed M = ({ B with role := 0, lead := M.from_ }, [B.toldM M.from_ false (mn B.lst (M.index - 1))]) := by
            unfold BS.fed; rw [if_neg hrole]; simp only [hgt', if_false]; rw [if_pos ⟨by omega, hno⟩]
          rw [hg]
          refine W.callQ_of ((B.lst, ()), ()) (c_last h3 hs2') rfl ?_
          have hw1 : IntKind.i64.wrap (M.index - 1) = M.index - 1 := wrap_in (by omega) (by omega)
          have e4 : (if M.index - 1 < B.lst then M.index - 1 else B.lst) = mn B.lst (M.index - 1) := rfl
          simp [hw1, e4]
          refine W.call_of (c_told h3 M.from_ false (mn B.lst (M.index - 1))) ?_
          intro x s6 hp
          obtain ⟨t6, ps, rfl, q⟩ := hp
          refine ⟨((t6, ()), ()), rfl, ?_⟩
          exact op_msgs h3 st3 ⟨t6, ps, rfl, q⟩
        · have hyes : B.termAt M.index = (M.prev, true) := hyes
          refine hJ _ _ ⟨t, by rw [hI], by rw [hX]; exact View.of (hrow2.mod m3 (by simp)), h3, st3, k3, by rw [hI]; omega, by rw [hI]; exact termAt_le (by rw [hyes]) (by omega), fun q => q.2 hyes⟩
      · intro K hK
        simp [W.br_iff, W.ld_at k3]
        refine ⟨fun hf => hK _ _ ⟨rfl, ?_⟩, fun ht => hK _ _ ⟨rfl, ?_⟩⟩
        · have : B.termAt M.index ≠ (M.prev, true) := by intro e; rw [e] at hf; cases hf
          simp [this]
        · have : (decide (B.termAt M.index = (M.prev, true))) = ((B.termAt M.index).1 == M.prev) := by
            by_cases e : (B.termAt M.index).1 = M.prev
            · have : B.termAt M.index = (M.prev, true) := Prod.ext e ht
              simp [this]
            · have h' : B.termAt M.index ≠ (M.prev, true) := by intro e2; rw [e2] at e; exact e rfl
              simp [h', e]
          rw [this]; (first | done | rfl)
end
end Go.Proofs.Ytfpbiecmobdnnaa
end
section
set_option linter.unusedVariables false
set_option linter.unusedSimpArgs false
set_option maxHeartbeats 1000000
namespace Go.Proofs.Ytfpbiecmobdnnaa
open Fw Go
attribute [-simp] Fw.W.ld_iff Fw.W.st_iff
section
variable {s : PH} {b : Nat} {l v n m : Tri} {B : BS}
theorem op_app {s1 s2 s3 : PH} {B1 : BS} {R : BS × List Msg} {t1 t2 l' v' n' m' : Tri} {ps1 ps2 : List (Msg × Tri)} (h1 : Bal s1 b l v n m B1) (hms1 : Msgs s2 t1 ps1) (m2 : Fw.Mod [] s1 s2) (hf1 : ∀ y ∈ mF t1 ps1, s1 y = none)
    (h3 : Bal s3 b l' v' n' m' R.1) (st3 : Step (bL b l v n m) (bL b l' v' n' m') s2 s3) (hms2 : Msgs s3 t2 ps2) (hf2 : ∀ y ∈ mF t2 ps2, (y ∈ bL b l v n m ∨ s2 y = none) ∧ y ∉ bL b l' v' n' m') (c1 : t1.2.1 ≤ 1000) (c2 : t2.2.1 ≤ 1000)
    {K : Option Addr → Nat → Nat → W.T} (hK : ∀ a kk c s', OpPost (R.1, ps1.map (·.1) ++ ps2.map (·.1)) b (bL b l v n m) s1 (.slice a kk c) s' → K a kk c s') : W.app 32 10 104 zeroMsg t1.1 t1.2.1 t1.2.2 (.sl t2.1 t2.2.1) K s3 := by
  have hno : ∀ y ∈ mF t1 ps1, ¬ (y ∈ bL b l v n m ∨ s2 y = none) := fun y hy hx => by
    rcases hx with hx | hx
    · exact h1.known y hx (hf1 y hy)
    · exact hms1.known y hy hx
  have hno' : ∀ y ∈ mF t1 ps1, y ∉ bL b l' v' n' m' := fun y hy hx => hno y hy (st3.new y hx)
  have hb1 : ∀ y ∈ Fw.blk t1.1, y ∈ mF t1 ps1 := fun y hy => by simp [mF, hy]
  have hms1' := hms1.mod st3.mod (fun y hy hx => hno y hy (.inl hx))
  have st : Step (bL b l v n m) (bL b l' v' n' m') s1 s3 := Step.trans (L' := bL b l v n m) ⟨m2.mono (by simp), fun x hx => .inl hx⟩ st3
  refine app_msgs (fun y => (y ∈ bL b l v n m ∨ s1 y = none) ∧ y ∉ bL b l' v' n' m') ?_ hms1' hms2 ?_ ?_ ?_ hms1.apart c1 c2 ?_
  · intro g hg
    refine ⟨?_, fun hx => h3.known g hx hg⟩
    by_cases hx : g ∈ bL b l v n m
    · exact .inl hx
    · exact .inr (st.mod.none hg hx)
  · exact fun y hy => ⟨.inr (hf1 y hy), hno' y hy⟩
  · intro y hy
    refine ⟨?_, (hf2 y hy).2⟩
    rcases (hf2 y hy).1 with g | g
    · exact .inl g
    · exact .inr (m2.none g (by simp))
  · intro y hy hx
    exact hno y (hb1 y hx) (hf2 y hy).1
  · intro a k c s' g1 g2 g3
    refine hK a k c s' ⟨(a, k, c), ps1 ++ ps2, l', v', n', m', rfl, h3.mod g3 (fun x hx hx' => hno' x (hb1 x hx') hx), ⟨st.mod.fresh g3 (fun y hy => .inr (hf1 y (hb1 y hy))), st.new⟩, g1, by simp, g2⟩
def BS.turned (B : BS) (t v r : Int) : BS := { B with term := t, vote := v, role := r, lead := -1, touched := true }
def BS.stood (B : BS) : BS := { B.turned (B.term + 1) B.id 1 with votes := (List.replicate B.size.toNat false).set B.id.toNat true }
def BS.timeout (B : BS) : BS × List Msg := if B.role = 2 then (B, []) else (B.stood.counted.1, B.stood.asks ++ B.stood.counted.2)
theorem mksl_bool {k : Nat → W.T} {s : PH} {c : Nat} (hc : c ≤ 1000) (h : ∀ r s1, s r = none → Fw.Mod [] s s1 → rowE boolE s1 4 (some ⟨r, 0, none⟩) c c (List.replicate c false) → k r s1) : W.mksl 4 1 1 [.bool false] (c : Int) (c : Int) k s := by
  refine ⟨by omega, Int.le_refl _, by omega, by omega, fun r hr => ?_⟩
  have hz : Builtin.zeroCells [Value.bool false].toArray ((c : Nat) : Int).toNat = (List.replicate c (Value.bool false)).toArray := zero_one (.bool false) c
  rw [hz]
  refine h r _ hr (Mod.new hr) ⟨by rw [flat_len]; simp [boolE], Nat.le_refl _, by show c ≤ 9223372036854775807; omega, .inr ⟨r, _, rfl, PH.upd_same _ _ _, by simp [boolE], ?_⟩⟩
  have : ∀ c : Nat, (List.replicate c false).flatMap boolE.f = List.replicate c (Value.bool false) := by
    intro c
    induction c with
    | zero => rfl
    | succ c ih => rw [List.replicate_succ, List.flatMap_cons, ih, List.replicate_succ]; (first | done | rfl)
  rw [this]; simp [boolE]
theorem counted_len (B : BS) (h : B.size ≤ 5) : B.counted.2.length ≤ 10 := by
  unfold BS.counted
  split
  · simp
  · have h3 : (B.lead2.set (B.lst + 1) [{ noEnt with term := B.term }]).size = B.size := rfl
    generalize B.lead2.set (B.lst + 1) [{ noEnt with term := B.term }] = B3 at h3 ⊢
    have h1 := BS.others_len B3 (fun to => B3.feedM to ((B3.next[to]?).getD 0)) B3.size.toNat
    have h2 := settled_len B3
    have h4 : B3.feeds.length = (B3.others (fun to => B3.feedM to ((B3.next[to]?).getD 0)) B3.size.toNat).length := rfl
    show (B3.feeds ++ B3.settled.2).length ≤ 10
    rw [List.length_append]
    omega
theorem c_Timeout (h : Bal s b l v n m B) (hok : B.Ok) (hlc : B.commit ≤ B.lst) (hl1 : B.log.length + 1 ≤ 1073741824) (ht : Num B.term) : DCalls Try.prog 24 #[bptr b] s (OpPost B.timeout b (bL b l v n m) s) := by
  refine ok_Timeout b _ s ?_
  unfold vc_Timeout
  have hb := h.cell
  have hsz := hok.size
  have hid := hok.id
  simp only [RP_join]
  refine W.join_gen (fun z s' => s' = s ∧ z = () ∧ B.role ≠ 2) ?_ ?_
  · rintro _ s ⟨rfl, rfl, hr⟩
    have ht1 : IntKind.i64.wrap (B.term + 1) = B.term + 1 := by unfold Num at ht; exact wrap_in (by omega) (by omega)
    simp [W.ld_at hb, ht1]
    refine W.call_of (c_turn h (B.term + 1) B.id 1) ?_
    rintro _ s1 ⟨rfl, h1, m1⟩
    refine ⟨(), rfl, ?_⟩
    have hb1 := h1.cell
    obtain ⟨c, hc⟩ : ∃ c : Nat, B.size = c := ⟨B.size.toNat, by omega⟩
    have hct : B.size.toNat = c := by omega
    obtain ⟨f, hf⟩ : ∃ f : Nat, B.id = f := ⟨B.id.toNat, by omega⟩
    simp [W.ld_at hb1, hc]
    refine mksl_bool (by omega) fun r s2 hr2 m2 hrow => ?_
    have h2 := h1.new m2
    have hb2 := h2.cell
    have hidt : B.id.toNat = f := by omega
    simp [W.st_at hb2]
    have h3 : Bal (s2.upd b (.cells ({ B.turned (B.term + 1) B.id 1 with votes := List.replicate c false }.cells l (some ⟨r, 0, none⟩, c, c) n m) 67 (0, 0))) b l (some ⟨r, 0, none⟩, c, c) n m { B.turned (B.term + 1) B.id 1 with votes := List.replicate c false } :=
      balOf (B' := { B.turned (B.term + 1) B.id 1 with votes := List.replicate c false }) (v' := (some ⟨r, 0, none⟩, c, c)) hb2 h2.log hrow h2.next h2.mat h2.nm
    have hr1 : r ∉ bL b l v n m := fun hx => h1.known r hx hr2
    have st3 : Step (bL b l v n m) (bL b l (some ⟨r, 0, none⟩, c, c) n m) s (s2.upd b (.cells ({ B.turned (B.term + 1) B.id 1 with votes := List.replicate c false }.cells l (some ⟨r, 0, none⟩, c, c) n m) 67 (0, 0))) := by
      refine ⟨((m1.mono (by simp [bL])).trans (m2.mono (by simp))).updLater (.inl (by simp [bL])), ?_⟩
      intro z hz
      simp only [bL, List.mem_cons, List.mem_append] at hz ⊢
      rcases hz with hz | hz | hz | hz
      · exact .inl (.inl hz)
      · exact .inl (.inr (.inl hz))
      · simp [Fw.blk] at hz; subst hz
        exact .inr (m1.none hr2 (by simpa using (ne_of_known hb1 hr2).symm))
      · exact .inl (.inr (.inr (.inr hz)))
    have hx : ({ B.turned (B.term + 1) B.id 1 with votes := List.replicate c false } : BS).votes[f]? = some false := by
      show (List.replicate c false)[f]? = _
      rw [List.getElem?_replicate, if_pos (by omega)]
    obtain ⟨g, hgv, hgm, hst⟩ := h3.setVote hx true
    have hgr : g = r := by simp at hgv; exact hgv.symm
    subst hgr
    have hw : B.stood = { ({ B.turned (B.term + 1) B.id 1 with votes := List.replicate c false } : BS) with votes := (List.replicate c false).set f true } := by unfold BS.stood; rw [hct, hidt]
    simp only [hidt]
    refine ⟨by omega, hst _ fun s4 h4 m4 => ?_⟩
    have st4 : Step (bL b l v n m) (bL b l (some ⟨g, 0, none⟩, c, c) n m) s s4 := st3.trans ⟨m4.mono (by simpa using hgm), fun x hx => .inl hx⟩
    have hto : B.timeout = (B.stood.counted.1, B.stood.asks ++ B.stood.counted.2) := by unfold BS.timeout; rw [if_neg hr]
    have hok4 : B.stood.Ok := ⟨⟨hok.small.base0, hok.small.base1, hok.small.log1⟩, hok.base, hok.size, hok.id, hok.com⟩
    have hv4 : B.stood.votes.length = B.stood.size.toNat := by rw [hw]; show (List.set _ _ _).length = B.size.toNat; simp [hct]
    have hlc4 : B.stood.commit ≤ B.stood.lst := hlc
    have hl4 : B.stood.log.length + 1 ≤ 1073741824 := hl1
    have h4 : Bal s4 b l (some ⟨g, 0, none⟩, c, c) n m B.stood := by rw [hw]; exact h4
    have hs4 : B.stood.size = B.size := rfl
    rw [hto]
    generalize B.stood = B4 at h4 hok4 hv4 hlc4 hl4 hs4
    refine W.call_of (c_othersAsk h4 hok4.small hok4.base ⟨by omega, by omega⟩) ?_
    rintro _ s5 ⟨t1, ps1, rfl, hms1, hps1, m5, hf1⟩
    refine ⟨((t1, ()), ()), rfl, ?_⟩
    have h5 := h4.new m5
    refine W.call_of (c_counted h5 hok4 hv4 hlc4 hl4) ?_
    rintro _ s6 ⟨t2, ps2, l', v', n', m', rfl, h6, st6, hms2, hps2, hf2⟩
    refine ⟨((t2, ()), ()), rfl, ?_⟩
    have c1 : t1.2.1 ≤ 1000 := by
      have g1 := hms1.row.len
      have g2 := congrArg List.length hps1
      have g3 := B4.others_len (fun to => B4.askM to) B4.size.toNat
      simp only [List.length_map] at g2
      have g4 : B4.asks.length = (B4.others (fun to => B4.askM to) B4.size.toNat).length := rfl
      omega
    have c2 : t2.2.1 ≤ 1000 := by
      have g1 := hms2.row.len
      have g2 := congrArg List.length hps2
      have g3 := counted_len B4 (by omega)
      simp only [List.length_map] at g2
      omega
    refine op_app h4 hms1 m5 hf1 h6 st6 hms2 hf2 c1 c2 ?_
    intro a kk c' s7 hp
    rw [hps1, hps2] at hp
    exact OpPost.start hp st4
  · intro J hJ
    simp [W.ld_at hb, W.br_iff]
    refine ⟨fun h2 => ?_, fun h2 => hJ _ _ ⟨rfl, rfl, h2⟩⟩
    have : B.timeout = (B, []) := by unfold BS.timeout; rw [if_pos h2]
    rw [this]; exact OpPost.noMsgs h (Step.refl _ _)
theorem c_Beat (h : Bal s b l v n m B) (hok : B.Ok) (hF : B.role = 2 → B.Fed) : DCalls Try.prog 27 #[bptr b] s (OpPost (B, if B.role = 2 then B.feeds else []) b (bL b l v n m) s) := by
  refine ok_Beat b _ s ?_
  unfold vc_Beat
  have hb := h.cell
  have hsz := hok.size
  simp [W.ld_at hb, W.br_iff]
  refine ⟨fun hr => ?_, fun hr => ?_⟩
  · rw [if_neg hr]; exact OpPost.noMsgs h (Step.refl _ _)
  · rw [if_pos hr]
    refine W.call_of (c_othersFeed h hok.small hok.base ⟨by omega, hsz.2⟩ (hF hr)) ?_
    rintro x s5 ⟨t1, ps1, rfl, q⟩
    refine ⟨((t1, ()), ()), rfl, ?_⟩
    exact op_msgs h (Step.refl _ _) ⟨t1, ps1, rfl, q⟩
def BS.proposed (B : BS) (at_ born : Int) (text : ByteArray) : BS := B.set (B.lst + 1) [⟨B.term, at_, born, text⟩]
def BS.propose (B : BS) (at_ born : Int) (text : ByteArray) : Int × BS × List Msg :=
  if B.role = 2 then ((B.proposed at_ born text).lst, (B.proposed at_ born text).settled.1, (B.proposed at_ born text).feeds ++ (B.proposed at_ born text).settled.2) else (0, B, [])
def ProPost (R : Int × BS × List Msg) (b : Nat) (L : List Nat) (s : PH) (x : Value) (s' : PH) : Prop := ∃ y, x = .tuple #[.int .i64 R.1, y] ∧ OpPost R.2 b L s y s'
theorem c_Propose (h : Bal s b l v n m B) (hok : B.Ok) (hL : B.role = 2 → B.Ldr) (hlc : B.commit ≤ B.lst) (hl1 : B.log.length + 1 ≤ 1073741824) (at_ born : Int) (text : ByteArray) :
    DCalls Try.prog 28 #[bptr b, .int .i64 at_, .int .i64 born, .string text] s (ProPost (B.propose at_ born text) b (bL b l v n m) s) := by
  refine ok_Propose b at_ born text _ s ?_
  unfold vc_Propose
  have hb := h.cell
  have hsz := hok.size
  have hs := hok.small
  obtain ⟨q1, q2, q3⟩ := id hs
  have hlst : B.lst = B.base + B.log.length := rfl
  have hbase := hok.base
  simp only [RP_join]
  refine W.join_gen (fun z s' => s' = s ∧ z = () ∧ B.role = 2) ?_ ?_
  · rintro _ s ⟨rfl, rfl, hr⟩
    have hl := hL hr
    have hwl : IntKind.i64.wrap (B.lst + 1) = B.lst + 1 := wrap_in (by omega) (by omega)
    refine W.callQ_of ((B.lst, ()), ()) (c_last h hs) rfl ?_
    simp [W.ld_at hb, -W.nw_iff, hwl]
    refine W.nw_of fun r s1 hr1 m1 k1 => ?_
    have hpr : B.propose at_ born text = ((B.proposed at_ born text).lst, (B.proposed at_ born text).settled.1, (B.proposed at_ born text).feeds ++ (B.proposed at_ born text).settled.2) := by unfold BS.propose; rw [if_pos hr]
    rw [hpr]
    refine W.call_of (c_set (h.new m1) hs (i := B.lst + 1) (ys := [⟨B.term, at_, born, text⟩]) (by omega) (Int.le_refl _) (row_one (E := entE) (x := ⟨B.term, at_, born, text⟩) k1 rfl).src0 rfl (by omega)) ?_
    rintro _ s2 ⟨l', rfl, h2, st2⟩
    refine ⟨(), rfl, ?_⟩
    have hl3 : (B.proposed at_ born text).log.length = B.log.length + 1 := by
      unfold BS.proposed BS.set
      simp only [List.length_append, List.length_take, List.length_cons, List.length_nil]; omega
    have hlst3 : (B.proposed at_ born text).lst = B.lst + 1 := by
      have e : (B.proposed at_ born text).lst = B.base + ((B.proposed at_ born text).log.length : Int) := rfl
      rw [e, hl3, hlst]; omega
    have hok3 : (B.proposed at_ born text).Ok := ⟨⟨q1, q2, by omega⟩, hbase, hsz, hok.id, hok.com⟩
    have hF3 : (B.proposed at_ born text).Fed := by
      refine ⟨hl.nlen, fun i nx hnx => ?_⟩
      have g := (hl.nr i nx hnx).2
      rw [hlst3]
      have e : (B.proposed at_ born text).base = B.base := rfl
      rw [e]; omega
    have hm3 : (B.proposed at_ born text).mat.length = (B.proposed at_ born text).size.toNat := hl.mlen
    have hlc3 : (B.proposed at_ born text).commit ≤ (B.proposed at_ born text).lst := by rw [hlst3]; show B.commit ≤ _; omega
    have st3 : Step (bL b l v n m) (bL b l' v n m) s s2 := Step.trans (L' := bL b l v n m) ⟨m1.mono (by simp), fun x hx => .inl hx⟩ st2
    have h2 : Bal s2 b l' v n m (B.proposed at_ born text) := h2
    have hsz3 : (B.proposed at_ born text).size = B.size := rfl
    generalize B.proposed at_ born text = B3 at h2 hok3 hF3 hm3 hlc3 hsz3
    refine W.call_of (c_last h2 hok3.small) ?_
    rintro _ s2 ⟨rfl, rfl⟩
    refine ⟨((B3.lst, ()), ()), rfl, ?_⟩
    refine W.call_of (c_othersFeed h2 hok3.small hok3.base ⟨by omega, by omega⟩ hF3) ?_
    rintro _ s6 ⟨t1, ps1, rfl, hms1, hps1, m6, hf1⟩
    refine ⟨((t1, ()), ()), rfl, ?_⟩
    have h6 := h2.new m6
    refine W.call_of (c_settle h6 hok3 hF3 hm3 hlc3) ?_
    rintro _ s7 ⟨t2, ps2, rfl, hms2, hps2, h7, m7, hf2⟩
    refine ⟨((t2, ()), ()), rfl, ?_⟩
    have c1 : t1.2.1 ≤ 1000 := by
      have g1 := hms1.row.len
      have g2 := congrArg List.length hps1
      have g3 := B3.others_len (fun to => B3.feedM to ((B3.next[to]?).getD 0)) B3.size.toNat
      simp only [List.length_map] at g2
      have g4 : B3.feeds.length = (B3.others (fun to => B3.feedM to ((B3.next[to]?).getD 0)) B3.size.toNat).length := rfl
      omega
    have c2 : t2.2.1 ≤ 1000 := by
      have g1 := hms2.row.len
      have g2 := congrArg List.length hps2
      have g3 := settled_len B3
      simp only [List.length_map] at g2
      omega
    refine op_app (R := B3.settled) h2 hms1 m6 hf1 h7 ⟨m7.mono (by simp [bL]), fun x hx => .inl hx⟩ hms2 (fun y hy => ⟨.inr (hf2 y hy), fun hx => h6.known y hx (hf2 y hy)⟩) c1 c2 ?_
    intro a kk c' s8 hp
    rw [hps1, hps2] at hp
    exact ⟨_, rfl, OpPost.start hp st3⟩
  · intro J hJ
    have no : B.role ≠ 2 → ProPost (B.propose at_ born text) b (bL b l v n m) s (.tuple #[.int .i64 0, .slice none 0 0]) s := by
      intro h2
      have : B.propose at_ born text = (0, B, []) := by unfold BS.propose; rw [if_neg h2]
      rw [this]; exact ⟨_, rfl, OpPost.noMsgs h (Step.refl _ _)⟩
    simp [W.ld_at hb, W.br_iff]
    exact ⟨fun h2 => no h2, fun h2 => hJ _ _ ⟨rfl, rfl, h2⟩⟩
end
end Go.Proofs.Ytfpbiecmobdnnaa
end
section
set_option linter.unusedVariables false
set_option linter.unusedSimpArgs false
set_option maxHeartbeats 1000000
namespace Go.Proofs.Ytfpbiecmobdnnaa
open Fw Go
attribute [-simp] Fw.W.ld_iff Fw.W.st_iff
theorem callV_of {g : FuncId} {args : Array Value} {r : Bool × List Shape} {k : MDen r.2 → W.T} {s : PH} {fn : Func} (hfn : Try.prog.funcs[g]? = some fn) (hb : fn.body.isSome = true) (hn : (fn.name == "runtime.NumGoroutine") = false) {Q : Value → PH → Prop}
    (h : DCalls Try.prog g args s Q) (hk : ∀ v s', Q v s' → ∃ x, mkRes r x = v ∧ k x s') : W.callV Try.prog (.func (.func g) #[] #[]) args r k s := by
  refine ⟨g, #[], #[], rfl, ⟨fn, hfn, hb, hn⟩, ?_⟩
  have : (#[] : Array Value) ++ args ++ #[] = args := by simp
  rw [this]; exact h.mono hk
section
variable {s : PH} {b : Nat} {l v n m : Tri} {B : BS}
theorem OnePost.op {B' : BS} {ms : List Msg} {x : Value} {s' : PH} (hk : ∀ x ∈ bL b l v n m, s x ≠ none) (h : OnePost B' ms b l v n m s x s') : OpPost (B', ms) b (bL b l v n m) s x s' := by
  obtain ⟨t, ps, rfl, hms, hps, hB, hm, hf⟩ := h
  exact ⟨t, ps, l, v, n, m, rfl, hB, ⟨hm.mono (by simp [bL]), fun x hx => .inl hx⟩, hms, hps, fun y hy => ⟨.inr (hf y hy), fun hx => hk y hx (hf y hy)⟩⟩
def BS.seen (B : BS) (M : Msg) : BS := if M.term > B.term then B.turned M.term (-1) 0 else B
def BS.does (B : BS) (M : Msg) : BS × List Msg :=
  if M.kind = 1 then B.asked M else if M.kind = 2 then B.voted M else if M.kind = 3 then B.fed M else if M.kind = 4 then B.heard M else B.given M
def BS.late (B : BS) (M : Msg) : List Msg := if M.kind = 1 then [B.msg 2 M.from_] else if M.kind = 3 ∨ M.kind = 5 then [B.toldM M.from_ false B.lst] else []
def BS.take (B : BS) (M : Msg) : BS × List Msg :=
  if M.strange B.id B.size = true then (B, []) else
  if M.term < (B.seen M).term then (B.seen M, (B.seen M).late M) else (B.seen M).does M
structure BS.Run (B : BS) : Prop where
  ok : B.Ok
  lc : B.commit ≤ B.lst
  vt : B.role = 1 → B.votes.length = B.size.toNat
  ld : B.role = 2 → B.Ldr
theorem BS.Run.seen {B : BS} (h : B.Run) (M : Msg) : (B.seen M).Run := by
  unfold BS.seen
  split
  · exact ⟨⟨⟨h.ok.small.base0, h.ok.small.base1, h.ok.small.log1⟩, h.ok.base, h.ok.size, h.ok.id, h.ok.com⟩, h.lc, fun e => absurd e (by show ¬ (0 : Int) = 1; omega), fun e => absurd e (by show ¬ (0 : Int) = 2; omega)⟩
  · exact h
theorem c_Take (h : Bal s b l v n m B) (hR : B.Run) (hl1 : B.log.length + 1 ≤ 1073741824) (M : Msg) (t : Tri) (hrow : rowE entE s 39 t.1 t.2.1 t.2.2 M.list) (hll : M.list.length ≤ 1000000) :
    DCalls Try.prog 25 #[bptr b, msgV M t] s (OpPost (B.take M) b (bL b l v n m) s) := by
  refine ok_Take b M.kind M.from_ M.to M.term M.index M.prev M.commit M.good t.1 t.2.1 t.2.2 M.snap _ s ?_
  unfold vc_Take
  simp only [RP_nw]
  refine W.nw_of fun r s1 hr m1 k1 => ?_
  have h1 := h.new m1
  have hb1 := h1.cell
  have hbr : b ≠ r := ne_of_known h.cell hr
  have st1 : Step (bL b l v n m) (bL b l v n m) s s1 := ⟨m1.mono (by simp), fun x hx => .inl hx⟩
  have hrow1 := hrow.mod m1 (by simp)
  simp only [RP_join]
  refine W.join_gen (fun z s' => z = ((Addr.mk r 0 none, ()), ()) ∧ M.strange B.id B.size = false ∧ Fw.Mod [] s1 s') ?_ ?_
  · rintro _ s2 ⟨rfl, hst, m2⟩
    have hst' := hst
    unfold Msg.strange at hst'
    simp only [Bool.or_eq_false_iff, decide_eq_false_iff_not] at hst'
    obtain ⟨f1, f2, f3, f4, f5, f6, f7, f8, f9, f10, ⟨f11, f12⟩, f13, f14⟩ := hst'
    have h2 := h1.new m2
    have hb2 := h2.cell
    have k2 := m2.at k1 (by simp)
    have hrow2 := hrow1.mod m2 (by simp)
    refine W.join_gen (fun z s' => z = ((Addr.mk r 0 none, ()), ()) ∧ Bal s' b l v n m (B.seen M) ∧ Step (bL b l v n m) (bL b l v n m) s s' ∧ s' r = some (.cells (msgCells M t).toArray 32 (0, 0)) ∧ rowE entE s' 39 t.1 t.2.1 t.2.2 M.list) ?_ ?_
    · rintro _ s3 ⟨rfl, h3, st3, k3, hrow3⟩
      have htk : B.take M = if M.term < (B.seen M).term then (B.seen M, (B.seen M).late M) else (B.seen M).does M := by unfold BS.take; rw [if_neg (by rw [hst]; simp)]
      rw [htk]
      have hR3 := hR.seen M
      have hsz : (B.seen M).size = B.size ∧ (B.seen M).log = B.log := by unfold BS.seen; split <;> exact ⟨rfl, rfl⟩
      rw [← hsz.2] at hl1
      rw [← hsz.1] at f4
      generalize B.seen M = B3 at h3 hR3 hl1 f4 ⊢
      have hb3 := h3.cell
      simp [W.ld_at hb3, W.ld_at k3, W.br_iff, -W.nw_iff]
      refine ⟨fun hlt => ?_, fun hge => ?_⟩
      · rw [if_pos hlt]
        unfold BS.late
        refine ⟨fun hk => ?_, fun hk => ?_⟩
        · rw [if_pos hk]
          refine W.call_of (c_msg h3 2 M.from_) ?_
          rintro _ s4 ⟨rfl, m4⟩
          refine ⟨((2, B3.id, M.from_, B3.term, 0, 0, 0, false, (none, 0, 0), ⟨#[]⟩, ()), ()), rfl, ?_⟩
          refine W.nw_of fun q s5 hq m5 k5 => ?_
          have h4 := h3.new m4
          have st4 : Step (bL b l v n m) (bL b l v n m) s s4 := st3.trans ⟨m4.mono (by simp), fun x hx => .inl hx⟩
          exact OpPost.start ((one_of (M := B3.msg 2 M.from_) h4 (Mod.refl _ _) (by rw [h4.cell]; simp) hq m5 k5 rfl).op h4.known) st4
        · rw [if_neg hk]
          refine W.join_gen (fun z s' => z = ((Addr.mk r 0 none, ()), (decide (M.kind = 3 ∨ M.kind = 5), ()), ()) ∧ s' = s3) ?_ ?_
          · rintro _ s3 ⟨rfl, rfl⟩
            simp only [W.br_iff, decide_eq_true_eq, decide_eq_false_iff_not]
            refine ⟨fun h35 => ?_, fun h35 => ?_⟩
            · rw [if_pos h35]
              simp [W.ld_at k3]
              refine W.callQ_of ((B3.lst, ()), ()) (c_last h3 hR3.ok.small) rfl ?_
              refine W.call_of (c_told h3 M.from_ false B3.lst) ?_
              intro x s6 hp
              obtain ⟨t6, ps, rfl, q⟩ := hp
              refine ⟨((t6, ()), ()), rfl, ?_⟩
              exact op_msgs h3 st3 ⟨t6, ps, rfl, q⟩
            · rw [if_neg h35]
              exact OpPost.noMsgs h3 st3
          · intro J hJ
            simp only [W.br_iff]
            refine ⟨fun h3' => hJ _ _ ⟨?_, rfl⟩, fun h3' => hJ _ _ ⟨?_, rfl⟩⟩
            · have : M.kind = 3 := by simpa using h3'
              simp [this]
            · have : ¬ M.kind = 3 := by simpa using h3'
              simp [this]; rw [Bool.eq_iff_iff]; simp
      · rw [if_neg (by omega)]
        refine W.nw_of fun q s4 hq m4 k4 => ?_
        have k3' := m4.at k3 (by simp)
        have hrq : r ≠ q := ne_of_known k3 hq
        have hsame : (s4.upd q (.cells #[.func (.func 47) #[] #[], .func (.func 48) #[] #[], .func (.func 49) #[] #[], .func (.func 50) #[] #[], .func (.func 51) #[] #[]] 89 (0, 0))) q = some (.cells #[.func (.func 47) #[] #[], .func (.func 48) #[] #[], .func (.func 49) #[] #[], .func (.func 50) #[] #[], .func (.func 51) #[] #[]] 89 (0, 0)) := PH.upd_same _ _ _
        simp [W.st_at k4]
        have m5 : Fw.Mod [] s3 (s4.upd q (.cells #[.func (.func 47) #[] #[], .func (.func 48) #[] #[], .func (.func 49) #[] #[], .func (.func 50) #[] #[], .func (.func 51) #[] #[]] 89 (0, 0))) := m4.updLater (.inr hq)
        generalize s4.upd q (.cells #[.func (.func 47) #[] #[], .func (.func 48) #[] #[], .func (.func 49) #[] #[], .func (.func 50) #[] #[], .func (.func 51) #[] #[]] 89 (0, 0)) = s5 at hsame m5 ⊢
        have k5 := m5.at k3 (by simp)
        have h5 := h3.new m5
        have hrow5 := hrow3.mod m5 (by simp)
        have st5 : Step (bL b l v n m) (bL b l v n m) s s5 := st3.trans ⟨m5.mono (by simp), fun x hx => .inl hx⟩
        have hFAR : FAR = 1099511627776 := rfl
        have hi1 : -1 ≤ M.index := by split at f9 <;> omega
        have hkind : M.kind = 1 ∨ M.kind = 2 ∨ M.kind = 3 ∨ M.kind = 4 ∨ M.kind = 5 := by omega
        unfold BS.does
        rcases hkind with hk | hk | hk | hk | hk
        · have hw : IntKind.i64.wrap (M.kind - 1) = 0 := by rw [hk]; kernel_rfl
          simp [W.ld_at k5, hw, W.ld_at hsame]
          rw [if_pos hk]
          refine callV_of Try.func47 rfl (by kernel_rfl) ((c_asked h5 hR3.ok M t).mono fun x s' hp => OnePost.op h5.known hp) ?_
          intro x s6 hp
          obtain ⟨t', ps, l', v', n', m', rfl, q⟩ := hp
          exact ⟨((t', ()), ()), rfl, OpPost.start ⟨t', ps, l', v', n', m', rfl, q⟩ st5⟩
        · have hw : IntKind.i64.wrap (M.kind - 1) = 1 := by rw [hk]; kernel_rfl
          simp [W.ld_at k5, hw, W.ld_at hsame]
          rw [if_neg (by omega), if_pos hk]
          refine callV_of Try.func48 rfl (by kernel_rfl) (c_voted h5 hR3.ok hR3.vt hR3.lc hl1 M t (by omega) (by omega)) ?_
          intro x s6 hp
          obtain ⟨t', ps, l', v', n', m', rfl, q⟩ := hp
          exact ⟨((t', ()), ()), rfl, OpPost.start ⟨t', ps, l', v', n', m', rfl, q⟩ st5⟩
        · have hw : IntKind.i64.wrap (M.kind - 1) = 2 := by rw [hk]; kernel_rfl
          simp [W.ld_at k5, hw, W.ld_at hsame]
          rw [if_neg (by omega), if_neg (by omega), if_pos hk]
          refine callV_of Try.func49 rfl (by kernel_rfl) (c_fed h5 hR3.ok hR3.lc M t hrow5 hll ⟨by simp [hk] at f9; omega, by omega⟩) ?_
          intro x s6 hp
          obtain ⟨t', ps, l', v', n', m', rfl, q⟩ := hp
          exact ⟨((t', ()), ()), rfl, OpPost.start ⟨t', ps, l', v', n', m', rfl, q⟩ st5⟩
        · have hw : IntKind.i64.wrap (M.kind - 1) = 3 := by rw [hk]; kernel_rfl
          simp [W.ld_at k5, hw, W.ld_at hsame]
          rw [if_neg (by omega), if_neg (by omega), if_neg (by omega), if_pos hk]
          refine callV_of Try.func50 rfl (by kernel_rfl) (c_heard h5 hR3.ok hR3.ld hR3.lc M t (by omega) (by omega) ⟨by omega, by omega⟩) ?_
          intro x s6 hp
          obtain ⟨t', ps, l', v', n', m', rfl, q⟩ := hp
          exact ⟨((t', ()), ()), rfl, OpPost.start ⟨t', ps, l', v', n', m', rfl, q⟩ st5⟩
        · have hw : IntKind.i64.wrap (M.kind - 1) = 4 := by rw [hk]; kernel_rfl
          simp [W.ld_at k5, hw, W.ld_at hsame]
          rw [if_neg (by omega), if_neg (by omega), if_neg (by omega), if_neg (by omega)]
          refine callV_of Try.func51 rfl (by kernel_rfl) (c_given h5 hR3.ok hR3.lc M t ⟨by omega, by omega⟩) ?_
          intro x s6 hp
          obtain ⟨t', ps, l', v', n', m', rfl, q⟩ := hp
          exact ⟨((t', ()), ()), rfl, OpPost.start ⟨t', ps, l', v', n', m', rfl, q⟩ st5⟩
    · intro J hJ
      simp [W.ld_at hb2, W.ld_at k2, W.br_iff]
      refine ⟨fun hlt => ?_, fun hge => ?_⟩
      · refine W.call_of (c_turn h2 M.term (-1) 0) ?_
        rintro _ s3 ⟨rfl, h3, m3⟩
        refine ⟨(), rfl, ?_⟩
        have : B.seen M = B.turned M.term (-1) 0 := by unfold BS.seen; rw [if_pos hlt]
        refine hJ _ _ ⟨rfl, by rw [this]; exact h3, ?_, m3.at k2 (by simpa using hbr.symm), ?_⟩
        · exact (st1.trans ⟨m2.mono (by simp), fun x hx => .inl hx⟩).trans ⟨m3.mono (by simp [bL]), fun x hx => .inl hx⟩
        · refine hrow2.mod m3 fun x hx hx' => ?_
          simp at hx'; subst hx'; exact row_ne2 hrow2 hb2 (by decide) hx
      · have : B.seen M = B := by unfold BS.seen; rw [if_neg (by omega)]
        refine hJ _ _ ⟨rfl, by rw [this]; exact h2, ?_, k2, hrow2⟩
        exact st1.trans ⟨m2.mono (by simp), fun x hx => .inl hx⟩
  · intro J hJ
    simp [W.ld_at k1, W.br_iff]
    refine W.call_of (c_strange h1 M t) ?_
    rintro _ s2 ⟨rfl, m2⟩
    refine ⟨((M.strange B.id B.size, ()), ()), rfl, ?_⟩
    simp only [W.br_iff]
    refine ⟨fun hs => ?_, fun hs => hJ _ _ ⟨rfl, hs, m2⟩⟩
    have hs : M.strange B.id B.size = true := hs
    have : B.take M = (B, []) := by unfold BS.take; rw [if_pos hs]
    rw [this]; exact OpPost.noMsgs (h1.new m2) (st1.trans ⟨m2.mono (by simp), fun x hx => .inl hx⟩)
end
end Go.Proofs.Ytfpbiecmobdnnaa
end
section
set_option linter.unusedVariables false
set_option maxHeartbeats 1000000
namespace Go.Proofs.Ytfpbiecmobdnnaa
open Fw Fw.W Go
/-- lintel/lintellaw09.copied -/
def vc_copied {W : Type} (π : Prims W) (mk mf mt mm mi mp mc : Int) (mg : Bool) (la : Option Addr) (ln lc : Nat) (ms : ByteArray) : W :=
  π.nw (Go.Obj.cells #[(Go.Value.int (IntKind.i64) (mk)), (Go.Value.int (IntKind.i64) (mf)), (Go.Value.int (IntKind.i64) (mt)), (Go.Value.int (IntKind.i64) (mm)), (Go.Value.int (IntKind.i64) (mi)), (Go.Value.int (IntKind.i64) (mp)), (Go.Value.int (IntKind.i64) (mc)), (Go.Value.bool (mg)), (Go.Value.slice (la) (ln) (lc)), (Go.Value.string (ms))] (32 : Nat) ((0 : Nat), (0 : Nat))) fun r0 =>
  π.nw (Go.Obj.cells #[(Go.Value.int (IntKind.i64) ((0 : Int))), (Go.Value.int (IntKind.i64) ((0 : Int))), (Go.Value.int (IntKind.i64) ((0 : Int))), (Go.Value.int (IntKind.i64) ((0 : Int))), (Go.Value.int (IntKind.i64) ((0 : Int))), (Go.Value.int (IntKind.i64) ((0 : Int))), (Go.Value.int (IntKind.i64) ((0 : Int))), (Go.Value.bool (false)), (Go.Value.slice (none) ((0 : Nat)) ((0 : Nat))), (Go.Value.string (ByteArray.mk #[]))] (32 : Nat) ((0 : Nat), (0 : Nat))) fun r1 =>
  π.nw (Go.Obj.cells #[] (39 : Nat) ((0 : Nat), (0 : Nat))) fun r2 =>
  π.ld [.slice] ((Addr.mk r0 (0 : Nat) none).add (8 : Nat)) fun (((a3 : Option Addr), (n4 : Nat), (c5 : Nat)), _) =>
  π.app (39 : Nat) (4 : Nat) (40 : Nat) [(Go.Value.int (IntKind.i64) ((0 : Int))), (Go.Value.int (IntKind.i64) ((0 : Int))), (Go.Value.int (IntKind.i64) ((0 : Int))), (Go.Value.string (ByteArray.mk #[]))] (some (Addr.mk r2 (0 : Nat) none)) ((0 : Nat)) ((0 : Nat)) (Src.sl a3 n4) fun a6 n7 c8 =>
  π.st ((Addr.mk r0 (0 : Nat) none).add (8 : Nat)) [(Go.Value.slice (a6) (n7) (c8))] <|
  π.ld [.int .i64, .int .i64, .int .i64, .int .i64, .int .i64, .int .i64, .int .i64, .bool, .slice, .str] (Addr.mk r0 (0 : Nat) none) fun ((x9 : Int), (x10 : Int), (x11 : Int), (x12 : Int), (x13 : Int), (x14 : Int), (x15 : Int), (b16 : Bool), ((a17 : Option Addr), (n18 : Nat), (c19 : Nat)), (t20 : ByteArray), _) =>
  π.st (Addr.mk r1 (0 : Nat) none) [(Go.Value.int (IntKind.i64) (x9)), (Go.Value.int (IntKind.i64) (x10)), (Go.Value.int (IntKind.i64) (x11)), (Go.Value.int (IntKind.i64) (x12)), (Go.Value.int (IntKind.i64) (x13)), (Go.Value.int (IntKind.i64) (x14)), (Go.Value.int (IntKind.i64) (x15)), (Go.Value.bool (b16)), (Go.Value.slice (a17) (n18) (c19)), (Go.Value.string (t20))] <|
  π.ld [.int .i64, .int .i64, .int .i64, .int .i64, .int .i64, .int .i64, .int .i64, .bool, .slice, .str] (Addr.mk r1 (0 : Nat) none) fun ((x21 : Int), (x22 : Int), (x23 : Int), (x24 : Int), (x25 : Int), (x26 : Int), (x27 : Int), (b28 : Bool), ((a29 : Option Addr), (n30 : Nat), (c31 : Nat)), (t32 : ByteArray), _) =>
  π.ret (Go.Value.agg #[(Go.Value.int (IntKind.i64) (x21)), (Go.Value.int (IntKind.i64) (x22)), (Go.Value.int (IntKind.i64) (x23)), (Go.Value.int (IntKind.i64) (x24)), (Go.Value.int (IntKind.i64) (x25)), (Go.Value.int (IntKind.i64) (x26)), (Go.Value.int (IntKind.i64) (x27)), (Go.Value.bool (b28)), (Go.Value.slice (a29) (n30) (c31)), (Go.Value.string (t32))])
def ann_copied : Ann := { draws := [], join := [], loop := [] }
set_option maxRecDepth 100000 in
theorem eq_copied {W : Type} (π : Prims W) (mk mf mt mm mi mp mc : Int) (mg : Bool) (la : Option Addr) (ln lc : Nat) (ms : ByteArray) : bodyW π Try.prog ann_copied (mkFr (maskA [] [.v (.agg #[.int .i64 mk, .int .i64 mf, .int .i64 mt, .int .i64 mm, .int .i64 mi, .int .i64 mp, .int .i64 mc, .bool mg, .slice la ln lc, .string ms])] 0) 9) Try.f29 (bodyOf Try.f29) (mkFr (List.map some [.v (.agg #[.int .i64 mk, .int .i64 mf, .int .i64 mt, .int .i64 mm, .int .i64 mi, .int .i64 mp, .int .i64 mc, .bool mg, .slice la ln lc, .string ms])]) 9) = vc_copied π mk mf mt mm mi mp mc mg la ln lc ms := by kernel_rfl
theorem ok_copied (mk mf mt mm mi mp mc : Int) (mg : Bool) (la : Option Addr) (ln lc : Nat) (ms : ByteArray) (R : Value → PH → Prop) (s : PH) (h : vc_copied (RP Try.prog R) mk mf mt mm mi mp mc mg la ln lc ms s) : DCalls Try.prog 29 (List.map AV.val [.v (.agg #[.int .i64 mk, .int .i64 mf, .int .i64 mt, .int .i64 mm, .int .i64 mi, .int .i64 mp, .int .i64 mc, .bool mg, .slice la ln lc, .string ms])]).toArray s R :=
  calls_vc (c := bodyOf Try.f29) (ann := ann_copied) (by kernel_rfl) Try.func29 rfl (by kernel_rfl) [.v (.agg #[.int .i64 mk, .int .i64 mf, .int .i64 mt, .int .i64 mm, .int .i64 mi, .int .i64 mp, .int .i64 mc, .bool mg, .slice la ln lc, .string ms])] [] (by rw [Try.ntmps29]; exact Nat.le_of_ble_eq_true rfl) (by rw [show Try.f29.ntmps = 9 from Try.ntmps29, eq_copied]; exact h)
/-- lintel/lintellaw09.did -/
def vc_did {W : Type} (π : Prims W) (b : Nat) (ok oa ob : Int) (ot : ByteArray) (mk mf mt mm mi mp mc : Int) (mg : Bool) (la : Option Addr) (ln lc : Nat) (ms : ByteArray) : W :=
  π.nw (Go.Obj.cells #[(Go.Value.int (IntKind.i64) (ok)), (Go.Value.int (IntKind.i64) (oa)), (Go.Value.int (IntKind.i64) (ob)), (Go.Value.string (ot)), (Go.Value.int (IntKind.i64) (mk)), (Go.Value.int (IntKind.i64) (mf)), (Go.Value.int (IntKind.i64) (mt)), (Go.Value.int (IntKind.i64) (mm)), (Go.Value.int (IntKind.i64) (mi)), (Go.Value.int (IntKind.i64) (mp)), (Go.Value.int (IntKind.i64) (mc)), (Go.Value.bool (mg)), (Go.Value.slice (la) (ln) (lc)), (Go.Value.string (ms))] (34 : Nat) ((0 : Nat), (0 : Nat))) fun r0 =>
  π.ld [.int .i64] ((Addr.mk r0 (0 : Nat) none).add (0 : Nat)) fun ((x1 : Int), _) =>
  π.ite (x1 == (1 : Int)) (
    π.call (24 : Nat) #[(Go.Value.pointer (some (Addr.mk b (0 : Nat) none)))] (false, [(false, [.slice])]) fun ((((a2 : Option Addr), (n3 : Nat), (c4 : Nat)), _), _) =>
    π.ret (Go.Value.tuple #[(Go.Value.slice (a2) (n3) (c4)), (Go.Value.int (IntKind.i64) ((0 : Int)))])
  ) (
    π.ite (x1 == (2 : Int)) (
      π.call (27 : Nat) #[(Go.Value.pointer (some (Addr.mk b (0 : Nat) none)))] (false, [(false, [.slice])]) fun ((((a5 : Option Addr), (n6 : Nat), (c7 : Nat)), _), _) =>
      π.ret (Go.Value.tuple #[(Go.Value.slice (a5) (n6) (c7)), (Go.Value.int (IntKind.i64) ((0 : Int)))])
    ) (
      π.ite (x1 == (3 : Int)) (
        π.ld [.int .i64] ((Addr.mk r0 (0 : Nat) none).add (1 : Nat)) fun ((x8 : Int), _) =>
        π.ld [.int .i64] ((Addr.mk r0 (0 : Nat) none).add (2 : Nat)) fun ((x9 : Int), _) =>
        π.ld [.str] ((Addr.mk r0 (0 : Nat) none).add (3 : Nat)) fun ((t10 : ByteArray), _) =>
        π.call (28 : Nat) #[(Go.Value.pointer (some (Addr.mk b (0 : Nat) none))), (Go.Value.int (IntKind.i64) (x8)), (Go.Value.int (IntKind.i64) (x9)), (Go.Value.string (t10))] (true, [(false, [.int .i64]), (false, [.slice])]) fun (((x11 : Int), _), (((a12 : Option Addr), (n13 : Nat), (c14 : Nat)), _), _) =>
        π.ret (Go.Value.tuple #[(Go.Value.slice (a12) (n13) (c14)), (Go.Value.int (IntKind.i64) (x11))])
      ) (
        π.ite (x1 == (4 : Int)) (
          π.ld [.int .i64, .int .i64, .int .i64, .int .i64, .int .i64, .int .i64, .int .i64, .bool, .slice, .str] ((Addr.mk r0 (0 : Nat) none).add (4 : Nat)) fun ((x15 : Int), (x16 : Int), (x17 : Int), (x18 : Int), (x19 : Int), (x20 : Int), (x21 : Int), (b22 : Bool), ((a23 : Option Addr), (n24 : Nat), (c25 : Nat)), (t26 : ByteArray), _) =>
          π.call (29 : Nat) #[(Go.Value.agg #[(Go.Value.int (IntKind.i64) (x15)), (Go.Value.int (IntKind.i64) (x16)), (Go.Value.int (IntKind.i64) (x17)), (Go.Value.int (IntKind.i64) (x18)), (Go.Value.int (IntKind.i64) (x19)), (Go.Value.int (IntKind.i64) (x20)), (Go.Value.int (IntKind.i64) (x21)), (Go.Value.bool (b22)), (Go.Value.slice (a23) (n24) (c25)), (Go.Value.string (t26))])] (false, [(true, [.int .i64, .int .i64, .int .i64, .int .i64, .int .i64, .int .i64, .int .i64, .bool, .slice, .str])]) fun (((x27 : Int), (x28 : Int), (x29 : Int), (x30 : Int), (x31 : Int), (x32 : Int), (x33 : Int), (b34 : Bool), ((a35 : Option Addr), (n36 : Nat), (c37 : Nat)), (t38 : ByteArray), _), _) =>
          π.call (25 : Nat) #[(Go.Value.pointer (some (Addr.mk b (0 : Nat) none))), (Go.Value.agg #[(Go.Value.int (IntKind.i64) (x27)), (Go.Value.int (IntKind.i64) (x28)), (Go.Value.int (IntKind.i64) (x29)), (Go.Value.int (IntKind.i64) (x30)), (Go.Value.int (IntKind.i64) (x31)), (Go.Value.int (IntKind.i64) (x32)), (Go.Value.int (IntKind.i64) (x33)), (Go.Value.bool (b34)), (Go.Value.slice (a35) (n36) (c37)), (Go.Value.string (t38))])] (false, [(false, [.slice])]) fun ((((a39 : Option Addr), (n40 : Nat), (c41 : Nat)), _), _) =>
          π.ret (Go.Value.tuple #[(Go.Value.slice (a39) (n40) (c41)), (Go.Value.int (IntKind.i64) ((0 : Int)))])
        ) (
          π.ite (x1 == (5 : Int)) (
            π.ld [.int .i64] ((Addr.mk r0 (0 : Nat) none).add (1 : Nat)) fun ((x42 : Int), _) =>
            π.ld [.str] ((Addr.mk r0 (0 : Nat) none).add (3 : Nat)) fun ((t43 : ByteArray), _) =>
            π.call (30 : Nat) #[(Go.Value.pointer (some (Addr.mk b (0 : Nat) none))), (Go.Value.int (IntKind.i64) (x42)), (Go.Value.string (t43))] (false, [(false, [.bool])]) fun (((b44 : Bool), _), _) =>
            π.ite (b44) (
              π.ret (Go.Value.tuple #[(Go.Value.slice (none) ((0 : Nat)) ((0 : Nat))), (Go.Value.int (IntKind.i64) ((1 : Int)))])
            ) (
              π.ret (Go.Value.tuple #[(Go.Value.slice (none) ((0 : Nat)) ((0 : Nat))), (Go.Value.int (IntKind.i64) ((0 : Int)))])
            )
          ) (
            π.ret (Go.Value.tuple #[(Go.Value.slice (none) ((0 : Nat)) ((0 : Nat))), (Go.Value.int (IntKind.i64) ((0 : Int)))])
          )
        )
      )
    )
  )
def ann_did : Ann := { draws := [], join := [], loop := [] }
set_option maxRecDepth 100000 in
theorem eq_did {W : Type} (π : Prims W) (b : Nat) (ok oa ob : Int) (ot : ByteArray) (mk mf mt mm mi mp mc : Int) (mg : Bool) (la : Option Addr) (ln lc : Nat) (ms : ByteArray) : bodyW π Try.prog ann_did (mkFr (maskA [] [.v (.pointer (some ⟨b, 0, none⟩)), .v (.agg #[.int .i64 ok, .int .i64 oa, .int .i64 ob, .string ot, .int .i64 mk, .int .i64 mf, .int .i64 mt, .int .i64 mm, .int .i64 mi, .int .i64 mp, .int .i64 mc, .bool mg, .slice la ln lc, .string ms])] 0) 48) Try.f12 (bodyOf Try.f12) (mkFr (List.map some [.v (.pointer (some ⟨b, 0, none⟩)), .v (.agg #[.int .i64 ok, .int .i64 oa, .int .i64 ob, .string ot, .int .i64 mk, .int .i64 mf, .int .i64 mt, .int .i64 mm, .int .i64 mi, .int .i64 mp, .int .i64 mc, .bool mg, .slice la ln lc, .string ms])]) 48) = vc_did π b ok oa ob ot mk mf mt mm mi mp mc mg la ln lc ms := by kernel_rfl
theorem ok_did (b : Nat) (ok oa ob : Int) (ot : ByteArray) (mk mf mt mm mi mp mc : Int) (mg : Bool) (la : Option Addr) (ln lc : Nat) (ms : ByteArray) (R : Value → PH → Prop) (s : PH) (h : vc_did (RP Try.prog R) b ok oa ob ot mk mf mt mm mi mp mc mg la ln lc ms s) : DCalls Try.prog 12 (List.map AV.val [.v (.pointer (some ⟨b, 0, none⟩)), .v (.agg #[.int .i64 ok, .int .i64 oa, .int .i64 ob, .string ot, .int .i64 mk, .int .i64 mf, .int .i64 mt, .int .i64 mm, .int .i64 mi, .int .i64 mp, .int .i64 mc, .bool mg, .slice la ln lc, .string ms])]).toArray s R :=
  calls_vc (c := bodyOf Try.f12) (ann := ann_did) (by kernel_rfl) Try.func12 rfl (by kernel_rfl) [.v (.pointer (some ⟨b, 0, none⟩)), .v (.agg #[.int .i64 ok, .int .i64 oa, .int .i64 ob, .string ot, .int .i64 mk, .int .i64 mf, .int .i64 mt, .int .i64 mm, .int .i64 mi, .int .i64 mp, .int .i64 mc, .bool mg, .slice la ln lc, .string ms])] [] (by rw [Try.ntmps12]; exact Nat.le_of_ble_eq_true rfl) (by rw [show Try.f12.ntmps = 48 from Try.ntmps12, eq_did]; exact h)
/-- lintel/lintellaw09.awake -/
def vc_awake {W : Type} (π : Prims W) : W :=
  π.call (7 : Nat) #[(Go.Value.int (IntKind.i64) ((0 : Int))), (Go.Value.int (IntKind.i64) ((3 : Int)))] (true, [(false, [.ptr]), (false, [.int .i64])]) fun ((p0, _), ((x1 : Int), _), _) =>
  π.call (24 : Nat) #[(Go.Value.pointer (p0))] (false, [(false, [.slice])]) fun ((((a2 : Option Addr), (n3 : Nat), (c4 : Nat)), _), _) =>
  π.call (25 : Nat) #[(Go.Value.pointer (p0)), (Go.Value.agg #[(Go.Value.int (IntKind.i64) ((2 : Int))), (Go.Value.int (IntKind.i64) ((1 : Int))), (Go.Value.int (IntKind.i64) ((0 : Int))), (Go.Value.int (IntKind.i64) ((1 : Int))), (Go.Value.int (IntKind.i64) ((0 : Int))), (Go.Value.int (IntKind.i64) ((0 : Int))), (Go.Value.int (IntKind.i64) ((0 : Int))), (Go.Value.bool (true)), (Go.Value.slice (none) ((0 : Nat)) ((0 : Nat))), (Go.Value.string (ByteArray.mk #[]))])] (false, [(false, [.slice])]) fun ((((a5 : Option Addr), (n6 : Nat), (c7 : Nat)), _), _) =>
  π.call (25 : Nat) #[(Go.Value.pointer (p0)), (Go.Value.agg #[(Go.Value.int (IntKind.i64) ((4 : Int))), (Go.Value.int (IntKind.i64) ((1 : Int))), (Go.Value.int (IntKind.i64) ((0 : Int))), (Go.Value.int (IntKind.i64) ((1 : Int))), (Go.Value.int (IntKind.i64) ((1 : Int))), (Go.Value.int (IntKind.i64) ((0 : Int))), (Go.Value.int (IntKind.i64) ((0 : Int))), (Go.Value.bool (true)), (Go.Value.slice (none) ((0 : Nat)) ((0 : Nat))), (Go.Value.string (ByteArray.mk #[]))])] (false, [(false, [.slice])]) fun ((((a8 : Option Addr), (n9 : Nat), (c10 : Nat)), _), _) =>
  π.call (10 : Nat) #[(Go.Value.pointer (p0))] (false, [(true, [.int .i64, .int .i64, .int .i64, .int .i64, .int .i64, .int .i64, .int .i64])]) fun (((x11 : Int), (x12 : Int), (x13 : Int), (x14 : Int), (x15 : Int), (x16 : Int), (x17 : Int), _), _) =>
  π.nw (Go.Obj.cells #[(Go.Value.int (IntKind.i64) ((0 : Int))), (Go.Value.int (IntKind.i64) ((0 : Int))), (Go.Value.int (IntKind.i64) ((0 : Int))), (Go.Value.int (IntKind.i64) ((0 : Int))), (Go.Value.int (IntKind.i64) ((0 : Int))), (Go.Value.int (IntKind.i64) ((0 : Int))), (Go.Value.int (IntKind.i64) ((0 : Int)))] (36 : Nat) ((0 : Nat), (0 : Nat))) fun r18 =>
  π.st (Addr.mk r18 (0 : Nat) none) [(Go.Value.int (IntKind.i64) (x11)), (Go.Value.int (IntKind.i64) (x12)), (Go.Value.int (IntKind.i64) (x13)), (Go.Value.int (IntKind.i64) (x14)), (Go.Value.int (IntKind.i64) (x15)), (Go.Value.int (IntKind.i64) (x16)), (Go.Value.int (IntKind.i64) (x17))] <|
  π.ite (x1 == (0 : Int)) (
    π.ite ((↑n3 : Int) == (2 : Int)) (
      π.guard ((0 : Int) ≤ (1 : Int) ∧ (1 : Int) < (↑n3 : Int)) <|
      π.unSome (a2) fun p19 =>
      π.ld [.int .i64] ((p19.add (10 : Nat)).add (0 : Nat)) fun ((x20 : Int), _) =>
      π.ite (x20 == (1 : Int)) (
        π.guard ((0 : Int) ≤ (1 : Int) ∧ (1 : Int) < (↑n3 : Int)) <|
        π.unSome (a2) fun p21 =>
        π.ld [.int .i64] ((p21.add (10 : Nat)).add (2 : Nat)) fun ((x22 : Int), _) =>
        π.ite (x22 == (2 : Int)) (
          π.ite ((↑n6 : Int) == (2 : Int)) (
            π.guard ((0 : Int) ≤ (0 : Int) ∧ (0 : Int) < (↑n6 : Int)) <|
            π.unSome (a5) fun p23 =>
            π.ld [.slice] ((p23.add (0 : Nat)).add (8 : Nat)) fun (((a24 : Option Addr), (n25 : Nat), (c26 : Nat)), _) =>
            π.ite ((↑n25 : Int) == (1 : Int)) (
              π.ite ((↑n9 : Int) == (2 : Int)) (
                π.guard ((0 : Int) ≤ (0 : Int) ∧ (0 : Int) < (↑n9 : Int)) <|
                π.unSome (a8) fun p27 =>
                π.ld [.int .i64] ((p27.add (0 : Nat)).add (6 : Nat)) fun ((x28 : Int), _) =>
                π.ite (x28 == (1 : Int)) (
                  π.ld [.int .i64] ((Addr.mk r18 (0 : Nat) none).add (2 : Nat)) fun ((x29 : Int), _) =>
                  π.ite (x29 == (2 : Int)) (
                    π.ld [.int .i64] ((Addr.mk r18 (0 : Nat) none).add (6 : Nat)) fun ((x30 : Int), _) =>
                    π.ite (x30 == (1 : Int)) (
                      π.ret (Go.Value.bool (true))
                    ) (
                      π.ret (Go.Value.bool (false))
                    )
                  ) (
                    π.ret (Go.Value.bool (false))
                  )
                ) (
                  π.ret (Go.Value.bool (false))
                )
              ) (
                π.ret (Go.Value.bool (false))
              )
            ) (
              π.ret (Go.Value.bool (false))
            )
          ) (
            π.ret (Go.Value.bool (false))
          )
        ) (
          π.ret (Go.Value.bool (false))
        )
      ) (
        π.ret (Go.Value.bool (false))
      )
    ) (
      π.ret (Go.Value.bool (false))
    )
  ) (
    π.ret (Go.Value.bool (false))
  )
def ann_awake : Ann := { draws := [], join := [], loop := [] }
set_option maxRecDepth 100000 in
theorem eq_awake {W : Type} (π : Prims W) : bodyW π Try.prog ann_awake (mkFr (maskA [] [] 0) 81) Try.f8 (bodyOf Try.f8) (mkFr (List.map some []) 81) = vc_awake π := by kernel_rfl
theorem ok_awake (R : Value → PH → Prop) (s : PH) (h : vc_awake (RP Try.prog R) s) : DCalls Try.prog 8 (List.map AV.val []).toArray s R :=
  calls_vc (c := bodyOf Try.f8) (ann := ann_awake) (by kernel_rfl) Try.func8 rfl (by kernel_rfl) [] [] (by rw [Try.ntmps8]; exact Nat.le_of_ble_eq_true rfl) (by rw [show Try.f8.ntmps = 81 from Try.ntmps8, eq_awake]; exact h)
/-- lintel/lintellaw09.great -/
def vc_great {W : Type} (π : Prims W) (a : Option Addr) (an ac : Nat) : W :=
  π.loop [(false, [.int .i64]), (false, [.slice]), (false, [.int .i64]), (false, [.int .i64])] (((0 : Int), ()), ((a, an, ac), ()), ((↑an : Int), ()), ((0 : Int), ()), ()) fun (((x1 : Int), _), (((a2 : Option Addr), (n3 : Nat), (c4 : Nat)), _), ((x5 : Int), _), ((x6 : Int), _), _) again0 =>
    π.ite (decide (x6 < x5)) (
      π.guard ((0 : Int) ≤ x6 ∧ x6 < (↑n3 : Int)) <|
      π.unSome (a2) fun p7 =>
      π.ld [.int .i64, .int .i64, .int .i64, .str, .int .i64, .int .i64, .int .i64, .int .i64, .int .i64, .int .i64, .int .i64, .bool, .slice, .str] (p7.add (x6.toNat * (14 : Nat))) fun ((x8 : Int), (x9 : Int), (x10 : Int), (t11 : ByteArray), (x12 : Int), (x13 : Int), (x14 : Int), (x15 : Int), (x16 : Int), (x17 : Int), (x18 : Int), (b19 : Bool), ((a20 : Option Addr), (n21 : Nat), (c22 : Nat)), (t23 : ByteArray), _) =>
      π.nw (Go.Obj.cells #[(Go.Value.int (IntKind.i64) ((0 : Int))), (Go.Value.int (IntKind.i64) ((0 : Int))), (Go.Value.int (IntKind.i64) ((0 : Int))), (Go.Value.string (ByteArray.mk #[])), (Go.Value.int (IntKind.i64) ((0 : Int))), (Go.Value.int (IntKind.i64) ((0 : Int))), (Go.Value.int (IntKind.i64) ((0 : Int))), (Go.Value.int (IntKind.i64) ((0 : Int))), (Go.Value.int (IntKind.i64) ((0 : Int))), (Go.Value.int (IntKind.i64) ((0 : Int))), (Go.Value.int (IntKind.i64) ((0 : Int))), (Go.Value.bool (false)), (Go.Value.slice (none) ((0 : Nat)) ((0 : Nat))), (Go.Value.string (ByteArray.mk #[]))] (34 : Nat) ((0 : Nat), (0 : Nat))) fun r24 =>
      π.st (Addr.mk r24 (0 : Nat) none) [(Go.Value.int (IntKind.i64) (x8)), (Go.Value.int (IntKind.i64) (x9)), (Go.Value.int (IntKind.i64) (x10)), (Go.Value.string (t11)), (Go.Value.int (IntKind.i64) (x12)), (Go.Value.int (IntKind.i64) (x13)), (Go.Value.int (IntKind.i64) (x14)), (Go.Value.int (IntKind.i64) (x15)), (Go.Value.int (IntKind.i64) (x16)), (Go.Value.int (IntKind.i64) (x17)), (Go.Value.int (IntKind.i64) (x18)), (Go.Value.bool (b19)), (Go.Value.slice (a20) (n21) (c22)), (Go.Value.string (t23))] <|
      π.ld [.str] ((Addr.mk r24 (0 : Nat) none).add (3 : Nat)) fun ((t25 : ByteArray), _) =>
      π.ld [.slice] (((Addr.mk r24 (0 : Nat) none).add (4 : Nat)).add (8 : Nat)) fun (((a26 : Option Addr), (n27 : Nat), (c28 : Nat)), _) =>
      π.ld [.str] (((Addr.mk r24 (0 : Nat) none).add (4 : Nat)).add (9 : Nat)) fun ((t29 : ByteArray), _) =>
      π.ite (decide (IntKind.i64.wrap (x1 + IntKind.i64.wrap (IntKind.i64.wrap (IntKind.i64.wrap ((1 : Int) + (↑t25.size : Int)) + (↑n27 : Int)) + (↑t29.size : Int))) > (16384 : Int))) (
        π.ret (Go.Value.bool (true))
      ) (
        again0 ((IntKind.i64.wrap (x1 + IntKind.i64.wrap (IntKind.i64.wrap (IntKind.i64.wrap ((1 : Int) + (↑t25.size : Int)) + (↑n27 : Int)) + (↑t29.size : Int))), ()), ((a2, n3, c4), ()), (x5, ()), (IntKind.i64.wrap (x6 + (1 : Int)), ()), ())
      )
    ) (
      π.ret (Go.Value.bool (decide ((↑an : Int) > (200 : Int))))
    )
def ann_great : Ann := { draws := [], join := [], loop := [(3, [(3, 3), (6, 22), (7, 3), (8, 3)])] }
set_option maxRecDepth 100000 in
theorem eq_great {W : Type} (π : Prims W) (a : Option Addr) (an ac : Nat) : bodyW π Try.prog ann_great (mkFr (maskA [] [.v (.slice a an ac)] 0) 34) Try.f9 (bodyOf Try.f9) (mkFr (List.map some [.v (.slice a an ac)]) 34) = vc_great π a an ac := by kernel_rfl
theorem ok_great (a : Option Addr) (an ac : Nat) (R : Value → PH → Prop) (s : PH) (h : vc_great (RP Try.prog R) a an ac s) : DCalls Try.prog 9 (List.map AV.val [.v (.slice a an ac)]).toArray s R :=
  calls_vc (c := bodyOf Try.f9) (ann := ann_great) (by kernel_rfl) Try.func9 rfl (by kernel_rfl) [.v (.slice a an ac)] [] (by rw [Try.ntmps9]; exact Nat.le_of_ble_eq_true rfl) (by rw [show Try.f9.ntmps = 34 from Try.ntmps9, eq_great]; exact h)
end Go.Proofs.Ytfpbiecmobdnnaa
end
section
set_option linter.unusedVariables false
set_option linter.unusedSimpArgs false
set_option maxHeartbeats 1000000
set_option maxRecDepth 100000
namespace Go.Proofs.Ytfpbiecmobdnnaa
open Fw Go
attribute [-simp] Fw.W.ld_iff Fw.W.st_iff
def rdEnt : Rd Ent := (Rd.pair (Rd.int .i64) (Rd.pair (Rd.int .i64) (Rd.pair (Rd.int .i64) (Rd.pair Rd.str Rd.unit)))).map fun x => ⟨x.1, x.2.1, x.2.2.1, x.2.2.2.1⟩
theorem opens39 : Opens Try.prog 39 rdEnt :=
  opens_map _ (opens_struct (.cons rfl (opens_int Try.underlying3 (by kernel_rfl)) (.cons rfl (opens_int Try.underlying3 (by kernel_rfl)) (.cons rfl (opens_int Try.underlying3 (by kernel_rfl))
    (.cons rfl (opens_str Try.underlying9 (by kernel_rfl)) (.nil _))))) Try.underlying39 (by kernel_rfl))
theorem rdEnt_is {s : PH} {cs : List Value} {e : Ent} (h : rdEnt.is s cs e) : cs = entE.f e := by
  obtain ⟨x, rfl, c1, c2, rfl, ⟨rfl, h1⟩, d1, d2, rfl, ⟨rfl, h2⟩, e1, e2, rfl, ⟨rfl, h3⟩, f1, f2, rfl, ⟨rfl, h4⟩, rfl⟩ := h
  first | done | rfl
theorem View.elems {s : PH} {a : Option Addr} {n c : Nat} {xs : List Ent} (h : Fw.elems rdEnt s a n xs) (hc : n ≤ c) : View s a n c xs :=
  ⟨h.1, hc, fun j x hx => by obtain ⟨ad, cs, h1, h2, h3⟩ := h.2 j x hx; rw [rdEnt_is h2] at h3; exact ⟨ad, h1, h3⟩⟩
def rdMsgF : Rd (Int × Int × Int × Int × Int × Int × Int × Bool × List Ent × ByteArray × Unit) :=
  Rd.pair (Rd.int .i64) (Rd.pair (Rd.int .i64) (Rd.pair (Rd.int .i64) (Rd.pair (Rd.int .i64) (Rd.pair (Rd.int .i64) (Rd.pair (Rd.int .i64) (Rd.pair (Rd.int .i64) (Rd.pair Rd.bool (Rd.pair (Rd.sl rdEnt 40) (Rd.pair Rd.str Rd.unit)))))))))
def rdMsg : Rd Msg := rdMsgF.map fun x => ⟨x.1, x.2.1, x.2.2.1, x.2.2.2.1, x.2.2.2.2.1, x.2.2.2.2.2.1, x.2.2.2.2.2.2.1, x.2.2.2.2.2.2.2.1, x.2.2.2.2.2.2.2.2.1, x.2.2.2.2.2.2.2.2.2.1⟩
theorem opens32 : Opens Try.prog 32 rdMsg :=
  opens_map _ (opens_struct (.cons rfl (opens_int Try.underlying3 (by kernel_rfl)) (.cons rfl (opens_int Try.underlying3 (by kernel_rfl)) (.cons rfl (opens_int Try.underlying3 (by kernel_rfl)) (.cons rfl (opens_int Try.underlying3 (by kernel_rfl))
    (.cons rfl (opens_int Try.underlying3 (by kernel_rfl)) (.cons rfl (opens_int Try.underlying3 (by kernel_rfl)) (.cons rfl (opens_int Try.underlying3 (by kernel_rfl)) (.cons rfl (opens_bool Try.underlying4 (by kernel_rfl))
    (.cons rfl (opens_sl opens39 Try.underlying30 (by kernel_rfl) (by kernel_rfl)) (.cons rfl (opens_str Try.underlying9 (by kernel_rfl)) (.nil _))))))))))) Try.underlying32 (by kernel_rfl))
structure MsgIs (s : PH) (cs : List Value) (M : Msg) (t : Tri) : Prop where
  cells : cs = msgCells M t
  view : View s t.1 t.2.1 t.2.2 M.list
  room : t.2.1 * 40 ≤ 140737488355328
theorem MsgIs.mono {s s' : PH} {cs : List Value} {M : Msg} {t : Tri} (h : MsgIs s cs M t) (hm : s.le s') : MsgIs s' cs M t := ⟨h.cells, h.view.mono hm, h.room⟩
theorem rdMsg_is {s : PH} {cs : List Value} {M : Msg} (h : rdMsg.is s cs M) : ∃ t : Tri, MsgIs s cs M t := by
  obtain ⟨x, rfl, c1, c2, rfl, ⟨rfl, h1⟩, d1, d2, rfl, ⟨rfl, h2⟩, e1, e2, rfl, ⟨rfl, h3⟩, f1, f2, rfl, ⟨rfl, h4⟩, g1, g2, rfl, ⟨rfl, h5⟩, i1, i2, rfl, ⟨rfl, h6⟩, j1, j2, rfl, ⟨rfl, h7⟩, k1, k2, rfl, rfl, l1, l2, rfl, ⟨a, n, c, rfl, g3, g4, g5, g6⟩, m1, m2, rfl, ⟨rfl, h9⟩, rfl⟩ := h
  have hr : reachBytes = 140737488351232 := rfl
  refine ⟨(a, n, c), rfl, View.elems g6 g3, ?_⟩
  show n * 40 ≤ _
  rw [hr] at g5; omega
structure OpD where
  kind : Int
  a : Int
  b : Int
  text : ByteArray
  M : Msg
def rdOp : Rd OpD := (Rd.pair (Rd.int .i64) (Rd.pair (Rd.int .i64) (Rd.pair (Rd.int .i64) (Rd.pair Rd.str (Rd.pair rdMsg Rd.unit))))).map fun x => ⟨x.1, x.2.1, x.2.2.1, x.2.2.2.1, x.2.2.2.2.1⟩
theorem opens34 : Opens Try.prog 34 rdOp :=
  opens_map _ (opens_struct (.cons rfl (opens_int Try.underlying3 (by kernel_rfl)) (.cons rfl (opens_int Try.underlying3 (by kernel_rfl)) (.cons rfl (opens_int Try.underlying3 (by kernel_rfl)) (.cons rfl (opens_str Try.underlying9 (by kernel_rfl))
    (.cons rfl opens32 (.nil _)))))) Try.underlying34 (by kernel_rfl))
abbrev opCells (o : OpD) (t : Tri) : List Value := .int .i64 o.kind :: .int .i64 o.a :: .int .i64 o.b :: .string o.text :: msgCells o.M t
theorem rdOp_is {s : PH} {cs : List Value} {o : OpD} (h : rdOp.is s cs o) : ∃ t : Tri, cs = opCells o t ∧ MsgIs s (msgCells o.M t) o.M t := by
  obtain ⟨x, rfl, c1, c2, rfl, ⟨rfl, h1⟩, d1, d2, rfl, ⟨rfl, h2⟩, e1, e2, rfl, ⟨rfl, h3⟩, f1, f2, rfl, ⟨rfl, h4⟩, g1, g2, rfl, h5, rfl⟩ := h
  obtain ⟨t, ht⟩ := rdMsg_is h5
  have := ht.cells
  subst this
  exact ⟨t, by simp [opCells], ⟨rfl, ht.view, ht.room⟩⟩
theorem c_copied {s : PH} {M : Msg} {t : Tri} (h : MsgIs s (msgCells M t) M t) : DCalls Try.prog 29 #[msgV M t] s (FeedPost M s) := by
  have hmax : maxLen = 9223372036854775807 := rfl
  refine ok_copied M.kind M.from_ M.to M.term M.index M.prev M.commit M.good t.1 t.2.1 t.2.2 M.snap _ s ?_
  unfold vc_copied
  simp only [RP_nw]
  refine W.nw_of fun r s1 hr m1 k1 => ?_
  refine W.nw_of fun q s2 hq m2 k2 => ?_
  refine W.nw_of fun p s3 hp m3 k3 => ?_
  have k1' := (m2.trans m3).at k1 (by simp)
  have k2' := m3.at k2 (by simp)
  have m13 := (m1.trans m2).trans m3
  have hv := h.view.mono m13.le
  have hroom := h.room
  have hrq : r ≠ q := ne_of_known k1 hq
  have hrp : r ≠ p := ne_of_known (m2.at k1 (by simp)) hp
  have hqp : q ≠ p := ne_of_known k2 hp
  simp [W.ld_at k1']
  have hnil : rowE entE s3 39 (some ⟨p, 0, none⟩) 0 0 ([] : List Ent) := ⟨rfl, Nat.le_refl _, Nat.zero_le _, .inr ⟨p, _, rfl, k3, by simp, by simp⟩⟩
  refine app_rowE (E := entE) (k := t.2.1) (ys := M.list) hnil rfl hv.src rfl hv.len.symm (by omega) (by omega) ?_
  intro a' c' s4 hrow hm
  have m4 : Fw.Mod [p] s3 s4 := by
    rcases hm with ⟨_, hm⟩ | ⟨g, _, _, hm⟩
    · exact hm.mono (by simp [Fw.blk])
    · exact hm.mono (by simp)
  have k1'' := m4.at k1' (by simpa using hrp)
  have k2'' := m4.at k2' (by simpa using hqp)
  have hrow : rowE entE s4 39 a' t.2.1 c' M.list := by simpa using hrow
  have hf : ∀ y ∈ Fw.blk a', s y = none := by
    have hps : s p = none := (m1.trans m2).none hp (by simp)
    rcases hm with ⟨rfl, hm⟩ | ⟨g, rfl, hg, hm⟩
    · intro y hy; simp [Fw.blk] at hy; subst hy; exact hps
    · intro y hy; simp [Fw.blk] at hy; subst hy; exact m13.none hg (by simp)
  have ha1 : r ∉ Fw.blk a' := row_ne2 hrow k1'' (by decide)
  have ha2 : q ∉ Fw.blk a' := row_ne2 hrow k2'' (by decide)
  simp [W.st_at k1'', fun o => W.st_at (upd_at k2'' hrq.symm o)]
  have hps : s p = none := (m1.trans m2).none hp (by simp)
  have m5 : Fw.Mod [] s s4 := m13.fresh m4 (by simp [hps])
  refine ⟨(a', t.2.1, c'), rfl, ?_, (m5.updLater (.inr hr)).updLater (.inr (m1.none hq (by simp))), hf⟩
  refine (hrow.mod (L := [r]) (Mod.upd (by simp)) fun x hx => by simp; rintro rfl; exact ha1 hx).mod (L := [q]) (Mod.upd (by simp)) fun x hx => by simp; rintro rfl; exact ha2 hx
abbrev noDelta : Value := .agg #[.int .i64 0, .int .i64 0, .bool false, .int .i64 0, .int .i64 0, .string ⟨#[]⟩, .int .i64 0, .slice none 0 0]
abbrev opV (o : OpD) (t : Tri) : Value := .agg #[.int .i64 o.kind, .int .i64 o.a, .int .i64 o.b, .string o.text, .int .i64 o.M.kind, .int .i64 o.M.from_, .int .i64 o.M.to, .int .i64 o.M.term, .int .i64 o.M.index, .int .i64 o.M.prev, .int .i64 o.M.commit, .bool o.M.good, .slice t.1 t.2.1 t.2.2, .string o.M.snap]
end Go.Proofs.Ytfpbiecmobdnnaa
end
section
set_option linter.unusedVariables false
set_option linter.unusedSimpArgs false
set_option maxHeartbeats 1000000
set_option maxRecDepth 100000
namespace Go.Proofs.Ytfpbiecmobdnnaa
open Fw Go
attribute [-simp] Fw.W.ld_iff Fw.W.st_iff
def BS.runB (B : BS) : Bool :=
  decide (0 ≤ B.base ∧ B.base ≤ 4611686016279904256 ∧ B.log.length ≤ 1073741824 ∧ 1 ≤ B.size ∧ B.size ≤ 5 ∧ 0 ≤ B.id ∧ B.id < B.size ∧ B.base ≤ B.commit ∧ B.commit ≤ B.lst) &&
  (decide (B.role = 1 → B.votes.length = B.size.toNat) && decide (B.role = 2 → B.next.length = B.size.toNat ∧ B.mat.length = B.size.toNat ∧ (∀ x ∈ B.next, 0 ≤ x ∧ x ≤ B.lst + 1) ∧ ∀ x ∈ B.mat, 0 ≤ x ∧ x ≤ B.lst))
theorem BS.runB_run {B : BS} (h : B.runB = true) : B.Run := by
  unfold BS.runB at h
  simp only [Bool.and_eq_true, decide_eq_true_eq] at h
  obtain ⟨⟨h1, h2, h3, h4, h5, h6, h7, h8, h9⟩, hv, hl⟩ := h
  refine ⟨⟨⟨h1, by omega, h3⟩, h2, ⟨h4, h5⟩, ⟨h6, h7⟩, h8⟩, h9, hv, fun hr => ?_⟩
  obtain ⟨g1, g2, g3, g4⟩ := hl hr
  exact ⟨g1, g2, fun i x hx => g3 x (List.mem_of_getElem? hx), fun i x hx => g4 x (List.mem_of_getElem? hx)⟩
def aw0 : BS := newBS 0 3
def aw1 : BS × List Msg := aw0.timeout
def awV : Msg := ⟨2, 1, 0, 1, 0, 0, 0, true, [], ⟨#[]⟩⟩
def aw2 : BS × List Msg := aw1.1.take awV
def awF : Msg := ⟨4, 1, 0, 1, 1, 0, 0, true, [], ⟨#[]⟩⟩
def aw3 : BS × List Msg := aw2.1.take awF
theorem aw0_run : aw0.runB = true := by kernel_rfl
theorem aw1_run : aw1.1.runB = true := by kernel_rfl
theorem aw2_run : aw2.1.runB = true := by kernel_rfl
theorem aw3_run : aw3.1.runB = true := by kernel_rfl
theorem aw1_len : aw1.2.length = 2 := by kernel_rfl
theorem aw1_1 : (aw1.2[1]?).map (fun M => (M.kind, M.to)) = some (1, 2) := by kernel_rfl
theorem aw2_len : aw2.2.length = 2 := by kernel_rfl
theorem aw2_0 : (aw2.2[0]?).map (fun M => M.list.length) = some 1 := by kernel_rfl
theorem aw3_len : aw3.2.length = 2 := by kernel_rfl
theorem aw3_0 : (aw3.2[0]?).map (fun M => M.commit) = some 1 := by kernel_rfl
theorem aw3_st : aw3.1.role = 2 ∧ aw3.1.commit = 1 := by constructor <;> kernel_rfl
theorem aw_log : aw0.log.length = 0 ∧ aw1.1.log.length = 0 ∧ aw2.1.log.length = 1 := by refine ⟨?_, ?_, ?_⟩ <;> kernel_rfl
theorem Msgs.get {s : PH} {t : Tri} {ps : List (Msg × Tri)} {ms : List Msg} (h : Msgs s t ps) (hm : ps.map (·.1) = ms) {i : Nat} {α : Type} {f : Msg → α} {y : α} (hi : (ms[i]?).map f = some y) :
    ∃ g M t', t.1 = some ⟨g, 0, none⟩ ∧ s.has ⟨g, i * 10, none⟩ (msgCells M t') ∧ f M = y ∧ rowE entE s 39 t'.1 t'.2.1 t'.2.2 M.list := by
  subst hm
  rw [List.getElem?_map] at hi
  cases hp : ps[i]? with
  | none => rw [hp] at hi; cases hi
  | some p =>
    rw [hp] at hi
    obtain ⟨g, hg, hh⟩ := h.row.at hp
    exact ⟨g, p.1, p.2, hg, hh, Option.some.inj hi, h.lists p (List.mem_of_getElem? hp)⟩
theorem Msgs.size {s : PH} {t : Tri} {ps : List (Msg × Tri)} {ms : List Msg} (h : Msgs s t ps) (hm : ps.map (·.1) = ms) : t.2.1 = ms.length := by
  rw [h.row.len, ← hm, List.length_map]
theorem c_awake (s : PH) : DCalls Try.prog 8 #[] s fun x s' => x = .bool true ∧ Fw.Mod [] s s' := by
  refine ok_awake _ s ?_
  unfold vc_awake
  simp only [RP_call]
  refine W.call_of (c_New 0 3 s) ?_
  intro x s1 hx
  rcases hx with ⟨_, b, rfl, h1, m1, hb⟩ | ⟨hno, _⟩
  rotate_left
  · exact absurd (by unfold okNew; omega) hno
  refine ⟨((some ⟨b, 0, none⟩, ()), (0, ()), ()), rfl, ?_⟩
  have h1 : Bal s1 b noTri noTri noTri noTri aw0 := h1
  have st1 : Step [] (bL b noTri noTri noTri noTri) s s1 := ⟨m1, fun x hx => .inr (by simp [bL, Fw.blk] at hx; subst hx; exact hb)⟩
  have R0 := BS.runB_run aw0_run
  have R1 := BS.runB_run aw1_run
  have R2 := BS.runB_run aw2_run
  have R3 := BS.runB_run aw3_run
  obtain ⟨l0, l1, l2⟩ := aw_log
  refine W.call_of (c_Timeout h1 R0.ok R0.lc (by omega) (by unfold Num; constructor <;> decide)) ?_
  rintro _ s2 ⟨t1, ps1, a1, a2, a3, a4, rfl, h2, st2, hms1, hps1, hf1⟩
  refine ⟨((t1, ()), ()), rfl, ?_⟩
  have hps1 : ps1.map (·.1) = aw1.2 := hps1
  have h2 : Bal s2 b a1 a2 a3 a4 aw1.1 := h2
  refine W.call_of (c_Take h2 R1 (by omega) awV noTri rowE.nil (by show 0 ≤ 1000000; omega)) ?_
  rintro _ s3 ⟨t2, ps2, b1, b2, b3, b4, rfl, h3, st3, hms2, hps2, hf2⟩
  refine ⟨((t2, ()), ()), rfl, ?_⟩
  have hps2 : ps2.map (·.1) = aw2.2 := hps2
  have h3 : Bal s3 b b1 b2 b3 b4 aw2.1 := h3
  have hms1' := hms1.mod st3.mod (fun y hy hx => (hf1 y hy).2 hx)
  have hap := st3.apart (fun x hx => (hf1 x hx).2) hms1.known
  refine W.call_of (c_Take h3 R2 (by omega) awF noTri rowE.nil (by show 0 ≤ 1000000; omega)) ?_
  rintro _ s4 ⟨t3, ps3, c1, c2, c3, c4, rfl, h4, st4, hms3, hps3, hf3⟩
  refine ⟨((t3, ()), ()), rfl, ?_⟩
  have hps3 : ps3.map (·.1) = aw3.2 := hps3
  have h4 : Bal s4 b c1 c2 c3 c4 aw3.1 := h4
  have hms1'' := hms1'.mod st4.mod hap
  have hms2' := hms2.mod st4.mod (fun y hy hx => (hf2 y hy).2 hx)
  have st := ((st1.trans st2).trans st3).trans st4
  refine W.call_of (c_Stand h4 R3.ok.small) ?_
  rintro _ s5 ⟨rfl, m5⟩
  refine ⟨((aw3.1.term, aw3.1.vote, aw3.1.role, aw3.1.lead, aw3.1.base, aw3.1.lst, aw3.1.commit, ()), ()), rfl, ?_⟩
  refine W.nw_of fun r s6 hr m6 k6 => ?_
  have m56 := m5.trans m6
  have hsz1 := hms1.size hps1
  have hsz2 := hms2.size hps2
  have hsz3 := hms3.size hps3
  rw [aw1_len] at hsz1
  rw [aw2_len] at hsz2
  rw [aw3_len] at hsz3
  obtain ⟨hro, hco⟩ := aw3_st
  simp [W.st_at k6, hsz1, hsz2, hsz3, hro, hco]
  have m7 : Fw.Mod [] s4 (s6.upd r (.cells #[.int .i64 aw3.1.term, .int .i64 aw3.1.vote, .int .i64 2, .int .i64 aw3.1.lead, .int .i64 aw3.1.base, .int .i64 aw3.1.lst, .int .i64 1] 36 (0, 0))) := m56.updLater (.inr (m5.none hr (by simp)))
  have k7 := PH.upd_same s6 r (.cells #[.int .i64 aw3.1.term, .int .i64 aw3.1.vote, .int .i64 2, .int .i64 aw3.1.lead, .int .i64 aw3.1.base, .int .i64 aw3.1.lst, .int .i64 1] 36 (0, 0))
  generalize s6.upd r (.cells #[.int .i64 aw3.1.term, .int .i64 aw3.1.vote, .int .i64 2, .int .i64 aw3.1.lead, .int .i64 aw3.1.base, .int .i64 aw3.1.lst, .int .i64 1] 36 (0, 0)) = s7 at m7 k7 ⊢
  obtain ⟨g1, M1, u1, e1, hh1, hy1, _⟩ := (hms1''.mod m7 (by simp)).get hps1 aw1_1
  obtain ⟨g2, M2, u2, e2, hh2, hy2, hr2⟩ := (hms2'.mod m7 (by simp)).get hps2 aw2_0
  obtain ⟨g3, M3, u3, e3, hh3, hy3, _⟩ := (hms3.mod m7 (by simp)).get hps3 aw3_0
  have hM1k : M1.kind = 1 := congrArg Prod.fst hy1
  have hM1t : M1.to = 2 := congrArg Prod.snd hy1
  have hu2 : u2.2.1 = 1 := by rw [hr2.len]; exact hy2
  rw [e1, e2, e3]
  simp
  have q1 : s7.has ⟨g1, 10, none⟩ (msgCells M1 u1) := hh1
  have q2 : s7.has ⟨g2, 0, none⟩ (msgCells M2 u2) := by simpa using hh2
  have q3 : s7.has ⟨g3, 0, none⟩ (msgCells M3 u3) := by simpa using hh3
  have hM3 : M3.commit = 1 := hy3
  refine ld_has_z q1 (cs := [.int .i64]) (y := (M1.kind, ())) rfl ?_
  simp only [hM1k, beq_self_eq_true, W.br_true]
  refine ⟨trivial, ?_⟩
  simp only [W.unSome_some]
  refine ld_has (A := ⟨g1, 10, none⟩) (j := 2) q1 (cs := [.int .i64]) (y := (M1.to, ())) rfl ?_
  simp only [hM1t, beq_self_eq_true, W.br_true]
  refine ⟨trivial, ?_⟩
  simp only [W.unSome_some]
  refine ld_has (A := ⟨g2, 0, none⟩) (j := 8) q2 (cs := [.slice]) (y := (u2, ())) rfl ?_
  have e4 : ((u2.2.1 : Int) == 1) = true := by rw [hu2]; (first | done | rfl)
  simp only [e4, W.br_true]
  refine ⟨trivial, ?_⟩
  simp only [W.unSome_some]
  refine ld_has (A := ⟨g3, 0, none⟩) (j := 6) q3 (cs := [.int .i64]) (y := (M3.commit, ())) rfl ?_
  simp only [hM3, beq_self_eq_true, W.br_true]
  simp [W.ld_at k7]
  exact (st.mod.trans (m7.mono (by simp)))
end Go.Proofs.Ytfpbiecmobdnnaa
end
section
set_option linter.unusedVariables false
set_option linter.unusedSimpArgs false
set_option maxHeartbeats 1000000
namespace Go.Proofs.Ytfpbiecmobdnnaa
open Fw Go
theorem best_in (B : BS) : ∀ (d : Nat) (i : Int), B.best d = some i → B.commit < i ∧ i ≤ B.commit + d
  | 0, i, h => by cases h
  | d + 1, i, h => by
    simp only [BS.best] at h
    split at h
    · simp only [Option.some.injEq] at h; subst h; push_cast; omega
    · have := best_in B d i h; push_cast; omega
theorem settled_com (B : BS) (h : B.commit ≤ B.lst) : ∃ c, B.settled.1 = { B with commit := c } ∧ B.commit ≤ c ∧ c ≤ B.lst := by
  unfold BS.settled
  split
  · rename_i i hi
    have := best_in B _ i hi
    exact ⟨i, rfl, by omega, by omega⟩
  · exact ⟨B.commit, rfl, Int.le_refl _, h⟩
/-- what holds in a ballot, with bounds that grow with the calls -/
structure BS.Inv (B : BS) (z : Int) : Prop where
  run : B.Run
  len : (B.log.length : Int) ≤ z
  far : B.lst ≤ 2 * FAR + z
  term : 0 ≤ B.term ∧ B.term ≤ 2 * FAR + z
  vote : -1 ≤ B.vote
theorem BS.Inv.mono {B : BS} {z z' : Int} (h : B.Inv z) (hz : z ≤ z') : B.Inv z' :=
  ⟨h.run, by have := h.len; omega, by have := h.far; omega, by have := h.term; omega, h.vote⟩
theorem lst_def (B : BS) : B.lst = B.base + B.log.length := rfl
/-- numbers that suit -/
theorem BS.Ok.of {B : BS} (h1 : 0 ≤ B.base) (h2 : B.lst ≤ 8000000000000) (h3 : B.log.length ≤ 1000000) (h4 : 1 ≤ B.size ∧ B.size ≤ 5) (h5 : 0 ≤ B.id ∧ B.id < B.size) (h6 : B.base ≤ B.commit) : B.Ok := by
  have := lst_def B
  exact ⟨⟨h1, by omega, by omega⟩, by omega, h4, h5, h6⟩
theorem Inv.com {B : BS} {z c : Int} (h : B.Inv z) (h1 : B.commit ≤ c) (h2 : c ≤ B.lst) : ({ B with commit := c } : BS).Inv z := by
  have hk := h.run.ok
  exact ⟨⟨⟨⟨hk.small.base0, hk.small.base1, hk.small.log1⟩, hk.base, hk.size, hk.id, by have := hk.com; show B.base ≤ c; omega⟩, h2, h.run.vt, fun hr => ⟨(h.run.ld hr).nlen, (h.run.ld hr).mlen, (h.run.ld hr).nr, (h.run.ld hr).mr⟩⟩, h.len, h.far, h.term, h.vote⟩
theorem Inv.settled {B : BS} {z : Int} (h : B.Inv z) : B.settled.1.Inv z := by
  obtain ⟨c, hc, h1, h2⟩ := settled_com B h.run.lc
  rw [hc]; exact Inv.com h h1 h2
theorem set_len {B : BS} {i : Int} (h1 : B.base < i) (h2 : i ≤ B.lst + 1) (ys : List Ent) : ((B.set i ys).log.length : Int) = i - B.base - 1 + ys.length := by
  have := lst_def B
  unfold BS.set
  simp only [List.length_append, List.length_take]
  omega
theorem set_lst {B : BS} {i : Int} (h1 : B.base < i) (h2 : i ≤ B.lst + 1) (ys : List Ent) : (B.set i ys).lst = i - 1 + ys.length := by
  have h := set_len h1 h2 ys
  have e : (B.set i ys).lst = B.base + ((B.set i ys).log.length : Int) := rfl
  omega
theorem Inv.set {B : BS} {z : Int} (h : B.Inv z) {i : Int} (h1 : B.commit < i) (h2 : i ≤ B.lst + 1) {ys : List Ent} (hz : z + ys.length ≤ 1000000) (hr : B.role = 2 → i = B.lst + 1) : (B.set i ys).Inv (z + ys.length) := by
  have hk := h.run.ok
  have hb := hk.com
  have hlen := h.len
  have hfar := h.far
  have hF : FAR = 1099511627776 := rfl
  have g1 := set_len (B := B) (i := i) (by omega) h2 ys
  have g2 := set_lst (B := B) (i := i) (by omega) h2 ys
  have hd := lst_def B
  have hb0 := hk.small.base0
  refine ⟨⟨BS.Ok.of hk.small.base0 (by omega) (by omega) hk.size hk.id hk.com, by rw [g2]; show B.commit ≤ _; omega, h.run.vt, fun hr2 => ?_⟩, by omega, by omega, by have := h.term; show 0 ≤ B.term ∧ B.term ≤ _; omega, h.vote⟩
  have hL := h.run.ld hr2
  have := hr hr2
  exact ⟨hL.nlen, hL.mlen, fun j x hx => by have := hL.nr j x hx; rw [g2]; omega, fun j x hx => by have := hL.mr j x hx; rw [g2]; omega⟩
theorem Inv.lead2 {B : BS} {z : Int} (h : B.Inv z) : B.lead2.Inv z := by
  have hk := h.run.ok
  have hlc := h.run.lc
  have hb := hk.com
  have hb0 := hk.small.base0
  refine ⟨⟨⟨⟨hk.small.base0, hk.small.base1, hk.small.log1⟩, hk.base, hk.size, hk.id, hk.com⟩, hlc, fun e => absurd e (by show ¬ (2 : Int) = 1; omega), fun _ => ⟨List.length_replicate, List.length_replicate, fun j x hx => ?_, fun j x hx => ?_⟩⟩, h.len, h.far, h.term, h.vote⟩
  · have hx : (List.replicate B.size.toNat (B.lst + 1))[j]? = some x := hx
    rw [List.getElem?_replicate] at hx
    split at hx
    · cases hx; show 0 ≤ B.lst + 1 ∧ B.lst + 1 ≤ B.lst + 1; omega
    · cases hx
  · have hx : (List.replicate B.size.toNat (0 : Int))[j]? = some x := hx
    rw [List.getElem?_replicate] at hx
    split at hx
    · cases hx; show (0 : Int) ≤ 0 ∧ 0 ≤ B.lst; omega
    · cases hx
theorem Inv.counted {B : BS} {z : Int} (h : B.Inv z) (hz : z + 1 ≤ 1000000) : B.counted.1.Inv (z + 1) := by
  unfold BS.counted
  split
  · exact h.mono (by omega)
  · have hlc := h.run.lc
    exact Inv.settled (Inv.set (ys := [{ noEnt with term := B.term }]) (Inv.lead2 h) (by show B.commit < B.lst + 1; omega) (Int.le_refl _) hz fun _ => rfl)
theorem Inv.stood {B : BS} {z : Int} (h : B.Inv z) : B.stood.Inv (z + 1) := by
  have hk := h.run.ok
  have hid := hk.id
  refine ⟨⟨⟨⟨hk.small.base0, hk.small.base1, hk.small.log1⟩, hk.base, hk.size, hk.id, hk.com⟩, h.run.lc, fun _ => ?_, fun e => absurd e (by show ¬ (1 : Int) = 2; omega)⟩, by have := h.len; show (B.log.length : Int) ≤ _; omega, by have := h.far; show B.lst ≤ _; omega, ?_, ?_⟩
  · show (List.set _ _ _).length = B.size.toNat; simp
  · have := h.term; show 0 ≤ B.term + 1 ∧ B.term + 1 ≤ _; omega
  · show -1 ≤ B.id; omega
theorem Inv.timeout {B : BS} {z : Int} (h : B.Inv z) (hz : z + 2 ≤ 1000000) : B.timeout.1.Inv (z + 2) := by
  unfold BS.timeout
  split
  · exact h.mono (by omega)
  · have := Inv.counted (Inv.stood h) (by omega)
    exact this.mono (by omega)
theorem Inv.propose {B : BS} {z : Int} (h : B.Inv z) (hz : z + 1 ≤ 1000000) (at_ born : Int) (text : ByteArray) : (B.propose at_ born text).2.1.Inv (z + 1) := by
  unfold BS.propose
  split
  · have hlc := h.run.lc
    exact Inv.settled (Inv.set (ys := [⟨B.term, at_, born, text⟩]) h (by omega) (Int.le_refl _) hz fun _ => rfl)
  · exact h.mono (by omega)
theorem Inv.turned {B : BS} {z : Int} (h : B.Inv z) {t : Int} (ht : 0 ≤ t ∧ t ≤ FAR) (hz : 0 ≤ z) : (B.turned t (-1) 0).Inv z := by
  have hk := h.run.ok
  have hF : FAR = 1099511627776 := rfl
  exact ⟨⟨⟨⟨hk.small.base0, hk.small.base1, hk.small.log1⟩, hk.base, hk.size, hk.id, hk.com⟩, h.run.lc, fun e => absurd e (by show ¬ (0 : Int) = 1; omega), fun e => absurd e (by show ¬ (0 : Int) = 2; omega)⟩, h.len, h.far, by show 0 ≤ t ∧ t ≤ _; omega, by show (-1 : Int) ≤ -1; omega⟩
theorem Inv.asked {B : BS} {z : Int} (h : B.Inv z) (M : Msg) (hf : 0 ≤ M.from_) : (B.asked M).1.Inv z := by
  unfold BS.asked
  split
  · have hk := h.run.ok
    exact ⟨⟨⟨⟨hk.small.base0, hk.small.base1, hk.small.log1⟩, hk.base, hk.size, hk.id, hk.com⟩, h.run.lc, h.run.vt, fun hr => ⟨(h.run.ld hr).nlen, (h.run.ld hr).mlen, (h.run.ld hr).nr, (h.run.ld hr).mr⟩⟩, h.len, h.far, h.term, by show -1 ≤ M.from_; omega⟩
  · exact h
theorem Inv.voted {B : BS} {z : Int} (h : B.Inv z) (M : Msg) (hz : z + 1 ≤ 1000000) : (B.voted M).1.Inv (z + 1) := by
  unfold BS.voted
  split
  · exact h.mono (by omega)
  · have hk := h.run.ok
    refine Inv.counted ⟨⟨⟨⟨hk.small.base0, hk.small.base1, hk.small.log1⟩, hk.base, hk.size, hk.id, hk.com⟩, h.run.lc, fun hr => ?_, fun hr => ⟨(h.run.ld hr).nlen, (h.run.ld hr).mlen, (h.run.ld hr).nr, (h.run.ld hr).mr⟩⟩, h.len, h.far, h.term, h.vote⟩ hz
    show (List.set _ _ _).length = _
    rw [List.length_set]; exact h.run.vt hr
theorem Inv.follows {B : BS} {z : Int} (h : B.Inv z) (f : Int) : ({ B with role := 0, lead := f } : BS).Inv z := by
  have hk := h.run.ok
  exact ⟨⟨⟨⟨hk.small.base0, hk.small.base1, hk.small.log1⟩, hk.base, hk.size, hk.id, hk.com⟩, h.run.lc, fun e => absurd e (by show ¬ (0 : Int) = 1; omega), fun e => absurd e (by show ¬ (0 : Int) = 2; omega)⟩, h.len, h.far, h.term, h.vote⟩
theorem merge_in {B : BS} {z : Int} (hr : B.role ≠ 2) (h : B.Inv z) : ∀ (xs : List Ent) (i : Int), z + xs.length ≤ 1000000 → B.commit ≤ i → i ≤ B.lst → (B.merge i xs).Inv (z + xs.length) ∧ i + xs.length ≤ (B.merge i xs).lst
  | [], i, hz, h1, h2 => by simp only [BS.merge]; exact ⟨by simpa using h, by simpa using h2⟩
  | e :: r, i, hz, h1, h2 => by
    have hb := h.run.ok.com
    simp only [List.length_cons] at hz
    push_cast at hz
    simp only [BS.merge]
    split
    · rename_i ht
      have hl : i + 1 ≤ B.lst := termAt_le (by rw [ht]) (by omega)
      have := merge_in hr h r (i + 1) (by omega) (by omega) hl
      refine ⟨this.1.mono (by simp only [List.length_cons]; push_cast; omega), ?_⟩
      have h3 := this.2
      simp only [List.length_cons]; push_cast; omega
    · refine ⟨Inv.set h (by omega) (by omega) (by simp only [List.length_cons]; push_cast; omega) (fun e => absurd e hr), ?_⟩
      rw [set_lst (by omega) (by omega)]; omega
theorem Inv.fed {B : BS} {z : Int} (h : B.Inv z) (M : Msg) (hz : z + M.list.length ≤ 1000000) : (B.fed M).1.Inv (z + M.list.length) := by
  unfold BS.fed
  split
  · exact h.mono (by omega)
  · have hF := Inv.follows h M.from_
    dsimp only
    split
    · exact hF.mono (by omega)
    · split
      · exact hF.mono (by omega)
      · rename_i hne hc
        have hlc := h.run.lc
        have hb := h.run.ok.com
        have hr0 : ({ B with role := 0, lead := M.from_ } : BS).role ≠ 2 := by show ¬ (0 : Int) = 2; omega
        split
        · rename_i hlt
          have hdl : ((M.list.drop (B.commit - M.index).toNat).length : Int) = M.index + M.list.length - B.commit := by rw [List.length_drop]; omega
          have hm := merge_in hr0 hF (M.list.drop (B.commit - M.index).toNat) B.commit (by omega) (Int.le_refl _) hlc
          obtain ⟨g1, g2, g3, g4⟩ := merge_same { B with role := 0, lead := M.from_ } (M.list.drop (B.commit - M.index).toNat) B.commit
          have g3 : (BS.merge { B with role := 0, lead := M.from_ } B.commit (M.list.drop (B.commit - M.index).toNat)).commit = B.commit := g3
          refine BS.Inv.mono (Inv.com hm.1 ?_ ?_) (by omega)
          · rw [g3]; unfold mx; split <;> omega
          · rw [g3]; have := hm.2; unfold mx mn; repeat' split
            all_goals omega
        · rename_i hge
          have hyes : B.termAt M.index = (M.prev, true) := by
            by_cases e : B.termAt M.index = (M.prev, true)
            · exact e
            · exact absurd ⟨hge, e⟩ hc
          have hil : M.index ≤ B.lst := termAt_le (by rw [hyes]) (by omega)
          have hm := merge_in hr0 hF M.list M.index hz (by show B.commit ≤ _; omega) hil
          obtain ⟨g1, g2, g3, g4⟩ := merge_same { B with role := 0, lead := M.from_ } M.list M.index
          have g3 : (BS.merge { B with role := 0, lead := M.from_ } M.index M.list).commit = B.commit := g3
          refine Inv.com hm.1 ?_ ?_
          · rw [g3]; unfold mx; split <;> omega
          · rw [g3]; have := hm.2; unfold mx mn; repeat' split
            all_goals omega
theorem Inv.ldr {B : BS} {z : Int} (h : B.Inv z) {N Mt : List Int} (hl : ({ B with next := N, mat := Mt } : BS).Ldr) (hr : B.role = 2) : ({ B with next := N, mat := Mt } : BS).Inv z := by
  have hk := h.run.ok
  exact ⟨⟨⟨⟨hk.small.base0, hk.small.base1, hk.small.log1⟩, hk.base, hk.size, hk.id, hk.com⟩, h.run.lc, fun e => absurd (e.symm.trans hr) (by decide), fun _ => hl⟩, h.len, h.far, h.term, h.vote⟩
theorem Inv.heard {B : BS} {z : Int} (h : B.Inv z) (M : Msg) (hf : M.from_.toNat < B.size.toNat) : (B.heard M).1.Inv z := by
  unfold BS.heard
  split
  · exact h
  · rename_i hr
    have hr : B.role = 2 := by omega
    have hL := h.run.ld hr
    have hl0 : 0 ≤ B.lst := by have := h.run.ok.small.base0; have := lst_def B; omega
    dsimp only
    split
    · exact Inv.ldr h (hL.unfed hf M.index) hr
    · have h2 : (B.fedTo M.from_.toNat M.index).Inv z := Inv.ldr h (hL.fedTo hf M.index hl0) hr
      split
      · exact Inv.settled h2
      · exact Inv.settled h2
theorem rebase_lst {B : BS} {i : Int} (h1 : B.base ≤ i) (h2 : i ≤ B.lst) (t : Int) (sn : ByteArray) : (B.rebase i t sn (B.log.drop (i - B.base).toNat)).lst = B.lst := by
  have e : (B.rebase i t sn (B.log.drop (i - B.base).toNat)).lst = i + ((B.log.drop (i - B.base).toNat).length : Int) := rfl
  have := lst_def B
  rw [e, List.length_drop]; omega
theorem Inv.cut {B : BS} {z : Int} (h : B.Inv z) {i : Int} (h1 : B.base < i) (h2 : i ≤ B.commit) (hz : z ≤ 1000000) (t : Int) (sn : ByteArray) : (B.rebase i t sn (B.log.drop (i - B.base).toNat)).Inv z := by
  have hk := h.run.ok
  have hlc := h.run.lc
  have hb0 := hk.small.base0
  have hF : FAR = 1099511627776 := rfl
  have g := rebase_lst (B := B) (i := i) (by omega) (by omega) t sn
  have hlen : (((B.rebase i t sn (B.log.drop (i - B.base).toNat)).log.length : Nat) : Int) ≤ z := by
    have := h.len
    show ((B.log.drop _).length : Int) ≤ z
    rw [List.length_drop]; omega
  have hfar := h.far
  refine ⟨⟨BS.Ok.of (by show 0 ≤ i; omega) (by omega) (by omega) hk.size hk.id h2, by rw [g]; exact hlc, h.run.vt, fun hr => ?_⟩, hlen, by omega, h.term, h.vote⟩
  have hL := h.run.ld hr
  exact ⟨hL.nlen, hL.mlen, fun j x hx => by rw [g]; exact hL.nr j x hx, fun j x hx => by rw [g]; exact hL.mr j x hx⟩
theorem Inv.given {B : BS} {z : Int} (h : B.Inv z) (M : Msg) (hi : M.index ≤ FAR) (hz : 0 ≤ z ∧ z ≤ 1000000) : (B.given M).1.Inv z := by
  have hF : FAR = 1099511627776 := rfl
  unfold BS.given
  split
  · exact h
  · split
    · exact Inv.follows h M.from_
    · rename_i hr hgt
      have hk := h.run.ok
      have hb0 := hk.small.base0
      have hbc := hk.com
      have hlen := h.len
      have hfar := h.far
      have key : ∀ rest : List Ent, (rest.length : Int) ≤ z → M.index + rest.length ≤ 2 * FAR + z → ({ ({ B with role := 0, lead := M.from_ }.rebase M.index M.prev M.snap rest) with commit := M.index } : BS).Inv z := by
        intro rest h1 h2
        have e : ({ ({ B with role := 0, lead := M.from_ }.rebase M.index M.prev M.snap rest) with commit := M.index } : BS).lst = M.index + rest.length := rfl
        exact ⟨⟨BS.Ok.of (by show 0 ≤ M.index; omega) (by rw [e]; omega) (by show rest.length ≤ _; omega) hk.size hk.id (Int.le_refl _), by rw [e]; show M.index ≤ _; omega, fun e => absurd e (by show ¬ (0 : Int) = 1; omega), fun e => absurd e (by show ¬ (0 : Int) = 2; omega)⟩, h1, by rw [e]; exact h2, h.term, h.vote⟩
      split
      · rename_i ht
        have hil : M.index ≤ B.lst := termAt_le (by rw [ht]) (by omega)
        have hd := lst_def B
        refine key _ ?_ ?_ <;> · rw [List.length_drop]; omega
      · exact key [] (by simp; omega) (by simp; omega)
theorem Inv.take {B : BS} {z : Int} (h : B.Inv z) (M : Msg) (hz : 0 ≤ z ∧ z + (1 + M.list.length) ≤ 1000000) : (B.take M).1.Inv (z + (1 + M.list.length)) := by
  unfold BS.take
  split
  · exact h.mono (by omega)
  · rename_i hst
    have hst : M.strange B.id B.size = false := by simpa using hst
    unfold Msg.strange at hst
    simp only [Bool.or_eq_false_iff, decide_eq_false_iff_not] at hst
    obtain ⟨f1, f2, f3, f4, f5, f6, f7, f8, f9, f10, ⟨f11, f12⟩, f13, f14⟩ := hst
    have hF : FAR = 1099511627776 := rfl
    have hs : (B.seen M).Inv z ∧ (B.seen M).size = B.size := by
      unfold BS.seen
      split
      · exact ⟨Inv.turned h (by omega) hz.1, rfl⟩
      · exact ⟨h, rfl⟩
    obtain ⟨hs, hsz⟩ := hs
    split
    · exact hs.mono (by omega)
    · unfold BS.does
      split
      · exact (Inv.asked hs M (by omega)).mono (by omega)
      · split
        · exact (Inv.voted hs M (by omega)).mono (by omega)
        · split
          · exact (Inv.fed hs M (by omega)).mono (by omega)
          · split
            · exact (Inv.heard hs M (by rw [hsz]; omega)).mono (by omega)
            · exact (Inv.given hs M (by omega) ⟨hz.1, by omega⟩).mono (by omega)
theorem Inv.new {id size : Int} (h : okNew id size) : (newBS id size).Inv 0 := by
  obtain ⟨h1, h2, h3, h4⟩ := h
  have hF : FAR = 1099511627776 := rfl
  have e : (newBS id size).lst = 0 := rfl
  exact ⟨⟨BS.Ok.of (by show (0 : Int) ≤ 0; omega) (by rw [e]; omega) (by show 0 ≤ _; omega) ⟨h1, h2⟩ ⟨h3, h4⟩ (by show (0 : Int) ≤ 0; omega), by rw [e]; show (0 : Int) ≤ 0; omega, fun e => absurd e (by show ¬ (0 : Int) = 1; omega), fun e => absurd e (by show ¬ (0 : Int) = 2; omega)⟩, by show (0 : Int) ≤ 0; omega, by rw [e]; omega, by show (0 : Int) ≤ 0 ∧ (0 : Int) ≤ _; omega, by show (-1 : Int) ≤ -1; omega⟩
end Go.Proofs.Ytfpbiecmobdnnaa
end
section
set_option linter.unusedVariables false
set_option linter.unusedSimpArgs false
set_option maxHeartbeats 1000000
namespace Go.Proofs.Ytfpbiecmobdnnaa
open Fw Go
attribute [-simp] Fw.W.ld_iff Fw.W.st_iff
section
variable {s : PH} {b : Nat} {l v n m : Tri} {B : BS}
/-- the log from a place on, copied -/
theorem clone_log {K : MDen [(false, [.slice])] → W.T} (h : Bal s b l v n m B) (hs : B.Small) {k : Nat} (hk : k ≤ B.log.length) (hK : ∀ (t : Tri) s', rowE entE s' 39 t.1 t.2.1 t.2.2 (B.log.drop k) → Fw.Mod [] s s' → (∀ g ∈ Fw.blk t.1, s g = none) → K ((t, ()), ()) s') :
    W.call Try.prog 38 #[.slice (if l.2.2 = k then l.1 else Option.map (fun x => x.add (k * 4)) l.1) (l.2.1 - k) (l.2.2 - k)] (false, [(false, [.slice])]) K s := by
  have hll : l.2.1 = B.log.length := h.log.len
  have hlc2 := h.log.le
  obtain ⟨q1, q2, q3⟩ := hs
  have hsrc := h.log.src (i := k) (m := l.2.1 - k) (by omega)
  rw [List.take_of_length_le (by rw [List.length_drop, hll]; exact Nat.le_refl _)] at hsrc
  refine W.call_of (c_Clone (ys := B.log.drop k) hsrc (by rw [List.length_drop, hll]) (by omega)) ?_
  rintro _ s4 ⟨t4, rfl, _, hrow4, m4, hf4⟩
  exact ⟨((t4, ()), ()), rfl, hK t4 s4 hrow4 m4 hf4⟩
def BS.cut (B : BS) (i : Int) (sn : ByteArray) : BS := if i ≤ B.base ∨ i > B.commit then B else B.rebase i (B.termAt i).1 sn (B.log.drop (i - B.base).toNat)
def BS.cuts (B : BS) (i : Int) : Bool := !decide (i ≤ B.base ∨ i > B.commit)
def CutPost (B : BS) (i : Int) (sn : ByteArray) (b : Nat) (l v n m : Tri) (s : PH) (x : Value) (s' : PH) : Prop := ∃ l' : Tri, x = .bool (B.cuts i) ∧ Bal s' b l' v n m (B.cut i sn) ∧ Step (bL b l v n m) (bL b l' v n m) s s'
theorem c_Cut (h : Bal s b l v n m B) (hs : B.Small) (hbs : B.base ≤ 4611686016279904256) (hlc : B.commit ≤ B.lst) (i : Int) (sn : ByteArray) : DCalls Try.prog 30 #[bptr b, .int .i64 i, .string sn] s (CutPost B i sn b l v n m s) := by
  refine ok_Cut b i sn _ s ?_
  unfold vc_Cut
  have hb := h.cell
  have hnl := num_lst hs hbs
  obtain ⟨q1, q2, q3⟩ := id hs
  have hd := lst_def B
  unfold Num at hnl
  have no : (i ≤ B.base ∨ i > B.commit) → CutPost B i sn b l v n m s (.bool false) s := fun hc => ⟨l, by unfold BS.cuts; rw [decide_eq_true hc]; (first | done | rfl), by unfold BS.cut; rw [if_pos hc]; exact h, Step.refl _ _⟩
  simp only [RP_join]
  refine W.join_gen (fun z s' => s' = s ∧ z = () ∧ ¬ (i ≤ B.base ∨ i > B.commit)) ?_ ?_
  · rintro _ s ⟨rfl, rfl, hc⟩
    obtain ⟨k, hk⟩ : ∃ k : Nat, (i - B.base).toNat = k := ⟨_, rfl⟩
    have hw : IntKind.i64.wrap (i - B.base) = (k : Int) := by rw [wrap_in (by omega) (by omega)]; omega
    have hll : l.2.1 = B.log.length := h.log.len
    have hlc2 := h.log.le
    refine W.call_of (c_term h hs (i := i) (by unfold Num; omega)) ?_
    rintro _ s2 ⟨rfl, m2⟩
    refine ⟨(((B.termAt i).1, ()), ((B.termAt i).2, ()), ()), rfl, ?_⟩
    have h2 := h.new m2
    have hb2 := h2.cell
    simp [W.ld_at hb2, hw]
    refine ⟨⟨by omega, by omega⟩, ?_⟩
    refine clone_log h2 hs (k := k) (by omega) ?_
    intro t s3 hrow m3 hf
    have h3 := h2.new m3
    refine W.call_of (c_rebase h3 i (B.termAt i).1 sn hrow) ?_
    rintro _ s4 ⟨rfl, h4, m4⟩
    refine ⟨(), rfl, (t.1, t.2.1, t.2.2), by unfold BS.cuts; rw [decide_eq_false hc]; (first | done | rfl), by unfold BS.cut; rw [if_neg hc, hk]; exact h4, ?_⟩
    have m23 := m2.trans m3
    refine ⟨(m23.mono (by simp)).trans (m4.mono (by simp [bL])), fun z hz => ?_⟩
    simp only [bL, List.mem_cons, List.mem_append] at hz ⊢
    rcases hz with hz | hz | hz
    · exact .inl (.inl hz)
    · exact .inr (m2.none (hf z hz) (by simp))
    · exact .inl (.inr (.inr hz))
  · intro J hJ
    simp [W.ld_at hb, W.br_iff]
    refine ⟨fun h1 => no (.inl h1), fun h1 => ⟨fun h2 => no (.inr h2), fun h2 => hJ _ _ ⟨rfl, rfl, by omega⟩⟩⟩
structure Dl where
  term : Int
  vote : Int
  whole : Bool
  base : Int
  baseTerm : Int
  snap : ByteArray
  from_ : Int
  list : List Ent
abbrev dlCells (D : Dl) (t : Tri) : List Value := [.int .i64 D.term, .int .i64 D.vote, .bool D.whole, .int .i64 D.base, .int .i64 D.baseTerm, .string D.snap, .int .i64 D.from_, .slice t.1 t.2.1 t.2.2]
abbrev dlV (D : Dl) (t : Tri) : Value := .agg #[.int .i64 D.term, .int .i64 D.vote, .bool D.whole, .int .i64 D.base, .int .i64 D.baseTerm, .string D.snap, .int .i64 D.from_, .slice t.1 t.2.1 t.2.2]
def BS.deltaOf (B : BS) : Dl := if B.whole = true then ⟨B.term, B.vote, true, B.base, B.baseTerm, B.snap, B.base + 1, B.log⟩ else ⟨B.term, B.vote, false, 0, 0, ⟨#[]⟩, B.from_, B.log.drop (B.from_ - B.base - 1).toNat⟩
def BS.cleaned (B : BS) : BS := { B with touched := false, whole := false, from_ := B.lst + 1 }
def DeltaPost (B : BS) (b : Nat) (l v n m : Tri) (s : PH) (x : Value) (s' : PH) : Prop :=
  (B.touched = false ∧ x = .tuple #[noDelta, .bool false] ∧ Bal s' b l v n m B ∧ Fw.Mod [] s s') ∨
  (B.touched = true ∧ ∃ t : Tri, x = .tuple #[dlV B.deltaOf t, .bool true] ∧ rowE entE s' 39 t.1 t.2.1 t.2.2 B.deltaOf.list ∧ Bal s' b l v n m B.cleaned ∧ Fw.Mod [b] s s' ∧ ∀ y ∈ Fw.blk t.1, s y = none)
def DelJ (B : BS) (r q : Nat) (s : PH) (z : MDen [(false, [.addr]), (false, [.addr])]) (s' : PH) : Prop :=
  z = ((Addr.mk r 0 none, ()), (Addr.mk q 0 none, ()), ()) ∧ s' q = some (.cells (dlCells B.deltaOf noTri).toArray 53 (0, 0)) ∧ Fw.Mod [] s s'
theorem c_Delta (h : Bal s b l v n m B) (hs : B.Small) (hbs : B.base ≤ 4611686016279904256) (hf : B.whole = false → B.base < B.from_ ∧ B.from_ ≤ B.lst + 1) : DCalls Try.prog 17 #[bptr b] s (DeltaPost B b l v n m s) := by
  refine ok_Delta b _ s ?_
  unfold vc_Delta
  have hb := h.cell
  have hnl := num_lst hs hbs
  obtain ⟨q1, q2, q3⟩ := id hs
  have hd := lst_def B
  unfold Num at hnl
  simp only [RP_nw]
  refine W.nw_of fun r s1 hr m1 k1 => ?_
  have h1 := h.new m1
  have hb1 := h1.cell
  simp only [RP_join]
  refine W.join_gen (fun z s' => s' = s1 ∧ z = ((Addr.mk r 0 none, ()), ()) ∧ B.touched = true) ?_ ?_
  · rintro _ s1 ⟨rfl, rfl, ht⟩
    simp [W.ld_at hb1, -W.nw_iff]
    refine W.nw_of fun q s2 hq m2 k2 => ?_
    have k1' := m2.at k1 (by simp)
    have hb2 := m2.at hb1 (by simp)
    have hrq : r ≠ q := ne_of_known k1 hq
    have hbq : b ≠ q := ne_of_known hb1 hq
    have hbr : b ≠ r := ne_of_known hb hr
    simp [W.st_at k2]
    have m3 : Fw.Mod [] s1 (s2.upd q (.cells #[.int .i64 B.term, .int .i64 B.vote, .bool false, .int .i64 0, .int .i64 0, .string ⟨#[]⟩, .int .i64 B.from_, .slice none 0 0] 53 (0, 0))) := m2.updLater (.inr hq)
    have k3 := PH.upd_same s2 q (.cells #[.int .i64 B.term, .int .i64 B.vote, .bool false, .int .i64 0, .int .i64 0, .string ⟨#[]⟩, .int .i64 B.from_, .slice none 0 0] 53 (0, 0))
    generalize s2.upd q (.cells #[.int .i64 B.term, .int .i64 B.vote, .bool false, .int .i64 0, .int .i64 0, .string ⟨#[]⟩, .int .i64 B.from_, .slice none 0 0] 53 (0, 0)) = s3 at m3 k3 ⊢
    have hb3 := m3.at hb1 (by simp)
    refine W.join_gen (DelJ B r q s1) ?_ ?_
    · rintro _ s4 ⟨rfl, k4, m4⟩
      have h4 := h1.new m4
      have hb4 := h4.cell
      obtain ⟨k, hk, hkl, hw⟩ : ∃ k : Nat, B.deltaOf.list = B.log.drop k ∧ k ≤ B.log.length ∧ IntKind.i64.wrap (IntKind.i64.wrap (B.deltaOf.from_ - B.base) - 1) = (k : Int) := by
        unfold BS.deltaOf
        split
        · exact ⟨0, by simp, Nat.zero_le _, by dsimp only; rw [wrap_in (n := B.base + 1 - B.base) (by omega) (by omega), wrap_in (by omega) (by omega)]; simp; omega⟩
        · rename_i hwf
          have := hf (by simpa using hwf)
          refine ⟨_, rfl, by omega, ?_⟩
          dsimp only
          rw [wrap_in (n := B.from_ - B.base) (by omega) (by omega), wrap_in (by omega) (by omega)]; omega
      have hll : l.2.1 = B.log.length := h4.log.len
      have hlc2 := h4.log.le
      simp [W.ld_at hb4, W.ld_at k4, hw]
      refine ⟨⟨by omega, by omega⟩, ?_⟩
      refine clone_log h4 hs hkl ?_
      intro t s5 hrow m5 hft
      rw [← hk] at hrow
      have h5 := h4.new m5
      have k5 := m5.at k4 (by simp)
      simp [W.st_at k5]
      have hft1 : ∀ g ∈ Fw.blk t.1, s1 g = none := fun g hg => m4.none (hft g hg) (by simp)
      have hft0 : ∀ g ∈ Fw.blk t.1, s g = none := fun g hg => m1.none (hft1 g hg) (by simp)
      have hqt : q ∉ Fw.blk t.1 := row_ne2 hrow k5 (by decide)
      have m6 : Fw.Mod [] s1 (s5.upd q (.cells (dlCells B.deltaOf t).toArray 53 (0, 0))) := (m4.trans m5).updLater (.inr hq)
      have k6 : (s5.upd q (.cells (dlCells B.deltaOf t).toArray 53 (0, 0))) q = some (.cells (dlCells B.deltaOf t).toArray 53 (0, 0)) := PH.upd_same _ _ _
      have hrow6 : rowE entE (s5.upd q (.cells (dlCells B.deltaOf t).toArray 53 (0, 0))) 39 t.1 t.2.1 t.2.2 B.deltaOf.list := hrow.mod (L := [q]) (Mod.upd (by simp)) fun x hx => by simp; rintro rfl; exact hqt hx
      have hgo : ∀ s6, Fw.Mod [] s1 s6 → s6 q = some (.cells (dlCells B.deltaOf t).toArray 53 (0, 0)) → rowE entE s6 39 t.1 t.2.1 t.2.2 B.deltaOf.list →
          W.call Try.prog 23 #[bptr b] (true, []) (fun x => W.ld [.int .i64, .int .i64, .bool, .int .i64, .int .i64, .str, .int .i64, .slice] ⟨q, 0, none⟩ fun x =>
            W.st ⟨r, 0, none⟩ [.int .i64 x.1, .int .i64 x.2.1, .bool x.2.2.1, .int .i64 x.2.2.2.1, .int .i64 x.2.2.2.2.1, .string x.2.2.2.2.2.1, .int .i64 x.2.2.2.2.2.2.1, .slice x.2.2.2.2.2.2.2.1.1 x.2.2.2.2.2.2.2.1.2.1 x.2.2.2.2.2.2.2.1.2.2]
            (W.ld [.int .i64, .int .i64, .bool, .int .i64, .int .i64, .str, .int .i64, .slice] ⟨r, 0, none⟩ fun x =>
              W.ret (DeltaPost B b l v n m s) (.tuple #[.agg #[.int .i64 x.1, .int .i64 x.2.1, .bool x.2.2.1, .int .i64 x.2.2.2.1, .int .i64 x.2.2.2.2.1, .string x.2.2.2.2.2.1, .int .i64 x.2.2.2.2.2.2.1, .slice x.2.2.2.2.2.2.2.1.1 x.2.2.2.2.2.2.2.1.2.1 x.2.2.2.2.2.2.2.1.2.2], .bool true]))) s6 := by
        intro s6 m6 k6 hrow6
        have h6 := h1.new m6
        refine W.call_of (c_clean h6 hs) ?_
        rintro _ s7 ⟨rfl, h7, m7⟩
        refine ⟨(), rfl, ?_⟩
        have k7 := m7.at k6 (by simpa using hbq.symm)
        have kr7 := m7.at (m6.at k1 (by simp)) (by simpa using hbr.symm)
        have hrow7 := hrow6.mod m7 fun x hx => by simp; rintro rfl; have := hft0 _ hx; rw [hb] at this; cases this
        have hrt : r ∉ Fw.blk t.1 := row_ne2 hrow7 kr7 (by decide)
        simp [W.ld_at k7, W.st_at kr7]
        refine .inr ⟨ht, t, rfl, hrow7.mod (L := [r]) (Mod.upd (by simp)) fun x hx => by simp; rintro rfl; exact hrt hx, ?_, ?_, hft0⟩
        · exact Bal.mod (M := [r]) h7 (Mod.upd (by simp)) fun x hx => by simp; rintro rfl; exact h.known _ hx hr
        · exact (((m1.trans m6).mono (by simp)).trans m7).updLater (.inr hr)
      exact hgo _ m6 k6 hrow6
    · intro J hJ
      have hmod : ∀ o, Fw.Mod [] s1 (s3.upd q o) := fun o => m3.updLater (.inr hq)
      simp [W.ld_at hb3, W.br_iff, W.st_at k3, fun o => W.still_at (upd_at hb3 hbq o), fun o => W.ld_at (upd_at hb3 hbq o)]
      have hwb : IntKind.i64.wrap (B.base + 1) = B.base + 1 := wrap_in (by omega) (by omega)
      rw [hwb]
      refine ⟨fun hw => hJ _ _ ⟨rfl, ?_, hmod _⟩, fun hw => hJ _ _ ⟨rfl, ?_, m3⟩⟩
      · rw [PH.upd_same]; unfold BS.deltaOf; rw [if_pos hw]
      · rw [k3]; unfold BS.deltaOf; rw [if_neg (by rw [hw]; simp)]
  · intro J hJ
    simp [W.ld_at hb1, W.br_iff, W.st_at k1]
    refine ⟨fun hf => .inl ⟨hf, rfl, ?_, m1.updLater (.inr hr)⟩, fun ht => hJ _ _ ⟨rfl, rfl, ht⟩⟩
    exact h.new (m1.updLater (.inr hr))
end
end Go.Proofs.Ytfpbiecmobdnnaa
end
section
set_option linter.unusedVariables false
set_option linter.unusedSimpArgs false
set_option maxHeartbeats 1000000
set_option maxRecDepth 100000
namespace Go.Proofs.Ytfpbiecmobdnnaa
open Fw Go
attribute [-simp] Fw.W.ld_iff Fw.W.st_iff
def OpD.size (o : OpD) : Nat := 1 + o.text.size + o.M.list.length + o.M.snap.size
def total (l : List OpD) : Nat := (l.map OpD.size).sum
theorem total_take {l : List OpD} {i : Nat} {o : OpD} (h : l[i]? = some o) : total (l.take (i + 1)) = total (l.take i) + o.size := by
  unfold total
  rw [List.take_add_one, h]; simp
theorem total_take_le (l : List OpD) (i : Nat) : total (l.take i) ≤ total l := by
  unfold total
  conv => rhs; rw [← List.take_append_drop i l]
  rw [List.map_append, List.sum_append]; omega
theorem rdMsg_snap {s : PH} {cs : List Value} {M : Msg} (h : rdMsg.is s cs M) : M.snap.size ≤ 140737488355328 := by
  obtain ⟨x, rfl, c1, c2, rfl, ⟨rfl, h1⟩, d1, d2, rfl, ⟨rfl, h2⟩, e1, e2, rfl, ⟨rfl, h3⟩, f1, f2, rfl, ⟨rfl, h4⟩, g1, g2, rfl, ⟨rfl, h5⟩, i1, i2, rfl, ⟨rfl, h6⟩, j1, j2, rfl, ⟨rfl, h7⟩, k1, k2, rfl, rfl, l1, l2, rfl, ⟨a, n, c, rfl, g3, g4, g5, g6⟩, m1, m2, rfl, ⟨rfl, h9⟩, rfl⟩ := h
  have hr : reachBytes = 140737488351232 := rfl
  rw [hr] at h9
  exact Nat.le_trans h9 (by decide)
theorem rdOp_is2 {s : PH} {cs : List Value} {o : OpD} (h : rdOp.is s cs o) : ∃ t : Tri, cs = opCells o t ∧ MsgIs s (msgCells o.M t) o.M t ∧ o.text.size ≤ 140737488355328 ∧ o.M.snap.size ≤ 140737488355328 := by
  have h0 := h
  obtain ⟨x, rfl, c1, c2, rfl, ⟨rfl, h1⟩, d1, d2, rfl, ⟨rfl, h2⟩, e1, e2, rfl, ⟨rfl, h3⟩, f1, f2, rfl, ⟨rfl, h4⟩, g1, g2, rfl, h5, rfl⟩ := h
  have hr : reachBytes = 140737488351232 := rfl
  obtain ⟨t, ht1, ht2⟩ := rdOp_is h0
  rw [hr] at h4
  exact ⟨t, ht1, ht2, Nat.le_trans h4 (by decide), rdMsg_snap h5⟩
theorem op_at {s : PH} {a : Option Addr} {n : Nat} {ops : List OpD} (h : elems rdOp s a n ops) {i : Nat} {o : OpD} (ho : ops[i]? = some o) :
    ∃ ad t, a = some ad ∧ s.has (ad.add (i * 14)) (opCells o t) ∧ MsgIs s (msgCells o.M t) o.M t ∧ o.text.size ≤ 140737488355328 ∧ o.M.snap.size ≤ 140737488355328 := by
  obtain ⟨ad, cs, h1, h2, h3⟩ := h.2 i o ho
  obtain ⟨t, rfl, h4⟩ := rdOp_is2 h2
  exact ⟨ad, t, h1, h3, h4⟩
def greatB (ops : List OpD) : Bool := decide (total ops > 16384) || decide (ops.length > 200)
def GrZ (ops : List OpD) (a : Option Addr) (n c : Nat) (s : PH) (z : MDen [(false, [.int .i64]), (false, [.slice]), (false, [.int .i64]), (false, [.int .i64])]) (s' : PH) : Prop :=
  ∃ i : Nat, z = ((((total (ops.take i) : Nat) : Int), ()), ((a, n, c), ()), ((n : Int), ()), ((i : Int), ()), ()) ∧ i ≤ n ∧ total (ops.take i) ≤ 16384 ∧ Fw.Mod [] s s'
theorem c_great {s : PH} {a : Option Addr} {n c : Nat} {ops : List OpD} (h : elems rdOp s a n ops) (hn : n ≤ 140737488355328) : DCalls Try.prog 9 #[.slice a n c] s fun v s' => v = .bool (greatB ops) ∧ Fw.Mod [] s s' := by
  refine ok_great a n c _ s ?_
  unfold vc_great
  simp only [RP_loop]
  refine ⟨GrZ ops a n c s, fun z _ => n - z.2.2.2.1.1.toNat, ⟨0, rfl, Nat.zero_le _, Nat.zero_le _, Mod.refl _ _⟩, ?_⟩
  rintro _ s3 ⟨i, rfl, hi, ht, m3⟩
  have hlen := h.1
  simp [W.br_iff, -W.nw_iff]
  refine ⟨fun hlt => ⟨hlt, ?_⟩, fun hge => ?_⟩
  · obtain ⟨o, ho⟩ : ∃ o, ops[i]? = some o := ⟨_, List.getElem?_eq_getElem (by omega)⟩
    obtain ⟨ad, t, rfl, hhas, hM, hs1, hs2⟩ := op_at (h.mono m3.le) ho
    simp only [W.unSome_some]
    refine ld_has_z hhas (y := (o.kind, o.a, o.b, o.text, o.M.kind, o.M.from_, o.M.to, o.M.term, o.M.index, o.M.prev, o.M.commit, o.M.good, t, o.M.snap, ())) rfl ?_
    refine W.nw_of fun r s4 hr m4 k4 => ?_
    have hkl := hM.view.len
    have hroom := hM.room
    have htt := total_take ho
    have hsz : o.size = 1 + o.text.size + o.M.list.length + o.M.snap.size := rfl
    have e1 : IntKind.i64.wrap (((total (ops.take i) : Nat) : Int) + IntKind.i64.wrap (IntKind.i64.wrap (IntKind.i64.wrap (1 + (o.text.size : Int)) + (t.2.1 : Int)) + (o.M.snap.size : Int))) = ((total (ops.take (i + 1)) : Nat) : Int) := by
      rw [wrap_in (n := 1 + (o.text.size : Int)) (by omega) (by omega), wrap_in (n := 1 + (o.text.size : Int) + (t.2.1 : Int)) (by omega) (by omega), wrap_in (n := 1 + (o.text.size : Int) + (t.2.1 : Int) + (o.M.snap.size : Int)) (by omega) (by omega), wrap_in (by omega) (by omega), htt]
      omega
    have hw : IntKind.i64.wrap ((i : Int) + 1) = ((i + 1 : Nat) : Int) := by rw [wrap_in (by omega) (by omega)]; simp
    have m5 : ∀ o', Fw.Mod [] s (s4.upd r o') := fun o' => (m3.trans m4).updLater (.inr (m3.none hr (by simp)))
    simp [W.st_at k4, W.br_iff, e1, hw]
    refine ⟨fun hb => ⟨?_, m5 _⟩, fun hb => ⟨⟨i + 1, by simp, by omega, by omega, m5 _⟩, by omega⟩⟩
    have := total_take_le ops (i + 1)
    unfold greatB
    rw [decide_eq_true (by omega)]; (first | done | rfl)
  · have : ops.take i = ops := List.take_of_length_le (by omega)
    rw [this] at ht
    refine ⟨?_, m3⟩
    unfold greatB
    rw [decide_eq_false (p := total ops > 16384) (by omega), hlen]; simp; omega
def BS.did (B : BS) (o : OpD) : BS × List Msg × Int :=
  if o.kind = 1 then (B.timeout.1, B.timeout.2, 0) else
  if o.kind = 2 then (B, if B.role = 2 then B.feeds else [], 0) else
  if o.kind = 3 then ((B.propose o.a o.b o.text).2.1, (B.propose o.a o.b o.text).2.2, (B.propose o.a o.b o.text).1) else
  if o.kind = 4 then ((B.take o.M).1, (B.take o.M).2, 0) else
  if o.kind = 5 then (B.cut o.a o.text, [], if B.cuts o.a = true then 1 else 0) else (B, [], 0)
def DidPost (R : BS × List Msg × Int) (b : Nat) (L : List Nat) (s : PH) (x : Value) (s' : PH) : Prop := ∃ y, x = .tuple #[y, .int .i64 R.2.2] ∧ OpPost (R.1, R.2.1) b L s y s'
section
variable {s : PH} {b : Nat} {l v n m : Tri} {B : BS}
theorem DidPost.of {R : BS × List Msg} {L L' : List Nat} {k : Int} {s0 s : PH} {y : Value} {s' : PH} (st : Step L L' s0 s) (h : OpPost R b L' s y s') : DidPost (R.1, R.2, k) b L s0 (.tuple #[y, .int .i64 k]) s' :=
  ⟨y, rfl, OpPost.start h st⟩
theorem c_did (h : Bal s b l v n m B) {z : Int} (hI : B.Inv z) (hz : 0 ≤ z ∧ z ≤ 900000) (o : OpD) (t : Tri) (ho : MsgIs s (msgCells o.M t) o.M t) (hll : o.M.list.length ≤ 20000) :
    DCalls Try.prog 12 #[bptr b, opV o t] s (DidPost (B.did o) b (bL b l v n m) s) := by
  refine ok_did b o.kind o.a o.b o.text o.M.kind o.M.from_ o.M.to o.M.term o.M.index o.M.prev o.M.commit o.M.good t.1 t.2.1 t.2.2 o.M.snap _ s ?_
  have hR := hI.run
  have hlen := hI.len
  have hFAR : FAR = 1099511627776 := rfl
  have ht := hI.term
  unfold vc_did
  simp only [RP_nw]
  refine W.nw_of fun r s1 hr m1 k1 => ?_
  have h1 := h.new m1
  have st1 : Step (bL b l v n m) (bL b l v n m) s s1 := ⟨m1.mono (by simp), fun x hx => .inl hx⟩
  unfold BS.did
  simp [W.ld_at k1, W.br_iff]
  refine ⟨fun e => ?_, fun e1 => ⟨fun e => ?_, fun e2 => ⟨fun e => ?_, fun e3 => ⟨fun e => ?_, fun e4 => ⟨fun e => ?_, fun e5 => ?_⟩⟩⟩⟩⟩
  · rw [if_pos e]
    refine W.call_of (c_Timeout h1 hR.ok hR.lc (by omega) (by unfold Num; omega)) ?_
    intro x s2 hp
    obtain ⟨t', q⟩ := hp
    obtain ⟨ps, l', v', n', m', rfl, q⟩ := q
    exact ⟨((t', ()), ()), rfl, DidPost.of st1 ⟨t', ps, l', v', n', m', rfl, q⟩⟩
  · rw [if_neg e1, if_pos e]
    refine W.call_of (c_Beat h1 hR.ok fun hr => (hR.ld hr).fed) ?_
    intro x s2 hp
    obtain ⟨t', ps, l', v', n', m', rfl, q⟩ := hp
    exact ⟨((t', ()), ()), rfl, DidPost.of st1 ⟨t', ps, l', v', n', m', rfl, q⟩⟩
  · rw [if_neg e1, if_neg e2, if_pos e]
    refine W.call_of (c_Propose h1 hR.ok hR.ld hR.lc (by omega) o.a o.b o.text) ?_
    rintro _ s2 ⟨y, rfl, hp⟩
    generalize B.propose o.a o.b o.text = R at hp
    obtain ⟨t', ps, l', v', n', m', rfl, q⟩ := hp
    exact ⟨((R.1, ()), (t', ()), ()), rfl, DidPost.of st1 ⟨t', ps, l', v', n', m', rfl, q⟩⟩
  · rw [if_neg e1, if_neg e2, if_neg e3, if_pos e]
    refine W.call_of (c_copied (ho.mono m1.le)) ?_
    rintro _ s2 ⟨t', rfl, hrow, m2, hf⟩
    refine ⟨((o.M.kind, o.M.from_, o.M.to, o.M.term, o.M.index, o.M.prev, o.M.commit, o.M.good, t', o.M.snap, ()), ()), rfl, ?_⟩
    have st2 : Step (bL b l v n m) (bL b l v n m) s s2 := st1.trans ⟨m2.mono (by simp), fun x hx => .inl hx⟩
    refine W.call_of (c_Take (h1.new m2) hR (by omega) o.M t' hrow (by omega)) ?_
    intro x s3 hp
    obtain ⟨t3, ps, l', v', n', m', rfl, q⟩ := hp
    exact ⟨((t3, ()), ()), rfl, DidPost.of st2 ⟨t3, ps, l', v', n', m', rfl, q⟩⟩
  · rw [if_neg e1, if_neg e2, if_neg e3, if_neg e4, if_pos e]
    refine W.call_of (c_Cut h1 hR.ok.small hR.ok.base hR.lc o.a o.text) ?_
    rintro _ s2 ⟨l', rfl, h2, st2⟩
    refine ⟨((B.cuts o.a, ()), ()), rfl, ?_⟩
    simp only [W.br_iff]
    refine ⟨fun hc => ?_, fun hc => ?_⟩
    · have hc : B.cuts o.a = true := hc
      rw [if_pos hc]; exact ⟨_, rfl, OpPost.noMsgs h2 (st1.trans st2)⟩
    · have hc : B.cuts o.a = false := hc
      rw [hc]; exact ⟨_, rfl, OpPost.noMsgs h2 (st1.trans st2)⟩
  · rw [if_neg e1, if_neg e2, if_neg e3, if_neg e4, if_neg e5]
    exact ⟨_, rfl, OpPost.noMsgs h1 st1⟩
theorem Inv.did {B : BS} {z : Int} (h : B.Inv z) (o : OpD) (hz : 0 ≤ z ∧ z ≤ 900000) (hll : o.M.list.length ≤ 20000) : (B.did o).1.Inv (z + (2 + o.M.list.length)) := by
  unfold BS.did
  split
  · exact (Inv.timeout h (by omega)).mono (by omega)
  · split
    · exact h.mono (by omega)
    · split
      · exact (Inv.propose h (by omega) o.a o.b o.text).mono (by omega)
      · split
        · exact (Inv.take h o.M (by omega)).mono (by omega)
        · split
          · unfold BS.cut
            dsimp only
            split
            · exact h.mono (by omega)
            · exact (Inv.cut h (by omega) (by omega) (by omega) _ o.text).mono (by omega)
          · exact h.mono (by omega)
end
end Go.Proofs.Ytfpbiecmobdnnaa
end
section
set_option linter.unusedVariables false
set_option linter.unusedSimpArgs false
set_option maxHeartbeats 1000000
namespace Go.Proofs.Ytfpbiecmobdnnaa
open Fw Go
theorem mx_le (a b : Int) : a ≤ mx a b := by unfold mx; split <;> omega
theorem entry_same {B B' : BS} (h1 : B'.base = B.base) (h2 : B'.log = B.log) (i : Int) : B'.entry i = B.entry i := by
  unfold BS.entry BS.lst; rw [h1, h2]
theorem entry_set {B : BS} {j : Int} (h1 : B.base < j) (h2 : j ≤ B.lst + 1) (ys : List Ent) {i : Int} (hi : i < j) : (B.set j ys).entry i = B.entry i := by
  have hl := set_lst h1 h2 ys
  have hd := lst_def B
  by_cases hb : i ≤ B.base
  · rw [BS.entry_out (B := B) (.inl hb), BS.entry_out (B := B.set j ys) (.inl hb)]
  · have e1 : (B.set j ys).entry i = (B.set j ys).log[(i - B.base - 1).toNat]? := by
      unfold BS.entry; rw [if_neg (by rw [hl]; show ¬ (i ≤ B.base ∨ _); omega)]; (first | done | rfl)
    have e2 : B.entry i = B.log[(i - B.base - 1).toNat]? := by unfold BS.entry; rw [if_neg (by omega)]
    rw [e1, e2]
    show (B.log.take (j - B.base - 1).toNat ++ ys)[(i - B.base - 1).toNat]? = _
    rw [List.getElem?_append_left (by rw [List.length_take]; omega), List.getElem?_take_of_lt (by omega)]
theorem entry_rebase {B : BS} {k : Int} (h1 : B.base ≤ k) (h2 : k ≤ B.lst) (t : Int) (sn : ByteArray) {i : Int} (hi : k < i) : (B.rebase k t sn (B.log.drop (k - B.base).toNat)).entry i = B.entry i := by
  have hl := rebase_lst h1 h2 t sn
  have hd := lst_def B
  by_cases hb : B.lst < i
  · rw [BS.entry_out (B := B) (.inr hb), BS.entry_out (B := B.rebase k t sn (B.log.drop (k - B.base).toNat)) (.inr (by rw [hl]; exact hb))]
  · have e1 : (B.rebase k t sn (B.log.drop (k - B.base).toNat)).entry i = (B.log.drop (k - B.base).toNat)[(i - k - 1).toNat]? := by
      unfold BS.entry; rw [if_neg (by rw [hl]; show ¬ (i ≤ k ∨ _); omega)]; (first | done | rfl)
    have e2 : B.entry i = B.log[(i - B.base - 1).toNat]? := by unfold BS.entry; rw [if_neg (by omega)]
    rw [e1, e2, List.getElem?_drop]
    congr 1; omega
structure Keeps (B B' : BS) : Prop where
  base : B.base ≤ B'.base
  com : B.commit ≤ B'.commit
  ent : ∀ i, B'.base < i → i ≤ B.commit → B'.entry i = B.entry i
  led : B.role = 2 → B'.role = 2 → ∀ i, B'.base < i → i ≤ B.lst → B'.entry i = B.entry i
theorem Keeps.log {B B' : BS} (h1 : B'.base = B.base) (h2 : B'.log = B.log) (h3 : B.commit ≤ B'.commit) : Keeps B B' :=
  ⟨by omega, h3, fun i _ _ => entry_same h1 h2 i, fun _ _ i _ _ => entry_same h1 h2 i⟩
theorem Keeps.refl (B : BS) : Keeps B B := Keeps.log rfl rfl (Int.le_refl _)
/-- from one that has the same log and commit -/
theorem Keeps.from_ {B B1 B2 : BS} (h1 : B1.base = B.base) (h2 : B1.log = B.log) (h3 : B1.commit = B.commit) (hr : B.role = 2 → B1.role = 2 ∨ B2.role ≠ 2) (h : Keeps B1 B2) : Keeps B B2 := by
  have hl : B1.lst = B.lst := by unfold BS.lst; rw [h1, h2]
  refine ⟨by have := h.base; omega, by have := h.com; omega, fun i g1 g2 => (h.ent i g1 (by omega)).trans (entry_same h1 h2 i), fun r1 r2 i g1 g2 => ?_⟩
  rcases hr r1 with hr | hr
  · exact (h.led hr r2 i g1 (by omega)).trans (entry_same h1 h2 i)
  · exact absurd r2 hr
/-- to one that has the same log, and no less commit -/
theorem Keeps.to_ {B B1 B2 : BS} (h : Keeps B B1) (h1 : B2.base = B1.base) (h2 : B2.log = B1.log) (h3 : B1.commit ≤ B2.commit) (hr : B2.role = 2 → B1.role = 2) : Keeps B B2 :=
  ⟨by have := h.base; omega, by have := h.com; omega, fun i g1 g2 => (entry_same h1 h2 i).trans (h.ent i (by omega) g2), fun r1 r2 i g1 g2 => (entry_same h1 h2 i).trans (h.led r1 (hr r2) i (by omega) g2)⟩
theorem Keeps.set {B : BS} {j : Int} (hb : B.base ≤ B.commit) (h1 : B.commit < j) (h2 : j ≤ B.lst + 1) (hr : B.role = 2 → j = B.lst + 1) (ys : List Ent) : Keeps B (B.set j ys) :=
  ⟨Int.le_refl _, Int.le_refl _, fun i _ g2 => entry_set (by omega) h2 ys (by omega), fun r1 _ i _ g2 => entry_set (by omega) h2 ys (by have := hr r1; omega)⟩
theorem Keeps.settled {B B1 : BS} (h : Keeps B B1) (hlc : B1.commit ≤ B1.lst) : Keeps B B1.settled.1 := by
  obtain ⟨c, hc, g1, g2⟩ := settled_com B1 hlc
  rw [hc]; exact h.to_ rfl rfl g1 fun e => e
theorem Keeps.counted {B : BS} {z : Int} (h : B.Inv z) (hz : z + 1 ≤ 1000000) (hr : B.role ≠ 2) : Keeps B B.counted.1 := by
  unfold BS.counted
  split
  · exact Keeps.refl B
  · have hlc := h.run.lc
    have hb := h.run.ok.com
    have hI : (B.lead2.set (B.lst + 1) [{ noEnt with term := B.term }]).Inv (z + 1) := Inv.set (ys := [{ noEnt with term := B.term }]) (Inv.lead2 h) (by show B.commit < B.lst + 1; omega) (Int.le_refl _) hz fun _ => rfl
    refine Keeps.settled ?_ hI.run.lc
    refine Keeps.from_ (B1 := B.lead2) rfl rfl rfl (fun e => absurd e hr) ?_
    exact Keeps.set (B := B.lead2) hb (by show B.commit < B.lst + 1; omega) (Int.le_refl _) (fun _ => rfl) _
theorem Keeps.timeout {B : BS} {z : Int} (h : B.Inv z) (hz : z + 2 ≤ 1000000) : Keeps B B.timeout.1 := by
  unfold BS.timeout
  split
  · exact Keeps.refl B
  · rename_i hr
    exact Keeps.from_ (B1 := B.stood) rfl rfl rfl (fun e => absurd e hr) (Keeps.counted (Inv.stood h) (by omega) (by show ¬ (1 : Int) = 2; omega))
theorem Keeps.propose {B : BS} {z : Int} (h : B.Inv z) (hz : z + 1 ≤ 1000000) (at_ born : Int) (text : ByteArray) : Keeps B (B.propose at_ born text).2.1 := by
  unfold BS.propose
  split
  · have hlc := h.run.lc
    have hI : (B.proposed at_ born text).Inv (z + 1) := Inv.set (ys := [⟨B.term, at_, born, text⟩]) h (by omega) (Int.le_refl _) hz fun _ => rfl
    exact Keeps.settled (Keeps.set h.run.ok.com (by omega) (Int.le_refl _) (fun _ => rfl) _) hI.run.lc
  · exact Keeps.refl B
theorem Keeps.merge {B : BS} (hr : B.role ≠ 2) (hb : B.base ≤ B.commit) : ∀ (xs : List Ent) (i : Int), B.commit ≤ i → i ≤ B.lst → Keeps B (B.merge i xs)
  | [], i, h1, h2 => Keeps.refl B
  | e :: r, i, h1, h2 => by
    simp only [BS.merge]
    split
    · rename_i ht
      exact Keeps.merge hr hb r (i + 1) (by omega) (termAt_le (by rw [ht]) (by omega))
    · exact Keeps.set hb (by omega) (by omega) (fun e => absurd e hr) _
theorem merge_role {B : BS} : ∀ (xs : List Ent) (i : Int), (B.merge i xs).role = B.role
  | [], i => rfl
  | e :: r, i => by
    simp only [BS.merge]
    split
    · exact merge_role r (i + 1)
    · rfl
theorem Keeps.fed {B : BS} {z : Int} (h : B.Inv z) (M : Msg) : Keeps B (B.fed M).1 := by
  have hlc := h.run.lc
  have hb := h.run.ok.com
  have hfl : Keeps B { B with role := 0, lead := M.from_ } := Keeps.log rfl rfl (Int.le_refl _)
  unfold BS.fed
  split
  · exact Keeps.refl B
  · rename_i hr
    dsimp only
    split
    · exact hfl
    · split
      · exact hfl
      · rename_i hne hc
        have hr0 : ({ B with role := 0, lead := M.from_ } : BS).role ≠ 2 := by show ¬ (0 : Int) = 2; omega
        have go : ∀ (xs : List Ent) (i : Int), B.commit ≤ i → i ≤ B.lst → Keeps B { ({ B with role := 0, lead := M.from_ }.merge i xs) with commit := mx ({ B with role := 0, lead := M.from_ }.merge i xs).commit (mn M.commit (M.index + M.list.length)) } := by
          intro xs i h1 h2
          have hk : Keeps B ({ B with role := 0, lead := M.from_ }.merge i xs) := Keeps.from_ (B1 := { B with role := 0, lead := M.from_ }) rfl rfl rfl (fun e => absurd e hr) (Keeps.merge hr0 hb xs i h1 h2)
          exact hk.to_ rfl rfl (mx_le _ _) fun e => e
        split
        · exact go _ _ (Int.le_refl _) hlc
        · rename_i hge
          have hyes : B.termAt M.index = (M.prev, true) := by
            by_cases e : B.termAt M.index = (M.prev, true)
            · exact e
            · exact absurd ⟨hge, e⟩ hc
          exact go _ _ (by omega) (termAt_le (by rw [hyes]) (by omega))
theorem Keeps.given {B : BS} {z : Int} (h : B.Inv z) (M : Msg) : Keeps B (B.given M).1 := by
  have hlc := h.run.lc
  have hb := h.run.ok.com
  unfold BS.given
  split
  · exact Keeps.refl B
  · rename_i hr
    split
    · exact Keeps.log rfl rfl (Int.le_refl _)
    · rename_i hgt
      exact ⟨by show B.base ≤ M.index; omega, by show B.commit ≤ M.index; omega, fun i g1 g2 => by have g1 : M.index < i := g1; omega, fun r1 => absurd r1 hr⟩
theorem Keeps.cut {B : BS} {z : Int} (h : B.Inv z) (i : Int) (sn : ByteArray) : Keeps B (B.cut i sn) := by
  have hlc := h.run.lc
  unfold BS.cut
  split
  · exact Keeps.refl B
  · rename_i hc
    exact ⟨by show B.base ≤ i; omega, Int.le_refl _, fun j g1 _ => entry_rebase (by omega) (by omega) _ _ g1, fun _ _ j g1 _ => entry_rebase (by omega) (by omega) _ _ g1⟩
theorem Keeps.heard {B : BS} {z : Int} (h : B.Inv z) (M : Msg) : Keeps B (B.heard M).1 := by
  unfold BS.heard
  split
  · exact Keeps.refl B
  · rename_i hr
    have hr : B.role = 2 := by omega
    dsimp only
    split
    · exact Keeps.log rfl rfl (Int.le_refl _)
    · have hk : Keeps B (B.fedTo M.from_.toNat M.index).settled.1 := Keeps.settled (Keeps.log rfl rfl (Int.le_refl _)) h.run.lc
      split <;> exact hk
theorem Keeps.asked (B : BS) (M : Msg) : Keeps B (B.asked M).1 := by
  unfold BS.asked
  split
  · exact Keeps.log rfl rfl (Int.le_refl _)
  · exact Keeps.refl B
theorem Keeps.voted {B : BS} {z : Int} (h : B.Inv z) (M : Msg) (hz : z + 1 ≤ 1000000) : Keeps B (B.voted M).1 := by
  unfold BS.voted
  split
  · exact Keeps.refl B
  · rename_i hr
    have hk := h.run.ok
    have hr1 : B.role = 1 := by
      by_cases e : B.role = 1
      · exact e
      · exact absurd (.inl e) hr
    refine Keeps.from_ (B1 := { B with votes := B.votes.set M.from_.toNat true }) rfl rfl rfl (fun e => by omega) (Keeps.counted (z := z) ⟨⟨⟨⟨hk.small.base0, hk.small.base1, hk.small.log1⟩, hk.base, hk.size, hk.id, hk.com⟩, h.run.lc, fun hr => ?_, fun hr => ⟨(h.run.ld hr).nlen, (h.run.ld hr).mlen, (h.run.ld hr).nr, (h.run.ld hr).mr⟩⟩, h.len, h.far, h.term, h.vote⟩ hz (by show B.role ≠ 2; omega))
    show (List.set _ _ _).length = _
    rw [List.length_set]; exact h.run.vt hr
theorem does_role {B : BS} (h : B.role = 0) (M : Msg) : (B.does M).1.role ≠ 2 := by
  unfold BS.does
  split
  · unfold BS.asked; split <;> (show ¬ B.role = 2; omega)
  · split
    · unfold BS.voted; rw [if_pos (.inl (by omega))]; show ¬ B.role = 2; omega
    · split
      · unfold BS.fed; rw [if_neg (by omega)]
        dsimp only
        split
        · show ¬ (0 : Int) = 2; omega
        · split
          · show ¬ (0 : Int) = 2; omega
          · split
            · have := merge_role (B := { B with role := 0, lead := M.from_ }) (M.list.drop (B.commit - M.index).toNat) B.commit
              dsimp only at this ⊢
              omega
            · have := merge_role (B := { B with role := 0, lead := M.from_ }) M.list M.index
              dsimp only at this ⊢
              omega
      · split
        · unfold BS.heard; rw [if_pos (by omega)]; show ¬ B.role = 2; omega
        · unfold BS.given; rw [if_neg (by omega)]
          split
          · show ¬ (0 : Int) = 2; omega
          · show ¬ (0 : Int) = 2; omega
theorem Keeps.does {B : BS} {z : Int} (h : B.Inv z) (M : Msg) (hz : z + 1 ≤ 1000000) : Keeps B (B.does M).1 := by
  unfold BS.does
  split
  · exact Keeps.asked B M
  · split
    · exact Keeps.voted h M hz
    · split
      · exact Keeps.fed h M
      · split
        · exact Keeps.heard h M
        · exact Keeps.given h M
theorem Keeps.take {B : BS} {z : Int} (h : B.Inv z) (M : Msg) (hz : 0 ≤ z ∧ z + 1 ≤ 1000000) : Keeps B (B.take M).1 := by
  unfold BS.take
  split
  · exact Keeps.refl B
  · rename_i hst
    have hst : M.strange B.id B.size = false := by simpa using hst
    unfold Msg.strange at hst
    simp only [Bool.or_eq_false_iff, decide_eq_false_iff_not] at hst
    obtain ⟨f1, f2, f3, f4, f5, f6, f7, f8, f9⟩ := hst
    by_cases ht : M.term > B.term
    · have hs : B.seen M = B.turned M.term (-1) 0 := by unfold BS.seen; rw [if_pos ht]
      rw [hs]
      split
      · exact Keeps.log rfl rfl (Int.le_refl _)
      · refine Keeps.from_ (B1 := B.turned M.term (-1) 0) rfl rfl rfl (fun _ => .inr (does_role rfl M)) ?_
        exact Keeps.does (Inv.turned h (by omega) hz.1) M hz.2
    · have hs : B.seen M = B := by unfold BS.seen; rw [if_neg ht]
      rw [hs]
      split
      · exact Keeps.refl B
      · exact Keeps.does h M hz.2
theorem Keeps.did {B : BS} {z : Int} (h : B.Inv z) (o : OpD) (hz : 0 ≤ z ∧ z ≤ 900000) : Keeps B (B.did o).1 := by
  unfold BS.did
  split
  · exact Keeps.timeout h (by omega)
  · split
    · exact Keeps.refl B
    · split
      · exact Keeps.propose h (by omega) o.a o.b o.text
      · split
        · exact Keeps.take h o.M (by omega)
        · split
          · exact Keeps.cut h o.a o.text
          · exact Keeps.refl B
end Go.Proofs.Ytfpbiecmobdnnaa
end
section
set_option linter.unusedVariables false
set_option maxHeartbeats 1000000
namespace Go.Proofs.Ytfpbiecmobdnnaa
open Fw Fw.W Go
/-- lintel/lintelref09.New -/
def vc_rNew {W : Type} (π : Prims W) (id size : Int) : W :=
  π.ite (decide (size < (1 : Int))) (
    π.ret (Go.Value.tuple #[(Go.Value.pointer (none)), (Go.Value.bool (false))])
  ) (
    π.ite (decide (size > (5 : Int))) (
      π.ret (Go.Value.tuple #[(Go.Value.pointer (none)), (Go.Value.bool (false))])
    ) (
      π.ite (decide (id < (0 : Int))) (
        π.ret (Go.Value.tuple #[(Go.Value.pointer (none)), (Go.Value.bool (false))])
      ) (
        π.ite (decide (id ≥ size)) (
          π.ret (Go.Value.tuple #[(Go.Value.pointer (none)), (Go.Value.bool (false))])
        ) (
          π.nw (Go.Obj.cells #[(Go.Value.int (IntKind.i64) (id)), (Go.Value.int (IntKind.i64) (size)), (Go.Value.int (IntKind.i64) ((0 : Int))), (Go.Value.int (IntKind.i64) ((-1 : Int))), (Go.Value.int (IntKind.i64) ((0 : Int))), (Go.Value.int (IntKind.i64) ((-1 : Int))), (Go.Value.int (IntKind.i64) ((0 : Int))), (Go.Value.int (IntKind.i64) ((0 : Int))), (Go.Value.string (ByteArray.mk #[])), (Go.Value.slice (none) ((0 : Nat)) ((0 : Nat))), (Go.Value.bool (false)), (Go.Value.bool (false)), (Go.Value.bool (false)), (Go.Value.bool (false)), (Go.Value.bool (false)), (Go.Value.int (IntKind.i64) ((0 : Int))), (Go.Value.int (IntKind.i64) ((0 : Int))), (Go.Value.int (IntKind.i64) ((0 : Int))), (Go.Value.int (IntKind.i64) ((0 : Int))), (Go.Value.int (IntKind.i64) ((0 : Int))), (Go.Value.int (IntKind.i64) ((0 : Int))), (Go.Value.int (IntKind.i64) ((0 : Int))), (Go.Value.int (IntKind.i64) ((0 : Int))), (Go.Value.int (IntKind.i64) ((0 : Int))), (Go.Value.int (IntKind.i64) ((0 : Int))), (Go.Value.int (IntKind.i64) ((0 : Int))), (Go.Value.bool (false)), (Go.Value.bool (false)), (Go.Value.int (IntKind.i64) ((1 : Int))), (Go.Value.slice (none) ((0 : Nat)) ((0 : Nat)))] (78 : Nat) ((0 : Nat), (0 : Nat))) fun r0 =>
          π.ret (Go.Value.tuple #[(Go.Value.pointer (some (Addr.mk r0 (0 : Nat) none))), (Go.Value.bool (true))])
        )
      )
    )
  )
def ann_rNew : Ann := { draws := [], join := [], loop := [] }
set_option maxRecDepth 100000 in
theorem eq_rNew {W : Type} (π : Prims W) (id size : Int) : bodyW π Try.prog ann_rNew (mkFr (maskA [] [.v (.int .i64 id), .v (.int .i64 size)] 0) 25) Try.f13 (bodyOf Try.f13) (mkFr (List.map some [.v (.int .i64 id), .v (.int .i64 size)]) 25) = vc_rNew π id size := by kernel_rfl
theorem ok_rNew (id size : Int) (R : Value → PH → Prop) (s : PH) (h : vc_rNew (RP Try.prog R) id size s) : DCalls Try.prog 13 (List.map AV.val [.v (.int .i64 id), .v (.int .i64 size)]).toArray s R :=
  calls_vc (c := bodyOf Try.f13) (ann := ann_rNew) (by kernel_rfl) Try.func13 rfl (by kernel_rfl) [.v (.int .i64 id), .v (.int .i64 size)] [] (by rw [Try.ntmps13]; exact Nat.le_of_ble_eq_true rfl) (by rw [show Try.f13.ntmps = 25 from Try.ntmps13, eq_rNew]; exact h)
end Go.Proofs.Ytfpbiecmobdnnaa
end
section
set_option linter.unusedVariables false
set_option linter.unusedSimpArgs false
set_option maxHeartbeats 1000000
set_option maxRecDepth 100000
namespace Go.Proofs.Ytfpbiecmobdnnaa
open Fw Go
attribute [-simp] Fw.W.ld_iff Fw.W.st_iff
/-- what was seen is still there -/
def Seen (B : BS) (f : List (Int × Ent)) : Prop := ∀ i e, f.lookup i = some e → i ≤ B.commit ∧ (B.base < i → B.entry i = some e)
theorem Seen.keeps {B B' : BS} {f : List (Int × Ent)} (h : Seen B f) (hk : Keeps B B') : Seen B' f := fun i e hi => by
  obtain ⟨h1, h2⟩ := h i e hi
  have := hk.base
  have := hk.com
  exact ⟨by omega, fun hb => (hk.ent i hb h1).trans (h2 (by omega))⟩
abbrev opsK : KeyE Int := intKey .i64
structure StI (s0 s : PH) (b w : Nat) (l v n m : Tri) (B : BS) (f : List (Int × Ent)) (z : Int) : Prop where
  bal : Bal s b l v n m B
  inv : B.Inv z
  map : isMap opsK entV s w f
  step : Step [] (w :: bL b l v n m) s0 s
  apart : w ∉ bL b l v n m
  seen : Seen B f
theorem StI.new {s0 s s' : PH} {b w : Nat} {l v n m : Tri} {B : BS} {f : List (Int × Ent)} {z : Int} (h : StI s0 s b w l v n m B f z) (hm : Fw.Mod [] s s') : StI s0 s' b w l v n m B f z :=
  ⟨h.bal.new hm, h.inv, h.map.mod hm (by simp), h.step.trans ⟨hm.mono (by simp), fun x hx => .inl hx⟩, h.apart, h.seen⟩
theorem StI.known {s0 s : PH} {b w : Nat} {l v n m : Tri} {B : BS} {f : List (Int × Ent)} {z : Int} (h : StI s0 s b w l v n m B f z) : s w ≠ none := h.map.known
theorem StI.put {s0 s : PH} {b w : Nat} {l v n m : Tri} {B : BS} {f : List (Int × Ent)} {z : Int} (h : StI s0 s b w l v n m B f z) {o : Obj} {i : Int} {e : Ent} (hm : isMap opsK entV (s.upd w o) w (aset f i e)) (h1 : i ≤ B.commit) (h2 : B.entry i = some e) :
    StI s0 (s.upd w o) b w l v n m B (aset f i e) z := by
  refine ⟨h.bal.mod (M := [w]) (Mod.upd (by simp)) fun x hx => by simp; rintro rfl; exact h.apart hx, h.inv, hm, h.step.trans ⟨Mod.upd (by simp), fun x hx => .inl hx⟩, h.apart, fun j e' hj => ?_⟩
  rw [lookup_aset] at hj
  split at hj
  · rename_i hji
    have hji : j = i := by simpa using hji
    cases hj; subst hji
    exact ⟨h1, fun _ => h2⟩
  · exact h.seen j e' hj
theorem StI.did {s0 s s' : PH} {b w : Nat} {l v n m l' v' n' m' : Tri} {B B' : BS} {f : List (Int × Ent)} {z z' : Int} (h : StI s0 s b w l v n m B f z) (hB : Bal s' b l' v' n' m' B') (st : Step (bL b l v n m) (bL b l' v' n' m') s s') (hI : B'.Inv z') (hk : Keeps B B') : StI s0 s' b w l' v' n' m' B' f z' := by
  refine ⟨hB, hI, h.map.mod st.mod h.apart, h.step.trans ⟨st.mod.mono fun x hx => by simp [hx], fun x hx => ?_⟩, fun hx => ?_, h.seen.keeps hk⟩
  · rcases List.mem_cons.1 hx with rfl | hx
    · exact .inl (by simp)
    · rcases st.new x hx with g | g
      · exact .inl (by simp [g])
      · exact .inr g
  · rcases st.new w hx with g | g
    · exact h.apart g
    · exact h.known g
abbrev zOf (ops : List OpD) (k : Nat) : Int := (k + total (ops.take k) : Nat)
end Go.Proofs.Ytfpbiecmobdnnaa
end
section
set_option linter.unusedVariables false
set_option linter.unusedSimpArgs false
set_option maxHeartbeats 1000000
set_option maxRecDepth 100000
namespace Go.Proofs.Ytfpbiecmobdnnaa
open Fw Go
structure DlIs (s : PH) (D : Dl) (t : Tri) : Prop where
  view : View s t.1 t.2.1 t.2.2 D.list
  room : t.2.1 * 40 ≤ 140737488355328
/-- one delta laid on; none: refused -/
def BS.lay (B : BS) (D : Dl) : Option BS :=
  if D.term < 0 ∨ D.term > 2 * FAR ∨ D.vote < -1 ∨ D.vote ≥ B.size then none else
  if D.whole = true then
    if D.base < 0 ∨ D.base > 2 * FAR ∨ D.baseTerm < 0 ∨ D.baseTerm > 2 * FAR then none else some { B with base := D.base, baseTerm := D.baseTerm, snap := D.snap, log := D.list, term := D.term, vote := D.vote }
  else if D.from_ ≤ B.base ∨ D.from_ > B.lst + 1 then none else some { B with log := B.log.take (D.from_ - B.base - 1).toNat ++ D.list, term := D.term, vote := D.vote }
def BS.lays : BS → List Dl → Option BS
  | B, [] => some B
  | B, D :: l => match B.lay D with
    | some B' => B'.lays l
    | none => none
def BS.loaded (id size : Int) (l : List Dl) : Option BS := ((newBS id size).lays l).map fun B => { B with commit := B.base, touched := false, whole := false, from_ := B.lst + 1 }
end Go.Proofs.Ytfpbiecmobdnnaa
end
