/-
  The ballot: what a majority has; a candidate that leads.
  Conditions: none; it proves no statement by itself.
-/
import Derived.Test.YtfpbiecmobdnnaaC3
set_option linter.unusedVariables false
set_option linter.unusedSimpArgs false
set_option maxHeartbeats 1000000
namespace Go.Proofs.Ytfpbiecmobdnnaa
open Fw Go
attribute [-simp] Fw.W.ld_iff Fw.W.st_iff

/-- how many of the first k have entry i -/
def BS.cnt (B : BS) (i : Int) (k : Nat) : Nat := ((List.range k).filter fun (j : Nat) => !((j : Int) == B.id) && decide (i ≤ (B.mat[j]?).getD 0)).length
theorem BS.cnt_succ (B : BS) (i : Int) (k : Nat) : B.cnt i (k + 1) = if (k : Int) ≠ B.id ∧ i ≤ (B.mat[k]?).getD 0 then B.cnt i k + 1 else B.cnt i k := by
  unfold BS.cnt
  rw [List.range_succ, List.filter_append, List.length_append]
  by_cases h : (k : Int) = B.id
  · simp [h]
  · have h' : ((k : Int) == B.id) = false := by simpa using h
    by_cases g : i ≤ (B.mat[k]?).getD 0
    · simp [h, h', g]
    · simp [h, h', g]
theorem BS.cnt_le (B : BS) (i : Int) (k : Nat) : B.cnt i k ≤ k := by
  unfold BS.cnt
  exact Nat.le_trans (List.length_filter_le _ _) (by simp)
def BS.wins (B : BS) (i : Int) : Bool := ((B.termAt i).1 == B.term) && decide (B.size < 2 * (1 + B.cnt i B.mat.length : Nat))
def BS.best (B : BS) : Nat → Option Int
  | 0 => none
  | d + 1 => if B.wins (B.commit + (d + 1 : Nat)) then some (B.commit + (d + 1 : Nat)) else B.best d
def BS.settled (B : BS) : BS × List Msg := match B.best (B.lst - B.commit).toNat with
  | some i => ({ B with commit := i }, { B with commit := i }.feeds)
  | none => (B, [])
theorem settled_len (B : BS) : B.settled.2.length ≤ B.size.toNat := by
  unfold BS.settled
  split
  · exact BS.others_len _ _ _
  · exact Nat.zero_le _
structure BS.Ok (B : BS) : Prop where
  small : B.Small
  base : B.base ≤ 4611686016279904256
  size : 1 ≤ B.size ∧ B.size ≤ 5
  id : 0 ≤ B.id ∧ B.id < B.size
  com : B.base ≤ B.commit

section
variable {s : PH} {b : Nat} {l v n m : Tri} {B : BS}
def SetlPost (B : BS) (b : Nat) (l v n m : Tri) (s : PH) (x : Value) (s' : PH) : Prop := ∃ t ps, x = Tri.v t ∧ Msgs s' t ps ∧ ps.map (·.1) = B.settled.2 ∧ Bal s' b l v n m B.settled.1 ∧ Fw.Mod [b] s s' ∧ ∀ y ∈ mF t ps, s y = none
def SetlZ (B : BS) (s : PH) (z : MDen [(false, [.int .i64])]) (s' : PH) : Prop := ∃ d : Nat, z = ((B.commit + (d : Int), ()), ()) ∧ B.commit + d ≤ B.lst ∧ B.best (B.lst - B.commit).toNat = B.best d ∧ Fw.Mod [] s s'
def CntZ (B : BS) (m : Tri) (i : Int) (s : PH) (z : MDen [(false, [.int .i64]), (false, [.int .i64]), (false, [.slice]), (false, [.int .i64]), (false, [.int .i64])]) (s' : PH) : Prop :=
  ∃ k : Nat, z = ((i, ()), (((1 + B.cnt i k : Nat) : Int), ()), (m, ()), ((m.2.1 : Int), ()), ((k : Int), ()), ()) ∧ k ≤ m.2.1 ∧ s' = s
theorem c_settle (h : Bal s b l v n m B) (hok : B.Ok) (hF : B.Fed) (hm : B.mat.length = B.size.toNat) (hlc : B.commit ≤ B.lst) : DCalls Try.prog 54 #[bptr b] s (SetlPost B b l v n m s) := by
  refine ok_settle b _ s ?_
  unfold vc_settle
  have hs := hok.small
  have hnl := num_lst hs hok.base
  have hsz := hok.size
  have hcb := hok.com
  obtain ⟨q1, q2, q3⟩ := id hs
  unfold Num at hnl
  simp only [RP_call]
  refine W.call_of (c_last h hs) ?_
  rintro _ s ⟨rfl, rfl⟩
  refine ⟨((B.lst, ()), ()), rfl, ?_⟩
  simp only [RP_loop]
  refine ⟨SetlZ B s, fun z _ => (z.1.1 - B.commit).toNat, ⟨(B.lst - B.commit).toNat, ?_, by omega, rfl, Mod.refl _ _⟩, ?_⟩
  · have : B.commit + ((B.lst - B.commit).toNat : Int) = B.lst := by omega
    rw [this]
  rintro _ s1 ⟨d, rfl, hd, hbest, m1⟩
  have hB1 := h.new m1
  have hb1 := hB1.cell
  simp [W.ld_at hb1, W.br_iff]
  refine ⟨fun hlt => ?_, fun hge => ?_⟩
  · obtain ⟨d', rfl⟩ : ∃ d', d = d' + 1 := ⟨d - 1, by omega⟩
    generalize hi : B.commit + ((d' + 1 : Nat) : Int) = i
    have hi' : B.commit + ((d' : Int) + 1) = i := by omega
    have hml := hB1.mat.len
    refine ⟨CntZ B m i s1, fun z _ => m.2.1 - z.2.2.2.2.1.1.toNat, ⟨0, by simp [BS.cnt], Nat.zero_le _, rfl⟩, ?_⟩
    rintro _ s1 ⟨k, rfl, hk, rfl⟩
    have hcl := B.cnt_le i k
    have hw : IntKind.i64.wrap ((k : Int) + 1) = ((k + 1 : Nat) : Int) := by rw [wrap_in (by omega) (by omega)]; simp
    have hwc : IntKind.i64.wrap (((1 + B.cnt i k : Nat) : Int) + 1) = ((1 + (B.cnt i k + 1) : Nat) : Int) := by rw [wrap_in (by omega) (by omega)]; simp; omega
    have hb1' := hB1.cell
    simp [W.br_iff, W.ld_at hb1']
    refine ⟨fun hkn => ⟨hkn, ?_⟩, fun hkn => ?_⟩
    · obtain ⟨x, hx⟩ : ∃ x, B.mat[k]? = some x := ⟨_, List.getElem?_eq_getElem (by omega)⟩
      obtain ⟨g, hg, hhas⟩ := hB1.mat.at hx
      have hmt : (some (Addr.mk g 0 none), m.2.1, m.2.2) = m := by rw [← hg]
      rw [hg]
      simp only [W.unSome_some, add_mk, Nat.zero_add]
      have hhas : s1.has ⟨g, k, none⟩ [.int .i64 x] := by
        have : k * intE.sz = k := Nat.mul_one _
        rw [this] at hhas; exact hhas
      refine ld_has_z hhas (cs := [.int .i64]) (y := (x, ())) rfl ?_
      simp [W.br_iff, W.ld_at hb1']
      have hgx : (B.mat[k]?).getD 0 = x := by rw [hx]; rfl
      refine ⟨fun hne => ⟨fun hge => ⟨⟨k + 1, ?_, by omega, rfl⟩, by rw [hw]; simp only [Int.toNat_natCast]; omega⟩, fun hlt2 => ⟨⟨k + 1, ?_, by omega, rfl⟩, by rw [hw]; simp only [Int.toNat_natCast]; omega⟩⟩,
        fun he => ⟨⟨k + 1, ?_, by omega, rfl⟩, by rw [hw]; simp only [Int.toNat_natCast]; omega⟩⟩
      · rw [B.cnt_succ, if_pos ⟨hne, by rw [hgx]; exact hge⟩, hw, ← hwc]; simp; exact hmt
      · rw [B.cnt_succ, if_neg (by rw [hgx]; omega), hw]; simp; exact hmt
      · rw [B.cnt_succ, if_neg (by intro h; exact h.1 he), hw]; simp; exact hmt
    · have hkm : k = B.mat.length := by omega
      refine W.call_of (c_term hB1 hs (i := i) (by unfold Num; omega)) ?_
      rintro _ s2 ⟨rfl, m2⟩
      refine ⟨(((B.termAt i).1, ()), ((B.termAt i).2, ()), ()), rfl, ?_⟩
      have hB2 := hB1.new m2
      have hb2 := hB2.cell
      have m12 := m1.trans m2
      have hwi : IntKind.i64.wrap (i - 1) = B.commit + (d' : Int) := by rw [wrap_in (by omega) (by omega)]; omega
      have hw2 : IntKind.i64.wrap (2 * (1 + (B.cnt i k : Int))) = 2 * (1 + (B.cnt i k : Int)) := wrap_in (by omega) (by omega)
      have hno : B.wins i = false → SetlZ B s ((IntKind.i64.wrap (i - 1), ()), ()) s2 ∧ max (IntKind.i64.wrap (i - 1) - B.commit) 0 < i - B.commit := by
        intro hwin
        rw [hwi]
        refine ⟨⟨d', rfl, by omega, ?_, m12⟩, by omega⟩
        rw [hbest]
        show (if B.wins (B.commit + ((d' + 1 : Nat) : Int)) then _ else _) = _
        rw [hi, hwin]; rfl
      simp [W.br_iff, W.ld_at hb2, hw2]
      refine ⟨fun ht => ⟨fun hmaj => ?_, fun hmaj => ?_⟩, fun ht => ?_⟩
      · have hwin : B.wins i = true := by
          unfold BS.wins
          rw [ht, ← hkm]
          simp; omega
        have hset : B.settled = ({ B with commit := i }, { B with commit := i }.feeds) := by
          unfold BS.settled; rw [hbest]
          have : B.best (d' + 1) = some i := by
            show (if B.wins (B.commit + ((d' + 1 : Nat) : Int)) then _ else _) = _
            rw [hi, hwin]; rfl
          rw [this]
        simp [W.st_at hb2]
        have hB3 : Bal (s2.upd b (.cells ({ B with commit := i }.cells l v n m) 67 (0, 0))) b l v n m { B with commit := i } := hB2.lay
        have m3 : Fw.Mod [b] s (s2.upd b (.cells ({ B with commit := i }.cells l v n m) 67 (0, 0))) := (m12.mono (by simp)).updLater (.inl (by simp))
        refine W.call_of (c_othersFeed hB3 ⟨q1, q2, q3⟩ hok.base ⟨by have := hsz.1; show 0 ≤ B.size; omega, hsz.2⟩ ⟨hF.len, hF.rng⟩) ?_
        rintro _ s4 ⟨t, ps, rfl, hms, hps, m4, hf⟩
        refine ⟨((t, ()), ()), rfl, ?_⟩
        refine ⟨t, ps, rfl, hms, by rw [hset]; exact hps, by rw [hset]; exact hB3.new m4, m3.trans (m4.mono (by simp)), fun y hy => ?_⟩
        have hyb : y ≠ b := by rintro rfl; have := hf y hy; rw [PH.upd_same] at this; cases this
        exact m3.none (hf y hy) (by simpa using hyb)
      · exact hno (by unfold BS.wins; rw [← hkm]; simp; intro _; omega)
      · exact hno (by unfold BS.wins; simp [ht])
  · have hd0 : d = 0 := by omega
    subst hd0
    have hset : B.settled = (B, []) := by unfold BS.settled; rw [hbest]; rfl
    refine ⟨noTri, [], rfl, Msgs.nil _, by rw [hset]; rfl, by rw [hset]; exact hB1, m1.mono (by simp), by simp [mF, Fw.blk]⟩

/-! ## a candidate's votes -/
def BS.nvotes (B : BS) : Nat := (B.votes.filter _root_.id).length
def BS.lead2 (B : BS) : BS := { B with role := 2, lead := B.id, next := List.replicate B.size.toNat (B.lst + 1), mat := List.replicate B.size.toNat 0 }
def BS.counted (B : BS) : BS × List Msg :=
  if 2 * (B.nvotes : Int) ≤ B.size then (B, []) else
    let B3 := B.lead2.set (B.lst + 1) [{ noEnt with term := B.term }]
    (B3.settled.1, B3.feeds ++ B3.settled.2)
def OpPost (R : BS × List Msg) (b : Nat) (L : List Nat) (s : PH) (x : Value) (s' : PH) : Prop :=
  ∃ t ps l' v' n' m', x = Tri.v t ∧ Bal s' b l' v' n' m' R.1 ∧ Step L (bL b l' v' n' m') s s' ∧ Msgs s' t ps ∧ ps.map (·.1) = R.2 ∧ ∀ y ∈ mF t ps, (y ∈ L ∨ s y = none) ∧ y ∉ bL b l' v' n' m'
theorem mksl_int {k : Nat → W.T} {s : PH} {c : Nat} (hc : c ≤ 1000) (h : ∀ r s1, s r = none → Fw.Mod [] s s1 → rowE intE s1 3 (some ⟨r, 0, none⟩) c c (List.replicate c 0) → k r s1) : W.mksl 3 1 8 [.int .i64 0] (c : Int) (c : Int) k s := by
  refine ⟨by omega, Int.le_refl _, by omega, by omega, fun r hr => ?_⟩
  have hz : Builtin.zeroCells [Value.int .i64 0].toArray ((c : Nat) : Int).toNat = (List.replicate c (Value.int .i64 0)).toArray := zero_one (.int .i64 0) c
  rw [hz]
  refine h r _ hr (Mod.new hr) ⟨by rw [flat_len]; simp [intE], Nat.le_refl _, by show c ≤ 9223372036854775807; omega, .inr ⟨r, _, rfl, PH.upd_same _ _ _, by simp [intE], ?_⟩⟩
  rw [flat_rep]; simp [intE]
/-- the two rows of a leader are laid -/
theorem lay_rows {s s1 : PH} {t1 t2 : Tri} {x y : List Int} {K : W.T} (h : Bal s b l v n m B) (m1 : Fw.Mod [] s s1) (h1 : rowE intE s1 3 t1.1 t1.2.1 t1.2.2 x) (h2 : rowE intE s1 3 t2.1 t2.2.1 t2.2.2 y)
    (f1 : ∀ z ∈ Fw.blk t1.1, s z = none) (f2 : ∀ z ∈ Fw.blk t2.1, s z = none) (hd : ∀ z ∈ Fw.blk t1.1, z ∉ Fw.blk t2.1) (hK : ∀ s', Bal s' b l v t1 t2 { B with next := x, mat := y } → Step (bL b l v n m) (bL b l v t1 t2) s s' → K s') :
    W.st ⟨b, 13, none⟩ [.slice t1.1 t1.2.1 t1.2.2] (W.unSome (some ⟨b, 0, none⟩) fun p => W.st (p.add 14) [.slice t2.1 t2.2.1 t2.2.2] K) s1 := by
  have hB1 := h.new m1
  have hb1 := hB1.cell
  simp [W.st_at hb1]
  have hbn : s b ≠ none := by rw [h.cell]; simp
  refine hK _ (balOf (B' := { B with next := x, mat := y }) (n' := t1) (m' := t2) hb1 hB1.log hB1.votes h1 h2 hd) ⟨(m1.mono (by simp)).updLater (.inl (by simp [bL])), ?_⟩
  intro z hz
  simp only [bL, List.mem_cons, List.mem_append] at hz ⊢
  rcases hz with hz | hz | hz | hz | hz
  · exact .inl (.inl hz)
  · exact .inl (.inr (.inl hz))
  · exact .inl (.inr (.inr (.inl hz)))
  · exact .inr (f1 z hz)
  · exact .inr (f2 z hz)
def VotZ (B : BS) (v : Tri) (s : PH) (z : MDen [(false, [.int .i64]), (false, [.slice]), (false, [.int .i64]), (false, [.int .i64])]) (s' : PH) : Prop :=
  ∃ k : Nat, z = (((((B.votes.take k).filter id).length : Int), ()), (v, ()), ((v.2.1 : Int), ()), ((k : Int), ()), ()) ∧ k ≤ v.2.1 ∧ s' = s
theorem c_counted (h : Bal s b l v n m B) (hok : B.Ok) (hv : B.votes.length = B.size.toNat) (hlc : B.commit ≤ B.lst) (hl1 : B.log.length + 1 ≤ 1073741824) : DCalls Try.prog 43 #[bptr b] s (OpPost B.counted b (bL b l v n m) s) := by
  refine ok_counted b _ s ?_
  unfold vc_counted
  have hb := h.cell
  have hs := hok.small
  have hsz := hok.size
  have hvl := h.votes.len
  obtain ⟨q1, q2, q3⟩ := id hs
  simp [W.ld_at hb]
  refine ⟨VotZ B v s, fun z _ => v.2.1 - z.2.2.2.1.1.toNat, ⟨0, rfl, Nat.zero_le _, rfl⟩, ?_⟩
  rintro _ s ⟨k, rfl, hk, rfl⟩
  have hcl : ((B.votes.take k).filter id).length ≤ k := Nat.le_trans (List.length_filter_le _ _) (by simp; omega)
  have hw : IntKind.i64.wrap ((k : Int) + 1) = ((k + 1 : Nat) : Int) := by rw [wrap_in (by omega) (by omega)]; simp
  have hwc : IntKind.i64.wrap ((((B.votes.take k).filter id).length : Int) + 1) = ((((B.votes.take k).filter id).length + 1 : Nat) : Int) := by rw [wrap_in (by omega) (by omega)]; simp
  simp [W.br_iff, W.ld_at hb]
  refine ⟨fun hkn => ⟨hkn, ?_⟩, fun hkn => ?_⟩
  · obtain ⟨x, hx⟩ : ∃ x, B.votes[k]? = some x := ⟨_, List.getElem?_eq_getElem (by omega)⟩
    obtain ⟨g, hg, hhas⟩ := h.votes.at hx
    have hmt : (some (Addr.mk g 0 none), v.2.1, v.2.2) = v := by rw [← hg]
    rw [hg]
    simp only [W.unSome_some, add_mk, Nat.zero_add]
    have hhas : s.has ⟨g, k, none⟩ [.bool x] := by
      have : k * boolE.sz = k := Nat.mul_one _
      rw [this] at hhas; exact hhas
    refine ld_has_z hhas (cs := [.bool]) (y := (x, ())) rfl ?_
    simp only [RP_ite, W.br_iff]
    refine ⟨fun hxt => ⟨⟨k + 1, ?_, by omega, rfl⟩, by rw [hw]; simp only [Int.toNat_natCast]; omega⟩, fun hxf => ⟨⟨k + 1, ?_, by omega, rfl⟩, by rw [hw]; simp only [Int.toNat_natCast]; omega⟩⟩
    · have hxt : x = true := hxt
      rw [hwc, hw, List.take_add_one, hx, hxt]; simp; exact hmt
    · have hxf : x = false := hxf
      rw [hw, List.take_add_one, hx, hxf]; simp; exact hmt
  · have hfull : B.votes.take k = B.votes := List.take_of_length_le (by omega)
    have hnv : ((B.votes.take k).filter id).length = B.nvotes := by rw [hfull]; rfl
    have hnv5 : B.nvotes ≤ 5 := by rw [← hnv]; omega
    rw [hnv]
    have hw2 : IntKind.i64.wrap (2 * (B.nvotes : Int)) = 2 * (B.nvotes : Int) := wrap_in (by omega) (by omega)
    rw [hw2]
    refine ⟨fun hle => ?_, fun hgt => ?_⟩
    · have : B.counted = (B, []) := by unfold BS.counted; rw [if_pos hle]
      rw [this]
      exact ⟨noTri, [], l, v, n, m, rfl, h, Step.refl _ _, Msgs.nil _, rfl, by simp [mF, Fw.blk]⟩
    have hcnt : B.counted = ((B.lead2.set (B.lst + 1) [{ noEnt with term := B.term }]).settled.1, (B.lead2.set (B.lst + 1) [{ noEnt with term := B.term }]).feeds ++ (B.lead2.set (B.lst + 1) [{ noEnt with term := B.term }]).settled.2) := by
      unfold BS.counted; rw [if_neg (by omega)]
    simp [W.st_at hb]
    have h2 : Bal (s.upd b (.cells ({ B with role := 2, lead := B.id }.cells l v n m) 67 (0, 0))) b l v n m { B with role := 2, lead := B.id } := h.lay
    have m2 : Fw.Mod [b] s (s.upd b (.cells ({ B with role := 2, lead := B.id }.cells l v n m) 67 (0, 0))) := Mod.upd (by simp)
    generalize hs2 : s.upd b (.cells ({ B with role := 2, lead := B.id }.cells l v n m) 67 (0, 0)) = s2 at h2 m2
    clear hs2
    have hs' : { B with role := 2, lead := B.id }.Small := ⟨q1, q2, q3⟩
    obtain ⟨c, hc⟩ : ∃ c : Nat, B.size = c := ⟨B.size.toNat, by omega⟩
    have hct : B.size.toNat = c := by omega
    have hlst : B.lst = B.base + B.log.length := rfl
    have hbase := hok.base
    refine W.join_gen (fun _ s' => ∃ n' m', Bal s' b l v n' m' B.lead2 ∧ Step (bL b l v n m) (bL b l v n' m') s2 s') ?_ ?_
    · rintro _ s3 ⟨n', m', h3, st3⟩
      have hwl : IntKind.i64.wrap (B.lst + 1) = B.lst + 1 := wrap_in (by omega) (by omega)
      have hsm : B.lead2.Small := ⟨q1, q2, q3⟩
      refine W.callQ_of ((B.lst, ()), ()) (c_last h3 hsm) rfl ?_
      have hb3 := h3.cell
      simp [W.ld_at hb3, -W.nw_iff, hwl]
      refine W.nw_of fun r50 s4 hr4 m4 k4 => ?_
      have st1 : Step (bL b l v n m) (bL b l v n' m') s s4 := (Step.trans (L' := bL b l v n m) ⟨m2.mono (by simp [bL]), fun x hx => .inl hx⟩ st3).trans ⟨m4.mono (by simp), fun x hx => .inl hx⟩
      refine W.call_of (c_set (h3.new m4) hsm (i := B.lst + 1) (ys := [{ noEnt with term := B.term }]) (by show B.base < _; omega) (Int.le_refl _) (row_one (E := entE) (x := { noEnt with term := B.term }) k4 rfl).src0 rfl (by omega)) ?_
      rintro _ s5 ⟨l', rfl, h5, st5⟩
      refine ⟨(), rfl, ?_⟩
      have st2 := st1.trans st5
      have hB3s : (B.lead2.set (B.lst + 1) [{ noEnt with term := B.term }]).log.length ≤ B.log.length + 1 := by
        unfold BS.set BS.lead2
        simp only [List.length_append, List.length_take, List.length_cons, List.length_nil]; omega
      have hl3 : (B.lead2.set (B.lst + 1) [{ noEnt with term := B.term }]).log.length = B.log.length + 1 := by
        unfold BS.set BS.lead2
        simp only [List.length_append, List.length_take, List.length_cons, List.length_nil]; omega
      have hlst3 : (B.lead2.set (B.lst + 1) [{ noEnt with term := B.term }]).lst = B.lst + 1 := by
        have e : (B.lead2.set (B.lst + 1) [{ noEnt with term := B.term }]).lst = B.base + ((B.lead2.set (B.lst + 1) [{ noEnt with term := B.term }]).log.length : Int) := rfl
        rw [e, hl3, hlst]; omega
      have hok3 : (B.lead2.set (B.lst + 1) [{ noEnt with term := B.term }]).Ok := ⟨⟨q1, q2, by omega⟩, hbase, hsz, hok.id, hok.com⟩
      have hF3 : (B.lead2.set (B.lst + 1) [{ noEnt with term := B.term }]).Fed := by
        refine ⟨by show (List.replicate _ _).length = _; simp; rfl, fun i nx hnx => ?_⟩
        have : (List.replicate B.size.toNat (B.lst + 1))[i]? = some nx := hnx
        rw [List.getElem?_replicate] at this
        split at this
        · cases this
          right
          rw [hlst3]
          exact ⟨by show B.base < _; omega, by omega⟩
        · cases this
      have hm3 : (B.lead2.set (B.lst + 1) [{ noEnt with term := B.term }]).mat.length = (B.lead2.set (B.lst + 1) [{ noEnt with term := B.term }]).size.toNat := by show (List.replicate _ _).length = _; simp; rfl
      have hlc3 : (B.lead2.set (B.lst + 1) [{ noEnt with term := B.term }]).commit ≤ (B.lead2.set (B.lst + 1) [{ noEnt with term := B.term }]).lst := by rw [hlst3]; show B.commit ≤ _; omega
      generalize B.lead2.set (B.lst + 1) [{ noEnt with term := B.term }] = B3 at h5 hok3 hF3 hm3 hlc3 hcnt
      rw [hcnt]
      have hz3 := hok3.size
      refine W.call_of (c_othersFeed h5 hok3.small hok3.base ⟨by omega, hz3.2⟩ hF3) ?_
      rintro _ s6 ⟨t1, ps1, rfl, hms1, hps1, m6, hf1⟩
      refine ⟨((t1, ()), ()), rfl, ?_⟩
      have h6 := h5.new m6
      refine W.call_of (c_settle h6 hok3 hF3 hm3 hlc3) ?_
      rintro _ s7 ⟨t2, ps2, rfl, hms2, hps2, h7, m7, hf2⟩
      refine ⟨((t2, ()), ()), rfl, ?_⟩
      have hb1 : ∀ y ∈ mF t1 ps1, y ≠ b := fun y hy e => by subst e; have := hf1 y hy; rw [h5.cell] at this; cases this
      have hms1' := hms1.mod m7 (fun y hy => by simpa using hb1 y hy)
      have st3 : Step (bL b l v n m) (bL b l' v n' m') s s7 := (st2.trans ⟨m6.mono (by simp), fun x hx => .inl hx⟩).trans ⟨m7.mono (by simp [bL]), fun x hx => .inl hx⟩
      have hl1' : t1.2.1 ≤ 5 := by
        have h1 := hms1.row.len
        have h2 := congrArg List.length hps1
        have h3 := B3.others_len (fun to => B3.feedM to ((B3.next[to]?).getD 0)) B3.size.toNat
        simp only [List.length_map] at h2
        have h4 : B3.feeds.length = (B3.others (fun to => B3.feedM to ((B3.next[to]?).getD 0)) B3.size.toNat).length := rfl
        omega
      have hl2' : t2.2.1 ≤ 5 := by
        have h1 := hms2.row.len
        have h2 := congrArg List.length hps2
        have h5 := settled_len B3
        simp only [List.length_map] at h2
        omega
      refine app_msgs (fun y => (y ∈ bL b l v n m ∨ s y = none) ∧ y ∉ bL b l' v n' m') ?_ hms1' hms2 ?_ ?_ ?_ hms1.apart (by omega) (by omega) ?_
      · intro g hg
        refine ⟨?_, fun hx => h7.known g hx hg⟩
        by_cases hx : g ∈ bL b l v n m
        · exact .inl hx
        · exact .inr (st3.mod.none hg hx)
      · intro y hy
        have h0 := hf1 y hy
        refine ⟨?_, fun hx => h5.known y hx h0⟩
        by_cases hx : y ∈ bL b l v n m
        · exact .inl hx
        · exact .inr (st2.mod.none h0 hx)
      · intro y hy
        have h0 := hf2 y hy
        refine ⟨?_, fun hx => h6.known y hx h0⟩
        by_cases hx : y ∈ bL b l v n m
        · exact .inl hx
        · exact .inr (st2.mod.none (m6.none h0 (by simp)) hx)
      · intro y hy hy'
        exact hms1.known y (by simp [mF, hy']) (hf2 y hy)
      · intro a' n'' c' s' g1 g2 g3
        have hdis : ∀ x ∈ bL b l' v n' m', x ∉ Fw.blk t1.1 := fun x hx hx' => h5.known x hx (hf1 x (by simp [mF, hx']))
        refine ⟨(a', n'', c'), ps1 ++ ps2, l', v, n', m', rfl, h7.mod g3 hdis, ?_, g1, by rw [List.map_append, hps1, hps2], g2⟩
        refine ⟨fun x h1 h2 => ?_, st3.new⟩
        rw [g3 x ?_ ?_, st3.mod x h1 h2]
        · rw [st3.mod x h1 h2]; exact h1
        · intro hx'
          have := hf1 x (by simp [mF, hx'])
          have h3 := st2.mod.none this h2
          exact h1 h3
    · intro J hJ
      have hb2 := h2.cell
      have hfin : ∀ {s1 : PH} {t1 t2 : Tri}, Fw.Mod [] s2 s1 → rowE intE s1 3 t1.1 t1.2.1 t1.2.2 (List.replicate c (B.lst + 1)) → rowE intE s1 3 t2.1 t2.2.1 t2.2.2 (List.replicate c 0) → (∀ z ∈ Fw.blk t1.1, s2 z = none) → (∀ z ∈ Fw.blk t2.1, s2 z = none) → (∀ z ∈ Fw.blk t1.1, z ∉ Fw.blk t2.1) →
          W.st ⟨b, 13, none⟩ [.slice t1.1 t1.2.1 t1.2.2] (W.unSome (some ⟨b, 0, none⟩) fun p => W.st (p.add 14) [.slice t2.1 t2.2.1 t2.2.2] (J ())) s1 := by
        intro s1 t1 t2 m1 h1 h2' f1 f2 hd
        refine lay_rows h2 m1 h1 h2' f1 f2 hd fun s' hB hst => hJ _ _ ⟨t1, t2, ?_, hst⟩
        have : B.lead2 = { { B with role := 2, lead := B.id } with next := List.replicate c (B.lst + 1), mat := List.replicate c 0 } := by unfold BS.lead2; rw [hct]
        rw [this]; exact hB
      refine W.callQ_of ((B.lst, ()), ()) (c_last h2 hs') rfl ?_
      have hwl : IntKind.i64.wrap (B.lst + 1) = B.lst + 1 := wrap_in (by omega) (by omega)
      simp [W.ld_at hb2, -W.nw_iff, hwl]
      rw [hc]
      simp only [Int.toNat_natCast]
      have hc1 : 1 ≤ c := by omega
      have hc5 : c ≤ 5 := by omega
      have frs : ∀ {s4 s5 : PH} {x : Nat}, Fw.Mod [] s2 s4 → s4 x = none → s2 x = none := fun m e => m.none e (by simp)
      refine ⟨?_, ?_⟩
      · refine W.nw_of fun r25 s4 hr4 m4 k4 => ?_
        refine ⟨?_, ?_⟩
        · refine W.call_of (c_Repeat k4 hc1 hc5) ?_
          rintro _ s5 ⟨t1, rfl, h1, m5, f1⟩
          refine ⟨((t1, ()), ()), rfl, ?_⟩
          have m25 := m4.trans m5
          have hb5 := (h2.new m25).cell
          have f1' : ∀ z ∈ Fw.blk t1.1, s2 z = none := fun z hz => m4.none (f1 z hz) (by simp)
          simp [W.still_at hb5, hc, -W.nw_iff]
          refine ⟨?_, ?_⟩
          · refine mksl_int (by omega) fun r30 s6 hr6 m6 h6 => ?_
            refine hfin (t2 := (some ⟨r30, 0, none⟩, c, c)) (m25.trans m6) (h1.mod m6 (by simp)) h6 f1' (by simp [Fw.blk]; exact m25.none hr6 (by simp)) (fun z hz => ?_)
            simp [Fw.blk]; rintro rfl; exact h1.known z hz hr6
          · simp [W.st_at hb5]
            have hdm : ∀ z ∈ Fw.blk t1.1, z ∉ Fw.blk m.1 := fun z hz hz' => h2.mat.known z hz' (f1' z hz)
            have h6 : Bal (s5.upd b (.cells ({ B with role := 2, lead := B.id, next := List.replicate c (B.lst + 1) }.cells l v t1 m) 67 (0, 0))) b l v t1 m { B with role := 2, lead := B.id, next := List.replicate c (B.lst + 1) } :=
              balOf (B' := { B with role := 2, lead := B.id, next := List.replicate c (B.lst + 1) }) hb5 (h2.new m25).log (h2.new m25).votes h1 (h2.new m25).mat hdm
            have m6 : Fw.Mod [b] s2 (s5.upd b (.cells ({ B with role := 2, lead := B.id, next := List.replicate c (B.lst + 1) }.cells l v t1 m) 67 (0, 0))) := (m25.mono (by simp)).updLater (.inl (by simp))
            refine mksl_int (by omega) fun r32 s7 hr7 m7 h7 => ?_
            have h67 := h6.new m7
            have hb7 := h67.cell
            simp [W.st_at hb7]
            have hr2 : s2 r32 = none := by
              have : r32 ≠ b := by rintro rfl; rw [PH.upd_same] at hr7; cases hr7
              exact m6.none hr7 (by simpa using this)
            refine hJ _ _ ⟨t1, (some ⟨r32, 0, none⟩, c, c), ?_, ⟨((m6.trans (m7.mono (by simp))).updLater (.inl (by simp))).mono (by simp [bL]), ?_⟩⟩
            · have : B.lead2 = { { B with role := 2, lead := B.id } with next := List.replicate c (B.lst + 1), mat := List.replicate c 0 } := by unfold BS.lead2; rw [hct]
              rw [this]
              refine balOf (B' := { B with role := 2, lead := B.id, next := List.replicate c (B.lst + 1), mat := List.replicate c 0 }) (m' := (some ⟨r32, 0, none⟩, c, c)) hb7 h67.log h67.votes h67.next h7 (fun z hz => ?_)
              simp [Fw.blk]; rintro rfl
              exact h6.next.known z hz hr7
            · intro z hz
              simp only [bL, List.mem_cons, List.mem_append] at hz ⊢
              rcases hz with hz | hz | hz | hz | hz
              · exact .inl (.inl hz)
              · exact .inl (.inr (.inl hz))
              · exact .inl (.inr (.inr (.inl hz)))
              · exact .inr (f1' z hz)
              · simp [Fw.blk] at hz; subst hz; exact .inr hr2
        · refine mksl_int (by omega) fun r34 s5 hr5 m5 h5 => ?_
          have m25 := m4.trans m5
          refine W.call_of (c_Repeat (m5.at k4 (by simp)) hc1 hc5) ?_
          rintro _ s6 ⟨t1, rfl, h1, m6, f1⟩
          refine ⟨((t1, ()), ()), rfl, ?_⟩
          have m26 := m25.trans m6
          have hb6 := (h2.new m26).cell
          simp only [W.still_iff]
          refine ⟨?_, ?_⟩
          · have := (W.still_at hb6 (.int .i64) [] 1 ((c : Int), ()) (fun _ => True)).2 ⟨by simp [hc], trivial⟩
            exact this.1
          simp only [W.unSome_some, add_mk, Nat.zero_add]
          refine hfin (t2 := (some ⟨r34, 0, none⟩, c, c)) m26 h1 (h5.mod m6 (by simp)) (fun z hz => m25.none (f1 z hz) (by simp)) (by simp [Fw.blk]; exact m4.none hr5 (by simp)) (fun z hz => ?_)
          simp [Fw.blk]; rintro rfl
          have := f1 z hz
          exact h5.known z (by simp [Fw.blk]) this
      · refine mksl_int (by omega) fun r40 s4 hr4 m4 h4 => ?_
        refine W.nw_of fun r41 s5 hr5 m5 k5 => ?_
        have m25 := m4.trans m5
        refine W.call_of (c_Repeat k5 hc1 hc5) ?_
        rintro _ s6 ⟨t1, rfl, h1, m6, f1⟩
        refine ⟨((t1, ()), ()), rfl, ?_⟩
        have m26 := m25.trans m6
        have hb6 := (h2.new m26).cell
        simp only [W.still_iff]
        refine ⟨?_, ?_⟩
        · have := (W.still_at hb6 (.int .i64) [] 1 ((c : Int), ()) (fun _ => True)).2 ⟨by simp [hc], trivial⟩
          exact this.1
        simp only [W.unSome_some, add_mk, Nat.zero_add]
        refine hfin (t2 := (some ⟨r40, 0, none⟩, c, c)) m26 h1 ((h4.mod m5 (by simp)).mod m6 (by simp)) (fun z hz => m25.none (f1 z hz) (by simp)) (by simp [Fw.blk]; exact hr4) (fun z hz => ?_)
        simp [Fw.blk]; rintro rfl
        have := f1 z hz
        exact (h4.mod m5 (by simp)).known z (by simp [Fw.blk]) this
end
end Go.Proofs.Ytfpbiecmobdnnaa
