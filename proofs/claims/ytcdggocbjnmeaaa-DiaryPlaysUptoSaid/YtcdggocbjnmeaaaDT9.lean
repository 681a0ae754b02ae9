/-
  The law DiaryPlays, over the heap.
  Conditions: none; it proves no statement by itself.
-/
import Derived.Test.YtcdggocbjnmeaaaDT8
set_option linter.unusedVariables false
set_option linter.unusedSimpArgs false
set_option maxHeartbeats 4000000
set_option maxRecDepth 100000
namespace Go.Proofs.Ytcdggocbjnmeaaa
open Fw Go
attribute [-simp] Fw.W.ld_iff Fw.W.st_iff

theorem scanB_nil : scanB ⟨#[]⟩ = ([], 0) := by kernel_rfl
theorem start_opens (nm : ByteArray) : (DS.mk [] false 0).opens nm = (([], 0), ⟨[], false, 0⟩) := by
  have hr : (DS.mk [] false 0).read nm = (⟨#[]⟩, 0) := by unfold DS.read DS.got; simp
  unfold DS.opens
  rw [hr, if_neg (by simp)]
  dsimp only
  rw [scanB_nil]; rfl
theorem opens_len (d : DS) (nm : ByteArray) : (d.opens nm).1.1.length ≤ (d.read nm).1.size := by
  have key : 8 * (scanB (d.read nm).1).1.length ≤ (d.read nm).1.size := by
    obtain ⟨t, ht⟩ : ∃ t, (d.read nm).1 = t := ⟨_, rfl⟩
    rw [ht]
    have h1 := scanB_spec t
    have h2 := recs_len_le (scanB t).1
    have h3 : (recsB (scanB t).1).size ≤ t.size := by rw [← h1, ByteArray.size_extract]; omega
    have key : ∀ k : List ByteArray, 8 * k.length ≤ (k.map fun p => 8 + p.size).sum := by
      intro k
      induction k with
      | nil => simp
      | cons p k ih => simp only [List.length_cons, List.map_cons, List.sum_cons]; omega
    have := key (scanB t).1
    omega
  unfold DS.opens
  split
  · exact Nat.zero_le _
  split
  · split
    · exact Nat.zero_le _
    · dsimp only; omega
  · dsimp only; omega
theorem crash_opens (d : DS) (keep : List Int) (nm : ByteArray) : ((d.crash keep).opens nm).1.2 = 0 := by
  have hd : (d.crash keep).down = false := rfl
  have ha : (d.crash keep).armed = 0 := rfl
  have hb : (d.crash keep).begin = ((false, 0), ⟨(d.crash keep).files, false, 0⟩) := by
    unfold DS.begin
    rw [hd, ha]
    simp only [DS.crash]
    simp
  have hr : (d.crash keep).read nm = (((d.crash keep).got nm).1, 0) := by unfold DS.read; rw [hd, if_neg (by simp)]
  have hs : ∀ t, ((d.crash keep).swap nm t).1 = 0 := by
    intro t; unfold DS.swap; rw [hb]; rfl
  unfold DS.opens
  rw [hr, if_neg (by simp)]
  dsimp only
  split
  · rw [hs, if_neg (by simp)]
  · rfl
theorem allB_size (l : List ByteArray) : (allB l).1.size ≤ (recsB l).size := by
  unfold allB; split
  · exact Nat.zero_le _
  · exact Nat.le_refl _
structure PI (s0 s : PH) (b m r : Nat) (L : List Nat) (d e : DS) (C : Nat) : Prop where
  drive : DriveIs s b m d
  ref : RefIs s r L e
  sim : ∃ B, Sim d e B ∧ B ≤ C
  nb : s0 b = none
  nm : s0 m = none
  nl : ∀ g ∈ L, s0 g = none
  mod : Fw.Mod [] s0 s
section
variable {s0 s s' : PH} {b m r : Nat} {L L' : List Nat} {d e d' e' : DS} {C C' : Nat}
theorem PI.sim' (h : PI s0 s b m r L d e C) : Sim d e C := by obtain ⟨B, h1, h2⟩ := h.sim; exact h1.mono h2
theorem PI.same (h : PI s0 s b m r L d e C) (hm : Fw.Mod [] s s') (hc : C ≤ C') : PI s0 s' b m r L d e C' :=
  ⟨h.drive.mod hm (by simp) (by simp), h.ref.mod hm (by simp), ⟨C, h.sim', hc⟩, h.nb, h.nm, h.nl, h.mod.trans hm⟩
theorem PI.modD (h : PI s0 s b m r L d e C) (hm : Fw.Mod [b, m] s s') : Fw.Mod [] s0 s' := h.mod.fresh hm fun g hg => by
  simp at hg; rcases hg with rfl | rfl
  · exact .inr h.nb
  · exact .inr h.nm
theorem PI.refD (h : PI s0 s b m r L d e C) (hm : Fw.Mod [b, m] s s') : RefIs s' r L e := h.ref.mod hm (h.ref.offD' h.drive)
/-- both have gone a step -/
theorem PI.both {s1 : PH} (h : PI s0 s b m r L d e C) (hm : Fw.Mod [b, m] s s1) (hd : DriveIs s1 b m d') (hr : RefIs s' r L' e') (hs : Step L L' s1 s') (hsim : Sim d' e' C') : PI s0 s' b m r L' d' e' C' := by
  have hL := h.refD hm
  have m1 := h.modD hm
  have ho := hL.offD hd
  exact ⟨hd.mod hs.mod ho.1 ho.2, hr, ⟨C', hsim, Nat.le_refl _⟩, h.nb, h.nm, fun g hg => by
    rcases hs.new g hg with h1 | h1
    · exact h.nl g h1
    · exact m1.none h1 (by simp), m1.fresh hs.mod fun g hg => .inr (h.nl g hg)⟩
theorem PI.diaries {s1 : PH} (h : PI s0 s b m r L d e C) (hm : Fw.Mod [b, m] s s1) (hs : Step L L' s1 s') {x y : Nat} {nm : ByteArray} (hx : DiaryIs s x b nm) (hy : QIs s y r nm) : DiaryIs s' x b nm ∧ QIs s' y r nm := by
  have h1 := hx.mod hm (hx.off h.drive)
  have h2 := hy.mod hm (hy.off h.drive)
  have hL := h.refD hm
  exact ⟨h1.mod hs.mod (hL.offX h1), h2.mod hs.mod (hL.offQ h2)⟩
end
theorem ne_self (x : Int) : (x != x) = false := by simp
theorem c_DiaryPlays {s0 : PH} {a : Option Addr} {n c : Nat} {ops : List Op} (nm : ByteArray) (hnm : nm.size ≤ 281474976710656) (h : elems rdOp s0 a n ops) (hb : sumC ops ≤ 1048576) : DCalls Try.prog 4 #[.string nm, .slice a n c] s0 fun y s' => y = .bool true ∧ Fw.Mod [] s0 s' := by
  refine ok_DiaryPlays nm a n c _ s0 ?_
  unfold vc_DiaryPlays
  obtain ⟨R, hR⟩ : ∃ R : Value → PH → Prop, (fun y s' => y = .bool true ∧ Fw.Mod [] s0 s') = R := ⟨_, rfl⟩
  rw [hR]
  have hn : n = ops.length := h.1
  simp only [RP_ite, RP_ret, RP_guard, RP_loop, RP_unSome, RP_ld, RP_call, RP_nw, RP_join, RP_app]
  refine W.join_gen (fun z s' => s' = s0 ∧ ops.length ≤ 100 ∧ sumC ops ≤ 16384) ?_ ?_
  rotate_left
  · intro J hJ
    refine W.call_of (c_awake s0) ?_
    rintro _ s1 ⟨rfl, rfl⟩
    refine ⟨((true, ()), ()), rfl, ?_⟩
    refine (W.br_iff _ _ _ _).2 ⟨fun e => (by cases e), fun _ => ?_⟩
    refine W.call_of (c_great h hb) ?_
    rintro _ _ ⟨⟨b, rfl, hb2⟩, rfl⟩
    refine ⟨((b, ()), ()), rfl, ?_⟩
    refine (W.br_iff _ _ _ _).2 ⟨fun e => ?_, fun e => hJ _ _ ⟨rfl, hb2 e⟩⟩
    refine W.call_of (c_awake _) ?_
    rintro _ _ ⟨rfl, rfl⟩
    refine ⟨((true, ()), ()), rfl, ?_⟩
    rw [← hR]; exact ⟨rfl, Mod.refl _ _⟩
  rintro _ _ ⟨rfl, hlen, hsum⟩
  rename_i s0
  refine W.call_of (c_New s0) ?_
  rintro _ s1 ⟨b, m, rfl, h1, m1, hb1, hm1⟩
  refine ⟨((some ⟨b, 0, none⟩, ()), ()), rfl, ?_⟩
  refine W.nw_of fun r s2 hr2 m2 k2 => ?_
  have hrn : s0 r = none := m1.none hr2 (by simp)
  have hP : PI s0 s2 b m r [r] ⟨[], false, 0⟩ ⟨[], false, 0⟩ 0 :=
    ⟨h1.mod m2 (by simp) (by simp), ⟨none, 0, 0, rfl, k2, rowE.nil⟩, ⟨0, Sim.start, Nat.le_refl _⟩, hb1, hm1, fun g hg => by simp at hg; subst hg; exact hrn, m1.trans m2⟩
  have hso := hP.sim'.opens nm (Nat.le_refl _) hnm
  have ho := c_Open hP.drive nm (by have := hP.sim'.read_size nm; omega)
  have hro : ((DS.mk [] false 0).ropens nm).1 = ([], 0) := by rw [← hso.1, start_opens]
  rw [start_opens] at ho
  refine W.call_of ho ?_
  rintro _ s3 ⟨⟨px, pa, pc, rfl, hr3, hf3, hx3⟩, h3, m3⟩
  obtain ⟨x, rfl, hD3, hxn⟩ : ∃ x, px = some ⟨x, 0, none⟩ ∧ DiaryIs s3 x b nm ∧ s2 x = none := by
    rcases hx3 with ⟨_, x, h⟩ | ⟨h, _⟩
    · exact ⟨x, h⟩
    · exact absurd rfl h
  refine ⟨((some ⟨x, 0, none⟩, ()), ((pa, 0, pc), ()), (0, ()), ()), rfl, ?_⟩
  have hR3 := hP.refD m3
  have hroc := c_rOpen hR3 (hP.sim'.enames (by omega)) nm (by have := hP.sim'.read_size nm; rw [hP.sim'.read nm] at this; omega)
  rw [hro] at hroc
  refine W.call_of hroc ?_
  rintro _ s4 ⟨⟨qx, qa, qc, rfl, hr4, hf4, hx4⟩, L4, h4, m4⟩
  obtain ⟨y, rfl, hQ4⟩ : ∃ y, qx = some ⟨y, 0, none⟩ ∧ QIs s4 y r nm := by
    rcases hx4 with ⟨_, x, h⟩ | ⟨h, _⟩
    · exact ⟨x, h⟩
    · exact absurd rfl h
  refine ⟨((some ⟨y, 0, none⟩, ()), ((qa, 0, qc), ()), (0, ()), ()), rfl, ?_⟩
  have hP4 := hP.both m3 h3 h4 m4 (by have := hso.2; rw [start_opens] at this; exact this)
  have hD4 := hD3.mod m4.mod (hR3.offX hD3)
  refine W.join_gen (fun z s' => z = ((some (Addr.mk b 0 none), ()), (some (Addr.mk r 0 none), ()), (some (Addr.mk x 0 none), ()), (0, ()), (some (Addr.mk y 0 none), ()), (0, ()), ()) ∧ s' = s4) ?_ ?_
  rotate_left
  · intro J hJ
    refine (W.br_iff _ _ _ _).2 ⟨fun e => (by cases e), fun _ => (W.br_iff _ _ _ _).2 ⟨fun e => (by cases e), fun _ => hJ _ _ ⟨rfl, rfl⟩⟩⟩
  rintro _ _ ⟨rfl, rfl⟩
  rename_i s4
  refine ⟨fun z s' => ∃ (i : Nat) (b m r x y : Nat) (L : List Nat) (d e : DS) (ev : Int), z = ((some (Addr.mk b 0 none), ()), (some (Addr.mk r 0 none), ()), (some (Addr.mk x 0 none), ()), (ev, ()), (some (Addr.mk y 0 none), ()), (ev, ()), ((a, n, c), ()), ((n : Int), ()), ((i : Int), ()), ()) ∧
    i ≤ n ∧ PI s0 s' b m r L d e (3 * i + 1 + 8 * sumC (ops.take i)) ∧ DiaryIs s' x b nm ∧ QIs s' y r nm, fun z _ => n - z.2.2.2.2.2.2.2.2.1.1.toNat,
    ⟨0, b, m, r, x, y, L4, _, _, 0, rfl, Nat.zero_le _, hP4, hD4, hQ4⟩, ?_⟩
  clear hP4 hD4 hQ4 hP hso ho hro h1 m1 hb1 hm1 m2 k2 hr2 hrn hroc h3 h4 m3 m4 hx3 hx4 hr3 hr4 hf3 hf4 hR3 hD3 hxn
  rintro _ s ⟨i, b, m, r, x, y, L, d, e, ev, rfl, hi, hP, hX, hY⟩
  refine (W.br_iff _ _ _ _).2 ⟨fun hlt => ?_, fun hge => ?_⟩
  rotate_left
  · rw [← hR]; exact ⟨rfl, hP.mod⟩
  have hlt : (i : Int) < (n : Int) := of_decide_eq_true hlt
  obtain ⟨o, hoi⟩ : ∃ o, ops[i]? = some o := ⟨_, List.getElem?_eq_getElem (by omega)⟩
  obtain ⟨ad, a', n', c', ka, kn, kc, rfl, hh, hl, hk, hon, _, hkn⟩ := op_at h hoi
  have hss := sumC_snoc hoi
  have hst := sumC_take_le ops (i + 1)
  have hkl : kn = o.k.length := hk.1
  have hnl : n' = o.l.length := hl.1
  have hopc : opC o = szS o.l + o.k.length + 1 := rfl
  have hrz := recs_szS o.l
  have hlz := szS_len o.l
  have hw1 : IntKind.i64.wrap ((i : Int) + 1) = ((i + 1 : Nat) : Int) := wrap_succ (k := i) (by omega)
  obtain ⟨C, hC⟩ : ∃ C, 3 * i + 1 + 8 * sumC (ops.take i) = C := ⟨_, rfl⟩
  rw [hC] at hP
  have hC2 : C + 3 + 8 * szS o.l ≤ 3 * (i + 1) + 1 + 8 * sumC (ops.take (i + 1)) := by omega
  have hC3 : C + 3 + 8 * szS o.l ≤ 1000000 := by omega
  dsimp only
  refine (W.guard_iff _ _ _).2 ⟨by omega, ?_⟩
  simp only [W.unSome_some, Int.toNat_natCast]
  refine ld_has_z (hh.mono hP.mod.le) (y := (o.kd, (a', n', c'), o.n, (ka, kn, kc), ())) rfl ?_
  dsimp only
  refine W.join_gen (fun z s' => ∃ (b' m' r' : Nat) (L' : List Nat) (d' e' : DS) (ev' : Int), z = ((some (Addr.mk b' 0 none), ()), (some (Addr.mk r' 0 none), ()), (some (Addr.mk x 0 none), ()), (ev', ()), (some (Addr.mk y 0 none), ()), (ev', ()), (o.kd, (a', n', c'), o.n, (ka, kn, kc), ()), ((some ad, n, c), ()), ((n : Int), ()), ((i : Int), ()), ()) ∧
    PI s0 s' b' m' r' L' d' e' (C + 2 + 8 * szS o.l) ∧ ((DiaryIs s' x b' nm ∧ QIs s' y r' nm) ∨ (o.kd = 4 ∧ (d'.opens nm).1.2 = 0))) ?_ ?_
  rotate_left
  · intro J hJ
    refine (W.br_iff _ _ _ _).2 ⟨fun _ => ?_, fun _ => (W.br_iff _ _ _ _).2 ⟨fun _ => ?_, fun _ => (W.br_iff _ _ _ _).2 ⟨fun _ => ?_, fun _ => (W.br_iff _ _ _ _).2 ⟨fun e4 => ?_, fun _ => ?_⟩⟩⟩⟩
    · -- an append
      refine copyS (hl.mono hP.mod.le) (by omega) ?_
      intro g c1 s1 g1 _ m1 _ _
      have hP1 := hP.same m1 (Nat.le_refl _)
      have hX1 := hX.mod m1 (by simp)
      have hY1 := hY.mod m1 (by simp)
      have hgz := (hP.sim'.got nm).2.2.2
      refine W.call_of (c_dAppend (c := c1) hX1 hP1.drive g1 (by omega) (by omega)) ?_
      rintro _ s2 ⟨rfl, h2, m2⟩
      refine ⟨(((d.puts nm o.l).1, ()), ()), rfl, ?_⟩
      have hM2 := hP1.modD m2
      have hY2 := hY1.mod m2 (hY1.off hP1.drive)
      have hsim := hP.sim'.puts nm o.l (Nat.le_refl _) hnm
      have has := allB_size o.l
      have hap := (hP.sim'.append nm (allB o.l).1 (Nat.le_refl _) hnm).2.enames (by omega)
      have hfz : ∀ p ∈ e.files, p.2.1.size ≤ C := fun p hp => (hP.sim'.file p (hP.sim'.perm.mem_iff.1 hp)).2.2.2
      refine W.call_of (c_qAppend (c := c') hY2 (hP1.refD m2) (hP.sim'.enames (by omega)) (hl.mono hM2.le) (by omega) (fun p hp => by have := hfz p hp; omega) (by omega) hap) ?_
      rintro _ s3 ⟨rfl, L3, h3, m3⟩
      refine ⟨(((e.rputs nm o.l).1, ()), ()), rfl, ?_⟩
      rw [← hsim.1]
      exact hJ _ _ ⟨b, m, r, L3, _, _, _, rfl, hP1.both m2 h2 h3 m3 (hsim.2.mono (by omega)), .inl (hP1.diaries m2 m3 hX1 hY1)⟩
    · -- a rewrite
      refine copyS (hl.mono hP.mod.le) (by omega) ?_
      intro g c1 s1 g1 _ m1 _ _
      have hP1 := hP.same m1 (Nat.le_refl _)
      have hX1 := hX.mod m1 (by simp)
      have hY1 := hY.mod m1 (by simp)
      refine W.call_of (c_dRewrite (c := c1) hX1 hP1.drive g1 (by omega) (by omega)) ?_
      rintro _ s2 ⟨rfl, h2, m2⟩
      refine ⟨(((d.rewrites nm o.l).1, ()), ()), rfl, ?_⟩
      have hM2 := hP1.modD m2
      have hY2 := hY1.mod m2 (hY1.off hP1.drive)
      have hsim := hP.sim'.rewrites nm o.l (Nat.le_refl _) hnm
      refine W.call_of (c_qRewrite (c := c') hY2 (hP1.refD m2) (hP.sim'.enames (by omega)) (hl.mono hM2.le) (by omega) (by omega)) ?_
      rintro _ s3 ⟨rfl, L3, h3, m3⟩
      refine ⟨(((e.rrewrites nm o.l).1, ()), ()), rfl, ?_⟩
      rw [← hsim.1]
      exact hJ _ _ ⟨b, m, r, L3, _, _, _, rfl, hP1.both m2 h2 h3 m3 (hsim.2.mono (by omega)), .inl (hP1.diaries m2 m3 hX1 hY1)⟩
    · -- the power goes later
      refine W.call_of (c_Arm hP.drive o.n) ?_
      rintro _ s1 ⟨rfl, h1, m1⟩
      refine ⟨(), rfl, ?_⟩
      have m1' : Fw.Mod [b, m] s s1 := m1.mono (by simp)
      refine W.call_of (c_rArm (hP.refD m1') o.n) ?_
      rintro _ s2 ⟨rfl, h2, m2⟩
      refine ⟨(), rfl, ?_⟩
      have hs2 : Step L L s1 s2 := ⟨m2, fun x hx => .inl hx⟩
      exact hJ _ _ ⟨b, m, r, L, _, _, _, rfl, hP.both m1' h1 h2 hs2 ((hP.sim'.arm o.n hon).mono (by omega)), .inl (hP.diaries m1' hs2 hX hY)⟩
    · -- the power goes
      have e4 : o.kd = 4 := eq_of_beq e4
      refine W.nw_of fun r1 s1 hr1 m1 k1 => ?_
      refine app_copy ((hk.mono hP.mod).mono m1) k1 (by omega) ?_
      intro a2 c2 s2 m2 hk2
      have hP2 := hP.same (m1.trans m2) (Nat.le_refl _)
      have hok : d.Ok := hP.sim'.ok (by omega)
      refine W.call_of (c_Crash hP2.drive hok (c := c2) hk2) ?_
      rintro _ s3 ⟨b', m', rfl, h3, _, m3, hb', hm'⟩
      refine ⟨((some ⟨b', 0, none⟩, ()), ()), rfl, ?_⟩
      have m3' : Fw.Mod [b, m] s2 s3 := m3.mono (by simp)
      have hM3 := hP2.modD m3'
      have hfz : ∀ p ∈ e.files, 0 ≤ p.2.2 ∧ p.2.2 ≤ p.2.1.size ∧ p.2.1.size ≤ 9223372036854775807 := fun p hp => by
        obtain ⟨_, g1, g2, g3⟩ := hP.sim'.file p (hP.sim'.perm.mem_iff.1 hp)
        exact ⟨g1, g2, by omega⟩
      have hfl : e.files.length ≤ 1000000 := (hP.sim'.enames (by omega)).1
      refine W.call_of (c_rCrash (hP2.refD m3') hfz hfl (c := kc) (hk.mono hM3)) ?_
      rintro _ s4 ⟨r', L', rfl, h4, m4, hn4⟩
      refine ⟨((some ⟨r', 0, none⟩, ()), ()), rfl, ?_⟩
      have hR3 := hP2.refD m3'
      have hrL : ∀ g ∈ [r], g ∈ L := by
        intro g hg; simp at hg; subst hg
        obtain ⟨_, _, _, hL, _⟩ := hR3.ex
        rw [hL]; simp
      have hbr : b' ∉ [r] ∧ m' ∉ [r] := ⟨fun hg => (hR3.offD h3).1 (hrL _ hg), fun hg => (hR3.offD h3).2 (hrL _ hg)⟩
      refine hJ _ _ ⟨b', m', r', L', _, _, _, rfl, ⟨h3.mod m4 hbr.1 hbr.2, h4, ⟨C, hP.sim'.crash (by omega) o.k, by omega⟩, hP2.mod.none hb' (by simp), hP2.mod.none hm' (by simp), fun g hg => hM3.none (hn4 g hg) (by simp), hM3.fresh m4 fun g hg => .inr (hP.nl g (hrL g hg))⟩, .inr ⟨e4, crash_opens _ _ _⟩⟩
    · exact hJ _ _ ⟨b, m, r, L, _, _, _, rfl, hP.same (Mod.refl _ _) (by omega), .inl ⟨hX, hY⟩⟩
  clear hX hY hP
  rintro _ s1 ⟨b', m', r', L', d', e', ev', rfl, hP, hXY⟩
  dsimp only
  refine (W.br_iff _ _ _ _).2 ⟨fun e => (by rw [ne_self] at e; cases e), fun _ => ?_⟩
  have hnames := hP.sim'.enames (by omega)
  have hrs := hP.sim'.read_size nm
  have hrr := hP.sim'.read nm
  refine W.join_gen (fun z s'' => ∃ q : Bool, z = ((some (Addr.mk b' 0 none), ()), (some (Addr.mk r' 0 none), ()), (some (Addr.mk x 0 none), ()), (ev', ()), (some (Addr.mk y 0 none), ()), (ev', ()), ((some ad, n, c), ()), ((n : Int), ()), ((i : Int), ()), (q, ()), ()) ∧ s'' = s1 ∧ (o.kd = 4 → q = true)) ?_ ?_
  rotate_left
  · intro J hJ
    refine (W.br_iff _ _ _ _).2 ⟨fun _ => hJ _ _ ⟨true, rfl, rfl, fun _ => rfl⟩, fun _ => hJ _ _ ⟨_, rfl, rfl, fun e => ?_⟩⟩
    rw [e]; rfl
  rintro _ s1 ⟨q, rfl, rfl, hq⟩
  dsimp only
  refine (W.br_iff _ _ _ _).2 ⟨fun _ => ?_, fun hq0 => ?_⟩
  · obtain ⟨q1, q2⟩ := hP.sim'.opens nm (Nat.le_refl _) hnm
    have hol := opens_len d' nm
    refine W.call_of (c_Open hP.drive nm (by omega)) ?_
    rintro _ s2 ⟨⟨px, oa, oc, rfl, hr2, hf2, hx2⟩, h2, m2⟩
    refine ⟨((px, ()), ((oa, (d'.opens nm).1.1.length, oc), ()), ((d'.opens nm).1.2, ()), ()), rfl, ?_⟩
    have hR2 := hP.refD m2
    have hro := c_rOpen hR2 hnames nm (by rw [← hrr]; omega)
    rw [← q1] at hro
    refine W.call_of hro ?_
    rintro _ s3 ⟨⟨qx, qa, qc, rfl, hr3, hf3, hx3⟩, L3, h3, m3⟩
    refine ⟨((qx, ()), ((qa, (d'.opens nm).1.1.length, qc), ()), ((d'.opens nm).1.2, ()), ()), rfl, ?_⟩
    dsimp only
    refine (W.br_iff _ _ _ _).2 ⟨fun e => (by rw [ne_self] at e; cases e), fun _ => ?_⟩
    have he1 := elems.of_row (hr2.mod m3.mod (hR2.offS hr2))
    have he2 := elems.of_row hr3
    have hsame := c_Same (c := oc) (d := qc) he1 he2 (by omega) (by omega)
    rw [decide_eq_true rfl] at hsame
    refine W.call_of hsame ?_
    rintro _ _ ⟨rfl, rfl⟩
    rename_i s3
    refine ⟨((true, ()), ()), rfl, ?_⟩
    refine (W.br_iff _ _ _ _).2 ⟨fun e => (by cases e), fun _ => ?_⟩
    have hP3 := hP.both m2 h2 h3 m3 q2
    have hnames3 := hP3.sim'.enames (by omega)
    have hrr3 := hP3.sim'.read nm
    rcases hx2 with ⟨z0, x', rfl, hX2, _⟩ | ⟨z0, rfl⟩
    · obtain ⟨y', rfl, hY3⟩ : ∃ y', qx = some ⟨y', 0, none⟩ ∧ QIs s3 y' r' nm := by
        rcases hx3 with ⟨_, h⟩ | ⟨h, _⟩
        · exact h
        · exact absurd z0 h
      have hX3 := hX2.mod m3.mod (hR2.offX hX2)
      refine (W.br_iff _ _ _ _).2 ⟨fun e => (by cases e), fun _ => (W.br_iff _ _ _ _).2 ⟨fun _ => ?_, fun e => (by cases e)⟩⟩
      refine W.call_of (c_Read hP3.drive nm) ?_
      rintro _ _ ⟨rfl, rfl⟩
      rename_i s3
      refine ⟨((((d'.opens nm).2.read nm).1, ()), (((d'.opens nm).2.read nm).2, ()), ()), rfl, ?_⟩
      have hrc := c_rRead hP3.ref hnames3 nm
      rw [← hrr3] at hrc
      refine W.call_of hrc ?_
      rintro _ _ ⟨rfl, rfl⟩
      rename_i s3
      refine ⟨((((d'.opens nm).2.read nm).1, ()), (((d'.opens nm).2.read nm).2, ()), ()), rfl, ?_⟩
      dsimp only
      refine (W.br_iff _ _ _ _).2 ⟨fun e => (by rw [beq_self_eq_true] at e; cases e), fun _ => ?_⟩
      refine (W.br_iff _ _ _ _).2 ⟨fun e => (by rw [ne_self] at e; cases e), fun _ => ?_⟩
      rw [hw1]
      exact ⟨⟨i + 1, b', m', r', x', y', L3, _, _, ev', rfl, by omega, hP3.same (Mod.refl _ _) (by omega), hX3, hY3⟩, by simp only [Int.toNat_natCast]; omega⟩
    · obtain rfl : qx = none := by
        rcases hx3 with ⟨h, _⟩ | ⟨_, h⟩
        · exact absurd h z0
        · exact h
      obtain ⟨hX, hY⟩ : DiaryIs s1 x b' nm ∧ QIs s1 y r' nm := by
        rcases hXY with h | ⟨_, h⟩
        · exact h
        · exact absurd h z0
      obtain ⟨hX3, hY3⟩ := hP.diaries m2 m3 hX hY
      refine (W.br_iff _ _ _ _).2 ⟨fun e => (by cases e), fun _ => (W.br_iff _ _ _ _).2 ⟨fun e => (by cases e), fun _ => ?_⟩⟩
      refine W.call_of (c_Read hP3.drive nm) ?_
      rintro _ _ ⟨rfl, rfl⟩
      rename_i s3
      refine ⟨((((d'.opens nm).2.read nm).1, ()), (((d'.opens nm).2.read nm).2, ()), ()), rfl, ?_⟩
      have hrc := c_rRead hP3.ref hnames3 nm
      rw [← hrr3] at hrc
      refine W.call_of hrc ?_
      rintro _ _ ⟨rfl, rfl⟩
      rename_i s3
      refine ⟨((((d'.opens nm).2.read nm).1, ()), (((d'.opens nm).2.read nm).2, ()), ()), rfl, ?_⟩
      dsimp only
      refine (W.br_iff _ _ _ _).2 ⟨fun e => (by rw [beq_self_eq_true] at e; cases e), fun _ => ?_⟩
      refine (W.br_iff _ _ _ _).2 ⟨fun e => (by rw [ne_self] at e; cases e), fun _ => ?_⟩
      rw [hw1]
      exact ⟨⟨i + 1, b', m', r', x, y, L3, _, _, ev', rfl, by omega, hP3.same (Mod.refl _ _) (by omega), hX3, hY3⟩, by simp only [Int.toNat_natCast]; omega⟩
  · have hq0 : q = false := hq0
    obtain ⟨hX, hY⟩ : DiaryIs s1 x b' nm ∧ QIs s1 y r' nm := by
      rcases hXY with h | ⟨h, _⟩
      · exact h
      · rw [hq h] at hq0; cases hq0
    refine W.call_of (c_Read hP.drive nm) ?_
    rintro _ _ ⟨rfl, rfl⟩
    rename_i s1
    refine ⟨(((d'.read nm).1, ()), ((d'.read nm).2, ()), ()), rfl, ?_⟩
    have hrc := c_rRead hP.ref hnames nm
    rw [← hrr] at hrc
    refine W.call_of hrc ?_
    rintro _ _ ⟨rfl, rfl⟩
    rename_i s1
    refine ⟨(((d'.read nm).1, ()), ((d'.read nm).2, ()), ()), rfl, ?_⟩
    dsimp only
    refine (W.br_iff _ _ _ _).2 ⟨fun e => (by rw [beq_self_eq_true] at e; cases e), fun _ => ?_⟩
    refine (W.br_iff _ _ _ _).2 ⟨fun e => (by rw [ne_self] at e; cases e), fun _ => ?_⟩
    rw [hw1]
    exact ⟨⟨i + 1, b', m', r', x, y, L', _, _, ev', rfl, by omega, hP.same (Mod.refl _ _) (by omega), hX, hY⟩, by simp only [Int.toNat_natCast]; omega⟩
end Go.Proofs.Ytcdggocbjnmeaaa
