/-
  The law DiaryKeeps, over the heap.
  Conditions: none; it proves no statement by itself.
-/
import Derived.Test.YtcdggocbjnmeaaaDT6
import Derived.Test.YtcdggocbjnmeaaaDP4
set_option linter.unusedVariables false
set_option linter.unusedSimpArgs false
set_option maxHeartbeats 4000000
set_option maxRecDepth 100000
namespace Go.Proofs.Ytcdggocbjnmeaaa
open Fw Go
attribute [-simp] Fw.W.ld_iff Fw.W.st_iff

/-- append([]string{}, l...), known to the cell -/
theorem copyR {s : PH} {a : Option Addr} {n : Nat} {l : List ByteArray} (h : elems (Rd.enc strE) s a n l) (hl : n ≤ 1099511627776) {K : Option Addr → Nat → Nat → W.T}
    (hK : ∀ a' c' s', rowE strE s' 9 a' n c' l → (∀ g ∈ Fw.blk a', s g = none) → Fw.Mod [] s s' → K a' n c' s') :
    W.nw (.cells #[] 9 (0, 0)) (fun r => W.app 9 1 16 [.string ⟨#[]⟩] (some ⟨r, 0, none⟩) 0 0 (.sl a n) K) s := by
  refine W.nw_of fun r s1 hr m1 k1 => ?_
  have hmax : maxLen = 9223372036854775807 := rfl
  have hnil : rowE strE s1 9 (some ⟨r, 0, none⟩) 0 0 ([] : List ByteArray) := ⟨by simp, Nat.le_refl _, Nat.zero_le _, .inr ⟨r, _, rfl, k1, by simp, by simp⟩⟩
  refine app_rowE (E := strE) (k := n) (ys := l) hnil rfl (h.mono m1.le).src_enc rfl h.1.symm (by omega) (by omega) ?_
  intro a' c' s2 hrow hm
  simp only [List.nil_append, Nat.zero_add] at hrow ⊢
  rcases hm with ⟨rfl, hm⟩ | ⟨g, rfl, hg, hm⟩
  · refine hK _ _ _ hrow (fun g hg => ?_) (m1.fresh hm fun x hx => .inr ?_)
    · simp [Fw.blk] at hg; subst hg; exact hr
    · simp [Fw.blk] at hx; subst hx; exact hr
  · refine hK _ _ _ hrow (fun g' hg' => ?_) (m1.trans hm)
    simp [Fw.blk] at hg'; subst hg'
    exact m1.none hg (by simp)
/-- append(put, l...) -/
theorem growR {s s0 : PH} {pa a : Option Addr} {m c n : Nat} {xs l : List ByteArray} {K : Option Addr → Nat → Nat → W.T} (h : rowE strE s 9 pa m c xs) (hl : elems (Rd.enc strE) s a n l) (hf : ∀ g ∈ Fw.blk pa, s0 g = none) (m0 : Fw.Mod [] s0 s)
    (hx : xs.length ≤ 1099511627776) (hn : n ≤ 1099511627776)
    (hK : ∀ a' c' s', rowE strE s' 9 a' (m + n) c' (xs ++ l) → (∀ g ∈ Fw.blk a', s0 g = none) → Fw.Mod [] s0 s' → Fw.Mod (Fw.blk pa) s s' → K a' (m + n) c' s') :
    W.app 9 1 16 [.string ⟨#[]⟩] pa m c (.sl a n) K s := by
  have hmax : maxLen = 9223372036854775807 := rfl
  have hm := h.len
  refine app_rowE (E := strE) (k := n) (ys := l) h rfl hl.src_enc rfl hl.1.symm (by omega) (by omega) ?_
  intro a' c' s2 hrow hm
  rcases hm with ⟨rfl, hm⟩ | ⟨g, rfl, hg, hm⟩
  · exact hK _ _ _ hrow hf (m0.fresh hm fun x hx => .inr (hf x hx)) hm
  · refine hK _ _ _ hrow (fun g' hg' => ?_) (m0.trans hm) (hm.mono (by simp))
    simp [Fw.blk] at hg'; subst hg'
    exact m0.none hg (by simp)
theorem take_elems {s : PH} {a : Option Addr} {n c k : Nat} {xs : List ByteArray} (h : rowE strE s 9 a n c xs) (hk : k ≤ n) : elems (Rd.enc strE) s (if c = 0 then a else Option.map (fun x => x.add 0) a) (k - 0) (xs.take k) := by
  have e : (if c = 0 then a else Option.map (fun x : Addr => x.add 0) a) = a := by
    split
    · rfl
    · cases a with
      | none => rfl
      | some a => simp [add_zero]
  have hn := h.len
  have := elems.of_row h
  rw [e, Nat.sub_zero]
  refine ⟨by rw [List.length_take]; omega, fun i x hx => this.2 i x ?_⟩
  rw [List.getElem?_take] at hx
  split at hx
  · exact hx
  · cases hx
structure KI (s0 s : PH) (b m x : Nat) (pa : Option Addr) (pc : Nat) (d : DS) (put : List ByteArray) (sure C : Nat) : Prop where
  drive : DriveIs s b m d
  diary : DiaryIs s x b kF
  row : rowE strE s 9 pa put.length pc put
  kept : Kept d kF put sure
  arm : 0 ≤ d.armed ∧ d.armed ≤ 9223372036854775807
  sim : ∃ e B, Sim d e B ∧ B ≤ C
  plen : put.length ≤ C
  nb : s0 b = none
  nm : s0 m = none
  nf : ∀ g ∈ Fw.blk pa, s0 g = none
  mod : Fw.Mod [] s0 s
theorem str_off {s : PH} {a : Option Addr} {n c g : Nat} {xs : List ByteArray} (h : rowE strE s 9 a n c xs) (hg : g ∈ Fw.blk a) : ∃ cur, s g = some (.cells cur 9 (0, 0)) := by
  rcases h.shape with ⟨rfl, _⟩ | ⟨g', rfl⟩
  · simp [Fw.blk] at hg
  · simp [Fw.blk] at hg; subst hg
    exact h.ty rfl
theorem KI.off {s0 s : PH} {b m x : Nat} {pa : Option Addr} {pc : Nat} {d : DS} {put : List ByteArray} {sure C : Nat} (h : KI s0 s b m x pa pc d put sure C) : b ∉ Fw.blk pa ∧ m ∉ Fw.blk pa ∧ x ∉ Fw.blk pa := by
  refine ⟨fun hg => ?_, fun hg => ?_, fun hg => ?_⟩
  · obtain ⟨cur, hc⟩ := str_off h.row hg
    have := h.drive.blk; rw [hc] at this; cases this
  · obtain ⟨cur, hc⟩ := str_off h.row hg
    obtain ⟨es, c, h1, _⟩ := h.drive.map; rw [hc] at h1; cases h1
  · obtain ⟨cur, hc⟩ := str_off h.row hg
    have := h.diary; unfold DiaryIs at this; rw [hc] at this; cases this
theorem KI.off2 {s0 s : PH} {b m x : Nat} {pa : Option Addr} {pc : Nat} {d : DS} {put : List ByteArray} {sure C : Nat} (h : KI s0 s b m x pa pc d put sure C) : ∀ g ∈ Fw.blk pa, g ∉ [b, m] := by
  intro g hg e
  simp at e
  rcases e with rfl | rfl
  · exact h.off.1 hg
  · exact h.off.2.1 hg
theorem KI.same {s0 s s' : PH} {b m x : Nat} {pa : Option Addr} {pc : Nat} {d : DS} {put : List ByteArray} {sure C C' : Nat} (h : KI s0 s b m x pa pc d put sure C) (hm : Fw.Mod [] s s') (hC : C ≤ C') : KI s0 s' b m x pa pc d put sure C' := by
  obtain ⟨e, B, h1, h2⟩ := h.sim
  exact ⟨h.drive.mod hm (by simp) (by simp), h.diary.mod hm (by simp), h.row.mod hm (by simp), h.kept, h.arm, ⟨e, B, h1, by omega⟩, Nat.le_trans h.plen hC, h.nb, h.nm, h.nf, h.mod.trans hm⟩
/-- the drive has changed, what was put has not -/
theorem KI.drv {s0 s s' : PH} {b m x : Nat} {pa : Option Addr} {pc : Nat} {d d' : DS} {put : List ByteArray} {sure C C' : Nat} (h : KI s0 s b m x pa pc d put sure C) (hm : Fw.Mod [b, m] s s') (hd : DriveIs s' b m d') (hk : Kept d' kF put sure)
    (ha : 0 ≤ d'.armed ∧ d'.armed ≤ 9223372036854775807) (hs : ∃ e B, Sim d' e B ∧ B ≤ C') (hC : C ≤ C') : KI s0 s' b m x pa pc d' put sure C' :=
  ⟨hd, h.diary.mod hm (h.diary.off h.drive), h.row.mod hm h.off2, hk, ha, hs, Nat.le_trans h.plen hC, h.nb, h.nm, h.nf, h.mod.fresh hm fun g hg => by
    simp at hg; rcases hg with rfl | rfl
    · exact .inr h.nb
    · exact .inr h.nm⟩
theorem KI.inv {s0 s : PH} {b m x : Nat} {pa : Option Addr} {pc : Nat} {d : DS} {put : List ByteArray} {sure C : Nat} (h : KI s0 s b m x pa pc d put sure C) : put.length ≤ C ∧ (d.got kF).1.size ≤ C := by
  obtain ⟨e, B, h1, h2⟩ := h.sim
  exact ⟨h.plen, by have := (h1.got kF).2.2.2; omega⟩
theorem kF_small : kF.size ≤ 281474976710656 := by decide
theorem c_DiaryKeeps {s0 : PH} {a : Option Addr} {n c : Nat} {ops : List Op} (h : elems rdOp s0 a n ops) (hb : sumC ops ≤ 1048576) : DCalls Try.prog 6 #[.slice a n c] s0 fun y s' => y = .bool true ∧ Fw.Mod [] s0 s' := by
  refine ok_DiaryKeeps a n c _ s0 ?_
  unfold vc_DiaryKeeps
  obtain ⟨R, hR⟩ : ∃ R : Value → PH → Prop, (fun y s' => y = .bool true ∧ Fw.Mod [] s0 s') = R := ⟨_, rfl⟩
  rw [hR]
  have hn : n = ops.length := h.1
  simp only [RP_ite, RP_ret, RP_guard, RP_loop, RP_unSome, RP_ld, RP_call, RP_nw, RP_join, RP_app]
  refine W.join_gen (fun z s' => s' = s0 ∧ ops.length ≤ 100 ∧ sumC ops ≤ 16384) ?_ ?_
  rotate_left
  · intro J hJ
    refine W.call_of (c_awake s0) ?_
    rintro _ s1 ⟨rfl, rfl⟩
    refine ⟨((true, ()), ()), rfl, ?_⟩
    refine (W.br_iff _ _ _ _).2 ⟨fun e => (by cases e), fun _ => ?_⟩
    refine W.call_of (c_great h hb) ?_
    rintro _ _ ⟨⟨b, rfl, hb2⟩, rfl⟩
    refine ⟨((b, ()), ()), rfl, ?_⟩
    refine (W.br_iff _ _ _ _).2 ⟨fun e => ?_, fun e => hJ _ _ ⟨rfl, hb2 e⟩⟩
    refine W.call_of (c_awake _) ?_
    rintro _ _ ⟨rfl, rfl⟩
    refine ⟨((true, ()), ()), rfl, ?_⟩
    rw [← hR]; exact ⟨rfl, Mod.refl _ _⟩
  rintro _ _ ⟨rfl, hlen, hsum⟩
  rename_i s0
  refine W.call_of (c_New s0) ?_
  rintro _ s1 ⟨b, m, rfl, h1, m1, hb1, hm1⟩
  refine ⟨((some ⟨b, 0, none⟩, ()), ()), rfl, ?_⟩
  have ho := c_Open h1 kF (by decide)
  rw [aw1] at ho
  refine W.call_of ho ?_
  rintro _ s2 ⟨⟨px, pa, pc, rfl, hr, hf, hx⟩, h2, m2⟩
  obtain ⟨x, rfl, hD, hxn⟩ : ∃ x, px = some ⟨x, 0, none⟩ ∧ DiaryIs s2 x b kF ∧ s1 x = none := by
    rcases hx with ⟨_, x, h⟩ | ⟨h, _⟩
    · exact ⟨x, h⟩
    · exact absurd rfl h
  refine ⟨((some ⟨x, 0, none⟩, ()), ((pa, 0, pc), ()), (0, ()), ()), rfl, ?_⟩
  refine (W.br_iff _ _ _ _).2 ⟨fun e => (by cases e), fun _ => ?_⟩
  have m2' : Fw.Mod [] s0 s2 := m1.fresh m2 (by simp [hb1, hm1])
  refine ⟨fun z s' => ∃ (i : Nat) (b m x : Nat) (pa : Option Addr) (pc : Nat) (d : DS) (put : List ByteArray) (sure : Nat), z = ((some (Addr.mk b 0 none), ()), (some (Addr.mk x 0 none), ()), ((pa, put.length, pc), ()), ((sure : Int), ()), ((a, n, c), ()), ((n : Int), ()), ((i : Int), ()), ()) ∧
    i ≤ n ∧ KI s0 s' b m x pa pc d put sure (3 * i + 8 * sumC (ops.take i)), fun z _ => n - z.2.2.2.2.2.2.1.1.toNat,
    ⟨0, b, m, x, none, 0, ⟨[], false, 0⟩, [], 0, rfl, Nat.zero_le _, ⟨h2, hD, rowE.nil, Kept.start, ⟨Int.le_refl _, by show (0 : Int) ≤ _; omega⟩, ⟨_, 0, Sim.start, Nat.zero_le _⟩, Nat.zero_le _, hb1, hm1, by simp [Fw.blk], m2'⟩⟩, ?_⟩
  clear hD hxn hr hf hx h1 h2 m1 m2 m2' hb1 hm1 ho
  rintro _ s ⟨i, b, m, x, pa, pc, d, put, sure, rfl, hi, hI⟩
  refine (W.br_iff _ _ _ _).2 ⟨fun hlt => ?_, fun hge => ?_⟩
  rotate_left
  · rw [← hR]; exact ⟨rfl, hI.mod⟩
  have hlt : (i : Int) < (n : Int) := of_decide_eq_true hlt
  obtain ⟨o, hoi⟩ : ∃ o, ops[i]? = some o := ⟨_, List.getElem?_eq_getElem (by omega)⟩
  obtain ⟨ad, a', n', c', ka, kn, kc, rfl, hh, hl, hk, hon, _, hkn⟩ := op_at (h.mono hI.mod.le) hoi
  have hss := sumC_snoc hoi
  have hst := sumC_take_le ops (i + 1)
  have hkl : kn = o.k.length := hk.1
  have hnl : n' = o.l.length := hl.1
  have hopc : opC o = szS o.l + o.k.length + 1 := rfl
  have hrz := recs_szS o.l
  have hlz := szS_len o.l
  have hw1 : IntKind.i64.wrap ((i : Int) + 1) = ((i + 1 : Nat) : Int) := wrap_succ (k := i) (by omega)
  obtain ⟨hpl, hgz⟩ := hI.inv
  have hC : 3 * i + 8 * sumC (ops.take i) ≤ 3 * (i + 1) + 8 * sumC (ops.take (i + 1)) := by omega
  dsimp only
  refine (W.guard_iff _ _ _).2 ⟨by omega, ?_⟩
  simp only [W.unSome_some, Int.toNat_natCast]
  refine ld_has_z hh (y := (o.kd, (a', n', c'), o.n, (ka, kn, kc), ())) rfl ?_
  dsimp only
  refine (W.br_iff _ _ _ _).2 ⟨fun _ => ?_, fun _ => (W.br_iff _ _ _ _).2 ⟨fun _ => ?_, fun _ => (W.br_iff _ _ _ _).2 ⟨fun _ => ?_, fun _ => (W.br_iff _ _ _ _).2 ⟨fun _ => ?_, fun _ => ?_⟩⟩⟩⟩
  · -- an append
    refine W.join_gen (fun z s' => z = ((some (Addr.mk b 0 none), ()), (some (Addr.mk x 0 none), ()), ((pa, put.length, pc), ()), ((sure : Int), ()), (o.kd, (a', n', c'), o.n, (ka, kn, kc), ()), ((some ad, n, c), ()), ((n : Int), ()), ((i : Int), ()), ()) ∧
      bigB o.l = false ∧ DriveIs s' b m (d.puts kF o.l).2 ∧ Fw.Mod [b, m] s s') ?_ ?_
    rotate_left
    · intro J hJ
      refine copyS hl (by omega) ?_
      intro g c1 s1 h1 _ m1 _ _
      have hI1 := hI.same m1 (Nat.le_refl _)
      refine W.call_of (c_dAppend (c := c1) hI1.diary hI1.drive h1 (by omega) (by omega)) ?_
      rintro _ s2 ⟨rfl, h2, m2⟩
      refine ⟨(((d.puts kF o.l).1, ()), ()), rfl, ?_⟩
      have m12 : Fw.Mod [b, m] s s2 := (m1.mono (by simp)).trans m2
      cases hbig : bigB o.l with
      | true =>
        rw [puts_big hbig]
        refine (W.br_iff _ _ _ _).2 ⟨fun _ => (W.br_iff _ _ _ _).2 ⟨fun _ => ?_, fun e => (by cases e)⟩, fun e => (by cases e)⟩
        rw [← hR]
        exact ⟨rfl, (hI.drv m12 (d' := (d.puts kF o.l).2) h2 (by rw [puts_big hbig]; exact hI.kept) (by rw [puts_big hbig]; exact hI.arm) (by rw [puts_big hbig]; exact hI.sim) (Nat.le_refl _)).mod⟩
      | false =>
        obtain ⟨ha, _⟩ := hI.kept.append hI.arm o.l hbig
        have hj := hJ (((some (Addr.mk b 0 none), ()), (some (Addr.mk x 0 none), ()), ((pa, put.length, pc), ()), ((sure : Int), ()), (o.kd, (a', n', c'), o.n, (ka, kn, kc), ()), ((some ad, n, c), ()), ((n : Int), ()), ((i : Int), ()), ())) s2 ⟨rfl, hbig, h2, m12⟩
        refine (W.br_iff _ _ _ _).2 ⟨fun e => (W.br_iff _ _ _ _).2 ⟨fun e2 => ?_, fun _ => hj⟩, fun _ => hj⟩
        rcases ha with ha | ha
        · rw [ha] at e; cases e
        · rw [ha] at e2; cases e2
    rintro _ s1 ⟨rfl, hbig, h1, m1⟩
    obtain ⟨ha, harm, k1, k2, k3⟩ := hI.kept.append hI.arm o.l hbig
    have hsim : ∃ e B, Sim (d.puts kF o.l).2 e B ∧ B ≤ 3 * (i + 1) + 8 * sumC (ops.take (i + 1)) := by
      obtain ⟨e, B, g1, g2⟩ := hI.sim
      exact ⟨_, _, (g1.puts kF o.l (Nat.le_refl _) kF_small).2, by omega⟩
    obtain ⟨d', hd'⟩ : ∃ d', (d.puts kF o.l).2 = d' := ⟨_, rfl⟩
    rw [hd'] at h1 harm k1 k2 k3 hsim
    dsimp only
    have hl1 : elems (Rd.enc strE) s1 a' n' o.l := by
      have m01 : Fw.Mod [] s0 s1 := hI.mod.fresh m1 (by simp [hI.nb, hI.nm])
      obtain ⟨ad2, a2, n2, c2, ka2, kn2, kc2, e0, hh2, hl2, _⟩ := op_at (h.mono m01.le) hoi
      have hh3 := hI.mod.le
      cases e0
      obtain ⟨_, a3, n3, c3, ka3, kn3, kc3, e3, hh3, _⟩ := op_at h hoi
      cases e3
      have q1 := (hh3.mono m01.le) 1 _ rfl
      have q2 := (hh3.mono hI.mod.le) 1 _ rfl
      have q3 := hh2 1 _ rfl
      have q4 := hh 1 _ rfl
      rw [q1] at q3
      rw [q2] at q4
      cases q3; cases q4
      exact hl2
    have hrow1 := hI.row.mod m1 hI.off2
    have hdia1 := hI.diary.mod m1 (hI.diary.off hI.drive)
    have m01 : Fw.Mod [] s0 s1 := hI.mod.fresh m1 (by simp [hI.nb, hI.nm])
    have hgrow : ∀ (q : Nat) (sure' : Nat), Kept d' kF (put ++ o.l) sure' → ∀ a2 c2 s2, rowE strE s2 9 a2 (put.length + n') c2 (put ++ o.l) → (∀ g ∈ Fw.blk a2, s0 g = none) → Fw.Mod [] s0 s2 → Fw.Mod (Fw.blk pa) s1 s2 →
        KI s0 s2 b m x a2 c2 d' (put ++ o.l) sure' (3 * (i + 1) + 8 * sumC (ops.take (i + 1))) := by
      intro _ sure' hk' a2 c2 s2 hr2 hf2 m2 m3
      have hpn : put.length + n' = (put ++ o.l).length := by rw [List.length_append]; omega
      rw [hpn] at hr2
      exact ⟨h1.mod m3 hI.off.1 hI.off.2.1, hdia1.mod m3 hI.off.2.2, hr2, hk', harm, hsim, by rw [List.length_append]; omega, hI.nb, hI.nm, hf2, m2⟩
    have hpn : put.length + n' = (put ++ o.l).length := by rw [List.length_append]; omega
    refine W.call_of (c_Down h1) ?_
    rintro _ _ ⟨rfl, rfl⟩
    refine ⟨((d'.down, ()), ()), rfl, ?_⟩
    refine (W.br_iff _ _ _ _).2 ⟨fun e => ?_, fun e => (W.br_iff _ _ _ _).2 ⟨fun e2 => ?_, fun e2 => ?_⟩⟩
    · have e : d'.down = false := by simpa using e
      refine growR hrow1 hl1 hI.nf m01 (by omega) (by omega) ?_
      intro a2 c2 s2 hr2 hf2 m2 m3
      have hki := hgrow 0 _ (k1 e) a2 c2 s2 hr2 hf2 m2 m3
      rw [hw1, hpn]
      exact ⟨⟨i + 1, b, m, x, a2, c2, d', put ++ o.l, (put ++ o.l).length, rfl, by omega, hki⟩, by simp only [Int.toNat_natCast]; omega⟩
    · have e : d'.down = true := by simpa using e
      have e2 : ((put.length : Int) == (sure : Int)) = true := e2
      have e2 : put.length = sure := by have := eq_of_beq e2; omega
      refine growR hrow1 hl1 hI.nf m01 (by omega) (by omega) ?_
      intro a2 c2 s2 hr2 hf2 m2 m3
      have hki := hgrow 0 _ (k2 e e2) a2 c2 s2 hr2 hf2 m2 m3
      rw [hw1, hpn]
      exact ⟨⟨i + 1, b, m, x, a2, c2, d', put ++ o.l, sure, rfl, by omega, hki⟩, by simp only [Int.toNat_natCast]; omega⟩
    · have e : d'.down = true := by simpa using e
      have e2 : ((put.length : Int) == (sure : Int)) = false := e2
      have e2 : put.length ≠ sure := fun e3 => by rw [e3] at e2; simp at e2
      rw [hw1]
      exact ⟨⟨i + 1, b, m, x, pa, pc, d', put, sure, rfl, by omega, hI.drv m1 h1 (k3 e e2) harm hsim hC⟩, by simp only [Int.toNat_natCast]; omega⟩
  · -- a rewrite
    refine copyS hl (by omega) ?_
    intro g c1 s1 h1 _ m1 _ _
    have hI1 := hI.same m1 (Nat.le_refl _)
    refine W.call_of (c_dRewrite (c := c1) hI1.diary hI1.drive h1 (by omega) (by omega)) ?_
    rintro _ s2 ⟨rfl, h2, m2⟩
    refine ⟨(((d.rewrites kF o.l).1, ()), ()), rfl, ?_⟩
    obtain ⟨harm, k1, k2⟩ := hI.kept.rewrites hI.arm o.l
    have hsim : ∃ e B, Sim (d.rewrites kF o.l).2 e B ∧ B ≤ 3 * (i + 1) + 8 * sumC (ops.take (i + 1)) := by
      obtain ⟨e, B, g1, g2⟩ := hI.sim
      exact ⟨_, _, (g1.rewrites kF o.l (Nat.le_refl _) kF_small).2, by omega⟩
    have m12 : Fw.Mod [b, m] s s2 := (m1.mono (by simp)).trans m2
    refine (W.br_iff _ _ _ _).2 ⟨fun e => ?_, fun e => ?_⟩
    · have e : (d.rewrites kF o.l).1 = 0 := eq_of_beq e
      have hm02 : Fw.Mod [] s0 s2 := hI.mod.fresh m12 (by simp [hI.nb, hI.nm])
      have hl2 : elems (Rd.enc strE) s2 a' n' o.l := by
        obtain ⟨ad2, a2, n2, c2, ka2, kn2, kc2, e0, hh2, hl2, _⟩ := op_at (h.mono hm02.le) hoi
        cases e0
        obtain ⟨_, a3, n3, c3, ka3, kn3, kc3, e3, hh3, _⟩ := op_at h hoi
        cases e3
        have q1 := (hh3.mono hm02.le) 1 _ rfl
        have q2 := (hh3.mono hI.mod.le) 1 _ rfl
        have q3 := hh2 1 _ rfl
        have q4 := hh 1 _ rfl
        rw [q1] at q3
        rw [q2] at q4
        cases q3; cases q4
        exact hl2
      refine copyR hl2 (by omega) ?_
      intro a2 c2 s3 hr3 hf3 m3
      rw [hw1, hnl]
      rw [hnl] at hr3
      refine ⟨⟨i + 1, b, m, x, a2, c2, (d.rewrites kF o.l).2, o.l, o.l.length, rfl, by omega, ⟨h2.mod m3 (by simp) (by simp), ?_, hr3, k1 e, harm, hsim, by omega, hI.nb, hI.nm, ?_, hm02.trans m3⟩⟩, by simp only [Int.toNat_natCast]; omega⟩
      · exact (hI.diary.mod m12 (hI.diary.off hI.drive)).mod m3 (by simp)
      · exact fun g hg => hm02.none (hf3 g hg) (by simp)
    · have e : (d.rewrites kF o.l).1 ≠ 0 := by
        intro e3; rw [e3] at e; cases e
      rw [hw1]
      exact ⟨⟨i + 1, b, m, x, pa, pc, (d.rewrites kF o.l).2, put, sure, rfl, by omega, hI.drv m12 h2 (k2 e) harm hsim hC⟩, by simp only [Int.toNat_natCast]; omega⟩
  · -- the power goes later
    refine W.call_of (c_Arm hI.drive o.n) ?_
    rintro _ s1 ⟨rfl, h1, m1⟩
    refine ⟨(), rfl, ?_⟩
    rw [hw1]
    refine ⟨⟨i + 1, b, m, x, pa, pc, d.arm o.n, put, sure, rfl, by omega, hI.drv (m1.mono (by simp)) h1 (hI.kept.arm o.n) (arm_armed o.n hon hI.arm) ?_ hC⟩, by simp only [Int.toNat_natCast]; omega⟩
    obtain ⟨e, B, g1, g2⟩ := hI.sim
    exact ⟨_, _, g1.arm o.n hon, by omega⟩
  · -- the power goes
    refine W.nw_of fun r s1 hr m1 k1 => ?_
    refine app_copy (hk.mono m1) k1 (by omega) ?_
    intro a2 c2 s2 m2 hk2
    have hI2 := hI.same (m1.trans m2) (Nat.le_refl _)
    obtain ⟨e, B, g1, g2⟩ := hI.sim
    have hok : d.Ok := g1.ok (by omega)
    have gsim := g1.crash (by omega) o.k
    have grz := gsim.read_size kF
    have gop := gsim.opens kF (Nat.le_refl _) kF_small
    obtain ⟨q, hq1, hq2, hq3, hq4, hq5⟩ := hI.kept.crash hok o.k
    refine W.call_of (c_Crash hI2.drive hok (c := c2) hk2) ?_
    rintro _ s3 ⟨b', m', rfl, h3, _, m3, hb', hm'⟩
    refine ⟨((some ⟨b', 0, none⟩, ()), ()), rfl, ?_⟩
    have hrow3 := hI2.row.mod m3 fun g hg e => hI2.off2 g hg (by simp at e ⊢; exact .inl e)
    have m03 : Fw.Mod [] s0 s3 := hI2.mod.fresh m3 (by simp [hI.nb])
    have nb' : s0 b' = none := hI2.mod.none hb' (by simp)
    have nm' : s0 m' = none := hI2.mod.none hm' (by simp)
    have ho := c_Open h3 kF (by omega)
    obtain ⟨O, hO⟩ : ∃ O, (d.crash o.k).opens kF = O := ⟨_, rfl⟩
    rw [hO] at ho hq3 hq4 hq5 gop
    obtain ⟨⟨ol, oe⟩, od⟩ := O
    dsimp only at hq3 hq4 hq5 gop ho
    cases hq3
    refine W.call_of ho ?_
    rintro _ s4 ⟨⟨px, za, zc, rfl, hr4, hf4, hx4⟩, h4, m4⟩
    obtain ⟨x', rfl, hD4, hxn⟩ : ∃ x', px = some ⟨x', 0, none⟩ ∧ DiaryIs s4 x' b' kF ∧ s3 x' = none := by
      rcases hx4 with ⟨_, x, h⟩ | ⟨h, _⟩
      · exact ⟨x, h⟩
      · exact absurd rfl h
    have hql : (put.take q).length = q := by rw [List.length_take]; omega
    dsimp only at hr4
    rw [hql] at hr4
    refine ⟨((some ⟨x', 0, none⟩, ()), ((za, (put.take q).length, zc), ()), (0, ()), ()), rfl, ?_⟩
    rw [hql]
    refine (W.br_iff _ _ _ _).2 ⟨fun e => (by cases e), fun _ => ?_⟩
    refine (W.br_iff _ _ _ _).2 ⟨fun e => (by cases e), fun _ => ?_⟩
    refine (W.br_iff _ _ _ _).2 ⟨fun e => ?_, fun _ => ?_⟩
    · have e : (q : Int) < (sure : Int) := of_decide_eq_true e
      omega
    refine (W.br_iff _ _ _ _).2 ⟨fun e => ?_, fun _ => ?_⟩
    · have e : (q : Int) > (put.length : Int) := of_decide_eq_true e
      omega
    have hrow4 := hrow3.mod m4 fun g hg e => by
      simp at e
      have hgn := hI2.row.known g hg
      rcases e with rfl | rfl
      · exact hgn hb'
      · exact hgn hm'
    have hple := hrow4.le
    dsimp only
    refine (W.guard_iff _ _ _).2 ⟨by omega, ?_⟩
    have he1 := elems.of_row hr4
    have he2 := take_elems (k := q) hrow4 hq2
    have hsame := c_Same (c := zc) (d := pc - 0) he1 he2 (by omega) (by omega)
    rw [decide_eq_true rfl] at hsame
    refine W.call_of hsame ?_
    rintro _ _ ⟨rfl, rfl⟩
    refine ⟨((true, ()), ()), rfl, ?_⟩
    refine (W.br_iff _ _ _ _).2 ⟨fun e => (by cases e), fun _ => ?_⟩
    refine copyR he1 (by omega) ?_
    intro a5 c5 s5 hr5 hf5 m5
    have m04 := m03.fresh m4 (by simp [nb', nm'])
    rw [hw1]
    refine ⟨⟨i + 1, b', m', x', a5, c5, od, put.take q, q, ?_, by omega, ⟨h4.mod m5 (by simp) (by simp), hD4.mod m5 (by simp), ?_, hq4, by rw [hq5]; omega, ⟨_, _, gop.2, by omega⟩, by omega, nb', nm', fun g hg => m04.none (hf5 g hg) (by simp), m04.trans m5⟩⟩, by simp only [Int.toNat_natCast]; omega⟩
    · rw [hql]
    · rw [hql]; exact hr5
  · -- nothing
    rw [hw1]
    exact ⟨⟨i + 1, b, m, x, pa, pc, d, put, sure, rfl, by omega, hI.same (Mod.refl _ _) hC⟩, by simp only [Int.toNat_natCast]; omega⟩
end Go.Proofs.Ytcdggocbjnmeaaa
