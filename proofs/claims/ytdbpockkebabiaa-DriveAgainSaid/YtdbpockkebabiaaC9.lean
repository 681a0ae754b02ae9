/-
  A script's calls of both drives.
  Conditions: none; it proves no statement by itself.
-/
import Derived.Test.YtdbpockkebabiaaC8
import Derived.Test.YtdbpockkebabiaaC4
set_option linter.unusedVariables false
set_option linter.unusedSimpArgs false
set_option maxHeartbeats 1000000
namespace Go.Proofs.Ytdbpockkebabiaa
open Fw Go
attribute [-simp] Fw.W.ld_iff Fw.W.st_iff

/-! ## the calls of a script -/
structure OpD where
  kd : Int
  nm : ByteArray
  dt : ByteArray
  n : Int
  keep : List Int
def OpD.size (o : OpD) : Nat := 1 + o.nm.size + o.dt.size + o.keep.length
def rdOp : Rd OpD := (Rd.pair (Rd.int .i64) (Rd.pair Rd.str (Rd.pair Rd.str (Rd.pair (Rd.int .i64) (Rd.pair (Rd.sl (Rd.int .i64) 8) Rd.unit))))).map fun x => ⟨x.1, x.2.1, x.2.2.1, x.2.2.2.1, x.2.2.2.2.1⟩
theorem opens41 : Opens Try.prog 41 rdOp :=
  opens_map _ (opens_struct (.cons rfl (opens_int Try.underlying3 (by kernel_rfl)) (.cons rfl (opens_str Try.underlying9 (by kernel_rfl)) (.cons rfl (opens_str Try.underlying9 (by kernel_rfl)) (.cons rfl (opens_int Try.underlying3 (by kernel_rfl))
    (.cons rfl (opens_sl (opens_int Try.underlying3 (by kernel_rfl)) Try.underlying22 (by kernel_rfl) (by kernel_rfl)) (.nil _)))))) Try.underlying41 (by kernel_rfl))
theorem rdOp_is {s : PH} {cs : List Value} {o : OpD} (h : rdOp.is s cs o) : ∃ k kn kc, cs = [.int .i64 o.kd, .string o.nm, .string o.dt, .int .i64 o.n, .slice k kn kc] ∧ intsAt s k kn o.keep ∧ kn * 8 ≤ 140737488355328 ∧
    o.n ≤ 9223372036854775807 ∧ o.nm.size ≤ 140737488355328 ∧ o.dt.size ≤ 140737488355328 := by
  obtain ⟨x, rfl, c1, c2, rfl, ⟨rfl, h1⟩, d1, d2, rfl, ⟨rfl, h2⟩, e1, e2, rfl, ⟨rfl, h3⟩, f1, f2, rfl, ⟨rfl, h4⟩, g1, g2, rfl, ⟨a, n, c, rfl, h5, h6, h7, h8⟩, rfl⟩ := h
  have hr : reachBytes = 140737488351232 := rfl
  refine ⟨a, n, c, rfl, elems_ints h8, ?_, (wf_i64 h4).2, ?_, ?_⟩
  · rw [hr] at h7; omega
  · show x.2.1.size ≤ _; omega
  · show x.2.2.1.size ≤ _; omega

def total (l : List OpD) : Nat := (l.map OpD.size).sum
theorem total_take {l : List OpD} {i : Nat} {o : OpD} (h : l[i]? = some o) : total (l.take (i + 1)) = total (l.take i) + o.size := by
  unfold total
  rw [List.take_add_one, h]; simp
theorem total_take_le (l : List OpD) (i : Nat) : total (l.take i) ≤ total l := by
  unfold total
  conv => rhs; rw [← List.take_append_drop i l]
  rw [List.map_append, List.sum_append]; omega

theorem op_at {s : PH} {a : Option Addr} {n : Nat} {ops : List OpD} (h : elems rdOp s a n ops) {i : Nat} {o : OpD} (ho : ops[i]? = some o) :
    ∃ ad k kn kc, a = some ad ∧ s.has (ad.add (i * 5)) [.int .i64 o.kd, .string o.nm, .string o.dt, .int .i64 o.n, .slice k kn kc] ∧ intsAt s k kn o.keep ∧ kn * 8 ≤ 140737488355328 ∧
    o.n ≤ 9223372036854775807 ∧ o.nm.size ≤ 140737488355328 ∧ o.dt.size ≤ 140737488355328 := by
  obtain ⟨ad, cs, h1, h2, h3⟩ := h.2 i o ho
  obtain ⟨k, kn, kc, rfl, h4⟩ := rdOp_is h2
  exact ⟨ad, k, kn, kc, h1, h3, h4⟩

theorem c_bytes {s : PH} {a : Option Addr} {n c : Nat} {ops : List OpD} (h : elems rdOp s a n ops) (hn : n ≤ 1000000) : DCalls Try.prog 15 #[.slice a n c] s fun v s' =>
    ∃ b : Nat, v = .int .i64 b ∧ (b ≤ 65536 → b = total ops) ∧ Fw.Mod [] s s' := by
  refine ok_bytes a n c _ s ?_
  unfold vc_bytes
  simp only [RP_loop]
  refine ⟨fun z s' => ∃ i : Nat, z = ((((total (ops.take i) : Nat) : Int), ()), ((a, n, c), ()), ((n : Int), ()), ((i : Int), ()), ()) ∧ i ≤ n ∧ total (ops.take i) ≤ 65536 ∧ Fw.Mod [] s s', fun z _ => n - z.2.2.2.1.1.toNat, ?_, ?_⟩
  · exact ⟨0, rfl, Nat.zero_le _, Nat.zero_le _, Mod.refl _ _⟩
  rintro _ s3 ⟨i, rfl, hi, ht, m3⟩
  have hlen := h.1
  simp [W.br_iff]
  refine ⟨fun hlt => ⟨hlt, ?_⟩, fun hge => ?_⟩
  · obtain ⟨o, ho⟩ : ∃ o, ops[i]? = some o := ⟨_, List.getElem?_eq_getElem (by omega)⟩
    obtain ⟨ad, k, kn, kc, rfl, hhas, hk, hkn, hon, hs1, hs2⟩ := op_at (h.mono m3.le) ho
    simp only [W.unSome_some]
    refine ld_has_z hhas (y := (o.kd, o.nm, o.dt, o.n, (k, kn, kc), ())) rfl ?_
    simp only [W.nw_iff]
    intro r hr
    have hkl := hk.1
    have htt := total_take ho
    have e1 : IntKind.i64.wrap (↑(total (ops.take i)) + IntKind.i64.wrap (IntKind.i64.wrap (IntKind.i64.wrap (1 + ↑o.nm.size) + ↑o.dt.size) + ↑kn)) = ((total (ops.take (i + 1)) : Nat) : Int) := by
      rw [wrap_in (n := 1 + ↑o.nm.size) (by omega) (by omega), wrap_in (n := 1 + ↑o.nm.size + ↑o.dt.size) (by omega) (by omega), wrap_in (n := 1 + ↑o.nm.size + ↑o.dt.size + ↑kn) (by omega) (by omega), wrap_in (by omega) (by omega), htt]
      unfold OpD.size; omega
    have hw : IntKind.i64.wrap ((i : Int) + 1) = ((i + 1 : Nat) : Int) := by rw [wrap_in (by omega) (by omega)]; simp
    simp [W.br_iff, e1, hw]
    have m4 := m3.trans (Mod.new (o := .cells #[.int .i64 o.kd, .string o.nm, .string o.dt, .int .i64 o.n, .slice k kn kc] 41 (0, 0)) hr)
    refine ⟨fun hb => ⟨_, rfl, fun hb' => ?_, m4⟩, fun hb => ⟨⟨i + 1, ⟨rfl, by simp⟩, by omega, by omega, m4⟩, by omega⟩⟩
    omega
  · have : ops.take i = ops := List.take_of_length_le (by omega)
    rw [this]
    exact ⟨_, rfl, fun _ => rfl, m3⟩

/-! ## both drives in memory -/
structure Both (s0 s : PH) (b m r : Nat) (L : List Nat) (d e : DS) (B : Nat) : Prop where
  drive : DriveIs s b m d
  ref : RefIs s r L e
  sim : Sim d e B
  bL : b ∉ L
  mL : m ∉ L
  mod : Fw.Mod [] s0 s
  b0 : s0 b = none
  m0 : s0 m = none
  L0 : ∀ x ∈ L, s0 x = none
theorem Both.new {s0 s s' : PH} {b m r : Nat} {L : List Nat} {d e : DS} {B : Nat} (h : Both s0 s b m r L d e B) (hm : Fw.Mod [] s s') : Both s0 s' b m r L d e B :=
  ⟨h.drive.mod hm (by simp) (by simp), h.ref.mod hm (by simp), h.sim, h.bL, h.mL, h.mod.trans hm, h.b0, h.m0, h.L0⟩
theorem RefIs.r_mem {s : PH} {r : Nat} {L : List Nat} {d : DS} (h : RefIs s r L d) : r ∈ L := by
  obtain ⟨a, n, c, rfl, _⟩ := h.ex; simp
/-- the drive has worked, then the document's -/
theorem Both.step {s0 s s1 s2 : PH} {b m r : Nat} {L L' : List Nat} {d e d' e' : DS} {B C : Nat} (h : Both s0 s b m r L d e B) (hd : DriveIs s1 b m d') (m1 : Fw.Mod [b, m] s s1) (hr : RefIs s2 r L' e') (st : Step L L' s1 s2) (hs : Sim d' e' C) :
    Both s0 s2 b m r L' d' e' C := by
  have hkb : s1 b ≠ none := by rw [hd.blk]; simp
  have hkm : s1 m ≠ none := hd.map.known
  have hap := st.apart (M := [b, m]) (by simp [h.bL, h.mL]) (by simp [hkb, hkm])
  have m01 : Fw.Mod [] s0 s1 := h.mod.fresh m1 (by simp [h.b0, h.m0])
  refine ⟨hd.mod st.mod h.bL h.mL, hr, hs, hap b (by simp), hap m (by simp), m01.fresh st.mod fun x hx => .inr (h.L0 x hx), h.b0, h.m0, ?_⟩
  intro x hx
  rcases st.new x hx with h1 | h1
  · exact h.L0 x h1
  · exact m01.none h1 (by simp)
theorem Both.refL {s0 s s1 : PH} {b m r : Nat} {L : List Nat} {d e : DS} {B : Nat} (h : Both s0 s b m r L d e B) (m1 : Fw.Mod [b, m] s s1) : RefIs s1 r L e :=
  h.ref.mod m1 fun x hx => by simp; exact ⟨fun e => h.bL (e ▸ hx), fun e => h.mL (e ▸ hx)⟩

/-- what one call of both leaves -/
def DonePost (s0 : PH) (C : Nat) (v : Value) (s' : PH) : Prop := ∃ b' m' r' L' d' e', v = .tuple #[dptr b', dptr r', .bool true] ∧ Both s0 s' b' m' r' L' d' e' C
/-- one call of both -/
theorem c_done {s0 s : PH} {b m r : Nat} {L : List Nat} {d e : DS} {B C : Nat} (H : Both s0 s b m r L d e B) (o : OpD) {k : Option Addr} {kn kc : Nat} (hk : intsAt s0 k kn o.keep) (hkn : kn * 8 ≤ 140737488355328) (hon : o.n ≤ 9223372036854775807)
    (hC : B + o.size ≤ C) (hC2 : C ≤ 1000000) : DCalls Try.prog 16 #[dptr b, dptr r, .agg #[.int .i64 o.kd, .string o.nm, .string o.dt, .int .i64 o.n, .slice k kn kc]] s (DonePost s0 C) := by
  refine ok_done b r o.kd o.nm o.dt o.n k kn kc _ s ?_
  unfold vc_done
  simp only [RP_nw, W.nw_iff]
  intro r0 hr0
  have hsz : o.size = 1 + o.nm.size + o.dt.size + o.keep.length := rfl
  have m0 : Fw.Mod [] s (s.upd r0 (.cells #[.int .i64 o.kd, .string o.nm, .string o.dt, .int .i64 o.n, .slice k kn kc] 41 (0, 0))) := Mod.new hr0
  have hop := PH.upd_same s r0 (.cells #[.int .i64 o.kd, .string o.nm, .string o.dt, .int .i64 o.n, .slice k kn kc] 41 (0, 0))
  generalize s.upd r0 (.cells #[.int .i64 o.kd, .string o.nm, .string o.dt, .int .i64 o.n, .slice k kn kc] 41 (0, 0)) = s1 at m0 hop
  have H1 := H.new m0
  have hrb : r0 ≠ b := by rintro rfl; rw [H.drive.blk] at hr0; cases hr0
  have hrm : r0 ≠ m := fun e => H.drive.map.known (e ▸ hr0)
  have hrL : r0 ∉ L := fun h => H.ref.known _ h hr0
  have hbr : b ≠ r := fun h => H.bL (h ▸ H.ref.r_mem)
  have hmr : m ≠ r := fun h => H.mL (h ▸ H.ref.r_mem)
  have hdone : ∀ {s' b' m' r' L' d' e'}, Both s0 s' b' m' r' L' d' e' C → ∀ x y : Int, x = y →
      (W.both (W.ret (DonePost s0 C) (.tuple #[.pointer (some ⟨b', 0, none⟩), .pointer (some ⟨r', 0, none⟩), .bool (x == y)]))
        (W.both (W.ret (DonePost s0 C) (.tuple #[.pointer (some ⟨b', 0, none⟩), .pointer (some ⟨r', 0, none⟩), .bool (x == y)]))
        (W.ret (DonePost s0 C) (.tuple #[.pointer (some ⟨b', 0, none⟩), .pointer (some ⟨r', 0, none⟩), .bool (x == y)])))) s' := by
    rintro s' b' m' r' L' d' e' h x _ rfl
    have : DonePost s0 C (.tuple #[.pointer (some ⟨b', 0, none⟩), .pointer (some ⟨r', 0, none⟩), .bool (x == x)]) s' :=
      ⟨b', m', r', L', d', e', by simp [dptr], h⟩
    exact ⟨this, this, this⟩
  have hgotB : (d.got o.nm).1.size + o.dt.size ≤ 9223372036854775807 := by have := (H.sim.got o.nm).2.2.2; omega
  have hEsz : ∀ p ∈ e.files, p.2.1.size + o.dt.size ≤ 9223372036854775807 := fun p hp => by
    have := (H.sim.file p (H.sim.perm.mem_iff.1 hp)).2.2.2; omega
  have hnames := H.sim.enames (by omega)
  simp only [RP_join]
  -- behind Arm, Crash, or nothing: both are read
  refine W.join_gen (fun x s' => ∃ b' m' r' L' d' e', x = ((some (Addr.mk b' 0 none), ()), (some (Addr.mk r' 0 none), ()), (Addr.mk r0 0 none, ()), ()) ∧ Both s0 s' b' m' r' L' d' e' C ∧
      s' r0 = some (.cells #[.int .i64 o.kd, .string o.nm, .string o.dt, .int .i64 o.n, .slice k kn kc] 41 (0, 0))) ?_ ?_
  · rintro _ s2 ⟨b', m', r', L', d', e', rfl, H2, hop2⟩
    refine W.join_gen (fun x s' => s' = s2 ∧ x = ((some (Addr.mk b' 0 none), ()), (some (Addr.mk r' 0 none), ()), (Addr.mk r0 0 none, ()), ((d'.read o.nm).1, ()), ((d'.read o.nm).2, ()), ())) ?_ ?_
    · rintro _ s2 ⟨rfl, rfl⟩
      refine W.join_gen (fun x s' => s' = s2 ∧ x = ((some (Addr.mk b' 0 none), ()), (some (Addr.mk r' 0 none), ()), ((d'.read o.nm).1, ()), ((d'.read o.nm).2, ()), ((d'.read o.nm).1, ()), ((d'.read o.nm).2, ()), ())) ?_ ?_
      · rintro _ s2 ⟨rfl, rfl⟩
        obtain ⟨ra, rn, rc, hL, hr, hrow⟩ := H2.ref.ex
        simp [W.ld_at hr, W.still_at hr, W.br_iff]
        refine W.call_of (c_Down H2.drive) ?_
        rintro _ s3 ⟨rfl, rfl⟩
        refine ⟨((d'.down, ()), ()), rfl, ?_⟩
        simp [W.still_at hr]
        exact ⟨b', m', r', L', d', e', by simp [dptr, H2.sim.down], H2⟩
      · intro K hK
        simp [W.ld_at hop2]
        refine W.call_of (c_rRead H2.ref (H2.sim.enames hC2) o.nm) ?_
        rintro _ s3 ⟨rfl, rfl⟩
        rw [← H2.sim.read]
        refine ⟨(((d'.read o.nm).1, ()), ((d'.read o.nm).2, ()), ()), rfl, ?_⟩
        exact hK _ _ ⟨rfl, rfl⟩
    · intro K hK
      simp [W.ld_at hop2]
      refine W.call_of (c_Read H2.drive o.nm) ?_
      rintro _ s3 ⟨rfl, rfl⟩
      refine ⟨(((d'.read o.nm).1, ()), ((d'.read o.nm).2, ()), ()), rfl, ?_⟩
      exact hK _ _ ⟨rfl, rfl⟩
  intro J hJ
  simp [W.ld_at hop, W.br_iff]
  refine ⟨fun k1 => ?_, fun k1 => ⟨fun k2 => ?_, fun k2 => ⟨fun k3 => ?_, fun k3 => ⟨fun k4 => ?_, fun k4 => ⟨fun k5 => ?_, fun k5 => ?_⟩⟩⟩⟩⟩
  · refine W.call_of (c_Append H1.drive o.nm o.dt hgotB) ?_
    rintro _ s2 ⟨rfl, hd2, m2⟩
    refine ⟨(((d.append o.nm o.dt).1, ()), ()), rfl, ?_⟩
    have hop2 := m2.at hop (by simp [hrb, hrm])
    simp [W.still_at hop2]
    refine W.call_of (c_rAppend (H1.refL m2) hnames o.nm o.dt hEsz (by omega)) ?_
    rintro _ s3 ⟨rfl, L', hr3, st3⟩
    refine ⟨(((e.rappend o.nm o.dt).1, ()), ()), rfl, ?_⟩
    obtain ⟨g1, g2⟩ := H1.sim.append (C := C) o.nm o.dt (by omega)
    exact hdone (H1.step hd2 m2 hr3 st3 g2) _ _ g1
  · refine W.call_of (c_Sync H1.drive o.nm) ?_
    rintro _ s2 ⟨rfl, hd2, m2⟩
    refine ⟨(((d.sync o.nm).1, ()), ()), rfl, ?_⟩
    have hop2 := m2.at hop (by simp [hrb, hrm])
    simp [W.still_at hop2]
    refine W.call_of (c_rSync (H1.refL m2) hnames o.nm) ?_
    rintro _ s3 ⟨rfl, hr3, m3⟩
    refine ⟨(((e.rsync o.nm).1, ()), ()), rfl, ?_⟩
    obtain ⟨g1, g2⟩ := H1.sim.sync (C := C) o.nm (by omega)
    exact hdone (H1.step hd2 m2 hr3 ⟨m3, fun x hx => .inl hx⟩ g2) _ _ g1
  · refine W.call_of (c_Swap H1.drive o.nm o.dt) ?_
    rintro _ s2 ⟨rfl, hd2, m2⟩
    refine ⟨(((d.swap o.nm o.dt).1, ()), ()), rfl, ?_⟩
    have hop2 := m2.at hop (by simp [hrb, hrm])
    simp [W.still_at hop2]
    refine W.call_of (c_rSwap (H1.refL m2) hnames o.nm o.dt) ?_
    rintro _ s3 ⟨rfl, L', hr3, st3⟩
    refine ⟨(((e.rswap o.nm o.dt).1, ()), ()), rfl, ?_⟩
    obtain ⟨g1, g2⟩ := H1.sim.swap (C := C) o.nm o.dt (by omega)
    exact hdone (H1.step hd2 m2 hr3 st3 g2) _ _ g1
  · refine W.call_of (c_Arm H1.drive o.n) ?_
    rintro _ s2 ⟨rfl, hd2, m2⟩
    refine ⟨(), rfl, ?_⟩
    have m2' := m2.mono (L' := [b, m]) (by simp)
    have hop2 := m2'.at hop (by simp [hrb, hrm])
    simp [W.ld_at hop2]
    refine W.call_of (c_rArm (H1.refL m2') o.n) ?_
    rintro _ s3 ⟨rfl, hr3, m3⟩
    refine ⟨(), rfl, ?_⟩
    have H3 := H1.step hd2 m2' hr3 ⟨m3, fun x hx => .inl hx⟩ ((H1.sim.arm o.n hon).mono (show B ≤ C by omega))
    exact hJ _ _ ⟨b, m, r, L, _, _, rfl, H3, m3.at hop2 hrL⟩
  · refine W.join_gen (fun x s' => ∃ nb nm' r' L', x = ((some (Addr.mk nb 0 none), ()), (some (Addr.mk r' 0 none), ()), (Addr.mk r0 0 none, ()), (some (Addr.mk b 0 none), ()), ()) ∧
        Both s0 s' nb nm' r' L' (d.crash o.keep) (e.rcrash o.keep) C ∧ DriveIs s' b m { d with down := true } ∧ s' r0 = some (.cells #[.int .i64 o.kd, .string o.nm, .string o.dt, .int .i64 o.n, .slice k kn kc] 41 (0, 0))) ?_ ?_
    · rintro _ s2 ⟨nb, nm', r', L', rfl, H2, hold, hop2⟩
      simp
      refine W.call_of (c_Down hold) ?_
      rintro _ s3 ⟨rfl, rfl⟩
      refine ⟨((true, ()), ()), rfl, ?_⟩
      simp
      exact hJ _ _ ⟨nb, nm', r', L', _, _, rfl, H2, hop2⟩
    · intro K hK
      simp [W.ld_at hop]
      intro r28 hr28
      have m2 : Fw.Mod [] s1 (s1.upd r28 (.cells #[] 3 (0, 0))) := Mod.new hr28
      refine app_copy (hk.mono (H1.mod.trans m2)) (PH.upd_same _ _ _) hkn ?_
      intro a c' s3 m3 hk3
      have m13 := m2.trans m3
      have H3 := H1.new m13
      have hop3 := m13.at hop (by simp)
      simp [W.still_at hop3]
      refine W.call_of (c_Crash H3.drive (H3.sim.ok (by omega)) hk3) ?_
      rintro _ s4 ⟨nb, nm', rfl, hd4, hold, m4, hnb, hnm⟩
      refine ⟨((some (Addr.mk nb 0 none), ()), ()), rfl, ?_⟩
      have hop4 := m4.at hop3 (by simpa using hrb)
      simp [W.still_at hop4]
      have hr4 := H3.ref.mod m4 fun x hx => by simp; rintro rfl; exact H3.bL hx
      have m04 : Fw.Mod [] s0 s4 := H3.mod.fresh m4 (by simp [H.b0])
      have hkr : s3 r ≠ none := H3.ref.known _ H3.ref.r_mem
      refine W.call_of (c_rCrash hr4 (fun p hp => ?_) ?_ (hk.mono m04)) ?_
      · obtain ⟨g1, g2, g3, g4⟩ := H3.sim.file p (H3.sim.perm.mem_iff.1 hp); exact ⟨g2, g3, by omega⟩
      · exact (H3.sim.enames (by omega)).1
      rintro _ s5 ⟨r', L', rfl, hr5, m5, hL'⟩
      refine ⟨((some (Addr.mk r' 0 none), ()), ()), rfl, ?_⟩
      have hnbr : nb ≠ r := by rintro rfl; exact hkr hnb
      have hnmr : nm' ≠ r := by rintro rfl; exact hkr hnm
      refine hK _ _ ⟨nb, nm', r', L', rfl, ⟨hd4.mod m5 (by simpa using hnbr) (by simpa using hnmr), hr5, (H1.sim.crash (by omega) o.keep).mono (by omega), ?_, ?_, m04.fresh m5 (by simp [H.L0 r H.ref.r_mem]), H3.mod.none hnb (by simp), H3.mod.none hnm (by simp), ?_⟩,
        hold.mod m5 (by simpa using hbr) (by simpa using hmr), m5.at hop4 (by simp; rintro rfl; exact hrL H3.ref.r_mem)⟩
      · intro hx; have := hL' _ hx; rw [hd4.blk] at this; cases this
      · intro hx; exact hd4.map.known (hL' _ hx)
      · intro x hx; exact m04.none (hL' x hx) (by simp)
  · exact hJ _ _ ⟨b, m, r, L, d, e, rfl, { H1 with sim := H1.sim.mono (by omega) }, hop⟩
end Go.Proofs.Ytdbpockkebabiaa
