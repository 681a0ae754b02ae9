/-
  The laws DrivePlays and DriveAgain, over the heap.
  Conditions: none; it proves no statement by itself.
-/
import Derived.Test.YtdbpockkebabiaaC9
set_option linter.unusedVariables false
set_option linter.unusedSimpArgs false
set_option maxHeartbeats 1000000
namespace Go.Proofs.Ytdbpockkebabiaa
open Fw Go
attribute [-simp] Fw.W.ld_iff Fw.W.st_iff

theorem c_same {s0 s : PH} {b m r : Nat} {L : List Nat} {d e : DS} {B : Nat} (H : Both s0 s b m r L d e B) (hB : B ≤ 1000000) : DCalls Try.prog 17 #[dptr b, dptr r] s fun v s' => v = .bool true ∧ Fw.Mod [] s s' := by
  refine ok_same b r _ s ?_
  unfold vc_same
  have hok := H.sim.ok hB
  have hen := H.sim.enames hB
  simp only [RP_call]
  refine W.call_of (c_Names H.drive hok.names hok.few) ?_
  rintro _ s2 ⟨a, n, c, rfl, hS, m2, _⟩
  refine ⟨(((a, n, c), ()), ()), rfl, ?_⟩
  have H2 := H.new m2
  obtain ⟨fa, fn, fc, hL, hr, hrow⟩ := H2.ref.ex
  have hlen := hrow.len
  rw [H.sim.names] at hS
  have hn : n = e.files.length := by rw [hS.1]; simp
  have hfew := hen.1
  simp [W.ld_at hr, W.br_iff]
  refine ⟨by omega, fun _ => ?_⟩
  refine ⟨fun z s' => s' = s2 ∧ ∃ i : Nat, z = (((a, n, c), ()), ((n : Int), ()), ((i : Int), ()), ()) ∧ i ≤ n, fun z _ => n - z.2.2.1.1.toNat, ⟨rfl, 0, rfl, Nat.zero_le _⟩, ?_⟩
  rintro _ s3 ⟨rfl, i, rfl, hi⟩
  simp [W.ld_at hr, W.br_iff]
  refine ⟨fun hlt => ⟨hlt, ?_⟩, fun _ => m2⟩
  have hx : e.files[i]? = some e.files[i] := List.getElem?_eq_getElem (by omega)
  generalize e.files[i] = f at hx
  obtain ⟨g, rfl, hg⟩ := hS.cell (i := i) (x := f.1) (by simp [hx])
  obtain ⟨fg, rfl, hhas⟩ := hrow.at hx
  have hw : IntKind.i64.wrap ((i : Int) + 1) = ((i + 1 : Nat) : Int) := by rw [wrap_in (by omega) (by omega)]; simp
  simp only [W.unSome_some, add_mk, Nat.zero_add]
  refine ld_one (c := .str) (x := f.1) hg ?_
  refine W.call_of (c_Read H2.drive f.1) ?_
  rintro _ s3 ⟨rfl, rfl⟩
  refine ⟨(((d.read f.1).1, ()), ((d.read f.1).2, ()), ()), rfl, ?_⟩
  simp only [W.guard_iff, W.unSome_some, add_mk, Nat.zero_add]
  refine ⟨by omega, ld_one (c := .str) (x := f.1) hg ?_⟩
  refine W.call_of (c_rRead H2.ref hen f.1) ?_
  rintro _ s3 ⟨rfl, rfl⟩
  rw [← H2.sim.read]
  refine ⟨(((d.read f.1).1, ()), ((d.read f.1).2, ()), ()), rfl, ?_⟩
  simp only [W.guard_iff, W.unSome_some, add_mk, Nat.zero_add]
  refine ⟨by omega, ld_one (c := .str) (x := f.1) hg ?_⟩
  simp [W.ld_at hr]
  refine ⟨by omega, ?_⟩
  refine ld_has_z (A := ⟨fg, i * 3, none⟩) hhas (y := (f.1, ())) rfl ?_
  simp [hw]
  exact ⟨⟨i + 1, by simp, by omega⟩, by omega⟩

theorem elems.at0 {s0 : PH} {a : Option Addr} {n : Nat} {ops : List OpD} (h : elems rdOp s0 a n ops) : n = ops.length := h.1

def PlayInv (s0 : PH) (ops : List OpD) (b r : Nat) (i : Nat) (s' : PH) : Prop := ∃ m L d e, Both s0 s' b m r L d e (total (ops.take i))
theorem play_start {s0 s s1 : PH} {b m r6 : Nat} {ops : List OpD} (m0 : Fw.Mod [] s0 s) (h1 : DriveIs s1 b m ⟨[], false, 0⟩) (m1 : Fw.Mod [] s s1) (hb : s b = none) (hm : s m = none) (hr6 : s1 r6 = none) :
    PlayInv s0 ops b r6 0 (s1.upd r6 (.cells #[.slice none 0 0, .bool false, .int .i64 0] 39 (0, 0))) := by
  have m2 : Fw.Mod [] s1 (s1.upd r6 (.cells #[.slice none 0 0, .bool false, .int .i64 0] 39 (0, 0))) := Mod.new hr6
  have hbr : b ≠ r6 := by rintro rfl; rw [h1.blk] at hr6; cases hr6
  have hmr : m ≠ r6 := by rintro rfl; exact h1.map.known hr6
  refine ⟨m, [r6], ⟨[], false, 0⟩, ⟨[], false, 0⟩, h1.mod m2 (by simp) (by simp), ⟨none, 0, 0, rfl, PH.upd_same _ _ _, rowE.nil⟩,
    ⟨rfl, fun _ => ⟨rfl, Int.le_refl _, by show (0 : Int) ≤ _; omega⟩, List.Perm.refl _, List.Pairwise.nil, Nat.zero_le _, by simp⟩, by simpa using hbr, by simpa using hmr, (m0.trans m1).trans m2, m0.none hb (by simp), m0.none hm (by simp), ?_⟩
  intro x hx
  simp at hx; subst hx
  exact (m0.trans m1).none hr6 (by simp)

def PlayZ (s0 : PH) (ops : List OpD) (a : Option Addr) (n c : Nat) (z : MDen [(false, [.ptr]), (false, [.ptr]), (false, [.slice]), (false, [.int .i64]), (false, [.int .i64])]) (s' : PH) : Prop :=
  ∃ b r i : Nat, z = ((some (Addr.mk b 0 none), ()), (some (Addr.mk r 0 none), ()), ((a, n, c), ()), ((n : Int), ()), ((i : Int), ()), ()) ∧ i ≤ n ∧ PlayInv s0 ops b r i s'
theorem c_DrivePlays {s0 : PH} {a : Option Addr} {n c : Nat} {ops : List OpD} (h : elems rdOp s0 a n ops) : DCalls Try.prog 4 #[.slice a n c] s0 fun v s' => v = .bool true ∧ Fw.Mod [] s0 s' := by
  refine ok_DrivePlays a n c _ s0 ?_
  unfold vc_DrivePlays
  have hlen := h.1
  simp only [RP_call]
  refine W.call_of (c_awake s0) ?_
  rintro _ s1 ⟨rfl, m1⟩
  refine ⟨((true, ()), ()), rfl, ?_⟩
  simp only [RP_ite, Bool.not_true, W.br_false]
  have short : ∀ {s1}, Fw.Mod [] s0 s1 → W.call Try.prog 9 #[] (false, [(false, [.bool])]) (fun (((b2 : Bool), _), _) => W.ret (fun v s' => v = .bool true ∧ Fw.Mod [] s0 s') (Go.Value.bool (b2))) s1 := by
    intro s1 m1
    refine W.call_of (c_awake s1) ?_
    rintro _ s2 ⟨rfl, m2⟩
    exact ⟨((true, ()), ()), rfl, rfl, m1.trans m2⟩
  simp only [W.br_iff, decide_eq_true_eq, decide_eq_false_iff_not]
  refine ⟨fun _ => short m1, fun hn => ?_⟩
  refine W.call_of (c_bytes (h.mono m1.le) (by omega)) ?_
  rintro _ s2 ⟨tb, rfl, htb, m2⟩
  refine ⟨(((tb : Int), ()), ()), rfl, ?_⟩
  have m2 := m1.trans m2
  simp only [W.br_iff, decide_eq_true_eq, decide_eq_false_iff_not]
  refine ⟨fun _ => short m2, fun hn2 => ?_⟩
  have htot : total ops ≤ 65536 := by have := htb (by omega); omega
  refine W.call_of (c_New s2) ?_
  rintro _ s3 ⟨b, m, rfl, h3, m3, hb, hm⟩
  refine ⟨((some ⟨b, 0, none⟩, ()), ()), rfl, ?_⟩
  simp only [RP_nw, W.nw_iff]
  intro r6 hr6
  simp only [RP_loop]
  refine ⟨PlayZ s0 ops a n c, fun z _ => n - z.2.2.2.2.1.1.toNat, ?_, ?_⟩
  · exact ⟨b, r6, 0, rfl, Nat.zero_le _, play_start m2 h3 m3 hb hm hr6⟩
  rintro _ s4 ⟨b, r, i, rfl, hi, m, L, d, e, H⟩
  simp [W.br_iff]
  refine ⟨fun hlt => ⟨hlt, ?_⟩, fun _ => H.mod⟩
  obtain ⟨o, ho⟩ : ∃ o, ops[i]? = some o := ⟨_, List.getElem?_eq_getElem (by omega)⟩
  obtain ⟨ad, k, kn, kc, rfl, hhas, hk, hkn, hon, _, _⟩ := op_at h ho
  simp only [W.unSome_some]
  refine ld_has_z (hhas.mono H.mod.le) (y := (o.kd, o.nm, o.dt, o.n, (k, kn, kc), ())) rfl ?_
  simp
  intro r23 hr23
  have H5 := H.new (Mod.new (o := .cells #[.int .i64 o.kd, .string o.nm, .string o.dt, .int .i64 o.n, .slice k kn kc] 41 (0, 0)) hr23)
  have htt := total_take ho
  have hle := total_take_le ops (i + 1)
  refine W.call_of (c_done H5 o hk hkn hon (C := total (ops.take (i + 1))) (by omega) (by omega)) ?_
  rintro _ s6 ⟨b', m', r', L', d', e', rfl, H6⟩
  refine ⟨((some ⟨b', 0, none⟩, ()), (some ⟨r', 0, none⟩, ()), (true, ()), ()), rfl, ?_⟩
  simp
  refine W.call_of (c_same H6 (by omega)) ?_
  rintro _ s7 ⟨rfl, m7⟩
  refine ⟨((true, ()), ()), rfl, ?_⟩
  have hw : IntKind.i64.wrap ((i : Int) + 1) = ((i + 1 : Nat) : Int) := by rw [wrap_in (by omega) (by omega)]; simp
  simp [hw]
  exact ⟨⟨b', r', i + 1, by simp, by omega, m', L', d', e', H6.new m7⟩, by omega⟩

/-! ## once more -/
theorem crashFile_is {f : ByteArray × Int} (h : 0 ≤ f.2 ∧ f.2 ≤ f.1.size ∧ f.1.size ≤ 9223372036854775807) (kp : Option Int) : ((crashFile f kp).1.size : Int) = (crashFile f kp).2 ∧ (crashFile f kp).1.size ≤ 9223372036854775807 := by
  have h1 := crashN_range h kp
  have h2 := crash_wrap h kp
  simp only [crashFile, h2, ByteArray.size_extract]
  omega
theorem Sim.full {d e : DS} {B : Nat} (h : Sim d e B) (hB : B ≤ 1000000000) (keep : List Int) : ∀ p ∈ (e.rcrash keep).files, p.2 = (p.2.1, (p.2.1.size : Int)) ∧ p.2.1.size ≤ 9223372036854775807 := by
  intro p hp
  unfold DS.rcrash at hp
  simp only [List.mem_map] at hp
  obtain ⟨⟨⟨nm, f⟩, i⟩, hp, rfl⟩ := hp
  have hm : (nm, f) ∈ e.files := by rw [(List.mem_zipIdx' hp).2]; exact List.getElem_mem _
  obtain ⟨g1, g2, g3, g4⟩ := h.file _ (h.perm.mem_iff.1 hm)
  simp only at g2 g3 g4
  obtain ⟨h1, h2⟩ := crashFile_is (f := f) ⟨g2, g3, by omega⟩ keep[i]?
  exact ⟨Prod.ext rfl h1.symm, h2⟩
theorem Sim.crash_files {d e : DS} {B : Nat} (h : Sim d e B) (hB : B ≤ 1000000000) (keep : List Int) : (d.crash keep).files = (e.rcrash keep).files := by
  have h1 := h.crash hB keep
  show d.crashFiles keep = _
  unfold DS.crashFiles DS.rcrash
  rw [h.names, List.zipIdx_map, List.map_map]
  apply List.map_congr_left
  rintro ⟨⟨nm, f⟩, i⟩ hp
  have hm : (nm, f) ∈ e.files := by rw [(List.mem_zipIdx' hp).2]; exact List.getElem_mem _
  have : d.got nm = f := by
    unfold DS.got
    rw [← h.lookup]
    obtain ⟨A, R, hAR⟩ := List.append_of_mem hm
    have hn := h.rise.nodup
    rw [hAR] at hn ⊢
    rw [lookup_mid]
    · rfl
    · intro p hp e
      simp only [List.map_append, List.map_cons] at hn
      have := (List.nodup_append.1 hn).2.2 p.1 (List.mem_map_of_mem hp) nm (by simp)
      exact this e
  simp [this]
theorem crash_again {d e : DS} {B : Nat} (h : Sim d e B) (hB : B ≤ 1000000000) (keep more : List Int) : (d.crash keep).crash more = d.crash keep := by
  have h1 := h.crash hB keep
  have h2 := h1.crash_files hB more
  have h3 : ((e.rcrash keep).rcrash more).files = (e.rcrash keep).files := by
    have hf := h.full hB keep
    apply List.ext_getElem?
    intro i
    cases hi : (e.rcrash keep).files[i]? with
    | none =>
      have hl : ((e.rcrash keep).rcrash more).files.length = (e.rcrash keep).files.length := by unfold DS.rcrash; simp
      rw [List.getElem?_eq_none_iff] at hi ⊢
      omega
    | some f =>
      rw [rcrash_at hi]
      obtain ⟨g1, g2⟩ := hf f (List.mem_of_getElem? hi)
      rw [g1, crashFile_full _ g2, ← g1]
  have h4 := h.crash_files hB keep
  show DS.mk ((d.crash keep).crash more).files false 0 = DS.mk (d.crash keep).files false 0
  rw [h2, h3, h4]
def strE : Enc ByteArray where
  sz := 1
  f t := [.string t]
  len _ := rfl
  one t v hv := by simp at hv; subst hv; rfl
  pos := by omega
def wantL (d : DS) (N : List ByteArray) : List ByteArray := N.flatMap fun nm => [nm, (d.read nm).1]
theorem wantL_len (d : DS) (N : List ByteArray) : (wantL d N).length = 2 * N.length := by
  induction N with
  | nil => rfl
  | cons x N ih => simp [wantL] at ih ⊢; omega
theorem wantL_at {d : DS} : ∀ {N : List ByteArray} {i : Nat} {nm : ByteArray}, N[i]? = some nm → (wantL d N)[2 * i]? = some nm ∧ (wantL d N)[2 * i + 1]? = some (d.read nm).1
  | [], i, nm, h => by simp at h
  | x :: N, 0, nm, h => by simp at h; subst h; simp [wantL]
  | x :: N, i + 1, nm, h => by
    have := wantL_at (d := d) (N := N) (i := i) (nm := nm) (by simpa using h)
    have e : wantL d (x :: N) = x :: (d.read x).1 :: wantL d N := by simp [wantL]
    rw [e, show 2 * (i + 1) = 2 * i + 1 + 1 by omega]
    simpa using this
theorem wantL_take {d : DS} {N : List ByteArray} {i : Nat} {nm : ByteArray} (h : N[i]? = some nm) : wantL d (N.take (i + 1)) = wantL d (N.take i) ++ [nm, (d.read nm).1] := by
  unfold wantL; rw [List.take_add_one, h]; simp

def AgainZ (s0 sN : PH) (A : DS) (nb : Nat) (a : Option Addr) (n c : Nat) (b m : Nat) (z : MDen [(false, [.ptr]), (false, [.slice]), (false, [.slice]), (false, [.int .i64]), (false, [.int .i64])]) (s' : PH) : Prop :=
  ∃ (i : Nat) (wa : Option Addr) (wn wc : Nat), z = ((some (Addr.mk b 0 none), ()), ((wa, wn, wc), ()), ((a, n, c), ()), ((n : Int), ()), ((i : Int), ()), ()) ∧ i ≤ n ∧
    rowE strE s' 9 wa wn wc (wantL A ((sortedKeys A.files).take i)) ∧ (∀ x ∈ blk wa, sN x = none) ∧ Fw.Mod [] sN s'

theorem c_DriveAgain {s0 : PH} {a : Option Addr} {n c : Nat} {ops : List OpD} (h : elems rdOp s0 a n ops) {ka : Option Addr} {kn kc : Nat} {keep : List Int} (hk : intsAt s0 ka kn keep) (hkn : kn * 8 ≤ 140737488355328)
    {ma : Option Addr} {mn mc : Nat} {more : List Int} (hm : intsAt s0 ma mn more) (hmn : mn * 8 ≤ 140737488355328) : DCalls Try.prog 6 #[.slice a n c, .slice ka kn kc, .slice ma mn mc] s0 fun v s' => v = .bool true ∧ Fw.Mod [] s0 s' := by
  refine ok_DriveAgain a n c ka kn kc ma mn mc _ s0 ?_
  unfold vc_DriveAgain
  have hlen := h.1
  simp only [RP_call]
  refine W.call_of (c_awake s0) ?_
  rintro _ s1 ⟨rfl, m1⟩
  refine ⟨((true, ()), ()), rfl, ?_⟩
  simp only [RP_ite, Bool.not_true, W.br_false]
  have short : ∀ {s1}, Fw.Mod [] s0 s1 → W.call Try.prog 9 #[] (false, [(false, [.bool])]) (fun (((b2 : Bool), _), _) => W.ret (fun v s' => v = .bool true ∧ Fw.Mod [] s0 s') (Go.Value.bool (b2))) s1 := by
    intro s1 m1
    refine W.call_of (c_awake s1) ?_
    rintro _ s2 ⟨rfl, m2⟩
    exact ⟨((true, ()), ()), rfl, rfl, m1.trans m2⟩
  simp only [W.br_iff, decide_eq_true_eq, decide_eq_false_iff_not]
  refine ⟨fun _ => short m1, fun hn => ?_⟩
  refine W.call_of (c_bytes (h.mono m1.le) (by omega)) ?_
  rintro _ s2 ⟨tb, rfl, htb, m2⟩
  refine ⟨(((tb : Int), ()), ()), rfl, ?_⟩
  have m2 := m1.trans m2
  simp only [W.br_iff, decide_eq_true_eq, decide_eq_false_iff_not]
  refine ⟨fun _ => short m2, fun hn2 => ?_⟩
  have htot : total ops ≤ 65536 := by have := htb (by omega); omega
  refine W.call_of (c_New s2) ?_
  rintro _ s3 ⟨b, m, rfl, h3, m3, hb, hm3⟩
  refine ⟨((some ⟨b, 0, none⟩, ()), ()), rfl, ?_⟩
  simp only [RP_nw, W.nw_iff]
  intro r6 hr6
  simp only [RP_loop]
  refine ⟨PlayZ s0 ops a n c, fun z _ => n - z.2.2.2.2.1.1.toNat, ⟨b, r6, 0, rfl, Nat.zero_le _, play_start m2 h3 m3 hb hm3 hr6⟩, ?_⟩
  rintro _ s4 ⟨b, r, i, rfl, hi, m, L, d, e, H⟩
  simp only [RP_ite, W.br_iff, decide_eq_true_eq, decide_eq_false_iff_not]
  refine ⟨fun hlt => ?_, fun _ => ?_⟩
  · obtain ⟨o, ho⟩ : ∃ o, ops[i]? = some o := ⟨_, List.getElem?_eq_getElem (by omega)⟩
    obtain ⟨ad, k, kn, kc, rfl, hhas, hk, hkn, hon, _, _⟩ := op_at h ho
    simp
    refine ⟨by omega, ?_⟩
    refine ld_has_z (hhas.mono H.mod.le) (y := (o.kd, o.nm, o.dt, o.n, (k, kn, kc), ())) rfl ?_
    simp
    intro r23 hr23
    have H5 := H.new (Mod.new (o := .cells #[.int .i64 o.kd, .string o.nm, .string o.dt, .int .i64 o.n, .slice k kn kc] 41 (0, 0)) hr23)
    have htt := total_take ho
    have hle := total_take_le ops (i + 1)
    refine W.call_of (c_done H5 o hk hkn hon (C := total (ops.take (i + 1))) (by omega) (by omega)) ?_
    rintro _ s6 ⟨b', m', r', L', d', e', rfl, H6⟩
    refine ⟨((some ⟨b', 0, none⟩, ()), (some ⟨r', 0, none⟩, ()), (true, ()), ()), rfl, ?_⟩
    have hw : IntKind.i64.wrap ((i : Int) + 1) = ((i + 1 : Nat) : Int) := by rw [wrap_in (by omega) (by omega)]; simp
    simp [hw]
    exact ⟨⟨b', r', i + 1, by simp, by omega, m', L', d', e', H6⟩, by omega⟩
  -- the drive's power goes
  have hle := total_take_le ops i
  simp only [W.nw_iff]
  intro r34 hr34
  have m5 : Fw.Mod [] s4 (s4.upd r34 (.cells #[] 3 (0, 0))) := Mod.new hr34
  refine app_copy (hk.mono (H.mod.trans m5)) (PH.upd_same _ _ _) hkn ?_
  intro ka' kc' s6 m6 hk6
  have H6 := (H.new m5).new m6
  have hB : total (ops.take i) ≤ 1000000 := by omega
  refine W.call_of (c_Crash H6.drive (H6.sim.ok hB) hk6) ?_
  rintro _ s7 ⟨nb, nm, rfl, hA, _, m7, hnb, hnm⟩
  refine ⟨((some ⟨nb, 0, none⟩, ()), ()), rfl, ?_⟩
  have hsim := H6.sim.crash (by omega) keep
  have hagain := crash_again H6.sim (by omega) keep more
  have hok := hsim.ok hB
  have m07 : Fw.Mod [] s0 s7 := H6.mod.fresh m7 (by simp [H6.b0])
  have hdn : (d.crash keep).down = false := rfl
  generalize d.crash keep = A at hA hsim hagain hok hdn
  have hfew : (sortedKeys A.files).length ≤ 1000000 := by
    have := (sortedKeys_perm A.files).length_eq
    have := hsim.few
    simp at *; omega
  refine W.call_of (c_Names hA hok.names hok.few) ?_
  rintro _ sN ⟨a1, n1, c1, rfl, hS, m8, _⟩
  refine ⟨(((a1, n1, c1), ()), ()), rfl, ?_⟩
  have hAN := hA.mod m8 (by simp) (by simp)
  have m0N := m07.trans m8
  have hn1 := hS.1
  refine ⟨AgainZ s0 sN A nb a1 n1 c1 nb nm, fun z _ => n1 - z.2.2.2.2.1.1.toNat, ⟨0, none, 0, 0, rfl, Nat.zero_le _, rowE.nil, by simp [blk], Mod.refl _ _⟩, ?_⟩
  rintro _ s9 ⟨j, wa, wn, wc, rfl, hj, hrow, hnew, m9⟩
  have hA9 := hAN.mod m9 (by simp) (by simp)
  have hS9 := hS.mod m9 (by simp)
  have hwj : IntKind.i64.wrap ((j : Int) + 1) = ((j + 1 : Nat) : Int) := by rw [wrap_in (by omega) (by omega)]; simp
  simp only [RP_ite, W.br_iff, decide_eq_true_eq, decide_eq_false_iff_not]
  refine ⟨fun hlt => ?_, fun hge => ?_⟩
  · obtain ⟨x, hx⟩ : ∃ x, (sortedKeys A.files)[j]? = some x := ⟨_, List.getElem?_eq_getElem (by omega)⟩
    obtain ⟨g, rfl, hg⟩ := hS9.cell hx
    simp
    refine ⟨by omega, ld_one (c := .str) (x := x) hg ?_⟩
    refine W.call_of (c_Read hA9 x) ?_
    rintro _ s9 ⟨rfl, rfl⟩
    refine ⟨(((A.read x).1, ()), ((A.read x).2, ()), ()), rfl, ?_⟩
    simp
    intro r56 hr56
    have m10 : Fw.Mod [] s9 (s9.upd r56 (.cells #[.string x, .string (A.read x).1] 9 (0, 0))) := Mod.new hr56
    have hwl := hrow.len
    rw [wantL_len, List.length_take] at hwl
    have hmax : maxLen = 9223372036854775807 := rfl
    refine app_rowE (E := strE) (k := 2) (ys := [x, (A.read x).1]) (hrow.mod m10 (by simp)) rfl (src_has (E := strE) (has_block (PH.upd_same _ _ _)) rfl) rfl rfl (by omega) (by omega) ?_
    intro a' c' s11 h11 m11
    have hm11 : Fw.Mod [] sN s11 ∧ ∀ x ∈ blk a', sN x = none := by
      have m910 := m9.trans m10
      rcases m11 with ⟨rfl, m⟩ | ⟨g, rfl, hg, m⟩
      · exact ⟨m910.fresh m fun x hx => .inr (hnew x hx), hnew⟩
      · exact ⟨m910.trans m, by simp [blk]; exact m910.none hg (by simp)⟩
    rw [← wantL_take hx] at h11
    simp only [hwj]
    exact ⟨⟨j + 1, a', _, c', by simp, by omega, h11, hm11.2, hm11.1⟩, by simp only [Int.toNat_natCast]; omega⟩
  · have hjn : j = n1 := by omega
    have hfull : (sortedKeys A.files).take j = sortedKeys A.files := List.take_of_length_le (by omega)
    rw [hfull] at hrow
    have hwl := hrow.len
    rw [wantL_len] at hwl
    simp only [W.nw_iff]
    intro r60 hr60
    have m10 : Fw.Mod [] s9 (s9.upd r60 (.cells #[] 3 (0, 0))) := Mod.new hr60
    have m09 := m0N.trans m9
    refine app_copy (hm.mono (m09.trans m10)) (PH.upd_same _ _ _) hmn ?_
    intro ma' mc' s11 m11 hm11
    have m1011 := m10.trans m11
    refine W.call_of (c_Crash (hA9.mod m1011 (by simp) (by simp)) hok hm11) ?_
    rw [hagain]
    rintro _ s12 ⟨nb2, nm2, rfl, hC, _, m12, hnb2, hnm2⟩
    refine ⟨((some ⟨nb2, 0, none⟩, ()), ()), rfl, ?_⟩
    have hnbw : ∀ x ∈ blk wa, x ≠ nb := fun x hx e => by subst e; have := hnew _ hx; rw [hAN.blk] at this; cases this
    have hrow12 := (hrow.mod m1011 (by simp)).mod m12 (fun x hx => by simpa using hnbw x hx)
    have hnb0 : s0 nb = none := by
      have h1 : sN nb ≠ none := by rw [hAN.blk]; simp
      have : ∀ {q}, s0 q ≠ none → sN q = s0 q := fun hq => m0N _ hq (by simp)
      cases e : s0 nb with
      | none => rfl
      | some o => exact absurd (H6.mod.at e (by simp)) (by rw [hnb]; simp)
    have m012 : Fw.Mod [] s0 s12 := (m09.trans m1011).fresh m12 (by simp [hnb0])
    refine W.call_of (c_Names hC hok.names hok.few) ?_
    rintro _ s13 ⟨a2, n2, c2, rfl, hS2, m13, _⟩
    refine ⟨(((a2, n2, c2), ()), ()), rfl, ?_⟩
    have hC13 := hC.mod m13 (by simp) (by simp)
    have hrow13 := hrow12.mod m13 (by simp)
    have m013 := m012.trans m13
    have hn2 := hS2.1
    refine ⟨fun z s' => s' = s13 ∧ ∃ i : Nat, z = (((wa, wn, wc), ()), (some (Addr.mk nb2 0 none), ()), ((a2, n2, c2), ()), ((n2 : Int), ()), ((i : Int), ()), ()) ∧ i ≤ n2, fun z _ => n2 - z.2.2.2.2.1.1.toNat, ⟨rfl, 0, rfl, Nat.zero_le _⟩, ?_⟩
    rintro _ s13 ⟨rfl, i, rfl, hi⟩
    simp only [RP_ite, W.br_iff, decide_eq_true_eq, decide_eq_false_iff_not]
    refine ⟨fun hlt => ?_, fun hge => ?_⟩
    · obtain ⟨x, hx⟩ : ∃ x, (sortedKeys A.files)[i]? = some x := ⟨_, List.getElem?_eq_getElem (by omega)⟩
      obtain ⟨g, rfl, hg⟩ := hS2.cell hx
      have hwi : IntKind.i64.wrap ((i : Int) + 1) = ((i + 1 : Nat) : Int) := by rw [wrap_in (by omega) (by omega)]; simp
      have hw2 : IntKind.i64.wrap (2 * (i : Int)) = ((2 * i : Nat) : Int) := by rw [wrap_in (by omega) (by omega)]; simp
      have hw3 : IntKind.i64.wrap (((2 * i : Nat) : Int) + 1) = ((2 * i + 1 : Nat) : Int) := by rw [wrap_in (by omega) (by omega)]; simp
      obtain ⟨hx1, hx2⟩ := wantL_at (d := A) hx
      obtain ⟨wg, rfl, hh1⟩ := hrow13.at hx1
      obtain ⟨wg', hwg, hh2⟩ := hrow13.at hx2
      cases hwg
      simp
      refine ⟨by omega, ld_one (c := .str) (x := x) hg ?_⟩
      refine W.call_of (c_Read hC13 x) ?_
      rintro _ s13 ⟨rfl, rfl⟩
      refine ⟨(((A.read x).1, ()), ((A.read x).2, ()), ()), rfl, ?_⟩
      have hr0 : (A.read x).2 = 0 := by unfold DS.read; simp [hdn]
      simp only [hr0, hw2, hw3]
      simp [W.br_iff]
      refine ⟨by omega, fun _ => ⟨by omega, ?_⟩⟩
      have e1 : (2 * (i : Int)).toNat = 2 * i := by omega
      have e2 : (2 * (i : Int) + 1).toNat = 2 * i + 1 := by omega
      simp only [e1, e2]
      have g1 : W.ld [CT.str] ⟨wg, 2 * i, none⟩ = W.ld [CT.str] ⟨wg, 2 * i * strE.sz, none⟩ := by show _ = W.ld [CT.str] ⟨wg, 2 * i * 1, none⟩; rw [Nat.mul_one]
      have g2 : W.ld [CT.str] ⟨wg, 2 * i + 1, none⟩ = W.ld [CT.str] ⟨wg, (2 * i + 1) * strE.sz, none⟩ := by show _ = W.ld [CT.str] ⟨wg, (2 * i + 1) * 1, none⟩; rw [Nat.mul_one]
      rw [g1]
      refine ld_has_z hh1 (y := (x, ())) rfl ?_
      simp [e2]
      refine ⟨by omega, ?_⟩
      rw [g2]
      refine ld_has_z hh2 (y := ((A.read x).1, ())) rfl ?_
      simp [hwi]
      exact ⟨⟨i + 1, by simp, by omega⟩, by omega⟩
    · refine W.call_of (c_Names hC13 hok.names hok.few) ?_
      rintro _ s14 ⟨a3, n3, c3, rfl, hS3, m14, _⟩
      refine ⟨(((a3, n3, c3), ()), ()), rfl, ?_⟩
      have hn3 := hS3.1
      have : IntKind.i64.wrap (2 * (n3 : Int)) = (wn : Int) := by rw [wrap_in (by omega) (by omega)]; omega
      simp [this]
      exact m013.trans m14
end Go.Proofs.Ytdbpockkebabiaa
