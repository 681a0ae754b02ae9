/-
  The drive: what its functions do.
  Conditions: none; it proves no statement by itself.
-/
import Derived.Test.YtcdggocbjnmeaaaVd1
import Derived.Test.YtcdggocbjnmeaaaFwP
set_option linter.unusedVariables false
set_option linter.unusedSimpArgs false
set_option maxHeartbeats 1000000
namespace Go.Proofs.Ytcdggocbjnmeaaa
open Fw Go

/-- what a drive stands for -/
structure DS where
  files : List (ByteArray × (ByteArray × Int))
  down : Bool
  armed : Int
def fileV (p : ByteArray × Int) : Value := .agg #[.string p.1, .int .i64 p.2]
def dptr (b : Nat) : Value := .pointer (some ⟨b, 0, none⟩)
structure DriveIs (s : PH) (b m : Nat) (d : DS) : Prop where
  blk : s b = some (.cells #[.map (some m), .bool d.down, .int .i64 d.armed] 60 (0, 0))
  map : isMap strKey fileV s m d.files

def DS.begin (d : DS) : (Bool × Int) × DS :=
  if d.down then ((false, 50), d)
  else if d.armed > 0 then
    let a := IntKind.i64.wrap (d.armed - 1)
    ((a == 0, if a == 0 then 50 else 0), { d with armed := a, down := a == 0 })
  else ((false, 0), d)

theorem DriveIs.ne {s : PH} {b m : Nat} {d : DS} (h : DriveIs s b m d) : b ≠ m := by
  rintro rfl
  obtain ⟨es, c, h1, _⟩ := h.map
  rw [h.blk] at h1; cases h1

theorem c_New (s : PH) : DCalls Try.prog 7 #[] s fun v s' => ∃ b m, v = dptr b ∧ DriveIs s' b m ⟨[], false, 0⟩ ∧ Mod [] s s' ∧ s b = none ∧ s m = none := by
  refine ok_New _ s ?_
  unfold vc_New
  simp only [RP_nw, RP_ret, W.nw_iff, W.ret_iff]
  intro m hm b hb
  have hne : b ≠ m := by rintro rfl; simp at hb
  have hb' : s b = none := by rwa [PH.upd_other _ _ hne] at hb
  exact ⟨b, m, rfl, ⟨PH.upd_same _ _ _, isMap.other isMap.new hne.symm⟩, (Mod.new hm).updLater (.inr hb'), hb', hm⟩

theorem DriveIs.upd {s : PH} {b m : Nat} {d : DS} (h : DriveIs s b m d) (x : Bool) (n : Int) : DriveIs (s.upd b (.cells #[.map (some m), .bool x, .int .i64 n] 60 (0, 0))) b m { d with down := x, armed := n } :=
  ⟨PH.upd_same _ _ _, h.map.other h.ne.symm⟩
theorem DriveIs.mod {L : List Nat} {s s' : PH} {b m : Nat} {d : DS} (h : DriveIs s b m d) (hm : Fw.Mod L s s') (hb : b ∉ L) (hl : m ∉ L) : DriveIs s' b m d :=
  ⟨hm.at h.blk hb, h.map.mod hm hl⟩

theorem c_begin {s : PH} {b m : Nat} {d : DS} (h : DriveIs s b m d) : DCalls Try.prog 26 #[dptr b] s fun v s' =>
    v = .tuple #[.bool d.begin.1.1, .int .i64 d.begin.1.2] ∧ DriveIs s' b m d.begin.2 ∧ Fw.Mod [b] s s' := by
  have hb := h.blk
  refine ok_begin b _ s ?_
  unfold vc_begin
  simp [W.br_iff, hb, DS.begin]
  refine ⟨fun hd => ?_, fun hd => ⟨fun ha => ⟨fun h0 => ?_, fun h0 => ?_⟩, fun ha => ?_⟩⟩
  · simp [hd, h, Mod.refl]
  · have := h.upd true 0
    simp [hd, ha, h0, this, Mod.upd]
  · have := h.upd false (IntKind.i64.wrap (d.armed - 1))
    have h1 : (IntKind.i64.wrap (d.armed - 1) == 0) = false := by simpa using h0
    simp [hd, ha, h0, h1, this, Mod.upd]
  · have : ¬ 0 < d.armed := by omega
    simp [hd, this, h, Mod.refl]

/-- what Append, Sync and Swap do to the files -/
def DS.got (d : DS) (nm : ByteArray) : ByteArray × Int := (d.files.lookup nm).getD (⟨#[]⟩, 0)
def DS.append (d : DS) (nm dt : ByteArray) : Int × DS :=
  let (r, d') := d.begin
  if r.2 == 0 || r.1 then (r.2, { d' with files := aset d'.files nm ((d'.got nm).1 ++ dt, (d'.got nm).2) }) else (r.2, d')
def DS.sync (d : DS) (nm : ByteArray) : Int × DS :=
  let (r, d') := d.begin
  if r.2 == 0 then match d'.files.lookup nm with
    | some f => (0, { d' with files := aset d'.files nm (f.1, f.1.size) })
    | none => (0, d')
  else (r.2, d')
def DS.swap (d : DS) (nm dt : ByteArray) : Int × DS :=
  let (r, d') := d.begin
  if r.2 == 0 then (0, { d' with files := aset d'.files nm (dt, dt.size) }) else (r.2, d')

theorem look_file {s : PH} {m : Nat} {f : List (ByteArray × (ByteArray × Int))} (hm : isMap strKey fileV s m f) (nm : ByteArray) {k : Den [CT.str, CT.int .i64] → Bool → W.T}
    (hk : k (((f.lookup nm).getD (⟨#[]⟩, 0)).1, ((f.lookup nm).getD (⟨#[]⟩, 0)).2, ()) (f.lookup nm).isSome s) :
    W.look .string (some m) (.string nm) (.agg #[.string ⟨#[]⟩, .int .i64 0]) (true, [.str, .int .i64]) k s := by
  refine look_of (ke := strKey) (key := nm) hm ?_
  cases e : f.lookup nm with
  | none => rw [e] at hk; exact ⟨_, rfl, hk⟩
  | some v => rw [e] at hk; exact ⟨_, rfl, hk⟩
theorem mset_file {s : PH} {b m : Nat} {d : DS} (h : DriveIs s b m d) (nm t : ByteArray) (n : Int) {k : W.T}
    (hk : ∀ s', DriveIs s' b m { d with files := aset d.files nm (t, n) } → Fw.Mod [m] s s' → k s') :
    W.mset .string (some m) (.string nm) (.agg #[.string t, .int .i64 n]) k s :=
  mset_of (ke := strKey) (ve := fileV) (v := (t, n)) (key := nm) h.map fun o ho => hk _ ⟨by rw [PH.upd_other _ _ h.ne]; exact h.blk, ho⟩ (Mod.upd (by simp))

theorem DS.begin_got (d : DS) (nm : ByteArray) : d.begin.2.got nm = d.got nm := by
  unfold DS.got DS.begin; split
  · rfl
  · split <;> rfl
theorem c_Append {s : PH} {b m : Nat} {d : DS} (h : DriveIs s b m d) (nm dt : ByteArray) (hsz : (d.got nm).1.size + dt.size ≤ 9223372036854775807) : DCalls Try.prog 31 #[dptr b, .string nm, .string dt] s fun v s' =>
    v = .int .i64 (d.append nm dt).1 ∧ DriveIs s' b m (d.append nm dt).2 ∧ Fw.Mod [b, m] s s' := by
  refine ok_Append b nm dt _ s ?_
  unfold vc_Append
  simp only [RP_call]
  refine W.call_of (c_begin h) ?_
  rintro _ s1 ⟨rfl, h1, m1⟩
  refine ⟨((d.begin.1.1, ()), (d.begin.1.2, ()), ()), rfl, ?_⟩
  have m1' := m1.mono (L' := [b, m]) (by simp)
  have hb := h1.blk
  simp only [RP_join]
  refine W.join_gen (fun x s' => s' = s1 ∧ x.1.1 = d.begin.1.2 ∧ x.2.1.1 = (d.begin.1.2 == 0 || d.begin.1.1)) ?_ ?_
  · rintro ⟨⟨x, _⟩, ⟨c, _⟩, _⟩ s' ⟨rfl, rfl, rfl⟩
    simp only [RP_ite, W.br_iff]
    refine ⟨fun hc => ?_, fun hc => ?_⟩
    · simp [hb]
      refine look_file h1.map nm ?_
      have hg := d.begin_got nm
      rw [← hg] at hsz
      unfold DS.got at hsz
      simp [hb]
      refine ⟨by omega, ?_⟩
      refine mset_file h1 nm _ _ ?_
      intro s2 hs2 hm
      have m2 := m1'.trans (hm.mono (L' := [b, m]) (by simp))
      simp only [RP_ret, W.ret_iff, DS.append, hc, if_true, true_and]
      exact ⟨hs2, m2⟩
    · simp [DS.append, hc, h1, m1']
  · intro K3 hK3
    simp only [RP_ite, W.br_iff]
    refine ⟨fun hc => hK3 _ _ ?_, fun hc => hK3 _ _ ?_⟩ <;> simp [hc]

theorem c_Sync {s : PH} {b m : Nat} {d : DS} (h : DriveIs s b m d) (nm : ByteArray) : DCalls Try.prog 32 #[dptr b, .string nm] s fun v s' =>
    v = .int .i64 (d.sync nm).1 ∧ DriveIs s' b m (d.sync nm).2 ∧ Fw.Mod [b, m] s s' := by
  refine ok_Sync b nm _ s ?_
  unfold vc_Sync
  simp only [RP_call]
  refine W.call_of (c_begin h) ?_
  rintro _ s1 ⟨rfl, h1, m1⟩
  refine ⟨((d.begin.1.1, ()), (d.begin.1.2, ()), ()), rfl, ?_⟩
  have m1' := m1.mono (L' := [b, m]) (by simp)
  have hb := h1.blk
  simp [W.br_iff, hb]
  refine ⟨fun h0 => ?_, fun h0 => look_file h1.map nm ?_⟩
  · simp [DS.sync, h0, h1, m1']
  cases e : d.begin.2.files.lookup nm with
  | none =>
    simp only [Option.isSome_none, W.br_false, Option.getD_none]
    simp [DS.sync, h0, e, m1', h1]
  | some f =>
    simp only [Option.isSome_some, W.br_true, Option.getD_some]
    simp [hb]
    refine mset_file h1 nm _ _ ?_
    intro s' hs' hm
    simp [DS.sync, h0, e, hs', (m1'.trans (hm.mono (by simp)))]

theorem c_Swap {s : PH} {b m : Nat} {d : DS} (h : DriveIs s b m d) (nm dt : ByteArray) : DCalls Try.prog 9 #[dptr b, .string nm, .string dt] s fun v s' =>
    v = .int .i64 (d.swap nm dt).1 ∧ DriveIs s' b m (d.swap nm dt).2 ∧ Fw.Mod [b, m] s s' := by
  refine ok_Swap b nm dt _ s ?_
  unfold vc_Swap
  simp only [RP_call]
  refine W.call_of (c_begin h) ?_
  rintro _ s1 ⟨rfl, h1, m1⟩
  refine ⟨((d.begin.1.1, ()), (d.begin.1.2, ()), ()), rfl, ?_⟩
  have m1' := m1.mono (L' := [b, m]) (by simp)
  have hb := h1.blk
  simp [W.br_iff, hb]
  refine ⟨fun h0 => mset_file h1 nm _ _ ?_, fun h0 => ?_⟩
  · intro s' hs' hm
    simp [DS.swap, h0, hs', m1'.trans (hm.mono (by simp))]
  · simp [DS.swap, h0, h1, m1']

def DS.read (d : DS) (nm : ByteArray) : ByteArray × Int := if d.down then (⟨#[]⟩, 50) else ((d.got nm).1, 0)
theorem c_Read {s : PH} {b m : Nat} {d : DS} (h : DriveIs s b m d) (nm : ByteArray) : DCalls Try.prog 11 #[dptr b, .string nm] s fun v s' =>
    v = .tuple #[.string (d.read nm).1, .int .i64 (d.read nm).2] ∧ s' = s := by
  refine ok_Read b nm _ s ?_
  unfold vc_Read
  have hb := h.blk
  simp [W.br_iff, hb]
  refine ⟨fun h0 => ?_, fun h0 => look_file h.map nm ?_⟩
  · simp [DS.read, h0]
  · simp [DS.read, DS.got, h0]

def DS.arm (d : DS) (n : Int) : DS := if d.down then d else { d with armed := if n > 0 then n else 0 }
theorem c_Arm {s : PH} {b m : Nat} {d : DS} (h : DriveIs s b m d) (n : Int) : DCalls Try.prog 12 #[dptr b, .int .i64 n] s fun v s' =>
    v = .tuple #[] ∧ DriveIs s' b m (d.arm n) ∧ Fw.Mod [b] s s' := by
  refine ok_Arm b n _ s ?_
  unfold vc_Arm
  have hb := h.blk
  simp [W.br_iff, hb]
  refine ⟨fun h0 => ?_, fun h0 => ?_⟩
  · have := h.upd false (if 0 < n then n else 0)
    simp [DS.arm, h0, this, Mod.upd]
  · simp [DS.arm, h0, h, Mod.refl]
theorem c_Down {s : PH} {b m : Nat} {d : DS} (h : DriveIs s b m d) : DCalls Try.prog 25 #[dptr b] s fun v s' =>
    v = .bool d.down ∧ s' = s := by
  refine ok_Down b _ s ?_
  unfold vc_Down
  have hb := h.blk
  simp [hb]
end Go.Proofs.Ytcdggocbjnmeaaa
