/-
  The document's drive: a loss of power; a script's calls read.
  Conditions: none; it proves no statement by itself.
-/
import Derived.Test.YtcdggocbjnmeaaaDC7
import Derived.Test.YtcdggocbjnmeaaaFwO
set_option linter.unusedVariables false
set_option linter.unusedSimpArgs false
set_option maxHeartbeats 1000000
namespace Go.Proofs.Ytcdggocbjnmeaaa
open Fw Go
attribute [-simp] Fw.W.ld_iff Fw.W.st_iff

theorem rcrash_at {d : DS} {keep : List Int} {i : Nat} {f : ByteArray × (ByteArray × Int)} (h : d.files[i]? = some f) : (d.rcrash keep).files[i]? = some (f.1, crashFile f.2 keep[i]?) := by
  simp [DS.rcrash, h]
structure CrashInv (s : PH) (r0 : Nat) (F : Fs) (i : Nat) (s' : PH) : Prop where
  ex : ∃ (a : Option Addr) (c : Nat), s' r0 = some (.cells #[.slice a i c, .bool false, .int .i64 0] 43 (0, 0)) ∧ rowE fE s' 76 a i c (F.take i) ∧ (∀ x ∈ blk a, s x = none) ∧ Fw.Mod [] s s'
theorem c_rCrash {s : PH} {r : Nat} {L : List Nat} {d : DS} (h : RefIs s r L d) (hok : ∀ p ∈ d.files, 0 ≤ p.2.2 ∧ p.2.2 ≤ p.2.1.size ∧ p.2.1.size ≤ 9223372036854775807) (hl : d.files.length ≤ 1000000) {k : Option Addr} {n c : Nat} {keep : List Int} (hkeep : intsAt s k n keep) :
    DCalls Try.prog 23 #[dptr r, .slice k n c] s fun v s' => ∃ r' L', v = dptr r' ∧ RefIs s' r' L' (d.rcrash keep) ∧ Fw.Mod [r] s s' ∧ ∀ x ∈ L', s x = none := by
  refine ok_rCrash r k n c _ s ?_
  obtain ⟨fa, fn, fc, hL, hr, hrow⟩ := h.ex
  have hlen := hrow.len
  have hmax : maxLen = 9223372036854775807 := rfl
  unfold vc_rCrash
  simp only [RP_nw, W.nw_iff]
  intro r0 hr0
  simp only [RP_loop]
  refine ⟨fun z s' => ∃ i : Nat, z = ((some (Addr.mk r0 0 none), ()), ((i : Int), ()), ()) ∧ i ≤ fn ∧ CrashInv s r0 (d.rcrash keep).files i s', fun z _ => fn - z.2.1.1.toNat, ?_, ?_⟩
  · exact ⟨0, rfl, Nat.zero_le _, ⟨none, 0, PH.upd_same _ _ _, rowE.nil, by simp [blk], Mod.new hr0⟩⟩
  rintro _ s3 ⟨i, rfl, hi, hinv⟩
  obtain ⟨a, c0, h0, hrow0, hnew, m3⟩ := hinv.ex
  have hr3 := m3.at hr (by simp)
  have hrow3 := hrow.mod m3 (by simp)
  have hr0r : r ≠ r0 := ne_of_known hr hr0
  simp [W.ld_at hr3, W.br_iff]
  refine ⟨fun hlt => ?_, fun hge => ?_⟩
  · have hlt' : i < d.files.length := by omega
    have hx : d.files[i]? = some d.files[i] := List.getElem?_eq_getElem hlt'
    have hfok := hok _ (List.getElem_mem hlt')
    generalize hf : d.files[i] = f at hx hfok
    obtain ⟨fg, rfl, hhas⟩ := hrow3.at hx
    have hcr := crashN_range hfok keep[i]?
    have hcw := crash_wrap hfok keep[i]?
    have hw : IntKind.i64.wrap ((i : Int) + 1) = ((i + 1 : Nat) : Int) := by rw [wrap_in (by omega) (by omega)]; simp
    have hF := rcrash_at (keep := keep) hx
    simp only [W.unSome_some, add_mk, Nat.zero_add]
    refine ⟨hlt, ?_⟩
    refine ld_has_z hhas (y := (f.1, f.2.1, f.2.2, ())) rfl ?_
    have hkn := hkeep.1
    refine W.join_gen (fun z s' => z = ((some (Addr.mk r0 0 none), ()), ((i : Int), ()), (f.1, f.2.1, f.2.2, ()), (crashN f.2 keep[i]?, ()), ()) ∧ s' = s3) ?_ ?_
    rotate_left
    · intro J hJ
      simp [W.br_iff]
      refine ⟨fun hk => ⟨hk, ?_⟩, fun hk => hJ _ _ ⟨?_, rfl⟩⟩
      · obtain ⟨y, hy⟩ : ∃ y, keep[i]? = some y := ⟨_, List.getElem?_eq_getElem (by omega)⟩
        obtain ⟨ka, rfl, hka⟩ := (hkeep.mono m3).2 i y hy
        simp only [W.unSome_some]
        refine ld_one (c := .int .i64) (x := y) hka ?_
        refine hJ _ _ ⟨?_, rfl⟩
        simp only [hy, crashN, gt_iff_lt]
      · have e : keep[i]? = none := List.getElem?_eq_none (by omega)
        simp only [e, crashN]
    rintro _ s4 ⟨rfl, rfl⟩
    obtain ⟨q, hq⟩ : ∃ q : Nat, f.2.2 + crashN f.2 keep[i]? = (q : Int) := ⟨(f.2.2 + crashN f.2 keep[i]?).toNat, by have := hcr.1; have := hfok.1; omega⟩
    have hqs : q ≤ f.2.1.size := by have := hcr.2; omega
    have hqz : (f.2.1.extract 0 q).size = q := by rw [ByteArray.size_extract]; omega
    have hcf : crashFile f.2 keep[i]? = (f.2.1.extract 0 q, (q : Int)) := by
      unfold crashFile
      rw [hcw, hq, Int.toNat_natCast]
    dsimp only
    rw [hcw, hq]
    have hmin : min q f.2.1.size = q := by omega
    simp [W.ld_at h0, hmin]
    refine ⟨by omega, ?_⟩
    intro r31 hr31
    have m6 : Fw.Mod [] s4 (s4.upd r31 (.cells #[.string f.1, .string (f.2.1.extract 0 q), .int .i64 (q : Int)] 76 (0, 0))) := Mod.new hr31
    refine app_rowE (E := fE) (k := 1) (ys := [(f.1, (f.2.1.extract 0 q, (q : Int)))]) (hrow0.mod m6 (by simp)) rfl (src_has (E := fE) (has_block (PH.upd_same _ _ _)) rfl) rfl rfl (by omega) (by omega) ?_
    intro a' c' s'' h' m'
    have hm7 : Fw.Mod [] s s'' ∧ ∀ x ∈ blk a', s x = none := by
      have m56 := m3.trans m6
      rcases m' with ⟨rfl, m⟩ | ⟨g, rfl, hg, m⟩
      · exact ⟨m56.fresh m fun x hx => .inr (hnew x hx), hnew⟩
      · exact ⟨m56.trans m, by simp [blk]; exact m56.none hg (by simp)⟩
    have h0' : s'' r0 = some (.cells #[.slice a i c0, .bool false, .int .i64 0] 43 (0, 0)) := by
      have e := (m6.at h0 (by simp))
      rcases m' with ⟨rfl, m⟩ | ⟨g, rfl, hg, m⟩
      · exact m.at e (row_ne hrow0 h0)
      · exact m.at e (by simp)
    have hne := row_ne h' h0'
    simp [W.st_at h0', hw]
    refine ⟨⟨i + 1, by simp, by omega, ⟨a', c', PH.upd_same _ _ _, ?_, hm7.2, hm7.1.updLater (.inr hr0)⟩⟩, by omega⟩
    have := h'.mod (L := [r0]) (s' := s''.upd r0 (.cells #[.slice a' (i + 1) c', .bool false, .int .i64 0] 43 (0, 0))) (Mod.upd (by simp)) fun x hx => by simp; rintro rfl; exact hne hx
    rw [List.take_add_one, hF, hcf]
    exact this
  · have hi' : i = d.files.length := by omega
    have hfull : (d.rcrash keep).files.take i = (d.rcrash keep).files := List.take_of_length_le (by simp [DS.rcrash]; omega)
    rw [hfull] at hrow0
    have hne := row_ne hrow0 h0
    have m4 : Fw.Mod [r] s3 (s3.upd r (.cells #[.slice fa fn fc, .bool true, .int .i64 d.armed] 43 (0, 0))) := Mod.upd (by simp)
    simp [W.st_at hr3]
    refine ⟨r0, rfl, r0 :: blk a, ⟨a, i, c0, rfl, m4.at h0 (by simpa using hr0r.symm), hrow0.mod m4 fun x hx => ?_⟩, (m3.mono (by simp)).trans m4, ?_⟩
    · simp; rintro rfl; have := hnew x hx; rw [hr] at this; cases this
    · intro x hx
      rcases List.mem_cons.1 hx with rfl | hx
      · exact hr0
      · exact hnew x hx
end Go.Proofs.Ytcdggocbjnmeaaa
