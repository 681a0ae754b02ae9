/-
  The laws DriveSwaps and DriveSafe, over the heap.
  Conditions: none; it proves no statement by itself.
-/
import Derived.Test.YtdbpockkebabiaaC3
set_option linter.unusedVariables false
set_option linter.unusedSimpArgs false
set_option maxHeartbeats 1000000
namespace Go.Proofs.Ytdbpockkebabiaa
open Fw Go

theorem lookup_zip (F : ByteArray → Nat → ByteArray × Int) (nm : ByteArray) : ∀ (l : List ByteArray) (k : Nat), nm ∈ l → ∃ i, ((l.zipIdx k).map fun p => (p.1, F p.1 p.2)).lookup nm = some (F nm i)
  | [], _, h => by simp at h
  | x :: l, k, h => by
    by_cases e : nm = x
    · subst e; exact ⟨k, by simp⟩
    · have e' : (nm == x) = false := by simpa using e
      obtain ⟨i, hi⟩ := lookup_zip F nm l (k + 1) (by simpa [e] using h)
      exact ⟨i, by simp [List.zipIdx_cons, List.lookup_cons, e', hi]⟩
theorem DS.crash_got {d : DS} {nm : ByteArray} {f : ByteArray × Int} (h : d.files.lookup nm = some f) (keep : List Int) : ∃ kp, (d.crash keep).got nm = crashFile f kp := by
  have hm : nm ∈ d.files.map (·.1) := by
    have : ∀ l : List (ByteArray × (ByteArray × Int)), l.lookup nm = some f → nm ∈ l.map (·.1) := by
      intro l
      induction l with
      | nil => intro h; simp at h
      | cons p l ih =>
        intro h
        obtain ⟨a, b⟩ := p
        by_cases e : nm = a
        · simp [e]
        · have e' : (nm == a) = false := by simpa using e
          simp only [List.lookup_cons, e'] at h
          exact List.mem_cons_of_mem _ (ih h)
    exact this _ h
  have hm2 : nm ∈ sortedKeys d.files := (sortedKeys_perm d.files).mem_iff.2 hm
  obtain ⟨i, hi⟩ := lookup_zip (fun nm i => crashFile (d.got nm) keep[i]?) nm _ 0 hm2
  refine ⟨keep[i]?, ?_⟩
  have hg : d.got nm = f := by simp [DS.got, h]
  rw [hg] at hi
  unfold DS.got
  show ((d.crashFiles keep).lookup nm).getD _ = _
  unfold DS.crashFiles
  rw [hi]; rfl
theorem crashFile_full (t : ByteArray) (h : t.size ≤ 9223372036854775807) (kp : Option Int) : crashFile (t, (t.size : Int)) kp = (t, (t.size : Int)) := by
  have h1 : 0 ≤ ((t, (t.size : Int)) : ByteArray × Int).2 ∧ ((t, (t.size : Int)) : ByteArray × Int).2 ≤ ((t, (t.size : Int)) : ByteArray × Int).1.size ∧ ((t, (t.size : Int)) : ByteArray × Int).1.size ≤ 9223372036854775807 := ⟨by simp, by simp, h⟩
  have h2 := crashN_range h1 kp
  have h3 := crash_wrap h1 kp
  have h4 : crashN (t, (t.size : Int)) kp = 0 := by simp at h2; omega
  unfold crashFile
  rw [h3, h4]
  simp

abbrev kF : ByteArray := ⟨#[102]⟩
abbrev kG : ByteArray := ⟨#[103]⟩
theorem swap_cases (d : DS) (nm dt : ByteArray) (hd : d.down = false) : ∃ dn ar, (d.swap nm dt = (0, ⟨aset d.files nm (dt, dt.size), dn, ar⟩)) ∨ (d.swap nm dt = (50, ⟨d.files, dn, ar⟩)) := by
  unfold DS.swap DS.begin
  simp only [hd]
  by_cases ha : d.armed > 0
  · by_cases h0 : IntKind.i64.wrap (d.armed - 1) = 0
    · exact ⟨true, 0, .inr (by simp [ha, h0])⟩
    · exact ⟨false, _, .inl (by simp [ha, h0]; rfl)⟩
  · exact ⟨false, d.armed, .inl (by simp [ha, hd])⟩

theorem c_DriveSwaps (old dt oth : ByteArray) (n : Int) (k : Option Addr) (kn kc : Nat) (l : List Int) (s : PH) (hk : intsAt s k kn l) (hkn : kn * 8 ≤ 140737488355328)
    (ho : old.size ≤ 9223372036854775807) (hd : dt.size ≤ 9223372036854775807) (hoth : oth.size ≤ 9223372036854775807) :
    DCalls Try.prog 5 #[.string old, .string dt, .string oth, .int .i64 n, .slice k kn kc] s fun v s' => v = .bool true ∧ Fw.Mod [] s s' := by
  refine ok_DriveSwaps old dt oth n k kn kc _ s ?_
  unfold vc_DriveSwaps
  simp only [RP_call]
  refine W.call_of (c_New s) ?_
  rintro _ s1 ⟨b, m, rfl, h1, m1, hb, hm⟩
  refine ⟨((some ⟨b, 0, none⟩, ()), ()), rfl, ?_⟩
  refine W.call_of (c_awake s1) ?_
  rintro _ s2 ⟨rfl, m2⟩
  have h2 := h1.mod m2 (by simp) (by simp)
  have m2 := m1.trans m2
  refine ⟨((true, ()), ()), rfl, ?_⟩
  simp only [RP_ite, Bool.not_true, W.br_false]
  refine W.call_of (c_Swap h2 kF old) ?_
  rw [show (DS.mk [] false 0).swap kF old = (0, ⟨[(kF, (old, old.size))], false, 0⟩) from rfl]
  rintro _ s3 ⟨rfl, h3, m3⟩
  have m3 := m2.fresh m3 (by simp [hb, hm])
  refine ⟨((0, ()), ()), rfl, ?_⟩
  simp
  refine W.call_of (c_Swap h3 kG oth) ?_
  rw [show (DS.mk [(kF, (old, (old.size : Int)))] false 0).swap kG oth = (0, ⟨[(kF, (old, old.size)), (kG, (oth, oth.size))], false, 0⟩) from rfl]
  rintro _ s4 ⟨rfl, h4, m4⟩
  have m4 := m3.fresh m4 (by simp [hb, hm])
  refine ⟨((0, ()), ()), rfl, ?_⟩
  simp
  refine W.call_of (c_Arm h4 n) ?_
  rintro _ s5 ⟨rfl, h5, m5⟩
  have m5 := m4.fresh m5 (by simp [hb])
  refine ⟨(), rfl, ?_⟩
  obtain ⟨dA, hdA⟩ : ∃ dA, dA = (DS.mk [(kF, (old, (old.size : Int))), (kG, (oth, (oth.size : Int)))] false 0).arm n := ⟨_, rfl⟩
  rw [← hdA] at h5
  have hdown : dA.down = false := by rw [hdA]; rfl
  have hfiles : dA.files = [(kF, (old, (old.size : Int))), (kG, (oth, (oth.size : Int)))] := by rw [hdA]; rfl
  refine W.call_of (c_Swap h5 kF dt) ?_
  rintro _ s6 ⟨rfl, h6, m6⟩
  have m6 := m5.fresh m6 (by simp [hb, hm])
  refine ⟨(((dA.swap kF dt).1, ()), ()), rfl, ?_⟩
  obtain ⟨t, ht, hdd, hcase⟩ : ∃ t : ByteArray, t.size ≤ 9223372036854775807 ∧ (dA.swap kF dt).2.files = [(kF, (t, (t.size : Int))), (kG, (oth, (oth.size : Int)))] ∧ ((dA.swap kF dt).1 = 0 ∧ t = dt ∨ (dA.swap kF dt).1 = 50 ∧ t = old) := by
    obtain ⟨dn, ar, e | e⟩ := swap_cases dA kF dt hdown
    · refine ⟨dt, hd, ?_, .inl ⟨by rw [e], rfl⟩⟩
      rw [e, hfiles]; rfl
    · refine ⟨old, ho, ?_, .inr ⟨by rw [e], rfl⟩⟩
      rw [e]; exact hfiles
  generalize (dA.swap kF dt).1 = e6 at hcase
  generalize hd6 : (dA.swap kF dt).2 = d6 at h6 hdd
  simp only [W.nw_iff, RP_nw]
  intro r hr
  have h7 := h6.mod (Mod.new (o := Go.Obj.cells #[] (3 : Nat) ((0 : Nat), (0 : Nat))) (L := []) hr) (by simp) (by simp)
  have m7 := m6.trans (Mod.new (o := Go.Obj.cells #[] (3 : Nat) ((0 : Nat), (0 : Nat))) hr)
  refine app_copy (hk.mono m7) (PH.upd_same _ _ _) hkn ?_
  intro a c' s8 m8 hk8
  have h8 := h7.mod m8 (by simp) (by simp)
  have m8 := m7.trans m8
  have hok : d6.Ok := by
    constructor
    · rw [hdd]; intro p hp
      have hmax : maxLen = 9223372036854775807 := rfl
      simp at hp; rcases hp with rfl | rfl <;> (rw [hmax]; show (1 : Nat) ≤ _; omega)
    · rw [hdd]; show 2 * 16 ≤ _; omega
    · rw [hdd]; intro p hp
      simp at hp; rcases hp with rfl | rfl <;> simp <;> omega
  refine W.call_of (c_Crash h8 hok hk8) ?_
  rintro _ s9 ⟨b', m', rfl, h9, _, m9, hb', hm'⟩
  have m9 := m8.fresh m9 (by simp [hb])
  refine ⟨((some ⟨b', 0, none⟩, ()), ()), rfl, ?_⟩
  obtain ⟨kp, hF⟩ := DS.crash_got (d := d6) (nm := kF) (f := (t, (t.size : Int))) (by rw [hdd]; rfl) l
  obtain ⟨kp2, hG⟩ := DS.crash_got (d := d6) (nm := kG) (f := (oth, (oth.size : Int))) (by rw [hdd]; rfl) l
  rw [crashFile_full _ ht] at hF
  rw [crashFile_full _ hoth] at hG
  have hrF : (d6.crash l).read kF = (t, 0) := by simp [DS.read, hF]; rfl
  have hrG : (d6.crash l).read kG = (oth, 0) := by simp [DS.read, hG]; rfl
  refine W.call_of (c_Read h9 kF) ?_
  rw [hrF]
  rintro _ _ ⟨rfl, rfl⟩
  refine ⟨((t, ()), (0, ()), ()), rfl, ?_⟩
  refine W.call_of (c_Read h9 kG) ?_
  rw [hrG]
  rintro _ _ ⟨rfl, rfl⟩
  refine ⟨((oth, ()), (0, ()), ()), rfl, ?_⟩
  rcases hcase with ⟨rfl, rfl⟩ | ⟨rfl, rfl⟩
  · simp [m9]
  · simp [m9]

theorem append_cases (d : DS) (nm dt : ByteArray) : ∃ e dn ar, (d.append nm dt = (e, ⟨aset d.files nm ((d.got nm).1 ++ dt, (d.got nm).2), dn, ar⟩)) ∨ (d.append nm dt = (e, ⟨d.files, dn, ar⟩)) := by
  unfold DS.append DS.begin
  by_cases hd : d.down
  · exact ⟨50, d.down, d.armed, .inr (by simp [hd]; cases d; simp_all)⟩
  · by_cases ha : d.armed > 0
    · by_cases h0 : IntKind.i64.wrap (d.armed - 1) = 0
      · exact ⟨50, true, 0, .inl (by simp [hd, ha, h0, DS.got])⟩
      · exact ⟨0, false, _, .inl (by simp [hd, ha, h0, DS.got]; rfl)⟩
    · exact ⟨0, false, d.armed, .inl (by simp [hd, ha, DS.got])⟩

theorem c_DriveSafe (dt more : ByteArray) (k : Option Addr) (kn kc : Nat) (n : Int) (l : List Int) (s : PH) (hk : intsAt s k kn l) (hkn : kn * 8 ≤ 140737488355328)
    (hd : dt.size + more.size ≤ 9223372036854775807) :
    DCalls Try.prog 3 #[.string dt, .string more, .slice k kn kc, .int .i64 n] s fun v s' => v = .bool true ∧ Fw.Mod [] s s' := by
  refine ok_DriveSafe dt more k kn kc n _ s ?_
  unfold vc_DriveSafe
  simp only [RP_call]
  refine W.call_of (c_New s) ?_
  rintro _ s1 ⟨b, m, rfl, h1, m1, hb, hm⟩
  refine ⟨((some ⟨b, 0, none⟩, ()), ()), rfl, ?_⟩
  refine W.call_of (c_awake s1) ?_
  rintro _ s2 ⟨rfl, m2⟩
  have h2 := h1.mod m2 (by simp) (by simp)
  have m2 := m1.trans m2
  refine ⟨((true, ()), ()), rfl, ?_⟩
  simp only [RP_ite, Bool.not_true, W.br_false]
  have hemp : (ByteArray.mk #[]) ++ dt = dt := ByteArray.empty_append
  have eA : (DS.mk [] false 0).append kF dt = (0, ⟨[(kF, (dt, 0))], false, 0⟩) := by
    show (0, DS.mk [(kF, ((ByteArray.mk #[]) ++ dt, 0))] false 0) = _
    rw [hemp]
  refine W.call_of (c_Append h2 kF dt (by show 0 + dt.size ≤ _; omega)) ?_
  rw [eA]
  rintro _ s3 ⟨rfl, h3, m3⟩
  have m3 := m2.fresh m3 (by simp [hb, hm])
  refine ⟨((0, ()), ()), rfl, ?_⟩
  simp
  refine W.call_of (c_Sync h3 kF) ?_
  rw [show (DS.mk [(kF, (dt, 0))] false 0).sync kF = (0, ⟨[(kF, (dt, dt.size))], false, 0⟩) from rfl]
  rintro _ s4 ⟨rfl, h4, m4⟩
  have m4 := m3.fresh m4 (by simp [hb, hm])
  refine ⟨((0, ()), ()), rfl, ?_⟩
  simp
  refine W.call_of (c_Arm h4 n) ?_
  rintro _ s5 ⟨rfl, h5, m5⟩
  have m5 := m4.fresh m5 (by simp [hb])
  refine ⟨(), rfl, ?_⟩
  obtain ⟨dA, hdA⟩ : ∃ dA, dA = (DS.mk [(kF, (dt, (dt.size : Int)))] false 0).arm n := ⟨_, rfl⟩
  rw [← hdA] at h5
  have hfA : dA.files = [(kF, (dt, (dt.size : Int)))] := by rw [hdA]; rfl
  have hgA : dA.got kF = (dt, (dt.size : Int)) := by unfold DS.got; rw [hfA]; rfl
  have hgAG : dA.got kG = (⟨#[]⟩, 0) := by unfold DS.got; rw [hfA]; rfl
  refine W.call_of (c_Append h5 kF more (by rw [hgA]; exact hd)) ?_
  rintro _ s6 ⟨rfl, h6, m6⟩
  have m6 := m5.fresh m6 (by simp [hb, hm])
  refine ⟨((_, ()), ()), rfl, ?_⟩
  obtain ⟨t, ht, hfB⟩ : ∃ t : ByteArray, (t = dt ∨ t = dt ++ more) ∧ (dA.append kF more).2.files = [(kF, (t, (dt.size : Int)))] := by
    obtain ⟨e, dn, ar, h | h⟩ := append_cases dA kF more
    · exact ⟨_, .inr rfl, by rw [h, hgA, hfA]; rfl⟩
    · exact ⟨_, .inl rfl, by rw [h]; exact hfA⟩
  generalize (dA.append kF more).2 = dB at h6 hfB
  have hgBG : dB.got kG = (⟨#[]⟩, 0) := by unfold DS.got; rw [hfB]; rfl
  refine W.call_of (c_Append h6 kG more (by rw [hgBG]; show 0 + more.size ≤ _; omega)) ?_
  rintro _ s7 ⟨rfl, h7, m7⟩
  have m7 := m6.fresh m7 (by simp [hb, hm])
  refine ⟨((_, ()), ()), rfl, ?_⟩
  have hts : dt.size ≤ t.size ∧ t.size ≤ 9223372036854775807 := by
    rcases ht with rfl | rfl
    · omega
    · rw [ByteArray.size_append]; omega
  have hmax : maxLen = 9223372036854775807 := rfl
  have hemp2 : (ByteArray.mk #[]) ++ more = more := ByteArray.empty_append
  obtain ⟨hok, hlook⟩ : (dB.append kG more).2.Ok ∧ (dB.append kG more).2.files.lookup kF = some (t, (dt.size : Int)) := by
    obtain ⟨e, dn, ar, h | h⟩ := append_cases dB kG more
    · have hf : (dB.append kG more).2.files = [(kF, (t, (dt.size : Int))), (kG, (more, 0))] := by
        rw [h, hgBG, hfB]
        show [(kF, (t, (dt.size : Int))), (kG, ((ByteArray.mk #[]) ++ more, 0))] = _
        rw [hemp2]
      refine ⟨⟨?_, ?_, ?_⟩, by rw [hf]; rfl⟩
      · rw [hf]; intro p hp
        simp at hp; rcases hp with rfl | rfl <;> (rw [hmax]; show (1 : Nat) ≤ _; omega)
      · rw [hf]; show 2 * 16 ≤ _; omega
      · rw [hf]; intro p hp
        simp at hp; rcases hp with rfl | rfl <;> simp <;> omega
    · have hf : (dB.append kG more).2.files = [(kF, (t, (dt.size : Int)))] := by rw [h]; exact hfB
      refine ⟨⟨?_, ?_, ?_⟩, by rw [hf]; rfl⟩
      · rw [hf]; intro p hp
        simp at hp; subst hp; rw [hmax]; show (1 : Nat) ≤ _; omega
      · rw [hf]; show 1 * 16 ≤ _; omega
      · rw [hf]; intro p hp
        simp at hp; subst hp; simp; omega
  generalize (dB.append kG more).2 = dC at h7 hok hlook
  simp only [W.nw_iff, RP_nw]
  intro r hr
  have h8 := h7.mod (Mod.new (o := Go.Obj.cells #[] (3 : Nat) ((0 : Nat), (0 : Nat))) (L := []) hr) (by simp) (by simp)
  have m8 := m7.trans (Mod.new (o := Go.Obj.cells #[] (3 : Nat) ((0 : Nat), (0 : Nat))) hr)
  refine app_copy (hk.mono m8) (PH.upd_same _ _ _) hkn ?_
  intro a c' s9 m9 hk9
  have h9 := h8.mod m9 (by simp) (by simp)
  have m9 := m8.trans m9
  refine W.call_of (c_Crash h9 hok hk9) ?_
  rintro _ s10 ⟨b', m', rfl, h10, _, m10, hb', hm'⟩
  have m10 := m9.fresh m10 (by simp [hb])
  refine ⟨((some ⟨b', 0, none⟩, ()), ()), rfl, ?_⟩
  obtain ⟨kp, hF⟩ := DS.crash_got hlook l
  have hr1 := crashN_range (f := (t, (dt.size : Int))) ⟨by simp, by simp; omega, by simp; omega⟩ kp
  have hr2 := crash_wrap (f := (t, (dt.size : Int))) ⟨by simp, by simp; omega, by simp; omega⟩ kp
  obtain ⟨q, hq, hq1, hq2⟩ : ∃ q : Nat, crashFile (t, (dt.size : Int)) kp = (t.extract 0 q, (q : Int)) ∧ dt.size ≤ q ∧ q ≤ t.size := by
    refine ⟨((dt.size : Int) + crashN (t, (dt.size : Int)) kp).toNat, ?_, ?_, ?_⟩
    · unfold crashFile
      rw [hr2]
      simp only [Prod.mk.injEq, true_and]
      simp at hr1; omega
    · simp at hr1; omega
    · simp at hr1; omega
  rw [hq] at hF
  have hrF : (dC.crash l).read kF = (t.extract 0 q, 0) := by simp [DS.read, hF]; rfl
  refine W.call_of (c_Read h10 kF) ?_
  rw [hrF]
  rintro _ _ ⟨rfl, rfl⟩
  refine ⟨((_, ()), (0, ()), ()), rfl, ?_⟩
  have hsz : (t.extract 0 q).size = q := by rw [ByteArray.size_extract]; omega
  have hqa : q ≤ (dt ++ more).size := by
    rcases ht with rfl | rfl
    · rw [ByteArray.size_append]; omega
    · exact hq2
  have hpre : (dt ++ more).extract 0 q = t.extract 0 q := by
    rcases ht with rfl | rfl
    · have : q = t.size := by omega
      subst this
      rw [ByteArray.extract_append_eq_left rfl, ByteArray.extract_zero_size]
    · rfl
  have hqa' := hqa
  rw [ByteArray.size_append] at hqa'
  simp [hsz, hpre, hq1, hqa', m10]
  have h1 : ((q : Nat) : Int) ≤ (dt.size : Int) + (more.size : Int) := by omega
  refine ⟨by omega, ?_⟩
  simp [h1, m10]
end Go.Proofs.Ytdbpockkebabiaa
