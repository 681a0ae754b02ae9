/-
  The drive: what Names and Crash do.
  Conditions: none; it proves no statement by itself.
-/
import Derived.Test.YtcdggocbjnmeaaaDC1
import Derived.Test.YtcdggocbjnmeaaaDIter
import Derived.Laws.BitsLemmas
set_option linter.unusedVariables false
set_option linter.unusedSimpArgs false
set_option maxHeartbeats 1000000
namespace Go.Proofs.Ytcdggocbjnmeaaa
open Fw Go

structure DS.Ok (d : DS) : Prop where
  names : ∀ p ∈ d.files, p.1.size ≤ maxLen
  few : d.files.length * 16 ≤ 140737488355328
  file : ∀ p ∈ d.files, 0 ≤ p.2.2 ∧ p.2.2 ≤ p.2.1.size ∧ p.2.1.size ≤ 9223372036854775807

theorem c_Names {s : PH} {b m : Nat} {d : DS} (h : DriveIs s b m d) (hn : ∀ p ∈ d.files, p.1.size ≤ maxLen) (hl : d.files.length * 16 ≤ 140737488355328) :
    DCalls Try.prog 36 #[dptr b] s fun v s' => ∃ a n c, v = .slice a n c ∧ strsAt s' a n c (sortedKeys d.files) ∧ Fw.Mod [] s s' ∧ (∀ g, a = some ⟨g, 0, none⟩ → s g = none) := by
  refine ok_Names b _ s ?_
  unfold vc_Names
  have hb := h.blk
  simp [hb]
  refine W.call_of (c_Keys (some m) s) ?_
  rintro _ _ ⟨r, hr, rfl, rfl⟩
  refine ⟨((.func (.func 50) #[] #[.pointer (some ⟨r, 0, none⟩)], ()), ()), rfl, ?_⟩
  refine W.call_of (c_Sorted (V := ByteArray × Int) (ve := fileV) (m := m) (f := d.files) (PH.upd_same _ _ _) (h.mod (Mod.new hr (L := [])) (by simp) (by simp)).map hn hl) ?_
  rintro _ s2 ⟨a, n, c, rfl, h2, m2, h3⟩
  refine ⟨(((a, n, c), ()), ()), rfl, ?_⟩
  refine ⟨a, n, c, rfl, h2, (Mod.new hr).trans m2, fun g hg => ?_⟩
  have := h3 g hg
  by_cases e : g = r
  · subst e; exact hr
  · rwa [PH.upd_other _ _ e] at this

theorem strsAt.cell {s : PH} {a : Option Addr} {n c : Nat} {l : List ByteArray} (h : strsAt s a n c l) {i : Nat} {x : ByteArray} (hx : l[i]? = some x) :
    ∃ g, a = some ⟨g, 0, none⟩ ∧ s.cell? ⟨g, i, none⟩ = some (.string x) := by
  obtain ⟨hn, ⟨rfl, rfl, rfl⟩ | ⟨g, cur, rfl, hg, ht, _, _⟩⟩ := h
  · simp at hx
  · refine ⟨g, rfl, ?_⟩
    have hi : i < n := by
      have := (List.getElem?_eq_some_iff.1 hx).1
      omega
    have : (cur.toList.take n)[i]? = some (.string x) := by rw [ht]; simp [hx]
    rw [List.getElem?_take_of_lt hi, Array.getElem?_toList] at this
    unfold PH.cell?
    show (match s g with | some (.cells c _ _) => if (none : Option Nat).isSome then none else c[i]? | _ => none) = _
    rw [hg]; exact this
theorem strsAt.mod {L : List Nat} {s s' : PH} {a : Option Addr} {n c : Nat} {l : List ByteArray} (h : strsAt s a n c l) (hm : Fw.Mod L s s') (hl : ∀ g, a = some ⟨g, 0, none⟩ → g ∉ L) : strsAt s' a n c l := by
  obtain ⟨hn, h | ⟨g, cur, rfl, hg, r⟩⟩ := h
  · exact ⟨hn, .inl h⟩
  · exact ⟨hn, .inr ⟨g, cur, rfl, hm.at hg (hl g rfl), r⟩⟩
def crashN (f : ByteArray × Int) : Option Int → Int
  | some x => if (if IntKind.i64.wrap (f.1.size - f.2) < x then IntKind.i64.wrap (f.1.size - f.2) else x) > 0 then (if IntKind.i64.wrap (f.1.size - f.2) < x then IntKind.i64.wrap (f.1.size - f.2) else x) else 0
  | none => 0
def crashFile (f : ByteArray × Int) (kp : Option Int) : ByteArray × Int := (f.1.extract 0 (IntKind.i64.wrap (f.2 + crashN f kp)).toNat, IntKind.i64.wrap (f.2 + crashN f kp))
def DS.crashFiles (d : DS) (keep : List Int) : List (ByteArray × (ByteArray × Int)) := (sortedKeys d.files).zipIdx.map fun p => (p.1, crashFile (d.got p.1) keep[p.2]?)
def DS.crash (d : DS) (keep : List Int) : DS := ⟨d.crashFiles keep, false, 0⟩

theorem crashN_range {f : ByteArray × Int} (h : 0 ≤ f.2 ∧ f.2 ≤ f.1.size ∧ f.1.size ≤ 9223372036854775807) (kp : Option Int) : 0 ≤ crashN f kp ∧ f.2 + crashN f kp ≤ f.1.size := by
  cases kp with
  | none => simp only [crashN]; omega
  | some x =>
    have : IntKind.i64.wrap (f.1.size - f.2) = f.1.size - f.2 := wrap_in (by omega) (by omega)
    simp only [crashN, this]
    repeat' split
    all_goals omega
theorem crash_wrap {f : ByteArray × Int} (h : 0 ≤ f.2 ∧ f.2 ≤ f.1.size ∧ f.1.size ≤ 9223372036854775807) (kp : Option Int) : IntKind.i64.wrap (f.2 + crashN f kp) = f.2 + crashN f kp := by
  have := crashN_range h kp
  exact wrap_in (by omega) (by omega)

theorem isMap_nodup {s : PH} {m : Nat} {f : List (ByteArray × (ByteArray × Int))} (h : isMap strKey fileV s m f) : (f.map (·.1)).Nodup := by
  obtain ⟨es, c, h1, h2, h3⟩ := h
  have h4 := h3.2.2
  have : es.toList.map (·.key) = (f.map (·.1)).map Value.string := by
    have := congrArg (List.map Prod.fst) h2
    rw [List.map_map, List.map_map] at this
    rw [List.map_map]; exact this
  rw [this] at h4
  exact (List.pairwise_map.1 h4).imp fun hab e => hab (congrArg _ e)
theorem ofBytes_inj {a b : List UInt8} (h : ofBytes a = ofBytes b) : a = b := by simpa [ofBytes] using h
theorem ofBytes_data (a : ByteArray) : ofBytes a.data.toList = a := by cases a; simp [ofBytes]
theorem sortedKeys_perm {V : Type} (f : List (ByteArray × V)) : (sortedKeys f).Perm (f.map (·.1)) := by
  have h := ((List.mergeSort_perm (f.map fun p => p.1.data.toList) leB)).map ofBytes
  rw [List.map_map] at h
  have e : (f.map (ofBytes ∘ fun p => p.1.data.toList)) = f.map (·.1) := List.map_congr_left fun p _ => ofBytes_data p.1
  rw [e] at h
  exact h
theorem mem_lookup {f : List (ByteArray × (ByteArray × Int))} {k : ByteArray} (h : k ∈ f.map (·.1)) : ∃ v, f.lookup k = some v ∧ (k, v) ∈ f := by
  induction f with
  | nil => simp at h
  | cons p f ih =>
    obtain ⟨a, b⟩ := p
    by_cases e : k = a
    · subst e; exact ⟨b, by simp, by simp⟩
    · obtain ⟨v, h1, h2⟩ := ih (by simpa [e] using h)
      have e' : (k == a) = false := by simpa using e
      exact ⟨v, by simp [List.lookup_cons, e', h1], by simp [h2]⟩
theorem aset_new {V : Type} (f : List (ByteArray × V)) (k : ByteArray) (v : V) (h : k ∉ f.map (·.1)) : aset f k v = f ++ [(k, v)] := by
  induction f with
  | nil => rfl
  | cons p f ih =>
    obtain ⟨a, b⟩ := p
    simp at h
    have : ¬ k = a := h.1
    simp [aset, this, ih (by simpa using h.2)]
theorem DS.crashFiles_step (d : DS) (keep : List Int) (hn : (d.files.map (·.1)).Nodup) {i : Nat} {nm : ByteArray} (hi : (sortedKeys d.files)[i]? = some nm) :
    aset ((d.crashFiles keep).take i) nm (crashFile (d.got nm) keep[i]?) = (d.crashFiles keep).take (i + 1) := by
  have hnd : (sortedKeys d.files).Nodup := (sortedKeys_perm d.files).nodup_iff.2 hn
  have hlt := (List.getElem?_eq_some_iff.1 hi).1
  have hei := (List.getElem?_eq_some_iff.1 hi).2
  have hc : (d.crashFiles keep)[i]? = some (nm, crashFile (d.got nm) keep[i]?) := by
    simp [DS.crashFiles, hi]
  rw [aset_new]
  · rw [List.take_add_one, hc]; rfl
  · intro hm
    have e : ((d.crashFiles keep).take i).map (·.1) = (sortedKeys d.files).take i := by
      rw [List.map_take]
      congr 1
      simp only [DS.crashFiles, List.map_map]
      have : (sortedKeys d.files).zipIdx.map Prod.fst = sortedKeys d.files := by simp
      exact this
    rw [e] at hm
    obtain ⟨j, hj, he⟩ := List.mem_take_iff_getElem.1 hm
    have hj' : j < i := by omega
    have := (List.nodup_iff_pairwise_ne.1 hnd)
    rw [List.pairwise_iff_getElem] at this
    exact this j i (by omega) hlt hj' (he.trans hei.symm)

theorem c_Crash {s : PH} {b m : Nat} {d : DS} (h : DriveIs s b m d) (hok : d.Ok) {k : Option Addr} {n c : Nat} {keep : List Int} (hkeep : intsAt s k n keep) :
    DCalls Try.prog 22 #[dptr b, .slice k n c] s fun v s' => ∃ nb nm, v = dptr nb ∧ DriveIs s' nb nm (d.crash keep) ∧ DriveIs s' b m { d with down := true } ∧ Fw.Mod [b] s s' ∧ s nb = none ∧ s nm = none := by
  refine ok_Crash b k n c _ s ?_
  unfold vc_Crash
  have hb := h.blk
  simp only [RP_ite, Option.isNone_some, W.br_false, RP_call]
  refine W.call_of (c_New s) ?_
  rintro _ s1 ⟨nb, nm, rfl, hN, m1, hnb, hnm⟩
  refine ⟨((some ⟨nb, 0, none⟩, ()), ()), rfl, ?_⟩
  have h1 := h.mod m1 (by simp) (by simp)
  refine W.call_of (c_Names h1 hok.names hok.few) ?_
  rintro _ s2 ⟨a1, n2, c2, rfl, hS, m2, hfr⟩
  refine ⟨(((a1, n2, c2), ()), ()), rfl, ?_⟩
  have hN2 := hN.mod m2 (by simp) (by simp)
  have h2 := h1.mod m2 (by simp) (by simp)
  have hgnm : ∀ g, a1 = some ⟨g, 0, none⟩ → g ≠ nm ∧ g ≠ nb := fun g hg =>
    ⟨fun e => by subst e; exact hN.map.known (hfr g hg), fun e => by subst e; have := hfr g hg; rw [hN.blk] at this; cases this⟩
  have hlen : n2 = (sortedKeys d.files).length := hS.1
  have hbnm : b ≠ nm := ne_of_known hb hnm
  have hmnm : m ≠ nm := fun e => by subst e; exact h.map.known hnm
  have hnodup := isMap_nodup h.map
  have hnl : (sortedKeys d.files).length < 9223372036854775807 := by
    have := (sortedKeys_perm d.files).length_eq
    have := hok.few
    simp at this ⊢
    simp_all
    omega
  simp only [RP_loop]
  refine ⟨fun x s' => ∃ i : Nat, i ≤ (sortedKeys d.files).length ∧ x = ((some ⟨nb, 0, none⟩, ()), ((a1, n2, c2), ()), ((n2 : Int), ()), ((i : Int), ()), ()) ∧ strsAt s' a1 n2 c2 (sortedKeys d.files) ∧ DriveIs s' b m d ∧
      DriveIs s' nb nm ⟨(d.crashFiles keep).take i, false, 0⟩ ∧ Fw.Mod [] s s', fun x _ => (sortedKeys d.files).length - x.2.2.2.1.1.toNat, ?_, ?_⟩
  · exact ⟨0, Nat.zero_le _, rfl, hS, h2, hN2, m1.trans m2⟩
  rintro _ s3 ⟨i, hi, rfl, hS3, h3, hN3, m3⟩
  simp only [RP_ite, W.br_iff]
  refine ⟨fun hlt => ?_, fun hge => ?_⟩
  · have hlt : i < n2 := by simpa using hlt
    have hlt' : i < (sortedKeys d.files).length := by omega
    obtain ⟨x, hx⟩ : ∃ x, (sortedKeys d.files)[i]? = some x := ⟨_, List.getElem?_eq_getElem hlt'⟩
    obtain ⟨g, rfl, hg⟩ := hS3.cell hx
    have hb3 := h3.blk
    simp only [RP_guard, W.guard_iff, RP_unSome, W.unSome_some]
    refine ⟨(⟨by omega, by omega⟩ : (0 : Int) ≤ (i : Int) ∧ (i : Int) < (n2 : Int)), ?_⟩
    refine ld_one (x := x) (by simpa [add_mk, CT.val] using hg) ?_
    simp [hb3]
    refine look_file h3.map x ?_
    have hxk : x ∈ d.files.map (·.1) := (sortedKeys_perm d.files).mem_iff.1 (List.mem_of_getElem? hx)
    obtain ⟨f, hf1, hf2⟩ := mem_lookup hxk
    have hfok : 0 ≤ f.2 ∧ f.2 ≤ f.1.size ∧ f.1.size ≤ 9223372036854775807 := hok.file _ hf2
    have hgot : d.got x = f := by simp [DS.got, hf1]
    simp only [hf1, Option.getD_some, Option.isSome_some]
    have hnb3 := hN3.blk
    have hcr := crashN_range hfok keep[i]?
    have hcw := crash_wrap hfok keep[i]?
    have hstep : ∀ (t : ByteArray) (q : Int), (t, q) = crashFile f keep[i]? → W.mset TypeDesc.string (some nm) (.string x) (.agg #[.string t, .int .i64 q]) (fun s' => (∃ i' : Nat, i' ≤ (sortedKeys d.files).length ∧ IntKind.i64.wrap ((i : Int) + 1) = (i' : Int) ∧
        strsAt s' (some ⟨g, 0, none⟩) n2 c2 (sortedKeys d.files) ∧ DriveIs s' b m d ∧ DriveIs s' nb nm ⟨(d.crashFiles keep).take i', false, 0⟩ ∧ Fw.Mod [] s s') ∧ (sortedKeys d.files).length - (IntKind.i64.wrap ((i : Int) + 1)).toNat < (sortedKeys d.files).length - i) s3 := by
      intro t q htq
      refine mset_file hN3 x _ _ ?_
      intro s5 h5 m5
      have hw : IntKind.i64.wrap ((i : Int) + 1) = ((i + 1 : Nat) : Int) := by rw [wrap_in (by omega) (by omega)]; simp
      refine ⟨⟨i + 1, by omega, by rw [hw], hS3.mod m5 (by simpa using (hgnm g rfl).1), h3.mod m5 (by simpa using hbnm) (by simpa using hmnm), ?_, m3.fresh m5 (by simpa using hnm)⟩, ?_⟩
      · have := d.crashFiles_step keep hnodup hx
        rw [hgot, ← htq] at this
        rw [← this]; exact h5
      · rw [hw, Int.toNat_natCast]; omega
    have hkl := hkeep.1
    simp only [RP_ite, W.br_iff, decide_eq_true_eq, decide_eq_false_iff_not, RP_guard, W.guard_iff, RP_unSome, W.unSome_some, RP_ld, RP_mset]
    refine ⟨fun hc => ?_, fun hc => ?_⟩
    · have hc : i < n := by omega
      obtain ⟨y, hy⟩ : ∃ y, keep[i]? = some y := ⟨_, List.getElem?_eq_getElem (by omega)⟩
      obtain ⟨ka, rfl, hka⟩ := (hkeep.mono m3).2 i y hy
      rw [hy] at hcr hcw
      simp only [crashN] at hcr hcw
      refine ⟨by omega, ?_⟩
      simp only [W.unSome_some, Nat.mul_one, Int.toNat_natCast]
      refine ld_one (c := .int .i64) (x := y) hka ?_
      simp [hnb3]
      refine ⟨⟨by rw [hcw]; exact Int.le_trans hfok.1 (by omega), by rw [hcw]; exact hcr.2⟩, hstep _ _ ?_⟩
      simp only [hy, crashFile, crashN, gt_iff_lt]
    · have e : keep[i]? = none := List.getElem?_eq_none (by omega)
      rw [e] at hcr hcw
      simp only [crashN] at hcr hcw
      simp [hnb3]
      have h0 : f.2 + 0 = f.2 := by omega
      rw [h0] at hcw hcr
      refine ⟨⟨by rw [hcw]; exact hfok.1, by rw [hcw]; exact hfok.2.1⟩, hstep _ _ ?_⟩
      simp only [e, crashFile, crashN, Int.add_zero]
  · have hge : i = n2 := by simp at hge; omega
    have hfull : (d.crashFiles keep).take i = d.crashFiles keep := List.take_of_length_le (by simp [DS.crashFiles]; omega)
    rw [hfull] at hN3
    simp [h3.blk]
    have hbN : nb ≠ b := (ne_of_known hb hnb).symm
    have hm9 : Fw.Mod [b] s (s3.upd b (.cells #[.map (some m), .bool true, .int .i64 d.armed] 60 (0, 0))) := (m3.mono (by simp)).updLater (.inl (by simp))
    refine ⟨nb, rfl, nm, ?_, h3.upd true d.armed, hm9, hnb, hnm⟩
    exact hN3.mod (L := [b]) (Mod.upd (by simp)) (by simpa using hbN) (by simpa using hbnm.symm)
end Go.Proofs.Ytcdggocbjnmeaaa
