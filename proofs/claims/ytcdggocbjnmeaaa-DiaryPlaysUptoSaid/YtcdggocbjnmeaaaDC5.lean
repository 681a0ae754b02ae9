/-
  The document's drive: what its functions do.
  Conditions: none; it proves no statement by itself.
-/
import Derived.Test.YtcdggocbjnmeaaaVd2
import Derived.Test.YtcdggocbjnmeaaaDC2
import Derived.Test.YtcdggocbjnmeaaaFwR
set_option linter.unusedVariables false
set_option linter.unusedSimpArgs false
set_option maxHeartbeats 1000000
attribute [-simp] Fw.W.ld_iff Fw.W.st_iff
namespace Go.Proofs.Ytcdggocbjnmeaaa
open Fw Go

/-- how two strings stand -/
def stL : List UInt8 → List UInt8 → Int
  | [], [] => 0
  | [], _ :: _ => -1
  | _ :: _, [] => 1
  | a :: x, b :: y => if a.toNat < b.toNat then -1 else if b.toNat < a.toNat then 1 else stL x y
def stB (x y : ByteArray) : Int := stL x.data.toList y.data.toList

theorem getB (x : ByteArray) (i : Nat) (h : i < x.size) : ∃ a, x.data.toList[i]? = some a ∧ x[i]?.getD 0 = a := by
  refine ⟨x[i], ?_, ?_⟩
  · show x.data.toList[i]? = some x.data[i]
    rw [Array.getElem?_toList]; exact Array.getElem?_eq_getElem h
  · rw [getElem?_pos x i h]; rfl
theorem drop_at {l : List UInt8} {i : Nat} {a : UInt8} (h : l[i]? = some a) : l.drop i = a :: l.drop (i + 1) := by
  have hi := (List.getElem?_eq_some_iff.1 h).1
  rw [List.drop_eq_getElem_cons hi, (List.getElem?_eq_some_iff.1 h).2]
theorem size_toList (x : ByteArray) : x.data.toList.length = x.size := by rw [Array.length_toList]; rfl

theorem c_Stands (x y : ByteArray) (hx : x.size ≤ 9223372036854775806) (s : PH) : DCalls Try.prog 45 #[.string x, .string y] s fun v s' => v = .int .i64 (stB x y) ∧ s' = s := by
  refine ok_Stands x y _ s ?_
  unfold vc_Stands
  simp only [RP_loop]
  refine ⟨fun z s' => s' = s ∧ ∃ i : Nat, z = (((i : Int), ()), ()) ∧ i ≤ x.size ∧ i ≤ y.size ∧ stB x y = stL (x.data.toList.drop i) (y.data.toList.drop i), fun z _ => x.size - z.1.1.toNat, ⟨rfl, 0, rfl, Nat.zero_le _, Nat.zero_le _, rfl⟩, ?_⟩
  rintro _ s ⟨rfl, i, rfl, h1, h2, h3⟩
  have hdx : x.size ≤ i → x.data.toList.drop i = [] := fun h => List.drop_eq_nil_of_le (by rw [size_toList]; exact h)
  have hdy : y.size ≤ i → y.data.toList.drop i = [] := fun h => List.drop_eq_nil_of_le (by rw [size_toList]; exact h)
  have hl : ∀ {u v : Nat}, u ≤ v → v ≤ u → u = v := fun a b => Nat.le_antisymm a b
  simp only [RP_ite, W.br_iff, RP_guard, W.guard_iff, RP_ret, W.ret_iff, decide_eq_true_eq, decide_eq_false_iff_not]
  have tail : ¬ (i < x.size ∧ i < y.size) → ((↑x.size : Int) < ↑y.size → Value.int IntKind.i64 (-1) = Value.int IntKind.i64 (stB x y) ∧ True) ∧
      (¬ (↑x.size : Int) < ↑y.size → ((↑x.size : Int) > ↑y.size → Value.int IntKind.i64 1 = Value.int IntKind.i64 (stB x y) ∧ True) ∧ (¬ (↑x.size : Int) > ↑y.size → Value.int IntKind.i64 0 = Value.int IntKind.i64 (stB x y) ∧ True)) := by
    intro hnot
    rcases Nat.lt_or_ge i x.size with a | a
    · have b : y.size ≤ i := by omega
      obtain ⟨u, hu, _⟩ := getB x i a
      rw [hdy b, drop_at hu] at h3
      simp only [stL] at h3
      refine ⟨fun h => ?_, fun _ => ⟨fun _ => by rw [h3]; exact ⟨rfl, trivial⟩, fun h => ?_⟩⟩ <;> omega
    · rcases Nat.lt_or_ge i y.size with b | b
      · obtain ⟨u, hu, _⟩ := getB y i b
        rw [hdx a, drop_at hu] at h3
        simp only [stL] at h3
        refine ⟨fun h => by rw [h3]; exact ⟨rfl, trivial⟩, fun h => ?_⟩
        omega
      · rw [hdx a, hdy b] at h3
        simp only [stL] at h3
        refine ⟨fun h => by omega, fun h => ⟨fun h => by omega, fun h => by rw [h3]; exact ⟨rfl, trivial⟩⟩⟩
  refine ⟨fun a => ⟨fun b => ?_, fun b => tail (by omega)⟩, fun a => tail (by omega)⟩
  have a' : i < x.size := by omega
  have b' : i < y.size := by omega
  obtain ⟨u, hu, hu2⟩ := getB x i a'
  obtain ⟨v, hv, hv2⟩ := getB y i b'
  rw [drop_at hu, drop_at hv] at h3
  simp only [stL] at h3
  have e : ((i : Int)).toNat = i := rfl
  simp only [e, hu2, hv2]
  have hw : IntKind.i64.wrap ((i : Int) + 1) = ((i + 1 : Nat) : Int) := by rw [wrap_in (by omega) (by omega)]; simp
  refine ⟨⟨by omega, a⟩, ⟨by omega, b⟩, fun h => ?_, fun h => ⟨⟨by omega, a⟩, ⟨by omega, b⟩, fun g => ?_, fun g => ?_⟩⟩
  · rw [if_pos (by omega)] at h3; rw [h3]; exact ⟨rfl, trivial⟩
  · rw [if_neg (by omega), if_pos (by omega)] at h3; rw [h3]; exact ⟨rfl, trivial⟩
  · rw [if_neg (by omega), if_neg (by omega)] at h3
    rw [hw]
    refine ⟨⟨trivial, i + 1, rfl, by omega, by omega, h3⟩, ?_⟩
    simp only [Int.toNat_natCast]; omega

/-! ## the document's drive -/
def fE : Enc (ByteArray × (ByteArray × Int)) where
  sz := 3
  f p := [.string p.1, .string p.2.1, .int .i64 p.2.2]
  len _ := rfl
  one p v hv := by simp at hv; rcases hv with rfl | rfl | rfl <;> rfl
  pos := by omega
structure RefIs (s : PH) (r : Nat) (L : List Nat) (d : DS) : Prop where
  ex : ∃ a n c, L = r :: blk a ∧ s r = some (.cells #[.slice a n c, .bool d.down, .int .i64 d.armed] 43 (0, 0)) ∧ rowE fE s 76 a n c d.files
theorem RefIs.mod {M : List Nat} {s s' : PH} {r : Nat} {L : List Nat} {d : DS} (h : RefIs s r L d) (hm : Fw.Mod M s s') (hd : ∀ x ∈ L, x ∉ M) : RefIs s' r L d := by
  obtain ⟨a, n, c, rfl, hr, h⟩ := h.ex
  exact ⟨a, n, c, rfl, hm.at hr (hd r (by simp)), h.mod hm fun x hx => hd x (by simp [hx])⟩
theorem RefIs.known {s : PH} {r : Nat} {L : List Nat} {d : DS} (h : RefIs s r L d) : ∀ x ∈ L, s x ≠ none := by
  obtain ⟨a, n, c, rfl, hr, h⟩ := h.ex
  intro x hx
  rcases List.mem_cons.1 hx with rfl | hx
  · simp [hr]
  · exact h.known x hx
theorem row_ne {s : PH} {r : Nat} {a : Option Addr} {n c : Nat} {F : List (ByteArray × (ByteArray × Int))} {o : Array Value} (h : rowE fE s 76 a n c F) (hr : s r = some (.cells o 43 (0, 0))) : r ∉ blk a := by
  intro hx
  rcases h.shape with ⟨rfl, _⟩ | ⟨g, rfl⟩
  · simp [blk] at hx
  · simp [blk] at hx; subst hx
    obtain ⟨cur, hc⟩ := h.ty rfl
    rw [hr] at hc; cases hc

def DS.Names (d : DS) : Prop := d.files.length ≤ 1000000 ∧ ∀ p ∈ d.files, p.1.size ≤ 281474976710656
def posOf (F : List (ByteArray × (ByteArray × Int))) (nm : ByteArray) : Nat := F.findIdx fun p => decide (0 ≤ stB p.1 nm)
def foundAt (F : List (ByteArray × (ByteArray × Int))) (nm : ByteArray) : Bool := match F[posOf F nm]? with | some p => stB p.1 nm == 0 | none => false

/-- all ahead of i stand ahead of the name -/
def Ahead (F : List (ByteArray × (ByteArray × Int))) (nm : ByteArray) (i : Nat) : Prop := ∀ j p, j < i → F[j]? = some p → ¬ 0 ≤ stB p.1 nm
theorem c_rAt {s : PH} {r : Nat} {L : List Nat} {d : DS} (h : RefIs s r L d) (hn : d.Names) (nm : ByteArray) : DCalls Try.prog 37 #[dptr r, .string nm] s fun v s' =>
    v = .tuple #[.int .i64 (posOf d.files nm), .bool (foundAt d.files nm)] ∧ s' = s := by
  refine ok_rAt r nm _ s ?_
  obtain ⟨a, n, c, rfl, hr, hrow⟩ := h.ex
  have hlen := hrow.len
  obtain ⟨hn1, hn2⟩ := hn
  unfold vc_rAt
  simp only [RP_loop]
  refine ⟨fun z s' => s' = s ∧ ∃ i : Nat, z = (((i : Int), ()), ()) ∧ i ≤ n ∧ Ahead d.files nm i, fun z _ => n - z.1.1.toNat, ⟨rfl, 0, rfl, Nat.zero_le _, fun j p h => by omega⟩, ?_⟩
  rintro _ s ⟨rfl, i, rfl, h1, h2⟩
  simp [W.ld_at hr, W.br_iff]
  refine ⟨fun hlt => ?_, fun hge => ?_⟩
  · have hlt' : i < d.files.length := by omega
    have hx : d.files[i]? = some d.files[i] := List.getElem?_eq_getElem hlt'
    obtain ⟨g, rfl, hc⟩ := hrow.at hx
    simp only [W.unSome_some]
    refine ⟨by omega, ?_⟩
    rw [add_mk, Nat.zero_add]
    refine ld_has_z hc (y := (d.files[i].1, ())) rfl ?_
    have hsz := hn2 _ (List.getElem_mem hlt')
    refine W.call_of (c_Stands d.files[i].1 nm (by omega) s) ?_
    rintro _ s ⟨rfl, rfl⟩
    refine ⟨((stB d.files[i].1 nm, ()), ()), rfl, ?_⟩
    have hw : IntKind.i64.wrap ((i : Int) + 1) = ((i + 1 : Nat) : Int) := by rw [wrap_in (by omega) (by omega)]; simp
    simp only [W.br_iff, decide_eq_true_eq, decide_eq_false_iff_not, W.ret_iff, hw, Int.toNat_natCast]
    refine ⟨fun hp => ?_, fun hp => ?_⟩
    · have hpos : posOf d.files nm = i := by
        unfold posOf
        rw [List.findIdx_eq hlt']
        refine ⟨by simpa using hp, fun j hj => ?_⟩
        have := h2 j _ hj (List.getElem?_eq_getElem (by omega))
        simpa using this
      simp only [foundAt, hpos, hx, and_self]
    · refine ⟨⟨trivial, i + 1, by simp, by omega, ?_⟩, by omega⟩
      intro j p hj hp'
      by_cases e : j = i
      · subst e; rw [hx] at hp'; cases hp'; exact hp
      · exact h2 j p (by omega) hp'
  · have hi : i = d.files.length := by omega
    have hpos : posOf d.files nm = d.files.length := by
      unfold posOf
      rw [List.findIdx_eq_length]
      intro p hp
      obtain ⟨j, hj⟩ := List.mem_iff_getElem?.1 hp
      have := h2 j p (by have := (List.getElem?_eq_some_iff.1 hj).1; omega) hj
      simpa using this
    simp only [foundAt, hpos, List.getElem?_eq_none (Nat.le_refl _), hlen, and_self]

def mkF (F : List (ByteArray × (ByteArray × Int))) (nm : ByteArray) : List (ByteArray × (ByteArray × Int)) :=
  if foundAt F nm then F else F.take (posOf F nm) ++ [(nm, (⟨#[]⟩, 0))] ++ F.drop (posOf F nm)
theorem posOf_le (F : List (ByteArray × (ByteArray × Int))) (nm : ByteArray) : posOf F nm ≤ F.length := List.findIdx_le_length

theorem c_rMake {s : PH} {r : Nat} {L : List Nat} {d : DS} (h : RefIs s r L d) (hn : d.Names) (nm : ByteArray) : DCalls Try.prog 41 #[dptr r, .string nm] s fun v s' =>
    v = .int .i64 (posOf d.files nm) ∧ ∃ L', RefIs s' r L' { d with files := mkF d.files nm } ∧ Step L L' s s' := by
  refine ok_rMake r nm _ s ?_
  unfold vc_rMake
  simp only [RP_call]
  refine W.call_of (c_rAt h hn nm) ?_
  rintro _ s ⟨rfl, rfl⟩
  refine ⟨(((posOf d.files nm : Int), ()), (foundAt d.files nm, ()), ()), rfl, ?_⟩
  have hpl := posOf_le d.files nm
  obtain ⟨hn1, hn2⟩ := hn
  simp only [RP_ite, W.br_iff, Bool.not_eq_true', Bool.not_eq_false']
  refine ⟨fun hf => ?_, fun hf => ?_⟩
  · obtain ⟨a, n, c, rfl, hr, hrow⟩ := h.ex
    have hlen := hrow.len
    have hnc := hrow.le
    have hmax : maxLen = 9223372036854775807 := rfl
    simp [W.ld_at hr]
    refine ⟨by omega, ?_⟩
    have hs1 := hrow.src_take (m := posOf d.files nm) (by omega)
    refine app_rowE (E := fE) (k := posOf d.files nm) (ys := d.files.take (posOf d.files nm)) rowE.nil rfl hs1 rfl (by simp; omega) (by omega) (by omega) ?_
    intro a1 c1 s1 h1 m1
    have hm1 : Fw.Mod [] s s1 ∧ ∀ x ∈ blk a1, s x = none := by
      rcases m1 with ⟨rfl, m⟩ | ⟨g, rfl, hg, m⟩
      · exact ⟨by simpa [blk] using m, by simp [blk]⟩
      · exact ⟨m, by simp [blk, hg]⟩
    simp only [List.nil_append, Nat.zero_add] at h1 ⊢
    intro r9 hr9
    have m2 : Fw.Mod [] s1 (s1.upd r9 (.cells #[.string nm, .string ⟨#[]⟩, .int .i64 0] 76 (0, 0))) := Mod.new hr9
    have h2 := h1.mod m2 (by simp)
    refine app_rowE (E := fE) (k := 1) (ys := [(nm, (⟨#[]⟩, 0))]) h2 rfl (src_has (E := fE) (has_block (PH.upd_same _ _ _)) rfl) rfl rfl (by omega) (by omega) ?_
    intro a3 c3 s3 h3 m3
    have hm3 : Fw.Mod [] s s3 ∧ ∀ x ∈ blk a3, s x = none := by
      have hm12 := hm1.1.trans m2
      rcases m3 with ⟨rfl, m⟩ | ⟨g, rfl, hg, m⟩
      · exact ⟨hm12.fresh m fun x hx => .inr (hm1.2 x hx), hm1.2⟩
      · exact ⟨hm12.trans m, by simp [blk]; exact hm12.none hg (by simp)⟩
    have hr3 := hm3.1.at hr (by simp)
    have hrow3 := hrow.mod hm3.1 (by simp)
    simp [W.ld_at hr3]
    refine ⟨⟨by omega, by omega⟩, ?_⟩
    have hs3 := hrow3.src (i := posOf d.files nm) (m := n - posOf d.files nm) (by omega)
    rw [List.take_of_length_le (by simp; omega)] at hs3
    refine app_rowE (E := fE) (k := n - posOf d.files nm) (ys := d.files.drop (posOf d.files nm)) h3 rfl hs3 rfl (by simp; omega) (by omega) (by omega) ?_
    intro a4 c4 s4 h4 m4
    have hm4 : Fw.Mod [] s s4 ∧ ∀ x ∈ blk a4, s x = none := by
      rcases m4 with ⟨rfl, m⟩ | ⟨g, rfl, hg, m⟩
      · exact ⟨hm3.1.fresh m fun x hx => .inr (hm3.2 x hx), hm3.2⟩
      · exact ⟨hm3.1.trans m, by simp [blk]; exact hm3.1.none hg (by simp)⟩
    have hr4 := hm4.1.at hr (by simp)
    simp [W.st_at hr4]
    refine ⟨r :: blk a4, ⟨a4, _, c4, rfl, PH.upd_same _ _ _, ?_⟩, ⟨(hm4.1.mono (by simp)).updLater (.inl (by simp)), ?_⟩⟩
    · have := h4.mod (L := [r]) (Mod.upd (b := r) (o := .cells #[.slice a4 (posOf d.files nm + 1 + (n - posOf d.files nm)) c4, .bool d.down, .int .i64 d.armed] 43 (0, 0)) (by simp))
        (fun x hx => by simp; rintro rfl; have := hm4.2 x hx; rw [hr] at this; cases this)
      simpa [mkF, hf] using this
    · intro x hx
      rcases List.mem_cons.1 hx with rfl | hx
      · exact .inl (by simp)
      · exact .inr (hm4.2 x hx)
  · have e : mkF d.files nm = d.files := by simp [mkF, hf]
    rw [e]
    simp only [RP_ret, W.ret_iff, true_and]
    exact ⟨L, h, Step.refl _ _⟩
end Go.Proofs.Ytcdggocbjnmeaaa
