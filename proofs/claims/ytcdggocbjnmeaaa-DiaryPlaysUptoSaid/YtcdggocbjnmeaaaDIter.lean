/-
  The library's maps.Keys and slices.Sorted at this program: what they do.
  Conditions: none; it proves no statement by itself.
-/
import Derived.Shelf.SlIter.Nil
import Derived.Shelf.SortM.Plain
import Derived.Shelf.SortM.SortNone
import Derived.Ground.GgzProg
import Derived.Ground.SlgmProg
import Derived.Test.YtcdggocbjnmeaaaProg
import Derived.Test.YtcdggocbjnmeaaaFwP
namespace Go.Proofs
open Go.RowKit Go.Maps Go.Sort Go.Shelf
def Try.keys44_ren : Go.Shelf.Ren := ⟨fun | 7 => 44 | 10 => 50 | n => n, fun | 23 => 58 | 26 => 9 | 3 => 64 | 28 => 88 | 0 => 0 | 27 => 87 | 33 => 37 | 4 => 4 | n => n, fun | n => n⟩
theorem Try.keys44 : Go.Proofs.SlLaysZ.n7 Try.prog Try.keys44_ren := {
  mixed := by kernel_rfl
  f7 := ⟨Try.f44.name, by decide, Try.func44.trans (congrArg some (by kernel_rfl))⟩
  f10 := ⟨Try.f50.name, by decide, Try.func50.trans (congrArg some (by kernel_rfl))⟩
  t0 := Try.underlying0
  a0 := Try.isAgg0
  z0 := Try.sizeOf0
  v0 := Try.zeroValue0
  t4 := Try.underlying4
  a4 := Try.isAgg4
  z4 := Try.sizeOf4
  v4 := Try.zeroValue4
  t23 := Try.underlying58
  a23 := Try.isAgg58
  z23 := Try.sizeOf58
  v23 := Try.zeroValue58
  t26 := Try.underlying9
  a26 := Try.isAgg9
  z26 := Try.sizeOf9
  v26 := Try.zeroValue9
  t27 := Try.underlying87
  a27 := Try.isAgg87
  z27 := Try.sizeOf87
  v27 := Try.zeroValue87
  t28 := Try.underlying88
  a28 := Try.isAgg88
  z28 := Try.sizeOf88
  v28 := Try.zeroValue88
  t33 := Try.underlying37
  a33 := Try.isAgg37
  z33 := Try.sizeOf37
  v33 := Try.zeroValue37 }
def Try.sorted43_ren : Go.Shelf.Ren := ⟨fun | 6 => 43 | 8 => 48 | 9 => 49 | 11 => 51 | 13 => 53 | 12 => 52 | 23 => 63 | 24 => 64 | 14 => 54 | 15 => 55 | 16 => 56 | 17 => 57 | 18 => 58 | 19 => 59 | 20 => 60 | 21 => 61 | 22 => 62 | 25 => 65 | 26 => 66 | 27 => 67 | 28 => 68 | 29 => 69 | 30 => 70 | 31 => 71 | n => n, fun | 26 => 9 | 28 => 88 | 24 => 28 | 0 => 0 | 3 => 3 | 37 => 90 | 48 => 81 | 50 => 106 | 4 => 4 | 40 => 98 | 39 => 97 | 45 => 77 | 5 => 5 | 9 => 9 | 51 => 107 | 55 => 111 | 57 => 113 | 58 => 114 | 33 => 37 | n => n, fun | n => n⟩
theorem Try.sorted43 : Go.Proofs.SlLaysZ.n6 Try.prog Try.sorted43_ren := {
  mixed := by kernel_rfl
  f6 := ⟨Try.f43.name, by decide, Try.func43.trans (congrArg some (by kernel_rfl))⟩
  f8 := ⟨Try.f48.name, by decide, Try.func48.trans (congrArg some (by kernel_rfl))⟩
  f11 := ⟨Try.f51.name, by decide, Try.func51.trans (congrArg some (by kernel_rfl))⟩
  t0 := Try.underlying0
  a0 := Try.isAgg0
  z0 := Try.sizeOf0
  v0 := Try.zeroValue0
  t24 := Try.underlying28
  a24 := Try.isAgg28
  z24 := Try.sizeOf28
  v24 := Try.zeroValue28
  t26 := Try.underlying9
  a26 := Try.isAgg9
  z26 := Try.sizeOf9
  v26 := Try.zeroValue9
  t28 := Try.underlying88
  a28 := Try.isAgg88
  z28 := Try.sizeOf88
  v28 := Try.zeroValue88
  i26 := by kernel_rfl }
def Try.sort49_ren : Go.Shelf.Ren := ⟨fun | 6 => 49 | 8 => 53 | 9 => 52 | 19 => 63 | 20 => 64 | 21 => 54 | 22 => 55 | 23 => 56 | 24 => 57 | 25 => 58 | 26 => 59 | 27 => 60 | 28 => 61 | 29 => 62 | 36 => 65 | 31 => 66 | 32 => 67 | 37 => 68 | 38 => 69 | 39 => 70 | 41 => 71 | n => n, fun | 27 => 28 | 29 => 9 | 3 => 3 | 32 => 90 | 26 => 28 | 0 => 0 | 44 => 81 | 46 => 106 | 4 => 4 | 36 => 98 | 35 => 97 | 41 => 77 | 5 => 5 | 9 => 9 | 53 => 107 | 57 => 111 | 63 => 113 | 64 => 114 | n => n, fun | n => n⟩
theorem Try.sort49 : Go.Proofs.SlLaysM.n6 Try.prog Try.sort49_ren := {
  mixed := by kernel_rfl
  f6 := ⟨Try.f49.name, by decide, Try.func49.trans (congrArg some (by kernel_rfl))⟩
  f8 := Try.func53.trans (congrArg some (by kernel_rfl))
  f9 := ⟨Try.f52.name, by decide, Try.func52.trans (congrArg some (by kernel_rfl))⟩
  f19 := Try.func63.trans (congrArg some (by kernel_rfl))
  f20 := Try.func64.trans (congrArg some (by kernel_rfl))
  f21 := ⟨Try.f54.name, by decide, Try.func54.trans (congrArg some (by kernel_rfl))⟩
  f22 := ⟨Try.f55.name, by decide, Try.func55.trans (congrArg some (by kernel_rfl))⟩
  f23 := ⟨Try.f56.name, by decide, Try.func56.trans (congrArg some (by kernel_rfl))⟩
  f24 := ⟨Try.f57.name, by decide, Try.func57.trans (congrArg some (by kernel_rfl))⟩
  f25 := ⟨Try.f58.name, by decide, Try.func58.trans (congrArg some (by kernel_rfl))⟩
  f26 := ⟨Try.f59.name, by decide, Try.func59.trans (congrArg some (by kernel_rfl))⟩
  f27 := ⟨Try.f60.name, by decide, Try.func60.trans (congrArg some (by kernel_rfl))⟩
  f28 := ⟨Try.f61.name, by decide, Try.func61.trans (congrArg some (by kernel_rfl))⟩
  f29 := ⟨Try.f62.name, by decide, Try.func62.trans (congrArg some (by kernel_rfl))⟩
  f31 := Try.func66.trans (congrArg some (by kernel_rfl))
  f32 := Try.func67.trans (congrArg some (by kernel_rfl))
  f36 := ⟨Try.f65.name, by decide, Try.func65.trans (congrArg some (by kernel_rfl))⟩
  f37 := ⟨Try.f68.name, by decide, Try.func68.trans (congrArg some (by kernel_rfl))⟩
  f38 := ⟨Try.f69.name, by decide, Try.func69.trans (congrArg some (by kernel_rfl))⟩
  f39 := ⟨Try.f70.name, by decide, Try.func70.trans (congrArg some (by kernel_rfl))⟩
  f41 := ⟨Try.f71.name, by decide, Try.func71.trans (congrArg some (by kernel_rfl))⟩
  t0 := Try.underlying0
  a0 := Try.isAgg0
  z0 := Try.sizeOf0
  v0 := Try.zeroValue0
  t3 := Try.underlying3
  a3 := Try.isAgg3
  z3 := Try.sizeOf3
  v3 := Try.zeroValue3
  t4 := Try.underlying4
  a4 := Try.isAgg4
  z4 := Try.sizeOf4
  v4 := Try.zeroValue4
  t5 := Try.underlying5
  a5 := Try.isAgg5
  z5 := Try.sizeOf5
  v5 := Try.zeroValue5
  t9 := Try.underlying9
  a9 := Try.isAgg9
  z9 := Try.sizeOf9
  v9 := Try.zeroValue9
  t26 := Try.underlying28
  a26 := Try.isAgg28
  z26 := Try.sizeOf28
  v26 := Try.zeroValue28
  t27 := Try.underlying28
  a27 := Try.isAgg28
  z27 := Try.sizeOf28
  v27 := Try.zeroValue28
  t29 := Try.underlying9
  a29 := Try.isAgg9
  z29 := Try.sizeOf9
  v29 := Try.zeroValue9
  t32 := Try.underlying90
  a32 := Try.isAgg90
  z32 := Try.sizeOf90
  v32 := Try.zeroValue90
  t35 := Try.underlying97
  a35 := Try.isAgg97
  z35 := Try.sizeOf97
  v35 := Try.zeroValue97
  t36 := Try.underlying98
  a36 := Try.isAgg98
  z36 := Try.sizeOf98
  v36 := Try.zeroValue98
  t41 := Try.underlying77
  a41 := Try.isAgg77
  z41 := Try.sizeOf77
  v41 := Try.zeroValue77
  t44 := Try.underlying81
  a44 := Try.isAgg81
  z44 := Try.sizeOf81
  v44 := Try.zeroValue81
  t46 := Try.underlying106
  a46 := Try.isAgg106
  z46 := Try.sizeOf106
  v46 := Try.zeroValue106
  t53 := Try.underlying107
  a53 := Try.isAgg107
  z53 := Try.sizeOf107
  v53 := Try.zeroValue107
  t57 := Try.underlying111
  a57 := Try.isAgg111
  z57 := Try.sizeOf111
  v57 := Try.zeroValue111
  t63 := Try.underlying113
  a63 := Try.isAgg113
  z63 := Try.sizeOf113
  v63 := Try.zeroValue113
  t64 := Try.underlying114
  a64 := Try.isAgg114
  z64 := Try.sizeOf114
  v64 := Try.zeroValue114 }
/-- slices.Sort's two contracts at this dump, at the fence that asks nothing. -/
theorem Try.sorts43 (m : Nat) : AnyZ.SortsIn Try.prog Try.sorted43_ren Fence.wide m :=
  ⟨fun blk off cap ss W hH hblk hsz => callsIn_wide.2 (AnyM.slices_Sort_string Try.sort49 blk off cap ss W hH hblk hsz),
   fun p cap W => callsIn_wide.2 (AnyM.slices_Sort_string_none Try.sort49 p cap W)⟩

/-- **maps.Keys[map[string]lintel/drive.file,string,lintel/drive.file], at whatever map, the nil one too:** a function value over ONE NEW BLOCK, which holds the map. -/
theorem Try.maps_Keys_44 (mb : Option Nat) (W : World) : CallsIn Fence.wide 5 Try.prog 44 #[.map mb] W fun e w' => e = .returned (.func (.func 50) #[] #[.pointer (some ⟨W.heap.size, 0, none⟩)]) ∧ w' = W.alloc (.cells #[.map mb] 58) :=
  AnyZ.keys_in Try.keys44 Fence.wide 5 trivial rfl mb W


namespace Ytcdggocbjnmeaaa
open Fw
theorem rel_below {w w' : World} {s : PH} (hs : Sub s w) (hb : RowKit.Below w.heap.size w w') : Rel w s s w' :=
  ⟨fun b o e => by
    have h := hs b o e
    rcases Nat.lt_or_ge b w.heap.size with q | q
    · rw [hb.block b q]; exact h
    · simp [Array.getElem?_eq_none q] at h,
   hb.os, hb.tape, hb.output, hb.size, fun k hk e => ⟨e, hb.block k hk⟩⟩
theorem rel_below_new {w w' : World} {s : PH} (hs : Sub s w) (hb : RowKit.Below w.heap.size w w') {g : Nat} {o : Obj} (hg : w.heap.size ≤ g) (ho : w'.heap[g]? = some o) : s g = none ∧ Rel w s (s.upd g o) w' := by
  have hn : s g = none := by
    cases e : s g with
    | none => rfl
    | some x => have := hs g x e; simp [Array.getElem?_eq_none hg] at this
  have hr := rel_below hs hb
  refine ⟨hn, fun b x e => ?_, hr.os, hr.tape, hr.output, hr.size, fun k hk e => ?_⟩
  · by_cases hbg : b = g
    · subst hbg; rw [PH.upd_same] at e; cases e; exact ho
    · rw [PH.upd_other _ _ hbg] at e; exact hr.sub b x e
  · have hkg : k ≠ g := by omega
    rw [PH.upd_other _ _ hkg]; exact hr.out k hk e
/-- the strings l, at a slice of them -/
def strsAt (s : PH) (a : Option Addr) (n c : Nat) (l : List ByteArray) : Prop :=
  n = l.length ∧ ((a = none ∧ c = 0 ∧ l = []) ∨ ∃ g cur, a = some ⟨g, 0, none⟩ ∧ s g = some (.cells cur 9 (0, 0)) ∧ cur.toList.take n = l.map Value.string ∧ n ≤ c ∧ cur.size = c)
def ofBytes (l : List UInt8) : ByteArray := ⟨l.toArray⟩
def sortedKeys {V : Type} (f : List (ByteArray × V)) : List ByteArray := ((f.map fun p => p.1.data.toList).mergeSort leB).map ofBytes

theorem c_Keys (mb : Option Nat) (s : PH) : DCalls Try.prog 44 #[.map mb] s fun v s' =>
    ∃ r, s r = none ∧ v = .func (.func 50) #[] #[.pointer (some ⟨r, 0, none⟩)] ∧ s' = s.upd r (.cells #[.map mb] 58 (0, 0)) := by
  intro w hw
  refine (callsIn_wide.1 (Try.maps_Keys_44 mb w)).mono ?_
  rintro e w' ⟨rfl, rfl⟩
  have hn : s w.heap.size = none := by
    cases e : s w.heap.size with
    | none => rfl
    | some x => have := hw _ x e; simp at this
  refine ⟨_, _, rfl, ?_, _, hn, rfl, rfl⟩
  exact (Rel.new (Rel.start hw) _).2

theorem c_Sorted {V : Type} {ve : V → Value} {s : PH} {r m : Nat} {f : List (ByteArray × V)} (hr : s r = some (.cells #[.map (some m)] 58 (0, 0))) (hm : isMap strKey ve s m f)
    (hk : ∀ p ∈ f, p.1.size ≤ maxLen) (hl : f.length * 16 ≤ 140737488355328) :
    DCalls Try.prog 43 #[.func (.func 50) #[] #[.pointer (some ⟨r, 0, none⟩)]] s fun v s' =>
      ∃ a n c, v = .slice a n c ∧ strsAt s' a n c (sortedKeys f) ∧ Fw.Mod [] s s' ∧ (∀ g, a = some ⟨g, 0, none⟩ → s g = none) := by
  intro w hw
  obtain ⟨es, c, h1, h2, h3⟩ := hm
  have hes : es.size = f.length := by simpa using congrArg List.length h2
  have hkey : ∀ x ∈ es.toList, ∃ p ∈ f, x.key = .string p.1 := by
    intro x hx
    have : (x.key, x.val) ∈ f.map (fun p => (strKey.enc p.1, ve p.2)) := by rw [← h2]; exact List.mem_map_of_mem hx
    obtain ⟨p, hp, he⟩ := List.mem_map.1 this
    simp only [Prod.mk.injEq] at he
    exact ⟨p, hp, he.1.symm⟩
  let R : Value → Option (DataW Nat × List MemPlace) := fun _ => some (.nil, [])
  have hko : ∀ k : ByteArray, k.size ≤ maxLen → keyOf Try.prog 9 (.string k) = some (.string k.data.toList) := by
    intro k hk
    unfold keyOf
    rw [Try.underlying9]
    simp [mapKey, Try.underlying9, hk]
  have hrd : ∀ x ∈ es.toList, ∀ k, x.key = .string k → k.size ≤ maxLen → Go.WideElems.rd Try.prog 9 R x = some (.string k.data.toList, .nil) := by
    intro x hx k e hk
    unfold Go.WideElems.rd
    rw [e, hko k hk]; rfl
  have hown : w.ownsMap Try.prog 9 R m es.size (.map ((es.toList.map (Go.WideElems.rg Try.prog 9 R)).foldr DataW.insert [])) := by
    refine ⟨es, c, hw _ _ h1, ⟨?_, h3, ?_⟩, Nat.le_refl _, rfl⟩
    · have : maxLen = 9223372036854775807 := rfl
      omega
    · intro x hx
      obtain ⟨p, hp, e⟩ := hkey x hx
      exact ⟨_, hrd x hx _ e (hk p hp)⟩
  have hkeys : (strKeys (DataW.map ((es.toList.map (Go.WideElems.rg Try.prog 9 R)).foldr DataW.insert []))).Perm (f.map fun p => p.1.data.toList) := by
    refine (List.Perm.map _ (Go.WideShapes.sorted_perm _)).trans ?_
    have : es.toList.map (fun e => e.key) = f.map (fun p => Value.string p.1) := by
      have := congrArg (List.map Prod.fst) h2
      rw [List.map_map, List.map_map] at this
      exact this
    have e2 : (es.toList.map (Go.WideElems.rg Try.prog 9 R)).map (fun p => strOf p.1) = f.map (fun p => p.1.data.toList) := by
      have e3 : (es.toList.map (Go.WideElems.rg Try.prog 9 R)).map (fun p => strOf p.1) = (es.toList.map (fun e => e.key)).map (fun v => match v with | .string k => k.data.toList | _ => []) := by
        rw [List.map_map, List.map_map]
        apply List.map_congr_left
        intro x hx
        obtain ⟨p, hp, e⟩ := hkey x hx
        simp only [Function.comp_apply, Go.WideElems.rg, hrd x hx _ e (hk p hp), e, Option.getD_some, strOf]
      rw [e3, this, List.map_map]
      rfl
    rw [e2]
  have hsize : Maps.size (DataW.map (H := Nat) ((es.toList.map (Go.WideElems.rg Try.prog 9 R)).foldr DataW.insert [])) = f.length := by
    have := hkeys.length_eq
    simpa [strKeys, Maps.size] using this
  have hlt : r < w.heap.size := by
    have := hw _ _ hr
    rcases Nat.lt_or_ge r w.heap.size with q | q
    · exact q
    · simp [Array.getElem?_eq_none q] at this
  have hseq : SeqGives Fence.wide 2 Try.prog 50 #[.pointer (some ⟨r, 0, none⟩)] encStr (fun ss => ss.Perm (strKeys (DataW.map ((es.toList.map (Go.WideElems.rg Try.prog 9 R)).foldr DataW.insert [])))) (Maps.size (DataW.map (H := Nat) ((es.toList.map (Go.WideElems.rg Try.prog 9 R)).foldr DataW.insert []))) w :=
    AnyZ.keys_gives (ρ := Try.keys44_ren) { Try.keys44 with } Fence.wide _ trivial rfl (by omega) r m es.size _ _ hlt (by
      unfold World.cell?
      rw [show (Addr.mk r 0 none).block = r from rfl, hw _ _ hr]; rfl) hown
  refine (callsIn_wide.1 (AnyZ.sorted_in Try.sorted43 Fence.wide 5 trivial trivial trivial trivial rfl (by omega) (Try.sorts43 _) (enters_of Try.func49 (by kernel_rfl) rfl) 50 #[.pointer (some ⟨r, 0, none⟩)] trivial (enters_of Try.func50 (by kernel_rfl) rfl) _ _ ?_ ?_ _ hseq)).mono ?_
  · rw [hsize]; have : maxLen = 9223372036854775807 := rfl; omega
  · rw [hsize]; exact hl
  rintro e w' ⟨v, ss, rfl, hS, hrow, hnil, hb⟩
  have hsort : (ss.mergeSort fun x y => decide (x ≤ y)) = (f.map fun p => p.1.data.toList).mergeSort leB := mergeSort_of_perm (hS.trans hkeys)
  have hlen : ss.length = (sortedKeys f).length := by
    have := (hS.trans hkeys).length_eq
    simp [sortedKeys, this]
  have henc : List.map encStr (ss.mergeSort fun x y => decide (x ≤ y)) = (sortedKeys f).map Value.string := by
    rw [hsort]; simp [sortedKeys, ofBytes, encStr]
  rw [henc] at hrow
  obtain ⟨_, hrow⟩ := hrow
  rcases hrow with ⟨rfl, h0⟩ | ⟨g, cap, cur, rfl, hbase, hg, hc1, hc2, hc3, hc4⟩
  · refine ⟨_, s, rfl, rel_below hw hb, none, 0, 0, rfl, ⟨by omega, .inl ⟨rfl, rfl, ?_⟩⟩, Mod.refl _ _, by simp⟩
    exact List.length_eq_zero_iff.1 (by omega)
  · obtain ⟨hn, hrel⟩ := rel_below_new hw hb hbase hg
    refine ⟨_, _, rfl, hrel, _, _, _, rfl, ⟨hlen, .inr ⟨g, cur, rfl, PH.upd_same _ _ _, ?_, hc1, by omega⟩⟩, Mod.new hn, ?_⟩
    · rw [Nat.mul_one] at hc4; exact hc4
    · intro g' e; simp only [Option.some.injEq, Addr.mk.injEq] at e; rw [← e.1]; exact hn
end Ytcdggocbjnmeaaa
end Go.Proofs
