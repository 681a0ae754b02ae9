/-
  Part 2 for the law: texts of this session's own, those parts that the claim needs, one behind the other.
  Conditions: none; it proves no statement by itself.
-/
import Derived.Test.YtcdggocbjnmeaaaGreatGroupNilK1
set_option linter.unusedVariables false
set_option linter.unusedSectionVars false
set_option linter.unusedSimpArgs false
section
set_option linter.unusedVariables false
set_option maxHeartbeats 1000000
namespace Go.Proofs.YtcdggocbjnmeaaaGreat
open Fw Fw.W Go
/-- (*lintel/ballot.Ballot).last -/
def vc_last {W : Type} (π : Prims W) (b : Nat) : W :=
  π.unSome (some (Addr.mk b (0 : Nat) none)) fun p0 =>
  π.ld [.int .i64] ((p0.add (2 : Nat)).add (4 : Nat)) fun ((x1 : Int), _) =>
  π.unSome (some (Addr.mk b (0 : Nat) none)) fun p2 =>
  π.ld [.slice] (p2.add (11 : Nat)) fun (((a3 : Option Addr), (n4 : Nat), (c5 : Nat)), _) =>
  π.ret (Value.int (IntKind.i64) (IntKind.i64.wrap (x1 + (↑n4 : Int))))
def ann_last : Ann := { draws := [(1, { A := [0, 1, 2, 3, 4, 5, 6, 7, 8, 9, 10, 11] })], join := [], loop := [] }
def la_last : LA := { ptr := [], ty := [] }
set_option maxRecDepth 100000 in
theorem eq_last {W : Type} (π : Prims W) (b : Nat) : bodyL π Tryz.prog la_last ann_last (mkFr (maskA [] [.v (.pointer (some ⟨b, 0, none⟩))] 0) 14) Tryz.f55 (bodyOf Tryz.f55) (mkFr (List.map some [.v (.pointer (some ⟨b, 0, none⟩))]) 14) = vc_last π b := by kernel_rfl
theorem ok_last (b : Nat) (R : Value → PH → Prop) (s : PH) (h : vc_last (RP Tryz.prog R) b s) : DCalls Tryz.prog 55 (List.map AV.val [.v (.pointer (some ⟨b, 0, none⟩))]).toArray s R :=
  calls_vcL (c := bodyOf Tryz.f55) (ann := ann_last) la_last (by kernel_rfl) Tryz.func55 rfl (by kernel_rfl) [.v (.pointer (some ⟨b, 0, none⟩))] [] (by rw [Tryz.ntmps55]; exact Nat.le_of_ble_eq_true rfl) (by kernel_rfl) (by rw [show Tryz.f55.ntmps = 14 from Tryz.ntmps55, eq_last]; exact h)
/-- (*lintel/ballot.Ballot).clean -/
def vc_clean {W : Type} (π : Prims W) (b : Nat) : W :=
  π.call (55 : Nat) #[(Value.pointer (some (Addr.mk b (0 : Nat) none)))] (false, [(false, [.int .i64])]) fun (((x0 : Int), _), _) =>
  π.unSome (some (Addr.mk b (0 : Nat) none)) fun p1 =>
  π.st (p1.add (15 : Nat)) [(Value.bool (false))] <|
  π.unSome (some (Addr.mk b (0 : Nat) none)) fun p2 =>
  π.st (p2.add (16 : Nat)) [(Value.bool (false))] <|
  π.unSome (some (Addr.mk b (0 : Nat) none)) fun p3 =>
  π.st (p3.add (17 : Nat)) [(Value.int (IntKind.i64) (IntKind.i64.wrap (x0 + (1 : Int))))] <|
  π.ret (Value.tuple #[])
def ann_clean : Ann := { draws := [], join := [], loop := [] }
def la_clean : LA := { ptr := [], ty := [] }
set_option maxRecDepth 100000 in
theorem eq_clean {W : Type} (π : Prims W) (b : Nat) : bodyL π Tryz.prog la_clean ann_clean (mkFr (maskA [] [.v (.pointer (some ⟨b, 0, none⟩))] 0) 14) Tryz.f87 (bodyOf Tryz.f87) (mkFr (List.map some [.v (.pointer (some ⟨b, 0, none⟩))]) 14) = vc_clean π b := by kernel_rfl
theorem ok_clean (b : Nat) (R : Value → PH → Prop) (s : PH) (h : vc_clean (RP Tryz.prog R) b s) : DCalls Tryz.prog 87 (List.map AV.val [.v (.pointer (some ⟨b, 0, none⟩))]).toArray s R :=
  calls_vcL (c := bodyOf Tryz.f87) (ann := ann_clean) la_clean (by kernel_rfl) Tryz.func87 rfl (by kernel_rfl) [.v (.pointer (some ⟨b, 0, none⟩))] [] (by rw [Tryz.ntmps87]; exact Nat.le_of_ble_eq_true rfl) (by kernel_rfl) (by rw [show Tryz.f87.ntmps = 14 from Tryz.ntmps87, eq_clean]; exact h)
/-- lintel/ballot.New -/
def vc_bNew {W : Type} (π : Prims W) (id size : Int) : W :=
  π.ite (decide (size < (1 : Int))) (
    π.ret (Value.tuple #[(Value.pointer (none)), (Value.int (IntKind.i64) ((1 : Int)))])
  ) (
    π.ite (decide (size > (5 : Int))) (
      π.ret (Value.tuple #[(Value.pointer (none)), (Value.int (IntKind.i64) ((1 : Int)))])
    ) (
      π.ite (decide (id < (0 : Int))) (
        π.ret (Value.tuple #[(Value.pointer (none)), (Value.int (IntKind.i64) ((1 : Int)))])
      ) (
        π.ite (decide (id ≥ size)) (
          π.ret (Value.tuple #[(Value.pointer (none)), (Value.int (IntKind.i64) ((1 : Int)))])
        ) (
          π.nw (Obj.cells #[(Value.int (IntKind.i64) (id)), (Value.int (IntKind.i64) (size)), (Value.int (IntKind.i64) ((0 : Int))), (Value.int (IntKind.i64) ((-1 : Int))), (Value.int (IntKind.i64) ((0 : Int))), (Value.int (IntKind.i64) ((-1 : Int))), (Value.int (IntKind.i64) ((0 : Int))), (Value.int (IntKind.i64) ((0 : Int))), (Value.int (IntKind.i64) ((0 : Int))), (Value.int (IntKind.i64) ((0 : Int))), (Value.string (ByteArray.mk #[])), (Value.slice (none) ((0 : Nat)) ((0 : Nat))), (Value.slice (none) ((0 : Nat)) ((0 : Nat))), (Value.slice (none) ((0 : Nat)) ((0 : Nat))), (Value.slice (none) ((0 : Nat)) ((0 : Nat))), (Value.bool (false)), (Value.bool (false)), (Value.int (IntKind.i64) ((0 : Int)))] (101 : Nat) ((0 : Nat), (0 : Nat))) fun r0 =>
          π.call (87 : Nat) #[(Value.pointer (some (Addr.mk r0 (0 : Nat) none)))] (true, []) fun (_) =>
          π.ret (Value.tuple #[(Value.pointer (some (Addr.mk r0 (0 : Nat) none))), (Value.int (IntKind.i64) ((0 : Int)))])
        )
      )
    )
  )
def ann_bNew : Ann := { draws := [], join := [], loop := [] }
def la_bNew : LA := { ptr := [], ty := [] }
set_option maxRecDepth 100000 in
theorem eq_bNew {W : Type} (π : Prims W) (id size : Int) : bodyL π Tryz.prog la_bNew ann_bNew (mkFr (maskA [] [.v (.int .i64 id), .v (.int .i64 size)] 0) 30) Tryz.f86 (bodyOf Tryz.f86) (mkFr (List.map some [.v (.int .i64 id), .v (.int .i64 size)]) 30) = vc_bNew π id size := by kernel_rfl
theorem ok_bNew (id size : Int) (R : Value → PH → Prop) (s : PH) (h : vc_bNew (RP Tryz.prog R) id size s) : DCalls Tryz.prog 86 (List.map AV.val [.v (.int .i64 id), .v (.int .i64 size)]).toArray s R :=
  calls_vcL (c := bodyOf Tryz.f86) (ann := ann_bNew) la_bNew (by kernel_rfl) Tryz.func86 rfl (by kernel_rfl) [.v (.int .i64 id), .v (.int .i64 size)] [] (by rw [Tryz.ntmps86]; exact Nat.le_of_ble_eq_true rfl) (by kernel_rfl) (by rw [show Tryz.f86.ntmps = 30 from Tryz.ntmps86, eq_bNew]; exact h)
/-- slices.Clone[[]lintel/api.Entry,lintel/api.Entry] -/
def vc_Clone {W : Type} (π : Prims W) (a : Option Addr) (an ac : Nat) : W :=
  π.ite (a.isNone) (
    π.ret (Value.slice (none) ((0 : Nat)) ((0 : Nat)))
  ) (
    π.nw (Obj.cells #[] (43 : Nat) ((0 : Nat), (0 : Nat))) fun r0 =>
    π.app (43 : Nat) (4 : Nat) (40 : Nat) [(Value.int (IntKind.i64) ((0 : Int))), (Value.int (IntKind.i64) ((0 : Int))), (Value.int (IntKind.i64) ((0 : Int))), (Value.string (ByteArray.mk #[]))] (some (Addr.mk r0 (0 : Nat) none)) ((0 : Nat)) ((0 : Nat)) (Src.sl a an) fun a1 n2 c3 =>
    π.ret (Value.slice (a1) (n2) (c3))
  )
def ann_Clone : Ann := { draws := [], join := [], loop := [] }
def la_Clone : LA := { ptr := [], ty := [] }
set_option maxRecDepth 100000 in
theorem eq_Clone {W : Type} (π : Prims W) (a : Option Addr) (an ac : Nat) : bodyL π Tryz.prog la_Clone ann_Clone (mkFr (maskA [] [.v (.slice a an ac)] 0) 8) Tryz.f79 (bodyOf Tryz.f79) (mkFr (List.map some [.v (.slice a an ac)]) 8) = vc_Clone π a an ac := by kernel_rfl
theorem ok_Clone (a : Option Addr) (an ac : Nat) (R : Value → PH → Prop) (s : PH) (h : vc_Clone (RP Tryz.prog R) a an ac s) : DCalls Tryz.prog 79 (List.map AV.val [.v (.slice a an ac)]).toArray s R :=
  calls_vcL (c := bodyOf Tryz.f79) (ann := ann_Clone) la_Clone (by kernel_rfl) Tryz.func79 rfl (by kernel_rfl) [.v (.slice a an ac)] [] (by rw [Tryz.ntmps79]; exact Nat.le_of_ble_eq_true rfl) (by kernel_rfl) (by rw [show Tryz.f79.ntmps = 8 from Tryz.ntmps79, eq_Clone]; exact h)
/-- (*lintel/ballot.Ballot).Entry -/
def vc_Entry {W : Type} (π : Prims W) (b : Nat) (i : Int) : W :=
  π.nw (Obj.cells #[(Value.int (IntKind.i64) ((0 : Int))), (Value.int (IntKind.i64) ((0 : Int))), (Value.int (IntKind.i64) ((0 : Int))), (Value.string (ByteArray.mk #[]))] (43 : Nat) ((0 : Nat), (0 : Nat))) fun r0 =>
  π.ite ((some (Addr.mk b (0 : Nat) none)).isNone) (
    π.st (Addr.mk r0 (0 : Nat) none) [(Value.int (IntKind.i64) ((0 : Int))), (Value.int (IntKind.i64) ((0 : Int))), (Value.int (IntKind.i64) ((0 : Int))), (Value.string (ByteArray.mk #[]))] <|
    π.ld [.int .i64, .int .i64, .int .i64, .str] (Addr.mk r0 (0 : Nat) none) fun ((x1 : Int), (x2 : Int), (x3 : Int), (t4 : ByteArray), _) =>
    π.ret (Value.tuple #[(Value.agg #[(Value.int (IntKind.i64) (x1)), (Value.int (IntKind.i64) (x2)), (Value.int (IntKind.i64) (x3)), (Value.string (t4))]), (Value.bool (false))])
  ) (
    π.unSome (some (Addr.mk b (0 : Nat) none)) fun p5 =>
    π.ld [.int .i64] ((p5.add (2 : Nat)).add (4 : Nat)) fun ((x6 : Int), _) =>
    π.ite (decide (i ≤ x6)) (
      π.st (Addr.mk r0 (0 : Nat) none) [(Value.int (IntKind.i64) ((0 : Int))), (Value.int (IntKind.i64) ((0 : Int))), (Value.int (IntKind.i64) ((0 : Int))), (Value.string (ByteArray.mk #[]))] <|
      π.ld [.int .i64, .int .i64, .int .i64, .str] (Addr.mk r0 (0 : Nat) none) fun ((x7 : Int), (x8 : Int), (x9 : Int), (t10 : ByteArray), _) =>
      π.ret (Value.tuple #[(Value.agg #[(Value.int (IntKind.i64) (x7)), (Value.int (IntKind.i64) (x8)), (Value.int (IntKind.i64) (x9)), (Value.string (t10))]), (Value.bool (false))])
    ) (
      π.call (55 : Nat) #[(Value.pointer (some (Addr.mk b (0 : Nat) none)))] (false, [(false, [.int .i64])]) fun (((x11 : Int), _), _) =>
      π.ite (decide (i > x11)) (
        π.st (Addr.mk r0 (0 : Nat) none) [(Value.int (IntKind.i64) ((0 : Int))), (Value.int (IntKind.i64) ((0 : Int))), (Value.int (IntKind.i64) ((0 : Int))), (Value.string (ByteArray.mk #[]))] <|
        π.ld [.int .i64, .int .i64, .int .i64, .str] (Addr.mk r0 (0 : Nat) none) fun ((x12 : Int), (x13 : Int), (x14 : Int), (t15 : ByteArray), _) =>
        π.ret (Value.tuple #[(Value.agg #[(Value.int (IntKind.i64) (x12)), (Value.int (IntKind.i64) (x13)), (Value.int (IntKind.i64) (x14)), (Value.string (t15))]), (Value.bool (false))])
      ) (
        π.unSome (some (Addr.mk b (0 : Nat) none)) fun p16 =>
        π.ld [.slice] (p16.add (11 : Nat)) fun (((a17 : Option Addr), (n18 : Nat), (c19 : Nat)), _) =>
        π.unSome (some (Addr.mk b (0 : Nat) none)) fun p20 =>
        π.ld [.int .i64] ((p20.add (2 : Nat)).add (4 : Nat)) fun ((x21 : Int), _) =>
        π.guard ((0 : Int) ≤ IntKind.i64.wrap (IntKind.i64.wrap (i - x21) - (1 : Int)) ∧ IntKind.i64.wrap (IntKind.i64.wrap (i - x21) - (1 : Int)) < (↑n18 : Int)) <|
        π.unSome (a17) fun p22 =>
        π.ld [.int .i64, .int .i64, .int .i64, .str] (p22.add ((IntKind.i64.wrap (IntKind.i64.wrap (i - x21) - (1 : Int))).toNat * (4 : Nat))) fun ((x23 : Int), (x24 : Int), (x25 : Int), (t26 : ByteArray), _) =>
        π.st (Addr.mk r0 (0 : Nat) none) [(Value.int (IntKind.i64) (x23)), (Value.int (IntKind.i64) (x24)), (Value.int (IntKind.i64) (x25)), (Value.string (t26))] <|
        π.ld [.int .i64, .int .i64, .int .i64, .str] (Addr.mk r0 (0 : Nat) none) fun ((x27 : Int), (x28 : Int), (x29 : Int), (t30 : ByteArray), _) =>
        π.ret (Value.tuple #[(Value.agg #[(Value.int (IntKind.i64) (x27)), (Value.int (IntKind.i64) (x28)), (Value.int (IntKind.i64) (x29)), (Value.string (t30))]), (Value.bool (true))])
      )
    )
  )
def ann_Entry : Ann := { draws := [(3, { A := [0, 1, 2, 3, 4, 5, 6, 7, 8, 9, 10, 11, 12, 13], eag := [15] })], join := [], loop := [] }
def la_Entry : LA := { ptr := [], ty := [] }
set_option maxRecDepth 100000 in
theorem eq_Entry {W : Type} (π : Prims W) (b : Nat) (i : Int) : bodyL π Tryz.prog la_Entry ann_Entry (mkFr (maskA [] [.v (.pointer (some ⟨b, 0, none⟩)), .v (.int .i64 i)] 0) 38) Tryz.f35 (bodyOf Tryz.f35) (mkFr (List.map some [.v (.pointer (some ⟨b, 0, none⟩)), .v (.int .i64 i)]) 38) = vc_Entry π b i := by kernel_rfl
theorem ok_Entry (b : Nat) (i : Int) (R : Value → PH → Prop) (s : PH) (h : vc_Entry (RP Tryz.prog R) b i s) : DCalls Tryz.prog 35 (List.map AV.val [.v (.pointer (some ⟨b, 0, none⟩)), .v (.int .i64 i)]).toArray s R :=
  calls_vcL (c := bodyOf Tryz.f35) (ann := ann_Entry) la_Entry (by kernel_rfl) Tryz.func35 rfl (by kernel_rfl) [.v (.pointer (some ⟨b, 0, none⟩)), .v (.int .i64 i)] [] (by rw [Tryz.ntmps35]; exact Nat.le_of_ble_eq_true rfl) (by kernel_rfl) (by rw [show Tryz.f35.ntmps = 38 from Tryz.ntmps35, eq_Entry]; exact h)
/-- (*lintel/ballot.Ballot).term -/
def vc_term {W : Type} (π : Prims W) (b : Nat) (i : Int) : W :=
  π.unSome (some (Addr.mk b (0 : Nat) none)) fun p0 =>
  π.ld [.int .i64] ((p0.add (2 : Nat)).add (4 : Nat)) fun ((x1 : Int), _) =>
  π.ite (i == x1) (
    π.unSome (some (Addr.mk b (0 : Nat) none)) fun p2 =>
    π.ld [.int .i64] (p2.add (9 : Nat)) fun ((x3 : Int), _) =>
    π.ret (Value.tuple #[(Value.int (IntKind.i64) (x3)), (Value.bool (true))])
  ) (
    π.call (35 : Nat) #[(Value.pointer (some (Addr.mk b (0 : Nat) none))), (Value.int (IntKind.i64) (i))] (true, [(true, [.int .i64, .int .i64, .int .i64, .str]), (false, [.bool])]) fun (((x4 : Int), (x5 : Int), (x6 : Int), (t7 : ByteArray), _), ((b8 : Bool), _), _) =>
    π.nw (Obj.cells #[(Value.int (IntKind.i64) ((0 : Int))), (Value.int (IntKind.i64) ((0 : Int))), (Value.int (IntKind.i64) ((0 : Int))), (Value.string (ByteArray.mk #[]))] (43 : Nat) ((0 : Nat), (0 : Nat))) fun r9 =>
    π.st (Addr.mk r9 (0 : Nat) none) [(Value.int (IntKind.i64) (x4)), (Value.int (IntKind.i64) (x5)), (Value.int (IntKind.i64) (x6)), (Value.string (t7))] <|
    π.ld [.int .i64] ((Addr.mk r9 (0 : Nat) none).add (0 : Nat)) fun ((x10 : Int), _) =>
    π.ret (Value.tuple #[(Value.int (IntKind.i64) (x10)), (Value.bool (b8))])
  )
def ann_term : Ann := { draws := [], join := [], loop := [] }
def la_term : LA := { ptr := [], ty := [] }
set_option maxRecDepth 100000 in
theorem eq_term {W : Type} (π : Prims W) (b : Nat) (i : Int) : bodyL π Tryz.prog la_term ann_term (mkFr (maskA [] [.v (.pointer (some ⟨b, 0, none⟩)), .v (.int .i64 i)] 0) 28) Tryz.f77 (bodyOf Tryz.f77) (mkFr (List.map some [.v (.pointer (some ⟨b, 0, none⟩)), .v (.int .i64 i)]) 28) = vc_term π b i := by kernel_rfl
theorem ok_term (b : Nat) (i : Int) (R : Value → PH → Prop) (s : PH) (h : vc_term (RP Tryz.prog R) b i s) : DCalls Tryz.prog 77 (List.map AV.val [.v (.pointer (some ⟨b, 0, none⟩)), .v (.int .i64 i)]).toArray s R :=
  calls_vcL (c := bodyOf Tryz.f77) (ann := ann_term) la_term (by kernel_rfl) Tryz.func77 rfl (by kernel_rfl) [.v (.pointer (some ⟨b, 0, none⟩)), .v (.int .i64 i)] [] (by rw [Tryz.ntmps77]; exact Nat.le_of_ble_eq_true rfl) (by kernel_rfl) (by rw [show Tryz.f77.ntmps = 28 from Tryz.ntmps77, eq_term]; exact h)
/-- (*lintel/ballot.Ballot).set -/
def vc_set {W : Type} (π : Prims W) (b : Nat) (i : Int) (a : Option Addr) (an ac : Nat) : W :=
  π.unSome (some (Addr.mk b (0 : Nat) none)) fun p0 =>
  π.ld [.slice] (p0.add (11 : Nat)) fun (((a1 : Option Addr), (n2 : Nat), (c3 : Nat)), _) =>
  π.unSome (some (Addr.mk b (0 : Nat) none)) fun p4 =>
  π.ld [.int .i64] ((p4.add (2 : Nat)).add (4 : Nat)) fun ((x5 : Int), _) =>
  π.unSome (some (Addr.mk b (0 : Nat) none)) fun p6 =>
  π.ld [.int .i64] ((p6.add (2 : Nat)).add (4 : Nat)) fun ((x7 : Int), _) =>
  π.guard ((0 : Int) ≤ (0 : Int) ∧ (0 : Int) ≤ IntKind.i64.wrap (IntKind.i64.wrap (i - x5) - (1 : Int)) ∧ IntKind.i64.wrap (IntKind.i64.wrap (i - x5) - (1 : Int)) ≤ IntKind.i64.wrap (IntKind.i64.wrap (i - x7) - (1 : Int)) ∧ IntKind.i64.wrap (IntKind.i64.wrap (i - x7) - (1 : Int)) ≤ (↑c3 : Int)) <|
  π.app (43 : Nat) (4 : Nat) (40 : Nat) [(Value.int (IntKind.i64) ((0 : Int))), (Value.int (IntKind.i64) ((0 : Int))), (Value.int (IntKind.i64) ((0 : Int))), (Value.string (ByteArray.mk #[]))] (if (IntKind.i64.wrap (IntKind.i64.wrap (i - x7) - (1 : Int))).toNat = (0 : Nat) then a1 else Option.map (fun x => x.add (0 : Nat)) a1) ((IntKind.i64.wrap (IntKind.i64.wrap (i - x5) - (1 : Int))).toNat - (0 : Nat)) ((IntKind.i64.wrap (IntKind.i64.wrap (i - x7) - (1 : Int))).toNat - (0 : Nat)) (Src.sl a an) fun a8 n9 c10 =>
  π.unSome (some (Addr.mk b (0 : Nat) none)) fun p11 =>
  π.st (p11.add (11 : Nat)) [(Value.slice (a8) (n9) (c10))] <|
  π.unSome (some (Addr.mk b (0 : Nat) none)) fun p12 =>
  π.ld [.int .i64] (p12.add (17 : Nat)) fun ((x13 : Int), _) =>
  π.unSome (some (Addr.mk b (0 : Nat) none)) fun p14 =>
  π.st (p14.add (15 : Nat)) [(Value.bool (true))] <|
  π.unSome (some (Addr.mk b (0 : Nat) none)) fun p15 =>
  π.st (p15.add (17 : Nat)) [(Value.int (IntKind.i64) (if i < x13 then i else x13))] <|
  π.ret (Value.tuple #[])
def ann_set : Ann := { draws := [(0, { A := [0, 1, 2, 3, 4, 5, 6, 7, 8, 9, 10, 11, 12, 13, 14, 15, 16, 17, 18, 19, 20, 21, 22], eag := [24, 25] })], join := [], loop := [] }
def la_set : LA := { ptr := [], ty := [] }
set_option maxRecDepth 100000 in
theorem eq_set {W : Type} (π : Prims W) (b : Nat) (i : Int) (a : Option Addr) (an ac : Nat) : bodyL π Tryz.prog la_set ann_set (mkFr (maskA [] [.v (.pointer (some ⟨b, 0, none⟩)), .v (.int .i64 i), .v (.slice a an ac)] 0) 44) Tryz.f73 (bodyOf Tryz.f73) (mkFr (List.map some [.v (.pointer (some ⟨b, 0, none⟩)), .v (.int .i64 i), .v (.slice a an ac)]) 44) = vc_set π b i a an ac := by kernel_rfl
theorem ok_set (b : Nat) (i : Int) (a : Option Addr) (an ac : Nat) (R : Value → PH → Prop) (s : PH) (h : vc_set (RP Tryz.prog R) b i a an ac s) : DCalls Tryz.prog 73 (List.map AV.val [.v (.pointer (some ⟨b, 0, none⟩)), .v (.int .i64 i), .v (.slice a an ac)]).toArray s R :=
  calls_vcL (c := bodyOf Tryz.f73) (ann := ann_set) la_set (by kernel_rfl) Tryz.func73 rfl (by kernel_rfl) [.v (.pointer (some ⟨b, 0, none⟩)), .v (.int .i64 i), .v (.slice a an ac)] [] (by rw [Tryz.ntmps73]; exact Nat.le_of_ble_eq_true rfl) (by kernel_rfl) (by rw [show Tryz.f73.ntmps = 44 from Tryz.ntmps73, eq_set]; exact h)
/-- (*lintel/ballot.Ballot).turn -/
def vc_turn {W : Type} (π : Prims W) (b : Nat) (term vote role : Int) : W :=
  π.unSome (some (Addr.mk b (0 : Nat) none)) fun p0 =>
  π.st ((p0.add (2 : Nat)).add (0 : Nat)) [(Value.int (IntKind.i64) (term))] <|
  π.unSome (some (Addr.mk b (0 : Nat) none)) fun p1 =>
  π.st ((p1.add (2 : Nat)).add (1 : Nat)) [(Value.int (IntKind.i64) (vote))] <|
  π.unSome (some (Addr.mk b (0 : Nat) none)) fun p2 =>
  π.st ((p2.add (2 : Nat)).add (2 : Nat)) [(Value.int (IntKind.i64) (role))] <|
  π.unSome (some (Addr.mk b (0 : Nat) none)) fun p3 =>
  π.st ((p3.add (2 : Nat)).add (3 : Nat)) [(Value.int (IntKind.i64) ((-1 : Int)))] <|
  π.unSome (some (Addr.mk b (0 : Nat) none)) fun p4 =>
  π.st (p4.add (15 : Nat)) [(Value.bool (true))] <|
  π.ret (Value.tuple #[])
def ann_turn : Ann := { draws := [], join := [], loop := [] }
def la_turn : LA := { ptr := [], ty := [] }
set_option maxRecDepth 100000 in
theorem eq_turn {W : Type} (π : Prims W) (b : Nat) (term vote role : Int) : bodyL π Tryz.prog la_turn ann_turn (mkFr (maskA [] [.v (.pointer (some ⟨b, 0, none⟩)), .v (.int .i64 term), .v (.int .i64 vote), .v (.int .i64 role)] 0) 30) Tryz.f68 (bodyOf Tryz.f68) (mkFr (List.map some [.v (.pointer (some ⟨b, 0, none⟩)), .v (.int .i64 term), .v (.int .i64 vote), .v (.int .i64 role)]) 30) = vc_turn π b term vote role := by kernel_rfl
theorem ok_turn (b : Nat) (term vote role : Int) (R : Value → PH → Prop) (s : PH) (h : vc_turn (RP Tryz.prog R) b term vote role s) : DCalls Tryz.prog 68 (List.map AV.val [.v (.pointer (some ⟨b, 0, none⟩)), .v (.int .i64 term), .v (.int .i64 vote), .v (.int .i64 role)]).toArray s R :=
  calls_vcL (c := bodyOf Tryz.f68) (ann := ann_turn) la_turn (by kernel_rfl) Tryz.func68 rfl (by kernel_rfl) [.v (.pointer (some ⟨b, 0, none⟩)), .v (.int .i64 term), .v (.int .i64 vote), .v (.int .i64 role)] [] (by rw [Tryz.ntmps68]; exact Nat.le_of_ble_eq_true rfl) (by kernel_rfl) (by rw [show Tryz.f68.ntmps = 30 from Tryz.ntmps68, eq_turn]; exact h)
/-- (*lintel/ballot.Ballot).msg -/
def vc_msg {W : Type} (π : Prims W) (b : Nat) (kind to : Int) : W :=
  π.nw (Obj.cells #[(Value.int (IntKind.i64) ((0 : Int))), (Value.int (IntKind.i64) ((0 : Int))), (Value.int (IntKind.i64) ((0 : Int))), (Value.int (IntKind.i64) ((0 : Int))), (Value.int (IntKind.i64) ((0 : Int))), (Value.int (IntKind.i64) ((0 : Int))), (Value.int (IntKind.i64) ((0 : Int))), (Value.bool (false)), (Value.slice (none) ((0 : Nat)) ((0 : Nat))), (Value.string (ByteArray.mk #[]))] (119 : Nat) ((0 : Nat), (0 : Nat))) fun r0 =>
  π.unSome (some (Addr.mk b (0 : Nat) none)) fun p1 =>
  π.ld [.int .i64] (p1.add (0 : Nat)) fun ((x2 : Int), _) =>
  π.unSome (some (Addr.mk b (0 : Nat) none)) fun p3 =>
  π.ld [.int .i64] ((p3.add (2 : Nat)).add (0 : Nat)) fun ((x4 : Int), _) =>
  π.st (Addr.mk r0 (0 : Nat) none) [(Value.int (IntKind.i64) (kind)), (Value.int (IntKind.i64) (x2)), (Value.int (IntKind.i64) (to)), (Value.int (IntKind.i64) (x4)), (Value.int (IntKind.i64) ((0 : Int))), (Value.int (IntKind.i64) ((0 : Int))), (Value.int (IntKind.i64) ((0 : Int))), (Value.bool (false)), (Value.slice (none) ((0 : Nat)) ((0 : Nat))), (Value.string (ByteArray.mk #[]))] <|
  π.ld [.int .i64, .int .i64, .int .i64, .int .i64, .int .i64, .int .i64, .int .i64, .bool, .slice, .str] (Addr.mk r0 (0 : Nat) none) fun ((x5 : Int), (x6 : Int), (x7 : Int), (x8 : Int), (x9 : Int), (x10 : Int), (x11 : Int), (b12 : Bool), ((a13 : Option Addr), (n14 : Nat), (c15 : Nat)), (t16 : ByteArray), _) =>
  π.ret (Value.agg #[(Value.int (IntKind.i64) (x5)), (Value.int (IntKind.i64) (x6)), (Value.int (IntKind.i64) (x7)), (Value.int (IntKind.i64) (x8)), (Value.int (IntKind.i64) (x9)), (Value.int (IntKind.i64) (x10)), (Value.int (IntKind.i64) (x11)), (Value.bool (b12)), (Value.slice (a13) (n14) (c15)), (Value.string (t16))])
def ann_msg : Ann := { draws := [(1, { A := [0, 1, 2, 3, 4, 5, 6, 7, 8, 9, 10, 11] })], join := [], loop := [] }
def la_msg : LA := { ptr := [], ty := [] }
set_option maxRecDepth 100000 in
theorem eq_msg {W : Type} (π : Prims W) (b : Nat) (kind to : Int) : bodyL π Tryz.prog la_msg ann_msg (mkFr (maskA [] [.v (.pointer (some ⟨b, 0, none⟩)), .v (.int .i64 kind), .v (.int .i64 to)] 0) 19) Tryz.f91 (bodyOf Tryz.f91) (mkFr (List.map some [.v (.pointer (some ⟨b, 0, none⟩)), .v (.int .i64 kind), .v (.int .i64 to)]) 19) = vc_msg π b kind to := by kernel_rfl
theorem ok_msg (b : Nat) (kind to : Int) (R : Value → PH → Prop) (s : PH) (h : vc_msg (RP Tryz.prog R) b kind to s) : DCalls Tryz.prog 91 (List.map AV.val [.v (.pointer (some ⟨b, 0, none⟩)), .v (.int .i64 kind), .v (.int .i64 to)]).toArray s R :=
  calls_vcL (c := bodyOf Tryz.f91) (ann := ann_msg) la_msg (by kernel_rfl) Tryz.func91 rfl (by kernel_rfl) [.v (.pointer (some ⟨b, 0, none⟩)), .v (.int .i64 kind), .v (.int .i64 to)] [] (by rw [Tryz.ntmps91]; exact Nat.le_of_ble_eq_true rfl) (by kernel_rfl) (by rw [show Tryz.f91.ntmps = 19 from Tryz.ntmps91, eq_msg]; exact h)
/-- (*lintel/ballot.Ballot).ask -/
def vc_ask {W : Type} (π : Prims W) (b : Nat) (to : Int) : W :=
  π.nw (Obj.cells #[(Value.int (IntKind.i64) ((0 : Int))), (Value.int (IntKind.i64) ((0 : Int))), (Value.int (IntKind.i64) ((0 : Int))), (Value.int (IntKind.i64) ((0 : Int))), (Value.int (IntKind.i64) ((0 : Int))), (Value.int (IntKind.i64) ((0 : Int))), (Value.int (IntKind.i64) ((0 : Int))), (Value.bool (false)), (Value.slice (none) ((0 : Nat)) ((0 : Nat))), (Value.string (ByteArray.mk #[]))] (119 : Nat) ((0 : Nat), (0 : Nat))) fun r0 =>
  π.call (91 : Nat) #[(Value.pointer (some (Addr.mk b (0 : Nat) none))), (Value.int (IntKind.i64) ((1 : Int))), (Value.int (IntKind.i64) (to))] (false, [(true, [.int .i64, .int .i64, .int .i64, .int .i64, .int .i64, .int .i64, .int .i64, .bool, .slice, .str])]) fun (((x1 : Int), (x2 : Int), (x3 : Int), (x4 : Int), (x5 : Int), (x6 : Int), (x7 : Int), (b8 : Bool), ((a9 : Option Addr), (n10 : Nat), (c11 : Nat)), (t12 : ByteArray), _), _) =>
  π.nw (Obj.cells #[(Value.int (IntKind.i64) ((0 : Int))), (Value.int (IntKind.i64) ((0 : Int))), (Value.int (IntKind.i64) ((0 : Int))), (Value.int (IntKind.i64) ((0 : Int))), (Value.int (IntKind.i64) ((0 : Int))), (Value.int (IntKind.i64) ((0 : Int))), (Value.int (IntKind.i64) ((0 : Int))), (Value.bool (false)), (Value.slice (none) ((0 : Nat)) ((0 : Nat))), (Value.string (ByteArray.mk #[]))] (119 : Nat) ((0 : Nat), (0 : Nat))) fun r13 =>
  π.st (Addr.mk r13 (0 : Nat) none) [(Value.int (IntKind.i64) (x1)), (Value.int (IntKind.i64) (x2)), (Value.int (IntKind.i64) (x3)), (Value.int (IntKind.i64) (x4)), (Value.int (IntKind.i64) (x5)), (Value.int (IntKind.i64) (x6)), (Value.int (IntKind.i64) (x7)), (Value.bool (b8)), (Value.slice (a9) (n10) (c11)), (Value.string (t12))] <|
  π.call (55 : Nat) #[(Value.pointer (some (Addr.mk b (0 : Nat) none)))] (false, [(false, [.int .i64])]) fun (((x14 : Int), _), _) =>
  π.st ((Addr.mk r13 (0 : Nat) none).add (4 : Nat)) [(Value.int (IntKind.i64) (x14))] <|
  π.ld [.int .i64] ((Addr.mk r13 (0 : Nat) none).add (4 : Nat)) fun ((x15 : Int), _) =>
  π.call (77 : Nat) #[(Value.pointer (some (Addr.mk b (0 : Nat) none))), (Value.int (IntKind.i64) (x15))] (true, [(false, [.int .i64]), (false, [.bool])]) fun (((x16 : Int), _), ((b17 : Bool), _), _) =>
  π.st ((Addr.mk r13 (0 : Nat) none).add (5 : Nat)) [(Value.int (IntKind.i64) (x16))] <|
  π.ld [.int .i64, .int .i64, .int .i64, .int .i64, .int .i64, .int .i64, .int .i64, .bool, .slice, .str] (Addr.mk r13 (0 : Nat) none) fun ((x18 : Int), (x19 : Int), (x20 : Int), (x21 : Int), (x22 : Int), (x23 : Int), (x24 : Int), (b25 : Bool), ((a26 : Option Addr), (n27 : Nat), (c28 : Nat)), (t29 : ByteArray), _) =>
  π.st (Addr.mk r0 (0 : Nat) none) [(Value.int (IntKind.i64) (x18)), (Value.int (IntKind.i64) (x19)), (Value.int (IntKind.i64) (x20)), (Value.int (IntKind.i64) (x21)), (Value.int (IntKind.i64) (x22)), (Value.int (IntKind.i64) (x23)), (Value.int (IntKind.i64) (x24)), (Value.bool (b25)), (Value.slice (a26) (n27) (c28)), (Value.string (t29))] <|
  π.ld [.int .i64, .int .i64, .int .i64, .int .i64, .int .i64, .int .i64, .int .i64, .bool, .slice, .str] (Addr.mk r0 (0 : Nat) none) fun ((x30 : Int), (x31 : Int), (x32 : Int), (x33 : Int), (x34 : Int), (x35 : Int), (x36 : Int), (b37 : Bool), ((a38 : Option Addr), (n39 : Nat), (c40 : Nat)), (t41 : ByteArray), _) =>
  π.ret (Value.agg #[(Value.int (IntKind.i64) (x30)), (Value.int (IntKind.i64) (x31)), (Value.int (IntKind.i64) (x32)), (Value.int (IntKind.i64) (x33)), (Value.int (IntKind.i64) (x34)), (Value.int (IntKind.i64) (x35)), (Value.int (IntKind.i64) (x36)), (Value.bool (b37)), (Value.slice (a38) (n39) (c40)), (Value.string (t41))])
def ann_ask : Ann := { draws := [], join := [], loop := [] }
def la_ask : LA := { ptr := [], ty := [] }
set_option maxRecDepth 100000 in
theorem eq_ask {W : Type} (π : Prims W) (b : Nat) (to : Int) : bodyL π Tryz.prog la_ask ann_ask (mkFr (maskA [] [.v (.pointer (some ⟨b, 0, none⟩)), .v (.int .i64 to)] 0) 21) Tryz.f70 (bodyOf Tryz.f70) (mkFr (List.map some [.v (.pointer (some ⟨b, 0, none⟩)), .v (.int .i64 to)]) 21) = vc_ask π b to := by kernel_rfl
theorem ok_ask (b : Nat) (to : Int) (R : Value → PH → Prop) (s : PH) (h : vc_ask (RP Tryz.prog R) b to s) : DCalls Tryz.prog 70 (List.map AV.val [.v (.pointer (some ⟨b, 0, none⟩)), .v (.int .i64 to)]).toArray s R :=
  calls_vcL (c := bodyOf Tryz.f70) (ann := ann_ask) la_ask (by kernel_rfl) Tryz.func70 rfl (by kernel_rfl) [.v (.pointer (some ⟨b, 0, none⟩)), .v (.int .i64 to)] [] (by rw [Tryz.ntmps70]; exact Nat.le_of_ble_eq_true rfl) (by kernel_rfl) (by rw [show Tryz.f70.ntmps = 21 from Tryz.ntmps70, eq_ask]; exact h)
/-- (*lintel/ballot.Ballot).feed -/
def vc_feed {W : Type} (π : Prims W) (b : Nat) (to : Int) : W :=
  π.nw (Obj.cells #[(Value.int (IntKind.i64) ((0 : Int))), (Value.int (IntKind.i64) ((0 : Int))), (Value.int (IntKind.i64) ((0 : Int))), (Value.int (IntKind.i64) ((0 : Int))), (Value.int (IntKind.i64) ((0 : Int))), (Value.int (IntKind.i64) ((0 : Int))), (Value.int (IntKind.i64) ((0 : Int))), (Value.bool (false)), (Value.slice (none) ((0 : Nat)) ((0 : Nat))), (Value.string (ByteArray.mk #[]))] (119 : Nat) ((0 : Nat), (0 : Nat))) fun r0 =>
  π.unSome (some (Addr.mk b (0 : Nat) none)) fun p1 =>
  π.ld [.slice] (p1.add (13 : Nat)) fun (((a2 : Option Addr), (n3 : Nat), (c4 : Nat)), _) =>
  π.guard ((0 : Int) ≤ to ∧ to < (↑n3 : Int)) <|
  π.unSome (a2) fun p5 =>
  π.ld [.int .i64] (p5.add (to.toNat * (1 : Nat))) fun ((x6 : Int), _) =>
  π.unSome (some (Addr.mk b (0 : Nat) none)) fun p7 =>
  π.ld [.int .i64] ((p7.add (2 : Nat)).add (4 : Nat)) fun ((x8 : Int), _) =>
  π.ite (decide (x6 ≤ x8)) (
    π.call (91 : Nat) #[(Value.pointer (some (Addr.mk b (0 : Nat) none))), (Value.int (IntKind.i64) ((5 : Int))), (Value.int (IntKind.i64) (to))] (false, [(true, [.int .i64, .int .i64, .int .i64, .int .i64, .int .i64, .int .i64, .int .i64, .bool, .slice, .str])]) fun (((x9 : Int), (x10 : Int), (x11 : Int), (x12 : Int), (x13 : Int), (x14 : Int), (x15 : Int), (b16 : Bool), ((a17 : Option Addr), (n18 : Nat), (c19 : Nat)), (t20 : ByteArray), _), _) =>
    π.nw (Obj.cells #[(Value.int (IntKind.i64) ((0 : Int))), (Value.int (IntKind.i64) ((0 : Int))), (Value.int (IntKind.i64) ((0 : Int))), (Value.int (IntKind.i64) ((0 : Int))), (Value.int (IntKind.i64) ((0 : Int))), (Value.int (IntKind.i64) ((0 : Int))), (Value.int (IntKind.i64) ((0 : Int))), (Value.bool (false)), (Value.slice (none) ((0 : Nat)) ((0 : Nat))), (Value.string (ByteArray.mk #[]))] (119 : Nat) ((0 : Nat), (0 : Nat))) fun r21 =>
    π.st (Addr.mk r21 (0 : Nat) none) [(Value.int (IntKind.i64) (x9)), (Value.int (IntKind.i64) (x10)), (Value.int (IntKind.i64) (x11)), (Value.int (IntKind.i64) (x12)), (Value.int (IntKind.i64) (x13)), (Value.int (IntKind.i64) (x14)), (Value.int (IntKind.i64) (x15)), (Value.bool (b16)), (Value.slice (a17) (n18) (c19)), (Value.string (t20))] <|
    π.unSome (some (Addr.mk b (0 : Nat) none)) fun p22 =>
    π.ld [.int .i64] ((p22.add (2 : Nat)).add (4 : Nat)) fun ((x23 : Int), _) =>
    π.unSome (some (Addr.mk b (0 : Nat) none)) fun p24 =>
    π.ld [.int .i64] (p24.add (9 : Nat)) fun ((x25 : Int), _) =>
    π.unSome (some (Addr.mk b (0 : Nat) none)) fun p26 =>
    π.ld [.str] (p26.add (10 : Nat)) fun ((t27 : ByteArray), _) =>
    π.st ((Addr.mk r21 (0 : Nat) none).add (4 : Nat)) [(Value.int (IntKind.i64) (x23))] <|
    π.still [.int .i64] (p24.add (9 : Nat)) (x25, ()) <|
    π.still [.str] (p26.add (10 : Nat)) (t27, ()) <|
    π.st ((Addr.mk r21 (0 : Nat) none).add (5 : Nat)) [(Value.int (IntKind.i64) (x25))] <|
    π.still [.str] (p26.add (10 : Nat)) (t27, ()) <|
    π.st ((Addr.mk r21 (0 : Nat) none).add (9 : Nat)) [(Value.string (t27))] <|
    π.ld [.int .i64, .int .i64, .int .i64, .int .i64, .int .i64, .int .i64, .int .i64, .bool, .slice, .str] (Addr.mk r21 (0 : Nat) none) fun ((x28 : Int), (x29 : Int), (x30 : Int), (x31 : Int), (x32 : Int), (x33 : Int), (x34 : Int), (b35 : Bool), ((a36 : Option Addr), (n37 : Nat), (c38 : Nat)), (t39 : ByteArray), _) =>
    π.st (Addr.mk r0 (0 : Nat) none) [(Value.int (IntKind.i64) (x28)), (Value.int (IntKind.i64) (x29)), (Value.int (IntKind.i64) (x30)), (Value.int (IntKind.i64) (x31)), (Value.int (IntKind.i64) (x32)), (Value.int (IntKind.i64) (x33)), (Value.int (IntKind.i64) (x34)), (Value.bool (b35)), (Value.slice (a36) (n37) (c38)), (Value.string (t39))] <|
    π.ld [.int .i64, .int .i64, .int .i64, .int .i64, .int .i64, .int .i64, .int .i64, .bool, .slice, .str] (Addr.mk r0 (0 : Nat) none) fun ((x40 : Int), (x41 : Int), (x42 : Int), (x43 : Int), (x44 : Int), (x45 : Int), (x46 : Int), (b47 : Bool), ((a48 : Option Addr), (n49 : Nat), (c50 : Nat)), (t51 : ByteArray), _) =>
    π.ret (Value.agg #[(Value.int (IntKind.i64) (x40)), (Value.int (IntKind.i64) (x41)), (Value.int (IntKind.i64) (x42)), (Value.int (IntKind.i64) (x43)), (Value.int (IntKind.i64) (x44)), (Value.int (IntKind.i64) (x45)), (Value.int (IntKind.i64) (x46)), (Value.bool (b47)), (Value.slice (a48) (n49) (c50)), (Value.string (t51))])
  ) (
    π.call (91 : Nat) #[(Value.pointer (some (Addr.mk b (0 : Nat) none))), (Value.int (IntKind.i64) ((3 : Int))), (Value.int (IntKind.i64) (to))] (false, [(true, [.int .i64, .int .i64, .int .i64, .int .i64, .int .i64, .int .i64, .int .i64, .bool, .slice, .str])]) fun (((x52 : Int), (x53 : Int), (x54 : Int), (x55 : Int), (x56 : Int), (x57 : Int), (x58 : Int), (b59 : Bool), ((a60 : Option Addr), (n61 : Nat), (c62 : Nat)), (t63 : ByteArray), _), _) =>
    π.nw (Obj.cells #[(Value.int (IntKind.i64) ((0 : Int))), (Value.int (IntKind.i64) ((0 : Int))), (Value.int (IntKind.i64) ((0 : Int))), (Value.int (IntKind.i64) ((0 : Int))), (Value.int (IntKind.i64) ((0 : Int))), (Value.int (IntKind.i64) ((0 : Int))), (Value.int (IntKind.i64) ((0 : Int))), (Value.bool (false)), (Value.slice (none) ((0 : Nat)) ((0 : Nat))), (Value.string (ByteArray.mk #[]))] (119 : Nat) ((0 : Nat), (0 : Nat))) fun r64 =>
    π.st (Addr.mk r64 (0 : Nat) none) [(Value.int (IntKind.i64) (x52)), (Value.int (IntKind.i64) (x53)), (Value.int (IntKind.i64) (x54)), (Value.int (IntKind.i64) (x55)), (Value.int (IntKind.i64) (x56)), (Value.int (IntKind.i64) (x57)), (Value.int (IntKind.i64) (x58)), (Value.bool (b59)), (Value.slice (a60) (n61) (c62)), (Value.string (t63))] <|
    π.unSome (some (Addr.mk b (0 : Nat) none)) fun p65 =>
    π.ld [.int .i64] ((p65.add (2 : Nat)).add (6 : Nat)) fun ((x66 : Int), _) =>
    π.st ((Addr.mk r64 (0 : Nat) none).add (4 : Nat)) [(Value.int (IntKind.i64) (IntKind.i64.wrap (x6 - (1 : Int))))] <|
    π.still [.int .i64] ((p65.add (2 : Nat)).add (6 : Nat)) (x66, ()) <|
    π.st ((Addr.mk r64 (0 : Nat) none).add (6 : Nat)) [(Value.int (IntKind.i64) (x66))] <|
    π.call (77 : Nat) #[(Value.pointer (some (Addr.mk b (0 : Nat) none))), (Value.int (IntKind.i64) (IntKind.i64.wrap (x6 - (1 : Int))))] (true, [(false, [.int .i64]), (false, [.bool])]) fun (((x67 : Int), _), ((b68 : Bool), _), _) =>
    π.st ((Addr.mk r64 (0 : Nat) none).add (5 : Nat)) [(Value.int (IntKind.i64) (x67))] <|
    π.unSome (some (Addr.mk b (0 : Nat) none)) fun p69 =>
    π.ld [.slice] (p69.add (11 : Nat)) fun (((a70 : Option Addr), (n71 : Nat), (c72 : Nat)), _) =>
    π.unSome (some (Addr.mk b (0 : Nat) none)) fun p73 =>
    π.ld [.int .i64] ((p73.add (2 : Nat)).add (4 : Nat)) fun ((x74 : Int), _) =>
    π.guard ((0 : Int) ≤ IntKind.i64.wrap (IntKind.i64.wrap (x6 - x74) - (1 : Int)) ∧ IntKind.i64.wrap (IntKind.i64.wrap (x6 - x74) - (1 : Int)) ≤ (↑n71 : Int) ∧ (↑n71 : Int) ≤ (↑c72 : Int)) <|
    π.guard ((0 : Int) ≤ (0 : Int) ∧ ((0 : Int) ≤ if (8 : Int) < (↑((↑n71 : Int).toNat - (IntKind.i64.wrap (IntKind.i64.wrap (x6 - x74) - (1 : Int))).toNat) : Int) then (8 : Int) else (↑((↑n71 : Int).toNat - (IntKind.i64.wrap (IntKind.i64.wrap (x6 - x74) - (1 : Int))).toNat) : Int)) ∧ (if (8 : Int) < (↑((↑n71 : Int).toNat - (IntKind.i64.wrap (IntKind.i64.wrap (x6 - x74) - (1 : Int))).toNat) : Int) then (8 : Int) else (↑((↑n71 : Int).toNat - (IntKind.i64.wrap (IntKind.i64.wrap (x6 - x74) - (1 : Int))).toNat) : Int)) ≤ (↑(c72 - (IntKind.i64.wrap (IntKind.i64.wrap (x6 - x74) - (1 : Int))).toNat) : Int)) <|
    π.call (79 : Nat) #[(Value.slice (if c72 - (IntKind.i64.wrap (IntKind.i64.wrap (x6 - x74) - (1 : Int))).toNat = (0 : Nat) then if c72 = (IntKind.i64.wrap (IntKind.i64.wrap (x6 - x74) - (1 : Int))).toNat then a70 else Option.map (fun x => x.add ((IntKind.i64.wrap (IntKind.i64.wrap (x6 - x74) - (1 : Int))).toNat * (4 : Nat))) a70 else Option.map (fun x => x.add (0 : Nat)) (if c72 = (IntKind.i64.wrap (IntKind.i64.wrap (x6 - x74) - (1 : Int))).toNat then a70 else Option.map (fun x => x.add ((IntKind.i64.wrap (IntKind.i64.wrap (x6 - x74) - (1 : Int))).toNat * (4 : Nat))) a70)) ((if (8 : Int) < (↑((↑n71 : Int).toNat - (IntKind.i64.wrap (IntKind.i64.wrap (x6 - x74) - (1 : Int))).toNat) : Int) then (8 : Int) else (↑((↑n71 : Int).toNat - (IntKind.i64.wrap (IntKind.i64.wrap (x6 - x74) - (1 : Int))).toNat) : Int)).toNat - (0 : Nat)) (c72 - (IntKind.i64.wrap (IntKind.i64.wrap (x6 - x74) - (1 : Int))).toNat - (0 : Nat)))] (false, [(false, [.slice])]) fun ((((a75 : Option Addr), (n76 : Nat), (c77 : Nat)), _), _) =>
    π.st ((Addr.mk r64 (0 : Nat) none).add (8 : Nat)) [(Value.slice (a75) (n76) (c77))] <|
    π.ld [.int .i64, .int .i64, .int .i64, .int .i64, .int .i64, .int .i64, .int .i64, .bool, .slice, .str] (Addr.mk r64 (0 : Nat) none) fun ((x78 : Int), (x79 : Int), (x80 : Int), (x81 : Int), (x82 : Int), (x83 : Int), (x84 : Int), (b85 : Bool), ((a86 : Option Addr), (n87 : Nat), (c88 : Nat)), (t89 : ByteArray), _) =>
    π.st (Addr.mk r0 (0 : Nat) none) [(Value.int (IntKind.i64) (x78)), (Value.int (IntKind.i64) (x79)), (Value.int (IntKind.i64) (x80)), (Value.int (IntKind.i64) (x81)), (Value.int (IntKind.i64) (x82)), (Value.int (IntKind.i64) (x83)), (Value.int (IntKind.i64) (x84)), (Value.bool (b85)), (Value.slice (a86) (n87) (c88)), (Value.string (t89))] <|
    π.ld [.int .i64, .int .i64, .int .i64, .int .i64, .int .i64, .int .i64, .int .i64, .bool, .slice, .str] (Addr.mk r0 (0 : Nat) none) fun ((x90 : Int), (x91 : Int), (x92 : Int), (x93 : Int), (x94 : Int), (x95 : Int), (x96 : Int), (b97 : Bool), ((a98 : Option Addr), (n99 : Nat), (c100 : Nat)), (t101 : ByteArray), _) =>
    π.ret (Value.agg #[(Value.int (IntKind.i64) (x90)), (Value.int (IntKind.i64) (x91)), (Value.int (IntKind.i64) (x92)), (Value.int (IntKind.i64) (x93)), (Value.int (IntKind.i64) (x94)), (Value.int (IntKind.i64) (x95)), (Value.int (IntKind.i64) (x96)), (Value.bool (b97)), (Value.slice (a98) (n99) (c100)), (Value.string (t101))])
  )
def ann_feed : Ann := { draws := [(4, { A := [0, 1, 2, 3, 4, 5, 6, 7, 8, 9, 10, 11, 12, 13], chkL := [(14, [8, 12]), (16, [12])], eag := [15, 17] }), (7, { A := [0, 1, 2, 3, 4, 5, 6, 7], chkL := [(8, [6])], eag := [9] }), (9, { A := [0, 1, 2, 3, 4, 5, 6, 7, 8, 9, 10, 11, 12, 13] })], join := [], loop := [] }
def la_feed : LA := { ptr := [], ty := [] }
set_option maxRecDepth 100000 in
theorem eq_feed {W : Type} (π : Prims W) (b : Nat) (to : Int) : bodyL π Tryz.prog la_feed ann_feed (mkFr (maskA [] [.v (.pointer (some ⟨b, 0, none⟩)), .v (.int .i64 to)] 0) 84) Tryz.f72 (bodyOf Tryz.f72) (mkFr (List.map some [.v (.pointer (some ⟨b, 0, none⟩)), .v (.int .i64 to)]) 84) = vc_feed π b to := by kernel_rfl
theorem ok_feed (b : Nat) (to : Int) (R : Value → PH → Prop) (s : PH) (h : vc_feed (RP Tryz.prog R) b to s) : DCalls Tryz.prog 72 (List.map AV.val [.v (.pointer (some ⟨b, 0, none⟩)), .v (.int .i64 to)]).toArray s R :=
  calls_vcL (c := bodyOf Tryz.f72) (ann := ann_feed) la_feed (by kernel_rfl) Tryz.func72 rfl (by kernel_rfl) [.v (.pointer (some ⟨b, 0, none⟩)), .v (.int .i64 to)] [] (by rw [Tryz.ntmps72]; exact Nat.le_of_ble_eq_true rfl) (by kernel_rfl) (by rw [show Tryz.f72.ntmps = 84 from Tryz.ntmps72, eq_feed]; exact h)
/-- (*lintel/ballot.Ballot).others -/
def vc_othersAsk {W : Type} (π : Prims W) (b : Nat) : W :=
  π.unSome (some (Addr.mk b (0 : Nat) none)) fun p0 =>
  π.ld [.int .i64] (p0.add (1 : Nat)) fun ((x1 : Int), _) =>
  π.loop [(false, [.slice]), (false, [.int .i64]), (false, [.int .i64])] (((none, (0 : Nat), (0 : Nat)), ()), (x1, ()), ((0 : Int), ()), ()) fun ((((a3 : Option Addr), (n4 : Nat), (c5 : Nat)), _), ((x6 : Int), _), ((x7 : Int), _), _) again2 =>
    π.ite (decide (x7 < x6)) (
      π.unSome (some (Addr.mk b (0 : Nat) none)) fun p8 =>
      π.ld [.int .i64] (p8.add (0 : Nat)) fun ((x9 : Int), _) =>
      π.ite (x7 != x9) (
        π.call (70 : Nat) #[(Value.pointer (some (Addr.mk b (0 : Nat) none))), (Value.int (IntKind.i64) (x7))] (false, [(true, [.int .i64, .int .i64, .int .i64, .int .i64, .int .i64, .int .i64, .int .i64, .bool, .slice, .str])]) fun (((x10 : Int), (x11 : Int), (x12 : Int), (x13 : Int), (x14 : Int), (x15 : Int), (x16 : Int), (b17 : Bool), ((a18 : Option Addr), (n19 : Nat), (c20 : Nat)), (t21 : ByteArray), _), _) =>
        π.nw (Obj.cells #[(Value.int (IntKind.i64) (x10)), (Value.int (IntKind.i64) (x11)), (Value.int (IntKind.i64) (x12)), (Value.int (IntKind.i64) (x13)), (Value.int (IntKind.i64) (x14)), (Value.int (IntKind.i64) (x15)), (Value.int (IntKind.i64) (x16)), (Value.bool (b17)), (Value.slice (a18) (n19) (c20)), (Value.string (t21))] (119 : Nat) ((0 : Nat), (0 : Nat))) fun r22 =>
        π.app (119 : Nat) (10 : Nat) (104 : Nat) [(Value.int (IntKind.i64) ((0 : Int))), (Value.int (IntKind.i64) ((0 : Int))), (Value.int (IntKind.i64) ((0 : Int))), (Value.int (IntKind.i64) ((0 : Int))), (Value.int (IntKind.i64) ((0 : Int))), (Value.int (IntKind.i64) ((0 : Int))), (Value.int (IntKind.i64) ((0 : Int))), (Value.bool (false)), (Value.slice (none) ((0 : Nat)) ((0 : Nat))), (Value.string (ByteArray.mk #[]))] (a3) (n4) (c5) (Src.sl (some (Addr.mk r22 (0 : Nat) none)) (1 : Nat)) fun a23 n24 c25 =>
        again2 (((a23, n24, c25), ()), (x6, ()), (IntKind.i64.wrap (x7 + (1 : Int)), ()), ())
      ) (
        again2 (((a3, n4, c5), ()), (x6, ()), (IntKind.i64.wrap (x7 + (1 : Int)), ()), ())
      )
    ) (
      π.ret (Value.slice (a3) (n4) (c5))
    )
def ann_othersAsk : Ann := { draws := [], join := [], loop := [(3, [(5, 86), (10, 3), (11, 3)])] }
def la_othersAsk : LA := { ptr := [], ty := [] }
set_option maxRecDepth 100000 in
theorem eq_othersAsk {W : Type} (π : Prims W) (b : Nat) : bodyL π Tryz.prog la_othersAsk ann_othersAsk (mkFr (maskA [] [.v (.pointer (some ⟨b, 0, none⟩)), .v (.func (.func 70) #[.pointer (some ⟨b, 0, none⟩)] #[])] 0) 28) Tryz.f69 (bodyOf Tryz.f69) (mkFr (List.map some [.v (.pointer (some ⟨b, 0, none⟩)), .v (.func (.func 70) #[.pointer (some ⟨b, 0, none⟩)] #[])]) 28) = vc_othersAsk π b := by kernel_rfl
theorem ok_othersAsk (b : Nat) (R : Value → PH → Prop) (s : PH) (h : vc_othersAsk (RP Tryz.prog R) b s) : DCalls Tryz.prog 69 (List.map AV.val [.v (.pointer (some ⟨b, 0, none⟩)), .v (.func (.func 70) #[.pointer (some ⟨b, 0, none⟩)] #[])]).toArray s R :=
  calls_vcL (c := bodyOf Tryz.f69) (ann := ann_othersAsk) la_othersAsk (by kernel_rfl) Tryz.func69 rfl (by kernel_rfl) [.v (.pointer (some ⟨b, 0, none⟩)), .v (.func (.func 70) #[.pointer (some ⟨b, 0, none⟩)] #[])] [] (by rw [Tryz.ntmps69]; exact Nat.le_of_ble_eq_true rfl) (by kernel_rfl) (by rw [show Tryz.f69.ntmps = 28 from Tryz.ntmps69, eq_othersAsk]; exact h)
/-- (*lintel/ballot.Ballot).others -/
def vc_othersFeed {W : Type} (π : Prims W) (b : Nat) : W :=
  π.unSome (some (Addr.mk b (0 : Nat) none)) fun p0 =>
  π.ld [.int .i64] (p0.add (1 : Nat)) fun ((x1 : Int), _) =>
  π.loop [(false, [.slice]), (false, [.int .i64]), (false, [.int .i64])] (((none, (0 : Nat), (0 : Nat)), ()), (x1, ()), ((0 : Int), ()), ()) fun ((((a3 : Option Addr), (n4 : Nat), (c5 : Nat)), _), ((x6 : Int), _), ((x7 : Int), _), _) again2 =>
    π.ite (decide (x7 < x6)) (
      π.unSome (some (Addr.mk b (0 : Nat) none)) fun p8 =>
      π.ld [.int .i64] (p8.add (0 : Nat)) fun ((x9 : Int), _) =>
      π.ite (x7 != x9) (
        π.call (72 : Nat) #[(Value.pointer (some (Addr.mk b (0 : Nat) none))), (Value.int (IntKind.i64) (x7))] (false, [(true, [.int .i64, .int .i64, .int .i64, .int .i64, .int .i64, .int .i64, .int .i64, .bool, .slice, .str])]) fun (((x10 : Int), (x11 : Int), (x12 : Int), (x13 : Int), (x14 : Int), (x15 : Int), (x16 : Int), (b17 : Bool), ((a18 : Option Addr), (n19 : Nat), (c20 : Nat)), (t21 : ByteArray), _), _) =>
        π.nw (Obj.cells #[(Value.int (IntKind.i64) (x10)), (Value.int (IntKind.i64) (x11)), (Value.int (IntKind.i64) (x12)), (Value.int (IntKind.i64) (x13)), (Value.int (IntKind.i64) (x14)), (Value.int (IntKind.i64) (x15)), (Value.int (IntKind.i64) (x16)), (Value.bool (b17)), (Value.slice (a18) (n19) (c20)), (Value.string (t21))] (119 : Nat) ((0 : Nat), (0 : Nat))) fun r22 =>
        π.app (119 : Nat) (10 : Nat) (104 : Nat) [(Value.int (IntKind.i64) ((0 : Int))), (Value.int (IntKind.i64) ((0 : Int))), (Value.int (IntKind.i64) ((0 : Int))), (Value.int (IntKind.i64) ((0 : Int))), (Value.int (IntKind.i64) ((0 : Int))), (Value.int (IntKind.i64) ((0 : Int))), (Value.int (IntKind.i64) ((0 : Int))), (Value.bool (false)), (Value.slice (none) ((0 : Nat)) ((0 : Nat))), (Value.string (ByteArray.mk #[]))] (a3) (n4) (c5) (Src.sl (some (Addr.mk r22 (0 : Nat) none)) (1 : Nat)) fun a23 n24 c25 =>
        again2 (((a23, n24, c25), ()), (x6, ()), (IntKind.i64.wrap (x7 + (1 : Int)), ()), ())
      ) (
        again2 (((a3, n4, c5), ()), (x6, ()), (IntKind.i64.wrap (x7 + (1 : Int)), ()), ())
      )
    ) (
      π.ret (Value.slice (a3) (n4) (c5))
    )
def ann_othersFeed : Ann := { draws := [], join := [], loop := [(3, [(5, 86), (10, 3), (11, 3)])] }
def la_othersFeed : LA := { ptr := [], ty := [] }
set_option maxRecDepth 100000 in
theorem eq_othersFeed {W : Type} (π : Prims W) (b : Nat) : bodyL π Tryz.prog la_othersFeed ann_othersFeed (mkFr (maskA [] [.v (.pointer (some ⟨b, 0, none⟩)), .v (.func (.func 72) #[.pointer (some ⟨b, 0, none⟩)] #[])] 0) 28) Tryz.f69 (bodyOf Tryz.f69) (mkFr (List.map some [.v (.pointer (some ⟨b, 0, none⟩)), .v (.func (.func 72) #[.pointer (some ⟨b, 0, none⟩)] #[])]) 28) = vc_othersFeed π b := by kernel_rfl
theorem ok_othersFeed (b : Nat) (R : Value → PH → Prop) (s : PH) (h : vc_othersFeed (RP Tryz.prog R) b s) : DCalls Tryz.prog 69 (List.map AV.val [.v (.pointer (some ⟨b, 0, none⟩)), .v (.func (.func 72) #[.pointer (some ⟨b, 0, none⟩)] #[])]).toArray s R :=
  calls_vcL (c := bodyOf Tryz.f69) (ann := ann_othersFeed) la_othersFeed (by kernel_rfl) Tryz.func69 rfl (by kernel_rfl) [.v (.pointer (some ⟨b, 0, none⟩)), .v (.func (.func 72) #[.pointer (some ⟨b, 0, none⟩)] #[])] [] (by rw [Tryz.ntmps69]; exact Nat.le_of_ble_eq_true rfl) (by kernel_rfl) (by rw [show Tryz.f69.ntmps = 28 from Tryz.ntmps69, eq_othersFeed]; exact h)
/-- (*lintel/ballot.Ballot).settle -/
def vc_settle {W : Type} (π : Prims W) (b : Nat) : W :=
  π.call (55 : Nat) #[(Value.pointer (some (Addr.mk b (0 : Nat) none)))] (false, [(false, [.int .i64])]) fun (((x0 : Int), _), _) =>
  π.loop [(false, [.int .i64])] ((x0, ()), ()) fun (((x2 : Int), _), _) again1 =>
    π.unSome (some (Addr.mk b (0 : Nat) none)) fun p3 =>
    π.ld [.int .i64] ((p3.add (2 : Nat)).add (6 : Nat)) fun ((x4 : Int), _) =>
    π.ite (decide (x2 > x4)) (
      π.unSome (some (Addr.mk b (0 : Nat) none)) fun p5 =>
      π.ld [.slice] (p5.add (14 : Nat)) fun (((a6 : Option Addr), (n7 : Nat), (c8 : Nat)), _) =>
      π.loop [(false, [.int .i64]), (false, [.int .i64]), (false, [.slice]), (false, [.int .i64]), (false, [.int .i64])] ((x2, ()), ((1 : Int), ()), ((a6, n7, c8), ()), ((↑n7 : Int), ()), ((0 : Int), ()), ()) fun (((x10 : Int), _), ((x11 : Int), _), (((a12 : Option Addr), (n13 : Nat), (c14 : Nat)), _), ((x15 : Int), _), ((x16 : Int), _), _) again9 =>
        π.ite (decide (x16 < x15)) (
          π.guard ((0 : Int) ≤ x16 ∧ x16 < (↑n13 : Int)) <|
          π.unSome (a12) fun p17 =>
          π.ld [.int .i64] (p17.add (x16.toNat * (1 : Nat))) fun ((x18 : Int), _) =>
          π.unSome (some (Addr.mk b (0 : Nat) none)) fun p19 =>
          π.ld [.int .i64] (p19.add (0 : Nat)) fun ((x20 : Int), _) =>
          π.ite (x16 != x20) (
            π.ite (decide (x18 ≥ x10)) (
              again9 ((x10, ()), (IntKind.i64.wrap (x11 + (1 : Int)), ()), ((a12, n13, c14), ()), (x15, ()), (IntKind.i64.wrap (x16 + (1 : Int)), ()), ())
            ) (
              again9 ((x10, ()), (x11, ()), ((a12, n13, c14), ()), (x15, ()), (IntKind.i64.wrap (x16 + (1 : Int)), ()), ())
            )
          ) (
            again9 ((x10, ()), (x11, ()), ((a12, n13, c14), ()), (x15, ()), (IntKind.i64.wrap (x16 + (1 : Int)), ()), ())
          )
        ) (
          π.call (77 : Nat) #[(Value.pointer (some (Addr.mk b (0 : Nat) none))), (Value.int (IntKind.i64) (x10))] (true, [(false, [.int .i64]), (false, [.bool])]) fun (((x21 : Int), _), ((b22 : Bool), _), _) =>
          π.unSome (some (Addr.mk b (0 : Nat) none)) fun p23 =>
          π.ld [.int .i64] ((p23.add (2 : Nat)).add (0 : Nat)) fun ((x24 : Int), _) =>
          π.ite (x21 == x24) (
            π.unSome (some (Addr.mk b (0 : Nat) none)) fun p25 =>
            π.ld [.int .i64] (p25.add (1 : Nat)) fun ((x26 : Int), _) =>
            π.ite (decide (IntKind.i64.wrap ((2 : Int) * x11) > x26)) (
              π.unSome (some (Addr.mk b (0 : Nat) none)) fun p27 =>
              π.st ((p27.add (2 : Nat)).add (6 : Nat)) [(Value.int (IntKind.i64) (x10))] <|
              π.call (69 : Nat) #[(Value.pointer (some (Addr.mk b (0 : Nat) none))), (Value.func (Fn.func (72 : Nat)) #[(Value.pointer (some (Addr.mk b (0 : Nat) none)))] #[])] (false, [(false, [.slice])]) fun ((((a28 : Option Addr), (n29 : Nat), (c30 : Nat)), _), _) =>
              π.ret (Value.slice (a28) (n29) (c30))
            ) (
              again1 ((IntKind.i64.wrap (x10 - (1 : Int)), ()), ())
            )
          ) (
            again1 ((IntKind.i64.wrap (x10 - (1 : Int)), ()), ())
          )
        )
    ) (
      π.ret (Value.slice (none) ((0 : Nat)) ((0 : Nat)))
    )
def ann_settle : Ann := { draws := [], join := [], loop := [(2, [(3, 3)]), (6, [(3, 3), (4, 3), (23, 99), (24, 3), (25, 3)])] }
def la_settle : LA := { ptr := [], ty := [] }
set_option maxRecDepth 100000 in
theorem eq_settle {W : Type} (π : Prims W) (b : Nat) : bodyL π Tryz.prog la_settle ann_settle (mkFr (maskA [] [.v (.pointer (some ⟨b, 0, none⟩))] 0) 75) Tryz.f74 (bodyOf Tryz.f74) (mkFr (List.map some [.v (.pointer (some ⟨b, 0, none⟩))]) 75) = vc_settle π b := by kernel_rfl
theorem ok_settle (b : Nat) (R : Value → PH → Prop) (s : PH) (h : vc_settle (RP Tryz.prog R) b s) : DCalls Tryz.prog 74 (List.map AV.val [.v (.pointer (some ⟨b, 0, none⟩))]).toArray s R :=
  calls_vcL (c := bodyOf Tryz.f74) (ann := ann_settle) la_settle (by kernel_rfl) Tryz.func74 rfl (by kernel_rfl) [.v (.pointer (some ⟨b, 0, none⟩))] [] (by rw [Tryz.ntmps74]; exact Nat.le_of_ble_eq_true rfl) (by kernel_rfl) (by rw [show Tryz.f74.ntmps = 75 from Tryz.ntmps74, eq_settle]; exact h)
/-- (*lintel/ballot.Ballot).counted -/
def vc_counted {W : Type} (π : Prims W) (b : Nat) : W :=
  π.unSome (some (Addr.mk b (0 : Nat) none)) fun p0 =>
  π.ld [.slice] (p0.add (12 : Nat)) fun (((a1 : Option Addr), (n2 : Nat), (c3 : Nat)), _) =>
  π.loop [(false, [.int .i64]), (false, [.slice]), (false, [.int .i64]), (false, [.int .i64])] (((0 : Int), ()), ((a1, n2, c3), ()), ((↑n2 : Int), ()), ((0 : Int), ()), ()) fun (((x5 : Int), _), (((a6 : Option Addr), (n7 : Nat), (c8 : Nat)), _), ((x9 : Int), _), ((x10 : Int), _), _) again4 =>
    π.ite (decide (x10 < x9)) (
      π.guard ((0 : Int) ≤ x10 ∧ x10 < (↑n7 : Int)) <|
      π.unSome (a6) fun p11 =>
      π.ld [.bool] (p11.add (x10.toNat * (1 : Nat))) fun ((b12 : Bool), _) =>
      π.ite (b12) (
        again4 ((IntKind.i64.wrap (x5 + (1 : Int)), ()), ((a6, n7, c8), ()), (x9, ()), (IntKind.i64.wrap (x10 + (1 : Int)), ()), ())
      ) (
        again4 ((x5, ()), ((a6, n7, c8), ()), (x9, ()), (IntKind.i64.wrap (x10 + (1 : Int)), ()), ())
      )
    ) (
      π.unSome (some (Addr.mk b (0 : Nat) none)) fun p13 =>
      π.ld [.int .i64] (p13.add (1 : Nat)) fun ((x14 : Int), _) =>
      π.ite (decide (IntKind.i64.wrap ((2 : Int) * x5) ≤ x14)) (
        π.ret (Value.slice (none) ((0 : Nat)) ((0 : Nat)))
      ) (
        π.unSome (some (Addr.mk b (0 : Nat) none)) fun p15 =>
        π.ld [.int .i64] (p15.add (0 : Nat)) fun ((x16 : Int), _) =>
        π.unSome (some (Addr.mk b (0 : Nat) none)) fun p17 =>
        π.st ((p17.add (2 : Nat)).add (2 : Nat)) [(Value.int (IntKind.i64) ((2 : Int)))] <|
        π.unSome (some (Addr.mk b (0 : Nat) none)) fun p18 =>
        π.st ((p18.add (2 : Nat)).add (3 : Nat)) [(Value.int (IntKind.i64) (x16))] <|
        π.join [] (fun J19 =>
          π.callQ (55 : Nat) #[(Value.pointer (some (Addr.mk b (0 : Nat) none)))] (false, [(false, [.int .i64])]) fun (((x20 : Int), _), _) =>
          π.unSome (some (Addr.mk b (0 : Nat) none)) fun p21 =>
          π.ld [.int .i64] (p21.add (1 : Nat)) fun ((x22 : Int), _) =>
          π.unSome (some (Addr.mk b (0 : Nat) none)) fun p23 =>
          π.ld [.int .i64] (p23.add (1 : Nat)) fun ((x24 : Int), _) =>
          π.both (
            π.nw (Obj.cells #[(Value.int (IntKind.i64) (IntKind.i64.wrap (x20 + (1 : Int))))] (3 : Nat) ((0 : Nat), (0 : Nat))) fun r25 =>
            π.both (
              π.call (103 : Nat) #[(Value.slice (some (Addr.mk r25 (0 : Nat) none)) ((1 : Nat)) ((1 : Nat))), (Value.int (IntKind.i64) (x22))] (false, [(false, [.slice])]) fun ((((a26 : Option Addr), (n27 : Nat), (c28 : Nat)), _), _) =>
              π.still [.int .i64] (p23.add (1 : Nat)) (x24, ()) <|
              π.unSome (some (Addr.mk b (0 : Nat) none)) fun p29 =>
              π.both (
                π.mksl (3 : Nat) (1 : Nat) (8 : Nat) [(Value.int (IntKind.i64) ((0 : Int)))] (x24) (x24) fun r30 =>
                π.st (p29.add (13 : Nat)) [(Value.slice (a26) (n27) (c28))] <|
                π.unSome (some (Addr.mk b (0 : Nat) none)) fun p31 =>
                π.st (p31.add (14 : Nat)) [(Value.slice (some (Addr.mk r30 (0 : Nat) none)) (x24.toNat) (x24.toNat))] <|
                J19 (())
              ) (
                π.st (p29.add (13 : Nat)) [(Value.slice (a26) (n27) (c28))] <|
                π.mksl (3 : Nat) (1 : Nat) (8 : Nat) [(Value.int (IntKind.i64) ((0 : Int)))] (x24) (x24) fun r32 =>
                π.unSome (some (Addr.mk b (0 : Nat) none)) fun p33 =>
                π.st (p33.add (14 : Nat)) [(Value.slice (some (Addr.mk r32 (0 : Nat) none)) (x24.toNat) (x24.toNat))] <|
                J19 (())
              )
            ) (
              π.mksl (3 : Nat) (1 : Nat) (8 : Nat) [(Value.int (IntKind.i64) ((0 : Int)))] (x24) (x24) fun r34 =>
              π.call (103 : Nat) #[(Value.slice (some (Addr.mk r25 (0 : Nat) none)) ((1 : Nat)) ((1 : Nat))), (Value.int (IntKind.i64) (x22))] (false, [(false, [.slice])]) fun ((((a35 : Option Addr), (n36 : Nat), (c37 : Nat)), _), _) =>
              π.still [.int .i64] (p23.add (1 : Nat)) (x24, ()) <|
              π.unSome (some (Addr.mk b (0 : Nat) none)) fun p38 =>
              π.st (p38.add (13 : Nat)) [(Value.slice (a35) (n36) (c37))] <|
              π.unSome (some (Addr.mk b (0 : Nat) none)) fun p39 =>
              π.st (p39.add (14 : Nat)) [(Value.slice (some (Addr.mk r34 (0 : Nat) none)) (x24.toNat) (x24.toNat))] <|
              J19 (())
            )
          ) (
            π.mksl (3 : Nat) (1 : Nat) (8 : Nat) [(Value.int (IntKind.i64) ((0 : Int)))] (x24) (x24) fun r40 =>
            π.nw (Obj.cells #[(Value.int (IntKind.i64) (IntKind.i64.wrap (x20 + (1 : Int))))] (3 : Nat) ((0 : Nat), (0 : Nat))) fun r41 =>
            π.call (103 : Nat) #[(Value.slice (some (Addr.mk r41 (0 : Nat) none)) ((1 : Nat)) ((1 : Nat))), (Value.int (IntKind.i64) (x22))] (false, [(false, [.slice])]) fun ((((a42 : Option Addr), (n43 : Nat), (c44 : Nat)), _), _) =>
            π.still [.int .i64] (p23.add (1 : Nat)) (x24, ()) <|
            π.unSome (some (Addr.mk b (0 : Nat) none)) fun p45 =>
            π.st (p45.add (13 : Nat)) [(Value.slice (a42) (n43) (c44))] <|
            π.unSome (some (Addr.mk b (0 : Nat) none)) fun p46 =>
            π.st (p46.add (14 : Nat)) [(Value.slice (some (Addr.mk r40 (0 : Nat) none)) (x24.toNat) (x24.toNat))] <|
            J19 (())
          )
        ) (fun (_) =>
          π.callQ (55 : Nat) #[(Value.pointer (some (Addr.mk b (0 : Nat) none)))] (false, [(false, [.int .i64])]) fun (((x47 : Int), _), _) =>
          π.unSome (some (Addr.mk b (0 : Nat) none)) fun p48 =>
          π.ld [.int .i64] ((p48.add (2 : Nat)).add (0 : Nat)) fun ((x49 : Int), _) =>
          π.nw (Obj.cells #[(Value.int (IntKind.i64) (x49)), (Value.int (IntKind.i64) ((0 : Int))), (Value.int (IntKind.i64) ((0 : Int))), (Value.string (ByteArray.mk #[]))] (43 : Nat) ((0 : Nat), (0 : Nat))) fun r50 =>
          π.call (73 : Nat) #[(Value.pointer (some (Addr.mk b (0 : Nat) none))), (Value.int (IntKind.i64) (IntKind.i64.wrap (x47 + (1 : Int)))), (Value.slice (some (Addr.mk r50 (0 : Nat) none)) ((1 : Nat)) ((1 : Nat)))] (true, []) fun (_) =>
          π.call (69 : Nat) #[(Value.pointer (some (Addr.mk b (0 : Nat) none))), (Value.func (Fn.func (72 : Nat)) #[(Value.pointer (some (Addr.mk b (0 : Nat) none)))] #[])] (false, [(false, [.slice])]) fun ((((a51 : Option Addr), (n52 : Nat), (c53 : Nat)), _), _) =>
          π.call (74 : Nat) #[(Value.pointer (some (Addr.mk b (0 : Nat) none)))] (false, [(false, [.slice])]) fun ((((a54 : Option Addr), (n55 : Nat), (c56 : Nat)), _), _) =>
          π.app (119 : Nat) (10 : Nat) (104 : Nat) [(Value.int (IntKind.i64) ((0 : Int))), (Value.int (IntKind.i64) ((0 : Int))), (Value.int (IntKind.i64) ((0 : Int))), (Value.int (IntKind.i64) ((0 : Int))), (Value.int (IntKind.i64) ((0 : Int))), (Value.int (IntKind.i64) ((0 : Int))), (Value.int (IntKind.i64) ((0 : Int))), (Value.bool (false)), (Value.slice (none) ((0 : Nat)) ((0 : Nat))), (Value.string (ByteArray.mk #[]))] (a51) (n52) (c53) (Src.sl a54 n55) fun a57 n58 c59 =>
          π.ret (Value.slice (a57) (n58) (c59))
        )
      )
    )
def ann_counted : Ann := { draws := [(11, { A := [0, 1, 2, 3, 4, 6, 7, 8, 9, 11, 12, 13, 14], quiet := [3], chkL := [(10, [14])], eag := [16, 17, 19, 20] }), (12, { A := [0, 1, 2, 3, 4, 5, 6, 7, 8, 9], quiet := [2] })], join := [(12, [])], loop := [(3, [(3, 3), (9, 98), (10, 3), (11, 3)])] }
def la_counted : LA := { ptr := [], ty := [] }
set_option maxRecDepth 100000 in
theorem eq_counted {W : Type} (π : Prims W) (b : Nat) : bodyL π Tryz.prog la_counted ann_counted (mkFr (maskA [] [.v (.pointer (some ⟨b, 0, none⟩))] 0) 77) Tryz.f71 (bodyOf Tryz.f71) (mkFr (List.map some [.v (.pointer (some ⟨b, 0, none⟩))]) 77) = vc_counted π b := by kernel_rfl
theorem ok_counted (b : Nat) (R : Value → PH → Prop) (s : PH) (h : vc_counted (RP Tryz.prog R) b s) : DCalls Tryz.prog 71 (List.map AV.val [.v (.pointer (some ⟨b, 0, none⟩))]).toArray s R :=
  calls_vcL (c := bodyOf Tryz.f71) (ann := ann_counted) la_counted (by kernel_rfl) Tryz.func71 rfl (by kernel_rfl) [.v (.pointer (some ⟨b, 0, none⟩))] [] (by rw [Tryz.ntmps71]; exact Nat.le_of_ble_eq_true rfl) (by kernel_rfl) (by rw [show Tryz.f71.ntmps = 77 from Tryz.ntmps71, eq_counted]; exact h)
/-- (*lintel/ballot.Ballot).Timeout -/
def vc_Timeout {W : Type} (π : Prims W) (b : Nat) : W :=
  π.join [] (fun J0 =>
    π.ite ((some (Addr.mk b (0 : Nat) none)).isNone) (
      π.ret (Value.slice (none) ((0 : Nat)) ((0 : Nat)))
    ) (
      π.unSome (some (Addr.mk b (0 : Nat) none)) fun p1 =>
      π.ld [.int .i64] ((p1.add (2 : Nat)).add (2 : Nat)) fun ((x2 : Int), _) =>
      π.ite (x2 == (2 : Int)) (
        π.ret (Value.slice (none) ((0 : Nat)) ((0 : Nat)))
      ) (
        J0 (())
      )
    )
  ) (fun (_) =>
    π.unSome (some (Addr.mk b (0 : Nat) none)) fun p3 =>
    π.ld [.int .i64] ((p3.add (2 : Nat)).add (0 : Nat)) fun ((x4 : Int), _) =>
    π.unSome (some (Addr.mk b (0 : Nat) none)) fun p5 =>
    π.ld [.int .i64] (p5.add (0 : Nat)) fun ((x6 : Int), _) =>
    π.call (68 : Nat) #[(Value.pointer (some (Addr.mk b (0 : Nat) none))), (Value.int (IntKind.i64) (IntKind.i64.wrap (x4 + (1 : Int)))), (Value.int (IntKind.i64) (x6)), (Value.int (IntKind.i64) ((1 : Int)))] (true, []) fun (_) =>
    π.unSome (some (Addr.mk b (0 : Nat) none)) fun p7 =>
    π.ld [.int .i64] (p7.add (1 : Nat)) fun ((x8 : Int), _) =>
    π.mksl (4 : Nat) (1 : Nat) (1 : Nat) [(Value.bool (false))] (x8) (x8) fun r9 =>
    π.unSome (some (Addr.mk b (0 : Nat) none)) fun p10 =>
    π.st (p10.add (12 : Nat)) [(Value.slice (some (Addr.mk r9 (0 : Nat) none)) (x8.toNat) (x8.toNat))] <|
    π.unSome (some (Addr.mk b (0 : Nat) none)) fun p11 =>
    π.ld [.slice] (p11.add (12 : Nat)) fun (((a12 : Option Addr), (n13 : Nat), (c14 : Nat)), _) =>
    π.unSome (some (Addr.mk b (0 : Nat) none)) fun p15 =>
    π.ld [.int .i64] (p15.add (0 : Nat)) fun ((x16 : Int), _) =>
    π.guard ((0 : Int) ≤ x16 ∧ x16 < (↑n13 : Int)) <|
    π.unSome (a12) fun p17 =>
    π.st (p17.add (x16.toNat * (1 : Nat))) [(Value.bool (true))] <|
    π.call (69 : Nat) #[(Value.pointer (some (Addr.mk b (0 : Nat) none))), (Value.func (Fn.func (70 : Nat)) #[(Value.pointer (some (Addr.mk b (0 : Nat) none)))] #[])] (false, [(false, [.slice])]) fun ((((a18 : Option Addr), (n19 : Nat), (c20 : Nat)), _), _) =>
    π.call (71 : Nat) #[(Value.pointer (some (Addr.mk b (0 : Nat) none)))] (false, [(false, [.slice])]) fun ((((a21 : Option Addr), (n22 : Nat), (c23 : Nat)), _), _) =>
    π.app (119 : Nat) (10 : Nat) (104 : Nat) [(Value.int (IntKind.i64) ((0 : Int))), (Value.int (IntKind.i64) ((0 : Int))), (Value.int (IntKind.i64) ((0 : Int))), (Value.int (IntKind.i64) ((0 : Int))), (Value.int (IntKind.i64) ((0 : Int))), (Value.int (IntKind.i64) ((0 : Int))), (Value.int (IntKind.i64) ((0 : Int))), (Value.bool (false)), (Value.slice (none) ((0 : Nat)) ((0 : Nat))), (Value.string (ByteArray.mk #[]))] (a18) (n19) (c20) (Src.sl a21 n22) fun a24 n25 c26 =>
    π.ret (Value.slice (a24) (n25) (c26))
  )
def ann_Timeout : Ann := { draws := [(3, { A := [0, 1, 2, 3, 4, 5, 6, 7, 8, 9, 10] }), (5, { A := [0, 1, 2, 3, 4, 5, 6, 7, 8] })], join := [(3, [])], loop := [] }
def la_Timeout : LA := { ptr := [], ty := [] }
set_option maxRecDepth 100000 in
theorem eq_Timeout {W : Type} (π : Prims W) (b : Nat) : bodyL π Tryz.prog la_Timeout ann_Timeout (mkFr (maskA [] [.v (.pointer (some ⟨b, 0, none⟩))] 0) 51) Tryz.f47 (bodyOf Tryz.f47) (mkFr (List.map some [.v (.pointer (some ⟨b, 0, none⟩))]) 51) = vc_Timeout π b := by kernel_rfl
theorem ok_Timeout (b : Nat) (R : Value → PH → Prop) (s : PH) (h : vc_Timeout (RP Tryz.prog R) b s) : DCalls Tryz.prog 47 (List.map AV.val [.v (.pointer (some ⟨b, 0, none⟩))]).toArray s R :=
  calls_vcL (c := bodyOf Tryz.f47) (ann := ann_Timeout) la_Timeout (by kernel_rfl) Tryz.func47 rfl (by kernel_rfl) [.v (.pointer (some ⟨b, 0, none⟩))] [] (by rw [Tryz.ntmps47]; exact Nat.le_of_ble_eq_true rfl) (by kernel_rfl) (by rw [show Tryz.f47.ntmps = 51 from Tryz.ntmps47, eq_Timeout]; exact h)
/-- (*lintel/ballot.Ballot).Beat -/
def vc_Beat {W : Type} (π : Prims W) (b : Nat) : W :=
  π.ite ((some (Addr.mk b (0 : Nat) none)).isNone) (
    π.ret (Value.slice (none) ((0 : Nat)) ((0 : Nat)))
  ) (
    π.unSome (some (Addr.mk b (0 : Nat) none)) fun p0 =>
    π.ld [.int .i64] ((p0.add (2 : Nat)).add (2 : Nat)) fun ((x1 : Int), _) =>
    π.ite (x1 != (2 : Int)) (
      π.ret (Value.slice (none) ((0 : Nat)) ((0 : Nat)))
    ) (
      π.call (69 : Nat) #[(Value.pointer (some (Addr.mk b (0 : Nat) none))), (Value.func (Fn.func (72 : Nat)) #[(Value.pointer (some (Addr.mk b (0 : Nat) none)))] #[])] (false, [(false, [.slice])]) fun ((((a2 : Option Addr), (n3 : Nat), (c4 : Nat)), _), _) =>
      π.ret (Value.slice (a2) (n3) (c4))
    )
  )
def ann_Beat : Ann := { draws := [], join := [], loop := [] }
def la_Beat : LA := { ptr := [], ty := [] }
set_option maxRecDepth 100000 in
theorem eq_Beat {W : Type} (π : Prims W) (b : Nat) : bodyL π Tryz.prog la_Beat ann_Beat (mkFr (maskA [] [.v (.pointer (some ⟨b, 0, none⟩))] 0) 17) Tryz.f48 (bodyOf Tryz.f48) (mkFr (List.map some [.v (.pointer (some ⟨b, 0, none⟩))]) 17) = vc_Beat π b := by kernel_rfl
theorem ok_Beat (b : Nat) (R : Value → PH → Prop) (s : PH) (h : vc_Beat (RP Tryz.prog R) b s) : DCalls Tryz.prog 48 (List.map AV.val [.v (.pointer (some ⟨b, 0, none⟩))]).toArray s R :=
  calls_vcL (c := bodyOf Tryz.f48) (ann := ann_Beat) la_Beat (by kernel_rfl) Tryz.func48 rfl (by kernel_rfl) [.v (.pointer (some ⟨b, 0, none⟩))] [] (by rw [Tryz.ntmps48]; exact Nat.le_of_ble_eq_true rfl) (by kernel_rfl) (by rw [show Tryz.f48.ntmps = 17 from Tryz.ntmps48, eq_Beat]; exact h)
/-- (*lintel/ballot.Ballot).Propose -/
def vc_Propose {W : Type} (π : Prims W) (b : Nat) (at_ born : Int) (text : ByteArray) : W :=
  π.join [] (fun J0 =>
    π.ite ((some (Addr.mk b (0 : Nat) none)).isNone) (
      π.ret (Value.tuple #[(Value.int (IntKind.i64) ((0 : Int))), (Value.slice (none) ((0 : Nat)) ((0 : Nat)))])
    ) (
      π.unSome (some (Addr.mk b (0 : Nat) none)) fun p1 =>
      π.ld [.int .i64] ((p1.add (2 : Nat)).add (2 : Nat)) fun ((x2 : Int), _) =>
      π.ite (x2 != (2 : Int)) (
        π.ret (Value.tuple #[(Value.int (IntKind.i64) ((0 : Int))), (Value.slice (none) ((0 : Nat)) ((0 : Nat)))])
      ) (
        J0 (())
      )
    )
  ) (fun (_) =>
    π.callQ (55 : Nat) #[(Value.pointer (some (Addr.mk b (0 : Nat) none)))] (false, [(false, [.int .i64])]) fun (((x3 : Int), _), _) =>
    π.unSome (some (Addr.mk b (0 : Nat) none)) fun p4 =>
    π.ld [.int .i64] ((p4.add (2 : Nat)).add (0 : Nat)) fun ((x5 : Int), _) =>
    π.nw (Obj.cells #[(Value.int (IntKind.i64) (x5)), (Value.int (IntKind.i64) (at_)), (Value.int (IntKind.i64) (born)), (Value.string (text))] (43 : Nat) ((0 : Nat), (0 : Nat))) fun r6 =>
    π.call (73 : Nat) #[(Value.pointer (some (Addr.mk b (0 : Nat) none))), (Value.int (IntKind.i64) (IntKind.i64.wrap (x3 + (1 : Int)))), (Value.slice (some (Addr.mk r6 (0 : Nat) none)) ((1 : Nat)) ((1 : Nat)))] (true, []) fun (_) =>
    π.call (55 : Nat) #[(Value.pointer (some (Addr.mk b (0 : Nat) none)))] (false, [(false, [.int .i64])]) fun (((x7 : Int), _), _) =>
    π.call (69 : Nat) #[(Value.pointer (some (Addr.mk b (0 : Nat) none))), (Value.func (Fn.func (72 : Nat)) #[(Value.pointer (some (Addr.mk b (0 : Nat) none)))] #[])] (false, [(false, [.slice])]) fun ((((a8 : Option Addr), (n9 : Nat), (c10 : Nat)), _), _) =>
    π.call (74 : Nat) #[(Value.pointer (some (Addr.mk b (0 : Nat) none)))] (false, [(false, [.slice])]) fun ((((a11 : Option Addr), (n12 : Nat), (c13 : Nat)), _), _) =>
    π.app (119 : Nat) (10 : Nat) (104 : Nat) [(Value.int (IntKind.i64) ((0 : Int))), (Value.int (IntKind.i64) ((0 : Int))), (Value.int (IntKind.i64) ((0 : Int))), (Value.int (IntKind.i64) ((0 : Int))), (Value.int (IntKind.i64) ((0 : Int))), (Value.int (IntKind.i64) ((0 : Int))), (Value.int (IntKind.i64) ((0 : Int))), (Value.bool (false)), (Value.slice (none) ((0 : Nat)) ((0 : Nat))), (Value.string (ByteArray.mk #[]))] (a8) (n9) (c10) (Src.sl a11 n12) fun a14 n15 c16 =>
    π.ret (Value.tuple #[(Value.int (IntKind.i64) (x7)), (Value.slice (a14) (n15) (c16))])
  )
def ann_Propose : Ann := { draws := [(3, { A := [0, 1, 2, 3, 4, 5, 6, 7, 8, 9, 10, 11, 12], quiet := [2] })], join := [(3, [])], loop := [] }
def la_Propose : LA := { ptr := [], ty := [] }
set_option maxRecDepth 100000 in
theorem eq_Propose {W : Type} (π : Prims W) (b : Nat) (at_ born : Int) (text : ByteArray) : bodyL π Tryz.prog la_Propose ann_Propose (mkFr (maskA [] [.v (.pointer (some ⟨b, 0, none⟩)), .v (.int .i64 at_), .v (.int .i64 born), .v (.string text)] 0) 44) Tryz.f49 (bodyOf Tryz.f49) (mkFr (List.map some [.v (.pointer (some ⟨b, 0, none⟩)), .v (.int .i64 at_), .v (.int .i64 born), .v (.string text)]) 44) = vc_Propose π b at_ born text := by kernel_rfl
theorem ok_Propose (b : Nat) (at_ born : Int) (text : ByteArray) (R : Value → PH → Prop) (s : PH) (h : vc_Propose (RP Tryz.prog R) b at_ born text s) : DCalls Tryz.prog 49 (List.map AV.val [.v (.pointer (some ⟨b, 0, none⟩)), .v (.int .i64 at_), .v (.int .i64 born), .v (.string text)]).toArray s R :=
  calls_vcL (c := bodyOf Tryz.f49) (ann := ann_Propose) la_Propose (by kernel_rfl) Tryz.func49 rfl (by kernel_rfl) [.v (.pointer (some ⟨b, 0, none⟩)), .v (.int .i64 at_), .v (.int .i64 born), .v (.string text)] [] (by rw [Tryz.ntmps49]; exact Nat.le_of_ble_eq_true rfl) (by kernel_rfl) (by rw [show Tryz.f49.ntmps = 44 from Tryz.ntmps49, eq_Propose]; exact h)
/-- (*lintel/ballot.Ballot).strange$1 -/
def vc_strange1 {W : Type} (π : Prims W) (n : Int) : W :=
  π.ite (decide (n < (0 : Int))) (
    π.ret (Value.bool (true))
  ) (
    π.ret (Value.bool (decide (n > (1099511627776 : Int))))
  )
def ann_strange1 : Ann := { draws := [], join := [], loop := [] }
def la_strange1 : LA := { ptr := [], ty := [] }
set_option maxRecDepth 100000 in
theorem eq_strange1 {W : Type} (π : Prims W) (n : Int) : bodyL π Tryz.prog la_strange1 ann_strange1 (mkFr (maskA [] [.v (.int .i64 n)] 0) 9) Tryz.f112 (bodyOf Tryz.f112) (mkFr (List.map some [.v (.int .i64 n)]) 9) = vc_strange1 π n := by kernel_rfl
theorem ok_strange1 (n : Int) (R : Value → PH → Prop) (s : PH) (h : vc_strange1 (RP Tryz.prog R) n s) : DCalls Tryz.prog 112 (List.map AV.val [.v (.int .i64 n)]).toArray s R :=
  calls_vcL (c := bodyOf Tryz.f112) (ann := ann_strange1) la_strange1 (by kernel_rfl) Tryz.func112 rfl (by kernel_rfl) [.v (.int .i64 n)] [] (by rw [Tryz.ntmps112]; exact Nat.le_of_ble_eq_true rfl) (by kernel_rfl) (by rw [show Tryz.f112.ntmps = 9 from Tryz.ntmps112, eq_strange1]; exact h)
/-- (*lintel/ballot.Ballot).strange -/
def vc_strange {W : Type} (π : Prims W) (b : Nat) (mk mf mt mm mi mp mc : Int) (mg : Bool) (la : Option Addr) (ln lc : Nat) (ms : ByteArray) : W :=
  π.nw (Obj.cells #[(Value.int (IntKind.i64) (mk)), (Value.int (IntKind.i64) (mf)), (Value.int (IntKind.i64) (mt)), (Value.int (IntKind.i64) (mm)), (Value.int (IntKind.i64) (mi)), (Value.int (IntKind.i64) (mp)), (Value.int (IntKind.i64) (mc)), (Value.bool (mg)), (Value.slice (la) (ln) (lc)), (Value.string (ms))] (119 : Nat) ((0 : Nat), (0 : Nat))) fun r0 =>
  π.join [(false, [.addr]), (false, [.int .i64])] (fun J1 =>
    π.ld [.int .i64] ((Addr.mk r0 (0 : Nat) none).add (0 : Nat)) fun ((x2 : Int), _) =>
    π.ite (x2 == (4 : Int)) (
      J1 ((Addr.mk r0 (0 : Nat) none, ()), ((-1 : Int), ()), ())
    ) (
      J1 ((Addr.mk r0 (0 : Nat) none, ()), ((0 : Int), ()), ())
    )
  ) (fun ((p3, _), ((x4 : Int), _), _) =>
    π.ld [.int .i64] (p3.add (2 : Nat)) fun ((x5 : Int), _) =>
    π.unSome (some (Addr.mk b (0 : Nat) none)) fun p6 =>
    π.ld [.int .i64] (p6.add (0 : Nat)) fun ((x7 : Int), _) =>
    π.ite (x5 != x7) (
      π.ret (Value.bool (true))
    ) (
      π.ld [.int .i64] (p3.add (1 : Nat)) fun ((x8 : Int), _) =>
      π.unSome (some (Addr.mk b (0 : Nat) none)) fun p9 =>
      π.ld [.int .i64] (p9.add (0 : Nat)) fun ((x10 : Int), _) =>
      π.ite (x8 == x10) (
        π.ret (Value.bool (true))
      ) (
        π.ld [.int .i64] (p3.add (1 : Nat)) fun ((x11 : Int), _) =>
        π.ite (decide (x11 < (0 : Int))) (
          π.ret (Value.bool (true))
        ) (
          π.ld [.int .i64] (p3.add (1 : Nat)) fun ((x12 : Int), _) =>
          π.unSome (some (Addr.mk b (0 : Nat) none)) fun p13 =>
          π.ld [.int .i64] (p13.add (1 : Nat)) fun ((x14 : Int), _) =>
          π.ite (decide (x12 ≥ x14)) (
            π.ret (Value.bool (true))
          ) (
            π.ld [.int .i64] (p3.add (0 : Nat)) fun ((x15 : Int), _) =>
            π.ite (decide (x15 < (1 : Int))) (
              π.ret (Value.bool (true))
            ) (
              π.ld [.int .i64] (p3.add (0 : Nat)) fun ((x16 : Int), _) =>
              π.ite (decide (x16 > (5 : Int))) (
                π.ret (Value.bool (true))
              ) (
                π.ld [.int .i64] (p3.add (3 : Nat)) fun ((x17 : Int), _) =>
                π.ite (decide (x17 < (1 : Int))) (
                  π.ret (Value.bool (true))
                ) (
                  π.ld [.int .i64] (p3.add (3 : Nat)) fun ((x18 : Int), _) =>
                  π.ite (decide (x18 > (1099511627776 : Int))) (
                    π.ret (Value.bool (true))
                  ) (
                    π.ld [.int .i64] (p3.add (4 : Nat)) fun ((x19 : Int), _) =>
                    π.ite (decide (x19 < x4)) (
                      π.ret (Value.bool (true))
                    ) (
                      π.ld [.int .i64] (p3.add (4 : Nat)) fun ((x20 : Int), _) =>
                      π.ite (decide (x20 > (1099511627776 : Int))) (
                        π.ret (Value.bool (true))
                      ) (
                        π.ld [.int .i64] (p3.add (5 : Nat)) fun ((x21 : Int), _) =>
                        π.call (112 : Nat) #[(Value.int (IntKind.i64) (x21))] (false, [(false, [.bool])]) fun (((b22 : Bool), _), _) =>
                        π.ite (b22) (
                          π.ret (Value.bool (true))
                        ) (
                          π.ld [.int .i64] (p3.add (6 : Nat)) fun ((x23 : Int), _) =>
                          π.call (112 : Nat) #[(Value.int (IntKind.i64) (x23))] (false, [(false, [.bool])]) fun (((b24 : Bool), _), _) =>
                          π.ret (Value.bool (b24))
                        )
                      )
                    )
                  )
                )
              )
            )
          )
        )
      )
    )
  )
def ann_strange : Ann := { draws := [(5, { A := [0, 1, 2, 3, 4, 5, 6, 7, 8, 9, 10, 11, 12, 13, 14, 15, 16, 17, 18, 19, 20, 21, 22, 23, 24, 25, 26, 27, 28, 29, 30, 31, 32, 33, 34, 35, 36, 37, 38, 39, 40, 41, 42, 43, 44, 45, 46, 47, 48, 49, 50, 51, 52, 53, 54, 55, 56, 57, 58, 59, 60, 61, 62, 63, 64], eag := [66, 67, 68, 69, 72, 73] })], join := [(4, [(3, 1000000), (5, 3)])], loop := [] }
def la_strange : LA := { ptr := [], ty := [] }
set_option maxRecDepth 100000 in
theorem eq_strange {W : Type} (π : Prims W) (b : Nat) (mk mf mt mm mi mp mc : Int) (mg : Bool) (la : Option Addr) (ln lc : Nat) (ms : ByteArray) : bodyL π Tryz.prog la_strange ann_strange (mkFr (maskA [] [.v (.pointer (some ⟨b, 0, none⟩)), .v (.agg #[.int .i64 mk, .int .i64 mf, .int .i64 mt, .int .i64 mm, .int .i64 mi, .int .i64 mp, .int .i64 mc, .bool mg, .slice la ln lc, .string ms])] 0) 83) Tryz.f90 (bodyOf Tryz.f90) (mkFr (List.map some [.v (.pointer (some ⟨b, 0, none⟩)), .v (.agg #[.int .i64 mk, .int .i64 mf, .int .i64 mt, .int .i64 mm, .int .i64 mi, .int .i64 mp, .int .i64 mc, .bool mg, .slice la ln lc, .string ms])]) 83) = vc_strange π b mk mf mt mm mi mp mc mg la ln lc ms := by kernel_rfl
theorem ok_strange (b : Nat) (mk mf mt mm mi mp mc : Int) (mg : Bool) (la : Option Addr) (ln lc : Nat) (ms : ByteArray) (R : Value → PH → Prop) (s : PH) (h : vc_strange (RP Tryz.prog R) b mk mf mt mm mi mp mc mg la ln lc ms s) : DCalls Tryz.prog 90 (List.map AV.val [.v (.pointer (some ⟨b, 0, none⟩)), .v (.agg #[.int .i64 mk, .int .i64 mf, .int .i64 mt, .int .i64 mm, .int .i64 mi, .int .i64 mp, .int .i64 mc, .bool mg, .slice la ln lc, .string ms])]).toArray s R :=
  calls_vcL (c := bodyOf Tryz.f90) (ann := ann_strange) la_strange (by kernel_rfl) Tryz.func90 rfl (by kernel_rfl) [.v (.pointer (some ⟨b, 0, none⟩)), .v (.agg #[.int .i64 mk, .int .i64 mf, .int .i64 mt, .int .i64 mm, .int .i64 mi, .int .i64 mp, .int .i64 mc, .bool mg, .slice la ln lc, .string ms])] [] (by rw [Tryz.ntmps90]; exact Nat.le_of_ble_eq_true rfl) (by kernel_rfl) (by rw [show Tryz.f90.ntmps = 83 from Tryz.ntmps90, eq_strange]; exact h)
/-- (*lintel/ballot.Ballot).told -/
def vc_told {W : Type} (π : Prims W) (b : Nat) (to : Int) (good : Bool) (i : Int) : W :=
  π.call (91 : Nat) #[(Value.pointer (some (Addr.mk b (0 : Nat) none))), (Value.int (IntKind.i64) ((4 : Int))), (Value.int (IntKind.i64) (to))] (false, [(true, [.int .i64, .int .i64, .int .i64, .int .i64, .int .i64, .int .i64, .int .i64, .bool, .slice, .str])]) fun (((x0 : Int), (x1 : Int), (x2 : Int), (x3 : Int), (x4 : Int), (x5 : Int), (x6 : Int), (b7 : Bool), ((a8 : Option Addr), (n9 : Nat), (c10 : Nat)), (t11 : ByteArray), _), _) =>
  π.nw (Obj.cells #[(Value.int (IntKind.i64) ((0 : Int))), (Value.int (IntKind.i64) ((0 : Int))), (Value.int (IntKind.i64) ((0 : Int))), (Value.int (IntKind.i64) ((0 : Int))), (Value.int (IntKind.i64) ((0 : Int))), (Value.int (IntKind.i64) ((0 : Int))), (Value.int (IntKind.i64) ((0 : Int))), (Value.bool (false)), (Value.slice (none) ((0 : Nat)) ((0 : Nat))), (Value.string (ByteArray.mk #[]))] (119 : Nat) ((0 : Nat), (0 : Nat))) fun r12 =>
  π.st (Addr.mk r12 (0 : Nat) none) [(Value.int (IntKind.i64) (x0)), (Value.int (IntKind.i64) (x1)), (Value.int (IntKind.i64) (x2)), (Value.int (IntKind.i64) (x3)), (Value.int (IntKind.i64) (x4)), (Value.int (IntKind.i64) (x5)), (Value.int (IntKind.i64) (x6)), (Value.bool (b7)), (Value.slice (a8) (n9) (c10)), (Value.string (t11))] <|
  π.st ((Addr.mk r12 (0 : Nat) none).add (7 : Nat)) [(Value.bool (good))] <|
  π.st ((Addr.mk r12 (0 : Nat) none).add (4 : Nat)) [(Value.int (IntKind.i64) (i))] <|
  π.ld [.int .i64, .int .i64, .int .i64, .int .i64, .int .i64, .int .i64, .int .i64, .bool, .slice, .str] (Addr.mk r12 (0 : Nat) none) fun ((x13 : Int), (x14 : Int), (x15 : Int), (x16 : Int), (x17 : Int), (x18 : Int), (x19 : Int), (b20 : Bool), ((a21 : Option Addr), (n22 : Nat), (c23 : Nat)), (t24 : ByteArray), _) =>
  π.nw (Obj.cells #[(Value.int (IntKind.i64) (x13)), (Value.int (IntKind.i64) (x14)), (Value.int (IntKind.i64) (x15)), (Value.int (IntKind.i64) (x16)), (Value.int (IntKind.i64) (x17)), (Value.int (IntKind.i64) (x18)), (Value.int (IntKind.i64) (x19)), (Value.bool (b20)), (Value.slice (a21) (n22) (c23)), (Value.string (t24))] (119 : Nat) ((0 : Nat), (0 : Nat))) fun r25 =>
  π.ret (Value.slice (some (Addr.mk r25 (0 : Nat) none)) ((1 : Nat)) ((1 : Nat)))
def ann_told : Ann := { draws := [], join := [], loop := [] }
def la_told : LA := { ptr := [], ty := [] }
set_option maxRecDepth 100000 in
theorem eq_told {W : Type} (π : Prims W) (b : Nat) (to : Int) (good : Bool) (i : Int) : bodyL π Tryz.prog la_told ann_told (mkFr (maskA [] [.v (.pointer (some ⟨b, 0, none⟩)), .v (.int .i64 to), .v (.bool good), .v (.int .i64 i)] 0) 19) Tryz.f92 (bodyOf Tryz.f92) (mkFr (List.map some [.v (.pointer (some ⟨b, 0, none⟩)), .v (.int .i64 to), .v (.bool good), .v (.int .i64 i)]) 19) = vc_told π b to good i := by kernel_rfl
theorem ok_told (b : Nat) (to : Int) (good : Bool) (i : Int) (R : Value → PH → Prop) (s : PH) (h : vc_told (RP Tryz.prog R) b to good i s) : DCalls Tryz.prog 92 (List.map AV.val [.v (.pointer (some ⟨b, 0, none⟩)), .v (.int .i64 to), .v (.bool good), .v (.int .i64 i)]).toArray s R :=
  calls_vcL (c := bodyOf Tryz.f92) (ann := ann_told) la_told (by kernel_rfl) Tryz.func92 rfl (by kernel_rfl) [.v (.pointer (some ⟨b, 0, none⟩)), .v (.int .i64 to), .v (.bool good), .v (.int .i64 i)] [] (by rw [Tryz.ntmps92]; exact Nat.le_of_ble_eq_true rfl) (by kernel_rfl) (by rw [show Tryz.f92.ntmps = 19 from Tryz.ntmps92, eq_told]; exact h)
/-- (*lintel/ballot.Ballot).asked -/
def vc_asked {W : Type} (π : Prims W) (b : Nat) (mk mf mt mm mi mp mc : Int) (mg : Bool) (la : Option Addr) (ln lc : Nat) (ms : ByteArray) : W :=
  π.nw (Obj.cells #[(Value.int (IntKind.i64) (mk)), (Value.int (IntKind.i64) (mf)), (Value.int (IntKind.i64) (mt)), (Value.int (IntKind.i64) (mm)), (Value.int (IntKind.i64) (mi)), (Value.int (IntKind.i64) (mp)), (Value.int (IntKind.i64) (mc)), (Value.bool (mg)), (Value.slice (la) (ln) (lc)), (Value.string (ms))] (119 : Nat) ((0 : Nat), (0 : Nat))) fun r0 =>
  π.call (55 : Nat) #[(Value.pointer (some (Addr.mk b (0 : Nat) none)))] (false, [(false, [.int .i64])]) fun (((x1 : Int), _), _) =>
  π.call (77 : Nat) #[(Value.pointer (some (Addr.mk b (0 : Nat) none))), (Value.int (IntKind.i64) (x1))] (true, [(false, [.int .i64]), (false, [.bool])]) fun (((x2 : Int), _), ((b3 : Bool), _), _) =>
  π.ld [.int .i64] ((Addr.mk r0 (0 : Nat) none).add (1 : Nat)) fun ((x4 : Int), _) =>
  π.call (91 : Nat) #[(Value.pointer (some (Addr.mk b (0 : Nat) none))), (Value.int (IntKind.i64) ((2 : Int))), (Value.int (IntKind.i64) (x4))] (false, [(true, [.int .i64, .int .i64, .int .i64, .int .i64, .int .i64, .int .i64, .int .i64, .bool, .slice, .str])]) fun (((x5 : Int), (x6 : Int), (x7 : Int), (x8 : Int), (x9 : Int), (x10 : Int), (x11 : Int), (b12 : Bool), ((a13 : Option Addr), (n14 : Nat), (c15 : Nat)), (t16 : ByteArray), _), _) =>
  π.nw (Obj.cells #[(Value.int (IntKind.i64) ((0 : Int))), (Value.int (IntKind.i64) ((0 : Int))), (Value.int (IntKind.i64) ((0 : Int))), (Value.int (IntKind.i64) ((0 : Int))), (Value.int (IntKind.i64) ((0 : Int))), (Value.int (IntKind.i64) ((0 : Int))), (Value.int (IntKind.i64) ((0 : Int))), (Value.bool (false)), (Value.slice (none) ((0 : Nat)) ((0 : Nat))), (Value.string (ByteArray.mk #[]))] (119 : Nat) ((0 : Nat), (0 : Nat))) fun r17 =>
  π.st (Addr.mk r17 (0 : Nat) none) [(Value.int (IntKind.i64) (x5)), (Value.int (IntKind.i64) (x6)), (Value.int (IntKind.i64) (x7)), (Value.int (IntKind.i64) (x8)), (Value.int (IntKind.i64) (x9)), (Value.int (IntKind.i64) (x10)), (Value.int (IntKind.i64) (x11)), (Value.bool (b12)), (Value.slice (a13) (n14) (c15)), (Value.string (t16))] <|
  π.unSome (some (Addr.mk b (0 : Nat) none)) fun p18 =>
  π.ld [.int .i64] ((p18.add (2 : Nat)).add (1 : Nat)) fun ((x19 : Int), _) =>
  π.ite (decide (x19 < (0 : Int))) (
    π.ld [.int .i64] ((Addr.mk r0 (0 : Nat) none).add (5 : Nat)) fun ((x20 : Int), _) =>
    π.ite (decide (x20 > x2)) (
      π.st ((Addr.mk r17 (0 : Nat) none).add (7 : Nat)) [(Value.bool (true))] <|
      π.ld [.bool] ((Addr.mk r17 (0 : Nat) none).add (7 : Nat)) fun ((b21 : Bool), _) =>
      π.ite (b21) (
        π.ld [.int .i64] ((Addr.mk r0 (0 : Nat) none).add (1 : Nat)) fun ((x22 : Int), _) =>
        π.unSome (some (Addr.mk b (0 : Nat) none)) fun p23 =>
        π.st ((p23.add (2 : Nat)).add (1 : Nat)) [(Value.int (IntKind.i64) (x22))] <|
        π.unSome (some (Addr.mk b (0 : Nat) none)) fun p24 =>
        π.st (p24.add (15 : Nat)) [(Value.bool (true))] <|
        π.ld [.int .i64, .int .i64, .int .i64, .int .i64, .int .i64, .int .i64, .int .i64, .bool, .slice, .str] (Addr.mk r17 (0 : Nat) none) fun ((x25 : Int), (x26 : Int), (x27 : Int), (x28 : Int), (x29 : Int), (x30 : Int), (x31 : Int), (b32 : Bool), ((a33 : Option Addr), (n34 : Nat), (c35 : Nat)), (t36 : ByteArray), _) =>
        π.nw (Obj.cells #[(Value.int (IntKind.i64) (x25)), (Value.int (IntKind.i64) (x26)), (Value.int (IntKind.i64) (x27)), (Value.int (IntKind.i64) (x28)), (Value.int (IntKind.i64) (x29)), (Value.int (IntKind.i64) (x30)), (Value.int (IntKind.i64) (x31)), (Value.bool (b32)), (Value.slice (a33) (n34) (c35)), (Value.string (t36))] (119 : Nat) ((0 : Nat), (0 : Nat))) fun r37 =>
        π.ret (Value.slice (some (Addr.mk r37 (0 : Nat) none)) ((1 : Nat)) ((1 : Nat)))
      ) (
        π.ld [.int .i64, .int .i64, .int .i64, .int .i64, .int .i64, .int .i64, .int .i64, .bool, .slice, .str] (Addr.mk r17 (0 : Nat) none) fun ((x38 : Int), (x39 : Int), (x40 : Int), (x41 : Int), (x42 : Int), (x43 : Int), (x44 : Int), (b45 : Bool), ((a46 : Option Addr), (n47 : Nat), (c48 : Nat)), (t49 : ByteArray), _) =>
        π.nw (Obj.cells #[(Value.int (IntKind.i64) (x38)), (Value.int (IntKind.i64) (x39)), (Value.int (IntKind.i64) (x40)), (Value.int (IntKind.i64) (x41)), (Value.int (IntKind.i64) (x42)), (Value.int (IntKind.i64) (x43)), (Value.int (IntKind.i64) (x44)), (Value.bool (b45)), (Value.slice (a46) (n47) (c48)), (Value.string (t49))] (119 : Nat) ((0 : Nat), (0 : Nat))) fun r50 =>
        π.ret (Value.slice (some (Addr.mk r50 (0 : Nat) none)) ((1 : Nat)) ((1 : Nat)))
      )
    ) (
      π.ld [.int .i64] ((Addr.mk r0 (0 : Nat) none).add (5 : Nat)) fun ((x51 : Int), _) =>
      π.ite (x51 == x2) (
        π.ld [.int .i64] ((Addr.mk r0 (0 : Nat) none).add (4 : Nat)) fun ((x52 : Int), _) =>
        π.callQ (55 : Nat) #[(Value.pointer (some (Addr.mk b (0 : Nat) none)))] (false, [(false, [.int .i64])]) fun (((x53 : Int), _), _) =>
        π.st ((Addr.mk r17 (0 : Nat) none).add (7 : Nat)) [(Value.bool (decide (x52 ≥ x53)))] <|
        π.ld [.bool] ((Addr.mk r17 (0 : Nat) none).add (7 : Nat)) fun ((b54 : Bool), _) =>
        π.ite (b54) (
          π.ld [.int .i64] ((Addr.mk r0 (0 : Nat) none).add (1 : Nat)) fun ((x55 : Int), _) =>
          π.unSome (some (Addr.mk b (0 : Nat) none)) fun p56 =>
          π.st ((p56.add (2 : Nat)).add (1 : Nat)) [(Value.int (IntKind.i64) (x55))] <|
          π.unSome (some (Addr.mk b (0 : Nat) none)) fun p57 =>
          π.st (p57.add (15 : Nat)) [(Value.bool (true))] <|
          π.ld [.int .i64, .int .i64, .int .i64, .int .i64, .int .i64, .int .i64, .int .i64, .bool, .slice, .str] (Addr.mk r17 (0 : Nat) none) fun ((x58 : Int), (x59 : Int), (x60 : Int), (x61 : Int), (x62 : Int), (x63 : Int), (x64 : Int), (b65 : Bool), ((a66 : Option Addr), (n67 : Nat), (c68 : Nat)), (t69 : ByteArray), _) =>
          π.nw (Obj.cells #[(Value.int (IntKind.i64) (x58)), (Value.int (IntKind.i64) (x59)), (Value.int (IntKind.i64) (x60)), (Value.int (IntKind.i64) (x61)), (Value.int (IntKind.i64) (x62)), (Value.int (IntKind.i64) (x63)), (Value.int (IntKind.i64) (x64)), (Value.bool (b65)), (Value.slice (a66) (n67) (c68)), (Value.string (t69))] (119 : Nat) ((0 : Nat), (0 : Nat))) fun r70 =>
          π.ret (Value.slice (some (Addr.mk r70 (0 : Nat) none)) ((1 : Nat)) ((1 : Nat)))
        ) (
          π.ld [.int .i64, .int .i64, .int .i64, .int .i64, .int .i64, .int .i64, .int .i64, .bool, .slice, .str] (Addr.mk r17 (0 : Nat) none) fun ((x71 : Int), (x72 : Int), (x73 : Int), (x74 : Int), (x75 : Int), (x76 : Int), (x77 : Int), (b78 : Bool), ((a79 : Option Addr), (n80 : Nat), (c81 : Nat)), (t82 : ByteArray), _) =>
          π.nw (Obj.cells #[(Value.int (IntKind.i64) (x71)), (Value.int (IntKind.i64) (x72)), (Value.int (IntKind.i64) (x73)), (Value.int (IntKind.i64) (x74)), (Value.int (IntKind.i64) (x75)), (Value.int (IntKind.i64) (x76)), (Value.int (IntKind.i64) (x77)), (Value.bool (b78)), (Value.slice (a79) (n80) (c81)), (Value.string (t82))] (119 : Nat) ((0 : Nat), (0 : Nat))) fun r83 =>
          π.ret (Value.slice (some (Addr.mk r83 (0 : Nat) none)) ((1 : Nat)) ((1 : Nat)))
        )
      ) (
        π.st ((Addr.mk r17 (0 : Nat) none).add (7 : Nat)) [(Value.bool (false))] <|
        π.ld [.bool] ((Addr.mk r17 (0 : Nat) none).add (7 : Nat)) fun ((b84 : Bool), _) =>
        π.ite (b84) (
          π.ld [.int .i64] ((Addr.mk r0 (0 : Nat) none).add (1 : Nat)) fun ((x85 : Int), _) =>
          π.unSome (some (Addr.mk b (0 : Nat) none)) fun p86 =>
          π.st ((p86.add (2 : Nat)).add (1 : Nat)) [(Value.int (IntKind.i64) (x85))] <|
          π.unSome (some (Addr.mk b (0 : Nat) none)) fun p87 =>
          π.st (p87.add (15 : Nat)) [(Value.bool (true))] <|
          π.ld [.int .i64, .int .i64, .int .i64, .int .i64, .int .i64, .int .i64, .int .i64, .bool, .slice, .str] (Addr.mk r17 (0 : Nat) none) fun ((x88 : Int), (x89 : Int), (x90 : Int), (x91 : Int), (x92 : Int), (x93 : Int), (x94 : Int), (b95 : Bool), ((a96 : Option Addr), (n97 : Nat), (c98 : Nat)), (t99 : ByteArray), _) =>
          π.nw (Obj.cells #[(Value.int (IntKind.i64) (x88)), (Value.int (IntKind.i64) (x89)), (Value.int (IntKind.i64) (x90)), (Value.int (IntKind.i64) (x91)), (Value.int (IntKind.i64) (x92)), (Value.int (IntKind.i64) (x93)), (Value.int (IntKind.i64) (x94)), (Value.bool (b95)), (Value.slice (a96) (n97) (c98)), (Value.string (t99))] (119 : Nat) ((0 : Nat), (0 : Nat))) fun r100 =>
          π.ret (Value.slice (some (Addr.mk r100 (0 : Nat) none)) ((1 : Nat)) ((1 : Nat)))
        ) (
          π.ld [.int .i64, .int .i64, .int .i64, .int .i64, .int .i64, .int .i64, .int .i64, .bool, .slice, .str] (Addr.mk r17 (0 : Nat) none) fun ((x101 : Int), (x102 : Int), (x103 : Int), (x104 : Int), (x105 : Int), (x106 : Int), (x107 : Int), (b108 : Bool), ((a109 : Option Addr), (n110 : Nat), (c111 : Nat)), (t112 : ByteArray), _) =>
          π.nw (Obj.cells #[(Value.int (IntKind.i64) (x101)), (Value.int (IntKind.i64) (x102)), (Value.int (IntKind.i64) (x103)), (Value.int (IntKind.i64) (x104)), (Value.int (IntKind.i64) (x105)), (Value.int (IntKind.i64) (x106)), (Value.int (IntKind.i64) (x107)), (Value.bool (b108)), (Value.slice (a109) (n110) (c111)), (Value.string (t112))] (119 : Nat) ((0 : Nat), (0 : Nat))) fun r113 =>
          π.ret (Value.slice (some (Addr.mk r113 (0 : Nat) none)) ((1 : Nat)) ((1 : Nat)))
        )
      )
    )
  ) (
    π.unSome (some (Addr.mk b (0 : Nat) none)) fun p114 =>
    π.ld [.int .i64] ((p114.add (2 : Nat)).add (1 : Nat)) fun ((x115 : Int), _) =>
    π.ld [.int .i64] ((Addr.mk r0 (0 : Nat) none).add (1 : Nat)) fun ((x116 : Int), _) =>
    π.ite (x115 == x116) (
      π.ld [.int .i64] ((Addr.mk r0 (0 : Nat) none).add (5 : Nat)) fun ((x117 : Int), _) =>
      π.ite (decide (x117 > x2)) (
        π.st ((Addr.mk r17 (0 : Nat) none).add (7 : Nat)) [(Value.bool (true))] <|
        π.ld [.bool] ((Addr.mk r17 (0 : Nat) none).add (7 : Nat)) fun ((b118 : Bool), _) =>
        π.ite (b118) (
          π.ld [.int .i64] ((Addr.mk r0 (0 : Nat) none).add (1 : Nat)) fun ((x119 : Int), _) =>
          π.unSome (some (Addr.mk b (0 : Nat) none)) fun p120 =>
          π.st ((p120.add (2 : Nat)).add (1 : Nat)) [(Value.int (IntKind.i64) (x119))] <|
          π.unSome (some (Addr.mk b (0 : Nat) none)) fun p121 =>
          π.st (p121.add (15 : Nat)) [(Value.bool (true))] <|
          π.ld [.int .i64, .int .i64, .int .i64, .int .i64, .int .i64, .int .i64, .int .i64, .bool, .slice, .str] (Addr.mk r17 (0 : Nat) none) fun ((x122 : Int), (x123 : Int), (x124 : Int), (x125 : Int), (x126 : Int), (x127 : Int), (x128 : Int), (b129 : Bool), ((a130 : Option Addr), (n131 : Nat), (c132 : Nat)), (t133 : ByteArray), _) =>
          π.nw (Obj.cells #[(Value.int (IntKind.i64) (x122)), (Value.int (IntKind.i64) (x123)), (Value.int (IntKind.i64) (x124)), (Value.int (IntKind.i64) (x125)), (Value.int (IntKind.i64) (x126)), (Value.int (IntKind.i64) (x127)), (Value.int (IntKind.i64) (x128)), (Value.bool (b129)), (Value.slice (a130) (n131) (c132)), (Value.string (t133))] (119 : Nat) ((0 : Nat), (0 : Nat))) fun r134 =>
          π.ret (Value.slice (some (Addr.mk r134 (0 : Nat) none)) ((1 : Nat)) ((1 : Nat)))
        ) (
          π.ld [.int .i64, .int .i64, .int .i64, .int .i64, .int .i64, .int .i64, .int .i64, .bool, .slice, .str] (Addr.mk r17 (0 : Nat) none) fun ((x135 : Int), (x136 : Int), (x137 : Int), (x138 : Int), (x139 : Int), (x140 : Int), (x141 : Int), (b142 : Bool), ((a143 : Option Addr), (n144 : Nat), (c145 : Nat)), (t146 : ByteArray), _) =>
          π.nw (Obj.cells #[(Value.int (IntKind.i64) (x135)), (Value.int (IntKind.i64) (x136)), (Value.int (IntKind.i64) (x137)), (Value.int (IntKind.i64) (x138)), (Value.int (IntKind.i64) (x139)), (Value.int (IntKind.i64) (x140)), (Value.int (IntKind.i64) (x141)), (Value.bool (b142)), (Value.slice (a143) (n144) (c145)), (Value.string (t146))] (119 : Nat) ((0 : Nat), (0 : Nat))) fun r147 =>
          π.ret (Value.slice (some (Addr.mk r147 (0 : Nat) none)) ((1 : Nat)) ((1 : Nat)))
        )
      ) (
        π.ld [.int .i64] ((Addr.mk r0 (0 : Nat) none).add (5 : Nat)) fun ((x148 : Int), _) =>
        π.ite (x148 == x2) (
          π.ld [.int .i64] ((Addr.mk r0 (0 : Nat) none).add (4 : Nat)) fun ((x149 : Int), _) =>
          π.callQ (55 : Nat) #[(Value.pointer (some (Addr.mk b (0 : Nat) none)))] (false, [(false, [.int .i64])]) fun (((x150 : Int), _), _) =>
          π.st ((Addr.mk r17 (0 : Nat) none).add (7 : Nat)) [(Value.bool (decide (x149 ≥ x150)))] <|
          π.ld [.bool] ((Addr.mk r17 (0 : Nat) none).add (7 : Nat)) fun ((b151 : Bool), _) =>
          π.ite (b151) (
            π.ld [.int .i64] ((Addr.mk r0 (0 : Nat) none).add (1 : Nat)) fun ((x152 : Int), _) =>
            π.unSome (some (Addr.mk b (0 : Nat) none)) fun p153 =>
            π.st ((p153.add (2 : Nat)).add (1 : Nat)) [(Value.int (IntKind.i64) (x152))] <|
            π.unSome (some (Addr.mk b (0 : Nat) none)) fun p154 =>
            π.st (p154.add (15 : Nat)) [(Value.bool (true))] <|
            π.ld [.int .i64, .int .i64, .int .i64, .int .i64, .int .i64, .int .i64, .int .i64, .bool, .slice, .str] (Addr.mk r17 (0 : Nat) none) fun ((x155 : Int), (x156 : Int), (x157 : Int), (x158 : Int), (x159 : Int), (x160 : Int), (x161 : Int), (b162 : Bool), ((a163 : Option Addr), (n164 : Nat), (c165 : Nat)), (t166 : ByteArray), _) =>
            π.nw (Obj.cells #[(Value.int (IntKind.i64) (x155)), (Value.int (IntKind.i64) (x156)), (Value.int (IntKind.i64) (x157)), (Value.int (IntKind.i64) (x158)), (Value.int (IntKind.i64) (x159)), (Value.int (IntKind.i64) (x160)), (Value.int (IntKind.i64) (x161)), (Value.bool (b162)), (Value.slice (a163) (n164) (c165)), (Value.string (t166))] (119 : Nat) ((0 : Nat), (0 : Nat))) fun r167 =>
            π.ret (Value.slice (some (Addr.mk r167 (0 : Nat) none)) ((1 : Nat)) ((1 : Nat)))
          ) (
            π.ld [.int .i64, .int .i64, .int .i64, .int .i64, .int .i64, .int .i64, .int .i64, .bool, .slice, .str] (Addr.mk r17 (0 : Nat) none) fun ((x168 : Int), (x169 : Int), (x170 : Int), (x171 : Int), (x172 : Int), (x173 : Int), (x174 : Int), (b175 : Bool), ((a176 : Option Addr), (n177 : Nat), (c178 : Nat)), (t179 : ByteArray), _) =>
            π.nw (Obj.cells #[(Value.int (IntKind.i64) (x168)), (Value.int (IntKind.i64) (x169)), (Value.int (IntKind.i64) (x170)), (Value.int (IntKind.i64) (x171)), (Value.int (IntKind.i64) (x172)), (Value.int (IntKind.i64) (x173)), (Value.int (IntKind.i64) (x174)), (Value.bool (b175)), (Value.slice (a176) (n177) (c178)), (Value.string (t179))] (119 : Nat) ((0 : Nat), (0 : Nat))) fun r180 =>
            π.ret (Value.slice (some (Addr.mk r180 (0 : Nat) none)) ((1 : Nat)) ((1 : Nat)))
          )
        ) (
          π.st ((Addr.mk r17 (0 : Nat) none).add (7 : Nat)) [(Value.bool (false))] <|
          π.ld [.bool] ((Addr.mk r17 (0 : Nat) none).add (7 : Nat)) fun ((b181 : Bool), _) =>
          π.ite (b181) (
            π.ld [.int .i64] ((Addr.mk r0 (0 : Nat) none).add (1 : Nat)) fun ((x182 : Int), _) =>
            π.unSome (some (Addr.mk b (0 : Nat) none)) fun p183 =>
            π.st ((p183.add (2 : Nat)).add (1 : Nat)) [(Value.int (IntKind.i64) (x182))] <|
            π.unSome (some (Addr.mk b (0 : Nat) none)) fun p184 =>
            π.st (p184.add (15 : Nat)) [(Value.bool (true))] <|
            π.ld [.int .i64, .int .i64, .int .i64, .int .i64, .int .i64, .int .i64, .int .i64, .bool, .slice, .str] (Addr.mk r17 (0 : Nat) none) fun ((x185 : Int), (x186 : Int), (x187 : Int), (x188 : Int), (x189 : Int), (x190 : Int), (x191 : Int), (b192 : Bool), ((a193 : Option Addr), (n194 : Nat), (c195 : Nat)), (t196 : ByteArray), _) =>
            π.nw (Obj.cells #[(Value.int (IntKind.i64) (x185)), (Value.int (IntKind.i64) (x186)), (Value.int (IntKind.i64) (x187)), (Value.int (IntKind.i64) (x188)), (Value.int (IntKind.i64) (x189)), (Value.int (IntKind.i64) (x190)), (Value.int (IntKind.i64) (x191)), (Value.bool (b192)), (Value.slice (a193) (n194) (c195)), (Value.string (t196))] (119 : Nat) ((0 : Nat), (0 : Nat))) fun r197 =>
            π.ret (Value.slice (some (Addr.mk r197 (0 : Nat) none)) ((1 : Nat)) ((1 : Nat)))
          ) (
            π.ld [.int .i64, .int .i64, .int .i64, .int .i64, .int .i64, .int .i64, .int .i64, .bool, .slice, .str] (Addr.mk r17 (0 : Nat) none) fun ((x198 : Int), (x199 : Int), (x200 : Int), (x201 : Int), (x202 : Int), (x203 : Int), (x204 : Int), (b205 : Bool), ((a206 : Option Addr), (n207 : Nat), (c208 : Nat)), (t209 : ByteArray), _) =>
            π.nw (Obj.cells #[(Value.int (IntKind.i64) (x198)), (Value.int (IntKind.i64) (x199)), (Value.int (IntKind.i64) (x200)), (Value.int (IntKind.i64) (x201)), (Value.int (IntKind.i64) (x202)), (Value.int (IntKind.i64) (x203)), (Value.int (IntKind.i64) (x204)), (Value.bool (b205)), (Value.slice (a206) (n207) (c208)), (Value.string (t209))] (119 : Nat) ((0 : Nat), (0 : Nat))) fun r210 =>
            π.ret (Value.slice (some (Addr.mk r210 (0 : Nat) none)) ((1 : Nat)) ((1 : Nat)))
          )
        )
      )
    ) (
      π.st ((Addr.mk r17 (0 : Nat) none).add (7 : Nat)) [(Value.bool (false))] <|
      π.ld [.bool] ((Addr.mk r17 (0 : Nat) none).add (7 : Nat)) fun ((b211 : Bool), _) =>
      π.ite (b211) (
        π.ld [.int .i64] ((Addr.mk r0 (0 : Nat) none).add (1 : Nat)) fun ((x212 : Int), _) =>
        π.unSome (some (Addr.mk b (0 : Nat) none)) fun p213 =>
        π.st ((p213.add (2 : Nat)).add (1 : Nat)) [(Value.int (IntKind.i64) (x212))] <|
        π.unSome (some (Addr.mk b (0 : Nat) none)) fun p214 =>
        π.st (p214.add (15 : Nat)) [(Value.bool (true))] <|
        π.ld [.int .i64, .int .i64, .int .i64, .int .i64, .int .i64, .int .i64, .int .i64, .bool, .slice, .str] (Addr.mk r17 (0 : Nat) none) fun ((x215 : Int), (x216 : Int), (x217 : Int), (x218 : Int), (x219 : Int), (x220 : Int), (x221 : Int), (b222 : Bool), ((a223 : Option Addr), (n224 : Nat), (c225 : Nat)), (t226 : ByteArray), _) =>
        π.nw (Obj.cells #[(Value.int (IntKind.i64) (x215)), (Value.int (IntKind.i64) (x216)), (Value.int (IntKind.i64) (x217)), (Value.int (IntKind.i64) (x218)), (Value.int (IntKind.i64) (x219)), (Value.int (IntKind.i64) (x220)), (Value.int (IntKind.i64) (x221)), (Value.bool (b222)), (Value.slice (a223) (n224) (c225)), (Value.string (t226))] (119 : Nat) ((0 : Nat), (0 : Nat))) fun r227 =>
        π.ret (Value.slice (some (Addr.mk r227 (0 : Nat) none)) ((1 : Nat)) ((1 : Nat)))
      ) (
        π.ld [.int .i64, .int .i64, .int .i64, .int .i64, .int .i64, .int .i64, .int .i64, .bool, .slice, .str] (Addr.mk r17 (0 : Nat) none) fun ((x228 : Int), (x229 : Int), (x230 : Int), (x231 : Int), (x232 : Int), (x233 : Int), (x234 : Int), (b235 : Bool), ((a236 : Option Addr), (n237 : Nat), (c238 : Nat)), (t239 : ByteArray), _) =>
        π.nw (Obj.cells #[(Value.int (IntKind.i64) (x228)), (Value.int (IntKind.i64) (x229)), (Value.int (IntKind.i64) (x230)), (Value.int (IntKind.i64) (x231)), (Value.int (IntKind.i64) (x232)), (Value.int (IntKind.i64) (x233)), (Value.int (IntKind.i64) (x234)), (Value.bool (b235)), (Value.slice (a236) (n237) (c238)), (Value.string (t239))] (119 : Nat) ((0 : Nat), (0 : Nat))) fun r240 =>
        π.ret (Value.slice (some (Addr.mk r240 (0 : Nat) none)) ((1 : Nat)) ((1 : Nat)))
      )
    )
  )
def ann_asked : Ann := { draws := [(3, { A := [0, 1, 2, 3, 4, 5, 6, 7, 8, 9, 10, 11, 12, 13, 14, 15, 16, 17, 18, 19, 20, 21, 22, 23, 24, 25, 26, 27, 28, 29, 30, 31, 32, 33, 34, 35], quiet := [30] })], join := [], loop := [] }
def la_asked : LA := { ptr := [], ty := [] }
set_option maxRecDepth 100000 in
theorem eq_asked {W : Type} (π : Prims W) (b : Nat) (mk mf mt mm mi mp mc : Int) (mg : Bool) (la : Option Addr) (ln lc : Nat) (ms : ByteArray) : bodyL π Tryz.prog la_asked ann_asked (mkFr (maskA [] [.v (.pointer (some ⟨b, 0, none⟩)), .v (.agg #[.int .i64 mk, .int .i64 mf, .int .i64 mt, .int .i64 mm, .int .i64 mi, .int .i64 mp, .int .i64 mc, .bool mg, .slice la ln lc, .string ms])] 0) 68) Tryz.f93 (bodyOf Tryz.f93) (mkFr (List.map some [.v (.pointer (some ⟨b, 0, none⟩)), .v (.agg #[.int .i64 mk, .int .i64 mf, .int .i64 mt, .int .i64 mm, .int .i64 mi, .int .i64 mp, .int .i64 mc, .bool mg, .slice la ln lc, .string ms])]) 68) = vc_asked π b mk mf mt mm mi mp mc mg la ln lc ms := by kernel_rfl
theorem ok_asked (b : Nat) (mk mf mt mm mi mp mc : Int) (mg : Bool) (la : Option Addr) (ln lc : Nat) (ms : ByteArray) (R : Value → PH → Prop) (s : PH) (h : vc_asked (RP Tryz.prog R) b mk mf mt mm mi mp mc mg la ln lc ms s) : DCalls Tryz.prog 93 (List.map AV.val [.v (.pointer (some ⟨b, 0, none⟩)), .v (.agg #[.int .i64 mk, .int .i64 mf, .int .i64 mt, .int .i64 mm, .int .i64 mi, .int .i64 mp, .int .i64 mc, .bool mg, .slice la ln lc, .string ms])]).toArray s R :=
  calls_vcL (c := bodyOf Tryz.f93) (ann := ann_asked) la_asked (by kernel_rfl) Tryz.func93 rfl (by kernel_rfl) [.v (.pointer (some ⟨b, 0, none⟩)), .v (.agg #[.int .i64 mk, .int .i64 mf, .int .i64 mt, .int .i64 mm, .int .i64 mi, .int .i64 mp, .int .i64 mc, .bool mg, .slice la ln lc, .string ms])] [] (by rw [Tryz.ntmps93]; exact Nat.le_of_ble_eq_true rfl) (by kernel_rfl) (by rw [show Tryz.f93.ntmps = 68 from Tryz.ntmps93, eq_asked]; exact h)
/-- (*lintel/ballot.Ballot).voted -/
def vc_voted {W : Type} (π : Prims W) (b : Nat) (mk mf mt mm mi mp mc : Int) (mg : Bool) (la : Option Addr) (ln lc : Nat) (ms : ByteArray) : W :=
  π.nw (Obj.cells #[(Value.int (IntKind.i64) (mk)), (Value.int (IntKind.i64) (mf)), (Value.int (IntKind.i64) (mt)), (Value.int (IntKind.i64) (mm)), (Value.int (IntKind.i64) (mi)), (Value.int (IntKind.i64) (mp)), (Value.int (IntKind.i64) (mc)), (Value.bool (mg)), (Value.slice (la) (ln) (lc)), (Value.string (ms))] (119 : Nat) ((0 : Nat), (0 : Nat))) fun r0 =>
  π.join [(false, [.addr])] (fun J1 =>
    π.unSome (some (Addr.mk b (0 : Nat) none)) fun p2 =>
    π.ld [.int .i64] ((p2.add (2 : Nat)).add (2 : Nat)) fun ((x3 : Int), _) =>
    π.ite (x3 != (1 : Int)) (
      π.ret (Value.slice (none) ((0 : Nat)) ((0 : Nat)))
    ) (
      π.ld [.bool] ((Addr.mk r0 (0 : Nat) none).add (7 : Nat)) fun ((b4 : Bool), _) =>
      π.ite (!b4) (
        π.ret (Value.slice (none) ((0 : Nat)) ((0 : Nat)))
      ) (
        J1 ((Addr.mk r0 (0 : Nat) none, ()), ())
      )
    )
  ) (fun ((p5, _), _) =>
    π.unSome (some (Addr.mk b (0 : Nat) none)) fun p6 =>
    π.ld [.slice] (p6.add (12 : Nat)) fun (((a7 : Option Addr), (n8 : Nat), (c9 : Nat)), _) =>
    π.ld [.int .i64] (p5.add (1 : Nat)) fun ((x10 : Int), _) =>
    π.guard ((0 : Int) ≤ x10 ∧ x10 < (↑n8 : Int)) <|
    π.unSome (a7) fun p11 =>
    π.st (p11.add (x10.toNat * (1 : Nat))) [(Value.bool (true))] <|
    π.call (71 : Nat) #[(Value.pointer (some (Addr.mk b (0 : Nat) none)))] (false, [(false, [.slice])]) fun ((((a12 : Option Addr), (n13 : Nat), (c14 : Nat)), _), _) =>
    π.ret (Value.slice (a12) (n13) (c14))
  )
def ann_voted : Ann := { draws := [(3, { A := [0, 1, 2, 3, 4, 5, 6] })], join := [(3, [(3, 1000000)])], loop := [] }
def la_voted : LA := { ptr := [], ty := [] }
set_option maxRecDepth 100000 in
theorem eq_voted {W : Type} (π : Prims W) (b : Nat) (mk mf mt mm mi mp mc : Int) (mg : Bool) (la : Option Addr) (ln lc : Nat) (ms : ByteArray) : bodyL π Tryz.prog la_voted ann_voted (mkFr (maskA [] [.v (.pointer (some ⟨b, 0, none⟩)), .v (.agg #[.int .i64 mk, .int .i64 mf, .int .i64 mt, .int .i64 mm, .int .i64 mi, .int .i64 mp, .int .i64 mc, .bool mg, .slice la ln lc, .string ms])] 0) 25) Tryz.f94 (bodyOf Tryz.f94) (mkFr (List.map some [.v (.pointer (some ⟨b, 0, none⟩)), .v (.agg #[.int .i64 mk, .int .i64 mf, .int .i64 mt, .int .i64 mm, .int .i64 mi, .int .i64 mp, .int .i64 mc, .bool mg, .slice la ln lc, .string ms])]) 25) = vc_voted π b mk mf mt mm mi mp mc mg la ln lc ms := by kernel_rfl
theorem ok_voted (b : Nat) (mk mf mt mm mi mp mc : Int) (mg : Bool) (la : Option Addr) (ln lc : Nat) (ms : ByteArray) (R : Value → PH → Prop) (s : PH) (h : vc_voted (RP Tryz.prog R) b mk mf mt mm mi mp mc mg la ln lc ms s) : DCalls Tryz.prog 94 (List.map AV.val [.v (.pointer (some ⟨b, 0, none⟩)), .v (.agg #[.int .i64 mk, .int .i64 mf, .int .i64 mt, .int .i64 mm, .int .i64 mi, .int .i64 mp, .int .i64 mc, .bool mg, .slice la ln lc, .string ms])]).toArray s R :=
  calls_vcL (c := bodyOf Tryz.f94) (ann := ann_voted) la_voted (by kernel_rfl) Tryz.func94 rfl (by kernel_rfl) [.v (.pointer (some ⟨b, 0, none⟩)), .v (.agg #[.int .i64 mk, .int .i64 mf, .int .i64 mt, .int .i64 mm, .int .i64 mi, .int .i64 mp, .int .i64 mc, .bool mg, .slice la ln lc, .string ms])] [] (by rw [Tryz.ntmps94]; exact Nat.le_of_ble_eq_true rfl) (by kernel_rfl) (by rw [show Tryz.f94.ntmps = 25 from Tryz.ntmps94, eq_voted]; exact h)
/-- (*lintel/ballot.Ballot).fed -/
def vc_fed {W : Type} (π : Prims W) (b : Nat) (mk mf mt mm mi mp mc : Int) (mg : Bool) (la : Option Addr) (ln lc : Nat) (ms : ByteArray) : W :=
  π.nw (Obj.cells #[(Value.int (IntKind.i64) (mk)), (Value.int (IntKind.i64) (mf)), (Value.int (IntKind.i64) (mt)), (Value.int (IntKind.i64) (mm)), (Value.int (IntKind.i64) (mi)), (Value.int (IntKind.i64) (mp)), (Value.int (IntKind.i64) (mc)), (Value.bool (mg)), (Value.slice (la) (ln) (lc)), (Value.string (ms))] (119 : Nat) ((0 : Nat), (0 : Nat))) fun r0 =>
  π.unSome (some (Addr.mk b (0 : Nat) none)) fun p1 =>
  π.ld [.int .i64] ((p1.add (2 : Nat)).add (2 : Nat)) fun ((x2 : Int), _) =>
  π.ite (x2 == (2 : Int)) (
    π.ret (Value.slice (none) ((0 : Nat)) ((0 : Nat)))
  ) (
    π.ld [.int .i64] ((Addr.mk r0 (0 : Nat) none).add (1 : Nat)) fun ((x3 : Int), _) =>
    π.unSome (some (Addr.mk b (0 : Nat) none)) fun p4 =>
    π.st ((p4.add (2 : Nat)).add (2 : Nat)) [(Value.int (IntKind.i64) ((0 : Int)))] <|
    π.still [.int .i64] ((Addr.mk r0 (0 : Nat) none).add (1 : Nat)) (x3, ()) <|
    π.unSome (some (Addr.mk b (0 : Nat) none)) fun p5 =>
    π.st ((p5.add (2 : Nat)).add (3 : Nat)) [(Value.int (IntKind.i64) (x3))] <|
    π.ld [.int .i64] ((Addr.mk r0 (0 : Nat) none).add (4 : Nat)) fun ((x6 : Int), _) =>
    π.ld [.slice] ((Addr.mk r0 (0 : Nat) none).add (8 : Nat)) fun (((a7 : Option Addr), (n8 : Nat), (c9 : Nat)), _) =>
    π.unSome (some (Addr.mk b (0 : Nat) none)) fun p10 =>
    π.ld [.int .i64] ((p10.add (2 : Nat)).add (6 : Nat)) fun ((x11 : Int), _) =>
    π.ite (decide (IntKind.i64.wrap (x6 + (↑n8 : Int)) ≤ x11)) (
      π.ld [.int .i64] ((Addr.mk r0 (0 : Nat) none).add (1 : Nat)) fun ((x12 : Int), _) =>
      π.call (92 : Nat) #[(Value.pointer (some (Addr.mk b (0 : Nat) none))), (Value.int (IntKind.i64) (x12)), (Value.bool (true)), (Value.int (IntKind.i64) (IntKind.i64.wrap (x6 + (↑n8 : Int))))] (false, [(false, [.slice])]) fun ((((a13 : Option Addr), (n14 : Nat), (c15 : Nat)), _), _) =>
      π.ret (Value.slice (a13) (n14) (c15))
    ) (
      π.ld [.slice] ((Addr.mk r0 (0 : Nat) none).add (8 : Nat)) fun (((a16 : Option Addr), (n17 : Nat), (c18 : Nat)), _) =>
      π.ld [.int .i64] ((Addr.mk r0 (0 : Nat) none).add (4 : Nat)) fun ((x19 : Int), _) =>
      π.join [(false, [.addr]), (false, [.int .i64]), (false, [.slice]), (false, [.int .i64])] (fun J20 =>
        π.unSome (some (Addr.mk b (0 : Nat) none)) fun p21 =>
        π.ld [.int .i64] ((p21.add (2 : Nat)).add (6 : Nat)) fun ((x22 : Int), _) =>
        π.ite (decide (x19 < x22)) (
          π.unSome (some (Addr.mk b (0 : Nat) none)) fun p23 =>
          π.ld [.int .i64] ((p23.add (2 : Nat)).add (6 : Nat)) fun ((x24 : Int), _) =>
          π.guard ((0 : Int) ≤ IntKind.i64.wrap (x24 - x19) ∧ IntKind.i64.wrap (x24 - x19) ≤ (↑n17 : Int) ∧ (↑n17 : Int) ≤ (↑c18 : Int)) <|
          π.unSome (some (Addr.mk b (0 : Nat) none)) fun p25 =>
          π.ld [.int .i64] ((p25.add (2 : Nat)).add (6 : Nat)) fun ((x26 : Int), _) =>
          J20 ((Addr.mk r0 (0 : Nat) none, ()), (IntKind.i64.wrap (x6 + (↑n8 : Int)), ()), ((if c18 = (IntKind.i64.wrap (x24 - x19)).toNat then a16 else Option.map (fun x => x.add ((IntKind.i64.wrap (x24 - x19)).toNat * (4 : Nat))) a16, (↑n17 : Int).toNat - (IntKind.i64.wrap (x24 - x19)).toNat, c18 - (IntKind.i64.wrap (x24 - x19)).toNat), ()), (x26, ()), ())
        ) (
          π.call (77 : Nat) #[(Value.pointer (some (Addr.mk b (0 : Nat) none))), (Value.int (IntKind.i64) (x19))] (true, [(false, [.int .i64]), (false, [.bool])]) fun (((x27 : Int), _), ((b28 : Bool), _), _) =>
          π.join [(false, [.addr]), (false, [.int .i64]), (false, [.slice]), (false, [.int .i64]), (false, [.bool])] (fun J29 =>
            π.ite (!b28) (
              J29 ((Addr.mk r0 (0 : Nat) none, ()), (IntKind.i64.wrap (x6 + (↑n8 : Int)), ()), ((a16, n17, c18), ()), (x19, ()), (true, ()), ())
            ) (
              π.ld [.int .i64] ((Addr.mk r0 (0 : Nat) none).add (5 : Nat)) fun ((x30 : Int), _) =>
              J29 ((Addr.mk r0 (0 : Nat) none, ()), (IntKind.i64.wrap (x6 + (↑n8 : Int)), ()), ((a16, n17, c18), ()), (x19, ()), (x27 != x30, ()), ())
            )
          ) (fun ((p31, _), ((x32 : Int), _), (((a33 : Option Addr), (n34 : Nat), (c35 : Nat)), _), ((x36 : Int), _), ((b37 : Bool), _), _) =>
            π.ite (b37) (
              π.ld [.int .i64] (p31.add (1 : Nat)) fun ((x38 : Int), _) =>
              π.callQ (55 : Nat) #[(Value.pointer (some (Addr.mk b (0 : Nat) none)))] (false, [(false, [.int .i64])]) fun (((x39 : Int), _), _) =>
              π.call (92 : Nat) #[(Value.pointer (some (Addr.mk b (0 : Nat) none))), (Value.int (IntKind.i64) (x38)), (Value.bool (false)), (Value.int (IntKind.i64) (if IntKind.i64.wrap (x36 - (1 : Int)) < x39 then IntKind.i64.wrap (x36 - (1 : Int)) else x39))] (false, [(false, [.slice])]) fun ((((a40 : Option Addr), (n41 : Nat), (c42 : Nat)), _), _) =>
              π.ret (Value.slice (a40) (n41) (c42))
            ) (
              J20 ((p31, ()), (x32, ()), ((a33, n34, c35), ()), (x36, ()), ())
            )
          )
        )
      ) (fun ((p43, _), ((x44 : Int), _), (((a45 : Option Addr), (n46 : Nat), (c47 : Nat)), _), ((x48 : Int), _), _) =>
        π.join [(false, [.addr]), (false, [.int .i64])] (fun J49 =>
          π.loop [(false, [.addr]), (false, [.int .i64]), (false, [.slice]), (false, [.int .i64]), (false, [.slice]), (false, [.int .i64]), (false, [.int .i64])] ((p43, ()), (x44, ()), ((a45, n46, c47), ()), (x48, ()), ((a45, n46, c47), ()), ((↑n46 : Int), ()), ((0 : Int), ()), ()) fun ((p51, _), ((x52 : Int), _), (((a53 : Option Addr), (n54 : Nat), (c55 : Nat)), _), ((x56 : Int), _), (((a57 : Option Addr), (n58 : Nat), (c59 : Nat)), _), ((x60 : Int), _), ((x61 : Int), _), _) again50 =>
            π.ite (decide (x61 < x60)) (
              π.guard ((0 : Int) ≤ x61 ∧ x61 < (↑n58 : Int)) <|
              π.unSome (a57) fun p62 =>
              π.ld [.int .i64, .int .i64, .int .i64, .str] (p62.add (x61.toNat * (4 : Nat))) fun ((x63 : Int), (x64 : Int), (x65 : Int), (t66 : ByteArray), _) =>
              π.nw (Obj.cells #[(Value.int (IntKind.i64) ((0 : Int))), (Value.int (IntKind.i64) ((0 : Int))), (Value.int (IntKind.i64) ((0 : Int))), (Value.string (ByteArray.mk #[]))] (43 : Nat) ((0 : Nat), (0 : Nat))) fun r67 =>
              π.st (Addr.mk r67 (0 : Nat) none) [(Value.int (IntKind.i64) (x63)), (Value.int (IntKind.i64) (x64)), (Value.int (IntKind.i64) (x65)), (Value.string (t66))] <|
              π.call (77 : Nat) #[(Value.pointer (some (Addr.mk b (0 : Nat) none))), (Value.int (IntKind.i64) (IntKind.i64.wrap (IntKind.i64.wrap (x56 + (1 : Int)) + x61)))] (true, [(false, [.int .i64]), (false, [.bool])]) fun (((x68 : Int), _), ((b69 : Bool), _), _) =>
              π.ite (!b69) (
                π.guard ((0 : Int) ≤ x61 ∧ x61 ≤ (↑n54 : Int) ∧ (↑n54 : Int) ≤ (↑c55 : Int)) <|
                π.call (73 : Nat) #[(Value.pointer (some (Addr.mk b (0 : Nat) none))), (Value.int (IntKind.i64) (IntKind.i64.wrap (IntKind.i64.wrap (x56 + (1 : Int)) + x61))), (Value.slice (if c55 = x61.toNat then a53 else Option.map (fun x => x.add (x61.toNat * (4 : Nat))) a53) ((↑n54 : Int).toNat - x61.toNat) (c55 - x61.toNat))] (true, []) fun (_) =>
                J49 ((p51, ()), (x52, ()), ())
              ) (
                π.ld [.int .i64] ((Addr.mk r67 (0 : Nat) none).add (0 : Nat)) fun ((x70 : Int), _) =>
                π.ite (x68 != x70) (
                  π.guard ((0 : Int) ≤ x61 ∧ x61 ≤ (↑n54 : Int) ∧ (↑n54 : Int) ≤ (↑c55 : Int)) <|
                  π.call (73 : Nat) #[(Value.pointer (some (Addr.mk b (0 : Nat) none))), (Value.int (IntKind.i64) (IntKind.i64.wrap (IntKind.i64.wrap (x56 + (1 : Int)) + x61))), (Value.slice (if c55 = x61.toNat then a53 else Option.map (fun x => x.add (x61.toNat * (4 : Nat))) a53) ((↑n54 : Int).toNat - x61.toNat) (c55 - x61.toNat))] (true, []) fun (_) =>
                  J49 ((p51, ()), (x52, ()), ())
                ) (
                  again50 ((p51, ()), (x52, ()), ((a53, n54, c55), ()), (x56, ()), ((a57, n58, c59), ()), (x60, ()), (IntKind.i64.wrap (x61 + (1 : Int)), ()), ())
                )
              )
            ) (
              J49 ((p51, ()), (x52, ()), ())
            )
        ) (fun ((p71, _), ((x72 : Int), _), _) =>
          π.unSome (some (Addr.mk b (0 : Nat) none)) fun p73 =>
          π.ld [.int .i64] ((p73.add (2 : Nat)).add (6 : Nat)) fun ((x74 : Int), _) =>
          π.ld [.int .i64] (p71.add (6 : Nat)) fun ((x75 : Int), _) =>
          π.unSome (some (Addr.mk b (0 : Nat) none)) fun p76 =>
          π.st ((p76.add (2 : Nat)).add (6 : Nat)) [(Value.int (IntKind.i64) (if (if x72 < x75 then x72 else x75) > x74 then if x72 < x75 then x72 else x75 else x74))] <|
          π.ld [.int .i64] (p71.add (1 : Nat)) fun ((x77 : Int), _) =>
          π.call (92 : Nat) #[(Value.pointer (some (Addr.mk b (0 : Nat) none))), (Value.int (IntKind.i64) (x77)), (Value.bool (true)), (Value.int (IntKind.i64) (x72))] (false, [(false, [.slice])]) fun ((((a78 : Option Addr), (n79 : Nat), (c80 : Nat)), _), _) =>
          π.ret (Value.slice (a78) (n79) (c80))
        )
      )
    )
  )
def ann_fed : Ann := { draws := [(3, { A := [0, 1, 2, 3, 4, 5, 6], chkL := [(7, [3])], eag := [8, 9, 10] }), (7, { A := [0, 1, 2, 3, 4, 5] }), (9, { A := [0, 1, 2, 3, 4, 5, 6, 7, 8, 9, 10, 11, 12, 13] }), (12, { A := [0, 1, 2, 3, 4, 5, 6, 7], quiet := [4], eag := [9] }), (20, { A := [0, 1, 2, 3, 4, 5, 6, 7, 8, 9, 10, 11, 12, 13] })], join := [(12, [(3, 1000000), (5, 3), (6, 97), (7, 3), (86, 4)]), (13, [(3, 1000000), (5, 3), (6, 97), (7, 3)]), (20, [(3, 1000000), (5, 3)])], loop := [(14, [(3, 1000000), (5, 3), (6, 97), (7, 3), (96, 97), (97, 3), (98, 3)])] }
def la_fed : LA := { ptr := [], ty := [] }
set_option maxRecDepth 100000 in
theorem eq_fed {W : Type} (π : Prims W) (b : Nat) (mk mf mt mm mi mp mc : Int) (mg : Bool) (la : Option Addr) (ln lc : Nat) (ms : ByteArray) : bodyL π Tryz.prog la_fed ann_fed (mkFr (maskA [] [.v (.pointer (some ⟨b, 0, none⟩)), .v (.agg #[.int .i64 mk, .int .i64 mf, .int .i64 mt, .int .i64 mm, .int .i64 mi, .int .i64 mp, .int .i64 mc, .bool mg, .slice la ln lc, .string ms])] 0) 149) Tryz.f95 (bodyOf Tryz.f95) (mkFr (List.map some [.v (.pointer (some ⟨b, 0, none⟩)), .v (.agg #[.int .i64 mk, .int .i64 mf, .int .i64 mt, .int .i64 mm, .int .i64 mi, .int .i64 mp, .int .i64 mc, .bool mg, .slice la ln lc, .string ms])]) 149) = vc_fed π b mk mf mt mm mi mp mc mg la ln lc ms := by kernel_rfl
theorem ok_fed (b : Nat) (mk mf mt mm mi mp mc : Int) (mg : Bool) (la : Option Addr) (ln lc : Nat) (ms : ByteArray) (R : Value → PH → Prop) (s : PH) (h : vc_fed (RP Tryz.prog R) b mk mf mt mm mi mp mc mg la ln lc ms s) : DCalls Tryz.prog 95 (List.map AV.val [.v (.pointer (some ⟨b, 0, none⟩)), .v (.agg #[.int .i64 mk, .int .i64 mf, .int .i64 mt, .int .i64 mm, .int .i64 mi, .int .i64 mp, .int .i64 mc, .bool mg, .slice la ln lc, .string ms])]).toArray s R :=
  calls_vcL (c := bodyOf Tryz.f95) (ann := ann_fed) la_fed (by kernel_rfl) Tryz.func95 rfl (by kernel_rfl) [.v (.pointer (some ⟨b, 0, none⟩)), .v (.agg #[.int .i64 mk, .int .i64 mf, .int .i64 mt, .int .i64 mm, .int .i64 mi, .int .i64 mp, .int .i64 mc, .bool mg, .slice la ln lc, .string ms])] [] (by rw [Tryz.ntmps95]; exact Nat.le_of_ble_eq_true rfl) (by kernel_rfl) (by rw [show Tryz.f95.ntmps = 149 from Tryz.ntmps95, eq_fed]; exact h)
/-- (*lintel/ballot.Ballot).heard -/
def vc_heard {W : Type} (π : Prims W) (b : Nat) (mk mf mt mm mi mp mc : Int) (mg : Bool) (la : Option Addr) (ln lc : Nat) (ms : ByteArray) : W :=
  π.nw (Obj.cells #[(Value.int (IntKind.i64) (mk)), (Value.int (IntKind.i64) (mf)), (Value.int (IntKind.i64) (mt)), (Value.int (IntKind.i64) (mm)), (Value.int (IntKind.i64) (mi)), (Value.int (IntKind.i64) (mp)), (Value.int (IntKind.i64) (mc)), (Value.bool (mg)), (Value.slice (la) (ln) (lc)), (Value.string (ms))] (119 : Nat) ((0 : Nat), (0 : Nat))) fun r0 =>
  π.unSome (some (Addr.mk b (0 : Nat) none)) fun p1 =>
  π.ld [.int .i64] ((p1.add (2 : Nat)).add (2 : Nat)) fun ((x2 : Int), _) =>
  π.ite (x2 != (2 : Int)) (
    π.ret (Value.slice (none) ((0 : Nat)) ((0 : Nat)))
  ) (
    π.ld [.int .i64] ((Addr.mk r0 (0 : Nat) none).add (1 : Nat)) fun ((x3 : Int), _) =>
    π.ld [.bool] ((Addr.mk r0 (0 : Nat) none).add (7 : Nat)) fun ((b4 : Bool), _) =>
    π.ite (!b4) (
      π.unSome (some (Addr.mk b (0 : Nat) none)) fun p5 =>
      π.ld [.slice] (p5.add (13 : Nat)) fun (((a6 : Option Addr), (n7 : Nat), (c8 : Nat)), _) =>
      π.unSome (some (Addr.mk b (0 : Nat) none)) fun p9 =>
      π.ld [.slice] (p9.add (14 : Nat)) fun (((a10 : Option Addr), (n11 : Nat), (c12 : Nat)), _) =>
      π.guard ((0 : Int) ≤ x3 ∧ x3 < (↑n11 : Int)) <|
      π.unSome (a10) fun p13 =>
      π.ld [.int .i64] (p13.add (x3.toNat * (1 : Nat))) fun ((x14 : Int), _) =>
      π.unSome (some (Addr.mk b (0 : Nat) none)) fun p15 =>
      π.ld [.slice] (p15.add (13 : Nat)) fun (((a16 : Option Addr), (n17 : Nat), (c18 : Nat)), _) =>
      π.guard ((0 : Int) ≤ x3 ∧ x3 < (↑n17 : Int)) <|
      π.unSome (a16) fun p19 =>
      π.ld [.int .i64] (p19.add (x3.toNat * (1 : Nat))) fun ((x20 : Int), _) =>
      π.ld [.int .i64] ((Addr.mk r0 (0 : Nat) none).add (4 : Nat)) fun ((x21 : Int), _) =>
      π.guard ((0 : Int) ≤ x3 ∧ x3 < (↑n7 : Int)) <|
      π.unSome (a6) fun p22 =>
      π.st (p22.add (x3.toNat * (1 : Nat))) [(Value.int (IntKind.i64) (if (if IntKind.i64.wrap (x21 + (1 : Int)) < IntKind.i64.wrap (x20 - (1 : Int)) then IntKind.i64.wrap (x21 + (1 : Int)) else IntKind.i64.wrap (x20 - (1 : Int))) > IntKind.i64.wrap (x14 + (1 : Int)) then if IntKind.i64.wrap (x21 + (1 : Int)) < IntKind.i64.wrap (x20 - (1 : Int)) then IntKind.i64.wrap (x21 + (1 : Int)) else IntKind.i64.wrap (x20 - (1 : Int)) else IntKind.i64.wrap (x14 + (1 : Int))))] <|
      π.call (72 : Nat) #[(Value.pointer (some (Addr.mk b (0 : Nat) none))), (Value.int (IntKind.i64) (x3))] (false, [(true, [.int .i64, .int .i64, .int .i64, .int .i64, .int .i64, .int .i64, .int .i64, .bool, .slice, .str])]) fun (((x23 : Int), (x24 : Int), (x25 : Int), (x26 : Int), (x27 : Int), (x28 : Int), (x29 : Int), (b30 : Bool), ((a31 : Option Addr), (n32 : Nat), (c33 : Nat)), (t34 : ByteArray), _), _) =>
      π.nw (Obj.cells #[(Value.int (IntKind.i64) (x23)), (Value.int (IntKind.i64) (x24)), (Value.int (IntKind.i64) (x25)), (Value.int (IntKind.i64) (x26)), (Value.int (IntKind.i64) (x27)), (Value.int (IntKind.i64) (x28)), (Value.int (IntKind.i64) (x29)), (Value.bool (b30)), (Value.slice (a31) (n32) (c33)), (Value.string (t34))] (119 : Nat) ((0 : Nat), (0 : Nat))) fun r35 =>
      π.ret (Value.slice (some (Addr.mk r35 (0 : Nat) none)) ((1 : Nat)) ((1 : Nat)))
    ) (
      π.unSome (some (Addr.mk b (0 : Nat) none)) fun p36 =>
      π.ld [.slice] (p36.add (14 : Nat)) fun (((a37 : Option Addr), (n38 : Nat), (c39 : Nat)), _) =>
      π.guard ((0 : Int) ≤ x3 ∧ x3 < (↑n38 : Int)) <|
      π.unSome (a37) fun p40 =>
      π.ld [.int .i64] (p40.add (x3.toNat * (1 : Nat))) fun ((x41 : Int), _) =>
      π.unSome (some (Addr.mk b (0 : Nat) none)) fun p42 =>
      π.ld [.slice] (p42.add (14 : Nat)) fun (((a43 : Option Addr), (n44 : Nat), (c45 : Nat)), _) =>
      π.ld [.int .i64] ((Addr.mk r0 (0 : Nat) none).add (4 : Nat)) fun ((x46 : Int), _) =>
      π.callQ (55 : Nat) #[(Value.pointer (some (Addr.mk b (0 : Nat) none)))] (false, [(false, [.int .i64])]) fun (((x47 : Int), _), _) =>
      π.guard ((0 : Int) ≤ x3 ∧ x3 < (↑n44 : Int)) <|
      π.unSome (a43) fun p48 =>
      π.st (p48.add (x3.toNat * (1 : Nat))) [(Value.int (IntKind.i64) (if (if x47 < x46 then x47 else x46) > x41 then if x47 < x46 then x47 else x46 else x41))] <|
      π.unSome (some (Addr.mk b (0 : Nat) none)) fun p49 =>
      π.ld [.slice] (p49.add (13 : Nat)) fun (((a50 : Option Addr), (n51 : Nat), (c52 : Nat)), _) =>
      π.unSome (some (Addr.mk b (0 : Nat) none)) fun p53 =>
      π.ld [.slice] (p53.add (14 : Nat)) fun (((a54 : Option Addr), (n55 : Nat), (c56 : Nat)), _) =>
      π.guard ((0 : Int) ≤ x3 ∧ x3 < (↑n55 : Int)) <|
      π.unSome (a54) fun p57 =>
      π.ld [.int .i64] (p57.add (x3.toNat * (1 : Nat))) fun ((x58 : Int), _) =>
      π.guard ((0 : Int) ≤ x3 ∧ x3 < (↑n51 : Int)) <|
      π.unSome (a50) fun p59 =>
      π.st (p59.add (x3.toNat * (1 : Nat))) [(Value.int (IntKind.i64) (IntKind.i64.wrap (x58 + (1 : Int))))] <|
      π.call (74 : Nat) #[(Value.pointer (some (Addr.mk b (0 : Nat) none)))] (false, [(false, [.slice])]) fun ((((a60 : Option Addr), (n61 : Nat), (c62 : Nat)), _), _) =>
      π.unSome (some (Addr.mk b (0 : Nat) none)) fun p63 =>
      π.ld [.slice] (p63.add (14 : Nat)) fun (((a64 : Option Addr), (n65 : Nat), (c66 : Nat)), _) =>
      π.guard ((0 : Int) ≤ x3 ∧ x3 < (↑n65 : Int)) <|
      π.unSome (a64) fun p67 =>
      π.ld [.int .i64] (p67.add (x3.toNat * (1 : Nat))) fun ((x68 : Int), _) =>
      π.ite (decide (x68 > x41)) (
        π.unSome (some (Addr.mk b (0 : Nat) none)) fun p69 =>
        π.ld [.slice] (p69.add (13 : Nat)) fun (((a70 : Option Addr), (n71 : Nat), (c72 : Nat)), _) =>
        π.guard ((0 : Int) ≤ x3 ∧ x3 < (↑n71 : Int)) <|
        π.unSome (a70) fun p73 =>
        π.ld [.int .i64] (p73.add (x3.toNat * (1 : Nat))) fun ((x74 : Int), _) =>
        π.callQ (55 : Nat) #[(Value.pointer (some (Addr.mk b (0 : Nat) none)))] (false, [(false, [.int .i64])]) fun (((x75 : Int), _), _) =>
        π.ite (decide (x74 ≤ x75)) (
          π.call (72 : Nat) #[(Value.pointer (some (Addr.mk b (0 : Nat) none))), (Value.int (IntKind.i64) (x3))] (false, [(true, [.int .i64, .int .i64, .int .i64, .int .i64, .int .i64, .int .i64, .int .i64, .bool, .slice, .str])]) fun (((x76 : Int), (x77 : Int), (x78 : Int), (x79 : Int), (x80 : Int), (x81 : Int), (x82 : Int), (b83 : Bool), ((a84 : Option Addr), (n85 : Nat), (c86 : Nat)), (t87 : ByteArray), _), _) =>
          π.nw (Obj.cells #[(Value.int (IntKind.i64) (x76)), (Value.int (IntKind.i64) (x77)), (Value.int (IntKind.i64) (x78)), (Value.int (IntKind.i64) (x79)), (Value.int (IntKind.i64) (x80)), (Value.int (IntKind.i64) (x81)), (Value.int (IntKind.i64) (x82)), (Value.bool (b83)), (Value.slice (a84) (n85) (c86)), (Value.string (t87))] (119 : Nat) ((0 : Nat), (0 : Nat))) fun r88 =>
          π.app (119 : Nat) (10 : Nat) (104 : Nat) [(Value.int (IntKind.i64) ((0 : Int))), (Value.int (IntKind.i64) ((0 : Int))), (Value.int (IntKind.i64) ((0 : Int))), (Value.int (IntKind.i64) ((0 : Int))), (Value.int (IntKind.i64) ((0 : Int))), (Value.int (IntKind.i64) ((0 : Int))), (Value.int (IntKind.i64) ((0 : Int))), (Value.bool (false)), (Value.slice (none) ((0 : Nat)) ((0 : Nat))), (Value.string (ByteArray.mk #[]))] (a60) (n61) (c62) (Src.sl (some (Addr.mk r88 (0 : Nat) none)) (1 : Nat)) fun a89 n90 c91 =>
          π.ret (Value.slice (a89) (n90) (c91))
        ) (
          π.ret (Value.slice (a60) (n61) (c62))
        )
      ) (
        π.ret (Value.slice (a60) (n61) (c62))
      )
    )
  )
def ann_heard : Ann := { draws := [(5, { A := [0, 1, 2, 3, 4, 5, 6, 7, 8, 9, 10, 11, 12, 13, 14, 15, 16, 17, 18, 19, 20, 21, 22, 23, 24, 25, 26] }), (8, { A := [0, 1, 2, 3, 4, 5, 6, 7, 8, 9, 10, 11, 12], quiet := [9] }), (9, { A := [0, 1, 2, 3, 4, 5, 6, 7, 8, 9, 10, 11, 12, 13] }), (11, { A := [0, 1, 2, 3, 4, 5, 6, 7, 8, 9, 10, 11, 12, 13, 14, 15, 16, 17, 18, 19, 20], quiet := [18] })], join := [], loop := [] }
def la_heard : LA := { ptr := [], ty := [] }
set_option maxRecDepth 100000 in
theorem eq_heard {W : Type} (π : Prims W) (b : Nat) (mk mf mt mm mi mp mc : Int) (mg : Bool) (la : Option Addr) (ln lc : Nat) (ms : ByteArray) : bodyL π Tryz.prog la_heard ann_heard (mkFr (maskA [] [.v (.pointer (some ⟨b, 0, none⟩)), .v (.agg #[.int .i64 mk, .int .i64 mf, .int .i64 mt, .int .i64 mm, .int .i64 mi, .int .i64 mp, .int .i64 mc, .bool mg, .slice la ln lc, .string ms])] 0) 114) Tryz.f96 (bodyOf Tryz.f96) (mkFr (List.map some [.v (.pointer (some ⟨b, 0, none⟩)), .v (.agg #[.int .i64 mk, .int .i64 mf, .int .i64 mt, .int .i64 mm, .int .i64 mi, .int .i64 mp, .int .i64 mc, .bool mg, .slice la ln lc, .string ms])]) 114) = vc_heard π b mk mf mt mm mi mp mc mg la ln lc ms := by kernel_rfl
theorem ok_heard (b : Nat) (mk mf mt mm mi mp mc : Int) (mg : Bool) (la : Option Addr) (ln lc : Nat) (ms : ByteArray) (R : Value → PH → Prop) (s : PH) (h : vc_heard (RP Tryz.prog R) b mk mf mt mm mi mp mc mg la ln lc ms s) : DCalls Tryz.prog 96 (List.map AV.val [.v (.pointer (some ⟨b, 0, none⟩)), .v (.agg #[.int .i64 mk, .int .i64 mf, .int .i64 mt, .int .i64 mm, .int .i64 mi, .int .i64 mp, .int .i64 mc, .bool mg, .slice la ln lc, .string ms])]).toArray s R :=
  calls_vcL (c := bodyOf Tryz.f96) (ann := ann_heard) la_heard (by kernel_rfl) Tryz.func96 rfl (by kernel_rfl) [.v (.pointer (some ⟨b, 0, none⟩)), .v (.agg #[.int .i64 mk, .int .i64 mf, .int .i64 mt, .int .i64 mm, .int .i64 mi, .int .i64 mp, .int .i64 mc, .bool mg, .slice la ln lc, .string ms])] [] (by rw [Tryz.ntmps96]; exact Nat.le_of_ble_eq_true rfl) (by kernel_rfl) (by rw [show Tryz.f96.ntmps = 114 from Tryz.ntmps96, eq_heard]; exact h)
/-- (*lintel/ballot.Ballot).given -/
def vc_given {W : Type} (π : Prims W) (b : Nat) (mk mf mt mm mi mp mc : Int) (mg : Bool) (la : Option Addr) (ln lc : Nat) (ms : ByteArray) : W :=
  π.nw (Obj.cells #[(Value.int (IntKind.i64) (mk)), (Value.int (IntKind.i64) (mf)), (Value.int (IntKind.i64) (mt)), (Value.int (IntKind.i64) (mm)), (Value.int (IntKind.i64) (mi)), (Value.int (IntKind.i64) (mp)), (Value.int (IntKind.i64) (mc)), (Value.bool (mg)), (Value.slice (la) (ln) (lc)), (Value.string (ms))] (119 : Nat) ((0 : Nat), (0 : Nat))) fun r0 =>
  π.unSome (some (Addr.mk b (0 : Nat) none)) fun p1 =>
  π.ld [.int .i64] ((p1.add (2 : Nat)).add (2 : Nat)) fun ((x2 : Int), _) =>
  π.ite (x2 == (2 : Int)) (
    π.ret (Value.slice (none) ((0 : Nat)) ((0 : Nat)))
  ) (
    π.ld [.int .i64] ((Addr.mk r0 (0 : Nat) none).add (1 : Nat)) fun ((x3 : Int), _) =>
    π.unSome (some (Addr.mk b (0 : Nat) none)) fun p4 =>
    π.st ((p4.add (2 : Nat)).add (2 : Nat)) [(Value.int (IntKind.i64) ((0 : Int)))] <|
    π.still [.int .i64] ((Addr.mk r0 (0 : Nat) none).add (1 : Nat)) (x3, ()) <|
    π.unSome (some (Addr.mk b (0 : Nat) none)) fun p5 =>
    π.st ((p5.add (2 : Nat)).add (3 : Nat)) [(Value.int (IntKind.i64) (x3))] <|
    π.ld [.int .i64] ((Addr.mk r0 (0 : Nat) none).add (4 : Nat)) fun ((x6 : Int), _) =>
    π.unSome (some (Addr.mk b (0 : Nat) none)) fun p7 =>
    π.ld [.int .i64] ((p7.add (2 : Nat)).add (6 : Nat)) fun ((x8 : Int), _) =>
    π.ite (decide (x6 ≤ x8)) (
      π.ld [.int .i64] ((Addr.mk r0 (0 : Nat) none).add (1 : Nat)) fun ((x9 : Int), _) =>
      π.ld [.int .i64] ((Addr.mk r0 (0 : Nat) none).add (4 : Nat)) fun ((x10 : Int), _) =>
      π.call (92 : Nat) #[(Value.pointer (some (Addr.mk b (0 : Nat) none))), (Value.int (IntKind.i64) (x9)), (Value.bool (true)), (Value.int (IntKind.i64) (x10))] (false, [(false, [.slice])]) fun ((((a11 : Option Addr), (n12 : Nat), (c13 : Nat)), _), _) =>
      π.ret (Value.slice (a11) (n12) (c13))
    ) (
      π.join [(false, [.addr]), (false, [.slice])] (fun J14 =>
        π.ld [.int .i64] ((Addr.mk r0 (0 : Nat) none).add (4 : Nat)) fun ((x15 : Int), _) =>
        π.call (77 : Nat) #[(Value.pointer (some (Addr.mk b (0 : Nat) none))), (Value.int (IntKind.i64) (x15))] (true, [(false, [.int .i64]), (false, [.bool])]) fun (((x16 : Int), _), ((b17 : Bool), _), _) =>
        π.ite (b17) (
          π.ld [.int .i64] ((Addr.mk r0 (0 : Nat) none).add (5 : Nat)) fun ((x18 : Int), _) =>
          π.ite (x16 == x18) (
            π.unSome (some (Addr.mk b (0 : Nat) none)) fun p19 =>
            π.ld [.slice] (p19.add (11 : Nat)) fun (((a20 : Option Addr), (n21 : Nat), (c22 : Nat)), _) =>
            π.ld [.int .i64] ((Addr.mk r0 (0 : Nat) none).add (4 : Nat)) fun ((x23 : Int), _) =>
            π.unSome (some (Addr.mk b (0 : Nat) none)) fun p24 =>
            π.ld [.int .i64] ((p24.add (2 : Nat)).add (4 : Nat)) fun ((x25 : Int), _) =>
            π.guard ((0 : Int) ≤ IntKind.i64.wrap (x23 - x25) ∧ IntKind.i64.wrap (x23 - x25) ≤ (↑n21 : Int) ∧ (↑n21 : Int) ≤ (↑c22 : Int)) <|
            π.call (79 : Nat) #[(Value.slice (if c22 = (IntKind.i64.wrap (x23 - x25)).toNat then a20 else Option.map (fun x => x.add ((IntKind.i64.wrap (x23 - x25)).toNat * (4 : Nat))) a20) ((↑n21 : Int).toNat - (IntKind.i64.wrap (x23 - x25)).toNat) (c22 - (IntKind.i64.wrap (x23 - x25)).toNat))] (false, [(false, [.slice])]) fun ((((a26 : Option Addr), (n27 : Nat), (c28 : Nat)), _), _) =>
            J14 ((Addr.mk r0 (0 : Nat) none, ()), ((a26, n27, c28), ()), ())
          ) (
            J14 ((Addr.mk r0 (0 : Nat) none, ()), ((none, (0 : Nat), (0 : Nat)), ()), ())
          )
        ) (
          J14 ((Addr.mk r0 (0 : Nat) none, ()), ((none, (0 : Nat), (0 : Nat)), ()), ())
        )
      ) (fun ((p29, _), (((a30 : Option Addr), (n31 : Nat), (c32 : Nat)), _), _) =>
        π.ld [.int .i64] (p29.add (4 : Nat)) fun ((x33 : Int), _) =>
        π.ld [.int .i64] (p29.add (5 : Nat)) fun ((x34 : Int), _) =>
        π.ld [.str] (p29.add (9 : Nat)) fun ((t35 : ByteArray), _) =>
        π.call (78 : Nat) #[(Value.pointer (some (Addr.mk b (0 : Nat) none))), (Value.int (IntKind.i64) (x33)), (Value.int (IntKind.i64) (x34)), (Value.string (t35)), (Value.slice (a30) (n31) (c32))] (true, []) fun (_) =>
        π.ld [.int .i64] (p29.add (4 : Nat)) fun ((x36 : Int), _) =>
        π.unSome (some (Addr.mk b (0 : Nat) none)) fun p37 =>
        π.st ((p37.add (2 : Nat)).add (6 : Nat)) [(Value.int (IntKind.i64) (x36))] <|
        π.ld [.int .i64] (p29.add (1 : Nat)) fun ((x38 : Int), _) =>
        π.ld [.int .i64] (p29.add (4 : Nat)) fun ((x39 : Int), _) =>
        π.call (92 : Nat) #[(Value.pointer (some (Addr.mk b (0 : Nat) none))), (Value.int (IntKind.i64) (x38)), (Value.bool (true)), (Value.int (IntKind.i64) (x39))] (false, [(false, [.slice])]) fun ((((a40 : Option Addr), (n41 : Nat), (c42 : Nat)), _), _) =>
        π.ret (Value.slice (a40) (n41) (c42))
      )
    )
  )
def ann_given : Ann := { draws := [(3, { A := [0, 1, 2, 3, 4, 5, 6], chkL := [(7, [3])], eag := [8, 9, 10] }), (4, { A := [0, 1, 2, 3, 4, 5, 6, 7] }), (9, { A := [0, 1, 2, 3, 4, 5, 6, 7, 8, 9, 10, 11, 12], eag := [14] })], join := [(10, [(3, 1000000), (5, 97)])], loop := [] }
def la_given : LA := { ptr := [], ty := [] }
set_option maxRecDepth 100000 in
theorem eq_given {W : Type} (π : Prims W) (b : Nat) (mk mf mt mm mi mp mc : Int) (mg : Bool) (la : Option Addr) (ln lc : Nat) (ms : ByteArray) : bodyL π Tryz.prog la_given ann_given (mkFr (maskA [] [.v (.pointer (some ⟨b, 0, none⟩)), .v (.agg #[.int .i64 mk, .int .i64 mf, .int .i64 mt, .int .i64 mm, .int .i64 mi, .int .i64 mp, .int .i64 mc, .bool mg, .slice la ln lc, .string ms])] 0) 87) Tryz.f97 (bodyOf Tryz.f97) (mkFr (List.map some [.v (.pointer (some ⟨b, 0, none⟩)), .v (.agg #[.int .i64 mk, .int .i64 mf, .int .i64 mt, .int .i64 mm, .int .i64 mi, .int .i64 mp, .int .i64 mc, .bool mg, .slice la ln lc, .string ms])]) 87) = vc_given π b mk mf mt mm mi mp mc mg la ln lc ms := by kernel_rfl
theorem ok_given (b : Nat) (mk mf mt mm mi mp mc : Int) (mg : Bool) (la : Option Addr) (ln lc : Nat) (ms : ByteArray) (R : Value → PH → Prop) (s : PH) (h : vc_given (RP Tryz.prog R) b mk mf mt mm mi mp mc mg la ln lc ms s) : DCalls Tryz.prog 97 (List.map AV.val [.v (.pointer (some ⟨b, 0, none⟩)), .v (.agg #[.int .i64 mk, .int .i64 mf, .int .i64 mt, .int .i64 mm, .int .i64 mi, .int .i64 mp, .int .i64 mc, .bool mg, .slice la ln lc, .string ms])]).toArray s R :=
  calls_vcL (c := bodyOf Tryz.f97) (ann := ann_given) la_given (by kernel_rfl) Tryz.func97 rfl (by kernel_rfl) [.v (.pointer (some ⟨b, 0, none⟩)), .v (.agg #[.int .i64 mk, .int .i64 mf, .int .i64 mt, .int .i64 mm, .int .i64 mi, .int .i64 mp, .int .i64 mc, .bool mg, .slice la ln lc, .string ms])] [] (by rw [Tryz.ntmps97]; exact Nat.le_of_ble_eq_true rfl) (by kernel_rfl) (by rw [show Tryz.f97.ntmps = 87 from Tryz.ntmps97, eq_given]; exact h)
/-- (*lintel/ballot.Ballot).rebase -/
def vc_rebase {W : Type} (π : Prims W) (b : Nat) (i term : Int) (snap : ByteArray) (a : Option Addr) (an ac : Nat) : W :=
  π.unSome (some (Addr.mk b (0 : Nat) none)) fun p0 =>
  π.st ((p0.add (2 : Nat)).add (4 : Nat)) [(Value.int (IntKind.i64) (i))] <|
  π.unSome (some (Addr.mk b (0 : Nat) none)) fun p1 =>
  π.st (p1.add (9 : Nat)) [(Value.int (IntKind.i64) (term))] <|
  π.unSome (some (Addr.mk b (0 : Nat) none)) fun p2 =>
  π.st (p2.add (10 : Nat)) [(Value.string (snap))] <|
  π.unSome (some (Addr.mk b (0 : Nat) none)) fun p3 =>
  π.st (p3.add (11 : Nat)) [(Value.slice (a) (an) (ac))] <|
  π.unSome (some (Addr.mk b (0 : Nat) none)) fun p4 =>
  π.st (p4.add (15 : Nat)) [(Value.bool (true))] <|
  π.unSome (some (Addr.mk b (0 : Nat) none)) fun p5 =>
  π.st (p5.add (16 : Nat)) [(Value.bool (true))] <|
  π.ret (Value.tuple #[])
def ann_rebase : Ann := { draws := [], join := [], loop := [] }
def la_rebase : LA := { ptr := [], ty := [] }
set_option maxRecDepth 100000 in
theorem eq_rebase {W : Type} (π : Prims W) (b : Nat) (i term : Int) (snap : ByteArray) (a : Option Addr) (an ac : Nat) : bodyL π Tryz.prog la_rebase ann_rebase (mkFr (maskA [] [.v (.pointer (some ⟨b, 0, none⟩)), .v (.int .i64 i), .v (.int .i64 term), .v (.string snap), .v (.slice a an ac)] 0) 33) Tryz.f78 (bodyOf Tryz.f78) (mkFr (List.map some [.v (.pointer (some ⟨b, 0, none⟩)), .v (.int .i64 i), .v (.int .i64 term), .v (.string snap), .v (.slice a an ac)]) 33) = vc_rebase π b i term snap a an ac := by kernel_rfl
theorem ok_rebase (b : Nat) (i term : Int) (snap : ByteArray) (a : Option Addr) (an ac : Nat) (R : Value → PH → Prop) (s : PH) (h : vc_rebase (RP Tryz.prog R) b i term snap a an ac s) : DCalls Tryz.prog 78 (List.map AV.val [.v (.pointer (some ⟨b, 0, none⟩)), .v (.int .i64 i), .v (.int .i64 term), .v (.string snap), .v (.slice a an ac)]).toArray s R :=
  calls_vcL (c := bodyOf Tryz.f78) (ann := ann_rebase) la_rebase (by kernel_rfl) Tryz.func78 rfl (by kernel_rfl) [.v (.pointer (some ⟨b, 0, none⟩)), .v (.int .i64 i), .v (.int .i64 term), .v (.string snap), .v (.slice a an ac)] [] (by rw [Tryz.ntmps78]; exact Nat.le_of_ble_eq_true rfl) (by kernel_rfl) (by rw [show Tryz.f78.ntmps = 33 from Tryz.ntmps78, eq_rebase]; exact h)
/-- (*lintel/ballot.Ballot).Take -/
def vc_Take {W : Type} (π : Prims W) (b : Nat) (mk mf mt mm mi mp mc : Int) (mg : Bool) (la : Option Addr) (ln lc : Nat) (ms : ByteArray) : W :=
  π.nw (Obj.cells #[(Value.int (IntKind.i64) (mk)), (Value.int (IntKind.i64) (mf)), (Value.int (IntKind.i64) (mt)), (Value.int (IntKind.i64) (mm)), (Value.int (IntKind.i64) (mi)), (Value.int (IntKind.i64) (mp)), (Value.int (IntKind.i64) (mc)), (Value.bool (mg)), (Value.slice (la) (ln) (lc)), (Value.string (ms))] (119 : Nat) ((0 : Nat), (0 : Nat))) fun r0 =>
  π.join [(false, [.addr])] (fun J1 =>
    π.ite ((some (Addr.mk b (0 : Nat) none)).isNone) (
      π.ret (Value.slice (none) ((0 : Nat)) ((0 : Nat)))
    ) (
      π.ld [.int .i64, .int .i64, .int .i64, .int .i64, .int .i64, .int .i64, .int .i64, .bool, .slice, .str] (Addr.mk r0 (0 : Nat) none) fun ((x2 : Int), (x3 : Int), (x4 : Int), (x5 : Int), (x6 : Int), (x7 : Int), (x8 : Int), (b9 : Bool), ((a10 : Option Addr), (n11 : Nat), (c12 : Nat)), (t13 : ByteArray), _) =>
      π.call (90 : Nat) #[(Value.pointer (some (Addr.mk b (0 : Nat) none))), (Value.agg #[(Value.int (IntKind.i64) (x2)), (Value.int (IntKind.i64) (x3)), (Value.int (IntKind.i64) (x4)), (Value.int (IntKind.i64) (x5)), (Value.int (IntKind.i64) (x6)), (Value.int (IntKind.i64) (x7)), (Value.int (IntKind.i64) (x8)), (Value.bool (b9)), (Value.slice (a10) (n11) (c12)), (Value.string (t13))])] (false, [(false, [.bool])]) fun (((b14 : Bool), _), _) =>
      π.ite (b14) (
        π.ret (Value.slice (none) ((0 : Nat)) ((0 : Nat)))
      ) (
        J1 ((Addr.mk r0 (0 : Nat) none, ()), ())
      )
    )
  ) (fun ((p15, _), _) =>
    π.join [(false, [.addr])] (fun J16 =>
      π.ld [.int .i64] (p15.add (3 : Nat)) fun ((x17 : Int), _) =>
      π.unSome (some (Addr.mk b (0 : Nat) none)) fun p18 =>
      π.ld [.int .i64] ((p18.add (2 : Nat)).add (0 : Nat)) fun ((x19 : Int), _) =>
      π.ite (decide (x17 > x19)) (
        π.ld [.int .i64] (p15.add (3 : Nat)) fun ((x20 : Int), _) =>
        π.call (68 : Nat) #[(Value.pointer (some (Addr.mk b (0 : Nat) none))), (Value.int (IntKind.i64) (x20)), (Value.int (IntKind.i64) ((-1 : Int))), (Value.int (IntKind.i64) ((0 : Int)))] (true, []) fun (_) =>
        J16 ((p15, ()), ())
      ) (
        J16 ((p15, ()), ())
      )
    ) (fun ((p21, _), _) =>
      π.ld [.int .i64] (p21.add (3 : Nat)) fun ((x22 : Int), _) =>
      π.unSome (some (Addr.mk b (0 : Nat) none)) fun p23 =>
      π.ld [.int .i64] ((p23.add (2 : Nat)).add (0 : Nat)) fun ((x24 : Int), _) =>
      π.ite (decide (x22 < x24)) (
        π.ld [.int .i64] (p21.add (0 : Nat)) fun ((x25 : Int), _) =>
        π.ite (x25 == (1 : Int)) (
          π.ld [.int .i64] (p21.add (1 : Nat)) fun ((x26 : Int), _) =>
          π.call (91 : Nat) #[(Value.pointer (some (Addr.mk b (0 : Nat) none))), (Value.int (IntKind.i64) ((2 : Int))), (Value.int (IntKind.i64) (x26))] (false, [(true, [.int .i64, .int .i64, .int .i64, .int .i64, .int .i64, .int .i64, .int .i64, .bool, .slice, .str])]) fun (((x27 : Int), (x28 : Int), (x29 : Int), (x30 : Int), (x31 : Int), (x32 : Int), (x33 : Int), (b34 : Bool), ((a35 : Option Addr), (n36 : Nat), (c37 : Nat)), (t38 : ByteArray), _), _) =>
          π.nw (Obj.cells #[(Value.int (IntKind.i64) (x27)), (Value.int (IntKind.i64) (x28)), (Value.int (IntKind.i64) (x29)), (Value.int (IntKind.i64) (x30)), (Value.int (IntKind.i64) (x31)), (Value.int (IntKind.i64) (x32)), (Value.int (IntKind.i64) (x33)), (Value.bool (b34)), (Value.slice (a35) (n36) (c37)), (Value.string (t38))] (119 : Nat) ((0 : Nat), (0 : Nat))) fun r39 =>
          π.ret (Value.slice (some (Addr.mk r39 (0 : Nat) none)) ((1 : Nat)) ((1 : Nat)))
        ) (
          π.join [(false, [.addr]), (false, [.bool])] (fun J40 =>
            π.ite (x25 == (3 : Int)) (
              J40 ((p21, ()), (true, ()), ())
            ) (
              J40 ((p21, ()), (x25 == (5 : Int), ()), ())
            )
          ) (fun ((p41, _), ((b42 : Bool), _), _) =>
            π.ite (b42) (
              π.ld [.int .i64] (p41.add (1 : Nat)) fun ((x43 : Int), _) =>
              π.callQ (55 : Nat) #[(Value.pointer (some (Addr.mk b (0 : Nat) none)))] (false, [(false, [.int .i64])]) fun (((x44 : Int), _), _) =>
              π.call (92 : Nat) #[(Value.pointer (some (Addr.mk b (0 : Nat) none))), (Value.int (IntKind.i64) (x43)), (Value.bool (false)), (Value.int (IntKind.i64) (x44))] (false, [(false, [.slice])]) fun ((((a45 : Option Addr), (n46 : Nat), (c47 : Nat)), _), _) =>
              π.ret (Value.slice (a45) (n46) (c47))
            ) (
              π.ret (Value.slice (none) ((0 : Nat)) ((0 : Nat)))
            )
          )
        )
      ) (
        π.nw (Obj.cells #[(Value.nilFunc ), (Value.nilFunc ), (Value.nilFunc ), (Value.nilFunc ), (Value.nilFunc )] (160 : Nat) ((0 : Nat), (0 : Nat))) fun r48 =>
        π.st (Addr.mk r48 (0 : Nat) none) [(Value.func (Fn.func (93 : Nat)) #[] #[]), (Value.func (Fn.func (94 : Nat)) #[] #[]), (Value.func (Fn.func (95 : Nat)) #[] #[]), (Value.func (Fn.func (96 : Nat)) #[] #[]), (Value.func (Fn.func (97 : Nat)) #[] #[])] <|
        π.ld [.int .i64] (p21.add (0 : Nat)) fun ((x49 : Int), _) =>
        π.guard ((0 : Int) ≤ IntKind.i64.wrap (x49 - (1 : Int)) ∧ IntKind.i64.wrap (x49 - (1 : Int)) < (5 : Int)) <|
        π.ld [.raw] ((Addr.mk r48 (0 : Nat) none).add ((IntKind.i64.wrap (x49 - (1 : Int))).toNat * (1 : Nat))) fun ((v50 : Value), _) =>
        π.ld [.int .i64, .int .i64, .int .i64, .int .i64, .int .i64, .int .i64, .int .i64, .bool, .slice, .str] (p21) fun ((x51 : Int), (x52 : Int), (x53 : Int), (x54 : Int), (x55 : Int), (x56 : Int), (x57 : Int), (b58 : Bool), ((a59 : Option Addr), (n60 : Nat), (c61 : Nat)), (t62 : ByteArray), _) =>
        π.callV v50 #[(Value.pointer (some (Addr.mk b (0 : Nat) none))), (Value.agg #[(Value.int (IntKind.i64) (x51)), (Value.int (IntKind.i64) (x52)), (Value.int (IntKind.i64) (x53)), (Value.int (IntKind.i64) (x54)), (Value.int (IntKind.i64) (x55)), (Value.int (IntKind.i64) (x56)), (Value.int (IntKind.i64) (x57)), (Value.bool (b58)), (Value.slice (a59) (n60) (c61)), (Value.string (t62))])] (false, [(false, [.slice])]) fun ((((a63 : Option Addr), (n64 : Nat), (c65 : Nat)), _), _) =>
        π.ret (Value.slice (a63) (n64) (c65))
      )
    )
  )
def ann_Take : Ann := { draws := [(3, { A := [0, 1, 2, 3, 4, 5, 6, 7] }), (5, { A := [0, 1, 2, 3, 4, 5, 6, 7] }), (11, { A := [0, 1, 2, 3, 4], quiet := [4], eag := [6] }), (14, { A := [0, 1, 2, 3, 4, 5, 6], eag := [8] })], join := [(3, [(3, 1000000)]), (5, [(3, 1000000)]), (11, [(3, 1000000), (42, 4)])], loop := [] }
def la_Take : LA := { ptr := [], ty := [] }
set_option maxRecDepth 100000 in
theorem eq_Take {W : Type} (π : Prims W) (b : Nat) (mk mf mt mm mi mp mc : Int) (mg : Bool) (la : Option Addr) (ln lc : Nat) (ms : ByteArray) : bodyL π Tryz.prog la_Take ann_Take (mkFr (maskA [] [.v (.pointer (some ⟨b, 0, none⟩)), .v (.agg #[.int .i64 mk, .int .i64 mf, .int .i64 mt, .int .i64 mm, .int .i64 mi, .int .i64 mp, .int .i64 mc, .bool mg, .slice la ln lc, .string ms])] 0) 60) Tryz.f61 (bodyOf Tryz.f61) (mkFr (List.map some [.v (.pointer (some ⟨b, 0, none⟩)), .v (.agg #[.int .i64 mk, .int .i64 mf, .int .i64 mt, .int .i64 mm, .int .i64 mi, .int .i64 mp, .int .i64 mc, .bool mg, .slice la ln lc, .string ms])]) 60) = vc_Take π b mk mf mt mm mi mp mc mg la ln lc ms := by kernel_rfl
theorem ok_Take (b : Nat) (mk mf mt mm mi mp mc : Int) (mg : Bool) (la : Option Addr) (ln lc : Nat) (ms : ByteArray) (R : Value → PH → Prop) (s : PH) (h : vc_Take (RP Tryz.prog R) b mk mf mt mm mi mp mc mg la ln lc ms s) : DCalls Tryz.prog 61 (List.map AV.val [.v (.pointer (some ⟨b, 0, none⟩)), .v (.agg #[.int .i64 mk, .int .i64 mf, .int .i64 mt, .int .i64 mm, .int .i64 mi, .int .i64 mp, .int .i64 mc, .bool mg, .slice la ln lc, .string ms])]).toArray s R :=
  calls_vcL (c := bodyOf Tryz.f61) (ann := ann_Take) la_Take (by kernel_rfl) Tryz.func61 rfl (by kernel_rfl) [.v (.pointer (some ⟨b, 0, none⟩)), .v (.agg #[.int .i64 mk, .int .i64 mf, .int .i64 mt, .int .i64 mm, .int .i64 mi, .int .i64 mp, .int .i64 mc, .bool mg, .slice la ln lc, .string ms])] [] (by rw [Tryz.ntmps61]; exact Nat.le_of_ble_eq_true rfl) (by kernel_rfl) (by rw [show Tryz.f61.ntmps = 60 from Tryz.ntmps61, eq_Take]; exact h)
/-- (*lintel/ballot.Ballot).Cut -/
def vc_Cut {W : Type} (π : Prims W) (b : Nat) (i : Int) (snap : ByteArray) : W :=
  π.join [] (fun J0 =>
    π.ite ((some (Addr.mk b (0 : Nat) none)).isNone) (
      π.ret (Value.bool (false))
    ) (
      π.unSome (some (Addr.mk b (0 : Nat) none)) fun p1 =>
      π.ld [.int .i64] ((p1.add (2 : Nat)).add (4 : Nat)) fun ((x2 : Int), _) =>
      π.ite (decide (i ≤ x2)) (
        π.ret (Value.bool (false))
      ) (
        π.unSome (some (Addr.mk b (0 : Nat) none)) fun p3 =>
        π.ld [.int .i64] ((p3.add (2 : Nat)).add (6 : Nat)) fun ((x4 : Int), _) =>
        π.ite (decide (i > x4)) (
          π.ret (Value.bool (false))
        ) (
          J0 (())
        )
      )
    )
  ) (fun (_) =>
    π.call (77 : Nat) #[(Value.pointer (some (Addr.mk b (0 : Nat) none))), (Value.int (IntKind.i64) (i))] (true, [(false, [.int .i64]), (false, [.bool])]) fun (((x5 : Int), _), ((b6 : Bool), _), _) =>
    π.unSome (some (Addr.mk b (0 : Nat) none)) fun p7 =>
    π.ld [.slice] (p7.add (11 : Nat)) fun (((a8 : Option Addr), (n9 : Nat), (c10 : Nat)), _) =>
    π.unSome (some (Addr.mk b (0 : Nat) none)) fun p11 =>
    π.ld [.int .i64] ((p11.add (2 : Nat)).add (4 : Nat)) fun ((x12 : Int), _) =>
    π.guard ((0 : Int) ≤ IntKind.i64.wrap (i - x12) ∧ IntKind.i64.wrap (i - x12) ≤ (↑n9 : Int) ∧ (↑n9 : Int) ≤ (↑c10 : Int)) <|
    π.call (79 : Nat) #[(Value.slice (if c10 = (IntKind.i64.wrap (i - x12)).toNat then a8 else Option.map (fun x => x.add ((IntKind.i64.wrap (i - x12)).toNat * (4 : Nat))) a8) ((↑n9 : Int).toNat - (IntKind.i64.wrap (i - x12)).toNat) (c10 - (IntKind.i64.wrap (i - x12)).toNat))] (false, [(false, [.slice])]) fun ((((a13 : Option Addr), (n14 : Nat), (c15 : Nat)), _), _) =>
    π.call (78 : Nat) #[(Value.pointer (some (Addr.mk b (0 : Nat) none))), (Value.int (IntKind.i64) (i)), (Value.int (IntKind.i64) (x5)), (Value.string (snap)), (Value.slice (a13) (n14) (c15))] (true, []) fun (_) =>
    π.ret (Value.bool (true))
  )
def ann_Cut : Ann := { draws := [(4, { A := [0, 1, 2, 3, 4, 5, 6, 7, 8, 9, 10, 11, 12, 13, 14, 15] })], join := [(3, [])], loop := [] }
def la_Cut : LA := { ptr := [], ty := [] }
set_option maxRecDepth 100000 in
theorem eq_Cut {W : Type} (π : Prims W) (b : Nat) (i : Int) (snap : ByteArray) : bodyL π Tryz.prog la_Cut ann_Cut (mkFr (maskA [] [.v (.pointer (some ⟨b, 0, none⟩)), .v (.int .i64 i), .v (.string snap)] 0) 53) Tryz.f52 (bodyOf Tryz.f52) (mkFr (List.map some [.v (.pointer (some ⟨b, 0, none⟩)), .v (.int .i64 i), .v (.string snap)]) 53) = vc_Cut π b i snap := by kernel_rfl
theorem ok_Cut (b : Nat) (i : Int) (snap : ByteArray) (R : Value → PH → Prop) (s : PH) (h : vc_Cut (RP Tryz.prog R) b i snap s) : DCalls Tryz.prog 52 (List.map AV.val [.v (.pointer (some ⟨b, 0, none⟩)), .v (.int .i64 i), .v (.string snap)]).toArray s R :=
  calls_vcL (c := bodyOf Tryz.f52) (ann := ann_Cut) la_Cut (by kernel_rfl) Tryz.func52 rfl (by kernel_rfl) [.v (.pointer (some ⟨b, 0, none⟩)), .v (.int .i64 i), .v (.string snap)] [] (by rw [Tryz.ntmps52]; exact Nat.le_of_ble_eq_true rfl) (by kernel_rfl) (by rw [show Tryz.f52.ntmps = 53 from Tryz.ntmps52, eq_Cut]; exact h)
/-- (*lintel/ballot.Ballot).Delta -/
def vc_Delta {W : Type} (π : Prims W) (b : Nat) : W :=
  π.nw (Obj.cells #[(Value.int (IntKind.i64) ((0 : Int))), (Value.int (IntKind.i64) ((0 : Int))), (Value.bool (false)), (Value.int (IntKind.i64) ((0 : Int))), (Value.int (IntKind.i64) ((0 : Int))), (Value.string (ByteArray.mk #[])), (Value.int (IntKind.i64) ((0 : Int))), (Value.slice (none) ((0 : Nat)) ((0 : Nat)))] (113 : Nat) ((0 : Nat), (0 : Nat))) fun r0 =>
  π.join [(false, [.addr])] (fun J1 =>
    π.ite ((some (Addr.mk b (0 : Nat) none)).isNone) (
      π.st (Addr.mk r0 (0 : Nat) none) [(Value.int (IntKind.i64) ((0 : Int))), (Value.int (IntKind.i64) ((0 : Int))), (Value.bool (false)), (Value.int (IntKind.i64) ((0 : Int))), (Value.int (IntKind.i64) ((0 : Int))), (Value.string (ByteArray.mk #[])), (Value.int (IntKind.i64) ((0 : Int))), (Value.slice (none) ((0 : Nat)) ((0 : Nat)))] <|
      π.ld [.int .i64, .int .i64, .bool, .int .i64, .int .i64, .str, .int .i64, .slice] (Addr.mk r0 (0 : Nat) none) fun ((x2 : Int), (x3 : Int), (b4 : Bool), (x5 : Int), (x6 : Int), (t7 : ByteArray), (x8 : Int), ((a9 : Option Addr), (n10 : Nat), (c11 : Nat)), _) =>
      π.ret (Value.tuple #[(Value.agg #[(Value.int (IntKind.i64) (x2)), (Value.int (IntKind.i64) (x3)), (Value.bool (b4)), (Value.int (IntKind.i64) (x5)), (Value.int (IntKind.i64) (x6)), (Value.string (t7)), (Value.int (IntKind.i64) (x8)), (Value.slice (a9) (n10) (c11))]), (Value.bool (false))])
    ) (
      π.unSome (some (Addr.mk b (0 : Nat) none)) fun p12 =>
      π.ld [.bool] (p12.add (15 : Nat)) fun ((b13 : Bool), _) =>
      π.ite (!b13) (
        π.st (Addr.mk r0 (0 : Nat) none) [(Value.int (IntKind.i64) ((0 : Int))), (Value.int (IntKind.i64) ((0 : Int))), (Value.bool (false)), (Value.int (IntKind.i64) ((0 : Int))), (Value.int (IntKind.i64) ((0 : Int))), (Value.string (ByteArray.mk #[])), (Value.int (IntKind.i64) ((0 : Int))), (Value.slice (none) ((0 : Nat)) ((0 : Nat)))] <|
        π.ld [.int .i64, .int .i64, .bool, .int .i64, .int .i64, .str, .int .i64, .slice] (Addr.mk r0 (0 : Nat) none) fun ((x14 : Int), (x15 : Int), (b16 : Bool), (x17 : Int), (x18 : Int), (t19 : ByteArray), (x20 : Int), ((a21 : Option Addr), (n22 : Nat), (c23 : Nat)), _) =>
        π.ret (Value.tuple #[(Value.agg #[(Value.int (IntKind.i64) (x14)), (Value.int (IntKind.i64) (x15)), (Value.bool (b16)), (Value.int (IntKind.i64) (x17)), (Value.int (IntKind.i64) (x18)), (Value.string (t19)), (Value.int (IntKind.i64) (x20)), (Value.slice (a21) (n22) (c23))]), (Value.bool (false))])
      ) (
        J1 ((Addr.mk r0 (0 : Nat) none, ()), ())
      )
    )
  ) (fun ((p24, _), _) =>
    π.unSome (some (Addr.mk b (0 : Nat) none)) fun p25 =>
    π.ld [.int .i64] ((p25.add (2 : Nat)).add (0 : Nat)) fun ((x26 : Int), _) =>
    π.unSome (some (Addr.mk b (0 : Nat) none)) fun p27 =>
    π.ld [.int .i64] ((p27.add (2 : Nat)).add (1 : Nat)) fun ((x28 : Int), _) =>
    π.unSome (some (Addr.mk b (0 : Nat) none)) fun p29 =>
    π.ld [.int .i64] (p29.add (17 : Nat)) fun ((x30 : Int), _) =>
    π.nw (Obj.cells #[(Value.int (IntKind.i64) ((0 : Int))), (Value.int (IntKind.i64) ((0 : Int))), (Value.bool (false)), (Value.int (IntKind.i64) ((0 : Int))), (Value.int (IntKind.i64) ((0 : Int))), (Value.string (ByteArray.mk #[])), (Value.int (IntKind.i64) ((0 : Int))), (Value.slice (none) ((0 : Nat)) ((0 : Nat)))] (113 : Nat) ((0 : Nat), (0 : Nat))) fun r31 =>
    π.st (Addr.mk r31 (0 : Nat) none) [(Value.int (IntKind.i64) (x26)), (Value.int (IntKind.i64) (x28)), (Value.bool (false)), (Value.int (IntKind.i64) ((0 : Int))), (Value.int (IntKind.i64) ((0 : Int))), (Value.string (ByteArray.mk #[])), (Value.int (IntKind.i64) (x30)), (Value.slice (none) ((0 : Nat)) ((0 : Nat)))] <|
    π.join [(false, [.addr]), (false, [.addr])] (fun J32 =>
      π.unSome (some (Addr.mk b (0 : Nat) none)) fun p33 =>
      π.ld [.bool] (p33.add (16 : Nat)) fun ((b34 : Bool), _) =>
      π.ite (b34) (
        π.unSome (some (Addr.mk b (0 : Nat) none)) fun p35 =>
        π.ld [.int .i64] ((p35.add (2 : Nat)).add (4 : Nat)) fun ((x36 : Int), _) =>
        π.unSome (some (Addr.mk b (0 : Nat) none)) fun p37 =>
        π.ld [.int .i64] (p37.add (9 : Nat)) fun ((x38 : Int), _) =>
        π.unSome (some (Addr.mk b (0 : Nat) none)) fun p39 =>
        π.ld [.str] (p39.add (10 : Nat)) fun ((t40 : ByteArray), _) =>
        π.unSome (some (Addr.mk b (0 : Nat) none)) fun p41 =>
        π.ld [.int .i64] ((p41.add (2 : Nat)).add (4 : Nat)) fun ((x42 : Int), _) =>
        π.st ((Addr.mk r31 (0 : Nat) none).add (2 : Nat)) [(Value.bool (true))] <|
        π.still [.int .i64] ((p35.add (2 : Nat)).add (4 : Nat)) (x36, ()) <|
        π.still [.int .i64] (p37.add (9 : Nat)) (x38, ()) <|
        π.still [.str] (p39.add (10 : Nat)) (t40, ()) <|
        π.still [.int .i64] ((p41.add (2 : Nat)).add (4 : Nat)) (x42, ()) <|
        π.st ((Addr.mk r31 (0 : Nat) none).add (3 : Nat)) [(Value.int (IntKind.i64) (x36))] <|
        π.still [.int .i64] (p37.add (9 : Nat)) (x38, ()) <|
        π.still [.str] (p39.add (10 : Nat)) (t40, ()) <|
        π.still [.int .i64] ((p41.add (2 : Nat)).add (4 : Nat)) (x42, ()) <|
        π.st ((Addr.mk r31 (0 : Nat) none).add (4 : Nat)) [(Value.int (IntKind.i64) (x38))] <|
        π.still [.str] (p39.add (10 : Nat)) (t40, ()) <|
        π.still [.int .i64] ((p41.add (2 : Nat)).add (4 : Nat)) (x42, ()) <|
        π.st ((Addr.mk r31 (0 : Nat) none).add (5 : Nat)) [(Value.string (t40))] <|
        π.still [.int .i64] ((p41.add (2 : Nat)).add (4 : Nat)) (x42, ()) <|
        π.st ((Addr.mk r31 (0 : Nat) none).add (6 : Nat)) [(Value.int (IntKind.i64) (IntKind.i64.wrap (x42 + (1 : Int))))] <|
        J32 ((p24, ()), (Addr.mk r31 (0 : Nat) none, ()), ())
      ) (
        J32 ((p24, ()), (Addr.mk r31 (0 : Nat) none, ()), ())
      )
    ) (fun ((p43, _), (p44, _), _) =>
      π.unSome (some (Addr.mk b (0 : Nat) none)) fun p45 =>
      π.ld [.slice] (p45.add (11 : Nat)) fun (((a46 : Option Addr), (n47 : Nat), (c48 : Nat)), _) =>
      π.ld [.int .i64] (p44.add (6 : Nat)) fun ((x49 : Int), _) =>
      π.unSome (some (Addr.mk b (0 : Nat) none)) fun p50 =>
      π.ld [.int .i64] ((p50.add (2 : Nat)).add (4 : Nat)) fun ((x51 : Int), _) =>
      π.guard ((0 : Int) ≤ IntKind.i64.wrap (IntKind.i64.wrap (x49 - x51) - (1 : Int)) ∧ IntKind.i64.wrap (IntKind.i64.wrap (x49 - x51) - (1 : Int)) ≤ (↑n47 : Int) ∧ (↑n47 : Int) ≤ (↑c48 : Int)) <|
      π.call (79 : Nat) #[(Value.slice (if c48 = (IntKind.i64.wrap (IntKind.i64.wrap (x49 - x51) - (1 : Int))).toNat then a46 else Option.map (fun x => x.add ((IntKind.i64.wrap (IntKind.i64.wrap (x49 - x51) - (1 : Int))).toNat * (4 : Nat))) a46) ((↑n47 : Int).toNat - (IntKind.i64.wrap (IntKind.i64.wrap (x49 - x51) - (1 : Int))).toNat) (c48 - (IntKind.i64.wrap (IntKind.i64.wrap (x49 - x51) - (1 : Int))).toNat))] (false, [(false, [.slice])]) fun ((((a52 : Option Addr), (n53 : Nat), (c54 : Nat)), _), _) =>
      π.st (p44.add (7 : Nat)) [(Value.slice (a52) (n53) (c54))] <|
      π.call (87 : Nat) #[(Value.pointer (some (Addr.mk b (0 : Nat) none)))] (true, []) fun (_) =>
      π.ld [.int .i64, .int .i64, .bool, .int .i64, .int .i64, .str, .int .i64, .slice] (p44) fun ((x55 : Int), (x56 : Int), (b57 : Bool), (x58 : Int), (x59 : Int), (t60 : ByteArray), (x61 : Int), ((a62 : Option Addr), (n63 : Nat), (c64 : Nat)), _) =>
      π.st (p43) [(Value.int (IntKind.i64) (x55)), (Value.int (IntKind.i64) (x56)), (Value.bool (b57)), (Value.int (IntKind.i64) (x58)), (Value.int (IntKind.i64) (x59)), (Value.string (t60)), (Value.int (IntKind.i64) (x61)), (Value.slice (a62) (n63) (c64))] <|
      π.ld [.int .i64, .int .i64, .bool, .int .i64, .int .i64, .str, .int .i64, .slice] (p43) fun ((x65 : Int), (x66 : Int), (b67 : Bool), (x68 : Int), (x69 : Int), (t70 : ByteArray), (x71 : Int), ((a72 : Option Addr), (n73 : Nat), (c74 : Nat)), _) =>
      π.ret (Value.tuple #[(Value.agg #[(Value.int (IntKind.i64) (x65)), (Value.int (IntKind.i64) (x66)), (Value.bool (b67)), (Value.int (IntKind.i64) (x68)), (Value.int (IntKind.i64) (x69)), (Value.string (t70)), (Value.int (IntKind.i64) (x71)), (Value.slice (a72) (n73) (c74))]), (Value.bool (true))])
    )
  )
def ann_Delta : Ann := { draws := [(3, { A := [0, 1, 2, 3, 4, 5, 6, 7, 8, 9, 10, 11, 12, 13, 14] }), (5, { A := [0, 1, 2, 3, 4, 5, 6, 7, 8, 9, 10, 11, 12, 13, 14, 15, 16, 17, 18, 19], chkL := [(20, [4, 8, 12, 17]), (22, [8, 12, 17]), (24, [12, 17]), (26, [17])], eag := [21, 23, 25, 27] }), (6, { A := [0, 1, 2, 3, 4, 5, 6, 7, 8, 9, 10, 11, 12, 13], eag := [15] })], join := [(3, [(2, 1000000)]), (6, [(2, 1000000), (4, 1000000)])], loop := [] }
def la_Delta : LA := { ptr := [], ty := [] }
set_option maxRecDepth 100000 in
theorem eq_Delta {W : Type} (π : Prims W) (b : Nat) : bodyL π Tryz.prog la_Delta ann_Delta (mkFr (maskA [] [.v (.pointer (some ⟨b, 0, none⟩))] 0) 77) Tryz.f62 (bodyOf Tryz.f62) (mkFr (List.map some [.v (.pointer (some ⟨b, 0, none⟩))]) 77) = vc_Delta π b := by kernel_rfl
theorem ok_Delta (b : Nat) (R : Value → PH → Prop) (s : PH) (h : vc_Delta (RP Tryz.prog R) b s) : DCalls Tryz.prog 62 (List.map AV.val [.v (.pointer (some ⟨b, 0, none⟩))]).toArray s R :=
  calls_vcL (c := bodyOf Tryz.f62) (ann := ann_Delta) la_Delta (by kernel_rfl) Tryz.func62 rfl (by kernel_rfl) [.v (.pointer (some ⟨b, 0, none⟩))] [] (by rw [Tryz.ntmps62]; exact Nat.le_of_ble_eq_true rfl) (by kernel_rfl) (by rw [show Tryz.f62.ntmps = 77 from Tryz.ntmps62, eq_Delta]; exact h)
/-- (*lintel/ballot.Ballot).Stand -/
def vc_Stand {W : Type} (π : Prims W) (b : Nat) : W :=
  π.nw (Obj.cells #[(Value.int (IntKind.i64) ((0 : Int))), (Value.int (IntKind.i64) ((0 : Int))), (Value.int (IntKind.i64) ((0 : Int))), (Value.int (IntKind.i64) ((0 : Int))), (Value.int (IntKind.i64) ((0 : Int))), (Value.int (IntKind.i64) ((0 : Int))), (Value.int (IntKind.i64) ((0 : Int)))] (37 : Nat) ((0 : Nat), (0 : Nat))) fun r0 =>
  π.ite ((some (Addr.mk b (0 : Nat) none)).isNone) (
    π.st (Addr.mk r0 (0 : Nat) none) [(Value.int (IntKind.i64) ((0 : Int))), (Value.int (IntKind.i64) ((0 : Int))), (Value.int (IntKind.i64) ((0 : Int))), (Value.int (IntKind.i64) ((0 : Int))), (Value.int (IntKind.i64) ((0 : Int))), (Value.int (IntKind.i64) ((0 : Int))), (Value.int (IntKind.i64) ((0 : Int)))] <|
    π.ld [.int .i64, .int .i64, .int .i64, .int .i64, .int .i64, .int .i64, .int .i64] (Addr.mk r0 (0 : Nat) none) fun ((x1 : Int), (x2 : Int), (x3 : Int), (x4 : Int), (x5 : Int), (x6 : Int), (x7 : Int), _) =>
    π.ret (Value.agg #[(Value.int (IntKind.i64) (x1)), (Value.int (IntKind.i64) (x2)), (Value.int (IntKind.i64) (x3)), (Value.int (IntKind.i64) (x4)), (Value.int (IntKind.i64) (x5)), (Value.int (IntKind.i64) (x6)), (Value.int (IntKind.i64) (x7))])
  ) (
    π.unSome (some (Addr.mk b (0 : Nat) none)) fun p8 =>
    π.ld [.int .i64, .int .i64, .int .i64, .int .i64, .int .i64, .int .i64, .int .i64] (p8.add (2 : Nat)) fun ((x9 : Int), (x10 : Int), (x11 : Int), (x12 : Int), (x13 : Int), (x14 : Int), (x15 : Int), _) =>
    π.nw (Obj.cells #[(Value.int (IntKind.i64) ((0 : Int))), (Value.int (IntKind.i64) ((0 : Int))), (Value.int (IntKind.i64) ((0 : Int))), (Value.int (IntKind.i64) ((0 : Int))), (Value.int (IntKind.i64) ((0 : Int))), (Value.int (IntKind.i64) ((0 : Int))), (Value.int (IntKind.i64) ((0 : Int)))] (37 : Nat) ((0 : Nat), (0 : Nat))) fun r16 =>
    π.st (Addr.mk r16 (0 : Nat) none) [(Value.int (IntKind.i64) (x9)), (Value.int (IntKind.i64) (x10)), (Value.int (IntKind.i64) (x11)), (Value.int (IntKind.i64) (x12)), (Value.int (IntKind.i64) (x13)), (Value.int (IntKind.i64) (x14)), (Value.int (IntKind.i64) (x15))] <|
    π.call (55 : Nat) #[(Value.pointer (some (Addr.mk b (0 : Nat) none)))] (false, [(false, [.int .i64])]) fun (((x17 : Int), _), _) =>
    π.st ((Addr.mk r16 (0 : Nat) none).add (5 : Nat)) [(Value.int (IntKind.i64) (x17))] <|
    π.ld [.int .i64, .int .i64, .int .i64, .int .i64, .int .i64, .int .i64, .int .i64] (Addr.mk r16 (0 : Nat) none) fun ((x18 : Int), (x19 : Int), (x20 : Int), (x21 : Int), (x22 : Int), (x23 : Int), (x24 : Int), _) =>
    π.st (Addr.mk r0 (0 : Nat) none) [(Value.int (IntKind.i64) (x18)), (Value.int (IntKind.i64) (x19)), (Value.int (IntKind.i64) (x20)), (Value.int (IntKind.i64) (x21)), (Value.int (IntKind.i64) (x22)), (Value.int (IntKind.i64) (x23)), (Value.int (IntKind.i64) (x24))] <|
    π.ld [.int .i64, .int .i64, .int .i64, .int .i64, .int .i64, .int .i64, .int .i64] (Addr.mk r0 (0 : Nat) none) fun ((x25 : Int), (x26 : Int), (x27 : Int), (x28 : Int), (x29 : Int), (x30 : Int), (x31 : Int), _) =>
    π.ret (Value.agg #[(Value.int (IntKind.i64) (x25)), (Value.int (IntKind.i64) (x26)), (Value.int (IntKind.i64) (x27)), (Value.int (IntKind.i64) (x28)), (Value.int (IntKind.i64) (x29)), (Value.int (IntKind.i64) (x30)), (Value.int (IntKind.i64) (x31))])
  )
def ann_Stand : Ann := { draws := [], join := [], loop := [] }
def la_Stand : LA := { ptr := [], ty := [] }
set_option maxRecDepth 100000 in
theorem eq_Stand {W : Type} (π : Prims W) (b : Nat) : bodyL π Tryz.prog la_Stand ann_Stand (mkFr (maskA [] [.v (.pointer (some ⟨b, 0, none⟩))] 0) 15) Tryz.f34 (bodyOf Tryz.f34) (mkFr (List.map some [.v (.pointer (some ⟨b, 0, none⟩))]) 15) = vc_Stand π b := by kernel_rfl
theorem ok_Stand (b : Nat) (R : Value → PH → Prop) (s : PH) (h : vc_Stand (RP Tryz.prog R) b s) : DCalls Tryz.prog 34 (List.map AV.val [.v (.pointer (some ⟨b, 0, none⟩))]).toArray s R :=
  calls_vcL (c := bodyOf Tryz.f34) (ann := ann_Stand) la_Stand (by kernel_rfl) Tryz.func34 rfl (by kernel_rfl) [.v (.pointer (some ⟨b, 0, none⟩))] [] (by rw [Tryz.ntmps34]; exact Nat.le_of_ble_eq_true rfl) (by kernel_rfl) (by rw [show Tryz.f34.ntmps = 15 from Tryz.ntmps34, eq_Stand]; exact h)
/-- (*lintel/ballot.Ballot).Snap -/
def vc_Snap {W : Type} (π : Prims W) (b : Nat) : W :=
  π.ite ((some (Addr.mk b (0 : Nat) none)).isNone) (
    π.ret (Value.string (ByteArray.mk #[]))
  ) (
    π.unSome (some (Addr.mk b (0 : Nat) none)) fun p0 =>
    π.ld [.str] (p0.add (10 : Nat)) fun ((t1 : ByteArray), _) =>
    π.ret (Value.string (t1))
  )
def ann_Snap : Ann := { draws := [], join := [], loop := [] }
def la_Snap : LA := { ptr := [], ty := [] }
set_option maxRecDepth 100000 in
theorem eq_Snap {W : Type} (π : Prims W) (b : Nat) : bodyL π Tryz.prog la_Snap ann_Snap (mkFr (maskA [] [.v (.pointer (some ⟨b, 0, none⟩))] 0) 9) Tryz.f54 (bodyOf Tryz.f54) (mkFr (List.map some [.v (.pointer (some ⟨b, 0, none⟩))]) 9) = vc_Snap π b := by kernel_rfl
theorem ok_Snap (b : Nat) (R : Value → PH → Prop) (s : PH) (h : vc_Snap (RP Tryz.prog R) b s) : DCalls Tryz.prog 54 (List.map AV.val [.v (.pointer (some ⟨b, 0, none⟩))]).toArray s R :=
  calls_vcL (c := bodyOf Tryz.f54) (ann := ann_Snap) la_Snap (by kernel_rfl) Tryz.func54 rfl (by kernel_rfl) [.v (.pointer (some ⟨b, 0, none⟩))] [] (by rw [Tryz.ntmps54]; exact Nat.le_of_ble_eq_true rfl) (by kernel_rfl) (by rw [show Tryz.f54.ntmps = 9 from Tryz.ntmps54, eq_Snap]; exact h)
/-- math/bits.Mul64 -/
def vc_Mul64 {W : Type} (π : Prims W) (x y : Int) : W :=
  π.ret (Value.tuple #[(Value.int (IntKind.u64) (IntKind.u64.wrap (IntKind.u64.wrap (IntKind.u64.wrap (x.fdiv (4294967296 : Int) * y.fdiv (4294967296 : Int)) + (IntKind.u64.wrap (IntKind.u64.wrap (x.fdiv (4294967296 : Int) * IntKind.u64.wrap (↑(BitVec.ofInt (64 : Nat) y &&& BitVec.ofInt (64 : Nat) (4294967295 : Int)).toNat : Int)) + (IntKind.u64.wrap (IntKind.u64.wrap (↑(BitVec.ofInt (64 : Nat) x &&& BitVec.ofInt (64 : Nat) (4294967295 : Int)).toNat : Int) * IntKind.u64.wrap (↑(BitVec.ofInt (64 : Nat) y &&& BitVec.ofInt (64 : Nat) (4294967295 : Int)).toNat : Int))).fdiv (4294967296 : Int))).fdiv (4294967296 : Int)) + (IntKind.u64.wrap (IntKind.u64.wrap (↑(BitVec.ofInt (64 : Nat) (IntKind.u64.wrap (IntKind.u64.wrap (x.fdiv (4294967296 : Int) * IntKind.u64.wrap (↑(BitVec.ofInt (64 : Nat) y &&& BitVec.ofInt (64 : Nat) (4294967295 : Int)).toNat : Int)) + (IntKind.u64.wrap (IntKind.u64.wrap (↑(BitVec.ofInt (64 : Nat) x &&& BitVec.ofInt (64 : Nat) (4294967295 : Int)).toNat : Int) * IntKind.u64.wrap (↑(BitVec.ofInt (64 : Nat) y &&& BitVec.ofInt (64 : Nat) (4294967295 : Int)).toNat : Int))).fdiv (4294967296 : Int))) &&& BitVec.ofInt (64 : Nat) (4294967295 : Int)).toNat : Int) + IntKind.u64.wrap (IntKind.u64.wrap (↑(BitVec.ofInt (64 : Nat) x &&& BitVec.ofInt (64 : Nat) (4294967295 : Int)).toNat : Int) * y.fdiv (4294967296 : Int)))).fdiv (4294967296 : Int)))), (Value.int (IntKind.u64) (IntKind.u64.wrap (x * y)))])
def ann_Mul64 : Ann := { draws := [], join := [], loop := [] }
def la_Mul64 : LA := { ptr := [], ty := [] }
set_option maxRecDepth 100000 in
theorem eq_Mul64 {W : Type} (π : Prims W) (x y : Int) : bodyL π Tryz.prog la_Mul64 ann_Mul64 (mkFr (maskA [] [.v (.int .u64 x), .v (.int .u64 y)] 0) 51) Tryz.f119 (bodyOf Tryz.f119) (mkFr (List.map some [.v (.int .u64 x), .v (.int .u64 y)]) 51) = vc_Mul64 π x y := by kernel_rfl
theorem ok_Mul64 (x y : Int) (R : Value → PH → Prop) (s : PH) (h : vc_Mul64 (RP Tryz.prog R) x y s) : DCalls Tryz.prog 119 (List.map AV.val [.v (.int .u64 x), .v (.int .u64 y)]).toArray s R :=
  calls_vcL (c := bodyOf Tryz.f119) (ann := ann_Mul64) la_Mul64 (by kernel_rfl) Tryz.func119 rfl (by kernel_rfl) [.v (.int .u64 x), .v (.int .u64 y)] [] (by rw [Tryz.ntmps119]; exact Nat.le_of_ble_eq_true rfl) (by kernel_rfl) (by rw [show Tryz.f119.ntmps = 51 from Tryz.ntmps119, eq_Mul64]; exact h)
/-- math/bits.Mul -/
def vc_Mul {W : Type} (π : Prims W) (x y : Int) : W :=
  π.call (119 : Nat) #[(Value.int (IntKind.u64) (x)), (Value.int (IntKind.u64) (y))] (true, [(false, [.int .u64]), (false, [.int .u64])]) fun (((x0 : Int), _), ((x1 : Int), _), _) =>
  π.ret (Value.tuple #[(Value.int (IntKind.u64) (x0)), (Value.int (IntKind.u64) (x1))])
def ann_Mul : Ann := { draws := [], join := [], loop := [] }
def la_Mul : LA := { ptr := [], ty := [] }
set_option maxRecDepth 100000 in
theorem eq_Mul {W : Type} (π : Prims W) (x y : Int) : bodyL π Tryz.prog la_Mul ann_Mul (mkFr (maskA [] [.v (.int .u64 x), .v (.int .u64 y)] 0) 30) Tryz.f113 (bodyOf Tryz.f113) (mkFr (List.map some [.v (.int .u64 x), .v (.int .u64 y)]) 30) = vc_Mul π x y := by kernel_rfl
theorem ok_Mul (x y : Int) (R : Value → PH → Prop) (s : PH) (h : vc_Mul (RP Tryz.prog R) x y s) : DCalls Tryz.prog 113 (List.map AV.val [.v (.int .u64 x), .v (.int .u64 y)]).toArray s R :=
  calls_vcL (c := bodyOf Tryz.f113) (ann := ann_Mul) la_Mul (by kernel_rfl) Tryz.func113 rfl (by kernel_rfl) [.v (.int .u64 x), .v (.int .u64 y)] [] (by rw [Tryz.ntmps113]; exact Nat.le_of_ble_eq_true rfl) (by kernel_rfl) (by rw [show Tryz.f113.ntmps = 30 from Tryz.ntmps113, eq_Mul]; exact h)
/-- slices.Repeat[[]int,int] -/
def vc_Repeat {W : Type} (π : Prims W) (a : Option Addr) (an ac : Nat) (c : Int) : W :=
  π.join [] (fun J0 =>
    π.ite (decide (c < (0 : Int))) (
      π.fail
    ) (
      J0 (())
    )
  ) (fun (_) =>
    π.call (113 : Nat) #[(Value.int (IntKind.u64) (IntKind.u64.wrap (↑an : Int))), (Value.int (IntKind.u64) (IntKind.u64.wrap c))] (true, [(false, [.int .u64]), (false, [.int .u64])]) fun (((x1 : Int), _), ((x2 : Int), _), _) =>
    π.join [(false, [.int .u64])] (fun J3 =>
      π.ite (decide (x1 > (0 : Int))) (
        π.fail
      ) (
        π.ite (decide (x2 > (9223372036854775807 : Int))) (
          π.fail
        ) (
          J3 ((x2, ()), ())
        )
      )
    ) (fun (((x4 : Int), _), _) =>
      π.mksl (3 : Nat) (1 : Nat) (8 : Nat) [(Value.int (IntKind.i64) ((0 : Int)))] (IntKind.i64.wrap x4) (IntKind.i64.wrap x4) fun r5 =>
      π.cpy (1 : Nat) (some (Addr.mk r5 (0 : Nat) none)) ((IntKind.i64.wrap x4).toNat) (a) (an) fun n6 =>
      π.loop [(false, [.slice]), (false, [.int .i64])] (((some (Addr.mk r5 (0 : Nat) none), (IntKind.i64.wrap x4).toNat, (IntKind.i64.wrap x4).toNat), ()), ((↑n6 : Int), ()), ()) fun ((((a8 : Option Addr), (n9 : Nat), (c10 : Nat)), _), ((x11 : Int), _), _) again7 =>
        π.ite (decide (x11 < (↑n9 : Int))) (
          π.guard ((0 : Int) ≤ x11 ∧ x11 ≤ (↑n9 : Int) ∧ (↑n9 : Int) ≤ (↑c10 : Int)) <|
          π.guard ((0 : Int) ≤ (0 : Int) ∧ (0 : Int) ≤ x11 ∧ x11 ≤ (↑c10 : Int)) <|
          π.cpy (1 : Nat) (if c10 = x11.toNat then a8 else Option.map (fun x => x.add (x11.toNat * (1 : Nat))) a8) ((↑n9 : Int).toNat - x11.toNat) (if c10 = (0 : Nat) then a8 else Option.map (fun x => x.add (0 : Nat)) a8) (x11.toNat - (0 : Nat)) fun n12 =>
          again7 (((a8, n9, c10), ()), (IntKind.i64.wrap (x11 + (↑n12 : Int)), ()), ())
        ) (
          π.ret (Value.slice (a8) (n9) (c10))
        )
    )
  )
def ann_Repeat : Ann := { draws := [(9, { A := [0, 1, 2, 3, 4, 5, 6], eag := [8] })], join := [(3, []), (6, [(6, 56)])], loop := [(8, [(7, 99), (8, 3)])] }
def la_Repeat : LA := { ptr := [], ty := [] }
set_option maxRecDepth 100000 in
theorem eq_Repeat {W : Type} (π : Prims W) (a : Option Addr) (an ac : Nat) (c : Int) : bodyL π Tryz.prog la_Repeat ann_Repeat (mkFr (maskA [] [.v (.slice a an ac), .v (.int .i64 c)] 0) 48) Tryz.f103 (bodyOf Tryz.f103) (mkFr (List.map some [.v (.slice a an ac), .v (.int .i64 c)]) 48) = vc_Repeat π a an ac c := by kernel_rfl
theorem ok_Repeat (a : Option Addr) (an ac : Nat) (c : Int) (R : Value → PH → Prop) (s : PH) (h : vc_Repeat (RP Tryz.prog R) a an ac c s) : DCalls Tryz.prog 103 (List.map AV.val [.v (.slice a an ac), .v (.int .i64 c)]).toArray s R :=
  calls_vcL (c := bodyOf Tryz.f103) (ann := ann_Repeat) la_Repeat (by kernel_rfl) Tryz.func103 rfl (by kernel_rfl) [.v (.slice a an ac), .v (.int .i64 c)] [] (by rw [Tryz.ntmps103]; exact Nat.le_of_ble_eq_true rfl) (by kernel_rfl) (by rw [show Tryz.f103.ntmps = 48 from Tryz.ntmps103, eq_Repeat]; exact h)
/-- (*lintel/ballot.Ballot).Entry -/
def vc_EntryN {W : Type} (π : Prims W) (i : Int) : W :=
  π.nw (Obj.cells #[(Value.int (IntKind.i64) ((0 : Int))), (Value.int (IntKind.i64) ((0 : Int))), (Value.int (IntKind.i64) ((0 : Int))), (Value.string (ByteArray.mk #[]))] (43 : Nat) ((0 : Nat), (0 : Nat))) fun r0 =>
  π.ite (true) (
    π.st (Addr.mk r0 (0 : Nat) none) [(Value.int (IntKind.i64) ((0 : Int))), (Value.int (IntKind.i64) ((0 : Int))), (Value.int (IntKind.i64) ((0 : Int))), (Value.string (ByteArray.mk #[]))] <|
    π.ld [.int .i64, .int .i64, .int .i64, .str] (Addr.mk r0 (0 : Nat) none) fun ((x1 : Int), (x2 : Int), (x3 : Int), (t4 : ByteArray), _) =>
    π.ret (Value.tuple #[(Value.agg #[(Value.int (IntKind.i64) (x1)), (Value.int (IntKind.i64) (x2)), (Value.int (IntKind.i64) (x3)), (Value.string (t4))]), (Value.bool (false))])
  ) (
    π.unSome (none) fun p5 =>
    π.ld [.int .i64] ((p5.add (2 : Nat)).add (4 : Nat)) fun ((x6 : Int), _) =>
    π.ite (decide (i ≤ x6)) (
      π.st (Addr.mk r0 (0 : Nat) none) [(Value.int (IntKind.i64) ((0 : Int))), (Value.int (IntKind.i64) ((0 : Int))), (Value.int (IntKind.i64) ((0 : Int))), (Value.string (ByteArray.mk #[]))] <|
      π.ld [.int .i64, .int .i64, .int .i64, .str] (Addr.mk r0 (0 : Nat) none) fun ((x7 : Int), (x8 : Int), (x9 : Int), (t10 : ByteArray), _) =>
      π.ret (Value.tuple #[(Value.agg #[(Value.int (IntKind.i64) (x7)), (Value.int (IntKind.i64) (x8)), (Value.int (IntKind.i64) (x9)), (Value.string (t10))]), (Value.bool (false))])
    ) (
      π.call (55 : Nat) #[(Value.pointer (none))] (false, [(false, [.int .i64])]) fun (((x11 : Int), _), _) =>
      π.ite (decide (i > x11)) (
        π.st (Addr.mk r0 (0 : Nat) none) [(Value.int (IntKind.i64) ((0 : Int))), (Value.int (IntKind.i64) ((0 : Int))), (Value.int (IntKind.i64) ((0 : Int))), (Value.string (ByteArray.mk #[]))] <|
        π.ld [.int .i64, .int .i64, .int .i64, .str] (Addr.mk r0 (0 : Nat) none) fun ((x12 : Int), (x13 : Int), (x14 : Int), (t15 : ByteArray), _) =>
        π.ret (Value.tuple #[(Value.agg #[(Value.int (IntKind.i64) (x12)), (Value.int (IntKind.i64) (x13)), (Value.int (IntKind.i64) (x14)), (Value.string (t15))]), (Value.bool (false))])
      ) (
        π.unSome (none) fun p16 =>
        π.ld [.slice] (p16.add (11 : Nat)) fun (((a17 : Option Addr), (n18 : Nat), (c19 : Nat)), _) =>
        π.unSome (none) fun p20 =>
        π.ld [.int .i64] ((p20.add (2 : Nat)).add (4 : Nat)) fun ((x21 : Int), _) =>
        π.guard ((0 : Int) ≤ IntKind.i64.wrap (IntKind.i64.wrap (i - x21) - (1 : Int)) ∧ IntKind.i64.wrap (IntKind.i64.wrap (i - x21) - (1 : Int)) < (↑n18 : Int)) <|
        π.unSome (a17) fun p22 =>
        π.ld [.int .i64, .int .i64, .int .i64, .str] (p22.add ((IntKind.i64.wrap (IntKind.i64.wrap (i - x21) - (1 : Int))).toNat * (4 : Nat))) fun ((x23 : Int), (x24 : Int), (x25 : Int), (t26 : ByteArray), _) =>
        π.st (Addr.mk r0 (0 : Nat) none) [(Value.int (IntKind.i64) (x23)), (Value.int (IntKind.i64) (x24)), (Value.int (IntKind.i64) (x25)), (Value.string (t26))] <|
        π.ld [.int .i64, .int .i64, .int .i64, .str] (Addr.mk r0 (0 : Nat) none) fun ((x27 : Int), (x28 : Int), (x29 : Int), (t30 : ByteArray), _) =>
        π.ret (Value.tuple #[(Value.agg #[(Value.int (IntKind.i64) (x27)), (Value.int (IntKind.i64) (x28)), (Value.int (IntKind.i64) (x29)), (Value.string (t30))]), (Value.bool (true))])
      )
    )
  )
def ann_EntryN : Ann := { draws := [(3, { A := [0, 1, 2, 3, 4, 5, 6, 7, 8, 9, 10, 11, 12, 13], eag := [15] })], join := [], loop := [] }
def la_EntryN : LA := { ptr := [], ty := [] }
set_option maxRecDepth 100000 in
theorem eq_EntryN {W : Type} (π : Prims W) (i : Int) : bodyL π Tryz.prog la_EntryN ann_EntryN (mkFr (maskA [] [.v (.pointer none), .v (.int .i64 i)] 0) 38) Tryz.f35 (bodyOf Tryz.f35) (mkFr (List.map some [.v (.pointer none), .v (.int .i64 i)]) 38) = vc_EntryN π i := by kernel_rfl
theorem ok_EntryN (i : Int) (R : Value → PH → Prop) (s : PH) (h : vc_EntryN (RP Tryz.prog R) i s) : DCalls Tryz.prog 35 (List.map AV.val [.v (.pointer none), .v (.int .i64 i)]).toArray s R :=
  calls_vcL (c := bodyOf Tryz.f35) (ann := ann_EntryN) la_EntryN (by kernel_rfl) Tryz.func35 rfl (by kernel_rfl) [.v (.pointer none), .v (.int .i64 i)] [] (by rw [Tryz.ntmps35]; exact Nat.le_of_ble_eq_true rfl) (by kernel_rfl) (by rw [show Tryz.f35.ntmps = 38 from Tryz.ntmps35, eq_EntryN]; exact h)
/-- (*lintel/ballot.Ballot).Stand -/
def vc_StandN {W : Type} (π : Prims W) : W :=
  π.nw (Obj.cells #[(Value.int (IntKind.i64) ((0 : Int))), (Value.int (IntKind.i64) ((0 : Int))), (Value.int (IntKind.i64) ((0 : Int))), (Value.int (IntKind.i64) ((0 : Int))), (Value.int (IntKind.i64) ((0 : Int))), (Value.int (IntKind.i64) ((0 : Int))), (Value.int (IntKind.i64) ((0 : Int)))] (37 : Nat) ((0 : Nat), (0 : Nat))) fun r0 =>
  π.ite (true) (
    π.st (Addr.mk r0 (0 : Nat) none) [(Value.int (IntKind.i64) ((0 : Int))), (Value.int (IntKind.i64) ((0 : Int))), (Value.int (IntKind.i64) ((0 : Int))), (Value.int (IntKind.i64) ((0 : Int))), (Value.int (IntKind.i64) ((0 : Int))), (Value.int (IntKind.i64) ((0 : Int))), (Value.int (IntKind.i64) ((0 : Int)))] <|
    π.ld [.int .i64, .int .i64, .int .i64, .int .i64, .int .i64, .int .i64, .int .i64] (Addr.mk r0 (0 : Nat) none) fun ((x1 : Int), (x2 : Int), (x3 : Int), (x4 : Int), (x5 : Int), (x6 : Int), (x7 : Int), _) =>
    π.ret (Value.agg #[(Value.int (IntKind.i64) (x1)), (Value.int (IntKind.i64) (x2)), (Value.int (IntKind.i64) (x3)), (Value.int (IntKind.i64) (x4)), (Value.int (IntKind.i64) (x5)), (Value.int (IntKind.i64) (x6)), (Value.int (IntKind.i64) (x7))])
  ) (
    π.unSome (none) fun p8 =>
    π.ld [.int .i64, .int .i64, .int .i64, .int .i64, .int .i64, .int .i64, .int .i64] (p8.add (2 : Nat)) fun ((x9 : Int), (x10 : Int), (x11 : Int), (x12 : Int), (x13 : Int), (x14 : Int), (x15 : Int), _) =>
    π.nw (Obj.cells #[(Value.int (IntKind.i64) ((0 : Int))), (Value.int (IntKind.i64) ((0 : Int))), (Value.int (IntKind.i64) ((0 : Int))), (Value.int (IntKind.i64) ((0 : Int))), (Value.int (IntKind.i64) ((0 : Int))), (Value.int (IntKind.i64) ((0 : Int))), (Value.int (IntKind.i64) ((0 : Int)))] (37 : Nat) ((0 : Nat), (0 : Nat))) fun r16 =>
    π.st (Addr.mk r16 (0 : Nat) none) [(Value.int (IntKind.i64) (x9)), (Value.int (IntKind.i64) (x10)), (Value.int (IntKind.i64) (x11)), (Value.int (IntKind.i64) (x12)), (Value.int (IntKind.i64) (x13)), (Value.int (IntKind.i64) (x14)), (Value.int (IntKind.i64) (x15))] <|
    π.call (55 : Nat) #[(Value.pointer (none))] (false, [(false, [.int .i64])]) fun (((x17 : Int), _), _) =>
    π.st ((Addr.mk r16 (0 : Nat) none).add (5 : Nat)) [(Value.int (IntKind.i64) (x17))] <|
    π.ld [.int .i64, .int .i64, .int .i64, .int .i64, .int .i64, .int .i64, .int .i64] (Addr.mk r16 (0 : Nat) none) fun ((x18 : Int), (x19 : Int), (x20 : Int), (x21 : Int), (x22 : Int), (x23 : Int), (x24 : Int), _) =>
    π.st (Addr.mk r0 (0 : Nat) none) [(Value.int (IntKind.i64) (x18)), (Value.int (IntKind.i64) (x19)), (Value.int (IntKind.i64) (x20)), (Value.int (IntKind.i64) (x21)), (Value.int (IntKind.i64) (x22)), (Value.int (IntKind.i64) (x23)), (Value.int (IntKind.i64) (x24))] <|
    π.ld [.int .i64, .int .i64, .int .i64, .int .i64, .int .i64, .int .i64, .int .i64] (Addr.mk r0 (0 : Nat) none) fun ((x25 : Int), (x26 : Int), (x27 : Int), (x28 : Int), (x29 : Int), (x30 : Int), (x31 : Int), _) =>
    π.ret (Value.agg #[(Value.int (IntKind.i64) (x25)), (Value.int (IntKind.i64) (x26)), (Value.int (IntKind.i64) (x27)), (Value.int (IntKind.i64) (x28)), (Value.int (IntKind.i64) (x29)), (Value.int (IntKind.i64) (x30)), (Value.int (IntKind.i64) (x31))])
  )
def ann_StandN : Ann := { draws := [], join := [], loop := [] }
def la_StandN : LA := { ptr := [], ty := [] }
set_option maxRecDepth 100000 in
theorem eq_StandN {W : Type} (π : Prims W) : bodyL π Tryz.prog la_StandN ann_StandN (mkFr (maskA [] [.v (.pointer none)] 0) 15) Tryz.f34 (bodyOf Tryz.f34) (mkFr (List.map some [.v (.pointer none)]) 15) = vc_StandN π := by kernel_rfl
theorem ok_StandN (R : Value → PH → Prop) (s : PH) (h : vc_StandN (RP Tryz.prog R) s) : DCalls Tryz.prog 34 (List.map AV.val [.v (.pointer none)]).toArray s R :=
  calls_vcL (c := bodyOf Tryz.f34) (ann := ann_StandN) la_StandN (by kernel_rfl) Tryz.func34 rfl (by kernel_rfl) [.v (.pointer none)] [] (by rw [Tryz.ntmps34]; exact Nat.le_of_ble_eq_true rfl) (by kernel_rfl) (by rw [show Tryz.f34.ntmps = 15 from Tryz.ntmps34, eq_StandN]; exact h)
/-- lintel/ballot.Load -/
def vc_Load2 {W : Type} (π : Prims W) (id size : Int) (a : Option Addr) (an ac : Nat) : W :=
  π.call (86 : Nat) #[(Value.int (IntKind.i64) (id)), (Value.int (IntKind.i64) (size))] (true, [(false, [.ptr]), (false, [.int .i64])]) fun ((p0, _), ((x1 : Int), _), _) =>
  π.ite (x1 != (0 : Int)) (
    π.ret (Value.tuple #[(Value.pointer (none)), (Value.int (IntKind.i64) (x1))])
  ) (
    π.loop [(false, [.ptr]), (false, [.slice]), (false, [.int .i64]), (false, [.int .i64])] ((p0, ()), ((a, an, ac), ()), ((↑an : Int), ()), ((0 : Int), ()), ()) fun ((p3, _), (((a4 : Option Addr), (n5 : Nat), (c6 : Nat)), _), ((x7 : Int), _), ((x8 : Int), _), _) again2 =>
      π.ite (decide (x8 < x7)) (
        π.guard ((0 : Int) ≤ x8 ∧ x8 < (↑n5 : Int)) <|
        π.unSome (a4) fun p9 =>
        π.ld [.int .i64, .int .i64, .bool, .int .i64, .int .i64, .str, .int .i64, .slice] (p9.add (x8.toNat * (8 : Nat))) fun ((x10 : Int), (x11 : Int), (b12 : Bool), (x13 : Int), (x14 : Int), (t15 : ByteArray), (x16 : Int), ((a17 : Option Addr), (n18 : Nat), (c19 : Nat)), _) =>
        π.join [(false, [.ptr]), (true, [.int .i64, .int .i64, .bool, .int .i64, .int .i64, .str, .int .i64, .slice]), (false, [.slice]), (false, [.int .i64]), (false, [.int .i64]), (false, [.bool])] (fun J20 =>
          π.join [(false, [.ptr]), (true, [.int .i64, .int .i64, .bool, .int .i64, .int .i64, .str, .int .i64, .slice]), (false, [.slice]), (false, [.int .i64]), (false, [.int .i64]), (false, [.bool])] (fun J21 =>
            π.ite (decide (x10 < (0 : Int))) (
              J21 ((p3, ()), (x10, x11, b12, x13, x14, t15, x16, (a17, n18, c19), ()), ((a4, n5, c6), ()), (x7, ()), (x8, ()), (true, ()), ())
            ) (
              π.ite (decide (x10 > (2199023255552 : Int))) (
                J21 ((p3, ()), (x10, x11, b12, x13, x14, t15, x16, (a17, n18, c19), ()), ((a4, n5, c6), ()), (x7, ()), (x8, ()), (true, ()), ())
              ) (
                π.ite (decide (x11 < (-1 : Int))) (
                  J21 ((p3, ()), (x10, x11, b12, x13, x14, t15, x16, (a17, n18, c19), ()), ((a4, n5, c6), ()), (x7, ()), (x8, ()), (true, ()), ())
                ) (
                  J21 ((p3, ()), (x10, x11, b12, x13, x14, t15, x16, (a17, n18, c19), ()), ((a4, n5, c6), ()), (x7, ()), (x8, ()), (decide (x11 ≥ size), ()), ())
                )
              )
            )
          ) (fun ((p22, _), ((x23 : Int), (x24 : Int), (b25 : Bool), (x26 : Int), (x27 : Int), (t28 : ByteArray), (x29 : Int), ((a30 : Option Addr), (n31 : Nat), (c32 : Nat)), _), (((a33 : Option Addr), (n34 : Nat), (c35 : Nat)), _), ((x36 : Int), _), ((x37 : Int), _), ((b38 : Bool), _), _) =>
            π.ite (b38) (
              J20 ((p22, ()), (x23, x24, b25, x26, x27, t28, x29, (a30, n31, c32), ()), ((a33, n34, c35), ()), (x36, ()), (x37, ()), (true, ()), ())
            ) (
              π.ite (b25) (
                π.ite (decide (x26 < (0 : Int))) (
                  J20 ((p22, ()), (x23, x24, b25, x26, x27, t28, x29, (a30, n31, c32), ()), ((a33, n34, c35), ()), (x36, ()), (x37, ()), (true, ()), ())
                ) (
                  π.ite (decide (x26 > (2199023255552 : Int))) (
                    J20 ((p22, ()), (x23, x24, b25, x26, x27, t28, x29, (a30, n31, c32), ()), ((a33, n34, c35), ()), (x36, ()), (x37, ()), (true, ()), ())
                  ) (
                    π.ite (decide (x27 < (0 : Int))) (
                      J20 ((p22, ()), (x23, x24, b25, x26, x27, t28, x29, (a30, n31, c32), ()), ((a33, n34, c35), ()), (x36, ()), (x37, ()), (true, ()), ())
                    ) (
                      π.ite (decide (x27 > (2199023255552 : Int))) (
                        J20 ((p22, ()), (x23, x24, b25, x26, x27, t28, x29, (a30, n31, c32), ()), ((a33, n34, c35), ()), (x36, ()), (x37, ()), (true, ()), ())
                      ) (
                        π.ite (!b25) (
                          π.unSome (p22) fun p39 =>
                          π.ld [.int .i64] ((p39.add (2 : Nat)).add (4 : Nat)) fun ((x40 : Int), _) =>
                          π.ite (decide (x29 ≤ x40)) (
                            J20 ((p22, ()), (x23, x24, b25, x26, x27, t28, x29, (a30, n31, c32), ()), ((a33, n34, c35), ()), (x36, ()), (x37, ()), (true, ()), ())
                          ) (
                            π.callQ (55 : Nat) #[(Value.pointer (p22))] (false, [(false, [.int .i64])]) fun (((x41 : Int), _), _) =>
                            J20 ((p22, ()), (x23, x24, b25, x26, x27, t28, x29, (a30, n31, c32), ()), ((a33, n34, c35), ()), (x36, ()), (x37, ()), (decide (x29 > IntKind.i64.wrap (x41 + (1 : Int))), ()), ())
                          )
                        ) (
                          J20 ((p22, ()), (x23, x24, b25, x26, x27, t28, x29, (a30, n31, c32), ()), ((a33, n34, c35), ()), (x36, ()), (x37, ()), (false, ()), ())
                        )
                      )
                    )
                  )
                )
              ) (
                π.ite (!b25) (
                  π.unSome (p22) fun p42 =>
                  π.ld [.int .i64] ((p42.add (2 : Nat)).add (4 : Nat)) fun ((x43 : Int), _) =>
                  π.ite (decide (x29 ≤ x43)) (
                    J20 ((p22, ()), (x23, x24, b25, x26, x27, t28, x29, (a30, n31, c32), ()), ((a33, n34, c35), ()), (x36, ()), (x37, ()), (true, ()), ())
                  ) (
                    π.callQ (55 : Nat) #[(Value.pointer (p22))] (false, [(false, [.int .i64])]) fun (((x44 : Int), _), _) =>
                    J20 ((p22, ()), (x23, x24, b25, x26, x27, t28, x29, (a30, n31, c32), ()), ((a33, n34, c35), ()), (x36, ()), (x37, ()), (decide (x29 > IntKind.i64.wrap (x44 + (1 : Int))), ()), ())
                  )
                ) (
                  J20 ((p22, ()), (x23, x24, b25, x26, x27, t28, x29, (a30, n31, c32), ()), ((a33, n34, c35), ()), (x36, ()), (x37, ()), (false, ()), ())
                )
              )
            )
          )
        ) (fun ((p45, _), ((x46 : Int), (x47 : Int), (b48 : Bool), (x49 : Int), (x50 : Int), (t51 : ByteArray), (x52 : Int), ((a53 : Option Addr), (n54 : Nat), (c55 : Nat)), _), (((a56 : Option Addr), (n57 : Nat), (c58 : Nat)), _), ((x59 : Int), _), ((x60 : Int), _), ((b61 : Bool), _), _) =>
          π.ite (b61) (
            π.ret (Value.tuple #[(Value.pointer (none)), (Value.int (IntKind.i64) ((100 : Int)))])
          ) (
            π.ite (b48) (
              π.call (79 : Nat) #[(Value.slice (a53) (n54) (c55))] (false, [(false, [.slice])]) fun ((((a62 : Option Addr), (n63 : Nat), (c64 : Nat)), _), _) =>
              π.unSome (p45) fun p65 =>
              π.st ((p65.add (2 : Nat)).add (4 : Nat)) [(Value.int (IntKind.i64) (x49))] <|
              π.unSome (p45) fun p66 =>
              π.st (p66.add (9 : Nat)) [(Value.int (IntKind.i64) (x50))] <|
              π.unSome (p45) fun p67 =>
              π.st (p67.add (10 : Nat)) [(Value.string (t51))] <|
              π.unSome (p45) fun p68 =>
              π.st (p68.add (11 : Nat)) [(Value.slice (a62) (n63) (c64))] <|
              π.unSome (p45) fun p69 =>
              π.st ((p69.add (2 : Nat)).add (0 : Nat)) [(Value.int (IntKind.i64) (x46))] <|
              π.unSome (p45) fun p70 =>
              π.st ((p70.add (2 : Nat)).add (1 : Nat)) [(Value.int (IntKind.i64) (x47))] <|
              again2 ((p45, ()), ((a56, n57, c58), ()), (x59, ()), (IntKind.i64.wrap (x60 + (1 : Int)), ()), ())
            ) (
              π.unSome (p45) fun p71 =>
              π.ld [.slice] (p71.add (11 : Nat)) fun (((a72 : Option Addr), (n73 : Nat), (c74 : Nat)), _) =>
              π.unSome (p45) fun p75 =>
              π.ld [.int .i64] ((p75.add (2 : Nat)).add (4 : Nat)) fun ((x76 : Int), _) =>
              π.unSome (p45) fun p77 =>
              π.ld [.int .i64] ((p77.add (2 : Nat)).add (4 : Nat)) fun ((x78 : Int), _) =>
              π.guard ((0 : Int) ≤ (0 : Int) ∧ (0 : Int) ≤ IntKind.i64.wrap (IntKind.i64.wrap (x52 - x76) - (1 : Int)) ∧ IntKind.i64.wrap (IntKind.i64.wrap (x52 - x76) - (1 : Int)) ≤ IntKind.i64.wrap (IntKind.i64.wrap (x52 - x78) - (1 : Int)) ∧ IntKind.i64.wrap (IntKind.i64.wrap (x52 - x78) - (1 : Int)) ≤ (↑c74 : Int)) <|
              π.app (43 : Nat) (4 : Nat) (40 : Nat) [(Value.int (IntKind.i64) ((0 : Int))), (Value.int (IntKind.i64) ((0 : Int))), (Value.int (IntKind.i64) ((0 : Int))), (Value.string (ByteArray.mk #[]))] (if (IntKind.i64.wrap (IntKind.i64.wrap (x52 - x78) - (1 : Int))).toNat = (0 : Nat) then a72 else Option.map (fun x => x.add (0 : Nat)) a72) ((IntKind.i64.wrap (IntKind.i64.wrap (x52 - x76) - (1 : Int))).toNat - (0 : Nat)) ((IntKind.i64.wrap (IntKind.i64.wrap (x52 - x78) - (1 : Int))).toNat - (0 : Nat)) (Src.sl a53 n54) fun a79 n80 c81 =>
              π.unSome (p45) fun p82 =>
              π.st (p82.add (11 : Nat)) [(Value.slice (a79) (n80) (c81))] <|
              π.unSome (p45) fun p83 =>
              π.st ((p83.add (2 : Nat)).add (0 : Nat)) [(Value.int (IntKind.i64) (x46))] <|
              π.unSome (p45) fun p84 =>
              π.st ((p84.add (2 : Nat)).add (1 : Nat)) [(Value.int (IntKind.i64) (x47))] <|
              again2 ((p45, ()), ((a56, n57, c58), ()), (x59, ()), (IntKind.i64.wrap (x60 + (1 : Int)), ()), ())
            )
          )
        )
      ) (
        π.unSome (p3) fun p85 =>
        π.ld [.int .i64] ((p85.add (2 : Nat)).add (4 : Nat)) fun ((x86 : Int), _) =>
        π.unSome (p3) fun p87 =>
        π.st ((p87.add (2 : Nat)).add (6 : Nat)) [(Value.int (IntKind.i64) (x86))] <|
        π.call (87 : Nat) #[(Value.pointer (p3))] (true, []) fun (_) =>
        π.ret (Value.tuple #[(Value.pointer (p3)), (Value.int (IntKind.i64) ((0 : Int)))])
      )
  )
def ann_Load2 : Ann := { draws := [(10, { A := [0, 1, 2, 3, 4, 5, 6, 7, 8, 9, 10, 11, 12, 13, 14, 15, 16, 17, 18, 19, 20, 21], quiet := [16] }), (13, { A := [0, 1, 2, 3, 4, 5, 6, 7, 8, 9, 10, 11], chkL := [(12, [5, 7, 9]), (16, [7, 9]), (19, [9])], eag := [13, 14, 15, 17, 18, 20, 21, 23, 24] }), (7, { A := [0, 1, 2, 3, 4, 5, 6, 7, 8, 9, 10, 11, 12, 13, 14, 15, 16, 17, 18, 19, 20, 21, 22, 23, 24, 25], eag := [27, 28] }), (14, { A := [0, 1, 2, 3, 4, 5, 6, 7, 8], chkL := [(9, [5])], eag := [10, 11, 12] })], join := [(9, [(8, 64), (11, 113), (21, 111), (22, 3), (23, 3), (56, 4)]), (11, [(8, 64), (11, 113), (21, 111), (22, 3), (23, 3), (56, 4)])], loop := [(5, [(8, 64), (21, 111), (22, 3), (23, 3)])] }
def la_Load2 : LA := { ptr := [(11, 11, 0), (57, 11, 0), (61, 11, 0), (66, 11, 1), (71, 11, 1), (76, 11, 2), (79, 11, 3), (83, 11, 3), (88, 11, 4), (93, 11, 4), (98, 11, 2), (102, 11, 6), (111, 11, 6), (120, 11, 2), (126, 11, 3), (128, 11, 4), (130, 11, 5), (132, 11, 7), (32, 11, 6), (41, 11, 6), (51, 11, 7), (146, 11, 0), (148, 11, 1)], ty := [(11, 113)] }
set_option maxRecDepth 100000 in
theorem eq_Load2 {W : Type} (π : Prims W) (id size : Int) (a : Option Addr) (an ac : Nat) : bodyL π Tryz.prog la_Load2 ann_Load2 (mkFr (maskA [] [.v (.int .i64 id), .v (.int .i64 size), .v (.slice a an ac)] 0) 169) Tryz.f59 (bodyOf Tryz.f59) (mkFr (List.map some [.v (.int .i64 id), .v (.int .i64 size), .v (.slice a an ac)]) 169) = vc_Load2 π id size a an ac := by kernel_rfl
theorem ok_Load2 (id size : Int) (a : Option Addr) (an ac : Nat) (R : Value → PH → Prop) (s : PH) (h : vc_Load2 (RP Tryz.prog R) id size a an ac s) : DCalls Tryz.prog 59 (List.map AV.val [.v (.int .i64 id), .v (.int .i64 size), .v (.slice a an ac)]).toArray s R :=
  calls_vcL (c := bodyOf Tryz.f59) (ann := ann_Load2) la_Load2 (by kernel_rfl) Tryz.func59 rfl (by kernel_rfl) [.v (.int .i64 id), .v (.int .i64 size), .v (.slice a an ac)] [] (by rw [Tryz.ntmps59]; exact Nat.le_of_ble_eq_true rfl) (by kernel_rfl) (by rw [show Tryz.f59.ntmps = 169 from Tryz.ntmps59, eq_Load2]; exact h)
end Go.Proofs.YtcdggocbjnmeaaaGreat
end
section
set_option linter.unusedVariables false
set_option linter.unusedSimpArgs false
set_option maxHeartbeats 1000000
namespace Go.Proofs.YtcdggocbjnmeaaaGreat
open Fw Go
attribute [-simp] Fw.W.ld_iff Fw.W.st_iff
structure Ent where
  term : Int
  at_ : Int
  born : Int
  text : ByteArray
  deriving DecidableEq
abbrev noEnt : Ent := ⟨0, 0, 0, ⟨#[]⟩⟩
def entE : Enc Ent where
  sz := 4
  f e := [.int .i64 e.term, .int .i64 e.at_, .int .i64 e.born, .string e.text]
  len _ := rfl
  one p v hv := by simp at hv; rcases hv with rfl | rfl | rfl | rfl <;> rfl
  pos := by omega
def entV (e : Ent) : Value := .agg #[.int .i64 e.term, .int .i64 e.at_, .int .i64 e.born, .string e.text]
def intE : Enc Int where
  sz := 1
  f n := [.int .i64 n]
  len _ := rfl
  one p v hv := by simp at hv; subst hv; (first | done | rfl)
  pos := by omega
def boolE : Enc Bool where
  sz := 1
  f b := [.bool b]
  len _ := rfl
  one p v hv := by simp at hv; subst hv; (first | done | rfl)
  pos := by omega
abbrev Tri := Option Addr × Nat × Nat
def Tri.v (t : Tri) : Value := .slice t.1 t.2.1 t.2.2
/-- what a ballot stands for -/
structure BS where
  id : Int
  size : Int
  term : Int
  vote : Int
  role : Int
  lead : Int
  base : Int
  last : Int
  commit : Int
  baseTerm : Int
  snap : ByteArray
  log : List Ent
  votes : List Bool
  next : List Int
  mat : List Int
  touched : Bool
  whole : Bool
  from_ : Int
abbrev BS.cells (B : BS) (l v n m : Tri) : Array Value :=
  #[.int .i64 B.id, .int .i64 B.size, .int .i64 B.term, .int .i64 B.vote, .int .i64 B.role, .int .i64 B.lead, .int .i64 B.base, .int .i64 B.last, .int .i64 B.commit, .int .i64 B.baseTerm, .string B.snap,
    .slice l.1 l.2.1 l.2.2, .slice v.1 v.2.1 v.2.2, .slice n.1 n.2.1 n.2.2, .slice m.1 m.2.1 m.2.2, .bool B.touched, .bool B.whole, .int .i64 B.from_]
structure Bal (s : PH) (b : Nat) (l v n m : Tri) (B : BS) : Prop where
  cell : s b = some (.cells (B.cells l v n m) 101 (0, 0))
  log : rowE entE s 43 l.1 l.2.1 l.2.2 B.log
  votes : rowE boolE s 4 v.1 v.2.1 v.2.2 B.votes
  next : rowE intE s 3 n.1 n.2.1 n.2.2 B.next
  mat : rowE intE s 3 m.1 m.2.1 m.2.2 B.mat
  nm : ∀ x ∈ Fw.blk n.1, x ∉ Fw.blk m.1
def bL (b : Nat) (l v n m : Tri) : List Nat := b :: (Fw.blk l.1 ++ (Fw.blk v.1 ++ (Fw.blk n.1 ++ Fw.blk m.1)))
def bptr (b : Nat) : Value := .pointer (some ⟨b, 0, none⟩)
section
variable {s s' : PH} {b : Nat} {l v n m : Tri} {B : BS}
/-- blocks of rows of different types are different -/
theorem row_ne2 {α : Type} {E : Enc α} {e e' : TypeId} {a : Option Addr} {k c g : Nat} {xs : List α} {o : Array Value} {f : Nat × Nat} (h : rowE E s e a k c xs) (hg : s g = some (.cells o e' f)) (he : e ≠ e') : g ∉ blk a := by
  intro hx
  rcases h.shape with ⟨rfl, _⟩ | ⟨g', rfl⟩
  · simp [blk] at hx
  · simp [blk] at hx; subst hx
    obtain ⟨cur, hc⟩ := h.ty rfl
    rw [hg] at hc; cases hc; exact he rfl
theorem row_ne3 {α β : Type} {E : Enc α} {E' : Enc β} {e e' : TypeId} {a a' : Option Addr} {k c k' c' : Nat} {xs : List α} {ys : List β} (h : rowE E s e a k c xs) (h' : rowE E' s e' a' k' c' ys) (he : e ≠ e') : ∀ x ∈ blk a', x ∉ blk a := by
  intro x hx
  rcases h'.shape with ⟨rfl, _⟩ | ⟨g', rfl⟩
  · simp [blk] at hx
  · simp [blk] at hx; subst hx
    obtain ⟨cur, hc⟩ := h'.ty rfl
    exact row_ne2 h hc he
theorem Bal.known (h : Bal s b l v n m B) : ∀ x ∈ bL b l v n m, s x ≠ none := by
  intro x hx
  simp only [bL, List.mem_cons, List.mem_append] at hx
  rcases hx with rfl | hx | hx | hx | hx
  · simp [h.cell]
  · exact h.log.known x hx
  · exact h.votes.known x hx
  · exact h.next.known x hx
  · exact h.mat.known x hx
theorem Bal.mod {M : List Nat} (h : Bal s b l v n m B) (hm : Fw.Mod M s s') (hd : ∀ x ∈ bL b l v n m, x ∉ M) : Bal s' b l v n m B := by
  simp only [bL, List.mem_cons, List.mem_append] at hd
  exact ⟨hm.at h.cell (hd b (.inl rfl)), h.log.mod hm fun x hx => hd x (.inr (.inl hx)), h.votes.mod hm fun x hx => hd x (.inr (.inr (.inl hx))), h.next.mod hm fun x hx => hd x (.inr (.inr (.inr (.inl hx)))),
    h.mat.mod hm fun x hx => hd x (.inr (.inr (.inr (.inr hx)))), h.nm⟩
theorem Bal.new (h : Bal s b l v n m B) (hm : Fw.Mod [] s s') : Bal s' b l v n m B := h.mod hm (by simp)
theorem Bal.ne (h : Bal s b l v n m B) : b ∉ blk l.1 ∧ b ∉ blk v.1 ∧ b ∉ blk n.1 ∧ b ∉ blk m.1 :=
  ⟨row_ne2 h.log h.cell (by decide), row_ne2 h.votes h.cell (by decide), row_ne2 h.next h.cell (by decide), row_ne2 h.mat h.cell (by decide)⟩
/-- its own cells are laid anew; the rows too, where they are others -/
theorem balOf {o : Array Value} (hb : s b = some (.cells o 101 (0, 0))) {B' : BS} {l' v' n' m' : Tri} (h1 : rowE entE s 43 l'.1 l'.2.1 l'.2.2 B'.log) (h2 : rowE boolE s 4 v'.1 v'.2.1 v'.2.2 B'.votes) (h3 : rowE intE s 3 n'.1 n'.2.1 n'.2.2 B'.next) (h4 : rowE intE s 3 m'.1 m'.2.1 m'.2.2 B'.mat)
    (h5 : ∀ x ∈ Fw.blk n'.1, x ∉ Fw.blk m'.1) {o' : Obj} (ho : o' = .cells (B'.cells l' v' n' m') 101 (0, 0) := by rfl) : Bal (s.upd b o') b l' v' n' m' B' := by
  subst ho
  have hm : Fw.Mod [b] s (s.upd b (.cells (B'.cells l' v' n' m') 101 (0, 0))) := Mod.upd (by simp)
  exact ⟨PH.upd_same _ _ _, h1.mod hm fun x hx => by simp; rintro rfl; exact row_ne2 h1 hb (by decide) hx, h2.mod hm fun x hx => by simp; rintro rfl; exact row_ne2 h2 hb (by decide) hx,
    h3.mod hm fun x hx => by simp; rintro rfl; exact row_ne2 h3 hb (by decide) hx, h4.mod hm fun x hx => by simp; rintro rfl; exact row_ne2 h4 hb (by decide) hx, h5⟩
theorem Bal.lay (h : Bal s b l v n m B) {B' : BS} {o' : Obj} (e1 : B'.log = B.log := by rfl) (e2 : B'.votes = B.votes := by rfl) (e3 : B'.next = B.next := by rfl) (e4 : B'.mat = B.mat := by rfl) (ho : o' = .cells (B'.cells l v n m) 101 (0, 0) := by rfl) : Bal (s.upd b o') b l v n m B' :=
  balOf h.cell (by rw [e1]; exact h.log) (by rw [e2]; exact h.votes) (by rw [e3]; exact h.next) (by rw [e4]; exact h.mat) h.nm ho
theorem bL_self : b ∈ bL b l v n m := by simp [bL]
end
/-- as far as numbers go -/
structure BS.Small (B : BS) : Prop where
  base0 : 0 ≤ B.base
  base1 : B.base ≤ 4611686018427387904
  log1 : B.log.length ≤ 1073741824
def BS.lst (B : BS) : Int := B.base + B.log.length
theorem BS.Small.last {B : BS} (h : B.Small) : IntKind.i64.wrap (B.base + (B.log.length : Int)) = B.lst := by
  obtain ⟨h1, h2, h3⟩ := h
  exact wrap_in (by omega) (by omega)
section
variable {s : PH} {b : Nat} {l v n m : Tri} {B : BS}
theorem c_last (h : Bal s b l v n m B) (hs : B.Small) : DCalls Tryz.prog 55 #[bptr b] s fun x s' => x = .int .i64 B.lst ∧ s' = s := by
  refine ok_last b _ s ?_
  have hb := h.cell
  have hl := h.log.len
  unfold vc_last
  simp [W.ld_at hb]
  rw [hl, hs.last]
theorem c_clean (h : Bal s b l v n m B) (hs : B.Small) : DCalls Tryz.prog 87 #[bptr b] s fun x s' => x = .tuple #[] ∧ Bal s' b l v n m { B with touched := false, whole := false, from_ := B.lst + 1 } ∧ Fw.Mod [b] s s' := by
  refine ok_clean b _ s ?_
  have hb := h.cell
  unfold vc_clean
  simp only [RP_call]
  refine W.call_of (c_last h hs) ?_
  rintro _ s ⟨rfl, rfl⟩
  refine ⟨((B.lst, ()), ()), rfl, ?_⟩
  have hw : IntKind.i64.wrap (B.lst + 1) = B.lst + 1 := by
    obtain ⟨h1, h2, h3⟩ := hs
    unfold BS.lst
    exact wrap_in (by omega) (by omega)
  simp [W.ld_at hb, W.st_at hb, hw]
  exact ⟨h.lay, Mod.upd (by simp)⟩
def newBS (id size : Int) : BS := ⟨id, size, 0, -1, 0, -1, 0, 0, 0, 0, ⟨#[]⟩, [], [], [], [], false, false, 1⟩
abbrev noTri : Tri := (none, 0, 0)
def okNew (id size : Int) : Prop := 1 ≤ size ∧ size ≤ 5 ∧ 0 ≤ id ∧ id < size
instance (id size : Int) : Decidable (okNew id size) := by unfold okNew; infer_instance
def NewPost (id size : Int) (s : PH) (x : Value) (s' : PH) : Prop :=
  (okNew id size ∧ ∃ b, x = .tuple #[bptr b, .int .i64 0] ∧ Bal s' b noTri noTri noTri noTri (newBS id size) ∧ Fw.Mod [] s s' ∧ s b = none) ∨ (¬ okNew id size ∧ x = .tuple #[.pointer none, .int .i64 1] ∧ s' = s)
theorem c_bNew (id size : Int) (s : PH) : DCalls Tryz.prog 86 #[.int .i64 id, .int .i64 size] s (NewPost id size s) := by
  refine ok_bNew id size _ s ?_
  unfold vc_bNew
  have hno : ¬ okNew id size → NewPost id size s (.tuple #[.pointer none, .int .i64 1]) s := fun h => .inr ⟨h, rfl, rfl⟩
  simp [W.br_iff]
  refine ⟨fun h => hno (by unfold okNew; omega), fun h1 => ⟨fun h => hno (by unfold okNew; omega), fun h2 => ⟨fun h => hno (by unfold okNew; omega), fun h3 => ⟨fun h => hno (by unfold okNew; omega), fun h4 => ?_⟩⟩⟩⟩
  intro r hr
  have h0 : Bal (s.upd r (.cells ({ newBS id size with from_ := 0 }.cells noTri noTri noTri noTri) 101 (0, 0))) r noTri noTri noTri noTri { newBS id size with from_ := 0 } :=
    ⟨PH.upd_same _ _ _, rowE.nil, rowE.nil, rowE.nil, rowE.nil, by simp [Fw.blk]⟩
  refine W.call_of (c_clean h0 ⟨by show (0 : Int) ≤ 0; omega, by show (0 : Int) ≤ _; omega, Nat.zero_le _⟩) ?_
  rintro _ s2 ⟨rfl, h2, m2⟩
  refine ⟨(), rfl, ?_⟩
  exact .inl ⟨by unfold okNew; omega, r, rfl, h2, (Mod.new hr).fresh m2 (by simp [hr]), hr⟩
/-- the entry at a number -/
def BS.entry (B : BS) (i : Int) : Option Ent := if i ≤ B.base ∨ B.lst < i then none else B.log[(i - B.base - 1).toNat]?
theorem BS.entry_in {B : BS} {i : Int} (h1 : B.base < i) (h2 : i ≤ B.lst) : ∃ e, B.entry i = some e ∧ B.log[(i - B.base - 1).toNat]? = some e := by
  have hlt : (i - B.base - 1).toNat < B.log.length := by unfold BS.lst at h2; omega
  exact ⟨_, by unfold BS.entry; rw [if_neg (by omega), List.getElem?_eq_getElem hlt], List.getElem?_eq_getElem hlt⟩
theorem BS.entry_out {B : BS} {i : Int} (h : i ≤ B.base ∨ B.lst < i) : B.entry i = none := by unfold BS.entry; rw [if_pos h]
def Num (i : Int) : Prop := -4611686018427387904 ≤ i ∧ i ≤ 4611686018427387904
def EntryPost (B : BS) (i : Int) (s : PH) (x : Value) (s' : PH) : Prop := x = .tuple #[entV ((B.entry i).getD noEnt), .bool (B.entry i).isSome] ∧ Fw.Mod [] s s'
theorem c_Entry (h : Bal s b l v n m B) (hs : B.Small) {i : Int} (hi : Num i) : DCalls Tryz.prog 35 #[bptr b, .int .i64 i] s (EntryPost B i s) := by
  refine ok_Entry b i _ s ?_
  have hb := h.cell
  unfold vc_Entry
  simp [W.br_iff]
  intro r hr
  have hbr := ne_of_known hb hr
  have m1 : Fw.Mod [] s (s.upd r (.cells #[.int .i64 0, .int .i64 0, .int .i64 0, .string ⟨#[]⟩] 43 (0, 0))) := Mod.new hr
  have hb1 := m1.at hb (by simp)
  have no : B.entry i = none → EntryPost B i s (.tuple #[.agg #[.int .i64 0, .int .i64 0, .int .i64 0, .string ⟨#[]⟩], .bool false]) (s.upd r (.cells #[.int .i64 0, .int .i64 0, .int .i64 0, .string ⟨#[]⟩] 43 (0, 0))) := by
    intro e; exact ⟨by rw [e]; (first | done | rfl), m1⟩
  simp [W.ld_at hb1, W.br_iff]
  refine ⟨fun h1 => no (BS.entry_out (.inl h1)), fun h1 => ?_⟩
  refine W.call_of (c_last (h.new m1) hs) ?_
  rintro _ _ ⟨rfl, rfl⟩
  refine ⟨((B.lst, ()), ()), rfl, ?_⟩
  simp [W.ld_at hb1, W.br_iff]
  refine ⟨fun h2 => no (BS.entry_out (.inr h2)), fun h2 => ?_⟩
  obtain ⟨e, he, he'⟩ := BS.entry_in (B := B) (i := i) (by omega) h2
  obtain ⟨g, hg, hhas⟩ := ((h.new m1).log).at he'
  have hn := h.log.len
  obtain ⟨i1, i2⟩ := hi
  obtain ⟨q1, q2, q3⟩ := hs
  obtain ⟨k, hk⟩ : ∃ k : Nat, (i - B.base - 1).toNat = k := ⟨_, rfl⟩
  have hw : IntKind.i64.wrap (IntKind.i64.wrap (i - B.base) - 1) = (k : Int) := by
    unfold BS.lst at h2
    rw [wrap_in (n := i - B.base) (by omega) (by omega), wrap_in (by omega) (by omega)]; omega
  have hlt := (List.getElem?_eq_some_iff.1 he').1
  rw [hk] at hhas hlt
  rw [hg]
  simp [hw]
  refine ⟨by omega, ?_⟩
  refine ld_has_z (A := ⟨g, k * 4, none⟩) hhas (cs := [.int .i64, .int .i64, .int .i64, .str]) (y := (e.term, e.at_, e.born, e.text, ())) rfl ?_
  have hgr : g ≠ r := by
    rintro rfl
    have : g ∈ Fw.blk l.1 := by rw [hg]; simp [Fw.blk]
    exact h.log.known _ this hr
  simp
  exact ⟨by rw [he]; (first | done | rfl), Mod.new hr⟩
def BS.termAt (B : BS) (i : Int) : Int × Bool := if i = B.base then (B.baseTerm, true) else (((B.entry i).getD noEnt).term, (B.entry i).isSome)
def TermPost (B : BS) (i : Int) (s : PH) (x : Value) (s' : PH) : Prop := x = .tuple #[.int .i64 (B.termAt i).1, .bool (B.termAt i).2] ∧ Fw.Mod [] s s'
theorem c_term (h : Bal s b l v n m B) (hs : B.Small) {i : Int} (hi : Num i) : DCalls Tryz.prog 77 #[bptr b, .int .i64 i] s (TermPost B i s) := by
  refine ok_term b i _ s ?_
  have hb := h.cell
  unfold vc_term
  simp [W.ld_at hb, W.br_iff]
  refine ⟨fun h1 => ⟨by simp [BS.termAt, h1], Mod.refl _ _⟩, fun h1 => ?_⟩
  refine W.call_of (c_Entry h hs hi) ?_
  rintro _ s1 ⟨rfl, m1⟩
  generalize he : (B.entry i).getD noEnt = e
  refine ⟨((e.term, e.at_, e.born, e.text, ()), ((B.entry i).isSome, ()), ()), rfl, ?_⟩
  simp
  intro r hr
  refine ⟨by simp [BS.termAt, h1, he], m1.trans (Mod.new hr)⟩
/-- entries, copied -/
def ClonePost (ys : List Ent) (s : PH) (x : Value) (s' : PH) : Prop := ∃ t : Tri, x = t.v ∧ t.2.1 = ys.length ∧ rowE entE s' 43 t.1 t.2.1 t.2.2 ys ∧ Fw.Mod [] s s' ∧ ∀ g ∈ Fw.blk t.1, s g = none
theorem c_Clone {a : Option Addr} {an ac : Nat} {ys : List Ent} (h : srcIs s 4 (.sl a an) (ys.flatMap entE.f)) (hy : ys.length = an) (hl : an ≤ 1073741824) : DCalls Tryz.prog 79 #[.slice a an ac] s (ClonePost ys s) := by
  refine ok_Clone a an ac _ s ?_
  unfold vc_Clone
  have hmax : maxLen = 9223372036854775807 := rfl
  cases a with
  | none =>
    have : ys = [] := by
      have := h.2
      refine List.length_eq_zero_iff.1 ?_
      omega
    subst this
    simp
    exact ⟨noTri, rfl, rfl, rowE.nil, Mod.refl _ _, by simp [Fw.blk]⟩
  | some ad =>
    simp
    intro r hr
    have m1 : Fw.Mod [] s (s.upd r (.cells #[] 43 (0, 0))) := Mod.new hr
    have h0 : rowE entE (s.upd r (.cells #[] 43 (0, 0))) 43 (some ⟨r, 0, none⟩) 0 0 [] := ⟨by simp, Nat.le_refl _, by simp, .inr ⟨r, #[], rfl, PH.upd_same _ _ _, by simp, by simp⟩⟩
    have hsrc : srcIs (s.upd r (.cells #[] 43 (0, 0))) 4 (.sl (some ad) an) (ys.flatMap entE.f) := ⟨h.1, h.2.mono m1.le⟩
    refine app_rowE (E := entE) (k := an) (ys := ys) h0 rfl hsrc rfl hy (by omega) (by omega) ?_
    intro a' c' s' h' m'
    simp only [List.nil_append, Nat.zero_add] at h' ⊢
    refine ⟨(a', an, c'), rfl, hy.symm, h', ?_⟩
    rcases m' with ⟨rfl, m'⟩ | ⟨g, rfl, hg, m'⟩
    · exact ⟨m1.fresh m' (by simp [Fw.blk, hr]), by simp [Fw.blk, hr]⟩
    · exact ⟨m1.trans m', by simp [Fw.blk]; exact m1.none hg (by simp)⟩
/-- the log is laid anew from an entry on -/
def BS.set (B : BS) (i : Int) (ys : List Ent) : BS := { B with log := B.log.take (i - B.base - 1).toNat ++ ys, touched := true, from_ := if i < B.from_ then i else B.from_ }
def SetPost (B : BS) (b : Nat) (l v n m : Tri) (s : PH) (x : Value) (s' : PH) : Prop := ∃ l' : Tri, x = .tuple #[] ∧ Bal s' b l' v n m B ∧ Step (bL b l v n m) (bL b l' v n m) s s'
theorem bL_mem_l {x : Nat} (h : x ∈ Fw.blk l.1) : x ∈ bL b l v n m := by simp [bL, h]
theorem c_set (h : Bal s b l v n m B) (hs : B.Small) {i : Int} (h1 : B.base < i) (h2 : i ≤ B.lst + 1) {a : Option Addr} {an ac : Nat} {ys : List Ent} (ha : srcIs s 4 (.sl a an) (ys.flatMap entE.f)) (hy : ys.length = an) (hl : an ≤ 1073741824) :
    DCalls Tryz.prog 73 #[bptr b, .int .i64 i, .slice a an ac] s (SetPost (B.set i ys) b l v n m s) := by
  refine ok_set b i a an ac _ s ?_
  have hb := h.cell
  have hmax : maxLen = 9223372036854775807 := rfl
  have hlen := h.log.len
  have hcap := h.log.le
  have hmx := h.log.max
  obtain ⟨q1, q2, q3⟩ := hs
  unfold BS.lst at h2
  obtain ⟨k, hk⟩ : ∃ k : Nat, (i - B.base - 1).toNat = k := ⟨_, rfl⟩
  have hw : IntKind.i64.wrap (IntKind.i64.wrap (i - B.base) - 1) = (k : Int) := by
    rw [wrap_in (n := i - B.base) (by omega) (by omega), wrap_in (by omega) (by omega)]; omega
  unfold vc_set
  simp [W.ld_at hb, hw]
  refine ⟨by omega, ?_⟩
  have hrow := h.log.shrink (m := k) (c' := k) (by omega) (Nat.le_refl _) (by omega)
  have hadr : (if l.1 = none then none else l.1) = l.1 := by split <;> simp_all
  rw [hadr] at hrow
  refine app_rowE (E := entE) (k := an) (ys := ys) hrow rfl ha rfl hy (by omega) (by omega) ?_
  intro a' c' s' h' m'
  have hne := h.ne
  have old : ∀ {M : List Nat}, Fw.Mod M s s' → (∀ x ∈ M, x ∈ Fw.blk l.1) → s' b = some (.cells (B.cells l v n m) 101 (0, 0)) ∧ rowE boolE s' 4 v.1 v.2.1 v.2.2 B.votes ∧ rowE intE s' 3 n.1 n.2.1 n.2.2 B.next ∧ rowE intE s' 3 m.1 m.2.1 m.2.2 B.mat := by
    intro M hm hM
    exact ⟨hm.at hb fun hx => hne.1 (hM b hx), h.votes.mod hm fun x hx hx' => row_ne3 h.log h.votes (by decide) x hx (hM x hx'), h.next.mod hm fun x hx hx' => row_ne3 h.log h.next (by decide) x hx (hM x hx'),
      h.mat.mod hm fun x hx hx' => row_ne3 h.log h.mat (by decide) x hx (hM x hx')⟩
  have hM : ∃ M, Fw.Mod M s s' ∧ (∀ x ∈ M, x ∈ Fw.blk l.1) ∧ ∀ x ∈ Fw.blk a', x ∈ Fw.blk l.1 ∨ s x = none := by
    rcases m' with ⟨rfl, m'⟩ | ⟨g, rfl, hg, m'⟩
    · exact ⟨_, m', fun x hx => hx, fun x hx => .inl hx⟩
    · exact ⟨[], m', by simp, by simp [Fw.blk, hg]⟩
  obtain ⟨M, hm, hMl, hnew⟩ := hM
  obtain ⟨hb', hv', hn', hm'⟩ := old hm hMl
  simp [W.ld_at hb', W.st_at hb']
  refine ⟨(a', k + an, c'), rfl, ?_, ?_⟩
  · refine balOf (B' := B.set i ys) (l' := (a', k + an, c')) hb' ?_ hv' hn' hm' h.nm
    unfold BS.set
    simp only [hk]; exact h'
  · refine ⟨(hm.mono (L' := bL b l v n m) fun x hx => bL_mem_l (hMl x hx)).updLater (.inl (by simp [bL])), ?_⟩
    intro x hx
    simp only [bL, List.mem_cons, List.mem_append] at hx ⊢
    rcases hx with hx | hx | hx
    · exact .inl (.inl hx)
    · rcases hnew x hx with h1 | h1
      · exact .inl (.inr (.inl h1))
      · exact .inr h1
    · exact .inl (.inr (.inr hx))
theorem c_turn (h : Bal s b l v n m B) (term vote role : Int) : DCalls Tryz.prog 68 #[bptr b, .int .i64 term, .int .i64 vote, .int .i64 role] s fun x s' =>
    x = .tuple #[] ∧ Bal s' b l v n m { B with term := term, vote := vote, role := role, lead := -1, touched := true } ∧ Fw.Mod [b] s s' := by
  refine ok_turn b term vote role _ s ?_
  have hb := h.cell
  unfold vc_turn
  simp [W.st_at hb]
  exact ⟨h.lay, Mod.upd (by simp)⟩
/-- another base -/
def BS.rebase (B : BS) (i term : Int) (snap : ByteArray) (rest : List Ent) : BS := { B with base := i, baseTerm := term, snap := snap, log := rest, touched := true, whole := true }
theorem c_rebase (h : Bal s b l v n m B) (i term : Int) (snap : ByteArray) {a : Option Addr} {an ac : Nat} {ys : List Ent} (ha : rowE entE s 43 a an ac ys) : DCalls Tryz.prog 78 #[bptr b, .int .i64 i, .int .i64 term, .string snap, .slice a an ac] s fun x s' =>
    x = .tuple #[] ∧ Bal s' b (a, an, ac) v n m (B.rebase i term snap ys) ∧ Fw.Mod [b] s s' := by
  refine ok_rebase b i term snap a an ac _ s ?_
  have hb := h.cell
  unfold vc_rebase
  simp [W.st_at hb]
  exact ⟨balOf (B' := B.rebase i term snap ys) (l' := (a, an, ac)) hb ha h.votes h.next h.mat h.nm, Mod.upd (by simp)⟩
theorem c_Snap (h : Bal s b l v n m B) : DCalls Tryz.prog 54 #[bptr b] s fun x s' => x = .string B.snap ∧ s' = s := by
  refine ok_Snap b _ s ?_
  have hb := h.cell
  unfold vc_Snap
  simp [W.ld_at hb]
def BS.stand (B : BS) : Value := .agg #[.int .i64 B.term, .int .i64 B.vote, .int .i64 B.role, .int .i64 B.lead, .int .i64 B.base, .int .i64 B.lst, .int .i64 B.commit]
def StandPost (B : BS) (s : PH) (x : Value) (s' : PH) : Prop := x = B.stand ∧ Fw.Mod [] s s'
theorem c_Stand (h : Bal s b l v n m B) (hs : B.Small) : DCalls Tryz.prog 34 #[bptr b] s (StandPost B s) := by
  refine ok_Stand b _ s ?_
  have hb := h.cell
  unfold vc_Stand
  simp only [RP_nw]
  refine W.nw_of fun r s1 hr m1 k1 => ?_
  have hb1 := m1.at hb (by simp)
  simp [W.ld_at hb1, -W.nw_iff]
  refine W.nw_of fun r2 s2 hr2 m2 k2 => ?_
  have hne : r ≠ r2 := ne_of_known k1 hr2
  have k1' := m2.at k1 (by simp)
  simp [W.st_at k2]
  refine W.call_of (c_last ((h.new m1).new (m2.updLater (.inr hr2))) hs) ?_
  rintro _ s3 ⟨rfl, rfl⟩
  refine ⟨((B.lst, ()), ()), rfl, ?_⟩
  simp [fun o => W.st_at (upd_at k1' hne o)]
  exact ⟨rfl, ((m1.trans (m2.updLater (.inr hr2)))).updLater (.inr hr)⟩
end
end Go.Proofs.YtcdggocbjnmeaaaGreat
end
section
set_option linter.unusedVariables false
set_option linter.unusedSimpArgs false
set_option maxHeartbeats 1000000
namespace Go.Proofs.YtcdggocbjnmeaaaGreat
open Fw Go
attribute [-simp] Fw.W.ld_iff Fw.W.st_iff
theorem c_Mul {c : Int} (h : c = 1 ∨ c = 2 ∨ c = 3 ∨ c = 4 ∨ c = 5) (s : PH) : DCalls Tryz.prog 113 #[.int .u64 1, .int .u64 c] s fun x s' => x = .tuple #[.int .u64 0, .int .u64 c] ∧ s' = s := by
  refine ok_Mul 1 c _ s ?_
  unfold vc_Mul
  simp only [RP_call]
  refine W.call_of (Q := fun x s' => x = .tuple #[.int .u64 0, .int .u64 c] ∧ s' = s) (ok_Mul64 1 c _ s ?_) ?_
  · rcases h with rfl | rfl | rfl | rfl | rfl <;> exact ⟨by kernel_rfl, rfl⟩
  · rintro _ s ⟨rfl, rfl⟩
    refine ⟨((0, ()), (c, ()), ()), rfl, ?_⟩
    simp
theorem stores_row {s : PH} {g off : Nat} {cur : Array Value} {e : TypeId} {vs : List Value} (h : s g = some (.cells cur e (0, 0))) (hv : vs ≠ []) (hl : off + vs.length ≤ cur.size) :
    s.open_ ⟨g, off, none⟩ vs.length ∧ s.stores ⟨g, off, none⟩ 0 vs = s.upd g (.cells (setL cur off vs) e (0, 0)) := by
  constructor
  · rw [open_iff (a := ⟨g, off, none⟩) h (by cases vs; exact absurd rfl hv; simp)]
    exact ⟨rfl, hl, .inr (.inr (Nat.le_refl _))⟩
  · have := PH.stores_eq (a := ⟨g, off, none⟩) (e := e) (f := (0, 0)) rfl vs 0 cur s h hv
    simpa using this
theorem flat_rep (k : Nat) (x : Int) : (List.replicate k x).flatMap intE.f = List.replicate k (Value.int .i64 x) := by
  induction k with
  | zero => rfl
  | succ k ih => rw [List.replicate_succ, List.flatMap_cons, ih, List.replicate_succ]; (first | done | rfl)
def RepPost (c : Nat) (x : Int) (s : PH) (v : Value) (s' : PH) : Prop := ∃ t : Tri, v = t.v ∧ rowE intE s' 3 t.1 t.2.1 t.2.2 (List.replicate c x) ∧ Fw.Mod [] s s' ∧ ∀ g ∈ Fw.blk t.1, s g = none
theorem c_Repeat {s : PH} {r : Nat} {x : Int} {f : TypeId} (hr : s r = some (.cells #[.int .i64 x] f (0, 0))) {c : Nat} (h1 : 1 ≤ c) (h5 : c ≤ 5) : DCalls Tryz.prog 103 #[.slice (some ⟨r, 0, none⟩) 1 1, .int .i64 c] s (RepPost c x s) := by
  refine ok_Repeat (some ⟨r, 0, none⟩) 1 1 c _ s ?_
  unfold vc_Repeat
  simp only [RP_join, W.join_iff, RP_ite, W.br_iff, RP_call]
  have hc : IntKind.u64.wrap ((c : Nat) : Int) = c ∧ IntKind.u64.wrap ((1 : Nat) : Int) = 1 ∧ IntKind.i64.wrap ((c : Nat) : Int) = c := by
    refine ⟨?_, by decide, wrap_in (by omega) (by omega)⟩
    have : c = 1 ∨ c = 2 ∨ c = 3 ∨ c = 4 ∨ c = 5 := by omega
    rcases this with rfl | rfl | rfl | rfl | rfl <;> decide
  refine ⟨fun h => by simp at h; omega, fun _ => ?_⟩
  rw [hc.1, hc.2.1]
  refine W.call_of (c_Mul (by omega) s) ?_
  rintro _ s ⟨rfl, rfl⟩
  refine ⟨((0, ()), ((c : Int), ()), ()), rfl, ?_⟩
  simp only [W.join_iff, W.br_iff]
  refine ⟨fun h => by simp at h, fun _ => ⟨fun h => by simp at h; omega, fun _ => ?_⟩⟩
  simp only [hc.2.2, RP_mksl, RP_cpy]
  refine ⟨by omega, Int.le_refl _, by omega, by omega, ?_⟩
  intro b hb
  have hz := zero_one (.int .i64 0) c
  have hz : Builtin.zeroCells [Value.int .i64 0].toArray ((c : Nat) : Int).toNat = (List.replicate c (Value.int .i64 0)).toArray := hz
  rw [hz]
  have hne : r ≠ b := ne_of_known hr hb
  have m1 : Fw.Mod [] s (s.upd b (.cells (List.replicate c (Value.int .i64 0)).toArray 3 (0, 0))) := Mod.new hb
  have hr1 := m1.at hr (by simp)
  have hmin : Nat.min 1 ((c : Nat) : Int).toNat = 1 := Nat.min_eq_left h1
  refine ⟨[.int .i64 x], ?_, by simp [Value.oneCell'], ?_⟩
  · rw [hmin]
    exact ⟨rfl, has_block hr1⟩
  rw [hmin]
  have hst := stores_row (off := 0) (vs := [.int .i64 x]) (PH.upd_same s b (.cells (List.replicate c (Value.int .i64 0)).toArray 3 (0, 0))) (by simp) (by simp; omega)
  refine ⟨hst.1, ?_⟩
  rw [hst.2, PH.upd_upd]
  simp only [RP_loop]
  refine ⟨fun z s' => ∃ k : Nat, z = (((some ⟨b, 0, none⟩, c, c), ()), ((k : Int), ()), ()) ∧ 1 ≤ k ∧ k ≤ c ∧ s' = s.upd b (.cells (List.replicate k (Value.int .i64 x) ++ List.replicate (c - k) (Value.int .i64 0)).toArray 3 (0, 0)), fun z _ => c - z.2.1.1.toNat, ?_, ?_⟩
  · refine ⟨1, rfl, Nat.le_refl _, h1, ?_⟩
    congr 2
    obtain ⟨c', rfl⟩ : ∃ c', c = c' + 1 := ⟨c - 1, by omega⟩
    apply Array.ext'
    simp [List.replicate_succ]
  rintro _ _ ⟨k, rfl, hk1, hkc, rfl⟩
  simp only [W.br_iff, decide_eq_true_eq, decide_eq_false_iff_not]
  refine ⟨fun hlt => ?_, fun hge => ?_⟩
  · have hlt : k < c := by simpa using hlt
    simp
    refine ⟨by omega, ?_⟩
    have hk0 : ¬ c = k := by omega
    have hc0 : ¬ c = 0 := by omega
    simp only [hk0, hc0, if_false, add_mk, Nat.zero_add]
    have q1 : Nat.min k (c - k) ≤ k := Nat.min_le_left _ _
    have q2 : Nat.min k (c - k) ≤ c - k := Nat.min_le_right _ _
    have q3 : 1 ≤ Nat.min k (c - k) := Nat.le_min.2 ⟨hk1, by omega⟩
    generalize hq : Nat.min k (c - k) = q at q1 q2 q3
    refine ⟨List.replicate q (Value.int .i64 x), ?_, ?_, ?_⟩
    · rw [hq]
      refine ⟨by simp, ?_⟩
      intro j v hv
      rw [List.getElem?_replicate] at hv
      split at hv
      · rename_i hj
        cases hv
        rw [add_mk]
        unfold PH.cell?
        simp
        rw [List.getElem?_append_left (by simp; omega), List.getElem?_replicate, if_pos (by omega)]
      · cases hv
    · intro v hv; rw [List.mem_replicate] at hv; rw [hv.2]; (first | done | rfl)
    have hst := stores_row (off := k) (vs := List.replicate q (Value.int .i64 x)) (PH.upd_same s b (.cells (List.replicate k (Value.int .i64 x) ++ List.replicate (c - k) (Value.int .i64 0)).toArray 3 (0, 0))) (by intro e; have := congrArg List.length e; simp at this; omega) (by simp; omega)
    rw [hq]
    simp only [W.cpyK]
    have happ : (List.replicate k (Value.int .i64 x)).toArray ++ (List.replicate (c - k) (Value.int .i64 0)).toArray = (List.replicate k (Value.int .i64 x) ++ List.replicate (c - k) (Value.int .i64 0)).toArray := by simp
    first | rw [happ] | skip
    refine ⟨hst.1, ?_⟩
    rw [hst.2, PH.upd_upd]
    have hw : IntKind.i64.wrap ((k : Int) + ((q : Nat) : Int)) = ((k + q : Nat) : Int) := by rw [wrap_in (by omega) (by omega)]; simp
    refine ⟨⟨k + q, by rw [hw], by omega, by omega, ?_⟩, by rw [hw]; simp only [Int.toNat_natCast]; omega⟩
    congr 2
    apply Array.ext'
    rw [setL_toList _ _ _ (by simp; omega)]
    simp only [List.length_replicate]
    rw [List.take_append_of_le_length (by simp), List.take_of_length_le (by simp), List.drop_append]
    rw [List.drop_eq_nil_of_le (by simp)]
    simp only [List.length_replicate, List.nil_append, List.drop_replicate]
    rw [List.replicate_append_replicate]
    congr 2
    omega
  · have hkc' : k = c := by have : ¬ k < c := by simpa using hge
                            omega
    subst hkc'
    refine ⟨(some ⟨b, 0, none⟩, k, k), rfl, ?_, Mod.new hb, by simp [Fw.blk, hb]⟩
    refine ⟨by rw [flat_len]; simp [intE], Nat.le_refl _, by show k ≤ 9223372036854775807; omega, .inr ⟨b, _, rfl, PH.upd_same _ _ _, by simp [intE], ?_⟩⟩
    rw [flat_rep]; simp [intE]
end Go.Proofs.YtcdggocbjnmeaaaGreat
end
