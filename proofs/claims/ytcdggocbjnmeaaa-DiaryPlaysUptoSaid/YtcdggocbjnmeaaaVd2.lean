/-
  The functions of the document's drive: printed by a program of this session's own, each proved to be the function's by the kernel.
  Conditions: none; it proves no statement by itself.
-/
import Derived.Test.YtcdggocbjnmeaaaFwU
import Derived.Test.YtcdggocbjnmeaaaProg
set_option linter.unusedVariables false
set_option maxHeartbeats 1000000
namespace Go.Proofs.Ytcdggocbjnmeaaa
open Fw Fw.W Go

/-- lintel/lintelref01.Stands -/
def vc_Stands {W : Type} (π : Prims W) (x y : ByteArray) : W :=
  π.join [] (fun J0 =>
    π.loop [(false, [.int .i64])] (((0 : Int), ()), ()) fun (((x2 : Int), _), _) again1 =>
      π.ite (decide (x2 < (↑x.size : Int))) (
        π.ite (decide (x2 < (↑y.size : Int))) (
          π.guard ((0 : Int) ≤ x2 ∧ x2 < (↑x.size : Int)) <|
          π.guard ((0 : Int) ≤ x2 ∧ x2 < (↑y.size : Int)) <|
          π.ite (decide ((↑(x[x2.toNat]?.getD (0 : UInt8)).toNat : Int) < (↑(y[x2.toNat]?.getD (0 : UInt8)).toNat : Int))) (
            π.ret (Go.Value.int (IntKind.i64) ((-1 : Int)))
          ) (
            π.guard ((0 : Int) ≤ x2 ∧ x2 < (↑x.size : Int)) <|
            π.guard ((0 : Int) ≤ x2 ∧ x2 < (↑y.size : Int)) <|
            π.ite (decide ((↑(x[x2.toNat]?.getD (0 : UInt8)).toNat : Int) > (↑(y[x2.toNat]?.getD (0 : UInt8)).toNat : Int))) (
              π.ret (Go.Value.int (IntKind.i64) ((1 : Int)))
            ) (
              again1 ((IntKind.i64.wrap (x2 + (1 : Int)), ()), ())
            )
          )
        ) (
          J0 (())
        )
      ) (
        J0 (())
      )
  ) (fun (_) =>
    π.ite (decide ((↑x.size : Int) < (↑y.size : Int))) (
      π.ret (Go.Value.int (IntKind.i64) ((-1 : Int)))
    ) (
      π.ite (decide ((↑x.size : Int) > (↑y.size : Int))) (
        π.ret (Go.Value.int (IntKind.i64) ((1 : Int)))
      ) (
        π.ret (Go.Value.int (IntKind.i64) ((0 : Int)))
      )
    )
  )

def ann_Stands : Ann := { draws := [(4, { A := [0, 1, 2, 3, 4, 5, 6] }), (6, { A := [0, 1, 2, 3, 4, 5, 6] })], join := [(8, [])], loop := [(2, [(5, 3)])] }
def la_Stands : LA := { ptr := [], ty := [] }
set_option maxRecDepth 100000 in
theorem eq_Stands {W : Type} (π : Prims W) (x y : ByteArray) : bodyL π Try.prog la_Stands ann_Stands (mkFr (maskA [] [.v (.string x), .v (.string y)] 0) 42) Try.f45 (bodyOf Try.f45) (mkFr (List.map some [.v (.string x), .v (.string y)]) 42) = vc_Stands π x y := by kernel_rfl
theorem ok_Stands (x y : ByteArray) (R : Value → PH → Prop) (s : PH) (h : vc_Stands (RP Try.prog R) x y s) : DCalls Try.prog 45 (List.map AV.val [.v (.string x), .v (.string y)]).toArray s R :=
  calls_vcL (c := bodyOf Try.f45) (ann := ann_Stands) la_Stands (by kernel_rfl) Try.func45 rfl (by kernel_rfl) [.v (.string x), .v (.string y)] [] (by rw [Try.ntmps45]; exact Nat.le_of_ble_eq_true rfl) (by kernel_rfl) (by rw [show Try.f45.ntmps = 42 from Try.ntmps45, eq_Stands]; exact h)

/-- (*lintel/lintelref05.Drive).at -/
def vc_rAt {W : Type} (π : Prims W) (r : Nat) (nm : ByteArray) : W :=
  π.loop [(false, [.int .i64])] (((0 : Int), ()), ()) fun (((x1 : Int), _), _) again0 =>
    π.unSome (some (Addr.mk r (0 : Nat) none)) fun p2 =>
    π.ld [.slice] (p2.add (0 : Nat)) fun (((a3 : Option Addr), (n4 : Nat), (c5 : Nat)), _) =>
    π.ite (decide (x1 < (↑n4 : Int))) (
      π.unSome (some (Addr.mk r (0 : Nat) none)) fun p6 =>
      π.ld [.slice] (p6.add (0 : Nat)) fun (((a7 : Option Addr), (n8 : Nat), (c9 : Nat)), _) =>
      π.guard ((0 : Int) ≤ x1 ∧ x1 < (↑n8 : Int)) <|
      π.unSome (a7) fun p10 =>
      π.ld [.str] ((p10.add (x1.toNat * (3 : Nat))).add (0 : Nat)) fun ((t11 : ByteArray), _) =>
      π.call (45 : Nat) #[(Go.Value.string (t11)), (Go.Value.string (nm))] (false, [(false, [.int .i64])]) fun (((x12 : Int), _), _) =>
      π.ite (decide (x12 ≥ (0 : Int))) (
        π.ret (Go.Value.tuple #[(Go.Value.int (IntKind.i64) (x1)), (Go.Value.bool (x12 == (0 : Int)))])
      ) (
        again0 ((IntKind.i64.wrap (x1 + (1 : Int)), ()), ())
      )
    ) (
      π.unSome (some (Addr.mk r (0 : Nat) none)) fun p13 =>
      π.ld [.slice] (p13.add (0 : Nat)) fun (((a14 : Option Addr), (n15 : Nat), (c16 : Nat)), _) =>
      π.ret (Go.Value.tuple #[(Go.Value.int (IntKind.i64) ((↑n15 : Int))), (Go.Value.bool (false))])
    )

def ann_rAt : Ann := { draws := [], join := [], loop := [(2, [(6, 3)])] }
def la_rAt : LA := { ptr := [], ty := [] }
set_option maxRecDepth 100000 in
theorem eq_rAt {W : Type} (π : Prims W) (r : Nat) (nm : ByteArray) : bodyL π Try.prog la_rAt ann_rAt (mkFr (maskA [] [.v (.pointer (some ⟨r, 0, none⟩)), .v (.string nm)] 0) 37) Try.f37 (bodyOf Try.f37) (mkFr (List.map some [.v (.pointer (some ⟨r, 0, none⟩)), .v (.string nm)]) 37) = vc_rAt π r nm := by kernel_rfl
theorem ok_rAt (r : Nat) (nm : ByteArray) (R : Value → PH → Prop) (s : PH) (h : vc_rAt (RP Try.prog R) r nm s) : DCalls Try.prog 37 (List.map AV.val [.v (.pointer (some ⟨r, 0, none⟩)), .v (.string nm)]).toArray s R :=
  calls_vcL (c := bodyOf Try.f37) (ann := ann_rAt) la_rAt (by kernel_rfl) Try.func37 rfl (by kernel_rfl) [.v (.pointer (some ⟨r, 0, none⟩)), .v (.string nm)] [] (by rw [Try.ntmps37]; exact Nat.le_of_ble_eq_true rfl) (by kernel_rfl) (by rw [show Try.f37.ntmps = 37 from Try.ntmps37, eq_rAt]; exact h)

/-- (*lintel/lintelref05.Drive).make -/
def vc_rMake {W : Type} (π : Prims W) (r : Nat) (nm : ByteArray) : W :=
  π.call (37 : Nat) #[(Go.Value.pointer (some (Addr.mk r (0 : Nat) none))), (Go.Value.string (nm))] (true, [(false, [.int .i64]), (false, [.bool])]) fun (((x0 : Int), _), ((b1 : Bool), _), _) =>
  π.ite (!b1) (
    π.unSome (some (Addr.mk r (0 : Nat) none)) fun p2 =>
    π.ld [.slice] (p2.add (0 : Nat)) fun (((a3 : Option Addr), (n4 : Nat), (c5 : Nat)), _) =>
    π.guard ((0 : Int) ≤ (0 : Int) ∧ (0 : Int) ≤ x0 ∧ x0 ≤ (↑c5 : Int)) <|
    π.app (76 : Nat) (3 : Nat) (40 : Nat) [(Go.Value.string (ByteArray.mk #[])), (Go.Value.string (ByteArray.mk #[])), (Go.Value.int (IntKind.i64) ((0 : Int)))] (none) ((0 : Nat)) ((0 : Nat)) (Src.sl (if c5 = (0 : Nat) then a3 else Option.map (fun x => x.add (0 : Nat)) a3) (x0.toNat - (0 : Nat))) fun a6 n7 c8 =>
    π.nw (Go.Obj.cells #[(Go.Value.string (nm)), (Go.Value.string (ByteArray.mk #[])), (Go.Value.int (IntKind.i64) ((0 : Int)))] (76 : Nat) ((0 : Nat), (0 : Nat))) fun r9 =>
    π.app (76 : Nat) (3 : Nat) (40 : Nat) [(Go.Value.string (ByteArray.mk #[])), (Go.Value.string (ByteArray.mk #[])), (Go.Value.int (IntKind.i64) ((0 : Int)))] (a6) (n7) (c8) (Src.sl (some (Addr.mk r9 (0 : Nat) none)) (1 : Nat)) fun a10 n11 c12 =>
    π.unSome (some (Addr.mk r (0 : Nat) none)) fun p13 =>
    π.ld [.slice] (p13.add (0 : Nat)) fun (((a14 : Option Addr), (n15 : Nat), (c16 : Nat)), _) =>
    π.guard ((0 : Int) ≤ x0 ∧ x0 ≤ (↑n15 : Int) ∧ (↑n15 : Int) ≤ (↑c16 : Int)) <|
    π.app (76 : Nat) (3 : Nat) (40 : Nat) [(Go.Value.string (ByteArray.mk #[])), (Go.Value.string (ByteArray.mk #[])), (Go.Value.int (IntKind.i64) ((0 : Int)))] (a10) (n11) (c12) (Src.sl (if c16 = x0.toNat then a14 else Option.map (fun x => x.add (x0.toNat * (3 : Nat))) a14) ((↑n15 : Int).toNat - x0.toNat)) fun a17 n18 c19 =>
    π.unSome (some (Addr.mk r (0 : Nat) none)) fun p20 =>
    π.st (p20.add (0 : Nat)) [(Go.Value.slice (a17) (n18) (c19))] <|
    π.ret (Go.Value.int (IntKind.i64) (x0))
  ) (
    π.ret (Go.Value.int (IntKind.i64) (x0))
  )

def ann_rMake : Ann := { draws := [], join := [], loop := [] }
def la_rMake : LA := { ptr := [], ty := [] }
set_option maxRecDepth 100000 in
theorem eq_rMake {W : Type} (π : Prims W) (r : Nat) (nm : ByteArray) : bodyL π Try.prog la_rMake ann_rMake (mkFr (maskA [] [.v (.pointer (some ⟨r, 0, none⟩)), .v (.string nm)] 0) 41) Try.f41 (bodyOf Try.f41) (mkFr (List.map some [.v (.pointer (some ⟨r, 0, none⟩)), .v (.string nm)]) 41) = vc_rMake π r nm := by kernel_rfl
theorem ok_rMake (r : Nat) (nm : ByteArray) (R : Value → PH → Prop) (s : PH) (h : vc_rMake (RP Try.prog R) r nm s) : DCalls Try.prog 41 (List.map AV.val [.v (.pointer (some ⟨r, 0, none⟩)), .v (.string nm)]).toArray s R :=
  calls_vcL (c := bodyOf Try.f41) (ann := ann_rMake) la_rMake (by kernel_rfl) Try.func41 rfl (by kernel_rfl) [.v (.pointer (some ⟨r, 0, none⟩)), .v (.string nm)] [] (by rw [Try.ntmps41]; exact Nat.le_of_ble_eq_true rfl) (by kernel_rfl) (by rw [show Try.f41.ntmps = 41 from Try.ntmps41, eq_rMake]; exact h)

/-- (*lintel/lintelref05.Drive).begin -/
def vc_rBegin {W : Type} (π : Prims W) (r : Nat) : W :=
  π.unSome (some (Addr.mk r (0 : Nat) none)) fun p0 =>
  π.ld [.bool] (p0.add (1 : Nat)) fun ((b1 : Bool), _) =>
  π.ite (b1) (
    π.ret (Go.Value.tuple #[(Go.Value.int (IntKind.i64) ((50 : Int))), (Go.Value.bool (false))])
  ) (
    π.unSome (some (Addr.mk r (0 : Nat) none)) fun p2 =>
    π.ld [.int .i64] (p2.add (2 : Nat)) fun ((x3 : Int), _) =>
    π.ite (x3 == (1 : Int)) (
      π.unSome (some (Addr.mk r (0 : Nat) none)) fun p4 =>
      π.st (p4.add (1 : Nat)) [(Go.Value.bool (true))] <|
      π.ret (Go.Value.tuple #[(Go.Value.int (IntKind.i64) ((50 : Int))), (Go.Value.bool (true))])
    ) (
      π.unSome (some (Addr.mk r (0 : Nat) none)) fun p5 =>
      π.ld [.int .i64] (p5.add (2 : Nat)) fun ((x6 : Int), _) =>
      π.ite (decide (x6 > (0 : Int))) (
        π.unSome (some (Addr.mk r (0 : Nat) none)) fun p7 =>
        π.ld [.int .i64] (p7.add (2 : Nat)) fun ((x8 : Int), _) =>
        π.unSome (some (Addr.mk r (0 : Nat) none)) fun p9 =>
        π.st (p9.add (2 : Nat)) [(Go.Value.int (IntKind.i64) (IntKind.i64.wrap (x8 - (1 : Int))))] <|
        π.ret (Go.Value.tuple #[(Go.Value.int (IntKind.i64) ((0 : Int))), (Go.Value.bool (false))])
      ) (
        π.ret (Go.Value.tuple #[(Go.Value.int (IntKind.i64) ((0 : Int))), (Go.Value.bool (false))])
      )
    )
  )

def ann_rBegin : Ann := { draws := [], join := [], loop := [] }
def la_rBegin : LA := { ptr := [], ty := [] }
set_option maxRecDepth 100000 in
theorem eq_rBegin {W : Type} (π : Prims W) (r : Nat) : bodyL π Try.prog la_rBegin ann_rBegin (mkFr (maskA [] [.v (.pointer (some ⟨r, 0, none⟩))] 0) 28) Try.f40 (bodyOf Try.f40) (mkFr (List.map some [.v (.pointer (some ⟨r, 0, none⟩))]) 28) = vc_rBegin π r := by kernel_rfl
theorem ok_rBegin (r : Nat) (R : Value → PH → Prop) (s : PH) (h : vc_rBegin (RP Try.prog R) r s) : DCalls Try.prog 40 (List.map AV.val [.v (.pointer (some ⟨r, 0, none⟩))]).toArray s R :=
  calls_vcL (c := bodyOf Try.f40) (ann := ann_rBegin) la_rBegin (by kernel_rfl) Try.func40 rfl (by kernel_rfl) [.v (.pointer (some ⟨r, 0, none⟩))] [] (by rw [Try.ntmps40]; exact Nat.le_of_ble_eq_true rfl) (by kernel_rfl) (by rw [show Try.f40.ntmps = 28 from Try.ntmps40, eq_rBegin]; exact h)

/-- (*lintel/lintelref05.Drive).Append -/
def vc_rAppend {W : Type} (π : Prims W) (r : Nat) (nm dt : ByteArray) : W :=
  π.call (40 : Nat) #[(Go.Value.pointer (some (Addr.mk r (0 : Nat) none)))] (true, [(false, [.int .i64]), (false, [.bool])]) fun (((x0 : Int), _), ((b1 : Bool), _), _) =>
  π.join [(false, [.int .i64]), (false, [.bool])] (fun J2 =>
    π.ite (x0 == (0 : Int)) (
      J2 ((x0, ()), (true, ()), ())
    ) (
      J2 ((x0, ()), (b1, ()), ())
    )
  ) (fun (((x3 : Int), _), ((b4 : Bool), _), _) =>
    π.ite (b4) (
      π.call (41 : Nat) #[(Go.Value.pointer (some (Addr.mk r (0 : Nat) none))), (Go.Value.string (nm))] (false, [(false, [.int .i64])]) fun (((x5 : Int), _), _) =>
      π.unSome (some (Addr.mk r (0 : Nat) none)) fun p6 =>
      π.ld [.slice] (p6.add (0 : Nat)) fun (((a7 : Option Addr), (n8 : Nat), (c9 : Nat)), _) =>
      π.unSome (some (Addr.mk r (0 : Nat) none)) fun p10 =>
      π.ld [.slice] (p10.add (0 : Nat)) fun (((a11 : Option Addr), (n12 : Nat), (c13 : Nat)), _) =>
      π.guard ((0 : Int) ≤ x5 ∧ x5 < (↑n12 : Int)) <|
      π.unSome (a11) fun p14 =>
      π.ld [.str] ((p14.add (x5.toNat * (3 : Nat))).add (1 : Nat)) fun ((t15 : ByteArray), _) =>
      π.guard ((↑(t15.size + dt.size) : Int) ≤ (9223372036854775807 : Int)) <|
      π.guard ((0 : Int) ≤ x5 ∧ x5 < (↑n8 : Int)) <|
      π.unSome (a7) fun p16 =>
      π.st ((p16.add (x5.toNat * (3 : Nat))).add (1 : Nat)) [(Go.Value.string (t15 ++ dt))] <|
      π.ret (Go.Value.int (IntKind.i64) (x3))
    ) (
      π.ret (Go.Value.int (IntKind.i64) (x3))
    )
  )

def ann_rAppend : Ann := { draws := [(4, { A := [0, 1, 2, 3, 4, 5, 6, 7, 8, 9, 10, 11, 12, 13, 14, 15, 16] })], join := [(3, [(7, 3), (19, 4)])], loop := [] }
def la_rAppend : LA := { ptr := [], ty := [] }
set_option maxRecDepth 100000 in
theorem eq_rAppend {W : Type} (π : Prims W) (r : Nat) (nm dt : ByteArray) : bodyL π Try.prog la_rAppend ann_rAppend (mkFr (maskA [] [.v (.pointer (some ⟨r, 0, none⟩)), .v (.string nm), .v (.string dt)] 0) 41) Try.f34 (bodyOf Try.f34) (mkFr (List.map some [.v (.pointer (some ⟨r, 0, none⟩)), .v (.string nm), .v (.string dt)]) 41) = vc_rAppend π r nm dt := by kernel_rfl
theorem ok_rAppend (r : Nat) (nm dt : ByteArray) (R : Value → PH → Prop) (s : PH) (h : vc_rAppend (RP Try.prog R) r nm dt s) : DCalls Try.prog 34 (List.map AV.val [.v (.pointer (some ⟨r, 0, none⟩)), .v (.string nm), .v (.string dt)]).toArray s R :=
  calls_vcL (c := bodyOf Try.f34) (ann := ann_rAppend) la_rAppend (by kernel_rfl) Try.func34 rfl (by kernel_rfl) [.v (.pointer (some ⟨r, 0, none⟩)), .v (.string nm), .v (.string dt)] [] (by rw [Try.ntmps34]; exact Nat.le_of_ble_eq_true rfl) (by kernel_rfl) (by rw [show Try.f34.ntmps = 41 from Try.ntmps34, eq_rAppend]; exact h)

/-- (*lintel/lintelref05.Drive).Sync -/
def vc_rSync {W : Type} (π : Prims W) (r : Nat) (nm : ByteArray) : W :=
  π.call (40 : Nat) #[(Go.Value.pointer (some (Addr.mk r (0 : Nat) none)))] (true, [(false, [.int .i64]), (false, [.bool])]) fun (((x0 : Int), _), ((b1 : Bool), _), _) =>
  π.call (37 : Nat) #[(Go.Value.pointer (some (Addr.mk r (0 : Nat) none))), (Go.Value.string (nm))] (true, [(false, [.int .i64]), (false, [.bool])]) fun (((x2 : Int), _), ((b3 : Bool), _), _) =>
  π.join [(false, [.int .i64]), (false, [.int .i64]), (false, [.bool])] (fun J4 =>
    π.ite (x0 == (0 : Int)) (
      J4 ((x0, ()), (x2, ()), (b3, ()), ())
    ) (
      J4 ((x0, ()), (x2, ()), (false, ()), ())
    )
  ) (fun (((x5 : Int), _), ((x6 : Int), _), ((b7 : Bool), _), _) =>
    π.ite (b7) (
      π.unSome (some (Addr.mk r (0 : Nat) none)) fun p8 =>
      π.ld [.slice] (p8.add (0 : Nat)) fun (((a9 : Option Addr), (n10 : Nat), (c11 : Nat)), _) =>
      π.unSome (some (Addr.mk r (0 : Nat) none)) fun p12 =>
      π.ld [.slice] (p12.add (0 : Nat)) fun (((a13 : Option Addr), (n14 : Nat), (c15 : Nat)), _) =>
      π.guard ((0 : Int) ≤ x6 ∧ x6 < (↑n14 : Int)) <|
      π.unSome (a13) fun p16 =>
      π.ld [.str] ((p16.add (x6.toNat * (3 : Nat))).add (1 : Nat)) fun ((t17 : ByteArray), _) =>
      π.guard ((0 : Int) ≤ x6 ∧ x6 < (↑n10 : Int)) <|
      π.unSome (a9) fun p18 =>
      π.st ((p18.add (x6.toNat * (3 : Nat))).add (2 : Nat)) [(Go.Value.int (IntKind.i64) ((↑t17.size : Int)))] <|
      π.ret (Go.Value.int (IntKind.i64) (x5))
    ) (
      π.ret (Go.Value.int (IntKind.i64) (x5))
    )
  )

def ann_rSync : Ann := { draws := [(4, { A := [0, 1, 2, 3, 4, 5, 6, 7, 8, 9, 10, 11, 12, 13, 14, 15] })], join := [(4, [(5, 3), (7, 3), (24, 4)])], loop := [] }
def la_rSync : LA := { ptr := [], ty := [] }
set_option maxRecDepth 100000 in
theorem eq_rSync {W : Type} (π : Prims W) (r : Nat) (nm : ByteArray) : bodyL π Try.prog la_rSync ann_rSync (mkFr (maskA [] [.v (.pointer (some ⟨r, 0, none⟩)), .v (.string nm)] 0) 42) Try.f35 (bodyOf Try.f35) (mkFr (List.map some [.v (.pointer (some ⟨r, 0, none⟩)), .v (.string nm)]) 42) = vc_rSync π r nm := by kernel_rfl
theorem ok_rSync (r : Nat) (nm : ByteArray) (R : Value → PH → Prop) (s : PH) (h : vc_rSync (RP Try.prog R) r nm s) : DCalls Try.prog 35 (List.map AV.val [.v (.pointer (some ⟨r, 0, none⟩)), .v (.string nm)]).toArray s R :=
  calls_vcL (c := bodyOf Try.f35) (ann := ann_rSync) la_rSync (by kernel_rfl) Try.func35 rfl (by kernel_rfl) [.v (.pointer (some ⟨r, 0, none⟩)), .v (.string nm)] [] (by rw [Try.ntmps35]; exact Nat.le_of_ble_eq_true rfl) (by kernel_rfl) (by rw [show Try.f35.ntmps = 42 from Try.ntmps35, eq_rSync]; exact h)

/-- (*lintel/lintelref05.Drive).Swap -/
def vc_rSwap {W : Type} (π : Prims W) (r : Nat) (nm dt : ByteArray) : W :=
  π.call (40 : Nat) #[(Go.Value.pointer (some (Addr.mk r (0 : Nat) none)))] (true, [(false, [.int .i64]), (false, [.bool])]) fun (((x0 : Int), _), ((b1 : Bool), _), _) =>
  π.ite (x0 == (0 : Int)) (
    π.call (41 : Nat) #[(Go.Value.pointer (some (Addr.mk r (0 : Nat) none))), (Go.Value.string (nm))] (false, [(false, [.int .i64])]) fun (((x2 : Int), _), _) =>
    π.unSome (some (Addr.mk r (0 : Nat) none)) fun p3 =>
    π.ld [.slice] (p3.add (0 : Nat)) fun (((a4 : Option Addr), (n5 : Nat), (c6 : Nat)), _) =>
    π.guard ((0 : Int) ≤ x2 ∧ x2 < (↑n5 : Int)) <|
    π.unSome (a4) fun p7 =>
    π.st ((p7.add (x2.toNat * (3 : Nat))).add (1 : Nat)) [(Go.Value.string (dt))] <|
    π.unSome (some (Addr.mk r (0 : Nat) none)) fun p8 =>
    π.ld [.slice] (p8.add (0 : Nat)) fun (((a9 : Option Addr), (n10 : Nat), (c11 : Nat)), _) =>
    π.guard ((0 : Int) ≤ x2 ∧ x2 < (↑n10 : Int)) <|
    π.unSome (a9) fun p12 =>
    π.st ((p12.add (x2.toNat * (3 : Nat))).add (2 : Nat)) [(Go.Value.int (IntKind.i64) ((↑dt.size : Int)))] <|
    π.ret (Go.Value.int (IntKind.i64) (x0))
  ) (
    π.ret (Go.Value.int (IntKind.i64) (x0))
  )

def ann_rSwap : Ann := { draws := [], join := [], loop := [] }
def la_rSwap : LA := { ptr := [], ty := [] }
set_option maxRecDepth 100000 in
theorem eq_rSwap {W : Type} (π : Prims W) (r : Nat) (nm dt : ByteArray) : bodyL π Try.prog la_rSwap ann_rSwap (mkFr (maskA [] [.v (.pointer (some ⟨r, 0, none⟩)), .v (.string nm), .v (.string dt)] 0) 38) Try.f29 (bodyOf Try.f29) (mkFr (List.map some [.v (.pointer (some ⟨r, 0, none⟩)), .v (.string nm), .v (.string dt)]) 38) = vc_rSwap π r nm dt := by kernel_rfl
theorem ok_rSwap (r : Nat) (nm dt : ByteArray) (R : Value → PH → Prop) (s : PH) (h : vc_rSwap (RP Try.prog R) r nm dt s) : DCalls Try.prog 29 (List.map AV.val [.v (.pointer (some ⟨r, 0, none⟩)), .v (.string nm), .v (.string dt)]).toArray s R :=
  calls_vcL (c := bodyOf Try.f29) (ann := ann_rSwap) la_rSwap (by kernel_rfl) Try.func29 rfl (by kernel_rfl) [.v (.pointer (some ⟨r, 0, none⟩)), .v (.string nm), .v (.string dt)] [] (by rw [Try.ntmps29]; exact Nat.le_of_ble_eq_true rfl) (by kernel_rfl) (by rw [show Try.f29.ntmps = 38 from Try.ntmps29, eq_rSwap]; exact h)

/-- (*lintel/lintelref05.Drive).Read -/
def vc_rRead {W : Type} (π : Prims W) (r : Nat) (nm : ByteArray) : W :=
  π.unSome (some (Addr.mk r (0 : Nat) none)) fun p0 =>
  π.ld [.bool] (p0.add (1 : Nat)) fun ((b1 : Bool), _) =>
  π.ite (b1) (
    π.ret (Go.Value.tuple #[(Go.Value.string (ByteArray.mk #[])), (Go.Value.int (IntKind.i64) ((50 : Int)))])
  ) (
    π.call (37 : Nat) #[(Go.Value.pointer (some (Addr.mk r (0 : Nat) none))), (Go.Value.string (nm))] (true, [(false, [.int .i64]), (false, [.bool])]) fun (((x2 : Int), _), ((b3 : Bool), _), _) =>
    π.ite (b3) (
      π.unSome (some (Addr.mk r (0 : Nat) none)) fun p4 =>
      π.ld [.slice] (p4.add (0 : Nat)) fun (((a5 : Option Addr), (n6 : Nat), (c7 : Nat)), _) =>
      π.guard ((0 : Int) ≤ x2 ∧ x2 < (↑n6 : Int)) <|
      π.unSome (a5) fun p8 =>
      π.ld [.str] ((p8.add (x2.toNat * (3 : Nat))).add (1 : Nat)) fun ((t9 : ByteArray), _) =>
      π.ret (Go.Value.tuple #[(Go.Value.string (t9)), (Go.Value.int (IntKind.i64) ((0 : Int)))])
    ) (
      π.ret (Go.Value.tuple #[(Go.Value.string (ByteArray.mk #[])), (Go.Value.int (IntKind.i64) ((0 : Int)))])
    )
  )

def ann_rRead : Ann := { draws := [], join := [], loop := [] }
def la_rRead : LA := { ptr := [], ty := [] }
set_option maxRecDepth 100000 in
theorem eq_rRead {W : Type} (π : Prims W) (r : Nat) (nm : ByteArray) : bodyL π Try.prog la_rRead ann_rRead (mkFr (maskA [] [.v (.pointer (some ⟨r, 0, none⟩)), .v (.string nm)] 0) 27) Try.f24 (bodyOf Try.f24) (mkFr (List.map some [.v (.pointer (some ⟨r, 0, none⟩)), .v (.string nm)]) 27) = vc_rRead π r nm := by kernel_rfl
theorem ok_rRead (r : Nat) (nm : ByteArray) (R : Value → PH → Prop) (s : PH) (h : vc_rRead (RP Try.prog R) r nm s) : DCalls Try.prog 24 (List.map AV.val [.v (.pointer (some ⟨r, 0, none⟩)), .v (.string nm)]).toArray s R :=
  calls_vcL (c := bodyOf Try.f24) (ann := ann_rRead) la_rRead (by kernel_rfl) Try.func24 rfl (by kernel_rfl) [.v (.pointer (some ⟨r, 0, none⟩)), .v (.string nm)] [] (by rw [Try.ntmps24]; exact Nat.le_of_ble_eq_true rfl) (by kernel_rfl) (by rw [show Try.f24.ntmps = 27 from Try.ntmps24, eq_rRead]; exact h)

/-- (*lintel/lintelref05.Drive).Arm -/
def vc_rArm {W : Type} (π : Prims W) (r : Nat) (n : Int) : W :=
  π.unSome (some (Addr.mk r (0 : Nat) none)) fun p0 =>
  π.ld [.bool] (p0.add (1 : Nat)) fun ((b1 : Bool), _) =>
  π.ite (!b1) (
    π.unSome (some (Addr.mk r (0 : Nat) none)) fun p2 =>
    π.st (p2.add (2 : Nat)) [(Go.Value.int (IntKind.i64) (if n > (0 : Int) then n else (0 : Int)))] <|
    π.ret (Go.Value.tuple #[])
  ) (
    π.ret (Go.Value.tuple #[])
  )

def ann_rArm : Ann := { draws := [], join := [], loop := [] }
def la_rArm : LA := { ptr := [], ty := [] }
set_option maxRecDepth 100000 in
theorem eq_rArm {W : Type} (π : Prims W) (r : Nat) (n : Int) : bodyL π Try.prog la_rArm ann_rArm (mkFr (maskA [] [.v (.pointer (some ⟨r, 0, none⟩)), .v (.int .i64 n)] 0) 14) Try.f21 (bodyOf Try.f21) (mkFr (List.map some [.v (.pointer (some ⟨r, 0, none⟩)), .v (.int .i64 n)]) 14) = vc_rArm π r n := by kernel_rfl
theorem ok_rArm (r : Nat) (n : Int) (R : Value → PH → Prop) (s : PH) (h : vc_rArm (RP Try.prog R) r n s) : DCalls Try.prog 21 (List.map AV.val [.v (.pointer (some ⟨r, 0, none⟩)), .v (.int .i64 n)]).toArray s R :=
  calls_vcL (c := bodyOf Try.f21) (ann := ann_rArm) la_rArm (by kernel_rfl) Try.func21 rfl (by kernel_rfl) [.v (.pointer (some ⟨r, 0, none⟩)), .v (.int .i64 n)] [] (by rw [Try.ntmps21]; exact Nat.le_of_ble_eq_true rfl) (by kernel_rfl) (by rw [show Try.f21.ntmps = 14 from Try.ntmps21, eq_rArm]; exact h)

/-- (*lintel/lintelref05.Drive).Crash -/
def vc_rCrash {W : Type} (π : Prims W) (r : Nat) (k : Option Addr) (n c : Nat) : W :=
  π.nw (Go.Obj.cells #[(Go.Value.slice (none) ((0 : Nat)) ((0 : Nat))), (Go.Value.bool (false)), (Go.Value.int (IntKind.i64) ((0 : Int)))] (43 : Nat) ((0 : Nat), (0 : Nat))) fun r0 =>
  π.loop [(false, [.ptr]), (false, [.int .i64])] ((some (Addr.mk r0 (0 : Nat) none), ()), ((0 : Int), ()), ()) fun ((p2, _), ((x3 : Int), _), _) again1 =>
    π.unSome (some (Addr.mk r (0 : Nat) none)) fun p4 =>
    π.ld [.slice] (p4.add (0 : Nat)) fun (((a5 : Option Addr), (n6 : Nat), (c7 : Nat)), _) =>
    π.ite (decide (x3 < (↑n6 : Int))) (
      π.unSome (some (Addr.mk r (0 : Nat) none)) fun p8 =>
      π.ld [.slice] (p8.add (0 : Nat)) fun (((a9 : Option Addr), (n10 : Nat), (c11 : Nat)), _) =>
      π.guard ((0 : Int) ≤ x3 ∧ x3 < (↑n10 : Int)) <|
      π.unSome (a9) fun p12 =>
      π.ld [.str, .str, .int .i64] (p12.add (x3.toNat * (3 : Nat))) fun ((t13 : ByteArray), (t14 : ByteArray), (x15 : Int), _) =>
      π.join [(false, [.ptr]), (false, [.int .i64]), (true, [.str, .str, .int .i64]), (false, [.int .i64])] (fun J16 =>
        π.ite (decide (x3 < (↑n : Int))) (
          π.guard ((0 : Int) ≤ x3 ∧ x3 < (↑n : Int)) <|
          π.unSome (k) fun p17 =>
          π.ld [.int .i64] (p17.add (x3.toNat * (1 : Nat))) fun ((x18 : Int), _) =>
          J16 ((p2, ()), (x3, ()), (t13, t14, x15, ()), (if (if IntKind.i64.wrap ((↑t14.size : Int) - x15) < x18 then IntKind.i64.wrap ((↑t14.size : Int) - x15) else x18) > (0 : Int) then if IntKind.i64.wrap ((↑t14.size : Int) - x15) < x18 then IntKind.i64.wrap ((↑t14.size : Int) - x15) else x18 else (0 : Int), ()), ())
        ) (
          J16 ((p2, ()), (x3, ()), (t13, t14, x15, ()), ((0 : Int), ()), ())
        )
      ) (fun ((p19, _), ((x20 : Int), _), ((t21 : ByteArray), (t22 : ByteArray), (x23 : Int), _), ((x24 : Int), _), _) =>
        π.guard ((0 : Int) ≤ (0 : Int) ∧ (0 : Int) ≤ IntKind.i64.wrap (x23 + x24) ∧ IntKind.i64.wrap (x23 + x24) ≤ (↑t22.size : Int)) <|
        π.unSome (p19) fun p25 =>
        π.ld [.slice] (p25.add (0 : Nat)) fun (((a26 : Option Addr), (n27 : Nat), (c28 : Nat)), _) =>
        π.nw (Go.Obj.cells #[(Go.Value.string (t21)), (Go.Value.string (t22.extract (0 : Nat) (IntKind.i64.wrap (x23 + x24)).toNat)), (Go.Value.int (IntKind.i64) ((↑(t22.extract (0 : Nat) (IntKind.i64.wrap (x23 + x24)).toNat).size : Int)))] (76 : Nat) ((0 : Nat), (0 : Nat))) fun r29 =>
        π.app (76 : Nat) (3 : Nat) (40 : Nat) [(Go.Value.string (ByteArray.mk #[])), (Go.Value.string (ByteArray.mk #[])), (Go.Value.int (IntKind.i64) ((0 : Int)))] (a26) (n27) (c28) (Src.sl (some (Addr.mk r29 (0 : Nat) none)) (1 : Nat)) fun a30 n31 c32 =>
        π.unSome (p19) fun p33 =>
        π.st (p33.add (0 : Nat)) [(Go.Value.slice (a30) (n31) (c32))] <|
        again1 ((p19, ()), (IntKind.i64.wrap (x20 + (1 : Int)), ()), ())
      )
    ) (
      π.unSome (some (Addr.mk r (0 : Nat) none)) fun p34 =>
      π.st (p34.add (1 : Nat)) [(Go.Value.bool (true))] <|
      π.ret (Go.Value.pointer (p2))
    )

def ann_rCrash : Ann := { draws := [(8, { A := [0, 1, 2, 3, 4, 5, 6, 7, 8, 9, 10, 11, 12] }), (11, { A := [0, 1, 2, 3, 4, 5], eag := [8, 9] })], join := [(9, [(5, 40), (6, 3), (7, 76), (8, 3)])], loop := [(3, [(5, 40), (6, 3)])] }
def la_rCrash : LA := { ptr := [(7, 7, 0), (35, 7, 1), (38, 7, 2), (43, 7, 1), (45, 7, 2), (50, 7, 1), (51, 7, 1), (54, 7, 2)], ty := [(7, 76)] }
set_option maxRecDepth 100000 in
theorem eq_rCrash {W : Type} (π : Prims W) (r : Nat) (k : Option Addr) (n c : Nat) : bodyL π Try.prog la_rCrash ann_rCrash (mkFr (maskA [] [.v (.pointer (some ⟨r, 0, none⟩)), .v (.slice k n c)] 0) 69) Try.f23 (bodyOf Try.f23) (mkFr (List.map some [.v (.pointer (some ⟨r, 0, none⟩)), .v (.slice k n c)]) 69) = vc_rCrash π r k n c := by kernel_rfl
theorem ok_rCrash (r : Nat) (k : Option Addr) (n c : Nat) (R : Value → PH → Prop) (s : PH) (h : vc_rCrash (RP Try.prog R) r k n c s) : DCalls Try.prog 23 (List.map AV.val [.v (.pointer (some ⟨r, 0, none⟩)), .v (.slice k n c)]).toArray s R :=
  calls_vcL (c := bodyOf Try.f23) (ann := ann_rCrash) la_rCrash (by kernel_rfl) Try.func23 rfl (by kernel_rfl) [.v (.pointer (some ⟨r, 0, none⟩)), .v (.slice k n c)] [] (by rw [Try.ntmps23]; exact Nat.le_of_ble_eq_true rfl) (by kernel_rfl) (by rw [show Try.f23.ntmps = 69 from Try.ntmps23, eq_rCrash]; exact h)

end Go.Proofs.Ytcdggocbjnmeaaa
