/-
  The functions of the document's drive, and those of the laws that play: printed by a program of this session's own, each proved to be the function's by the kernel.
  Conditions: none; it proves no statement by itself.
-/
import Derived.Test.YtdbpockkebabiaaFwN
import Derived.Test.YtdbpockkebabiaaProg
set_option linter.unusedVariables false
set_option maxHeartbeats 1000000
namespace Go.Proofs.Ytdbpockkebabiaa
open Fw Fw.W Go

/-- lintel/lintelref01.Stands -/
def vc_Stands {W : Type} (π : Prims W) (x y : ByteArray) : W :=
  π.loop [(false, [.int .i64])] (((0 : Int), ()), ()) fun (((x1 : Int), _), _) again0 =>
    π.ite (decide (x1 < (↑x.size : Int))) (
      π.ite (decide (x1 < (↑y.size : Int))) (
        π.guard ((0 : Int) ≤ x1 ∧ x1 < (↑x.size : Int)) <|
        π.guard ((0 : Int) ≤ x1 ∧ x1 < (↑y.size : Int)) <|
        π.ite (decide ((↑(x[x1.toNat]?.getD (0 : UInt8)).toNat : Int) < (↑(y[x1.toNat]?.getD (0 : UInt8)).toNat : Int))) (
          π.ret (Go.Value.int (IntKind.i64) ((-1 : Int)))
        ) (
          π.guard ((0 : Int) ≤ x1 ∧ x1 < (↑x.size : Int)) <|
          π.guard ((0 : Int) ≤ x1 ∧ x1 < (↑y.size : Int)) <|
          π.ite (decide ((↑(x[x1.toNat]?.getD (0 : UInt8)).toNat : Int) > (↑(y[x1.toNat]?.getD (0 : UInt8)).toNat : Int))) (
            π.ret (Go.Value.int (IntKind.i64) ((1 : Int)))
          ) (
            again0 ((IntKind.i64.wrap (x1 + (1 : Int)), ()), ())
          )
        )
      ) (
        π.ite (decide ((↑x.size : Int) < (↑y.size : Int))) (
          π.ret (Go.Value.int (IntKind.i64) ((-1 : Int)))
        ) (
          π.ite (decide ((↑x.size : Int) > (↑y.size : Int))) (
            π.ret (Go.Value.int (IntKind.i64) ((1 : Int)))
          ) (
            π.ret (Go.Value.int (IntKind.i64) ((0 : Int)))
          )
        )
      )
    ) (
      π.ite (decide ((↑x.size : Int) < (↑y.size : Int))) (
        π.ret (Go.Value.int (IntKind.i64) ((-1 : Int)))
      ) (
        π.ite (decide ((↑x.size : Int) > (↑y.size : Int))) (
          π.ret (Go.Value.int (IntKind.i64) ((1 : Int)))
        ) (
          π.ret (Go.Value.int (IntKind.i64) ((0 : Int)))
        )
      )
    )

def ann_Stands : Ann := { quiet := [], join := [], loop := [(2, [(5, 3)])] }
set_option maxRecDepth 100000 in
theorem eq_Stands {W : Type} (π : Prims W) (x y : ByteArray) : bodyW π Try.prog ann_Stands (mkFr (maskA [] [.v (.string x), .v (.string y)] 0) 42) drawer Try.f36 (bodyOf Try.f36) (mkFr (List.map some [.v (.string x), .v (.string y)]) 42) = vc_Stands π x y := by kernel_rfl
theorem ok_Stands (x y : ByteArray) (R : Value → PH → Prop) (s : PH) (h : vc_Stands (RP Try.prog R) x y s) : DCalls Try.prog 36 (List.map AV.val [.v (.string x), .v (.string y)]).toArray s R :=
  calls_vc (c := bodyOf Try.f36) (ann := ann_Stands) (by kernel_rfl) Try.func36 rfl [.v (.string x), .v (.string y)] [] (by rw [Try.ntmps36]; exact Nat.le_of_ble_eq_true rfl) (by rw [show Try.f36.ntmps = 42 from Try.ntmps36, eq_Stands]; exact h)

/-- (*lintel/lintelref05.Drive).at -/
def vc_rAt {W : Type} (π : Prims W) (r : Nat) (nm : ByteArray) : W :=
  π.loop [(false, [.int .i64])] (((0 : Int), ()), ()) fun (((x1 : Int), _), _) again0 =>
    π.unSome (some (Addr.mk r (0 : Nat) none)) fun p2 =>
    π.ld [.slice] (p2.add (0 : Nat)) fun (((a3 : Option Addr), (n4 : Nat), (c5 : Nat)), _) =>
    π.ite (decide (x1 < (↑n4 : Int))) (
      π.unSome (some (Addr.mk r (0 : Nat) none)) fun p6 =>
      π.ld [.slice] (p6.add (0 : Nat)) fun (((a7 : Option Addr), (n8 : Nat), (c9 : Nat)), _) =>
      π.guard ((0 : Int) ≤ x1 ∧ x1 < (↑n8 : Int)) <|
      π.unSome (a7) fun p10 =>
      π.ld [.str] ((p10.add (x1.toNat * (3 : Nat))).add (0 : Nat)) fun ((t11 : ByteArray), _) =>
      π.call (36 : Nat) #[(Go.Value.string (t11)), (Go.Value.string (nm))] (false, [(false, [.int .i64])]) fun (((x12 : Int), _), _) =>
      π.ite (decide (x12 ≥ (0 : Int))) (
        π.ret (Go.Value.tuple #[(Go.Value.int (IntKind.i64) (x1)), (Go.Value.bool (x12 == (0 : Int)))])
      ) (
        again0 ((IntKind.i64.wrap (x1 + (1 : Int)), ()), ())
      )
    ) (
      π.unSome (some (Addr.mk r (0 : Nat) none)) fun p13 =>
      π.ld [.slice] (p13.add (0 : Nat)) fun (((a14 : Option Addr), (n15 : Nat), (c16 : Nat)), _) =>
      π.ret (Go.Value.tuple #[(Go.Value.int (IntKind.i64) ((↑n15 : Int))), (Go.Value.bool (false))])
    )

def ann_rAt : Ann := { quiet := [], join := [], loop := [(2, [(6, 3)])] }
set_option maxRecDepth 100000 in
theorem eq_rAt {W : Type} (π : Prims W) (r : Nat) (nm : ByteArray) : bodyW π Try.prog ann_rAt (mkFr (maskA [] [.v (.pointer (some ⟨r, 0, none⟩)), .v (.string nm)] 0) 37) drawer Try.f32 (bodyOf Try.f32) (mkFr (List.map some [.v (.pointer (some ⟨r, 0, none⟩)), .v (.string nm)]) 37) = vc_rAt π r nm := by kernel_rfl
theorem ok_rAt (r : Nat) (nm : ByteArray) (R : Value → PH → Prop) (s : PH) (h : vc_rAt (RP Try.prog R) r nm s) : DCalls Try.prog 32 (List.map AV.val [.v (.pointer (some ⟨r, 0, none⟩)), .v (.string nm)]).toArray s R :=
  calls_vc (c := bodyOf Try.f32) (ann := ann_rAt) (by kernel_rfl) Try.func32 rfl [.v (.pointer (some ⟨r, 0, none⟩)), .v (.string nm)] [] (by rw [Try.ntmps32]; exact Nat.le_of_ble_eq_true rfl) (by rw [show Try.f32.ntmps = 37 from Try.ntmps32, eq_rAt]; exact h)

/-- (*lintel/lintelref05.Drive).make -/
def vc_rMake {W : Type} (π : Prims W) (r : Nat) (nm : ByteArray) : W :=
  π.call (32 : Nat) #[(Go.Value.pointer (some (Addr.mk r (0 : Nat) none))), (Go.Value.string (nm))] (true, [(false, [.int .i64]), (false, [.bool])]) fun (((x0 : Int), _), ((b1 : Bool), _), _) =>
  π.ite (!b1) (
    π.unSome (some (Addr.mk r (0 : Nat) none)) fun p2 =>
    π.ld [.slice] (p2.add (0 : Nat)) fun (((a3 : Option Addr), (n4 : Nat), (c5 : Nat)), _) =>
    π.guard ((0 : Int) ≤ (0 : Int) ∧ (0 : Int) ≤ x0 ∧ x0 ≤ (↑c5 : Int)) <|
    π.app (65 : Nat) (3 : Nat) (40 : Nat) [(Go.Value.string (ByteArray.mk #[])), (Go.Value.string (ByteArray.mk #[])), (Go.Value.int (IntKind.i64) ((0 : Int)))] (none) ((0 : Nat)) ((0 : Nat)) (Src.sl (if c5 = (0 : Nat) then a3 else Option.map (fun x => x.add (0 : Nat)) a3) (x0.toNat - (0 : Nat))) fun a6 n7 c8 =>
    π.nw (Go.Obj.cells #[(Go.Value.string (nm)), (Go.Value.string (ByteArray.mk #[])), (Go.Value.int (IntKind.i64) ((0 : Int)))] (65 : Nat) ((0 : Nat), (0 : Nat))) fun r9 =>
    π.app (65 : Nat) (3 : Nat) (40 : Nat) [(Go.Value.string (ByteArray.mk #[])), (Go.Value.string (ByteArray.mk #[])), (Go.Value.int (IntKind.i64) ((0 : Int)))] (a6) (n7) (c8) (Src.sl (some (Addr.mk r9 (0 : Nat) none)) (1 : Nat)) fun a10 n11 c12 =>
    π.unSome (some (Addr.mk r (0 : Nat) none)) fun p13 =>
    π.ld [.slice] (p13.add (0 : Nat)) fun (((a14 : Option Addr), (n15 : Nat), (c16 : Nat)), _) =>
    π.guard ((0 : Int) ≤ x0 ∧ x0 ≤ (↑n15 : Int) ∧ (↑n15 : Int) ≤ (↑c16 : Int)) <|
    π.app (65 : Nat) (3 : Nat) (40 : Nat) [(Go.Value.string (ByteArray.mk #[])), (Go.Value.string (ByteArray.mk #[])), (Go.Value.int (IntKind.i64) ((0 : Int)))] (a10) (n11) (c12) (Src.sl (if c16 = x0.toNat then a14 else Option.map (fun x => x.add (x0.toNat * (3 : Nat))) a14) ((↑n15 : Int).toNat - x0.toNat)) fun a17 n18 c19 =>
    π.unSome (some (Addr.mk r (0 : Nat) none)) fun p20 =>
    π.st (p20.add (0 : Nat)) [(Go.Value.slice (a17) (n18) (c19))] <|
    π.ret (Go.Value.int (IntKind.i64) (x0))
  ) (
    π.ret (Go.Value.int (IntKind.i64) (x0))
  )

def ann_rMake : Ann := { quiet := [], join := [], loop := [] }
set_option maxRecDepth 100000 in
theorem eq_rMake {W : Type} (π : Prims W) (r : Nat) (nm : ByteArray) : bodyW π Try.prog ann_rMake (mkFr (maskA [] [.v (.pointer (some ⟨r, 0, none⟩)), .v (.string nm)] 0) 41) drawer Try.f31 (bodyOf Try.f31) (mkFr (List.map some [.v (.pointer (some ⟨r, 0, none⟩)), .v (.string nm)]) 41) = vc_rMake π r nm := by kernel_rfl
theorem ok_rMake (r : Nat) (nm : ByteArray) (R : Value → PH → Prop) (s : PH) (h : vc_rMake (RP Try.prog R) r nm s) : DCalls Try.prog 31 (List.map AV.val [.v (.pointer (some ⟨r, 0, none⟩)), .v (.string nm)]).toArray s R :=
  calls_vc (c := bodyOf Try.f31) (ann := ann_rMake) (by kernel_rfl) Try.func31 rfl [.v (.pointer (some ⟨r, 0, none⟩)), .v (.string nm)] [] (by rw [Try.ntmps31]; exact Nat.le_of_ble_eq_true rfl) (by rw [show Try.f31.ntmps = 41 from Try.ntmps31, eq_rMake]; exact h)

/-- (*lintel/lintelref05.Drive).begin -/
def vc_rBegin {W : Type} (π : Prims W) (r : Nat) : W :=
  π.unSome (some (Addr.mk r (0 : Nat) none)) fun p0 =>
  π.ld [.bool] (p0.add (1 : Nat)) fun ((b1 : Bool), _) =>
  π.ite (b1) (
    π.ret (Go.Value.tuple #[(Go.Value.int (IntKind.i64) ((50 : Int))), (Go.Value.bool (false))])
  ) (
    π.unSome (some (Addr.mk r (0 : Nat) none)) fun p2 =>
    π.ld [.int .i64] (p2.add (2 : Nat)) fun ((x3 : Int), _) =>
    π.ite (x3 == (1 : Int)) (
      π.unSome (some (Addr.mk r (0 : Nat) none)) fun p4 =>
      π.st (p4.add (1 : Nat)) [(Go.Value.bool (true))] <|
      π.ret (Go.Value.tuple #[(Go.Value.int (IntKind.i64) ((50 : Int))), (Go.Value.bool (true))])
    ) (
      π.unSome (some (Addr.mk r (0 : Nat) none)) fun p5 =>
      π.ld [.int .i64] (p5.add (2 : Nat)) fun ((x6 : Int), _) =>
      π.ite (decide (x6 > (0 : Int))) (
        π.unSome (some (Addr.mk r (0 : Nat) none)) fun p7 =>
        π.ld [.int .i64] (p7.add (2 : Nat)) fun ((x8 : Int), _) =>
        π.unSome (some (Addr.mk r (0 : Nat) none)) fun p9 =>
        π.st (p9.add (2 : Nat)) [(Go.Value.int (IntKind.i64) (IntKind.i64.wrap (x8 - (1 : Int))))] <|
        π.ret (Go.Value.tuple #[(Go.Value.int (IntKind.i64) ((0 : Int))), (Go.Value.bool (false))])
      ) (
        π.ret (Go.Value.tuple #[(Go.Value.int (IntKind.i64) ((0 : Int))), (Go.Value.bool (false))])
      )
    )
  )

def ann_rBegin : Ann := { quiet := [], join := [], loop := [] }
set_option maxRecDepth 100000 in
theorem eq_rBegin {W : Type} (π : Prims W) (r : Nat) : bodyW π Try.prog ann_rBegin (mkFr (maskA [] [.v (.pointer (some ⟨r, 0, none⟩))] 0) 28) drawer Try.f30 (bodyOf Try.f30) (mkFr (List.map some [.v (.pointer (some ⟨r, 0, none⟩))]) 28) = vc_rBegin π r := by kernel_rfl
theorem ok_rBegin (r : Nat) (R : Value → PH → Prop) (s : PH) (h : vc_rBegin (RP Try.prog R) r s) : DCalls Try.prog 30 (List.map AV.val [.v (.pointer (some ⟨r, 0, none⟩))]).toArray s R :=
  calls_vc (c := bodyOf Try.f30) (ann := ann_rBegin) (by kernel_rfl) Try.func30 rfl [.v (.pointer (some ⟨r, 0, none⟩))] [] (by rw [Try.ntmps30]; exact Nat.le_of_ble_eq_true rfl) (by rw [show Try.f30.ntmps = 28 from Try.ntmps30, eq_rBegin]; exact h)

/-- (*lintel/lintelref05.Drive).Append -/
def vc_rAppend {W : Type} (π : Prims W) (r : Nat) (nm dt : ByteArray) : W :=
  π.call (30 : Nat) #[(Go.Value.pointer (some (Addr.mk r (0 : Nat) none)))] (true, [(false, [.int .i64]), (false, [.bool])]) fun (((x0 : Int), _), ((b1 : Bool), _), _) =>
  π.ite (x0 == (0 : Int)) (
    π.call (31 : Nat) #[(Go.Value.pointer (some (Addr.mk r (0 : Nat) none))), (Go.Value.string (nm))] (false, [(false, [.int .i64])]) fun (((x2 : Int), _), _) =>
    π.unSome (some (Addr.mk r (0 : Nat) none)) fun p3 =>
    π.ld [.slice] (p3.add (0 : Nat)) fun (((a4 : Option Addr), (n5 : Nat), (c6 : Nat)), _) =>
    π.unSome (some (Addr.mk r (0 : Nat) none)) fun p7 =>
    π.ld [.slice] (p7.add (0 : Nat)) fun (((a8 : Option Addr), (n9 : Nat), (c10 : Nat)), _) =>
    π.guard ((0 : Int) ≤ x2 ∧ x2 < (↑n9 : Int)) <|
    π.unSome (a8) fun p11 =>
    π.ld [.str] ((p11.add (x2.toNat * (3 : Nat))).add (1 : Nat)) fun ((t12 : ByteArray), _) =>
    π.guard ((↑(t12.size + dt.size) : Int) ≤ (9223372036854775807 : Int)) <|
    π.guard ((0 : Int) ≤ x2 ∧ x2 < (↑n5 : Int)) <|
    π.unSome (a4) fun p13 =>
    π.st ((p13.add (x2.toNat * (3 : Nat))).add (1 : Nat)) [(Go.Value.string (t12 ++ dt))] <|
    π.ret (Go.Value.int (IntKind.i64) (x0))
  ) (
    π.ite (b1) (
      π.call (31 : Nat) #[(Go.Value.pointer (some (Addr.mk r (0 : Nat) none))), (Go.Value.string (nm))] (false, [(false, [.int .i64])]) fun (((x14 : Int), _), _) =>
      π.unSome (some (Addr.mk r (0 : Nat) none)) fun p15 =>
      π.ld [.slice] (p15.add (0 : Nat)) fun (((a16 : Option Addr), (n17 : Nat), (c18 : Nat)), _) =>
      π.unSome (some (Addr.mk r (0 : Nat) none)) fun p19 =>
      π.ld [.slice] (p19.add (0 : Nat)) fun (((a20 : Option Addr), (n21 : Nat), (c22 : Nat)), _) =>
      π.guard ((0 : Int) ≤ x14 ∧ x14 < (↑n21 : Int)) <|
      π.unSome (a20) fun p23 =>
      π.ld [.str] ((p23.add (x14.toNat * (3 : Nat))).add (1 : Nat)) fun ((t24 : ByteArray), _) =>
      π.guard ((↑(t24.size + dt.size) : Int) ≤ (9223372036854775807 : Int)) <|
      π.guard ((0 : Int) ≤ x14 ∧ x14 < (↑n17 : Int)) <|
      π.unSome (a16) fun p25 =>
      π.st ((p25.add (x14.toNat * (3 : Nat))).add (1 : Nat)) [(Go.Value.string (t24 ++ dt))] <|
      π.ret (Go.Value.int (IntKind.i64) (x0))
    ) (
      π.ret (Go.Value.int (IntKind.i64) (x0))
    )
  )

def ann_rAppend : Ann := { quiet := [], join := [], loop := [] }
set_option maxRecDepth 100000 in
theorem eq_rAppend {W : Type} (π : Prims W) (r : Nat) (nm dt : ByteArray) : bodyW π Try.prog ann_rAppend (mkFr (maskA [] [.v (.pointer (some ⟨r, 0, none⟩)), .v (.string nm), .v (.string dt)] 0) 41) drawer Try.f22 (bodyOf Try.f22) (mkFr (List.map some [.v (.pointer (some ⟨r, 0, none⟩)), .v (.string nm), .v (.string dt)]) 41) = vc_rAppend π r nm dt := by kernel_rfl
theorem ok_rAppend (r : Nat) (nm dt : ByteArray) (R : Value → PH → Prop) (s : PH) (h : vc_rAppend (RP Try.prog R) r nm dt s) : DCalls Try.prog 22 (List.map AV.val [.v (.pointer (some ⟨r, 0, none⟩)), .v (.string nm), .v (.string dt)]).toArray s R :=
  calls_vc (c := bodyOf Try.f22) (ann := ann_rAppend) (by kernel_rfl) Try.func22 rfl [.v (.pointer (some ⟨r, 0, none⟩)), .v (.string nm), .v (.string dt)] [] (by rw [Try.ntmps22]; exact Nat.le_of_ble_eq_true rfl) (by rw [show Try.f22.ntmps = 41 from Try.ntmps22, eq_rAppend]; exact h)

/-- (*lintel/lintelref05.Drive).Sync -/
def vc_rSync {W : Type} (π : Prims W) (r : Nat) (nm : ByteArray) : W :=
  π.call (30 : Nat) #[(Go.Value.pointer (some (Addr.mk r (0 : Nat) none)))] (true, [(false, [.int .i64]), (false, [.bool])]) fun (((x0 : Int), _), ((b1 : Bool), _), _) =>
  π.call (32 : Nat) #[(Go.Value.pointer (some (Addr.mk r (0 : Nat) none))), (Go.Value.string (nm))] (true, [(false, [.int .i64]), (false, [.bool])]) fun (((x2 : Int), _), ((b3 : Bool), _), _) =>
  π.ite (x0 == (0 : Int)) (
    π.ite (b3) (
      π.unSome (some (Addr.mk r (0 : Nat) none)) fun p4 =>
      π.ld [.slice] (p4.add (0 : Nat)) fun (((a5 : Option Addr), (n6 : Nat), (c7 : Nat)), _) =>
      π.unSome (some (Addr.mk r (0 : Nat) none)) fun p8 =>
      π.ld [.slice] (p8.add (0 : Nat)) fun (((a9 : Option Addr), (n10 : Nat), (c11 : Nat)), _) =>
      π.guard ((0 : Int) ≤ x2 ∧ x2 < (↑n10 : Int)) <|
      π.unSome (a9) fun p12 =>
      π.ld [.str] ((p12.add (x2.toNat * (3 : Nat))).add (1 : Nat)) fun ((t13 : ByteArray), _) =>
      π.guard ((0 : Int) ≤ x2 ∧ x2 < (↑n6 : Int)) <|
      π.unSome (a5) fun p14 =>
      π.st ((p14.add (x2.toNat * (3 : Nat))).add (2 : Nat)) [(Go.Value.int (IntKind.i64) ((↑t13.size : Int)))] <|
      π.ret (Go.Value.int (IntKind.i64) (x0))
    ) (
      π.ret (Go.Value.int (IntKind.i64) (x0))
    )
  ) (
    π.ret (Go.Value.int (IntKind.i64) (x0))
  )

def ann_rSync : Ann := { quiet := [], join := [], loop := [] }
set_option maxRecDepth 100000 in
theorem eq_rSync {W : Type} (π : Prims W) (r : Nat) (nm : ByteArray) : bodyW π Try.prog ann_rSync (mkFr (maskA [] [.v (.pointer (some ⟨r, 0, none⟩)), .v (.string nm)] 0) 42) drawer Try.f23 (bodyOf Try.f23) (mkFr (List.map some [.v (.pointer (some ⟨r, 0, none⟩)), .v (.string nm)]) 42) = vc_rSync π r nm := by kernel_rfl
theorem ok_rSync (r : Nat) (nm : ByteArray) (R : Value → PH → Prop) (s : PH) (h : vc_rSync (RP Try.prog R) r nm s) : DCalls Try.prog 23 (List.map AV.val [.v (.pointer (some ⟨r, 0, none⟩)), .v (.string nm)]).toArray s R :=
  calls_vc (c := bodyOf Try.f23) (ann := ann_rSync) (by kernel_rfl) Try.func23 rfl [.v (.pointer (some ⟨r, 0, none⟩)), .v (.string nm)] [] (by rw [Try.ntmps23]; exact Nat.le_of_ble_eq_true rfl) (by rw [show Try.f23.ntmps = 42 from Try.ntmps23, eq_rSync]; exact h)

/-- (*lintel/lintelref05.Drive).Swap -/
def vc_rSwap {W : Type} (π : Prims W) (r : Nat) (nm dt : ByteArray) : W :=
  π.call (30 : Nat) #[(Go.Value.pointer (some (Addr.mk r (0 : Nat) none)))] (true, [(false, [.int .i64]), (false, [.bool])]) fun (((x0 : Int), _), ((b1 : Bool), _), _) =>
  π.ite (x0 == (0 : Int)) (
    π.call (31 : Nat) #[(Go.Value.pointer (some (Addr.mk r (0 : Nat) none))), (Go.Value.string (nm))] (false, [(false, [.int .i64])]) fun (((x2 : Int), _), _) =>
    π.unSome (some (Addr.mk r (0 : Nat) none)) fun p3 =>
    π.ld [.slice] (p3.add (0 : Nat)) fun (((a4 : Option Addr), (n5 : Nat), (c6 : Nat)), _) =>
    π.guard ((0 : Int) ≤ x2 ∧ x2 < (↑n5 : Int)) <|
    π.unSome (a4) fun p7 =>
    π.st ((p7.add (x2.toNat * (3 : Nat))).add (1 : Nat)) [(Go.Value.string (dt))] <|
    π.unSome (some (Addr.mk r (0 : Nat) none)) fun p8 =>
    π.ld [.slice] (p8.add (0 : Nat)) fun (((a9 : Option Addr), (n10 : Nat), (c11 : Nat)), _) =>
    π.guard ((0 : Int) ≤ x2 ∧ x2 < (↑n10 : Int)) <|
    π.unSome (a9) fun p12 =>
    π.st ((p12.add (x2.toNat * (3 : Nat))).add (2 : Nat)) [(Go.Value.int (IntKind.i64) ((↑dt.size : Int)))] <|
    π.ret (Go.Value.int (IntKind.i64) (x0))
  ) (
    π.ret (Go.Value.int (IntKind.i64) (x0))
  )

def ann_rSwap : Ann := { quiet := [], join := [], loop := [] }
set_option maxRecDepth 100000 in
theorem eq_rSwap {W : Type} (π : Prims W) (r : Nat) (nm dt : ByteArray) : bodyW π Try.prog ann_rSwap (mkFr (maskA [] [.v (.pointer (some ⟨r, 0, none⟩)), .v (.string nm), .v (.string dt)] 0) 38) drawer Try.f24 (bodyOf Try.f24) (mkFr (List.map some [.v (.pointer (some ⟨r, 0, none⟩)), .v (.string nm), .v (.string dt)]) 38) = vc_rSwap π r nm dt := by kernel_rfl
theorem ok_rSwap (r : Nat) (nm dt : ByteArray) (R : Value → PH → Prop) (s : PH) (h : vc_rSwap (RP Try.prog R) r nm dt s) : DCalls Try.prog 24 (List.map AV.val [.v (.pointer (some ⟨r, 0, none⟩)), .v (.string nm), .v (.string dt)]).toArray s R :=
  calls_vc (c := bodyOf Try.f24) (ann := ann_rSwap) (by kernel_rfl) Try.func24 rfl [.v (.pointer (some ⟨r, 0, none⟩)), .v (.string nm), .v (.string dt)] [] (by rw [Try.ntmps24]; exact Nat.le_of_ble_eq_true rfl) (by rw [show Try.f24.ntmps = 38 from Try.ntmps24, eq_rSwap]; exact h)

/-- (*lintel/lintelref05.Drive).Read -/
def vc_rRead {W : Type} (π : Prims W) (r : Nat) (nm : ByteArray) : W :=
  π.unSome (some (Addr.mk r (0 : Nat) none)) fun p0 =>
  π.ld [.bool] (p0.add (1 : Nat)) fun ((b1 : Bool), _) =>
  π.ite (b1) (
    π.ret (Go.Value.tuple #[(Go.Value.string (ByteArray.mk #[])), (Go.Value.int (IntKind.i64) ((50 : Int)))])
  ) (
    π.call (32 : Nat) #[(Go.Value.pointer (some (Addr.mk r (0 : Nat) none))), (Go.Value.string (nm))] (true, [(false, [.int .i64]), (false, [.bool])]) fun (((x2 : Int), _), ((b3 : Bool), _), _) =>
    π.ite (b3) (
      π.unSome (some (Addr.mk r (0 : Nat) none)) fun p4 =>
      π.ld [.slice] (p4.add (0 : Nat)) fun (((a5 : Option Addr), (n6 : Nat), (c7 : Nat)), _) =>
      π.guard ((0 : Int) ≤ x2 ∧ x2 < (↑n6 : Int)) <|
      π.unSome (a5) fun p8 =>
      π.ld [.str] ((p8.add (x2.toNat * (3 : Nat))).add (1 : Nat)) fun ((t9 : ByteArray), _) =>
      π.ret (Go.Value.tuple #[(Go.Value.string (t9)), (Go.Value.int (IntKind.i64) ((0 : Int)))])
    ) (
      π.ret (Go.Value.tuple #[(Go.Value.string (ByteArray.mk #[])), (Go.Value.int (IntKind.i64) ((0 : Int)))])
    )
  )

def ann_rRead : Ann := { quiet := [], join := [], loop := [] }
set_option maxRecDepth 100000 in
theorem eq_rRead {W : Type} (π : Prims W) (r : Nat) (nm : ByteArray) : bodyW π Try.prog ann_rRead (mkFr (maskA [] [.v (.pointer (some ⟨r, 0, none⟩)), .v (.string nm)] 0) 27) drawer Try.f27 (bodyOf Try.f27) (mkFr (List.map some [.v (.pointer (some ⟨r, 0, none⟩)), .v (.string nm)]) 27) = vc_rRead π r nm := by kernel_rfl
theorem ok_rRead (r : Nat) (nm : ByteArray) (R : Value → PH → Prop) (s : PH) (h : vc_rRead (RP Try.prog R) r nm s) : DCalls Try.prog 27 (List.map AV.val [.v (.pointer (some ⟨r, 0, none⟩)), .v (.string nm)]).toArray s R :=
  calls_vc (c := bodyOf Try.f27) (ann := ann_rRead) (by kernel_rfl) Try.func27 rfl [.v (.pointer (some ⟨r, 0, none⟩)), .v (.string nm)] [] (by rw [Try.ntmps27]; exact Nat.le_of_ble_eq_true rfl) (by rw [show Try.f27.ntmps = 27 from Try.ntmps27, eq_rRead]; exact h)

/-- (*lintel/lintelref05.Drive).Arm -/
def vc_rArm {W : Type} (π : Prims W) (r : Nat) (n : Int) : W :=
  π.unSome (some (Addr.mk r (0 : Nat) none)) fun p0 =>
  π.ld [.bool] (p0.add (1 : Nat)) fun ((b1 : Bool), _) =>
  π.ite (!b1) (
    π.unSome (some (Addr.mk r (0 : Nat) none)) fun p2 =>
    π.st (p2.add (2 : Nat)) [(Go.Value.int (IntKind.i64) (if n > (0 : Int) then n else (0 : Int)))] <|
    π.ret (Go.Value.tuple #[])
  ) (
    π.ret (Go.Value.tuple #[])
  )

def ann_rArm : Ann := { quiet := [], join := [], loop := [] }
set_option maxRecDepth 100000 in
theorem eq_rArm {W : Type} (π : Prims W) (r : Nat) (n : Int) : bodyW π Try.prog ann_rArm (mkFr (maskA [] [.v (.pointer (some ⟨r, 0, none⟩)), .v (.int .i64 n)] 0) 14) drawer Try.f25 (bodyOf Try.f25) (mkFr (List.map some [.v (.pointer (some ⟨r, 0, none⟩)), .v (.int .i64 n)]) 14) = vc_rArm π r n := by kernel_rfl
theorem ok_rArm (r : Nat) (n : Int) (R : Value → PH → Prop) (s : PH) (h : vc_rArm (RP Try.prog R) r n s) : DCalls Try.prog 25 (List.map AV.val [.v (.pointer (some ⟨r, 0, none⟩)), .v (.int .i64 n)]).toArray s R :=
  calls_vc (c := bodyOf Try.f25) (ann := ann_rArm) (by kernel_rfl) Try.func25 rfl [.v (.pointer (some ⟨r, 0, none⟩)), .v (.int .i64 n)] [] (by rw [Try.ntmps25]; exact Nat.le_of_ble_eq_true rfl) (by rw [show Try.f25.ntmps = 14 from Try.ntmps25, eq_rArm]; exact h)

/-- (*lintel/lintelref05.Drive).Crash -/
def vc_rCrash {W : Type} (π : Prims W) (r : Nat) (k : Option Addr) (n c : Nat) : W :=
  π.nw (Go.Obj.cells #[(Go.Value.slice (none) ((0 : Nat)) ((0 : Nat))), (Go.Value.bool (false)), (Go.Value.int (IntKind.i64) ((0 : Int)))] (39 : Nat) ((0 : Nat), (0 : Nat))) fun r0 =>
  π.loop [(false, [.ptr]), (false, [.int .i64])] ((some (Addr.mk r0 (0 : Nat) none), ()), ((0 : Int), ()), ()) fun ((p2, _), ((x3 : Int), _), _) again1 =>
    π.unSome (some (Addr.mk r (0 : Nat) none)) fun p4 =>
    π.ld [.slice] (p4.add (0 : Nat)) fun (((a5 : Option Addr), (n6 : Nat), (c7 : Nat)), _) =>
    π.ite (decide (x3 < (↑n6 : Int))) (
      π.unSome (some (Addr.mk r (0 : Nat) none)) fun p8 =>
      π.ld [.slice] (p8.add (0 : Nat)) fun (((a9 : Option Addr), (n10 : Nat), (c11 : Nat)), _) =>
      π.guard ((0 : Int) ≤ x3 ∧ x3 < (↑n10 : Int)) <|
      π.unSome (a9) fun p12 =>
      π.ld [.str, .str, .int .i64] (p12.add (x3.toNat * (3 : Nat))) fun ((t13 : ByteArray), (t14 : ByteArray), (x15 : Int), _) =>
      π.nw (Go.Obj.cells #[(Go.Value.string (ByteArray.mk #[])), (Go.Value.string (ByteArray.mk #[])), (Go.Value.int (IntKind.i64) ((0 : Int)))] (65 : Nat) ((0 : Nat), (0 : Nat))) fun r16 =>
      π.st (Addr.mk r16 (0 : Nat) none) [(Go.Value.string (t13)), (Go.Value.string (t14)), (Go.Value.int (IntKind.i64) (x15))] <|
      π.ite (decide (x3 < (↑n : Int))) (
        π.guard ((0 : Int) ≤ x3 ∧ x3 < (↑n : Int)) <|
        π.unSome (k) fun p17 =>
        π.ld [.int .i64] (p17.add (x3.toNat * (1 : Nat))) fun ((x18 : Int), _) =>
        π.ld [.str] ((Addr.mk r16 (0 : Nat) none).add (1 : Nat)) fun ((t19 : ByteArray), _) =>
        π.ld [.int .i64] ((Addr.mk r16 (0 : Nat) none).add (2 : Nat)) fun ((x20 : Int), _) =>
        π.ld [.str] ((Addr.mk r16 (0 : Nat) none).add (1 : Nat)) fun ((t21 : ByteArray), _) =>
        π.ld [.int .i64] ((Addr.mk r16 (0 : Nat) none).add (2 : Nat)) fun ((x22 : Int), _) =>
        π.guard ((0 : Int) ≤ (0 : Int) ∧ (0 : Int) ≤ IntKind.i64.wrap (x22 + if (if IntKind.i64.wrap ((↑t19.size : Int) - x20) < x18 then IntKind.i64.wrap ((↑t19.size : Int) - x20) else x18) > (0 : Int) then if IntKind.i64.wrap ((↑t19.size : Int) - x20) < x18 then IntKind.i64.wrap ((↑t19.size : Int) - x20) else x18 else (0 : Int)) ∧ IntKind.i64.wrap (x22 + if (if IntKind.i64.wrap ((↑t19.size : Int) - x20) < x18 then IntKind.i64.wrap ((↑t19.size : Int) - x20) else x18) > (0 : Int) then if IntKind.i64.wrap ((↑t19.size : Int) - x20) < x18 then IntKind.i64.wrap ((↑t19.size : Int) - x20) else x18 else (0 : Int)) ≤ (↑t21.size : Int)) <|
        π.st ((Addr.mk r16 (0 : Nat) none).add (1 : Nat)) [(Go.Value.string (t21.extract (0 : Nat) (IntKind.i64.wrap (x22 + if (if IntKind.i64.wrap ((↑t19.size : Int) - x20) < x18 then IntKind.i64.wrap ((↑t19.size : Int) - x20) else x18) > (0 : Int) then if IntKind.i64.wrap ((↑t19.size : Int) - x20) < x18 then IntKind.i64.wrap ((↑t19.size : Int) - x20) else x18 else (0 : Int))).toNat))] <|
        π.ld [.str] ((Addr.mk r16 (0 : Nat) none).add (1 : Nat)) fun ((t23 : ByteArray), _) =>
        π.st ((Addr.mk r16 (0 : Nat) none).add (2 : Nat)) [(Go.Value.int (IntKind.i64) ((↑t23.size : Int)))] <|
        π.unSome (p2) fun p24 =>
        π.ld [.slice] (p24.add (0 : Nat)) fun (((a25 : Option Addr), (n26 : Nat), (c27 : Nat)), _) =>
        π.ld [.str, .str, .int .i64] (Addr.mk r16 (0 : Nat) none) fun ((t28 : ByteArray), (t29 : ByteArray), (x30 : Int), _) =>
        π.nw (Go.Obj.cells #[(Go.Value.string (t28)), (Go.Value.string (t29)), (Go.Value.int (IntKind.i64) (x30))] (65 : Nat) ((0 : Nat), (0 : Nat))) fun r31 =>
        π.app (65 : Nat) (3 : Nat) (40 : Nat) [(Go.Value.string (ByteArray.mk #[])), (Go.Value.string (ByteArray.mk #[])), (Go.Value.int (IntKind.i64) ((0 : Int)))] (a25) (n26) (c27) (Src.sl (some (Addr.mk r31 (0 : Nat) none)) (1 : Nat)) fun a32 n33 c34 =>
        π.unSome (p2) fun p35 =>
        π.st (p35.add (0 : Nat)) [(Go.Value.slice (a32) (n33) (c34))] <|
        again1 ((p2, ()), (IntKind.i64.wrap (x3 + (1 : Int)), ()), ())
      ) (
        π.ld [.str] ((Addr.mk r16 (0 : Nat) none).add (1 : Nat)) fun ((t36 : ByteArray), _) =>
        π.ld [.int .i64] ((Addr.mk r16 (0 : Nat) none).add (2 : Nat)) fun ((x37 : Int), _) =>
        π.guard ((0 : Int) ≤ (0 : Int) ∧ (0 : Int) ≤ IntKind.i64.wrap (x37 + (0 : Int)) ∧ IntKind.i64.wrap (x37 + (0 : Int)) ≤ (↑t36.size : Int)) <|
        π.st ((Addr.mk r16 (0 : Nat) none).add (1 : Nat)) [(Go.Value.string (t36.extract (0 : Nat) (IntKind.i64.wrap (x37 + (0 : Int))).toNat))] <|
        π.ld [.str] ((Addr.mk r16 (0 : Nat) none).add (1 : Nat)) fun ((t38 : ByteArray), _) =>
        π.st ((Addr.mk r16 (0 : Nat) none).add (2 : Nat)) [(Go.Value.int (IntKind.i64) ((↑t38.size : Int)))] <|
        π.unSome (p2) fun p39 =>
        π.ld [.slice] (p39.add (0 : Nat)) fun (((a40 : Option Addr), (n41 : Nat), (c42 : Nat)), _) =>
        π.ld [.str, .str, .int .i64] (Addr.mk r16 (0 : Nat) none) fun ((t43 : ByteArray), (t44 : ByteArray), (x45 : Int), _) =>
        π.nw (Go.Obj.cells #[(Go.Value.string (t43)), (Go.Value.string (t44)), (Go.Value.int (IntKind.i64) (x45))] (65 : Nat) ((0 : Nat), (0 : Nat))) fun r46 =>
        π.app (65 : Nat) (3 : Nat) (40 : Nat) [(Go.Value.string (ByteArray.mk #[])), (Go.Value.string (ByteArray.mk #[])), (Go.Value.int (IntKind.i64) ((0 : Int)))] (a40) (n41) (c42) (Src.sl (some (Addr.mk r46 (0 : Nat) none)) (1 : Nat)) fun a47 n48 c49 =>
        π.unSome (p2) fun p50 =>
        π.st (p50.add (0 : Nat)) [(Go.Value.slice (a47) (n48) (c49))] <|
        again1 ((p2, ()), (IntKind.i64.wrap (x3 + (1 : Int)), ()), ())
      )
    ) (
      π.unSome (some (Addr.mk r (0 : Nat) none)) fun p51 =>
      π.st (p51.add (1 : Nat)) [(Go.Value.bool (true))] <|
      π.ret (Go.Value.pointer (p2))
    )

def ann_rCrash : Ann := { quiet := [], join := [], loop := [(3, [(5, 36), (6, 3)])] }
set_option maxRecDepth 100000 in
theorem eq_rCrash {W : Type} (π : Prims W) (r : Nat) (k : Option Addr) (n c : Nat) : bodyW π Try.prog ann_rCrash (mkFr (maskA [] [.v (.pointer (some ⟨r, 0, none⟩)), .v (.slice k n c)] 0) 69) drawer Try.f26 (bodyOf Try.f26) (mkFr (List.map some [.v (.pointer (some ⟨r, 0, none⟩)), .v (.slice k n c)]) 69) = vc_rCrash π r k n c := by kernel_rfl
theorem ok_rCrash (r : Nat) (k : Option Addr) (n c : Nat) (R : Value → PH → Prop) (s : PH) (h : vc_rCrash (RP Try.prog R) r k n c s) : DCalls Try.prog 26 (List.map AV.val [.v (.pointer (some ⟨r, 0, none⟩)), .v (.slice k n c)]).toArray s R :=
  calls_vc (c := bodyOf Try.f26) (ann := ann_rCrash) (by kernel_rfl) Try.func26 rfl [.v (.pointer (some ⟨r, 0, none⟩)), .v (.slice k n c)] [] (by rw [Try.ntmps26]; exact Nat.le_of_ble_eq_true rfl) (by rw [show Try.f26.ntmps = 69 from Try.ntmps26, eq_rCrash]; exact h)

/-- lintel/lintellaw05.bytes -/
def vc_bytes {W : Type} (π : Prims W) (a : Option Addr) (n c : Nat) : W :=
  π.loop [(false, [.int .i64]), (false, [.slice]), (false, [.int .i64]), (false, [.int .i64])] (((0 : Int), ()), ((a, n, c), ()), ((↑n : Int), ()), ((0 : Int), ()), ()) fun (((x1 : Int), _), (((a2 : Option Addr), (n3 : Nat), (c4 : Nat)), _), ((x5 : Int), _), ((x6 : Int), _), _) again0 =>
    π.ite (decide (x6 < x5)) (
      π.guard ((0 : Int) ≤ x6 ∧ x6 < (↑n3 : Int)) <|
      π.unSome (a2) fun p7 =>
      π.ld [.int .i64, .str, .str, .int .i64, .slice] (p7.add (x6.toNat * (5 : Nat))) fun ((x8 : Int), (t9 : ByteArray), (t10 : ByteArray), (x11 : Int), ((a12 : Option Addr), (n13 : Nat), (c14 : Nat)), _) =>
      π.nw (Go.Obj.cells #[(Go.Value.int (IntKind.i64) ((0 : Int))), (Go.Value.string (ByteArray.mk #[])), (Go.Value.string (ByteArray.mk #[])), (Go.Value.int (IntKind.i64) ((0 : Int))), (Go.Value.slice (none) ((0 : Nat)) ((0 : Nat)))] (41 : Nat) ((0 : Nat), (0 : Nat))) fun r15 =>
      π.st (Addr.mk r15 (0 : Nat) none) [(Go.Value.int (IntKind.i64) (x8)), (Go.Value.string (t9)), (Go.Value.string (t10)), (Go.Value.int (IntKind.i64) (x11)), (Go.Value.slice (a12) (n13) (c14))] <|
      π.ld [.str] ((Addr.mk r15 (0 : Nat) none).add (1 : Nat)) fun ((t16 : ByteArray), _) =>
      π.ld [.str] ((Addr.mk r15 (0 : Nat) none).add (2 : Nat)) fun ((t17 : ByteArray), _) =>
      π.ld [.slice] ((Addr.mk r15 (0 : Nat) none).add (4 : Nat)) fun (((a18 : Option Addr), (n19 : Nat), (c20 : Nat)), _) =>
      π.ite (decide (IntKind.i64.wrap (x1 + IntKind.i64.wrap (IntKind.i64.wrap (IntKind.i64.wrap ((1 : Int) + (↑t16.size : Int)) + (↑t17.size : Int)) + (↑n19 : Int))) > (65536 : Int))) (
        π.ret (Go.Value.int (IntKind.i64) (IntKind.i64.wrap (x1 + IntKind.i64.wrap (IntKind.i64.wrap (IntKind.i64.wrap ((1 : Int) + (↑t16.size : Int)) + (↑t17.size : Int)) + (↑n19 : Int)))))
      ) (
        again0 ((IntKind.i64.wrap (x1 + IntKind.i64.wrap (IntKind.i64.wrap (IntKind.i64.wrap ((1 : Int) + (↑t16.size : Int)) + (↑t17.size : Int)) + (↑n19 : Int))), ()), ((a2, n3, c4), ()), (x5, ()), (IntKind.i64.wrap (x6 + (1 : Int)), ()), ())
      )
    ) (
      π.ret (Go.Value.int (IntKind.i64) (x1))
    )

def ann_bytes : Ann := { quiet := [], join := [], loop := [(3, [(3, 3), (6, 34), (7, 3), (8, 3)])] }
set_option maxRecDepth 100000 in
theorem eq_bytes {W : Type} (π : Prims W) (a : Option Addr) (n c : Nat) : bodyW π Try.prog ann_bytes (mkFr (maskA [] [.v (.slice a n c)] 0) 30) drawer Try.f15 (bodyOf Try.f15) (mkFr (List.map some [.v (.slice a n c)]) 30) = vc_bytes π a n c := by kernel_rfl
theorem ok_bytes (a : Option Addr) (n c : Nat) (R : Value → PH → Prop) (s : PH) (h : vc_bytes (RP Try.prog R) a n c s) : DCalls Try.prog 15 (List.map AV.val [.v (.slice a n c)]).toArray s R :=
  calls_vc (c := bodyOf Try.f15) (ann := ann_bytes) (by kernel_rfl) Try.func15 rfl [.v (.slice a n c)] [] (by rw [Try.ntmps15]; exact Nat.le_of_ble_eq_true rfl) (by rw [show Try.f15.ntmps = 30 from Try.ntmps15, eq_bytes]; exact h)

/-- lintel/lintellaw05.done -/
def vc_done {W : Type} (π : Prims W) (b r : Nat) (kd : Int) (nm dt : ByteArray) (n : Int) (k : Option Addr) (kn kc : Nat) : W :=
  π.nw (Go.Obj.cells #[(Go.Value.int (IntKind.i64) (kd)), (Go.Value.string (nm)), (Go.Value.string (dt)), (Go.Value.int (IntKind.i64) (n)), (Go.Value.slice (k) (kn) (kc))] (41 : Nat) ((0 : Nat), (0 : Nat))) fun r0 =>
  π.join [(false, [.ptr]), (false, [.ptr]), (false, [.addr])] (fun J1 =>
    π.ld [.int .i64] ((Addr.mk r0 (0 : Nat) none).add (0 : Nat)) fun ((x2 : Int), _) =>
    π.ite (x2 == (1 : Int)) (
      π.ld [.str] ((Addr.mk r0 (0 : Nat) none).add (1 : Nat)) fun ((t3 : ByteArray), _) =>
      π.ld [.str] ((Addr.mk r0 (0 : Nat) none).add (2 : Nat)) fun ((t4 : ByteArray), _) =>
      π.ld [.str] ((Addr.mk r0 (0 : Nat) none).add (1 : Nat)) fun ((t5 : ByteArray), _) =>
      π.ld [.str] ((Addr.mk r0 (0 : Nat) none).add (2 : Nat)) fun ((t6 : ByteArray), _) =>
      π.call (10 : Nat) #[(Go.Value.pointer (some (Addr.mk b (0 : Nat) none))), (Go.Value.string (t3)), (Go.Value.string (t4))] (false, [(false, [.int .i64])]) fun (((x7 : Int), _), _) =>
      π.still [.str] ((Addr.mk r0 (0 : Nat) none).add (1 : Nat)) (t5, ()) <|
      π.still [.str] ((Addr.mk r0 (0 : Nat) none).add (2 : Nat)) (t6, ()) <|
      π.call (22 : Nat) #[(Go.Value.pointer (some (Addr.mk r (0 : Nat) none))), (Go.Value.string (t5)), (Go.Value.string (t6))] (false, [(false, [.int .i64])]) fun (((x8 : Int), _), _) =>
      π.both (
        π.ret (Go.Value.tuple #[(Go.Value.pointer (some (Addr.mk b (0 : Nat) none))), (Go.Value.pointer (some (Addr.mk r (0 : Nat) none))), (Go.Value.bool (x7 == x8))])
      ) (
        π.both (
          π.ret (Go.Value.tuple #[(Go.Value.pointer (some (Addr.mk b (0 : Nat) none))), (Go.Value.pointer (some (Addr.mk r (0 : Nat) none))), (Go.Value.bool (x7 == x8))])
        ) (
          π.ret (Go.Value.tuple #[(Go.Value.pointer (some (Addr.mk b (0 : Nat) none))), (Go.Value.pointer (some (Addr.mk r (0 : Nat) none))), (Go.Value.bool (x7 == x8))])
        )
      )
    ) (
      π.ite (x2 == (2 : Int)) (
        π.ld [.str] ((Addr.mk r0 (0 : Nat) none).add (1 : Nat)) fun ((t9 : ByteArray), _) =>
        π.ld [.str] ((Addr.mk r0 (0 : Nat) none).add (1 : Nat)) fun ((t10 : ByteArray), _) =>
        π.call (11 : Nat) #[(Go.Value.pointer (some (Addr.mk b (0 : Nat) none))), (Go.Value.string (t9))] (false, [(false, [.int .i64])]) fun (((x11 : Int), _), _) =>
        π.still [.str] ((Addr.mk r0 (0 : Nat) none).add (1 : Nat)) (t10, ()) <|
        π.call (23 : Nat) #[(Go.Value.pointer (some (Addr.mk r (0 : Nat) none))), (Go.Value.string (t10))] (false, [(false, [.int .i64])]) fun (((x12 : Int), _), _) =>
        π.both (
          π.ret (Go.Value.tuple #[(Go.Value.pointer (some (Addr.mk b (0 : Nat) none))), (Go.Value.pointer (some (Addr.mk r (0 : Nat) none))), (Go.Value.bool (x11 == x12))])
        ) (
          π.both (
            π.ret (Go.Value.tuple #[(Go.Value.pointer (some (Addr.mk b (0 : Nat) none))), (Go.Value.pointer (some (Addr.mk r (0 : Nat) none))), (Go.Value.bool (x11 == x12))])
          ) (
            π.ret (Go.Value.tuple #[(Go.Value.pointer (some (Addr.mk b (0 : Nat) none))), (Go.Value.pointer (some (Addr.mk r (0 : Nat) none))), (Go.Value.bool (x11 == x12))])
          )
        )
      ) (
        π.ite (x2 == (3 : Int)) (
          π.ld [.str] ((Addr.mk r0 (0 : Nat) none).add (1 : Nat)) fun ((t13 : ByteArray), _) =>
          π.ld [.str] ((Addr.mk r0 (0 : Nat) none).add (2 : Nat)) fun ((t14 : ByteArray), _) =>
          π.ld [.str] ((Addr.mk r0 (0 : Nat) none).add (1 : Nat)) fun ((t15 : ByteArray), _) =>
          π.ld [.str] ((Addr.mk r0 (0 : Nat) none).add (2 : Nat)) fun ((t16 : ByteArray), _) =>
          π.call (18 : Nat) #[(Go.Value.pointer (some (Addr.mk b (0 : Nat) none))), (Go.Value.string (t13)), (Go.Value.string (t14))] (false, [(false, [.int .i64])]) fun (((x17 : Int), _), _) =>
          π.still [.str] ((Addr.mk r0 (0 : Nat) none).add (1 : Nat)) (t15, ()) <|
          π.still [.str] ((Addr.mk r0 (0 : Nat) none).add (2 : Nat)) (t16, ()) <|
          π.call (24 : Nat) #[(Go.Value.pointer (some (Addr.mk r (0 : Nat) none))), (Go.Value.string (t15)), (Go.Value.string (t16))] (false, [(false, [.int .i64])]) fun (((x18 : Int), _), _) =>
          π.both (
            π.ret (Go.Value.tuple #[(Go.Value.pointer (some (Addr.mk b (0 : Nat) none))), (Go.Value.pointer (some (Addr.mk r (0 : Nat) none))), (Go.Value.bool (x17 == x18))])
          ) (
            π.both (
              π.ret (Go.Value.tuple #[(Go.Value.pointer (some (Addr.mk b (0 : Nat) none))), (Go.Value.pointer (some (Addr.mk r (0 : Nat) none))), (Go.Value.bool (x17 == x18))])
            ) (
              π.ret (Go.Value.tuple #[(Go.Value.pointer (some (Addr.mk b (0 : Nat) none))), (Go.Value.pointer (some (Addr.mk r (0 : Nat) none))), (Go.Value.bool (x17 == x18))])
            )
          )
        ) (
          π.ite (x2 == (4 : Int)) (
            π.ld [.int .i64] ((Addr.mk r0 (0 : Nat) none).add (3 : Nat)) fun ((x19 : Int), _) =>
            π.call (12 : Nat) #[(Go.Value.pointer (some (Addr.mk b (0 : Nat) none))), (Go.Value.int (IntKind.i64) (x19))] (true, []) fun (_) =>
            π.ld [.int .i64] ((Addr.mk r0 (0 : Nat) none).add (3 : Nat)) fun ((x20 : Int), _) =>
            π.call (25 : Nat) #[(Go.Value.pointer (some (Addr.mk r (0 : Nat) none))), (Go.Value.int (IntKind.i64) (x20))] (true, []) fun (_) =>
            J1 ((some (Addr.mk b (0 : Nat) none), ()), (some (Addr.mk r (0 : Nat) none), ()), (Addr.mk r0 (0 : Nat) none, ()), ())
          ) (
            π.ite (x2 == (5 : Int)) (
              π.join [(false, [.ptr]), (false, [.ptr]), (false, [.addr]), (false, [.ptr])] (fun J21 =>
                π.ld [.slice] ((Addr.mk r0 (0 : Nat) none).add (4 : Nat)) fun (((a22 : Option Addr), (n23 : Nat), (c24 : Nat)), _) =>
                π.ld [.slice] ((Addr.mk r0 (0 : Nat) none).add (4 : Nat)) fun (((a25 : Option Addr), (n26 : Nat), (c27 : Nat)), _) =>
                π.nw (Go.Obj.cells #[] (3 : Nat) ((0 : Nat), (0 : Nat))) fun r28 =>
                π.app (3 : Nat) (1 : Nat) (8 : Nat) [(Go.Value.int (IntKind.i64) ((0 : Int)))] (some (Addr.mk r28 (0 : Nat) none)) ((0 : Nat)) ((0 : Nat)) (Src.sl a22 n23) fun a29 n30 c31 =>
                π.still [.slice] ((Addr.mk r0 (0 : Nat) none).add (4 : Nat)) ((a25, n26, c27), ()) <|
                π.call (13 : Nat) #[(Go.Value.pointer (some (Addr.mk b (0 : Nat) none))), (Go.Value.slice (a29) (n30) (c31))] (false, [(false, [.ptr])]) fun ((p32, _), _) =>
                π.still [.slice] ((Addr.mk r0 (0 : Nat) none).add (4 : Nat)) ((a25, n26, c27), ()) <|
                π.call (26 : Nat) #[(Go.Value.pointer (some (Addr.mk r (0 : Nat) none))), (Go.Value.slice (a25) (n26) (c27))] (false, [(false, [.ptr])]) fun ((p33, _), _) =>
                J21 ((p32, ()), (p33, ()), (Addr.mk r0 (0 : Nat) none, ()), (some (Addr.mk b (0 : Nat) none), ()), ())
              ) (fun ((p34, _), (p35, _), (p36, _), (p37, _), _) =>
                π.ite (p34.isNone) (
                  π.ret (Go.Value.tuple #[(Go.Value.pointer (p34)), (Go.Value.pointer (p35)), (Go.Value.bool (false))])
                ) (
                  π.call (20 : Nat) #[(Go.Value.pointer (p37))] (false, [(false, [.bool])]) fun (((b38 : Bool), _), _) =>
                  π.ite (!b38) (
                    π.ret (Go.Value.tuple #[(Go.Value.pointer (p34)), (Go.Value.pointer (p35)), (Go.Value.bool (false))])
                  ) (
                    J1 ((p34, ()), (p35, ()), (p36, ()), ())
                  )
                )
              )
            ) (
              J1 ((some (Addr.mk b (0 : Nat) none), ()), (some (Addr.mk r (0 : Nat) none), ()), (Addr.mk r0 (0 : Nat) none, ()), ())
            )
          )
        )
      )
    )
  ) (fun ((p39, _), (p40, _), (p41, _), _) =>
    π.join [(false, [.ptr]), (false, [.ptr]), (false, [.addr]), (false, [.str]), (false, [.int .i64])] (fun J42 =>
      π.ld [.str] (p41.add (1 : Nat)) fun ((t43 : ByteArray), _) =>
      π.call (14 : Nat) #[(Go.Value.pointer (p39)), (Go.Value.string (t43))] (true, [(false, [.str]), (false, [.int .i64])]) fun (((t44 : ByteArray), _), ((x45 : Int), _), _) =>
      J42 ((p39, ()), (p40, ()), (p41, ()), (t44, ()), (x45, ()), ())
    ) (fun ((p46, _), (p47, _), (p48, _), ((t49 : ByteArray), _), ((x50 : Int), _), _) =>
      π.join [(false, [.ptr]), (false, [.ptr]), (false, [.str]), (false, [.int .i64]), (false, [.str]), (false, [.int .i64])] (fun J51 =>
        π.ld [.str] (p48.add (1 : Nat)) fun ((t52 : ByteArray), _) =>
        π.call (27 : Nat) #[(Go.Value.pointer (p47)), (Go.Value.string (t52))] (true, [(false, [.str]), (false, [.int .i64])]) fun (((t53 : ByteArray), _), ((x54 : Int), _), _) =>
        J51 ((p46, ()), (p47, ()), (t49, ()), (x50, ()), (t53, ()), (x54, ()), ())
      ) (fun ((p55, _), (p56, _), ((t57 : ByteArray), _), ((x58 : Int), _), ((t59 : ByteArray), _), ((x60 : Int), _), _) =>
        π.ite (t57.toList == t59.toList) (
          π.ite (x58 == x60) (
            π.unSome (p56) fun p61 =>
            π.ld [.bool] (p61.add (1 : Nat)) fun ((b62 : Bool), _) =>
            π.call (20 : Nat) #[(Go.Value.pointer (p55))] (false, [(false, [.bool])]) fun (((b63 : Bool), _), _) =>
            π.still [.bool] (p61.add (1 : Nat)) (b62, ()) <|
            π.both (
              π.both (
                π.ret (Go.Value.tuple #[(Go.Value.pointer (p55)), (Go.Value.pointer (p56)), (Go.Value.bool (b63 == b62))])
              ) (
                π.both (
                  π.ret (Go.Value.tuple #[(Go.Value.pointer (p55)), (Go.Value.pointer (p56)), (Go.Value.bool (b63 == b62))])
                ) (
                  π.ret (Go.Value.tuple #[(Go.Value.pointer (p55)), (Go.Value.pointer (p56)), (Go.Value.bool (b63 == b62))])
                )
              )
            ) (
              π.both (
                π.both (
                  π.ret (Go.Value.tuple #[(Go.Value.pointer (p55)), (Go.Value.pointer (p56)), (Go.Value.bool (b63 == b62))])
                ) (
                  π.ret (Go.Value.tuple #[(Go.Value.pointer (p55)), (Go.Value.pointer (p56)), (Go.Value.bool (b63 == b62))])
                )
              ) (
                π.ret (Go.Value.tuple #[(Go.Value.pointer (p55)), (Go.Value.pointer (p56)), (Go.Value.bool (b63 == b62))])
              )
            )
          ) (
            π.both (
              π.both (
                π.ret (Go.Value.tuple #[(Go.Value.pointer (p55)), (Go.Value.pointer (p56)), (Go.Value.bool (false))])
              ) (
                π.both (
                  π.ret (Go.Value.tuple #[(Go.Value.pointer (p55)), (Go.Value.pointer (p56)), (Go.Value.bool (false))])
                ) (
                  π.ret (Go.Value.tuple #[(Go.Value.pointer (p55)), (Go.Value.pointer (p56)), (Go.Value.bool (false))])
                )
              )
            ) (
              π.both (
                π.both (
                  π.ret (Go.Value.tuple #[(Go.Value.pointer (p55)), (Go.Value.pointer (p56)), (Go.Value.bool (false))])
                ) (
                  π.ret (Go.Value.tuple #[(Go.Value.pointer (p55)), (Go.Value.pointer (p56)), (Go.Value.bool (false))])
                )
              ) (
                π.ret (Go.Value.tuple #[(Go.Value.pointer (p55)), (Go.Value.pointer (p56)), (Go.Value.bool (false))])
              )
            )
          )
        ) (
          π.both (
            π.both (
              π.ret (Go.Value.tuple #[(Go.Value.pointer (p55)), (Go.Value.pointer (p56)), (Go.Value.bool (false))])
            ) (
              π.both (
                π.ret (Go.Value.tuple #[(Go.Value.pointer (p55)), (Go.Value.pointer (p56)), (Go.Value.bool (false))])
              ) (
                π.ret (Go.Value.tuple #[(Go.Value.pointer (p55)), (Go.Value.pointer (p56)), (Go.Value.bool (false))])
              )
            )
          ) (
            π.both (
              π.both (
                π.ret (Go.Value.tuple #[(Go.Value.pointer (p55)), (Go.Value.pointer (p56)), (Go.Value.bool (false))])
              ) (
                π.ret (Go.Value.tuple #[(Go.Value.pointer (p55)), (Go.Value.pointer (p56)), (Go.Value.bool (false))])
              )
            ) (
              π.ret (Go.Value.tuple #[(Go.Value.pointer (p55)), (Go.Value.pointer (p56)), (Go.Value.bool (false))])
            )
          )
        )
      )
    )
  )

def ann_done : Ann := { quiet := [], join := [(14, [(0, 23), (1, 36), (5, 1000000), (9, 23)]), (16, [(0, 23), (1, 36), (5, 1000000)]), (17, [(0, 23), (1, 36), (5, 1000000), (10, 9), (11, 26)]), (18, [(0, 23), (1, 36), (10, 9), (11, 26), (12, 9), (13, 3)])], loop := [] }
set_option maxRecDepth 100000 in
theorem eq_done {W : Type} (π : Prims W) (b r : Nat) (kd : Int) (nm dt : ByteArray) (n : Int) (k : Option Addr) (kn kc : Nat) : bodyW π Try.prog ann_done (mkFr (maskA [0, 1] [.v (.pointer (some ⟨b, 0, none⟩)), .v (.pointer (some ⟨r, 0, none⟩)), .v (.agg #[.int .i64 kd, .string nm, .string dt, .int .i64 n, .slice k kn kc])] 0) 128) drawer Try.f16 (bodyOf Try.f16) (mkFr (List.map some [.v (.pointer (some ⟨b, 0, none⟩)), .v (.pointer (some ⟨r, 0, none⟩)), .v (.agg #[.int .i64 kd, .string nm, .string dt, .int .i64 n, .slice k kn kc])]) 128) = vc_done π b r kd nm dt n k kn kc := by kernel_rfl
theorem ok_done (b r : Nat) (kd : Int) (nm dt : ByteArray) (n : Int) (k : Option Addr) (kn kc : Nat) (R : Value → PH → Prop) (s : PH) (h : vc_done (RP Try.prog R) b r kd nm dt n k kn kc s) : DCalls Try.prog 16 (List.map AV.val [.v (.pointer (some ⟨b, 0, none⟩)), .v (.pointer (some ⟨r, 0, none⟩)), .v (.agg #[.int .i64 kd, .string nm, .string dt, .int .i64 n, .slice k kn kc])]).toArray s R :=
  calls_vc (c := bodyOf Try.f16) (ann := ann_done) (by kernel_rfl) Try.func16 rfl [.v (.pointer (some ⟨b, 0, none⟩)), .v (.pointer (some ⟨r, 0, none⟩)), .v (.agg #[.int .i64 kd, .string nm, .string dt, .int .i64 n, .slice k kn kc])] [0, 1] (by rw [Try.ntmps16]; exact Nat.le_of_ble_eq_true rfl) (by rw [show Try.f16.ntmps = 128 from Try.ntmps16, eq_done]; exact h)

/-- lintel/lintellaw05.same -/
def vc_same {W : Type} (π : Prims W) (b r : Nat) : W :=
  π.call (19 : Nat) #[(Go.Value.pointer (some (Addr.mk b (0 : Nat) none)))] (false, [(false, [.slice])]) fun ((((a0 : Option Addr), (n1 : Nat), (c2 : Nat)), _), _) =>
  π.unSome (some (Addr.mk r (0 : Nat) none)) fun p3 =>
  π.ld [.slice] (p3.add (0 : Nat)) fun (((a4 : Option Addr), (n5 : Nat), (c6 : Nat)), _) =>
  π.ite ((↑n1 : Int) != (↑n5 : Int)) (
    π.ret (Go.Value.bool (false))
  ) (
    π.loop [(false, [.slice]), (false, [.int .i64]), (false, [.int .i64])] (((a0, n1, c2), ()), ((↑n1 : Int), ()), ((0 : Int), ()), ()) fun ((((a8 : Option Addr), (n9 : Nat), (c10 : Nat)), _), ((x11 : Int), _), ((x12 : Int), _), _) again7 =>
      π.ite (decide (x12 < x11)) (
        π.guard ((0 : Int) ≤ x12 ∧ x12 < (↑n9 : Int)) <|
        π.unSome (a8) fun p13 =>
        π.ld [.str] (p13.add (x12.toNat * (1 : Nat))) fun ((t14 : ByteArray), _) =>
        π.call (14 : Nat) #[(Go.Value.pointer (some (Addr.mk b (0 : Nat) none))), (Go.Value.string (t14))] (true, [(false, [.str]), (false, [.int .i64])]) fun (((t15 : ByteArray), _), ((x16 : Int), _), _) =>
        π.guard ((0 : Int) ≤ x12 ∧ x12 < (↑n9 : Int)) <|
        π.unSome (a8) fun p17 =>
        π.ld [.str] (p17.add (x12.toNat * (1 : Nat))) fun ((t18 : ByteArray), _) =>
        π.call (27 : Nat) #[(Go.Value.pointer (some (Addr.mk r (0 : Nat) none))), (Go.Value.string (t18))] (true, [(false, [.str]), (false, [.int .i64])]) fun (((t19 : ByteArray), _), ((x20 : Int), _), _) =>
        π.guard ((0 : Int) ≤ x12 ∧ x12 < (↑n9 : Int)) <|
        π.unSome (a8) fun p21 =>
        π.ld [.str] (p21.add (x12.toNat * (1 : Nat))) fun ((t22 : ByteArray), _) =>
        π.unSome (some (Addr.mk r (0 : Nat) none)) fun p23 =>
        π.ld [.slice] (p23.add (0 : Nat)) fun (((a24 : Option Addr), (n25 : Nat), (c26 : Nat)), _) =>
        π.guard ((0 : Int) ≤ x12 ∧ x12 < (↑n25 : Int)) <|
        π.unSome (a24) fun p27 =>
        π.ld [.str] ((p27.add (x12.toNat * (3 : Nat))).add (0 : Nat)) fun ((t28 : ByteArray), _) =>
        π.ite (!t22.toList == t28.toList) (
          π.ret (Go.Value.bool (false))
        ) (
          π.ite (!t15.toList == t19.toList) (
            π.ret (Go.Value.bool (false))
          ) (
            again7 (((a8, n9, c10), ()), (x11, ()), (IntKind.i64.wrap (x12 + (1 : Int)), ()), ())
          )
        )
      ) (
        π.ret (Go.Value.bool (true))
      )
  )

def ann_same : Ann := { quiet := [], join := [], loop := [(5, [(5, 47), (22, 3), (23, 3)])] }
set_option maxRecDepth 100000 in
theorem eq_same {W : Type} (π : Prims W) (b r : Nat) : bodyW π Try.prog ann_same (mkFr (maskA [] [.v (.pointer (some ⟨b, 0, none⟩)), .v (.pointer (some ⟨r, 0, none⟩))] 0) 63) drawer Try.f17 (bodyOf Try.f17) (mkFr (List.map some [.v (.pointer (some ⟨b, 0, none⟩)), .v (.pointer (some ⟨r, 0, none⟩))]) 63) = vc_same π b r := by kernel_rfl
theorem ok_same (b r : Nat) (R : Value → PH → Prop) (s : PH) (h : vc_same (RP Try.prog R) b r s) : DCalls Try.prog 17 (List.map AV.val [.v (.pointer (some ⟨b, 0, none⟩)), .v (.pointer (some ⟨r, 0, none⟩))]).toArray s R :=
  calls_vc (c := bodyOf Try.f17) (ann := ann_same) (by kernel_rfl) Try.func17 rfl [.v (.pointer (some ⟨b, 0, none⟩)), .v (.pointer (some ⟨r, 0, none⟩))] [] (by rw [Try.ntmps17]; exact Nat.le_of_ble_eq_true rfl) (by rw [show Try.f17.ntmps = 63 from Try.ntmps17, eq_same]; exact h)

/-- lintel/lintellaw05.DrivePlays -/
def vc_DrivePlays {W : Type} (π : Prims W) (a : Option Addr) (n c : Nat) : W :=
  π.call (9 : Nat) #[] (false, [(false, [.bool])]) fun (((b0 : Bool), _), _) =>
  π.ite (!b0) (
    π.call (9 : Nat) #[] (false, [(false, [.bool])]) fun (((b1 : Bool), _), _) =>
    π.ret (Go.Value.bool (b1))
  ) (
    π.ite (decide ((↑n : Int) > (200 : Int))) (
      π.call (9 : Nat) #[] (false, [(false, [.bool])]) fun (((b2 : Bool), _), _) =>
      π.ret (Go.Value.bool (b2))
    ) (
      π.call (15 : Nat) #[(Go.Value.slice (a) (n) (c))] (false, [(false, [.int .i64])]) fun (((x3 : Int), _), _) =>
      π.ite (decide (x3 > (65536 : Int))) (
        π.call (9 : Nat) #[] (false, [(false, [.bool])]) fun (((b4 : Bool), _), _) =>
        π.ret (Go.Value.bool (b4))
      ) (
        π.call (8 : Nat) #[] (false, [(false, [.ptr])]) fun ((p5, _), _) =>
        π.nw (Go.Obj.cells #[(Go.Value.slice (none) ((0 : Nat)) ((0 : Nat))), (Go.Value.bool (false)), (Go.Value.int (IntKind.i64) ((0 : Int)))] (39 : Nat) ((0 : Nat), (0 : Nat))) fun r6 =>
        π.loop [(false, [.ptr]), (false, [.ptr]), (false, [.slice]), (false, [.int .i64]), (false, [.int .i64])] ((p5, ()), (some (Addr.mk r6 (0 : Nat) none), ()), ((a, n, c), ()), ((↑n : Int), ()), ((0 : Int), ()), ()) fun ((p8, _), (p9, _), (((a10 : Option Addr), (n11 : Nat), (c12 : Nat)), _), ((x13 : Int), _), ((x14 : Int), _), _) again7 =>
          π.ite (decide (x14 < x13)) (
            π.guard ((0 : Int) ≤ x14 ∧ x14 < (↑n11 : Int)) <|
            π.unSome (a10) fun p15 =>
            π.ld [.int .i64, .str, .str, .int .i64, .slice] (p15.add (x14.toNat * (5 : Nat))) fun ((x16 : Int), (t17 : ByteArray), (t18 : ByteArray), (x19 : Int), ((a20 : Option Addr), (n21 : Nat), (c22 : Nat)), _) =>
            π.nw (Go.Obj.cells #[(Go.Value.int (IntKind.i64) ((0 : Int))), (Go.Value.string (ByteArray.mk #[])), (Go.Value.string (ByteArray.mk #[])), (Go.Value.int (IntKind.i64) ((0 : Int))), (Go.Value.slice (none) ((0 : Nat)) ((0 : Nat)))] (41 : Nat) ((0 : Nat), (0 : Nat))) fun r23 =>
            π.st (Addr.mk r23 (0 : Nat) none) [(Go.Value.int (IntKind.i64) (x16)), (Go.Value.string (t17)), (Go.Value.string (t18)), (Go.Value.int (IntKind.i64) (x19)), (Go.Value.slice (a20) (n21) (c22))] <|
            π.ld [.int .i64, .str, .str, .int .i64, .slice] (Addr.mk r23 (0 : Nat) none) fun ((x24 : Int), (t25 : ByteArray), (t26 : ByteArray), (x27 : Int), ((a28 : Option Addr), (n29 : Nat), (c30 : Nat)), _) =>
            π.call (16 : Nat) #[(Go.Value.pointer (p8)), (Go.Value.pointer (p9)), (Go.Value.agg #[(Go.Value.int (IntKind.i64) (x24)), (Go.Value.string (t25)), (Go.Value.string (t26)), (Go.Value.int (IntKind.i64) (x27)), (Go.Value.slice (a28) (n29) (c30))])] (true, [(false, [.ptr]), (false, [.ptr]), (false, [.bool])]) fun ((p31, _), (p32, _), ((b33 : Bool), _), _) =>
            π.ite (!b33) (
              π.ret (Go.Value.bool (false))
            ) (
              π.call (17 : Nat) #[(Go.Value.pointer (p31)), (Go.Value.pointer (p32))] (false, [(false, [.bool])]) fun (((b34 : Bool), _), _) =>
              π.ite (!b34) (
                π.ret (Go.Value.bool (false))
              ) (
                again7 ((p31, ()), (p32, ()), ((a10, n11, c12), ()), (x13, ()), (IntKind.i64.wrap (x14 + (1 : Int)), ()), ())
              )
            )
          ) (
            π.ret (Go.Value.bool (true))
          )
      )
    )
  )

def ann_DrivePlays : Ann := { quiet := [], join := [], loop := [(5, [(3, 23), (4, 36), (24, 34), (25, 3), (26, 3)])] }
set_option maxRecDepth 100000 in
theorem eq_DrivePlays {W : Type} (π : Prims W) (a : Option Addr) (n c : Nat) : bodyW π Try.prog ann_DrivePlays (mkFr (maskA [] [.v (.slice a n c)] 0) 47) drawer Try.f4 (bodyOf Try.f4) (mkFr (List.map some [.v (.slice a n c)]) 47) = vc_DrivePlays π a n c := by kernel_rfl
theorem ok_DrivePlays (a : Option Addr) (n c : Nat) (R : Value → PH → Prop) (s : PH) (h : vc_DrivePlays (RP Try.prog R) a n c s) : DCalls Try.prog 4 (List.map AV.val [.v (.slice a n c)]).toArray s R :=
  calls_vc (c := bodyOf Try.f4) (ann := ann_DrivePlays) (by kernel_rfl) Try.func4 rfl [.v (.slice a n c)] [] (by rw [Try.ntmps4]; exact Nat.le_of_ble_eq_true rfl) (by rw [show Try.f4.ntmps = 47 from Try.ntmps4, eq_DrivePlays]; exact h)

/-- lintel/lintellaw05.DriveAgain -/
def vc_DriveAgain {W : Type} (π : Prims W) (a : Option Addr) (n c : Nat) (ka : Option Addr) (kn kc : Nat) (ma : Option Addr) (mn mc : Nat) : W :=
  π.call (9 : Nat) #[] (false, [(false, [.bool])]) fun (((b0 : Bool), _), _) =>
  π.ite (!b0) (
    π.call (9 : Nat) #[] (false, [(false, [.bool])]) fun (((b1 : Bool), _), _) =>
    π.ret (Go.Value.bool (b1))
  ) (
    π.ite (decide ((↑n : Int) > (100 : Int))) (
      π.call (9 : Nat) #[] (false, [(false, [.bool])]) fun (((b2 : Bool), _), _) =>
      π.ret (Go.Value.bool (b2))
    ) (
      π.call (15 : Nat) #[(Go.Value.slice (a) (n) (c))] (false, [(false, [.int .i64])]) fun (((x3 : Int), _), _) =>
      π.ite (decide (x3 > (16384 : Int))) (
        π.call (9 : Nat) #[] (false, [(false, [.bool])]) fun (((b4 : Bool), _), _) =>
        π.ret (Go.Value.bool (b4))
      ) (
        π.call (8 : Nat) #[] (false, [(false, [.ptr])]) fun ((p5, _), _) =>
        π.nw (Go.Obj.cells #[(Go.Value.slice (none) ((0 : Nat)) ((0 : Nat))), (Go.Value.bool (false)), (Go.Value.int (IntKind.i64) ((0 : Int)))] (39 : Nat) ((0 : Nat), (0 : Nat))) fun r6 =>
        π.loop [(false, [.ptr]), (false, [.ptr]), (false, [.slice]), (false, [.int .i64]), (false, [.int .i64])] ((p5, ()), (some (Addr.mk r6 (0 : Nat) none), ()), ((a, n, c), ()), ((↑n : Int), ()), ((0 : Int), ()), ()) fun ((p8, _), (p9, _), (((a10 : Option Addr), (n11 : Nat), (c12 : Nat)), _), ((x13 : Int), _), ((x14 : Int), _), _) again7 =>
          π.ite (decide (x14 < x13)) (
            π.guard ((0 : Int) ≤ x14 ∧ x14 < (↑n11 : Int)) <|
            π.unSome (a10) fun p15 =>
            π.ld [.int .i64, .str, .str, .int .i64, .slice] (p15.add (x14.toNat * (5 : Nat))) fun ((x16 : Int), (t17 : ByteArray), (t18 : ByteArray), (x19 : Int), ((a20 : Option Addr), (n21 : Nat), (c22 : Nat)), _) =>
            π.nw (Go.Obj.cells #[(Go.Value.int (IntKind.i64) ((0 : Int))), (Go.Value.string (ByteArray.mk #[])), (Go.Value.string (ByteArray.mk #[])), (Go.Value.int (IntKind.i64) ((0 : Int))), (Go.Value.slice (none) ((0 : Nat)) ((0 : Nat)))] (41 : Nat) ((0 : Nat), (0 : Nat))) fun r23 =>
            π.st (Addr.mk r23 (0 : Nat) none) [(Go.Value.int (IntKind.i64) (x16)), (Go.Value.string (t17)), (Go.Value.string (t18)), (Go.Value.int (IntKind.i64) (x19)), (Go.Value.slice (a20) (n21) (c22))] <|
            π.ld [.int .i64, .str, .str, .int .i64, .slice] (Addr.mk r23 (0 : Nat) none) fun ((x24 : Int), (t25 : ByteArray), (t26 : ByteArray), (x27 : Int), ((a28 : Option Addr), (n29 : Nat), (c30 : Nat)), _) =>
            π.call (16 : Nat) #[(Go.Value.pointer (p8)), (Go.Value.pointer (p9)), (Go.Value.agg #[(Go.Value.int (IntKind.i64) (x24)), (Go.Value.string (t25)), (Go.Value.string (t26)), (Go.Value.int (IntKind.i64) (x27)), (Go.Value.slice (a28) (n29) (c30))])] (true, [(false, [.ptr]), (false, [.ptr]), (false, [.bool])]) fun ((p31, _), (p32, _), ((b33 : Bool), _), _) =>
            π.ite (!b33) (
              π.ret (Go.Value.bool (false))
            ) (
              again7 ((p31, ()), (p32, ()), ((a10, n11, c12), ()), (x13, ()), (IntKind.i64.wrap (x14 + (1 : Int)), ()), ())
            )
          ) (
            π.nw (Go.Obj.cells #[] (3 : Nat) ((0 : Nat), (0 : Nat))) fun r34 =>
            π.app (3 : Nat) (1 : Nat) (8 : Nat) [(Go.Value.int (IntKind.i64) ((0 : Int)))] (some (Addr.mk r34 (0 : Nat) none)) ((0 : Nat)) ((0 : Nat)) (Src.sl ka kn) fun a35 n36 c37 =>
            π.call (13 : Nat) #[(Go.Value.pointer (p8)), (Go.Value.slice (a35) (n36) (c37))] (false, [(false, [.ptr])]) fun ((p38, _), _) =>
            π.call (19 : Nat) #[(Go.Value.pointer (p38))] (false, [(false, [.slice])]) fun ((((a39 : Option Addr), (n40 : Nat), (c41 : Nat)), _), _) =>
            π.loop [(false, [.ptr]), (false, [.slice]), (false, [.slice]), (false, [.int .i64]), (false, [.int .i64])] ((p38, ()), ((none, (0 : Nat), (0 : Nat)), ()), ((a39, n40, c41), ()), ((↑n40 : Int), ()), ((0 : Int), ()), ()) fun ((p43, _), (((a44 : Option Addr), (n45 : Nat), (c46 : Nat)), _), (((a47 : Option Addr), (n48 : Nat), (c49 : Nat)), _), ((x50 : Int), _), ((x51 : Int), _), _) again42 =>
              π.ite (decide (x51 < x50)) (
                π.guard ((0 : Int) ≤ x51 ∧ x51 < (↑n48 : Int)) <|
                π.unSome (a47) fun p52 =>
                π.ld [.str] (p52.add (x51.toNat * (1 : Nat))) fun ((t53 : ByteArray), _) =>
                π.call (14 : Nat) #[(Go.Value.pointer (p43)), (Go.Value.string (t53))] (true, [(false, [.str]), (false, [.int .i64])]) fun (((t54 : ByteArray), _), ((x55 : Int), _), _) =>
                π.nw (Go.Obj.cells #[(Go.Value.string (t53)), (Go.Value.string (t54))] (9 : Nat) ((0 : Nat), (0 : Nat))) fun r56 =>
                π.app (9 : Nat) (1 : Nat) (16 : Nat) [(Go.Value.string (ByteArray.mk #[]))] (a44) (n45) (c46) (Src.sl (some (Addr.mk r56 (0 : Nat) none)) (2 : Nat)) fun a57 n58 c59 =>
                again42 ((p43, ()), ((a57, n58, c59), ()), ((a47, n48, c49), ()), (x50, ()), (IntKind.i64.wrap (x51 + (1 : Int)), ()), ())
              ) (
                π.nw (Go.Obj.cells #[] (3 : Nat) ((0 : Nat), (0 : Nat))) fun r60 =>
                π.app (3 : Nat) (1 : Nat) (8 : Nat) [(Go.Value.int (IntKind.i64) ((0 : Int)))] (some (Addr.mk r60 (0 : Nat) none)) ((0 : Nat)) ((0 : Nat)) (Src.sl ma mn) fun a61 n62 c63 =>
                π.call (13 : Nat) #[(Go.Value.pointer (p43)), (Go.Value.slice (a61) (n62) (c63))] (false, [(false, [.ptr])]) fun ((p64, _), _) =>
                π.call (19 : Nat) #[(Go.Value.pointer (p64))] (false, [(false, [.slice])]) fun ((((a65 : Option Addr), (n66 : Nat), (c67 : Nat)), _), _) =>
                π.loop [(false, [.slice]), (false, [.ptr]), (false, [.slice]), (false, [.int .i64]), (false, [.int .i64])] (((a44, n45, c46), ()), (p64, ()), ((a65, n66, c67), ()), ((↑n66 : Int), ()), ((0 : Int), ()), ()) fun ((((a69 : Option Addr), (n70 : Nat), (c71 : Nat)), _), (p72, _), (((a73 : Option Addr), (n74 : Nat), (c75 : Nat)), _), ((x76 : Int), _), ((x77 : Int), _), _) again68 =>
                  π.ite (decide (x77 < x76)) (
                    π.guard ((0 : Int) ≤ x77 ∧ x77 < (↑n74 : Int)) <|
                    π.unSome (a73) fun p78 =>
                    π.ld [.str] (p78.add (x77.toNat * (1 : Nat))) fun ((t79 : ByteArray), _) =>
                    π.call (14 : Nat) #[(Go.Value.pointer (p72)), (Go.Value.string (t79))] (true, [(false, [.str]), (false, [.int .i64])]) fun (((t80 : ByteArray), _), ((x81 : Int), _), _) =>
                    π.ite (x81 != (0 : Int)) (
                      π.ret (Go.Value.bool (false))
                    ) (
                      π.ite (decide (IntKind.i64.wrap (IntKind.i64.wrap ((2 : Int) * x77) + (1 : Int)) ≥ (↑n70 : Int))) (
                        π.ret (Go.Value.bool (false))
                      ) (
                        π.guard ((0 : Int) ≤ IntKind.i64.wrap ((2 : Int) * x77) ∧ IntKind.i64.wrap ((2 : Int) * x77) < (↑n70 : Int)) <|
                        π.unSome (a69) fun p82 =>
                        π.ld [.str] (p82.add ((IntKind.i64.wrap ((2 : Int) * x77)).toNat * (1 : Nat))) fun ((t83 : ByteArray), _) =>
                        π.ite (!t83.toList == t79.toList) (
                          π.ret (Go.Value.bool (false))
                        ) (
                          π.guard ((0 : Int) ≤ IntKind.i64.wrap (IntKind.i64.wrap ((2 : Int) * x77) + (1 : Int)) ∧ IntKind.i64.wrap (IntKind.i64.wrap ((2 : Int) * x77) + (1 : Int)) < (↑n70 : Int)) <|
                          π.unSome (a69) fun p84 =>
                          π.ld [.str] (p84.add ((IntKind.i64.wrap (IntKind.i64.wrap ((2 : Int) * x77) + (1 : Int))).toNat * (1 : Nat))) fun ((t85 : ByteArray), _) =>
                          π.ite (!t85.toList == t80.toList) (
                            π.ret (Go.Value.bool (false))
                          ) (
                            again68 (((a69, n70, c71), ()), (p72, ()), ((a73, n74, c75), ()), (x76, ()), (IntKind.i64.wrap (x77 + (1 : Int)), ()), ())
                          )
                        )
                      )
                    )
                  ) (
                    π.call (19 : Nat) #[(Go.Value.pointer (p72))] (false, [(false, [.slice])]) fun ((((a86 : Option Addr), (n87 : Nat), (c88 : Nat)), _), _) =>
                    π.ret (Go.Value.bool (IntKind.i64.wrap ((2 : Int) * (↑n87 : Int)) == (↑n70 : Int)))
                  )
              )
          )
      )
    )
  )

def ann_DriveAgain : Ann := { quiet := [], join := [], loop := [(5, [(7, 23), (8, 36), (39, 34), (40, 3), (41, 3)]), (14, [(12, 23), (13, 47), (62, 47), (63, 3), (64, 3)]), (21, [(13, 47), (18, 23), (86, 47), (87, 3), (88, 3)])] }
set_option maxRecDepth 100000 in
theorem eq_DriveAgain {W : Type} (π : Prims W) (a : Option Addr) (n c : Nat) (ka : Option Addr) (kn kc : Nat) (ma : Option Addr) (mn mc : Nat) : bodyW π Try.prog ann_DriveAgain (mkFr (maskA [] [.v (.slice a n c), .v (.slice ka kn kc), .v (.slice ma mn mc)] 0) 136) drawer Try.f6 (bodyOf Try.f6) (mkFr (List.map some [.v (.slice a n c), .v (.slice ka kn kc), .v (.slice ma mn mc)]) 136) = vc_DriveAgain π a n c ka kn kc ma mn mc := by kernel_rfl
theorem ok_DriveAgain (a : Option Addr) (n c : Nat) (ka : Option Addr) (kn kc : Nat) (ma : Option Addr) (mn mc : Nat) (R : Value → PH → Prop) (s : PH) (h : vc_DriveAgain (RP Try.prog R) a n c ka kn kc ma mn mc s) : DCalls Try.prog 6 (List.map AV.val [.v (.slice a n c), .v (.slice ka kn kc), .v (.slice ma mn mc)]).toArray s R :=
  calls_vc (c := bodyOf Try.f6) (ann := ann_DriveAgain) (by kernel_rfl) Try.func6 rfl [.v (.slice a n c), .v (.slice ka kn kc), .v (.slice ma mn mc)] [] (by rw [Try.ntmps6]; exact Nat.le_of_ble_eq_true rfl) (by rw [show Try.f6.ntmps = 136 from Try.ntmps6, eq_DriveAgain]; exact h)

end Go.Proofs.Ytdbpockkebabiaa
