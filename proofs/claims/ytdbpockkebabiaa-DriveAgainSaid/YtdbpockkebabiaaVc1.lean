/-
  The functions of the drive, and those of its laws: printed by a program of this session's own, each proved to be the function's by the kernel.
  Conditions: none; it proves no statement by itself.
-/
import Derived.Test.YtdbpockkebabiaaFwN
import Derived.Test.YtdbpockkebabiaaProg
set_option linter.unusedVariables false
set_option maxHeartbeats 1000000
namespace Go.Proofs.Ytdbpockkebabiaa
open Fw Fw.W Go

/-- lintel/drive.New -/
def vc_New {W : Type} (π : Prims W) : W :=
  π.nw (Obj.map #[] (0 : Nat)) fun r0 =>
  π.nw (Go.Obj.cells #[(Go.Value.map (some r0)), (Go.Value.bool (false)), (Go.Value.int (IntKind.i64) ((0 : Int)))] (53 : Nat) ((0 : Nat), (0 : Nat))) fun r1 =>
  π.ret (Go.Value.pointer (some (Addr.mk r1 (0 : Nat) none)))

def ann_New : Ann := { quiet := [], join := [], loop := [] }
set_option maxRecDepth 100000 in
theorem eq_New {W : Type} (π : Prims W) : bodyW π Try.prog ann_New (mkFr (maskA [] [] 0) 4) drawer Try.f8 (bodyOf Try.f8) (mkFr (List.map some []) 4) = vc_New π := by kernel_rfl
theorem ok_New (R : Value → PH → Prop) (s : PH) (h : vc_New (RP Try.prog R) s) : DCalls Try.prog 8 (List.map AV.val []).toArray s R :=
  calls_vc (c := bodyOf Try.f8) (ann := ann_New) (by kernel_rfl) Try.func8 rfl [] [] (by rw [Try.ntmps8]; exact Nat.le_of_ble_eq_true rfl) (by rw [show Try.f8.ntmps = 4 from Try.ntmps8, eq_New]; exact h)

/-- (*lintel/drive.Drive).begin -/
def vc_begin {W : Type} (π : Prims W) (b : Nat) : W :=
  π.ite ((some (Addr.mk b (0 : Nat) none)).isNone) (
    π.ret (Go.Value.tuple #[(Go.Value.bool (false)), (Go.Value.int (IntKind.i64) ((2 : Int)))])
  ) (
    π.unSome (some (Addr.mk b (0 : Nat) none)) fun p0 =>
    π.ld [.bool] (p0.add (1 : Nat)) fun ((b1 : Bool), _) =>
    π.ite (b1) (
      π.ret (Go.Value.tuple #[(Go.Value.bool (false)), (Go.Value.int (IntKind.i64) ((50 : Int)))])
    ) (
      π.unSome (some (Addr.mk b (0 : Nat) none)) fun p2 =>
      π.ld [.int .i64] (p2.add (2 : Nat)) fun ((x3 : Int), _) =>
      π.ite (decide (x3 > (0 : Int))) (
        π.unSome (some (Addr.mk b (0 : Nat) none)) fun p4 =>
        π.ld [.int .i64] (p4.add (2 : Nat)) fun ((x5 : Int), _) =>
        π.unSome (some (Addr.mk b (0 : Nat) none)) fun p6 =>
        π.st (p6.add (2 : Nat)) [(Go.Value.int (IntKind.i64) (IntKind.i64.wrap (x5 - (1 : Int))))] <|
        π.unSome (some (Addr.mk b (0 : Nat) none)) fun p7 =>
        π.ld [.int .i64] (p7.add (2 : Nat)) fun ((x8 : Int), _) =>
        π.unSome (some (Addr.mk b (0 : Nat) none)) fun p9 =>
        π.st (p9.add (1 : Nat)) [(Go.Value.bool (x8 == (0 : Int)))] <|
        π.unSome (some (Addr.mk b (0 : Nat) none)) fun p10 =>
        π.ld [.bool] (p10.add (1 : Nat)) fun ((b11 : Bool), _) =>
        π.ite (b11) (
          π.ret (Go.Value.tuple #[(Go.Value.bool (true)), (Go.Value.int (IntKind.i64) ((50 : Int)))])
        ) (
          π.ret (Go.Value.tuple #[(Go.Value.bool (false)), (Go.Value.int (IntKind.i64) ((0 : Int)))])
        )
      ) (
        π.unSome (some (Addr.mk b (0 : Nat) none)) fun p12 =>
        π.ld [.bool] (p12.add (1 : Nat)) fun ((b13 : Bool), _) =>
        π.ite (b13) (
          π.ret (Go.Value.tuple #[(Go.Value.bool (true)), (Go.Value.int (IntKind.i64) ((50 : Int)))])
        ) (
          π.ret (Go.Value.tuple #[(Go.Value.bool (false)), (Go.Value.int (IntKind.i64) ((0 : Int)))])
        )
      )
    )
  )

def ann_begin : Ann := { quiet := [], join := [], loop := [] }
set_option maxRecDepth 100000 in
theorem eq_begin {W : Type} (π : Prims W) (b : Nat) : bodyW π Try.prog ann_begin (mkFr (maskA [] [.v (.pointer (some ⟨b, 0, none⟩))] 0) 36) drawer Try.f21 (bodyOf Try.f21) (mkFr (List.map some [.v (.pointer (some ⟨b, 0, none⟩))]) 36) = vc_begin π b := by kernel_rfl
theorem ok_begin (b : Nat) (R : Value → PH → Prop) (s : PH) (h : vc_begin (RP Try.prog R) b s) : DCalls Try.prog 21 (List.map AV.val [.v (.pointer (some ⟨b, 0, none⟩))]).toArray s R :=
  calls_vc (c := bodyOf Try.f21) (ann := ann_begin) (by kernel_rfl) Try.func21 rfl [.v (.pointer (some ⟨b, 0, none⟩))] [] (by rw [Try.ntmps21]; exact Nat.le_of_ble_eq_true rfl) (by rw [show Try.f21.ntmps = 36 from Try.ntmps21, eq_begin]; exact h)

/-- (*lintel/drive.Drive).begin -/
def vc_beginNil {W : Type} (π : Prims W) : W :=
  π.ite (true) (
    π.ret (Go.Value.tuple #[(Go.Value.bool (false)), (Go.Value.int (IntKind.i64) ((2 : Int)))])
  ) (
    π.unSome (none) fun p0 =>
    π.ld [.bool] (p0.add (1 : Nat)) fun ((b1 : Bool), _) =>
    π.ite (b1) (
      π.ret (Go.Value.tuple #[(Go.Value.bool (false)), (Go.Value.int (IntKind.i64) ((50 : Int)))])
    ) (
      π.unSome (none) fun p2 =>
      π.ld [.int .i64] (p2.add (2 : Nat)) fun ((x3 : Int), _) =>
      π.ite (decide (x3 > (0 : Int))) (
        π.unSome (none) fun p4 =>
        π.ld [.int .i64] (p4.add (2 : Nat)) fun ((x5 : Int), _) =>
        π.unSome (none) fun p6 =>
        π.st (p6.add (2 : Nat)) [(Go.Value.int (IntKind.i64) (IntKind.i64.wrap (x5 - (1 : Int))))] <|
        π.unSome (none) fun p7 =>
        π.ld [.int .i64] (p7.add (2 : Nat)) fun ((x8 : Int), _) =>
        π.unSome (none) fun p9 =>
        π.st (p9.add (1 : Nat)) [(Go.Value.bool (x8 == (0 : Int)))] <|
        π.unSome (none) fun p10 =>
        π.ld [.bool] (p10.add (1 : Nat)) fun ((b11 : Bool), _) =>
        π.ite (b11) (
          π.ret (Go.Value.tuple #[(Go.Value.bool (true)), (Go.Value.int (IntKind.i64) ((50 : Int)))])
        ) (
          π.ret (Go.Value.tuple #[(Go.Value.bool (false)), (Go.Value.int (IntKind.i64) ((0 : Int)))])
        )
      ) (
        π.unSome (none) fun p12 =>
        π.ld [.bool] (p12.add (1 : Nat)) fun ((b13 : Bool), _) =>
        π.ite (b13) (
          π.ret (Go.Value.tuple #[(Go.Value.bool (true)), (Go.Value.int (IntKind.i64) ((50 : Int)))])
        ) (
          π.ret (Go.Value.tuple #[(Go.Value.bool (false)), (Go.Value.int (IntKind.i64) ((0 : Int)))])
        )
      )
    )
  )

def ann_beginNil : Ann := { quiet := [], join := [], loop := [] }
set_option maxRecDepth 100000 in
theorem eq_beginNil {W : Type} (π : Prims W) : bodyW π Try.prog ann_beginNil (mkFr (maskA [] [.v (.pointer none)] 0) 36) drawer Try.f21 (bodyOf Try.f21) (mkFr (List.map some [.v (.pointer none)]) 36) = vc_beginNil π := by kernel_rfl
theorem ok_beginNil (R : Value → PH → Prop) (s : PH) (h : vc_beginNil (RP Try.prog R) s) : DCalls Try.prog 21 (List.map AV.val [.v (.pointer none)]).toArray s R :=
  calls_vc (c := bodyOf Try.f21) (ann := ann_beginNil) (by kernel_rfl) Try.func21 rfl [.v (.pointer none)] [] (by rw [Try.ntmps21]; exact Nat.le_of_ble_eq_true rfl) (by rw [show Try.f21.ntmps = 36 from Try.ntmps21, eq_beginNil]; exact h)

/-- (*lintel/drive.Drive).Append -/
def vc_Append {W : Type} (π : Prims W) (b : Nat) (nm dt : ByteArray) : W :=
  π.call (21 : Nat) #[(Go.Value.pointer (some (Addr.mk b (0 : Nat) none)))] (true, [(false, [.bool]), (false, [.int .i64])]) fun (((b0 : Bool), _), ((x1 : Int), _), _) =>
  π.join [(false, [.int .i64])] (fun J2 =>
    π.join [(false, [.int .i64]), (false, [.bool])] (fun J3 =>
      π.ite (x1 == (0 : Int)) (
        J3 ((x1, ()), (true, ()), ())
      ) (
        J3 ((x1, ()), (b0, ()), ())
      )
    ) (fun (((x4 : Int), _), ((b5 : Bool), _), _) =>
      π.ite (b5) (
        π.unSome (some (Addr.mk b (0 : Nat) none)) fun p6 =>
        π.ld [.map] (p6.add (0 : Nat)) fun ((m7 : Option Nat), _) =>
        π.look (TypeDesc.string) (m7) (Go.Value.string (nm)) (Go.Value.agg #[(Go.Value.string (ByteArray.mk #[])), (Go.Value.int (IntKind.i64) ((0 : Int)))]) (true, [.str, .int .i64]) fun ((t9 : ByteArray), (x10 : Int), _) b8 =>
        π.nw (Go.Obj.cells #[(Go.Value.string (ByteArray.mk #[])), (Go.Value.int (IntKind.i64) ((0 : Int)))] (57 : Nat) ((0 : Nat), (0 : Nat))) fun r11 =>
        π.st (Addr.mk r11 (0 : Nat) none) [(Go.Value.string (t9)), (Go.Value.int (IntKind.i64) (x10))] <|
        π.ld [.str] ((Addr.mk r11 (0 : Nat) none).add (0 : Nat)) fun ((t12 : ByteArray), _) =>
        π.guard ((↑(t12.size + dt.size) : Int) ≤ (9223372036854775807 : Int)) <|
        π.st ((Addr.mk r11 (0 : Nat) none).add (0 : Nat)) [(Go.Value.string (t12 ++ dt))] <|
        π.unSome (some (Addr.mk b (0 : Nat) none)) fun p13 =>
        π.ld [.map] (p13.add (0 : Nat)) fun ((m14 : Option Nat), _) =>
        π.ld [.str, .int .i64] (Addr.mk r11 (0 : Nat) none) fun ((t15 : ByteArray), (x16 : Int), _) =>
        π.mset (TypeDesc.string) (m14) (Go.Value.string (nm)) (Go.Value.agg #[(Go.Value.string (t15)), (Go.Value.int (IntKind.i64) (x16))]) <|
        J2 ((x4, ()), ())
      ) (
        J2 ((x4, ()), ())
      )
    )
  ) (fun (((x17 : Int), _), _) =>
    π.ret (Go.Value.int (IntKind.i64) (x17))
  )

def ann_Append : Ann := { quiet := [], join := [(3, [(8, 26), (19, 4)]), (6, [(8, 26)])], loop := [] }
set_option maxRecDepth 100000 in
theorem eq_Append {W : Type} (π : Prims W) (b : Nat) (nm dt : ByteArray) : bodyW π Try.prog ann_Append (mkFr (maskA [] [.v (.pointer (some ⟨b, 0, none⟩)), .v (.string nm), .v (.string dt)] 0) 38) drawer Try.f10 (bodyOf Try.f10) (mkFr (List.map some [.v (.pointer (some ⟨b, 0, none⟩)), .v (.string nm), .v (.string dt)]) 38) = vc_Append π b nm dt := by kernel_rfl
theorem ok_Append (b : Nat) (nm dt : ByteArray) (R : Value → PH → Prop) (s : PH) (h : vc_Append (RP Try.prog R) b nm dt s) : DCalls Try.prog 10 (List.map AV.val [.v (.pointer (some ⟨b, 0, none⟩)), .v (.string nm), .v (.string dt)]).toArray s R :=
  calls_vc (c := bodyOf Try.f10) (ann := ann_Append) (by kernel_rfl) Try.func10 rfl [.v (.pointer (some ⟨b, 0, none⟩)), .v (.string nm), .v (.string dt)] [] (by rw [Try.ntmps10]; exact Nat.le_of_ble_eq_true rfl) (by rw [show Try.f10.ntmps = 38 from Try.ntmps10, eq_Append]; exact h)

/-- (*lintel/drive.Drive).Append -/
def vc_AppendNil {W : Type} (π : Prims W) (nm dt : ByteArray) : W :=
  π.call (21 : Nat) #[(Go.Value.pointer (none))] (true, [(false, [.bool]), (false, [.int .i64])]) fun (((b0 : Bool), _), ((x1 : Int), _), _) =>
  π.join [(false, [.int .i64])] (fun J2 =>
    π.join [(false, [.int .i64]), (false, [.bool])] (fun J3 =>
      π.ite (x1 == (0 : Int)) (
        J3 ((x1, ()), (true, ()), ())
      ) (
        J3 ((x1, ()), (b0, ()), ())
      )
    ) (fun (((x4 : Int), _), ((b5 : Bool), _), _) =>
      π.ite (b5) (
        π.unSome (none) fun p6 =>
        π.ld [.map] (p6.add (0 : Nat)) fun ((m7 : Option Nat), _) =>
        π.look (TypeDesc.string) (m7) (Go.Value.string (nm)) (Go.Value.agg #[(Go.Value.string (ByteArray.mk #[])), (Go.Value.int (IntKind.i64) ((0 : Int)))]) (true, [.str, .int .i64]) fun ((t9 : ByteArray), (x10 : Int), _) b8 =>
        π.nw (Go.Obj.cells #[(Go.Value.string (ByteArray.mk #[])), (Go.Value.int (IntKind.i64) ((0 : Int)))] (57 : Nat) ((0 : Nat), (0 : Nat))) fun r11 =>
        π.st (Addr.mk r11 (0 : Nat) none) [(Go.Value.string (t9)), (Go.Value.int (IntKind.i64) (x10))] <|
        π.ld [.str] ((Addr.mk r11 (0 : Nat) none).add (0 : Nat)) fun ((t12 : ByteArray), _) =>
        π.guard ((↑(t12.size + dt.size) : Int) ≤ (9223372036854775807 : Int)) <|
        π.st ((Addr.mk r11 (0 : Nat) none).add (0 : Nat)) [(Go.Value.string (t12 ++ dt))] <|
        π.unSome (none) fun p13 =>
        π.ld [.map] (p13.add (0 : Nat)) fun ((m14 : Option Nat), _) =>
        π.ld [.str, .int .i64] (Addr.mk r11 (0 : Nat) none) fun ((t15 : ByteArray), (x16 : Int), _) =>
        π.mset (TypeDesc.string) (m14) (Go.Value.string (nm)) (Go.Value.agg #[(Go.Value.string (t15)), (Go.Value.int (IntKind.i64) (x16))]) <|
        J2 ((x4, ()), ())
      ) (
        J2 ((x4, ()), ())
      )
    )
  ) (fun (((x17 : Int), _), _) =>
    π.ret (Go.Value.int (IntKind.i64) (x17))
  )

def ann_AppendNil : Ann := { quiet := [], join := [(3, [(8, 26), (19, 4)]), (6, [(8, 26)])], loop := [] }
set_option maxRecDepth 100000 in
theorem eq_AppendNil {W : Type} (π : Prims W) (nm dt : ByteArray) : bodyW π Try.prog ann_AppendNil (mkFr (maskA [] [.v (.pointer none), .v (.string nm), .v (.string dt)] 0) 38) drawer Try.f10 (bodyOf Try.f10) (mkFr (List.map some [.v (.pointer none), .v (.string nm), .v (.string dt)]) 38) = vc_AppendNil π nm dt := by kernel_rfl
theorem ok_AppendNil (nm dt : ByteArray) (R : Value → PH → Prop) (s : PH) (h : vc_AppendNil (RP Try.prog R) nm dt s) : DCalls Try.prog 10 (List.map AV.val [.v (.pointer none), .v (.string nm), .v (.string dt)]).toArray s R :=
  calls_vc (c := bodyOf Try.f10) (ann := ann_AppendNil) (by kernel_rfl) Try.func10 rfl [.v (.pointer none), .v (.string nm), .v (.string dt)] [] (by rw [Try.ntmps10]; exact Nat.le_of_ble_eq_true rfl) (by rw [show Try.f10.ntmps = 38 from Try.ntmps10, eq_AppendNil]; exact h)

/-- (*lintel/drive.Drive).Sync -/
def vc_Sync {W : Type} (π : Prims W) (b : Nat) (nm : ByteArray) : W :=
  π.call (21 : Nat) #[(Go.Value.pointer (some (Addr.mk b (0 : Nat) none)))] (true, [(false, [.bool]), (false, [.int .i64])]) fun (((b0 : Bool), _), ((x1 : Int), _), _) =>
  π.ite (x1 != (0 : Int)) (
    π.ret (Go.Value.int (IntKind.i64) (x1))
  ) (
    π.unSome (some (Addr.mk b (0 : Nat) none)) fun p2 =>
    π.ld [.map] (p2.add (0 : Nat)) fun ((m3 : Option Nat), _) =>
    π.look (TypeDesc.string) (m3) (Go.Value.string (nm)) (Go.Value.agg #[(Go.Value.string (ByteArray.mk #[])), (Go.Value.int (IntKind.i64) ((0 : Int)))]) (true, [.str, .int .i64]) fun ((t5 : ByteArray), (x6 : Int), _) b4 =>
    π.nw (Go.Obj.cells #[(Go.Value.string (ByteArray.mk #[])), (Go.Value.int (IntKind.i64) ((0 : Int)))] (57 : Nat) ((0 : Nat), (0 : Nat))) fun r7 =>
    π.st (Addr.mk r7 (0 : Nat) none) [(Go.Value.string (t5)), (Go.Value.int (IntKind.i64) (x6))] <|
    π.ite (b4) (
      π.ld [.str] ((Addr.mk r7 (0 : Nat) none).add (0 : Nat)) fun ((t8 : ByteArray), _) =>
      π.st ((Addr.mk r7 (0 : Nat) none).add (1 : Nat)) [(Go.Value.int (IntKind.i64) ((↑t8.size : Int)))] <|
      π.unSome (some (Addr.mk b (0 : Nat) none)) fun p9 =>
      π.ld [.map] (p9.add (0 : Nat)) fun ((m10 : Option Nat), _) =>
      π.ld [.str, .int .i64] (Addr.mk r7 (0 : Nat) none) fun ((t11 : ByteArray), (x12 : Int), _) =>
      π.mset (TypeDesc.string) (m10) (Go.Value.string (nm)) (Go.Value.agg #[(Go.Value.string (t11)), (Go.Value.int (IntKind.i64) (x12))]) <|
      π.ret (Go.Value.int (IntKind.i64) ((0 : Int)))
    ) (
      π.ret (Go.Value.int (IntKind.i64) ((0 : Int)))
    )
  )

def ann_Sync : Ann := { quiet := [], join := [], loop := [] }
set_option maxRecDepth 100000 in
theorem eq_Sync {W : Type} (π : Prims W) (b : Nat) (nm : ByteArray) : bodyW π Try.prog ann_Sync (mkFr (maskA [] [.v (.pointer (some ⟨b, 0, none⟩)), .v (.string nm)] 0) 37) drawer Try.f11 (bodyOf Try.f11) (mkFr (List.map some [.v (.pointer (some ⟨b, 0, none⟩)), .v (.string nm)]) 37) = vc_Sync π b nm := by kernel_rfl
theorem ok_Sync (b : Nat) (nm : ByteArray) (R : Value → PH → Prop) (s : PH) (h : vc_Sync (RP Try.prog R) b nm s) : DCalls Try.prog 11 (List.map AV.val [.v (.pointer (some ⟨b, 0, none⟩)), .v (.string nm)]).toArray s R :=
  calls_vc (c := bodyOf Try.f11) (ann := ann_Sync) (by kernel_rfl) Try.func11 rfl [.v (.pointer (some ⟨b, 0, none⟩)), .v (.string nm)] [] (by rw [Try.ntmps11]; exact Nat.le_of_ble_eq_true rfl) (by rw [show Try.f11.ntmps = 37 from Try.ntmps11, eq_Sync]; exact h)

/-- (*lintel/drive.Drive).Sync -/
def vc_SyncNil {W : Type} (π : Prims W) (nm : ByteArray) : W :=
  π.call (21 : Nat) #[(Go.Value.pointer (none))] (true, [(false, [.bool]), (false, [.int .i64])]) fun (((b0 : Bool), _), ((x1 : Int), _), _) =>
  π.ite (x1 != (0 : Int)) (
    π.ret (Go.Value.int (IntKind.i64) (x1))
  ) (
    π.unSome (none) fun p2 =>
    π.ld [.map] (p2.add (0 : Nat)) fun ((m3 : Option Nat), _) =>
    π.look (TypeDesc.string) (m3) (Go.Value.string (nm)) (Go.Value.agg #[(Go.Value.string (ByteArray.mk #[])), (Go.Value.int (IntKind.i64) ((0 : Int)))]) (true, [.str, .int .i64]) fun ((t5 : ByteArray), (x6 : Int), _) b4 =>
    π.nw (Go.Obj.cells #[(Go.Value.string (ByteArray.mk #[])), (Go.Value.int (IntKind.i64) ((0 : Int)))] (57 : Nat) ((0 : Nat), (0 : Nat))) fun r7 =>
    π.st (Addr.mk r7 (0 : Nat) none) [(Go.Value.string (t5)), (Go.Value.int (IntKind.i64) (x6))] <|
    π.ite (b4) (
      π.ld [.str] ((Addr.mk r7 (0 : Nat) none).add (0 : Nat)) fun ((t8 : ByteArray), _) =>
      π.st ((Addr.mk r7 (0 : Nat) none).add (1 : Nat)) [(Go.Value.int (IntKind.i64) ((↑t8.size : Int)))] <|
      π.unSome (none) fun p9 =>
      π.ld [.map] (p9.add (0 : Nat)) fun ((m10 : Option Nat), _) =>
      π.ld [.str, .int .i64] (Addr.mk r7 (0 : Nat) none) fun ((t11 : ByteArray), (x12 : Int), _) =>
      π.mset (TypeDesc.string) (m10) (Go.Value.string (nm)) (Go.Value.agg #[(Go.Value.string (t11)), (Go.Value.int (IntKind.i64) (x12))]) <|
      π.ret (Go.Value.int (IntKind.i64) ((0 : Int)))
    ) (
      π.ret (Go.Value.int (IntKind.i64) ((0 : Int)))
    )
  )

def ann_SyncNil : Ann := { quiet := [], join := [], loop := [] }
set_option maxRecDepth 100000 in
theorem eq_SyncNil {W : Type} (π : Prims W) (nm : ByteArray) : bodyW π Try.prog ann_SyncNil (mkFr (maskA [] [.v (.pointer none), .v (.string nm)] 0) 37) drawer Try.f11 (bodyOf Try.f11) (mkFr (List.map some [.v (.pointer none), .v (.string nm)]) 37) = vc_SyncNil π nm := by kernel_rfl
theorem ok_SyncNil (nm : ByteArray) (R : Value → PH → Prop) (s : PH) (h : vc_SyncNil (RP Try.prog R) nm s) : DCalls Try.prog 11 (List.map AV.val [.v (.pointer none), .v (.string nm)]).toArray s R :=
  calls_vc (c := bodyOf Try.f11) (ann := ann_SyncNil) (by kernel_rfl) Try.func11 rfl [.v (.pointer none), .v (.string nm)] [] (by rw [Try.ntmps11]; exact Nat.le_of_ble_eq_true rfl) (by rw [show Try.f11.ntmps = 37 from Try.ntmps11, eq_SyncNil]; exact h)

/-- (*lintel/drive.Drive).Swap -/
def vc_Swap {W : Type} (π : Prims W) (b : Nat) (nm dt : ByteArray) : W :=
  π.call (21 : Nat) #[(Go.Value.pointer (some (Addr.mk b (0 : Nat) none)))] (true, [(false, [.bool]), (false, [.int .i64])]) fun (((b0 : Bool), _), ((x1 : Int), _), _) =>
  π.ite (x1 == (0 : Int)) (
    π.unSome (some (Addr.mk b (0 : Nat) none)) fun p2 =>
    π.ld [.map] (p2.add (0 : Nat)) fun ((m3 : Option Nat), _) =>
    π.mset (TypeDesc.string) (m3) (Go.Value.string (nm)) (Go.Value.agg #[(Go.Value.string (dt)), (Go.Value.int (IntKind.i64) ((↑dt.size : Int)))]) <|
    π.ret (Go.Value.int (IntKind.i64) (x1))
  ) (
    π.ret (Go.Value.int (IntKind.i64) (x1))
  )

def ann_Swap : Ann := { quiet := [], join := [], loop := [] }
set_option maxRecDepth 100000 in
theorem eq_Swap {W : Type} (π : Prims W) (b : Nat) (nm dt : ByteArray) : bodyW π Try.prog ann_Swap (mkFr (maskA [] [.v (.pointer (some ⟨b, 0, none⟩)), .v (.string nm), .v (.string dt)] 0) 26) drawer Try.f18 (bodyOf Try.f18) (mkFr (List.map some [.v (.pointer (some ⟨b, 0, none⟩)), .v (.string nm), .v (.string dt)]) 26) = vc_Swap π b nm dt := by kernel_rfl
theorem ok_Swap (b : Nat) (nm dt : ByteArray) (R : Value → PH → Prop) (s : PH) (h : vc_Swap (RP Try.prog R) b nm dt s) : DCalls Try.prog 18 (List.map AV.val [.v (.pointer (some ⟨b, 0, none⟩)), .v (.string nm), .v (.string dt)]).toArray s R :=
  calls_vc (c := bodyOf Try.f18) (ann := ann_Swap) (by kernel_rfl) Try.func18 rfl [.v (.pointer (some ⟨b, 0, none⟩)), .v (.string nm), .v (.string dt)] [] (by rw [Try.ntmps18]; exact Nat.le_of_ble_eq_true rfl) (by rw [show Try.f18.ntmps = 26 from Try.ntmps18, eq_Swap]; exact h)

/-- (*lintel/drive.Drive).Swap -/
def vc_SwapNil {W : Type} (π : Prims W) (nm dt : ByteArray) : W :=
  π.call (21 : Nat) #[(Go.Value.pointer (none))] (true, [(false, [.bool]), (false, [.int .i64])]) fun (((b0 : Bool), _), ((x1 : Int), _), _) =>
  π.ite (x1 == (0 : Int)) (
    π.unSome (none) fun p2 =>
    π.ld [.map] (p2.add (0 : Nat)) fun ((m3 : Option Nat), _) =>
    π.mset (TypeDesc.string) (m3) (Go.Value.string (nm)) (Go.Value.agg #[(Go.Value.string (dt)), (Go.Value.int (IntKind.i64) ((↑dt.size : Int)))]) <|
    π.ret (Go.Value.int (IntKind.i64) (x1))
  ) (
    π.ret (Go.Value.int (IntKind.i64) (x1))
  )

def ann_SwapNil : Ann := { quiet := [], join := [], loop := [] }
set_option maxRecDepth 100000 in
theorem eq_SwapNil {W : Type} (π : Prims W) (nm dt : ByteArray) : bodyW π Try.prog ann_SwapNil (mkFr (maskA [] [.v (.pointer none), .v (.string nm), .v (.string dt)] 0) 26) drawer Try.f18 (bodyOf Try.f18) (mkFr (List.map some [.v (.pointer none), .v (.string nm), .v (.string dt)]) 26) = vc_SwapNil π nm dt := by kernel_rfl
theorem ok_SwapNil (nm dt : ByteArray) (R : Value → PH → Prop) (s : PH) (h : vc_SwapNil (RP Try.prog R) nm dt s) : DCalls Try.prog 18 (List.map AV.val [.v (.pointer none), .v (.string nm), .v (.string dt)]).toArray s R :=
  calls_vc (c := bodyOf Try.f18) (ann := ann_SwapNil) (by kernel_rfl) Try.func18 rfl [.v (.pointer none), .v (.string nm), .v (.string dt)] [] (by rw [Try.ntmps18]; exact Nat.le_of_ble_eq_true rfl) (by rw [show Try.f18.ntmps = 26 from Try.ntmps18, eq_SwapNil]; exact h)

/-- (*lintel/drive.Drive).Read -/
def vc_Read {W : Type} (π : Prims W) (b : Nat) (nm : ByteArray) : W :=
  π.ite ((some (Addr.mk b (0 : Nat) none)).isNone) (
    π.ret (Go.Value.tuple #[(Go.Value.string (ByteArray.mk #[])), (Go.Value.int (IntKind.i64) ((2 : Int)))])
  ) (
    π.unSome (some (Addr.mk b (0 : Nat) none)) fun p0 =>
    π.ld [.bool] (p0.add (1 : Nat)) fun ((b1 : Bool), _) =>
    π.ite (b1) (
      π.ret (Go.Value.tuple #[(Go.Value.string (ByteArray.mk #[])), (Go.Value.int (IntKind.i64) ((50 : Int)))])
    ) (
      π.unSome (some (Addr.mk b (0 : Nat) none)) fun p2 =>
      π.ld [.map] (p2.add (0 : Nat)) fun ((m3 : Option Nat), _) =>
      π.look (TypeDesc.string) (m3) (Go.Value.string (nm)) (Go.Value.agg #[(Go.Value.string (ByteArray.mk #[])), (Go.Value.int (IntKind.i64) ((0 : Int)))]) (true, [.str, .int .i64]) fun ((t5 : ByteArray), (x6 : Int), _) b4 =>
      π.ret (Go.Value.tuple #[(Go.Value.string (t5)), (Go.Value.int (IntKind.i64) ((0 : Int)))])
    )
  )

def ann_Read : Ann := { quiet := [], join := [], loop := [] }
set_option maxRecDepth 100000 in
theorem eq_Read {W : Type} (π : Prims W) (b : Nat) (nm : ByteArray) : bodyW π Try.prog ann_Read (mkFr (maskA [] [.v (.pointer (some ⟨b, 0, none⟩)), .v (.string nm)] 0) 21) drawer Try.f14 (bodyOf Try.f14) (mkFr (List.map some [.v (.pointer (some ⟨b, 0, none⟩)), .v (.string nm)]) 21) = vc_Read π b nm := by kernel_rfl
theorem ok_Read (b : Nat) (nm : ByteArray) (R : Value → PH → Prop) (s : PH) (h : vc_Read (RP Try.prog R) b nm s) : DCalls Try.prog 14 (List.map AV.val [.v (.pointer (some ⟨b, 0, none⟩)), .v (.string nm)]).toArray s R :=
  calls_vc (c := bodyOf Try.f14) (ann := ann_Read) (by kernel_rfl) Try.func14 rfl [.v (.pointer (some ⟨b, 0, none⟩)), .v (.string nm)] [] (by rw [Try.ntmps14]; exact Nat.le_of_ble_eq_true rfl) (by rw [show Try.f14.ntmps = 21 from Try.ntmps14, eq_Read]; exact h)

/-- (*lintel/drive.Drive).Read -/
def vc_ReadNil {W : Type} (π : Prims W) (nm : ByteArray) : W :=
  π.ite (true) (
    π.ret (Go.Value.tuple #[(Go.Value.string (ByteArray.mk #[])), (Go.Value.int (IntKind.i64) ((2 : Int)))])
  ) (
    π.unSome (none) fun p0 =>
    π.ld [.bool] (p0.add (1 : Nat)) fun ((b1 : Bool), _) =>
    π.ite (b1) (
      π.ret (Go.Value.tuple #[(Go.Value.string (ByteArray.mk #[])), (Go.Value.int (IntKind.i64) ((50 : Int)))])
    ) (
      π.unSome (none) fun p2 =>
      π.ld [.map] (p2.add (0 : Nat)) fun ((m3 : Option Nat), _) =>
      π.look (TypeDesc.string) (m3) (Go.Value.string (nm)) (Go.Value.agg #[(Go.Value.string (ByteArray.mk #[])), (Go.Value.int (IntKind.i64) ((0 : Int)))]) (true, [.str, .int .i64]) fun ((t5 : ByteArray), (x6 : Int), _) b4 =>
      π.ret (Go.Value.tuple #[(Go.Value.string (t5)), (Go.Value.int (IntKind.i64) ((0 : Int)))])
    )
  )

def ann_ReadNil : Ann := { quiet := [], join := [], loop := [] }
set_option maxRecDepth 100000 in
theorem eq_ReadNil {W : Type} (π : Prims W) (nm : ByteArray) : bodyW π Try.prog ann_ReadNil (mkFr (maskA [] [.v (.pointer none), .v (.string nm)] 0) 21) drawer Try.f14 (bodyOf Try.f14) (mkFr (List.map some [.v (.pointer none), .v (.string nm)]) 21) = vc_ReadNil π nm := by kernel_rfl
theorem ok_ReadNil (nm : ByteArray) (R : Value → PH → Prop) (s : PH) (h : vc_ReadNil (RP Try.prog R) nm s) : DCalls Try.prog 14 (List.map AV.val [.v (.pointer none), .v (.string nm)]).toArray s R :=
  calls_vc (c := bodyOf Try.f14) (ann := ann_ReadNil) (by kernel_rfl) Try.func14 rfl [.v (.pointer none), .v (.string nm)] [] (by rw [Try.ntmps14]; exact Nat.le_of_ble_eq_true rfl) (by rw [show Try.f14.ntmps = 21 from Try.ntmps14, eq_ReadNil]; exact h)

/-- (*lintel/drive.Drive).Arm -/
def vc_Arm {W : Type} (π : Prims W) (b : Nat) (n : Int) : W :=
  π.ite (!(some (Addr.mk b (0 : Nat) none)).isNone) (
    π.unSome (some (Addr.mk b (0 : Nat) none)) fun p0 =>
    π.ld [.bool] (p0.add (1 : Nat)) fun ((b1 : Bool), _) =>
    π.ite (!b1) (
      π.unSome (some (Addr.mk b (0 : Nat) none)) fun p2 =>
      π.st (p2.add (2 : Nat)) [(Go.Value.int (IntKind.i64) (if n > (0 : Int) then n else (0 : Int)))] <|
      π.ret (Go.Value.tuple #[])
    ) (
      π.ret (Go.Value.tuple #[])
    )
  ) (
    π.ret (Go.Value.tuple #[])
  )

def ann_Arm : Ann := { quiet := [], join := [], loop := [] }
set_option maxRecDepth 100000 in
theorem eq_Arm {W : Type} (π : Prims W) (b : Nat) (n : Int) : bodyW π Try.prog ann_Arm (mkFr (maskA [] [.v (.pointer (some ⟨b, 0, none⟩)), .v (.int .i64 n)] 0) 18) drawer Try.f12 (bodyOf Try.f12) (mkFr (List.map some [.v (.pointer (some ⟨b, 0, none⟩)), .v (.int .i64 n)]) 18) = vc_Arm π b n := by kernel_rfl
theorem ok_Arm (b : Nat) (n : Int) (R : Value → PH → Prop) (s : PH) (h : vc_Arm (RP Try.prog R) b n s) : DCalls Try.prog 12 (List.map AV.val [.v (.pointer (some ⟨b, 0, none⟩)), .v (.int .i64 n)]).toArray s R :=
  calls_vc (c := bodyOf Try.f12) (ann := ann_Arm) (by kernel_rfl) Try.func12 rfl [.v (.pointer (some ⟨b, 0, none⟩)), .v (.int .i64 n)] [] (by rw [Try.ntmps12]; exact Nat.le_of_ble_eq_true rfl) (by rw [show Try.f12.ntmps = 18 from Try.ntmps12, eq_Arm]; exact h)

/-- (*lintel/drive.Drive).Arm -/
def vc_ArmNil {W : Type} (π : Prims W) (n : Int) : W :=
  π.ite (false) (
    π.unSome (none) fun p0 =>
    π.ld [.bool] (p0.add (1 : Nat)) fun ((b1 : Bool), _) =>
    π.ite (!b1) (
      π.unSome (none) fun p2 =>
      π.st (p2.add (2 : Nat)) [(Go.Value.int (IntKind.i64) (if n > (0 : Int) then n else (0 : Int)))] <|
      π.ret (Go.Value.tuple #[])
    ) (
      π.ret (Go.Value.tuple #[])
    )
  ) (
    π.ret (Go.Value.tuple #[])
  )

def ann_ArmNil : Ann := { quiet := [], join := [], loop := [] }
set_option maxRecDepth 100000 in
theorem eq_ArmNil {W : Type} (π : Prims W) (n : Int) : bodyW π Try.prog ann_ArmNil (mkFr (maskA [] [.v (.pointer none), .v (.int .i64 n)] 0) 18) drawer Try.f12 (bodyOf Try.f12) (mkFr (List.map some [.v (.pointer none), .v (.int .i64 n)]) 18) = vc_ArmNil π n := by kernel_rfl
theorem ok_ArmNil (n : Int) (R : Value → PH → Prop) (s : PH) (h : vc_ArmNil (RP Try.prog R) n s) : DCalls Try.prog 12 (List.map AV.val [.v (.pointer none), .v (.int .i64 n)]).toArray s R :=
  calls_vc (c := bodyOf Try.f12) (ann := ann_ArmNil) (by kernel_rfl) Try.func12 rfl [.v (.pointer none), .v (.int .i64 n)] [] (by rw [Try.ntmps12]; exact Nat.le_of_ble_eq_true rfl) (by rw [show Try.f12.ntmps = 18 from Try.ntmps12, eq_ArmNil]; exact h)

/-- (*lintel/drive.Drive).Down -/
def vc_Down {W : Type} (π : Prims W) (b : Nat) : W :=
  π.ite ((some (Addr.mk b (0 : Nat) none)).isNone) (
    π.ret (Go.Value.bool (true))
  ) (
    π.unSome (some (Addr.mk b (0 : Nat) none)) fun p0 =>
    π.ld [.bool] (p0.add (1 : Nat)) fun ((b1 : Bool), _) =>
    π.ret (Go.Value.bool (b1))
  )

def ann_Down : Ann := { quiet := [], join := [], loop := [] }
set_option maxRecDepth 100000 in
theorem eq_Down {W : Type} (π : Prims W) (b : Nat) : bodyW π Try.prog ann_Down (mkFr (maskA [] [.v (.pointer (some ⟨b, 0, none⟩))] 0) 11) drawer Try.f20 (bodyOf Try.f20) (mkFr (List.map some [.v (.pointer (some ⟨b, 0, none⟩))]) 11) = vc_Down π b := by kernel_rfl
theorem ok_Down (b : Nat) (R : Value → PH → Prop) (s : PH) (h : vc_Down (RP Try.prog R) b s) : DCalls Try.prog 20 (List.map AV.val [.v (.pointer (some ⟨b, 0, none⟩))]).toArray s R :=
  calls_vc (c := bodyOf Try.f20) (ann := ann_Down) (by kernel_rfl) Try.func20 rfl [.v (.pointer (some ⟨b, 0, none⟩))] [] (by rw [Try.ntmps20]; exact Nat.le_of_ble_eq_true rfl) (by rw [show Try.f20.ntmps = 11 from Try.ntmps20, eq_Down]; exact h)

/-- (*lintel/drive.Drive).Down -/
def vc_DownNil {W : Type} (π : Prims W) : W :=
  π.ite (true) (
    π.ret (Go.Value.bool (true))
  ) (
    π.unSome (none) fun p0 =>
    π.ld [.bool] (p0.add (1 : Nat)) fun ((b1 : Bool), _) =>
    π.ret (Go.Value.bool (b1))
  )

def ann_DownNil : Ann := { quiet := [], join := [], loop := [] }
set_option maxRecDepth 100000 in
theorem eq_DownNil {W : Type} (π : Prims W) : bodyW π Try.prog ann_DownNil (mkFr (maskA [] [.v (.pointer none)] 0) 11) drawer Try.f20 (bodyOf Try.f20) (mkFr (List.map some [.v (.pointer none)]) 11) = vc_DownNil π := by kernel_rfl
theorem ok_DownNil (R : Value → PH → Prop) (s : PH) (h : vc_DownNil (RP Try.prog R) s) : DCalls Try.prog 20 (List.map AV.val [.v (.pointer none)]).toArray s R :=
  calls_vc (c := bodyOf Try.f20) (ann := ann_DownNil) (by kernel_rfl) Try.func20 rfl [.v (.pointer none)] [] (by rw [Try.ntmps20]; exact Nat.le_of_ble_eq_true rfl) (by rw [show Try.f20.ntmps = 11 from Try.ntmps20, eq_DownNil]; exact h)

/-- (*lintel/drive.Drive).Crash -/
def vc_Crash {W : Type} (π : Prims W) (b : Nat) (k : Option Addr) (n c : Nat) : W :=
  π.ite ((some (Addr.mk b (0 : Nat) none)).isNone) (
    π.ret (Go.Value.pointer (none))
  ) (
    π.call (8 : Nat) #[] (false, [(false, [.ptr])]) fun ((p0, _), _) =>
    π.call (19 : Nat) #[(Go.Value.pointer (some (Addr.mk b (0 : Nat) none)))] (false, [(false, [.slice])]) fun ((((a1 : Option Addr), (n2 : Nat), (c3 : Nat)), _), _) =>
    π.loop [(false, [.ptr]), (false, [.slice]), (false, [.int .i64]), (false, [.int .i64])] ((p0, ()), ((a1, n2, c3), ()), ((↑n2 : Int), ()), ((0 : Int), ()), ()) fun ((p5, _), (((a6 : Option Addr), (n7 : Nat), (c8 : Nat)), _), ((x9 : Int), _), ((x10 : Int), _), _) again4 =>
      π.ite (decide (x10 < x9)) (
        π.guard ((0 : Int) ≤ x10 ∧ x10 < (↑n7 : Int)) <|
        π.unSome (a6) fun p11 =>
        π.ld [.str] (p11.add (x10.toNat * (1 : Nat))) fun ((t12 : ByteArray), _) =>
        π.unSome (some (Addr.mk b (0 : Nat) none)) fun p13 =>
        π.ld [.map] (p13.add (0 : Nat)) fun ((m14 : Option Nat), _) =>
        π.look (TypeDesc.string) (m14) (Go.Value.string (t12)) (Go.Value.agg #[(Go.Value.string (ByteArray.mk #[])), (Go.Value.int (IntKind.i64) ((0 : Int)))]) (true, [.str, .int .i64]) fun ((t16 : ByteArray), (x17 : Int), _) b15 =>
        π.nw (Go.Obj.cells #[(Go.Value.string (ByteArray.mk #[])), (Go.Value.int (IntKind.i64) ((0 : Int)))] (57 : Nat) ((0 : Nat), (0 : Nat))) fun r18 =>
        π.st (Addr.mk r18 (0 : Nat) none) [(Go.Value.string (t16)), (Go.Value.int (IntKind.i64) (x17))] <|
        π.join [(false, [.ptr]), (false, [.str]), (false, [.addr]), (false, [.int .i64]), (false, [.slice]), (false, [.int .i64]), (false, [.int .i64])] (fun J19 =>
          π.ite (decide (x10 < (↑n : Int))) (
            π.guard ((0 : Int) ≤ x10 ∧ x10 < (↑n : Int)) <|
            π.unSome (k) fun p20 =>
            π.ld [.int .i64] (p20.add (x10.toNat * (1 : Nat))) fun ((x21 : Int), _) =>
            π.ld [.str] ((Addr.mk r18 (0 : Nat) none).add (0 : Nat)) fun ((t22 : ByteArray), _) =>
            π.ld [.int .i64] ((Addr.mk r18 (0 : Nat) none).add (1 : Nat)) fun ((x23 : Int), _) =>
            J19 ((p5, ()), (t12, ()), (Addr.mk r18 (0 : Nat) none, ()), (if (if IntKind.i64.wrap ((↑t22.size : Int) - x23) < x21 then IntKind.i64.wrap ((↑t22.size : Int) - x23) else x21) > (0 : Int) then if IntKind.i64.wrap ((↑t22.size : Int) - x23) < x21 then IntKind.i64.wrap ((↑t22.size : Int) - x23) else x21 else (0 : Int), ()), ((a6, n7, c8), ()), (x9, ()), (x10, ()), ())
          ) (
            J19 ((p5, ()), (t12, ()), (Addr.mk r18 (0 : Nat) none, ()), ((0 : Int), ()), ((a6, n7, c8), ()), (x9, ()), (x10, ()), ())
          )
        ) (fun ((p24, _), ((t25 : ByteArray), _), (p26, _), ((x27 : Int), _), (((a28 : Option Addr), (n29 : Nat), (c30 : Nat)), _), ((x31 : Int), _), ((x32 : Int), _), _) =>
          π.unSome (p24) fun p33 =>
          π.ld [.map] (p33.add (0 : Nat)) fun ((m34 : Option Nat), _) =>
          π.ld [.str] (p26.add (0 : Nat)) fun ((t35 : ByteArray), _) =>
          π.ld [.int .i64] (p26.add (1 : Nat)) fun ((x36 : Int), _) =>
          π.guard ((0 : Int) ≤ (0 : Int) ∧ (0 : Int) ≤ IntKind.i64.wrap (x36 + x27) ∧ IntKind.i64.wrap (x36 + x27) ≤ (↑t35.size : Int)) <|
          π.ld [.int .i64] (p26.add (1 : Nat)) fun ((x37 : Int), _) =>
          π.mset (TypeDesc.string) (m34) (Go.Value.string (t25)) (Go.Value.agg #[(Go.Value.string (t35.extract (0 : Nat) (IntKind.i64.wrap (x36 + x27)).toNat)), (Go.Value.int (IntKind.i64) (IntKind.i64.wrap (x37 + x27)))]) <|
          again4 ((p24, ()), ((a28, n29, c30), ()), (x31, ()), (IntKind.i64.wrap (x32 + (1 : Int)), ()), ())
        )
      ) (
        π.unSome (some (Addr.mk b (0 : Nat) none)) fun p38 =>
        π.st (p38.add (1 : Nat)) [(Go.Value.bool (true))] <|
        π.ret (Go.Value.pointer (p5))
      )
  )

def ann_Crash : Ann := { quiet := [], join := [(11, [(5, 23), (7, 9), (8, 1000000), (9, 3), (14, 47), (15, 3), (16, 3)])], loop := [(5, [(5, 23), (14, 47), (15, 3), (16, 3)])] }
set_option maxRecDepth 100000 in
theorem eq_Crash {W : Type} (π : Prims W) (b : Nat) (k : Option Addr) (n c : Nat) : bodyW π Try.prog ann_Crash (mkFr (maskA [] [.v (.pointer (some ⟨b, 0, none⟩)), .v (.slice k n c)] 0) 65) drawer Try.f13 (bodyOf Try.f13) (mkFr (List.map some [.v (.pointer (some ⟨b, 0, none⟩)), .v (.slice k n c)]) 65) = vc_Crash π b k n c := by kernel_rfl
theorem ok_Crash (b : Nat) (k : Option Addr) (n c : Nat) (R : Value → PH → Prop) (s : PH) (h : vc_Crash (RP Try.prog R) b k n c s) : DCalls Try.prog 13 (List.map AV.val [.v (.pointer (some ⟨b, 0, none⟩)), .v (.slice k n c)]).toArray s R :=
  calls_vc (c := bodyOf Try.f13) (ann := ann_Crash) (by kernel_rfl) Try.func13 rfl [.v (.pointer (some ⟨b, 0, none⟩)), .v (.slice k n c)] [] (by rw [Try.ntmps13]; exact Nat.le_of_ble_eq_true rfl) (by rw [show Try.f13.ntmps = 65 from Try.ntmps13, eq_Crash]; exact h)

/-- (*lintel/drive.Drive).Crash -/
def vc_CrashNil {W : Type} (π : Prims W) (k : Option Addr) (n c : Nat) : W :=
  π.ite (true) (
    π.ret (Go.Value.pointer (none))
  ) (
    π.call (8 : Nat) #[] (false, [(false, [.ptr])]) fun ((p0, _), _) =>
    π.call (19 : Nat) #[(Go.Value.pointer (none))] (false, [(false, [.slice])]) fun ((((a1 : Option Addr), (n2 : Nat), (c3 : Nat)), _), _) =>
    π.loop [(false, [.ptr]), (false, [.slice]), (false, [.int .i64]), (false, [.int .i64])] ((p0, ()), ((a1, n2, c3), ()), ((↑n2 : Int), ()), ((0 : Int), ()), ()) fun ((p5, _), (((a6 : Option Addr), (n7 : Nat), (c8 : Nat)), _), ((x9 : Int), _), ((x10 : Int), _), _) again4 =>
      π.ite (decide (x10 < x9)) (
        π.guard ((0 : Int) ≤ x10 ∧ x10 < (↑n7 : Int)) <|
        π.unSome (a6) fun p11 =>
        π.ld [.str] (p11.add (x10.toNat * (1 : Nat))) fun ((t12 : ByteArray), _) =>
        π.unSome (none) fun p13 =>
        π.ld [.map] (p13.add (0 : Nat)) fun ((m14 : Option Nat), _) =>
        π.look (TypeDesc.string) (m14) (Go.Value.string (t12)) (Go.Value.agg #[(Go.Value.string (ByteArray.mk #[])), (Go.Value.int (IntKind.i64) ((0 : Int)))]) (true, [.str, .int .i64]) fun ((t16 : ByteArray), (x17 : Int), _) b15 =>
        π.nw (Go.Obj.cells #[(Go.Value.string (ByteArray.mk #[])), (Go.Value.int (IntKind.i64) ((0 : Int)))] (57 : Nat) ((0 : Nat), (0 : Nat))) fun r18 =>
        π.st (Addr.mk r18 (0 : Nat) none) [(Go.Value.string (t16)), (Go.Value.int (IntKind.i64) (x17))] <|
        π.join [(false, [.ptr]), (false, [.str]), (false, [.addr]), (false, [.int .i64]), (false, [.slice]), (false, [.int .i64]), (false, [.int .i64])] (fun J19 =>
          π.ite (decide (x10 < (↑n : Int))) (
            π.guard ((0 : Int) ≤ x10 ∧ x10 < (↑n : Int)) <|
            π.unSome (k) fun p20 =>
            π.ld [.int .i64] (p20.add (x10.toNat * (1 : Nat))) fun ((x21 : Int), _) =>
            π.ld [.str] ((Addr.mk r18 (0 : Nat) none).add (0 : Nat)) fun ((t22 : ByteArray), _) =>
            π.ld [.int .i64] ((Addr.mk r18 (0 : Nat) none).add (1 : Nat)) fun ((x23 : Int), _) =>
            J19 ((p5, ()), (t12, ()), (Addr.mk r18 (0 : Nat) none, ()), (if (if IntKind.i64.wrap ((↑t22.size : Int) - x23) < x21 then IntKind.i64.wrap ((↑t22.size : Int) - x23) else x21) > (0 : Int) then if IntKind.i64.wrap ((↑t22.size : Int) - x23) < x21 then IntKind.i64.wrap ((↑t22.size : Int) - x23) else x21 else (0 : Int), ()), ((a6, n7, c8), ()), (x9, ()), (x10, ()), ())
          ) (
            J19 ((p5, ()), (t12, ()), (Addr.mk r18 (0 : Nat) none, ()), ((0 : Int), ()), ((a6, n7, c8), ()), (x9, ()), (x10, ()), ())
          )
        ) (fun ((p24, _), ((t25 : ByteArray), _), (p26, _), ((x27 : Int), _), (((a28 : Option Addr), (n29 : Nat), (c30 : Nat)), _), ((x31 : Int), _), ((x32 : Int), _), _) =>
          π.unSome (p24) fun p33 =>
          π.ld [.map] (p33.add (0 : Nat)) fun ((m34 : Option Nat), _) =>
          π.ld [.str] (p26.add (0 : Nat)) fun ((t35 : ByteArray), _) =>
          π.ld [.int .i64] (p26.add (1 : Nat)) fun ((x36 : Int), _) =>
          π.guard ((0 : Int) ≤ (0 : Int) ∧ (0 : Int) ≤ IntKind.i64.wrap (x36 + x27) ∧ IntKind.i64.wrap (x36 + x27) ≤ (↑t35.size : Int)) <|
          π.ld [.int .i64] (p26.add (1 : Nat)) fun ((x37 : Int), _) =>
          π.mset (TypeDesc.string) (m34) (Go.Value.string (t25)) (Go.Value.agg #[(Go.Value.string (t35.extract (0 : Nat) (IntKind.i64.wrap (x36 + x27)).toNat)), (Go.Value.int (IntKind.i64) (IntKind.i64.wrap (x37 + x27)))]) <|
          again4 ((p24, ()), ((a28, n29, c30), ()), (x31, ()), (IntKind.i64.wrap (x32 + (1 : Int)), ()), ())
        )
      ) (
        π.unSome (none) fun p38 =>
        π.st (p38.add (1 : Nat)) [(Go.Value.bool (true))] <|
        π.ret (Go.Value.pointer (p5))
      )
  )

def ann_CrashNil : Ann := { quiet := [], join := [(11, [(5, 23), (7, 9), (8, 1000000), (9, 3), (14, 47), (15, 3), (16, 3)])], loop := [(5, [(5, 23), (14, 47), (15, 3), (16, 3)])] }
set_option maxRecDepth 100000 in
theorem eq_CrashNil {W : Type} (π : Prims W) (k : Option Addr) (n c : Nat) : bodyW π Try.prog ann_CrashNil (mkFr (maskA [] [.v (.pointer none), .v (.slice k n c)] 0) 65) drawer Try.f13 (bodyOf Try.f13) (mkFr (List.map some [.v (.pointer none), .v (.slice k n c)]) 65) = vc_CrashNil π k n c := by kernel_rfl
theorem ok_CrashNil (k : Option Addr) (n c : Nat) (R : Value → PH → Prop) (s : PH) (h : vc_CrashNil (RP Try.prog R) k n c s) : DCalls Try.prog 13 (List.map AV.val [.v (.pointer none), .v (.slice k n c)]).toArray s R :=
  calls_vc (c := bodyOf Try.f13) (ann := ann_CrashNil) (by kernel_rfl) Try.func13 rfl [.v (.pointer none), .v (.slice k n c)] [] (by rw [Try.ntmps13]; exact Nat.le_of_ble_eq_true rfl) (by rw [show Try.f13.ntmps = 65 from Try.ntmps13, eq_CrashNil]; exact h)

/-- (*lintel/drive.Drive).Names -/
def vc_Names {W : Type} (π : Prims W) (b : Nat) : W :=
  π.ite ((some (Addr.mk b (0 : Nat) none)).isNone) (
    π.ret (Go.Value.slice (none) ((0 : Nat)) ((0 : Nat)))
  ) (
    π.unSome (some (Addr.mk b (0 : Nat) none)) fun p0 =>
    π.ld [.map] (p0.add (0 : Nat)) fun ((m1 : Option Nat), _) =>
    π.call (29 : Nat) #[(Go.Value.map (m1))] (false, [(false, [.raw])]) fun (((v2 : Value), _), _) =>
    π.call (28 : Nat) #[v2] (false, [(false, [.slice])]) fun ((((a3 : Option Addr), (n4 : Nat), (c5 : Nat)), _), _) =>
    π.ret (Go.Value.slice (a3) (n4) (c5))
  )

def ann_Names : Ann := { quiet := [], join := [], loop := [] }
set_option maxRecDepth 100000 in
theorem eq_Names {W : Type} (π : Prims W) (b : Nat) : bodyW π Try.prog ann_Names (mkFr (maskA [] [.v (.pointer (some ⟨b, 0, none⟩))] 0) 11) drawer Try.f19 (bodyOf Try.f19) (mkFr (List.map some [.v (.pointer (some ⟨b, 0, none⟩))]) 11) = vc_Names π b := by kernel_rfl
theorem ok_Names (b : Nat) (R : Value → PH → Prop) (s : PH) (h : vc_Names (RP Try.prog R) b s) : DCalls Try.prog 19 (List.map AV.val [.v (.pointer (some ⟨b, 0, none⟩))]).toArray s R :=
  calls_vc (c := bodyOf Try.f19) (ann := ann_Names) (by kernel_rfl) Try.func19 rfl [.v (.pointer (some ⟨b, 0, none⟩))] [] (by rw [Try.ntmps19]; exact Nat.le_of_ble_eq_true rfl) (by rw [show Try.f19.ntmps = 11 from Try.ntmps19, eq_Names]; exact h)

/-- (*lintel/drive.Drive).Names -/
def vc_NamesNil {W : Type} (π : Prims W) : W :=
  π.ite (true) (
    π.ret (Go.Value.slice (none) ((0 : Nat)) ((0 : Nat)))
  ) (
    π.unSome (none) fun p0 =>
    π.ld [.map] (p0.add (0 : Nat)) fun ((m1 : Option Nat), _) =>
    π.call (29 : Nat) #[(Go.Value.map (m1))] (false, [(false, [.raw])]) fun (((v2 : Value), _), _) =>
    π.call (28 : Nat) #[v2] (false, [(false, [.slice])]) fun ((((a3 : Option Addr), (n4 : Nat), (c5 : Nat)), _), _) =>
    π.ret (Go.Value.slice (a3) (n4) (c5))
  )

def ann_NamesNil : Ann := { quiet := [], join := [], loop := [] }
set_option maxRecDepth 100000 in
theorem eq_NamesNil {W : Type} (π : Prims W) : bodyW π Try.prog ann_NamesNil (mkFr (maskA [] [.v (.pointer none)] 0) 11) drawer Try.f19 (bodyOf Try.f19) (mkFr (List.map some [.v (.pointer none)]) 11) = vc_NamesNil π := by kernel_rfl
theorem ok_NamesNil (R : Value → PH → Prop) (s : PH) (h : vc_NamesNil (RP Try.prog R) s) : DCalls Try.prog 19 (List.map AV.val [.v (.pointer none)]).toArray s R :=
  calls_vc (c := bodyOf Try.f19) (ann := ann_NamesNil) (by kernel_rfl) Try.func19 rfl [.v (.pointer none)] [] (by rw [Try.ntmps19]; exact Nat.le_of_ble_eq_true rfl) (by rw [show Try.f19.ntmps = 11 from Try.ntmps19, eq_NamesNil]; exact h)

/-- lintel/lintellaw05.awake -/
def vc_awake {W : Type} (π : Prims W) : W :=
  π.call (8 : Nat) #[] (false, [(false, [.ptr])]) fun ((p0, _), _) =>
  π.call (10 : Nat) #[(Go.Value.pointer (p0)), (Go.Value.string (ByteArray.mk #[(97 : UInt8)])), (Go.Value.string (ByteArray.mk #[(120 : UInt8), (121 : UInt8)]))] (false, [(false, [.int .i64])]) fun (((x1 : Int), _), _) =>
  π.call (11 : Nat) #[(Go.Value.pointer (p0)), (Go.Value.string (ByteArray.mk #[(97 : UInt8)]))] (false, [(false, [.int .i64])]) fun (((x2 : Int), _), _) =>
  π.call (10 : Nat) #[(Go.Value.pointer (p0)), (Go.Value.string (ByteArray.mk #[(97 : UInt8)])), (Go.Value.string (ByteArray.mk #[(122 : UInt8)]))] (false, [(false, [.int .i64])]) fun (((x3 : Int), _), _) =>
  π.nw (Go.Obj.cells #[(Go.Value.int (IntKind.i64) ((1 : Int)))] (3 : Nat) ((0 : Nat), (0 : Nat))) fun r4 =>
  π.call (13 : Nat) #[(Go.Value.pointer (p0)), (Go.Value.slice (some (Addr.mk r4 (0 : Nat) none)) ((1 : Nat)) ((1 : Nat)))] (false, [(false, [.ptr])]) fun ((p5, _), _) =>
  π.call (14 : Nat) #[(Go.Value.pointer (p5)), (Go.Value.string (ByteArray.mk #[(97 : UInt8)]))] (true, [(false, [.str]), (false, [.int .i64])]) fun (((t6 : ByteArray), _), ((x7 : Int), _), _) =>
  π.call (12 : Nat) #[(Go.Value.pointer (p5)), (Go.Value.int (IntKind.i64) ((1 : Int)))] (true, []) fun (_) =>
  π.call (10 : Nat) #[(Go.Value.pointer (p5)), (Go.Value.string (ByteArray.mk #[(97 : UInt8)])), (Go.Value.string (ByteArray.mk #[(113 : UInt8)]))] (false, [(false, [.int .i64])]) fun (((x8 : Int), _), _) =>
  π.ite (t6.toList == (ByteArray.mk #[(120 : UInt8), (121 : UInt8), (122 : UInt8)]).toList) (
    π.ite (x7 == (0 : Int)) (
      π.ite (x8 == (50 : Int)) (
        π.call (20 : Nat) #[(Go.Value.pointer (p5))] (false, [(false, [.bool])]) fun (((b9 : Bool), _), _) =>
        π.ite (b9) (
          π.ret (Go.Value.bool (true))
        ) (
          π.ret (Go.Value.bool (false))
        )
      ) (
        π.ret (Go.Value.bool (false))
      )
    ) (
      π.ret (Go.Value.bool (false))
    )
  ) (
    π.ret (Go.Value.bool (false))
  )

def ann_awake : Ann := { quiet := [], join := [], loop := [] }
set_option maxRecDepth 100000 in
theorem eq_awake {W : Type} (π : Prims W) : bodyW π Try.prog ann_awake (mkFr (maskA [] [] 0) 43) drawer Try.f9 (bodyOf Try.f9) (mkFr (List.map some []) 43) = vc_awake π := by kernel_rfl
theorem ok_awake (R : Value → PH → Prop) (s : PH) (h : vc_awake (RP Try.prog R) s) : DCalls Try.prog 9 (List.map AV.val []).toArray s R :=
  calls_vc (c := bodyOf Try.f9) (ann := ann_awake) (by kernel_rfl) Try.func9 rfl [] [] (by rw [Try.ntmps9]; exact Nat.le_of_ble_eq_true rfl) (by rw [show Try.f9.ntmps = 43 from Try.ntmps9, eq_awake]; exact h)

/-- lintel/lintellaw05.DriveNil -/
def vc_DriveNil {W : Type} (π : Prims W) (nm dt : ByteArray) (n : Int) : W :=
  π.call (12 : Nat) #[(Go.Value.pointer (none)), (Go.Value.int (IntKind.i64) (n))] (true, []) fun (_) =>
  π.call (14 : Nat) #[(Go.Value.pointer (none)), (Go.Value.string (nm))] (true, [(false, [.str]), (false, [.int .i64])]) fun (((t0 : ByteArray), _), ((x1 : Int), _), _) =>
  π.call (9 : Nat) #[] (false, [(false, [.bool])]) fun (((b2 : Bool), _), _) =>
  π.ite (b2) (
    π.call (10 : Nat) #[(Go.Value.pointer (none)), (Go.Value.string (nm)), (Go.Value.string (dt))] (false, [(false, [.int .i64])]) fun (((x3 : Int), _), _) =>
    π.ite (x3 == (2 : Int)) (
      π.call (11 : Nat) #[(Go.Value.pointer (none)), (Go.Value.string (nm))] (false, [(false, [.int .i64])]) fun (((x4 : Int), _), _) =>
      π.ite (x4 == (2 : Int)) (
        π.call (18 : Nat) #[(Go.Value.pointer (none)), (Go.Value.string (nm)), (Go.Value.string (dt))] (false, [(false, [.int .i64])]) fun (((x5 : Int), _), _) =>
        π.ite (x5 == (2 : Int)) (
          π.ite (x1 == (2 : Int)) (
            π.call (20 : Nat) #[(Go.Value.pointer (none))] (false, [(false, [.bool])]) fun (((b6 : Bool), _), _) =>
            π.ite (b6) (
              π.call (19 : Nat) #[(Go.Value.pointer (none))] (false, [(false, [.slice])]) fun ((((a7 : Option Addr), (n8 : Nat), (c9 : Nat)), _), _) =>
              π.ite ((↑n8 : Int) == (0 : Int)) (
                π.call (13 : Nat) #[(Go.Value.pointer (none)), (Go.Value.slice (none) ((0 : Nat)) ((0 : Nat)))] (false, [(false, [.ptr])]) fun ((p10, _), _) =>
                π.ret (Go.Value.bool (p10.isNone))
              ) (
                π.ret (Go.Value.bool (false))
              )
            ) (
              π.ret (Go.Value.bool (false))
            )
          ) (
            π.ret (Go.Value.bool (false))
          )
        ) (
          π.ret (Go.Value.bool (false))
        )
      ) (
        π.ret (Go.Value.bool (false))
      )
    ) (
      π.ret (Go.Value.bool (false))
    )
  ) (
    π.ret (Go.Value.bool (false))
  )

def ann_DriveNil : Ann := { quiet := [], join := [], loop := [] }
set_option maxRecDepth 100000 in
theorem eq_DriveNil {W : Type} (π : Prims W) (nm dt : ByteArray) (n : Int) : bodyW π Try.prog ann_DriveNil (mkFr (maskA [] [.v (.string nm), .v (.string dt), .v (.int .i64 n)] 0) 59) drawer Try.f7 (bodyOf Try.f7) (mkFr (List.map some [.v (.string nm), .v (.string dt), .v (.int .i64 n)]) 59) = vc_DriveNil π nm dt n := by kernel_rfl
theorem ok_DriveNil (nm dt : ByteArray) (n : Int) (R : Value → PH → Prop) (s : PH) (h : vc_DriveNil (RP Try.prog R) nm dt n s) : DCalls Try.prog 7 (List.map AV.val [.v (.string nm), .v (.string dt), .v (.int .i64 n)]).toArray s R :=
  calls_vc (c := bodyOf Try.f7) (ann := ann_DriveNil) (by kernel_rfl) Try.func7 rfl [.v (.string nm), .v (.string dt), .v (.int .i64 n)] [] (by rw [Try.ntmps7]; exact Nat.le_of_ble_eq_true rfl) (by rw [show Try.f7.ntmps = 59 from Try.ntmps7, eq_DriveNil]; exact h)

/-- lintel/lintellaw05.DriveSwaps -/
def vc_DriveSwaps {W : Type} (π : Prims W) (old dt oth : ByteArray) (n : Int) (k : Option Addr) (kn kc : Nat) : W :=
  π.call (8 : Nat) #[] (false, [(false, [.ptr])]) fun ((p0, _), _) =>
  π.call (9 : Nat) #[] (false, [(false, [.bool])]) fun (((b1 : Bool), _), _) =>
  π.ite (!b1) (
    π.ret (Go.Value.bool (false))
  ) (
    π.call (18 : Nat) #[(Go.Value.pointer (p0)), (Go.Value.string (ByteArray.mk #[(102 : UInt8)])), (Go.Value.string (old))] (false, [(false, [.int .i64])]) fun (((x2 : Int), _), _) =>
    π.ite (x2 != (0 : Int)) (
      π.ret (Go.Value.bool (false))
    ) (
      π.call (18 : Nat) #[(Go.Value.pointer (p0)), (Go.Value.string (ByteArray.mk #[(103 : UInt8)])), (Go.Value.string (oth))] (false, [(false, [.int .i64])]) fun (((x3 : Int), _), _) =>
      π.ite (x3 != (0 : Int)) (
        π.ret (Go.Value.bool (false))
      ) (
        π.call (12 : Nat) #[(Go.Value.pointer (p0)), (Go.Value.int (IntKind.i64) (n))] (true, []) fun (_) =>
        π.call (18 : Nat) #[(Go.Value.pointer (p0)), (Go.Value.string (ByteArray.mk #[(102 : UInt8)])), (Go.Value.string (dt))] (false, [(false, [.int .i64])]) fun (((x4 : Int), _), _) =>
        π.nw (Go.Obj.cells #[] (3 : Nat) ((0 : Nat), (0 : Nat))) fun r5 =>
        π.app (3 : Nat) (1 : Nat) (8 : Nat) [(Go.Value.int (IntKind.i64) ((0 : Int)))] (some (Addr.mk r5 (0 : Nat) none)) ((0 : Nat)) ((0 : Nat)) (Src.sl k kn) fun a6 n7 c8 =>
        π.call (13 : Nat) #[(Go.Value.pointer (p0)), (Go.Value.slice (a6) (n7) (c8))] (false, [(false, [.ptr])]) fun ((p9, _), _) =>
        π.call (14 : Nat) #[(Go.Value.pointer (p9)), (Go.Value.string (ByteArray.mk #[(102 : UInt8)]))] (true, [(false, [.str]), (false, [.int .i64])]) fun (((t10 : ByteArray), _), ((x11 : Int), _), _) =>
        π.call (14 : Nat) #[(Go.Value.pointer (p9)), (Go.Value.string (ByteArray.mk #[(103 : UInt8)]))] (true, [(false, [.str]), (false, [.int .i64])]) fun (((t12 : ByteArray), _), ((x13 : Int), _), _) =>
        π.ite (x11 == (0 : Int)) (
          π.ite (x13 == (0 : Int)) (
            π.ite (t12.toList == oth.toList) (
              π.ite (x4 == (0 : Int)) (
                π.ite (t10.toList == dt.toList) (
                  π.ret (Go.Value.bool (true))
                ) (
                  π.ite (x4 == (50 : Int)) (
                    π.ret (Go.Value.bool (t10.toList == old.toList))
                  ) (
                    π.ret (Go.Value.bool (false))
                  )
                )
              ) (
                π.ite (x4 == (50 : Int)) (
                  π.ret (Go.Value.bool (t10.toList == old.toList))
                ) (
                  π.ret (Go.Value.bool (false))
                )
              )
            ) (
              π.ret (Go.Value.bool (false))
            )
          ) (
            π.ret (Go.Value.bool (false))
          )
        ) (
          π.ret (Go.Value.bool (false))
        )
      )
    )
  )

def ann_DriveSwaps : Ann := { quiet := [], join := [], loop := [] }
set_option maxRecDepth 100000 in
theorem eq_DriveSwaps {W : Type} (π : Prims W) (old dt oth : ByteArray) (n : Int) (k : Option Addr) (kn kc : Nat) : bodyW π Try.prog ann_DriveSwaps (mkFr (maskA [] [.v (.string old), .v (.string dt), .v (.string oth), .v (.int .i64 n), .v (.slice k kn kc)] 0) 82) drawer Try.f5 (bodyOf Try.f5) (mkFr (List.map some [.v (.string old), .v (.string dt), .v (.string oth), .v (.int .i64 n), .v (.slice k kn kc)]) 82) = vc_DriveSwaps π old dt oth n k kn kc := by kernel_rfl
theorem ok_DriveSwaps (old dt oth : ByteArray) (n : Int) (k : Option Addr) (kn kc : Nat) (R : Value → PH → Prop) (s : PH) (h : vc_DriveSwaps (RP Try.prog R) old dt oth n k kn kc s) : DCalls Try.prog 5 (List.map AV.val [.v (.string old), .v (.string dt), .v (.string oth), .v (.int .i64 n), .v (.slice k kn kc)]).toArray s R :=
  calls_vc (c := bodyOf Try.f5) (ann := ann_DriveSwaps) (by kernel_rfl) Try.func5 rfl [.v (.string old), .v (.string dt), .v (.string oth), .v (.int .i64 n), .v (.slice k kn kc)] [] (by rw [Try.ntmps5]; exact Nat.le_of_ble_eq_true rfl) (by rw [show Try.f5.ntmps = 82 from Try.ntmps5, eq_DriveSwaps]; exact h)

/-- lintel/lintellaw05.DriveSafe -/
def vc_DriveSafe {W : Type} (π : Prims W) (dt more : ByteArray) (k : Option Addr) (kn kc : Nat) (n : Int) : W :=
  π.call (8 : Nat) #[] (false, [(false, [.ptr])]) fun ((p0, _), _) =>
  π.call (9 : Nat) #[] (false, [(false, [.bool])]) fun (((b1 : Bool), _), _) =>
  π.ite (!b1) (
    π.ret (Go.Value.bool (false))
  ) (
    π.call (10 : Nat) #[(Go.Value.pointer (p0)), (Go.Value.string (ByteArray.mk #[(102 : UInt8)])), (Go.Value.string (dt))] (false, [(false, [.int .i64])]) fun (((x2 : Int), _), _) =>
    π.ite (x2 != (0 : Int)) (
      π.ret (Go.Value.bool (false))
    ) (
      π.call (11 : Nat) #[(Go.Value.pointer (p0)), (Go.Value.string (ByteArray.mk #[(102 : UInt8)]))] (false, [(false, [.int .i64])]) fun (((x3 : Int), _), _) =>
      π.ite (x3 != (0 : Int)) (
        π.ret (Go.Value.bool (false))
      ) (
        π.call (12 : Nat) #[(Go.Value.pointer (p0)), (Go.Value.int (IntKind.i64) (n))] (true, []) fun (_) =>
        π.call (10 : Nat) #[(Go.Value.pointer (p0)), (Go.Value.string (ByteArray.mk #[(102 : UInt8)])), (Go.Value.string (more))] (false, [(false, [.int .i64])]) fun (((x4 : Int), _), _) =>
        π.call (10 : Nat) #[(Go.Value.pointer (p0)), (Go.Value.string (ByteArray.mk #[(103 : UInt8)])), (Go.Value.string (more))] (false, [(false, [.int .i64])]) fun (((x5 : Int), _), _) =>
        π.nw (Go.Obj.cells #[] (3 : Nat) ((0 : Nat), (0 : Nat))) fun r6 =>
        π.app (3 : Nat) (1 : Nat) (8 : Nat) [(Go.Value.int (IntKind.i64) ((0 : Int)))] (some (Addr.mk r6 (0 : Nat) none)) ((0 : Nat)) ((0 : Nat)) (Src.sl k kn) fun a7 n8 c9 =>
        π.call (13 : Nat) #[(Go.Value.pointer (p0)), (Go.Value.slice (a7) (n8) (c9))] (false, [(false, [.ptr])]) fun ((p10, _), _) =>
        π.call (14 : Nat) #[(Go.Value.pointer (p10)), (Go.Value.string (ByteArray.mk #[(102 : UInt8)]))] (true, [(false, [.str]), (false, [.int .i64])]) fun (((t11 : ByteArray), _), ((x12 : Int), _), _) =>
        π.guard ((↑(dt.size + more.size) : Int) ≤ (9223372036854775807 : Int)) <|
        π.ite (x12 == (0 : Int)) (
          π.ite (decide ((↑t11.size : Int) ≥ (↑dt.size : Int))) (
            π.ite (decide ((↑t11.size : Int) ≤ (↑(dt ++ more).size : Int))) (
              π.guard ((0 : Int) ≤ (0 : Int) ∧ (0 : Int) ≤ (↑t11.size : Int) ∧ (↑t11.size : Int) ≤ (↑(dt ++ more).size : Int)) <|
              π.ret (Go.Value.bool (((dt ++ more).extract (0 : Nat) (↑t11.size : Int).toNat).toList == t11.toList))
            ) (
              π.ret (Go.Value.bool (false))
            )
          ) (
            π.ret (Go.Value.bool (false))
          )
        ) (
          π.ret (Go.Value.bool (false))
        )
      )
    )
  )

def ann_DriveSafe : Ann := { quiet := [], join := [], loop := [] }
set_option maxRecDepth 100000 in
theorem eq_DriveSafe {W : Type} (π : Prims W) (dt more : ByteArray) (k : Option Addr) (kn kc : Nat) (n : Int) : bodyW π Try.prog ann_DriveSafe (mkFr (maskA [] [.v (.string dt), .v (.string more), .v (.slice k kn kc), .v (.int .i64 n)] 0) 73) drawer Try.f3 (bodyOf Try.f3) (mkFr (List.map some [.v (.string dt), .v (.string more), .v (.slice k kn kc), .v (.int .i64 n)]) 73) = vc_DriveSafe π dt more k kn kc n := by kernel_rfl
theorem ok_DriveSafe (dt more : ByteArray) (k : Option Addr) (kn kc : Nat) (n : Int) (R : Value → PH → Prop) (s : PH) (h : vc_DriveSafe (RP Try.prog R) dt more k kn kc n s) : DCalls Try.prog 3 (List.map AV.val [.v (.string dt), .v (.string more), .v (.slice k kn kc), .v (.int .i64 n)]).toArray s R :=
  calls_vc (c := bodyOf Try.f3) (ann := ann_DriveSafe) (by kernel_rfl) Try.func3 rfl [.v (.string dt), .v (.string more), .v (.slice k kn kc), .v (.int .i64 n)] [] (by rw [Try.ntmps3]; exact Nat.le_of_ble_eq_true rfl) (by rw [show Try.f3.ntmps = 73 from Try.ntmps3, eq_DriveSafe]; exact h)

end Go.Proofs.Ytdbpockkebabiaa
