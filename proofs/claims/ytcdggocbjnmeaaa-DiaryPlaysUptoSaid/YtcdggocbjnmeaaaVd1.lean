/-
  The functions of the drive: printed by a program of this session's own, each proved to be the function's by the kernel.
  Conditions: none; it proves no statement by itself.
-/
import Derived.Test.YtcdggocbjnmeaaaFwU
import Derived.Test.YtcdggocbjnmeaaaProg
set_option linter.unusedVariables false
set_option maxHeartbeats 1000000
namespace Go.Proofs.Ytcdggocbjnmeaaa
open Fw Fw.W Go

/-- lintel/drive.New -/
def vc_New {W : Type} (π : Prims W) : W :=
  π.nw (Obj.map #[] (0 : Nat)) fun r0 =>
  π.nw (Go.Obj.cells #[(Go.Value.map (some r0)), (Go.Value.bool (false)), (Go.Value.int (IntKind.i64) ((0 : Int)))] (60 : Nat) ((0 : Nat), (0 : Nat))) fun r1 =>
  π.ret (Go.Value.pointer (some (Addr.mk r1 (0 : Nat) none)))

def ann_New : Ann := { draws := [], join := [], loop := [] }
def la_New : LA := { ptr := [], ty := [] }
set_option maxRecDepth 100000 in
theorem eq_New {W : Type} (π : Prims W) : bodyL π Try.prog la_New ann_New (mkFr (maskA [] [] 0) 4) Try.f7 (bodyOf Try.f7) (mkFr (List.map some []) 4) = vc_New π := by kernel_rfl
theorem ok_New (R : Value → PH → Prop) (s : PH) (h : vc_New (RP Try.prog R) s) : DCalls Try.prog 7 (List.map AV.val []).toArray s R :=
  calls_vcL (c := bodyOf Try.f7) (ann := ann_New) la_New (by kernel_rfl) Try.func7 rfl (by kernel_rfl) [] [] (by rw [Try.ntmps7]; exact Nat.le_of_ble_eq_true rfl) (by kernel_rfl) (by rw [show Try.f7.ntmps = 4 from Try.ntmps7, eq_New]; exact h)

/-- (*lintel/drive.Drive).begin -/
def vc_begin {W : Type} (π : Prims W) (b : Nat) : W :=
  π.ite ((some (Addr.mk b (0 : Nat) none)).isNone) (
    π.ret (Go.Value.tuple #[(Go.Value.bool (false)), (Go.Value.int (IntKind.i64) ((2 : Int)))])
  ) (
    π.unSome (some (Addr.mk b (0 : Nat) none)) fun p0 =>
    π.ld [.bool] (p0.add (1 : Nat)) fun ((b1 : Bool), _) =>
    π.ite (b1) (
      π.ret (Go.Value.tuple #[(Go.Value.bool (false)), (Go.Value.int (IntKind.i64) ((50 : Int)))])
    ) (
      π.unSome (some (Addr.mk b (0 : Nat) none)) fun p2 =>
      π.ld [.int .i64] (p2.add (2 : Nat)) fun ((x3 : Int), _) =>
      π.ite (decide (x3 > (0 : Int))) (
        π.unSome (some (Addr.mk b (0 : Nat) none)) fun p4 =>
        π.ld [.int .i64] (p4.add (2 : Nat)) fun ((x5 : Int), _) =>
        π.unSome (some (Addr.mk b (0 : Nat) none)) fun p6 =>
        π.st (p6.add (2 : Nat)) [(Go.Value.int (IntKind.i64) (IntKind.i64.wrap (x5 - (1 : Int))))] <|
        π.unSome (some (Addr.mk b (0 : Nat) none)) fun p7 =>
        π.ld [.int .i64] (p7.add (2 : Nat)) fun ((x8 : Int), _) =>
        π.unSome (some (Addr.mk b (0 : Nat) none)) fun p9 =>
        π.st (p9.add (1 : Nat)) [(Go.Value.bool (x8 == (0 : Int)))] <|
        π.unSome (some (Addr.mk b (0 : Nat) none)) fun p10 =>
        π.ld [.bool] (p10.add (1 : Nat)) fun ((b11 : Bool), _) =>
        π.ite (b11) (
          π.ret (Go.Value.tuple #[(Go.Value.bool (true)), (Go.Value.int (IntKind.i64) ((50 : Int)))])
        ) (
          π.ret (Go.Value.tuple #[(Go.Value.bool (false)), (Go.Value.int (IntKind.i64) ((0 : Int)))])
        )
      ) (
        π.unSome (some (Addr.mk b (0 : Nat) none)) fun p12 =>
        π.ld [.bool] (p12.add (1 : Nat)) fun ((b13 : Bool), _) =>
        π.ite (b13) (
          π.ret (Go.Value.tuple #[(Go.Value.bool (true)), (Go.Value.int (IntKind.i64) ((50 : Int)))])
        ) (
          π.ret (Go.Value.tuple #[(Go.Value.bool (false)), (Go.Value.int (IntKind.i64) ((0 : Int)))])
        )
      )
    )
  )

def ann_begin : Ann := { draws := [], join := [], loop := [] }
def la_begin : LA := { ptr := [], ty := [] }
set_option maxRecDepth 100000 in
theorem eq_begin {W : Type} (π : Prims W) (b : Nat) : bodyL π Try.prog la_begin ann_begin (mkFr (maskA [] [.v (.pointer (some ⟨b, 0, none⟩))] 0) 36) Try.f26 (bodyOf Try.f26) (mkFr (List.map some [.v (.pointer (some ⟨b, 0, none⟩))]) 36) = vc_begin π b := by kernel_rfl
theorem ok_begin (b : Nat) (R : Value → PH → Prop) (s : PH) (h : vc_begin (RP Try.prog R) b s) : DCalls Try.prog 26 (List.map AV.val [.v (.pointer (some ⟨b, 0, none⟩))]).toArray s R :=
  calls_vcL (c := bodyOf Try.f26) (ann := ann_begin) la_begin (by kernel_rfl) Try.func26 rfl (by kernel_rfl) [.v (.pointer (some ⟨b, 0, none⟩))] [] (by rw [Try.ntmps26]; exact Nat.le_of_ble_eq_true rfl) (by kernel_rfl) (by rw [show Try.f26.ntmps = 36 from Try.ntmps26, eq_begin]; exact h)

/-- (*lintel/drive.Drive).begin -/
def vc_beginNil {W : Type} (π : Prims W) : W :=
  π.ite (true) (
    π.ret (Go.Value.tuple #[(Go.Value.bool (false)), (Go.Value.int (IntKind.i64) ((2 : Int)))])
  ) (
    π.unSome (none) fun p0 =>
    π.ld [.bool] (p0.add (1 : Nat)) fun ((b1 : Bool), _) =>
    π.ite (b1) (
      π.ret (Go.Value.tuple #[(Go.Value.bool (false)), (Go.Value.int (IntKind.i64) ((50 : Int)))])
    ) (
      π.unSome (none) fun p2 =>
      π.ld [.int .i64] (p2.add (2 : Nat)) fun ((x3 : Int), _) =>
      π.ite (decide (x3 > (0 : Int))) (
        π.unSome (none) fun p4 =>
        π.ld [.int .i64] (p4.add (2 : Nat)) fun ((x5 : Int), _) =>
        π.unSome (none) fun p6 =>
        π.st (p6.add (2 : Nat)) [(Go.Value.int (IntKind.i64) (IntKind.i64.wrap (x5 - (1 : Int))))] <|
        π.unSome (none) fun p7 =>
        π.ld [.int .i64] (p7.add (2 : Nat)) fun ((x8 : Int), _) =>
        π.unSome (none) fun p9 =>
        π.st (p9.add (1 : Nat)) [(Go.Value.bool (x8 == (0 : Int)))] <|
        π.unSome (none) fun p10 =>
        π.ld [.bool] (p10.add (1 : Nat)) fun ((b11 : Bool), _) =>
        π.ite (b11) (
          π.ret (Go.Value.tuple #[(Go.Value.bool (true)), (Go.Value.int (IntKind.i64) ((50 : Int)))])
        ) (
          π.ret (Go.Value.tuple #[(Go.Value.bool (false)), (Go.Value.int (IntKind.i64) ((0 : Int)))])
        )
      ) (
        π.unSome (none) fun p12 =>
        π.ld [.bool] (p12.add (1 : Nat)) fun ((b13 : Bool), _) =>
        π.ite (b13) (
          π.ret (Go.Value.tuple #[(Go.Value.bool (true)), (Go.Value.int (IntKind.i64) ((50 : Int)))])
        ) (
          π.ret (Go.Value.tuple #[(Go.Value.bool (false)), (Go.Value.int (IntKind.i64) ((0 : Int)))])
        )
      )
    )
  )

def ann_beginNil : Ann := { draws := [], join := [], loop := [] }
def la_beginNil : LA := { ptr := [], ty := [] }
set_option maxRecDepth 100000 in
theorem eq_beginNil {W : Type} (π : Prims W) : bodyL π Try.prog la_beginNil ann_beginNil (mkFr (maskA [] [.v (.pointer none)] 0) 36) Try.f26 (bodyOf Try.f26) (mkFr (List.map some [.v (.pointer none)]) 36) = vc_beginNil π := by kernel_rfl
theorem ok_beginNil (R : Value → PH → Prop) (s : PH) (h : vc_beginNil (RP Try.prog R) s) : DCalls Try.prog 26 (List.map AV.val [.v (.pointer none)]).toArray s R :=
  calls_vcL (c := bodyOf Try.f26) (ann := ann_beginNil) la_beginNil (by kernel_rfl) Try.func26 rfl (by kernel_rfl) [.v (.pointer none)] [] (by rw [Try.ntmps26]; exact Nat.le_of_ble_eq_true rfl) (by kernel_rfl) (by rw [show Try.f26.ntmps = 36 from Try.ntmps26, eq_beginNil]; exact h)

/-- (*lintel/drive.Drive).Append -/
def vc_Append {W : Type} (π : Prims W) (b : Nat) (nm dt : ByteArray) : W :=
  π.call (26 : Nat) #[(Go.Value.pointer (some (Addr.mk b (0 : Nat) none)))] (true, [(false, [.bool]), (false, [.int .i64])]) fun (((b0 : Bool), _), ((x1 : Int), _), _) =>
  π.join [(false, [.int .i64]), (false, [.bool])] (fun J2 =>
    π.ite (x1 == (0 : Int)) (
      J2 ((x1, ()), (true, ()), ())
    ) (
      J2 ((x1, ()), (b0, ()), ())
    )
  ) (fun (((x3 : Int), _), ((b4 : Bool), _), _) =>
    π.ite (b4) (
      π.unSome (some (Addr.mk b (0 : Nat) none)) fun p5 =>
      π.ld [.map] (p5.add (0 : Nat)) fun ((m6 : Option Nat), _) =>
      π.look (TypeDesc.string) (m6) (Go.Value.string (nm)) (Go.Value.agg #[(Go.Value.string (ByteArray.mk #[])), (Go.Value.int (IntKind.i64) ((0 : Int)))]) (true, [.str, .int .i64]) fun ((t8 : ByteArray), (x9 : Int), _) b7 =>
      π.guard ((↑(t8.size + dt.size) : Int) ≤ (9223372036854775807 : Int)) <|
      π.unSome (some (Addr.mk b (0 : Nat) none)) fun p10 =>
      π.ld [.map] (p10.add (0 : Nat)) fun ((m11 : Option Nat), _) =>
      π.mset (TypeDesc.string) (m11) (Go.Value.string (nm)) (Go.Value.agg #[(Go.Value.string (t8 ++ dt)), (Go.Value.int (IntKind.i64) (x9))]) <|
      π.ret (Go.Value.int (IntKind.i64) (x3))
    ) (
      π.ret (Go.Value.int (IntKind.i64) (x3))
    )
  )

def ann_Append : Ann := { draws := [(5, { A := [0, 1, 2, 3, 4, 5] })], join := [(3, [(8, 25), (19, 4)])], loop := [] }
def la_Append : LA := { ptr := [(9, 9, 0), (26, 9, 0), (30, 9, 0)], ty := [(9, 64)] }
set_option maxRecDepth 100000 in
theorem eq_Append {W : Type} (π : Prims W) (b : Nat) (nm dt : ByteArray) : bodyL π Try.prog la_Append ann_Append (mkFr (maskA [] [.v (.pointer (some ⟨b, 0, none⟩)), .v (.string nm), .v (.string dt)] 0) 38) Try.f31 (bodyOf Try.f31) (mkFr (List.map some [.v (.pointer (some ⟨b, 0, none⟩)), .v (.string nm), .v (.string dt)]) 38) = vc_Append π b nm dt := by kernel_rfl
theorem ok_Append (b : Nat) (nm dt : ByteArray) (R : Value → PH → Prop) (s : PH) (h : vc_Append (RP Try.prog R) b nm dt s) : DCalls Try.prog 31 (List.map AV.val [.v (.pointer (some ⟨b, 0, none⟩)), .v (.string nm), .v (.string dt)]).toArray s R :=
  calls_vcL (c := bodyOf Try.f31) (ann := ann_Append) la_Append (by kernel_rfl) Try.func31 rfl (by kernel_rfl) [.v (.pointer (some ⟨b, 0, none⟩)), .v (.string nm), .v (.string dt)] [] (by rw [Try.ntmps31]; exact Nat.le_of_ble_eq_true rfl) (by kernel_rfl) (by rw [show Try.f31.ntmps = 38 from Try.ntmps31, eq_Append]; exact h)

/-- (*lintel/drive.Drive).Sync -/
def vc_Sync {W : Type} (π : Prims W) (b : Nat) (nm : ByteArray) : W :=
  π.call (26 : Nat) #[(Go.Value.pointer (some (Addr.mk b (0 : Nat) none)))] (true, [(false, [.bool]), (false, [.int .i64])]) fun (((b0 : Bool), _), ((x1 : Int), _), _) =>
  π.ite (x1 != (0 : Int)) (
    π.ret (Go.Value.int (IntKind.i64) (x1))
  ) (
    π.unSome (some (Addr.mk b (0 : Nat) none)) fun p2 =>
    π.ld [.map] (p2.add (0 : Nat)) fun ((m3 : Option Nat), _) =>
    π.look (TypeDesc.string) (m3) (Go.Value.string (nm)) (Go.Value.agg #[(Go.Value.string (ByteArray.mk #[])), (Go.Value.int (IntKind.i64) ((0 : Int)))]) (true, [.str, .int .i64]) fun ((t5 : ByteArray), (x6 : Int), _) b4 =>
    π.ite (b4) (
      π.unSome (some (Addr.mk b (0 : Nat) none)) fun p7 =>
      π.ld [.map] (p7.add (0 : Nat)) fun ((m8 : Option Nat), _) =>
      π.mset (TypeDesc.string) (m8) (Go.Value.string (nm)) (Go.Value.agg #[(Go.Value.string (t5)), (Go.Value.int (IntKind.i64) ((↑t5.size : Int)))]) <|
      π.ret (Go.Value.int (IntKind.i64) ((0 : Int)))
    ) (
      π.ret (Go.Value.int (IntKind.i64) ((0 : Int)))
    )
  )

def ann_Sync : Ann := { draws := [(7, { A := [0, 1, 2, 3, 4, 5] })], join := [], loop := [] }
def la_Sync : LA := { ptr := [(7, 7, 0), (27, 7, 0), (30, 7, 1)], ty := [(7, 64)] }
set_option maxRecDepth 100000 in
theorem eq_Sync {W : Type} (π : Prims W) (b : Nat) (nm : ByteArray) : bodyL π Try.prog la_Sync ann_Sync (mkFr (maskA [] [.v (.pointer (some ⟨b, 0, none⟩)), .v (.string nm)] 0) 37) Try.f32 (bodyOf Try.f32) (mkFr (List.map some [.v (.pointer (some ⟨b, 0, none⟩)), .v (.string nm)]) 37) = vc_Sync π b nm := by kernel_rfl
theorem ok_Sync (b : Nat) (nm : ByteArray) (R : Value → PH → Prop) (s : PH) (h : vc_Sync (RP Try.prog R) b nm s) : DCalls Try.prog 32 (List.map AV.val [.v (.pointer (some ⟨b, 0, none⟩)), .v (.string nm)]).toArray s R :=
  calls_vcL (c := bodyOf Try.f32) (ann := ann_Sync) la_Sync (by kernel_rfl) Try.func32 rfl (by kernel_rfl) [.v (.pointer (some ⟨b, 0, none⟩)), .v (.string nm)] [] (by rw [Try.ntmps32]; exact Nat.le_of_ble_eq_true rfl) (by kernel_rfl) (by rw [show Try.f32.ntmps = 37 from Try.ntmps32, eq_Sync]; exact h)

/-- (*lintel/drive.Drive).Swap -/
def vc_Swap {W : Type} (π : Prims W) (b : Nat) (nm dt : ByteArray) : W :=
  π.call (26 : Nat) #[(Go.Value.pointer (some (Addr.mk b (0 : Nat) none)))] (true, [(false, [.bool]), (false, [.int .i64])]) fun (((b0 : Bool), _), ((x1 : Int), _), _) =>
  π.ite (x1 == (0 : Int)) (
    π.unSome (some (Addr.mk b (0 : Nat) none)) fun p2 =>
    π.ld [.map] (p2.add (0 : Nat)) fun ((m3 : Option Nat), _) =>
    π.mset (TypeDesc.string) (m3) (Go.Value.string (nm)) (Go.Value.agg #[(Go.Value.string (dt)), (Go.Value.int (IntKind.i64) ((↑dt.size : Int)))]) <|
    π.ret (Go.Value.int (IntKind.i64) (x1))
  ) (
    π.ret (Go.Value.int (IntKind.i64) (x1))
  )

def ann_Swap : Ann := { draws := [], join := [], loop := [] }
def la_Swap : LA := { ptr := [], ty := [] }
set_option maxRecDepth 100000 in
theorem eq_Swap {W : Type} (π : Prims W) (b : Nat) (nm dt : ByteArray) : bodyL π Try.prog la_Swap ann_Swap (mkFr (maskA [] [.v (.pointer (some ⟨b, 0, none⟩)), .v (.string nm), .v (.string dt)] 0) 26) Try.f9 (bodyOf Try.f9) (mkFr (List.map some [.v (.pointer (some ⟨b, 0, none⟩)), .v (.string nm), .v (.string dt)]) 26) = vc_Swap π b nm dt := by kernel_rfl
theorem ok_Swap (b : Nat) (nm dt : ByteArray) (R : Value → PH → Prop) (s : PH) (h : vc_Swap (RP Try.prog R) b nm dt s) : DCalls Try.prog 9 (List.map AV.val [.v (.pointer (some ⟨b, 0, none⟩)), .v (.string nm), .v (.string dt)]).toArray s R :=
  calls_vcL (c := bodyOf Try.f9) (ann := ann_Swap) la_Swap (by kernel_rfl) Try.func9 rfl (by kernel_rfl) [.v (.pointer (some ⟨b, 0, none⟩)), .v (.string nm), .v (.string dt)] [] (by rw [Try.ntmps9]; exact Nat.le_of_ble_eq_true rfl) (by kernel_rfl) (by rw [show Try.f9.ntmps = 26 from Try.ntmps9, eq_Swap]; exact h)

/-- (*lintel/drive.Drive).Read -/
def vc_Read {W : Type} (π : Prims W) (b : Nat) (nm : ByteArray) : W :=
  π.ite ((some (Addr.mk b (0 : Nat) none)).isNone) (
    π.ret (Go.Value.tuple #[(Go.Value.string (ByteArray.mk #[])), (Go.Value.int (IntKind.i64) ((2 : Int)))])
  ) (
    π.unSome (some (Addr.mk b (0 : Nat) none)) fun p0 =>
    π.ld [.bool] (p0.add (1 : Nat)) fun ((b1 : Bool), _) =>
    π.ite (b1) (
      π.ret (Go.Value.tuple #[(Go.Value.string (ByteArray.mk #[])), (Go.Value.int (IntKind.i64) ((50 : Int)))])
    ) (
      π.unSome (some (Addr.mk b (0 : Nat) none)) fun p2 =>
      π.ld [.map] (p2.add (0 : Nat)) fun ((m3 : Option Nat), _) =>
      π.look (TypeDesc.string) (m3) (Go.Value.string (nm)) (Go.Value.agg #[(Go.Value.string (ByteArray.mk #[])), (Go.Value.int (IntKind.i64) ((0 : Int)))]) (true, [.str, .int .i64]) fun ((t5 : ByteArray), (x6 : Int), _) b4 =>
      π.ret (Go.Value.tuple #[(Go.Value.string (t5)), (Go.Value.int (IntKind.i64) ((0 : Int)))])
    )
  )

def ann_Read : Ann := { draws := [], join := [], loop := [] }
def la_Read : LA := { ptr := [], ty := [] }
set_option maxRecDepth 100000 in
theorem eq_Read {W : Type} (π : Prims W) (b : Nat) (nm : ByteArray) : bodyL π Try.prog la_Read ann_Read (mkFr (maskA [] [.v (.pointer (some ⟨b, 0, none⟩)), .v (.string nm)] 0) 21) Try.f11 (bodyOf Try.f11) (mkFr (List.map some [.v (.pointer (some ⟨b, 0, none⟩)), .v (.string nm)]) 21) = vc_Read π b nm := by kernel_rfl
theorem ok_Read (b : Nat) (nm : ByteArray) (R : Value → PH → Prop) (s : PH) (h : vc_Read (RP Try.prog R) b nm s) : DCalls Try.prog 11 (List.map AV.val [.v (.pointer (some ⟨b, 0, none⟩)), .v (.string nm)]).toArray s R :=
  calls_vcL (c := bodyOf Try.f11) (ann := ann_Read) la_Read (by kernel_rfl) Try.func11 rfl (by kernel_rfl) [.v (.pointer (some ⟨b, 0, none⟩)), .v (.string nm)] [] (by rw [Try.ntmps11]; exact Nat.le_of_ble_eq_true rfl) (by kernel_rfl) (by rw [show Try.f11.ntmps = 21 from Try.ntmps11, eq_Read]; exact h)

/-- (*lintel/drive.Drive).Read -/
def vc_ReadNil {W : Type} (π : Prims W) (nm : ByteArray) : W :=
  π.ite (true) (
    π.ret (Go.Value.tuple #[(Go.Value.string (ByteArray.mk #[])), (Go.Value.int (IntKind.i64) ((2 : Int)))])
  ) (
    π.unSome (none) fun p0 =>
    π.ld [.bool] (p0.add (1 : Nat)) fun ((b1 : Bool), _) =>
    π.ite (b1) (
      π.ret (Go.Value.tuple #[(Go.Value.string (ByteArray.mk #[])), (Go.Value.int (IntKind.i64) ((50 : Int)))])
    ) (
      π.unSome (none) fun p2 =>
      π.ld [.map] (p2.add (0 : Nat)) fun ((m3 : Option Nat), _) =>
      π.look (TypeDesc.string) (m3) (Go.Value.string (nm)) (Go.Value.agg #[(Go.Value.string (ByteArray.mk #[])), (Go.Value.int (IntKind.i64) ((0 : Int)))]) (true, [.str, .int .i64]) fun ((t5 : ByteArray), (x6 : Int), _) b4 =>
      π.ret (Go.Value.tuple #[(Go.Value.string (t5)), (Go.Value.int (IntKind.i64) ((0 : Int)))])
    )
  )

def ann_ReadNil : Ann := { draws := [], join := [], loop := [] }
def la_ReadNil : LA := { ptr := [], ty := [] }
set_option maxRecDepth 100000 in
theorem eq_ReadNil {W : Type} (π : Prims W) (nm : ByteArray) : bodyL π Try.prog la_ReadNil ann_ReadNil (mkFr (maskA [] [.v (.pointer none), .v (.string nm)] 0) 21) Try.f11 (bodyOf Try.f11) (mkFr (List.map some [.v (.pointer none), .v (.string nm)]) 21) = vc_ReadNil π nm := by kernel_rfl
theorem ok_ReadNil (nm : ByteArray) (R : Value → PH → Prop) (s : PH) (h : vc_ReadNil (RP Try.prog R) nm s) : DCalls Try.prog 11 (List.map AV.val [.v (.pointer none), .v (.string nm)]).toArray s R :=
  calls_vcL (c := bodyOf Try.f11) (ann := ann_ReadNil) la_ReadNil (by kernel_rfl) Try.func11 rfl (by kernel_rfl) [.v (.pointer none), .v (.string nm)] [] (by rw [Try.ntmps11]; exact Nat.le_of_ble_eq_true rfl) (by kernel_rfl) (by rw [show Try.f11.ntmps = 21 from Try.ntmps11, eq_ReadNil]; exact h)

/-- (*lintel/drive.Drive).Arm -/
def vc_Arm {W : Type} (π : Prims W) (b : Nat) (n : Int) : W :=
  π.ite (!(some (Addr.mk b (0 : Nat) none)).isNone) (
    π.unSome (some (Addr.mk b (0 : Nat) none)) fun p0 =>
    π.ld [.bool] (p0.add (1 : Nat)) fun ((b1 : Bool), _) =>
    π.ite (!b1) (
      π.unSome (some (Addr.mk b (0 : Nat) none)) fun p2 =>
      π.st (p2.add (2 : Nat)) [(Go.Value.int (IntKind.i64) (if n > (0 : Int) then n else (0 : Int)))] <|
      π.ret (Go.Value.tuple #[])
    ) (
      π.ret (Go.Value.tuple #[])
    )
  ) (
    π.ret (Go.Value.tuple #[])
  )

def ann_Arm : Ann := { draws := [], join := [], loop := [] }
def la_Arm : LA := { ptr := [], ty := [] }
set_option maxRecDepth 100000 in
theorem eq_Arm {W : Type} (π : Prims W) (b : Nat) (n : Int) : bodyL π Try.prog la_Arm ann_Arm (mkFr (maskA [] [.v (.pointer (some ⟨b, 0, none⟩)), .v (.int .i64 n)] 0) 18) Try.f12 (bodyOf Try.f12) (mkFr (List.map some [.v (.pointer (some ⟨b, 0, none⟩)), .v (.int .i64 n)]) 18) = vc_Arm π b n := by kernel_rfl
theorem ok_Arm (b : Nat) (n : Int) (R : Value → PH → Prop) (s : PH) (h : vc_Arm (RP Try.prog R) b n s) : DCalls Try.prog 12 (List.map AV.val [.v (.pointer (some ⟨b, 0, none⟩)), .v (.int .i64 n)]).toArray s R :=
  calls_vcL (c := bodyOf Try.f12) (ann := ann_Arm) la_Arm (by kernel_rfl) Try.func12 rfl (by kernel_rfl) [.v (.pointer (some ⟨b, 0, none⟩)), .v (.int .i64 n)] [] (by rw [Try.ntmps12]; exact Nat.le_of_ble_eq_true rfl) (by kernel_rfl) (by rw [show Try.f12.ntmps = 18 from Try.ntmps12, eq_Arm]; exact h)

/-- (*lintel/drive.Drive).Down -/
def vc_Down {W : Type} (π : Prims W) (b : Nat) : W :=
  π.ite ((some (Addr.mk b (0 : Nat) none)).isNone) (
    π.ret (Go.Value.bool (true))
  ) (
    π.unSome (some (Addr.mk b (0 : Nat) none)) fun p0 =>
    π.ld [.bool] (p0.add (1 : Nat)) fun ((b1 : Bool), _) =>
    π.ret (Go.Value.bool (b1))
  )

def ann_Down : Ann := { draws := [], join := [], loop := [] }
def la_Down : LA := { ptr := [], ty := [] }
set_option maxRecDepth 100000 in
theorem eq_Down {W : Type} (π : Prims W) (b : Nat) : bodyL π Try.prog la_Down ann_Down (mkFr (maskA [] [.v (.pointer (some ⟨b, 0, none⟩))] 0) 11) Try.f25 (bodyOf Try.f25) (mkFr (List.map some [.v (.pointer (some ⟨b, 0, none⟩))]) 11) = vc_Down π b := by kernel_rfl
theorem ok_Down (b : Nat) (R : Value → PH → Prop) (s : PH) (h : vc_Down (RP Try.prog R) b s) : DCalls Try.prog 25 (List.map AV.val [.v (.pointer (some ⟨b, 0, none⟩))]).toArray s R :=
  calls_vcL (c := bodyOf Try.f25) (ann := ann_Down) la_Down (by kernel_rfl) Try.func25 rfl (by kernel_rfl) [.v (.pointer (some ⟨b, 0, none⟩))] [] (by rw [Try.ntmps25]; exact Nat.le_of_ble_eq_true rfl) (by kernel_rfl) (by rw [show Try.f25.ntmps = 11 from Try.ntmps25, eq_Down]; exact h)

/-- (*lintel/drive.Drive).Crash -/
def vc_Crash {W : Type} (π : Prims W) (b : Nat) (k : Option Addr) (n c : Nat) : W :=
  π.ite ((some (Addr.mk b (0 : Nat) none)).isNone) (
    π.ret (Go.Value.pointer (none))
  ) (
    π.call (7 : Nat) #[] (false, [(false, [.ptr])]) fun ((p0, _), _) =>
    π.call (36 : Nat) #[(Go.Value.pointer (some (Addr.mk b (0 : Nat) none)))] (false, [(false, [.slice])]) fun ((((a1 : Option Addr), (n2 : Nat), (c3 : Nat)), _), _) =>
    π.loop [(false, [.ptr]), (false, [.slice]), (false, [.int .i64]), (false, [.int .i64])] ((p0, ()), ((a1, n2, c3), ()), ((↑n2 : Int), ()), ((0 : Int), ()), ()) fun ((p5, _), (((a6 : Option Addr), (n7 : Nat), (c8 : Nat)), _), ((x9 : Int), _), ((x10 : Int), _), _) again4 =>
      π.ite (decide (x10 < x9)) (
        π.guard ((0 : Int) ≤ x10 ∧ x10 < (↑n7 : Int)) <|
        π.unSome (a6) fun p11 =>
        π.ld [.str] (p11.add (x10.toNat * (1 : Nat))) fun ((t12 : ByteArray), _) =>
        π.unSome (some (Addr.mk b (0 : Nat) none)) fun p13 =>
        π.ld [.map] (p13.add (0 : Nat)) fun ((m14 : Option Nat), _) =>
        π.look (TypeDesc.string) (m14) (Go.Value.string (t12)) (Go.Value.agg #[(Go.Value.string (ByteArray.mk #[])), (Go.Value.int (IntKind.i64) ((0 : Int)))]) (true, [.str, .int .i64]) fun ((t16 : ByteArray), (x17 : Int), _) b15 =>
        π.ite (decide (x10 < (↑n : Int))) (
          π.guard ((0 : Int) ≤ x10 ∧ x10 < (↑n : Int)) <|
          π.unSome (k) fun p18 =>
          π.ld [.int .i64] (p18.add (x10.toNat * (1 : Nat))) fun ((x19 : Int), _) =>
          π.unSome (p5) fun p20 =>
          π.ld [.map] (p20.add (0 : Nat)) fun ((m21 : Option Nat), _) =>
          π.guard ((0 : Int) ≤ (0 : Int) ∧ (0 : Int) ≤ IntKind.i64.wrap (x17 + if (if IntKind.i64.wrap ((↑t16.size : Int) - x17) < x19 then IntKind.i64.wrap ((↑t16.size : Int) - x17) else x19) > (0 : Int) then if IntKind.i64.wrap ((↑t16.size : Int) - x17) < x19 then IntKind.i64.wrap ((↑t16.size : Int) - x17) else x19 else (0 : Int)) ∧ IntKind.i64.wrap (x17 + if (if IntKind.i64.wrap ((↑t16.size : Int) - x17) < x19 then IntKind.i64.wrap ((↑t16.size : Int) - x17) else x19) > (0 : Int) then if IntKind.i64.wrap ((↑t16.size : Int) - x17) < x19 then IntKind.i64.wrap ((↑t16.size : Int) - x17) else x19 else (0 : Int)) ≤ (↑t16.size : Int)) <|
          π.mset (TypeDesc.string) (m21) (Go.Value.string (t12)) (Go.Value.agg #[(Go.Value.string (t16.extract (0 : Nat) (IntKind.i64.wrap (x17 + if (if IntKind.i64.wrap ((↑t16.size : Int) - x17) < x19 then IntKind.i64.wrap ((↑t16.size : Int) - x17) else x19) > (0 : Int) then if IntKind.i64.wrap ((↑t16.size : Int) - x17) < x19 then IntKind.i64.wrap ((↑t16.size : Int) - x17) else x19 else (0 : Int))).toNat)), (Go.Value.int (IntKind.i64) (IntKind.i64.wrap (x17 + if (if IntKind.i64.wrap ((↑t16.size : Int) - x17) < x19 then IntKind.i64.wrap ((↑t16.size : Int) - x17) else x19) > (0 : Int) then if IntKind.i64.wrap ((↑t16.size : Int) - x17) < x19 then IntKind.i64.wrap ((↑t16.size : Int) - x17) else x19 else (0 : Int))))]) <|
          again4 ((p5, ()), ((a6, n7, c8), ()), (x9, ()), (IntKind.i64.wrap (x10 + (1 : Int)), ()), ())
        ) (
          π.unSome (p5) fun p22 =>
          π.ld [.map] (p22.add (0 : Nat)) fun ((m23 : Option Nat), _) =>
          π.guard ((0 : Int) ≤ (0 : Int) ∧ (0 : Int) ≤ IntKind.i64.wrap (x17 + (0 : Int)) ∧ IntKind.i64.wrap (x17 + (0 : Int)) ≤ (↑t16.size : Int)) <|
          π.mset (TypeDesc.string) (m23) (Go.Value.string (t12)) (Go.Value.agg #[(Go.Value.string (t16.extract (0 : Nat) (IntKind.i64.wrap (x17 + (0 : Int))).toNat)), (Go.Value.int (IntKind.i64) (IntKind.i64.wrap (x17 + (0 : Int))))]) <|
          again4 ((p5, ()), ((a6, n7, c8), ()), (x9, ()), (IntKind.i64.wrap (x10 + (1 : Int)), ()), ())
        )
      ) (
        π.unSome (some (Addr.mk b (0 : Nat) none)) fun p24 =>
        π.st (p24.add (1 : Nat)) [(Go.Value.bool (true))] <|
        π.ret (Go.Value.pointer (p5))
      )
  )

def ann_Crash : Ann := { draws := [(10, { A := [0, 1, 2, 3, 4, 5, 6, 7, 8, 9, 10, 11, 12] }), (11, { A := [0, 1, 2, 3, 4, 5, 6, 7, 8, 9, 10, 11, 12, 13, 14, 15, 16] })], join := [], loop := [(5, [(5, 22), (14, 28), (15, 3), (16, 3)])] }
def la_Crash : LA := { ptr := [(8, 8, 0), (35, 8, 0), (38, 8, 1), (48, 8, 0), (50, 8, 1), (55, 8, 1)], ty := [(8, 64)] }
set_option maxRecDepth 100000 in
theorem eq_Crash {W : Type} (π : Prims W) (b : Nat) (k : Option Addr) (n c : Nat) : bodyL π Try.prog la_Crash ann_Crash (mkFr (maskA [] [.v (.pointer (some ⟨b, 0, none⟩)), .v (.slice k n c)] 0) 65) Try.f22 (bodyOf Try.f22) (mkFr (List.map some [.v (.pointer (some ⟨b, 0, none⟩)), .v (.slice k n c)]) 65) = vc_Crash π b k n c := by kernel_rfl
theorem ok_Crash (b : Nat) (k : Option Addr) (n c : Nat) (R : Value → PH → Prop) (s : PH) (h : vc_Crash (RP Try.prog R) b k n c s) : DCalls Try.prog 22 (List.map AV.val [.v (.pointer (some ⟨b, 0, none⟩)), .v (.slice k n c)]).toArray s R :=
  calls_vcL (c := bodyOf Try.f22) (ann := ann_Crash) la_Crash (by kernel_rfl) Try.func22 rfl (by kernel_rfl) [.v (.pointer (some ⟨b, 0, none⟩)), .v (.slice k n c)] [] (by rw [Try.ntmps22]; exact Nat.le_of_ble_eq_true rfl) (by kernel_rfl) (by rw [show Try.f22.ntmps = 65 from Try.ntmps22, eq_Crash]; exact h)

/-- (*lintel/drive.Drive).Names -/
def vc_Names {W : Type} (π : Prims W) (b : Nat) : W :=
  π.ite ((some (Addr.mk b (0 : Nat) none)).isNone) (
    π.ret (Go.Value.slice (none) ((0 : Nat)) ((0 : Nat)))
  ) (
    π.unSome (some (Addr.mk b (0 : Nat) none)) fun p0 =>
    π.ld [.map] (p0.add (0 : Nat)) fun ((m1 : Option Nat), _) =>
    π.call (44 : Nat) #[(Go.Value.map (m1))] (false, [(false, [.raw])]) fun (((v2 : Value), _), _) =>
    π.call (43 : Nat) #[v2] (false, [(false, [.slice])]) fun ((((a3 : Option Addr), (n4 : Nat), (c5 : Nat)), _), _) =>
    π.ret (Go.Value.slice (a3) (n4) (c5))
  )

def ann_Names : Ann := { draws := [], join := [], loop := [] }
def la_Names : LA := { ptr := [], ty := [] }
set_option maxRecDepth 100000 in
theorem eq_Names {W : Type} (π : Prims W) (b : Nat) : bodyL π Try.prog la_Names ann_Names (mkFr (maskA [] [.v (.pointer (some ⟨b, 0, none⟩))] 0) 11) Try.f36 (bodyOf Try.f36) (mkFr (List.map some [.v (.pointer (some ⟨b, 0, none⟩))]) 11) = vc_Names π b := by kernel_rfl
theorem ok_Names (b : Nat) (R : Value → PH → Prop) (s : PH) (h : vc_Names (RP Try.prog R) b s) : DCalls Try.prog 36 (List.map AV.val [.v (.pointer (some ⟨b, 0, none⟩))]).toArray s R :=
  calls_vcL (c := bodyOf Try.f36) (ann := ann_Names) la_Names (by kernel_rfl) Try.func36 rfl (by kernel_rfl) [.v (.pointer (some ⟨b, 0, none⟩))] [] (by rw [Try.ntmps36]; exact Nat.le_of_ble_eq_true rfl) (by kernel_rfl) (by rw [show Try.f36.ntmps = 11 from Try.ntmps36, eq_Names]; exact h)

end Go.Proofs.Ytcdggocbjnmeaaa
