/-
  The laws of the diary: printed by a program of this session's own, each proved to be the function's by the kernel.
  Conditions: none; it proves no statement by itself.
-/
import Derived.Test.YtcdggocbjnmeaaaFwU
import Derived.Test.YtcdggocbjnmeaaaProg
set_option linter.unusedVariables false
set_option maxHeartbeats 1000000
namespace Go.Proofs.Ytcdggocbjnmeaaa
open Fw Fw.W Go

/-- lintel/lintellaw06.awake -/
def vc_awake {W : Type} (π : Prims W) : W :=
  π.call (7 : Nat) #[] (false, [(false, [.ptr])]) fun ((p0, _), _) =>
  π.call (10 : Nat) #[(Go.Value.pointer (p0)), (Go.Value.string (ByteArray.mk #[(102 : UInt8)]))] (true, [(false, [.ptr]), (false, [.slice]), (false, [.int .i64])]) fun ((p1, _), (((a2 : Option Addr), (n3 : Nat), (c4 : Nat)), _), ((x5 : Int), _), _) =>
  π.join [(false, [.ptr]), (false, [.ptr])] (fun J6 =>
    π.ite (x5 != (0 : Int)) (
      π.ret (Go.Value.bool (false))
    ) (
      π.ite ((↑n3 : Int) != (0 : Int)) (
        π.ret (Go.Value.bool (false))
      ) (
        π.nw (Go.Obj.cells #[(Go.Value.string (ByteArray.mk #[(97 : UInt8)]))] (9 : Nat) ((0 : Nat), (0 : Nat))) fun r7 =>
        π.call (17 : Nat) #[(Go.Value.pointer (p1)), (Go.Value.slice (some (Addr.mk r7 (0 : Nat) none)) ((1 : Nat)) ((1 : Nat)))] (false, [(false, [.int .i64])]) fun (((x8 : Int), _), _) =>
        π.ite (x8 != (0 : Int)) (
          π.ret (Go.Value.bool (false))
        ) (
          J6 ((p0, ()), (p1, ()), ())
        )
      )
    )
  ) (fun ((p9, _), (p10, _), _) =>
    π.call (12 : Nat) #[(Go.Value.pointer (p9)), (Go.Value.int (IntKind.i64) ((2 : Int)))] (true, []) fun (_) =>
    π.nw (Go.Obj.cells #[(Go.Value.string (ByteArray.mk #[(98 : UInt8)]))] (9 : Nat) ((0 : Nat), (0 : Nat))) fun r11 =>
    π.call (17 : Nat) #[(Go.Value.pointer (p10)), (Go.Value.slice (some (Addr.mk r11 (0 : Nat) none)) ((1 : Nat)) ((1 : Nat)))] (false, [(false, [.int .i64])]) fun (((x12 : Int), _), _) =>
    π.nw (Go.Obj.cells #[(Go.Value.int (IntKind.i64) ((5 : Int)))] (3 : Nat) ((0 : Nat), (0 : Nat))) fun r13 =>
    π.call (22 : Nat) #[(Go.Value.pointer (p9)), (Go.Value.slice (some (Addr.mk r13 (0 : Nat) none)) ((1 : Nat)) ((1 : Nat)))] (false, [(false, [.ptr])]) fun ((p14, _), _) =>
    π.call (10 : Nat) #[(Go.Value.pointer (p14)), (Go.Value.string (ByteArray.mk #[(102 : UInt8)]))] (true, [(false, [.ptr]), (false, [.slice]), (false, [.int .i64])]) fun ((p15, _), (((a16 : Option Addr), (n17 : Nat), (c18 : Nat)), _), ((x19 : Int), _), _) =>
    π.ite (x12 == (50 : Int)) (
      π.ite (x19 == (0 : Int)) (
        π.ite ((↑n17 : Int) == (1 : Int)) (
          π.guard ((0 : Int) ≤ (0 : Int) ∧ (0 : Int) < (↑n17 : Int)) <|
          π.unSome (a16) fun p20 =>
          π.ld [.str] (p20.add (0 : Nat)) fun ((t21 : ByteArray), _) =>
          π.ret (Go.Value.bool (t21.toList == (ByteArray.mk #[(97 : UInt8)]).toList))
        ) (
          π.ret (Go.Value.bool (false))
        )
      ) (
        π.ret (Go.Value.bool (false))
      )
    ) (
      π.ret (Go.Value.bool (false))
    )
  )

def ann_awake : Ann := { draws := [], join := [(5, [(1, 22), (2, 27)])], loop := [] }
def la_awake : LA := { ptr := [], ty := [] }
set_option maxRecDepth 100000 in
theorem eq_awake {W : Type} (π : Prims W) : bodyL π Try.prog la_awake ann_awake (mkFr (maskA [] [] 0) 58) Try.f8 (bodyOf Try.f8) (mkFr (List.map some []) 58) = vc_awake π := by kernel_rfl
theorem ok_awake (R : Value → PH → Prop) (s : PH) (h : vc_awake (RP Try.prog R) s) : DCalls Try.prog 8 (List.map AV.val []).toArray s R :=
  calls_vcL (c := bodyOf Try.f8) (ann := ann_awake) la_awake (by kernel_rfl) Try.func8 rfl (by kernel_rfl) [] [] (by rw [Try.ntmps8]; exact Nat.le_of_ble_eq_true rfl) (by kernel_rfl) (by rw [show Try.f8.ntmps = 58 from Try.ntmps8, eq_awake]; exact h)

/-- lintel/lintellaw06.great -/
def vc_great {W : Type} (π : Prims W) (a : Option Addr) (n c : Nat) : W :=
  π.loop [(false, [.int .i64]), (false, [.slice]), (false, [.int .i64]), (false, [.int .i64])] (((0 : Int), ()), ((a, n, c), ()), ((↑n : Int), ()), ((0 : Int), ()), ()) fun (((x1 : Int), _), (((a2 : Option Addr), (n3 : Nat), (c4 : Nat)), _), ((x5 : Int), _), ((x6 : Int), _), _) again0 =>
    π.ite (decide (x6 < x5)) (
      π.guard ((0 : Int) ≤ x6 ∧ x6 < (↑n3 : Int)) <|
      π.unSome (a2) fun p7 =>
      π.ld [.int .i64, .slice, .int .i64, .slice] (p7.add (x6.toNat * (4 : Nat))) fun ((x8 : Int), ((a9 : Option Addr), (n10 : Nat), (c11 : Nat)), (x12 : Int), ((a13 : Option Addr), (n14 : Nat), (c15 : Nat)), _) =>
      π.loop [(false, [.int .i64]), (false, [.slice]), (false, [.int .i64]), (false, [.int .i64]), (false, [.slice]), (false, [.int .i64]), (false, [.int .i64])] ((IntKind.i64.wrap (x1 + IntKind.i64.wrap ((1 : Int) + (↑n14 : Int))), ()), ((a2, n3, c4), ()), (x5, ()), (x6, ()), ((a9, n10, c11), ()), ((↑n10 : Int), ()), ((0 : Int), ()), ()) fun (((x17 : Int), _), (((a18 : Option Addr), (n19 : Nat), (c20 : Nat)), _), ((x21 : Int), _), ((x22 : Int), _), (((a23 : Option Addr), (n24 : Nat), (c25 : Nat)), _), ((x26 : Int), _), ((x27 : Int), _), _) again16 =>
        π.ite (decide (x27 < x26)) (
          π.guard ((0 : Int) ≤ x27 ∧ x27 < (↑n24 : Int)) <|
          π.unSome (a23) fun p28 =>
          π.ld [.str] (p28.add (x27.toNat * (1 : Nat))) fun ((t29 : ByteArray), _) =>
          again16 ((IntKind.i64.wrap (x17 + IntKind.i64.wrap ((1 : Int) + (↑t29.size : Int))), ()), ((a18, n19, c20), ()), (x21, ()), (x22, ()), ((a23, n24, c25), ()), (x26, ()), (IntKind.i64.wrap (x27 + (1 : Int)), ()), ())
        ) (
          π.ite (decide (x17 > (16384 : Int))) (
            π.ret (Go.Value.bool (true))
          ) (
            again0 ((x17, ()), ((a18, n19, c20), ()), (x21, ()), (IntKind.i64.wrap (x22 + (1 : Int)), ()), ())
          )
        )
    ) (
      π.ret (Go.Value.bool (decide ((↑n : Int) > (100 : Int))))
    )

def ann_great : Ann := { draws := [], join := [], loop := [(3, [(3, 3), (8, 38), (9, 3), (10, 3)]), (7, [(3, 3), (8, 38), (9, 3), (10, 3), (21, 28), (22, 3), (23, 3)])] }
def la_great : LA := { ptr := [(5, 5, 0), (15, 5, 3), (20, 5, 1)], ty := [(5, 49)] }
set_option maxRecDepth 100000 in
theorem eq_great {W : Type} (π : Prims W) (a : Option Addr) (n c : Nat) : bodyL π Try.prog la_great ann_great (mkFr (maskA [] [.v (.slice a n c)] 0) 39) Try.f15 (bodyOf Try.f15) (mkFr (List.map some [.v (.slice a n c)]) 39) = vc_great π a n c := by kernel_rfl
theorem ok_great (a : Option Addr) (n c : Nat) (R : Value → PH → Prop) (s : PH) (h : vc_great (RP Try.prog R) a n c s) : DCalls Try.prog 15 (List.map AV.val [.v (.slice a n c)]).toArray s R :=
  calls_vcL (c := bodyOf Try.f15) (ann := ann_great) la_great (by kernel_rfl) Try.func15 rfl (by kernel_rfl) [.v (.slice a n c)] [] (by rw [Try.ntmps15]; exact Nat.le_of_ble_eq_true rfl) (by kernel_rfl) (by rw [show Try.f15.ntmps = 39 from Try.ntmps15, eq_great]; exact h)

/-- lintel/lintellaw06.DiaryNil -/
def vc_DiaryNil {W : Type} (π : Prims W) (a : Option Addr) (n c : Nat) (nm : ByteArray) : W :=
  π.call (10 : Nat) #[(Go.Value.pointer (none)), (Go.Value.string (nm))] (true, [(false, [.ptr]), (false, [.slice]), (false, [.int .i64])]) fun ((p0, _), (((a1 : Option Addr), (n2 : Nat), (c3 : Nat)), _), ((x4 : Int), _), _) =>
  π.call (8 : Nat) #[] (false, [(false, [.bool])]) fun (((b5 : Bool), _), _) =>
  π.ite (b5) (
    π.ite (decide ((↑n : Int) < (1000 : Int))) (
      π.nw (Go.Obj.cells #[] (9 : Nat) ((0 : Nat), (0 : Nat))) fun r6 =>
      π.app (9 : Nat) (1 : Nat) (16 : Nat) [(Go.Value.string (ByteArray.mk #[]))] (some (Addr.mk r6 (0 : Nat) none)) ((0 : Nat)) ((0 : Nat)) (Src.sl a n) fun a7 n8 c9 =>
      π.call (17 : Nat) #[(Go.Value.pointer (none)), (Go.Value.slice (a7) (n8) (c9))] (false, [(false, [.int .i64])]) fun (((x10 : Int), _), _) =>
      π.ite (x10 == (2 : Int)) (
        π.nw (Go.Obj.cells #[] (9 : Nat) ((0 : Nat), (0 : Nat))) fun r11 =>
        π.app (9 : Nat) (1 : Nat) (16 : Nat) [(Go.Value.string (ByteArray.mk #[]))] (some (Addr.mk r11 (0 : Nat) none)) ((0 : Nat)) ((0 : Nat)) (Src.sl a n) fun a12 n13 c14 =>
        π.call (19 : Nat) #[(Go.Value.pointer (none)), (Go.Value.slice (a12) (n13) (c14))] (false, [(false, [.int .i64])]) fun (((x15 : Int), _), _) =>
        π.ite (x15 == (2 : Int)) (
          π.ite (p0.isNone) (
            π.ite ((↑n2 : Int) == (0 : Int)) (
              π.ite (x4 == (2 : Int)) (
                π.ret (Go.Value.bool (true))
              ) (
                π.ret (Go.Value.bool (decide ((↑n : Int) ≥ (1000 : Int))))
              )
            ) (
              π.ret (Go.Value.bool (decide ((↑n : Int) ≥ (1000 : Int))))
            )
          ) (
            π.ret (Go.Value.bool (decide ((↑n : Int) ≥ (1000 : Int))))
          )
        ) (
          π.ret (Go.Value.bool (decide ((↑n : Int) ≥ (1000 : Int))))
        )
      ) (
        π.ret (Go.Value.bool (decide ((↑n : Int) ≥ (1000 : Int))))
      )
    ) (
      π.ret (Go.Value.bool (decide ((↑n : Int) ≥ (1000 : Int))))
    )
  ) (
    π.ret (Go.Value.bool (decide ((↑n : Int) ≥ (1000 : Int))))
  )

def ann_DiaryNil : Ann := { draws := [], join := [], loop := [] }
def la_DiaryNil : LA := { ptr := [], ty := [] }
set_option maxRecDepth 100000 in
theorem eq_DiaryNil {W : Type} (π : Prims W) (a : Option Addr) (n c : Nat) (nm : ByteArray) : bodyL π Try.prog la_DiaryNil ann_DiaryNil (mkFr (maskA [] [.v (.slice a n c), .v (.string nm)] 0) 55) Try.f5 (bodyOf Try.f5) (mkFr (List.map some [.v (.slice a n c), .v (.string nm)]) 55) = vc_DiaryNil π a n c nm := by kernel_rfl
theorem ok_DiaryNil (a : Option Addr) (n c : Nat) (nm : ByteArray) (R : Value → PH → Prop) (s : PH) (h : vc_DiaryNil (RP Try.prog R) a n c nm s) : DCalls Try.prog 5 (List.map AV.val [.v (.slice a n c), .v (.string nm)]).toArray s R :=
  calls_vcL (c := bodyOf Try.f5) (ann := ann_DiaryNil) la_DiaryNil (by kernel_rfl) Try.func5 rfl (by kernel_rfl) [.v (.slice a n c), .v (.string nm)] [] (by rw [Try.ntmps5]; exact Nat.le_of_ble_eq_true rfl) (by kernel_rfl) (by rw [show Try.f5.ntmps = 55 from Try.ntmps5, eq_DiaryNil]; exact h)

/-- lintel/lintellaw06.DiaryAgain -/
def vc_DiaryAgain {W : Type} (π : Prims W) (t : ByteArray) : W :=
  π.call (7 : Nat) #[] (false, [(false, [.ptr])]) fun ((p0, _), _) =>
  π.join [(false, [.ptr])] (fun J1 =>
    π.call (8 : Nat) #[] (false, [(false, [.bool])]) fun (((b2 : Bool), _), _) =>
    π.ite (!b2) (
      π.call (8 : Nat) #[] (false, [(false, [.bool])]) fun (((b3 : Bool), _), _) =>
      π.ret (Go.Value.bool (b3))
    ) (
      π.ite (decide ((↑t.size : Int) > (65536 : Int))) (
        π.call (8 : Nat) #[] (false, [(false, [.bool])]) fun (((b4 : Bool), _), _) =>
        π.ret (Go.Value.bool (b4))
      ) (
        π.call (9 : Nat) #[(Go.Value.pointer (p0)), (Go.Value.string (ByteArray.mk #[(102 : UInt8)])), (Go.Value.string (t))] (false, [(false, [.int .i64])]) fun (((x5 : Int), _), _) =>
        π.ite (x5 != (0 : Int)) (
          π.call (8 : Nat) #[] (false, [(false, [.bool])]) fun (((b6 : Bool), _), _) =>
          π.ret (Go.Value.bool (b6))
        ) (
          J1 ((p0, ()), ())
        )
      )
    )
  ) (fun ((p7, _), _) =>
    π.call (10 : Nat) #[(Go.Value.pointer (p7)), (Go.Value.string (ByteArray.mk #[(102 : UInt8)]))] (true, [(false, [.ptr]), (false, [.slice]), (false, [.int .i64])]) fun ((p8, _), (((a9 : Option Addr), (n10 : Nat), (c11 : Nat)), _), ((x12 : Int), _), _) =>
    π.call (11 : Nat) #[(Go.Value.pointer (p7)), (Go.Value.string (ByteArray.mk #[(102 : UInt8)]))] (true, [(false, [.str]), (false, [.int .i64])]) fun (((t13 : ByteArray), _), ((x14 : Int), _), _) =>
    π.call (12 : Nat) #[(Go.Value.pointer (p7)), (Go.Value.int (IntKind.i64) ((1 : Int)))] (true, []) fun (_) =>
    π.call (10 : Nat) #[(Go.Value.pointer (p7)), (Go.Value.string (ByteArray.mk #[(102 : UInt8)]))] (true, [(false, [.ptr]), (false, [.slice]), (false, [.int .i64])]) fun ((p15, _), (((a16 : Option Addr), (n17 : Nat), (c18 : Nat)), _), ((x19 : Int), _), _) =>
    π.call (11 : Nat) #[(Go.Value.pointer (p7)), (Go.Value.string (ByteArray.mk #[(102 : UInt8)]))] (true, [(false, [.str]), (false, [.int .i64])]) fun (((t20 : ByteArray), _), ((x21 : Int), _), _) =>
    π.call (13 : Nat) #[(Go.Value.string (t))] (true, [(false, [.slice]), (false, [.int .i64])]) fun ((((a22 : Option Addr), (n23 : Nat), (c24 : Nat)), _), ((x25 : Int), _), _) =>
    π.ite (x12 == (0 : Int)) (
      π.ite (x14 == (0 : Int)) (
        π.ite (x19 == (0 : Int)) (
          π.ite (x21 == (0 : Int)) (
            π.call (14 : Nat) #[(Go.Value.slice (a9) (n10) (c11)), (Go.Value.slice (a16) (n17) (c18))] (false, [(false, [.bool])]) fun (((b26 : Bool), _), _) =>
            π.ite (b26) (
              π.call (14 : Nat) #[(Go.Value.slice (a9) (n10) (c11)), (Go.Value.slice (a22) (n23) (c24))] (false, [(false, [.bool])]) fun (((b27 : Bool), _), _) =>
              π.ite (b27) (
                π.ite (t13.toList == t20.toList) (
                  π.guard ((0 : Int) ≤ (0 : Int) ∧ (0 : Int) ≤ x25 ∧ x25 ≤ (↑t.size : Int)) <|
                  π.ret (Go.Value.bool (t13.toList == (t.extract (0 : Nat) x25.toNat).toList))
                ) (
                  π.ret (Go.Value.bool (false))
                )
              ) (
                π.ret (Go.Value.bool (false))
              )
            ) (
              π.ret (Go.Value.bool (false))
            )
          ) (
            π.ret (Go.Value.bool (false))
          )
        ) (
          π.ret (Go.Value.bool (false))
        )
      ) (
        π.ret (Go.Value.bool (false))
      )
    ) (
      π.ret (Go.Value.bool (false))
    )
  )

def ann_DiaryAgain : Ann := { draws := [], join := [(4, [(3, 22)])], loop := [] }
def la_DiaryAgain : LA := { ptr := [], ty := [] }
set_option maxRecDepth 100000 in
theorem eq_DiaryAgain {W : Type} (π : Prims W) (t : ByteArray) : bodyL π Try.prog la_DiaryAgain ann_DiaryAgain (mkFr (maskA [] [.v (.string t)] 0) 96) Try.f3 (bodyOf Try.f3) (mkFr (List.map some [.v (.string t)]) 96) = vc_DiaryAgain π t := by kernel_rfl
theorem ok_DiaryAgain (t : ByteArray) (R : Value → PH → Prop) (s : PH) (h : vc_DiaryAgain (RP Try.prog R) t s) : DCalls Try.prog 3 (List.map AV.val [.v (.string t)]).toArray s R :=
  calls_vcL (c := bodyOf Try.f3) (ann := ann_DiaryAgain) la_DiaryAgain (by kernel_rfl) Try.func3 rfl (by kernel_rfl) [.v (.string t)] [] (by rw [Try.ntmps3]; exact Nat.le_of_ble_eq_true rfl) (by kernel_rfl) (by rw [show Try.f3.ntmps = 96 from Try.ntmps3, eq_DiaryAgain]; exact h)

/-- lintel/lintellaw06.DiaryPlays -/
def vc_DiaryPlays {W : Type} (π : Prims W) (nm : ByteArray) (a : Option Addr) (n c : Nat) : W :=
  π.join [] (fun J0 =>
    π.call (8 : Nat) #[] (false, [(false, [.bool])]) fun (((b1 : Bool), _), _) =>
    π.ite (!b1) (
      π.call (8 : Nat) #[] (false, [(false, [.bool])]) fun (((b2 : Bool), _), _) =>
      π.ret (Go.Value.bool (b2))
    ) (
      π.call (15 : Nat) #[(Go.Value.slice (a) (n) (c))] (false, [(false, [.bool])]) fun (((b3 : Bool), _), _) =>
      π.ite (b3) (
        π.call (8 : Nat) #[] (false, [(false, [.bool])]) fun (((b4 : Bool), _), _) =>
        π.ret (Go.Value.bool (b4))
      ) (
        J0 (())
      )
    )
  ) (fun (_) =>
    π.call (7 : Nat) #[] (false, [(false, [.ptr])]) fun ((p5, _), _) =>
    π.nw (Go.Obj.cells #[(Go.Value.slice (none) ((0 : Nat)) ((0 : Nat))), (Go.Value.bool (false)), (Go.Value.int (IntKind.i64) ((0 : Int)))] (43 : Nat) ((0 : Nat), (0 : Nat))) fun r6 =>
    π.call (10 : Nat) #[(Go.Value.pointer (p5)), (Go.Value.string (nm))] (true, [(false, [.ptr]), (false, [.slice]), (false, [.int .i64])]) fun ((p7, _), (((a8 : Option Addr), (n9 : Nat), (c10 : Nat)), _), ((x11 : Int), _), _) =>
    π.call (16 : Nat) #[(Go.Value.pointer (some (Addr.mk r6 (0 : Nat) none))), (Go.Value.string (nm))] (true, [(false, [.ptr]), (false, [.slice]), (false, [.int .i64])]) fun ((p12, _), (((a13 : Option Addr), (n14 : Nat), (c15 : Nat)), _), ((x16 : Int), _), _) =>
    π.join [(false, [.ptr]), (false, [.ptr]), (false, [.ptr]), (false, [.int .i64]), (false, [.ptr]), (false, [.int .i64])] (fun J17 =>
      π.ite (x11 != x16) (
        π.ret (Go.Value.bool (false))
      ) (
        π.ite (p7.isNone) (
          π.ret (Go.Value.bool (false))
        ) (
          J17 ((p5, ()), (some (Addr.mk r6 (0 : Nat) none), ()), (p7, ()), (x11, ()), (p12, ()), (x16, ()), ())
        )
      )
    ) (fun ((p18, _), (p19, _), (p20, _), ((x21 : Int), _), (p22, _), ((x23 : Int), _), _) =>
      π.loop [(false, [.ptr]), (false, [.ptr]), (false, [.ptr]), (false, [.int .i64]), (false, [.ptr]), (false, [.int .i64]), (false, [.slice]), (false, [.int .i64]), (false, [.int .i64])] ((p18, ()), (p19, ()), (p20, ()), (x21, ()), (p22, ()), (x23, ()), ((a, n, c), ()), ((↑n : Int), ()), ((0 : Int), ()), ()) fun ((p25, _), (p26, _), (p27, _), ((x28 : Int), _), (p29, _), ((x30 : Int), _), (((a31 : Option Addr), (n32 : Nat), (c33 : Nat)), _), ((x34 : Int), _), ((x35 : Int), _), _) again24 =>
        π.ite (decide (x35 < x34)) (
          π.guard ((0 : Int) ≤ x35 ∧ x35 < (↑n32 : Int)) <|
          π.unSome (a31) fun p36 =>
          π.ld [.int .i64, .slice, .int .i64, .slice] (p36.add (x35.toNat * (4 : Nat))) fun ((x37 : Int), ((a38 : Option Addr), (n39 : Nat), (c40 : Nat)), (x41 : Int), ((a42 : Option Addr), (n43 : Nat), (c44 : Nat)), _) =>
          π.join [(false, [.ptr]), (false, [.ptr]), (false, [.ptr]), (false, [.int .i64]), (false, [.ptr]), (false, [.int .i64]), (true, [.int .i64, .slice, .int .i64, .slice]), (false, [.slice]), (false, [.int .i64]), (false, [.int .i64])] (fun J45 =>
            π.ite (x37 == (1 : Int)) (
              π.nw (Go.Obj.cells #[] (9 : Nat) ((0 : Nat), (0 : Nat))) fun r46 =>
              π.app (9 : Nat) (1 : Nat) (16 : Nat) [(Go.Value.string (ByteArray.mk #[]))] (some (Addr.mk r46 (0 : Nat) none)) ((0 : Nat)) ((0 : Nat)) (Src.sl a38 n39) fun a47 n48 c49 =>
              π.call (17 : Nat) #[(Go.Value.pointer (p27)), (Go.Value.slice (a47) (n48) (c49))] (false, [(false, [.int .i64])]) fun (((x50 : Int), _), _) =>
              π.call (18 : Nat) #[(Go.Value.pointer (p29)), (Go.Value.slice (a38) (n39) (c40))] (false, [(false, [.int .i64])]) fun (((x51 : Int), _), _) =>
              J45 ((p25, ()), (p26, ()), (p27, ()), (x50, ()), (p29, ()), (x51, ()), (x37, (a38, n39, c40), x41, (a42, n43, c44), ()), ((a31, n32, c33), ()), (x34, ()), (x35, ()), ())
            ) (
              π.ite (x37 == (2 : Int)) (
                π.nw (Go.Obj.cells #[] (9 : Nat) ((0 : Nat), (0 : Nat))) fun r52 =>
                π.app (9 : Nat) (1 : Nat) (16 : Nat) [(Go.Value.string (ByteArray.mk #[]))] (some (Addr.mk r52 (0 : Nat) none)) ((0 : Nat)) ((0 : Nat)) (Src.sl a38 n39) fun a53 n54 c55 =>
                π.call (19 : Nat) #[(Go.Value.pointer (p27)), (Go.Value.slice (a53) (n54) (c55))] (false, [(false, [.int .i64])]) fun (((x56 : Int), _), _) =>
                π.call (20 : Nat) #[(Go.Value.pointer (p29)), (Go.Value.slice (a38) (n39) (c40))] (false, [(false, [.int .i64])]) fun (((x57 : Int), _), _) =>
                J45 ((p25, ()), (p26, ()), (p27, ()), (x56, ()), (p29, ()), (x57, ()), (x37, (a38, n39, c40), x41, (a42, n43, c44), ()), ((a31, n32, c33), ()), (x34, ()), (x35, ()), ())
              ) (
                π.ite (x37 == (3 : Int)) (
                  π.call (12 : Nat) #[(Go.Value.pointer (p25)), (Go.Value.int (IntKind.i64) (x41))] (true, []) fun (_) =>
                  π.call (21 : Nat) #[(Go.Value.pointer (p26)), (Go.Value.int (IntKind.i64) (x41))] (true, []) fun (_) =>
                  J45 ((p25, ()), (p26, ()), (p27, ()), (x28, ()), (p29, ()), (x30, ()), (x37, (a38, n39, c40), x41, (a42, n43, c44), ()), ((a31, n32, c33), ()), (x34, ()), (x35, ()), ())
                ) (
                  π.ite (x37 == (4 : Int)) (
                    π.nw (Go.Obj.cells #[] (3 : Nat) ((0 : Nat), (0 : Nat))) fun r58 =>
                    π.app (3 : Nat) (1 : Nat) (8 : Nat) [(Go.Value.int (IntKind.i64) ((0 : Int)))] (some (Addr.mk r58 (0 : Nat) none)) ((0 : Nat)) ((0 : Nat)) (Src.sl a42 n43) fun a59 n60 c61 =>
                    π.call (22 : Nat) #[(Go.Value.pointer (p25)), (Go.Value.slice (a59) (n60) (c61))] (false, [(false, [.ptr])]) fun ((p62, _), _) =>
                    π.call (23 : Nat) #[(Go.Value.pointer (p26)), (Go.Value.slice (a42) (n43) (c44))] (false, [(false, [.ptr])]) fun ((p63, _), _) =>
                    J45 ((p62, ()), (p63, ()), (p27, ()), (x28, ()), (p29, ()), (x30, ()), (x37, (a38, n39, c40), x41, (a42, n43, c44), ()), ((a31, n32, c33), ()), (x34, ()), (x35, ()), ())
                  ) (
                    J45 ((p25, ()), (p26, ()), (p27, ()), (x28, ()), (p29, ()), (x30, ()), (x37, (a38, n39, c40), x41, (a42, n43, c44), ()), ((a31, n32, c33), ()), (x34, ()), (x35, ()), ())
                  )
                )
              )
            )
          ) (fun ((p64, _), (p65, _), (p66, _), ((x67 : Int), _), (p68, _), ((x69 : Int), _), ((x70 : Int), ((a71 : Option Addr), (n72 : Nat), (c73 : Nat)), (x74 : Int), ((a75 : Option Addr), (n76 : Nat), (c77 : Nat)), _), (((a78 : Option Addr), (n79 : Nat), (c80 : Nat)), _), ((x81 : Int), _), ((x82 : Int), _), _) =>
            π.ite (x67 != x69) (
              π.ret (Go.Value.bool (false))
            ) (
              π.join [(false, [.ptr]), (false, [.ptr]), (false, [.ptr]), (false, [.int .i64]), (false, [.ptr]), (false, [.int .i64]), (false, [.slice]), (false, [.int .i64]), (false, [.int .i64]), (false, [.bool])] (fun J83 =>
                π.ite (decide (x70 < (1 : Int))) (
                  J83 ((p64, ()), (p65, ()), (p66, ()), (x67, ()), (p68, ()), (x69, ()), ((a78, n79, c80), ()), (x81, ()), (x82, ()), (true, ()), ())
                ) (
                  J83 ((p64, ()), (p65, ()), (p66, ()), (x67, ()), (p68, ()), (x69, ()), ((a78, n79, c80), ()), (x81, ()), (x82, ()), (decide (x70 > (3 : Int)), ()), ())
                )
              ) (fun ((p84, _), (p85, _), (p86, _), ((x87 : Int), _), (p88, _), ((x89 : Int), _), (((a90 : Option Addr), (n91 : Nat), (c92 : Nat)), _), ((x93 : Int), _), ((x94 : Int), _), ((b95 : Bool), _), _) =>
                π.ite (b95) (
                  π.call (10 : Nat) #[(Go.Value.pointer (p84)), (Go.Value.string (nm))] (true, [(false, [.ptr]), (false, [.slice]), (false, [.int .i64])]) fun ((p96, _), (((a97 : Option Addr), (n98 : Nat), (c99 : Nat)), _), ((x100 : Int), _), _) =>
                  π.call (16 : Nat) #[(Go.Value.pointer (p85)), (Go.Value.string (nm))] (true, [(false, [.ptr]), (false, [.slice]), (false, [.int .i64])]) fun ((p101, _), (((a102 : Option Addr), (n103 : Nat), (c104 : Nat)), _), ((x105 : Int), _), _) =>
                  π.ite (x100 != x105) (
                    π.ret (Go.Value.bool (false))
                  ) (
                    π.call (14 : Nat) #[(Go.Value.slice (a97) (n98) (c99)), (Go.Value.slice (a102) (n103) (c104))] (false, [(false, [.bool])]) fun (((b106 : Bool), _), _) =>
                    π.ite (!b106) (
                      π.ret (Go.Value.bool (false))
                    ) (
                      π.ite (!p96.isNone == p101.isNone) (
                        π.ret (Go.Value.bool (false))
                      ) (
                        π.ite (!p96.isNone) (
                          π.call (11 : Nat) #[(Go.Value.pointer (p84)), (Go.Value.string (nm))] (true, [(false, [.str]), (false, [.int .i64])]) fun (((t107 : ByteArray), _), ((x108 : Int), _), _) =>
                          π.call (24 : Nat) #[(Go.Value.pointer (p85)), (Go.Value.string (nm))] (true, [(false, [.str]), (false, [.int .i64])]) fun (((t109 : ByteArray), _), ((x110 : Int), _), _) =>
                          π.ite (!t107.toList == t109.toList) (
                            π.ret (Go.Value.bool (false))
                          ) (
                            π.ite (x108 != x110) (
                              π.ret (Go.Value.bool (false))
                            ) (
                              again24 ((p84, ()), (p85, ()), (p96, ()), (x87, ()), (p101, ()), (x89, ()), ((a90, n91, c92), ()), (x93, ()), (IntKind.i64.wrap (x94 + (1 : Int)), ()), ())
                            )
                          )
                        ) (
                          π.call (11 : Nat) #[(Go.Value.pointer (p84)), (Go.Value.string (nm))] (true, [(false, [.str]), (false, [.int .i64])]) fun (((t111 : ByteArray), _), ((x112 : Int), _), _) =>
                          π.call (24 : Nat) #[(Go.Value.pointer (p85)), (Go.Value.string (nm))] (true, [(false, [.str]), (false, [.int .i64])]) fun (((t113 : ByteArray), _), ((x114 : Int), _), _) =>
                          π.ite (!t111.toList == t113.toList) (
                            π.ret (Go.Value.bool (false))
                          ) (
                            π.ite (x112 != x114) (
                              π.ret (Go.Value.bool (false))
                            ) (
                              again24 ((p84, ()), (p85, ()), (p86, ()), (x87, ()), (p88, ()), (x89, ()), ((a90, n91, c92), ()), (x93, ()), (IntKind.i64.wrap (x94 + (1 : Int)), ()), ())
                            )
                          )
                        )
                      )
                    )
                  )
                ) (
                  π.call (11 : Nat) #[(Go.Value.pointer (p84)), (Go.Value.string (nm))] (true, [(false, [.str]), (false, [.int .i64])]) fun (((t115 : ByteArray), _), ((x116 : Int), _), _) =>
                  π.call (24 : Nat) #[(Go.Value.pointer (p85)), (Go.Value.string (nm))] (true, [(false, [.str]), (false, [.int .i64])]) fun (((t117 : ByteArray), _), ((x118 : Int), _), _) =>
                  π.ite (!t115.toList == t117.toList) (
                    π.ret (Go.Value.bool (false))
                  ) (
                    π.ite (x116 != x118) (
                      π.ret (Go.Value.bool (false))
                    ) (
                      again24 ((p84, ()), (p85, ()), (p86, ()), (x87, ()), (p88, ()), (x89, ()), ((a90, n91, c92), ()), (x93, ()), (IntKind.i64.wrap (x94 + (1 : Int)), ()), ())
                    )
                  )
                )
              )
            )
          )
        ) (
          π.ret (Go.Value.bool (true))
        )
    )
  )

def ann_DiaryPlays : Ann := { draws := [(13, { A := [0, 2, 3, 6, 7, 8], chkL := [(4, [8]), (5, [8])], eag := [10, 11] }), (15, { A := [0, 2, 3, 6, 7, 8], chkL := [(4, [8]), (5, [8])], eag := [10, 11] }), (20, { A := [0, 2, 3, 6, 7, 8], chkL := [(4, [8]), (5, [8])] })], join := [(3, []), (8, [(5, 22), (6, 40), (7, 27), (9, 25), (10, 44), (12, 3)]), (21, [(5, 22), (6, 40), (7, 27), (9, 25), (10, 44), (12, 3), (14, 49), (56, 38), (57, 3), (58, 3)]), (24, [(5, 22), (6, 40), (7, 27), (9, 25), (10, 44), (12, 3), (56, 38), (57, 3), (58, 3), (120, 4)])], loop := [(9, [(5, 22), (6, 40), (7, 27), (9, 25), (10, 44), (12, 3), (56, 38), (57, 3), (58, 3)])] }
def la_DiaryPlays : LA := { ptr := [(14, 14, 0), (62, 14, 0), (68, 14, 1), (73, 14, 1), (80, 14, 1), (85, 14, 1), (91, 14, 2), (95, 14, 2), (102, 14, 3), (107, 14, 3), (113, 14, 0), (117, 14, 0)], ty := [(14, 49)] }
set_option maxRecDepth 100000 in
theorem eq_DiaryPlays {W : Type} (π : Prims W) (nm : ByteArray) (a : Option Addr) (n c : Nat) : bodyL π Try.prog la_DiaryPlays ann_DiaryPlays (mkFr (maskA [] [.v (.string nm), .v (.slice a n c)] 0) 176) Try.f4 (bodyOf Try.f4) (mkFr (List.map some [.v (.string nm), .v (.slice a n c)]) 176) = vc_DiaryPlays π nm a n c := by kernel_rfl
theorem ok_DiaryPlays (nm : ByteArray) (a : Option Addr) (n c : Nat) (R : Value → PH → Prop) (s : PH) (h : vc_DiaryPlays (RP Try.prog R) nm a n c s) : DCalls Try.prog 4 (List.map AV.val [.v (.string nm), .v (.slice a n c)]).toArray s R :=
  calls_vcL (c := bodyOf Try.f4) (ann := ann_DiaryPlays) la_DiaryPlays (by kernel_rfl) Try.func4 rfl (by kernel_rfl) [.v (.string nm), .v (.slice a n c)] [] (by rw [Try.ntmps4]; exact Nat.le_of_ble_eq_true rfl) (by kernel_rfl) (by rw [show Try.f4.ntmps = 176 from Try.ntmps4, eq_DiaryPlays]; exact h)

/-- lintel/lintellaw06.DiaryKeeps -/
def vc_DiaryKeeps {W : Type} (π : Prims W) (a : Option Addr) (n c : Nat) : W :=
  π.join [] (fun J0 =>
    π.call (8 : Nat) #[] (false, [(false, [.bool])]) fun (((b1 : Bool), _), _) =>
    π.ite (!b1) (
      π.call (8 : Nat) #[] (false, [(false, [.bool])]) fun (((b2 : Bool), _), _) =>
      π.ret (Go.Value.bool (b2))
    ) (
      π.call (15 : Nat) #[(Go.Value.slice (a) (n) (c))] (false, [(false, [.bool])]) fun (((b3 : Bool), _), _) =>
      π.ite (b3) (
        π.call (8 : Nat) #[] (false, [(false, [.bool])]) fun (((b4 : Bool), _), _) =>
        π.ret (Go.Value.bool (b4))
      ) (
        J0 (())
      )
    )
  ) (fun (_) =>
    π.call (7 : Nat) #[] (false, [(false, [.ptr])]) fun ((p5, _), _) =>
    π.call (10 : Nat) #[(Go.Value.pointer (p5)), (Go.Value.string (ByteArray.mk #[(102 : UInt8)]))] (true, [(false, [.ptr]), (false, [.slice]), (false, [.int .i64])]) fun ((p6, _), (((a7 : Option Addr), (n8 : Nat), (c9 : Nat)), _), ((x10 : Int), _), _) =>
    π.ite (x10 != (0 : Int)) (
      π.ret (Go.Value.bool (false))
    ) (
      π.loop [(false, [.ptr]), (false, [.ptr]), (false, [.slice]), (false, [.int .i64]), (false, [.slice]), (false, [.int .i64]), (false, [.int .i64])] ((p5, ()), (p6, ()), ((none, (0 : Nat), (0 : Nat)), ()), ((0 : Int), ()), ((a, n, c), ()), ((↑n : Int), ()), ((0 : Int), ()), ()) fun ((p12, _), (p13, _), (((a14 : Option Addr), (n15 : Nat), (c16 : Nat)), _), ((x17 : Int), _), (((a18 : Option Addr), (n19 : Nat), (c20 : Nat)), _), ((x21 : Int), _), ((x22 : Int), _), _) again11 =>
        π.ite (decide (x22 < x21)) (
          π.guard ((0 : Int) ≤ x22 ∧ x22 < (↑n19 : Int)) <|
          π.unSome (a18) fun p23 =>
          π.ld [.int .i64, .slice, .int .i64, .slice] (p23.add (x22.toNat * (4 : Nat))) fun ((x24 : Int), ((a25 : Option Addr), (n26 : Nat), (c27 : Nat)), (x28 : Int), ((a29 : Option Addr), (n30 : Nat), (c31 : Nat)), _) =>
          π.ite (x24 == (1 : Int)) (
            π.join [(false, [.ptr]), (false, [.ptr]), (false, [.slice]), (false, [.int .i64]), (true, [.int .i64, .slice, .int .i64, .slice]), (false, [.slice]), (false, [.int .i64]), (false, [.int .i64])] (fun J32 =>
              π.nw (Go.Obj.cells #[] (9 : Nat) ((0 : Nat), (0 : Nat))) fun r33 =>
              π.app (9 : Nat) (1 : Nat) (16 : Nat) [(Go.Value.string (ByteArray.mk #[]))] (some (Addr.mk r33 (0 : Nat) none)) ((0 : Nat)) ((0 : Nat)) (Src.sl a25 n26) fun a34 n35 c36 =>
              π.call (17 : Nat) #[(Go.Value.pointer (p13)), (Go.Value.slice (a34) (n35) (c36))] (false, [(false, [.int .i64])]) fun (((x37 : Int), _), _) =>
              π.ite (x37 != (0 : Int)) (
                π.ite (x37 != (50 : Int)) (
                  π.ret (Go.Value.bool (x37 == (30 : Int)))
                ) (
                  J32 ((p12, ()), (p13, ()), ((a14, n15, c16), ()), (x17, ()), (x24, (a25, n26, c27), x28, (a29, n30, c31), ()), ((a18, n19, c20), ()), (x21, ()), (x22, ()), ())
                )
              ) (
                J32 ((p12, ()), (p13, ()), ((a14, n15, c16), ()), (x17, ()), (x24, (a25, n26, c27), x28, (a29, n30, c31), ()), ((a18, n19, c20), ()), (x21, ()), (x22, ()), ())
              )
            ) (fun ((p38, _), (p39, _), (((a40 : Option Addr), (n41 : Nat), (c42 : Nat)), _), ((x43 : Int), _), ((x44 : Int), ((a45 : Option Addr), (n46 : Nat), (c47 : Nat)), (x48 : Int), ((a49 : Option Addr), (n50 : Nat), (c51 : Nat)), _), (((a52 : Option Addr), (n53 : Nat), (c54 : Nat)), _), ((x55 : Int), _), ((x56 : Int), _), _) =>
              π.call (25 : Nat) #[(Go.Value.pointer (p38))] (false, [(false, [.bool])]) fun (((b57 : Bool), _), _) =>
              π.ite (!b57) (
                π.app (9 : Nat) (1 : Nat) (16 : Nat) [(Go.Value.string (ByteArray.mk #[]))] (a40) (n41) (c42) (Src.sl a45 n46) fun a58 n59 c60 =>
                again11 ((p38, ()), (p39, ()), ((a58, n59, c60), ()), ((↑n59 : Int), ()), ((a52, n53, c54), ()), (x55, ()), (IntKind.i64.wrap (x56 + (1 : Int)), ()), ())
              ) (
                π.ite ((↑n41 : Int) == x43) (
                  π.app (9 : Nat) (1 : Nat) (16 : Nat) [(Go.Value.string (ByteArray.mk #[]))] (a40) (n41) (c42) (Src.sl a45 n46) fun a61 n62 c63 =>
                  again11 ((p38, ()), (p39, ()), ((a61, n62, c63), ()), (x43, ()), ((a52, n53, c54), ()), (x55, ()), (IntKind.i64.wrap (x56 + (1 : Int)), ()), ())
                ) (
                  again11 ((p38, ()), (p39, ()), ((a40, n41, c42), ()), (x43, ()), ((a52, n53, c54), ()), (x55, ()), (IntKind.i64.wrap (x56 + (1 : Int)), ()), ())
                )
              )
            )
          ) (
            π.ite (x24 == (2 : Int)) (
              π.nw (Go.Obj.cells #[] (9 : Nat) ((0 : Nat), (0 : Nat))) fun r64 =>
              π.app (9 : Nat) (1 : Nat) (16 : Nat) [(Go.Value.string (ByteArray.mk #[]))] (some (Addr.mk r64 (0 : Nat) none)) ((0 : Nat)) ((0 : Nat)) (Src.sl a25 n26) fun a65 n66 c67 =>
              π.call (19 : Nat) #[(Go.Value.pointer (p13)), (Go.Value.slice (a65) (n66) (c67))] (false, [(false, [.int .i64])]) fun (((x68 : Int), _), _) =>
              π.ite (x68 == (0 : Int)) (
                π.nw (Go.Obj.cells #[] (9 : Nat) ((0 : Nat), (0 : Nat))) fun r69 =>
                π.app (9 : Nat) (1 : Nat) (16 : Nat) [(Go.Value.string (ByteArray.mk #[]))] (some (Addr.mk r69 (0 : Nat) none)) ((0 : Nat)) ((0 : Nat)) (Src.sl a25 n26) fun a70 n71 c72 =>
                again11 ((p12, ()), (p13, ()), ((a70, n71, c72), ()), ((↑n71 : Int), ()), ((a18, n19, c20), ()), (x21, ()), (IntKind.i64.wrap (x22 + (1 : Int)), ()), ())
              ) (
                again11 ((p12, ()), (p13, ()), ((a14, n15, c16), ()), (x17, ()), ((a18, n19, c20), ()), (x21, ()), (IntKind.i64.wrap (x22 + (1 : Int)), ()), ())
              )
            ) (
              π.ite (x24 == (3 : Int)) (
                π.call (12 : Nat) #[(Go.Value.pointer (p12)), (Go.Value.int (IntKind.i64) (x28))] (true, []) fun (_) =>
                again11 ((p12, ()), (p13, ()), ((a14, n15, c16), ()), (x17, ()), ((a18, n19, c20), ()), (x21, ()), (IntKind.i64.wrap (x22 + (1 : Int)), ()), ())
              ) (
                π.ite (x24 == (4 : Int)) (
                  π.nw (Go.Obj.cells #[] (3 : Nat) ((0 : Nat), (0 : Nat))) fun r73 =>
                  π.app (3 : Nat) (1 : Nat) (8 : Nat) [(Go.Value.int (IntKind.i64) ((0 : Int)))] (some (Addr.mk r73 (0 : Nat) none)) ((0 : Nat)) ((0 : Nat)) (Src.sl a29 n30) fun a74 n75 c76 =>
                  π.call (22 : Nat) #[(Go.Value.pointer (p12)), (Go.Value.slice (a74) (n75) (c76))] (false, [(false, [.ptr])]) fun ((p77, _), _) =>
                  π.call (10 : Nat) #[(Go.Value.pointer (p77)), (Go.Value.string (ByteArray.mk #[(102 : UInt8)]))] (true, [(false, [.ptr]), (false, [.slice]), (false, [.int .i64])]) fun ((p78, _), (((a79 : Option Addr), (n80 : Nat), (c81 : Nat)), _), ((x82 : Int), _), _) =>
                  π.ite (x82 != (0 : Int)) (
                    π.ret (Go.Value.bool (false))
                  ) (
                    π.ite (p78.isNone) (
                      π.ret (Go.Value.bool (false))
                    ) (
                      π.ite (decide ((↑n80 : Int) < x17)) (
                        π.ret (Go.Value.bool (false))
                      ) (
                        π.ite (decide ((↑n80 : Int) > (↑n15 : Int))) (
                          π.ret (Go.Value.bool (false))
                        ) (
                          π.guard ((0 : Int) ≤ (0 : Int) ∧ (0 : Int) ≤ (↑n80 : Int) ∧ (↑n80 : Int) ≤ (↑c16 : Int)) <|
                          π.call (14 : Nat) #[(Go.Value.slice (a79) (n80) (c81)), (Go.Value.slice (if c16 = (0 : Nat) then a14 else Option.map (fun x => x.add (0 : Nat)) a14) ((↑n80 : Int).toNat - (0 : Nat)) (c16 - (0 : Nat)))] (false, [(false, [.bool])]) fun (((b83 : Bool), _), _) =>
                          π.ite (!b83) (
                            π.ret (Go.Value.bool (false))
                          ) (
                            π.nw (Go.Obj.cells #[] (9 : Nat) ((0 : Nat), (0 : Nat))) fun r84 =>
                            π.app (9 : Nat) (1 : Nat) (16 : Nat) [(Go.Value.string (ByteArray.mk #[]))] (some (Addr.mk r84 (0 : Nat) none)) ((0 : Nat)) ((0 : Nat)) (Src.sl a79 n80) fun a85 n86 c87 =>
                            again11 ((p77, ()), (p78, ()), ((a85, n86, c87), ()), ((↑n86 : Int), ()), ((a18, n19, c20), ()), (x21, ()), (IntKind.i64.wrap (x22 + (1 : Int)), ()), ())
                          )
                        )
                      )
                    )
                  )
                ) (
                  again11 ((p12, ()), (p13, ()), ((a14, n15, c16), ()), (x17, ()), ((a18, n19, c20), ()), (x21, ()), (IntKind.i64.wrap (x22 + (1 : Int)), ()), ())
                )
              )
            )
          )
        ) (
          π.ret (Go.Value.bool (true))
        )
    )
  )

def ann_DiaryKeeps : Ann := { draws := [], join := [(3, []), (17, [(3, 22), (4, 27), (7, 28), (8, 3), (10, 49), (31, 38), (32, 3), (33, 3)])], loop := [(10, [(3, 22), (4, 27), (7, 28), (8, 3), (31, 38), (32, 3), (33, 3)])] }
def la_DiaryKeeps : LA := { ptr := [(10, 10, 0), (37, 10, 0), (43, 10, 1), (59, 10, 1), (69, 10, 1), (76, 10, 1), (82, 10, 1), (90, 10, 2), (97, 10, 3)], ty := [(10, 49)] }
set_option maxRecDepth 100000 in
theorem eq_DiaryKeeps {W : Type} (π : Prims W) (a : Option Addr) (n c : Nat) : bodyL π Try.prog la_DiaryKeeps ann_DiaryKeeps (mkFr (maskA [] [.v (.slice a n c)] 0) 142) Try.f6 (bodyOf Try.f6) (mkFr (List.map some [.v (.slice a n c)]) 142) = vc_DiaryKeeps π a n c := by kernel_rfl
theorem ok_DiaryKeeps (a : Option Addr) (n c : Nat) (R : Value → PH → Prop) (s : PH) (h : vc_DiaryKeeps (RP Try.prog R) a n c s) : DCalls Try.prog 6 (List.map AV.val [.v (.slice a n c)]).toArray s R :=
  calls_vcL (c := bodyOf Try.f6) (ann := ann_DiaryKeeps) la_DiaryKeeps (by kernel_rfl) Try.func6 rfl (by kernel_rfl) [.v (.slice a n c)] [] (by rw [Try.ntmps6]; exact Nat.le_of_ble_eq_true rfl) (by kernel_rfl) (by rw [show Try.f6.ntmps = 142 from Try.ntmps6, eq_DiaryKeeps]; exact h)

end Go.Proofs.Ytcdggocbjnmeaaa
