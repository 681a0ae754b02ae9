/-
  The functions of the strip and of the diary, the program's and the document's: printed by a program of this session's own, each proved to be the function's by the kernel.
  Conditions: none; it proves no statement by itself.
-/
import Derived.Test.YtcdggocbjnmeaaaFwU
import Derived.Test.YtcdggocbjnmeaaaProg
set_option linter.unusedVariables false
set_option maxHeartbeats 1000000
namespace Go.Proofs.Ytcdggocbjnmeaaa
open Fw Fw.W Go

/-- lintel/strip.Sum -/
def vc_Sum {W : Type} (π : Prims W) (t : ByteArray) : W :=
  π.loop [(false, [.int .u32]), (false, [.int .i64]), (false, [.int .i64])] (((4294967295 : Int), ()), ((↑t.size : Int), ()), ((0 : Int), ()), ()) fun (((x1 : Int), _), ((x2 : Int), _), ((x3 : Int), _), _) again0 =>
    π.ite (decide (x3 < x2)) (
      π.guard ((0 : Int) ≤ x3 ∧ x3 < (↑t.size : Int)) <|
      π.loop [(false, [.int .u32]), (false, [.int .i64]), (false, [.int .i64]), (false, [.int .i64])] ((IntKind.u32.wrap (↑(BitVec.ofInt (32 : Nat) x1 ^^^ BitVec.ofInt (32 : Nat) (IntKind.u32.wrap (↑(t[x3.toNat]?.getD (0 : UInt8)).toNat : Int))).toNat : Int), ()), (x2, ()), (x3, ()), ((0 : Int), ()), ()) fun (((x5 : Int), _), ((x6 : Int), _), ((x7 : Int), _), ((x8 : Int), _), _) again4 =>
        π.ite (decide (x8 < (8 : Int))) (
          again4 ((IntKind.u32.wrap (↑(BitVec.ofInt (32 : Nat) (x5.fdiv (2 : Int)) ^^^ BitVec.ofInt (32 : Nat) (IntKind.u32.wrap (↑(BitVec.ofInt (32 : Nat) (3988292384 : Int) &&& BitVec.ofInt (32 : Nat) (IntKind.u32.wrap ((0 : Int) - IntKind.u32.wrap (↑(BitVec.ofInt (32 : Nat) x5 &&& BitVec.ofInt (32 : Nat) (1 : Int)).toNat : Int)))).toNat : Int))).toNat : Int), ()), (x6, ()), (x7, ()), (IntKind.i64.wrap (x8 + (1 : Int)), ()), ())
        ) (
          again0 ((x5, ()), (x6, ()), (IntKind.i64.wrap (x7 + (1 : Int)), ()), ())
        )
    ) (
      π.ret (Go.Value.int (IntKind.u32) (IntKind.u32.wrap (↑(BitVec.ofInt (32 : Nat) (4294967295 : Int) ^^^ BitVec.ofInt (32 : Nat) x1).toNat : Int)))
    )

def ann_Sum : Ann := { draws := [], join := [], loop := [(3, [(3, 81), (6, 3), (7, 3)]), (7, [(3, 81), (6, 3), (7, 3), (16, 3)])] }
def la_Sum : LA := { ptr := [], ty := [] }
set_option maxRecDepth 100000 in
theorem eq_Sum {W : Type} (π : Prims W) (t : ByteArray) : bodyL π Try.prog la_Sum ann_Sum (mkFr (maskA [] [.v (.string t)] 0) 29) Try.f46 (bodyOf Try.f46) (mkFr (List.map some [.v (.string t)]) 29) = vc_Sum π t := by kernel_rfl
theorem ok_Sum (t : ByteArray) (R : Value → PH → Prop) (s : PH) (h : vc_Sum (RP Try.prog R) t s) : DCalls Try.prog 46 (List.map AV.val [.v (.string t)]).toArray s R :=
  calls_vcL (c := bodyOf Try.f46) (ann := ann_Sum) la_Sum (by kernel_rfl) Try.func46 rfl (by kernel_rfl) [.v (.string t)] [] (by rw [Try.ntmps46]; exact Nat.le_of_ble_eq_true rfl) (by kernel_rfl) (by rw [show Try.f46.ntmps = 29 from Try.ntmps46, eq_Sum]; exact h)

/-- lintel/strip.long -/
def vc_long {W : Type} (π : Prims W) (n : Int) : W :=
  π.nw (Go.Obj.cells #[(Go.Value.int (IntKind.u8) (IntKind.u8.wrap (n.fdiv (16777216 : Int)))), (Go.Value.int (IntKind.u8) (IntKind.u8.wrap (n.fdiv (65536 : Int)))), (Go.Value.int (IntKind.u8) (IntKind.u8.wrap (n.fdiv (256 : Int)))), (Go.Value.int (IntKind.u8) (IntKind.u8.wrap n))] (5 : Nat) ((0 : Nat), (0 : Nat))) fun r0 =>
  π.b2s (some (Addr.mk r0 (0 : Nat) none)) ((4 : Nat)) fun t1 =>
  π.ret (Go.Value.string (t1))

def ann_long : Ann := { draws := [], join := [], loop := [] }
def la_long : LA := { ptr := [], ty := [] }
set_option maxRecDepth 100000 in
theorem eq_long {W : Type} (π : Prims W) (n : Int) : bodyL π Try.prog la_long ann_long (mkFr (maskA [] [.v (.int .i64 n)] 0) 16) Try.f47 (bodyOf Try.f47) (mkFr (List.map some [.v (.int .i64 n)]) 16) = vc_long π n := by kernel_rfl
theorem ok_long (n : Int) (R : Value → PH → Prop) (s : PH) (h : vc_long (RP Try.prog R) n s) : DCalls Try.prog 47 (List.map AV.val [.v (.int .i64 n)]).toArray s R :=
  calls_vcL (c := bodyOf Try.f47) (ann := ann_long) la_long (by kernel_rfl) Try.func47 rfl (by kernel_rfl) [.v (.int .i64 n)] [] (by rw [Try.ntmps47]; exact Nat.le_of_ble_eq_true rfl) (by kernel_rfl) (by rw [show Try.f47.ntmps = 16 from Try.ntmps47, eq_long]; exact h)

/-- lintel/strip.Put -/
def vc_Put {W : Type} (π : Prims W) (t : ByteArray) : W :=
  π.ite (decide ((↑t.size : Int) > (65536 : Int))) (
    π.ret (Go.Value.tuple #[(Go.Value.string (ByteArray.mk #[])), (Go.Value.int (IntKind.i64) ((30 : Int)))])
  ) (
    π.call (47 : Nat) #[(Go.Value.int (IntKind.i64) ((↑t.size : Int)))] (false, [(false, [.str])]) fun (((t0 : ByteArray), _), _) =>
    π.guard ((↑(t0.size + t.size) : Int) ≤ (9223372036854775807 : Int)) <|
    π.call (46 : Nat) #[(Go.Value.string (t0 ++ t))] (false, [(false, [.int .u32])]) fun (((x1 : Int), _), _) =>
    π.callQ (47 : Nat) #[(Go.Value.int (IntKind.i64) ((↑t.size : Int)))] (false, [(false, [.str])]) fun (((t2 : ByteArray), _), _) =>
    π.nw (Go.Obj.cells #[(Go.Value.int (IntKind.u8) (IntKind.u8.wrap x1)), (Go.Value.int (IntKind.u8) (IntKind.u8.wrap (x1.fdiv (256 : Int)))), (Go.Value.int (IntKind.u8) (IntKind.u8.wrap (x1.fdiv (65536 : Int)))), (Go.Value.int (IntKind.u8) (IntKind.u8.wrap (x1.fdiv (16777216 : Int))))] (5 : Nat) ((0 : Nat), (0 : Nat))) fun r3 =>
    π.b2s (some (Addr.mk r3 (0 : Nat) none)) ((4 : Nat)) fun t4 =>
    π.guard ((↑(t2.size + t4.size) : Int) ≤ (9223372036854775807 : Int)) <|
    π.guard ((↑((t2 ++ t4).size + t.size) : Int) ≤ (9223372036854775807 : Int)) <|
    π.ret (Go.Value.tuple #[(Go.Value.string (t2 ++ t4 ++ t)), (Go.Value.int (IntKind.i64) ((0 : Int)))])
  )

def ann_Put : Ann := { draws := [(4, { A := [0, 1, 2, 3, 4, 5, 6, 7, 8, 9, 10, 11, 12, 13, 17], quiet := [2], eag := [16, 18, 19, 20] })], join := [], loop := [] }
def la_Put : LA := { ptr := [], ty := [] }
set_option maxRecDepth 100000 in
theorem eq_Put {W : Type} (π : Prims W) (t : ByteArray) : bodyL π Try.prog la_Put ann_Put (mkFr (maskA [] [.v (.string t)] 0) 33) Try.f42 (bodyOf Try.f42) (mkFr (List.map some [.v (.string t)]) 33) = vc_Put π t := by kernel_rfl
theorem ok_Put (t : ByteArray) (R : Value → PH → Prop) (s : PH) (h : vc_Put (RP Try.prog R) t s) : DCalls Try.prog 42 (List.map AV.val [.v (.string t)]).toArray s R :=
  calls_vcL (c := bodyOf Try.f42) (ann := ann_Put) la_Put (by kernel_rfl) Try.func42 rfl (by kernel_rfl) [.v (.string t)] [] (by rw [Try.ntmps42]; exact Nat.le_of_ble_eq_true rfl) (by kernel_rfl) (by rw [show Try.f42.ntmps = 33 from Try.ntmps42, eq_Put]; exact h)

/-- lintel/strip.first -/
def vc_first {W : Type} (π : Prims W) (t : ByteArray) : W :=
  π.ite (decide ((↑t.size : Int) < (8 : Int))) (
    π.ret (Go.Value.tuple #[(Go.Value.string (ByteArray.mk #[])), (Go.Value.bool (false))])
  ) (
    π.guard ((0 : Int) ≤ (0 : Int) ∧ (0 : Int) < (↑t.size : Int)) <|
    π.guard ((0 : Int) ≤ (1 : Int) ∧ (1 : Int) < (↑t.size : Int)) <|
    π.guard ((0 : Int) ≤ (2 : Int) ∧ (2 : Int) < (↑t.size : Int)) <|
    π.guard ((0 : Int) ≤ (3 : Int) ∧ (3 : Int) < (↑t.size : Int)) <|
    π.ite (decide (IntKind.i64.wrap (↑(BitVec.ofInt (64 : Nat) (IntKind.i64.wrap (↑(BitVec.ofInt (64 : Nat) (IntKind.i64.wrap (↑(BitVec.ofInt (64 : Nat) (IntKind.i64.wrap (IntKind.i64.wrap (↑(t[(0 : Nat)]?.getD (0 : UInt8)).toNat : Int) * (16777216 : Int))) ||| BitVec.ofInt (64 : Nat) (IntKind.i64.wrap (IntKind.i64.wrap (↑(t[(1 : Nat)]?.getD (0 : UInt8)).toNat : Int) * (65536 : Int)))).toNat : Int)) ||| BitVec.ofInt (64 : Nat) (IntKind.i64.wrap (IntKind.i64.wrap (↑(t[(2 : Nat)]?.getD (0 : UInt8)).toNat : Int) * (256 : Int)))).toNat : Int)) ||| BitVec.ofInt (64 : Nat) (IntKind.i64.wrap (↑(t[(3 : Nat)]?.getD (0 : UInt8)).toNat : Int))).toNat : Int) > (65536 : Int))) (
      π.ret (Go.Value.tuple #[(Go.Value.string (ByteArray.mk #[])), (Go.Value.bool (false))])
    ) (
      π.ite (decide (IntKind.i64.wrap (↑(BitVec.ofInt (64 : Nat) (IntKind.i64.wrap (↑(BitVec.ofInt (64 : Nat) (IntKind.i64.wrap (↑(BitVec.ofInt (64 : Nat) (IntKind.i64.wrap (IntKind.i64.wrap (↑(t[(0 : Nat)]?.getD (0 : UInt8)).toNat : Int) * (16777216 : Int))) ||| BitVec.ofInt (64 : Nat) (IntKind.i64.wrap (IntKind.i64.wrap (↑(t[(1 : Nat)]?.getD (0 : UInt8)).toNat : Int) * (65536 : Int)))).toNat : Int)) ||| BitVec.ofInt (64 : Nat) (IntKind.i64.wrap (IntKind.i64.wrap (↑(t[(2 : Nat)]?.getD (0 : UInt8)).toNat : Int) * (256 : Int)))).toNat : Int)) ||| BitVec.ofInt (64 : Nat) (IntKind.i64.wrap (↑(t[(3 : Nat)]?.getD (0 : UInt8)).toNat : Int))).toNat : Int) > IntKind.i64.wrap ((↑t.size : Int) - (8 : Int)))) (
        π.ret (Go.Value.tuple #[(Go.Value.string (ByteArray.mk #[])), (Go.Value.bool (false))])
      ) (
        π.guard ((0 : Int) ≤ (8 : Int) ∧ (8 : Int) ≤ IntKind.i64.wrap ((8 : Int) + IntKind.i64.wrap (↑(BitVec.ofInt (64 : Nat) (IntKind.i64.wrap (↑(BitVec.ofInt (64 : Nat) (IntKind.i64.wrap (↑(BitVec.ofInt (64 : Nat) (IntKind.i64.wrap (IntKind.i64.wrap (↑(t[(0 : Nat)]?.getD (0 : UInt8)).toNat : Int) * (16777216 : Int))) ||| BitVec.ofInt (64 : Nat) (IntKind.i64.wrap (IntKind.i64.wrap (↑(t[(1 : Nat)]?.getD (0 : UInt8)).toNat : Int) * (65536 : Int)))).toNat : Int)) ||| BitVec.ofInt (64 : Nat) (IntKind.i64.wrap (IntKind.i64.wrap (↑(t[(2 : Nat)]?.getD (0 : UInt8)).toNat : Int) * (256 : Int)))).toNat : Int)) ||| BitVec.ofInt (64 : Nat) (IntKind.i64.wrap (↑(t[(3 : Nat)]?.getD (0 : UInt8)).toNat : Int))).toNat : Int)) ∧ IntKind.i64.wrap ((8 : Int) + IntKind.i64.wrap (↑(BitVec.ofInt (64 : Nat) (IntKind.i64.wrap (↑(BitVec.ofInt (64 : Nat) (IntKind.i64.wrap (↑(BitVec.ofInt (64 : Nat) (IntKind.i64.wrap (IntKind.i64.wrap (↑(t[(0 : Nat)]?.getD (0 : UInt8)).toNat : Int) * (16777216 : Int))) ||| BitVec.ofInt (64 : Nat) (IntKind.i64.wrap (IntKind.i64.wrap (↑(t[(1 : Nat)]?.getD (0 : UInt8)).toNat : Int) * (65536 : Int)))).toNat : Int)) ||| BitVec.ofInt (64 : Nat) (IntKind.i64.wrap (IntKind.i64.wrap (↑(t[(2 : Nat)]?.getD (0 : UInt8)).toNat : Int) * (256 : Int)))).toNat : Int)) ||| BitVec.ofInt (64 : Nat) (IntKind.i64.wrap (↑(t[(3 : Nat)]?.getD (0 : UInt8)).toNat : Int))).toNat : Int)) ≤ (↑t.size : Int)) <|
        π.call (42 : Nat) #[(Go.Value.string (t.extract (8 : Nat) (IntKind.i64.wrap ((8 : Int) + IntKind.i64.wrap (↑(BitVec.ofInt (64 : Nat) (IntKind.i64.wrap (↑(BitVec.ofInt (64 : Nat) (IntKind.i64.wrap (↑(BitVec.ofInt (64 : Nat) (IntKind.i64.wrap (IntKind.i64.wrap (↑(t[(0 : Nat)]?.getD (0 : UInt8)).toNat : Int) * (16777216 : Int))) ||| BitVec.ofInt (64 : Nat) (IntKind.i64.wrap (IntKind.i64.wrap (↑(t[(1 : Nat)]?.getD (0 : UInt8)).toNat : Int) * (65536 : Int)))).toNat : Int)) ||| BitVec.ofInt (64 : Nat) (IntKind.i64.wrap (IntKind.i64.wrap (↑(t[(2 : Nat)]?.getD (0 : UInt8)).toNat : Int) * (256 : Int)))).toNat : Int)) ||| BitVec.ofInt (64 : Nat) (IntKind.i64.wrap (↑(t[(3 : Nat)]?.getD (0 : UInt8)).toNat : Int))).toNat : Int))).toNat))] (true, [(false, [.str]), (false, [.int .i64])]) fun (((t0 : ByteArray), _), ((x1 : Int), _), _) =>
        π.guard ((0 : Int) ≤ (8 : Int) ∧ (8 : Int) ≤ IntKind.i64.wrap ((8 : Int) + IntKind.i64.wrap (↑(BitVec.ofInt (64 : Nat) (IntKind.i64.wrap (↑(BitVec.ofInt (64 : Nat) (IntKind.i64.wrap (↑(BitVec.ofInt (64 : Nat) (IntKind.i64.wrap (IntKind.i64.wrap (↑(t[(0 : Nat)]?.getD (0 : UInt8)).toNat : Int) * (16777216 : Int))) ||| BitVec.ofInt (64 : Nat) (IntKind.i64.wrap (IntKind.i64.wrap (↑(t[(1 : Nat)]?.getD (0 : UInt8)).toNat : Int) * (65536 : Int)))).toNat : Int)) ||| BitVec.ofInt (64 : Nat) (IntKind.i64.wrap (IntKind.i64.wrap (↑(t[(2 : Nat)]?.getD (0 : UInt8)).toNat : Int) * (256 : Int)))).toNat : Int)) ||| BitVec.ofInt (64 : Nat) (IntKind.i64.wrap (↑(t[(3 : Nat)]?.getD (0 : UInt8)).toNat : Int))).toNat : Int)) ∧ IntKind.i64.wrap ((8 : Int) + IntKind.i64.wrap (↑(BitVec.ofInt (64 : Nat) (IntKind.i64.wrap (↑(BitVec.ofInt (64 : Nat) (IntKind.i64.wrap (↑(BitVec.ofInt (64 : Nat) (IntKind.i64.wrap (IntKind.i64.wrap (↑(t[(0 : Nat)]?.getD (0 : UInt8)).toNat : Int) * (16777216 : Int))) ||| BitVec.ofInt (64 : Nat) (IntKind.i64.wrap (IntKind.i64.wrap (↑(t[(1 : Nat)]?.getD (0 : UInt8)).toNat : Int) * (65536 : Int)))).toNat : Int)) ||| BitVec.ofInt (64 : Nat) (IntKind.i64.wrap (IntKind.i64.wrap (↑(t[(2 : Nat)]?.getD (0 : UInt8)).toNat : Int) * (256 : Int)))).toNat : Int)) ||| BitVec.ofInt (64 : Nat) (IntKind.i64.wrap (↑(t[(3 : Nat)]?.getD (0 : UInt8)).toNat : Int))).toNat : Int)) ≤ (↑t.size : Int)) <|
        π.guard ((0 : Int) ≤ (0 : Int) ∧ (0 : Int) ≤ IntKind.i64.wrap ((8 : Int) + IntKind.i64.wrap (↑(BitVec.ofInt (64 : Nat) (IntKind.i64.wrap (↑(BitVec.ofInt (64 : Nat) (IntKind.i64.wrap (↑(BitVec.ofInt (64 : Nat) (IntKind.i64.wrap (IntKind.i64.wrap (↑(t[(0 : Nat)]?.getD (0 : UInt8)).toNat : Int) * (16777216 : Int))) ||| BitVec.ofInt (64 : Nat) (IntKind.i64.wrap (IntKind.i64.wrap (↑(t[(1 : Nat)]?.getD (0 : UInt8)).toNat : Int) * (65536 : Int)))).toNat : Int)) ||| BitVec.ofInt (64 : Nat) (IntKind.i64.wrap (IntKind.i64.wrap (↑(t[(2 : Nat)]?.getD (0 : UInt8)).toNat : Int) * (256 : Int)))).toNat : Int)) ||| BitVec.ofInt (64 : Nat) (IntKind.i64.wrap (↑(t[(3 : Nat)]?.getD (0 : UInt8)).toNat : Int))).toNat : Int)) ∧ IntKind.i64.wrap ((8 : Int) + IntKind.i64.wrap (↑(BitVec.ofInt (64 : Nat) (IntKind.i64.wrap (↑(BitVec.ofInt (64 : Nat) (IntKind.i64.wrap (↑(BitVec.ofInt (64 : Nat) (IntKind.i64.wrap (IntKind.i64.wrap (↑(t[(0 : Nat)]?.getD (0 : UInt8)).toNat : Int) * (16777216 : Int))) ||| BitVec.ofInt (64 : Nat) (IntKind.i64.wrap (IntKind.i64.wrap (↑(t[(1 : Nat)]?.getD (0 : UInt8)).toNat : Int) * (65536 : Int)))).toNat : Int)) ||| BitVec.ofInt (64 : Nat) (IntKind.i64.wrap (IntKind.i64.wrap (↑(t[(2 : Nat)]?.getD (0 : UInt8)).toNat : Int) * (256 : Int)))).toNat : Int)) ||| BitVec.ofInt (64 : Nat) (IntKind.i64.wrap (↑(t[(3 : Nat)]?.getD (0 : UInt8)).toNat : Int))).toNat : Int)) ≤ (↑t.size : Int)) <|
        π.ret (Go.Value.tuple #[(Go.Value.string (t.extract (8 : Nat) (IntKind.i64.wrap ((8 : Int) + IntKind.i64.wrap (↑(BitVec.ofInt (64 : Nat) (IntKind.i64.wrap (↑(BitVec.ofInt (64 : Nat) (IntKind.i64.wrap (↑(BitVec.ofInt (64 : Nat) (IntKind.i64.wrap (IntKind.i64.wrap (↑(t[(0 : Nat)]?.getD (0 : UInt8)).toNat : Int) * (16777216 : Int))) ||| BitVec.ofInt (64 : Nat) (IntKind.i64.wrap (IntKind.i64.wrap (↑(t[(1 : Nat)]?.getD (0 : UInt8)).toNat : Int) * (65536 : Int)))).toNat : Int)) ||| BitVec.ofInt (64 : Nat) (IntKind.i64.wrap (IntKind.i64.wrap (↑(t[(2 : Nat)]?.getD (0 : UInt8)).toNat : Int) * (256 : Int)))).toNat : Int)) ||| BitVec.ofInt (64 : Nat) (IntKind.i64.wrap (↑(t[(3 : Nat)]?.getD (0 : UInt8)).toNat : Int))).toNat : Int))).toNat)), (Go.Value.bool (t0.toList == (t.extract (0 : Nat) (IntKind.i64.wrap ((8 : Int) + IntKind.i64.wrap (↑(BitVec.ofInt (64 : Nat) (IntKind.i64.wrap (↑(BitVec.ofInt (64 : Nat) (IntKind.i64.wrap (↑(BitVec.ofInt (64 : Nat) (IntKind.i64.wrap (IntKind.i64.wrap (↑(t[(0 : Nat)]?.getD (0 : UInt8)).toNat : Int) * (16777216 : Int))) ||| BitVec.ofInt (64 : Nat) (IntKind.i64.wrap (IntKind.i64.wrap (↑(t[(1 : Nat)]?.getD (0 : UInt8)).toNat : Int) * (65536 : Int)))).toNat : Int)) ||| BitVec.ofInt (64 : Nat) (IntKind.i64.wrap (IntKind.i64.wrap (↑(t[(2 : Nat)]?.getD (0 : UInt8)).toNat : Int) * (256 : Int)))).toNat : Int)) ||| BitVec.ofInt (64 : Nat) (IntKind.i64.wrap (↑(t[(3 : Nat)]?.getD (0 : UInt8)).toNat : Int))).toNat : Int))).toNat).toList))])
      )
    )
  )

def ann_first : Ann := { draws := [(3, { A := [0, 1, 2, 3, 4, 5, 6, 7, 8, 9, 10, 11, 12, 13, 14, 15, 16, 17, 18] }), (7, { A := [0, 1, 2, 3, 4, 5, 6, 7, 8, 9, 10, 11] })], join := [], loop := [] }
def la_first : LA := { ptr := [], ty := [] }
set_option maxRecDepth 100000 in
theorem eq_first {W : Type} (π : Prims W) (t : ByteArray) : bodyL π Try.prog la_first ann_first (mkFr (maskA [] [.v (.string t)] 0) 55) Try.f38 (bodyOf Try.f38) (mkFr (List.map some [.v (.string t)]) 55) = vc_first π t := by kernel_rfl
theorem ok_first (t : ByteArray) (R : Value → PH → Prop) (s : PH) (h : vc_first (RP Try.prog R) t s) : DCalls Try.prog 38 (List.map AV.val [.v (.string t)]).toArray s R :=
  calls_vcL (c := bodyOf Try.f38) (ann := ann_first) la_first (by kernel_rfl) Try.func38 rfl (by kernel_rfl) [.v (.string t)] [] (by rw [Try.ntmps38]; exact Nat.le_of_ble_eq_true rfl) (by kernel_rfl) (by rw [show Try.f38.ntmps = 55 from Try.ntmps38, eq_first]; exact h)

/-- lintel/strip.Scan -/
def vc_Scan {W : Type} (π : Prims W) (t : ByteArray) : W :=
  π.loop [(false, [.slice]), (false, [.int .i64])] (((none, (0 : Nat), (0 : Nat)), ()), ((0 : Int), ()), ()) fun ((((a1 : Option Addr), (n2 : Nat), (c3 : Nat)), _), ((x4 : Int), _), _) again0 =>
    π.guard ((0 : Int) ≤ x4 ∧ x4 ≤ (↑t.size : Int) ∧ (↑t.size : Int) ≤ (↑t.size : Int)) <|
    π.call (38 : Nat) #[(Go.Value.string (t.extract x4.toNat (↑t.size : Int).toNat))] (true, [(false, [.str]), (false, [.bool])]) fun (((t5 : ByteArray), _), ((b6 : Bool), _), _) =>
    π.ite (!b6) (
      π.ret (Go.Value.tuple #[(Go.Value.slice (a1) (n2) (c3)), (Go.Value.int (IntKind.i64) (x4))])
    ) (
      π.nw (Go.Obj.cells #[(Go.Value.string (t5))] (9 : Nat) ((0 : Nat), (0 : Nat))) fun r7 =>
      π.app (9 : Nat) (1 : Nat) (16 : Nat) [(Go.Value.string (ByteArray.mk #[]))] (a1) (n2) (c3) (Src.sl (some (Addr.mk r7 (0 : Nat) none)) (1 : Nat)) fun a8 n9 c10 =>
      again0 (((a8, n9, c10), ()), (IntKind.i64.wrap (x4 + IntKind.i64.wrap ((8 : Int) + (↑t5.size : Int))), ()), ())
    )

def ann_Scan : Ann := { draws := [], join := [], loop := [(3, [(4, 28), (5, 3)])] }
def la_Scan : LA := { ptr := [], ty := [] }
set_option maxRecDepth 100000 in
theorem eq_Scan {W : Type} (π : Prims W) (t : ByteArray) : bodyL π Try.prog la_Scan ann_Scan (mkFr (maskA [] [.v (.string t)] 0) 28) Try.f27 (bodyOf Try.f27) (mkFr (List.map some [.v (.string t)]) 28) = vc_Scan π t := by kernel_rfl
theorem ok_Scan (t : ByteArray) (R : Value → PH → Prop) (s : PH) (h : vc_Scan (RP Try.prog R) t s) : DCalls Try.prog 27 (List.map AV.val [.v (.string t)]).toArray s R :=
  calls_vcL (c := bodyOf Try.f27) (ann := ann_Scan) la_Scan (by kernel_rfl) Try.func27 rfl (by kernel_rfl) [.v (.string t)] [] (by rw [Try.ntmps27]; exact Nat.le_of_ble_eq_true rfl) (by kernel_rfl) (by rw [show Try.f27.ntmps = 28 from Try.ntmps27, eq_Scan]; exact h)

/-- lintel/lintelref03.Sum -/
def vc_rSum {W : Type} (π : Prims W) (t : ByteArray) : W :=
  π.loop [(false, [.int .u32]), (false, [.int .i64])] (((4294967295 : Int), ()), ((0 : Int), ()), ()) fun (((x1 : Int), _), ((x2 : Int), _), _) again0 =>
    π.ite (decide (x2 < (↑t.size : Int))) (
      π.guard ((0 : Int) ≤ x2 ∧ x2 < (↑t.size : Int)) <|
      π.loop [(false, [.int .u32]), (false, [.int .i64]), (false, [.int .i64])] ((IntKind.u32.wrap (↑(BitVec.ofInt (32 : Nat) x1 ^^^ BitVec.ofInt (32 : Nat) (IntKind.u32.wrap (↑(t[x2.toNat]?.getD (0 : UInt8)).toNat : Int))).toNat : Int), ()), (x2, ()), ((0 : Int), ()), ()) fun (((x4 : Int), _), ((x5 : Int), _), ((x6 : Int), _), _) again3 =>
        π.ite (decide (x6 < (8 : Int))) (
          π.ite (x4.tmod (2 : Int) == (1 : Int)) (
            again3 ((IntKind.u32.wrap (↑(BitVec.ofInt (32 : Nat) (IntKind.u32.wrap (x4.tdiv (2 : Int))) ^^^ BitVec.ofInt (32 : Nat) (3988292384 : Int)).toNat : Int), ()), (x5, ()), (IntKind.i64.wrap (x6 + (1 : Int)), ()), ())
          ) (
            again3 ((IntKind.u32.wrap (x4.tdiv (2 : Int)), ()), (x5, ()), (IntKind.i64.wrap (x6 + (1 : Int)), ()), ())
          )
        ) (
          again0 ((x4, ()), (IntKind.i64.wrap (x5 + (1 : Int)), ()), ())
        )
    ) (
      π.ret (Go.Value.int (IntKind.u32) (IntKind.u32.wrap (↑(BitVec.ofInt (32 : Nat) x1 ^^^ BitVec.ofInt (32 : Nat) (4294967295 : Int)).toNat : Int)))
    )

def ann_rSum : Ann := { draws := [], join := [], loop := [(3, [(3, 81), (4, 3)]), (7, [(3, 81), (4, 3), (5, 3)])] }
def la_rSum : LA := { ptr := [], ty := [] }
set_option maxRecDepth 100000 in
theorem eq_rSum {W : Type} (π : Prims W) (t : ByteArray) : bodyL π Try.prog la_rSum ann_rSum (mkFr (maskA [] [.v (.string t)] 0) 33) Try.f39 (bodyOf Try.f39) (mkFr (List.map some [.v (.string t)]) 33) = vc_rSum π t := by kernel_rfl
theorem ok_rSum (t : ByteArray) (R : Value → PH → Prop) (s : PH) (h : vc_rSum (RP Try.prog R) t s) : DCalls Try.prog 39 (List.map AV.val [.v (.string t)]).toArray s R :=
  calls_vcL (c := bodyOf Try.f39) (ann := ann_rSum) la_rSum (by kernel_rfl) Try.func39 rfl (by kernel_rfl) [.v (.string t)] [] (by rw [Try.ntmps39]; exact Nat.le_of_ble_eq_true rfl) (by kernel_rfl) (by rw [show Try.f39.ntmps = 33 from Try.ntmps39, eq_rSum]; exact h)

/-- lintel/lintelref03.Put -/
def vc_rPut {W : Type} (π : Prims W) (t : ByteArray) : W :=
  π.ite (decide ((↑t.size : Int) > (65536 : Int))) (
    π.ret (Go.Value.tuple #[(Go.Value.string (ByteArray.mk #[])), (Go.Value.int (IntKind.i64) ((30 : Int)))])
  ) (
    π.nw (Go.Obj.cells #[(Go.Value.int (IntKind.u8) (IntKind.u8.wrap (IntKind.u32.wrap ((IntKind.u32.wrap (↑t.size : Int)).tdiv (16777216 : Int))))), (Go.Value.int (IntKind.u8) (IntKind.u8.wrap ((IntKind.u32.wrap ((IntKind.u32.wrap (↑t.size : Int)).tdiv (65536 : Int))).tmod (256 : Int)))), (Go.Value.int (IntKind.u8) (IntKind.u8.wrap ((IntKind.u32.wrap ((IntKind.u32.wrap (↑t.size : Int)).tdiv (256 : Int))).tmod (256 : Int)))), (Go.Value.int (IntKind.u8) (IntKind.u8.wrap ((IntKind.u32.wrap (↑t.size : Int)).tmod (256 : Int))))] (5 : Nat) ((0 : Nat), (0 : Nat))) fun r0 =>
    π.b2s (some (Addr.mk r0 (0 : Nat) none)) ((4 : Nat)) fun t1 =>
    π.guard ((↑(t1.size + t.size) : Int) ≤ (9223372036854775807 : Int)) <|
    π.call (39 : Nat) #[(Go.Value.string (t1 ++ t))] (false, [(false, [.int .u32])]) fun (((x2 : Int), _), _) =>
    π.nw (Go.Obj.cells #[(Go.Value.int (IntKind.u8) (IntKind.u8.wrap (x2.tmod (256 : Int)))), (Go.Value.int (IntKind.u8) (IntKind.u8.wrap ((IntKind.u32.wrap (x2.tdiv (256 : Int))).tmod (256 : Int)))), (Go.Value.int (IntKind.u8) (IntKind.u8.wrap ((IntKind.u32.wrap (x2.tdiv (65536 : Int))).tmod (256 : Int)))), (Go.Value.int (IntKind.u8) (IntKind.u8.wrap (IntKind.u32.wrap (x2.tdiv (16777216 : Int)))))] (5 : Nat) ((0 : Nat), (0 : Nat))) fun r3 =>
    π.b2s (some (Addr.mk r3 (0 : Nat) none)) ((4 : Nat)) fun t4 =>
    π.guard ((↑(t1.size + t4.size) : Int) ≤ (9223372036854775807 : Int)) <|
    π.guard ((↑((t1 ++ t4).size + t.size) : Int) ≤ (9223372036854775807 : Int)) <|
    π.ret (Go.Value.tuple #[(Go.Value.string (t1 ++ t4 ++ t)), (Go.Value.int (IntKind.i64) ((0 : Int)))])
  )

def ann_rPut : Ann := { draws := [], join := [], loop := [] }
def la_rPut : LA := { ptr := [], ty := [] }
set_option maxRecDepth 100000 in
theorem eq_rPut {W : Type} (π : Prims W) (t : ByteArray) : bodyL π Try.prog la_rPut ann_rPut (mkFr (maskA [] [.v (.string t)] 0) 53) Try.f28 (bodyOf Try.f28) (mkFr (List.map some [.v (.string t)]) 53) = vc_rPut π t := by kernel_rfl
theorem ok_rPut (t : ByteArray) (R : Value → PH → Prop) (s : PH) (h : vc_rPut (RP Try.prog R) t s) : DCalls Try.prog 28 (List.map AV.val [.v (.string t)]).toArray s R :=
  calls_vcL (c := bodyOf Try.f28) (ann := ann_rPut) la_rPut (by kernel_rfl) Try.func28 rfl (by kernel_rfl) [.v (.string t)] [] (by rw [Try.ntmps28]; exact Nat.le_of_ble_eq_true rfl) (by kernel_rfl) (by rw [show Try.f28.ntmps = 53 from Try.ntmps28, eq_rPut]; exact h)

/-- lintel/lintelref03.Scan -/
def vc_rScan {W : Type} (π : Prims W) (t : ByteArray) : W :=
  π.loop [(false, [.slice]), (false, [.int .i64])] (((none, (0 : Nat), (0 : Nat)), ()), ((0 : Int), ()), ()) fun ((((a1 : Option Addr), (n2 : Nat), (c3 : Nat)), _), ((x4 : Int), _), _) again0 =>
    π.ite (decide (IntKind.i64.wrap (x4 + (8 : Int)) ≤ (↑t.size : Int))) (
      π.guard ((0 : Int) ≤ x4 ∧ x4 < (↑t.size : Int)) <|
      π.guard ((0 : Int) ≤ IntKind.i64.wrap (x4 + (1 : Int)) ∧ IntKind.i64.wrap (x4 + (1 : Int)) < (↑t.size : Int)) <|
      π.guard ((0 : Int) ≤ IntKind.i64.wrap (x4 + (2 : Int)) ∧ IntKind.i64.wrap (x4 + (2 : Int)) < (↑t.size : Int)) <|
      π.guard ((0 : Int) ≤ IntKind.i64.wrap (x4 + (3 : Int)) ∧ IntKind.i64.wrap (x4 + (3 : Int)) < (↑t.size : Int)) <|
      π.join [(false, [.slice]), (false, [.int .i64]), (false, [.int .i64])] (fun J5 =>
        π.ite (decide (IntKind.i64.wrap (IntKind.i64.wrap (IntKind.i64.wrap (IntKind.i64.wrap (IntKind.i64.wrap (IntKind.i64.wrap (IntKind.i64.wrap (↑(t[x4.toNat]?.getD (0 : UInt8)).toNat : Int) * (256 : Int)) + IntKind.i64.wrap (↑(t[(IntKind.i64.wrap (x4 + (1 : Int))).toNat]?.getD (0 : UInt8)).toNat : Int)) * (256 : Int)) + IntKind.i64.wrap (↑(t[(IntKind.i64.wrap (x4 + (2 : Int))).toNat]?.getD (0 : UInt8)).toNat : Int)) * (256 : Int)) + IntKind.i64.wrap (↑(t[(IntKind.i64.wrap (x4 + (3 : Int))).toNat]?.getD (0 : UInt8)).toNat : Int)) > (65536 : Int))) (
          π.ret (Go.Value.tuple #[(Go.Value.slice (a1) (n2) (c3)), (Go.Value.int (IntKind.i64) (x4))])
        ) (
          π.ite (decide (IntKind.i64.wrap (IntKind.i64.wrap (x4 + (8 : Int)) + IntKind.i64.wrap (IntKind.i64.wrap (IntKind.i64.wrap (IntKind.i64.wrap (IntKind.i64.wrap (IntKind.i64.wrap (IntKind.i64.wrap (↑(t[x4.toNat]?.getD (0 : UInt8)).toNat : Int) * (256 : Int)) + IntKind.i64.wrap (↑(t[(IntKind.i64.wrap (x4 + (1 : Int))).toNat]?.getD (0 : UInt8)).toNat : Int)) * (256 : Int)) + IntKind.i64.wrap (↑(t[(IntKind.i64.wrap (x4 + (2 : Int))).toNat]?.getD (0 : UInt8)).toNat : Int)) * (256 : Int)) + IntKind.i64.wrap (↑(t[(IntKind.i64.wrap (x4 + (3 : Int))).toNat]?.getD (0 : UInt8)).toNat : Int))) > (↑t.size : Int))) (
            π.ret (Go.Value.tuple #[(Go.Value.slice (a1) (n2) (c3)), (Go.Value.int (IntKind.i64) (x4))])
          ) (
            J5 (((a1, n2, c3), ()), (x4, ()), (IntKind.i64.wrap (IntKind.i64.wrap (IntKind.i64.wrap (IntKind.i64.wrap (IntKind.i64.wrap (IntKind.i64.wrap (IntKind.i64.wrap (↑(t[x4.toNat]?.getD (0 : UInt8)).toNat : Int) * (256 : Int)) + IntKind.i64.wrap (↑(t[(IntKind.i64.wrap (x4 + (1 : Int))).toNat]?.getD (0 : UInt8)).toNat : Int)) * (256 : Int)) + IntKind.i64.wrap (↑(t[(IntKind.i64.wrap (x4 + (2 : Int))).toNat]?.getD (0 : UInt8)).toNat : Int)) * (256 : Int)) + IntKind.i64.wrap (↑(t[(IntKind.i64.wrap (x4 + (3 : Int))).toNat]?.getD (0 : UInt8)).toNat : Int)), ()), ())
          )
        )
      ) (fun ((((a6 : Option Addr), (n7 : Nat), (c8 : Nat)), _), ((x9 : Int), _), ((x10 : Int), _), _) =>
        π.guard ((0 : Int) ≤ IntKind.i64.wrap (x9 + (8 : Int)) ∧ IntKind.i64.wrap (x9 + (8 : Int)) ≤ IntKind.i64.wrap (IntKind.i64.wrap (x9 + (8 : Int)) + x10) ∧ IntKind.i64.wrap (IntKind.i64.wrap (x9 + (8 : Int)) + x10) ≤ (↑t.size : Int)) <|
        π.call (28 : Nat) #[(Go.Value.string (t.extract (IntKind.i64.wrap (x9 + (8 : Int))).toNat (IntKind.i64.wrap (IntKind.i64.wrap (x9 + (8 : Int)) + x10)).toNat))] (true, [(false, [.str]), (false, [.int .i64])]) fun (((t11 : ByteArray), _), ((x12 : Int), _), _) =>
        π.ite (x12 != (0 : Int)) (
          π.ret (Go.Value.tuple #[(Go.Value.slice (a6) (n7) (c8)), (Go.Value.int (IntKind.i64) (x9))])
        ) (
          π.guard ((0 : Int) ≤ x9 ∧ x9 ≤ IntKind.i64.wrap (IntKind.i64.wrap (x9 + (8 : Int)) + x10) ∧ IntKind.i64.wrap (IntKind.i64.wrap (x9 + (8 : Int)) + x10) ≤ (↑t.size : Int)) <|
          π.ite (!(t.extract x9.toNat (IntKind.i64.wrap (IntKind.i64.wrap (x9 + (8 : Int)) + x10)).toNat).toList == t11.toList) (
            π.ret (Go.Value.tuple #[(Go.Value.slice (a6) (n7) (c8)), (Go.Value.int (IntKind.i64) (x9))])
          ) (
            π.nw (Go.Obj.cells #[(Go.Value.string (t.extract (IntKind.i64.wrap (x9 + (8 : Int))).toNat (IntKind.i64.wrap (IntKind.i64.wrap (x9 + (8 : Int)) + x10)).toNat))] (9 : Nat) ((0 : Nat), (0 : Nat))) fun r13 =>
            π.app (9 : Nat) (1 : Nat) (16 : Nat) [(Go.Value.string (ByteArray.mk #[]))] (a6) (n7) (c8) (Src.sl (some (Addr.mk r13 (0 : Nat) none)) (1 : Nat)) fun a14 n15 c16 =>
            again0 (((a14, n15, c16), ()), (IntKind.i64.wrap (x9 + IntKind.i64.wrap ((8 : Int) + x10)), ()), ())
          )
        )
      )
    ) (
      π.ret (Go.Value.tuple #[(Go.Value.slice (a1) (n2) (c3)), (Go.Value.int (IntKind.i64) (x4))])
    )

def ann_rScan : Ann := { draws := [(4, { A := [0, 1, 2, 3, 4, 5, 6, 7, 8, 9, 10, 11, 12, 13, 14, 15, 16, 17, 18, 19, 20, 21, 22, 23, 24, 25] })], join := [(7, [(4, 28), (5, 3), (6, 3)])], loop := [(3, [(4, 28), (5, 3)])] }
def la_rScan : LA := { ptr := [], ty := [] }
set_option maxRecDepth 100000 in
theorem eq_rScan {W : Type} (π : Prims W) (t : ByteArray) : bodyL π Try.prog la_rScan ann_rScan (mkFr (maskA [] [.v (.string t)] 0) 91) Try.f13 (bodyOf Try.f13) (mkFr (List.map some [.v (.string t)]) 91) = vc_rScan π t := by kernel_rfl
theorem ok_rScan (t : ByteArray) (R : Value → PH → Prop) (s : PH) (h : vc_rScan (RP Try.prog R) t s) : DCalls Try.prog 13 (List.map AV.val [.v (.string t)]).toArray s R :=
  calls_vcL (c := bodyOf Try.f13) (ann := ann_rScan) la_rScan (by kernel_rfl) Try.func13 rfl (by kernel_rfl) [.v (.string t)] [] (by rw [Try.ntmps13]; exact Nat.le_of_ble_eq_true rfl) (by kernel_rfl) (by rw [show Try.f13.ntmps = 91 from Try.ntmps13, eq_rScan]; exact h)

/-- lintel/lintelref03.Same -/
def vc_Same {W : Type} (π : Prims W) (a : Option Addr) (n c : Nat) (a2 : Option Addr) (n2 c2 : Nat) : W :=
  π.ite ((↑n : Int) != (↑n2 : Int)) (
    π.ret (Go.Value.bool (false))
  ) (
    π.loop [(false, [.int .i64])] (((0 : Int), ()), ()) fun (((x1 : Int), _), _) again0 =>
      π.ite (decide (x1 < (↑n : Int))) (
        π.guard ((0 : Int) ≤ x1 ∧ x1 < (↑n : Int)) <|
        π.unSome (a) fun p2 =>
        π.ld [.str] (p2.add (x1.toNat * (1 : Nat))) fun ((t3 : ByteArray), _) =>
        π.guard ((0 : Int) ≤ x1 ∧ x1 < (↑n2 : Int)) <|
        π.unSome (a2) fun p4 =>
        π.ld [.str] (p4.add (x1.toNat * (1 : Nat))) fun ((t5 : ByteArray), _) =>
        π.ite (!t3.toList == t5.toList) (
          π.ret (Go.Value.bool (false))
        ) (
          again0 ((IntKind.i64.wrap (x1 + (1 : Int)), ()), ())
        )
      ) (
        π.ret (Go.Value.bool (true))
      )
  )

def ann_Same : Ann := { draws := [(6, { A := [0, 1, 2, 3, 4, 5, 6, 7, 8] })], join := [], loop := [(4, [(5, 3)])] }
def la_Same : LA := { ptr := [], ty := [] }
set_option maxRecDepth 100000 in
theorem eq_Same {W : Type} (π : Prims W) (a : Option Addr) (n c : Nat) (a2 : Option Addr) (n2 c2 : Nat) : bodyL π Try.prog la_Same ann_Same (mkFr (maskA [] [.v (.slice a n c), .v (.slice a2 n2 c2)] 0) 26) Try.f14 (bodyOf Try.f14) (mkFr (List.map some [.v (.slice a n c), .v (.slice a2 n2 c2)]) 26) = vc_Same π a n c a2 n2 c2 := by kernel_rfl
theorem ok_Same (a : Option Addr) (n c : Nat) (a2 : Option Addr) (n2 c2 : Nat) (R : Value → PH → Prop) (s : PH) (h : vc_Same (RP Try.prog R) a n c a2 n2 c2 s) : DCalls Try.prog 14 (List.map AV.val [.v (.slice a n c), .v (.slice a2 n2 c2)]).toArray s R :=
  calls_vcL (c := bodyOf Try.f14) (ann := ann_Same) la_Same (by kernel_rfl) Try.func14 rfl (by kernel_rfl) [.v (.slice a n c), .v (.slice a2 n2 c2)] [] (by rw [Try.ntmps14]; exact Nat.le_of_ble_eq_true rfl) (by kernel_rfl) (by rw [show Try.f14.ntmps = 26 from Try.ntmps14, eq_Same]; exact h)

/-- lintel/diary.Open -/
def vc_Open {W : Type} (π : Prims W) (b : Nat) (nm : ByteArray) : W :=
  π.call (11 : Nat) #[(Go.Value.pointer (some (Addr.mk b (0 : Nat) none))), (Go.Value.string (nm))] (true, [(false, [.str]), (false, [.int .i64])]) fun (((t0 : ByteArray), _), ((x1 : Int), _), _) =>
  π.ite (x1 != (0 : Int)) (
    π.ret (Go.Value.tuple #[(Go.Value.pointer (none)), (Go.Value.slice (none) ((0 : Nat)) ((0 : Nat))), (Go.Value.int (IntKind.i64) (x1))])
  ) (
    π.call (27 : Nat) #[(Go.Value.string (t0))] (true, [(false, [.slice]), (false, [.int .i64])]) fun ((((a2 : Option Addr), (n3 : Nat), (c4 : Nat)), _), ((x5 : Int), _), _) =>
    π.ite (decide (x5 < (↑t0.size : Int))) (
      π.guard ((0 : Int) ≤ (0 : Int) ∧ (0 : Int) ≤ x5 ∧ x5 ≤ (↑t0.size : Int)) <|
      π.call (9 : Nat) #[(Go.Value.pointer (some (Addr.mk b (0 : Nat) none))), (Go.Value.string (nm)), (Go.Value.string (t0.extract (0 : Nat) x5.toNat))] (false, [(false, [.int .i64])]) fun (((x6 : Int), _), _) =>
      π.ite (x6 != (0 : Int)) (
        π.ret (Go.Value.tuple #[(Go.Value.pointer (none)), (Go.Value.slice (none) ((0 : Nat)) ((0 : Nat))), (Go.Value.int (IntKind.i64) (x6))])
      ) (
        π.nw (Go.Obj.cells #[(Go.Value.pointer (some (Addr.mk b (0 : Nat) none))), (Go.Value.string (nm))] (66 : Nat) ((0 : Nat), (0 : Nat))) fun r7 =>
        π.ret (Go.Value.tuple #[(Go.Value.pointer (some (Addr.mk r7 (0 : Nat) none))), (Go.Value.slice (a2) (n3) (c4)), (Go.Value.int (IntKind.i64) ((0 : Int)))])
      )
    ) (
      π.nw (Go.Obj.cells #[(Go.Value.pointer (some (Addr.mk b (0 : Nat) none))), (Go.Value.string (nm))] (66 : Nat) ((0 : Nat), (0 : Nat))) fun r8 =>
      π.ret (Go.Value.tuple #[(Go.Value.pointer (some (Addr.mk r8 (0 : Nat) none))), (Go.Value.slice (a2) (n3) (c4)), (Go.Value.int (IntKind.i64) ((0 : Int)))])
    )
  )

def ann_Open : Ann := { draws := [], join := [], loop := [] }
def la_Open : LA := { ptr := [], ty := [] }
set_option maxRecDepth 100000 in
theorem eq_Open {W : Type} (π : Prims W) (b : Nat) (nm : ByteArray) : bodyL π Try.prog la_Open ann_Open (mkFr (maskA [] [.v (.pointer (some ⟨b, 0, none⟩)), .v (.string nm)] 0) 44) Try.f10 (bodyOf Try.f10) (mkFr (List.map some [.v (.pointer (some ⟨b, 0, none⟩)), .v (.string nm)]) 44) = vc_Open π b nm := by kernel_rfl
theorem ok_Open (b : Nat) (nm : ByteArray) (R : Value → PH → Prop) (s : PH) (h : vc_Open (RP Try.prog R) b nm s) : DCalls Try.prog 10 (List.map AV.val [.v (.pointer (some ⟨b, 0, none⟩)), .v (.string nm)]).toArray s R :=
  calls_vcL (c := bodyOf Try.f10) (ann := ann_Open) la_Open (by kernel_rfl) Try.func10 rfl (by kernel_rfl) [.v (.pointer (some ⟨b, 0, none⟩)), .v (.string nm)] [] (by rw [Try.ntmps10]; exact Nat.le_of_ble_eq_true rfl) (by kernel_rfl) (by rw [show Try.f10.ntmps = 44 from Try.ntmps10, eq_Open]; exact h)

/-- lintel/diary.Open -/
def vc_OpenNil {W : Type} (π : Prims W) (nm : ByteArray) : W :=
  π.call (11 : Nat) #[(Go.Value.pointer (none)), (Go.Value.string (nm))] (true, [(false, [.str]), (false, [.int .i64])]) fun (((t0 : ByteArray), _), ((x1 : Int), _), _) =>
  π.ite (x1 != (0 : Int)) (
    π.ret (Go.Value.tuple #[(Go.Value.pointer (none)), (Go.Value.slice (none) ((0 : Nat)) ((0 : Nat))), (Go.Value.int (IntKind.i64) (x1))])
  ) (
    π.call (27 : Nat) #[(Go.Value.string (t0))] (true, [(false, [.slice]), (false, [.int .i64])]) fun ((((a2 : Option Addr), (n3 : Nat), (c4 : Nat)), _), ((x5 : Int), _), _) =>
    π.ite (decide (x5 < (↑t0.size : Int))) (
      π.guard ((0 : Int) ≤ (0 : Int) ∧ (0 : Int) ≤ x5 ∧ x5 ≤ (↑t0.size : Int)) <|
      π.call (9 : Nat) #[(Go.Value.pointer (none)), (Go.Value.string (nm)), (Go.Value.string (t0.extract (0 : Nat) x5.toNat))] (false, [(false, [.int .i64])]) fun (((x6 : Int), _), _) =>
      π.ite (x6 != (0 : Int)) (
        π.ret (Go.Value.tuple #[(Go.Value.pointer (none)), (Go.Value.slice (none) ((0 : Nat)) ((0 : Nat))), (Go.Value.int (IntKind.i64) (x6))])
      ) (
        π.nw (Go.Obj.cells #[(Go.Value.pointer (none)), (Go.Value.string (nm))] (66 : Nat) ((0 : Nat), (0 : Nat))) fun r7 =>
        π.ret (Go.Value.tuple #[(Go.Value.pointer (some (Addr.mk r7 (0 : Nat) none))), (Go.Value.slice (a2) (n3) (c4)), (Go.Value.int (IntKind.i64) ((0 : Int)))])
      )
    ) (
      π.nw (Go.Obj.cells #[(Go.Value.pointer (none)), (Go.Value.string (nm))] (66 : Nat) ((0 : Nat), (0 : Nat))) fun r8 =>
      π.ret (Go.Value.tuple #[(Go.Value.pointer (some (Addr.mk r8 (0 : Nat) none))), (Go.Value.slice (a2) (n3) (c4)), (Go.Value.int (IntKind.i64) ((0 : Int)))])
    )
  )

def ann_OpenNil : Ann := { draws := [], join := [], loop := [] }
def la_OpenNil : LA := { ptr := [], ty := [] }
set_option maxRecDepth 100000 in
theorem eq_OpenNil {W : Type} (π : Prims W) (nm : ByteArray) : bodyL π Try.prog la_OpenNil ann_OpenNil (mkFr (maskA [] [.v (.pointer none), .v (.string nm)] 0) 44) Try.f10 (bodyOf Try.f10) (mkFr (List.map some [.v (.pointer none), .v (.string nm)]) 44) = vc_OpenNil π nm := by kernel_rfl
theorem ok_OpenNil (nm : ByteArray) (R : Value → PH → Prop) (s : PH) (h : vc_OpenNil (RP Try.prog R) nm s) : DCalls Try.prog 10 (List.map AV.val [.v (.pointer none), .v (.string nm)]).toArray s R :=
  calls_vcL (c := bodyOf Try.f10) (ann := ann_OpenNil) la_OpenNil (by kernel_rfl) Try.func10 rfl (by kernel_rfl) [.v (.pointer none), .v (.string nm)] [] (by rw [Try.ntmps10]; exact Nat.le_of_ble_eq_true rfl) (by kernel_rfl) (by rw [show Try.f10.ntmps = 44 from Try.ntmps10, eq_OpenNil]; exact h)

/-- (*lintel/diary.Diary).records -/
def vc_records {W : Type} (π : Prims W) (x : Nat) (a : Option Addr) (n c : Nat) : W :=
  π.ite ((some (Addr.mk x (0 : Nat) none)).isNone) (
    π.ret (Go.Value.tuple #[(Go.Value.string (ByteArray.mk #[])), (Go.Value.int (IntKind.i64) ((2 : Int)))])
  ) (
    π.loop [(false, [.str]), (false, [.slice]), (false, [.int .i64]), (false, [.int .i64])] ((ByteArray.mk #[], ()), ((a, n, c), ()), ((↑n : Int), ()), ((0 : Int), ()), ()) fun (((t1 : ByteArray), _), (((a2 : Option Addr), (n3 : Nat), (c4 : Nat)), _), ((x5 : Int), _), ((x6 : Int), _), _) again0 =>
      π.ite (decide (x6 < x5)) (
        π.guard ((0 : Int) ≤ x6 ∧ x6 < (↑n3 : Int)) <|
        π.unSome (a2) fun p7 =>
        π.ld [.str] (p7.add (x6.toNat * (1 : Nat))) fun ((t8 : ByteArray), _) =>
        π.call (42 : Nat) #[(Go.Value.string (t8))] (true, [(false, [.str]), (false, [.int .i64])]) fun (((t9 : ByteArray), _), ((x10 : Int), _), _) =>
        π.ite (x10 != (0 : Int)) (
          π.ret (Go.Value.tuple #[(Go.Value.string (ByteArray.mk #[])), (Go.Value.int (IntKind.i64) (x10))])
        ) (
          π.guard ((↑(t1.size + t9.size) : Int) ≤ (9223372036854775807 : Int)) <|
          again0 ((t1 ++ t9, ()), ((a2, n3, c4), ()), (x5, ()), (IntKind.i64.wrap (x6 + (1 : Int)), ()), ())
        )
      ) (
        π.ret (Go.Value.tuple #[(Go.Value.string (t1)), (Go.Value.int (IntKind.i64) ((0 : Int)))])
      )
  )

def ann_records : Ann := { draws := [], join := [], loop := [(5, [(6, 9), (13, 28), (14, 3), (15, 3)])] }
def la_records : LA := { ptr := [], ty := [] }
set_option maxRecDepth 100000 in
theorem eq_records {W : Type} (π : Prims W) (x : Nat) (a : Option Addr) (n c : Nat) : bodyL π Try.prog la_records ann_records (mkFr (maskA [] [.v (.pointer (some ⟨x, 0, none⟩)), .v (.slice a n c)] 0) 32) Try.f30 (bodyOf Try.f30) (mkFr (List.map some [.v (.pointer (some ⟨x, 0, none⟩)), .v (.slice a n c)]) 32) = vc_records π x a n c := by kernel_rfl
theorem ok_records (x : Nat) (a : Option Addr) (n c : Nat) (R : Value → PH → Prop) (s : PH) (h : vc_records (RP Try.prog R) x a n c s) : DCalls Try.prog 30 (List.map AV.val [.v (.pointer (some ⟨x, 0, none⟩)), .v (.slice a n c)]).toArray s R :=
  calls_vcL (c := bodyOf Try.f30) (ann := ann_records) la_records (by kernel_rfl) Try.func30 rfl (by kernel_rfl) [.v (.pointer (some ⟨x, 0, none⟩)), .v (.slice a n c)] [] (by rw [Try.ntmps30]; exact Nat.le_of_ble_eq_true rfl) (by kernel_rfl) (by rw [show Try.f30.ntmps = 32 from Try.ntmps30, eq_records]; exact h)

/-- (*lintel/diary.Diary).records -/
def vc_recordsNil {W : Type} (π : Prims W) (a : Option Addr) (n c : Nat) : W :=
  π.ite (true) (
    π.ret (Go.Value.tuple #[(Go.Value.string (ByteArray.mk #[])), (Go.Value.int (IntKind.i64) ((2 : Int)))])
  ) (
    π.loop [(false, [.str]), (false, [.slice]), (false, [.int .i64]), (false, [.int .i64])] ((ByteArray.mk #[], ()), ((a, n, c), ()), ((↑n : Int), ()), ((0 : Int), ()), ()) fun (((t1 : ByteArray), _), (((a2 : Option Addr), (n3 : Nat), (c4 : Nat)), _), ((x5 : Int), _), ((x6 : Int), _), _) again0 =>
      π.ite (decide (x6 < x5)) (
        π.guard ((0 : Int) ≤ x6 ∧ x6 < (↑n3 : Int)) <|
        π.unSome (a2) fun p7 =>
        π.ld [.str] (p7.add (x6.toNat * (1 : Nat))) fun ((t8 : ByteArray), _) =>
        π.call (42 : Nat) #[(Go.Value.string (t8))] (true, [(false, [.str]), (false, [.int .i64])]) fun (((t9 : ByteArray), _), ((x10 : Int), _), _) =>
        π.ite (x10 != (0 : Int)) (
          π.ret (Go.Value.tuple #[(Go.Value.string (ByteArray.mk #[])), (Go.Value.int (IntKind.i64) (x10))])
        ) (
          π.guard ((↑(t1.size + t9.size) : Int) ≤ (9223372036854775807 : Int)) <|
          again0 ((t1 ++ t9, ()), ((a2, n3, c4), ()), (x5, ()), (IntKind.i64.wrap (x6 + (1 : Int)), ()), ())
        )
      ) (
        π.ret (Go.Value.tuple #[(Go.Value.string (t1)), (Go.Value.int (IntKind.i64) ((0 : Int)))])
      )
  )

def ann_recordsNil : Ann := { draws := [], join := [], loop := [(5, [(6, 9), (13, 28), (14, 3), (15, 3)])] }
def la_recordsNil : LA := { ptr := [], ty := [] }
set_option maxRecDepth 100000 in
theorem eq_recordsNil {W : Type} (π : Prims W) (a : Option Addr) (n c : Nat) : bodyL π Try.prog la_recordsNil ann_recordsNil (mkFr (maskA [] [.v (.pointer none), .v (.slice a n c)] 0) 32) Try.f30 (bodyOf Try.f30) (mkFr (List.map some [.v (.pointer none), .v (.slice a n c)]) 32) = vc_recordsNil π a n c := by kernel_rfl
theorem ok_recordsNil (a : Option Addr) (n c : Nat) (R : Value → PH → Prop) (s : PH) (h : vc_recordsNil (RP Try.prog R) a n c s) : DCalls Try.prog 30 (List.map AV.val [.v (.pointer none), .v (.slice a n c)]).toArray s R :=
  calls_vcL (c := bodyOf Try.f30) (ann := ann_recordsNil) la_recordsNil (by kernel_rfl) Try.func30 rfl (by kernel_rfl) [.v (.pointer none), .v (.slice a n c)] [] (by rw [Try.ntmps30]; exact Nat.le_of_ble_eq_true rfl) (by kernel_rfl) (by rw [show Try.f30.ntmps = 32 from Try.ntmps30, eq_recordsNil]; exact h)

/-- (*lintel/diary.Diary).Append -/
def vc_dAppend {W : Type} (π : Prims W) (x : Nat) (a : Option Addr) (n c : Nat) : W :=
  π.call (30 : Nat) #[(Go.Value.pointer (some (Addr.mk x (0 : Nat) none))), (Go.Value.slice (a) (n) (c))] (true, [(false, [.str]), (false, [.int .i64])]) fun (((t0 : ByteArray), _), ((x1 : Int), _), _) =>
  π.join [(false, [.str])] (fun J2 =>
    π.ite (x1 != (0 : Int)) (
      π.ret (Go.Value.int (IntKind.i64) (x1))
    ) (
      π.ite ((↑n : Int) == (0 : Int)) (
        π.ret (Go.Value.int (IntKind.i64) (x1))
      ) (
        J2 ((t0, ()), ())
      )
    )
  ) (fun (((t3 : ByteArray), _), _) =>
    π.unSome (some (Addr.mk x (0 : Nat) none)) fun p4 =>
    π.ld [.ptr] (p4.add (0 : Nat)) fun (p5, _) =>
    π.unSome (some (Addr.mk x (0 : Nat) none)) fun p6 =>
    π.ld [.str] (p6.add (1 : Nat)) fun ((t7 : ByteArray), _) =>
    π.call (31 : Nat) #[(Go.Value.pointer (p5)), (Go.Value.string (t7)), (Go.Value.string (t3))] (false, [(false, [.int .i64])]) fun (((x8 : Int), _), _) =>
    π.ite (x8 != (0 : Int)) (
      π.ret (Go.Value.int (IntKind.i64) (x8))
    ) (
      π.unSome (some (Addr.mk x (0 : Nat) none)) fun p9 =>
      π.ld [.ptr] (p9.add (0 : Nat)) fun (p10, _) =>
      π.unSome (some (Addr.mk x (0 : Nat) none)) fun p11 =>
      π.ld [.str] (p11.add (1 : Nat)) fun ((t12 : ByteArray), _) =>
      π.call (32 : Nat) #[(Go.Value.pointer (p10)), (Go.Value.string (t12))] (false, [(false, [.int .i64])]) fun (((x13 : Int), _), _) =>
      π.ret (Go.Value.int (IntKind.i64) (x13))
    )
  )

def ann_dAppend : Ann := { draws := [(4, { A := [0, 1, 2, 3, 4, 5, 6, 7, 8], eag := [10] }), (7, { A := [0, 1, 2, 3, 4, 5, 6, 7], eag := [9] })], join := [(4, [(5, 9)])], loop := [] }
def la_dAppend : LA := { ptr := [], ty := [] }
set_option maxRecDepth 100000 in
theorem eq_dAppend {W : Type} (π : Prims W) (x : Nat) (a : Option Addr) (n c : Nat) : bodyL π Try.prog la_dAppend ann_dAppend (mkFr (maskA [] [.v (.pointer (some ⟨x, 0, none⟩)), .v (.slice a n c)] 0) 44) Try.f17 (bodyOf Try.f17) (mkFr (List.map some [.v (.pointer (some ⟨x, 0, none⟩)), .v (.slice a n c)]) 44) = vc_dAppend π x a n c := by kernel_rfl
theorem ok_dAppend (x : Nat) (a : Option Addr) (n c : Nat) (R : Value → PH → Prop) (s : PH) (h : vc_dAppend (RP Try.prog R) x a n c s) : DCalls Try.prog 17 (List.map AV.val [.v (.pointer (some ⟨x, 0, none⟩)), .v (.slice a n c)]).toArray s R :=
  calls_vcL (c := bodyOf Try.f17) (ann := ann_dAppend) la_dAppend (by kernel_rfl) Try.func17 rfl (by kernel_rfl) [.v (.pointer (some ⟨x, 0, none⟩)), .v (.slice a n c)] [] (by rw [Try.ntmps17]; exact Nat.le_of_ble_eq_true rfl) (by kernel_rfl) (by rw [show Try.f17.ntmps = 44 from Try.ntmps17, eq_dAppend]; exact h)

/-- (*lintel/diary.Diary).Append -/
def vc_dAppendNil {W : Type} (π : Prims W) (a : Option Addr) (n c : Nat) : W :=
  π.call (30 : Nat) #[(Go.Value.pointer (none)), (Go.Value.slice (a) (n) (c))] (true, [(false, [.str]), (false, [.int .i64])]) fun (((t0 : ByteArray), _), ((x1 : Int), _), _) =>
  π.join [(false, [.str])] (fun J2 =>
    π.ite (x1 != (0 : Int)) (
      π.ret (Go.Value.int (IntKind.i64) (x1))
    ) (
      π.ite ((↑n : Int) == (0 : Int)) (
        π.ret (Go.Value.int (IntKind.i64) (x1))
      ) (
        J2 ((t0, ()), ())
      )
    )
  ) (fun (((t3 : ByteArray), _), _) =>
    π.unSome (none) fun p4 =>
    π.ld [.ptr] (p4.add (0 : Nat)) fun (p5, _) =>
    π.unSome (none) fun p6 =>
    π.ld [.str] (p6.add (1 : Nat)) fun ((t7 : ByteArray), _) =>
    π.call (31 : Nat) #[(Go.Value.pointer (p5)), (Go.Value.string (t7)), (Go.Value.string (t3))] (false, [(false, [.int .i64])]) fun (((x8 : Int), _), _) =>
    π.ite (x8 != (0 : Int)) (
      π.ret (Go.Value.int (IntKind.i64) (x8))
    ) (
      π.unSome (none) fun p9 =>
      π.ld [.ptr] (p9.add (0 : Nat)) fun (p10, _) =>
      π.unSome (none) fun p11 =>
      π.ld [.str] (p11.add (1 : Nat)) fun ((t12 : ByteArray), _) =>
      π.call (32 : Nat) #[(Go.Value.pointer (p10)), (Go.Value.string (t12))] (false, [(false, [.int .i64])]) fun (((x13 : Int), _), _) =>
      π.ret (Go.Value.int (IntKind.i64) (x13))
    )
  )

def ann_dAppendNil : Ann := { draws := [(4, { A := [0, 1, 2, 3, 4, 5, 6, 7, 8], eag := [10] }), (7, { A := [0, 1, 2, 3, 4, 5, 6, 7], eag := [9] })], join := [(4, [(5, 9)])], loop := [] }
def la_dAppendNil : LA := { ptr := [], ty := [] }
set_option maxRecDepth 100000 in
theorem eq_dAppendNil {W : Type} (π : Prims W) (a : Option Addr) (n c : Nat) : bodyL π Try.prog la_dAppendNil ann_dAppendNil (mkFr (maskA [] [.v (.pointer none), .v (.slice a n c)] 0) 44) Try.f17 (bodyOf Try.f17) (mkFr (List.map some [.v (.pointer none), .v (.slice a n c)]) 44) = vc_dAppendNil π a n c := by kernel_rfl
theorem ok_dAppendNil (a : Option Addr) (n c : Nat) (R : Value → PH → Prop) (s : PH) (h : vc_dAppendNil (RP Try.prog R) a n c s) : DCalls Try.prog 17 (List.map AV.val [.v (.pointer none), .v (.slice a n c)]).toArray s R :=
  calls_vcL (c := bodyOf Try.f17) (ann := ann_dAppendNil) la_dAppendNil (by kernel_rfl) Try.func17 rfl (by kernel_rfl) [.v (.pointer none), .v (.slice a n c)] [] (by rw [Try.ntmps17]; exact Nat.le_of_ble_eq_true rfl) (by kernel_rfl) (by rw [show Try.f17.ntmps = 44 from Try.ntmps17, eq_dAppendNil]; exact h)

/-- (*lintel/diary.Diary).Rewrite -/
def vc_dRewrite {W : Type} (π : Prims W) (x : Nat) (a : Option Addr) (n c : Nat) : W :=
  π.call (30 : Nat) #[(Go.Value.pointer (some (Addr.mk x (0 : Nat) none))), (Go.Value.slice (a) (n) (c))] (true, [(false, [.str]), (false, [.int .i64])]) fun (((t0 : ByteArray), _), ((x1 : Int), _), _) =>
  π.ite (x1 != (0 : Int)) (
    π.ret (Go.Value.int (IntKind.i64) (x1))
  ) (
    π.unSome (some (Addr.mk x (0 : Nat) none)) fun p2 =>
    π.ld [.ptr] (p2.add (0 : Nat)) fun (p3, _) =>
    π.unSome (some (Addr.mk x (0 : Nat) none)) fun p4 =>
    π.ld [.str] (p4.add (1 : Nat)) fun ((t5 : ByteArray), _) =>
    π.call (9 : Nat) #[(Go.Value.pointer (p3)), (Go.Value.string (t5)), (Go.Value.string (t0))] (false, [(false, [.int .i64])]) fun (((x6 : Int), _), _) =>
    π.ret (Go.Value.int (IntKind.i64) (x6))
  )

def ann_dRewrite : Ann := { draws := [(4, { A := [0, 1, 2, 3, 4, 5, 6, 7, 8], eag := [10] })], join := [], loop := [] }
def la_dRewrite : LA := { ptr := [], ty := [] }
set_option maxRecDepth 100000 in
theorem eq_dRewrite {W : Type} (π : Prims W) (x : Nat) (a : Option Addr) (n c : Nat) : bodyL π Try.prog la_dRewrite ann_dRewrite (mkFr (maskA [] [.v (.pointer (some ⟨x, 0, none⟩)), .v (.slice a n c)] 0) 26) Try.f19 (bodyOf Try.f19) (mkFr (List.map some [.v (.pointer (some ⟨x, 0, none⟩)), .v (.slice a n c)]) 26) = vc_dRewrite π x a n c := by kernel_rfl
theorem ok_dRewrite (x : Nat) (a : Option Addr) (n c : Nat) (R : Value → PH → Prop) (s : PH) (h : vc_dRewrite (RP Try.prog R) x a n c s) : DCalls Try.prog 19 (List.map AV.val [.v (.pointer (some ⟨x, 0, none⟩)), .v (.slice a n c)]).toArray s R :=
  calls_vcL (c := bodyOf Try.f19) (ann := ann_dRewrite) la_dRewrite (by kernel_rfl) Try.func19 rfl (by kernel_rfl) [.v (.pointer (some ⟨x, 0, none⟩)), .v (.slice a n c)] [] (by rw [Try.ntmps19]; exact Nat.le_of_ble_eq_true rfl) (by kernel_rfl) (by rw [show Try.f19.ntmps = 26 from Try.ntmps19, eq_dRewrite]; exact h)

/-- (*lintel/diary.Diary).Rewrite -/
def vc_dRewriteNil {W : Type} (π : Prims W) (a : Option Addr) (n c : Nat) : W :=
  π.call (30 : Nat) #[(Go.Value.pointer (none)), (Go.Value.slice (a) (n) (c))] (true, [(false, [.str]), (false, [.int .i64])]) fun (((t0 : ByteArray), _), ((x1 : Int), _), _) =>
  π.ite (x1 != (0 : Int)) (
    π.ret (Go.Value.int (IntKind.i64) (x1))
  ) (
    π.unSome (none) fun p2 =>
    π.ld [.ptr] (p2.add (0 : Nat)) fun (p3, _) =>
    π.unSome (none) fun p4 =>
    π.ld [.str] (p4.add (1 : Nat)) fun ((t5 : ByteArray), _) =>
    π.call (9 : Nat) #[(Go.Value.pointer (p3)), (Go.Value.string (t5)), (Go.Value.string (t0))] (false, [(false, [.int .i64])]) fun (((x6 : Int), _), _) =>
    π.ret (Go.Value.int (IntKind.i64) (x6))
  )

def ann_dRewriteNil : Ann := { draws := [(4, { A := [0, 1, 2, 3, 4, 5, 6, 7, 8], eag := [10] })], join := [], loop := [] }
def la_dRewriteNil : LA := { ptr := [], ty := [] }
set_option maxRecDepth 100000 in
theorem eq_dRewriteNil {W : Type} (π : Prims W) (a : Option Addr) (n c : Nat) : bodyL π Try.prog la_dRewriteNil ann_dRewriteNil (mkFr (maskA [] [.v (.pointer none), .v (.slice a n c)] 0) 26) Try.f19 (bodyOf Try.f19) (mkFr (List.map some [.v (.pointer none), .v (.slice a n c)]) 26) = vc_dRewriteNil π a n c := by kernel_rfl
theorem ok_dRewriteNil (a : Option Addr) (n c : Nat) (R : Value → PH → Prop) (s : PH) (h : vc_dRewriteNil (RP Try.prog R) a n c s) : DCalls Try.prog 19 (List.map AV.val [.v (.pointer none), .v (.slice a n c)]).toArray s R :=
  calls_vcL (c := bodyOf Try.f19) (ann := ann_dRewriteNil) la_dRewriteNil (by kernel_rfl) Try.func19 rfl (by kernel_rfl) [.v (.pointer none), .v (.slice a n c)] [] (by rw [Try.ntmps19]; exact Nat.le_of_ble_eq_true rfl) (by kernel_rfl) (by rw [show Try.f19.ntmps = 26 from Try.ntmps19, eq_dRewriteNil]; exact h)

/-- lintel/lintelref06.Open -/
def vc_rOpen {W : Type} (π : Prims W) (b : Nat) (nm : ByteArray) : W :=
  π.call (24 : Nat) #[(Go.Value.pointer (some (Addr.mk b (0 : Nat) none))), (Go.Value.string (nm))] (true, [(false, [.str]), (false, [.int .i64])]) fun (((t0 : ByteArray), _), ((x1 : Int), _), _) =>
  π.ite (x1 != (0 : Int)) (
    π.ret (Go.Value.tuple #[(Go.Value.pointer (none)), (Go.Value.slice (none) ((0 : Nat)) ((0 : Nat))), (Go.Value.int (IntKind.i64) (x1))])
  ) (
    π.call (13 : Nat) #[(Go.Value.string (t0))] (true, [(false, [.slice]), (false, [.int .i64])]) fun ((((a2 : Option Addr), (n3 : Nat), (c4 : Nat)), _), ((x5 : Int), _), _) =>
    π.ite (decide (x5 < (↑t0.size : Int))) (
      π.guard ((0 : Int) ≤ (0 : Int) ∧ (0 : Int) ≤ x5 ∧ x5 ≤ (↑t0.size : Int)) <|
      π.call (29 : Nat) #[(Go.Value.pointer (some (Addr.mk b (0 : Nat) none))), (Go.Value.string (nm)), (Go.Value.string (t0.extract (0 : Nat) x5.toNat))] (false, [(false, [.int .i64])]) fun (((x6 : Int), _), _) =>
      π.ite (x6 != (0 : Int)) (
        π.ret (Go.Value.tuple #[(Go.Value.pointer (none)), (Go.Value.slice (none) ((0 : Nat)) ((0 : Nat))), (Go.Value.int (IntKind.i64) (x6))])
      ) (
        π.nw (Go.Obj.cells #[(Go.Value.pointer (some (Addr.mk b (0 : Nat) none))), (Go.Value.string (nm))] (69 : Nat) ((0 : Nat), (0 : Nat))) fun r7 =>
        π.ret (Go.Value.tuple #[(Go.Value.pointer (some (Addr.mk r7 (0 : Nat) none))), (Go.Value.slice (a2) (n3) (c4)), (Go.Value.int (IntKind.i64) ((0 : Int)))])
      )
    ) (
      π.nw (Go.Obj.cells #[(Go.Value.pointer (some (Addr.mk b (0 : Nat) none))), (Go.Value.string (nm))] (69 : Nat) ((0 : Nat), (0 : Nat))) fun r8 =>
      π.ret (Go.Value.tuple #[(Go.Value.pointer (some (Addr.mk r8 (0 : Nat) none))), (Go.Value.slice (a2) (n3) (c4)), (Go.Value.int (IntKind.i64) ((0 : Int)))])
    )
  )

def ann_rOpen : Ann := { draws := [], join := [], loop := [] }
def la_rOpen : LA := { ptr := [], ty := [] }
set_option maxRecDepth 100000 in
theorem eq_rOpen {W : Type} (π : Prims W) (b : Nat) (nm : ByteArray) : bodyL π Try.prog la_rOpen ann_rOpen (mkFr (maskA [] [.v (.pointer (some ⟨b, 0, none⟩)), .v (.string nm)] 0) 44) Try.f16 (bodyOf Try.f16) (mkFr (List.map some [.v (.pointer (some ⟨b, 0, none⟩)), .v (.string nm)]) 44) = vc_rOpen π b nm := by kernel_rfl
theorem ok_rOpen (b : Nat) (nm : ByteArray) (R : Value → PH → Prop) (s : PH) (h : vc_rOpen (RP Try.prog R) b nm s) : DCalls Try.prog 16 (List.map AV.val [.v (.pointer (some ⟨b, 0, none⟩)), .v (.string nm)]).toArray s R :=
  calls_vcL (c := bodyOf Try.f16) (ann := ann_rOpen) la_rOpen (by kernel_rfl) Try.func16 rfl (by kernel_rfl) [.v (.pointer (some ⟨b, 0, none⟩)), .v (.string nm)] [] (by rw [Try.ntmps16]; exact Nat.le_of_ble_eq_true rfl) (by kernel_rfl) (by rw [show Try.f16.ntmps = 44 from Try.ntmps16, eq_rOpen]; exact h)

/-- lintel/lintelref06.records -/
def vc_rRecords {W : Type} (π : Prims W) (a : Option Addr) (n c : Nat) : W :=
  π.loop [(false, [.str]), (false, [.int .i64])] ((ByteArray.mk #[], ()), ((0 : Int), ()), ()) fun (((t1 : ByteArray), _), ((x2 : Int), _), _) again0 =>
    π.ite (decide (x2 < (↑n : Int))) (
      π.guard ((0 : Int) ≤ x2 ∧ x2 < (↑n : Int)) <|
      π.unSome (a) fun p3 =>
      π.ld [.str] (p3.add (x2.toNat * (1 : Nat))) fun ((t4 : ByteArray), _) =>
      π.call (28 : Nat) #[(Go.Value.string (t4))] (true, [(false, [.str]), (false, [.int .i64])]) fun (((t5 : ByteArray), _), ((x6 : Int), _), _) =>
      π.ite (x6 != (0 : Int)) (
        π.ret (Go.Value.tuple #[(Go.Value.string (ByteArray.mk #[])), (Go.Value.int (IntKind.i64) (x6))])
      ) (
        π.guard ((↑(t1.size + t5.size) : Int) ≤ (9223372036854775807 : Int)) <|
        again0 ((t1 ++ t5, ()), (IntKind.i64.wrap (x2 + (1 : Int)), ()), ())
      )
    ) (
      π.ret (Go.Value.tuple #[(Go.Value.string (t1)), (Go.Value.int (IntKind.i64) ((0 : Int)))])
    )

def ann_rRecords : Ann := { draws := [], join := [], loop := [(3, [(4, 9), (5, 3)])] }
def la_rRecords : LA := { ptr := [], ty := [] }
set_option maxRecDepth 100000 in
theorem eq_rRecords {W : Type} (π : Prims W) (a : Option Addr) (n c : Nat) : bodyL π Try.prog la_rRecords ann_rRecords (mkFr (maskA [] [.v (.slice a n c)] 0) 29) Try.f33 (bodyOf Try.f33) (mkFr (List.map some [.v (.slice a n c)]) 29) = vc_rRecords π a n c := by kernel_rfl
theorem ok_rRecords (a : Option Addr) (n c : Nat) (R : Value → PH → Prop) (s : PH) (h : vc_rRecords (RP Try.prog R) a n c s) : DCalls Try.prog 33 (List.map AV.val [.v (.slice a n c)]).toArray s R :=
  calls_vcL (c := bodyOf Try.f33) (ann := ann_rRecords) la_rRecords (by kernel_rfl) Try.func33 rfl (by kernel_rfl) [.v (.slice a n c)] [] (by rw [Try.ntmps33]; exact Nat.le_of_ble_eq_true rfl) (by kernel_rfl) (by rw [show Try.f33.ntmps = 29 from Try.ntmps33, eq_rRecords]; exact h)

/-- (*lintel/lintelref06.Diary).Append -/
def vc_qAppend {W : Type} (π : Prims W) (x : Nat) (a : Option Addr) (n c : Nat) : W :=
  π.call (33 : Nat) #[(Go.Value.slice (a) (n) (c))] (true, [(false, [.str]), (false, [.int .i64])]) fun (((t0 : ByteArray), _), ((x1 : Int), _), _) =>
  π.join [(false, [.str])] (fun J2 =>
    π.ite (x1 != (0 : Int)) (
      π.ret (Go.Value.int (IntKind.i64) (x1))
    ) (
      π.ite ((↑n : Int) == (0 : Int)) (
        π.ret (Go.Value.int (IntKind.i64) (x1))
      ) (
        J2 ((t0, ()), ())
      )
    )
  ) (fun (((t3 : ByteArray), _), _) =>
    π.unSome (some (Addr.mk x (0 : Nat) none)) fun p4 =>
    π.ld [.ptr] (p4.add (0 : Nat)) fun (p5, _) =>
    π.unSome (some (Addr.mk x (0 : Nat) none)) fun p6 =>
    π.ld [.str] (p6.add (1 : Nat)) fun ((t7 : ByteArray), _) =>
    π.call (34 : Nat) #[(Go.Value.pointer (p5)), (Go.Value.string (t7)), (Go.Value.string (t3))] (false, [(false, [.int .i64])]) fun (((x8 : Int), _), _) =>
    π.ite (x8 != (0 : Int)) (
      π.ret (Go.Value.int (IntKind.i64) (x8))
    ) (
      π.unSome (some (Addr.mk x (0 : Nat) none)) fun p9 =>
      π.ld [.ptr] (p9.add (0 : Nat)) fun (p10, _) =>
      π.unSome (some (Addr.mk x (0 : Nat) none)) fun p11 =>
      π.ld [.str] (p11.add (1 : Nat)) fun ((t12 : ByteArray), _) =>
      π.call (35 : Nat) #[(Go.Value.pointer (p10)), (Go.Value.string (t12))] (false, [(false, [.int .i64])]) fun (((x13 : Int), _), _) =>
      π.ret (Go.Value.int (IntKind.i64) (x13))
    )
  )

def ann_qAppend : Ann := { draws := [(4, { A := [0, 1, 2, 3, 4, 5, 6, 7, 8], eag := [10] }), (7, { A := [0, 1, 2, 3, 4, 5, 6, 7], eag := [9] })], join := [(4, [(5, 9)])], loop := [] }
def la_qAppend : LA := { ptr := [], ty := [] }
set_option maxRecDepth 100000 in
theorem eq_qAppend {W : Type} (π : Prims W) (x : Nat) (a : Option Addr) (n c : Nat) : bodyL π Try.prog la_qAppend ann_qAppend (mkFr (maskA [] [.v (.pointer (some ⟨x, 0, none⟩)), .v (.slice a n c)] 0) 43) Try.f18 (bodyOf Try.f18) (mkFr (List.map some [.v (.pointer (some ⟨x, 0, none⟩)), .v (.slice a n c)]) 43) = vc_qAppend π x a n c := by kernel_rfl
theorem ok_qAppend (x : Nat) (a : Option Addr) (n c : Nat) (R : Value → PH → Prop) (s : PH) (h : vc_qAppend (RP Try.prog R) x a n c s) : DCalls Try.prog 18 (List.map AV.val [.v (.pointer (some ⟨x, 0, none⟩)), .v (.slice a n c)]).toArray s R :=
  calls_vcL (c := bodyOf Try.f18) (ann := ann_qAppend) la_qAppend (by kernel_rfl) Try.func18 rfl (by kernel_rfl) [.v (.pointer (some ⟨x, 0, none⟩)), .v (.slice a n c)] [] (by rw [Try.ntmps18]; exact Nat.le_of_ble_eq_true rfl) (by kernel_rfl) (by rw [show Try.f18.ntmps = 43 from Try.ntmps18, eq_qAppend]; exact h)

/-- (*lintel/lintelref06.Diary).Rewrite -/
def vc_qRewrite {W : Type} (π : Prims W) (x : Nat) (a : Option Addr) (n c : Nat) : W :=
  π.call (33 : Nat) #[(Go.Value.slice (a) (n) (c))] (true, [(false, [.str]), (false, [.int .i64])]) fun (((t0 : ByteArray), _), ((x1 : Int), _), _) =>
  π.ite (x1 != (0 : Int)) (
    π.ret (Go.Value.int (IntKind.i64) (x1))
  ) (
    π.unSome (some (Addr.mk x (0 : Nat) none)) fun p2 =>
    π.ld [.ptr] (p2.add (0 : Nat)) fun (p3, _) =>
    π.unSome (some (Addr.mk x (0 : Nat) none)) fun p4 =>
    π.ld [.str] (p4.add (1 : Nat)) fun ((t5 : ByteArray), _) =>
    π.call (29 : Nat) #[(Go.Value.pointer (p3)), (Go.Value.string (t5)), (Go.Value.string (t0))] (false, [(false, [.int .i64])]) fun (((x6 : Int), _), _) =>
    π.ret (Go.Value.int (IntKind.i64) (x6))
  )

def ann_qRewrite : Ann := { draws := [(4, { A := [0, 1, 2, 3, 4, 5, 6, 7, 8], eag := [10] })], join := [], loop := [] }
def la_qRewrite : LA := { ptr := [], ty := [] }
set_option maxRecDepth 100000 in
theorem eq_qRewrite {W : Type} (π : Prims W) (x : Nat) (a : Option Addr) (n c : Nat) : bodyL π Try.prog la_qRewrite ann_qRewrite (mkFr (maskA [] [.v (.pointer (some ⟨x, 0, none⟩)), .v (.slice a n c)] 0) 25) Try.f20 (bodyOf Try.f20) (mkFr (List.map some [.v (.pointer (some ⟨x, 0, none⟩)), .v (.slice a n c)]) 25) = vc_qRewrite π x a n c := by kernel_rfl
theorem ok_qRewrite (x : Nat) (a : Option Addr) (n c : Nat) (R : Value → PH → Prop) (s : PH) (h : vc_qRewrite (RP Try.prog R) x a n c s) : DCalls Try.prog 20 (List.map AV.val [.v (.pointer (some ⟨x, 0, none⟩)), .v (.slice a n c)]).toArray s R :=
  calls_vcL (c := bodyOf Try.f20) (ann := ann_qRewrite) la_qRewrite (by kernel_rfl) Try.func20 rfl (by kernel_rfl) [.v (.pointer (some ⟨x, 0, none⟩)), .v (.slice a n c)] [] (by rw [Try.ntmps20]; exact Nat.le_of_ble_eq_true rfl) (by kernel_rfl) (by rw [show Try.f20.ntmps = 25 from Try.ntmps20, eq_qRewrite]; exact h)

end Go.Proofs.Ytcdggocbjnmeaaa
