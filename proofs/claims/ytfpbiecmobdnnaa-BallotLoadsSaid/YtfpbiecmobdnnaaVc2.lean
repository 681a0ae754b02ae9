/-
  slices.Repeat, over one element: printed by a program of this session's own, each proved to be the function's by the kernel.
  Conditions: none; it proves no statement by itself.
-/
import Derived.Test.YtfpbiecmobdnnaaFwN
import Derived.Test.YtfpbiecmobdnnaaProg
set_option linter.unusedVariables false
set_option maxHeartbeats 1000000
namespace Go.Proofs.Ytfpbiecmobdnnaa
open Fw Fw.W Go

/-- math/bits.Mul64 -/
def vc_Mul64 {W : Type} (π : Prims W) (x y : Int) : W :=
  π.ret (Go.Value.tuple #[(Go.Value.int (IntKind.u64) (IntKind.u64.wrap (IntKind.u64.wrap (IntKind.u64.wrap (x.fdiv (4294967296 : Int) * y.fdiv (4294967296 : Int)) + (IntKind.u64.wrap (IntKind.u64.wrap (x.fdiv (4294967296 : Int) * IntKind.u64.wrap (↑(BitVec.ofInt (64 : Nat) y &&& BitVec.ofInt (64 : Nat) (4294967295 : Int)).toNat : Int)) + (IntKind.u64.wrap (IntKind.u64.wrap (↑(BitVec.ofInt (64 : Nat) x &&& BitVec.ofInt (64 : Nat) (4294967295 : Int)).toNat : Int) * IntKind.u64.wrap (↑(BitVec.ofInt (64 : Nat) y &&& BitVec.ofInt (64 : Nat) (4294967295 : Int)).toNat : Int))).fdiv (4294967296 : Int))).fdiv (4294967296 : Int)) + (IntKind.u64.wrap (IntKind.u64.wrap (↑(BitVec.ofInt (64 : Nat) (IntKind.u64.wrap (IntKind.u64.wrap (x.fdiv (4294967296 : Int) * IntKind.u64.wrap (↑(BitVec.ofInt (64 : Nat) y &&& BitVec.ofInt (64 : Nat) (4294967295 : Int)).toNat : Int)) + (IntKind.u64.wrap (IntKind.u64.wrap (↑(BitVec.ofInt (64 : Nat) x &&& BitVec.ofInt (64 : Nat) (4294967295 : Int)).toNat : Int) * IntKind.u64.wrap (↑(BitVec.ofInt (64 : Nat) y &&& BitVec.ofInt (64 : Nat) (4294967295 : Int)).toNat : Int))).fdiv (4294967296 : Int))) &&& BitVec.ofInt (64 : Nat) (4294967295 : Int)).toNat : Int) + IntKind.u64.wrap (IntKind.u64.wrap (↑(BitVec.ofInt (64 : Nat) x &&& BitVec.ofInt (64 : Nat) (4294967295 : Int)).toNat : Int) * y.fdiv (4294967296 : Int)))).fdiv (4294967296 : Int)))), (Go.Value.int (IntKind.u64) (IntKind.u64.wrap (x * y)))])

def ann_Mul64 : Ann := { draws := [], join := [], loop := [] }
set_option maxRecDepth 100000 in
theorem eq_Mul64 {W : Type} (π : Prims W) (x y : Int) : bodyW π Try.prog ann_Mul64 (mkFr (maskA [] [.v (.int .u64 x), .v (.int .u64 y)] 0) 51) Try.f75 (bodyOf Try.f75) (mkFr (List.map some [.v (.int .u64 x), .v (.int .u64 y)]) 51) = vc_Mul64 π x y := by kernel_rfl
theorem ok_Mul64 (x y : Int) (R : Value → PH → Prop) (s : PH) (h : vc_Mul64 (RP Try.prog R) x y s) : DCalls Try.prog 75 (List.map AV.val [.v (.int .u64 x), .v (.int .u64 y)]).toArray s R :=
  calls_vc (c := bodyOf Try.f75) (ann := ann_Mul64) (by kernel_rfl) Try.func75 rfl (by kernel_rfl) [.v (.int .u64 x), .v (.int .u64 y)] [] (by rw [Try.ntmps75]; exact Nat.le_of_ble_eq_true rfl) (by rw [show Try.f75.ntmps = 51 from Try.ntmps75, eq_Mul64]; exact h)

/-- math/bits.Mul -/
def vc_Mul {W : Type} (π : Prims W) (x y : Int) : W :=
  π.call (75 : Nat) #[(Go.Value.int (IntKind.u64) (x)), (Go.Value.int (IntKind.u64) (y))] (true, [(false, [.int .u64]), (false, [.int .u64])]) fun (((x0 : Int), _), ((x1 : Int), _), _) =>
  π.ret (Go.Value.tuple #[(Go.Value.int (IntKind.u64) (x0)), (Go.Value.int (IntKind.u64) (x1))])

def ann_Mul : Ann := { draws := [], join := [], loop := [] }
set_option maxRecDepth 100000 in
theorem eq_Mul {W : Type} (π : Prims W) (x y : Int) : bodyW π Try.prog ann_Mul (mkFr (maskA [] [.v (.int .u64 x), .v (.int .u64 y)] 0) 30) Try.f73 (bodyOf Try.f73) (mkFr (List.map some [.v (.int .u64 x), .v (.int .u64 y)]) 30) = vc_Mul π x y := by kernel_rfl
theorem ok_Mul (x y : Int) (R : Value → PH → Prop) (s : PH) (h : vc_Mul (RP Try.prog R) x y s) : DCalls Try.prog 73 (List.map AV.val [.v (.int .u64 x), .v (.int .u64 y)]).toArray s R :=
  calls_vc (c := bodyOf Try.f73) (ann := ann_Mul) (by kernel_rfl) Try.func73 rfl (by kernel_rfl) [.v (.int .u64 x), .v (.int .u64 y)] [] (by rw [Try.ntmps73]; exact Nat.le_of_ble_eq_true rfl) (by rw [show Try.f73.ntmps = 30 from Try.ntmps73, eq_Mul]; exact h)

/-- slices.Repeat[[]int,int] -/
def vc_Repeat {W : Type} (π : Prims W) (a : Option Addr) (an ac : Nat) (c : Int) : W :=
  π.join [] (fun J0 =>
    π.ite (decide (c < (0 : Int))) (
      π.fail
    ) (
      J0 (())
    )
  ) (fun (_) =>
    π.call (73 : Nat) #[(Go.Value.int (IntKind.u64) (IntKind.u64.wrap (↑an : Int))), (Go.Value.int (IntKind.u64) (IntKind.u64.wrap c))] (true, [(false, [.int .u64]), (false, [.int .u64])]) fun (((x1 : Int), _), ((x2 : Int), _), _) =>
    π.join [(false, [.int .u64])] (fun J3 =>
      π.ite (decide (x1 > (0 : Int))) (
        π.fail
      ) (
        π.ite (decide (x2 > (9223372036854775807 : Int))) (
          π.fail
        ) (
          J3 ((x2, ()), ())
        )
      )
    ) (fun (((x4 : Int), _), _) =>
      π.mksl (3 : Nat) (1 : Nat) (8 : Nat) [(Go.Value.int (IntKind.i64) ((0 : Int)))] (IntKind.i64.wrap x4) (IntKind.i64.wrap x4) fun r5 =>
      π.cpy (1 : Nat) (some (Addr.mk r5 (0 : Nat) none)) ((IntKind.i64.wrap x4).toNat) (a) (an) fun n6 =>
      π.loop [(false, [.slice]), (false, [.int .i64])] (((some (Addr.mk r5 (0 : Nat) none), (IntKind.i64.wrap x4).toNat, (IntKind.i64.wrap x4).toNat), ()), ((↑n6 : Int), ()), ()) fun ((((a8 : Option Addr), (n9 : Nat), (c10 : Nat)), _), ((x11 : Int), _), _) again7 =>
        π.ite (decide (x11 < (↑n9 : Int))) (
          π.guard ((0 : Int) ≤ x11 ∧ x11 ≤ (↑n9 : Int) ∧ (↑n9 : Int) ≤ (↑c10 : Int)) <|
          π.guard ((0 : Int) ≤ (0 : Int) ∧ (0 : Int) ≤ x11 ∧ x11 ≤ (↑c10 : Int)) <|
          π.cpy (1 : Nat) (if c10 = x11.toNat then a8 else Option.map (fun x => x.add (x11.toNat * (1 : Nat))) a8) ((↑n9 : Int).toNat - x11.toNat) (if c10 = (0 : Nat) then a8 else Option.map (fun x => x.add (0 : Nat)) a8) (x11.toNat - (0 : Nat)) fun n12 =>
          again7 (((a8, n9, c10), ()), (IntKind.i64.wrap (x11 + (↑n12 : Int)), ()), ())
        ) (
          π.ret (Go.Value.slice (a8) (n9) (c10))
        )
    )
  )

def ann_Repeat : Ann := { draws := [(9, { A := [0, 1, 2, 3, 4, 5, 6], eag := [8] })], join := [(3, []), (6, [(6, 99)])], loop := [(8, [(7, 65), (8, 3)])] }
set_option maxRecDepth 100000 in
theorem eq_Repeat {W : Type} (π : Prims W) (a : Option Addr) (an ac : Nat) (c : Int) : bodyW π Try.prog ann_Repeat (mkFr (maskA [] [.v (.slice a an ac), .v (.int .i64 c)] 0) 48) Try.f70 (bodyOf Try.f70) (mkFr (List.map some [.v (.slice a an ac), .v (.int .i64 c)]) 48) = vc_Repeat π a an ac c := by kernel_rfl
theorem ok_Repeat (a : Option Addr) (an ac : Nat) (c : Int) (R : Value → PH → Prop) (s : PH) (h : vc_Repeat (RP Try.prog R) a an ac c s) : DCalls Try.prog 70 (List.map AV.val [.v (.slice a an ac), .v (.int .i64 c)]).toArray s R :=
  calls_vc (c := bodyOf Try.f70) (ann := ann_Repeat) (by kernel_rfl) Try.func70 rfl (by kernel_rfl) [.v (.slice a an ac), .v (.int .i64 c)] [] (by rw [Try.ntmps70]; exact Nat.le_of_ble_eq_true rfl) (by rw [show Try.f70.ntmps = 48 from Try.ntmps70, eq_Repeat]; exact h)

end Go.Proofs.Ytfpbiecmobdnnaa
