/-
  Part 1 for the law: texts of this session's own, those parts that the claim needs, one behind the other.
  Conditions: none; it proves no statement by itself.
-/
import Derived.Test.YtcdggocbjnmeaaaGreatFwQ
import Derived.Test.YtcdggocbjnmeaaaGreatFwU
import Derived.Test.YtcdggocbjnmeaaaGreatProg
import Derived.Test.YtcdggocbjnmeaaaGreatFwR
import Derived.Test.YtcdggocbjnmeaaaGreatFwO
import Derived.Test.YtcdggocbjnmeaaaGreatFwP
import Derived.Test.YtcdggocbjnmeaaaGreatFwW
import Derived.Laws.BitsLemmas
import Derived.Shelf.SlIter.Nil
import Derived.Shelf.SortM.Plain
import Derived.Shelf.SortM.SortNone
import Derived.Ground.GgzProg
import Derived.Ground.SlgmProg
import Derived.WalkKit
import Derived.ProofKit
import Derived.OpenShut
import Derived.ShutString
import Derived.ChangeOld
import Derived.Below
import Derived.SizedLaws
set_option linter.unusedVariables false
set_option linter.unusedSectionVars false
set_option linter.unusedSimpArgs false
section
set_option linter.unusedVariables false
set_option maxHeartbeats 1000000
namespace Go.Proofs.YtcdggocbjnmeaaaGreat
open Fw Fw.W Go
/-- (*lintel/wire.codec).byte -/
def vc_wbyte {W : Type} (π : Prims W) (c : Nat) : W :=
  π.unSome (some (Addr.mk c (0 : Nat) none)) fun p0 =>
  π.ld [.slice] (p0.add (0 : Nat)) fun (((a1 : Option Addr), (n2 : Nat), (c3 : Nat)), _) =>
  π.ite ((↑n2 : Int) == (0 : Int)) (
    π.unSome (some (Addr.mk c (0 : Nat) none)) fun p4 =>
    π.st (p4.add (2 : Nat)) [(Value.bool (true))] <|
    π.ret (Value.int (IntKind.u8) ((0 : Int)))
  ) (
    π.unSome (some (Addr.mk c (0 : Nat) none)) fun p5 =>
    π.ld [.slice] (p5.add (0 : Nat)) fun (((a6 : Option Addr), (n7 : Nat), (c8 : Nat)), _) =>
    π.guard ((0 : Int) ≤ (0 : Int) ∧ (0 : Int) < (↑n7 : Int)) <|
    π.unSome (a6) fun p9 =>
    π.ld [.int .u8] (p9.add (0 : Nat)) fun ((x10 : Int), _) =>
    π.unSome (some (Addr.mk c (0 : Nat) none)) fun p11 =>
    π.ld [.slice] (p11.add (0 : Nat)) fun (((a12 : Option Addr), (n13 : Nat), (c14 : Nat)), _) =>
    π.guard ((0 : Int) ≤ (1 : Int) ∧ (1 : Int) ≤ (↑n13 : Int) ∧ (↑n13 : Int) ≤ (↑c14 : Int)) <|
    π.unSome (some (Addr.mk c (0 : Nat) none)) fun p15 =>
    π.st (p15.add (0 : Nat)) [(Value.slice (if c14 = (1 : Nat) then a12 else Option.map (fun x => x.add (1 : Nat)) a12) ((↑n13 : Int).toNat - (1 : Nat)) (c14 - (1 : Nat)))] <|
    π.ret (Value.int (IntKind.u8) (x10))
  )
def ann_wbyte : Ann := { draws := [], join := [], loop := [] }
def la_wbyte : LA := { ptr := [], ty := [] }
set_option maxRecDepth 100000 in
theorem eq_wbyte {W : Type} (π : Prims W) (c : Nat) : bodyL π Tryz.prog la_wbyte ann_wbyte (mkFr (maskA [] [.v (.pointer (some ⟨c, 0, none⟩))] 0) 28) Tryz.f123 (bodyOf Tryz.f123) (mkFr (List.map some [.v (.pointer (some ⟨c, 0, none⟩))]) 28) = vc_wbyte π c := by kernel_rfl
theorem ok_wbyte (c : Nat) (R : Value → PH → Prop) (s : PH) (h : vc_wbyte (RP Tryz.prog R) c s) : DCalls Tryz.prog 123 (List.map AV.val [.v (.pointer (some ⟨c, 0, none⟩))]).toArray s R :=
  calls_vcL (c := bodyOf Tryz.f123) (ann := ann_wbyte) la_wbyte (by kernel_rfl) Tryz.func123 rfl (by kernel_rfl) [.v (.pointer (some ⟨c, 0, none⟩))] [] (by rw [Tryz.ntmps123]; exact Nat.le_of_ble_eq_true rfl) (by kernel_rfl) (by rw [show Tryz.f123.ntmps = 28 from Tryz.ntmps123, eq_wbyte]; exact h)
/-- (*lintel/wire.codec).long -/
def vc_wlong {W : Type} (π : Prims W) (c : Nat) (p : Addr) : W :=
  π.unSome (some (Addr.mk c (0 : Nat) none)) fun p0 =>
  π.ld [.bool] (p0.add (1 : Nat)) fun ((b1 : Bool), _) =>
  π.ite (!b1) (
    π.unSome (some p) fun p2 =>
    π.ld [.int .i64] (p2) fun ((x3 : Int), _) =>
    π.unSome (some p) fun p4 =>
    π.ld [.int .i64] (p4) fun ((x5 : Int), _) =>
    π.loop [(false, [.int .u64])] ((IntKind.u64.wrap (↑(BitVec.ofInt (64 : Nat) (IntKind.u64.wrap (IntKind.u64.wrap x3 * (2 : Int))) ^^^ BitVec.ofInt (64 : Nat) (IntKind.u64.wrap (x5.fdiv (9223372036854775808 : Int)))).toNat : Int), ()), ()) fun (((x7 : Int), _), _) again6 =>
      π.ite (decide (x7 ≥ (128 : Int))) (
        π.unSome (some (Addr.mk c (0 : Nat) none)) fun p8 =>
        π.ld [.slice] (p8.add (0 : Nat)) fun (((a9 : Option Addr), (n10 : Nat), (c11 : Nat)), _) =>
        π.nw (Obj.cells #[(Value.int (IntKind.u8) (IntKind.u8.wrap (↑(BitVec.ofInt (8 : Nat) (IntKind.u8.wrap x7) ||| BitVec.ofInt (8 : Nat) (128 : Int)).toNat : Int)))] (5 : Nat) ((0 : Nat), (0 : Nat))) fun r12 =>
        π.app (5 : Nat) (1 : Nat) (1 : Nat) [(Value.int (IntKind.u8) ((0 : Int)))] (a9) (n10) (c11) (Src.sl (some (Addr.mk r12 (0 : Nat) none)) (1 : Nat)) fun a13 n14 c15 =>
        π.unSome (some (Addr.mk c (0 : Nat) none)) fun p16 =>
        π.st (p16.add (0 : Nat)) [(Value.slice (a13) (n14) (c15))] <|
        again6 ((x7.fdiv (128 : Int), ()), ())
      ) (
        π.unSome (some (Addr.mk c (0 : Nat) none)) fun p17 =>
        π.ld [.slice] (p17.add (0 : Nat)) fun (((a18 : Option Addr), (n19 : Nat), (c20 : Nat)), _) =>
        π.nw (Obj.cells #[(Value.int (IntKind.u8) (IntKind.u8.wrap x7))] (5 : Nat) ((0 : Nat), (0 : Nat))) fun r21 =>
        π.app (5 : Nat) (1 : Nat) (1 : Nat) [(Value.int (IntKind.u8) ((0 : Int)))] (a18) (n19) (c20) (Src.sl (some (Addr.mk r21 (0 : Nat) none)) (1 : Nat)) fun a22 n23 c24 =>
        π.unSome (some (Addr.mk c (0 : Nat) none)) fun p25 =>
        π.st (p25.add (0 : Nat)) [(Value.slice (a22) (n23) (c24))] <|
        π.ret (Value.tuple #[])
      )
  ) (
    π.loop [(false, [.int .u64]), (false, [.int .i64])] (((0 : Int), ()), ((0 : Int), ()), ()) fun (((x27 : Int), _), ((x28 : Int), _), _) again26 =>
      π.ite (decide (x28 < (70 : Int))) (
        π.unSome (some (Addr.mk c (0 : Nat) none)) fun p29 =>
        π.ld [.bool] (p29.add (2 : Nat)) fun ((b30 : Bool), _) =>
        π.ite (!b30) (
          π.call (123 : Nat) #[(Value.pointer (some (Addr.mk c (0 : Nat) none)))] (false, [(false, [.int .u8])]) fun (((x31 : Int), _), _) =>
          π.guard ((0 : Int) ≤ x28) <|
          π.ite (decide (x31 < (128 : Int))) (
            π.unSome (some p) fun p32 =>
            π.st (p32) [(Value.int (IntKind.i64) (IntKind.i64.wrap (↑(BitVec.ofInt (64 : Nat) (IntKind.i64.wrap ((IntKind.u64.wrap (↑(BitVec.ofInt (64 : Nat) x27 ||| BitVec.ofInt (64 : Nat) (if true = true then IntKind.u64.wrap (IntKind.u64.wrap (IntKind.u8.wrap (↑(BitVec.ofInt (8 : Nat) x31 &&& BitVec.ofInt (8 : Nat) (127 : Int)).toNat : Int)) * (2 : Int) ^ min x28.toNat (64 : Nat)) else (IntKind.u64.wrap (IntKind.u8.wrap (↑(BitVec.ofInt (8 : Nat) x31 &&& BitVec.ofInt (8 : Nat) (127 : Int)).toNat : Int))).fdiv ((2 : Int) ^ min x28.toNat (64 : Nat)))).toNat : Int)).fdiv (2 : Int))) ^^^ BitVec.ofInt (64 : Nat) (IntKind.i64.wrap ((0 : Int) - IntKind.i64.wrap (IntKind.u64.wrap (↑(BitVec.ofInt (64 : Nat) (IntKind.u64.wrap (↑(BitVec.ofInt (64 : Nat) x27 ||| BitVec.ofInt (64 : Nat) (if true = true then IntKind.u64.wrap (IntKind.u64.wrap (IntKind.u8.wrap (↑(BitVec.ofInt (8 : Nat) x31 &&& BitVec.ofInt (8 : Nat) (127 : Int)).toNat : Int)) * (2 : Int) ^ min x28.toNat (64 : Nat)) else (IntKind.u64.wrap (IntKind.u8.wrap (↑(BitVec.ofInt (8 : Nat) x31 &&& BitVec.ofInt (8 : Nat) (127 : Int)).toNat : Int))).fdiv ((2 : Int) ^ min x28.toNat (64 : Nat)))).toNat : Int)) &&& BitVec.ofInt (64 : Nat) (1 : Int)).toNat : Int))))).toNat : Int)))] <|
            π.ret (Value.tuple #[])
          ) (
            again26 ((IntKind.u64.wrap (↑(BitVec.ofInt (64 : Nat) x27 ||| BitVec.ofInt (64 : Nat) (if true = true then IntKind.u64.wrap (IntKind.u64.wrap (IntKind.u8.wrap (↑(BitVec.ofInt (8 : Nat) x31 &&& BitVec.ofInt (8 : Nat) (127 : Int)).toNat : Int)) * (2 : Int) ^ min x28.toNat (64 : Nat)) else (IntKind.u64.wrap (IntKind.u8.wrap (↑(BitVec.ofInt (8 : Nat) x31 &&& BitVec.ofInt (8 : Nat) (127 : Int)).toNat : Int))).fdiv ((2 : Int) ^ min x28.toNat (64 : Nat)))).toNat : Int), ()), (IntKind.i64.wrap (x28 + (7 : Int)), ()), ())
          )
        ) (
          π.unSome (some (Addr.mk c (0 : Nat) none)) fun p33 =>
          π.st (p33.add (2 : Nat)) [(Value.bool (true))] <|
          π.ret (Value.tuple #[])
        )
      ) (
        π.unSome (some (Addr.mk c (0 : Nat) none)) fun p34 =>
        π.st (p34.add (2 : Nat)) [(Value.bool (true))] <|
        π.ret (Value.tuple #[])
      )
  )
def ann_wlong : Ann := { draws := [(1, { A := [0, 1, 2, 3, 4, 5, 6, 7, 8, 9, 10, 11] })], join := [], loop := [(2, [(4, 198)]), (8, [(5, 198), (6, 3)])] }
def la_wlong : LA := { ptr := [], ty := [] }
set_option maxRecDepth 100000 in
theorem eq_wlong {W : Type} (π : Prims W) (c : Nat) (p : Addr) : bodyL π Tryz.prog la_wlong ann_wlong (mkFr (maskA [] [.v (.pointer (some ⟨c, 0, none⟩)), .v (.pointer (some p))] 0) 86) Tryz.f117 (bodyOf Tryz.f117) (mkFr (List.map some [.v (.pointer (some ⟨c, 0, none⟩)), .v (.pointer (some p))]) 86) = vc_wlong π c p := by kernel_rfl
theorem ok_wlong (c : Nat) (p : Addr) (R : Value → PH → Prop) (s : PH) (h : vc_wlong (RP Tryz.prog R) c p s) : DCalls Tryz.prog 117 (List.map AV.val [.v (.pointer (some ⟨c, 0, none⟩)), .v (.pointer (some p))]).toArray s R :=
  calls_vcL (c := bodyOf Tryz.f117) (ann := ann_wlong) la_wlong (by kernel_rfl) Tryz.func117 rfl (by kernel_rfl) [.v (.pointer (some ⟨c, 0, none⟩)), .v (.pointer (some p))] [] (by rw [Tryz.ntmps117]; exact Nat.le_of_ble_eq_true rfl) (by kernel_rfl) (by rw [show Tryz.f117.ntmps = 86 from Tryz.ntmps117, eq_wlong]; exact h)
/-- (*lintel/wire.codec).nums -/
def vc_wnums {W : Type} (π : Prims W) (c : Nat) (a : Option Addr) (an ac : Nat) : W :=
  π.loop [(false, [.slice]), (false, [.int .i64]), (false, [.int .i64])] (((a, an, ac), ()), ((↑an : Int), ()), ((0 : Int), ()), ()) fun ((((a1 : Option Addr), (n2 : Nat), (c3 : Nat)), _), ((x4 : Int), _), ((x5 : Int), _), _) again0 =>
    π.ite (decide (x5 < x4)) (
      π.guard ((0 : Int) ≤ x5 ∧ x5 < (↑n2 : Int)) <|
      π.unSome (a1) fun p6 =>
      π.ld [.ptr] (p6.add (x5.toNat * (1 : Nat))) fun (p7, _) =>
      π.unSome (p7) fun p8 =>
      π.ld [.int .i64] (p8) fun ((x9 : Int), _) =>
      π.nw (Obj.cells #[(Value.int (IntKind.i64) ((0 : Int)))] (2 : Nat) ((0 : Nat), (0 : Nat))) fun r10 =>
      π.st (Addr.mk r10 (0 : Nat) none) [(Value.int (IntKind.i64) (x9))] <|
      π.call (117 : Nat) #[(Value.pointer (some (Addr.mk c (0 : Nat) none))), (Value.pointer (some (Addr.mk r10 (0 : Nat) none)))] (true, []) fun (_) =>
      π.ld [.int .i64] (Addr.mk r10 (0 : Nat) none) fun ((x11 : Int), _) =>
      π.unSome (p7) fun p12 =>
      π.st (p12) [(Value.int (IntKind.i64) (x11))] <|
      again0 (((a1, n2, c3), ()), (x4, ()), (IntKind.i64.wrap (x5 + (1 : Int)), ()), ())
    ) (
      π.ret (Value.tuple #[])
    )
def ann_wnums : Ann := { draws := [], join := [], loop := [(1, [(7, 191), (8, 3), (9, 3)])] }
def la_wnums : LA := { ptr := [], ty := [] }
set_option maxRecDepth 100000 in
theorem eq_wnums {W : Type} (π : Prims W) (c : Nat) (a : Option Addr) (an ac : Nat) : bodyL π Tryz.prog la_wnums ann_wnums (mkFr (maskA [] [.v (.pointer (some ⟨c, 0, none⟩)), .v (.slice a an ac)] 0) 22) Tryz.f107 (bodyOf Tryz.f107) (mkFr (List.map some [.v (.pointer (some ⟨c, 0, none⟩)), .v (.slice a an ac)]) 22) = vc_wnums π c a an ac := by kernel_rfl
theorem ok_wnums (c : Nat) (a : Option Addr) (an ac : Nat) (R : Value → PH → Prop) (s : PH) (h : vc_wnums (RP Tryz.prog R) c a an ac s) : DCalls Tryz.prog 107 (List.map AV.val [.v (.pointer (some ⟨c, 0, none⟩)), .v (.slice a an ac)]).toArray s R :=
  calls_vcL (c := bodyOf Tryz.f107) (ann := ann_wnums) la_wnums (by kernel_rfl) Tryz.func107 rfl (by kernel_rfl) [.v (.pointer (some ⟨c, 0, none⟩)), .v (.slice a an ac)] [] (by rw [Tryz.ntmps107]; exact Nat.le_of_ble_eq_true rfl) (by kernel_rfl) (by rw [show Tryz.f107.ntmps = 22 from Tryz.ntmps107, eq_wnums]; exact h)
/-- (*lintel/wire.codec).flag -/
def vc_wflag {W : Type} (π : Prims W) (c : Nat) (p : Addr) : W :=
  π.nw (Obj.cells #[(Value.int (IntKind.i64) ((0 : Int)))] (3 : Nat) ((0 : Nat), (0 : Nat))) fun r0 =>
  π.st (Addr.mk r0 (0 : Nat) none) [(Value.int (IntKind.i64) ((0 : Int)))] <|
  π.join [(false, [.addr])] (fun J1 =>
    π.unSome (some p) fun p2 =>
    π.ld [.bool] (p2) fun ((b3 : Bool), _) =>
    π.ite (b3) (
      π.st (Addr.mk r0 (0 : Nat) none) [(Value.int (IntKind.i64) ((1 : Int)))] <|
      J1 ((Addr.mk r0 (0 : Nat) none, ()), ())
    ) (
      J1 ((Addr.mk r0 (0 : Nat) none, ()), ())
    )
  ) (fun ((p4, _), _) =>
    π.nw (Obj.cells #[(Value.pointer (some p4))] (176 : Nat) ((0 : Nat), (0 : Nat))) fun r5 =>
    π.call (107 : Nat) #[(Value.pointer (some (Addr.mk c (0 : Nat) none))), (Value.slice (some (Addr.mk r5 (0 : Nat) none)) ((1 : Nat)) ((1 : Nat)))] (true, []) fun (_) =>
    π.ld [.int .i64] (p4) fun ((x6 : Int), _) =>
    π.unSome (some p) fun p7 =>
    π.st (p7) [(Value.bool (x6 == (1 : Int)))] <|
    π.unSome (some (Addr.mk c (0 : Nat) none)) fun p8 =>
    π.ld [.bool] (p8.add (2 : Nat)) fun ((b9 : Bool), _) =>
    π.ite (b9) (
      π.unSome (some (Addr.mk c (0 : Nat) none)) fun p10 =>
      π.st (p10.add (2 : Nat)) [(Value.bool (true))] <|
      π.ret (Value.tuple #[])
    ) (
      π.ld [.int .i64] (p4) fun ((x11 : Int), _) =>
      π.ite (decide (x11 < (0 : Int))) (
        π.unSome (some (Addr.mk c (0 : Nat) none)) fun p12 =>
        π.st (p12.add (2 : Nat)) [(Value.bool (true))] <|
        π.ret (Value.tuple #[])
      ) (
        π.ld [.int .i64] (p4) fun ((x13 : Int), _) =>
        π.unSome (some (Addr.mk c (0 : Nat) none)) fun p14 =>
        π.st (p14.add (2 : Nat)) [(Value.bool (decide (x13 > (1 : Int))))] <|
        π.ret (Value.tuple #[])
      )
    )
  )
def ann_wflag : Ann := { draws := [], join := [(3, [(4, 1000000)])], loop := [] }
def la_wflag : LA := { ptr := [], ty := [] }
set_option maxRecDepth 100000 in
theorem eq_wflag {W : Type} (π : Prims W) (c : Nat) (p : Addr) : bodyL π Tryz.prog la_wflag ann_wflag (mkFr (maskA [] [.v (.pointer (some ⟨c, 0, none⟩)), .v (.pointer (some p))] 0) 30) Tryz.f108 (bodyOf Tryz.f108) (mkFr (List.map some [.v (.pointer (some ⟨c, 0, none⟩)), .v (.pointer (some p))]) 30) = vc_wflag π c p := by kernel_rfl
theorem ok_wflag (c : Nat) (p : Addr) (R : Value → PH → Prop) (s : PH) (h : vc_wflag (RP Tryz.prog R) c p s) : DCalls Tryz.prog 108 (List.map AV.val [.v (.pointer (some ⟨c, 0, none⟩)), .v (.pointer (some p))]).toArray s R :=
  calls_vcL (c := bodyOf Tryz.f108) (ann := ann_wflag) la_wflag (by kernel_rfl) Tryz.func108 rfl (by kernel_rfl) [.v (.pointer (some ⟨c, 0, none⟩)), .v (.pointer (some p))] [] (by rw [Tryz.ntmps108]; exact Nat.le_of_ble_eq_true rfl) (by kernel_rfl) (by rw [show Tryz.f108.ntmps = 30 from Tryz.ntmps108, eq_wflag]; exact h)
/-- (*lintel/wire.codec).texts -/
def vc_wtexts {W : Type} (π : Prims W) (c : Nat) (a : Option Addr) (an ac : Nat) : W :=
  π.loop [(false, [.slice]), (false, [.int .i64]), (false, [.int .i64])] (((a, an, ac), ()), ((↑an : Int), ()), ((0 : Int), ()), ()) fun ((((a1 : Option Addr), (n2 : Nat), (c3 : Nat)), _), ((x4 : Int), _), ((x5 : Int), _), _) again0 =>
    π.ite (decide (x5 < x4)) (
      π.guard ((0 : Int) ≤ x5 ∧ x5 < (↑n2 : Int)) <|
      π.unSome (a1) fun p6 =>
      π.ld [.ptr] (p6.add (x5.toNat * (1 : Nat))) fun (p7, _) =>
      π.unSome (p7) fun p8 =>
      π.ld [.str] (p8) fun ((t9 : ByteArray), _) =>
      π.nw (Obj.cells #[(Value.int (IntKind.i64) ((0 : Int)))] (3 : Nat) ((0 : Nat), (0 : Nat))) fun r10 =>
      π.st (Addr.mk r10 (0 : Nat) none) [(Value.int (IntKind.i64) ((↑t9.size : Int)))] <|
      π.nw (Obj.cells #[(Value.pointer (some (Addr.mk r10 (0 : Nat) none)))] (176 : Nat) ((0 : Nat), (0 : Nat))) fun r11 =>
      π.call (107 : Nat) #[(Value.pointer (some (Addr.mk c (0 : Nat) none))), (Value.slice (some (Addr.mk r11 (0 : Nat) none)) ((1 : Nat)) ((1 : Nat)))] (true, []) fun (_) =>
      π.unSome (some (Addr.mk c (0 : Nat) none)) fun p12 =>
      π.ld [.bool] (p12.add (1 : Nat)) fun ((b13 : Bool), _) =>
      π.ite (!b13) (
        π.unSome (some (Addr.mk c (0 : Nat) none)) fun p14 =>
        π.ld [.slice] (p14.add (0 : Nat)) fun (((a15 : Option Addr), (n16 : Nat), (c17 : Nat)), _) =>
        π.unSome (p7) fun p18 =>
        π.ld [.str] (p18) fun ((t19 : ByteArray), _) =>
        π.app (5 : Nat) (1 : Nat) (1 : Nat) [(Value.int (IntKind.u8) ((0 : Int)))] (a15) (n16) (c17) (Src.str t19) fun a20 n21 c22 =>
        π.unSome (some (Addr.mk c (0 : Nat) none)) fun p23 =>
        π.st (p23.add (0 : Nat)) [(Value.slice (a20) (n21) (c22))] <|
        again0 (((a1, n2, c3), ()), (x4, ()), (IntKind.i64.wrap (x5 + (1 : Int)), ()), ())
      ) (
        π.join [(false, [.ptr]), (false, [.addr]), (false, [.slice]), (false, [.int .i64]), (false, [.int .i64]), (false, [.bool])] (fun J24 =>
          π.unSome (some (Addr.mk c (0 : Nat) none)) fun p25 =>
          π.ld [.bool] (p25.add (2 : Nat)) fun ((b26 : Bool), _) =>
          π.ite (b26) (
            J24 ((p7, ()), (Addr.mk r10 (0 : Nat) none, ()), ((a1, n2, c3), ()), (x4, ()), (x5, ()), (true, ()), ())
          ) (
            π.ld [.int .i64] (Addr.mk r10 (0 : Nat) none) fun ((x27 : Int), _) =>
            π.ite (decide (x27 < (0 : Int))) (
              J24 ((p7, ()), (Addr.mk r10 (0 : Nat) none, ()), ((a1, n2, c3), ()), (x4, ()), (x5, ()), (true, ()), ())
            ) (
              π.ld [.int .i64] (Addr.mk r10 (0 : Nat) none) fun ((x28 : Int), _) =>
              π.unSome (some (Addr.mk c (0 : Nat) none)) fun p29 =>
              π.ld [.slice] (p29.add (0 : Nat)) fun (((a30 : Option Addr), (n31 : Nat), (c32 : Nat)), _) =>
              J24 ((p7, ()), (Addr.mk r10 (0 : Nat) none, ()), ((a1, n2, c3), ()), (x4, ()), (x5, ()), (decide (x28 > (↑n31 : Int)), ()), ())
            )
          )
        ) (fun ((p33, _), (p34, _), (((a35 : Option Addr), (n36 : Nat), (c37 : Nat)), _), ((x38 : Int), _), ((x39 : Int), _), ((b40 : Bool), _), _) =>
          π.ite (b40) (
            π.unSome (some (Addr.mk c (0 : Nat) none)) fun p41 =>
            π.st (p41.add (2 : Nat)) [(Value.bool (true))] <|
            again0 (((a35, n36, c37), ()), (x38, ()), (IntKind.i64.wrap (x39 + (1 : Int)), ()), ())
          ) (
            π.unSome (some (Addr.mk c (0 : Nat) none)) fun p42 =>
            π.ld [.slice] (p42.add (0 : Nat)) fun (((a43 : Option Addr), (n44 : Nat), (c45 : Nat)), _) =>
            π.ld [.int .i64] (p34) fun ((x46 : Int), _) =>
            π.guard ((0 : Int) ≤ (0 : Int) ∧ (0 : Int) ≤ x46 ∧ x46 ≤ (↑c45 : Int)) <|
            π.b2s (if c45 = (0 : Nat) then a43 else Option.map (fun x => x.add (0 : Nat)) a43) (x46.toNat - (0 : Nat)) fun t47 =>
            π.unSome (p33) fun p48 =>
            π.st (p48) [(Value.string (t47))] <|
            π.unSome (some (Addr.mk c (0 : Nat) none)) fun p49 =>
            π.ld [.slice] (p49.add (0 : Nat)) fun (((a50 : Option Addr), (n51 : Nat), (c52 : Nat)), _) =>
            π.ld [.int .i64] (p34) fun ((x53 : Int), _) =>
            π.guard ((0 : Int) ≤ x53 ∧ x53 ≤ (↑n51 : Int) ∧ (↑n51 : Int) ≤ (↑c52 : Int)) <|
            π.unSome (some (Addr.mk c (0 : Nat) none)) fun p54 =>
            π.st (p54.add (0 : Nat)) [(Value.slice (if c52 = x53.toNat then a50 else Option.map (fun x => x.add (x53.toNat * (1 : Nat))) a50) ((↑n51 : Int).toNat - x53.toNat) (c52 - x53.toNat))] <|
            again0 (((a35, n36, c37), ()), (x38, ()), (IntKind.i64.wrap (x39 + (1 : Int)), ()), ())
          )
        )
      )
    ) (
      π.ret (Value.tuple #[])
    )
def ann_wtexts : Ann := { draws := [(8, { A := [0, 1, 2, 3, 4, 5, 6, 7], eag := [9, 10] }), (9, { A := [0, 1, 2, 3, 4, 5, 6, 7, 8, 9, 10, 11, 12, 13, 14, 15, 16, 17] }), (5, { A := [0, 1, 2, 3, 4, 5, 6, 7, 8] }), (6, { A := [0, 1, 2, 3, 4, 5, 6, 7, 8] })], join := [(10, [(5, 180), (6, 1000000), (7, 194), (8, 3), (9, 3), (55, 4)])], loop := [(1, [(7, 194), (8, 3), (9, 3)])] }
def la_wtexts : LA := { ptr := [], ty := [] }
set_option maxRecDepth 100000 in
theorem eq_wtexts {W : Type} (π : Prims W) (c : Nat) (a : Option Addr) (an ac : Nat) : bodyL π Tryz.prog la_wtexts ann_wtexts (mkFr (maskA [] [.v (.pointer (some ⟨c, 0, none⟩)), .v (.slice a an ac)] 0) 77) Tryz.f109 (bodyOf Tryz.f109) (mkFr (List.map some [.v (.pointer (some ⟨c, 0, none⟩)), .v (.slice a an ac)]) 77) = vc_wtexts π c a an ac := by kernel_rfl
theorem ok_wtexts (c : Nat) (a : Option Addr) (an ac : Nat) (R : Value → PH → Prop) (s : PH) (h : vc_wtexts (RP Tryz.prog R) c a an ac s) : DCalls Tryz.prog 109 (List.map AV.val [.v (.pointer (some ⟨c, 0, none⟩)), .v (.slice a an ac)]).toArray s R :=
  calls_vcL (c := bodyOf Tryz.f109) (ann := ann_wtexts) la_wtexts (by kernel_rfl) Tryz.func109 rfl (by kernel_rfl) [.v (.pointer (some ⟨c, 0, none⟩)), .v (.slice a an ac)] [] (by rw [Tryz.ntmps109]; exact Nat.le_of_ble_eq_true rfl) (by kernel_rfl) (by rw [show Tryz.f109.ntmps = 77 from Tryz.ntmps109, eq_wtexts]; exact h)
/-- (*lintel/wire.codec).entry -/
def vc_wentry {W : Type} (π : Prims W) (c : Nat) (p : Addr) : W :=
  π.unSome (some p) fun p0 =>
  π.unSome (some p) fun p1 =>
  π.unSome (some p) fun p2 =>
  π.nw (Obj.cells #[(Value.pointer (some (p0.add (0 : Nat)))), (Value.pointer (some (p1.add (1 : Nat)))), (Value.pointer (some (p2.add (2 : Nat))))] (176 : Nat) ((0 : Nat), (0 : Nat))) fun r3 =>
  π.call (107 : Nat) #[(Value.pointer (some (Addr.mk c (0 : Nat) none))), (Value.slice (some (Addr.mk r3 (0 : Nat) none)) ((3 : Nat)) ((3 : Nat)))] (true, []) fun (_) =>
  π.unSome (some p) fun p4 =>
  π.nw (Obj.cells #[(Value.pointer (some (p4.add (3 : Nat))))] (180 : Nat) ((0 : Nat), (0 : Nat))) fun r5 =>
  π.call (109 : Nat) #[(Value.pointer (some (Addr.mk c (0 : Nat) none))), (Value.slice (some (Addr.mk r5 (0 : Nat) none)) ((1 : Nat)) ((1 : Nat)))] (true, []) fun (_) =>
  π.ret (Value.tuple #[])
def ann_wentry : Ann := { draws := [(0, { A := [0, 1, 2, 3, 4, 5, 6, 7, 8, 9] })], join := [], loop := [] }
def la_wentry : LA := { ptr := [], ty := [] }
set_option maxRecDepth 100000 in
theorem eq_wentry {W : Type} (π : Prims W) (c : Nat) (p : Addr) : bodyL π Tryz.prog la_wentry ann_wentry (mkFr (maskA [] [.v (.pointer (some ⟨c, 0, none⟩)), .v (.pointer (some p))] 0) 22) Tryz.f111 (bodyOf Tryz.f111) (mkFr (List.map some [.v (.pointer (some ⟨c, 0, none⟩)), .v (.pointer (some p))]) 22) = vc_wentry π c p := by kernel_rfl
theorem ok_wentry (c : Nat) (p : Addr) (R : Value → PH → Prop) (s : PH) (h : vc_wentry (RP Tryz.prog R) c p s) : DCalls Tryz.prog 111 (List.map AV.val [.v (.pointer (some ⟨c, 0, none⟩)), .v (.pointer (some p))]).toArray s R :=
  calls_vcL (c := bodyOf Tryz.f111) (ann := ann_wentry) la_wentry (by kernel_rfl) Tryz.func111 rfl (by kernel_rfl) [.v (.pointer (some ⟨c, 0, none⟩)), .v (.pointer (some p))] [] (by rw [Tryz.ntmps111]; exact Nat.le_of_ble_eq_true rfl) (by kernel_rfl) (by rw [show Tryz.f111.ntmps = 22 from Tryz.ntmps111, eq_wentry]; exact h)
/-- lintel/wire.items[lintel/api.Entry] -/
def vc_witems {W : Type} (π : Prims W) (c : Nat) (p : Addr) : W :=
  π.unSome (some p) fun p0 =>
  π.ld [.slice] (p0) fun (((a1 : Option Addr), (n2 : Nat), (c3 : Nat)), _) =>
  π.nw (Obj.cells #[(Value.int (IntKind.i64) ((0 : Int)))] (3 : Nat) ((0 : Nat), (0 : Nat))) fun r4 =>
  π.st (Addr.mk r4 (0 : Nat) none) [(Value.int (IntKind.i64) ((↑n2 : Int)))] <|
  π.nw (Obj.cells #[(Value.pointer (some (Addr.mk r4 (0 : Nat) none)))] (176 : Nat) ((0 : Nat), (0 : Nat))) fun r5 =>
  π.call (107 : Nat) #[(Value.pointer (some (Addr.mk c (0 : Nat) none))), (Value.slice (some (Addr.mk r5 (0 : Nat) none)) ((1 : Nat)) ((1 : Nat)))] (true, []) fun (_) =>
  π.unSome (some (Addr.mk c (0 : Nat) none)) fun p6 =>
  π.ld [.bool] (p6.add (1 : Nat)) fun ((b7 : Bool), _) =>
  π.ite (!b7) (
    π.unSome (some p) fun p8 =>
    π.ld [.slice] (p8) fun (((a9 : Option Addr), (n10 : Nat), (c11 : Nat)), _) =>
    π.loop [(false, [.int .i64]), (false, [.int .i64])] (((↑n10 : Int), ()), ((0 : Int), ()), ()) fun (((x13 : Int), _), ((x14 : Int), _), _) again12 =>
      π.ite (decide (x14 < x13)) (
        π.unSome (some p) fun p15 =>
        π.ld [.slice] (p15) fun (((a16 : Option Addr), (n17 : Nat), (c18 : Nat)), _) =>
        π.guard ((0 : Int) ≤ x14 ∧ x14 < (↑n17 : Int)) <|
        π.unSome (a16) fun p19 =>
        π.ld [.int .i64, .int .i64, .int .i64, .str] (p19.add (x14.toNat * (4 : Nat))) fun ((x20 : Int), (x21 : Int), (x22 : Int), (t23 : ByteArray), _) =>
        π.nw (Obj.cells #[(Value.int (IntKind.i64) ((0 : Int))), (Value.int (IntKind.i64) ((0 : Int))), (Value.int (IntKind.i64) ((0 : Int))), (Value.string (ByteArray.mk #[]))] (43 : Nat) ((0 : Nat), (0 : Nat))) fun r24 =>
        π.st (Addr.mk r24 (0 : Nat) none) [(Value.int (IntKind.i64) (x20)), (Value.int (IntKind.i64) (x21)), (Value.int (IntKind.i64) (x22)), (Value.string (t23))] <|
        π.call (111 : Nat) #[(Value.pointer (some (Addr.mk c (0 : Nat) none))), (Value.pointer (some (Addr.mk r24 (0 : Nat) none)))] (true, []) fun (_) =>
        again12 ((x13, ()), (IntKind.i64.wrap (x14 + (1 : Int)), ()), ())
      ) (
        π.ret (Value.tuple #[])
      )
  ) (
    π.ld [.int .i64] (Addr.mk r4 (0 : Nat) none) fun ((x25 : Int), _) =>
    π.loop [(false, [.addr]), (false, [.int .i64]), (false, [.int .i64])] ((Addr.mk r4 (0 : Nat) none, ()), (x25, ()), ((0 : Int), ()), ()) fun ((p27, _), ((x28 : Int), _), ((x29 : Int), _), _) again26 =>
      π.ite (decide (x29 < x28)) (
        π.join [(false, [.addr]), (false, [.int .i64]), (false, [.int .i64])] (fun J30 =>
          π.unSome (some (Addr.mk c (0 : Nat) none)) fun p31 =>
          π.ld [.bool] (p31.add (2 : Nat)) fun ((b32 : Bool), _) =>
          π.ite (b32) (
            π.unSome (some (Addr.mk c (0 : Nat) none)) fun p33 =>
            π.st (p33.add (2 : Nat)) [(Value.bool (true))] <|
            π.ret (Value.tuple #[])
          ) (
            π.unSome (some (Addr.mk c (0 : Nat) none)) fun p34 =>
            π.ld [.slice] (p34.add (0 : Nat)) fun (((a35 : Option Addr), (n36 : Nat), (c37 : Nat)), _) =>
            π.ite ((↑n36 : Int) == (0 : Int)) (
              π.unSome (some (Addr.mk c (0 : Nat) none)) fun p38 =>
              π.st (p38.add (2 : Nat)) [(Value.bool (true))] <|
              π.ret (Value.tuple #[])
            ) (
              J30 ((p27, ()), (x28, ()), (x29, ()), ())
            )
          )
        ) (fun ((p39, _), ((x40 : Int), _), ((x41 : Int), _), _) =>
          π.nw (Obj.cells #[(Value.int (IntKind.i64) ((0 : Int))), (Value.int (IntKind.i64) ((0 : Int))), (Value.int (IntKind.i64) ((0 : Int))), (Value.string (ByteArray.mk #[]))] (43 : Nat) ((0 : Nat), (0 : Nat))) fun r42 =>
          π.call (111 : Nat) #[(Value.pointer (some (Addr.mk c (0 : Nat) none))), (Value.pointer (some (Addr.mk r42 (0 : Nat) none)))] (true, []) fun (_) =>
          π.unSome (some p) fun p43 =>
          π.ld [.slice] (p43) fun (((a44 : Option Addr), (n45 : Nat), (c46 : Nat)), _) =>
          π.ld [.int .i64, .int .i64, .int .i64, .str] (Addr.mk r42 (0 : Nat) none) fun ((x47 : Int), (x48 : Int), (x49 : Int), (t50 : ByteArray), _) =>
          π.nw (Obj.cells #[(Value.int (IntKind.i64) (x47)), (Value.int (IntKind.i64) (x48)), (Value.int (IntKind.i64) (x49)), (Value.string (t50))] (43 : Nat) ((0 : Nat), (0 : Nat))) fun r51 =>
          π.app (43 : Nat) (4 : Nat) (40 : Nat) [(Value.int (IntKind.i64) ((0 : Int))), (Value.int (IntKind.i64) ((0 : Int))), (Value.int (IntKind.i64) ((0 : Int))), (Value.string (ByteArray.mk #[]))] (a44) (n45) (c46) (Src.sl (some (Addr.mk r51 (0 : Nat) none)) (1 : Nat)) fun a52 n53 c54 =>
          π.unSome (some p) fun p55 =>
          π.st (p55) [(Value.slice (a52) (n53) (c54))] <|
          again26 ((p39, ()), (x40, ()), (IntKind.i64.wrap (x41 + (1 : Int)), ()), ())
        )
      ) (
        π.unSome (some (Addr.mk c (0 : Nat) none)) fun p56 =>
        π.ld [.bool] (p56.add (2 : Nat)) fun ((b57 : Bool), _) =>
        π.ite (b57) (
          π.unSome (some (Addr.mk c (0 : Nat) none)) fun p58 =>
          π.st (p58.add (2 : Nat)) [(Value.bool (true))] <|
          π.ret (Value.tuple #[])
        ) (
          π.ld [.int .i64] (p27) fun ((x59 : Int), _) =>
          π.unSome (some (Addr.mk c (0 : Nat) none)) fun p60 =>
          π.st (p60.add (2 : Nat)) [(Value.bool (decide (x59 < (0 : Int))))] <|
          π.ret (Value.tuple #[])
        )
      )
  )
def ann_witems : Ann := { draws := [(15, { A := [0, 1, 2, 3, 4], eag := [7] })], join := [(13, [(6, 1000000), (39, 3), (40, 3)])], loop := [(4, [(25, 3), (26, 3)]), (10, [(6, 1000000), (39, 3), (40, 3)])] }
def la_witems : LA := { ptr := [], ty := [] }
set_option maxRecDepth 100000 in
theorem eq_witems {W : Type} (π : Prims W) (c : Nat) (p : Addr) : bodyL π Tryz.prog la_witems ann_witems (mkFr (maskA [] [.v (.pointer (some ⟨c, 0, none⟩)), .v (.pointer (some p)), .v (.func (.func 111) #[] #[])] 0) 80) Tryz.f110 (bodyOf Tryz.f110) (mkFr (List.map some [.v (.pointer (some ⟨c, 0, none⟩)), .v (.pointer (some p)), .v (.func (.func 111) #[] #[])]) 80) = vc_witems π c p := by kernel_rfl
theorem ok_witems (c : Nat) (p : Addr) (R : Value → PH → Prop) (s : PH) (h : vc_witems (RP Tryz.prog R) c p s) : DCalls Tryz.prog 110 (List.map AV.val [.v (.pointer (some ⟨c, 0, none⟩)), .v (.pointer (some p)), .v (.func (.func 111) #[] #[])]).toArray s R :=
  calls_vcL (c := bodyOf Tryz.f110) (ann := ann_witems) la_witems (by kernel_rfl) Tryz.func110 rfl (by kernel_rfl) [.v (.pointer (some ⟨c, 0, none⟩)), .v (.pointer (some p)), .v (.func (.func 111) #[] #[])] [] (by rw [Tryz.ntmps110]; exact Nat.le_of_ble_eq_true rfl) (by kernel_rfl) (by rw [show Tryz.f110.ntmps = 80 from Tryz.ntmps110, eq_witems]; exact h)
/-- (*lintel/wire.codec).msg -/
def vc_wmsg {W : Type} (π : Prims W) (c : Nat) (p : Addr) : W :=
  π.unSome (some p) fun p0 =>
  π.unSome (some p) fun p1 =>
  π.unSome (some p) fun p2 =>
  π.unSome (some p) fun p3 =>
  π.unSome (some p) fun p4 =>
  π.unSome (some p) fun p5 =>
  π.unSome (some p) fun p6 =>
  π.nw (Obj.cells #[(Value.pointer (some (p0.add (0 : Nat)))), (Value.pointer (some (p1.add (1 : Nat)))), (Value.pointer (some (p2.add (2 : Nat)))), (Value.pointer (some (p3.add (3 : Nat)))), (Value.pointer (some (p4.add (4 : Nat)))), (Value.pointer (some (p5.add (5 : Nat)))), (Value.pointer (some (p6.add (6 : Nat))))] (176 : Nat) ((0 : Nat), (0 : Nat))) fun r7 =>
  π.call (107 : Nat) #[(Value.pointer (some (Addr.mk c (0 : Nat) none))), (Value.slice (some (Addr.mk r7 (0 : Nat) none)) ((7 : Nat)) ((7 : Nat)))] (true, []) fun (_) =>
  π.unSome (some p) fun p8 =>
  π.call (108 : Nat) #[(Value.pointer (some (Addr.mk c (0 : Nat) none))), (Value.pointer (some (p8.add (7 : Nat))))] (true, []) fun (_) =>
  π.unSome (some p) fun p9 =>
  π.call (110 : Nat) #[(Value.pointer (some (Addr.mk c (0 : Nat) none))), (Value.pointer (some (p9.add (8 : Nat)))), (Value.func (Fn.func (111 : Nat)) #[] #[])] (true, []) fun (_) =>
  π.unSome (some p) fun p10 =>
  π.nw (Obj.cells #[(Value.pointer (some (p10.add (9 : Nat))))] (180 : Nat) ((0 : Nat), (0 : Nat))) fun r11 =>
  π.call (109 : Nat) #[(Value.pointer (some (Addr.mk c (0 : Nat) none))), (Value.slice (some (Addr.mk r11 (0 : Nat) none)) ((1 : Nat)) ((1 : Nat)))] (true, []) fun (_) =>
  π.ret (Value.tuple #[])
def ann_wmsg : Ann := { draws := [(0, { A := [0, 1, 2, 3, 4, 5, 6, 7, 8, 9, 10, 11, 12, 13, 14, 15, 16, 17, 18, 19, 20, 21] })], join := [], loop := [] }
def la_wmsg : LA := { ptr := [], ty := [] }
set_option maxRecDepth 100000 in
theorem eq_wmsg {W : Type} (π : Prims W) (c : Nat) (p : Addr) : bodyL π Tryz.prog la_wmsg ann_wmsg (mkFr (maskA [] [.v (.pointer (some ⟨c, 0, none⟩)), .v (.pointer (some p))] 0) 44) Tryz.f89 (bodyOf Tryz.f89) (mkFr (List.map some [.v (.pointer (some ⟨c, 0, none⟩)), .v (.pointer (some p))]) 44) = vc_wmsg π c p := by kernel_rfl
theorem ok_wmsg (c : Nat) (p : Addr) (R : Value → PH → Prop) (s : PH) (h : vc_wmsg (RP Tryz.prog R) c p s) : DCalls Tryz.prog 89 (List.map AV.val [.v (.pointer (some ⟨c, 0, none⟩)), .v (.pointer (some p))]).toArray s R :=
  calls_vcL (c := bodyOf Tryz.f89) (ann := ann_wmsg) la_wmsg (by kernel_rfl) Tryz.func89 rfl (by kernel_rfl) [.v (.pointer (some ⟨c, 0, none⟩)), .v (.pointer (some p))] [] (by rw [Tryz.ntmps89]; exact Nat.le_of_ble_eq_true rfl) (by kernel_rfl) (by rw [show Tryz.f89.ntmps = 44 from Tryz.ntmps89, eq_wmsg]; exact h)
/-- (*lintel/wire.codec).delta -/
def vc_wdelta {W : Type} (π : Prims W) (c : Nat) (p : Addr) : W :=
  π.unSome (some p) fun p0 =>
  π.unSome (some p) fun p1 =>
  π.nw (Obj.cells #[(Value.pointer (some (p0.add (0 : Nat)))), (Value.pointer (some (p1.add (1 : Nat))))] (176 : Nat) ((0 : Nat), (0 : Nat))) fun r2 =>
  π.call (107 : Nat) #[(Value.pointer (some (Addr.mk c (0 : Nat) none))), (Value.slice (some (Addr.mk r2 (0 : Nat) none)) ((2 : Nat)) ((2 : Nat)))] (true, []) fun (_) =>
  π.unSome (some p) fun p3 =>
  π.call (108 : Nat) #[(Value.pointer (some (Addr.mk c (0 : Nat) none))), (Value.pointer (some (p3.add (2 : Nat))))] (true, []) fun (_) =>
  π.unSome (some p) fun p4 =>
  π.unSome (some p) fun p5 =>
  π.nw (Obj.cells #[(Value.pointer (some (p4.add (3 : Nat)))), (Value.pointer (some (p5.add (4 : Nat))))] (176 : Nat) ((0 : Nat), (0 : Nat))) fun r6 =>
  π.call (107 : Nat) #[(Value.pointer (some (Addr.mk c (0 : Nat) none))), (Value.slice (some (Addr.mk r6 (0 : Nat) none)) ((2 : Nat)) ((2 : Nat)))] (true, []) fun (_) =>
  π.unSome (some p) fun p7 =>
  π.nw (Obj.cells #[(Value.pointer (some (p7.add (5 : Nat))))] (180 : Nat) ((0 : Nat), (0 : Nat))) fun r8 =>
  π.call (109 : Nat) #[(Value.pointer (some (Addr.mk c (0 : Nat) none))), (Value.slice (some (Addr.mk r8 (0 : Nat) none)) ((1 : Nat)) ((1 : Nat)))] (true, []) fun (_) =>
  π.unSome (some p) fun p9 =>
  π.nw (Obj.cells #[(Value.pointer (some (p9.add (6 : Nat))))] (176 : Nat) ((0 : Nat), (0 : Nat))) fun r10 =>
  π.call (107 : Nat) #[(Value.pointer (some (Addr.mk c (0 : Nat) none))), (Value.slice (some (Addr.mk r10 (0 : Nat) none)) ((1 : Nat)) ((1 : Nat)))] (true, []) fun (_) =>
  π.unSome (some p) fun p11 =>
  π.call (110 : Nat) #[(Value.pointer (some (Addr.mk c (0 : Nat) none))), (Value.pointer (some (p11.add (7 : Nat)))), (Value.func (Fn.func (111 : Nat)) #[] #[])] (true, []) fun (_) =>
  π.ret (Value.tuple #[])
def ann_wdelta : Ann := { draws := [(0, { A := [0, 1, 2, 3, 4, 5, 6] }), (2, { A := [0, 1, 2, 3, 4, 5, 6] })], join := [], loop := [] }
def la_wdelta : LA := { ptr := [], ty := [] }
set_option maxRecDepth 100000 in
theorem eq_wdelta {W : Type} (π : Prims W) (c : Nat) (p : Addr) : bodyL π Tryz.prog la_wdelta ann_wdelta (mkFr (maskA [] [.v (.pointer (some ⟨c, 0, none⟩)), .v (.pointer (some p))] 0) 44) Tryz.f85 (bodyOf Tryz.f85) (mkFr (List.map some [.v (.pointer (some ⟨c, 0, none⟩)), .v (.pointer (some p))]) 44) = vc_wdelta π c p := by kernel_rfl
theorem ok_wdelta (c : Nat) (p : Addr) (R : Value → PH → Prop) (s : PH) (h : vc_wdelta (RP Tryz.prog R) c p s) : DCalls Tryz.prog 85 (List.map AV.val [.v (.pointer (some ⟨c, 0, none⟩)), .v (.pointer (some p))]).toArray s R :=
  calls_vcL (c := bodyOf Tryz.f85) (ann := ann_wdelta) la_wdelta (by kernel_rfl) Tryz.func85 rfl (by kernel_rfl) [.v (.pointer (some ⟨c, 0, none⟩)), .v (.pointer (some p))] [] (by rw [Tryz.ntmps85]; exact Nat.le_of_ble_eq_true rfl) (by kernel_rfl) (by rw [show Tryz.f85.ntmps = 44 from Tryz.ntmps85, eq_wdelta]; exact h)
/-- lintel/wire.put[lintel/api.Msg] -/
def vc_wputM {W : Type} (π : Prims W) (mk mf mt mm mi mp mc : Int) (mg : Bool) (la : Option Addr) (ln lc : Nat) (ms : ByteArray) : W :=
  π.nw (Obj.cells #[(Value.int (IntKind.i64) (mk)), (Value.int (IntKind.i64) (mf)), (Value.int (IntKind.i64) (mt)), (Value.int (IntKind.i64) (mm)), (Value.int (IntKind.i64) (mi)), (Value.int (IntKind.i64) (mp)), (Value.int (IntKind.i64) (mc)), (Value.bool (mg)), (Value.slice (la) (ln) (lc)), (Value.string (ms))] (119 : Nat) ((0 : Nat), (0 : Nat))) fun r0 =>
  π.nw (Obj.cells #[(Value.slice (none) ((0 : Nat)) ((0 : Nat))), (Value.bool (false)), (Value.bool (false))] (173 : Nat) ((0 : Nat), (0 : Nat))) fun r1 =>
  π.call (89 : Nat) #[(Value.pointer (some (Addr.mk r1 (0 : Nat) none))), (Value.pointer (some (Addr.mk r0 (0 : Nat) none)))] (true, []) fun (_) =>
  π.unSome (some (Addr.mk r1 (0 : Nat) none)) fun p2 =>
  π.ld [.slice] (p2.add (0 : Nat)) fun (((a3 : Option Addr), (n4 : Nat), (c5 : Nat)), _) =>
  π.b2s (a3) (n4) fun t6 =>
  π.ret (Value.string (t6))
def ann_wputM : Ann := { draws := [], join := [], loop := [] }
def la_wputM : LA := { ptr := [], ty := [] }
set_option maxRecDepth 100000 in
theorem eq_wputM {W : Type} (π : Prims W) (mk mf mt mm mi mp mc : Int) (mg : Bool) (la : Option Addr) (ln lc : Nat) (ms : ByteArray) : bodyL π Tryz.prog la_wputM ann_wputM (mkFr (maskA [] [.v (.agg #[.int .i64 mk, .int .i64 mf, .int .i64 mt, .int .i64 mm, .int .i64 mi, .int .i64 mp, .int .i64 mc, .bool mg, .slice la ln lc, .string ms]), .v (.func (.func 89) #[] #[])] 0) 16) Tryz.f102 (bodyOf Tryz.f102) (mkFr (List.map some [.v (.agg #[.int .i64 mk, .int .i64 mf, .int .i64 mt, .int .i64 mm, .int .i64 mi, .int .i64 mp, .int .i64 mc, .bool mg, .slice la ln lc, .string ms]), .v (.func (.func 89) #[] #[])]) 16) = vc_wputM π mk mf mt mm mi mp mc mg la ln lc ms := by kernel_rfl
theorem ok_wputM (mk mf mt mm mi mp mc : Int) (mg : Bool) (la : Option Addr) (ln lc : Nat) (ms : ByteArray) (R : Value → PH → Prop) (s : PH) (h : vc_wputM (RP Tryz.prog R) mk mf mt mm mi mp mc mg la ln lc ms s) : DCalls Tryz.prog 102 (List.map AV.val [.v (.agg #[.int .i64 mk, .int .i64 mf, .int .i64 mt, .int .i64 mm, .int .i64 mi, .int .i64 mp, .int .i64 mc, .bool mg, .slice la ln lc, .string ms]), .v (.func (.func 89) #[] #[])]).toArray s R :=
  calls_vcL (c := bodyOf Tryz.f102) (ann := ann_wputM) la_wputM (by kernel_rfl) Tryz.func102 rfl (by kernel_rfl) [.v (.agg #[.int .i64 mk, .int .i64 mf, .int .i64 mt, .int .i64 mm, .int .i64 mi, .int .i64 mp, .int .i64 mc, .bool mg, .slice la ln lc, .string ms]), .v (.func (.func 89) #[] #[])] [] (by rw [Tryz.ntmps102]; exact Nat.le_of_ble_eq_true rfl) (by kernel_rfl) (by rw [show Tryz.f102.ntmps = 16 from Tryz.ntmps102, eq_wputM]; exact h)
/-- lintel/wire.put[lintel/api.Delta] -/
def vc_wputD {W : Type} (π : Prims W) (dt dv : Int) (dw : Bool) (db dbt : Int) (ds : ByteArray) (df : Int) (la : Option Addr) (ln lc : Nat) : W :=
  π.nw (Obj.cells #[(Value.int (IntKind.i64) (dt)), (Value.int (IntKind.i64) (dv)), (Value.bool (dw)), (Value.int (IntKind.i64) (db)), (Value.int (IntKind.i64) (dbt)), (Value.string (ds)), (Value.int (IntKind.i64) (df)), (Value.slice (la) (ln) (lc))] (113 : Nat) ((0 : Nat), (0 : Nat))) fun r0 =>
  π.nw (Obj.cells #[(Value.slice (none) ((0 : Nat)) ((0 : Nat))), (Value.bool (false)), (Value.bool (false))] (173 : Nat) ((0 : Nat), (0 : Nat))) fun r1 =>
  π.call (85 : Nat) #[(Value.pointer (some (Addr.mk r1 (0 : Nat) none))), (Value.pointer (some (Addr.mk r0 (0 : Nat) none)))] (true, []) fun (_) =>
  π.unSome (some (Addr.mk r1 (0 : Nat) none)) fun p2 =>
  π.ld [.slice] (p2.add (0 : Nat)) fun (((a3 : Option Addr), (n4 : Nat), (c5 : Nat)), _) =>
  π.b2s (a3) (n4) fun t6 =>
  π.ret (Value.string (t6))
def ann_wputD : Ann := { draws := [], join := [], loop := [] }
def la_wputD : LA := { ptr := [], ty := [] }
set_option maxRecDepth 100000 in
theorem eq_wputD {W : Type} (π : Prims W) (dt dv : Int) (dw : Bool) (db dbt : Int) (ds : ByteArray) (df : Int) (la : Option Addr) (ln lc : Nat) : bodyL π Tryz.prog la_wputD ann_wputD (mkFr (maskA [] [.v (.agg #[.int .i64 dt, .int .i64 dv, .bool dw, .int .i64 db, .int .i64 dbt, .string ds, .int .i64 df, .slice la ln lc]), .v (.func (.func 85) #[] #[])] 0) 16) Tryz.f101 (bodyOf Tryz.f101) (mkFr (List.map some [.v (.agg #[.int .i64 dt, .int .i64 dv, .bool dw, .int .i64 db, .int .i64 dbt, .string ds, .int .i64 df, .slice la ln lc]), .v (.func (.func 85) #[] #[])]) 16) = vc_wputD π dt dv dw db dbt ds df la ln lc := by kernel_rfl
theorem ok_wputD (dt dv : Int) (dw : Bool) (db dbt : Int) (ds : ByteArray) (df : Int) (la : Option Addr) (ln lc : Nat) (R : Value → PH → Prop) (s : PH) (h : vc_wputD (RP Tryz.prog R) dt dv dw db dbt ds df la ln lc s) : DCalls Tryz.prog 101 (List.map AV.val [.v (.agg #[.int .i64 dt, .int .i64 dv, .bool dw, .int .i64 db, .int .i64 dbt, .string ds, .int .i64 df, .slice la ln lc]), .v (.func (.func 85) #[] #[])]).toArray s R :=
  calls_vcL (c := bodyOf Tryz.f101) (ann := ann_wputD) la_wputD (by kernel_rfl) Tryz.func101 rfl (by kernel_rfl) [.v (.agg #[.int .i64 dt, .int .i64 dv, .bool dw, .int .i64 db, .int .i64 dbt, .string ds, .int .i64 df, .slice la ln lc]), .v (.func (.func 85) #[] #[])] [] (by rw [Tryz.ntmps101]; exact Nat.le_of_ble_eq_true rfl) (by kernel_rfl) (by rw [show Tryz.f101.ntmps = 16 from Tryz.ntmps101, eq_wputD]; exact h)
/-- lintel/wire.get[lintel/api.Msg] -/
def vc_wgetM {W : Type} (π : Prims W) (t : ByteArray) : W :=
  π.s2b (5 : Nat) (t) fun r0 n1 =>
  π.nw (Obj.cells #[(Value.slice (some (Addr.mk r0 (0 : Nat) none)) (t.size) (n1)), (Value.bool (true)), (Value.bool (false))] (173 : Nat) ((0 : Nat), (0 : Nat))) fun r2 =>
  π.nw (Obj.cells #[(Value.int (IntKind.i64) ((0 : Int))), (Value.int (IntKind.i64) ((0 : Int))), (Value.int (IntKind.i64) ((0 : Int))), (Value.int (IntKind.i64) ((0 : Int))), (Value.int (IntKind.i64) ((0 : Int))), (Value.int (IntKind.i64) ((0 : Int))), (Value.int (IntKind.i64) ((0 : Int))), (Value.bool (false)), (Value.slice (none) ((0 : Nat)) ((0 : Nat))), (Value.string (ByteArray.mk #[]))] (119 : Nat) ((0 : Nat), (0 : Nat))) fun r3 =>
  π.call (89 : Nat) #[(Value.pointer (some (Addr.mk r2 (0 : Nat) none))), (Value.pointer (some (Addr.mk r3 (0 : Nat) none)))] (true, []) fun (_) =>
  π.unSome (some (Addr.mk r2 (0 : Nat) none)) fun p4 =>
  π.ld [.bool] (p4.add (2 : Nat)) fun ((b5 : Bool), _) =>
  π.ite (b5) (
    π.ret (Value.tuple #[(Value.agg #[(Value.int (IntKind.i64) ((0 : Int))), (Value.int (IntKind.i64) ((0 : Int))), (Value.int (IntKind.i64) ((0 : Int))), (Value.int (IntKind.i64) ((0 : Int))), (Value.int (IntKind.i64) ((0 : Int))), (Value.int (IntKind.i64) ((0 : Int))), (Value.int (IntKind.i64) ((0 : Int))), (Value.bool (false)), (Value.slice (none) ((0 : Nat)) ((0 : Nat))), (Value.string (ByteArray.mk #[]))]), (Value.int (IntKind.i64) ((100 : Int)))])
  ) (
    π.unSome (some (Addr.mk r2 (0 : Nat) none)) fun p6 =>
    π.ld [.slice] (p6.add (0 : Nat)) fun (((a7 : Option Addr), (n8 : Nat), (c9 : Nat)), _) =>
    π.ite (decide ((↑n8 : Int) > (0 : Int))) (
      π.ret (Value.tuple #[(Value.agg #[(Value.int (IntKind.i64) ((0 : Int))), (Value.int (IntKind.i64) ((0 : Int))), (Value.int (IntKind.i64) ((0 : Int))), (Value.int (IntKind.i64) ((0 : Int))), (Value.int (IntKind.i64) ((0 : Int))), (Value.int (IntKind.i64) ((0 : Int))), (Value.int (IntKind.i64) ((0 : Int))), (Value.bool (false)), (Value.slice (none) ((0 : Nat)) ((0 : Nat))), (Value.string (ByteArray.mk #[]))]), (Value.int (IntKind.i64) ((100 : Int)))])
    ) (
      π.ld [.int .i64, .int .i64, .int .i64, .int .i64, .int .i64, .int .i64, .int .i64, .bool, .slice, .str] (Addr.mk r3 (0 : Nat) none) fun ((x10 : Int), (x11 : Int), (x12 : Int), (x13 : Int), (x14 : Int), (x15 : Int), (x16 : Int), (b17 : Bool), ((a18 : Option Addr), (n19 : Nat), (c20 : Nat)), (t21 : ByteArray), _) =>
      π.call (102 : Nat) #[(Value.agg #[(Value.int (IntKind.i64) (x10)), (Value.int (IntKind.i64) (x11)), (Value.int (IntKind.i64) (x12)), (Value.int (IntKind.i64) (x13)), (Value.int (IntKind.i64) (x14)), (Value.int (IntKind.i64) (x15)), (Value.int (IntKind.i64) (x16)), (Value.bool (b17)), (Value.slice (a18) (n19) (c20)), (Value.string (t21))]), (Value.func (Fn.func (89 : Nat)) #[] #[])] (false, [(false, [.str])]) fun (((t22 : ByteArray), _), _) =>
      π.ite (!t22.toList == t.toList) (
        π.ret (Value.tuple #[(Value.agg #[(Value.int (IntKind.i64) ((0 : Int))), (Value.int (IntKind.i64) ((0 : Int))), (Value.int (IntKind.i64) ((0 : Int))), (Value.int (IntKind.i64) ((0 : Int))), (Value.int (IntKind.i64) ((0 : Int))), (Value.int (IntKind.i64) ((0 : Int))), (Value.int (IntKind.i64) ((0 : Int))), (Value.bool (false)), (Value.slice (none) ((0 : Nat)) ((0 : Nat))), (Value.string (ByteArray.mk #[]))]), (Value.int (IntKind.i64) ((100 : Int)))])
      ) (
        π.ld [.int .i64, .int .i64, .int .i64, .int .i64, .int .i64, .int .i64, .int .i64, .bool, .slice, .str] (Addr.mk r3 (0 : Nat) none) fun ((x23 : Int), (x24 : Int), (x25 : Int), (x26 : Int), (x27 : Int), (x28 : Int), (x29 : Int), (b30 : Bool), ((a31 : Option Addr), (n32 : Nat), (c33 : Nat)), (t34 : ByteArray), _) =>
        π.ret (Value.tuple #[(Value.agg #[(Value.int (IntKind.i64) (x23)), (Value.int (IntKind.i64) (x24)), (Value.int (IntKind.i64) (x25)), (Value.int (IntKind.i64) (x26)), (Value.int (IntKind.i64) (x27)), (Value.int (IntKind.i64) (x28)), (Value.int (IntKind.i64) (x29)), (Value.bool (b30)), (Value.slice (a31) (n32) (c33)), (Value.string (t34))]), (Value.int (IntKind.i64) ((0 : Int)))])
      )
    )
  )
def ann_wgetM : Ann := { draws := [], join := [], loop := [] }
def la_wgetM : LA := { ptr := [(4, 4, 0), (8, 8, 0)], ty := [(4, 119), (8, 119)] }
set_option maxRecDepth 100000 in
theorem eq_wgetM {W : Type} (π : Prims W) (t : ByteArray) : bodyL π Tryz.prog la_wgetM ann_wgetM (mkFr (maskA [] [.v (.string t), .v (.func (.func 89) #[] #[])] 0) 37) Tryz.f88 (bodyOf Tryz.f88) (mkFr (List.map some [.v (.string t), .v (.func (.func 89) #[] #[])]) 37) = vc_wgetM π t := by kernel_rfl
theorem ok_wgetM (t : ByteArray) (R : Value → PH → Prop) (s : PH) (h : vc_wgetM (RP Tryz.prog R) t s) : DCalls Tryz.prog 88 (List.map AV.val [.v (.string t), .v (.func (.func 89) #[] #[])]).toArray s R :=
  calls_vcL (c := bodyOf Tryz.f88) (ann := ann_wgetM) la_wgetM (by kernel_rfl) Tryz.func88 rfl (by kernel_rfl) [.v (.string t), .v (.func (.func 89) #[] #[])] [] (by rw [Tryz.ntmps88]; exact Nat.le_of_ble_eq_true rfl) (by kernel_rfl) (by rw [show Tryz.f88.ntmps = 37 from Tryz.ntmps88, eq_wgetM]; exact h)
/-- lintel/wire.get[lintel/api.Delta] -/
def vc_wgetD {W : Type} (π : Prims W) (t : ByteArray) : W :=
  π.s2b (5 : Nat) (t) fun r0 n1 =>
  π.nw (Obj.cells #[(Value.slice (some (Addr.mk r0 (0 : Nat) none)) (t.size) (n1)), (Value.bool (true)), (Value.bool (false))] (173 : Nat) ((0 : Nat), (0 : Nat))) fun r2 =>
  π.nw (Obj.cells #[(Value.int (IntKind.i64) ((0 : Int))), (Value.int (IntKind.i64) ((0 : Int))), (Value.bool (false)), (Value.int (IntKind.i64) ((0 : Int))), (Value.int (IntKind.i64) ((0 : Int))), (Value.string (ByteArray.mk #[])), (Value.int (IntKind.i64) ((0 : Int))), (Value.slice (none) ((0 : Nat)) ((0 : Nat)))] (113 : Nat) ((0 : Nat), (0 : Nat))) fun r3 =>
  π.call (85 : Nat) #[(Value.pointer (some (Addr.mk r2 (0 : Nat) none))), (Value.pointer (some (Addr.mk r3 (0 : Nat) none)))] (true, []) fun (_) =>
  π.unSome (some (Addr.mk r2 (0 : Nat) none)) fun p4 =>
  π.ld [.bool] (p4.add (2 : Nat)) fun ((b5 : Bool), _) =>
  π.ite (b5) (
    π.ret (Value.tuple #[(Value.agg #[(Value.int (IntKind.i64) ((0 : Int))), (Value.int (IntKind.i64) ((0 : Int))), (Value.bool (false)), (Value.int (IntKind.i64) ((0 : Int))), (Value.int (IntKind.i64) ((0 : Int))), (Value.string (ByteArray.mk #[])), (Value.int (IntKind.i64) ((0 : Int))), (Value.slice (none) ((0 : Nat)) ((0 : Nat)))]), (Value.int (IntKind.i64) ((100 : Int)))])
  ) (
    π.unSome (some (Addr.mk r2 (0 : Nat) none)) fun p6 =>
    π.ld [.slice] (p6.add (0 : Nat)) fun (((a7 : Option Addr), (n8 : Nat), (c9 : Nat)), _) =>
    π.ite (decide ((↑n8 : Int) > (0 : Int))) (
      π.ret (Value.tuple #[(Value.agg #[(Value.int (IntKind.i64) ((0 : Int))), (Value.int (IntKind.i64) ((0 : Int))), (Value.bool (false)), (Value.int (IntKind.i64) ((0 : Int))), (Value.int (IntKind.i64) ((0 : Int))), (Value.string (ByteArray.mk #[])), (Value.int (IntKind.i64) ((0 : Int))), (Value.slice (none) ((0 : Nat)) ((0 : Nat)))]), (Value.int (IntKind.i64) ((100 : Int)))])
    ) (
      π.ld [.int .i64, .int .i64, .bool, .int .i64, .int .i64, .str, .int .i64, .slice] (Addr.mk r3 (0 : Nat) none) fun ((x10 : Int), (x11 : Int), (b12 : Bool), (x13 : Int), (x14 : Int), (t15 : ByteArray), (x16 : Int), ((a17 : Option Addr), (n18 : Nat), (c19 : Nat)), _) =>
      π.call (101 : Nat) #[(Value.agg #[(Value.int (IntKind.i64) (x10)), (Value.int (IntKind.i64) (x11)), (Value.bool (b12)), (Value.int (IntKind.i64) (x13)), (Value.int (IntKind.i64) (x14)), (Value.string (t15)), (Value.int (IntKind.i64) (x16)), (Value.slice (a17) (n18) (c19))]), (Value.func (Fn.func (85 : Nat)) #[] #[])] (false, [(false, [.str])]) fun (((t20 : ByteArray), _), _) =>
      π.ite (!t20.toList == t.toList) (
        π.ret (Value.tuple #[(Value.agg #[(Value.int (IntKind.i64) ((0 : Int))), (Value.int (IntKind.i64) ((0 : Int))), (Value.bool (false)), (Value.int (IntKind.i64) ((0 : Int))), (Value.int (IntKind.i64) ((0 : Int))), (Value.string (ByteArray.mk #[])), (Value.int (IntKind.i64) ((0 : Int))), (Value.slice (none) ((0 : Nat)) ((0 : Nat)))]), (Value.int (IntKind.i64) ((100 : Int)))])
      ) (
        π.ld [.int .i64, .int .i64, .bool, .int .i64, .int .i64, .str, .int .i64, .slice] (Addr.mk r3 (0 : Nat) none) fun ((x21 : Int), (x22 : Int), (b23 : Bool), (x24 : Int), (x25 : Int), (t26 : ByteArray), (x27 : Int), ((a28 : Option Addr), (n29 : Nat), (c30 : Nat)), _) =>
        π.ret (Value.tuple #[(Value.agg #[(Value.int (IntKind.i64) (x21)), (Value.int (IntKind.i64) (x22)), (Value.bool (b23)), (Value.int (IntKind.i64) (x24)), (Value.int (IntKind.i64) (x25)), (Value.string (t26)), (Value.int (IntKind.i64) (x27)), (Value.slice (a28) (n29) (c30))]), (Value.int (IntKind.i64) ((0 : Int)))])
      )
    )
  )
def ann_wgetD : Ann := { draws := [], join := [], loop := [] }
def la_wgetD : LA := { ptr := [(4, 4, 0), (8, 8, 0)], ty := [(4, 113), (8, 113)] }
set_option maxRecDepth 100000 in
theorem eq_wgetD {W : Type} (π : Prims W) (t : ByteArray) : bodyL π Tryz.prog la_wgetD ann_wgetD (mkFr (maskA [] [.v (.string t), .v (.func (.func 85) #[] #[])] 0) 37) Tryz.f84 (bodyOf Tryz.f84) (mkFr (List.map some [.v (.string t), .v (.func (.func 85) #[] #[])]) 37) = vc_wgetD π t := by kernel_rfl
theorem ok_wgetD (t : ByteArray) (R : Value → PH → Prop) (s : PH) (h : vc_wgetD (RP Tryz.prog R) t s) : DCalls Tryz.prog 84 (List.map AV.val [.v (.string t), .v (.func (.func 85) #[] #[])]).toArray s R :=
  calls_vcL (c := bodyOf Tryz.f84) (ann := ann_wgetD) la_wgetD (by kernel_rfl) Tryz.func84 rfl (by kernel_rfl) [.v (.string t), .v (.func (.func 85) #[] #[])] [] (by rw [Tryz.ntmps84]; exact Nat.le_of_ble_eq_true rfl) (by kernel_rfl) (by rw [show Tryz.f84.ntmps = 37 from Tryz.ntmps84, eq_wgetD]; exact h)
/-- lintel/wire.PutMsg -/
def vc_PutMsg {W : Type} (π : Prims W) (mk mf mt mm mi mp mc : Int) (mg : Bool) (la : Option Addr) (ln lc : Nat) (ms : ByteArray) : W :=
  π.call (102 : Nat) #[(Value.agg #[(Value.int (IntKind.i64) (mk)), (Value.int (IntKind.i64) (mf)), (Value.int (IntKind.i64) (mt)), (Value.int (IntKind.i64) (mm)), (Value.int (IntKind.i64) (mi)), (Value.int (IntKind.i64) (mp)), (Value.int (IntKind.i64) (mc)), (Value.bool (mg)), (Value.slice (la) (ln) (lc)), (Value.string (ms))]), (Value.func (Fn.func (89 : Nat)) #[] #[])] (false, [(false, [.str])]) fun (((t0 : ByteArray), _), _) =>
  π.ret (Value.string (t0))
def ann_PutMsg : Ann := { draws := [], join := [], loop := [] }
def la_PutMsg : LA := { ptr := [(1, 1, 0)], ty := [(1, 119)] }
set_option maxRecDepth 100000 in
theorem eq_PutMsg {W : Type} (π : Prims W) (mk mf mt mm mi mp mc : Int) (mg : Bool) (la : Option Addr) (ln lc : Nat) (ms : ByteArray) : bodyL π Tryz.prog la_PutMsg ann_PutMsg (mkFr (maskA [] [.v (.agg #[.int .i64 mk, .int .i64 mf, .int .i64 mt, .int .i64 mm, .int .i64 mi, .int .i64 mp, .int .i64 mc, .bool mg, .slice la ln lc, .string ms])] 0) 5) Tryz.f67 (bodyOf Tryz.f67) (mkFr (List.map some [.v (.agg #[.int .i64 mk, .int .i64 mf, .int .i64 mt, .int .i64 mm, .int .i64 mi, .int .i64 mp, .int .i64 mc, .bool mg, .slice la ln lc, .string ms])]) 5) = vc_PutMsg π mk mf mt mm mi mp mc mg la ln lc ms := by kernel_rfl
theorem ok_PutMsg (mk mf mt mm mi mp mc : Int) (mg : Bool) (la : Option Addr) (ln lc : Nat) (ms : ByteArray) (R : Value → PH → Prop) (s : PH) (h : vc_PutMsg (RP Tryz.prog R) mk mf mt mm mi mp mc mg la ln lc ms s) : DCalls Tryz.prog 67 (List.map AV.val [.v (.agg #[.int .i64 mk, .int .i64 mf, .int .i64 mt, .int .i64 mm, .int .i64 mi, .int .i64 mp, .int .i64 mc, .bool mg, .slice la ln lc, .string ms])]).toArray s R :=
  calls_vcL (c := bodyOf Tryz.f67) (ann := ann_PutMsg) la_PutMsg (by kernel_rfl) Tryz.func67 rfl (by kernel_rfl) [.v (.agg #[.int .i64 mk, .int .i64 mf, .int .i64 mt, .int .i64 mm, .int .i64 mi, .int .i64 mp, .int .i64 mc, .bool mg, .slice la ln lc, .string ms])] [] (by rw [Tryz.ntmps67]; exact Nat.le_of_ble_eq_true rfl) (by kernel_rfl) (by rw [show Tryz.f67.ntmps = 5 from Tryz.ntmps67, eq_PutMsg]; exact h)
/-- lintel/wire.PutDelta -/
def vc_PutDelta {W : Type} (π : Prims W) (dt dv : Int) (dw : Bool) (db dbt : Int) (ds : ByteArray) (df : Int) (la : Option Addr) (ln lc : Nat) : W :=
  π.call (101 : Nat) #[(Value.agg #[(Value.int (IntKind.i64) (dt)), (Value.int (IntKind.i64) (dv)), (Value.bool (dw)), (Value.int (IntKind.i64) (db)), (Value.int (IntKind.i64) (dbt)), (Value.string (ds)), (Value.int (IntKind.i64) (df)), (Value.slice (la) (ln) (lc))]), (Value.func (Fn.func (85 : Nat)) #[] #[])] (false, [(false, [.str])]) fun (((t0 : ByteArray), _), _) =>
  π.ret (Value.string (t0))
def ann_PutDelta : Ann := { draws := [], join := [], loop := [] }
def la_PutDelta : LA := { ptr := [(1, 1, 0)], ty := [(1, 113)] }
set_option maxRecDepth 100000 in
theorem eq_PutDelta {W : Type} (π : Prims W) (dt dv : Int) (dw : Bool) (db dbt : Int) (ds : ByteArray) (df : Int) (la : Option Addr) (ln lc : Nat) : bodyL π Tryz.prog la_PutDelta ann_PutDelta (mkFr (maskA [] [.v (.agg #[.int .i64 dt, .int .i64 dv, .bool dw, .int .i64 db, .int .i64 dbt, .string ds, .int .i64 df, .slice la ln lc])] 0) 5) Tryz.f65 (bodyOf Tryz.f65) (mkFr (List.map some [.v (.agg #[.int .i64 dt, .int .i64 dv, .bool dw, .int .i64 db, .int .i64 dbt, .string ds, .int .i64 df, .slice la ln lc])]) 5) = vc_PutDelta π dt dv dw db dbt ds df la ln lc := by kernel_rfl
theorem ok_PutDelta (dt dv : Int) (dw : Bool) (db dbt : Int) (ds : ByteArray) (df : Int) (la : Option Addr) (ln lc : Nat) (R : Value → PH → Prop) (s : PH) (h : vc_PutDelta (RP Tryz.prog R) dt dv dw db dbt ds df la ln lc s) : DCalls Tryz.prog 65 (List.map AV.val [.v (.agg #[.int .i64 dt, .int .i64 dv, .bool dw, .int .i64 db, .int .i64 dbt, .string ds, .int .i64 df, .slice la ln lc])]).toArray s R :=
  calls_vcL (c := bodyOf Tryz.f65) (ann := ann_PutDelta) la_PutDelta (by kernel_rfl) Tryz.func65 rfl (by kernel_rfl) [.v (.agg #[.int .i64 dt, .int .i64 dv, .bool dw, .int .i64 db, .int .i64 dbt, .string ds, .int .i64 df, .slice la ln lc])] [] (by rw [Tryz.ntmps65]; exact Nat.le_of_ble_eq_true rfl) (by kernel_rfl) (by rw [show Tryz.f65.ntmps = 5 from Tryz.ntmps65, eq_PutDelta]; exact h)
/-- lintel/wire.GetMsg -/
def vc_GetMsg {W : Type} (π : Prims W) (t : ByteArray) : W :=
  π.call (88 : Nat) #[(Value.string (t)), (Value.func (Fn.func (89 : Nat)) #[] #[])] (true, [(true, [.int .i64, .int .i64, .int .i64, .int .i64, .int .i64, .int .i64, .int .i64, .bool, .slice, .str]), (false, [.int .i64])]) fun (((x0 : Int), (x1 : Int), (x2 : Int), (x3 : Int), (x4 : Int), (x5 : Int), (x6 : Int), (b7 : Bool), ((a8 : Option Addr), (n9 : Nat), (c10 : Nat)), (t11 : ByteArray), _), ((x12 : Int), _), _) =>
  π.ret (Value.tuple #[(Value.agg #[(Value.int (IntKind.i64) (x0)), (Value.int (IntKind.i64) (x1)), (Value.int (IntKind.i64) (x2)), (Value.int (IntKind.i64) (x3)), (Value.int (IntKind.i64) (x4)), (Value.int (IntKind.i64) (x5)), (Value.int (IntKind.i64) (x6)), (Value.bool (b7)), (Value.slice (a8) (n9) (c10)), (Value.string (t11))]), (Value.int (IntKind.i64) (x12))])
def ann_GetMsg : Ann := { draws := [], join := [], loop := [] }
def la_GetMsg : LA := { ptr := [(2, 2, 0)], ty := [(2, 119)] }
set_option maxRecDepth 100000 in
theorem eq_GetMsg {W : Type} (π : Prims W) (t : ByteArray) : bodyL π Tryz.prog la_GetMsg ann_GetMsg (mkFr (maskA [] [.v (.string t)] 0) 8) Tryz.f60 (bodyOf Tryz.f60) (mkFr (List.map some [.v (.string t)]) 8) = vc_GetMsg π t := by kernel_rfl
theorem ok_GetMsg (t : ByteArray) (R : Value → PH → Prop) (s : PH) (h : vc_GetMsg (RP Tryz.prog R) t s) : DCalls Tryz.prog 60 (List.map AV.val [.v (.string t)]).toArray s R :=
  calls_vcL (c := bodyOf Tryz.f60) (ann := ann_GetMsg) la_GetMsg (by kernel_rfl) Tryz.func60 rfl (by kernel_rfl) [.v (.string t)] [] (by rw [Tryz.ntmps60]; exact Nat.le_of_ble_eq_true rfl) (by kernel_rfl) (by rw [show Tryz.f60.ntmps = 8 from Tryz.ntmps60, eq_GetMsg]; exact h)
/-- lintel/wire.GetDelta -/
def vc_GetDelta {W : Type} (π : Prims W) (t : ByteArray) : W :=
  π.call (84 : Nat) #[(Value.string (t)), (Value.func (Fn.func (85 : Nat)) #[] #[])] (true, [(true, [.int .i64, .int .i64, .bool, .int .i64, .int .i64, .str, .int .i64, .slice]), (false, [.int .i64])]) fun (((x0 : Int), (x1 : Int), (b2 : Bool), (x3 : Int), (x4 : Int), (t5 : ByteArray), (x6 : Int), ((a7 : Option Addr), (n8 : Nat), (c9 : Nat)), _), ((x10 : Int), _), _) =>
  π.ret (Value.tuple #[(Value.agg #[(Value.int (IntKind.i64) (x0)), (Value.int (IntKind.i64) (x1)), (Value.bool (b2)), (Value.int (IntKind.i64) (x3)), (Value.int (IntKind.i64) (x4)), (Value.string (t5)), (Value.int (IntKind.i64) (x6)), (Value.slice (a7) (n8) (c9))]), (Value.int (IntKind.i64) (x10))])
def ann_GetDelta : Ann := { draws := [], join := [], loop := [] }
def la_GetDelta : LA := { ptr := [(2, 2, 0)], ty := [(2, 113)] }
set_option maxRecDepth 100000 in
theorem eq_GetDelta {W : Type} (π : Prims W) (t : ByteArray) : bodyL π Tryz.prog la_GetDelta ann_GetDelta (mkFr (maskA [] [.v (.string t)] 0) 8) Tryz.f58 (bodyOf Tryz.f58) (mkFr (List.map some [.v (.string t)]) 8) = vc_GetDelta π t := by kernel_rfl
theorem ok_GetDelta (t : ByteArray) (R : Value → PH → Prop) (s : PH) (h : vc_GetDelta (RP Tryz.prog R) t s) : DCalls Tryz.prog 58 (List.map AV.val [.v (.string t)]).toArray s R :=
  calls_vcL (c := bodyOf Tryz.f58) (ann := ann_GetDelta) la_GetDelta (by kernel_rfl) Tryz.func58 rfl (by kernel_rfl) [.v (.string t)] [] (by rw [Tryz.ntmps58]; exact Nat.le_of_ble_eq_true rfl) (by kernel_rfl) (by rw [show Tryz.f58.ntmps = 8 from Tryz.ntmps58, eq_GetDelta]; exact h)
end Go.Proofs.YtcdggocbjnmeaaaGreat
end
