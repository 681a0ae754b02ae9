/-
  Part 27 for the law: lemmas.
  Conditions: none.
-/
import Derived.Test.YtcdggocbjnmeaaaGreatGroupHoldsK26
set_option maxHeartbeats 4000000
set_option maxRecDepth 100000
set_option linter.unusedVariables false
set_option linter.unusedSimpArgs false
set_option linter.unusedSectionVars false
namespace Go.Proofs.YtcdggocbjnmeaaaGreat
open Fw Go Go.IntKind
section
open Fw.W
def vc_pNew {W : Type} (π : Prims W) : W :=
 π.nw (Obj.cells #[(.slice none 0 0)] (104 : Nat) (0, 0)) fun r0 =>
 π.ret (.pointer (some (Addr.mk r0 0 none)))
def ann_pNew : Ann := {}
def la_pNew : LA := {}
theorem eq_pNew {W : Type} (π : Prims W) : bodyE π Tryz.prog la_pNew ann_pNew 3 Tryz.f36 (bodyOf Tryz.f36) [] [] = vc_pNew π := by kernel_rfl
theorem ok_pNew (R : RT) (s : PH) (h : vc_pNew (RP Tryz.prog R) s) : DCalls Tryz.prog 36 (List.map AV.val []).toArray s R :=
 callsE (c := bodyOf Tryz.f36) la_pNew mo Tryz.func36 rfl (by kernel_rfl) Tryz.ntmps36 rfl (by kernel_rfl) (eq_pNew ..) h
def vc_pSend {W : Type} (π : Prims W) (p : Nat) (lf lt : Int) (lx : ByteArray) : W :=
 π.ite (!(some (Addr.mk p 0 none)).isNone) (
  π.unSome (some (Addr.mk p 0 none)) fun p0 =>
  π.ld [.slice] (p0.add 0) fun (((a1 : Option Addr), (n2 : Nat), (c3 : Nat)), _) =>
  π.nw (Obj.cells #[(.int .i64 lf), (.int .i64 lt), (.string lx)] (78 : Nat) (0, 0)) fun r4 =>
  π.app (78 : Nat) (3 : Nat) (32 : Nat) [(.int .i64 0), (.int .i64 0), (.string ⟨#[]⟩)] (a1) (n2) (c3) (Src.sl (some (Addr.mk r4 0 none)) (1 : Nat)) fun a5 n6 c7 =>
  π.unSome (some (Addr.mk p 0 none)) fun p8 =>
  π.st (p8.add 0) [(.slice a5 n6 c7)] <|
  π.ret (.tuple #[])
 ) (
  π.ret (.tuple #[])
 )
def ann_pSend : Ann := { draws := [(2, { A := [0, 1, 2, 3, 4, 5], eag := [8, 9] })],  }
def la_pSend : LA := { ptr := [(3, 3, 0)], ty := [(3, 78)] }
theorem eq_pSend {W : Type} (π : Prims W) (p : Nat) (lf lt : Int) (lx : ByteArray) : bodyE π Tryz.prog la_pSend ann_pSend 16 Tryz.f66 (bodyOf Tryz.f66) [.v (.pointer (some ⟨p, 0, none⟩)), .v (.agg #[.int .i64 lf, .int .i64 lt, .string lx])] [] = vc_pSend π p lf lt lx := by kernel_rfl
theorem ok_pSend (p : Nat) (lf lt : Int) (lx : ByteArray) (R : RT) (s : PH) (h : vc_pSend (RP Tryz.prog R) p lf lt lx s) : DCalls Tryz.prog 66 (List.map AV.val [.v (.pointer (some ⟨p, 0, none⟩)), .v (.agg #[.int .i64 lf, .int .i64 lt, .string lx])]).toArray s R :=
 callsE (c := bodyOf Tryz.f66) la_pSend mo Tryz.func66 rfl (by kernel_rfl) Tryz.ntmps66 rfl (by kernel_rfl) (eq_pSend ..) h
def vc_pLen {W : Type} (π : Prims W) (p : Nat) : W :=
 π.ite ((some (Addr.mk p 0 none)).isNone) (
  π.ret (.int .i64 0)
 ) (
  π.unSome (some (Addr.mk p 0 none)) fun p0 =>
  π.ld [.slice] (p0.add 0) fun (((a1 : Option Addr), (n2 : Nat), (c3 : Nat)), _) =>
  π.ret (.int .i64 ((↑n2 : Int)))
 )
def ann_pLen : Ann := {}
def la_pLen : LA := {}
theorem eq_pLen {W : Type} (π : Prims W) (p : Nat) : bodyE π Tryz.prog la_pLen ann_pLen 10 Tryz.f39 (bodyOf Tryz.f39) [.v (.pointer (some ⟨p, 0, none⟩))] [] = vc_pLen π p := by kernel_rfl
theorem ok_pLen (p : Nat) (R : RT) (s : PH) (h : vc_pLen (RP Tryz.prog R) p s) : DCalls Tryz.prog 39 (List.map AV.val [.v (.pointer (some ⟨p, 0, none⟩))]).toArray s R :=
 callsE (c := bodyOf Tryz.f39) la_pLen mo Tryz.func39 rfl (by kernel_rfl) Tryz.ntmps39 rfl (by kernel_rfl) (eq_pLen ..) h
def vc_pTake {W : Type} (π : Prims W) (p : Nat) (i : Int) : W :=
 π.call 43 #[(.pointer (some (Addr.mk p 0 none))), (.int .i64 i)] (true, [(true, [.int .i64, .int .i64, .str]), (false, [.bool])]) fun (((x0 : Int), (x1 : Int), (t2 : ByteArray), _), ((b3 : Bool), _), _) =>
 π.ite (b3) (
  π.unSome (some (Addr.mk p 0 none)) fun p4 =>
  π.ld [.slice] (p4.add 0) fun (((a5 : Option Addr), (n6 : Nat), (c7 : Nat)), _) =>
  π.guard (0 ≤ i ∧ i ≤ (↑n6 : Int) ∧ (↑n6 : Int) ≤ (↑c7 : Int)) <|
  π.unSome (some (Addr.mk p 0 none)) fun p8 =>
  π.ld [.slice] (p8.add 0) fun (((a9 : Option Addr), (n10 : Nat), (c11 : Nat)), _) =>
  π.guard (0 ≤ i64.wrap (i + 1) ∧ i64.wrap (i + 1) ≤ (↑n10 : Int) ∧ (↑n10 : Int) ≤ (↑c11 : Int)) <|
  π.cpy (3 : Nat) (if c7 = i.toNat then a5 else Option.map (fun x => x.add (i.toNat * 3)) a5) ((↑n6 : Int).toNat - i.toNat) (if c11 = (i64.wrap (i + 1)).toNat then a9 else Option.map (fun x => x.add ((i64.wrap (i + 1)).toNat * 3)) a9) ((↑n10 : Int).toNat - (i64.wrap (i + 1)).toNat) fun n12 =>
  π.unSome (some (Addr.mk p 0 none)) fun p13 =>
  π.ld [.slice] (p13.add 0) fun (((a14 : Option Addr), (n15 : Nat), (c16 : Nat)), _) =>
  π.unSome (some (Addr.mk p 0 none)) fun p17 =>
  π.ld [.slice] (p17.add 0) fun (((a18 : Option Addr), (n19 : Nat), (c20 : Nat)), _) =>
  π.guard ((0 : Int) ≤ 0 ∧ 0 ≤ i64.wrap ((↑n19 : Int) - 1) ∧ i64.wrap ((↑n19 : Int) - 1) ≤ (↑c16 : Int)) <|
  π.unSome (some (Addr.mk p 0 none)) fun p21 =>
  π.st (p21.add 0) [(.slice (if c16 = (0 : Nat) then a14 else Option.map (fun x => x.add 0) a14) ((i64.wrap ((↑n19 : Int) - 1)).toNat - (0 : Nat)) (c16 - (0 : Nat)))] <|
  π.ret (.tuple #[(.agg #[(.int .i64 x0), (.int .i64 x1), (.string t2)]), (.bool b3)])
 ) (
  π.ret (.tuple #[(.agg #[(.int .i64 x0), (.int .i64 x1), (.string t2)]), (.bool b3)])
 )
def ann_pTake : Ann := { draws := [(3, { A := [0, 1, 2, 3, 4, 5, 6, 7, 8, 9, 10, 11, 12] }), (4, { A := [0, 1, 2, 3, 4, 5, 6, 7, 8, 9, 10, 11, 12, 13] })],  }
def la_pTake : LA := { ptr := [(4, 4, 0), (6, 6, 0)], ty := [(4, 78), (6, 78)] }
theorem eq_pTake {W : Type} (π : Prims W) (p : Nat) (i : Int) : bodyE π Tryz.prog la_pTake ann_pTake 45 Tryz.f41 (bodyOf Tryz.f41) [.v (.pointer (some ⟨p, 0, none⟩)), .v (.int .i64 i)] [] = vc_pTake π p i := by kernel_rfl
theorem ok_pTake (p : Nat) (i : Int) (R : RT) (s : PH) (h : vc_pTake (RP Tryz.prog R) p i s) : DCalls Tryz.prog 41 (List.map AV.val [.v (.pointer (some ⟨p, 0, none⟩)), .v (.int .i64 i)]).toArray s R :=
 callsE (c := bodyOf Tryz.f41) la_pTake mo Tryz.func41 rfl (by kernel_rfl) Tryz.ntmps41 rfl (by kernel_rfl) (eq_pTake ..) h
def vc_pCopy {W : Type} (π : Prims W) (p : Nat) (i : Int) : W :=
 π.ite (decide (i < 0)) (
  π.ret (.tuple #[(.agg #[(.int .i64 0), (.int .i64 0), (.string ⟨#[]⟩)]), (.bool false)])
 ) (
  π.call 39 #[(.pointer (some (Addr.mk p 0 none)))] (false, [(false, [.int .i64])]) fun (((x0 : Int), _), _) =>
  π.ite (decide (i ≥ x0)) (
   π.ret (.tuple #[(.agg #[(.int .i64 0), (.int .i64 0), (.string ⟨#[]⟩)]), (.bool false)])
  ) (
   π.unSome (some (Addr.mk p 0 none)) fun p1 =>
   π.ld [.slice] (p1.add 0) fun (((a2 : Option Addr), (n3 : Nat), (c4 : Nat)), _) =>
   π.guard (0 ≤ i ∧ i < (↑n3 : Int)) <|
   π.unSome (a2) fun p5 =>
   π.ld [.int .i64, .int .i64, .str] (p5.add (i.toNat * 3)) fun ((x6 : Int), (x7 : Int), (t8 : ByteArray), _) =>
   π.ret (.tuple #[(.agg #[(.int .i64 x6), (.int .i64 x7), (.string t8)]), (.bool true)])
  )
 )
def ann_pCopy : Ann := {}
def la_pCopy : LA := { ptr := [(4, 4, 0)], ty := [(4, 78)] }
theorem eq_pCopy {W : Type} (π : Prims W) (p : Nat) (i : Int) : bodyE π Tryz.prog la_pCopy ann_pCopy 22 Tryz.f43 (bodyOf Tryz.f43) [.v (.pointer (some ⟨p, 0, none⟩)), .v (.int .i64 i)] [] = vc_pCopy π p i := by kernel_rfl
theorem ok_pCopy (p : Nat) (i : Int) (R : RT) (s : PH) (h : vc_pCopy (RP Tryz.prog R) p i s) : DCalls Tryz.prog 43 (List.map AV.val [.v (.pointer (some ⟨p, 0, none⟩)), .v (.int .i64 i)]).toArray s R :=
 callsE (c := bodyOf Tryz.f43) la_pCopy mo Tryz.func43 rfl (by kernel_rfl) Tryz.ntmps43 rfl (by kernel_rfl) (eq_pCopy ..) h
def vc_pLose {W : Type} (π : Prims W) (p : Nat) (i : Int) : W :=
 π.call 41 #[(.pointer (some (Addr.mk p 0 none))), (.int .i64 i)] (true, [(true, [.int .i64, .int .i64, .str]), (false, [.bool])]) fun (((x0 : Int), (x1 : Int), (t2 : ByteArray), _), ((b3 : Bool), _), _) =>
 π.ret (.bool b3)
def ann_pLose : Ann := {}
def la_pLose : LA := { ptr := [(5, 5, 0)], ty := [(5, 78)] }
theorem eq_pLose {W : Type} (π : Prims W) (p : Nat) (i : Int) : bodyE π Tryz.prog la_pLose ann_pLose 14 Tryz.f44 (bodyOf Tryz.f44) [.v (.pointer (some ⟨p, 0, none⟩)), .v (.int .i64 i)] [] = vc_pLose π p i := by kernel_rfl
theorem ok_pLose (p : Nat) (i : Int) (R : RT) (s : PH) (h : vc_pLose (RP Tryz.prog R) p i s) : DCalls Tryz.prog 44 (List.map AV.val [.v (.pointer (some ⟨p, 0, none⟩)), .v (.int .i64 i)]).toArray s R :=
 callsE (c := bodyOf Tryz.f44) la_pLose mo Tryz.func44 rfl (by kernel_rfl) Tryz.ntmps44 rfl (by kernel_rfl) (eq_pLose ..) h
def vc_gNew {W : Type} (π : Prims W) (size : Int) : W :=
 π.join [] (fun J0 =>
  π.ite (decide (size < 1)) (
   π.ret (.tuple #[(.pointer none), (.int .i64 1)])
  ) (
   π.ite (decide (size > 5)) (
    π.ret (.tuple #[(.pointer none), (.int .i64 1)])
   ) (
    J0 (())
   )
  )
 ) (fun (_) =>
  π.join [(false, [.ptr])] (fun J1 =>
   π.both (
    π.mksl (74 : Nat) (3 : Nat) (24 : Nat) [(.pointer none), (.pointer none), (.pointer none)] (size) (size) fun r2 =>
    π.call 36 #[] (false, [(false, [.ptr])]) fun ((p3, _), _) =>
    π.nw (Obj.cells #[(.slice (some (Addr.mk r2 0 none)) (size.toNat) (size.toNat)), (.pointer (p3)), (.int .i64 0)] (61 : Nat) (0, 0)) fun r4 =>
    J1 ((some (Addr.mk r4 0 none), ()), ())
   ) (
    π.call 36 #[] (false, [(false, [.ptr])]) fun ((p5, _), _) =>
    π.mksl (74 : Nat) (3 : Nat) (24 : Nat) [(.pointer none), (.pointer none), (.pointer none)] (size) (size) fun r6 =>
    π.nw (Obj.cells #[(.slice (some (Addr.mk r6 0 none)) (size.toNat) (size.toNat)), (.pointer (p5)), (.int .i64 0)] (61 : Nat) (0, 0)) fun r7 =>
    J1 ((some (Addr.mk r7 0 none), ()), ())
   )
  ) (fun ((p8, _), _) =>
   π.unSome (p8) fun p9 =>
   π.ld [.slice] (p9.add 0) fun (((a10 : Option Addr), (n11 : Nat), (c12 : Nat)), _) =>
   π.loop [(false, [.ptr]), (false, [.int .i64]), (false, [.int .i64])] ((p8, ()), ((↑n11 : Int), ()), ((0 : Int), ()), ()) fun ((p14, _), ((x15 : Int), _), ((x16 : Int), _), _) again13 =>
    π.ite (decide (x16 < x15)) (
     π.unSome (p14) fun p17 =>
     π.ld [.slice] (p17.add 0) fun (((a18 : Option Addr), (n19 : Nat), (c20 : Nat)), _) =>
     π.call 37 #[] (false, [(false, [.ptr])]) fun ((p21, _), _) =>
     π.still [.slice] (p17.add 0) ((a18, n19, c20), ()) <|
     π.guard (0 ≤ x16 ∧ x16 < (↑n19 : Int)) <|
     π.unSome (a18) fun p22 =>
     π.st ((p22.add (x16.toNat * 3)).add 1) [(.pointer (p21))] <|
     π.call 38 #[(.pointer (p14)), (.int .i64 x16), (.int .i64 0)] (true, []) fun (_) =>
     again13 ((p14, ()), (x15, ()), (i64.wrap (x16 + 1), ()), ())
    ) (
     π.ret (.tuple #[(.pointer (p14)), (.int .i64 0)])
    )
  )
 )
def ann_gNew : Ann := { draws := [(3, { A := [0], eag := [3, 5] }), (7, { A := [0, 1, 2, 3, 4], chkL := [(5, [3])], eag := [6, 7] })], join := [(3, []), (4, [(4, 23)])], loop := [(5, [(4, 23), (21, 3), (22, 3)])] }
def la_gNew : LA := {}
theorem eq_gNew {W : Type} (π : Prims W) (size : Int) : bodyE π Tryz.prog la_gNew ann_gNew 38 Tryz.f18 (bodyOf Tryz.f18) [.v (.int .i64 size)] [] = vc_gNew π size := by kernel_rfl
theorem ok_gNew (size : Int) (R : RT) (s : PH) (h : vc_gNew (RP Tryz.prog R) size s) : DCalls Tryz.prog 18 (List.map AV.val [.v (.int .i64 size)]).toArray s R :=
 callsE (c := bodyOf Tryz.f18) la_gNew mo Tryz.func18 rfl (by kernel_rfl) Tryz.ntmps18 rfl (by kernel_rfl) (eq_gNew ..) h
def vc_gstart {W : Type} (π : Prims W) (g : Nat) (i keep : Int) : W :=
 π.unSome (some (Addr.mk g 0 none)) fun p0 =>
 π.ld [.slice] (p0.add 0) fun (((a1 : Option Addr), (n2 : Nat), (c3 : Nat)), _) =>
 π.guard (0 ≤ i ∧ i < (↑n2 : Int)) <|
 π.unSome (a1) fun p4 =>
 π.unSome (some (p4.add (i.toNat * 3))) fun p5 =>
 π.ld [.ptr] (p5.add 1) fun (p6, _) =>
 π.nw (Obj.cells #[(.int .i64 keep)] (3 : Nat) (0, 0)) fun r7 =>
 π.call 56 #[(.pointer (p6)), (.slice (some (Addr.mk r7 0 none)) ((1 : Nat)) ((1 : Nat)))] (false, [(false, [.ptr])]) fun ((p8, _), _) =>
 π.unSome (some (p4.add (i.toNat * 3))) fun p9 =>
 π.st (p9.add 1) [(.pointer (p8))] <|
 π.unSome (some (p4.add (i.toNat * 3))) fun p10 =>
 π.ld [.ptr] (p10.add 1) fun (p11, _) =>
 π.call 57 #[(.pointer (p11)), (.string (ByteArray.mk #[(108 : UInt8), (111 : UInt8), (103 : UInt8)]))] (true, [(false, [.ptr]), (false, [.slice]), (false, [.int .i64])]) fun ((p12, _), (((a13 : Option Addr), (n14 : Nat), (c15 : Nat)), _), ((x16 : Int), _), _) =>
 π.ite (x16 != 0) (
  π.ret (.tuple #[])
 ) (
  π.loop [(false, [.ptr]), (false, [.ptr]), (false, [.slice]), (false, [.slice]), (false, [.int .i64]), (false, [.int .i64])] ((some (p4.add (i.toNat * 3)), ()), (p12, ()), ((none, (0 : Nat), (0 : Nat)), ()), ((a13, n14, c15), ()), ((↑n14 : Int), ()), ((0 : Int), ()), ()) fun ((p18, _), (p19, _), (((a20 : Option Addr), (n21 : Nat), (c22 : Nat)), _), (((a23 : Option Addr), (n24 : Nat), (c25 : Nat)), _), ((x26 : Int), _), ((x27 : Int), _), _) again17 =>
   π.ite (decide (x27 < x26)) (
    π.guard (0 ≤ x27 ∧ x27 < (↑n24 : Int)) <|
    π.unSome (a23) fun p28 =>
    π.ld [.str] (p28.add (x27.toNat * 1)) fun ((t29 : ByteArray), _) =>
    π.call 58 #[(.string t29)] (true, [(true, [.int .i64, .int .i64, .bool, .int .i64, .int .i64, .str, .int .i64, .slice]), (false, [.int .i64])]) fun (((x30 : Int), (x31 : Int), (b32 : Bool), (x33 : Int), (x34 : Int), (t35 : ByteArray), (x36 : Int), ((a37 : Option Addr), (n38 : Nat), (c39 : Nat)), _), ((x40 : Int), _), _) =>
    π.nw (Obj.cells #[(.int .i64 x30), (.int .i64 x31), (.bool b32), (.int .i64 x33), (.int .i64 x34), (.string t35), (.int .i64 x36), (.slice a37 n38 c39)] (113 : Nat) (0, 0)) fun r41 =>
    π.app (113 : Nat) (8 : Nat) (88 : Nat) [(.int .i64 0), (.int .i64 0), (.bool false), (.int .i64 0), (.int .i64 0), (.string ⟨#[]⟩), (.int .i64 0), (.slice none 0 0)] (a20) (n21) (c22) (Src.sl (some (Addr.mk r41 0 none)) (1 : Nat)) fun a42 n43 c44 =>
    again17 ((p18, ()), (p19, ()), ((a42, n43, c44), ()), ((a23, n24, c25), ()), (x26, ()), (i64.wrap (x27 + 1), ()), ())
   ) (
    π.unSome (p18) fun p45 =>
    π.st (p45.add 2) [(.pointer (p19))] <|
    π.unSome (some (Addr.mk g 0 none)) fun p46 =>
    π.ld [.slice] (p46.add 0) fun (((a47 : Option Addr), (n48 : Nat), (c49 : Nat)), _) =>
    π.call 59 #[(.int .i64 i), (.int .i64 ((↑n48 : Int))), (.slice a20 n21 c22)] (true, [(false, [.ptr]), (false, [.int .i64])]) fun ((p50, _), ((x51 : Int), _), _) =>
    π.unSome (p18) fun p52 =>
    π.st (p52.add 0) [(.pointer (p50))] <|
    π.ret (.tuple #[])
   )
 )
def ann_gstart : Ann := { loop := [(6, [(6, 83), (7, 72), (10, 111), (42, 28), (43, 3), (44, 3)])] }
def la_gstart : LA := { ptr := [(13, 13, 0)], ty := [(13, 113)] }
theorem eq_gstart {W : Type} (π : Prims W) (g : Nat) (i keep : Int) : bodyE π Tryz.prog la_gstart ann_gstart 76 Tryz.f38 (bodyOf Tryz.f38) [.v (.pointer (some ⟨g, 0, none⟩)), .v (.int .i64 i), .v (.int .i64 keep)] [] = vc_gstart π g i keep := by kernel_rfl
theorem ok_gstart (g : Nat) (i keep : Int) (R : RT) (s : PH) (h : vc_gstart (RP Tryz.prog R) g i keep s) : DCalls Tryz.prog 38 (List.map AV.val [.v (.pointer (some ⟨g, 0, none⟩)), .v (.int .i64 i), .v (.int .i64 keep)]).toArray s R :=
 callsE (c := bodyOf Tryz.f38) la_gstart mo Tryz.func38 rfl (by kernel_rfl) Tryz.ntmps38 rfl (by kernel_rfl) (eq_gstart ..) h
def vc_place {W : Type} (π : Prims W) (a n : Int) : W :=
 π.ite (n == 0) (
  π.ret (.int .i64 (-1))
 ) (
  π.guard (n ≠ (0 : Int)) <|
  π.guard (n ≠ (0 : Int)) <|
  π.ret (.int .i64 (if false = true then i64.wrap ((i64.wrap ((if false = true then i64.wrap (a.tdiv n) else a.tmod n) + n)).tdiv n) else (i64.wrap ((if false = true then i64.wrap (a.tdiv n) else a.tmod n) + n)).tmod n))
 )
def ann_place : Ann := {}
def la_place : LA := {}
theorem eq_place {W : Type} (π : Prims W) (a n : Int) : bodyE π Tryz.prog la_place ann_place 14 Tryz.f42 (bodyOf Tryz.f42) [.v (.int .i64 a), .v (.int .i64 n)] [] = vc_place π a n := by kernel_rfl
theorem ok_place (a n : Int) (R : RT) (s : PH) (h : vc_place (RP Tryz.prog R) a n s) : DCalls Tryz.prog 42 (List.map AV.val [.v (.int .i64 a), .v (.int .i64 n)]).toArray s R :=
 callsE (c := bodyOf Tryz.f42) la_place mo Tryz.func42 rfl (by kernel_rfl) Tryz.ntmps42 rfl (by kernel_rfl) (eq_place ..) h
def vc_gDo {W : Type} (π : Prims W) (g : Nat) (ak aa ab : Int) (at_ : ByteArray) : W :=
 π.ite ((some (Addr.mk g 0 none)).isNone) (
  π.ret (.tuple #[])
 ) (
  π.unSome (some (Addr.mk g 0 none)) fun p0 =>
  π.ld [.int .i64] (p0.add 2) fun ((x1 : Int), _) =>
  π.unSome (some (Addr.mk g 0 none)) fun p2 =>
  π.st (p2.add 2) [(.int .i64 (i64.wrap (x1 + 1)))] <|
  π.nw (Obj.cells #[(Value.nilFunc ), (Value.nilFunc ), (Value.nilFunc ), (Value.nilFunc ), (Value.nilFunc ), (Value.nilFunc ), (Value.nilFunc ), (Value.nilFunc ), (Value.nilFunc ), (Value.nilFunc )] (63 : Nat) (0, 0)) fun r3 =>
  π.st (Addr.mk r3 0 none) [(.func (Fn.func (22 : Nat)) #[] #[]), (.func (Fn.func (23 : Nat)) #[] #[]), (.func (Fn.func (24 : Nat)) #[] #[]), (.func (Fn.func (25 : Nat)) #[] #[]), (.func (Fn.func (26 : Nat)) #[] #[]), (.func (Fn.func (27 : Nat)) #[] #[]), (.func (Fn.func (28 : Nat)) #[] #[]), (.func (Fn.func (29 : Nat)) #[] #[]), (.func (Fn.func (30 : Nat)) #[] #[]), (.func (Fn.func (31 : Nat)) #[] #[])] <|
  π.join [(true, [.int .i64, .int .i64, .int .i64, .str]), (false, [.addr]), (false, [.bool])] (fun J4 =>
   π.ite (decide (ak ≥ 1)) (
    J4 ((ak, aa, ab, at_, ()), (Addr.mk r3 0 none, ()), (decide (ak ≤ 10), ()), ())
   ) (
    J4 ((ak, aa, ab, at_, ()), (Addr.mk r3 0 none, ()), (false, ()), ())
   )
  ) (fun (((x5 : Int), (x6 : Int), (x7 : Int), (t8 : ByteArray), _), (p9, _), ((b10 : Bool), _), _) =>
   π.ite (b10) (
    π.guard (0 ≤ i64.wrap (x5 - 1) ∧ i64.wrap (x5 - 1) < 10) <|
    π.ld [.raw] (p9.add ((i64.wrap (x5 - 1)).toNat * 1)) fun ((v11 : Value), _) =>
    π.callV v11 #[(.pointer (some (Addr.mk g 0 none))), (.agg #[(.int .i64 x5), (.int .i64 x6), (.int .i64 x7), (.string t8)])] (true, []) fun (_) =>
    π.ret (.tuple #[])
   ) (
    π.ret (.tuple #[])
   )
  )
 )
def ann_gDo : Ann := { draws := [(5, { A := [0, 1, 2, 3, 4, 5, 6] })], join := [(5, [(3, 30), (4, 1000000), (22, 4)])],  }
def la_gDo : LA := { ptr := [(3, 3, 0), (15, 3, 0), (19, 3, 0), (23, 3, 0)], ty := [(3, 30)] }
theorem eq_gDo {W : Type} (π : Prims W) (g : Nat) (ak aa ab : Int) (at_ : ByteArray) : bodyE π Tryz.prog la_gDo ann_gDo 31 Tryz.f11 (bodyOf Tryz.f11) [.v (.pointer (some ⟨g, 0, none⟩)), .v (.agg #[.int .i64 ak, .int .i64 aa, .int .i64 ab, .string at_])] [] = vc_gDo π g ak aa ab at_ := by kernel_rfl
theorem ok_gDo (g : Nat) (ak aa ab : Int) (at_ : ByteArray) (R : RT) (s : PH) (h : vc_gDo (RP Tryz.prog R) g ak aa ab at_ s) : DCalls Tryz.prog 11 (List.map AV.val [.v (.pointer (some ⟨g, 0, none⟩)), .v (.agg #[.int .i64 ak, .int .i64 aa, .int .i64 ab, .string at_])]).toArray s R :=
 callsE (c := bodyOf Tryz.f11) la_gDo mo Tryz.func11 rfl (by kernel_rfl) Tryz.ntmps11 rfl (by kernel_rfl) (eq_gDo ..) h
def vc_gnode {W : Type} (π : Prims W) (g : Nat) (ak aa ab : Int) (at_ : ByteArray) : W :=
 π.unSome (some (Addr.mk g 0 none)) fun p0 =>
 π.ld [.slice] (p0.add 0) fun (((a1 : Option Addr), (n2 : Nat), (c3 : Nat)), _) =>
 π.unSome (some (Addr.mk g 0 none)) fun p4 =>
 π.ld [.slice] (p4.add 0) fun (((a5 : Option Addr), (n6 : Nat), (c7 : Nat)), _) =>
 π.callQ 42 #[(.int .i64 aa), (.int .i64 ((↑n6 : Int)))] (false, [(false, [.int .i64])]) fun (((x8 : Int), _), _) =>
 π.guard (0 ≤ x8 ∧ x8 < (↑n2 : Int)) <|
 π.unSome (a1) fun p9 =>
 π.unSome (some (p9.add (x8.toNat * 3))) fun p10 =>
 π.ld [.ptr] (p10.add 0) fun (p11, _) =>
 π.ite (p11.isNone) (
  π.ret (.pointer none)
 ) (
  π.ret (.pointer (some (p9.add (x8.toNat * 3))))
 )
def ann_gnode : Ann := { draws := [(1, { A := [0, 1, 2, 3, 4, 5, 6, 7, 8, 9, 10, 11, 12, 13], quiet := [11] })],  }
def la_gnode : LA := { ptr := [(3, 3, 0), (10, 3, 1)], ty := [(3, 30)] }
theorem eq_gnode {W : Type} (π : Prims W) (g : Nat) (ak aa ab : Int) (at_ : ByteArray) : bodyE π Tryz.prog la_gnode ann_gnode 25 Tryz.f45 (bodyOf Tryz.f45) [.v (.pointer (some ⟨g, 0, none⟩)), .v (.agg #[.int .i64 ak, .int .i64 aa, .int .i64 ab, .string at_])] [] = vc_gnode π g ak aa ab at_ := by kernel_rfl
theorem ok_gnode (g : Nat) (ak aa ab : Int) (at_ : ByteArray) (R : RT) (s : PH) (h : vc_gnode (RP Tryz.prog R) g ak aa ab at_ s) : DCalls Tryz.prog 45 (List.map AV.val [.v (.pointer (some ⟨g, 0, none⟩)), .v (.agg #[.int .i64 ak, .int .i64 aa, .int .i64 ab, .string at_])]).toArray s R :=
 callsE (c := bodyOf Tryz.f45) la_gnode mo Tryz.func45 rfl (by kernel_rfl) Tryz.ntmps45 rfl (by kernel_rfl) (eq_gnode ..) h
def vc_gdone {W : Type} (π : Prims W) (g : Nat) (p : Addr) (o : Option Addr) (on oc : Nat) : W :=
 π.join [] (fun J0 =>
  π.unSome (some p) fun p1 =>
  π.ld [.ptr] (p1.add 0) fun (p2, _) =>
  π.call 62 #[(.pointer (p2))] (true, [(true, [.int .i64, .int .i64, .bool, .int .i64, .int .i64, .str, .int .i64, .slice]), (false, [.bool])]) fun (((x3 : Int), (x4 : Int), (b5 : Bool), (x6 : Int), (x7 : Int), (t8 : ByteArray), (x9 : Int), ((a10 : Option Addr), (n11 : Nat), (c12 : Nat)), _), ((b13 : Bool), _), _) =>
  π.ite (b13) (
   π.unSome (some p) fun p14 =>
   π.ld [.ptr] (p14.add 2) fun (p15, _) =>
   π.join [(true, [.int .i64, .int .i64, .bool, .int .i64, .int .i64, .str, .int .i64, .slice]), (false, [.raw])] (fun J16 =>
    π.ite (b5) (
     π.unSome (some p) fun p17 =>
     π.ld [.ptr] (p17.add 2) fun (p18, _) =>
     J16 ((x3, x4, b5, x6, x7, t8, x9, (a10, n11, c12), ()), ((.func (Fn.func (64 : Nat)) #[(.pointer (p18))] #[]), ()), ())
    ) (
     J16 ((x3, x4, b5, x6, x7, t8, x9, (a10, n11, c12), ()), ((.func (Fn.func (63 : Nat)) #[(.pointer (p15))] #[]), ()), ())
    )
   ) (fun (((x19 : Int), (x20 : Int), (b21 : Bool), (x22 : Int), (x23 : Int), (t24 : ByteArray), (x25 : Int), ((a26 : Option Addr), (n27 : Nat), (c28 : Nat)), _), ((v29 : Value), _), _) =>
    π.call 65 #[(.agg #[(.int .i64 x19), (.int .i64 x20), (.bool b21), (.int .i64 x22), (.int .i64 x23), (.string t24), (.int .i64 x25), (.slice a26 n27 c28)])] (false, [(false, [.str])]) fun (((t30 : ByteArray), _), _) =>
    π.nw (Obj.cells #[(.string t30)] (9 : Nat) (0, 0)) fun r31 =>
    π.callV v29 #[(.slice (some (Addr.mk r31 0 none)) ((1 : Nat)) ((1 : Nat)))] (false, [(false, [.int .i64])]) fun (((x32 : Int), _), _) =>
    π.ite (x32 != 0) (
     π.unSome (some p) fun p33 =>
     π.st (p33.add 0) [(.pointer none)] <|
     π.ret (.tuple #[])
    ) (
     J0 (())
    )
   )
  ) (
   J0 (())
  )
 ) (fun (_) =>
  π.loop [(false, [.slice]), (false, [.int .i64]), (false, [.int .i64])] (((o, on, oc), ()), ((↑on : Int), ()), ((0 : Int), ()), ()) fun ((((a35 : Option Addr), (n36 : Nat), (c37 : Nat)), _), ((x38 : Int), _), ((x39 : Int), _), _) again34 =>
   π.ite (decide (x39 < x38)) (
    π.guard (0 ≤ x39 ∧ x39 < (↑n36 : Int)) <|
    π.unSome (a35) fun p40 =>
    π.ld [.int .i64, .int .i64, .int .i64, .int .i64, .int .i64, .int .i64, .int .i64, .bool, .slice, .str] (p40.add (x39.toNat * 10)) fun ((x41 : Int), (x42 : Int), (x43 : Int), (x44 : Int), (x45 : Int), (x46 : Int), (x47 : Int), (b48 : Bool), ((a49 : Option Addr), (n50 : Nat), (c51 : Nat)), (t52 : ByteArray), _) =>
    π.unSome (some (Addr.mk g 0 none)) fun p53 =>
    π.ld [.ptr] (p53.add 1) fun (p54, _) =>
    π.call 67 #[(.agg #[(.int .i64 x41), (.int .i64 x42), (.int .i64 x43), (.int .i64 x44), (.int .i64 x45), (.int .i64 x46), (.int .i64 x47), (.bool b48), (.slice a49 n50 c51), (.string t52)])] (false, [(false, [.str])]) fun (((t55 : ByteArray), _), _) =>
    π.still [.ptr] (p53.add 1) (p54, ()) <|
    π.call 66 #[(.pointer (p54)), (.agg #[(.int .i64 x42), (.int .i64 x43), (.string t55)])] (true, []) fun (_) =>
    again34 (((a35, n36, c37), ()), (x38, ()), (i64.wrap (x39 + 1), ()), ())
   ) (
    π.ret (.tuple #[])
   )
 )
def ann_gdone : Ann := { draws := [(10, { A := [0, 1, 2, 3, 4, 5, 6, 7, 8], chkL := [(9, [3, 5, 7])], eag := [10] })], join := [(5, [(6, 113), (8, 125)]), (7, [])], loop := [(8, [(41, 86), (42, 3), (43, 3)])] }
def la_gdone : LA := { ptr := [(6, 6, 0), (10, 10, 0), (25, 6, 2), (51, 10, 1), (53, 10, 2)], ty := [(6, 113), (10, 119)] }
theorem eq_gdone {W : Type} (π : Prims W) (g : Nat) (p : Addr) (o : Option Addr) (on oc : Nat) : bodyE π Tryz.prog la_gdone ann_gdone 60 Tryz.f46 (bodyOf Tryz.f46) [.v (.pointer (some ⟨g, 0, none⟩)), .v (.pointer (some p)), .v (.slice o on oc)] [] = vc_gdone π g p o on oc := by kernel_rfl
theorem ok_gdone (g : Nat) (p : Addr) (o : Option Addr) (on oc : Nat) (R : RT) (s : PH) (h : vc_gdone (RP Tryz.prog R) g p o on oc s) : DCalls Tryz.prog 46 (List.map AV.val [.v (.pointer (some ⟨g, 0, none⟩)), .v (.pointer (some p)), .v (.slice o on oc)]).toArray s R :=
 callsE (c := bodyOf Tryz.f46) la_gdone mo Tryz.func46 rfl (by kernel_rfl) Tryz.ntmps46 rfl (by kernel_rfl) (eq_gdone ..) h
def vc_gdeliver {W : Type} (π : Prims W) (g : Nat) (lf lt : Int) (lx : ByteArray) (ok : Bool) : W :=
 π.unSome (some (Addr.mk g 0 none)) fun p0 =>
 π.ld [.slice] (p0.add 0) fun (((a1 : Option Addr), (n2 : Nat), (c3 : Nat)), _) =>
 π.guard (0 ≤ lt ∧ lt < (↑n2 : Int)) <|
 π.unSome (a1) fun p4 =>
 π.join [(true, [.int .i64, .int .i64, .str]), (false, [.ptr]), (false, [.bool])] (fun J5 =>
  π.ite (ok) (
   π.unSome (some (p4.add (lt.toNat * 3))) fun p6 =>
   π.ld [.ptr] (p6.add 0) fun (p7, _) =>
   J5 ((lf, lt, lx, ()), (some (p4.add (lt.toNat * 3)), ()), (!p7.isNone, ()), ())
  ) (
   J5 ((lf, lt, lx, ()), (some (p4.add (lt.toNat * 3)), ()), (false, ()), ())
  )
 ) (fun (((x8 : Int), (x9 : Int), (t10 : ByteArray), _), (p11, _), ((b12 : Bool), _), _) =>
  π.ite (b12) (
   π.call 60 #[(.string t10)] (true, [(true, [.int .i64, .int .i64, .int .i64, .int .i64, .int .i64, .int .i64, .int .i64, .bool, .slice, .str]), (false, [.int .i64])]) fun (((x13 : Int), (x14 : Int), (x15 : Int), (x16 : Int), (x17 : Int), (x18 : Int), (x19 : Int), (b20 : Bool), ((a21 : Option Addr), (n22 : Nat), (c23 : Nat)), (t24 : ByteArray), _), ((x25 : Int), _), _) =>
   π.unSome (p11) fun p26 =>
   π.ld [.ptr] (p26.add 0) fun (p27, _) =>
   π.call 61 #[(.pointer (p27)), (.agg #[(.int .i64 x13), (.int .i64 x14), (.int .i64 x15), (.int .i64 x16), (.int .i64 x17), (.int .i64 x18), (.int .i64 x19), (.bool b20), (.slice a21 n22 c23), (.string t24)])] (false, [(false, [.slice])]) fun ((((a28 : Option Addr), (n29 : Nat), (c30 : Nat)), _), _) =>
   π.call 46 #[(.pointer (some (Addr.mk g 0 none))), (.pointer (p11)), (.slice a28 n29 c30)] (true, []) fun (_) =>
   π.ret (.tuple #[])
  ) (
   π.ret (.tuple #[])
  )
 )
def ann_gdeliver : Ann := { draws := [(1, { A := [0, 1, 2, 3, 4, 5, 6, 7] }), (4, { A := [0, 1, 2, 3, 4, 5, 6] })], join := [(3, [(4, 78), (6, 83), (23, 4)])],  }
def la_gdeliver : LA := { ptr := [(4, 4, 0), (7, 7, 0), (13, 4, 1), (25, 4, 2)], ty := [(4, 78), (7, 119)] }
theorem eq_gdeliver {W : Type} (π : Prims W) (g : Nat) (lf lt : Int) (lx : ByteArray) (ok : Bool) : bodyE π Tryz.prog la_gdeliver ann_gdeliver 39 Tryz.f40 (bodyOf Tryz.f40) [.v (.pointer (some ⟨g, 0, none⟩)), .v (.agg #[.int .i64 lf, .int .i64 lt, .string lx]), .v (.bool ok)] [] = vc_gdeliver π g lf lt lx ok := by kernel_rfl
theorem ok_gdeliver (g : Nat) (lf lt : Int) (lx : ByteArray) (ok : Bool) (R : RT) (s : PH) (h : vc_gdeliver (RP Tryz.prog R) g lf lt lx ok s) : DCalls Tryz.prog 40 (List.map AV.val [.v (.pointer (some ⟨g, 0, none⟩)), .v (.agg #[.int .i64 lf, .int .i64 lt, .string lx]), .v (.bool ok)]).toArray s R :=
 callsE (c := bodyOf Tryz.f40) la_gdeliver mo Tryz.func40 rfl (by kernel_rfl) Tryz.ntmps40 rfl (by kernel_rfl) (eq_gdeliver ..) h
def vc_gtake {W : Type} (π : Prims W) (g : Nat) (ak aa ab : Int) (at_ : ByteArray) : W :=
 π.unSome (some (Addr.mk g 0 none)) fun p0 =>
 π.ld [.ptr] (p0.add 1) fun (p1, _) =>
 π.unSome (some (Addr.mk g 0 none)) fun p2 =>
 π.ld [.ptr] (p2.add 1) fun (p3, _) =>
 π.callQ 39 #[(.pointer (p3))] (false, [(false, [.int .i64])]) fun (((x4 : Int), _), _) =>
 π.callQ 42 #[(.int .i64 aa), (.int .i64 x4)] (false, [(false, [.int .i64])]) fun (((x5 : Int), _), _) =>
 π.call 41 #[(.pointer (p1)), (.int .i64 x5)] (true, [(true, [.int .i64, .int .i64, .str]), (false, [.bool])]) fun (((x6 : Int), (x7 : Int), (t8 : ByteArray), _), ((b9 : Bool), _), _) =>
 π.call 40 #[(.pointer (some (Addr.mk g 0 none))), (.agg #[(.int .i64 x6), (.int .i64 x7), (.string t8)]), (.bool b9)] (true, []) fun (_) =>
 π.ret (.tuple #[])
def ann_gtake : Ann := { draws := [(1, { A := [0, 1, 2, 3, 4, 5, 6, 7, 8, 9, 10, 11, 12], quiet := [11, 12], eag := [14, 15] })],  }
def la_gtake : LA := { ptr := [(3, 3, 0), (9, 3, 1)], ty := [(3, 30)] }
theorem eq_gtake {W : Type} (π : Prims W) (g : Nat) (ak aa ab : Int) (at_ : ByteArray) : bodyE π Tryz.prog la_gtake ann_gtake 21 Tryz.f22 (bodyOf Tryz.f22) [.v (.pointer (some ⟨g, 0, none⟩)), .v (.agg #[.int .i64 ak, .int .i64 aa, .int .i64 ab, .string at_])] [] = vc_gtake π g ak aa ab at_ := by kernel_rfl
theorem ok_gtake (g : Nat) (ak aa ab : Int) (at_ : ByteArray) (R : RT) (s : PH) (h : vc_gtake (RP Tryz.prog R) g ak aa ab at_ s) : DCalls Tryz.prog 22 (List.map AV.val [.v (.pointer (some ⟨g, 0, none⟩)), .v (.agg #[.int .i64 ak, .int .i64 aa, .int .i64 ab, .string at_])]).toArray s R :=
 callsE (c := bodyOf Tryz.f22) la_gtake mo Tryz.func22 rfl (by kernel_rfl) Tryz.ntmps22 rfl (by kernel_rfl) (eq_gtake ..) h
def vc_gcopy {W : Type} (π : Prims W) (g : Nat) (ak aa ab : Int) (at_ : ByteArray) : W :=
 π.unSome (some (Addr.mk g 0 none)) fun p0 =>
 π.ld [.ptr] (p0.add 1) fun (p1, _) =>
 π.unSome (some (Addr.mk g 0 none)) fun p2 =>
 π.ld [.ptr] (p2.add 1) fun (p3, _) =>
 π.callQ 39 #[(.pointer (p3))] (false, [(false, [.int .i64])]) fun (((x4 : Int), _), _) =>
 π.callQ 42 #[(.int .i64 aa), (.int .i64 x4)] (false, [(false, [.int .i64])]) fun (((x5 : Int), _), _) =>
 π.call 43 #[(.pointer (p1)), (.int .i64 x5)] (true, [(true, [.int .i64, .int .i64, .str]), (false, [.bool])]) fun (((x6 : Int), (x7 : Int), (t8 : ByteArray), _), ((b9 : Bool), _), _) =>
 π.call 40 #[(.pointer (some (Addr.mk g 0 none))), (.agg #[(.int .i64 x6), (.int .i64 x7), (.string t8)]), (.bool b9)] (true, []) fun (_) =>
 π.ret (.tuple #[])
def ann_gcopy : Ann := { draws := [(1, { A := [0, 1, 2, 3, 4, 5, 6, 7, 8, 9, 10, 11, 12], quiet := [11, 12], eag := [14, 15] })],  }
def la_gcopy : LA := { ptr := [(3, 3, 0), (9, 3, 1)], ty := [(3, 30)] }
theorem eq_gcopy {W : Type} (π : Prims W) (g : Nat) (ak aa ab : Int) (at_ : ByteArray) : bodyE π Tryz.prog la_gcopy ann_gcopy 21 Tryz.f23 (bodyOf Tryz.f23) [.v (.pointer (some ⟨g, 0, none⟩)), .v (.agg #[.int .i64 ak, .int .i64 aa, .int .i64 ab, .string at_])] [] = vc_gcopy π g ak aa ab at_ := by kernel_rfl
theorem ok_gcopy (g : Nat) (ak aa ab : Int) (at_ : ByteArray) (R : RT) (s : PH) (h : vc_gcopy (RP Tryz.prog R) g ak aa ab at_ s) : DCalls Tryz.prog 23 (List.map AV.val [.v (.pointer (some ⟨g, 0, none⟩)), .v (.agg #[.int .i64 ak, .int .i64 aa, .int .i64 ab, .string at_])]).toArray s R :=
 callsE (c := bodyOf Tryz.f23) la_gcopy mo Tryz.func23 rfl (by kernel_rfl) Tryz.ntmps23 rfl (by kernel_rfl) (eq_gcopy ..) h
def vc_glose {W : Type} (π : Prims W) (g : Nat) (ak aa ab : Int) (at_ : ByteArray) : W :=
 π.unSome (some (Addr.mk g 0 none)) fun p0 =>
 π.ld [.ptr] (p0.add 1) fun (p1, _) =>
 π.unSome (some (Addr.mk g 0 none)) fun p2 =>
 π.ld [.ptr] (p2.add 1) fun (p3, _) =>
 π.callQ 39 #[(.pointer (p3))] (false, [(false, [.int .i64])]) fun (((x4 : Int), _), _) =>
 π.callQ 42 #[(.int .i64 aa), (.int .i64 x4)] (false, [(false, [.int .i64])]) fun (((x5 : Int), _), _) =>
 π.call 44 #[(.pointer (p1)), (.int .i64 x5)] (false, [(false, [.bool])]) fun (((b6 : Bool), _), _) =>
 π.ret (.tuple #[])
def ann_glose : Ann := { draws := [(1, { A := [0, 1, 2, 3, 4, 5, 6, 7, 8, 9, 10, 11], quiet := [10, 11] })],  }
def la_glose : LA := { ptr := [(3, 3, 0), (8, 3, 1)], ty := [(3, 30)] }
theorem eq_glose {W : Type} (π : Prims W) (g : Nat) (ak aa ab : Int) (at_ : ByteArray) : bodyE π Tryz.prog la_glose ann_glose 17 Tryz.f24 (bodyOf Tryz.f24) [.v (.pointer (some ⟨g, 0, none⟩)), .v (.agg #[.int .i64 ak, .int .i64 aa, .int .i64 ab, .string at_])] [] = vc_glose π g ak aa ab at_ := by kernel_rfl
theorem ok_glose (g : Nat) (ak aa ab : Int) (at_ : ByteArray) (R : RT) (s : PH) (h : vc_glose (RP Tryz.prog R) g ak aa ab at_ s) : DCalls Tryz.prog 24 (List.map AV.val [.v (.pointer (some ⟨g, 0, none⟩)), .v (.agg #[.int .i64 ak, .int .i64 aa, .int .i64 ab, .string at_])]).toArray s R :=
 callsE (c := bodyOf Tryz.f24) la_glose mo Tryz.func24 rfl (by kernel_rfl) Tryz.ntmps24 rfl (by kernel_rfl) (eq_glose ..) h
def vc_gtimeout {W : Type} (π : Prims W) (g : Nat) (ak aa ab : Int) (at_ : ByteArray) : W :=
 π.call 45 #[(.pointer (some (Addr.mk g 0 none))), (.agg #[(.int .i64 ak), (.int .i64 aa), (.int .i64 ab), (.string at_)])] (false, [(false, [.ptr])]) fun ((p0, _), _) =>
 π.ite (!p0.isNone) (
  π.unSome (p0) fun p1 =>
  π.ld [.ptr] (p1.add 0) fun (p2, _) =>
  π.call 47 #[(.pointer (p2))] (false, [(false, [.slice])]) fun ((((a3 : Option Addr), (n4 : Nat), (c5 : Nat)), _), _) =>
  π.call 46 #[(.pointer (some (Addr.mk g 0 none))), (.pointer (p0)), (.slice a3 n4 c5)] (true, []) fun (_) =>
  π.ret (.tuple #[])
 ) (
  π.ret (.tuple #[])
 )
def ann_gtimeout : Ann := {}
def la_gtimeout : LA := { ptr := [(3, 3, 0)], ty := [(3, 30)] }
theorem eq_gtimeout {W : Type} (π : Prims W) (g : Nat) (ak aa ab : Int) (at_ : ByteArray) : bodyE π Tryz.prog la_gtimeout ann_gtimeout 18 Tryz.f25 (bodyOf Tryz.f25) [.v (.pointer (some ⟨g, 0, none⟩)), .v (.agg #[.int .i64 ak, .int .i64 aa, .int .i64 ab, .string at_])] [] = vc_gtimeout π g ak aa ab at_ := by kernel_rfl
theorem ok_gtimeout (g : Nat) (ak aa ab : Int) (at_ : ByteArray) (R : RT) (s : PH) (h : vc_gtimeout (RP Tryz.prog R) g ak aa ab at_ s) : DCalls Tryz.prog 25 (List.map AV.val [.v (.pointer (some ⟨g, 0, none⟩)), .v (.agg #[.int .i64 ak, .int .i64 aa, .int .i64 ab, .string at_])]).toArray s R :=
 callsE (c := bodyOf Tryz.f25) la_gtimeout mo Tryz.func25 rfl (by kernel_rfl) Tryz.ntmps25 rfl (by kernel_rfl) (eq_gtimeout ..) h
def vc_gbeat {W : Type} (π : Prims W) (g : Nat) (ak aa ab : Int) (at_ : ByteArray) : W :=
 π.call 45 #[(.pointer (some (Addr.mk g 0 none))), (.agg #[(.int .i64 ak), (.int .i64 aa), (.int .i64 ab), (.string at_)])] (false, [(false, [.ptr])]) fun ((p0, _), _) =>
 π.ite (!p0.isNone) (
  π.unSome (p0) fun p1 =>
  π.ld [.ptr] (p1.add 0) fun (p2, _) =>
  π.call 48 #[(.pointer (p2))] (false, [(false, [.slice])]) fun ((((a3 : Option Addr), (n4 : Nat), (c5 : Nat)), _), _) =>
  π.call 46 #[(.pointer (some (Addr.mk g 0 none))), (.pointer (p0)), (.slice a3 n4 c5)] (true, []) fun (_) =>
  π.ret (.tuple #[])
 ) (
  π.ret (.tuple #[])
 )
def ann_gbeat : Ann := {}
def la_gbeat : LA := { ptr := [(3, 3, 0)], ty := [(3, 30)] }
theorem eq_gbeat {W : Type} (π : Prims W) (g : Nat) (ak aa ab : Int) (at_ : ByteArray) : bodyE π Tryz.prog la_gbeat ann_gbeat 18 Tryz.f26 (bodyOf Tryz.f26) [.v (.pointer (some ⟨g, 0, none⟩)), .v (.agg #[.int .i64 ak, .int .i64 aa, .int .i64 ab, .string at_])] [] = vc_gbeat π g ak aa ab at_ := by kernel_rfl
theorem ok_gbeat (g : Nat) (ak aa ab : Int) (at_ : ByteArray) (R : RT) (s : PH) (h : vc_gbeat (RP Tryz.prog R) g ak aa ab at_ s) : DCalls Tryz.prog 26 (List.map AV.val [.v (.pointer (some ⟨g, 0, none⟩)), .v (.agg #[.int .i64 ak, .int .i64 aa, .int .i64 ab, .string at_])]).toArray s R :=
 callsE (c := bodyOf Tryz.f26) la_gbeat mo Tryz.func26 rfl (by kernel_rfl) Tryz.ntmps26 rfl (by kernel_rfl) (eq_gbeat ..) h
def vc_gpropose {W : Type} (π : Prims W) (g : Nat) (ak aa ab : Int) (at_ : ByteArray) : W :=
 π.call 45 #[(.pointer (some (Addr.mk g 0 none))), (.agg #[(.int .i64 ak), (.int .i64 aa), (.int .i64 ab), (.string at_)])] (false, [(false, [.ptr])]) fun ((p0, _), _) =>
 π.join [(true, [.int .i64, .int .i64, .int .i64, .str]), (false, [.ptr]), (false, [.bool])] (fun J1 =>
  π.ite (!p0.isNone) (
   π.ite (decide ((↑at_.size : Int) ≥ 1)) (
    J1 ((ak, aa, ab, at_, ()), (p0, ()), (decide ((↑at_.size : Int) ≤ 256), ()), ())
   ) (
    J1 ((ak, aa, ab, at_, ()), (p0, ()), (false, ()), ())
   )
  ) (
   J1 ((ak, aa, ab, at_, ()), (p0, ()), (false, ()), ())
  )
 ) (fun (((x2 : Int), (x3 : Int), (x4 : Int), (t5 : ByteArray), _), (p6, _), ((b7 : Bool), _), _) =>
  π.ite (b7) (
   π.unSome (p6) fun p8 =>
   π.ld [.ptr] (p8.add 0) fun (p9, _) =>
   π.unSome (some (Addr.mk g 0 none)) fun p10 =>
   π.ld [.int .i64] (p10.add 2) fun ((x11 : Int), _) =>
   π.call 49 #[(.pointer (p9)), (.int .i64 0), (.int .i64 x11), (.string t5)] (true, [(false, [.int .i64]), (false, [.slice])]) fun (((x12 : Int), _), (((a13 : Option Addr), (n14 : Nat), (c15 : Nat)), _), _) =>
   π.call 46 #[(.pointer (some (Addr.mk g 0 none))), (.pointer (p6)), (.slice a13 n14 c15)] (true, []) fun (_) =>
   π.ret (.tuple #[])
  ) (
   π.ret (.tuple #[])
  )
 )
def ann_gpropose : Ann := { draws := [(3, { A := [0, 1, 2, 3, 4, 5, 6, 7, 8, 9], eag := [11, 12, 13, 14, 15] })], join := [(3, [(3, 30), (4, 83), (23, 4)])],  }
def la_gpropose : LA := { ptr := [(3, 3, 0), (13, 3, 3), (19, 3, 3), (33, 3, 3)], ty := [(3, 30)] }
theorem eq_gpropose {W : Type} (π : Prims W) (g : Nat) (ak aa ab : Int) (at_ : ByteArray) : bodyE π Tryz.prog la_gpropose ann_gpropose 42 Tryz.f27 (bodyOf Tryz.f27) [.v (.pointer (some ⟨g, 0, none⟩)), .v (.agg #[.int .i64 ak, .int .i64 aa, .int .i64 ab, .string at_])] [] = vc_gpropose π g ak aa ab at_ := by kernel_rfl
theorem ok_gpropose (g : Nat) (ak aa ab : Int) (at_ : ByteArray) (R : RT) (s : PH) (h : vc_gpropose (RP Tryz.prog R) g ak aa ab at_ s) : DCalls Tryz.prog 27 (List.map AV.val [.v (.pointer (some ⟨g, 0, none⟩)), .v (.agg #[.int .i64 ak, .int .i64 aa, .int .i64 ab, .string at_])]).toArray s R :=
 callsE (c := bodyOf Tryz.f27) la_gpropose mo Tryz.func27 rfl (by kernel_rfl) Tryz.ntmps27 rfl (by kernel_rfl) (eq_gpropose ..) h
def vc_gcrash {W : Type} (π : Prims W) (g : Nat) (ak aa ab : Int) (at_ : ByteArray) : W :=
 π.call 45 #[(.pointer (some (Addr.mk g 0 none))), (.agg #[(.int .i64 ak), (.int .i64 aa), (.int .i64 ab), (.string at_)])] (false, [(false, [.ptr])]) fun ((p0, _), _) =>
 π.ite (!p0.isNone) (
  π.unSome (p0) fun p1 =>
  π.st (p1.add 0) [(.pointer none)] <|
  π.ret (.tuple #[])
 ) (
  π.ret (.tuple #[])
 )
def ann_gcrash : Ann := {}
def la_gcrash : LA := { ptr := [(3, 3, 0)], ty := [(3, 30)] }
theorem eq_gcrash {W : Type} (π : Prims W) (g : Nat) (ak aa ab : Int) (at_ : ByteArray) : bodyE π Tryz.prog la_gcrash ann_gcrash 13 Tryz.f28 (bodyOf Tryz.f28) [.v (.pointer (some ⟨g, 0, none⟩)), .v (.agg #[.int .i64 ak, .int .i64 aa, .int .i64 ab, .string at_])] [] = vc_gcrash π g ak aa ab at_ := by kernel_rfl
theorem ok_gcrash (g : Nat) (ak aa ab : Int) (at_ : ByteArray) (R : RT) (s : PH) (h : vc_gcrash (RP Tryz.prog R) g ak aa ab at_ s) : DCalls Tryz.prog 28 (List.map AV.val [.v (.pointer (some ⟨g, 0, none⟩)), .v (.agg #[.int .i64 ak, .int .i64 aa, .int .i64 ab, .string at_])]).toArray s R :=
 callsE (c := bodyOf Tryz.f28) la_gcrash mo Tryz.func28 rfl (by kernel_rfl) Tryz.ntmps28 rfl (by kernel_rfl) (eq_gcrash ..) h
def vc_grestart {W : Type} (π : Prims W) (g : Nat) (ak aa ab : Int) (at_ : ByteArray) : W :=
 π.call 45 #[(.pointer (some (Addr.mk g 0 none))), (.agg #[(.int .i64 ak), (.int .i64 aa), (.int .i64 ab), (.string at_)])] (false, [(false, [.ptr])]) fun ((p0, _), _) =>
 π.ite (p0.isNone) (
  π.unSome (some (Addr.mk g 0 none)) fun p1 =>
  π.ld [.slice] (p1.add 0) fun (((a2 : Option Addr), (n3 : Nat), (c4 : Nat)), _) =>
  π.callQ 42 #[(.int .i64 aa), (.int .i64 ((↑n3 : Int)))] (false, [(false, [.int .i64])]) fun (((x5 : Int), _), _) =>
  π.call 38 #[(.pointer (some (Addr.mk g 0 none))), (.int .i64 x5), (.int .i64 ab)] (true, []) fun (_) =>
  π.ret (.tuple #[])
 ) (
  π.ret (.tuple #[])
 )
def ann_grestart : Ann := { draws := [(2, { A := [0, 1, 2, 3, 4, 5, 6, 7, 8, 9, 10], quiet := [8] })],  }
def la_grestart : LA := { ptr := [(3, 3, 0), (9, 3, 1), (17, 3, 2)], ty := [(3, 30)] }
theorem eq_grestart {W : Type} (π : Prims W) (g : Nat) (ak aa ab : Int) (at_ : ByteArray) : bodyE π Tryz.prog la_grestart ann_grestart 20 Tryz.f29 (bodyOf Tryz.f29) [.v (.pointer (some ⟨g, 0, none⟩)), .v (.agg #[.int .i64 ak, .int .i64 aa, .int .i64 ab, .string at_])] [] = vc_grestart π g ak aa ab at_ := by kernel_rfl
theorem ok_grestart (g : Nat) (ak aa ab : Int) (at_ : ByteArray) (R : RT) (s : PH) (h : vc_grestart (RP Tryz.prog R) g ak aa ab at_ s) : DCalls Tryz.prog 29 (List.map AV.val [.v (.pointer (some ⟨g, 0, none⟩)), .v (.agg #[.int .i64 ak, .int .i64 aa, .int .i64 ab, .string at_])]).toArray s R :=
 callsE (c := bodyOf Tryz.f29) la_grestart mo Tryz.func29 rfl (by kernel_rfl) Tryz.ntmps29 rfl (by kernel_rfl) (eq_grestart ..) h
def vc_garm {W : Type} (π : Prims W) (g : Nat) (ak aa ab : Int) (at_ : ByteArray) : W :=
 π.call 45 #[(.pointer (some (Addr.mk g 0 none))), (.agg #[(.int .i64 ak), (.int .i64 aa), (.int .i64 ab), (.string at_)])] (false, [(false, [.ptr])]) fun ((p0, _), _) =>
 π.ite (!p0.isNone) (
  π.unSome (p0) fun p1 =>
  π.ld [.ptr] (p1.add 1) fun (p2, _) =>
  π.call 50 #[(.pointer (p2)), (.int .i64 ab)] (true, []) fun (_) =>
  π.ret (.tuple #[])
 ) (
  π.ret (.tuple #[])
 )
def ann_garm : Ann := { draws := [(3, { A := [0, 1, 2, 3, 4, 5] })],  }
def la_garm : LA := { ptr := [(3, 3, 0), (14, 3, 2)], ty := [(3, 30)] }
theorem eq_garm {W : Type} (π : Prims W) (g : Nat) (ak aa ab : Int) (at_ : ByteArray) : bodyE π Tryz.prog la_garm ann_garm 17 Tryz.f30 (bodyOf Tryz.f30) [.v (.pointer (some ⟨g, 0, none⟩)), .v (.agg #[.int .i64 ak, .int .i64 aa, .int .i64 ab, .string at_])] [] = vc_garm π g ak aa ab at_ := by kernel_rfl
theorem ok_garm (g : Nat) (ak aa ab : Int) (at_ : ByteArray) (R : RT) (s : PH) (h : vc_garm (RP Tryz.prog R) g ak aa ab at_ s) : DCalls Tryz.prog 30 (List.map AV.val [.v (.pointer (some ⟨g, 0, none⟩)), .v (.agg #[.int .i64 ak, .int .i64 aa, .int .i64 ab, .string at_])]).toArray s R :=
 callsE (c := bodyOf Tryz.f30) la_garm mo Tryz.func30 rfl (by kernel_rfl) Tryz.ntmps30 rfl (by kernel_rfl) (eq_garm ..) h
def vc_gcut {W : Type} (π : Prims W) (g : Nat) (ak aa ab : Int) (at_ : ByteArray) : W :=
 π.call 45 #[(.pointer (some (Addr.mk g 0 none))), (.agg #[(.int .i64 ak), (.int .i64 aa), (.int .i64 ab), (.string at_)])] (false, [(false, [.ptr])]) fun ((p0, _), _) =>
 π.ite (p0.isNone) (
  π.ret (.tuple #[])
 ) (
  π.unSome (p0) fun p1 =>
  π.ld [.ptr] (p1.add 0) fun (p2, _) =>
  π.call 33 #[(.pointer (p2))] (false, [(false, [.slice])]) fun ((((a3 : Option Addr), (n4 : Nat), (c5 : Nat)), _), _) =>
  π.loop [(false, [.ptr]), (false, [.str]), (false, [.slice]), (false, [.int .i64]), (false, [.int .i64])] ((p0, ()), (ByteArray.mk #[], ()), ((a3, n4, c5), ()), ((↑n4 : Int), ()), ((0 : Int), ()), ()) fun ((p7, _), ((t8 : ByteArray), _), (((a9 : Option Addr), (n10 : Nat), (c11 : Nat)), _), ((x12 : Int), _), ((x13 : Int), _), _) again6 =>
   π.ite (decide (x13 < x12)) (
    π.guard (0 ≤ x13 ∧ x13 < (↑n10 : Int)) <|
    π.unSome (a9) fun p14 =>
    π.ld [.str] (p14.add (x13.toNat * 1)) fun ((t15 : ByteArray), _) =>
    π.call 51 #[(.string t15)] (true, [(false, [.str]), (false, [.int .i64])]) fun (((t16 : ByteArray), _), ((x17 : Int), _), _) =>
    π.guard ((↑(t8.size + t16.size) : Int) ≤ 9223372036854775807) <|
    again6 ((p7, ()), (t8 ++ t16, ()), ((a9, n10, c11), ()), (x12, ()), (i64.wrap (x13 + 1), ()), ())
   ) (
    π.unSome (p7) fun p18 =>
    π.ld [.ptr] (p18.add 0) fun (p19, _) =>
    π.unSome (p7) fun p20 =>
    π.ld [.ptr] (p20.add 0) fun (p21, _) =>
    π.call 34 #[(.pointer (p21))] (false, [(true, [.int .i64, .int .i64, .int .i64, .int .i64, .int .i64, .int .i64, .int .i64])]) fun (((x22 : Int), (x23 : Int), (x24 : Int), (x25 : Int), (x26 : Int), (x27 : Int), (x28 : Int), _), _) =>
    π.still [.ptr] (p18.add 0) (p19, ()) <|
    π.call 52 #[(.pointer (p19)), (.int .i64 x28), (.string t8)] (false, [(false, [.bool])]) fun (((b29 : Bool), _), _) =>
    π.call 46 #[(.pointer (some (Addr.mk g 0 none))), (.pointer (p7)), (.slice none 0 0)] (true, []) fun (_) =>
    π.ret (.tuple #[])
   )
 )
def ann_gcut : Ann := { draws := [(10, { A := [0, 1, 2, 3, 4, 5, 6, 7, 10], chkL := [(8, [3])], eag := [9] })], loop := [(5, [(4, 83), (5, 9), (19, 28), (20, 3), (21, 3)])] }
def la_gcut : LA := { ptr := [(3, 3, 0)], ty := [(3, 30)] }
theorem eq_gcut {W : Type} (π : Prims W) (g : Nat) (ak aa ab : Int) (at_ : ByteArray) : bodyE π Tryz.prog la_gcut ann_gcut 49 Tryz.f31 (bodyOf Tryz.f31) [.v (.pointer (some ⟨g, 0, none⟩)), .v (.agg #[.int .i64 ak, .int .i64 aa, .int .i64 ab, .string at_])] [] = vc_gcut π g ak aa ab at_ := by kernel_rfl
theorem ok_gcut (g : Nat) (ak aa ab : Int) (at_ : ByteArray) (R : RT) (s : PH) (h : vc_gcut (RP Tryz.prog R) g ak aa ab at_ s) : DCalls Tryz.prog 31 (List.map AV.val [.v (.pointer (some ⟨g, 0, none⟩)), .v (.agg #[.int .i64 ak, .int .i64 aa, .int .i64 ab, .string at_])]).toArray s R :=
 callsE (c := bodyOf Tryz.f31) la_gcut mo Tryz.func31 rfl (by kernel_rfl) Tryz.ntmps31 rfl (by kernel_rfl) (eq_gcut ..) h
def vc_gtexts {W : Type} (π : Prims W) (b : Nat) : W :=
 π.call 54 #[(.pointer (some (Addr.mk b 0 none)))] (false, [(false, [.str])]) fun (((t0 : ByteArray), _), _) =>
 π.call 53 #[(.string t0)] (true, [(false, [.slice]), (false, [.int .i64])]) fun ((((a1 : Option Addr), (n2 : Nat), (c3 : Nat)), _), ((x4 : Int), _), _) =>
 π.call 34 #[(.pointer (some (Addr.mk b 0 none)))] (false, [(true, [.int .i64, .int .i64, .int .i64, .int .i64, .int .i64, .int .i64, .int .i64])]) fun (((x5 : Int), (x6 : Int), (x7 : Int), (x8 : Int), (x9 : Int), (x10 : Int), (x11 : Int), _), _) =>
 π.loop [(false, [.slice]), (true, [.int .i64, .int .i64, .int .i64, .int .i64, .int .i64, .int .i64, .int .i64]), (false, [.int .i64])] (((a1, n2, c3), ()), (x5, x6, x7, x8, x9, x10, x11, ()), (i64.wrap (x9 + 1), ()), ()) fun ((((a13 : Option Addr), (n14 : Nat), (c15 : Nat)), _), ((x16 : Int), (x17 : Int), (x18 : Int), (x19 : Int), (x20 : Int), (x21 : Int), (x22 : Int), _), ((x23 : Int), _), _) again12 =>
  π.ite (decide (x23 ≤ x22)) (
   π.call 35 #[(.pointer (some (Addr.mk b 0 none))), (.int .i64 x23)] (true, [(true, [.int .i64, .int .i64, .int .i64, .str]), (false, [.bool])]) fun (((x24 : Int), (x25 : Int), (x26 : Int), (t27 : ByteArray), _), ((b28 : Bool), _), _) =>
   π.ite (!t27.toList == (ByteArray.mk #[]).toList) (
    π.nw (Obj.cells #[(.string t27)] (9 : Nat) (0, 0)) fun r29 =>
    π.app (9 : Nat) (1 : Nat) (16 : Nat) [(.string ⟨#[]⟩)] (a13) (n14) (c15) (Src.sl (some (Addr.mk r29 0 none)) (1 : Nat)) fun a30 n31 c32 =>
    again12 (((a30, n31, c32), ()), (x16, x17, x18, x19, x20, x21, x22, ()), (i64.wrap (x23 + 1), ()), ())
   ) (
    again12 (((a13, n14, c15), ()), (x16, x17, x18, x19, x20, x21, x22, ()), (i64.wrap (x23 + 1), ()), ())
   )
  ) (
   π.ret (.slice a13 n14 c15)
  )
def ann_gtexts : Ann := { loop := [(4, [(3, 28), (5, 37), (6, 3)])] }
def la_gtexts : LA := { ptr := [(5, 5, 0), (7, 7, 0), (17, 5, 4), (21, 5, 6), (32, 7, 3), (36, 7, 3)], ty := [(5, 37), (7, 43)] }
theorem eq_gtexts {W : Type} (π : Prims W) (b : Nat) : bodyE π Tryz.prog la_gtexts ann_gtexts 41 Tryz.f33 (bodyOf Tryz.f33) [.v (.pointer (some ⟨b, 0, none⟩))] [] = vc_gtexts π b := by kernel_rfl
theorem ok_gtexts (b : Nat) (R : RT) (s : PH) (h : vc_gtexts (RP Tryz.prog R) b s) : DCalls Tryz.prog 33 (List.map AV.val [.v (.pointer (some ⟨b, 0, none⟩))]).toArray s R :=
 callsE (c := bodyOf Tryz.f33) la_gtexts mo Tryz.func33 rfl (by kernel_rfl) Tryz.ntmps33 rfl (by kernel_rfl) (eq_gtexts ..) h
def vc_gLetters {W : Type} (π : Prims W) (g : Nat) : W :=
 π.ite ((some (Addr.mk g 0 none)).isNone) (
  π.ret (.int .i64 0)
 ) (
  π.unSome (some (Addr.mk g 0 none)) fun p0 =>
  π.ld [.ptr] (p0.add 1) fun (p1, _) =>
  π.call 39 #[(.pointer (p1))] (false, [(false, [.int .i64])]) fun (((x2 : Int), _), _) =>
  π.ret (.int .i64 x2)
 )
def ann_gLetters : Ann := {}
def la_gLetters : LA := {}
theorem eq_gLetters {W : Type} (π : Prims W) (g : Nat) : bodyE π Tryz.prog la_gLetters ann_gLetters 10 Tryz.f19 (bodyOf Tryz.f19) [.v (.pointer (some ⟨g, 0, none⟩))] [] = vc_gLetters π g := by kernel_rfl
theorem ok_gLetters (g : Nat) (R : RT) (s : PH) (h : vc_gLetters (RP Tryz.prog R) g s) : DCalls Tryz.prog 19 (List.map AV.val [.v (.pointer (some ⟨g, 0, none⟩))]).toArray s R :=
 callsE (c := bodyOf Tryz.f19) la_gLetters mo Tryz.func19 rfl (by kernel_rfl) Tryz.ntmps19 rfl (by kernel_rfl) (eq_gLetters ..) h
def vc_gat {W : Type} (π : Prims W) (g : Nat) (n : Int) : W :=
 π.ite ((some (Addr.mk g 0 none)).isNone) (
  π.ret (.pointer none)
 ) (
  π.ite (decide (n < 0)) (
   π.ret (.pointer none)
  ) (
   π.unSome (some (Addr.mk g 0 none)) fun p0 =>
   π.ld [.slice] (p0.add 0) fun (((a1 : Option Addr), (n2 : Nat), (c3 : Nat)), _) =>
   π.ite (decide (n ≥ (↑n2 : Int))) (
    π.ret (.pointer none)
   ) (
    π.unSome (some (Addr.mk g 0 none)) fun p4 =>
    π.ld [.slice] (p4.add 0) fun (((a5 : Option Addr), (n6 : Nat), (c7 : Nat)), _) =>
    π.guard (0 ≤ n ∧ n < (↑n6 : Int)) <|
    π.unSome (a5) fun p8 =>
    π.ld [.ptr] ((p8.add (n.toNat * 3)).add 0) fun (p9, _) =>
    π.ret (.pointer (p9))
   )
  )
 )
def ann_gat : Ann := {}
def la_gat : LA := {}
theorem eq_gat {W : Type} (π : Prims W) (g : Nat) (n : Int) : bodyE π Tryz.prog la_gat ann_gat 28 Tryz.f32 (bodyOf Tryz.f32) [.v (.pointer (some ⟨g, 0, none⟩)), .v (.int .i64 n)] [] = vc_gat π g n := by kernel_rfl
theorem ok_gat (g : Nat) (n : Int) (R : RT) (s : PH) (h : vc_gat (RP Tryz.prog R) g n s) : DCalls Tryz.prog 32 (List.map AV.val [.v (.pointer (some ⟨g, 0, none⟩)), .v (.int .i64 n)]).toArray s R :=
 callsE (c := bodyOf Tryz.f32) la_gat mo Tryz.func32 rfl (by kernel_rfl) Tryz.ntmps32 rfl (by kernel_rfl) (eq_gat ..) h
def vc_gStand {W : Type} (π : Prims W) (g : Nat) (n : Int) : W :=
 π.call 32 #[(.pointer (some (Addr.mk g 0 none))), (.int .i64 n)] (false, [(false, [.ptr])]) fun ((p0, _), _) =>
 π.call 34 #[(.pointer (p0))] (false, [(true, [.int .i64, .int .i64, .int .i64, .int .i64, .int .i64, .int .i64, .int .i64])]) fun (((x1 : Int), (x2 : Int), (x3 : Int), (x4 : Int), (x5 : Int), (x6 : Int), (x7 : Int), _), _) =>
 π.ret (.tuple #[(.agg #[(.int .i64 x1), (.int .i64 x2), (.int .i64 x3), (.int .i64 x4), (.int .i64 x5), (.int .i64 x6), (.int .i64 x7)]), (.bool (!p0.isNone))])
def ann_gStand : Ann := {}
def la_gStand : LA := { ptr := [(4, 4, 0)], ty := [(4, 37)] }
theorem eq_gStand {W : Type} (π : Prims W) (g : Nat) (n : Int) : bodyE π Tryz.prog la_gStand ann_gStand 14 Tryz.f14 (bodyOf Tryz.f14) [.v (.pointer (some ⟨g, 0, none⟩)), .v (.int .i64 n)] [] = vc_gStand π g n := by kernel_rfl
theorem ok_gStand (g : Nat) (n : Int) (R : RT) (s : PH) (h : vc_gStand (RP Tryz.prog R) g n s) : DCalls Tryz.prog 14 (List.map AV.val [.v (.pointer (some ⟨g, 0, none⟩)), .v (.int .i64 n)]).toArray s R :=
 callsE (c := bodyOf Tryz.f14) la_gStand mo Tryz.func14 rfl (by kernel_rfl) Tryz.ntmps14 rfl (by kernel_rfl) (eq_gStand ..) h
def vc_gEntry {W : Type} (π : Prims W) (g : Nat) (n i : Int) : W :=
 π.call 32 #[(.pointer (some (Addr.mk g 0 none))), (.int .i64 n)] (false, [(false, [.ptr])]) fun ((p0, _), _) =>
 π.call 35 #[(.pointer (p0)), (.int .i64 i)] (true, [(true, [.int .i64, .int .i64, .int .i64, .str]), (false, [.bool])]) fun (((x1 : Int), (x2 : Int), (x3 : Int), (t4 : ByteArray), _), ((b5 : Bool), _), _) =>
 π.ret (.tuple #[(.agg #[(.int .i64 x1), (.int .i64 x2), (.int .i64 x3), (.string t4)]), (.bool b5)])
def ann_gEntry : Ann := {}
def la_gEntry : LA := { ptr := [(6, 6, 0)], ty := [(6, 43)] }
theorem eq_gEntry {W : Type} (π : Prims W) (g : Nat) (n i : Int) : bodyE π Tryz.prog la_gEntry ann_gEntry 15 Tryz.f15 (bodyOf Tryz.f15) [.v (.pointer (some ⟨g, 0, none⟩)), .v (.int .i64 n), .v (.int .i64 i)] [] = vc_gEntry π g n i := by kernel_rfl
theorem ok_gEntry (g : Nat) (n i : Int) (R : RT) (s : PH) (h : vc_gEntry (RP Tryz.prog R) g n i s) : DCalls Tryz.prog 15 (List.map AV.val [.v (.pointer (some ⟨g, 0, none⟩)), .v (.int .i64 n), .v (.int .i64 i)]).toArray s R :=
 callsE (c := bodyOf Tryz.f15) la_gEntry mo Tryz.func15 rfl (by kernel_rfl) Tryz.ntmps15 rfl (by kernel_rfl) (eq_gEntry ..) h
def vc_gTexts {W : Type} (π : Prims W) (g : Nat) (n : Int) : W :=
 π.call 32 #[(.pointer (some (Addr.mk g 0 none))), (.int .i64 n)] (false, [(false, [.ptr])]) fun ((p0, _), _) =>
 π.ite (p0.isNone) (
  π.ret (.slice none 0 0)
 ) (
  π.call 33 #[(.pointer (p0))] (false, [(false, [.slice])]) fun ((((a1 : Option Addr), (n2 : Nat), (c3 : Nat)), _), _) =>
  π.ret (.slice a1 n2 c3)
 )
def ann_gTexts : Ann := {}
def la_gTexts : LA := {}
theorem eq_gTexts {W : Type} (π : Prims W) (g : Nat) (n : Int) : bodyE π Tryz.prog la_gTexts ann_gTexts 13 Tryz.f12 (bodyOf Tryz.f12) [.v (.pointer (some ⟨g, 0, none⟩)), .v (.int .i64 n)] [] = vc_gTexts π g n := by kernel_rfl
theorem ok_gTexts (g : Nat) (n : Int) (R : RT) (s : PH) (h : vc_gTexts (RP Tryz.prog R) g n s) : DCalls Tryz.prog 12 (List.map AV.val [.v (.pointer (some ⟨g, 0, none⟩)), .v (.int .i64 n)]).toArray s R :=
 callsE (c := bodyOf Tryz.f12) la_gTexts mo Tryz.func12 rfl (by kernel_rfl) Tryz.ntmps12 rfl (by kernel_rfl) (eq_gTexts ..) h
def vc_lall {W : Type} (π : Prims W) (g : Nat) (most : Int) : W :=
 π.loop [(false, [.int .i64]), (false, [.int .i64])] ((most, ()), ((0 : Int), ()), ()) fun (((x1 : Int), _), ((x2 : Int), _), _) again0 =>
  π.ite (decide (x2 < x1)) (
   π.call 19 #[(.pointer (some (Addr.mk g 0 none)))] (false, [(false, [.int .i64])]) fun (((x3 : Int), _), _) =>
   π.ite (x3 == 0) (
    π.ret (.bool true)
   ) (
    π.call 11 #[(.pointer (some (Addr.mk g 0 none))), (.agg #[(.int .i64 1), (.int .i64 0), (.int .i64 0), (.string ⟨#[]⟩)])] (true, []) fun (_) =>
    again0 ((x1, ()), (i64.wrap (x2 + 1), ()), ())
   )
  ) (
   π.call 19 #[(.pointer (some (Addr.mk g 0 none)))] (false, [(false, [.int .i64])]) fun (((x4 : Int), _), _) =>
   π.ret (.bool (x4 == 0))
  )
def ann_lall : Ann := { loop := [(2, [(5, 3), (6, 3)])] }
def la_lall : LA := {}
theorem eq_lall {W : Type} (π : Prims W) (g : Nat) (most : Int) : bodyE π Tryz.prog la_lall ann_lall 18 Tryz.f20 (bodyOf Tryz.f20) [.v (.pointer (some ⟨g, 0, none⟩)), .v (.int .i64 most)] [] = vc_lall π g most := by kernel_rfl
theorem ok_lall (g : Nat) (most : Int) (R : RT) (s : PH) (h : vc_lall (RP Tryz.prog R) g most s) : DCalls Tryz.prog 20 (List.map AV.val [.v (.pointer (some ⟨g, 0, none⟩)), .v (.int .i64 most)]).toArray s R :=
 callsE (c := bodyOf Tryz.f20) la_lall mo Tryz.func20 rfl (by kernel_rfl) Tryz.ntmps20 rfl (by kernel_rfl) (eq_lall ..) h
def vc_lawake {W : Type} (π : Prims W) : W :=
 π.call 18 #[(.int .i64 3)] (true, [(false, [.ptr]), (false, [.int .i64])]) fun ((p0, _), ((x1 : Int), _), _) =>
 π.call 11 #[(.pointer (p0)), (.agg #[(.int .i64 4), (.int .i64 0), (.int .i64 0), (.string ⟨#[]⟩)])] (true, []) fun (_) =>
 π.call 20 #[(.pointer (p0)), (.int .i64 100)] (false, [(false, [.bool])]) fun (((b2 : Bool), _), _) =>
 π.call 14 #[(.pointer (p0)), (.int .i64 0)] (true, [(true, [.int .i64, .int .i64, .int .i64, .int .i64, .int .i64, .int .i64, .int .i64]), (false, [.bool])]) fun (((x3 : Int), (x4 : Int), (x5 : Int), (x6 : Int), (x7 : Int), (x8 : Int), (x9 : Int), _), ((b10 : Bool), _), _) =>
 π.call 11 #[(.pointer (p0)), (.agg #[(.int .i64 6), (.int .i64 0), (.int .i64 0), (.string (ByteArray.mk #[(120 : UInt8)]))])] (true, []) fun (_) =>
 π.join [(false, [.ptr]), (false, [.int .i64]), (false, [.bool]), (true, [.int .i64, .int .i64, .int .i64, .int .i64, .int .i64, .int .i64, .int .i64]), (false, [.bool])] (fun J11 =>
  π.ite (b2) (
   π.call 20 #[(.pointer (p0)), (.int .i64 100)] (false, [(false, [.bool])]) fun (((b12 : Bool), _), _) =>
   J11 ((p0, ()), (x1, ()), (b12, ()), (x3, x4, x5, x6, x7, x8, x9, ()), (b10, ()), ())
  ) (
   J11 ((p0, ()), (x1, ()), (false, ()), (x3, x4, x5, x6, x7, x8, x9, ()), (b10, ()), ())
  )
 ) (fun ((p13, _), ((x14 : Int), _), ((b15 : Bool), _), ((x16 : Int), (x17 : Int), (x18 : Int), (x19 : Int), (x20 : Int), (x21 : Int), (x22 : Int), _), ((b23 : Bool), _), _) =>
  π.ite (x14 == 0) (
   π.ite (b15) (
    π.ite (b23) (
     π.ite (x18 == 2) (
      π.call 12 #[(.pointer (p13)), (.int .i64 1)] (false, [(false, [.slice])]) fun ((((a24 : Option Addr), (n25 : Nat), (c26 : Nat)), _), _) =>
      π.nw (Obj.cells #[(.string (ByteArray.mk #[(120 : UInt8)]))] (9 : Nat) (0, 0)) fun r27 =>
      π.call 21 #[(.slice a24 n25 c26), (.slice (some (Addr.mk r27 0 none)) ((1 : Nat)) ((1 : Nat)))] (false, [(false, [.bool])]) fun (((b28 : Bool), _), _) =>
      π.ite (b28) (
       π.call 12 #[(.pointer (p13)), (.int .i64 2)] (false, [(false, [.slice])]) fun ((((a29 : Option Addr), (n30 : Nat), (c31 : Nat)), _), _) =>
       π.nw (Obj.cells #[(.string (ByteArray.mk #[(120 : UInt8)]))] (9 : Nat) (0, 0)) fun r32 =>
       π.call 21 #[(.slice a29 n30 c31), (.slice (some (Addr.mk r32 0 none)) ((1 : Nat)) ((1 : Nat)))] (false, [(false, [.bool])]) fun (((b33 : Bool), _), _) =>
       π.ret (.bool b33)
      ) (
       π.ret (.bool false)
      )
     ) (
      π.ret (.bool false)
     )
    ) (
     π.ret (.bool false)
    )
   ) (
    π.ret (.bool false)
   )
  ) (
   π.ret (.bool false)
  )
 )
def ann_lawake : Ann := { join := [(7, [(1, 23), (2, 51), (3, 4), (4, 37), (5, 4)])],  }
def la_lawake : LA := { ptr := [(4, 4, 0), (37, 4, 2)], ty := [(4, 37)] }
theorem eq_lawake {W : Type} (π : Prims W) : bodyE π Tryz.prog la_lawake ann_lawake 53 Tryz.f9 (bodyOf Tryz.f9) [] [] = vc_lawake π := by kernel_rfl
theorem ok_lawake (R : RT) (s : PH) (h : vc_lawake (RP Tryz.prog R) s) : DCalls Tryz.prog 9 (List.map AV.val []).toArray s R :=
 callsE (c := bodyOf Tryz.f9) la_lawake mo Tryz.func9 rfl (by kernel_rfl) Tryz.ntmps9 rfl (by kernel_rfl) (eq_lawake ..) h
def vc_lgreat {W : Type} (π : Prims W) (a : Option Addr) (an ac : Nat) : W :=
 π.loop [(false, [.int .i64]), (false, [.slice]), (false, [.int .i64]), (false, [.int .i64])] (((0 : Int), ()), ((a, an, ac), ()), ((↑an : Int), ()), ((0 : Int), ()), ()) fun (((x1 : Int), _), (((a2 : Option Addr), (n3 : Nat), (c4 : Nat)), _), ((x5 : Int), _), ((x6 : Int), _), _) again0 =>
  π.ite (decide (x6 < x5)) (
   π.guard (0 ≤ x6 ∧ x6 < (↑n3 : Int)) <|
   π.unSome (a2) fun p7 =>
   π.ld [.int .i64, .int .i64, .int .i64, .str] (p7.add (x6.toNat * 4)) fun ((x8 : Int), (x9 : Int), (x10 : Int), (t11 : ByteArray), _) =>
   π.ite (decide (i64.wrap (x1 + i64.wrap ((1 : Int) + (↑t11.size : Int))) > 8192)) (
    π.ret (.bool true)
   ) (
    again0 ((i64.wrap (x1 + i64.wrap ((1 : Int) + (↑t11.size : Int))), ()), ((a2, n3, c4), ()), (x5, ()), (i64.wrap (x6 + 1), ()), ())
   )
  ) (
   π.ret (.bool (decide ((↑an : Int) > 400)))
  )
def ann_lgreat : Ann := { loop := [(3, [(3, 3), (6, 22), (7, 3), (8, 3)])] }
def la_lgreat : LA := { ptr := [(5, 5, 0), (13, 5, 3)], ty := [(5, 30)] }
theorem eq_lgreat {W : Type} (π : Prims W) (a : Option Addr) (an ac : Nat) : bodyE π Tryz.prog la_lgreat ann_lgreat 24 Tryz.f10 (bodyOf Tryz.f10) [.v (.slice a an ac)] [] = vc_lgreat π a an ac := by kernel_rfl
theorem ok_lgreat (a : Option Addr) (an ac : Nat) (R : RT) (s : PH) (h : vc_lgreat (RP Tryz.prog R) a an ac s) : DCalls Tryz.prog 10 (List.map AV.val [.v (.slice a an ac)]).toArray s R :=
 callsE (c := bodyOf Tryz.f10) la_lgreat mo Tryz.func10 rfl (by kernel_rfl) Tryz.ntmps10 rfl (by kernel_rfl) (eq_lgreat ..) h
def vc_lbegun {W : Type} (π : Prims W) (size : Int) : W :=
 π.call 18 #[(.int .i64 (i64.wrap (i64.wrap ((u64.wrap size).tmod (5 : Int)) + 1)))] (true, [(false, [.ptr]), (false, [.int .i64])]) fun ((p0, _), ((x1 : Int), _), _) =>
 π.ite (x1 == 0) (
  π.ret (.tuple #[(.pointer (p0)), (.int .i64 (i64.wrap (i64.wrap ((u64.wrap size).tmod (5 : Int)) + 1))), (.bool (!p0.isNone))])
 ) (
  π.ret (.tuple #[(.pointer (p0)), (.int .i64 (i64.wrap (i64.wrap ((u64.wrap size).tmod (5 : Int)) + 1))), (.bool false)])
 )
def ann_lbegun : Ann := {}
def la_lbegun : LA := {}
theorem eq_lbegun {W : Type} (π : Prims W) (size : Int) : bodyE π Tryz.prog la_lbegun ann_lbegun 26 Tryz.f8 (bodyOf Tryz.f8) [.v (.int .i64 size)] [] = vc_lbegun π size := by kernel_rfl
theorem ok_lbegun (size : Int) (R : RT) (s : PH) (h : vc_lbegun (RP Tryz.prog R) size s) : DCalls Tryz.prog 8 (List.map AV.val [.v (.int .i64 size)]).toArray s R :=
 callsE (c := bodyOf Tryz.f8) la_lbegun mo Tryz.func8 rfl (by kernel_rfl) Tryz.ntmps8 rfl (by kernel_rfl) (eq_lbegun ..) h
end
section
attribute [-simp] Fw.W.ld_iff Fw.W.st_iff
def letE : Enc Msg where
 sz := 3
 f m := [.int .i64 m.from_, .int .i64 m.to, .string (encMB m)]
 len _ := rfl
 one p v hv := by simp at hv; rcases hv with rfl | rfl | rfl <;> rfl
 pos := by omega
abbrev letV (m : Msg) : Value := .agg #[.int .i64 m.from_, .int .i64 m.to, .string (encMB m)]
abbrev noLet : Value := .agg #[.int .i64 0, .int .i64 0, .string ⟨#[]⟩]
structure PostIs (s : PH) (p : Nat) (t : Tri) (bag : List Msg) : Prop where
 cell : s p = some (.cells #[.slice t.1 t.2.1 t.2.2] 104 (0, 0))
 row : rowE letE s 78 t.1 t.2.1 t.2.2 bag
theorem PostIs.mod {s s' : PH} {p : Nat} {t : Tri} {bag : List Msg} {L : List Nat} (h : PostIs s p t bag) (hm : Fw.Mod L s s') (hp : p ∉ L) (ht : ∀ x ∈ Fw.blk t.1, x ∉ L) : PostIs s' p t bag := ⟨hm.at h.cell hp, h.row.mod hm ht⟩
theorem PostIs.ne {s : PH} {p : Nat} {t : Tri} {bag : List Msg} (h : PostIs s p t bag) : p ∉ Fw.blk t.1 := row_ne2 h.row h.cell (by decide)
theorem c_pNew (s : PH) : DCalls Tryz.prog 36 #[] s fun y s' => ∃ p, y = .pointer (some ⟨p, 0, none⟩) ∧ PostIs s' p noTri [] ∧ Fw.Mod [] s s' ∧ s p = none := by
 refine ok_pNew _ s ?_
 unfold vc_pNew
 simp only [RP_nw]
 refine W.nw_of fun r s1 hr m1 k1 => ?_
 exact ⟨r, rfl, ⟨k1, rowE.nil⟩, m1, hr⟩
section
variable {s : PH} {p : Nat} {t : Tri} {bag : List Msg}
def SendQ (p : Nat) (t : Tri) (bag : List Msg) (s : PH) (y : Value) (s' : PH) : Prop := y = .tuple #[] ∧ ∃ t' : Tri, PostIs s' p t' bag ∧ Fw.Mod (p :: Fw.blk t.1) s s' ∧ ∀ x ∈ Fw.blk t'.1, x ∈ Fw.blk t.1 ∨ s x = none
theorem c_pSend (h : PostIs s p t bag) (m : Msg) (hl : bag.length ≤ 1073741824) : DCalls Tryz.prog 66 #[.pointer (some ⟨p, 0, none⟩), letV m] s (SendQ p t (bag ++ [m]) s) := by
 refine ok_pSend p m.from_ m.to (encMB m) _ s ?_
 unfold vc_pSend
 simp only [RP_ite, Option.isNone_some, Bool.not_false, W.br_true, RP_unSome, W.unSome_some, add_mk, Nat.zero_add, RP_ld]
 refine ld_blk (c := .slice) (x := t) h.cell rfl ?_
 simp only [RP_nw, RP_app]
 refine W.nw_of fun r s1 hr m1 k1 => ?_
 have hmax : maxLen = 9223372036854775807 := rfl
 have hn := h.row.len
 have hp1 := m1.at h.cell (by simp)
 have hpt := h.ne
 refine app_rowE (E := letE) (k := 1) (ys := [m]) (h.row.mod m1 (by simp)) rfl (src_has (E := letE) (has_block k1) rfl) rfl rfl (by show t.2.1 + 1 ≤ maxLen; omega) (by show (t.2.1 + 1) * 32 ≤ 140737488355328; omega) ?_
 intro a' c' s2 hrow hm
 have m2 : Fw.Mod (Fw.blk t.1) s1 s2 ∧ ∀ x ∈ Fw.blk a', x ∈ Fw.blk t.1 ∨ s1 x = none := by
  rcases hm with ⟨rfl, hm⟩ | ⟨g, rfl, hg, hm⟩
  ·exact ⟨hm, fun x hx => .inl hx⟩
  ·exact ⟨hm.mono (by simp), by intro x hx; simp [Fw.blk] at hx; subst hx; exact .inr hg⟩
 obtain ⟨m2, hf2⟩ := m2
 have hp2 := m2.at hp1 hpt
 simp only [W.unSome_some, add_mk, Nat.zero_add, RP_st]
 refine st_blk (v := .slice t.1 t.2.1 t.2.2) hp2 rfl rfl ?_
 have hpa : p ∉ Fw.blk a' := fun hx => (hf2 p hx).elim hpt (by rw [hp1]; simp)
 refine ⟨rfl, (a', t.2.1 + 1, c'), ⟨PH.upd_same _ _ _, ?_⟩, ?_, fun x hx => ?_⟩
 ·exact hrow.mod (Mod.upd (L := [p]) (by simp)) (by intro x hx; simp; rintro rfl; exact hpa hx)
 ·refine Mod.updLater ?_ (.inl (by simp))
  exact (m1.mono (by simp) : Fw.Mod (p :: Fw.blk t.1) s s1).trans (m2.mono (by simp; intro x hx; exact .inr hx))
 ·exact (hf2 x hx).imp_right fun h' => m1.none h' (by simp)
theorem c_pLen (h : PostIs s p t bag) : DCalls Tryz.prog 39 #[.pointer (some ⟨p, 0, none⟩)] s fun y s' => y = .int .i64 (bag.length : Int) ∧ s' = s := by
 refine ok_pLen p _ s ?_
 unfold vc_pLen
 simp only [RP_ite, Option.isNone_some, W.br_false, RP_unSome, W.unSome_some, add_mk, Nat.zero_add, RP_ld]
 refine ld_blk (c := .slice) (x := t) h.cell rfl ?_
 exact ⟨by rw [← h.row.len], rfl⟩
def At (bag : List Msg) (i : Int) : Prop := i = -1 ∧ bag = [] ∨ 0 ≤ i ∧ i.toNat < bag.length
def optLet : Option Msg → Value
 | some m => letV m
 | none => noLet
theorem c_pCopy (h : PostIs s p t bag) {i : Int} (hi : At bag i) : DCalls Tryz.prog 43 #[.pointer (some ⟨p, 0, none⟩), .int .i64 i] s fun y s' => y = .tuple #[optLet bag[i.toNat]?, .bool bag[i.toNat]?.isSome] ∧ s' = s := by
 refine ok_pCopy p i _ s ?_
 unfold vc_pCopy
 simp only [RP_ite, W.br_iff, decide_eq_true_eq, decide_eq_false_iff_not, RP_call]
 refine ⟨fun hn => ?_, fun hn => ?_⟩
 ·rcases hi with ⟨rfl, rfl⟩ | ⟨h0, _⟩
  ·exact ⟨rfl, rfl⟩
  ·omega
 ·rcases hi with ⟨rfl, rfl⟩ | ⟨h0, h1⟩
  ·omega
  refine W.call_of (c_pLen h) ?_
  rintro _ s ⟨rfl, rfl⟩
  refine ⟨((bag.length, ()), ()), rfl, ?_⟩
  have hlt : ¬ (i ≥ (bag.length : Int)) := by omega
  simp only [decide_eq_false hlt, W.br_false, RP_unSome, W.unSome_some, add_mk, Nat.zero_add, RP_ld]
  refine ld_blk (c := .slice) (x := t) h.cell rfl ?_
  obtain ⟨m, hm⟩ : ∃ m, bag[i.toNat]? = some m := ⟨_, List.getElem?_eq_getElem h1⟩
  obtain ⟨q, hq, hh⟩ := h.row.at hm
  have hn := h.row.len
  simp only [RP_guard, W.guard_iff, hq, W.unSome_some, add_mk, Nat.zero_add]
  refine ⟨⟨h0, by show i < (t.2.1 : Int); omega⟩, (m.from_, m.to, encMB m, ()), hh, ?_⟩
  rw [hm]
  exact ⟨rfl, rfl⟩
theorem setL_take : ∀ (l : List Value) (cc : Array Value) (i : Nat), i + l.length ≤ cc.size → (setL cc i l).toList.take (i + l.length) = cc.toList.take i ++ l
 | [], cc, i, _ => by simp [setL]
 | x :: l, cc, i, hi => by
  simp only [List.length_cons] at hi ⊢
  have := setL_take l (cc.setIfInBounds i x) (i + 1) (by simp; omega)
  simp only [setL]
  rw [show i + (l.length + 1) = i + 1 + l.length by omega, this]
  have hlt : i < cc.size := by omega
  rw [Array.toList_setIfInBounds, List.take_add_one, List.getElem?_set_self (by simpa using hlt), List.take_set_of_le (Nat.le_refl _)]
  simp
def TakeQ (p : Nat) (t : Tri) (bag : List Msg) (i : Int) (s : PH) (y : Value) (s' : PH) : Prop := y = .tuple #[optLet bag[i.toNat]?, .bool bag[i.toNat]?.isSome] ∧ ∃ t' : Tri, PostIs s' p t' (bag.eraseIdx i.toNat) ∧ Fw.Mod (p :: Fw.blk t.1) s s' ∧ ∀ x ∈ Fw.blk t'.1, x ∈ Fw.blk t.1
theorem c_pTake (h : PostIs s p t bag) {i : Int} (hi : At bag i) (hl : bag.length ≤ 1073741824) : DCalls Tryz.prog 41 #[.pointer (some ⟨p, 0, none⟩), .int .i64 i] s (TakeQ p t bag i s) := by
 refine ok_pTake p i _ s ?_
 unfold vc_pTake
 simp only [RP_call]
 refine W.call_of (c_pCopy h hi) ?_
 rintro _ s ⟨rfl, rfl⟩
 rcases hi with ⟨rfl, rfl⟩ | ⟨h0, h1⟩
 ·refine ⟨((0, 0, ⟨#[]⟩, ()), (false, ()), ()), rfl, ?_⟩
  simp only [RP_ite, W.br_false]
  exact ⟨rfl, t, h, Mod.refl _ _, fun x hx => hx⟩
 obtain ⟨m, hm⟩ : ∃ m, bag[i.toNat]? = some m := ⟨_, List.getElem?_eq_getElem h1⟩
 rw [hm]
 refine ⟨((m.from_, m.to, encMB m, ()), (true, ()), ()), rfl, ?_⟩
 obtain ⟨q, hq, _⟩ := h.row.at hm
 have hn := h.row.len
 have hle := h.row.le
 obtain ⟨k, rfl⟩ : ∃ k : Nat, i = (k : Int) := ⟨i.toNat, by omega⟩
 simp only [Int.toNat_natCast] at h1 hm
 obtain ⟨ta, tn, tc⟩ := t
 simp only at hq hn hle
 subst hq
 have hpc := h.cell
 simp only at hpc
 obtain ⟨r1, r2, r3, r4 | ⟨q', cur, r4, hqc, hsz, htake⟩⟩ := h.row
 ·cases r4.1
 cases r4
 simp only at hqc hsz htake r1 r2 r3
 have hpq : p ≠ q := fun e => h.ne (by rw [e]; simp [Fw.blk])
 simp only [RP_ite, W.br_true, RP_unSome, W.unSome_some, add_mk, Nat.zero_add, RP_ld]
 refine ld_blk (c := .slice) (x := (some ⟨q, 0, none⟩, tn, tc)) hpc rfl ?_
 simp only [RP_guard, W.guard_iff, Int.toNat_natCast, W.unSome_some, add_mk, Nat.zero_add]
 refine ⟨⟨by omega, by omega, by omega⟩, ?_⟩
 refine ld_blk (c := .slice) (x := (some ⟨q, 0, none⟩, tn, tc)) hpc rfl ?_
 have hw : i64.wrap ((k : Int) + 1) = ((k + 1 : Nat) : Int) := wrap_succ (by omega)
 simp only [hw, Int.toNat_natCast]
 refine ⟨⟨by omega, by omega, by omega⟩, ?_⟩
 have hck : tc ≠ k := by omega
 rw [if_neg hck]
 have hmin : Nat.min (tn - (k + 1)) (tn - k) = tn - (k + 1) := Nat.min_eq_left (by omega)
 have hsrc := h.row.src (i := k + 1) (m := tn - (k + 1)) (by show k + 1 + (tn - (k + 1)) ≤ tn; omega)
 have hnews : (bag.drop (k + 1)).take (tn - (k + 1)) = bag.drop (k + 1) := List.take_of_length_le (by rw [List.length_drop, hn]; exact Nat.le_refl _)
 rw [hnews] at hsrc
 have hnl : ((bag.drop (k + 1)).flatMap letE.f).length = (tn - (k + 1)) * 3 := by
  rw [flat_len, List.length_drop, hn]; (first | done | rfl)
 have er : bag.eraseIdx k = bag.take k ++ bag.drop (k + 1) := List.eraseIdx_eq_take_drop_succ bag k
 -- what is there afterwards
 have key : ∀ cur', cur'.size = cur.size → cur'.toList.take ((tn - 1) * 3) = (bag.eraseIdx k).flatMap letE.f → ∀ s1, s1 p = s p → s1 q = some (.cells cur' 78 (0, 0)) → Fw.Mod [q] s s1 →
   TakeQ p (some ⟨q, 0, none⟩, tn, tc) bag (k : Int) s (.tuple #[optLet (some m), .bool true]) (s1.upd p (.cells #[.slice (some ⟨q, 0, none⟩) (tn - 1) tc] 104 (0, 0))) := by
  intro cur' hcs hct s1 hp1 hq1 m1
  have hlen : (bag.eraseIdx k).length = tn - 1 := by rw [List.length_eraseIdx_of_lt h1]; omega
  refine ⟨by rw [Int.toNat_natCast, hm]; (first | done | rfl), (some ⟨q, 0, none⟩, tn - 1, tc), ⟨PH.upd_same _ _ _, ?_, ?_, ?_, .inr ⟨q, cur', rfl, ?_, ?_, ?_⟩⟩, ?_, fun x hx => hx⟩
  ·rw [Int.toNat_natCast, flat_len, hlen]
  ·show tn - 1 ≤ tc; omega
  ·exact r3
  ·rw [PH.upd_other _ _ hpq.symm]; exact hq1
  ·rw [hcs]; exact hsz
  ·rw [Int.toNat_natCast]; exact hct
  ·exact Mod.updLater (m1.mono (by simp [Fw.blk])) (.inl (by simp))
 simp only [RP_cpy]
 refine ⟨(bag.drop (k + 1)).flatMap letE.f, by rw [hmin]; exact hsrc, flat_one _, ?_⟩
 rw [hmin]
 show W.cpyK _ _ _ _ (Option.map (fun x => Addr.add x (k * 3)) (some ⟨q, 0, none⟩))
 simp only [Option.map_some, add_mk, Nat.zero_add, W.cpyK]
 have hbsz : k * 3 + (tn - (k + 1)) * 3 ≤ cur.size := by
  have : tc * 3 ≤ cur.size := hsz
  omega
 refine ⟨?_, ?_⟩
 ·by_cases hz : 0 < ((bag.drop (k + 1)).flatMap letE.f).length
  ·exact (open_iff hqc hz).2 ⟨rfl, by rw [hnl]; exact hbsz, .inl (Nat.zero_le _)⟩
  ·intro j hj; omega
 have hfin : ∀ s1 : PH, s1 p = s p → (∀ R : Value → PH → Prop, R (.tuple #[letV m, .bool true]) (s1.upd p (.cells #[.slice (some ⟨q, 0, none⟩) (tn - 1) tc] 104 (0, 0))) →
   W.unSome (some ⟨p, 0, none⟩) (fun p13 => W.ld [.slice] (p13.add 0) fun x => W.unSome (some ⟨p, 0, none⟩) fun p17 => W.ld [.slice] (p17.add 0) fun y => W.guard ((0 : Int) ≤ 0 ∧ 0 ≤ i64.wrap ((y.1.2.1 : Int) - 1) ∧ i64.wrap ((y.1.2.1 : Int) - 1) ≤ (x.1.2.2 : Int)) <|
    W.unSome (some ⟨p, 0, none⟩) fun p21 => W.st (p21.add 0) [.slice (if x.1.2.2 = 0 then x.1.1 else Option.map (fun z => z.add 0) x.1.1) ((i64.wrap ((y.1.2.1 : Int) - 1)).toNat - 0) (x.1.2.2 - 0)] <| W.ret R (.tuple #[letV m, .bool true])) s1) := by
  intro s1 hs1 R hR
  have hp1 : s1 p = some (.cells #[.slice (some ⟨q, 0, none⟩) tn tc] 104 (0, 0)) := by rw [hs1]; exact hpc
  simp only [W.unSome_some, add_mk, Nat.zero_add]
  refine ld_blk (c := .slice) (x := (some ⟨q, 0, none⟩, tn, tc)) hp1 rfl ?_
  simp only [W.unSome_some, add_mk, Nat.zero_add]
  refine ld_blk (c := .slice) (x := (some ⟨q, 0, none⟩, tn, tc)) hp1 rfl ?_
  have hw1 : i64.wrap ((tn : Int) - 1) = ((tn - 1 : Nat) : Int) := by rw [wrap_in (by omega) (by omega)]; omega
  simp only [hw1, W.guard_iff, Int.toNat_natCast, Nat.sub_zero, W.unSome_some, add_mk, Nat.zero_add]
  refine ⟨⟨by omega, by omega, by omega⟩, ?_⟩
  refine st_blk (v := .slice (some ⟨q, 0, none⟩) tn tc) hp1 rfl rfl ?_
  have hif : (if tc = 0 then (some ⟨q, 0, none⟩ : Option Addr) else Option.map (fun (z : Addr) => z.add 0) (some ⟨q, 0, none⟩)) = some ⟨q, 0, none⟩ := by
   split
   ·rfl
   ·simp
  rw [hif]
  exact hR
 cases hne : (bag.drop (k + 1)).flatMap letE.f with
 | nil =>
  refine hfin _ rfl _ ?_
  have htn : tn = k + 1 := by rw [hne] at hnl; simp at hnl; omega
  refine key cur rfl ?_ s rfl hqc (Mod.refl _ _)
  have : cur.toList.take ((tn - 1) * 3) = ((cur.toList.take (tn * letE.sz)).take (k * letE.sz)) := by
   rw [List.take_take]; congr 1; show (tn - 1) * 3 = min (k * 3) (tn * 3); omega
  rw [this, htake, flat_take, er, List.flatMap_append, hne, List.append_nil]
 | cons v vs =>
  rw [PH.stores_eq (e := 78) (f := (0, 0)) rfl (v :: vs) 0 cur s hqc (by simp)]
  refine hfin _ (PH.upd_other _ _ hpq) _ ?_
  rw [← hne]
  refine key (setL cur (k * 3) ((bag.drop (k + 1)).flatMap letE.f)) (setL_size _ _ _) ?_ _ (PH.upd_other _ _ hpq) (PH.upd_same _ _ _) (Mod.upd (by simp))
  have h2 := setL_take ((bag.drop (k + 1)).flatMap letE.f) cur (k * 3) (by rw [hnl]; exact hbsz)
  rw [hnl] at h2
  rw [show (tn - 1) * 3 = k * 3 + (tn - (k + 1)) * 3 by omega, h2, er, List.flatMap_append]
  congr 1
  have : cur.toList.take (k * 3) = ((cur.toList.take (tn * letE.sz)).take (k * letE.sz)) := by
   rw [List.take_take]; congr 1; show k * 3 = min (k * 3) (tn * 3); omega
  rw [this, htake, flat_take]
theorem c_pLose (h : PostIs s p t bag) {i : Int} (hi : At bag i) (hl : bag.length ≤ 1073741824) : DCalls Tryz.prog 44 #[.pointer (some ⟨p, 0, none⟩), .int .i64 i] s fun y s' => ∃ b, y = .bool b ∧ TakeQ p t bag i s (.tuple #[optLet bag[i.toNat]?, .bool bag[i.toNat]?.isSome]) s' := by
 refine ok_pLose p i _ s ?_
 unfold vc_pLose
 simp only [RP_call]
 refine W.call_of (c_pTake h hi hl) ?_
 rintro y s1 ⟨rfl, h1⟩
 cases hm : bag[i.toNat]? with
 | none => exact ⟨((0, 0, ⟨#[]⟩, ()), (false, ()), ()), rfl, _, rfl, by rw [hm], h1⟩
 | some m => exact ⟨((m.from_, m.to, encMB m, ()), (true, ()), ()), rfl, _, rfl, by rw [hm], h1⟩
end
end
section
attribute [-simp] Fw.W.ld_iff Fw.W.st_iff
structure Mem where
 bp : Option Nat
 l : Tri
 v : Tri
 n : Tri
 m : Tri
 d : Nat
 dm : Nat
 xp : Option Addr
def memE : Enc Mem where
 sz := 3
 f q := [.pointer (q.bp.map fun b => ⟨b, 0, none⟩), .pointer (some ⟨q.d, 0, none⟩), .pointer q.xp]
 len _ := rfl
 one p v hv := by simp at hv; rcases hv with rfl | rfl | rfl <;> rfl
 pos := by omega
def Mem.F (q : Mem) : List Nat := match q.bp with
 | some b => bL b q.l q.v q.n q.m ++ (Fw.blk q.xp ++ [q.d, q.dm])
 | none => [q.d, q.dm]
structure NdIs (s : PH) (q : Mem) (N : Nd) : Prop where
 drive : DriveIs s q.d q.dm N.d
 down : N.b = none → q.bp = none
 up : ∀ B, N.b = some B → ∃ b x, q.bp = some b ∧ Bal s b q.l q.v q.n q.m B ∧ q.xp = some ⟨x, 0, none⟩ ∧ DiaryIs s x q.d LOG
def Oth (s : PH) (x : Nat) : Prop := ∀ c e f, s x = some (.cells c e f) → e ≠ 61 ∧ e ≠ 74 ∧ e ≠ 104 ∧ e ≠ 78
theorem oth_of {s : PH} {x : Nat} {c : Array Value} {e : TypeId} {f : Nat × Nat} (h : s x = some (.cells c e f)) (he : e ≠ 61 ∧ e ≠ 74 ∧ e ≠ 104 ∧ e ≠ 78) : Oth s x := by
 intro c' e' f' h'; rw [h] at h'; cases h'; exact he
theorem oth_row {α : Type} {E : Enc α} {s : PH} {e : TypeId} {a : Option Addr} {n c : Nat} {xs : List α} (h : rowE E s e a n c xs) (he : e ≠ 61 ∧ e ≠ 74 ∧ e ≠ 104 ∧ e ≠ 78) : ∀ x ∈ Fw.blk a, Oth s x := by
 intro x hx
 rcases h.shape with ⟨rfl, _⟩ | ⟨g', rfl⟩
 ·simp [Fw.blk] at hx
 ·simp [Fw.blk] at hx; subst hx
  obtain ⟨cur, hc⟩ := h.ty rfl
  exact oth_of hc he
theorem NdIs.known {s : PH} {q : Mem} {N : Nd} (h : NdIs s q N) : ∀ x ∈ q.F, s x ≠ none := by
 intro x hx
 unfold Mem.F at hx
 cases hb : N.b with
 | none =>
  rw [h.down hb] at hx
  simp only [List.mem_cons, List.not_mem_nil, or_false] at hx
  rcases hx with rfl | rfl
  ·exact h.drive.known.1
  ·exact h.drive.known.2
 | some B =>
  obtain ⟨b, y, h1, h2, h3, h4⟩ := h.up B hb
  rw [h1] at hx
  simp only [h3, Fw.blk, List.mem_append, List.mem_cons, List.not_mem_nil, or_false] at hx
  rcases hx with hx | rfl | rfl | rfl
  ·exact h2.known x hx
  ·unfold DiaryIs at h4; rw [h4]; simp
  ·exact h.drive.known.1
  ·exact h.drive.known.2
theorem NdIs.oth {s : PH} {q : Mem} {N : Nd} (h : NdIs s q N) : ∀ x ∈ q.F, Oth s x := by
 have hd : Oth s q.d := oth_of h.drive.blk (by decide)
 have hm : Oth s q.dm := by
  obtain ⟨es, c, h1, _⟩ := h.drive.map
  intro c' e' f' h'; rw [h1] at h'; cases h'
 intro x hx
 unfold Mem.F at hx
 cases hb : N.b with
 | none =>
  rw [h.down hb] at hx
  simp only [List.mem_cons, List.not_mem_nil, or_false] at hx
  rcases hx with rfl | rfl
  ·exact hd
  ·exact hm
 | some B =>
  obtain ⟨b, y, h1, h2, h3, h4⟩ := h.up B hb
  rw [h1] at hx
  simp only [h3, Fw.blk, bL, List.mem_append, List.mem_cons, List.not_mem_nil, or_false] at hx
  rcases hx with (rfl | hx | hx | hx | hx) | rfl | rfl | rfl
  ·exact oth_of h2.cell (by decide)
  ·exact oth_row h2.log (by decide) x hx
  ·exact oth_row h2.votes (by decide) x hx
  ·exact oth_row h2.next (by decide) x hx
  ·exact oth_row h2.mat (by decide) x hx
  ·exact oth_of h4 (by decide)
  ·exact hd
  ·exact hm
theorem NdIs.mod {s s' : PH} {q : Mem} {N : Nd} {L : List Nat} (h : NdIs s q N) (hm : Fw.Mod L s s') (hd : ∀ x ∈ q.F, x ∉ L) : NdIs s' q N := by
 have hdd : q.d ∈ q.F := by unfold Mem.F; split <;> simp
 have hdm : q.dm ∈ q.F := by unfold Mem.F; split <;> simp
 refine ⟨⟨hm.at h.drive.blk (hd _ hdd), h.drive.map.mod hm (hd _ hdm)⟩, h.down, fun B hB => ?_⟩
 obtain ⟨b, y, h1, h2, h3, h4⟩ := h.up B hB
 refine ⟨b, y, h1, h2.mod hm fun x hx => hd x (by unfold Mem.F; rw [h1]; simp [hx]), h3, hm.at h4 (hd y (by unfold Mem.F; rw [h1, h3]; simp [Fw.blk]))⟩
structure GrpIs (s : PH) (g na p : Nat) (ms : List Mem) (t : Tri) (G : Grp) : Prop where
 cell : s g = some (.cells #[.slice (some ⟨na, 0, none⟩) ms.length ms.length, .pointer (some ⟨p, 0, none⟩), .int .i64 G.acts] 61 (0, 0))
 arr : s na = some (.cells (ms.flatMap memE.f).toArray 74 (0, 0))
 post : PostIs s p t G.bag
 len : ms.length = G.nodes.length
 few : ms.length ≤ 5
 nds : ∀ (i : Nat) q N, ms[i]? = some q → G.nodes[i]? = some N → NdIs s q N
 apart : ∀ (i j : Nat) q r, ms[i]? = some q → ms[j]? = some r → i ≠ j → ∀ x ∈ q.F, x ∉ r.F
def GF (g na p : Nat) (ms : List Mem) (t : Tri) : List Nat := g :: na :: p :: (Fw.blk t.1 ++ ms.flatMap Mem.F)
section
variable {s s' : PH} {g na p : Nat} {ms : List Mem} {t : Tri} {G : Grp}
theorem GrpIs.node (h : GrpIs s g na p ms t G) {i : Nat} {q : Mem} (hq : ms[i]? = some q) : ∃ N, G.nodes[i]? = some N := by
 have := (List.getElem?_eq_some_iff.1 hq).1
 exact ⟨_, List.getElem?_eq_getElem (by rw [← h.len]; exact this)⟩
theorem GrpIs.mem (h : GrpIs s g na p ms t G) {i : Nat} {N : Nd} (hN : G.nodes[i]? = some N) : ∃ q, ms[i]? = some q := by
 have := (List.getElem?_eq_some_iff.1 hN).1
 exact ⟨_, List.getElem?_eq_getElem (by rw [h.len]; exact this)⟩
theorem GrpIs.oth (h : GrpIs s g na p ms t G) : ∀ q ∈ ms, ∀ x ∈ q.F, x ≠ g ∧ x ≠ na ∧ x ≠ p ∧ x ∉ Fw.blk t.1 := by
 intro q hq x hx
 obtain ⟨i, hi⟩ := List.mem_iff_getElem?.1 hq
 obtain ⟨N, hN⟩ := h.node hi
 have ho := (h.nds i q N hi hN).oth x hx
 refine ⟨?_, ?_, ?_, ?_⟩
 ·rintro rfl; exact (ho _ _ _ h.cell).1 rfl
 ·rintro rfl; exact (ho _ _ _ h.arr).2.1 rfl
 ·rintro rfl; exact (ho _ _ _ h.post.cell).2.2.1 rfl
 ·intro hxt
  rcases h.post.row.shape with ⟨e, _⟩ | ⟨g', e⟩
  ·rw [e] at hxt; simp [Fw.blk] at hxt
  ·obtain ⟨cur, hc⟩ := h.post.row.ty e
   rw [e] at hxt; simp [Fw.blk] at hxt; subst hxt
   exact (ho _ _ _ hc).2.2.2 rfl
theorem GrpIs.known (h : GrpIs s g na p ms t G) : ∀ x ∈ GF g na p ms t, s x ≠ none := by
 intro x hx
 simp only [GF, List.mem_cons, List.mem_append, List.mem_flatMap] at hx
 rcases hx with rfl | rfl | rfl | hx | ⟨q, hq, hx⟩
 ·rw [h.cell]; simp
 ·rw [h.arr]; simp
 ·rw [h.post.cell]; simp
 ·exact h.post.row.known x hx
 ·obtain ⟨i, hi⟩ := List.mem_iff_getElem?.1 hq
  obtain ⟨N, hN⟩ := h.node hi
  exact (h.nds i q N hi hN).known x hx
theorem GrpIs.ne (h : GrpIs s g na p ms t G) : g ≠ na ∧ g ≠ p ∧ na ≠ p ∧ g ∉ Fw.blk t.1 ∧ na ∉ Fw.blk t.1 ∧ p ∉ Fw.blk t.1 := by
 refine ⟨?_, ?_, ?_, row_ne2 h.post.row h.cell (by decide), row_ne2 h.post.row h.arr (by decide), row_ne2 h.post.row h.post.cell (by decide)⟩
 ·rintro rfl; have h1 := h.cell; rw [h.arr] at h1; exact absurd (Obj.cells.inj (Option.some.inj h1)).2.1 (by decide)
 ·rintro rfl; have h1 := h.cell; rw [h.post.cell] at h1; exact absurd (Obj.cells.inj (Option.some.inj h1)).2.1 (by decide)
 ·rintro rfl; have h1 := h.arr; rw [h.post.cell] at h1; exact absurd (Obj.cells.inj (Option.some.inj h1)).2.1 (by decide)
theorem GrpIs.mod {L : List Nat} (h : GrpIs s g na p ms t G) (hm : Fw.Mod L s s') (hd : ∀ x ∈ GF g na p ms t, x ∉ L) : GrpIs s' g na p ms t G := by
 simp only [GF, List.mem_cons, List.mem_append, List.mem_flatMap] at hd
 refine ⟨hm.at h.cell (hd g (.inl rfl)), hm.at h.arr (hd na (.inr (.inl rfl))), h.post.mod hm (hd p (.inr (.inr (.inl rfl)))) fun x hx => hd x (.inr (.inr (.inr (.inl hx)))), h.len, h.few, fun i q N hq hN => ?_, h.apart⟩
 exact (h.nds i q N hq hN).mod hm fun x hx => hd x (.inr (.inr (.inr (.inr ⟨q, List.mem_of_getElem? hq, hx⟩))))
theorem GrpIs.new (h : GrpIs s g na p ms t G) (hm : Fw.Mod [] s s') : GrpIs s' g na p ms t G := h.mod hm (by simp)
theorem GF_mem {i : Nat} {q : Mem} (hq : ms[i]? = some q) {x : Nat} (hx : x ∈ q.F) : x ∈ GF g na p ms t := by
 simp only [GF, List.mem_cons, List.mem_append, List.mem_flatMap]
 exact .inr (.inr (.inr (.inr ⟨q, List.mem_of_getElem? hq, hx⟩)))
theorem GrpIs.upd (h : GrpIs s g na p ms t G) {i : Nat} {q q' : Mem} {N N' : Nd} (hq : ms[i]? = some q) (hN : G.nodes[i]? = some N) (hm : Fw.Mod (na :: q.F) s s') (ha : s' na = some (.cells ((ms.set i q').flatMap memE.f).toArray 74 (0, 0)))
  (hn : NdIs s' q' N') (hf : ∀ x ∈ q'.F, x ∈ q.F ∨ s x = none) : GrpIs s' g na p (ms.set i q') t { G with nodes := G.nodes.set i N' } ∧ Step (GF g na p ms t) (GF g na p (ms.set i q') t) s s' := by
 have hi := (List.getElem?_eq_some_iff.1 hq).1
 have ho := h.oth q (List.mem_of_getElem? hq)
 have hne := h.ne
 have hgm : g ∉ na :: q.F := by simp; exact ⟨hne.1, fun hx => (ho g hx).1 rfl⟩
 have hpm : p ∉ na :: q.F := by simp; exact ⟨fun e => hne.2.2.1 e.symm, fun hx => (ho p hx).2.2.1 rfl⟩
 have htm : ∀ x ∈ Fw.blk t.1, x ∉ na :: q.F := by
  intro x hx; simp
  exact ⟨by rintro rfl; exact hne.2.2.2.2.1 hx, fun hxq => (ho x hxq).2.2.2 hx⟩
 refine ⟨⟨by rw [List.length_set]; exact hm.at h.cell hgm, ha, h.post.mod hm hpm htm, by simp [h.len], by rw [List.length_set]; exact h.few, fun j r M hr hM => ?_, fun j k r u hr hu hjk x hx => ?_⟩, ⟨?_, ?_⟩⟩
 ·by_cases hij : i = j
  ·subst hij
   rw [List.getElem?_set_self hi] at hr
   have hM : (G.nodes.set i N')[i]? = some M := hM
   rw [List.getElem?_set_self (by rw [← h.len]; exact hi)] at hM
   cases hr; cases hM; exact hn
  ·rw [List.getElem?_set_ne hij] at hr
   have hM : (G.nodes.set i N')[j]? = some M := hM
   rw [List.getElem?_set_ne hij] at hM
   refine (h.nds j r M hr hM).mod hm fun x hx => ?_
   simp
   exact ⟨(h.oth r (List.mem_of_getElem? hr) x hx).2.1, fun hxq => h.apart i j q r hq hr hij x hxq hx⟩
 ·have hknown : ∀ (j : Nat) (r : Mem), ms[j]? = some r → ∀ x ∈ r.F, s x ≠ none := fun j r hr x hx => h.known x (GF_mem hr hx)
  by_cases hij : i = j
  ·subst hij
   rw [List.getElem?_set_self hi] at hr
   cases hr
   rw [List.getElem?_set_ne hjk] at hu
   intro hxu
   rcases hf x hx with h1 | h1
   ·exact h.apart i k q u hq hu hjk x h1 hxu
   ·exact hknown k u hu x hxu h1
  ·rw [List.getElem?_set_ne hij] at hr
   by_cases hik : i = k
   ·subst hik
    rw [List.getElem?_set_self hi] at hu
    cases hu
    intro hxu
    rcases hf x hxu with h1 | h1
    ·exact h.apart i j q r hq hr hij x h1 hx
    ·exact hknown j r hr x hx h1
   ·rw [List.getElem?_set_ne hik] at hu
    exact h.apart j k r u hr hu hjk x hx
 ·refine hm.mono fun x hx => ?_
  rcases List.mem_cons.1 hx with rfl | hx
  ·simp [GF]
  ·exact GF_mem hq hx
 ·intro x hx
  simp only [GF, List.mem_cons, List.mem_append, List.mem_flatMap] at hx
  rcases hx with rfl | rfl | rfl | hx | ⟨r, hr, hx⟩
  ·exact .inl (by simp [GF])
  ·exact .inl (by simp [GF])
  ·exact .inl (by simp [GF])
  ·exact .inl (by simp [GF, hx])
  ·rcases List.mem_or_eq_of_mem_set hr with hr | rfl
   ·obtain ⟨j, hj⟩ := List.mem_iff_getElem?.1 hr
    exact .inl (GF_mem hj hx)
   ·exact (hf x hx).imp_left fun h1 => GF_mem hq h1
theorem flat_set_same {i : Nat} {q q' : Mem} (hq : ms[i]? = some q) (he : memE.f q' = memE.f q) : (ms.set i q').flatMap memE.f = ms.flatMap memE.f := by
 induction ms generalizing i with
 | nil => rfl
 | cons r ms ih =>
  cases i with
  | zero => simp at hq; subst hq; simp [he]
  | succ i => simp only [List.set_cons_succ, List.flatMap_cons]; rw [ih (by simpa using hq)]
theorem mem_get {i k : Nat} {q : Mem} (hq : ms[i]? = some q) {v : Value} (hk : k < 3) (hv : (memE.f q)[k]? = some v) : ((ms.flatMap memE.f).toArray)[i * 3 + k]? = some v := by
 obtain ⟨l, r, e, hl, _, _⟩ := flat_at (E := memE) hq
 have hl : l.length = i * 3 := hl
 have h3 : (memE.f q).length = 3 := rfl
 rw [List.getElem?_toArray, e, List.append_assoc, List.getElem?_append_right (by omega), hl, Nat.add_sub_cancel_left, List.getElem?_append_left (by omega)]
 exact hv
theorem mem_set {i k : Nat} {q q' : Mem} (hq : ms[i]? = some q) {v : Value} (he : memE.f q' = (memE.f q).set k v) (hk : k < 3) : (ms.flatMap memE.f).toArray.setIfInBounds (i * 3 + k) v = ((ms.set i q').flatMap memE.f).toArray := by
 rw [List.setIfInBounds_toArray]
 congr 1
 induction ms generalizing i with
 | nil => simp at hq
 | cons r ms ih =>
  have h3 : (memE.f r).length = 3 := rfl
  cases i with
  | zero =>
   simp at hq; subst hq
   simp only [List.set_cons_zero, List.flatMap_cons, he, Nat.zero_mul, Nat.zero_add]
   rw [List.set_append_left _ _ (by omega)]
  | succ i =>
   simp only [List.set_cons_succ, List.flatMap_cons]
   rw [List.set_append_right _ _ (by omega), ← ih (by simpa using hq)]
   congr 2
   omega
end
theorem callV_bound {P : Program} {g : FuncId} {bnd args : Array Value} {r : Bool × List Shape} {k : MDen r.2 → W.T} {s : PH} {fn : Func} (hfn : P.funcs[g]? = some fn) (hb : fn.body.isSome = true) (hn : (fn.name == "runtime.NumGoroutine") = false) {Q : Value → PH → Prop}
  (h : DCalls P g (bnd ++ args) s Q) (hk : ∀ v s', Q v s' → ∃ x, mkRes r x = v ∧ k x s') : W.callV P (.func (.func g) bnd #[]) args r k s := by
 refine ⟨g, bnd, #[], rfl, ⟨fn, hfn, hb, hn⟩, ?_⟩
 have : bnd ++ args ++ #[] = bnd ++ args := by simp
 rw [this]; exact h.mono hk
end
section
attribute [-simp] Fw.W.ld_iff Fw.W.st_iff
structure BS.Fit (B : BS) : Prop where
 run : B.Run
 fr : B.Fr
 term : Num B.term
 vote : I64 B.vote
 bt : I64 B.baseTerm
 ents : ∀ e ∈ B.log, e.I ∧ e.text.size ≤ 65536
 len : B.log.length ≤ 1000000
 snap : B.snap.size ≤ 1073741824
structure Msg.Fit (M : Msg) : Prop where
 I : M.I
 ents : ∀ e ∈ M.list, e.text.size ≤ 65536
 len : M.list.length ≤ 1000000
 snap : M.snap.size ≤ 1073741824
theorem encE_len (e : Ent) : (encE e).length ≤ 40 + e.text.size := by
 unfold encE encT
 have h1 := encN_len e.term
 have h2 := encN_len e.at_
 have h3 := encN_len e.born
 have h4 := encN_len (e.text.size : Int)
 simp only [List.flatMap_cons, List.flatMap_nil, List.length_append, List.length_nil, toL_len]
 omega
theorem encL_len {l : List Ent} (h : ∀ e ∈ l, e.text.size ≤ 65536) : (encL l).length ≤ 10 + l.length * 65576 := by
 unfold encL
 have h1 := encN_len (l.length : Int)
 have : (l.flatMap encE).length ≤ l.length * 65576 := by
  clear h1
  induction l with
  | nil => simp
  | cons e l ih =>
   have h2 := encE_len e
   have h3 := h e (by simp)
   have h4 := ih (fun x hx => h x (by simp [hx]))
   simp only [List.flatMap_cons, List.length_append, List.length_cons]
   omega
 rw [List.length_append]; omega
theorem encB_len (b : Bool) : (encB b).length ≤ 10 := encN_len _
theorem encT_len (t : ByteArray) : (encT t).length ≤ 10 + t.size := by
 unfold encT
 have := encN_len (t.size : Int)
 rw [List.length_append, toL_len]; omega
theorem Msg.Fit.enc {M : Msg} (h : M.Fit) : (encM M).length ≤ 1099511627776 := by
 have h1 := encL_len h.ents
 have h2 := encB_len M.good
 have h3 := encT_len M.snap
 have h4 := h.snap
 have h5 := h.len
 have n1 := encN_len M.kind
 have n2 := encN_len M.from_
 have n3 := encN_len M.to
 have n4 := encN_len M.term
 have n5 := encN_len M.index
 have n6 := encN_len M.prev
 have n7 := encN_len M.commit
 unfold encM Msg.nums
 simp only [List.flatMap_cons, List.flatMap_nil, List.length_append, List.length_nil]
 omega
theorem BS.Fit.delta {B : BS} (h : B.Fit) : B.deltaOf.I ∧ (encD B.deltaOf).length ≤ 1099511627776 := by
 have ht := h.term
 have hr := h.run.ok
 have hb0 := hr.small.base0
 have hb1 := hr.base
 have hlst := lst_def B
 have hlen := h.len
 unfold Num at ht
 have hI : B.deltaOf.I := by
  unfold BS.deltaOf
  split
  ·refine ⟨⟨by unfold I64; dsimp only; omega, h.vote, by unfold I64; dsimp only; omega, h.bt, by unfold I64; dsimp only; omega⟩, fun e he => (h.ents e he).1, by dsimp only; omega⟩
  ·rename_i hw
   have := h.fr (by simpa using hw)
   refine ⟨⟨by unfold I64; dsimp only; omega, h.vote, by unfold I64; dsimp only; omega, by unfold I64; dsimp only; omega, by unfold I64; dsimp only; omega⟩, fun e he => (h.ents e (List.mem_of_mem_drop he)).1, by dsimp only; rw [List.length_drop]; omega⟩
 refine ⟨hI, ?_⟩
 have hl : (encL B.deltaOf.list).length ≤ 10 + B.deltaOf.list.length * 65576 := by
  refine encL_len fun e he => ?_
  unfold BS.deltaOf at he
  split at he
  ·exact (h.ents e he).2
  ·exact (h.ents e (List.mem_of_mem_drop he)).2
 have hll : B.deltaOf.list.length ≤ 1000000 := by
  unfold BS.deltaOf
  split
  ·exact h.len
  ·dsimp only; rw [List.length_drop]; omega
 have hsn : B.deltaOf.snap.size ≤ 1073741824 := by
  unfold BS.deltaOf
  split
  ·exact h.snap
  ·exact Nat.zero_le _
 have n1 := encN_len B.deltaOf.term
 have n2 := encN_len B.deltaOf.vote
 have n3 := encN_len B.deltaOf.base
 have n4 := encN_len B.deltaOf.baseTerm
 have n5 := encN_len B.deltaOf.from_
 have h2 := encB_len B.deltaOf.whole
 have h3 := encT_len B.deltaOf.snap
 unfold encD
 simp only [List.flatMap_cons, List.flatMap_nil, List.length_append, List.length_nil]
 omega
theorem set_same_l {α : Type} {l : List α} {i : Nat} {x : α} (h : l[i]? = some x) : l.set i x = l := by
 apply List.ext_getElem?
 intro j
 by_cases hij : i = j
 ·subst hij
  rw [List.getElem?_set_self (List.getElem?_eq_some_iff.1 h).1, h]
 ·rw [List.getElem?_set_ne hij]
abbrev gptr (g : Nat) : Value := .pointer (some ⟨g, 0, none⟩)
def GrpQ (g na p : Nat) (ms : List Mem) (t : Tri) (G' : Grp) (s : PH) (y : Value) (s' : PH) : Prop := y = .tuple #[] ∧ ∃ ms' t', GrpIs s' g na p ms' t' G' ∧ Step (GF g na p ms t) (GF g na p ms' t') s s'
theorem elems_one {s : PH} {r : Nat} {x : ByteArray} {e : TypeId} {f : Nat × Nat} (h : s r = some (.cells #[.string x] e f)) : elems (Rd.enc strE) s (some ⟨r, 0, none⟩) 1 [x] :=
 ⟨rfl, fun i y hy => by
  cases i with
  | zero =>
   simp at hy; subst hy
   refine ⟨_, [.string x], rfl, rfl, ?_⟩
   simp only [Nat.zero_mul, add_zero]
   exact has_block h
  | succ i => simp at hy⟩
theorem recs_one (x : ByteArray) : (recsB [x]).size = 8 + x.size := by rw [recs_len_le]; (first | done | rfl)
theorem c_keep {s : PH} {x b m : Nat} {d : DS} {put : List Dl} {B0 : Option BS} {D : Dl} {r : Nat} {e : TypeId} {f : Nat × Nat} {R : Bool × List Shape} {K : MDen R.2 → W.T} (hx : DiaryIs s x b LOG) (h : DriveIs s b m d) (hr : s r = some (.cells #[.string (encDB D)] e f)) (hl : (encD D).length ≤ 1099511627776) (hd : (d.got LOG).1.size ≤ 1099511627776)
  (hK : ∀ y s', y = .int .i64 (Nd.keeps ⟨B0, d, put⟩ D).1 → DriveIs s' b m (Nd.keeps ⟨B0, d, put⟩ D).2 → Fw.Mod [b, m] s s' → ∃ z, mkRes R z = y ∧ K z s') :
  W.callV Tryz.prog (if D.whole = true then .func (.func 64) #[.pointer (some ⟨x, 0, none⟩)] #[] else .func (.func 63) #[.pointer (some ⟨x, 0, none⟩)] #[]) #[.slice (some ⟨r, 0, none⟩) 1 1] R K s := by
 have hel := elems_one hr
 have hsz : (encDB D).size = (encD D).length := ofL_size _
 by_cases hw : D.whole = true
 ·rw [if_pos hw]
  refine callV_bound (fn := _) rfl rfl rfl (c_dRewrite hx h hel (by simp) (by rw [recs_one]; omega)) ?_
  rintro y s' ⟨hy, h1, h2⟩
  have e : Nd.keeps ⟨B0, d, put⟩ D = d.rewrites LOG [encDB D] := by unfold Nd.keeps; rw [if_pos hw]
  exact hK y s' (by rw [e]; exact hy) (by rw [e]; exact h1) h2
 ·rw [if_neg hw]
  refine callV_bound (fn := _) rfl rfl rfl (c_dAppend hx h hel (by simp) (by rw [recs_one]; omega)) ?_
  rintro y s' ⟨hy, h1, h2⟩
  have e : Nd.keeps ⟨B0, d, put⟩ D = d.puts LOG [encDB D] := by unfold Nd.keeps; rw [if_neg hw]
  exact hK y s' (by rw [e]; exact hy) (by rw [e]; exact h1) h2
end
section
attribute [-simp] Fw.W.ld_iff Fw.W.st_iff
theorem NdIs.of_bal {s : PH} {q : Mem} {B : BS} {d : DS} {put : List Dl} (h : NdIs s q ⟨some B, d, put⟩) : ∃ b x, q.bp = some b ∧ Bal s b q.l q.v q.n q.m B ∧ q.xp = some ⟨x, 0, none⟩ ∧ DiaryIs s x q.d LOG ∧ DriveIs s q.d q.dm d := by
 obtain ⟨b, x, h1, h2, h3, h4⟩ := h.up B rfl
 exact ⟨b, x, h1, h2, h3, h4, h.drive⟩
theorem bal_drive {s : PH} {b d dm : Nat} {l v n m : Tri} {B : BS} {D : DS} (h : Bal s b l v n m B) (hd : DriveIs s d dm D) : ∀ x ∈ bL b l v n m, x ≠ d ∧ x ≠ dm := by
 obtain ⟨es, c, hm, _⟩ := hd.map
 have hr : ∀ {α : Type} {E : Enc α} {e : TypeId} {a : Option Addr} {k c : Nat} {xs : List α}, rowE E s e a k c xs → e ≠ 107 → ∀ x ∈ Fw.blk a, x ≠ d ∧ x ≠ dm := by
  intro α E e a k c xs h he x hx
  refine ⟨?_, ?_⟩
  ·rintro rfl; exact row_ne2 h hd.blk he hx
  ·rintro rfl
   rcases h.shape with ⟨rfl, _⟩ | ⟨g', rfl⟩
   ·simp [Fw.blk] at hx
   ·simp [Fw.blk] at hx; subst hx
    obtain ⟨cur, hc⟩ := h.ty rfl
    rw [hm] at hc; cases hc
 intro x hx
 simp only [bL, List.mem_cons, List.mem_append] at hx
 rcases hx with rfl | hx | hx | hx | hx
 ·refine ⟨?_, ?_⟩
  ·rintro rfl; have h1 := h.cell; rw [hd.blk] at h1; exact absurd (Obj.cells.inj (Option.some.inj h1)).2.1 (by decide)
  ·rintro rfl; have h1 := h.cell; rw [hm] at h1; cases h1
 ·exact hr h.log (by decide) x hx
 ·exact hr h.votes (by decide) x hx
 ·exact hr h.next (by decide) x hx
 ·exact hr h.mat (by decide) x hx
def SavJ (g na p : Nat) (ms : List Mem) (t : Tri) (G1 : Grp) (ot : Tri) (ps : List (Msg × Tri)) (s0 s' : PH) : Prop := ∃ ms', GrpIs s' g na p ms' t G1 ∧ Step (GF g na p ms t) (GF g na p ms' t) s0 s' ∧ Msgs s' ot ps
def SendZ (g na p : Nat) (ms : List Mem) (t : Tri) (G1 : Grp) (ot : Tri) (ps : List (Msg × Tri)) (s0 : PH) (z : MDen [(false, [.slice]), (false, [.int .i64]), (false, [.int .i64])]) (s' : PH) : Prop :=
 ∃ (k : Nat) (ms' : List Mem) (t' : Tri), z = ((ot, ()), ((ot.2.1 : Int), ()), ((k : Int), ()), ()) ∧ k ≤ ps.length ∧ GrpIs s' g na p ms' t' { G1 with bag := G1.bag ++ (ps.take k).map (·.1) } ∧ Step (GF g na p ms t) (GF g na p ms' t') s0 s' ∧ Msgs s' ot ps
section
variable {s : PH} {g na p : Nat} {ms : List Mem} {t : Tri} {G : Grp}
theorem GrpIs.sent {s' : PH} (h : GrpIs s g na p ms t G) {bag : List Msg} {t' : Tri} (hp : PostIs s' p t' bag) (hm : Fw.Mod (p :: Fw.blk t.1) s s') (hf : ∀ x ∈ Fw.blk t'.1, x ∈ Fw.blk t.1 ∨ s x = none) : GrpIs s' g na p ms t' { G with bag := bag } ∧ Step (GF g na p ms t) (GF g na p ms t') s s' := by
 have hne := h.ne
 refine ⟨⟨hm.at h.cell (by simp; exact ⟨hne.2.1, hne.2.2.2.1⟩), hm.at h.arr (by simp; exact ⟨hne.2.2.1, hne.2.2.2.2.1⟩), hp, h.len, h.few, fun i q N hq hN => (h.nds i q N hq hN).mod hm fun x hx => ?_, h.apart⟩, ⟨hm.mono fun x hx => ?_, fun x hx => ?_⟩⟩
 ·have ho := h.oth q (List.mem_of_getElem? hq) x hx
  simp; exact ⟨ho.2.2.1, ho.2.2.2⟩
 ·rcases List.mem_cons.1 hx with rfl | hx
  ·simp [GF]
  ·simp [GF, hx]
 ·simp only [GF, List.mem_cons, List.mem_append] at hx ⊢
  rcases hx with rfl | rfl | rfl | hx | hx
  ·exact .inl (.inl rfl)
  ·exact .inl (.inr (.inl rfl))
  ·exact .inl (.inr (.inr (.inl rfl)))
  ·exact (hf x hx).imp_left fun h => .inr (.inr (.inr (.inl h)))
  ·exact .inl (.inr (.inr (.inr (.inr hx))))
theorem c_gdone (h : GrpIs s g na p ms t G) {i : Nat} {B : BS} {d : DS} {put : List Dl} (hN : G.nodes[i]? = some ⟨some B, d, put⟩) (hf : B.Fit) (hd : (d.got LOG).1.size ≤ 1099511627776) {ot : Tri} {ps : List (Msg × Tri)} (ho : Msgs s ot ps) (hoa : ∀ y ∈ mF ot ps, y ∉ GF g na p ms t) (hof : ∀ q ∈ ps, q.1.Fit)
  (hb : G.bag.length + ps.length ≤ 1073741824) :
  DCalls Tryz.prog 46 #[gptr g, .pointer (some ⟨na, i * 3, none⟩), ot.v] s (GrpQ g na p ms t (G.done i ⟨some B, d, put⟩ (B, ps.map (·.1))) s) := by
 refine ok_gdone g ⟨na, i * 3, none⟩ ot.1 ot.2.1 ot.2.2 _ s ?_
 unfold vc_gdone
 obtain ⟨R, hR⟩ : ∃ R : Value → PH → Prop, GrpQ g na p ms t (G.done i ⟨some B, d, put⟩ (B, ps.map (·.1))) s = R := ⟨_, rfl⟩
 obtain ⟨q, hq⟩ := h.mem hN
 have hnd := h.nds i q _ hq hN
 obtain ⟨b, x, e1, hB, e2, hx, hdr⟩ := hnd.of_bal
 have hi : i < ms.length := (List.getElem?_eq_some_iff.1 hq).1
 have hqF : q.F = bL b q.l q.v q.n q.m ++ (Fw.blk q.xp ++ [q.d, q.dm]) := by unfold Mem.F; rw [e1]
 have hok := hf.run.ok
 obtain ⟨N', hN'⟩ : ∃ N', Nd.saved ⟨some B, d, put⟩ B = N' := ⟨_, rfl⟩
 obtain ⟨G1, hG1⟩ : ∃ G1 : Grp, ({ G with nodes := G.nodes.set i N' } : Grp) = G1 := ⟨_, rfl⟩
 have hoth := h.oth q (List.mem_of_getElem? hq)
 rw [hR]
 simp only [RP_join]
 refine W.join_gen (fun z s' => Nd.okd ⟨some B, d, put⟩ B = true ∧ SavJ g na p ms t G1 ot ps s s') ?_ ?_
 ·-- the letters
  rintro _ s1 ⟨hokd, ms1, h1, st1, ho1⟩
  have hout : GrpQ g na p ms t { G1 with bag := G1.bag ++ ps.map (·.1) } s = R := by
   rw [← hR]
   unfold Grp.done
   rw [if_pos hokd, hN']
   dsimp only
   rw [← hG1]
  have hoa1 : ∀ y ∈ mF ot ps, y ∉ GF g na p ms1 t := st1.apart hoa ho.known
  have hbag : G1.bag = G.bag := by rw [← hG1]
  simp only [RP_loop]
  refine ⟨SendZ g na p ms t G1 ot ps s, fun z _ => ((ps.length : Int) - z.2.2.1.1).toNat, ⟨0, ms1, t, rfl, Nat.zero_le _, by simpa using h1, st1, ho1⟩, ?_⟩
  rintro _ s2 ⟨k, ms2, t2, rfl, hk, h2, st2, ho2⟩
  have hlen : ot.2.1 = ps.length := ho2.row.len
  simp only [RP_ite, W.br_iff, decide_eq_true_eq, decide_eq_false_iff_not]
  refine ⟨fun hlt => ?_, fun hge => ?_⟩
  ·have hlt : k < ps.length := by omega
   obtain ⟨⟨M, mt⟩, hM⟩ : ∃ x, ps[k]? = some x := ⟨_, List.getElem?_eq_getElem hlt⟩
   obtain ⟨q', hq', hh⟩ := ho2.row.at hM
   have hfit := hof _ (List.mem_of_getElem? hM)
   have hMr := ho2.lists _ (List.mem_of_getElem? hM)
   have hc2 := h2.cell
   simp only [RP_guard, W.guard_iff, Int.toNat_natCast, hq', RP_unSome, W.unSome_some, add_mk, Nat.zero_add, RP_ld]
   refine ⟨by show (0 : Int) ≤ (k : Int) ∧ (k : Int) < (ot.2.1 : Int); omega, (M.kind, M.from_, M.to, M.term, M.index, M.prev, M.commit, M.good, mt, M.snap, ()), hh, ?_⟩
   simp only [W.unSome_some, add_mk, Nat.zero_add]
   refine ld_blk (c := .ptr) (x := some ⟨p, 0, none⟩) hc2 rfl ?_
   simp only [RP_call]
   refine W.call_of (c_PutMsg (M := M) (t := mt) hMr hfit.I hfit.enc) ?_
   rintro _ s2 ⟨rfl, rfl⟩
   refine ⟨((encMB M, ()), ()), rfl, ?_⟩
   simp only [RP_still]
   refine (W.still_at hc2 _ _ _ _ _).2 ⟨rfl, ?_⟩
   refine W.call_of (c_pSend h2.post M (by simp only [List.length_append, List.length_map, List.length_take]; rw [hbag]; omega)) ?_
   rintro _ s3 ⟨rfl, t3, hp3, m3, hf3⟩
   refine ⟨(), rfl, ?_⟩
   obtain ⟨h3, st3⟩ := h2.sent hp3 m3 hf3
   have hap2 : ∀ y ∈ mF ot ps, y ∉ GF g na p ms2 t2 := st2.apart hoa ho.known
   have ho3 : Msgs s3 ot ps := ho2.mod m3 fun y hy => by
    have := hap2 y hy
    simp only [GF, List.mem_cons, List.mem_append, not_or] at this
    simp; exact ⟨this.2.2.1, this.2.2.2.1⟩
   refine ⟨⟨k + 1, ms2, t3, by rw [wrap_succ (by omega), ← hq'], hlt, ?_, st2.trans st3, ho3⟩, ?_⟩
   ·rw [List.take_add_one, hM]
    simpa [List.append_assoc] using h3
   ·rw [wrap_succ (by omega)]
    show ((ps.length : Int) - ((k + 1 : Nat) : Int)).toNat < ((ps.length : Int) - ((k : Nat) : Int)).toNat
    omega
  ·have hkk : k = ps.length := by omega
   subst hkk
   rw [List.take_length] at h2
   simp only [RP_ret, W.ret_iff]
   rw [← hout]
   exact ⟨rfl, ms2, t2, h2, st2⟩
 ·-- what has changed
  intro J hJ
  have harr := h.arr
  simp only [RP_unSome, W.unSome_some, add_mk, RP_ld]
  refine ld_blk (c := .ptr) (x := some ⟨b, 0, none⟩) harr (mem_get hq (by omega) (by show some _ = some _; rw [e1]; (first | done | rfl))) ?_
  simp only [RP_call]
  refine W.call_of (c_Delta hB hok.small hok.base hf.fr) ?_
  rintro y s1 (⟨htch, rfl, hB1, m1⟩ | ⟨htch, dt, rfl, hrow, hB1, m1, hfr⟩)
  ·refine ⟨((0, 0, false, 0, 0, ⟨#[]⟩, 0, noTri, ()), (false, ()), ()), rfl, ?_⟩
   simp only [RP_ite, W.br_false]
   refine hJ _ _ ⟨by unfold Nd.okd; rw [htch]; (first | done | rfl), ms, ?_, ⟨m1.mono (by simp), fun x hx => .inl hx⟩, ho.mod m1 (by simp)⟩
   have hNN : N' = ⟨some B, d, put⟩ := by rw [← hN']; unfold Nd.saved; rw [if_neg (by rw [htch]; simp)]
   rw [← hG1, hNN, set_same_l hN]
   exact h.new m1
  ·refine ⟨((B.deltaOf.term, B.deltaOf.vote, B.deltaOf.whole, B.deltaOf.base, B.deltaOf.baseTerm, B.deltaOf.snap, B.deltaOf.from_, dt, ()), (true, ()), ()), rfl, ?_⟩
   obtain ⟨hDI, hDl⟩ := hf.delta
   have hbq : b ∈ q.F := by rw [hqF]; simp [bL]
   have hnab : na ≠ b := fun e => (hoth b hbq).2.1 e.symm
   have harr1 := m1.at harr (by simp; exact hnab)
   have hxb : x ≠ b := by rintro rfl; have h1 := hB.cell; unfold DiaryIs at hx; rw [hx] at h1; exact absurd (Obj.cells.inj (Option.some.inj h1)).2.1 (by decide)
   have hx1 : DiaryIs s1 x q.d LOG := m1.at hx (by simp; exact hxb)
   have hbd := bal_drive hB hdr
   have hdr1 : DriveIs s1 q.d q.dm d := ⟨m1.at hdr.blk (by simp; exact fun e => (hbd b bL_self).1 e.symm), hdr.map.mod m1 (by simp; exact fun e => (hbd b bL_self).2 e.symm)⟩
   have hgx : (memE.f q)[2]? = some (.pointer (some ⟨x, 0, none⟩)) := by show some _ = some _; rw [e2]
   simp only [RP_ite, W.br_true, W.unSome_some, add_mk]
   refine ld_blk (c := .ptr) (x := some ⟨x, 0, none⟩) harr1 (mem_get hq (by omega) hgx) ?_
   simp only [RP_join]
   refine W.join_gen (fun z s' => z = ((B.deltaOf.term, B.deltaOf.vote, B.deltaOf.whole, B.deltaOf.base, B.deltaOf.baseTerm, B.deltaOf.snap, B.deltaOf.from_, dt, ()),
    ((if B.deltaOf.whole = true then .func (.func 64) #[.pointer (some ⟨x, 0, none⟩)] #[] else .func (.func 63) #[.pointer (some ⟨x, 0, none⟩)] #[]), ()), ()) ∧ s' = s1) ?_ ?_
   ·rintro _ s1 ⟨rfl, rfl⟩
    refine W.call_of (c_PutDelta (D := B.deltaOf) (t := dt) hrow hDI hDl) ?_
    rintro _ s1 ⟨rfl, rfl⟩
    refine ⟨((encDB B.deltaOf, ()), ()), rfl, ?_⟩
    simp only [RP_nw]
    refine W.nw_of fun r s2 hr m2 k2 => ?_
    have hx2 : DiaryIs s2 x q.d LOG := m2.at hx1 (by simp)
    have hdr2 : DriveIs s2 q.d q.dm d := ⟨m2.at hdr1.blk (by simp), hdr1.map.mod m2 (by simp)⟩
    simp only [RP_callV]
    refine c_keep (B0 := some B) (put := put) hx2 hdr2 k2 hDl hd ?_
    intro y s3 hy hdr3 m3
    refine ⟨(((Nd.keeps ⟨some B, d, put⟩ B.deltaOf).1, ()), ()), hy.symm, ?_⟩
    -- the heap then
    have m13 : Fw.Mod [q.d, q.dm] s1 s3 := (m2.mono (by simp) : Fw.Mod [q.d, q.dm] s1 s2).trans m3
    have m03 : Fw.Mod (na :: q.F) s s3 := by
     refine Mod.trans (m1.mono ?_) (m13.mono ?_)
     ·intro y hy; simp at hy; subst hy; exact List.mem_cons_of_mem _ hbq
     ·intro y hy
      rw [hqF]
      simp at hy ⊢
      rcases hy with rfl | rfl <;> simp
    have hdF : q.d ∈ q.F := by rw [hqF]; simp
    have hdmF : q.dm ∈ q.F := by rw [hqF]; simp
    have harr3 := m13.at harr1 (by simp; exact ⟨fun e => (hoth _ hdF).2.1 e.symm, fun e => (hoth _ hdmF).2.1 e.symm⟩)
    have hB3 : Bal s3 b q.l q.v q.n q.m B.cleaned := hB1.mod m13 fun y hy => by simp; exact hbd y hy
    have hxd : x ≠ q.d ∧ x ≠ q.dm := by
     constructor
     ·rintro rfl; have h1 := hdr.blk; unfold DiaryIs at hx; rw [hx] at h1; exact absurd (Obj.cells.inj (Option.some.inj h1)).2.1 (by decide)
     ·intro e; obtain ⟨es, c, h1, _⟩ := hdr.map; unfold DiaryIs at hx; rw [← e, hx] at h1; cases h1
    have hx3 : DiaryIs s3 x q.d LOG := m13.at hx1 (by simp; exact hxd)
    by_cases hr0 : (Nd.keeps ⟨some B, d, put⟩ B.deltaOf).1 = 0
    ·have hbne : ((Nd.keeps ⟨some B, d, put⟩ B.deltaOf).1 != 0) = false := by simp [hr0]
     simp only [hbne, W.br_false]
     have hNN : N' = ⟨some B.cleaned, (Nd.keeps ⟨some B, d, put⟩ B.deltaOf).2, if B.deltaOf.whole = true then [B.deltaOf] else put ++ [B.deltaOf]⟩ := by
      rw [← hN']; unfold Nd.saved; rw [if_pos htch, if_pos hr0]
     have hn3 : NdIs s3 q N' := by
      rw [hNN]
      refine ⟨hdr3, fun e => (by cases e), fun B' e => ?_⟩
      cases e
      exact ⟨b, x, e1, hB3, e2, hx3⟩
     obtain ⟨u1, u2⟩ := h.upd hq hN m03 (by rw [set_same_l hq]; exact harr3) hn3 (fun y hy => .inl hy)
     refine hJ _ _ ⟨by unfold Nd.okd; rw [hr0]; simp, ms, ?_, ?_, ?_⟩
     ·rw [← hG1]
      rwa [set_same_l hq] at u1
     ·rwa [set_same_l hq] at u2
     ·exact ho.mod m03 fun y hy hyn => hoa y hy (by
       rcases List.mem_cons.1 hyn with rfl | hyn
       ·simp [GF]
       ·exact GF_mem hq hyn)
    ·have hbne : ((Nd.keeps ⟨some B, d, put⟩ B.deltaOf).1 != 0) = true := by simp [hr0]
     simp only [hbne, W.br_true, W.unSome_some, add_mk, RP_st]
     refine st_blk harr3 (mem_get hq (by omega) (k := 0) rfl) rfl ?_
     rw [mem_set (q' := { q with bp := none }) hq rfl (by omega)]
     have hNN : N' = ⟨none, (Nd.keeps ⟨some B, d, put⟩ B.deltaOf).2, if (Nd.keeps ⟨some B, d, put⟩ B.deltaOf).1 = 50 ∧ B.deltaOf.whole = false then put ++ [B.deltaOf] else put⟩ := by
      rw [← hN']; unfold Nd.saved; rw [if_pos htch, if_neg hr0]
     have m34 : ∀ o, Fw.Mod [na] s3 (s3.upd na o) := fun o => Mod.upd (by simp)
     have hn4 : ∀ o, NdIs (s3.upd na o) { q with bp := none } N' := by
      intro o
      rw [hNN]
      refine ⟨⟨(m34 o).at hdr3.blk (by simp; exact (hoth _ hdF).2.1), hdr3.map.mod (m34 o) (by simp; exact (hoth _ hdmF).2.1)⟩, fun _ => rfl, fun B' e => by cases e⟩
     obtain ⟨u1, u2⟩ := h.upd hq hN (q' := { q with bp := none }) (Mod.updLater m03 (.inl (by simp))) (PH.upd_same _ _ _) (hn4 _) (fun y hy => .inl (by
      have hy : y ∈ [q.d, q.dm] := hy
      rw [hqF]; simp at hy ⊢
      rcases hy with rfl | rfl <;> simp))
     simp only [RP_ret, W.ret_iff]
     rw [← hR]
     refine ⟨rfl, _, t, ?_, u2⟩
     unfold Grp.done
     rw [if_neg (by unfold Nd.okd; rw [htch]; simp [hr0]), hN']
     exact u1
   ·intro J2 hJ2
    have hw : (B.deltaOf.term, B.deltaOf.vote, B.deltaOf.whole, B.deltaOf.base, B.deltaOf.baseTerm, B.deltaOf.snap, B.deltaOf.from_, dt, ()).2.2.1 = B.deltaOf.whole := rfl
    simp only [W.br_iff]
    refine ⟨fun hwt => ?_, fun hwf => ?_⟩
    ·simp only [W.unSome_some, add_mk]
     refine ld_blk (c := .ptr) (x := some ⟨x, 0, none⟩) harr1 (mem_get hq (by omega) hgx) ?_
     exact hJ2 _ _ ⟨by rw [if_pos hwt], rfl⟩
    ·exact hJ2 _ _ ⟨by rw [if_neg (by rw [hwf]; simp)], rfl⟩
end
end
section
attribute [-simp] Fw.W.ld_iff Fw.W.st_iff
theorem bal_diary {s : PH} {b x : Nat} {l v n m : Tri} {B : BS} {y : Nat} {nm : ByteArray} (h : Bal s b l v n m B) (hx : DiaryIs s x y nm) : x ∉ bL b l v n m := by
 unfold DiaryIs at hx
 intro hm
 simp only [bL, List.mem_cons, List.mem_append] at hm
 rcases hm with rfl | hm | hm | hm | hm
 ·have h1 := h.cell; rw [hx] at h1; exact absurd (Obj.cells.inj (Option.some.inj h1)).2.1 (by decide)
 ·exact row_ne2 h.log hx (by decide) hm
 ·exact row_ne2 h.votes hx (by decide) hm
 ·exact row_ne2 h.next hx (by decide) hm
 ·exact row_ne2 h.mat hx (by decide) hm
section
variable {s s1 : PH} {g na p : Nat} {ms : List Mem} {t : Tri} {G : Grp}
theorem GrpQ.trans {ms1 : List Mem} {t1 : Tri} {G' : Grp} {y : Value} {s' : PH} (hs : Step (GF g na p ms t) (GF g na p ms1 t1) s s1) (h : GrpQ g na p ms1 t1 G' s1 y s') : GrpQ g na p ms t G' s y s' := by
 obtain ⟨rfl, ms', t', h1, h2⟩ := h
 exact ⟨rfl, ms', t', h1, hs.trans h2⟩
theorem after_op (h : GrpIs s g na p ms t G) {i : Nat} {q : Mem} {B : BS} {d : DS} {put : List Dl} (hq : ms[i]? = some q) (hN : G.nodes[i]? = some ⟨some B, d, put⟩) {b : Nat} (e1 : q.bp = some b) {R : BS × List Msg} {x : Value} (ho : OpPost R b (bL b q.l q.v q.n q.m) s x s1) :
  ∃ ot ps ms1, x = Tri.v ot ∧ GrpIs s1 g na p ms1 t { G with nodes := G.nodes.set i ⟨some R.1, d, put⟩ } ∧ Step (GF g na p ms t) (GF g na p ms1 t) s s1 ∧ Msgs s1 ot ps ∧ ps.map (·.1) = R.2 ∧ ∀ y ∈ mF ot ps, y ∉ GF g na p ms1 t := by
 obtain ⟨ot, ps, l', v', n', m', rfl, hB', st, hms, hps, hap⟩ := ho
 obtain ⟨b0, xx, e1', hB, e2, hx, hdr⟩ := (h.nds i q _ hq hN).of_bal
 rw [e1] at e1'; cases e1'
 have hoth := h.oth q (List.mem_of_getElem? hq)
 have hqF : q.F = bL b q.l q.v q.n q.m ++ (Fw.blk q.xp ++ [q.d, q.dm]) := by unfold Mem.F; rw [e1]
 obtain ⟨q', hq'⟩ : ∃ q' : Mem, ({ q with l := l', v := v', n := n', m := m' } : Mem) = q' := ⟨_, rfl⟩
 have hqF' : q'.F = bL b l' v' n' m' ++ (Fw.blk q.xp ++ [q.d, q.dm]) := by rw [← hq']; unfold Mem.F; dsimp only; rw [e1]
 have hbd := bal_drive hB hdr
 have hxn := bal_diary hB hx
 have hdn : q.d ∉ bL b q.l q.v q.n q.m := fun hy => (hbd _ hy).1 rfl
 have hdmn : q.dm ∉ bL b q.l q.v q.n q.m := fun hy => (hbd _ hy).2 rfl
 have hna : na ∉ bL b q.l q.v q.n q.m := fun hy => (hoth na (by rw [hqF]; simp [hy])).2.1 rfl
 have hdr1 : DriveIs s1 q.d q.dm d := ⟨st.mod.at hdr.blk hdn, hdr.map.mod st.mod hdmn⟩
 have hx1 : DiaryIs s1 xx q.d LOG := st.mod.at hx hxn
 have hnd : NdIs s1 q' ⟨some R.1, d, put⟩ := by
  rw [← hq']
  refine ⟨hdr1, fun e => (by cases e), fun B' e => ?_⟩
  cases e
  exact ⟨b, xx, e1, hB', e2, hx1⟩
 have hf : ∀ y ∈ q'.F, y ∈ q.F ∨ s y = none := by
  intro y hy
  rw [hqF'] at hy
  rw [hqF]
  rcases List.mem_append.1 hy with hy | hy
  ·exact (st.new y hy).imp_left fun h => by simp [h]
  ·exact .inl (by simp only [List.mem_append]; exact .inr (List.mem_append.1 hy))
 have m01 : Fw.Mod (na :: q.F) s s1 := st.mod.mono fun y hy => by rw [hqF]; simp [hy]
 obtain ⟨u1, u2⟩ := h.upd hq hN m01 (by rw [flat_set_same hq (by rw [← hq']; (first | done | rfl))]; exact st.mod.at h.arr hna) hnd hf
 refine ⟨ot, ps, ms.set i q', rfl, u1, u2, hms, hps, fun y hy hyG => ?_⟩
 obtain ⟨h1, h2⟩ := hap y hy
 have hyF : y ∈ q.F ∨ s y = none := h1.imp_left fun h => by rw [hqF]; simp [h]
 have hkn : ∀ z, s z ≠ none → z ∉ q.F → y ≠ z := by
  rintro z hz hzn rfl
  rcases hyF with h | h
  ·exact hzn h
  ·exact hz h
 simp only [GF, List.mem_cons, List.mem_append, List.mem_flatMap] at hyG
 rcases hyG with rfl | rfl | rfl | hyG | ⟨r, hr, hyG⟩
 ·exact hkn y (by rw [h.cell]; simp) (fun hh => (hoth y hh).1 rfl) rfl
 ·exact hkn y (by rw [h.arr]; simp) (fun hh => (hoth y hh).2.1 rfl) rfl
 ·exact hkn y (by rw [h.post.cell]; simp) (fun hh => (hoth y hh).2.2.1 rfl) rfl
 ·exact hkn y (h.post.row.known y hyG) (fun hh => (hoth y hh).2.2.2 hyG) rfl
 ·obtain ⟨j, hj⟩ := List.mem_iff_getElem?.1 hr
  by_cases hij : i = j
  ·subst hij
   rw [List.getElem?_set_self (List.getElem?_eq_some_iff.1 hq).1] at hj
   cases hj
   rw [hqF', e2] at hyG
   simp only [Fw.blk, List.mem_append, List.mem_cons, List.not_mem_nil, or_false] at hyG
   rcases hyG with hyG | rfl | rfl | rfl
   ·exact h2 hyG
   ·rcases h1 with h1 | h1
    ·exact hxn h1
    ·unfold DiaryIs at hx; rw [hx] at h1; cases h1
   ·exact h1.elim hdn hdr.known.1
   ·exact h1.elim hdmn hdr.known.2
  ·rw [List.getElem?_set_ne hij] at hj
   obtain ⟨M, hM⟩ := h.node hj
   rcases hyF with hh | hh
   ·exact h.apart i j q r hq hj hij y hh hyG
   ·exact (h.nds j r M hj hM).known y hyG hh
structure RFit (k : Nat) (R : BS × List Msg) : Prop where
 b : R.1.Fit
 out : ∀ M ∈ R.2, M.Fit ∧ 0 ≤ M.to ∧ M.to < k
 len : R.2.length ≤ 20
structure Grp.Fit (G : Grp) : Prop where
 nds : ∀ (i : Nat) N, G.nodes[i]? = some N → (N.d.got LOG).1.size ≤ 1099511627776 ∧ N.d.Ok ∧ ∀ B, N.b = some B → B.Fit
 disk : ∀ (i : Nat) N, G.nodes[i]? = some N → (∃ sure, Kept N.d LOG (N.put.map encDB) sure) ∧ (∀ D ∈ N.put, D.I ∧ (encD D).length ≤ 1099511627776) ∧ dtot N.put ≤ 1000000 ∧ N.put.length ≤ 1000000
 bag : ∀ m ∈ G.bag, m.Fit ∧ 0 ≤ m.to ∧ m.to < G.nodes.length
 len : G.bag.length ≤ 1000000
 sz : 1 ≤ G.nodes.length ∧ G.nodes.length ≤ 5
 acts : Num G.acts
theorem c_opdone (h : GrpIs s g na p ms t G) (hfit : G.Fit) {i : Nat} {q : Mem} {B : BS} {d : DS} {put : List Dl} (hq : ms[i]? = some q) (hN : G.nodes[i]? = some ⟨some B, d, put⟩) {b : Nat} (e1 : q.bp = some b) {R : BS × List Msg} (hR : RFit G.nodes.length R) {x : Value} (ho : OpPost R b (bL b q.l q.v q.n q.m) s x s1) :
  DCalls Tryz.prog 46 #[gptr g, .pointer (some ⟨na, i * 3, none⟩), x] s1 (GrpQ g na p ms t (G.done i ⟨some B, d, put⟩ R) s) := by
 obtain ⟨ot, ps, ms1, rfl, h1, st, hms, hps, hap⟩ := after_op h hq hN e1 ho
 have hi := (List.getElem?_eq_some_iff.1 hN).1
 have hN1 : ({ G with nodes := G.nodes.set i ⟨some R.1, d, put⟩ } : Grp).nodes[i]? = some ⟨some R.1, d, put⟩ := List.getElem?_set_self hi
 have hd := (hfit.nds i _ hN).1
 have hpl : ps.length = R.2.length := by rw [← hps, List.length_map]
 refine (c_gdone h1 hN1 hR.b hd hms hap (fun z hz => (hR.out z.1 (by rw [← hps]; exact List.mem_map_of_mem hz)).1) (by have := hfit.len; have := hR.len; show G.bag.length + _ ≤ _; omega)).mono ?_
 intro y s' hQ
 have e : ({ G with nodes := G.nodes.set i ⟨some R.1, d, put⟩ } : Grp).done i ⟨some R.1, d, put⟩ (R.1, ps.map (·.1)) = G.done i ⟨some B, d, put⟩ R := by
  rw [hps]
  unfold Grp.done
  dsimp only
  rw [List.set_set]
  first | done | rfl
 rw [e] at hQ
 exact hQ.trans st
end
end
section
attribute [-simp] Fw.W.ld_iff Fw.W.st_iff
theorem c_place (a n : Int) (s : PH) : DCalls Tryz.prog 42 #[.int .i64 a, .int .i64 n] s fun y s' => y = .int .i64 (plc a n) ∧ s' = s := by
 refine ok_place a n _ s ?_
 unfold vc_place
 simp only [RP_ite, W.br_iff, RP_guard, W.guard_iff, RP_ret, W.ret_iff]
 refine ⟨fun h => ?_, fun h => ?_⟩
 ·have h : n = 0 := by simpa using h
  unfold plc; rw [if_pos h]; exact ⟨rfl, trivial⟩
 ·have h : n ≠ 0 := by simpa using h
  unfold plc; rw [if_neg h]
  exact ⟨h, h, by simp, trivial⟩
theorem plc_range (a : Int) {n : Nat} (h0 : 0 < n) (h1 : n ≤ 1000000000) : 0 ≤ plc a n ∧ plc a n < n := by
 unfold plc
 rw [if_neg (by omega)]
 have h2 := Int.tmod_lt_of_pos a (b := (n : Int)) (by omega)
 have h3 : -(n : Int) < a.tmod n := by
  have := Int.lt_tmod_of_pos a (b := (n : Int)) (by omega); omega
 rw [wrap_in (by omega) (by omega)]
 have h4 : 0 ≤ a.tmod n + n := by omega
 rw [Int.tmod_eq_emod_of_nonneg h4]
 exact ⟨Int.emod_nonneg _ (by omega), Int.emod_lt_of_pos _ (by omega)⟩
theorem plc_At (a : Int) {bag : List Msg} (h : bag.length ≤ 1000000000) : At bag (plc a bag.length) := by
 by_cases h0 : bag.length = 0
 ·left
  have hb : bag = [] := List.length_eq_zero_iff.1 h0
  subst hb
  exact ⟨rfl, rfl⟩
 ·right
  have := plc_range a (n := bag.length) (by omega) h
  exact ⟨this.1, by omega⟩
section
variable {s s1 : PH} {g na p : Nat} {ms : List Mem} {t : Tri} {G : Grp}
abbrev Grp.pl (G : Grp) (a : Int) : Nat := (plc a G.nodes.length).toNat
theorem Grp.Fit.at_ (hf : G.Fit) (a : Int) : ∃ N, G.nodes[G.pl a]? = some N := by
 have := plc_range a (n := G.nodes.length) (by have := hf.sz; omega) (by have := hf.sz; omega)
 exact ⟨_, List.getElem?_eq_getElem (by show (plc a G.nodes.length).toNat < _; omega)⟩
theorem op_some {i : Nat} {N : Nd} {B : BS} {f : BS → BS × List Msg} (hN : G.nodes[i]? = some N) (hB : N.b = some B) : G.op i f = G.done i N (f B) := by
 unfold Grp.op; rw [hN]; dsimp only; rw [hB]
theorem op_down {i : Nat} {N : Nd} {f : BS → BS × List Msg} (hN : G.nodes[i]? = some N) (hB : N.b = none) : G.op i f = G := by
 unfold Grp.op; rw [hN]; dsimp only; rw [hB]
theorem GrpQ.refl (h : GrpIs s g na p ms t G) : GrpQ g na p ms t G s (.tuple #[]) s := ⟨rfl, ms, t, h, Step.refl _ _⟩
abbrev actV (k a b : Int) (x : ByteArray) : Value := .agg #[.int .i64 k, .int .i64 a, .int .i64 b, .string x]
theorem c_gnode (h : GrpIs s g na p ms t G) (hf : G.Fit) (k a b : Int) (x : ByteArray) {N : Nd} (hN : G.nodes[G.pl a]? = some N) : DCalls Tryz.prog 45 #[gptr g, actV k a b x] s fun y s' => y = .pointer (if N.b.isSome = true then some ⟨na, G.pl a * 3, none⟩ else none) ∧ s' = s := by
 refine ok_gnode g k a b x _ s ?_
 unfold vc_gnode
 obtain ⟨q, hq⟩ := h.mem hN
 have hnd := h.nds _ q _ hq hN
 have hr := plc_range a (n := G.nodes.length) (by have := hf.sz; omega) (by have := hf.sz; omega)
 have hlen := h.len
 have hc := h.cell
 simp only [RP_unSome, W.unSome_some, add_mk, Nat.zero_add, RP_ld]
 refine ld_blk (c := .slice) (x := (some ⟨na, 0, none⟩, ms.length, ms.length)) hc rfl ?_
 simp only [W.unSome_some, add_mk, Nat.zero_add]
 refine ld_blk (c := .slice) (x := (some ⟨na, 0, none⟩, ms.length, ms.length)) hc rfl ?_
 simp only [RP_callQ]
 refine W.callQ_of ((plc a ms.length, ()), ()) (c_place a ms.length s) rfl ?_
 rw [hlen]
 simp only [RP_guard, W.guard_iff, W.unSome_some, add_mk, Nat.zero_add]
 refine ⟨⟨hr.1, hr.2⟩, ?_⟩
 cases hB : N.b with
 | none =>
  refine ld_blk (c := .ptr) (x := none) h.arr (mem_get hq (k := 0) (by omega) (by show some _ = some _; rw [hnd.down hB]; (first | done | rfl))) ?_
  simp only [RP_ite, Option.isNone_none, W.br_true]
  exact ⟨rfl, rfl⟩
 | some B =>
  obtain ⟨b', y, e1, _⟩ := hnd.up B hB
  refine ld_blk (c := .ptr) (x := some ⟨b', 0, none⟩) h.arr (mem_get hq (k := 0) (by omega) (by show some _ = some _; rw [e1]; (first | done | rfl))) ?_
  simp only [RP_ite, Option.isNone_some, W.br_false]
  exact ⟨rfl, rfl⟩
theorem up_at (h : GrpIs s g na p ms t G) {i : Nat} {N : Nd} {B : BS} (hN : G.nodes[i]? = some N) (hB : N.b = some B) : ∃ q b, ms[i]? = some q ∧ q.bp = some b ∧ Bal s b q.l q.v q.n q.m B ∧ N = ⟨some B, N.d, N.put⟩ ∧ ((ms.flatMap memE.f).toArray)[i * 3 + 0]? = some (.pointer (some ⟨b, 0, none⟩)) := by
 obtain ⟨q, hq⟩ := h.mem hN
 obtain ⟨b, x, e1, e2, _⟩ := (h.nds i q _ hq hN).up B hB
 exact ⟨q, b, hq, e1, e2, by cases N; simp at hB; simp [hB], mem_get hq (by omega) (by show some _ = some _; rw [e1]; (first | done | rfl))⟩
theorem c_node_up (h : GrpIs s g na p ms t G) (hf : G.Fit) (k a b : Int) (x : ByteArray) {N : Nd} {B : BS} (hN : G.nodes[G.pl a]? = some N) (hB : N.b = some B) : DCalls Tryz.prog 45 #[gptr g, actV k a b x] s fun y s' => y = .pointer (some ⟨na, G.pl a * 3, none⟩) ∧ s' = s := by
 refine (c_gnode h hf k a b x hN).mono ?_
 rintro y s' ⟨h1, h2⟩
 rw [hB] at h1; exact ⟨h1, h2⟩
theorem c_node_down (h : GrpIs s g na p ms t G) (hf : G.Fit) (k a b : Int) (x : ByteArray) {N : Nd} (hN : G.nodes[G.pl a]? = some N) (hB : N.b = none) : DCalls Tryz.prog 45 #[gptr g, actV k a b x] s fun y s' => y = .pointer none ∧ s' = s := by
 refine (c_gnode h hf k a b x hN).mono ?_
 rintro y s' ⟨h1, h2⟩
 rw [hB] at h1; exact ⟨h1, h2⟩
theorem c_gtimeout (h : GrpIs s g na p ms t G) (hf : G.Fit) (k a b : Int) (x : ByteArray) (hp : ∀ N B, G.nodes[G.pl a]? = some N → N.b = some B → RFit G.nodes.length B.timeout) :
  DCalls Tryz.prog 25 #[gptr g, actV k a b x] s (GrpQ g na p ms t (G.op (G.pl a) BS.timeout) s) := by
 refine ok_gtimeout g k a b x _ s ?_
 unfold vc_gtimeout
 obtain ⟨N, hN⟩ := hf.at_ a
 simp only [RP_call]
 cases hB : N.b with
 | none =>
  refine W.call_of (c_node_down h hf k a b x hN hB) ?_
  rintro _ s ⟨rfl, rfl⟩
  refine ⟨((none, ()), ()), rfl, ?_⟩
  simp only [RP_ite, Option.isNone_none, Bool.not_true, W.br_false]
  rw [op_down hN hB]; exact GrpQ.refl h
 | some B =>
  refine W.call_of (c_node_up h hf k a b x hN hB) ?_
  rintro _ s ⟨rfl, rfl⟩
  refine ⟨((some ⟨na, G.pl a * 3, none⟩, ()), ()), rfl, ?_⟩
  obtain ⟨q, b', hq, e1, hBal, eN, hget⟩ := up_at h hN hB
  simp only [RP_ite, Option.isNone_some, Bool.not_false, W.br_true, RP_unSome, W.unSome_some, add_mk, RP_ld]
  refine ld_blk (c := .ptr) (x := some ⟨b', 0, none⟩) h.arr hget ?_
  have hfB := (hf.nds _ N hN).2.2 B hB
  refine W.call_of (c_Timeout hBal hfB.run.ok hfB.run.lc (by have := hfB.len; omega) hfB.term) ?_
  intro y s1 ho
  rw [eN] at hN
  obtain ⟨ot, ps, l', v', n', m', e, _⟩ := id ho
  refine ⟨((ot, ()), ()), e.symm, ?_⟩
  rw [e] at ho
  refine W.call_of (c_opdone h hf hq hN e1 (hp _ B hN rfl) ho) ?_
  rintro y2 s2 ⟨rfl, hQ2⟩
  refine ⟨(), rfl, ?_⟩
  rw [op_some hN rfl]
  exact ⟨rfl, hQ2⟩
theorem c_gbeat (h : GrpIs s g na p ms t G) (hf : G.Fit) (k a b : Int) (x : ByteArray) (hp : ∀ N B, G.nodes[G.pl a]? = some N → N.b = some B → RFit G.nodes.length B.beat) :
  DCalls Tryz.prog 26 #[gptr g, actV k a b x] s (GrpQ g na p ms t (G.op (G.pl a) BS.beat) s) := by
 refine ok_gbeat g k a b x _ s ?_
 unfold vc_gbeat
 obtain ⟨N, hN⟩ := hf.at_ a
 simp only [RP_call]
 cases hB : N.b with
 | none =>
  refine W.call_of (c_node_down h hf k a b x hN hB) ?_
  rintro _ s ⟨rfl, rfl⟩
  refine ⟨((none, ()), ()), rfl, ?_⟩
  simp only [RP_ite, Option.isNone_none, Bool.not_true, W.br_false]
  rw [op_down hN hB]; exact GrpQ.refl h
 | some B =>
  refine W.call_of (c_node_up h hf k a b x hN hB) ?_
  rintro _ s ⟨rfl, rfl⟩
  refine ⟨((some ⟨na, G.pl a * 3, none⟩, ()), ()), rfl, ?_⟩
  obtain ⟨q, b', hq, e1, hBal, eN, hget⟩ := up_at h hN hB
  simp only [RP_ite, Option.isNone_some, Bool.not_false, W.br_true, RP_unSome, W.unSome_some, add_mk, RP_ld]
  refine ld_blk (c := .ptr) (x := some ⟨b', 0, none⟩) h.arr hget ?_
  have hfB := (hf.nds _ N hN).2.2 B hB
  refine W.call_of (c_Beat hBal hfB.run.ok fun e => (hfB.run.ld e).fed) ?_
  intro y s1 ho
  rw [eN] at hN
  obtain ⟨ot, ps, l', v', n', m', e, _⟩ := id ho
  refine ⟨((ot, ()), ()), e.symm, ?_⟩
  rw [e] at ho
  refine W.call_of (c_opdone h hf hq hN e1 (hp _ B hN rfl) ho) ?_
  rintro y2 s2 ⟨rfl, hQ2⟩
  refine ⟨(), rfl, ?_⟩
  rw [op_some hN rfl]
  exact ⟨rfl, hQ2⟩
theorem c_gpropose (h : GrpIs s g na p ms t G) (hf : G.Fit) (k a b : Int) (x : ByteArray) (hp : 1 ≤ x.size ∧ x.size ≤ 256 → ∀ N B, G.nodes[G.pl a]? = some N → N.b = some B → RFit G.nodes.length (B.propose 0 G.acts x).2) :
  DCalls Tryz.prog 27 #[gptr g, actV k a b x] s (GrpQ g na p ms t (if 1 ≤ x.size ∧ x.size ≤ 256 then G.op (G.pl a) (fun B => (B.propose 0 G.acts x).2) else G) s) := by
 refine ok_gpropose g k a b x _ s ?_
 unfold vc_gpropose
 obtain ⟨N, hN⟩ := hf.at_ a
 obtain ⟨R, hR⟩ : ∃ R : Value → PH → Prop, GrpQ g na p ms t (if 1 ≤ x.size ∧ x.size ≤ 256 then G.op (G.pl a) (fun B => (B.propose 0 G.acts x).2) else G) s = R := ⟨_, rfl⟩
 rw [hR]
 have stay : (1 ≤ x.size ∧ x.size ≤ 256 → N.b = none) → R (.tuple #[]) s := by
  intro hno
  rw [← hR]
  split
  ·rename_i hc
   rw [op_down hN (hno hc)]; exact GrpQ.refl h
  ·exact GrpQ.refl h
 simp only [RP_call]
 cases hB : N.b with
 | none =>
  refine W.call_of (c_node_down h hf k a b x hN hB) ?_
  rintro _ s' ⟨rfl, rfl⟩
  refine ⟨((none, ()), ()), rfl, ?_⟩
  simp only [RP_join, RP_ite, Option.isNone_none, Bool.not_true, W.br_false, W.join_iff, RP_ret, W.ret_iff]
  exact stay fun _ => hB
 | some B =>
  refine W.call_of (c_node_up h hf k a b x hN hB) ?_
  rintro _ s' ⟨rfl, rfl⟩
  refine ⟨((some ⟨na, G.pl a * 3, none⟩, ()), ()), rfl, ?_⟩
  simp only [RP_join]
  refine W.join_gen (fun z s1 => z = ((k, a, b, x, ()), (some ⟨na, G.pl a * 3, none⟩, ()), (decide (1 ≤ x.size ∧ x.size ≤ 256), ()), ()) ∧ s1 = s') ?_ ?_
  ·rintro _ s' ⟨rfl, rfl⟩
   simp only [RP_ite, W.br_iff, decide_eq_true_eq, decide_eq_false_iff_not]
   refine ⟨fun hc => ?_, fun hc => stay fun e => absurd e hc⟩
   obtain ⟨q, b', hq, e1, hBal, eN, hget⟩ := up_at h hN hB
   simp only [RP_unSome, W.unSome_some, add_mk, RP_ld]
   refine ld_blk (c := .ptr) (x := some ⟨b', 0, none⟩) h.arr hget ?_
   simp only [W.unSome_some, add_mk, Nat.zero_add]
   refine ld_blk (c := .int .i64) (x := G.acts) h.cell rfl ?_
   have hfB := (hf.nds _ N hN).2.2 B hB
   refine W.call_of (c_Propose hBal hfB.run.ok hfB.run.ld hfB.run.lc (by have := hfB.len; omega) 0 G.acts x) ?_
   rintro _ s1 ⟨y, rfl, ho⟩
   rw [eN] at hN
   obtain ⟨ot, ps, l', v', n', m', e, _⟩ := id ho
   subst e
   refine ⟨(((B.propose 0 G.acts x).1, ()), (ot, ()), ()), rfl, ?_⟩
   refine W.call_of (c_opdone h hf hq hN e1 (hp hc _ B hN rfl) ho) ?_
   rintro y2 s2 ⟨rfl, hQ2⟩
   refine ⟨(), rfl, ?_⟩
   rw [← hR, if_pos hc, op_some hN rfl]
   exact ⟨rfl, hQ2⟩
  ·intro J hJ
   simp only [RP_ite, Option.isNone_some, Bool.not_false, W.br_true]
   simp only [W.br_iff, decide_eq_true_eq, decide_eq_false_iff_not]
   refine ⟨fun h1 => hJ _ _ ⟨?_, rfl⟩, fun h1 => hJ _ _ ⟨?_, rfl⟩⟩
   ·have e : decide ((x.size : Int) ≤ 256) = decide (1 ≤ x.size ∧ x.size ≤ 256) := by
     have h1 : 1 ≤ x.size := by omega
     simp only [decide_eq_decide]; omega
    rw [e]
   ·have e : false = decide (1 ≤ x.size ∧ x.size ≤ 256) := by
     symm; rw [decide_eq_false_iff_not]; omega
    rw [e]
theorem ndSet_some {i : Nat} {N : Nd} {f : Nd → Nd} (hN : G.nodes[i]? = some N) : G.ndSet i f = { G with nodes := G.nodes.set i (f N) } := by
 unfold Grp.ndSet; rw [hN]
theorem GrpIs.same {N : Nd} {i : Nat} (hN : G.nodes[i]? = some N) : ({ G with nodes := G.nodes.set i N } : Grp) = G := by
 rw [set_same_l hN]
theorem c_gcrash (h : GrpIs s g na p ms t G) (hf : G.Fit) (k a b : Int) (x : ByteArray) :
  DCalls Tryz.prog 28 #[gptr g, actV k a b x] s (GrpQ g na p ms t (G.ndSet (G.pl a) fun N => { N with b := none }) s) := by
 refine ok_gcrash g k a b x _ s ?_
 unfold vc_gcrash
 obtain ⟨N, hN⟩ := hf.at_ a
 rw [ndSet_some hN]
 simp only [RP_call]
 cases hB : N.b with
 | none =>
  refine W.call_of (c_node_down h hf k a b x hN hB) ?_
  rintro _ s ⟨rfl, rfl⟩
  refine ⟨((none, ()), ()), rfl, ?_⟩
  simp only [RP_ite, Option.isNone_none, Bool.not_true, W.br_false]
  have e : ({ N with b := none } : Nd) = N := by cases N; simp at hB; simp [hB]
  rw [e, GrpIs.same hN]; exact GrpQ.refl h
 | some B =>
  refine W.call_of (c_node_up h hf k a b x hN hB) ?_
  rintro _ s ⟨rfl, rfl⟩
  refine ⟨((some ⟨na, G.pl a * 3, none⟩, ()), ()), rfl, ?_⟩
  obtain ⟨q, b', hq, e1, hBal, eN, hget⟩ := up_at h hN hB
  simp only [RP_ite, Option.isNone_some, Bool.not_false, W.br_true, RP_unSome, W.unSome_some, add_mk, RP_st]
  refine st_blk h.arr hget rfl ?_
  rw [mem_set (q' := { q with bp := none }) hq rfl (by omega)]
  have hnd := h.nds _ q _ hq hN
  have hoth := h.oth q (List.mem_of_getElem? hq)
  have hqF : q.F = bL b' q.l q.v q.n q.m ++ (Fw.blk q.xp ++ [q.d, q.dm]) := by unfold Mem.F; rw [e1]
  have m1 : ∀ o, Fw.Mod [na] s (s.upd na o) := fun o => Mod.upd (by simp)
  have hn1 : ∀ o, NdIs (s.upd na o) { q with bp := none } { N with b := none } := fun o =>
   ⟨⟨(m1 o).at hnd.drive.blk (by simp; exact (hoth _ (by rw [hqF]; simp)).2.1), hnd.drive.map.mod (m1 o) (by simp; exact (hoth _ (by rw [hqF]; simp)).2.1)⟩, fun _ => rfl, fun B' e => by cases e⟩
  obtain ⟨u1, u2⟩ := h.upd hq hN (q' := { q with bp := none }) ((m1 _).mono (by simp)) (PH.upd_same _ _ _) (hn1 _) (fun y hy => .inl (by
   have hy : y ∈ [q.d, q.dm] := hy
   rw [hqF]; simp at hy ⊢
   rcases hy with rfl | rfl <;> simp))
  exact ⟨rfl, _, t, u1, u2⟩
theorem c_garm (h : GrpIs s g na p ms t G) (hf : G.Fit) (k a b : Int) (x : ByteArray) :
  DCalls Tryz.prog 30 #[gptr g, actV k a b x] s (GrpQ g na p ms t (G.ndSet (G.pl a) fun N => if N.b.isSome = true then { N with d := N.d.arm b } else N) s) := by
 refine ok_garm g k a b x _ s ?_
 unfold vc_garm
 obtain ⟨N, hN⟩ := hf.at_ a
 rw [ndSet_some hN]
 simp only [RP_call]
 cases hB : N.b with
 | none =>
  refine W.call_of (c_node_down h hf k a b x hN hB) ?_
  rintro _ s ⟨rfl, rfl⟩
  refine ⟨((none, ()), ()), rfl, ?_⟩
  simp only [RP_ite, Option.isNone_none, Bool.not_true, W.br_false]
  simp only [Option.isSome_none, Bool.false_eq_true, if_false]
  rw [GrpIs.same hN]; exact GrpQ.refl h
 | some B =>
  refine W.call_of (c_node_up h hf k a b x hN hB) ?_
  rintro _ s ⟨rfl, rfl⟩
  refine ⟨((some ⟨na, G.pl a * 3, none⟩, ()), ()), rfl, ?_⟩
  obtain ⟨q, b', hq, e1, hBal, eN, hget⟩ := up_at h hN hB
  have hnd := h.nds _ q _ hq hN
  obtain ⟨b0, xx, e1', _, e2, hx⟩ := hnd.up B hB
  rw [e1] at e1'; cases e1'
  have hoth := h.oth q (List.mem_of_getElem? hq)
  have hqF : q.F = bL b' q.l q.v q.n q.m ++ (Fw.blk q.xp ++ [q.d, q.dm]) := by unfold Mem.F; rw [e1]
  simp only [RP_ite, Option.isNone_some, Bool.not_false, W.br_true, RP_unSome, W.unSome_some, add_mk, RP_ld]
  refine ld_blk (c := .ptr) (x := some ⟨q.d, 0, none⟩) h.arr (mem_get hq (k := 1) (by omega) rfl) ?_
  refine W.call_of (c_Arm hnd.drive b) ?_
  rintro _ s1 ⟨rfl, hd1, m1⟩
  refine ⟨(), rfl, ?_⟩
  have hdF : q.d ∈ q.F := by rw [hqF]; simp
  have hn1 : NdIs s1 q { N with d := N.d.arm b } := by
   refine ⟨hd1, fun e => hnd.down e, fun B' e => ?_⟩
   have e : N.b = some B' := e
   rw [hB] at e; cases e
   refine ⟨b', xx, e1, hBal.mod m1 fun y hy => by simp; exact (bal_drive hBal hnd.drive y hy).1, e2, ?_⟩
   refine (show s1 xx = _ from m1.at hx ?_)
   simp
   rintro rfl
   have h1 := hnd.drive.blk
   unfold DiaryIs at hx; rw [hx] at h1; exact absurd (Obj.cells.inj (Option.some.inj h1)).2.1 (by decide)
  obtain ⟨u1, u2⟩ := h.upd hq hN (q' := q) (m1.mono (by simp; exact .inr hdF)) (by rw [set_same_l hq]; exact m1.at h.arr (by simp; exact fun e => (hoth _ hdF).2.1 e.symm)) hn1 (fun y hy => .inl hy)
  rw [if_pos (by simp)]
  rw [hB] at u1
  exact ⟨rfl, _, t, u1, u2⟩
theorem c_gdeliver (h : GrpIs s g na p ms t G) (hf : G.Fit) {M : Msg} (hM : M.Fit ∧ 0 ≤ M.to ∧ M.to < G.nodes.length) (hp : ∀ N B, G.nodes[M.to.toNat]? = some N → N.b = some B → RFit G.nodes.length (B.take M)) :
  DCalls Tryz.prog 40 #[gptr g, letV M, .bool true] s (GrpQ g na p ms t (G.deliver M) s) := by
 refine ok_gdeliver g M.from_ M.to (encMB M) true _ s ?_
 unfold vc_gdeliver
 obtain ⟨hMf, ht0, ht1⟩ := hM
 have hc := h.cell
 have hlen := h.len
 obtain ⟨N, hN⟩ : ∃ N, G.nodes[M.to.toNat]? = some N := ⟨_, List.getElem?_eq_getElem (by omega)⟩
 simp only [RP_unSome, W.unSome_some, add_mk, Nat.zero_add, RP_ld]
 refine ld_blk (c := .slice) (x := (some ⟨na, 0, none⟩, ms.length, ms.length)) hc rfl ?_
 simp only [RP_guard, W.guard_iff, W.unSome_some, add_mk, Nat.zero_add]
 refine ⟨⟨ht0, by omega⟩, ?_⟩
 have eG : G.deliver M = G.op M.to.toNat (·.take M) := rfl
 rw [eG]
 cases hB : N.b with
 | none =>
  obtain ⟨q, hq⟩ := h.mem hN
  have hnd := h.nds _ q _ hq hN
  rw [op_down hN hB]
  simp only [RP_join, RP_ite, W.br_true, W.join_iff, W.unSome_some, add_mk]
  refine ld_blk (c := .ptr) (x := none) h.arr (mem_get hq (k := 0) (by omega) (by show some _ = some _; rw [hnd.down hB]; (first | done | rfl))) ?_
  simp only [Option.isNone_none, Bool.not_true, W.br_false]
  exact GrpQ.refl h
 | some B =>
  obtain ⟨q, b', hq, e1, hBal, eN, hget⟩ := up_at h hN hB
  have hfB := (hf.nds _ N hN).2.2 B hB
  rw [eN] at hN
  simp only [RP_join, RP_ite, W.br_true, W.join_iff, W.unSome_some, add_mk]
  refine ld_blk (c := .ptr) (x := some ⟨b', 0, none⟩) h.arr hget ?_
  simp only [Option.isNone_some, Bool.not_false, W.br_true, RP_call]
  refine W.call_of (c_GetMsg hMf.I hMf.enc) ?_
  rintro _ s1 ⟨mt, rfl, hrow, hfr, m1⟩
  refine ⟨((M.kind, M.from_, M.to, M.term, M.index, M.prev, M.commit, M.good, mt, M.snap, ()), (0, ()), ()), rfl, ?_⟩
  have h1 := h.new m1
  have hBal1 := hBal.new m1
  simp only [W.unSome_some, add_mk]
  refine ld_blk (c := .ptr) (x := some ⟨b', 0, none⟩) h1.arr hget ?_
  refine W.call_of (c_Take hBal1 hfB.run (by have := hfB.len; omega) M mt hrow hMf.len) ?_
  intro y s2 ho
  obtain ⟨ot, ps, l', v', n', m', e, _⟩ := id ho
  subst e
  refine ⟨((ot, ()), ()), rfl, ?_⟩
  refine W.call_of (c_opdone h1 hf hq hN e1 (hp _ B hN rfl) ho) ?_
  rintro y2 s3 hQ
  obtain ⟨e, hQ2⟩ := id hQ
  subst e
  refine ⟨(), rfl, ?_⟩
  rw [op_some hN rfl]
  exact hQ.trans ⟨m1.mono (by simp), fun z hz => .inl hz⟩
theorem c_gnoletter (h : GrpIs s g na p ms t G) (hf : G.Fit) : DCalls Tryz.prog 40 #[gptr g, noLet, .bool false] s (GrpQ g na p ms t G s) := by
 refine ok_gdeliver g 0 0 ⟨#[]⟩ false _ s ?_
 unfold vc_gdeliver
 have hc := h.cell
 have hlen := h.len
 have := hf.sz
 simp only [RP_unSome, W.unSome_some, add_mk, Nat.zero_add, RP_ld]
 refine ld_blk (c := .slice) (x := (some ⟨na, 0, none⟩, ms.length, ms.length)) hc rfl ?_
 simp only [RP_guard, W.guard_iff, W.unSome_some, add_mk, Nat.zero_add]
 refine ⟨⟨by omega, by show (0 : Int) < (ms.length : Int); omega⟩, ?_⟩
 simp only [RP_join, RP_ite, W.br_false, W.join_iff, RP_ret, W.ret_iff]
 exact GrpQ.refl h
theorem bag_at (h : GrpIs s g na p ms t G) (hf : G.Fit) (a : Int) : At G.bag (plc a G.bag.length) := plc_At a (by have := hf.len; omega)
theorem c_gcopy (h : GrpIs s g na p ms t G) (hf : G.Fit) (k a b : Int) (x : ByteArray) (hp : ∀ M, G.bag[(plc a G.bag.length).toNat]? = some M → ∀ N B, G.nodes[M.to.toNat]? = some N → N.b = some B → RFit G.nodes.length (B.take M)) :
  DCalls Tryz.prog 23 #[gptr g, actV k a b x] s (GrpQ g na p ms t (match G.bag[(plc a G.bag.length).toNat]? with | some m => G.deliver m | none => G) s) := by
 refine ok_gcopy g k a b x _ s ?_
 unfold vc_gcopy
 have hc := h.cell
 simp only [RP_unSome, W.unSome_some, add_mk, Nat.zero_add, RP_ld]
 refine ld_blk (c := .ptr) (x := some ⟨p, 0, none⟩) hc rfl ?_
 simp only [W.unSome_some, add_mk, Nat.zero_add]
 refine ld_blk (c := .ptr) (x := some ⟨p, 0, none⟩) hc rfl ?_
 simp only [RP_callQ]
 refine W.callQ_of (((G.bag.length : Int), ()), ()) (c_pLen h.post) rfl ?_
 refine W.callQ_of ((plc a G.bag.length, ()), ()) (c_place a G.bag.length s) rfl ?_
 simp only [RP_call]
 refine W.call_of (c_pCopy h.post (bag_at h hf a)) ?_
 rintro _ s ⟨rfl, rfl⟩
 cases hM : G.bag[(plc a G.bag.length).toNat]? with
 | none =>
  refine ⟨((0, 0, ⟨#[]⟩, ()), (false, ()), ()), rfl, ?_⟩
  refine W.call_of (c_gnoletter h hf) ?_
  rintro y s1 ⟨rfl, hQ⟩
  exact ⟨(), rfl, rfl, hQ⟩
 | some M =>
  refine ⟨((M.from_, M.to, encMB M, ()), (true, ()), ()), rfl, ?_⟩
  refine W.call_of (c_gdeliver h hf (hf.bag M (List.mem_of_getElem? hM)) (hp M hM)) ?_
  rintro y s1 ⟨rfl, hQ⟩
  exact ⟨(), rfl, rfl, hQ⟩
theorem Grp.Fit.less (hf : G.Fit) (i : Nat) : ({ G with bag := G.bag.eraseIdx i } : Grp).Fit :=
 ⟨hf.nds, hf.disk, fun m hm => hf.bag m (List.mem_of_mem_eraseIdx hm), by
  show (G.bag.eraseIdx i).length ≤ 1000000
  have := hf.len
  have := List.length_eraseIdx_le G.bag i
  omega, hf.sz, hf.acts⟩
theorem c_gtake (h : GrpIs s g na p ms t G) (hf : G.Fit) (k a b : Int) (x : ByteArray) (hp : ∀ M, G.bag[(plc a G.bag.length).toNat]? = some M → ∀ N B, G.nodes[M.to.toNat]? = some N → N.b = some B → RFit G.nodes.length (B.take M)) :
  DCalls Tryz.prog 22 #[gptr g, actV k a b x] s (GrpQ g na p ms t (match G.bag[(plc a G.bag.length).toNat]? with | some m => ({ G with bag := G.bag.eraseIdx (plc a G.bag.length).toNat } : Grp).deliver m | none => G) s) := by
 refine ok_gtake g k a b x _ s ?_
 unfold vc_gtake
 have hc := h.cell
 simp only [RP_unSome, W.unSome_some, add_mk, Nat.zero_add, RP_ld]
 refine ld_blk (c := .ptr) (x := some ⟨p, 0, none⟩) hc rfl ?_
 simp only [W.unSome_some, add_mk, Nat.zero_add]
 refine ld_blk (c := .ptr) (x := some ⟨p, 0, none⟩) hc rfl ?_
 simp only [RP_callQ]
 refine W.callQ_of (((G.bag.length : Int), ()), ()) (c_pLen h.post) rfl ?_
 refine W.callQ_of ((plc a G.bag.length, ()), ()) (c_place a G.bag.length s) rfl ?_
 simp only [RP_call]
 refine W.call_of (c_pTake h.post (bag_at h hf a) (by have := hf.len; omega)) ?_
 rintro _ s1 ⟨rfl, t1, hp1, m1, hf1⟩
 obtain ⟨h1, st1⟩ := h.sent hp1 m1 fun z hz => .inl (hf1 z hz)
 cases hM : G.bag[(plc a G.bag.length).toNat]? with
 | none =>
  refine ⟨((0, 0, ⟨#[]⟩, ()), (false, ()), ()), rfl, ?_⟩
  have e : G.bag.eraseIdx (plc a G.bag.length).toNat = G.bag := List.eraseIdx_of_length_le (by rw [List.getElem?_eq_none_iff] at hM; exact hM)
  rw [e] at h1
  refine W.call_of (c_gnoletter h1 hf) ?_
  rintro y s2 hQ
  obtain ⟨e2, _⟩ := id hQ
  subst e2
  exact ⟨(), rfl, hQ.trans st1⟩
 | some M =>
  refine ⟨((M.from_, M.to, encMB M, ()), (true, ()), ()), rfl, ?_⟩
  refine W.call_of (c_gdeliver h1 (hf.less _) (hf.bag M (List.mem_of_getElem? hM)) (hp M hM)) ?_
  rintro y s2 hQ
  obtain ⟨e2, _⟩ := id hQ
  subst e2
  exact ⟨(), rfl, hQ.trans st1⟩
theorem c_glose (h : GrpIs s g na p ms t G) (hf : G.Fit) (k a b : Int) (x : ByteArray) :
  DCalls Tryz.prog 24 #[gptr g, actV k a b x] s (GrpQ g na p ms t { G with bag := G.bag.eraseIdx (plc a G.bag.length).toNat } s) := by
 refine ok_glose g k a b x _ s ?_
 unfold vc_glose
 have hc := h.cell
 simp only [RP_unSome, W.unSome_some, add_mk, Nat.zero_add, RP_ld]
 refine ld_blk (c := .ptr) (x := some ⟨p, 0, none⟩) hc rfl ?_
 simp only [W.unSome_some, add_mk, Nat.zero_add]
 refine ld_blk (c := .ptr) (x := some ⟨p, 0, none⟩) hc rfl ?_
 simp only [RP_callQ]
 refine W.callQ_of (((G.bag.length : Int), ()), ()) (c_pLen h.post) rfl ?_
 refine W.callQ_of ((plc a G.bag.length, ()), ()) (c_place a G.bag.length s) rfl ?_
 simp only [RP_call]
 refine W.call_of (c_pLose h.post (bag_at h hf a) (by have := hf.len; omega)) ?_
 rintro _ s1 ⟨bb, rfl, _, t1, hp1, m1, hf1⟩
 obtain ⟨h1, st1⟩ := h.sent hp1 m1 fun z hz => .inl (hf1 z hz)
 exact ⟨((bb, ()), ()), rfl, rfl, ms, t1, h1, st1⟩
end
end
section
attribute [-simp] Fw.W.ld_iff Fw.W.st_iff
theorem scan_few (s : ByteArray) : (scanB s).1.length ≤ s.size := by
 have h := scanB_spec s
 have h2 := congrArg ByteArray.size h
 rw [recs_len_le, ByteArray.size_extract] at h2
 have h3 : (scanB s).1.length ≤ ((scanB s).1.map fun p => 8 + p.size).sum := by
  generalize (scanB s).1 = l
  induction l with
  | nil => simp
  | cons p l ih => simp only [List.length_cons, List.map_cons, List.sum_cons]; omega
 omega
theorem scan_small (s : ByteArray) : ∀ p ∈ (scanB s).1, p.size ≤ 65536 := by
 intro p hp
 have := scanB_small s
 unfold bigB at this
 simp only [List.any_eq_false, decide_eq_true_eq] at this
 have := this p hp
 omega
theorem BS.Fit.texts {B : BS} (h : B.Fit) : B.texts.length ≤ 1100000000 ∧ ∀ p ∈ B.texts, p.size ≤ 65536 := by
 unfold BS.texts
 have h1 := scan_few B.snap
 have h2 := h.snap
 have h3 := h.len
 constructor
 ·have h4 := List.length_filter_le (fun t : ByteArray => t.size != 0) ((B.log.take (B.commit - B.base).toNat).map (·.text))
  rw [List.length_map, List.length_take] at h4
  rw [List.length_append]; omega
 ·intro p hp
  rcases List.mem_append.1 hp with hp | hp
  ·exact scan_small _ p hp
  ·have hp := (List.mem_filter.1 hp).1
   obtain ⟨e, he, rfl⟩ := List.mem_map.1 hp
   exact (h.ents e (List.mem_of_mem_take he)).2
theorem entry_at {B : BS} {k : Nat} (hk : B.base + 1 + k ≤ B.lst) : B.entry (B.base + 1 + k) = B.log[k]? := by
 unfold BS.entry
 rw [if_neg (by omega)]
 congr 1
 omega
def TxZ (B : BS) (s0 : PH) (z : MDen [(false, [.slice]), (true, [.int .i64, .int .i64, .int .i64, .int .i64, .int .i64, .int .i64, .int .i64]), (false, [.int .i64])]) (s' : PH) : Prop :=
 ∃ (k : Nat) (tt : Tri), z = ((tt, ()), (B.term, B.vote, B.role, B.lead, B.base, B.lst, B.commit, ()), (B.base + 1 + (k : Int), ()), ()) ∧ (k : Int) ≤ B.commit - B.base ∧
  rowE strE s' 9 tt.1 tt.2.1 tt.2.2 ((scanB B.snap).1 ++ ((B.log.take k).map (·.text)).filter fun t => t.size != 0) ∧ (∀ x ∈ Fw.blk tt.1, s0 x = none) ∧ Fw.Mod [] s0 s'
def TextsQ (B : BS) (s : PH) (y : Value) (s' : PH) : Prop := ∃ tt : Tri, y = tt.v ∧ rowE strE s' 9 tt.1 tt.2.1 tt.2.2 B.texts ∧ (∀ x ∈ Fw.blk tt.1, s x = none) ∧ Fw.Mod [] s s'
theorem c_gtexts {s : PH} {b : Nat} {l v n m : Tri} {B : BS} (h : Bal s b l v n m B) (hf : B.Fit) : DCalls Tryz.prog 33 #[.pointer (some ⟨b, 0, none⟩)] s (TextsQ B s) := by
 refine ok_gtexts b _ s ?_
 unfold vc_gtexts
 have hok := hf.run.ok
 have hlc := hf.run.lc
 have hb0 := hok.small.base0
 have hb1 := hok.base
 have hlst := lst_def B
 have hlen := hf.len
 have hsnap := hf.snap
 have hcom := hok.com
 simp only [RP_call]
 refine W.call_of (c_Snap h) ?_
 rintro _ s ⟨rfl, rfl⟩
 refine ⟨((B.snap, ()), ()), rfl, ?_⟩
 refine W.call_of (c_Scan B.snap (by omega) s) ?_
 rintro _ s1 ⟨a, c, rfl, hrow, hfr, m1⟩
 refine ⟨(((a, (scanB B.snap).1.length, c), ()), (((scanB B.snap).2 : Int), ()), ()), rfl, ?_⟩
 refine W.call_of (c_Stand (h.new m1) hok.small) ?_
 rintro _ s2 ⟨rfl, m2⟩
 refine ⟨((B.term, B.vote, B.role, B.lead, B.base, B.lst, B.commit, ()), ()), rfl, ?_⟩
 have hw : i64.wrap (B.base + 1) = B.base + 1 := wrap_in (by omega) (by omega)
 simp only [hw, RP_loop]
 refine ⟨TxZ B s, fun z _ => (B.commit + 1 - z.2.2.1.1).toNat, ⟨0, (a, (scanB B.snap).1.length, c), by simp, by show ((0 : Nat) : Int) ≤ _; omega, ?_, hfr, m1.trans m2⟩, ?_⟩
 ·simpa using hrow.mod m2 (by simp)
 rintro _ s3 ⟨k, tt, rfl, hk, hrow3, hf3, m3⟩
 simp only [RP_ite, W.br_iff, decide_eq_true_eq, decide_eq_false_iff_not]
 have hcomm : B.base + 1 + (k : Int) ≤ B.commit ∨ (k : Int) = B.commit - B.base := by omega
 refine ⟨fun hle => ?_, fun hge => ?_⟩
 ·have hle : B.base + 1 + (k : Int) ≤ B.commit := hle
  refine W.call_of (c_Entry (h.new m3) hok.small (i := B.base + 1 + k) (by unfold Num; omega)) ?_
  rintro _ s4 ⟨rfl, m4⟩
  have hkl : k < B.log.length := by omega
  obtain ⟨e, he⟩ : ∃ e, B.log[k]? = some e := ⟨_, List.getElem?_eq_getElem hkl⟩
  rw [entry_at (by omega), he]
  refine ⟨((e.term, e.at_, e.born, e.text, ()), (true, ()), ()), rfl, ?_⟩
  have hrow4 := hrow3.mod m4 (by simp)
  have hnext : i64.wrap (B.base + 1 + (k : Int) + 1) = B.base + 1 + ((k + 1 : Nat) : Int) := by rw [wrap_in (by omega) (by omega)]; omega
  have htake : (B.log.take (k + 1)).map (·.text) = (B.log.take k).map (·.text) ++ [e.text] := by rw [List.take_add_one, he]; simp
  have hmu : (B.commit + 1 - (B.base + 1 + ((k + 1 : Nat) : Int))).toNat < (B.commit + 1 - (B.base + 1 + (k : Int))).toNat := by omega
  by_cases hz : e.text.size = 0
  ·have ht : e.text = ⟨#[]⟩ := by
    apply toL_inj
    have : (toL e.text).length = 0 := by rw [toL_len]; exact hz
    rw [List.length_eq_zero_iff.1 this]
   have hbe : (!e.text.toList == (ByteArray.mk #[]).toList) = false := by rw [ht]; simp
   simp only [hbe, W.br_false, hnext]
   refine ⟨⟨k + 1, tt, rfl, by omega, ?_, hf3, m3.trans m4⟩, hmu⟩
   rw [htake, List.filter_append]
   simpa [hz] using hrow4
  ·have hbe : (!e.text.toList == (ByteArray.mk #[]).toList) = true := by
    rw [toList_beq, decide_eq_false (fun e' => hz (by rw [e']; (first | done | rfl)))]; (first | done | rfl)
   simp only [hbe, W.br_true, hnext, RP_nw, RP_app]
   have hll : ((scanB B.snap).1 ++ ((B.log.take k).map (·.text)).filter fun t => t.size != 0).length ≤ 1099511627776 := by
    have h1 := scan_few B.snap
    have h4 := List.length_filter_le (fun t : ByteArray => t.size != 0) ((B.log.take k).map (·.text))
    rw [List.length_map, List.length_take] at h4
    rw [List.length_append]; omega
   refine growS (s0 := s) (x := e.text) hrow4 hf3 (m3.trans m4) hll ?_
   intro a' c' s5 hrow5 hf5 m5
   refine ⟨⟨k + 1, (a', tt.2.1 + 1, c'), rfl, by omega, ?_, hf5, m5⟩, hmu⟩
   rw [htake, List.filter_append, ← List.append_assoc]
   have : [e.text].filter (fun t => t.size != 0) = [e.text] := by simp [hz]
   rw [this]; exact hrow5
 ·have hkk : (k : Int) = B.commit - B.base := by
   have hge : ¬ (B.base + 1 + (k : Int) ≤ B.commit) := hge
   omega
  have e : (B.commit - B.base).toNat = k := by omega
  refine ⟨tt, rfl, ?_, hf3, m3⟩
  unfold BS.texts
  rw [e]; exact hrow3
theorem foldl_take {α β : Type} (f : β → α → β) (b : β) {l : List α} {k : Nat} {x : α} (h : l[k]? = some x) : (l.take (k + 1)).foldl f b = f ((l.take k).foldl f b) x := by
 rw [List.take_add_one, h, List.foldl_append]; (first | done | rfl)
theorem snapOf_size : ∀ (ts : List ByteArray) (a : ByteArray), (∀ p ∈ ts, p.size ≤ 65536) → (ts.foldl (fun a t => a ++ (putE t).1) a).size ≤ a.size + ts.length * 65544
 | [], a, _ => by simp
 | t :: ts, a, h => by
  have h1 := snapOf_size ts (a ++ (putE t).1) fun p hp => h p (by simp [hp])
  have h2 := h t (by simp)
  have h3 : (putE t).1.size ≤ 65544 := by
   unfold putE
   split
   ·exact Nat.zero_le _
   ·show (recB t).size ≤ _
    rw [recB_size]; omega
  rw [ByteArray.size_append] at h1
  simp only [List.foldl_cons, List.length_cons]
  omega
section
variable {s s1 : PH} {g na p : Nat} {ms : List Mem} {t : Tri} {G : Grp}
def CutZ (g na p : Nat) (ms : List Mem) (t : Tri) (G : Grp) (ad : Addr) (B : BS) (tt : Tri) (s0 : PH) (z : MDen [(false, [.ptr]), (false, [.str]), (false, [.slice]), (false, [.int .i64]), (false, [.int .i64])]) (s' : PH) : Prop :=
 ∃ (k : Nat), z = ((some ad, ()), (snapOf (B.texts.take k), ()), (tt, ()), ((tt.2.1 : Int), ()), ((k : Int), ()), ()) ∧ k ≤ tt.2.1 ∧ s' = s0
theorem c_gcut (h : GrpIs s g na p ms t G) (hf : G.Fit) (k a b : Int) (x : ByteArray) (hp : ∀ N B, G.nodes[G.pl a]? = some N → N.b = some B → RFit G.nodes.length B.cutAll) :
  DCalls Tryz.prog 31 #[gptr g, actV k a b x] s (GrpQ g na p ms t (G.op (G.pl a) BS.cutAll) s) := by
 refine ok_gcut g k a b x _ s ?_
 unfold vc_gcut
 obtain ⟨N, hN⟩ := hf.at_ a
 simp only [RP_call]
 cases hB : N.b with
 | none =>
  refine W.call_of (c_node_down h hf k a b x hN hB) ?_
  rintro _ s ⟨rfl, rfl⟩
  refine ⟨((none, ()), ()), rfl, ?_⟩
  simp only [RP_ite, Option.isNone_none, W.br_true]
  rw [op_down hN hB]; exact GrpQ.refl h
 | some B =>
  refine W.call_of (c_node_up h hf k a b x hN hB) ?_
  rintro _ s ⟨rfl, rfl⟩
  refine ⟨((some ⟨na, G.pl a * 3, none⟩, ()), ()), rfl, ?_⟩
  obtain ⟨q, b', hq, e1, hBal, eN, hget⟩ := up_at h hN hB
  have hfB := (hf.nds _ N hN).2.2 B hB
  obtain ⟨htl, htz⟩ := hfB.texts
  simp only [RP_ite, Option.isNone_some, W.br_false, RP_unSome, W.unSome_some, add_mk, RP_ld]
  refine ld_blk (c := .ptr) (x := some ⟨b', 0, none⟩) h.arr hget ?_
  refine W.call_of (c_gtexts hBal hfB) ?_
  rintro _ s1 ⟨tt, rfl, hrow, hfr, m1⟩
  refine ⟨((tt, ()), ()), rfl, ?_⟩
  have h1 := h.new m1
  have hBal1 := hBal.new m1
  have htn : tt.2.1 = B.texts.length := hrow.len
  simp only [RP_loop]
  refine ⟨CutZ g na p ms t G ⟨na, G.pl a * 3, none⟩ B tt s1, fun z _ => ((tt.2.1 : Int) - z.2.2.2.2.1.1).toNat, ⟨0, rfl, Nat.zero_le _, rfl⟩, ?_⟩
  rintro _ s1 ⟨i, rfl, hi, rfl⟩
  have hsz : (snapOf (B.texts.take i)).size ≤ 1100000000 * 65544 := by
   have := snapOf_size (B.texts.take i) ⟨#[]⟩ fun p hp => htz p (List.mem_of_mem_take hp)
   have h2 : (B.texts.take i).length ≤ 1100000000 := by rw [List.length_take]; omega
   have h0 : (ByteArray.mk #[]).size = 0 := rfl
   rw [h0] at this
   unfold snapOf
   have h3 : (B.texts.take i).length * 65544 ≤ 1100000000 * 65544 := Nat.mul_le_mul_right _ h2
   omega
  simp only [W.br_iff, decide_eq_true_eq, decide_eq_false_iff_not]
  refine ⟨fun hlt => ?_, fun hge => ?_⟩
  ·have hlt : i < tt.2.1 := by omega
   obtain ⟨y, hy⟩ : ∃ y, B.texts[i]? = some y := ⟨_, List.getElem?_eq_getElem (by omega)⟩
   obtain ⟨q', hq', hh⟩ := hrow.at hy
   have hyz := htz y (List.mem_of_getElem? hy)
   simp only [RP_guard, W.guard_iff, Int.toNat_natCast, hq', W.unSome_some, add_mk, Nat.zero_add]
   refine ⟨by show (0 : Int) ≤ (i : Int) ∧ (i : Int) < (tt.2.1 : Int); omega, (y, ()), hh, ?_⟩
   refine W.call_of (c_Put y s1) ?_
   rintro _ s1 ⟨rfl, rfl⟩
   refine ⟨(((putE y).1, ()), ((putE y).2, ()), ()), rfl, ?_⟩
   have h3 : (putE y).1.size ≤ 65544 := by
    unfold putE
    split
    ·exact Nat.zero_le _
    ·show (recB y).size ≤ _
     rw [recB_size]; omega
   refine ⟨by show (((snapOf (B.texts.take i)).size + (putE y).1.size : Nat) : Int) ≤ 9223372036854775807; omega, ⟨⟨i + 1, ?_, hlt, rfl⟩, ?_⟩⟩
   ·rw [wrap_succ (by omega), ← hq']
    have : snapOf (B.texts.take (i + 1)) = snapOf (B.texts.take i) ++ (putE y).1 := foldl_take _ _ hy
    rw [this]
   ·rw [wrap_succ (by omega)]
    show ((tt.2.1 : Int) - ((i + 1 : Nat) : Int)).toNat < ((tt.2.1 : Int) - ((i : Nat) : Int)).toNat
    omega
  ·have hii : i = B.texts.length := by omega
   subst hii
   rw [List.take_length] at hsz ⊢
   simp only [W.unSome_some, add_mk]
   refine ld_blk (c := .ptr) (x := some ⟨b', 0, none⟩) h1.arr hget ?_
   simp only [W.unSome_some, add_mk]
   refine ld_blk (c := .ptr) (x := some ⟨b', 0, none⟩) h1.arr hget ?_
   refine W.call_of (c_Stand hBal1 hfB.run.ok.small) ?_
   rintro _ s2 ⟨rfl, m2⟩
   refine ⟨((B.term, B.vote, B.role, B.lead, B.base, B.lst, B.commit, ()), ()), rfl, ?_⟩
   have h2 := h1.new m2
   simp only [RP_still]
   refine (W.still_iff _ _ _ _ _ _).2 ⟨has_one ?_, ?_⟩
   ·unfold PH.cell?; dsimp only; rw [h2.arr]; exact hget
   refine W.call_of (c_Cut (hBal1.new m2) hfB.run.ok.small hfB.run.ok.base hfB.run.lc B.commit (snapOf B.texts)) ?_
   rintro _ s3 ⟨l', rfl, hB3, st3⟩
   refine ⟨((B.cuts B.commit, ()), ()), rfl, ?_⟩
   rw [eN] at hN
   have ho : OpPost B.cutAll b' (bL b' q.l q.v q.n q.m) s2 (Tri.v noTri) s3 := ⟨noTri, [], l', q.v, q.n, q.m, rfl, hB3, st3, Msgs.nil _, rfl, by simp [mF, Fw.blk]⟩
   refine W.call_of (c_opdone h2 hf hq hN e1 (hp _ B hN rfl) ho) ?_
   rintro y s4 hQ
   obtain ⟨e, _⟩ := id hQ
   subst e
   refine ⟨(), rfl, ?_⟩
   rw [op_some hN rfl]
   exact hQ.trans ⟨(m1.trans m2).mono (by simp), fun z hz => .inl hz⟩
end
end
section
def txs (F : List Ent) : List ByteArray := (F.map (·.text)).filter fun t => t.size != 0
theorem txs_app (F G : List Ent) : txs (F ++ G) = txs F ++ txs G := by unfold txs; rw [List.map_append, List.filter_append]
theorem txs_mem {F : List Ent} {t : ByteArray} (h : t ∈ txs F) : ∃ e ∈ F, e.text = t := by
 unfold txs at h
 obtain ⟨e, he, rfl⟩ := List.mem_map.1 (List.mem_filter.1 h).1
 exact ⟨e, he, rfl⟩
theorem txs_len (F : List Ent) : (txs F).length ≤ F.length := by
 unfold txs
 have := List.length_filter_le (fun t : ByteArray => t.size != 0) (F.map (·.text))
 rw [List.length_map] at this; exact this
theorem snap_foldl : ∀ (ts : List ByteArray) (a : ByteArray), (∀ t ∈ ts, t.size ≤ 65536) → ts.foldl (fun a t => a ++ (putE t).1) a = a ++ recsB ts
 | [], a, _ => by
  apply toL_inj; rw [toL_append]; unfold recsB; rw [toL_ofL]; simp [Strip.recs]
 | t :: ts, a, h => by
  have h1 := snap_foldl ts (a ++ (putE t).1) fun p hp => h p (by simp [hp])
  have h2 := h t (by simp)
  rw [List.foldl_cons, h1]
  have e : (putE t).1 = recsB [t] := by
   unfold putE; rw [if_neg (by omega)]
   show recB t = _
   unfold recB recsB; simp [Strip.recs]
  rw [e, show t :: ts = [t] ++ ts from rfl, recsB_app, ByteArray.append_assoc]
theorem scan_snap {ts : List ByteArray} (h : ∀ t ∈ ts, t.size ≤ 65536) : (scanB (snapOf ts)).1 = ts := by
 have e : snapOf ts = recsB ts := by
  unfold snapOf; rw [snap_foldl ts _ h]
  apply toL_inj; rw [toL_append]; simp
 rw [e, scanB_recs]
 unfold bigB
 simp only [List.any_eq_false, decide_eq_true_eq]
 intro t ht
 have := h t ht
 omega
structure Rep (B : BS) (F : List Ent) : Prop where
 b0 : 0 ≤ B.base
 bl : B.base.toNat ≤ F.length
 log : B.log = F.drop B.base.toNat
 bt : B.baseTerm = tm F B.base.toNat
 sn : B.snap = snapOf (txs (F.take B.base.toNat))
section
variable {B B' : BS} {F F' : List Ent}
theorem Rep.same (h : Rep B F) (h1 : B'.base = B.base := by rfl) (h2 : B'.log = B.log := by rfl) (h3 : B'.baseTerm = B.baseTerm := by rfl) (h4 : B'.snap = B.snap := by rfl) : Rep B' F :=
 ⟨by rw [h1]; exact h.b0, by rw [h1]; exact h.bl, by rw [h1, h2]; exact h.log, by rw [h1, h3]; exact h.bt, by rw [h1, h4]; exact h.sn⟩
theorem Rep.lst (h : Rep B F) : B.lst = F.length := by
 have h1 := h.b0
 have h2 := h.bl
 have e := lst_def B
 rw [h.log, List.length_drop] at e
 omega
theorem Rep.ent (h : Rep B F) {k : Nat} (h1 : B.base ≤ k) : B.log[k - B.base.toNat]? = F[k]? := by
 have := h.b0
 rw [h.log, List.getElem?_drop]
 congr 1; omega
theorem Rep.entry (h : Rep B F) {k : Nat} (h1 : B.base < k) (h2 : k ≤ F.length) : B.entry k = F[k - 1]? := by
 have h0 := h.b0
 have hl := h.lst
 unfold BS.entry
 rw [if_neg (by omega)]
 have := h.ent (k := k - 1) (by omega)
 rw [← this]; congr 1; omega
theorem Rep.term (h : Rep B F) {k : Nat} (h1 : B.base ≤ k) (h2 : k ≤ F.length) : B.termAt k = (tm F k, true) := by
 have h0 := h.b0
 unfold BS.termAt
 split
 ·rename_i e
  rw [h.bt, ← e, Int.toNat_natCast]
 ·rename_i e
  obtain ⟨x, hx, ht⟩ := tm_get (F := F) (k := k) (by omega) h2
  rw [h.entry (by omega) h2, hx, ht]; (first | done | rfl)
theorem Rep.termI (h : Rep B F) {i : Int} (h1 : B.base ≤ i) (h2 : i ≤ F.length) : B.termAt i = (tm F i.toNat, true) := by
 have h0 := h.b0
 have := h.term (k := i.toNat) (by omega) (by omega)
 rwa [show ((i.toNat : Nat) : Int) = i by omega] at this
theorem Rep.yes (h : Rep B F) {i t : Int} (ht : B.termAt i = (t, true)) : B.base ≤ i ∧ i ≤ F.length ∧ tm F i.toNat = t := by
 have h0 := h.b0
 have hb : B.base ≤ i := by
  apply Classical.byContradiction
  intro hn
  unfold BS.termAt BS.entry at ht
  rw [if_neg (by omega), if_pos (by omega)] at ht
  cases ht
 have hl := termAt_le (B := B) (i := i) (by rw [ht]) hb
 rw [h.lst] at hl
 rw [h.termI hb hl] at ht
 exact ⟨hb, hl, (Prod.mk.inj ht).1⟩
theorem Rep.setL (h : Rep B F) {i : Int} (h1 : B.base < i) (h2 : i ≤ F.length + 1) (ys : List Ent) : Rep (B.set i ys) (F.take (i - 1).toNat ++ ys) := by
 have h0 := h.b0
 have hl := h.bl
 have hlen : (F.take (i - 1).toNat).length = (i - 1).toNat := by rw [List.length_take]; omega
 have hb : B.base.toNat ≤ (F.take (i - 1).toNat).length := by omega
 have htk : (F.take (i - 1).toNat ++ ys).take B.base.toNat = F.take B.base.toNat := by
  rw [List.take_append_of_le_length hb, List.take_take, Nat.min_eq_left (by omega)]
 refine ⟨h0, by show B.base.toNat ≤ _; rw [List.length_append]; omega, ?_, ?_, ?_⟩
 ·show B.log.take (i - B.base - 1).toNat ++ ys = List.drop B.base.toNat _
  rw [h.log, List.drop_append_of_le_length hb]
  congr 1
  rw [List.drop_take]
  congr 1; omega
 ·show B.baseTerm = tm _ B.base.toNat
  rw [h.bt]
  have p : Pre B.base.toNat F (F.take (i - 1).toNat ++ ys) := ⟨hl, by rw [List.length_append]; omega, htk.symm⟩
  exact p.tm (Nat.le_refl _)
 ·show B.snap = snapOf (txs (List.take B.base.toNat _))
  rw [h.sn, htk]
theorem Rep.snoc (h : Rep B F) (e : Ent) : Rep (B.set (B.lst + 1) [e]) (F ++ [e]) := by
 have hb := h.bl
 have h0 := h.b0
 rw [h.lst]
 have := h.setL (i := (F.length : Int) + 1) (by omega) (Int.le_refl _) [e]
 rwa [show ((F.length : Int) + 1 - 1).toNat = F.length by omega, List.take_length] at this
theorem Rep.texts (h : Rep B F) (hE : ∀ e ∈ F, e.text.size ≤ 65536) (h1 : B.base ≤ B.commit) (h2 : B.commit ≤ B.lst) : B.texts = txs (F.take B.commit.toNat) := by
 have h0 := h.b0
 have hl := h.lst
 unfold BS.texts
 rw [h.sn, scan_snap fun t ht => by obtain ⟨e, he, rfl⟩ := txs_mem ht; exact hE e (List.mem_of_mem_take he), h.log]
 have e : F.take B.commit.toNat = F.take B.base.toNat ++ (F.drop B.base.toNat).take (B.commit - B.base).toNat := by
  rw [show (B.commit - B.base).toNat = B.commit.toNat - B.base.toNat by omega, List.take_drop]
  rw [show B.base.toNat + (B.commit.toNat - B.base.toNat) = B.commit.toNat by omega]
  have := List.take_append_drop B.base.toNat (F.take B.commit.toNat)
  rw [List.take_take, Nat.min_eq_left (by omega)] at this
  exact this.symm
 rw [e, txs_app]; (first | done | rfl)
end
structure NodeOk (gh : Gh) (n i : Nat) (B : BS) (F : List Ent) : Prop where
 rep : Rep B F
 id : B.id = i
 sz : B.size = n
 lt : i < n
 ct : gh.ct i = B.term
 vt : gh.vt B.term i = if 0 ≤ B.vote then some B.vote.toNat else none
 vlt : B.vote < n
 lg : LogOk gh B.term F
 ack : ∀ T k, 0 < k → k ≤ gh.ak T i → tm (gh.LL T) k = T → gh.cho n T k → Pre k (gh.LL T) F
 com : ComOk gh n B.term F B.commit.toNat
 ld : B.role = 2 → gh.ldr B.term = some i ∧ gh.LL B.term = F ∧ gh.ak B.term i = F.length ∧ 1 ≤ B.term ∧ ∀ (j : Nat) x, B.mat[j]? = some x → j ≠ i → x.toNat ≤ gh.ak B.term j
 cnd : B.role = 1 → gh.cd B.term i = some F ∧ B.vote = i ∧ gh.ldr B.term ≠ some i ∧ 1 ≤ B.term ∧ ∀ (j : Nat), B.votes[j]? = some true → gh.vt B.term j = some i
 fut : ∀ T, B.term < T → gh.cd T i = none ∧ gh.ldr T ≠ some i
structure LetOk (gh : Gh) (n : Nat) (M : Msg) : Prop where
 fr : 0 ≤ M.from_ ∧ M.from_ < n
 to : 0 ≤ M.to ∧ M.to < n
 ask : M.kind = 1 → ∃ C, gh.cd M.term M.from_.toNat = some C ∧ M.index = C.length ∧ M.prev = tm C C.length
 vote : M.kind = 2 → M.good = true → gh.vt M.term M.from_.toNat = some M.to.toNat
 feed : M.kind = 3 → gh.ldr M.term ≠ none ∧ 0 ≤ M.index ∧ M.index.toNat + M.list.length ≤ (gh.LL M.term).length ∧ M.list = ((gh.LL M.term).drop M.index.toNat).take M.list.length ∧ M.prev = tm (gh.LL M.term) M.index.toNat ∧
  M.commit.toNat ≤ (gh.LL M.term).length ∧ ComOk gh n M.term (gh.LL M.term) M.commit.toNat
 fed : M.kind = 4 → M.good = true → M.index.toNat ≤ gh.ak M.term M.from_.toNat
 give : M.kind = 5 → gh.ldr M.term ≠ none ∧ 0 ≤ M.index ∧ M.index.toNat ≤ (gh.LL M.term).length ∧ M.prev = tm (gh.LL M.term) M.index.toNat ∧ M.snap = snapOf (txs ((gh.LL M.term).take M.index.toNat)) ∧ ComOk gh n M.term (gh.LL M.term) M.index.toNat
 few : M.list.length ≤ 8
 fit : M.Fit
section
variable {i j n A : Nat} {g h : Gh} {B : BS} {F : List Ent}
theorem NodeOk.stp (hg : GhOk g n A) (s : Stp i g h) (hj : j ≠ i) (hN : NodeOk g n j B F) : NodeOk h n j B F := by
 obtain ⟨o1, o2⟩ := s.oth j hj
 have hld : ∀ T, h.ldr T = some j → g.ldr T = some j := fun T e => by
  rcases s.ld T with a | ⟨_, a⟩
  ·rw [← a]; exact e
  ·rw [a] at e; cases e; exact absurd rfl hj
 refine ⟨hN.rep, hN.id, hN.sz, hN.lt, o1.trans hN.ct, (o2 _).1.trans hN.vt, hN.vlt, hN.lg.stp s, fun T k h0 h1 h2 h3 => ?_, hN.com.stp s, fun hr => ?_, fun hr => ?_, fun T hT => ?_⟩
 ·rw [(o2 T).2.2] at h1
  have b := hg.akb T j (by omega)
  rw [s.tm b.1 (by omega)] at h2
  exact ((hN.ack T k h0 h1 h2 (s.cho h3)).symm.ext (s.ll T b.1)).symm
 ·obtain ⟨a1, a2, a3, a4, a5⟩ := hN.ld hr
  have hl : h.ldr B.term = some j := by rw [s.ldn (by rw [a1]; simp)]; exact a1
  refine ⟨hl, ?_, (o2 _).2.2.trans a3, a4, fun u x hx hu => Nat.le_trans (a5 u x hx hu) (s.ak _ _)⟩
  rcases s.lls B.term with e | e
  ·rw [e]; exact a2
  ·rw [hl] at e; cases e; exact absurd rfl hj
 ·obtain ⟨a1, a2, a3, a4, a5⟩ := hN.cnd hr
  exact ⟨(o2 _).2.1.trans a1, a2, fun e => a3 (hld _ e), a4, fun u hu => s.vt _ _ _ (a5 u hu)⟩
 ·obtain ⟨a1, a2⟩ := hN.fut T hT
  exact ⟨(o2 _).2.1.trans a1, fun e => a2 (hld _ e)⟩
theorem LetOk.stp {M : Msg} (s : Stp i g h) (hM : LetOk g n M) : LetOk h n M := by
 refine ⟨hM.fr, hM.to, fun hk => ?_, fun hk hgd => s.vt _ _ _ (hM.vote hk hgd), fun hk => ?_, fun hk hgd => Nat.le_trans (hM.fed hk hgd) (s.ak _ _), fun hk => ?_, hM.few, hM.fit⟩
 ·obtain ⟨C, c1, c2⟩ := hM.ask hk
  exact ⟨C, s.cd _ _ _ c1, c2⟩
 ·obtain ⟨a1, a2, a3, a4, a5, a6, a7⟩ := hM.feed hk
  obtain ⟨t, ht⟩ := s.ll _ a1
  refine ⟨s.ldk a1, a2, by rw [← ht, List.length_append]; omega, ?_, by rw [s.tm a1 (by omega)]; exact a5, by rw [← ht, List.length_append]; omega, (a7.stp s).mono (Int.le_refl _) (Nat.le_refl _) ((pre_of (s.ll _ a1) a6).symm)⟩
  rw [← ht, List.drop_append_of_le_length (by omega), List.take_append_of_le_length (by rw [List.length_drop]; omega)]
  exact a4
 ·obtain ⟨a1, a2, a3, a4, a5, a6⟩ := hM.give hk
  obtain ⟨t, ht⟩ := s.ll _ a1
  refine ⟨s.ldk a1, a2, by rw [← ht, List.length_append]; omega, by rw [s.tm a1 (by omega)]; exact a4, ?_, (a6.stp s).mono (Int.le_refl _) (Nat.le_refl _) ((pre_of (s.ll _ a1) a3).symm)⟩
  rw [← ht, List.take_append_of_le_length a3]; exact a5
theorem LogOk.ents (hg : GhOk g n A) {T : Int} (hF : LogOk g T F) : ∀ e ∈ F, EntOk A e ∧ 1 ≤ e.term ∧ e.term ≤ T := by
 intro e he
 obtain ⟨k, hk⟩ := List.mem_iff_getElem?.1 he
 obtain ⟨a1, a2, a3, a4⟩ := hF k e hk
 rw [a4.get (by omega)] at hk
 exact ⟨(hg.ll _ a3).2.2 e (List.mem_of_getElem? hk), a1, a2⟩
theorem LogOk.len (hg : GhOk g n A) {T : Int} (hF : LogOk g T F) : F.length ≤ A := by
 rcases Nat.eq_zero_or_pos F.length with h | h
 ·omega
 ·obtain ⟨a1, a2, a3, a4⟩ := hF.bound h (Nat.le_refl _)
  have := a4.r
  have := (hg.ll _ a3).2.1
  omega
theorem LogOk.tms {T : Int} (hF : LogOk g T F) (h0 : 0 ≤ T) (k : Nat) : 0 ≤ tm F k ∧ tm F k ≤ T := by
 rcases Nat.eq_zero_or_pos k with h | h
 ·subst h; exact ⟨Int.le_refl _, h0⟩
 ·by_cases hk : k ≤ F.length
  ·have := hF.bound h hk; omega
  ·have : tm F k = 0 := by
    cases k with
    | zero => rfl
    | succ k => simp only [tm]; rw [List.getElem?_eq_none (by omega)]
   omega
end
def OpOk (g : Gh) (n A i : Nat) (R : BS × List Msg) : Prop := ∃ h F, Stp i g h ∧ GhOk h n A ∧ NodeOk h n i R.1 F ∧ ∀ M ∈ R.2, LetOk h n M
end
section
theorem cnt_mat {B : BS} {p : Nat → Bool} {c : Int} {i : Nat} (hid : B.id = i) (hp : ∀ (j : Nat) x, B.mat[j]? = some x → j ≠ i → c ≤ x → p j = true) (hi : p i = true) (hc : 0 < c) : ∀ k, B.cnt c k + (if i < k then 1 else 0) ≤ cnt k p
 | 0 => by rw [if_neg (by omega)]; exact Nat.le_refl _
 | k + 1 => by
  have ih := cnt_mat hid hp hi hc k
  simp only [cnt]
  rw [B.cnt_succ]
  by_cases hk : k = i
  ·subst hk
   rw [if_neg (by rintro ⟨h, _⟩; exact h hid.symm), if_pos (Nat.lt_succ_self _), if_pos hi]
   rw [if_neg (Nat.lt_irrefl _)] at ih
   omega
  ·have e : (if i < k + 1 then 1 else 0 : Nat) = if i < k then 1 else 0 := by
    by_cases h : i < k
    ·rw [if_pos h, if_pos (by omega)]
    ·rw [if_neg h, if_neg (by omega)]
   rw [e]
   by_cases hh : (k : Int) ≠ B.id ∧ c ≤ (B.mat[k]?).getD 0
   ·rw [if_pos hh]
    obtain ⟨x, hx⟩ : ∃ x, B.mat[k]? = some x := by
     cases h : B.mat[k]? with
     | none => rw [h] at hh; have := hh.2; simp at this; omega
     | some x => exact ⟨x, rfl⟩
    have h2 := hh.2
    rw [hx] at h2
    rw [if_pos (hp k x hx hk h2)]
    omega
   ·rw [if_neg hh]; omega
theorem cnt_votes {l : List Bool} {p : Nat → Bool} (hp : ∀ (j : Nat), l[j]? = some true → p j = true) : ∀ k, k ≤ l.length → ((l.take k).filter _root_.id).length ≤ cnt k p
 | 0, _ => by simp
 | k + 1, hk => by
  have ih := cnt_votes hp k (by omega)
  obtain ⟨b, hb⟩ : ∃ b, l[k]? = some b := ⟨_, List.getElem?_eq_getElem (by omega)⟩
  rw [List.take_add_one, hb, List.filter_append, List.length_append]
  simp only [cnt]
  cases b with
  | true => rw [if_pos (hp k hb)]; simp; omega
  | false => simp; omega
theorem mem_others {B : BS} {f : Nat → Msg} {k : Nat} {M : Msg} (h : M ∈ B.others f k) : ∃ j, j < k ∧ (j : Int) ≠ B.id ∧ M = f j := by
 unfold BS.others at h
 obtain ⟨j, hj, rfl⟩ := List.mem_map.1 h
 obtain ⟨h1, h2⟩ := List.mem_filter.1 hj
 refine ⟨j, List.mem_range.1 h1, ?_, rfl⟩
 simpa using h2
structure Sml (n A : Nat) (z : Int) : Prop where
 n : n ≤ 5
 A : A ≤ 1000
 z : 0 ≤ z ∧ z ≤ 900000
theorem Ent.i64 {A : Nat} (hA : A ≤ 1000) {e : Ent} (h : EntOk A e) (ht : 0 ≤ e.term ∧ e.term ≤ 4000000000000) : e.I ∧ e.text.size ≤ 65536 := by
 obtain ⟨h1, h2, h3, h4⟩ := h
 refine ⟨⟨?_, ?_, ?_⟩, by omega⟩ <;> unfold I64 <;> omega
theorem Msg.Fit.of {A : Nat} {M : Msg} (hA : A ≤ 1000) (h1 : 0 ≤ M.kind ∧ M.kind ≤ 5) (h2 : 0 ≤ M.from_ ∧ M.from_ ≤ 5) (h3 : 0 ≤ M.to ∧ M.to ≤ 5) (h4 : 0 ≤ M.term ∧ M.term ≤ 4000000000000) (h5 : -10 ≤ M.index ∧ M.index ≤ 4000000000000)
  (h6 : 0 ≤ M.prev ∧ M.prev ≤ 4000000000000) (h7 : 0 ≤ M.commit ∧ M.commit ≤ 4000000000000) (hl : ∀ e ∈ M.list, EntOk A e ∧ 0 ≤ e.term ∧ e.term ≤ 4000000000000) (hf : M.list.length ≤ 8) (hs : M.snap.size ≤ 1073741824) : M.Fit := by
 refine ⟨⟨?_, fun e he => (Ent.i64 hA (hl e he).1 (hl e he).2).1, by omega⟩, fun e he => (Ent.i64 hA (hl e he).1 (hl e he).2).2, by omega, hs⟩
 intro x hx
 unfold Msg.nums at hx
 unfold I64
 simp only [List.mem_cons, List.not_mem_nil, or_false] at hx
 rcases hx with rfl | rfl | rfl | rfl | rfl | rfl | rfl <;> omega
section
variable {i n A : Nat} {g : Gh} {B : BS} {F : List Ent} {z : Int}
theorem snap_small (hA : A ≤ 1000) (hg : GhOk g n A) {T : Int} (hF : LogOk g T F) (k : Nat) : (snapOf (txs (F.take k))).size ≤ 1073741824 := by
 have h1 := snapOf_size (txs (F.take k)) ⟨#[]⟩ fun t ht => by
  obtain ⟨e, he, rfl⟩ := txs_mem ht
  have := (hF.ents hg e (List.mem_of_mem_take he)).1.1
  omega
 have h2 := txs_len (F.take k)
 have h3 := hF.len hg
 rw [List.length_take] at h2
 have h4 : (ByteArray.mk #[]).size = 0 := rfl
 unfold snapOf
 omega
theorem NodeOk.bounds (hN : NodeOk g n i B F) (hI : B.Inv z) (hS : Sml n A z) : 0 ≤ B.term ∧ B.term ≤ 3000000000000 ∧ B.lst = F.length ∧ B.base ≤ B.commit ∧ B.commit ≤ F.length ∧ 0 ≤ B.base ∧ 0 ≤ B.commit := by
 have h1 := hI.term
 have h2 := hS.z
 have hF : FAR = 1099511627776 := rfl
 have h3 := hN.rep.lst
 have h4 := hI.run.lc
 have h5 := hI.run.ok.com
 have h6 := hN.rep.b0
 omega
theorem NodeOk.fit (hg : GhOk g n A) (hN : NodeOk g n i B F) (hI : B.Inv z) (hS : Sml n A z) (hfr : B.Fr) : B.Fit := by
 obtain ⟨b1, b2, b3, b4, b5, b6, b7⟩ := hN.bounds hI hS
 have hl := hN.lg.len hg
 have hA := hS.A
 have hv := hN.vlt
 have hn := hS.n
 have hv2 := hI.vote
 have ht := hN.lg.tms b1 B.base.toNat
 rw [← hN.rep.bt] at ht
 have hlen := lst_def B
 refine ⟨hI.run, hfr, by unfold Num; omega, by unfold I64; omega, by unfold I64; omega, fun e he => ?_, by omega, by rw [hN.rep.sn]; exact snap_small hS.A hg hN.lg _⟩
 rw [hN.rep.log] at he
 obtain ⟨a1, a2, a3⟩ := hN.lg.ents hg e (List.mem_of_mem_drop he)
 exact Ent.i64 hS.A a1 (by omega)
theorem NodeOk.feedM (hg : GhOk g n A) (hN : NodeOk g n i B F) (hr : B.role = 2) (hI : B.Inv z) (hS : Sml n A z) {to nx : Int} (hto : 0 ≤ to ∧ to < n) (hnx : 0 ≤ nx ∧ nx ≤ B.lst + 1) : LetOk g n (B.feedM to nx) := by
 obtain ⟨b1, b2, b3, b4, b5, b6, b7⟩ := hN.bounds hI hS
 have hlt := hN.lt
 have hid := hN.id
 have hn := hS.n
 obtain ⟨a1, a2, a3, a4, a5⟩ := hN.ld hr
 have hne : g.ldr B.term ≠ none := by rw [a1]; simp
 have hl := hN.lg.len hg
 have hA := hS.A
 unfold BS.feedM
 split
 ·have ht := hN.lg.tms b1 B.base.toNat
  rw [← hN.rep.bt] at ht
  refine ⟨by show 0 ≤ B.id ∧ B.id < _; omega, hto, fun e => absurd e (by show ¬ (5 : Int) = 1; omega), fun e => absurd e (by show ¬ (5 : Int) = 2; omega), fun e => absurd e (by show ¬ (5 : Int) = 3; omega), fun e => absurd e (by show ¬ (5 : Int) = 4; omega), fun _ => ?_, by show 0 ≤ 8; omega, ?_⟩
  ·show g.ldr B.term ≠ none ∧ 0 ≤ B.base ∧ B.base.toNat ≤ (g.LL B.term).length ∧ B.baseTerm = tm (g.LL B.term) B.base.toNat ∧ B.snap = snapOf (txs ((g.LL B.term).take B.base.toNat)) ∧ ComOk g n B.term (g.LL B.term) B.base.toNat
   rw [a2]
   exact ⟨hne, b6, hN.rep.bl, hN.rep.bt, hN.rep.sn, hN.com.mono (Int.le_refl _) (by omega) (Pre.refl hN.rep.bl)⟩
  ·exact Msg.Fit.of hA (by show (0 : Int) ≤ 5 ∧ (5 : Int) ≤ 5; omega) (by show 0 ≤ B.id ∧ B.id ≤ 5; omega) (by show 0 ≤ to ∧ to ≤ 5; omega) (by show 0 ≤ B.term ∧ B.term ≤ _; omega) (by show _ ≤ B.base ∧ B.base ≤ _; omega) (by show 0 ≤ B.baseTerm ∧ B.baseTerm ≤ _; omega)
    (by show (0 : Int) ≤ 0 ∧ (0 : Int) ≤ _; omega) (fun e he => absurd he (by show e ∉ ([] : List Ent); simp)) (by show 0 ≤ 8; omega) (by show B.snap.size ≤ _; rw [hN.rep.sn]; exact snap_small hA hg hN.lg _)
 ·rename_i hgt
  obtain ⟨k, hk⟩ : ∃ k : Nat, nx - 1 = k := ⟨(nx - 1).toNat, by omega⟩
  have hkl : k ≤ F.length := by omega
  have htm : (B.termAt (nx - 1)).1 = tm F k := by rw [hk, hN.rep.term (by omega) hkl]
  have hli : (B.log.drop (nx - B.base - 1).toNat).take 8 = (F.drop k).take 8 := by
   rw [hN.rep.log, List.drop_drop]
   congr 2; omega
  have ht := hN.lg.tms b1 k
  have hln : ((F.drop k).take 8).length = min 8 (F.length - k) := by rw [List.length_take, List.length_drop]
  rw [hli, htm, hk]
  refine ⟨by show 0 ≤ B.id ∧ B.id < _; omega, hto, fun e => absurd e (by show ¬ (3 : Int) = 1; omega), fun e => absurd e (by show ¬ (3 : Int) = 2; omega), fun _ => ?_, fun e => absurd e (by show ¬ (3 : Int) = 4; omega), fun e => absurd e (by show ¬ (3 : Int) = 5; omega), by show ((F.drop k).take 8).length ≤ 8; omega, ?_⟩
  ·show g.ldr B.term ≠ none ∧ (0 : Int) ≤ (k : Int) ∧ (k : Int).toNat + ((F.drop k).take 8).length ≤ (g.LL B.term).length ∧ (F.drop k).take 8 = ((g.LL B.term).drop (k : Int).toNat).take ((F.drop k).take 8).length ∧ tm F k = tm (g.LL B.term) (k : Int).toNat ∧ B.commit.toNat ≤ (g.LL B.term).length ∧ ComOk g n B.term (g.LL B.term) B.commit.toNat
   rw [a2, Int.toNat_natCast]
   refine ⟨hne, by omega, by omega, ?_, rfl, by omega, hN.com⟩
   rw [hln, List.take_eq_take_iff, List.length_drop]; omega
  ·refine Msg.Fit.of hA (by show (0 : Int) ≤ 3 ∧ (3 : Int) ≤ 5; omega) (by show 0 ≤ B.id ∧ B.id ≤ 5; omega) (by show 0 ≤ to ∧ to ≤ 5; omega) (by show 0 ≤ B.term ∧ B.term ≤ _; omega) (by show _ ≤ (k : Int) ∧ (k : Int) ≤ _; omega) (by show 0 ≤ tm F k ∧ tm F k ≤ _; omega)
    (by show 0 ≤ B.commit ∧ B.commit ≤ _; omega) (fun e he => ?_) (by show ((F.drop k).take 8).length ≤ 8; omega) (by show (ByteArray.mk #[]).size ≤ _; decide)
   have he : e ∈ (F.drop k).take 8 := he
   obtain ⟨c1, c2, c3⟩ := hN.lg.ents hg e (List.mem_of_mem_drop (List.mem_of_mem_take he))
   exact ⟨c1, by omega⟩
theorem NodeOk.feeds (hg : GhOk g n A) (hN : NodeOk g n i B F) (hr : B.role = 2) (hI : B.Inv z) (hS : Sml n A z) : ∀ M ∈ B.feeds, LetOk g n M := by
 intro M hM
 obtain ⟨j, hj, hne, rfl⟩ := mem_others hM
 have hsz := hN.sz
 have hL := hI.run.ld hr
 refine hN.feedM hg hr hI hS (by omega) ?_
 cases h : B.next[j]? with
 | none => rw [List.getElem?_eq_none_iff, hL.nlen] at h; omega
 | some x => exact hL.nr j x h
theorem reply {i n : Nat} {g : Gh} {B : BS} (hid : B.id = i) (hlt : i < n) (hn : n ≤ 5) (hb : 0 ≤ B.term ∧ B.term ≤ 3000000000000) {to x : Int} {kd : Int} {gd : Bool} (hto : 0 ≤ to ∧ to < n) (hx : -10 ≤ x ∧ x ≤ 3000000000000) (hk : kd = 2 ∨ kd = 4)
  (h2 : kd = 2 → gd = true → g.vt B.term i = some to.toNat) (h4 : kd = 4 → gd = true → x.toNat ≤ g.ak B.term i) : LetOk g n { B.msg kd to with good := gd, index := x } := by
 have hid2 : B.id.toNat = i := by omega
 refine ⟨by show 0 ≤ B.id ∧ B.id < _; omega, hto, fun e => absurd e (by show ¬ kd = 1; omega), fun e hgd => ?_, fun e => absurd e (by show ¬ kd = 3; omega), fun e hgd => ?_, fun e => absurd e (by show ¬ kd = 5; omega), by show 0 ≤ 8; omega, ?_⟩
 ·show g.vt B.term B.id.toNat = some to.toNat
  rw [hid2]; exact h2 e hgd
 ·show x.toNat ≤ g.ak B.term B.id.toNat
  rw [hid2]; exact h4 e hgd
 ·exact Msg.Fit.of (A := 0) (by omega) (by show 0 ≤ kd ∧ kd ≤ 5; omega) (by show 0 ≤ B.id ∧ B.id ≤ 5; omega) (by show 0 ≤ to ∧ to ≤ 5; omega) (by show 0 ≤ B.term ∧ B.term ≤ _; omega) (by show _ ≤ x ∧ x ≤ _; omega) (by show (0 : Int) ≤ 0 ∧ (0 : Int) ≤ _; omega)
   (by show (0 : Int) ≤ 0 ∧ (0 : Int) ≤ _; omega) (fun e he => absurd he (by show e ∉ ([] : List Ent); simp)) (by show 0 ≤ 8; omega) (by show (ByteArray.mk #[]).size ≤ _; decide)
theorem best_wins (B : BS) : ∀ (d : Nat) (c : Int), B.best d = some c → B.wins c = true
 | 0, c, h => by cases h
 | d + 1, c, h => by
  simp only [BS.best] at h
  split at h
  ·rename_i hw; cases h; exact hw
  ·exact best_wins B d c h
theorem NodeOk.settled (hg : GhOk g n A) (hN : NodeOk g n i B F) (hr : B.role = 2) (hI : B.Inv z) (hS : Sml n A z) : NodeOk g n i B.settled.1 F ∧ ∀ M ∈ B.settled.2, LetOk g n M := by
 obtain ⟨b1, b2, b3, b4, b5, b6, b7⟩ := hN.bounds hI hS
 have hIs := Inv.settled hI
 unfold BS.settled at hIs ⊢
 cases hb : B.best (B.lst - B.commit).toNat with
 | none => exact ⟨hN, fun M hM => absurd hM (by simp)⟩
 | some c =>
  rw [hb] at hIs
  obtain ⟨c1, c2⟩ := best_in B _ c hb
  have hw := best_wins B _ c hb
  have hL := hI.run.ld hr
  obtain ⟨a1, a2, a3, a4, a5⟩ := hN.ld hr
  unfold BS.wins at hw
  simp only [Bool.and_eq_true, beq_iff_eq, decide_eq_true_eq] at hw
  obtain ⟨w1, w2⟩ := hw
  rw [hN.rep.termI (by omega) (by omega)] at w1
  have hsz := hN.sz
  have hlt := hN.lt
  have hcom : Com g n B.term c.toNat := by
   refine ⟨by rw [a1]; simp, by omega, by rw [a2]; omega, by rw [a2]; exact w1, ?_⟩
   have := cnt_mat (B := B) (p := fun v => decide (c.toNat ≤ g.ak B.term v)) (c := c) hN.id (fun j x hx hj hle => by
    simp only [decide_eq_true_eq]
    have := a5 j x hx hj
    omega) (by simp only [decide_eq_true_eq]; rw [a3]; omega) (by omega) B.mat.length
   rw [if_pos (by rw [hL.mlen]; omega)] at this
   have hml : B.mat.length = n := by rw [hL.mlen]; omega
   rw [hml] at this w2
   unfold Maj
   omega
  have hN' : NodeOk g n i { B with commit := c } F := ⟨hN.rep.same, hN.id, hN.sz, hN.lt, hN.ct, hN.vt, hN.vlt, hN.lg, hN.ack, .inr ⟨B.term, c.toNat, Int.le_refl _, hcom, Nat.le_refl _, by rw [a2]; exact Pre.refl (show c.toNat ≤ F.length by omega)⟩, hN.ld, hN.cnd, hN.fut⟩
  exact ⟨hN', hN'.feeds hg hr hIs hS⟩
def Room (g : Gh) (A : Nat) : Prop := 1 ≤ A ∧ ∀ T, g.ldr T ≠ none → (g.LL T).length + 1 ≤ A
theorem LogOk.room (hR : Room g A) {T : Int} (hF : LogOk g T F) : F.length + 1 ≤ A := by
 rcases Nat.eq_zero_or_pos F.length with h | h
 ·have := hR.1; omega
 ·obtain ⟨a1, a2, a3, a4⟩ := hF.bound h (Nat.le_refl _)
  have := a4.r
  have := hR.2 _ a3
  omega
theorem NodeOk.grow (hg : GhOk g n A) (hN : NodeOk g n i B F) (hld : g.ldr B.term = none ∨ g.ldr B.term = some i ∧ g.LL B.term = F) {e : Ent} {B' : BS} (hrep : Rep B' (F ++ [e])) (e1 : B'.id = B.id) (e2 : B'.size = B.size) (e3 : B'.term = B.term) (e4 : B'.vote = B.vote) (e5 : B'.commit = B.commit)
  (hr : B'.role = 2) (ht : 1 ≤ B.term) (hg' : GhOk (g.grow i B.term (F ++ [e])) n A) (hm : ∀ (j : Nat) x, B'.mat[j]? = some x → j ≠ i → x.toNat ≤ g.ak B.term j) (hc : B.commit.toNat ≤ F.length) : NodeOk (g.grow i B.term (F ++ [e])) n i B' (F ++ [e]) := by
 have s := grow_stp (e := e) hg hN.ct hld
 refine ⟨hrep, e1.trans hN.id, e2.trans hN.sz, hN.lt, by rw [e3]; exact hN.ct, by rw [e3, e4]; exact hN.vt, by rw [e4]; exact hN.vlt, ?_, fun T k h0 h1 h2 h3 => ?_, ?_, fun _ => ?_, fun h => absurd (h.symm.trans hr) (by decide), fun T hT => ?_⟩
 ·have := (hg'.ll B.term (by rw [grow_ld]; simp)).1
  rw [grow_ll] at this
  rw [e3]; exact this
 ·by_cases hT : T = B.term
  ·subst hT
   rw [grow_ak] at h1
   rw [grow_ll]; exact Pre.refl h1
  ·have ea : (g.grow i B.term (F ++ [e])).ak T i = g.ak T i := if_neg fun h => hT h.1
   have el : (g.grow i B.term (F ++ [e])).LL T = g.LL T := if_neg hT
   rw [ea] at h1
   rw [el] at h2 ⊢
   exact (hN.ack T k h0 h1 h2 (s.cho h3)).ext (List.prefix_append _ _)
 ·rw [e3, e5]
  exact (hN.com.stp s).mono (Int.le_refl _) (Nat.le_refl _) (pre_of (List.prefix_append _ _) hc).symm
 ·rw [e3]
  exact ⟨grow_ld, grow_ll, grow_ak, ht, fun j x hx hj => Nat.le_trans (hm j x hx hj) (s.ak _ _)⟩
 ·rw [e3] at hT
  have hne : T ≠ B.term := by omega
  exact ⟨(hN.fut T hT).1, by rw [show (g.grow i B.term (F ++ [e])).ldr T = g.ldr T from if_neg hne]; exact (hN.fut T hT).2⟩
theorem OpOk.of (hg : GhOk g n A) {R : BS × List Msg} (hN : NodeOk g n i R.1 F) (hM : ∀ M ∈ R.2, LetOk g n M) : OpOk g n A i R := ⟨g, F, Stp.refl i g, hg, hN, hM⟩
theorem OpOk.pre {h : Gh} (s : Stp i g h) {B' : BS} {m1 m2 : List Msg} (hm : ∀ M ∈ m1, LetOk h n M) (ho : OpOk h n A i (B', m2)) : OpOk g n A i (B', m1 ++ m2) := by
 obtain ⟨k, F, s2, hg, hN, hM⟩ := ho
 refine ⟨k, F, s.trans s2, hg, hN, fun M h => ?_⟩
 rcases List.mem_append.1 h with h | h
 ·exact (hm M h).stp s2
 ·exact hM M h
theorem NodeOk.counted (hg : GhOk g n A) (hR : Room g A) (hN : NodeOk g n i B F) (hr : B.role = 1) (hI : B.Inv z) (hS : Sml n A (z + 1)) (hz : 0 ≤ z) : OpOk g n A i B.counted := by
 have hS0 : Sml n A z := ⟨hS.n, hS.A, hz, by have := hS.z; omega⟩
 obtain ⟨b1, b2, b3, b4, b5, b6, b7⟩ := hN.bounds hI hS0
 unfold BS.counted
 split
 ·exact OpOk.of hg hN fun M hM => absurd hM (by simp)
 ·rename_i hv
  have hsz := hN.sz
  obtain ⟨a1, a2, a3, a4, a5⟩ := hN.cnd hr
  have hw : Maj n fun v => decide (g.vt B.term v = some i) := by
   have h1 := cnt_votes (l := B.votes) (p := fun v => decide (g.vt B.term v = some i)) (fun j hj => by simp only [decide_eq_true_eq]; exact a5 j hj) B.votes.length (Nat.le_refl _)
   rw [List.take_length] at h1
   have h2 := hI.run.vt hr
   have h3 : B.votes.length = n := by omega
   rw [h3] at h1
   unfold BS.nvotes at hv
   unfold Maj; omega
  have hln : g.ldr B.term = none := by
   cases hl : g.ldr B.term with
   | none => rfl
   | some l =>
    obtain ⟨v, v1, v2, v3⟩ := hw.meet (hg.won B.term l hl).2
    simp only [decide_eq_true_eq] at v2 v3
    rw [v2] at v3; cases v3
    exact absurd hl a3
  have hroom := hN.lg.room hR
  have hF1 := hg.cdo B.term i F a1
  have hg' : GhOk (g.grow i B.term (F ++ [{ noEnt with term := B.term }])) n A := by
   refine grow_ok hg hN.ct (.inl hln) ⟨hN.lt, hw⟩ a4 rfl hN.lg (fun T0 k h1 h2 h3 h4 h5 h6 => ?_) (fun _ k h1 h2 h3 => ?_) hroom (fun x hx => (hN.lg.ents hg x hx).1) ⟨by show (ByteArray.mk #[]).size ≤ _; decide, rfl, Int.le_refl _, by show (0 : Int) ≤ _; omega⟩
   ·obtain ⟨v, v1, v2, v3⟩ := h6.meet hw
    simp only [decide_eq_true_eq] at v2 v3
    have hvc := hg.vct _ _ _ v3
    obtain ⟨C, d1, d2⟩ := hg.vi _ _ _ v3 hln
    rw [a1] at d1; cases d1
    exact d2 T0 k h1 h3 (by omega) h5 h6
   ·have := (hF1.bound h1 h2).2.1
    omega
  have hN3 := hN.grow hg (.inl hln) (e := { noEnt with term := B.term }) (B' := B.lead2.set (B.lst + 1) [{ noEnt with term := B.term }]) (Rep.snoc (B := B.lead2) hN.rep.same _) rfl rfl rfl rfl rfl rfl a4 hg' (fun j x hx hj => by
   have hx : (List.replicate B.size.toNat (0 : Int))[j]? = some x := hx
   rw [List.getElem?_replicate] at hx
   split at hx
   ·cases hx; exact Nat.zero_le _
   ·cases hx) (by omega)
  have hI3 : (B.lead2.set (B.lst + 1) [{ noEnt with term := B.term }]).Inv (z + 1) :=
   Inv.set (ys := [{ noEnt with term := B.term }]) (Inv.lead2 hI) (by show B.commit < B.lst + 1; omega) (Int.le_refl _) (by have := hS.z; simp; omega) fun _ => rfl
  obtain ⟨hN4, hM4⟩ := hN3.settled hg' rfl hI3 hS
  have hMf := hN3.feeds hg' rfl hI3 hS
  refine ⟨_, _, grow_stp hg hN.ct (.inl hln), hg', hN4, fun M hM => ?_⟩
  rcases List.mem_append.1 hM with hM | hM
  ·exact hMf M hM
  ·exact hM4 M hM
theorem NodeOk.proposed (hg : GhOk g n A) (hR : Room g A) (hN : NodeOk g n i B F) (hI : B.Inv z) (hS : Sml n A (z + 1)) (hz : 0 ≤ z) {born : Int} {x : ByteArray} (hb : 0 ≤ born ∧ born ≤ A) (hx : x.size ≤ 256) : OpOk g n A i (B.propose 0 born x).2 := by
 have hS0 : Sml n A z := ⟨hS.n, hS.A, hz, by have := hS.z; omega⟩
 obtain ⟨b1, b2, b3, b4, b5, b6, b7⟩ := hN.bounds hI hS0
 unfold BS.propose
 split
 ·rename_i hr
  obtain ⟨a1, a2, a3, a4, a5⟩ := hN.ld hr
  have hne : g.ldr B.term ≠ none := by rw [a1]; simp
  have hroom := hN.lg.room hR
  have hg' : GhOk (g.grow i B.term (F ++ [⟨B.term, 0, born, x⟩])) n A := by
   refine grow_ok hg hN.ct (.inr ⟨a1, a2⟩) (hg.won _ _ a1) a4 rfl hN.lg (fun T0 k h1 h2 h3 h4 h5 h6 => ?_) (fun h => absurd h hne) hroom (fun x hx => (hN.lg.ents hg x hx).1) ⟨hx, rfl, hb.1, hb.2⟩
   rw [← a2]; exact hg.lc T0 B.term k h1 h2 hne h3 h4 h5 h6
  have hN3 := hN.grow hg (.inr ⟨a1, a2⟩) (e := ⟨B.term, 0, born, x⟩) (B' := B.proposed 0 born x) (Rep.snoc hN.rep _) rfl rfl rfl rfl rfl hr a4 hg' (fun j y hy hj => a5 j y hy hj) (by omega)
  have hI3 : (B.proposed 0 born x).Inv (z + 1) := Inv.set (ys := [⟨B.term, 0, born, x⟩]) hI (by omega) (Int.le_refl _) (by have := hS.z; simp; omega) fun _ => rfl
  obtain ⟨hN4, hM4⟩ := hN3.settled hg' hr hI3 hS
  have hMf := hN3.feeds hg' hr hI3 hS
  refine ⟨_, _, grow_stp hg hN.ct (.inr ⟨a1, a2⟩), hg', hN4, fun M hM => ?_⟩
  rcases List.mem_append.1 hM with hM | hM
  ·exact hMf M hM
  ·exact hM4 M hM
 ·exact OpOk.of hg hN fun M hM => absurd hM (by simp)
theorem NodeOk.beat (hg : GhOk g n A) (hN : NodeOk g n i B F) (hI : B.Inv z) (hS : Sml n A z) : OpOk g n A i B.beat := by
 unfold BS.beat
 refine OpOk.of hg hN fun M hM => ?_
 dsimp only at hM
 split at hM
 ·rename_i hr; exact hN.feeds hg hr hI hS M hM
 ·cases hM
theorem NodeOk.cutAll (hg : GhOk g n A) (hN : NodeOk g n i B F) (hI : B.Inv z) (hS : Sml n A z) : OpOk g n A i B.cutAll := by
 obtain ⟨b1, b2, b3, b4, b5, b6, b7⟩ := hN.bounds hI hS
 unfold BS.cutAll BS.cut
 split
 ·exact OpOk.of hg hN fun M hM => absurd hM (by simp)
 ·refine OpOk.of (F := F) hg ⟨⟨b7, by show B.commit.toNat ≤ _; omega, ?_, ?_, ?_⟩, hN.id, hN.sz, hN.lt, hN.ct, hN.vt, hN.vlt, hN.lg, hN.ack, hN.com, hN.ld, hN.cnd, hN.fut⟩ fun M hM => absurd hM (by simp)
  ·show B.log.drop (B.commit - B.base).toNat = F.drop B.commit.toNat
   rw [hN.rep.log, List.drop_drop]; congr 1; omega
  ·show (B.termAt B.commit).1 = tm F B.commit.toNat
   rw [hN.rep.termI b4 b5]
  ·show snapOf B.texts = snapOf (txs (F.take B.commit.toNat))
   rw [hN.rep.texts (fun e he => by have := (hN.lg.ents hg e he).1.1; omega) b4 (by omega)]
theorem NodeOk.turned (hg : GhOk g n A) (hN : NodeOk g n i B F) {T : Int} (hT : B.term < T) (l : Int) : NodeOk (g.turn i T) n i { B with term := T, vote := -1, role := 0, lead := l, touched := true } F := by
 have hct := hN.ct
 have s := turn_stp (g := g) (i := i) (T := T) (by omega)
 refine ⟨hN.rep.same, hN.id, hN.sz, hN.lt, if_pos rfl, ?_, by show (-1 : Int) < n; omega, (hN.lg.stp s).mono (by show B.term ≤ T; omega), fun T' k h0 h1 h2 h3 => hN.ack T' k h0 h1 h2 (s.cho h3), (hN.com.stp s).later (by show B.term ≤ T; omega),
  fun e => absurd e (by show ¬ (0 : Int) = 2; omega), fun e => absurd e (by show ¬ (0 : Int) = 1; omega), fun T' h => hN.fut T' (by have h : T < T' := h; omega)⟩
 ·show g.vt T i = if 0 ≤ (-1 : Int) then _ else none
  rw [if_neg (by omega)]
  cases hv : g.vt T i with
  | none => rfl
  | some c => have := hg.vct T i c hv; omega
theorem NodeOk.timeout (hg : GhOk g n A) (hR : Room g A) (hT : B.term + 1 ≤ FAR + A) (hN : NodeOk g n i B F) (hI : B.Inv z) (hS : Sml n A (z + 2)) (hz : 0 ≤ z) : OpOk g n A i B.timeout := by
 have hS0 : Sml n A z := ⟨hS.n, hS.A, hz, by have := hS.z; omega⟩
 have hS1 : Sml n A (z + 1) := ⟨hS.n, hS.A, by omega, by have := hS.z; omega⟩
 obtain ⟨b1, b2, b3, b4, b5, b6, b7⟩ := hN.bounds hI hS0
 unfold BS.timeout
 split
 ·exact OpOk.of hg hN fun M hM => absurd hM (by simp)
 ·have hid := hN.id
  have hsz := hN.sz
  have hlt := hN.lt
  have hn := hS.n
  obtain ⟨f1, f2⟩ := hN.fut (B.term + 1) (by omega)
  have hct := hN.ct
  have s1 := turn_stp (g := g) (i := i) (T := B.term + 1) (by omega)
  have hg1 := turn_ok hg (i := i) (T := B.term + 1) (by omega) hT
  have hN1 := hN.turned hg (T := B.term + 1) (by omega) 0
  obtain ⟨g1, hg1e⟩ : ∃ g1, g.turn i (B.term + 1) = g1 := ⟨_, rfl⟩
  have hcd1 : g1.cd (B.term + 1) i = none := by rw [← hg1e]; exact f1
  have hld1 : g1.ldr (B.term + 1) ≠ some i := by rw [← hg1e]; exact f2
  rw [hg1e] at s1 hg1 hN1
  have hF1 : LogOk g1 (B.term + 1 - 1) F := by
   have := hN.lg.stp s1
   rwa [show B.term + 1 - 1 = B.term by omega]
  have s2 := cand_stp (F := F) hcd1
  have hg2 := cand_ok hg1 hcd1 hF1
  obtain ⟨g2, hg2e⟩ : ∃ g2, g1.cand i (B.term + 1) F = g2 := ⟨_, rfl⟩
  have hcd2 : g2.cd (B.term + 1) i = some F := by rw [← hg2e]; exact if_pos ⟨rfl, rfl⟩
  have hld2 : g2.ldr (B.term + 1) ≠ some i := by rw [← hg2e]; exact hld1
  have hvt2 : g2.vt (B.term + 1) i = none := by
   rw [← hg2e]
   have := hN1.vt
   rw [if_neg (by show ¬ 0 ≤ (-1 : Int); omega)] at this
   exact this
  have hct2 : g2.ct i = B.term + 1 := by rw [← hg2e]; exact hN1.ct
  have hack2 : ∀ T k, 0 < k → k ≤ g2.ak T i → tm (g2.LL T) k = T → g2.cho n T k → Pre k (g2.LL T) F := by rw [← hg2e]; exact hN1.ack
  have hfut2 : ∀ T, B.term + 1 < T → g2.cd T i = none ∧ g2.ldr T ≠ some i := by
   intro T hT
   rw [← hg2e]
   exact ⟨by rw [show (g1.cand i (B.term + 1) F).cd T i = g1.cd T i from if_neg fun h => by omega]; exact (hN1.fut T hT).1, (hN1.fut T hT).2⟩
  have hcom2 : ComOk g2 n (B.term + 1) F B.commit.toNat := by rw [← hg2e]; exact hN1.com.stp s2
  have hlg2 : LogOk g2 (B.term + 1) F := by rw [← hg2e]; exact hN1.lg.stp s2
  rw [hg2e] at s2 hg2
  have s3 := grant_stp (c := i) (Or.inl hvt2)
  have hg3 := grant_ok hg2 (c := i) (.inl hvt2) (by omega) hcd2 (fun T0 k h1 h2 h3 h4 h5 => hack2 T0 k h2 h3 h4 h5)
  have hN3 : NodeOk (g2.grant i (B.term + 1) i) n i B.stood F := by
   refine ⟨hN.rep.same, hN.id, hN.sz, hN.lt, hct2, ?_, by show B.id < n; omega, hlg2.stp s3, fun T k h0 h1 h2 h3 => hack2 T k h0 h1 h2 h3, hcom2.stp s3, fun e => absurd e (by show ¬ (1 : Int) = 2; omega), fun _ => ⟨hcd2, hid, hld2, by show 1 ≤ B.term + 1; omega, fun j hj => ?_⟩, fun T hT => hfut2 T hT⟩
   ·show (if B.term + 1 = B.term + 1 ∧ i = i then some i else _) = if 0 ≤ B.id then some B.id.toNat else none
    rw [if_pos ⟨rfl, rfl⟩, if_pos (by omega)]; congr 1; omega
   ·have hj : ((List.replicate B.size.toNat false).set B.id.toNat true)[j]? = some true := hj
    rw [show B.id.toNat = i by omega] at hj
    by_cases hji : j = i
    ·subst hji; exact if_pos ⟨rfl, rfl⟩
    ·rw [List.getElem?_set_ne (fun h => hji h.symm), List.getElem?_replicate] at hj
     split at hj <;> cases hj
  have hI3 := Inv.stood hI
  have hR3 : Room (g2.grant i (B.term + 1) i) A := by rw [← hg2e, ← hg1e]; exact hR
  have hC := hN3.counted hg3 hR3 rfl hI3 ⟨hS.n, hS.A, by omega, by have := hS.z; omega⟩ (by omega)
  refine OpOk.pre ((s1.trans s2).trans s3) (fun M hM => ?_) hC
  obtain ⟨j, hj, hne, rfl⟩ := mem_others hM
  have hjn : j < n := by
   have hj : j < B.size.toNat := hj
   omega
  have hlst : B.stood.lst = F.length := b3
  have hpr : (B.stood.termAt B.stood.lst).1 = tm F F.length := by
   have hr3 := hN3.rep
   rw [hlst, hr3.term (by show B.base ≤ _; omega) (Nat.le_refl _)]
  have htm := hlg2.tms (by omega) F.length
  have hlen := hN.lg.len hg
  have hA := hS.A
  refine ⟨by show 0 ≤ B.id ∧ B.id < _; omega, by show 0 ≤ (j : Int) ∧ (j : Int) < _; omega, fun _ => ⟨F, ?_, hlst, hpr⟩, fun e => absurd e (by show ¬ (1 : Int) = 2; omega), fun e => absurd e (by show ¬ (1 : Int) = 3; omega), fun e => absurd e (by show ¬ (1 : Int) = 4; omega), fun e => absurd e (by show ¬ (1 : Int) = 5; omega), by show 0 ≤ 8; omega, ?_⟩
  ·show g2.cd (B.term + 1) B.id.toNat = some F
   rw [show B.id.toNat = i by omega]; exact hcd2
  ·exact Msg.Fit.of hS.A (by show (0 : Int) ≤ 1 ∧ (1 : Int) ≤ 5; omega) (by show 0 ≤ B.id ∧ B.id ≤ 5; omega) (by show 0 ≤ (j : Int) ∧ (j : Int) ≤ 5; omega) (by show 0 ≤ B.term + 1 ∧ B.term + 1 ≤ _; omega) (by show _ ≤ B.stood.lst ∧ B.stood.lst ≤ _; omega)
    (by show 0 ≤ (B.stood.termAt B.stood.lst).1 ∧ (B.stood.termAt B.stood.lst).1 ≤ _; omega) (by show (0 : Int) ≤ 0 ∧ (0 : Int) ≤ _; omega) (fun e he => absurd he (by show e ∉ ([] : List Ent); simp)) (by show 0 ≤ 8; omega) (by show (ByteArray.mk #[]).size ≤ _; decide)
end
end
section
theorem not_strange {M : Msg} {id size : Int} (h : M.strange id size = false) : M.to = id ∧ M.from_ ≠ id ∧ 0 ≤ M.from_ ∧ M.from_ < size ∧ 1 ≤ M.kind ∧ M.kind ≤ 5 ∧ 1 ≤ M.term ∧ M.term ≤ FAR ∧ -1 ≤ M.index ∧ M.index ≤ FAR := by
 unfold Msg.strange at h
 simp only [Bool.or_eq_false_iff, decide_eq_false_iff_not] at h
 obtain ⟨f1, f2, f3, f4, f5, f6, f7, f8, f9, f10, f11⟩ := h
 have g9 : -1 ≤ M.index := by split at f9 <;> omega
 exact ⟨by simpa using f1, by simpa using f2, by omega, by omega, by omega, by omega, by omega, by omega, g9, by omega⟩
theorem LogOk.take {g : Gh} {T : Int} {F : List Ent} (h : LogOk g T F) (m : Nat) : LogOk g T (F.take m) := fun k e he => by
 have hk : k < m ∧ k < F.length := by
  have := (List.getElem?_eq_some_iff.1 he).1
  rw [List.length_take] at this; omega
 rw [List.getElem?_take_of_lt hk.1] at he
 obtain ⟨a1, a2, a3, a4⟩ := h k e he
 exact ⟨a1, a2, a3, (pre_of (List.take_prefix m F) (by rw [List.length_take]; omega)).trans a4⟩
theorem merged {g : Gh} {n A : Nat} (hg : GhOk g n A) {T : Int} {F L : List Ent} (hF : LogOk g T F) (hL : LogOk g T L) : ∀ (xs : List Ent) (k : Nat) (B : BS), Rep B F → B.base ≤ k → k ≤ F.length → Pre k F L → k + xs.length ≤ L.length → xs = (L.drop k).take xs.length →
  ∃ F', Rep (B.merge k xs) F' ∧ LogOk g T F' ∧ Pre (k + xs.length) F' L ∧ ∀ j, Pre j F L → Pre j F' L
 | [], k, B, hB, h1, h2, h3, h4, h5 => ⟨F, hB, hF, h3, fun _ h => h⟩
 | e :: r, k, B, hB, h1, h2, h3, h4, h5 => by
  rw [List.length_cons] at h4 h5 ⊢
  have hk : k < L.length := by omega
  rw [List.drop_eq_getElem_cons hk, List.take_succ_cons] at h5
  obtain ⟨he, hr⟩ := List.cons.inj h5
  have htm : tm L (k + 1) = e.term := by
   simp only [tm]; rw [List.getElem?_eq_getElem hk, he]
  have e1 : ((k : Int) + 1) = ((k + 1 : Nat) : Int) := by omega
  rw [merge_cons]
  split
  ·rename_i ht
   obtain ⟨y1, y2, y3⟩ := hB.yes ht
   rw [e1, Int.toNat_natCast] at y3
   have hp := hF.same hL (k := k + 1) (by omega) (by omega) (by rw [y3, htm])
   obtain ⟨F', f1, f2, f3, f4⟩ := merged hg hF hL r (k + 1) B hB (by omega) (by omega) hp (by omega) hr
   rw [e1]
   exact ⟨F', f1, f2, by rw [show k + (r.length + 1) = k + 1 + r.length by omega]; exact f3, f4⟩
  ·rename_i ht
   have hs := hB.setL (i := (k : Int) + 1) (by omega) (by omega) (e :: r)
   obtain ⟨m, hm⟩ : ∃ m, r.length = m := ⟨_, rfl⟩
   rw [hm] at hr h4 ⊢
   have hF' : F.take ((k : Int) + 1 - 1).toNat ++ (e :: r) = L.take (k + (m + 1)) := by
    rw [show ((k : Int) + 1 - 1).toNat = k by omega, h3.e, he, hr]
    rw [← List.take_append_drop k (L.take (k + (m + 1))), List.take_take, Nat.min_eq_left (by omega), List.drop_take, show k + (m + 1) - k = m + 1 by omega, List.drop_eq_getElem_cons hk, List.take_succ_cons]
   rw [hF'] at hs
   have hm : (L.take (k + (m + 1))).length = k + (m + 1) := by rw [List.length_take]; omega
   have hp : Pre (k + (m + 1)) (L.take (k + (m + 1))) L := pre_of (List.take_prefix _ _) (by omega)
   refine ⟨_, hs, hL.take _, hp, fun j hj => ?_⟩
   by_cases hle : j ≤ k + (m + 1)
   ·exact hp.le hle
   ·exfalso
    apply ht
    have hp2 := hj.le (show k + 1 ≤ j by omega)
    rw [e1, hB.term (by omega) hp2.l, hp2.tm (Nat.le_refl _), htm]
section
variable {i n A : Nat} {g : Gh} {B : BS} {F : List Ent} {z : Int}
theorem NodeOk.follow (hg : GhOk g n A) (hN : NodeOk g n i B F) (hl : g.ldr B.term ≠ none) {F' : List Ent} {e : Nat} (he : e ≤ (g.LL B.term).length) (hF : LogOk g B.term F') (hk : ∀ j, Pre j F (g.LL B.term) → Pre j F' (g.LL B.term)) (hp : Pre e F' (g.LL B.term)) {B' : BS} (hrep : Rep B' F')
  (e1 : B'.id = B.id) (e2 : B'.size = B.size) (e3 : B'.term = B.term) (e4 : B'.vote = B.vote) (hr : B'.role = 0) (hc : ComOk g n B.term F' B'.commit.toNat) : NodeOk (g.ack i B.term e) n i B' F' := by
 have s := ack_stp (g := g) (i := i) (T := B.term) (k := e) (Int.le_of_eq hN.ct)
 refine ⟨hrep, e1.trans hN.id, e2.trans hN.sz, hN.lt, by rw [e3]; exact hN.ct, by rw [e3, e4]; exact hN.vt, by rw [e4]; exact hN.vlt, by rw [e3]; exact hF.stp s, fun T k h0 h1 h2 h3 => ?_, by rw [e3]; exact hc.stp s, fun h => absurd (h.symm.trans hr) (by decide), fun h => absurd (h.symm.trans hr) (by decide), fun T hT => hN.fut T (by rw [e3] at hT; exact hT)⟩
 have h3 := s.cho h3
 have h2 : tm (g.LL T) k = T := h2
 show Pre k (g.LL T) F'
 by_cases hT : T = B.term
 ·subst hT
  rw [ack_at] at h1
  by_cases hke : k ≤ e
  ·exact (hp.le hke).symm
  ·exact (hk k (hN.ack B.term k h0 (by omega) h2 h3).symm).symm
 ·have ea : (g.ack i B.term e).ak T i = g.ak T i := if_neg fun h => hT h.1
  rw [ea] at h1
  obtain ⟨b1, b2, b3⟩ := hg.akb T i (by omega)
  rw [hN.ct] at b3
  have hp1 := hN.ack T k h0 h1 h2 h3
  have hp2 := hg.lc T B.term k (by omega) b1 hl h0 (by omega) h2 h3
  exact hp2.trans (hk k (hp1.symm.trans hp2)).symm
theorem NodeOk.fed (hg : GhOk g n A) (hN : NodeOk g n i B F) (hI : B.Inv z) (hS : Sml n A z) {M : Msg} (hM : LetOk g n M) (hk : M.kind = 3) (ht : M.term = B.term) : OpOk g n A i (B.fed M) := by
 obtain ⟨b1, b2, b3, b4, b5, b6, b7⟩ := hN.bounds hI hS
 have hid := hN.id
 have hfr := hM.fr
 obtain ⟨m1, m2, m3, m4, m5, m6, m7⟩ := hM.feed hk
 rw [ht] at m1 m3 m4 m5 m6 m7
 have hLo := (hg.ll B.term m1).1
 have hlen := hLo.len hg
 have hA := hS.A
 have hfew := hM.few
 have hled := hN.com.leader hg (by omega) m1
 have hrep : ∀ (B' : BS) gd x (h : Gh), B'.id = B.id → B'.term = B.term → -10 ≤ x ∧ x ≤ 3000000000000 → (gd = true → x.toNat ≤ h.ak B.term i) → LetOk h n (B.toldM M.from_ gd x) := fun B' gd x h _ _ hx h4 =>
  reply hid hN.lt hS.n ⟨b1, b2⟩ hfr hx (.inr rfl) (fun e => absurd e (by omega)) fun _ => h4
 unfold BS.fed
 split
 ·exact OpOk.of hg hN fun M hM => absurd hM (by simp)
 ·rename_i hr
  dsimp only
  split
  ·rename_i hle
   obtain ⟨e, he⟩ : ∃ e : Nat, M.index + M.list.length = e := ⟨(M.index + M.list.length).toNat, by omega⟩
   rw [he] at hle ⊢
   have hel : e ≤ (g.LL B.term).length := by omega
   refine ⟨g.ack i B.term e, F, ack_stp (Int.le_of_eq hN.ct), ack_ok hg hN.ct m1 hel, hN.follow hg m1 hel hN.lg (fun _ h => h) (hled.le (by omega)) hN.rep.same rfl rfl rfl rfl rfl hN.com, fun M' hM' => ?_⟩
   rw [List.mem_singleton] at hM'; subst hM'
   exact hrep B true _ _ rfl rfl (by omega) fun _ => by rw [ack_at]; omega
  ·rename_i hgt
   split
   ·refine ⟨g, F, Stp.refl i g, hg, ⟨hN.rep.same, hN.id, hN.sz, hN.lt, hN.ct, hN.vt, hN.vlt, hN.lg, hN.ack, hN.com, fun e => absurd e (by show ¬ (0 : Int) = 2; omega), fun e => absurd e (by show ¬ (0 : Int) = 1; omega), hN.fut⟩, fun M' hM' => ?_⟩
    rw [List.mem_singleton] at hM'; subst hM'
    exact hrep B false _ _ rfl rfl (by unfold mn; split <;> omega) fun h => by cases h
   ·rename_i hc
    obtain ⟨e, he⟩ : ∃ e : Nat, M.index + M.list.length = e := ⟨(M.index + M.list.length).toNat, by omega⟩
    have key : ∃ F' B2, (if M.index < B.commit then ({ B with role := 0, lead := M.from_ } : BS).merge B.commit (M.list.drop (B.commit - M.index).toNat) else ({ B with role := 0, lead := M.from_ } : BS).merge M.index M.list) = B2 ∧ Rep B2 F' ∧ LogOk g B.term F' ∧ Pre e F' (g.LL B.term) ∧ (∀ j, Pre j F (g.LL B.term) → Pre j F' (g.LL B.term)) ∧
      B2.id = B.id ∧ B2.size = B.size ∧ B2.term = B.term ∧ B2.vote = B.vote ∧ B2.role = 0 ∧ B2.commit = B.commit := by
     have same : ∀ (xs : List Ent) (B1 : BS) (q : Int), (B1.merge q xs).id = B1.id ∧ (B1.merge q xs).size = B1.size ∧ (B1.merge q xs).term = B1.term ∧ (B1.merge q xs).vote = B1.vote ∧ (B1.merge q xs).role = B1.role ∧ (B1.merge q xs).commit = B1.commit := by
      intro xs
      induction xs with
      | nil => intro B1 q; exact ⟨rfl, rfl, rfl, rfl, rfl, rfl⟩
      | cons x xs ih =>
       intro B1 q
       rw [merge_cons]
       split
       ·exact ih B1 (q + 1)
       ·exact ⟨rfl, rfl, rfl, rfl, rfl, rfl⟩
     split
     ·rename_i hlt
      obtain ⟨c, hcc⟩ : ∃ c : Nat, B.commit = c := ⟨B.commit.toNat, by omega⟩
      have hdl : (M.list.drop (B.commit - M.index).toNat).length = e - c := by rw [List.length_drop]; omega
      have hxs : M.list.drop (B.commit - M.index).toNat = ((g.LL B.term).drop c).take (M.list.drop (B.commit - M.index).toNat).length := by
       rw [hdl]
       conv => lhs; rw [m4]
       rw [List.drop_take, List.drop_drop]
       congr 1
       ·omega
       ·congr 1; omega
      obtain ⟨F', f1, f2, f3, f4⟩ := merged hg hN.lg hLo (M.list.drop (B.commit - M.index).toNat) c { B with role := 0, lead := M.from_ } hN.rep.same (by show B.base ≤ _; omega) (by omega) (by rw [hcc, Int.toNat_natCast] at hled; exact hled) (by rw [hdl]; omega) hxs
      refine ⟨F', _, rfl, ?_, f2, ?_, f4, ?_⟩
      ·rw [hcc] at f1 ⊢; exact f1
      ·rw [hdl] at f3; rwa [show c + (e - c) = e by omega] at f3
      ·exact same _ _ _
     ·rename_i hge
      have hyes : B.termAt M.index = (M.prev, true) := by
       by_cases e : B.termAt M.index = (M.prev, true)
       ·exact e
       ·exact absurd ⟨hge, e⟩ hc
      obtain ⟨y1, y2, y3⟩ := hN.rep.yes hyes
      obtain ⟨c, hcc⟩ : ∃ c : Nat, M.index = c := ⟨M.index.toNat, by omega⟩
      rw [hcc, Int.toNat_natCast] at m3 m4 m5 y3
      have hp := hN.lg.same hLo (k := c) (by omega) (by omega) (by rw [y3, m5])
      obtain ⟨F', f1, f2, f3, f4⟩ := merged hg hN.lg hLo M.list c { B with role := 0, lead := M.from_ } hN.rep.same (by show B.base ≤ _; omega) (by omega) hp (by omega) m4
      refine ⟨F', _, rfl, ?_, f2, ?_, f4, ?_⟩
      ·rw [hcc]; exact f1
      ·rwa [show c + M.list.length = e by omega] at f3
      ·exact same _ _ _
    obtain ⟨F', B2, hB2, f1, f2, f3, f4, e1, e2, e3, e4, e5, e6⟩ := key
    rw [hB2, he]
    have hel : e ≤ (g.LL B.term).length := by omega
    have hcom : ComOk g n B.term F' ({ B2 with commit := mx B2.commit (mn M.commit e) } : BS).commit.toNat := by
     show ComOk g n B.term F' (mx B2.commit (mn M.commit e)).toNat
     rw [e6]
     have h1 : ComOk g n B.term F' B.commit.toNat := hN.com.mono (Int.le_refl _) (Nat.le_refl _) ((f4 _ hled).trans hled.symm)
     have h2 : ComOk g n B.term F' (mn M.commit e).toNat := m7.mono (Int.le_refl _) (by unfold mn; split <;> omega) (f3.le (by unfold mn; split <;> omega))
     unfold mx
     split
     ·exact h2
     ·exact h1
    refine ⟨g.ack i B.term e, F', ack_stp (Int.le_of_eq hN.ct), ack_ok hg hN.ct m1 hel, hN.follow hg m1 hel f2 f4 f3 f1.same e1 e2 e3 e4 e5 hcom, fun M' hM' => ?_⟩
    rw [List.mem_singleton] at hM'; subst hM'
    exact hrep B true _ _ rfl rfl (by omega) fun _ => by rw [ack_at]; omega
theorem NodeOk.given (hg : GhOk g n A) (hN : NodeOk g n i B F) (hI : B.Inv z) (hS : Sml n A z) {M : Msg} (hM : LetOk g n M) (hk : M.kind = 5) (ht : M.term = B.term) : OpOk g n A i (B.given M) := by
 obtain ⟨b1, b2, b3, b4, b5, b6, b7⟩ := hN.bounds hI hS
 have hid := hN.id
 have hfr := hM.fr
 obtain ⟨m1, m2, m3, m4, m5, m6⟩ := hM.give hk
 rw [ht] at m1 m3 m4 m5 m6
 have hLo := (hg.ll B.term m1).1
 have hlen := hLo.len hg
 have hA := hS.A
 have hled := hN.com.leader hg (by omega) m1
 obtain ⟨e, he⟩ : ∃ e : Nat, M.index = e := ⟨M.index.toNat, by omega⟩
 rw [he, Int.toNat_natCast] at m3 m4 m5 m6
 unfold BS.given
 rw [he]
 split
 ·exact OpOk.of hg hN fun M hM => absurd hM (by simp)
 ·have hrep : LetOk (g.ack i B.term e) n (B.toldM M.from_ true e) :=
   reply hid hN.lt hS.n ⟨b1, b2⟩ hfr (by omega) (.inr rfl) (fun e => absurd e (by omega)) fun _ _ => by rw [ack_at]; omega
  have fin : ∀ (B' : BS) F', LogOk g B.term F' → (∀ j, Pre j F (g.LL B.term) → Pre j F' (g.LL B.term)) → Pre e F' (g.LL B.term) → Rep B' F' → B'.id = B.id → B'.size = B.size → B'.term = B.term → B'.vote = B.vote → B'.role = 0 → ComOk g n B.term F' B'.commit.toNat → OpOk g n A i (B', [B.toldM M.from_ true e]) := by
   intro B' F' f1 f2 f3 f4 e1 e2 e3 e4 e5 e6
   refine ⟨g.ack i B.term e, F', ack_stp (Int.le_of_eq hN.ct), ack_ok hg hN.ct m1 m3, hN.follow hg m1 m3 f1 f2 f3 f4 e1 e2 e3 e4 e5 e6, fun M' hM' => ?_⟩
   rw [List.mem_singleton] at hM'; subst hM'
   exact hrep
  split
  ·exact fin _ F hN.lg (fun _ h => h) (hled.le (by omega)) hN.rep.same rfl rfl rfl rfl rfl hN.com
  ·rename_i hgt
   split
   ·rename_i hyes
    obtain ⟨y1, y2, y3⟩ := hN.rep.yes hyes
    rw [Int.toNat_natCast] at y3
    have hp := hN.lg.same hLo (k := e) (by omega) m3 (by rw [y3, m4])
    refine fin _ F hN.lg (fun _ h => h) hp ⟨by show (0 : Int) ≤ (e : Int); omega, by show (e : Int).toNat ≤ _; omega, ?_, ?_, ?_⟩ rfl rfl rfl rfl rfl ?_
    ·show B.log.drop ((e : Int) - B.base).toNat = F.drop (e : Int).toNat
     rw [hN.rep.log, List.drop_drop]; congr 1; omega
    ·show M.prev = tm F (e : Int).toNat
     rw [Int.toNat_natCast, y3]
    ·show M.snap = snapOf (txs (F.take (e : Int).toNat))
     rw [Int.toNat_natCast, hp.e]; exact m5
    ·show ComOk g n B.term F (e : Int).toNat
     rw [Int.toNat_natCast]
     exact m6.mono (Int.le_refl _) (Nat.le_refl _) hp
   ·rename_i hno
    have hm : ((g.LL B.term).take e).length = e := by rw [List.length_take]; omega
    have hp : Pre e ((g.LL B.term).take e) (g.LL B.term) := pre_of (List.take_prefix _ _) (by omega)
    refine fin _ ((g.LL B.term).take e) (hLo.take e) (fun j hj => ?_) hp ⟨by show (0 : Int) ≤ (e : Int); omega, by show (e : Int).toNat ≤ _; omega, ?_, ?_, ?_⟩ rfl rfl rfl rfl rfl ?_
    ·by_cases hje : j ≤ e
     ·exact hp.le hje
     ·exfalso
      apply hno
      have hp2 := hj.le (show e ≤ j by omega)
      rw [hN.rep.term (by omega) hp2.l, hp2.tm (Nat.le_refl _), m4]
    ·show [] = List.drop (e : Int).toNat _
     rw [Int.toNat_natCast, List.drop_of_length_le (by omega)]
    ·show M.prev = tm _ (e : Int).toNat
     rw [Int.toNat_natCast, hp.tm (Nat.le_refl _)]; exact m4
    ·show M.snap = snapOf (txs (List.take (e : Int).toNat _))
     rw [Int.toNat_natCast, List.take_take, Nat.min_self]; exact m5
    ·show ComOk g n B.term _ (e : Int).toNat
     rw [Int.toNat_natCast]
     exact m6.mono (Int.le_refl _) (Nat.le_refl _) hp
theorem NodeOk.asked (hg : GhOk g n A) (hN : NodeOk g n i B F) (hI : B.Inv z) (hS : Sml n A z) {M : Msg} (hM : LetOk g n M) (hk : M.kind = 1) (ht : M.term = B.term) (hne : M.from_ ≠ i) : OpOk g n A i (B.asked M) := by
 obtain ⟨b1, b2, b3, b4, b5, b6, b7⟩ := hN.bounds hI hS
 have hid := hN.id
 have hfr := hM.fr
 have hv2 := hI.vote
 unfold BS.asked
 by_cases hgd : B.askGood M = true
 ·rw [if_pos hgd, hgd]
  unfold BS.askGood at hgd
  simp only [Bool.and_eq_true, Bool.or_eq_true, decide_eq_true_eq, beq_iff_eq] at hgd
  obtain ⟨h1, h2⟩ := hgd
  rw [b3, hN.rep.term (by omega) (Nat.le_refl _)] at h2
  obtain ⟨C, c1, c2, c3⟩ := hM.ask hk
  rw [ht] at c1
  have hvt := hN.vt
  have hn : g.vt B.term i = none ∨ g.vt B.term i = some M.from_.toNat := by
   rcases h1 with h1 | h1
   ·rw [if_neg (by omega)] at hvt; exact .inl hvt
   ·rw [if_pos (by omega), h1] at hvt; exact .inr hvt
  have hCo := hg.cdo _ _ _ c1
  have hg' := grant_ok hg (i := i) (c := M.from_.toNat) hn (Int.le_of_eq hN.ct.symm) c1 (fun T0 k q1 q2 q3 q4 q5 => by
   obtain ⟨a1, a2, a3⟩ := hg.akb T0 i (by omega)
   refine as_new hg hN.lg hCo q2 (hN.ack T0 k q2 q3 q4 q5) q4 a1 q5 ?_
   rw [c3, c2] at h2
   rcases h2 with h2 | ⟨h2, h3⟩
   ·exact .inl h2
   ·exact .inr ⟨h2, by omega⟩)
  have s := grant_stp hn
  refine ⟨_, F, s, hg', ⟨hN.rep.same, hN.id, hN.sz, hN.lt, hN.ct, ?_, by show M.from_ < n; omega, hN.lg.stp s, hN.ack, hN.com.stp s, hN.ld, fun hr => ?_, hN.fut⟩, fun M' hM' => ?_⟩
  ·show (if B.term = B.term ∧ i = i then some M.from_.toNat else _) = if 0 ≤ M.from_ then some M.from_.toNat else none
   rw [if_pos ⟨rfl, rfl⟩, if_pos hfr.1]
  ·have := (hN.cnd hr).2.1
   omega
  ·rw [List.mem_singleton] at hM'; subst hM'
   exact reply (g := g.grant i B.term M.from_.toNat) (x := 0) hid hN.lt hS.n ⟨b1, b2⟩ hfr (by omega) (.inl rfl) (fun _ _ => if_pos ⟨rfl, rfl⟩) fun e => absurd e (by omega)
 ·rw [if_neg hgd]
  refine OpOk.of hg hN fun M' hM' => ?_
  rw [List.mem_singleton] at hM'; subst hM'
  exact reply (x := 0) hid hN.lt hS.n ⟨b1, b2⟩ hfr (by omega) (.inl rfl) (fun _ e => absurd e hgd) fun e => absurd e (by omega)
theorem Inv.votes {B : BS} {z : Int} (h : B.Inv z) (k : Nat) : ({ B with votes := B.votes.set k true } : BS).Inv z := by
 have hk := h.run.ok
 refine ⟨⟨⟨⟨hk.small.base0, hk.small.base1, hk.small.log1⟩, hk.base, hk.size, hk.id, hk.com⟩, h.run.lc, fun hr => ?_, fun hr => ⟨(h.run.ld hr).nlen, (h.run.ld hr).mlen, (h.run.ld hr).nr, (h.run.ld hr).mr⟩⟩, h.len, h.far, h.term, h.vote⟩
 show (List.set _ _ _).length = _
 rw [List.length_set]; exact h.run.vt hr
theorem NodeOk.voted (hg : GhOk g n A) (hR : Room g A) (hN : NodeOk g n i B F) (hI : B.Inv z) (hS : Sml n A (z + 1)) (hz : 0 ≤ z) {M : Msg} (hM : LetOk g n M) (hk : M.kind = 2) (ht : M.term = B.term) (hto : M.to = i) : OpOk g n A i (B.voted M) := by
 unfold BS.voted
 split
 ·exact OpOk.of hg hN fun M hM => absurd hM (by simp)
 ·rename_i hc
  have hr : B.role = 1 := by
   apply Classical.byContradiction; intro h; exact hc (.inl h)
  have hgd : M.good = true := by
   cases h : M.good with
   | true => rfl
   | false => exact absurd (.inr h) hc
  have hv := hM.vote hk hgd
  rw [ht, hto, Int.toNat_natCast] at hv
  obtain ⟨a1, a2, a3, a4, a5⟩ := hN.cnd hr
  refine NodeOk.counted (B := { B with votes := B.votes.set M.from_.toNat true }) hg hR (F := F) ⟨hN.rep.same, hN.id, hN.sz, hN.lt, hN.ct, hN.vt, hN.vlt, hN.lg, hN.ack, hN.com, hN.ld, fun _ => ⟨a1, a2, a3, a4, fun j hj => ?_⟩, hN.fut⟩ hr (Inv.votes hI _) hS hz
  have hj : (B.votes.set M.from_.toNat true)[j]? = some true := hj
  by_cases hjf : j = M.from_.toNat
  ·subst hjf; exact hv
  ·rw [List.getElem?_set_ne (fun h => hjf h.symm)] at hj
   exact a5 j hj
theorem NodeOk.heard (hg : GhOk g n A) (hN : NodeOk g n i B F) (hI : B.Inv z) (hS : Sml n A z) {M : Msg} (hM : LetOk g n M) (hk : M.kind = 4) (ht : M.term = B.term) : OpOk g n A i (B.heard M) := by
 obtain ⟨b1, b2, b3, b4, b5, b6, b7⟩ := hN.bounds hI hS
 have hfr := hM.fr
 have hsz := hN.sz
 unfold BS.heard
 split
 ·exact OpOk.of hg hN fun M hM => absurd hM (by simp)
 ·rename_i hr
  have hr : B.role = 2 := by
   apply Classical.byContradiction; intro h; exact hr h
  have hL := hI.run.ld hr
  have hf : M.from_.toNat < B.size.toNat := by omega
  obtain ⟨a1, a2, a3, a4, a5⟩ := hN.ld hr
  have nx : ∀ (B1 : BS), B1.Ldr → B1.size = B.size → 0 ≤ B1.nx M.from_.toNat ∧ B1.nx M.from_.toNat ≤ B1.lst + 1 := by
   intro B1 h1 h2
   unfold BS.nx
   cases h : B1.next[M.from_.toNat]? with
   | none => rw [List.getElem?_eq_none_iff, h1.nlen, h2] at h; omega
   | some x => exact h1.nr _ x h
  dsimp only
  split
  ·have hLu := hL.unfed hf M.index
   have hI1 : (B.unfed M.from_.toNat M.index).Inv z := Inv.ldr hI hLu hr
   have hN1 : NodeOk g n i (B.unfed M.from_.toNat M.index) F := ⟨hN.rep.same, hN.id, hN.sz, hN.lt, hN.ct, hN.vt, hN.vlt, hN.lg, hN.ack, hN.com, hN.ld, hN.cnd, hN.fut⟩
   refine OpOk.of hg hN1 fun M' hM' => ?_
   rw [List.mem_singleton] at hM'; subst hM'
   exact hN1.feedM hg hr hI1 hS hfr (nx _ hLu rfl)
  ·rename_i hgd
   have hgd : M.good = true := by
    cases h : M.good with
    | true => rfl
    | false => exact absurd h hgd
   have hfed := hM.fed hk hgd
   rw [ht] at hfed
   have hLu := hL.fedTo hf M.index (by omega)
   have hI1 : (B.fedTo M.from_.toNat M.index).Inv z := Inv.ldr hI hLu hr
   have hN1 : NodeOk g n i (B.fedTo M.from_.toNat M.index) F := by
    refine ⟨hN.rep.same, hN.id, hN.sz, hN.lt, hN.ct, hN.vt, hN.vlt, hN.lg, hN.ack, hN.com, fun _ => ⟨a1, a2, a3, a4, fun j x hx hj => ?_⟩, hN.cnd, hN.fut⟩
    have hx : (B.mat.set M.from_.toNat (mx (B.mt M.from_.toNat) (mn M.index B.lst)))[j]? = some x := hx
    show x.toNat ≤ g.ak B.term j
    by_cases hjf : j = M.from_.toNat
    ·rw [hjf] at hx
     rw [List.getElem?_set_self (by rw [hL.mlen]; exact hf)] at hx
     cases hx
     have h1 : (B.mt M.from_.toNat).toNat ≤ g.ak B.term j := by
      unfold BS.mt
      cases h : B.mat[M.from_.toNat]? with
      | none => exact Nat.zero_le _
      | some x => rw [hjf]; exact a5 _ x h (by omega)
     rw [hjf] at h1 ⊢
     have hq : mx (B.mt M.from_.toNat) (mn M.index B.lst) = B.mt M.from_.toNat ∨ mx (B.mt M.from_.toNat) (mn M.index B.lst) ≤ M.index := by
      unfold mx mn
      repeat' split
      all_goals omega
     rcases hq with hq | hq
     ·rw [hq]; exact h1
     ·omega
    ·rw [List.getElem?_set_ne (fun h => hjf h.symm)] at hx
     exact a5 j x hx hj
   obtain ⟨hN2, hM2⟩ := hN1.settled hg hr hI1 hS
   have hI2 := Inv.settled hI1
   have hr2 : (B.fedTo M.from_.toNat M.index).settled.1.role = 2 := by
    obtain ⟨c, hc, _⟩ := settled_com _ hI1.run.lc
    rw [hc]; exact hr
   have hs2 : (B.fedTo M.from_.toNat M.index).settled.1.size = B.size := by
    obtain ⟨c, hc, _⟩ := settled_com _ hI1.run.lc
    rw [hc]; (first | done | rfl)
   split
   ·refine OpOk.of hg hN2 fun M' hM' => ?_
    rcases List.mem_append.1 hM' with hM' | hM'
    ·exact hM2 M' hM'
    ·rw [List.mem_singleton] at hM'; subst hM'
     exact hN2.feedM hg hr2 hI2 hS hfr (nx _ (hI2.run.ld hr2) hs2)
   ·exact OpOk.of hg hN2 hM2
theorem NodeOk.take (hg : GhOk g n A) (hR : Room g A) (hN : NodeOk g n i B F) (hI : B.Inv z) (hS : Sml n A (z + 1)) (hz : 0 ≤ z) {M : Msg} (hM : LetOk g n M) : OpOk g n A i (B.take M) := by
 have hS0 : Sml n A z := ⟨hS.n, hS.A, hz, by have := hS.z; omega⟩
 unfold BS.take
 split
 ·exact OpOk.of hg hN fun M hM => absurd hM (by simp)
 ·rename_i hst
  have hst : M.strange B.id B.size = false := by simpa using hst
  obtain ⟨f1, f2, f3, f4, f5, f6, f7, f8, f9, f10⟩ := not_strange hst
  have hid := hN.id
  have hsz := hN.sz
  have hct := hN.ct
  have key : ∃ g1, Stp i g g1 ∧ GhOk g1 n A ∧ Room g1 A ∧ NodeOk g1 n i (B.seen M) F ∧ (B.seen M).Inv z ∧ (B.seen M).id = B.id ∧ (B.seen M).size = B.size ∧ (M.term ≤ (B.seen M).term) := by
   unfold BS.seen
   split
   ·rename_i h
    exact ⟨g.turn i M.term, turn_stp (by omega), turn_ok hg (by omega) (by omega), hR, hN.turned hg h (-1), Inv.turned hI ⟨by omega, f8⟩ hz, rfl, rfl, Int.le_refl _⟩
   ·exact ⟨g, Stp.refl i g, hg, hR, hN, hI, rfl, rfl, by omega⟩
  obtain ⟨g1, s, hg1, hR1, hN1, hI1, e1, e2, e3⟩ := key
  have hM1 := hM.stp s
  have lift : ∀ R, OpOk g1 n A i R → OpOk g n A i R := fun R ho => OpOk.pre (m1 := []) s (fun M h => absurd h (by simp)) ho
  obtain ⟨b1, b2, b3, b4, b5, b6, b7⟩ := hN1.bounds hI1 hS0
  have hlen := hN1.lg.len hg1
  have hA := hS.A
  split
  ·refine lift _ (OpOk.of hg1 hN1 fun M' hM' => ?_)
   unfold BS.late at hM'
   split at hM'
   ·rw [List.mem_singleton] at hM'; subst hM'
    exact reply (gd := false) (x := 0) hN1.id hN1.lt hS.n ⟨b1, b2⟩ hM.fr (by omega) (.inl rfl) (fun _ e => by cases e) fun e => absurd e (by omega)
   ·split at hM'
    ·rw [List.mem_singleton] at hM'; subst hM'
     exact reply hN1.id hN1.lt hS.n ⟨b1, b2⟩ hM.fr (by omega) (.inr rfl) (fun e => absurd e (by omega)) fun _ e => by cases e
    ·cases hM'
  ·rename_i hnl
   have ht : M.term = (B.seen M).term := by omega
   refine lift _ ?_
   unfold BS.does
   split
   ·rename_i hk; exact hN1.asked hg1 hI1 hS0 hM1 hk ht (by omega)
   ·split
    ·rename_i hk; exact hN1.voted hg1 hR1 hI1 hS hz hM1 hk ht (by omega)
    ·split
     ·rename_i hk; exact hN1.fed hg1 hI1 hS0 hM1 hk ht
     ·split
      ·rename_i hk; exact hN1.heard hg1 hI1 hS0 hM1 hk ht
      ·exact hN1.given hg1 hI1 hS0 hM1 (by omega) ht
end
end
section
def BS.raw (B : BS) : BS := { newBS B.id B.size with term := B.term, vote := B.vote, base := B.base, baseTerm := B.baseTerm, snap := B.snap, log := B.log }
def BS.rst (B : BS) : BS := { B.raw with commit := B.base, from_ := B.lst + 1 }
structure Clean (B : BS) : Prop where
 t : B.touched = false
 w : B.whole = false
 f : B.from_ = B.lst + 1
def Saved (l : List Dl) (B : BS) : Prop := (newBS B.id B.size).lays l = some B.raw
theorem Saved.loaded {l : List Dl} {B : BS} (h : Saved l B) {i n : Int} (hi : B.id = i) (hn : B.size = n) : BS.loaded i n l = some B.rst := by
 subst hi; subst hn
 unfold BS.loaded
 rw [h]; (first | done | rfl)
theorem Saved.new (i n : Int) : Saved [] (newBS i n) := rfl
theorem rst_clean (B : BS) : Clean B.rst := ⟨rfl, rfl, rfl⟩
theorem Saved.of_raw {l : List Dl} {B B' : BS} (h : Saved l B) (e1 : B'.id = B.id) (e2 : B'.size = B.size) (e : B'.raw = B.raw) : Saved l B' := by
 unfold Saved; rw [e1, e2, e]; exact h
theorem Saved.rst {l : List Dl} {B : BS} (h : Saved l B) : Saved l B.rst := h
theorem lays_snoc (D : Dl) : ∀ (l : List Dl) (B : BS), B.lays (l ++ [D]) = match B.lays l with | some B' => B'.lay D | none => none
 | [], B => by
  show (match B.lay D with | some B' => B'.lays [] | none => none) = B.lay D
  cases B.lay D <;> rfl
 | E :: l, B => by
  show (match B.lay E with | some B' => B'.lays (l ++ [D]) | none => none) = match (match B.lay E with | some B' => B'.lays l | none => none) with | some B' => B'.lay D | none => none
  cases B.lay E with
  | none => rfl
  | some B' => exact lays_snoc D l B'
theorem raw_eq {B B' : BS} (e : B'.raw = B.raw) : B'.id = B.id ∧ B'.size = B.size ∧ B'.base = B.base ∧ B'.baseTerm = B.baseTerm ∧ B'.snap = B.snap ∧ B'.log = B.log :=
 ⟨show B'.raw.id = B.raw.id by rw [e], show B'.raw.size = B.raw.size by rw [e], show B'.raw.base = B.raw.base by rw [e], show B'.raw.baseTerm = B.raw.baseTerm by rw [e], show B'.raw.snap = B.raw.snap by rw [e], show B'.raw.log = B.raw.log by rw [e]⟩
structure PR (B0 B : BS) : Prop where
 id : B.id = B0.id
 sz : B.size = B0.size
 part : B.whole = false → B.base = B0.base ∧ B.baseTerm = B0.baseTerm ∧ B.snap = B0.snap ∧ B.from_ ≤ B0.lst + 1 ∧ B0.base < B.from_ ∧ B.log.take (B.from_ - B.base - 1).toNat = B0.log.take (B.from_ - B.base - 1).toNat
 same : B.touched = false → B.raw = B0.raw ∧ B.whole = B0.whole ∧ B.from_ = B0.from_
section
variable {B0 B B' : BS} {z : Int}
theorem PR.refl (h : Clean B0) (hb : B0.base ≤ B0.lst) : PR B0 B0 := by
 refine ⟨rfl, rfl, fun _ => ⟨rfl, rfl, rfl, by rw [h.f]; exact Int.le_refl _, by rw [h.f]; omega, rfl⟩, fun _ => ⟨rfl, rfl, rfl⟩⟩
theorem PR.soft (h : PR B0 B) (e1 : B'.raw = B.raw := by rfl) (e2 : B'.whole = B.whole := by rfl) (e3 : B'.from_ = B.from_ := by rfl) (e4 : B'.touched = B.touched := by rfl) : PR B0 B' := by
 obtain ⟨r1, r2, r3, r4, r5, r6⟩ := raw_eq e1
 refine ⟨r1.trans h.id, r2.trans h.sz, fun hw => ?_, fun ht => ?_⟩
 ·rw [e2] at hw
  rw [r3, r4, r5, r6, e3]; exact h.part hw
 ·rw [e4] at ht
  obtain ⟨a, b, c⟩ := h.same ht
  exact ⟨e1.trans a, e2.trans b, e3.trans c⟩
theorem PR.touch (h : PR B0 B) (ht : B'.touched = true := by rfl) (e1 : B'.id = B.id := by rfl) (e2 : B'.size = B.size := by rfl) (e3 : B'.base = B.base := by rfl) (e4 : B'.baseTerm = B.baseTerm := by rfl) (e5 : B'.snap = B.snap := by rfl) (e6 : B'.log = B.log := by rfl) (e7 : B'.from_ = B.from_ := by rfl) (e8 : B'.whole = B.whole := by rfl) : PR B0 B' := by
 refine ⟨e1.trans h.id, e2.trans h.sz, fun hw => ?_, fun hf => by rw [ht] at hf; cases hf⟩
 rw [e8] at hw
 rw [e3, e4, e5, e6, e7]; exact h.part hw
theorem PR.set (h : PR B0 B) {i : Int} (h1 : B.base < i) (h2 : i ≤ B.lst + 1) (ys : List Ent) : PR B0 (B.set i ys) := by
 refine ⟨h.id, h.sz, fun hw => ?_, fun hf => absurd hf (by show ¬ (true = false); decide)⟩
 obtain ⟨a1, a2, a3, a4, a5, a6⟩ := h.part hw
 have hl := lst_def B
 have e : (B.set i ys).from_ = if i < B.from_ then i else B.from_ := rfl
 have hf : (B.set i ys).from_ ≤ i ∧ (B.set i ys).from_ ≤ B.from_ ∧ B.base < (B.set i ys).from_ := by rw [e]; split <;> omega
 obtain ⟨f1, f2, f3⟩ := hf
 refine ⟨a1, a2, a3, by omega, by omega, ?_⟩
 show (B.log.take (i - B.base - 1).toNat ++ ys).take ((B.set i ys).from_ - B.base - 1).toNat = _
 obtain ⟨f, hff⟩ : ∃ f, (B.set i ys).from_ = f := ⟨_, rfl⟩
 rw [hff] at f1 f2 f3 ⊢
 show _ = B0.log.take (f - B.base - 1).toNat
 rw [List.take_append_of_le_length (by rw [List.length_take]; omega), List.take_take, Nat.min_eq_left (by omega)]
 have := congrArg (List.take (f - B.base - 1).toNat) a6
 rwa [List.take_take, List.take_take, Nat.min_eq_left (by omega)] at this
theorem PR.whole (h : PR B0 B) (e1 : B'.id = B.id) (e2 : B'.size = B.size) (ht : B'.touched = true) (hw : B'.whole = true) : PR B0 B' :=
 ⟨e1.trans h.id, e2.trans h.sz, fun e => absurd (hw.symm.trans e) (by decide), fun e => absurd (ht.symm.trans e) (by decide)⟩
theorem PR.settled (h : PR B0 B) (hlc : B.commit ≤ B.lst) : PR B0 B.settled.1 := by
 obtain ⟨c, hc, _⟩ := settled_com B hlc
 rw [hc]; exact h.soft
theorem PR.counted (h : PR B0 B) (hI : B.Inv z) : PR B0 B.counted.1 := by
 unfold BS.counted
 split
 ·exact h
 ·have hb := hI.run.ok.com
  have hlc := hI.run.lc
  have h2 : PR B0 B.lead2 := h.soft
  have hl : B.lead2.lst = B.lst := rfl
  have h3 := h2.set (i := B.lst + 1) (by show B.base < _; omega) (by rw [hl]; omega) [{ noEnt with term := B.term }]
  refine h3.settled ?_
  rw [set_lst (B := B.lead2) (by show B.base < _; omega) (by rw [hl]; omega)]
  show B.commit ≤ _
  simp; omega
theorem PR.merge (h : PR B0 B) : ∀ (xs : List Ent) (i : Int), B.base ≤ i → i ≤ B.lst → PR B0 (B.merge i xs)
 | [], _, _, _ => h
 | e :: xs, i, h1, h2 => by
  rw [merge_cons]
  split
  ·rename_i ht
   exact PR.merge h xs (i + 1) (by omega) (termAt_le (by rw [ht]) (by omega))
  ·exact h.set (by omega) (by omega) _
theorem PR.fed (h : PR B0 B) (hI : B.Inv z) (M : Msg) : PR B0 (B.fed M).1 := by
 have hb := hI.run.ok.com
 have hlc := hI.run.lc
 have hC : PR B0 { B with role := 0, lead := M.from_ } := h.soft
 unfold BS.fed
 split
 ·exact h
 ·dsimp only
  split
  ·exact hC
  ·split
   ·exact hC
   ·rename_i hc
    split
    ·exact (PR.merge hC _ B.commit hb hlc).soft
    ·rename_i hge
     have hyes : B.termAt M.index = (M.prev, true) := by
      by_cases e : B.termAt M.index = (M.prev, true)
      ·exact e
      ·exact absurd ⟨hge, e⟩ hc
     have hil : M.index ≤ B.lst := termAt_le (by rw [hyes]) (by omega)
     exact (PR.merge hC _ M.index (by show B.base ≤ _; omega) hil).soft
theorem PR.given (h : PR B0 B) (M : Msg) : PR B0 (B.given M).1 := by
 unfold BS.given
 split
 ·exact h
 ·split
  ·exact h.soft
  ·exact h.whole rfl rfl rfl rfl
theorem PR.asked (h : PR B0 B) (M : Msg) : PR B0 (B.asked M).1 := by
 unfold BS.asked
 dsimp only
 split
 ·exact h.touch
 ·exact h
theorem PR.voted (h : PR B0 B) (hI : B.Inv z) (M : Msg) : PR B0 (B.voted M).1 := by
 unfold BS.voted
 split
 ·exact h
 ·exact PR.counted (B := { B with votes := B.votes.set M.from_.toNat true }) h.soft (Inv.votes hI _)
theorem PR.heard (h : PR B0 B) (hI : B.Inv z) (M : Msg) : PR B0 (B.heard M).1 := by
 have hlc := hI.run.lc
 unfold BS.heard
 split
 ·exact h
 ·dsimp only
  split
  ·exact h.soft
  ·have h1 : PR B0 (B.fedTo M.from_.toNat M.index) := h.soft
   have h2 := h1.settled hlc
   split
   ·exact h2
   ·exact h2
theorem PR.take (h : PR B0 B) (hI : B.Inv z) (M : Msg) (hz : 0 ≤ z) : PR B0 (B.take M).1 := by
 unfold BS.take
 split
 ·exact h
 ·rename_i hst
  have hs : PR B0 (B.seen M) := by
   unfold BS.seen; split
   ·exact h.touch
   ·exact h
  have hsI : (B.seen M).Inv z := by
   obtain ⟨f1, f2, f3, f4, f5, f6, f7, f8, f9, f10⟩ := not_strange (by simpa using hst)
   unfold BS.seen; split
   ·exact Inv.turned hI ⟨by omega, f8⟩ hz
   ·exact hI
  split
  ·exact hs
  ·unfold BS.does
   split
   ·exact hs.asked M
   ·split
    ·exact hs.voted hsI M
    ·split
     ·exact hs.fed hsI M
     ·split
      ·exact hs.heard hsI M
      ·exact hs.given M
theorem PR.timeout (h : PR B0 B) (hI : B.Inv z) : PR B0 B.timeout.1 := by
 unfold BS.timeout
 split
 ·exact h
 ·have h1 : PR B0 B.stood := h.touch
  exact h1.counted (Inv.stood hI)
theorem PR.propose (h : PR B0 B) (hI : B.Inv z) (a b : Int) (x : ByteArray) : PR B0 (B.propose a b x).2.1 := by
 have hb := hI.run.ok.com
 have hlc := hI.run.lc
 unfold BS.propose
 split
 ·have h1 : PR B0 (B.proposed a b x) := h.set (by omega) (Int.le_refl _) _
  refine h1.settled ?_
  have : (B.proposed a b x).lst = B.lst + 1 - 1 + ([(⟨B.term, a, b, x⟩ : Ent)].length : Int) := set_lst (by omega) (Int.le_refl _) _
  rw [this]
  show B.commit ≤ _
  simp; omega
 ·exact h
theorem PR.cutAll (h : PR B0 B) : PR B0 B.cutAll.1 := by
 unfold BS.cutAll BS.cut
 split
 ·exact h
 ·exact h.whole rfl rfl rfl rfl
theorem Saved.step {l : List Dl} (hS : Saved l B0) (h : PR B0 B) (hb : B0.base ≤ B0.lst) (h1 : 0 ≤ B.term ∧ B.term ≤ 2 * FAR) (h2 : -1 ≤ B.vote ∧ B.vote < B.size) (h3 : 0 ≤ B.base ∧ B.base ≤ 2 * FAR) (h4 : 0 ≤ B.baseTerm ∧ B.baseTerm ≤ 2 * FAR) :
  Saved (if B.deltaOf.whole = true then [B.deltaOf] else l ++ [B.deltaOf]) B := by
 unfold Saved
 by_cases hw : B.whole = true
 ·have hD : B.deltaOf = ⟨B.term, B.vote, true, B.base, B.baseTerm, B.snap, B.base + 1, B.log⟩ := by unfold BS.deltaOf; rw [if_pos hw]
  rw [hD, if_pos rfl]
  show (match (newBS B.id B.size).lay _ with | some B' => B'.lays [] | none => none) = _
  unfold BS.lay
  dsimp only
  rw [if_neg (by show ¬ (B.term < 0 ∨ B.term > 2 * FAR ∨ B.vote < -1 ∨ B.vote ≥ B.size); omega), if_pos rfl, if_neg (by omega)]
  first | done | rfl
 ·have hw : B.whole = false := by simpa using hw
  obtain ⟨a1, a2, a3, a4, a5, a6⟩ := h.part hw
  have hD : B.deltaOf = ⟨B.term, B.vote, false, 0, 0, ⟨#[]⟩, B.from_, B.log.drop (B.from_ - B.base - 1).toNat⟩ := by unfold BS.deltaOf; rw [if_neg (by rw [hw]; decide)]
  rw [hD, if_neg (by simp), lays_snoc]
  rw [show newBS B.id B.size = newBS B0.id B0.size by rw [h.id, h.sz], hS]
  show B0.raw.lay _ = _
  have hl0 : B0.raw.lst = B0.lst := rfl
  unfold BS.lay
  dsimp only
  rw [if_neg (by show ¬ (B.term < 0 ∨ B.term > 2 * FAR ∨ B.vote < -1 ∨ B.vote ≥ B0.size); rw [← h.sz]; omega), if_neg (by decide), if_neg (by rw [hl0]; show ¬ (B.from_ ≤ B0.base ∨ _); omega)]
  have e : B0.log.take (B.from_ - B0.base - 1).toNat ++ B.log.drop (B.from_ - B.base - 1).toNat = B.log := by
   rw [← a1, ← a6, List.take_append_drop]
  show some ({ B0.raw with log := B0.log.take (B.from_ - B0.base - 1).toNat ++ B.log.drop (B.from_ - B.base - 1).toNat, term := B.term, vote := B.vote } : BS) = some B.raw
  rw [e]
  show some (BS.mk B0.id B0.size B.term B.vote 0 (-1) B0.base 0 0 B0.baseTerm B0.snap B.log [] [] [] false false 1) = some (BS.mk B.id B.size B.term B.vote 0 (-1) B.base 0 0 B.baseTerm B.snap B.log [] [] [] false false 1)
  rw [h.id, h.sz, a1, a2, a3]
theorem Saved.kept {l : List Dl} (hS : Saved l B0) (h : PR B0 B) (ht : B.touched = false) : Saved l B := hS.of_raw h.id h.sz (h.same ht).1
theorem PR.clean (h : PR B0 B) (hc : Clean B0) (ht : B.touched = false) : Clean B := by
 obtain ⟨a, b, c⟩ := h.same ht
 refine ⟨ht, b.trans hc.w, ?_⟩
 obtain ⟨_, _, e1, _, _, e2⟩ := raw_eq a
 rw [c, hc.f]; unfold BS.lst; rw [e1, e2]
theorem cleaned_clean (B : BS) : Clean B.cleaned := ⟨rfl, rfl, rfl⟩
theorem Saved.cleaned {l : List Dl} {B : BS} (h : Saved l B) : Saved l B.cleaned := h
end
section
variable {i n A : Nat} {g : Gh} {B : BS} {F : List Ent} {z : Int}
theorem NodeOk.cleaned (hN : NodeOk g n i B F) : NodeOk g n i B.cleaned F := ⟨hN.rep.same, hN.id, hN.sz, hN.lt, hN.ct, hN.vt, hN.vlt, hN.lg, hN.ack, hN.com, hN.ld, hN.cnd, hN.fut⟩
theorem NodeOk.rst (hN : NodeOk g n i B F) (hb : B.base ≤ B.commit) (hc : B.commit.toNat ≤ F.length) : NodeOk g n i B.rst F :=
 ⟨hN.rep.same, hN.id, hN.sz, hN.lt, hN.ct, hN.vt, hN.vlt, hN.lg, hN.ack, hN.com.mono (Int.le_refl _) (by show B.base.toNat ≤ B.commit.toNat; omega) (Pre.refl hN.rep.bl), fun e => absurd e (by show ¬ (0 : Int) = 2; omega), fun e => absurd e (by show ¬ (0 : Int) = 1; omega), hN.fut⟩
theorem Inv.rst (h : B.Inv z) (hb : B.base ≤ B.lst) : B.rst.Inv z := by
 have hk := h.run.ok
 exact ⟨⟨⟨⟨hk.small.base0, hk.small.base1, hk.small.log1⟩, hk.base, hk.size, hk.id, Int.le_refl _⟩, hb, fun e => absurd e (by show ¬ (0 : Int) = 1; omega), fun e => absurd e (by show ¬ (0 : Int) = 2; omega)⟩, h.len, h.far, h.term, h.vote⟩
theorem Fr.rst (hb : B.base ≤ B.lst) : B.rst.Fr := fun _ => by
 show B.base < B.lst + 1 ∧ B.lst + 1 ≤ B.lst + 1
 omega
end
end
end Go.Proofs.YtcdggocbjnmeaaaGreat
