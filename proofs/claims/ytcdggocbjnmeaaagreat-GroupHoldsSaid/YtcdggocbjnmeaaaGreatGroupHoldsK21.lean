/-
  Part 21 for the law: lemmas.
  Conditions: none.
-/
import Derived.Test.YtcdggocbjnmeaaaGreatGroupHoldsK20
set_option maxHeartbeats 4000000
set_option maxRecDepth 100000
set_option linter.unusedVariables false
set_option linter.unusedSimpArgs false
set_option linter.unusedSectionVars false
namespace Fw
open Go
abbrev bodyE {W : Type} (π : Prims W) (P : Program) (la : LA) (ann : Ann) (n : Nat) (fn : Func) (c : Code) (args : List AV) (ws : List Nat) : W := bodyL π P la ann (mkFr (maskA ws args 0) n) fn c (mkFr (args.map some) n)
abbrev RT := Value → PH → Prop
theorem callsE {P : Program} {ann : Ann} {f : FuncId} {fn : Func} {c : Code} (la : LA) (hm : P.follows .mixedOrders = true) {s : PH} {Q : Value → PH → Prop} (hf : P.funcs[f]? = some fn) (hb : fn.body = some c) (hc : codeOkB P (ann.old la) c = true) {n : Nat} (hnn : fn.ntmps = n)
    {args : List AV} {ws : List Nat} (hn : Nat.ble args.length n = true) (hpin : pinB la args.length = true) {x : W.T} (e : bodyE (RP P Q) P la ann n fn c args ws = x) (h : x s) : DCalls P f (args.map AV.val).toArray s Q := by
 subst hnn
 exact calls_vcL la hm hf hb hc args ws (Nat.le_of_ble_eq_true hn) hpin (cast (congrFun e s).symm h)
end Fw
namespace Go.Proofs.YtcdggocbjnmeaaaGreat
open Fw Go Go.IntKind
theorem mo : Tryz.prog.follows .mixedOrders = true := by kernel_rfl
section
open Fw.W
def vc_wbyte {W : Type} (π : Prims W) (c : Nat) : W :=
 π.unSome (some (Addr.mk c 0 none)) fun p0 =>
 π.ld [.slice] (p0.add 0) fun (((a1 : Option Addr), (n2 : Nat), (c3 : Nat)), _) =>
 π.ite ((↑n2 : Int) == 0) (
  π.unSome (some (Addr.mk c 0 none)) fun p4 =>
  π.st (p4.add 2) [(.bool true)] <|
  π.ret (.int .u8 0)
 ) (
  π.unSome (some (Addr.mk c 0 none)) fun p5 =>
  π.ld [.slice] (p5.add 0) fun (((a6 : Option Addr), (n7 : Nat), (c8 : Nat)), _) =>
  π.guard ((0 : Int) ≤ 0 ∧ 0 < (↑n7 : Int)) <|
  π.unSome (a6) fun p9 =>
  π.ld [.int .u8] (p9.add 0) fun ((x10 : Int), _) =>
  π.unSome (some (Addr.mk c 0 none)) fun p11 =>
  π.ld [.slice] (p11.add 0) fun (((a12 : Option Addr), (n13 : Nat), (c14 : Nat)), _) =>
  π.guard ((0 : Int) ≤ 1 ∧ 1 ≤ (↑n13 : Int) ∧ (↑n13 : Int) ≤ (↑c14 : Int)) <|
  π.unSome (some (Addr.mk c 0 none)) fun p15 =>
  π.st (p15.add 0) [(.slice (if c14 = (1 : Nat) then a12 else Option.map (fun x => x.add 1) a12) ((↑n13 : Int).toNat - (1 : Nat)) (c14 - (1 : Nat)))] <|
  π.ret (.int .u8 x10)
 )
def ann_wbyte : Ann := {}
def la_wbyte : LA := {}
theorem eq_wbyte {W : Type} (π : Prims W) (c : Nat) : bodyE π Tryz.prog la_wbyte ann_wbyte 28 Tryz.f123 (bodyOf Tryz.f123) [.v (.pointer (some ⟨c, 0, none⟩))] [] = vc_wbyte π c := by kernel_rfl
theorem ok_wbyte (c : Nat) (R : RT) (s : PH) (h : vc_wbyte (RP Tryz.prog R) c s) : DCalls Tryz.prog 123 (List.map AV.val [.v (.pointer (some ⟨c, 0, none⟩))]).toArray s R :=
 callsE (c := bodyOf Tryz.f123) la_wbyte mo Tryz.func123 rfl (by kernel_rfl) Tryz.ntmps123 rfl (by kernel_rfl) (eq_wbyte ..) h
def vc_wlong {W : Type} (π : Prims W) (c : Nat) (p : Addr) : W :=
 π.unSome (some (Addr.mk c 0 none)) fun p0 =>
 π.ld [.bool] (p0.add 1) fun ((b1 : Bool), _) =>
 π.ite (!b1) (
  π.unSome (some p) fun p2 =>
  π.ld [.int .i64] (p2) fun ((x3 : Int), _) =>
  π.unSome (some p) fun p4 =>
  π.ld [.int .i64] (p4) fun ((x5 : Int), _) =>
  π.loop [(false, [.int .u64])] ((u64.wrap (↑(BitVec.ofInt (64 : Nat) (u64.wrap (u64.wrap x3 * 2)) ^^^ BitVec.ofInt (64 : Nat) (u64.wrap (x5.fdiv (9223372036854775808 : Int)))).toNat : Int), ()), ()) fun (((x7 : Int), _), _) again6 =>
   π.ite (decide (x7 ≥ 128)) (
    π.unSome (some (Addr.mk c 0 none)) fun p8 =>
    π.ld [.slice] (p8.add 0) fun (((a9 : Option Addr), (n10 : Nat), (c11 : Nat)), _) =>
    π.nw (Obj.cells #[(.int .u8 (u8.wrap (↑(BitVec.ofInt (8 : Nat) (u8.wrap x7) ||| BitVec.ofInt (8 : Nat) (128 : Int)).toNat : Int)))] (5 : Nat) (0, 0)) fun r12 =>
    π.app (5 : Nat) (1 : Nat) (1 : Nat) [(.int .u8 0)] (a9) (n10) (c11) (Src.sl (some (Addr.mk r12 0 none)) (1 : Nat)) fun a13 n14 c15 =>
    π.unSome (some (Addr.mk c 0 none)) fun p16 =>
    π.st (p16.add 0) [(.slice a13 n14 c15)] <|
    again6 ((x7.fdiv (128 : Int), ()), ())
   ) (
    π.unSome (some (Addr.mk c 0 none)) fun p17 =>
    π.ld [.slice] (p17.add 0) fun (((a18 : Option Addr), (n19 : Nat), (c20 : Nat)), _) =>
    π.nw (Obj.cells #[(.int .u8 (u8.wrap x7))] (5 : Nat) (0, 0)) fun r21 =>
    π.app (5 : Nat) (1 : Nat) (1 : Nat) [(.int .u8 0)] (a18) (n19) (c20) (Src.sl (some (Addr.mk r21 0 none)) (1 : Nat)) fun a22 n23 c24 =>
    π.unSome (some (Addr.mk c 0 none)) fun p25 =>
    π.st (p25.add 0) [(.slice a22 n23 c24)] <|
    π.ret (.tuple #[])
   )
 ) (
  π.loop [(false, [.int .u64]), (false, [.int .i64])] (((0 : Int), ()), ((0 : Int), ()), ()) fun (((x27 : Int), _), ((x28 : Int), _), _) again26 =>
   π.ite (decide (x28 < 70)) (
    π.unSome (some (Addr.mk c 0 none)) fun p29 =>
    π.ld [.bool] (p29.add 2) fun ((b30 : Bool), _) =>
    π.ite (!b30) (
     π.call 123 #[(.pointer (some (Addr.mk c 0 none)))] (false, [(false, [.int .u8])]) fun (((x31 : Int), _), _) =>
     π.guard (0 ≤ x28) <|
     π.ite (decide (x31 < 128)) (
      π.unSome (some p) fun p32 =>
      π.st (p32) [(.int .i64 (i64.wrap (↑(BitVec.ofInt (64 : Nat) (i64.wrap ((u64.wrap (↑(BitVec.ofInt (64 : Nat) x27 ||| BitVec.ofInt (64 : Nat) (if true = true then u64.wrap (u64.wrap (u8.wrap (↑(BitVec.ofInt (8 : Nat) x31 &&& BitVec.ofInt (8 : Nat) (127 : Int)).toNat : Int)) * 2 ^ min x28.toNat (64 : Nat)) else (u64.wrap (u8.wrap (↑(BitVec.ofInt (8 : Nat) x31 &&& BitVec.ofInt (8 : Nat) (127 : Int)).toNat : Int))).fdiv ((2 : Int) ^ min x28.toNat (64 : Nat)))).toNat : Int)).fdiv (2 : Int))) ^^^ BitVec.ofInt (64 : Nat) (i64.wrap ((0 : Int) - i64.wrap (u64.wrap (↑(BitVec.ofInt (64 : Nat) (u64.wrap (↑(BitVec.ofInt (64 : Nat) x27 ||| BitVec.ofInt (64 : Nat) (if true = true then u64.wrap (u64.wrap (u8.wrap (↑(BitVec.ofInt (8 : Nat) x31 &&& BitVec.ofInt (8 : Nat) (127 : Int)).toNat : Int)) * 2 ^ min x28.toNat (64 : Nat)) else (u64.wrap (u8.wrap (↑(BitVec.ofInt (8 : Nat) x31 &&& BitVec.ofInt (8 : Nat) (127 : Int)).toNat : Int))).fdiv ((2 : Int) ^ min x28.toNat (64 : Nat)))).toNat : Int)) &&& BitVec.ofInt (64 : Nat) (1 : Int)).toNat : Int))))).toNat : Int)))] <|
      π.ret (.tuple #[])
     ) (
      again26 ((u64.wrap (↑(BitVec.ofInt (64 : Nat) x27 ||| BitVec.ofInt (64 : Nat) (if true = true then u64.wrap (u64.wrap (u8.wrap (↑(BitVec.ofInt (8 : Nat) x31 &&& BitVec.ofInt (8 : Nat) (127 : Int)).toNat : Int)) * 2 ^ min x28.toNat (64 : Nat)) else (u64.wrap (u8.wrap (↑(BitVec.ofInt (8 : Nat) x31 &&& BitVec.ofInt (8 : Nat) (127 : Int)).toNat : Int))).fdiv ((2 : Int) ^ min x28.toNat (64 : Nat)))).toNat : Int), ()), (i64.wrap (x28 + 7), ()), ())
     )
    ) (
     π.unSome (some (Addr.mk c 0 none)) fun p33 =>
     π.st (p33.add 2) [(.bool true)] <|
     π.ret (.tuple #[])
    )
   ) (
    π.unSome (some (Addr.mk c 0 none)) fun p34 =>
    π.st (p34.add 2) [(.bool true)] <|
    π.ret (.tuple #[])
   )
 )
def ann_wlong : Ann := { draws := [(1, { A := [0, 1, 2, 3, 4, 5, 6, 7, 8, 9, 10, 11] })], loop := [(2, [(4, 198)]), (8, [(5, 198), (6, 3)])] }
def la_wlong : LA := {}
theorem eq_wlong {W : Type} (π : Prims W) (c : Nat) (p : Addr) : bodyE π Tryz.prog la_wlong ann_wlong 86 Tryz.f117 (bodyOf Tryz.f117) [.v (.pointer (some ⟨c, 0, none⟩)), .v (.pointer (some p))] [] = vc_wlong π c p := by kernel_rfl
theorem ok_wlong (c : Nat) (p : Addr) (R : RT) (s : PH) (h : vc_wlong (RP Tryz.prog R) c p s) : DCalls Tryz.prog 117 (List.map AV.val [.v (.pointer (some ⟨c, 0, none⟩)), .v (.pointer (some p))]).toArray s R :=
 callsE (c := bodyOf Tryz.f117) la_wlong mo Tryz.func117 rfl (by kernel_rfl) Tryz.ntmps117 rfl (by kernel_rfl) (eq_wlong ..) h
def vc_wnums {W : Type} (π : Prims W) (c : Nat) (a : Option Addr) (an ac : Nat) : W :=
 π.loop [(false, [.slice]), (false, [.int .i64]), (false, [.int .i64])] (((a, an, ac), ()), ((↑an : Int), ()), ((0 : Int), ()), ()) fun ((((a1 : Option Addr), (n2 : Nat), (c3 : Nat)), _), ((x4 : Int), _), ((x5 : Int), _), _) again0 =>
  π.ite (decide (x5 < x4)) (
   π.guard (0 ≤ x5 ∧ x5 < (↑n2 : Int)) <|
   π.unSome (a1) fun p6 =>
   π.ld [.ptr] (p6.add (x5.toNat * 1)) fun (p7, _) =>
   π.unSome (p7) fun p8 =>
   π.ld [.int .i64] (p8) fun ((x9 : Int), _) =>
   π.nw (Obj.cells #[(.int .i64 0)] (2 : Nat) (0, 0)) fun r10 =>
   π.st (Addr.mk r10 0 none) [(.int .i64 x9)] <|
   π.call 117 #[(.pointer (some (Addr.mk c 0 none))), (.pointer (some (Addr.mk r10 0 none)))] (true, []) fun (_) =>
   π.ld [.int .i64] (Addr.mk r10 0 none) fun ((x11 : Int), _) =>
   π.unSome (p7) fun p12 =>
   π.st (p12) [(.int .i64 x11)] <|
   again0 (((a1, n2, c3), ()), (x4, ()), (i64.wrap (x5 + 1), ()), ())
  ) (
   π.ret (.tuple #[])
  )
def ann_wnums : Ann := { loop := [(1, [(7, 191), (8, 3), (9, 3)])] }
def la_wnums : LA := {}
theorem eq_wnums {W : Type} (π : Prims W) (c : Nat) (a : Option Addr) (an ac : Nat) : bodyE π Tryz.prog la_wnums ann_wnums 22 Tryz.f107 (bodyOf Tryz.f107) [.v (.pointer (some ⟨c, 0, none⟩)), .v (.slice a an ac)] [] = vc_wnums π c a an ac := by kernel_rfl
theorem ok_wnums (c : Nat) (a : Option Addr) (an ac : Nat) (R : RT) (s : PH) (h : vc_wnums (RP Tryz.prog R) c a an ac s) : DCalls Tryz.prog 107 (List.map AV.val [.v (.pointer (some ⟨c, 0, none⟩)), .v (.slice a an ac)]).toArray s R :=
 callsE (c := bodyOf Tryz.f107) la_wnums mo Tryz.func107 rfl (by kernel_rfl) Tryz.ntmps107 rfl (by kernel_rfl) (eq_wnums ..) h
def vc_wflag {W : Type} (π : Prims W) (c : Nat) (p : Addr) : W :=
 π.nw (Obj.cells #[(.int .i64 0)] (3 : Nat) (0, 0)) fun r0 =>
 π.st (Addr.mk r0 0 none) [(.int .i64 0)] <|
 π.join [(false, [.addr])] (fun J1 =>
  π.unSome (some p) fun p2 =>
  π.ld [.bool] (p2) fun ((b3 : Bool), _) =>
  π.ite (b3) (
   π.st (Addr.mk r0 0 none) [(.int .i64 1)] <|
   J1 ((Addr.mk r0 0 none, ()), ())
  ) (
   J1 ((Addr.mk r0 0 none, ()), ())
  )
 ) (fun ((p4, _), _) =>
  π.nw (Obj.cells #[(.pointer (some p4))] (176 : Nat) (0, 0)) fun r5 =>
  π.call 107 #[(.pointer (some (Addr.mk c 0 none))), (.slice (some (Addr.mk r5 0 none)) ((1 : Nat)) ((1 : Nat)))] (true, []) fun (_) =>
  π.ld [.int .i64] (p4) fun ((x6 : Int), _) =>
  π.unSome (some p) fun p7 =>
  π.st (p7) [(.bool (x6 == 1))] <|
  π.unSome (some (Addr.mk c 0 none)) fun p8 =>
  π.ld [.bool] (p8.add 2) fun ((b9 : Bool), _) =>
  π.ite (b9) (
   π.unSome (some (Addr.mk c 0 none)) fun p10 =>
   π.st (p10.add 2) [(.bool true)] <|
   π.ret (.tuple #[])
  ) (
   π.ld [.int .i64] (p4) fun ((x11 : Int), _) =>
   π.ite (decide (x11 < 0)) (
    π.unSome (some (Addr.mk c 0 none)) fun p12 =>
    π.st (p12.add 2) [(.bool true)] <|
    π.ret (.tuple #[])
   ) (
    π.ld [.int .i64] (p4) fun ((x13 : Int), _) =>
    π.unSome (some (Addr.mk c 0 none)) fun p14 =>
    π.st (p14.add 2) [(.bool (decide (x13 > 1)))] <|
    π.ret (.tuple #[])
   )
  )
 )
def ann_wflag : Ann := { join := [(3, [(4, 1000000)])],  }
def la_wflag : LA := {}
theorem eq_wflag {W : Type} (π : Prims W) (c : Nat) (p : Addr) : bodyE π Tryz.prog la_wflag ann_wflag 30 Tryz.f108 (bodyOf Tryz.f108) [.v (.pointer (some ⟨c, 0, none⟩)), .v (.pointer (some p))] [] = vc_wflag π c p := by kernel_rfl
theorem ok_wflag (c : Nat) (p : Addr) (R : RT) (s : PH) (h : vc_wflag (RP Tryz.prog R) c p s) : DCalls Tryz.prog 108 (List.map AV.val [.v (.pointer (some ⟨c, 0, none⟩)), .v (.pointer (some p))]).toArray s R :=
 callsE (c := bodyOf Tryz.f108) la_wflag mo Tryz.func108 rfl (by kernel_rfl) Tryz.ntmps108 rfl (by kernel_rfl) (eq_wflag ..) h
def vc_wtexts {W : Type} (π : Prims W) (c : Nat) (a : Option Addr) (an ac : Nat) : W :=
 π.loop [(false, [.slice]), (false, [.int .i64]), (false, [.int .i64])] (((a, an, ac), ()), ((↑an : Int), ()), ((0 : Int), ()), ()) fun ((((a1 : Option Addr), (n2 : Nat), (c3 : Nat)), _), ((x4 : Int), _), ((x5 : Int), _), _) again0 =>
  π.ite (decide (x5 < x4)) (
   π.guard (0 ≤ x5 ∧ x5 < (↑n2 : Int)) <|
   π.unSome (a1) fun p6 =>
   π.ld [.ptr] (p6.add (x5.toNat * 1)) fun (p7, _) =>
   π.unSome (p7) fun p8 =>
   π.ld [.str] (p8) fun ((t9 : ByteArray), _) =>
   π.nw (Obj.cells #[(.int .i64 0)] (3 : Nat) (0, 0)) fun r10 =>
   π.st (Addr.mk r10 0 none) [(.int .i64 ((↑t9.size : Int)))] <|
   π.nw (Obj.cells #[(.pointer (some (Addr.mk r10 0 none)))] (176 : Nat) (0, 0)) fun r11 =>
   π.call 107 #[(.pointer (some (Addr.mk c 0 none))), (.slice (some (Addr.mk r11 0 none)) ((1 : Nat)) ((1 : Nat)))] (true, []) fun (_) =>
   π.unSome (some (Addr.mk c 0 none)) fun p12 =>
   π.ld [.bool] (p12.add 1) fun ((b13 : Bool), _) =>
   π.ite (!b13) (
    π.unSome (some (Addr.mk c 0 none)) fun p14 =>
    π.ld [.slice] (p14.add 0) fun (((a15 : Option Addr), (n16 : Nat), (c17 : Nat)), _) =>
    π.unSome (p7) fun p18 =>
    π.ld [.str] (p18) fun ((t19 : ByteArray), _) =>
    π.app (5 : Nat) (1 : Nat) (1 : Nat) [(.int .u8 0)] (a15) (n16) (c17) (Src.str t19) fun a20 n21 c22 =>
    π.unSome (some (Addr.mk c 0 none)) fun p23 =>
    π.st (p23.add 0) [(.slice a20 n21 c22)] <|
    again0 (((a1, n2, c3), ()), (x4, ()), (i64.wrap (x5 + 1), ()), ())
   ) (
    π.join [(false, [.ptr]), (false, [.addr]), (false, [.slice]), (false, [.int .i64]), (false, [.int .i64]), (false, [.bool])] (fun J24 =>
     π.unSome (some (Addr.mk c 0 none)) fun p25 =>
     π.ld [.bool] (p25.add 2) fun ((b26 : Bool), _) =>
     π.ite (b26) (
      J24 ((p7, ()), (Addr.mk r10 0 none, ()), ((a1, n2, c3), ()), (x4, ()), (x5, ()), (true, ()), ())
     ) (
      π.ld [.int .i64] (Addr.mk r10 0 none) fun ((x27 : Int), _) =>
      π.ite (decide (x27 < 0)) (
       J24 ((p7, ()), (Addr.mk r10 0 none, ()), ((a1, n2, c3), ()), (x4, ()), (x5, ()), (true, ()), ())
      ) (
       π.ld [.int .i64] (Addr.mk r10 0 none) fun ((x28 : Int), _) =>
       π.unSome (some (Addr.mk c 0 none)) fun p29 =>
       π.ld [.slice] (p29.add 0) fun (((a30 : Option Addr), (n31 : Nat), (c32 : Nat)), _) =>
       J24 ((p7, ()), (Addr.mk r10 0 none, ()), ((a1, n2, c3), ()), (x4, ()), (x5, ()), (decide (x28 > (↑n31 : Int)), ()), ())
      )
     )
    ) (fun ((p33, _), (p34, _), (((a35 : Option Addr), (n36 : Nat), (c37 : Nat)), _), ((x38 : Int), _), ((x39 : Int), _), ((b40 : Bool), _), _) =>
     π.ite (b40) (
      π.unSome (some (Addr.mk c 0 none)) fun p41 =>
      π.st (p41.add 2) [(.bool true)] <|
      again0 (((a35, n36, c37), ()), (x38, ()), (i64.wrap (x39 + 1), ()), ())
     ) (
      π.unSome (some (Addr.mk c 0 none)) fun p42 =>
      π.ld [.slice] (p42.add 0) fun (((a43 : Option Addr), (n44 : Nat), (c45 : Nat)), _) =>
      π.ld [.int .i64] (p34) fun ((x46 : Int), _) =>
      π.guard ((0 : Int) ≤ 0 ∧ 0 ≤ x46 ∧ x46 ≤ (↑c45 : Int)) <|
      π.b2s (if c45 = (0 : Nat) then a43 else Option.map (fun x => x.add 0) a43) (x46.toNat - (0 : Nat)) fun t47 =>
      π.unSome (p33) fun p48 =>
      π.st (p48) [(.string t47)] <|
      π.unSome (some (Addr.mk c 0 none)) fun p49 =>
      π.ld [.slice] (p49.add 0) fun (((a50 : Option Addr), (n51 : Nat), (c52 : Nat)), _) =>
      π.ld [.int .i64] (p34) fun ((x53 : Int), _) =>
      π.guard (0 ≤ x53 ∧ x53 ≤ (↑n51 : Int) ∧ (↑n51 : Int) ≤ (↑c52 : Int)) <|
      π.unSome (some (Addr.mk c 0 none)) fun p54 =>
      π.st (p54.add 0) [(.slice (if c52 = x53.toNat then a50 else Option.map (fun x => x.add (x53.toNat * 1)) a50) ((↑n51 : Int).toNat - x53.toNat) (c52 - x53.toNat))] <|
      again0 (((a35, n36, c37), ()), (x38, ()), (i64.wrap (x39 + 1), ()), ())
     )
    )
   )
  ) (
   π.ret (.tuple #[])
  )
def ann_wtexts : Ann := { draws := [(8, { A := [0, 1, 2, 3, 4, 5, 6, 7], eag := [9, 10] }), (9, { A := [0, 1, 2, 3, 4, 5, 6, 7, 8, 9, 10, 11, 12, 13, 14, 15, 16, 17] }), (5, { A := [0, 1, 2, 3, 4, 5, 6, 7, 8] }), (6, { A := [0, 1, 2, 3, 4, 5, 6, 7, 8] })], join := [(10, [(5, 180), (6, 1000000), (7, 194), (8, 3), (9, 3), (55, 4)])], loop := [(1, [(7, 194), (8, 3), (9, 3)])] }
def la_wtexts : LA := {}
theorem eq_wtexts {W : Type} (π : Prims W) (c : Nat) (a : Option Addr) (an ac : Nat) : bodyE π Tryz.prog la_wtexts ann_wtexts 77 Tryz.f109 (bodyOf Tryz.f109) [.v (.pointer (some ⟨c, 0, none⟩)), .v (.slice a an ac)] [] = vc_wtexts π c a an ac := by kernel_rfl
theorem ok_wtexts (c : Nat) (a : Option Addr) (an ac : Nat) (R : RT) (s : PH) (h : vc_wtexts (RP Tryz.prog R) c a an ac s) : DCalls Tryz.prog 109 (List.map AV.val [.v (.pointer (some ⟨c, 0, none⟩)), .v (.slice a an ac)]).toArray s R :=
 callsE (c := bodyOf Tryz.f109) la_wtexts mo Tryz.func109 rfl (by kernel_rfl) Tryz.ntmps109 rfl (by kernel_rfl) (eq_wtexts ..) h
def vc_wentry {W : Type} (π : Prims W) (c : Nat) (p : Addr) : W :=
 π.unSome (some p) fun p0 =>
 π.unSome (some p) fun p1 =>
 π.unSome (some p) fun p2 =>
 π.nw (Obj.cells #[(.pointer (some (p0.add 0))), (.pointer (some (p1.add 1))), (.pointer (some (p2.add 2)))] (176 : Nat) (0, 0)) fun r3 =>
 π.call 107 #[(.pointer (some (Addr.mk c 0 none))), (.slice (some (Addr.mk r3 0 none)) ((3 : Nat)) ((3 : Nat)))] (true, []) fun (_) =>
 π.unSome (some p) fun p4 =>
 π.nw (Obj.cells #[(.pointer (some (p4.add 3)))] (180 : Nat) (0, 0)) fun r5 =>
 π.call 109 #[(.pointer (some (Addr.mk c 0 none))), (.slice (some (Addr.mk r5 0 none)) ((1 : Nat)) ((1 : Nat)))] (true, []) fun (_) =>
 π.ret (.tuple #[])
def ann_wentry : Ann := { draws := [(0, { A := [0, 1, 2, 3, 4, 5, 6, 7, 8, 9] })],  }
def la_wentry : LA := {}
theorem eq_wentry {W : Type} (π : Prims W) (c : Nat) (p : Addr) : bodyE π Tryz.prog la_wentry ann_wentry 22 Tryz.f111 (bodyOf Tryz.f111) [.v (.pointer (some ⟨c, 0, none⟩)), .v (.pointer (some p))] [] = vc_wentry π c p := by kernel_rfl
theorem ok_wentry (c : Nat) (p : Addr) (R : RT) (s : PH) (h : vc_wentry (RP Tryz.prog R) c p s) : DCalls Tryz.prog 111 (List.map AV.val [.v (.pointer (some ⟨c, 0, none⟩)), .v (.pointer (some p))]).toArray s R :=
 callsE (c := bodyOf Tryz.f111) la_wentry mo Tryz.func111 rfl (by kernel_rfl) Tryz.ntmps111 rfl (by kernel_rfl) (eq_wentry ..) h
def vc_witems {W : Type} (π : Prims W) (c : Nat) (p : Addr) : W :=
 π.unSome (some p) fun p0 =>
 π.ld [.slice] (p0) fun (((a1 : Option Addr), (n2 : Nat), (c3 : Nat)), _) =>
 π.nw (Obj.cells #[(.int .i64 0)] (3 : Nat) (0, 0)) fun r4 =>
 π.st (Addr.mk r4 0 none) [(.int .i64 ((↑n2 : Int)))] <|
 π.nw (Obj.cells #[(.pointer (some (Addr.mk r4 0 none)))] (176 : Nat) (0, 0)) fun r5 =>
 π.call 107 #[(.pointer (some (Addr.mk c 0 none))), (.slice (some (Addr.mk r5 0 none)) ((1 : Nat)) ((1 : Nat)))] (true, []) fun (_) =>
 π.unSome (some (Addr.mk c 0 none)) fun p6 =>
 π.ld [.bool] (p6.add 1) fun ((b7 : Bool), _) =>
 π.ite (!b7) (
  π.unSome (some p) fun p8 =>
  π.ld [.slice] (p8) fun (((a9 : Option Addr), (n10 : Nat), (c11 : Nat)), _) =>
  π.loop [(false, [.int .i64]), (false, [.int .i64])] (((↑n10 : Int), ()), ((0 : Int), ()), ()) fun (((x13 : Int), _), ((x14 : Int), _), _) again12 =>
   π.ite (decide (x14 < x13)) (
    π.unSome (some p) fun p15 =>
    π.ld [.slice] (p15) fun (((a16 : Option Addr), (n17 : Nat), (c18 : Nat)), _) =>
    π.guard (0 ≤ x14 ∧ x14 < (↑n17 : Int)) <|
    π.unSome (a16) fun p19 =>
    π.ld [.int .i64, .int .i64, .int .i64, .str] (p19.add (x14.toNat * 4)) fun ((x20 : Int), (x21 : Int), (x22 : Int), (t23 : ByteArray), _) =>
    π.nw (Obj.cells #[(.int .i64 0), (.int .i64 0), (.int .i64 0), (.string ⟨#[]⟩)] (43 : Nat) (0, 0)) fun r24 =>
    π.st (Addr.mk r24 0 none) [(.int .i64 x20), (.int .i64 x21), (.int .i64 x22), (.string t23)] <|
    π.call 111 #[(.pointer (some (Addr.mk c 0 none))), (.pointer (some (Addr.mk r24 0 none)))] (true, []) fun (_) =>
    again12 ((x13, ()), (i64.wrap (x14 + 1), ()), ())
   ) (
    π.ret (.tuple #[])
   )
 ) (
  π.ld [.int .i64] (Addr.mk r4 0 none) fun ((x25 : Int), _) =>
  π.loop [(false, [.addr]), (false, [.int .i64]), (false, [.int .i64])] ((Addr.mk r4 0 none, ()), (x25, ()), ((0 : Int), ()), ()) fun ((p27, _), ((x28 : Int), _), ((x29 : Int), _), _) again26 =>
   π.ite (decide (x29 < x28)) (
    π.join [(false, [.addr]), (false, [.int .i64]), (false, [.int .i64])] (fun J30 =>
     π.unSome (some (Addr.mk c 0 none)) fun p31 =>
     π.ld [.bool] (p31.add 2) fun ((b32 : Bool), _) =>
     π.ite (b32) (
      π.unSome (some (Addr.mk c 0 none)) fun p33 =>
      π.st (p33.add 2) [(.bool true)] <|
      π.ret (.tuple #[])
     ) (
      π.unSome (some (Addr.mk c 0 none)) fun p34 =>
      π.ld [.slice] (p34.add 0) fun (((a35 : Option Addr), (n36 : Nat), (c37 : Nat)), _) =>
      π.ite ((↑n36 : Int) == 0) (
       π.unSome (some (Addr.mk c 0 none)) fun p38 =>
       π.st (p38.add 2) [(.bool true)] <|
       π.ret (.tuple #[])
      ) (
       J30 ((p27, ()), (x28, ()), (x29, ()), ())
      )
     )
    ) (fun ((p39, _), ((x40 : Int), _), ((x41 : Int), _), _) =>
     π.nw (Obj.cells #[(.int .i64 0), (.int .i64 0), (.int .i64 0), (.string ⟨#[]⟩)] (43 : Nat) (0, 0)) fun r42 =>
     π.call 111 #[(.pointer (some (Addr.mk c 0 none))), (.pointer (some (Addr.mk r42 0 none)))] (true, []) fun (_) =>
     π.unSome (some p) fun p43 =>
     π.ld [.slice] (p43) fun (((a44 : Option Addr), (n45 : Nat), (c46 : Nat)), _) =>
     π.ld [.int .i64, .int .i64, .int .i64, .str] (Addr.mk r42 0 none) fun ((x47 : Int), (x48 : Int), (x49 : Int), (t50 : ByteArray), _) =>
     π.nw (Obj.cells #[(.int .i64 x47), (.int .i64 x48), (.int .i64 x49), (.string t50)] (43 : Nat) (0, 0)) fun r51 =>
     π.app (43 : Nat) (4 : Nat) (40 : Nat) [(.int .i64 0), (.int .i64 0), (.int .i64 0), (.string ⟨#[]⟩)] (a44) (n45) (c46) (Src.sl (some (Addr.mk r51 0 none)) (1 : Nat)) fun a52 n53 c54 =>
     π.unSome (some p) fun p55 =>
     π.st (p55) [(.slice a52 n53 c54)] <|
     again26 ((p39, ()), (x40, ()), (i64.wrap (x41 + 1), ()), ())
    )
   ) (
    π.unSome (some (Addr.mk c 0 none)) fun p56 =>
    π.ld [.bool] (p56.add 2) fun ((b57 : Bool), _) =>
    π.ite (b57) (
     π.unSome (some (Addr.mk c 0 none)) fun p58 =>
     π.st (p58.add 2) [(.bool true)] <|
     π.ret (.tuple #[])
    ) (
     π.ld [.int .i64] (p27) fun ((x59 : Int), _) =>
     π.unSome (some (Addr.mk c 0 none)) fun p60 =>
     π.st (p60.add 2) [(.bool (decide (x59 < 0)))] <|
     π.ret (.tuple #[])
    )
   )
 )
def ann_witems : Ann := { draws := [(15, { A := [0, 1, 2, 3, 4], eag := [7] })], join := [(13, [(6, 1000000), (39, 3), (40, 3)])], loop := [(4, [(25, 3), (26, 3)]), (10, [(6, 1000000), (39, 3), (40, 3)])] }
def la_witems : LA := {}
theorem eq_witems {W : Type} (π : Prims W) (c : Nat) (p : Addr) : bodyE π Tryz.prog la_witems ann_witems 80 Tryz.f110 (bodyOf Tryz.f110) [.v (.pointer (some ⟨c, 0, none⟩)), .v (.pointer (some p)), .v (.func (.func 111) #[] #[])] [] = vc_witems π c p := by kernel_rfl
theorem ok_witems (c : Nat) (p : Addr) (R : RT) (s : PH) (h : vc_witems (RP Tryz.prog R) c p s) : DCalls Tryz.prog 110 (List.map AV.val [.v (.pointer (some ⟨c, 0, none⟩)), .v (.pointer (some p)), .v (.func (.func 111) #[] #[])]).toArray s R :=
 callsE (c := bodyOf Tryz.f110) la_witems mo Tryz.func110 rfl (by kernel_rfl) Tryz.ntmps110 rfl (by kernel_rfl) (eq_witems ..) h
def vc_wmsg {W : Type} (π : Prims W) (c : Nat) (p : Addr) : W :=
 π.unSome (some p) fun p0 =>
 π.unSome (some p) fun p1 =>
 π.unSome (some p) fun p2 =>
 π.unSome (some p) fun p3 =>
 π.unSome (some p) fun p4 =>
 π.unSome (some p) fun p5 =>
 π.unSome (some p) fun p6 =>
 π.nw (Obj.cells #[(.pointer (some (p0.add 0))), (.pointer (some (p1.add 1))), (.pointer (some (p2.add 2))), (.pointer (some (p3.add 3))), (.pointer (some (p4.add 4))), (.pointer (some (p5.add 5))), (.pointer (some (p6.add 6)))] (176 : Nat) (0, 0)) fun r7 =>
 π.call 107 #[(.pointer (some (Addr.mk c 0 none))), (.slice (some (Addr.mk r7 0 none)) ((7 : Nat)) ((7 : Nat)))] (true, []) fun (_) =>
 π.unSome (some p) fun p8 =>
 π.call 108 #[(.pointer (some (Addr.mk c 0 none))), (.pointer (some (p8.add 7)))] (true, []) fun (_) =>
 π.unSome (some p) fun p9 =>
 π.call 110 #[(.pointer (some (Addr.mk c 0 none))), (.pointer (some (p9.add 8))), (.func (Fn.func (111 : Nat)) #[] #[])] (true, []) fun (_) =>
 π.unSome (some p) fun p10 =>
 π.nw (Obj.cells #[(.pointer (some (p10.add 9)))] (180 : Nat) (0, 0)) fun r11 =>
 π.call 109 #[(.pointer (some (Addr.mk c 0 none))), (.slice (some (Addr.mk r11 0 none)) ((1 : Nat)) ((1 : Nat)))] (true, []) fun (_) =>
 π.ret (.tuple #[])
def ann_wmsg : Ann := { draws := [(0, { A := [0, 1, 2, 3, 4, 5, 6, 7, 8, 9, 10, 11, 12, 13, 14, 15, 16, 17, 18, 19, 20, 21] })],  }
def la_wmsg : LA := {}
theorem eq_wmsg {W : Type} (π : Prims W) (c : Nat) (p : Addr) : bodyE π Tryz.prog la_wmsg ann_wmsg 44 Tryz.f89 (bodyOf Tryz.f89) [.v (.pointer (some ⟨c, 0, none⟩)), .v (.pointer (some p))] [] = vc_wmsg π c p := by kernel_rfl
theorem ok_wmsg (c : Nat) (p : Addr) (R : RT) (s : PH) (h : vc_wmsg (RP Tryz.prog R) c p s) : DCalls Tryz.prog 89 (List.map AV.val [.v (.pointer (some ⟨c, 0, none⟩)), .v (.pointer (some p))]).toArray s R :=
 callsE (c := bodyOf Tryz.f89) la_wmsg mo Tryz.func89 rfl (by kernel_rfl) Tryz.ntmps89 rfl (by kernel_rfl) (eq_wmsg ..) h
def vc_wdelta {W : Type} (π : Prims W) (c : Nat) (p : Addr) : W :=
 π.unSome (some p) fun p0 =>
 π.unSome (some p) fun p1 =>
 π.nw (Obj.cells #[(.pointer (some (p0.add 0))), (.pointer (some (p1.add 1)))] (176 : Nat) (0, 0)) fun r2 =>
 π.call 107 #[(.pointer (some (Addr.mk c 0 none))), (.slice (some (Addr.mk r2 0 none)) ((2 : Nat)) ((2 : Nat)))] (true, []) fun (_) =>
 π.unSome (some p) fun p3 =>
 π.call 108 #[(.pointer (some (Addr.mk c 0 none))), (.pointer (some (p3.add 2)))] (true, []) fun (_) =>
 π.unSome (some p) fun p4 =>
 π.unSome (some p) fun p5 =>
 π.nw (Obj.cells #[(.pointer (some (p4.add 3))), (.pointer (some (p5.add 4)))] (176 : Nat) (0, 0)) fun r6 =>
 π.call 107 #[(.pointer (some (Addr.mk c 0 none))), (.slice (some (Addr.mk r6 0 none)) ((2 : Nat)) ((2 : Nat)))] (true, []) fun (_) =>
 π.unSome (some p) fun p7 =>
 π.nw (Obj.cells #[(.pointer (some (p7.add 5)))] (180 : Nat) (0, 0)) fun r8 =>
 π.call 109 #[(.pointer (some (Addr.mk c 0 none))), (.slice (some (Addr.mk r8 0 none)) ((1 : Nat)) ((1 : Nat)))] (true, []) fun (_) =>
 π.unSome (some p) fun p9 =>
 π.nw (Obj.cells #[(.pointer (some (p9.add 6)))] (176 : Nat) (0, 0)) fun r10 =>
 π.call 107 #[(.pointer (some (Addr.mk c 0 none))), (.slice (some (Addr.mk r10 0 none)) ((1 : Nat)) ((1 : Nat)))] (true, []) fun (_) =>
 π.unSome (some p) fun p11 =>
 π.call 110 #[(.pointer (some (Addr.mk c 0 none))), (.pointer (some (p11.add 7))), (.func (Fn.func (111 : Nat)) #[] #[])] (true, []) fun (_) =>
 π.ret (.tuple #[])
def ann_wdelta : Ann := { draws := [(0, { A := [0, 1, 2, 3, 4, 5, 6] }), (2, { A := [0, 1, 2, 3, 4, 5, 6] })],  }
def la_wdelta : LA := {}
theorem eq_wdelta {W : Type} (π : Prims W) (c : Nat) (p : Addr) : bodyE π Tryz.prog la_wdelta ann_wdelta 44 Tryz.f85 (bodyOf Tryz.f85) [.v (.pointer (some ⟨c, 0, none⟩)), .v (.pointer (some p))] [] = vc_wdelta π c p := by kernel_rfl
theorem ok_wdelta (c : Nat) (p : Addr) (R : RT) (s : PH) (h : vc_wdelta (RP Tryz.prog R) c p s) : DCalls Tryz.prog 85 (List.map AV.val [.v (.pointer (some ⟨c, 0, none⟩)), .v (.pointer (some p))]).toArray s R :=
 callsE (c := bodyOf Tryz.f85) la_wdelta mo Tryz.func85 rfl (by kernel_rfl) Tryz.ntmps85 rfl (by kernel_rfl) (eq_wdelta ..) h
def vc_wputM {W : Type} (π : Prims W) (mk mf mt mm mi mp mc : Int) (mg : Bool) (la : Option Addr) (ln lc : Nat) (ms : ByteArray) : W :=
 π.nw (Obj.cells #[(.int .i64 mk), (.int .i64 mf), (.int .i64 mt), (.int .i64 mm), (.int .i64 mi), (.int .i64 mp), (.int .i64 mc), (.bool mg), (.slice la ln lc), (.string ms)] (119 : Nat) (0, 0)) fun r0 =>
 π.nw (Obj.cells #[(.slice none 0 0), (.bool false), (.bool false)] (173 : Nat) (0, 0)) fun r1 =>
 π.call 89 #[(.pointer (some (Addr.mk r1 0 none))), (.pointer (some (Addr.mk r0 0 none)))] (true, []) fun (_) =>
 π.unSome (some (Addr.mk r1 0 none)) fun p2 =>
 π.ld [.slice] (p2.add 0) fun (((a3 : Option Addr), (n4 : Nat), (c5 : Nat)), _) =>
 π.b2s (a3) (n4) fun t6 =>
 π.ret (.string t6)
def ann_wputM : Ann := {}
def la_wputM : LA := {}
theorem eq_wputM {W : Type} (π : Prims W) (mk mf mt mm mi mp mc : Int) (mg : Bool) (la : Option Addr) (ln lc : Nat) (ms : ByteArray) : bodyE π Tryz.prog la_wputM ann_wputM 16 Tryz.f102 (bodyOf Tryz.f102) [.v (.agg #[.int .i64 mk, .int .i64 mf, .int .i64 mt, .int .i64 mm, .int .i64 mi, .int .i64 mp, .int .i64 mc, .bool mg, .slice la ln lc, .string ms]), .v (.func (.func 89) #[] #[])] [] = vc_wputM π mk mf mt mm mi mp mc mg la ln lc ms := by kernel_rfl
theorem ok_wputM (mk mf mt mm mi mp mc : Int) (mg : Bool) (la : Option Addr) (ln lc : Nat) (ms : ByteArray) (R : RT) (s : PH) (h : vc_wputM (RP Tryz.prog R) mk mf mt mm mi mp mc mg la ln lc ms s) : DCalls Tryz.prog 102 (List.map AV.val [.v (.agg #[.int .i64 mk, .int .i64 mf, .int .i64 mt, .int .i64 mm, .int .i64 mi, .int .i64 mp, .int .i64 mc, .bool mg, .slice la ln lc, .string ms]), .v (.func (.func 89) #[] #[])]).toArray s R :=
 callsE (c := bodyOf Tryz.f102) la_wputM mo Tryz.func102 rfl (by kernel_rfl) Tryz.ntmps102 rfl (by kernel_rfl) (eq_wputM ..) h
def vc_wputD {W : Type} (π : Prims W) (dt dv : Int) (dw : Bool) (db dbt : Int) (ds : ByteArray) (df : Int) (la : Option Addr) (ln lc : Nat) : W :=
 π.nw (Obj.cells #[(.int .i64 dt), (.int .i64 dv), (.bool dw), (.int .i64 db), (.int .i64 dbt), (.string ds), (.int .i64 df), (.slice la ln lc)] (113 : Nat) (0, 0)) fun r0 =>
 π.nw (Obj.cells #[(.slice none 0 0), (.bool false), (.bool false)] (173 : Nat) (0, 0)) fun r1 =>
 π.call 85 #[(.pointer (some (Addr.mk r1 0 none))), (.pointer (some (Addr.mk r0 0 none)))] (true, []) fun (_) =>
 π.unSome (some (Addr.mk r1 0 none)) fun p2 =>
 π.ld [.slice] (p2.add 0) fun (((a3 : Option Addr), (n4 : Nat), (c5 : Nat)), _) =>
 π.b2s (a3) (n4) fun t6 =>
 π.ret (.string t6)
def ann_wputD : Ann := {}
def la_wputD : LA := {}
theorem eq_wputD {W : Type} (π : Prims W) (dt dv : Int) (dw : Bool) (db dbt : Int) (ds : ByteArray) (df : Int) (la : Option Addr) (ln lc : Nat) : bodyE π Tryz.prog la_wputD ann_wputD 16 Tryz.f101 (bodyOf Tryz.f101) [.v (.agg #[.int .i64 dt, .int .i64 dv, .bool dw, .int .i64 db, .int .i64 dbt, .string ds, .int .i64 df, .slice la ln lc]), .v (.func (.func 85) #[] #[])] [] = vc_wputD π dt dv dw db dbt ds df la ln lc := by kernel_rfl
theorem ok_wputD (dt dv : Int) (dw : Bool) (db dbt : Int) (ds : ByteArray) (df : Int) (la : Option Addr) (ln lc : Nat) (R : RT) (s : PH) (h : vc_wputD (RP Tryz.prog R) dt dv dw db dbt ds df la ln lc s) : DCalls Tryz.prog 101 (List.map AV.val [.v (.agg #[.int .i64 dt, .int .i64 dv, .bool dw, .int .i64 db, .int .i64 dbt, .string ds, .int .i64 df, .slice la ln lc]), .v (.func (.func 85) #[] #[])]).toArray s R :=
 callsE (c := bodyOf Tryz.f101) la_wputD mo Tryz.func101 rfl (by kernel_rfl) Tryz.ntmps101 rfl (by kernel_rfl) (eq_wputD ..) h
def vc_wgetM {W : Type} (π : Prims W) (t : ByteArray) : W :=
 π.s2b (5 : Nat) (t) fun r0 n1 =>
 π.nw (Obj.cells #[(.slice (some (Addr.mk r0 0 none)) (t.size) (n1)), (.bool true), (.bool false)] (173 : Nat) (0, 0)) fun r2 =>
 π.nw (Obj.cells #[(.int .i64 0), (.int .i64 0), (.int .i64 0), (.int .i64 0), (.int .i64 0), (.int .i64 0), (.int .i64 0), (.bool false), (.slice none 0 0), (.string ⟨#[]⟩)] (119 : Nat) (0, 0)) fun r3 =>
 π.call 89 #[(.pointer (some (Addr.mk r2 0 none))), (.pointer (some (Addr.mk r3 0 none)))] (true, []) fun (_) =>
 π.unSome (some (Addr.mk r2 0 none)) fun p4 =>
 π.ld [.bool] (p4.add 2) fun ((b5 : Bool), _) =>
 π.ite (b5) (
  π.ret (.tuple #[(.agg #[(.int .i64 0), (.int .i64 0), (.int .i64 0), (.int .i64 0), (.int .i64 0), (.int .i64 0), (.int .i64 0), (.bool false), (.slice none 0 0), (.string ⟨#[]⟩)]), (.int .i64 100)])
 ) (
  π.unSome (some (Addr.mk r2 0 none)) fun p6 =>
  π.ld [.slice] (p6.add 0) fun (((a7 : Option Addr), (n8 : Nat), (c9 : Nat)), _) =>
  π.ite (decide ((↑n8 : Int) > 0)) (
   π.ret (.tuple #[(.agg #[(.int .i64 0), (.int .i64 0), (.int .i64 0), (.int .i64 0), (.int .i64 0), (.int .i64 0), (.int .i64 0), (.bool false), (.slice none 0 0), (.string ⟨#[]⟩)]), (.int .i64 100)])
  ) (
   π.ld [.int .i64, .int .i64, .int .i64, .int .i64, .int .i64, .int .i64, .int .i64, .bool, .slice, .str] (Addr.mk r3 0 none) fun ((x10 : Int), (x11 : Int), (x12 : Int), (x13 : Int), (x14 : Int), (x15 : Int), (x16 : Int), (b17 : Bool), ((a18 : Option Addr), (n19 : Nat), (c20 : Nat)), (t21 : ByteArray), _) =>
   π.call 102 #[(.agg #[(.int .i64 x10), (.int .i64 x11), (.int .i64 x12), (.int .i64 x13), (.int .i64 x14), (.int .i64 x15), (.int .i64 x16), (.bool b17), (.slice a18 n19 c20), (.string t21)]), (.func (Fn.func (89 : Nat)) #[] #[])] (false, [(false, [.str])]) fun (((t22 : ByteArray), _), _) =>
   π.ite (!t22.toList == t.toList) (
    π.ret (.tuple #[(.agg #[(.int .i64 0), (.int .i64 0), (.int .i64 0), (.int .i64 0), (.int .i64 0), (.int .i64 0), (.int .i64 0), (.bool false), (.slice none 0 0), (.string ⟨#[]⟩)]), (.int .i64 100)])
   ) (
    π.ld [.int .i64, .int .i64, .int .i64, .int .i64, .int .i64, .int .i64, .int .i64, .bool, .slice, .str] (Addr.mk r3 0 none) fun ((x23 : Int), (x24 : Int), (x25 : Int), (x26 : Int), (x27 : Int), (x28 : Int), (x29 : Int), (b30 : Bool), ((a31 : Option Addr), (n32 : Nat), (c33 : Nat)), (t34 : ByteArray), _) =>
    π.ret (.tuple #[(.agg #[(.int .i64 x23), (.int .i64 x24), (.int .i64 x25), (.int .i64 x26), (.int .i64 x27), (.int .i64 x28), (.int .i64 x29), (.bool b30), (.slice a31 n32 c33), (.string t34)]), (.int .i64 0)])
   )
  )
 )
def ann_wgetM : Ann := {}
def la_wgetM : LA := { ptr := [(4, 4, 0), (8, 8, 0)], ty := [(4, 119), (8, 119)] }
theorem eq_wgetM {W : Type} (π : Prims W) (t : ByteArray) : bodyE π Tryz.prog la_wgetM ann_wgetM 37 Tryz.f88 (bodyOf Tryz.f88) [.v (.string t), .v (.func (.func 89) #[] #[])] [] = vc_wgetM π t := by kernel_rfl
theorem ok_wgetM (t : ByteArray) (R : RT) (s : PH) (h : vc_wgetM (RP Tryz.prog R) t s) : DCalls Tryz.prog 88 (List.map AV.val [.v (.string t), .v (.func (.func 89) #[] #[])]).toArray s R :=
 callsE (c := bodyOf Tryz.f88) la_wgetM mo Tryz.func88 rfl (by kernel_rfl) Tryz.ntmps88 rfl (by kernel_rfl) (eq_wgetM ..) h
def vc_wgetD {W : Type} (π : Prims W) (t : ByteArray) : W :=
 π.s2b (5 : Nat) (t) fun r0 n1 =>
 π.nw (Obj.cells #[(.slice (some (Addr.mk r0 0 none)) (t.size) (n1)), (.bool true), (.bool false)] (173 : Nat) (0, 0)) fun r2 =>
 π.nw (Obj.cells #[(.int .i64 0), (.int .i64 0), (.bool false), (.int .i64 0), (.int .i64 0), (.string ⟨#[]⟩), (.int .i64 0), (.slice none 0 0)] (113 : Nat) (0, 0)) fun r3 =>
 π.call 85 #[(.pointer (some (Addr.mk r2 0 none))), (.pointer (some (Addr.mk r3 0 none)))] (true, []) fun (_) =>
 π.unSome (some (Addr.mk r2 0 none)) fun p4 =>
 π.ld [.bool] (p4.add 2) fun ((b5 : Bool), _) =>
 π.ite (b5) (
  π.ret (.tuple #[(.agg #[(.int .i64 0), (.int .i64 0), (.bool false), (.int .i64 0), (.int .i64 0), (.string ⟨#[]⟩), (.int .i64 0), (.slice none 0 0)]), (.int .i64 100)])
 ) (
  π.unSome (some (Addr.mk r2 0 none)) fun p6 =>
  π.ld [.slice] (p6.add 0) fun (((a7 : Option Addr), (n8 : Nat), (c9 : Nat)), _) =>
  π.ite (decide ((↑n8 : Int) > 0)) (
   π.ret (.tuple #[(.agg #[(.int .i64 0), (.int .i64 0), (.bool false), (.int .i64 0), (.int .i64 0), (.string ⟨#[]⟩), (.int .i64 0), (.slice none 0 0)]), (.int .i64 100)])
  ) (
   π.ld [.int .i64, .int .i64, .bool, .int .i64, .int .i64, .str, .int .i64, .slice] (Addr.mk r3 0 none) fun ((x10 : Int), (x11 : Int), (b12 : Bool), (x13 : Int), (x14 : Int), (t15 : ByteArray), (x16 : Int), ((a17 : Option Addr), (n18 : Nat), (c19 : Nat)), _) =>
   π.call 101 #[(.agg #[(.int .i64 x10), (.int .i64 x11), (.bool b12), (.int .i64 x13), (.int .i64 x14), (.string t15), (.int .i64 x16), (.slice a17 n18 c19)]), (.func (Fn.func (85 : Nat)) #[] #[])] (false, [(false, [.str])]) fun (((t20 : ByteArray), _), _) =>
   π.ite (!t20.toList == t.toList) (
    π.ret (.tuple #[(.agg #[(.int .i64 0), (.int .i64 0), (.bool false), (.int .i64 0), (.int .i64 0), (.string ⟨#[]⟩), (.int .i64 0), (.slice none 0 0)]), (.int .i64 100)])
   ) (
    π.ld [.int .i64, .int .i64, .bool, .int .i64, .int .i64, .str, .int .i64, .slice] (Addr.mk r3 0 none) fun ((x21 : Int), (x22 : Int), (b23 : Bool), (x24 : Int), (x25 : Int), (t26 : ByteArray), (x27 : Int), ((a28 : Option Addr), (n29 : Nat), (c30 : Nat)), _) =>
    π.ret (.tuple #[(.agg #[(.int .i64 x21), (.int .i64 x22), (.bool b23), (.int .i64 x24), (.int .i64 x25), (.string t26), (.int .i64 x27), (.slice a28 n29 c30)]), (.int .i64 0)])
   )
  )
 )
def ann_wgetD : Ann := {}
def la_wgetD : LA := { ptr := [(4, 4, 0), (8, 8, 0)], ty := [(4, 113), (8, 113)] }
theorem eq_wgetD {W : Type} (π : Prims W) (t : ByteArray) : bodyE π Tryz.prog la_wgetD ann_wgetD 37 Tryz.f84 (bodyOf Tryz.f84) [.v (.string t), .v (.func (.func 85) #[] #[])] [] = vc_wgetD π t := by kernel_rfl
theorem ok_wgetD (t : ByteArray) (R : RT) (s : PH) (h : vc_wgetD (RP Tryz.prog R) t s) : DCalls Tryz.prog 84 (List.map AV.val [.v (.string t), .v (.func (.func 85) #[] #[])]).toArray s R :=
 callsE (c := bodyOf Tryz.f84) la_wgetD mo Tryz.func84 rfl (by kernel_rfl) Tryz.ntmps84 rfl (by kernel_rfl) (eq_wgetD ..) h
def vc_PutMsg {W : Type} (π : Prims W) (mk mf mt mm mi mp mc : Int) (mg : Bool) (la : Option Addr) (ln lc : Nat) (ms : ByteArray) : W :=
 π.call 102 #[(.agg #[(.int .i64 mk), (.int .i64 mf), (.int .i64 mt), (.int .i64 mm), (.int .i64 mi), (.int .i64 mp), (.int .i64 mc), (.bool mg), (.slice la ln lc), (.string ms)]), (.func (Fn.func (89 : Nat)) #[] #[])] (false, [(false, [.str])]) fun (((t0 : ByteArray), _), _) =>
 π.ret (.string t0)
def ann_PutMsg : Ann := {}
def la_PutMsg : LA := { ptr := [(1, 1, 0)], ty := [(1, 119)] }
theorem eq_PutMsg {W : Type} (π : Prims W) (mk mf mt mm mi mp mc : Int) (mg : Bool) (la : Option Addr) (ln lc : Nat) (ms : ByteArray) : bodyE π Tryz.prog la_PutMsg ann_PutMsg 5 Tryz.f67 (bodyOf Tryz.f67) [.v (.agg #[.int .i64 mk, .int .i64 mf, .int .i64 mt, .int .i64 mm, .int .i64 mi, .int .i64 mp, .int .i64 mc, .bool mg, .slice la ln lc, .string ms])] [] = vc_PutMsg π mk mf mt mm mi mp mc mg la ln lc ms := by kernel_rfl
theorem ok_PutMsg (mk mf mt mm mi mp mc : Int) (mg : Bool) (la : Option Addr) (ln lc : Nat) (ms : ByteArray) (R : RT) (s : PH) (h : vc_PutMsg (RP Tryz.prog R) mk mf mt mm mi mp mc mg la ln lc ms s) : DCalls Tryz.prog 67 (List.map AV.val [.v (.agg #[.int .i64 mk, .int .i64 mf, .int .i64 mt, .int .i64 mm, .int .i64 mi, .int .i64 mp, .int .i64 mc, .bool mg, .slice la ln lc, .string ms])]).toArray s R :=
 callsE (c := bodyOf Tryz.f67) la_PutMsg mo Tryz.func67 rfl (by kernel_rfl) Tryz.ntmps67 rfl (by kernel_rfl) (eq_PutMsg ..) h
def vc_PutDelta {W : Type} (π : Prims W) (dt dv : Int) (dw : Bool) (db dbt : Int) (ds : ByteArray) (df : Int) (la : Option Addr) (ln lc : Nat) : W :=
 π.call 101 #[(.agg #[(.int .i64 dt), (.int .i64 dv), (.bool dw), (.int .i64 db), (.int .i64 dbt), (.string ds), (.int .i64 df), (.slice la ln lc)]), (.func (Fn.func (85 : Nat)) #[] #[])] (false, [(false, [.str])]) fun (((t0 : ByteArray), _), _) =>
 π.ret (.string t0)
def ann_PutDelta : Ann := {}
def la_PutDelta : LA := { ptr := [(1, 1, 0)], ty := [(1, 113)] }
theorem eq_PutDelta {W : Type} (π : Prims W) (dt dv : Int) (dw : Bool) (db dbt : Int) (ds : ByteArray) (df : Int) (la : Option Addr) (ln lc : Nat) : bodyE π Tryz.prog la_PutDelta ann_PutDelta 5 Tryz.f65 (bodyOf Tryz.f65) [.v (.agg #[.int .i64 dt, .int .i64 dv, .bool dw, .int .i64 db, .int .i64 dbt, .string ds, .int .i64 df, .slice la ln lc])] [] = vc_PutDelta π dt dv dw db dbt ds df la ln lc := by kernel_rfl
theorem ok_PutDelta (dt dv : Int) (dw : Bool) (db dbt : Int) (ds : ByteArray) (df : Int) (la : Option Addr) (ln lc : Nat) (R : RT) (s : PH) (h : vc_PutDelta (RP Tryz.prog R) dt dv dw db dbt ds df la ln lc s) : DCalls Tryz.prog 65 (List.map AV.val [.v (.agg #[.int .i64 dt, .int .i64 dv, .bool dw, .int .i64 db, .int .i64 dbt, .string ds, .int .i64 df, .slice la ln lc])]).toArray s R :=
 callsE (c := bodyOf Tryz.f65) la_PutDelta mo Tryz.func65 rfl (by kernel_rfl) Tryz.ntmps65 rfl (by kernel_rfl) (eq_PutDelta ..) h
def vc_GetMsg {W : Type} (π : Prims W) (t : ByteArray) : W :=
 π.call 88 #[(.string t), (.func (Fn.func (89 : Nat)) #[] #[])] (true, [(true, [.int .i64, .int .i64, .int .i64, .int .i64, .int .i64, .int .i64, .int .i64, .bool, .slice, .str]), (false, [.int .i64])]) fun (((x0 : Int), (x1 : Int), (x2 : Int), (x3 : Int), (x4 : Int), (x5 : Int), (x6 : Int), (b7 : Bool), ((a8 : Option Addr), (n9 : Nat), (c10 : Nat)), (t11 : ByteArray), _), ((x12 : Int), _), _) =>
 π.ret (.tuple #[(.agg #[(.int .i64 x0), (.int .i64 x1), (.int .i64 x2), (.int .i64 x3), (.int .i64 x4), (.int .i64 x5), (.int .i64 x6), (.bool b7), (.slice a8 n9 c10), (.string t11)]), (.int .i64 x12)])
def ann_GetMsg : Ann := {}
def la_GetMsg : LA := { ptr := [(2, 2, 0)], ty := [(2, 119)] }
theorem eq_GetMsg {W : Type} (π : Prims W) (t : ByteArray) : bodyE π Tryz.prog la_GetMsg ann_GetMsg 8 Tryz.f60 (bodyOf Tryz.f60) [.v (.string t)] [] = vc_GetMsg π t := by kernel_rfl
theorem ok_GetMsg (t : ByteArray) (R : RT) (s : PH) (h : vc_GetMsg (RP Tryz.prog R) t s) : DCalls Tryz.prog 60 (List.map AV.val [.v (.string t)]).toArray s R :=
 callsE (c := bodyOf Tryz.f60) la_GetMsg mo Tryz.func60 rfl (by kernel_rfl) Tryz.ntmps60 rfl (by kernel_rfl) (eq_GetMsg ..) h
def vc_GetDelta {W : Type} (π : Prims W) (t : ByteArray) : W :=
 π.call 84 #[(.string t), (.func (Fn.func (85 : Nat)) #[] #[])] (true, [(true, [.int .i64, .int .i64, .bool, .int .i64, .int .i64, .str, .int .i64, .slice]), (false, [.int .i64])]) fun (((x0 : Int), (x1 : Int), (b2 : Bool), (x3 : Int), (x4 : Int), (t5 : ByteArray), (x6 : Int), ((a7 : Option Addr), (n8 : Nat), (c9 : Nat)), _), ((x10 : Int), _), _) =>
 π.ret (.tuple #[(.agg #[(.int .i64 x0), (.int .i64 x1), (.bool b2), (.int .i64 x3), (.int .i64 x4), (.string t5), (.int .i64 x6), (.slice a7 n8 c9)]), (.int .i64 x10)])
def ann_GetDelta : Ann := {}
def la_GetDelta : LA := { ptr := [(2, 2, 0)], ty := [(2, 113)] }
theorem eq_GetDelta {W : Type} (π : Prims W) (t : ByteArray) : bodyE π Tryz.prog la_GetDelta ann_GetDelta 8 Tryz.f58 (bodyOf Tryz.f58) [.v (.string t)] [] = vc_GetDelta π t := by kernel_rfl
theorem ok_GetDelta (t : ByteArray) (R : RT) (s : PH) (h : vc_GetDelta (RP Tryz.prog R) t s) : DCalls Tryz.prog 58 (List.map AV.val [.v (.string t)]).toArray s R :=
 callsE (c := bodyOf Tryz.f58) la_GetDelta mo Tryz.func58 rfl (by kernel_rfl) Tryz.ntmps58 rfl (by kernel_rfl) (eq_GetDelta ..) h
end
section
open Fw.W
def vc_last {W : Type} (π : Prims W) (b : Nat) : W :=
 π.unSome (some (Addr.mk b 0 none)) fun p0 =>
 π.ld [.int .i64] ((p0.add 2).add 4) fun ((x1 : Int), _) =>
 π.unSome (some (Addr.mk b 0 none)) fun p2 =>
 π.ld [.slice] (p2.add 11) fun (((a3 : Option Addr), (n4 : Nat), (c5 : Nat)), _) =>
 π.ret (.int .i64 (i64.wrap (x1 + (↑n4 : Int))))
def ann_last : Ann := { draws := [(1, { A := [0, 1, 2, 3, 4, 5, 6, 7, 8, 9, 10, 11] })],  }
def la_last : LA := {}
theorem eq_last {W : Type} (π : Prims W) (b : Nat) : bodyE π Tryz.prog la_last ann_last 14 Tryz.f55 (bodyOf Tryz.f55) [.v (.pointer (some ⟨b, 0, none⟩))] [] = vc_last π b := by kernel_rfl
theorem ok_last (b : Nat) (R : RT) (s : PH) (h : vc_last (RP Tryz.prog R) b s) : DCalls Tryz.prog 55 (List.map AV.val [.v (.pointer (some ⟨b, 0, none⟩))]).toArray s R :=
 callsE (c := bodyOf Tryz.f55) la_last mo Tryz.func55 rfl (by kernel_rfl) Tryz.ntmps55 rfl (by kernel_rfl) (eq_last ..) h
def vc_clean {W : Type} (π : Prims W) (b : Nat) : W :=
 π.call 55 #[(.pointer (some (Addr.mk b 0 none)))] (false, [(false, [.int .i64])]) fun (((x0 : Int), _), _) =>
 π.unSome (some (Addr.mk b 0 none)) fun p1 =>
 π.st (p1.add 15) [(.bool false)] <|
 π.unSome (some (Addr.mk b 0 none)) fun p2 =>
 π.st (p2.add 16) [(.bool false)] <|
 π.unSome (some (Addr.mk b 0 none)) fun p3 =>
 π.st (p3.add 17) [(.int .i64 (i64.wrap (x0 + 1)))] <|
 π.ret (.tuple #[])
def ann_clean : Ann := {}
def la_clean : LA := {}
theorem eq_clean {W : Type} (π : Prims W) (b : Nat) : bodyE π Tryz.prog la_clean ann_clean 14 Tryz.f87 (bodyOf Tryz.f87) [.v (.pointer (some ⟨b, 0, none⟩))] [] = vc_clean π b := by kernel_rfl
theorem ok_clean (b : Nat) (R : RT) (s : PH) (h : vc_clean (RP Tryz.prog R) b s) : DCalls Tryz.prog 87 (List.map AV.val [.v (.pointer (some ⟨b, 0, none⟩))]).toArray s R :=
 callsE (c := bodyOf Tryz.f87) la_clean mo Tryz.func87 rfl (by kernel_rfl) Tryz.ntmps87 rfl (by kernel_rfl) (eq_clean ..) h
def vc_bNew {W : Type} (π : Prims W) (id size : Int) : W :=
 π.ite (decide (size < 1)) (
  π.ret (.tuple #[(.pointer none), (.int .i64 1)])
 ) (
  π.ite (decide (size > 5)) (
   π.ret (.tuple #[(.pointer none), (.int .i64 1)])
  ) (
   π.ite (decide (id < 0)) (
    π.ret (.tuple #[(.pointer none), (.int .i64 1)])
   ) (
    π.ite (decide (id ≥ size)) (
     π.ret (.tuple #[(.pointer none), (.int .i64 1)])
    ) (
     π.nw (Obj.cells #[(.int .i64 id), (.int .i64 size), (.int .i64 0), (.int .i64 (-1)), (.int .i64 0), (.int .i64 (-1)), (.int .i64 0), (.int .i64 0), (.int .i64 0), (.int .i64 0), (.string ⟨#[]⟩), (.slice none 0 0), (.slice none 0 0), (.slice none 0 0), (.slice none 0 0), (.bool false), (.bool false), (.int .i64 0)] (101 : Nat) (0, 0)) fun r0 =>
     π.call 87 #[(.pointer (some (Addr.mk r0 0 none)))] (true, []) fun (_) =>
     π.ret (.tuple #[(.pointer (some (Addr.mk r0 0 none))), (.int .i64 0)])
    )
   )
  )
 )
def ann_bNew : Ann := {}
def la_bNew : LA := {}
theorem eq_bNew {W : Type} (π : Prims W) (id size : Int) : bodyE π Tryz.prog la_bNew ann_bNew 30 Tryz.f86 (bodyOf Tryz.f86) [.v (.int .i64 id), .v (.int .i64 size)] [] = vc_bNew π id size := by kernel_rfl
theorem ok_bNew (id size : Int) (R : RT) (s : PH) (h : vc_bNew (RP Tryz.prog R) id size s) : DCalls Tryz.prog 86 (List.map AV.val [.v (.int .i64 id), .v (.int .i64 size)]).toArray s R :=
 callsE (c := bodyOf Tryz.f86) la_bNew mo Tryz.func86 rfl (by kernel_rfl) Tryz.ntmps86 rfl (by kernel_rfl) (eq_bNew ..) h
def vc_Clone {W : Type} (π : Prims W) (a : Option Addr) (an ac : Nat) : W :=
 π.ite (a.isNone) (
  π.ret (.slice none 0 0)
 ) (
  π.nw (Obj.cells #[] (43 : Nat) (0, 0)) fun r0 =>
  π.app (43 : Nat) (4 : Nat) (40 : Nat) [(.int .i64 0), (.int .i64 0), (.int .i64 0), (.string ⟨#[]⟩)] (some (Addr.mk r0 0 none)) ((0 : Nat)) ((0 : Nat)) (Src.sl a an) fun a1 n2 c3 =>
  π.ret (.slice a1 n2 c3)
 )
def ann_Clone : Ann := {}
def la_Clone : LA := {}
theorem eq_Clone {W : Type} (π : Prims W) (a : Option Addr) (an ac : Nat) : bodyE π Tryz.prog la_Clone ann_Clone 8 Tryz.f79 (bodyOf Tryz.f79) [.v (.slice a an ac)] [] = vc_Clone π a an ac := by kernel_rfl
theorem ok_Clone (a : Option Addr) (an ac : Nat) (R : RT) (s : PH) (h : vc_Clone (RP Tryz.prog R) a an ac s) : DCalls Tryz.prog 79 (List.map AV.val [.v (.slice a an ac)]).toArray s R :=
 callsE (c := bodyOf Tryz.f79) la_Clone mo Tryz.func79 rfl (by kernel_rfl) Tryz.ntmps79 rfl (by kernel_rfl) (eq_Clone ..) h
def vc_Entry {W : Type} (π : Prims W) (b : Nat) (i : Int) : W :=
 π.nw (Obj.cells #[(.int .i64 0), (.int .i64 0), (.int .i64 0), (.string ⟨#[]⟩)] (43 : Nat) (0, 0)) fun r0 =>
 π.ite ((some (Addr.mk b 0 none)).isNone) (
  π.st (Addr.mk r0 0 none) [(.int .i64 0), (.int .i64 0), (.int .i64 0), (.string ⟨#[]⟩)] <|
  π.ld [.int .i64, .int .i64, .int .i64, .str] (Addr.mk r0 0 none) fun ((x1 : Int), (x2 : Int), (x3 : Int), (t4 : ByteArray), _) =>
  π.ret (.tuple #[(.agg #[(.int .i64 x1), (.int .i64 x2), (.int .i64 x3), (.string t4)]), (.bool false)])
 ) (
  π.unSome (some (Addr.mk b 0 none)) fun p5 =>
  π.ld [.int .i64] ((p5.add 2).add 4) fun ((x6 : Int), _) =>
  π.ite (decide (i ≤ x6)) (
   π.st (Addr.mk r0 0 none) [(.int .i64 0), (.int .i64 0), (.int .i64 0), (.string ⟨#[]⟩)] <|
   π.ld [.int .i64, .int .i64, .int .i64, .str] (Addr.mk r0 0 none) fun ((x7 : Int), (x8 : Int), (x9 : Int), (t10 : ByteArray), _) =>
   π.ret (.tuple #[(.agg #[(.int .i64 x7), (.int .i64 x8), (.int .i64 x9), (.string t10)]), (.bool false)])
  ) (
   π.call 55 #[(.pointer (some (Addr.mk b 0 none)))] (false, [(false, [.int .i64])]) fun (((x11 : Int), _), _) =>
   π.ite (decide (i > x11)) (
    π.st (Addr.mk r0 0 none) [(.int .i64 0), (.int .i64 0), (.int .i64 0), (.string ⟨#[]⟩)] <|
    π.ld [.int .i64, .int .i64, .int .i64, .str] (Addr.mk r0 0 none) fun ((x12 : Int), (x13 : Int), (x14 : Int), (t15 : ByteArray), _) =>
    π.ret (.tuple #[(.agg #[(.int .i64 x12), (.int .i64 x13), (.int .i64 x14), (.string t15)]), (.bool false)])
   ) (
    π.unSome (some (Addr.mk b 0 none)) fun p16 =>
    π.ld [.slice] (p16.add 11) fun (((a17 : Option Addr), (n18 : Nat), (c19 : Nat)), _) =>
    π.unSome (some (Addr.mk b 0 none)) fun p20 =>
    π.ld [.int .i64] ((p20.add 2).add 4) fun ((x21 : Int), _) =>
    π.guard (0 ≤ i64.wrap (i64.wrap (i - x21) - 1) ∧ i64.wrap (i64.wrap (i - x21) - 1) < (↑n18 : Int)) <|
    π.unSome (a17) fun p22 =>
    π.ld [.int .i64, .int .i64, .int .i64, .str] (p22.add ((i64.wrap (i64.wrap (i - x21) - 1)).toNat * 4)) fun ((x23 : Int), (x24 : Int), (x25 : Int), (t26 : ByteArray), _) =>
    π.st (Addr.mk r0 0 none) [(.int .i64 x23), (.int .i64 x24), (.int .i64 x25), (.string t26)] <|
    π.ld [.int .i64, .int .i64, .int .i64, .str] (Addr.mk r0 0 none) fun ((x27 : Int), (x28 : Int), (x29 : Int), (t30 : ByteArray), _) =>
    π.ret (.tuple #[(.agg #[(.int .i64 x27), (.int .i64 x28), (.int .i64 x29), (.string t30)]), (.bool true)])
   )
  )
 )
def ann_Entry : Ann := { draws := [(3, { A := [0, 1, 2, 3, 4, 5, 6, 7, 8, 9, 10, 11, 12, 13], eag := [15] })],  }
def la_Entry : LA := {}
theorem eq_Entry {W : Type} (π : Prims W) (b : Nat) (i : Int) : bodyE π Tryz.prog la_Entry ann_Entry 38 Tryz.f35 (bodyOf Tryz.f35) [.v (.pointer (some ⟨b, 0, none⟩)), .v (.int .i64 i)] [] = vc_Entry π b i := by kernel_rfl
theorem ok_Entry (b : Nat) (i : Int) (R : RT) (s : PH) (h : vc_Entry (RP Tryz.prog R) b i s) : DCalls Tryz.prog 35 (List.map AV.val [.v (.pointer (some ⟨b, 0, none⟩)), .v (.int .i64 i)]).toArray s R :=
 callsE (c := bodyOf Tryz.f35) la_Entry mo Tryz.func35 rfl (by kernel_rfl) Tryz.ntmps35 rfl (by kernel_rfl) (eq_Entry ..) h
def vc_term {W : Type} (π : Prims W) (b : Nat) (i : Int) : W :=
 π.unSome (some (Addr.mk b 0 none)) fun p0 =>
 π.ld [.int .i64] ((p0.add 2).add 4) fun ((x1 : Int), _) =>
 π.ite (i == x1) (
  π.unSome (some (Addr.mk b 0 none)) fun p2 =>
  π.ld [.int .i64] (p2.add 9) fun ((x3 : Int), _) =>
  π.ret (.tuple #[(.int .i64 x3), (.bool true)])
 ) (
  π.call 35 #[(.pointer (some (Addr.mk b 0 none))), (.int .i64 i)] (true, [(true, [.int .i64, .int .i64, .int .i64, .str]), (false, [.bool])]) fun (((x4 : Int), (x5 : Int), (x6 : Int), (t7 : ByteArray), _), ((b8 : Bool), _), _) =>
  π.nw (Obj.cells #[(.int .i64 0), (.int .i64 0), (.int .i64 0), (.string ⟨#[]⟩)] (43 : Nat) (0, 0)) fun r9 =>
  π.st (Addr.mk r9 0 none) [(.int .i64 x4), (.int .i64 x5), (.int .i64 x6), (.string t7)] <|
  π.ld [.int .i64] ((Addr.mk r9 0 none).add 0) fun ((x10 : Int), _) =>
  π.ret (.tuple #[(.int .i64 x10), (.bool b8)])
 )
def ann_term : Ann := {}
def la_term : LA := {}
theorem eq_term {W : Type} (π : Prims W) (b : Nat) (i : Int) : bodyE π Tryz.prog la_term ann_term 28 Tryz.f77 (bodyOf Tryz.f77) [.v (.pointer (some ⟨b, 0, none⟩)), .v (.int .i64 i)] [] = vc_term π b i := by kernel_rfl
theorem ok_term (b : Nat) (i : Int) (R : RT) (s : PH) (h : vc_term (RP Tryz.prog R) b i s) : DCalls Tryz.prog 77 (List.map AV.val [.v (.pointer (some ⟨b, 0, none⟩)), .v (.int .i64 i)]).toArray s R :=
 callsE (c := bodyOf Tryz.f77) la_term mo Tryz.func77 rfl (by kernel_rfl) Tryz.ntmps77 rfl (by kernel_rfl) (eq_term ..) h
def vc_set {W : Type} (π : Prims W) (b : Nat) (i : Int) (a : Option Addr) (an ac : Nat) : W :=
 π.unSome (some (Addr.mk b 0 none)) fun p0 =>
 π.ld [.slice] (p0.add 11) fun (((a1 : Option Addr), (n2 : Nat), (c3 : Nat)), _) =>
 π.unSome (some (Addr.mk b 0 none)) fun p4 =>
 π.ld [.int .i64] ((p4.add 2).add 4) fun ((x5 : Int), _) =>
 π.unSome (some (Addr.mk b 0 none)) fun p6 =>
 π.ld [.int .i64] ((p6.add 2).add 4) fun ((x7 : Int), _) =>
 π.guard ((0 : Int) ≤ 0 ∧ 0 ≤ i64.wrap (i64.wrap (i - x5) - 1) ∧ i64.wrap (i64.wrap (i - x5) - 1) ≤ i64.wrap (i64.wrap (i - x7) - 1) ∧ i64.wrap (i64.wrap (i - x7) - 1) ≤ (↑c3 : Int)) <|
 π.app (43 : Nat) (4 : Nat) (40 : Nat) [(.int .i64 0), (.int .i64 0), (.int .i64 0), (.string ⟨#[]⟩)] (if (i64.wrap (i64.wrap (i - x7) - 1)).toNat = (0 : Nat) then a1 else Option.map (fun x => x.add 0) a1) ((i64.wrap (i64.wrap (i - x5) - 1)).toNat - (0 : Nat)) ((i64.wrap (i64.wrap (i - x7) - 1)).toNat - (0 : Nat)) (Src.sl a an) fun a8 n9 c10 =>
 π.unSome (some (Addr.mk b 0 none)) fun p11 =>
 π.st (p11.add 11) [(.slice a8 n9 c10)] <|
 π.unSome (some (Addr.mk b 0 none)) fun p12 =>
 π.ld [.int .i64] (p12.add 17) fun ((x13 : Int), _) =>
 π.unSome (some (Addr.mk b 0 none)) fun p14 =>
 π.st (p14.add 15) [(.bool true)] <|
 π.unSome (some (Addr.mk b 0 none)) fun p15 =>
 π.st (p15.add 17) [(.int .i64 (if i < x13 then i else x13))] <|
 π.ret (.tuple #[])
def ann_set : Ann := { draws := [(0, { A := [0, 1, 2, 3, 4, 5, 6, 7, 8, 9, 10, 11, 12, 13, 14, 15, 16, 17, 18, 19, 20, 21, 22], eag := [24, 25] })],  }
def la_set : LA := {}
theorem eq_set {W : Type} (π : Prims W) (b : Nat) (i : Int) (a : Option Addr) (an ac : Nat) : bodyE π Tryz.prog la_set ann_set 44 Tryz.f73 (bodyOf Tryz.f73) [.v (.pointer (some ⟨b, 0, none⟩)), .v (.int .i64 i), .v (.slice a an ac)] [] = vc_set π b i a an ac := by kernel_rfl
theorem ok_set (b : Nat) (i : Int) (a : Option Addr) (an ac : Nat) (R : RT) (s : PH) (h : vc_set (RP Tryz.prog R) b i a an ac s) : DCalls Tryz.prog 73 (List.map AV.val [.v (.pointer (some ⟨b, 0, none⟩)), .v (.int .i64 i), .v (.slice a an ac)]).toArray s R :=
 callsE (c := bodyOf Tryz.f73) la_set mo Tryz.func73 rfl (by kernel_rfl) Tryz.ntmps73 rfl (by kernel_rfl) (eq_set ..) h
def vc_turn {W : Type} (π : Prims W) (b : Nat) (term vote role : Int) : W :=
 π.unSome (some (Addr.mk b 0 none)) fun p0 =>
 π.st ((p0.add 2).add 0) [(.int .i64 term)] <|
 π.unSome (some (Addr.mk b 0 none)) fun p1 =>
 π.st ((p1.add 2).add 1) [(.int .i64 vote)] <|
 π.unSome (some (Addr.mk b 0 none)) fun p2 =>
 π.st ((p2.add 2).add 2) [(.int .i64 role)] <|
 π.unSome (some (Addr.mk b 0 none)) fun p3 =>
 π.st ((p3.add 2).add 3) [(.int .i64 (-1))] <|
 π.unSome (some (Addr.mk b 0 none)) fun p4 =>
 π.st (p4.add 15) [(.bool true)] <|
 π.ret (.tuple #[])
def ann_turn : Ann := {}
def la_turn : LA := {}
theorem eq_turn {W : Type} (π : Prims W) (b : Nat) (term vote role : Int) : bodyE π Tryz.prog la_turn ann_turn 30 Tryz.f68 (bodyOf Tryz.f68) [.v (.pointer (some ⟨b, 0, none⟩)), .v (.int .i64 term), .v (.int .i64 vote), .v (.int .i64 role)] [] = vc_turn π b term vote role := by kernel_rfl
theorem ok_turn (b : Nat) (term vote role : Int) (R : RT) (s : PH) (h : vc_turn (RP Tryz.prog R) b term vote role s) : DCalls Tryz.prog 68 (List.map AV.val [.v (.pointer (some ⟨b, 0, none⟩)), .v (.int .i64 term), .v (.int .i64 vote), .v (.int .i64 role)]).toArray s R :=
 callsE (c := bodyOf Tryz.f68) la_turn mo Tryz.func68 rfl (by kernel_rfl) Tryz.ntmps68 rfl (by kernel_rfl) (eq_turn ..) h
def vc_msg {W : Type} (π : Prims W) (b : Nat) (kind to : Int) : W :=
 π.nw (Obj.cells #[(.int .i64 0), (.int .i64 0), (.int .i64 0), (.int .i64 0), (.int .i64 0), (.int .i64 0), (.int .i64 0), (.bool false), (.slice none 0 0), (.string ⟨#[]⟩)] (119 : Nat) (0, 0)) fun r0 =>
 π.unSome (some (Addr.mk b 0 none)) fun p1 =>
 π.ld [.int .i64] (p1.add 0) fun ((x2 : Int), _) =>
 π.unSome (some (Addr.mk b 0 none)) fun p3 =>
 π.ld [.int .i64] ((p3.add 2).add 0) fun ((x4 : Int), _) =>
 π.st (Addr.mk r0 0 none) [(.int .i64 kind), (.int .i64 x2), (.int .i64 to), (.int .i64 x4), (.int .i64 0), (.int .i64 0), (.int .i64 0), (.bool false), (.slice none 0 0), (.string ⟨#[]⟩)] <|
 π.ld [.int .i64, .int .i64, .int .i64, .int .i64, .int .i64, .int .i64, .int .i64, .bool, .slice, .str] (Addr.mk r0 0 none) fun ((x5 : Int), (x6 : Int), (x7 : Int), (x8 : Int), (x9 : Int), (x10 : Int), (x11 : Int), (b12 : Bool), ((a13 : Option Addr), (n14 : Nat), (c15 : Nat)), (t16 : ByteArray), _) =>
 π.ret (.agg #[(.int .i64 x5), (.int .i64 x6), (.int .i64 x7), (.int .i64 x8), (.int .i64 x9), (.int .i64 x10), (.int .i64 x11), (.bool b12), (.slice a13 n14 c15), (.string t16)])
def ann_msg : Ann := { draws := [(1, { A := [0, 1, 2, 3, 4, 5, 6, 7, 8, 9, 10, 11] })],  }
def la_msg : LA := {}
theorem eq_msg {W : Type} (π : Prims W) (b : Nat) (kind to : Int) : bodyE π Tryz.prog la_msg ann_msg 19 Tryz.f91 (bodyOf Tryz.f91) [.v (.pointer (some ⟨b, 0, none⟩)), .v (.int .i64 kind), .v (.int .i64 to)] [] = vc_msg π b kind to := by kernel_rfl
theorem ok_msg (b : Nat) (kind to : Int) (R : RT) (s : PH) (h : vc_msg (RP Tryz.prog R) b kind to s) : DCalls Tryz.prog 91 (List.map AV.val [.v (.pointer (some ⟨b, 0, none⟩)), .v (.int .i64 kind), .v (.int .i64 to)]).toArray s R :=
 callsE (c := bodyOf Tryz.f91) la_msg mo Tryz.func91 rfl (by kernel_rfl) Tryz.ntmps91 rfl (by kernel_rfl) (eq_msg ..) h
def vc_ask {W : Type} (π : Prims W) (b : Nat) (to : Int) : W :=
 π.nw (Obj.cells #[(.int .i64 0), (.int .i64 0), (.int .i64 0), (.int .i64 0), (.int .i64 0), (.int .i64 0), (.int .i64 0), (.bool false), (.slice none 0 0), (.string ⟨#[]⟩)] (119 : Nat) (0, 0)) fun r0 =>
 π.call 91 #[(.pointer (some (Addr.mk b 0 none))), (.int .i64 1), (.int .i64 to)] (false, [(true, [.int .i64, .int .i64, .int .i64, .int .i64, .int .i64, .int .i64, .int .i64, .bool, .slice, .str])]) fun (((x1 : Int), (x2 : Int), (x3 : Int), (x4 : Int), (x5 : Int), (x6 : Int), (x7 : Int), (b8 : Bool), ((a9 : Option Addr), (n10 : Nat), (c11 : Nat)), (t12 : ByteArray), _), _) =>
 π.nw (Obj.cells #[(.int .i64 0), (.int .i64 0), (.int .i64 0), (.int .i64 0), (.int .i64 0), (.int .i64 0), (.int .i64 0), (.bool false), (.slice none 0 0), (.string ⟨#[]⟩)] (119 : Nat) (0, 0)) fun r13 =>
 π.st (Addr.mk r13 0 none) [(.int .i64 x1), (.int .i64 x2), (.int .i64 x3), (.int .i64 x4), (.int .i64 x5), (.int .i64 x6), (.int .i64 x7), (.bool b8), (.slice a9 n10 c11), (.string t12)] <|
 π.call 55 #[(.pointer (some (Addr.mk b 0 none)))] (false, [(false, [.int .i64])]) fun (((x14 : Int), _), _) =>
 π.st ((Addr.mk r13 0 none).add 4) [(.int .i64 x14)] <|
 π.ld [.int .i64] ((Addr.mk r13 0 none).add 4) fun ((x15 : Int), _) =>
 π.call 77 #[(.pointer (some (Addr.mk b 0 none))), (.int .i64 x15)] (true, [(false, [.int .i64]), (false, [.bool])]) fun (((x16 : Int), _), ((b17 : Bool), _), _) =>
 π.st ((Addr.mk r13 0 none).add 5) [(.int .i64 x16)] <|
 π.ld [.int .i64, .int .i64, .int .i64, .int .i64, .int .i64, .int .i64, .int .i64, .bool, .slice, .str] (Addr.mk r13 0 none) fun ((x18 : Int), (x19 : Int), (x20 : Int), (x21 : Int), (x22 : Int), (x23 : Int), (x24 : Int), (b25 : Bool), ((a26 : Option Addr), (n27 : Nat), (c28 : Nat)), (t29 : ByteArray), _) =>
 π.st (Addr.mk r0 0 none) [(.int .i64 x18), (.int .i64 x19), (.int .i64 x20), (.int .i64 x21), (.int .i64 x22), (.int .i64 x23), (.int .i64 x24), (.bool b25), (.slice a26 n27 c28), (.string t29)] <|
 π.ld [.int .i64, .int .i64, .int .i64, .int .i64, .int .i64, .int .i64, .int .i64, .bool, .slice, .str] (Addr.mk r0 0 none) fun ((x30 : Int), (x31 : Int), (x32 : Int), (x33 : Int), (x34 : Int), (x35 : Int), (x36 : Int), (b37 : Bool), ((a38 : Option Addr), (n39 : Nat), (c40 : Nat)), (t41 : ByteArray), _) =>
 π.ret (.agg #[(.int .i64 x30), (.int .i64 x31), (.int .i64 x32), (.int .i64 x33), (.int .i64 x34), (.int .i64 x35), (.int .i64 x36), (.bool b37), (.slice a38 n39 c40), (.string t41)])
def ann_ask : Ann := {}
def la_ask : LA := {}
theorem eq_ask {W : Type} (π : Prims W) (b : Nat) (to : Int) : bodyE π Tryz.prog la_ask ann_ask 21 Tryz.f70 (bodyOf Tryz.f70) [.v (.pointer (some ⟨b, 0, none⟩)), .v (.int .i64 to)] [] = vc_ask π b to := by kernel_rfl
theorem ok_ask (b : Nat) (to : Int) (R : RT) (s : PH) (h : vc_ask (RP Tryz.prog R) b to s) : DCalls Tryz.prog 70 (List.map AV.val [.v (.pointer (some ⟨b, 0, none⟩)), .v (.int .i64 to)]).toArray s R :=
 callsE (c := bodyOf Tryz.f70) la_ask mo Tryz.func70 rfl (by kernel_rfl) Tryz.ntmps70 rfl (by kernel_rfl) (eq_ask ..) h
def vc_feed {W : Type} (π : Prims W) (b : Nat) (to : Int) : W :=
 π.nw (Obj.cells #[(.int .i64 0), (.int .i64 0), (.int .i64 0), (.int .i64 0), (.int .i64 0), (.int .i64 0), (.int .i64 0), (.bool false), (.slice none 0 0), (.string ⟨#[]⟩)] (119 : Nat) (0, 0)) fun r0 =>
 π.unSome (some (Addr.mk b 0 none)) fun p1 =>
 π.ld [.slice] (p1.add 13) fun (((a2 : Option Addr), (n3 : Nat), (c4 : Nat)), _) =>
 π.guard (0 ≤ to ∧ to < (↑n3 : Int)) <|
 π.unSome (a2) fun p5 =>
 π.ld [.int .i64] (p5.add (to.toNat * 1)) fun ((x6 : Int), _) =>
 π.unSome (some (Addr.mk b 0 none)) fun p7 =>
 π.ld [.int .i64] ((p7.add 2).add 4) fun ((x8 : Int), _) =>
 π.ite (decide (x6 ≤ x8)) (
  π.call 91 #[(.pointer (some (Addr.mk b 0 none))), (.int .i64 5), (.int .i64 to)] (false, [(true, [.int .i64, .int .i64, .int .i64, .int .i64, .int .i64, .int .i64, .int .i64, .bool, .slice, .str])]) fun (((x9 : Int), (x10 : Int), (x11 : Int), (x12 : Int), (x13 : Int), (x14 : Int), (x15 : Int), (b16 : Bool), ((a17 : Option Addr), (n18 : Nat), (c19 : Nat)), (t20 : ByteArray), _), _) =>
  π.nw (Obj.cells #[(.int .i64 0), (.int .i64 0), (.int .i64 0), (.int .i64 0), (.int .i64 0), (.int .i64 0), (.int .i64 0), (.bool false), (.slice none 0 0), (.string ⟨#[]⟩)] (119 : Nat) (0, 0)) fun r21 =>
  π.st (Addr.mk r21 0 none) [(.int .i64 x9), (.int .i64 x10), (.int .i64 x11), (.int .i64 x12), (.int .i64 x13), (.int .i64 x14), (.int .i64 x15), (.bool b16), (.slice a17 n18 c19), (.string t20)] <|
  π.unSome (some (Addr.mk b 0 none)) fun p22 =>
  π.ld [.int .i64] ((p22.add 2).add 4) fun ((x23 : Int), _) =>
  π.unSome (some (Addr.mk b 0 none)) fun p24 =>
  π.ld [.int .i64] (p24.add 9) fun ((x25 : Int), _) =>
  π.unSome (some (Addr.mk b 0 none)) fun p26 =>
  π.ld [.str] (p26.add 10) fun ((t27 : ByteArray), _) =>
  π.st ((Addr.mk r21 0 none).add 4) [(.int .i64 x23)] <|
  π.still [.int .i64] (p24.add 9) (x25, ()) <|
  π.still [.str] (p26.add 10) (t27, ()) <|
  π.st ((Addr.mk r21 0 none).add 5) [(.int .i64 x25)] <|
  π.still [.str] (p26.add 10) (t27, ()) <|
  π.st ((Addr.mk r21 0 none).add 9) [(.string t27)] <|
  π.ld [.int .i64, .int .i64, .int .i64, .int .i64, .int .i64, .int .i64, .int .i64, .bool, .slice, .str] (Addr.mk r21 0 none) fun ((x28 : Int), (x29 : Int), (x30 : Int), (x31 : Int), (x32 : Int), (x33 : Int), (x34 : Int), (b35 : Bool), ((a36 : Option Addr), (n37 : Nat), (c38 : Nat)), (t39 : ByteArray), _) =>
  π.st (Addr.mk r0 0 none) [(.int .i64 x28), (.int .i64 x29), (.int .i64 x30), (.int .i64 x31), (.int .i64 x32), (.int .i64 x33), (.int .i64 x34), (.bool b35), (.slice a36 n37 c38), (.string t39)] <|
  π.ld [.int .i64, .int .i64, .int .i64, .int .i64, .int .i64, .int .i64, .int .i64, .bool, .slice, .str] (Addr.mk r0 0 none) fun ((x40 : Int), (x41 : Int), (x42 : Int), (x43 : Int), (x44 : Int), (x45 : Int), (x46 : Int), (b47 : Bool), ((a48 : Option Addr), (n49 : Nat), (c50 : Nat)), (t51 : ByteArray), _) =>
  π.ret (.agg #[(.int .i64 x40), (.int .i64 x41), (.int .i64 x42), (.int .i64 x43), (.int .i64 x44), (.int .i64 x45), (.int .i64 x46), (.bool b47), (.slice a48 n49 c50), (.string t51)])
 ) (
  π.call 91 #[(.pointer (some (Addr.mk b 0 none))), (.int .i64 3), (.int .i64 to)] (false, [(true, [.int .i64, .int .i64, .int .i64, .int .i64, .int .i64, .int .i64, .int .i64, .bool, .slice, .str])]) fun (((x52 : Int), (x53 : Int), (x54 : Int), (x55 : Int), (x56 : Int), (x57 : Int), (x58 : Int), (b59 : Bool), ((a60 : Option Addr), (n61 : Nat), (c62 : Nat)), (t63 : ByteArray), _), _) =>
  π.nw (Obj.cells #[(.int .i64 0), (.int .i64 0), (.int .i64 0), (.int .i64 0), (.int .i64 0), (.int .i64 0), (.int .i64 0), (.bool false), (.slice none 0 0), (.string ⟨#[]⟩)] (119 : Nat) (0, 0)) fun r64 =>
  π.st (Addr.mk r64 0 none) [(.int .i64 x52), (.int .i64 x53), (.int .i64 x54), (.int .i64 x55), (.int .i64 x56), (.int .i64 x57), (.int .i64 x58), (.bool b59), (.slice a60 n61 c62), (.string t63)] <|
  π.unSome (some (Addr.mk b 0 none)) fun p65 =>
  π.ld [.int .i64] ((p65.add 2).add 6) fun ((x66 : Int), _) =>
  π.st ((Addr.mk r64 0 none).add 4) [(.int .i64 (i64.wrap (x6 - 1)))] <|
  π.still [.int .i64] ((p65.add 2).add 6) (x66, ()) <|
  π.st ((Addr.mk r64 0 none).add 6) [(.int .i64 x66)] <|
  π.call 77 #[(.pointer (some (Addr.mk b 0 none))), (.int .i64 (i64.wrap (x6 - 1)))] (true, [(false, [.int .i64]), (false, [.bool])]) fun (((x67 : Int), _), ((b68 : Bool), _), _) =>
  π.st ((Addr.mk r64 0 none).add 5) [(.int .i64 x67)] <|
  π.unSome (some (Addr.mk b 0 none)) fun p69 =>
  π.ld [.slice] (p69.add 11) fun (((a70 : Option Addr), (n71 : Nat), (c72 : Nat)), _) =>
  π.unSome (some (Addr.mk b 0 none)) fun p73 =>
  π.ld [.int .i64] ((p73.add 2).add 4) fun ((x74 : Int), _) =>
  π.guard (0 ≤ i64.wrap (i64.wrap (x6 - x74) - 1) ∧ i64.wrap (i64.wrap (x6 - x74) - 1) ≤ (↑n71 : Int) ∧ (↑n71 : Int) ≤ (↑c72 : Int)) <|
  π.guard ((0 : Int) ≤ 0 ∧ (0 ≤ if 8 < (↑((↑n71 : Int).toNat - (i64.wrap (i64.wrap (x6 - x74) - 1)).toNat) : Int) then (8 : Int) else (↑((↑n71 : Int).toNat - (i64.wrap (i64.wrap (x6 - x74) - 1)).toNat) : Int)) ∧ (if 8 < (↑((↑n71 : Int).toNat - (i64.wrap (i64.wrap (x6 - x74) - 1)).toNat) : Int) then (8 : Int) else (↑((↑n71 : Int).toNat - (i64.wrap (i64.wrap (x6 - x74) - 1)).toNat) : Int)) ≤ (↑(c72 - (i64.wrap (i64.wrap (x6 - x74) - 1)).toNat) : Int)) <|
  π.call 79 #[(.slice (if c72 - (i64.wrap (i64.wrap (x6 - x74) - 1)).toNat = (0 : Nat) then if c72 = (i64.wrap (i64.wrap (x6 - x74) - 1)).toNat then a70 else Option.map (fun x => x.add ((i64.wrap (i64.wrap (x6 - x74) - 1)).toNat * 4)) a70 else Option.map (fun x => x.add 0) (if c72 = (i64.wrap (i64.wrap (x6 - x74) - 1)).toNat then a70 else Option.map (fun x => x.add ((i64.wrap (i64.wrap (x6 - x74) - 1)).toNat * 4)) a70)) ((if 8 < (↑((↑n71 : Int).toNat - (i64.wrap (i64.wrap (x6 - x74) - 1)).toNat) : Int) then (8 : Int) else (↑((↑n71 : Int).toNat - (i64.wrap (i64.wrap (x6 - x74) - 1)).toNat) : Int)).toNat - (0 : Nat)) (c72 - (i64.wrap (i64.wrap (x6 - x74) - 1)).toNat - (0 : Nat)))] (false, [(false, [.slice])]) fun ((((a75 : Option Addr), (n76 : Nat), (c77 : Nat)), _), _) =>
  π.st ((Addr.mk r64 0 none).add 8) [(.slice a75 n76 c77)] <|
  π.ld [.int .i64, .int .i64, .int .i64, .int .i64, .int .i64, .int .i64, .int .i64, .bool, .slice, .str] (Addr.mk r64 0 none) fun ((x78 : Int), (x79 : Int), (x80 : Int), (x81 : Int), (x82 : Int), (x83 : Int), (x84 : Int), (b85 : Bool), ((a86 : Option Addr), (n87 : Nat), (c88 : Nat)), (t89 : ByteArray), _) =>
  π.st (Addr.mk r0 0 none) [(.int .i64 x78), (.int .i64 x79), (.int .i64 x80), (.int .i64 x81), (.int .i64 x82), (.int .i64 x83), (.int .i64 x84), (.bool b85), (.slice a86 n87 c88), (.string t89)] <|
  π.ld [.int .i64, .int .i64, .int .i64, .int .i64, .int .i64, .int .i64, .int .i64, .bool, .slice, .str] (Addr.mk r0 0 none) fun ((x90 : Int), (x91 : Int), (x92 : Int), (x93 : Int), (x94 : Int), (x95 : Int), (x96 : Int), (b97 : Bool), ((a98 : Option Addr), (n99 : Nat), (c100 : Nat)), (t101 : ByteArray), _) =>
  π.ret (.agg #[(.int .i64 x90), (.int .i64 x91), (.int .i64 x92), (.int .i64 x93), (.int .i64 x94), (.int .i64 x95), (.int .i64 x96), (.bool b97), (.slice a98 n99 c100), (.string t101)])
 )
def ann_feed : Ann := { draws := [(4, { A := [0, 1, 2, 3, 4, 5, 6, 7, 8, 9, 10, 11, 12, 13], chkL := [(14, [8, 12]), (16, [12])], eag := [15, 17] }), (7, { A := [0, 1, 2, 3, 4, 5, 6, 7], chkL := [(8, [6])], eag := [9] }), (9, { A := [0, 1, 2, 3, 4, 5, 6, 7, 8, 9, 10, 11, 12, 13] })],  }
def la_feed : LA := {}
theorem eq_feed {W : Type} (π : Prims W) (b : Nat) (to : Int) : bodyE π Tryz.prog la_feed ann_feed 84 Tryz.f72 (bodyOf Tryz.f72) [.v (.pointer (some ⟨b, 0, none⟩)), .v (.int .i64 to)] [] = vc_feed π b to := by kernel_rfl
theorem ok_feed (b : Nat) (to : Int) (R : RT) (s : PH) (h : vc_feed (RP Tryz.prog R) b to s) : DCalls Tryz.prog 72 (List.map AV.val [.v (.pointer (some ⟨b, 0, none⟩)), .v (.int .i64 to)]).toArray s R :=
 callsE (c := bodyOf Tryz.f72) la_feed mo Tryz.func72 rfl (by kernel_rfl) Tryz.ntmps72 rfl (by kernel_rfl) (eq_feed ..) h
def vc_othersAsk {W : Type} (π : Prims W) (b : Nat) : W :=
 π.unSome (some (Addr.mk b 0 none)) fun p0 =>
 π.ld [.int .i64] (p0.add 1) fun ((x1 : Int), _) =>
 π.loop [(false, [.slice]), (false, [.int .i64]), (false, [.int .i64])] (((none, (0 : Nat), (0 : Nat)), ()), (x1, ()), ((0 : Int), ()), ()) fun ((((a3 : Option Addr), (n4 : Nat), (c5 : Nat)), _), ((x6 : Int), _), ((x7 : Int), _), _) again2 =>
  π.ite (decide (x7 < x6)) (
   π.unSome (some (Addr.mk b 0 none)) fun p8 =>
   π.ld [.int .i64] (p8.add 0) fun ((x9 : Int), _) =>
   π.ite (x7 != x9) (
    π.call 70 #[(.pointer (some (Addr.mk b 0 none))), (.int .i64 x7)] (false, [(true, [.int .i64, .int .i64, .int .i64, .int .i64, .int .i64, .int .i64, .int .i64, .bool, .slice, .str])]) fun (((x10 : Int), (x11 : Int), (x12 : Int), (x13 : Int), (x14 : Int), (x15 : Int), (x16 : Int), (b17 : Bool), ((a18 : Option Addr), (n19 : Nat), (c20 : Nat)), (t21 : ByteArray), _), _) =>
    π.nw (Obj.cells #[(.int .i64 x10), (.int .i64 x11), (.int .i64 x12), (.int .i64 x13), (.int .i64 x14), (.int .i64 x15), (.int .i64 x16), (.bool b17), (.slice a18 n19 c20), (.string t21)] (119 : Nat) (0, 0)) fun r22 =>
    π.app (119 : Nat) (10 : Nat) (104 : Nat) [(.int .i64 0), (.int .i64 0), (.int .i64 0), (.int .i64 0), (.int .i64 0), (.int .i64 0), (.int .i64 0), (.bool false), (.slice none 0 0), (.string ⟨#[]⟩)] (a3) (n4) (c5) (Src.sl (some (Addr.mk r22 0 none)) (1 : Nat)) fun a23 n24 c25 =>
    again2 (((a23, n24, c25), ()), (x6, ()), (i64.wrap (x7 + 1), ()), ())
   ) (
    again2 (((a3, n4, c5), ()), (x6, ()), (i64.wrap (x7 + 1), ()), ())
   )
  ) (
   π.ret (.slice a3 n4 c5)
  )
def ann_othersAsk : Ann := { loop := [(3, [(5, 86), (10, 3), (11, 3)])] }
def la_othersAsk : LA := {}
theorem eq_othersAsk {W : Type} (π : Prims W) (b : Nat) : bodyE π Tryz.prog la_othersAsk ann_othersAsk 28 Tryz.f69 (bodyOf Tryz.f69) [.v (.pointer (some ⟨b, 0, none⟩)), .v (.func (.func 70) #[.pointer (some ⟨b, 0, none⟩)] #[])] [] = vc_othersAsk π b := by kernel_rfl
theorem ok_othersAsk (b : Nat) (R : RT) (s : PH) (h : vc_othersAsk (RP Tryz.prog R) b s) : DCalls Tryz.prog 69 (List.map AV.val [.v (.pointer (some ⟨b, 0, none⟩)), .v (.func (.func 70) #[.pointer (some ⟨b, 0, none⟩)] #[])]).toArray s R :=
 callsE (c := bodyOf Tryz.f69) la_othersAsk mo Tryz.func69 rfl (by kernel_rfl) Tryz.ntmps69 rfl (by kernel_rfl) (eq_othersAsk ..) h
def vc_othersFeed {W : Type} (π : Prims W) (b : Nat) : W :=
 π.unSome (some (Addr.mk b 0 none)) fun p0 =>
 π.ld [.int .i64] (p0.add 1) fun ((x1 : Int), _) =>
 π.loop [(false, [.slice]), (false, [.int .i64]), (false, [.int .i64])] (((none, (0 : Nat), (0 : Nat)), ()), (x1, ()), ((0 : Int), ()), ()) fun ((((a3 : Option Addr), (n4 : Nat), (c5 : Nat)), _), ((x6 : Int), _), ((x7 : Int), _), _) again2 =>
  π.ite (decide (x7 < x6)) (
   π.unSome (some (Addr.mk b 0 none)) fun p8 =>
   π.ld [.int .i64] (p8.add 0) fun ((x9 : Int), _) =>
   π.ite (x7 != x9) (
    π.call 72 #[(.pointer (some (Addr.mk b 0 none))), (.int .i64 x7)] (false, [(true, [.int .i64, .int .i64, .int .i64, .int .i64, .int .i64, .int .i64, .int .i64, .bool, .slice, .str])]) fun (((x10 : Int), (x11 : Int), (x12 : Int), (x13 : Int), (x14 : Int), (x15 : Int), (x16 : Int), (b17 : Bool), ((a18 : Option Addr), (n19 : Nat), (c20 : Nat)), (t21 : ByteArray), _), _) =>
    π.nw (Obj.cells #[(.int .i64 x10), (.int .i64 x11), (.int .i64 x12), (.int .i64 x13), (.int .i64 x14), (.int .i64 x15), (.int .i64 x16), (.bool b17), (.slice a18 n19 c20), (.string t21)] (119 : Nat) (0, 0)) fun r22 =>
    π.app (119 : Nat) (10 : Nat) (104 : Nat) [(.int .i64 0), (.int .i64 0), (.int .i64 0), (.int .i64 0), (.int .i64 0), (.int .i64 0), (.int .i64 0), (.bool false), (.slice none 0 0), (.string ⟨#[]⟩)] (a3) (n4) (c5) (Src.sl (some (Addr.mk r22 0 none)) (1 : Nat)) fun a23 n24 c25 =>
    again2 (((a23, n24, c25), ()), (x6, ()), (i64.wrap (x7 + 1), ()), ())
   ) (
    again2 (((a3, n4, c5), ()), (x6, ()), (i64.wrap (x7 + 1), ()), ())
   )
  ) (
   π.ret (.slice a3 n4 c5)
  )
def ann_othersFeed : Ann := { loop := [(3, [(5, 86), (10, 3), (11, 3)])] }
def la_othersFeed : LA := {}
theorem eq_othersFeed {W : Type} (π : Prims W) (b : Nat) : bodyE π Tryz.prog la_othersFeed ann_othersFeed 28 Tryz.f69 (bodyOf Tryz.f69) [.v (.pointer (some ⟨b, 0, none⟩)), .v (.func (.func 72) #[.pointer (some ⟨b, 0, none⟩)] #[])] [] = vc_othersFeed π b := by kernel_rfl
theorem ok_othersFeed (b : Nat) (R : RT) (s : PH) (h : vc_othersFeed (RP Tryz.prog R) b s) : DCalls Tryz.prog 69 (List.map AV.val [.v (.pointer (some ⟨b, 0, none⟩)), .v (.func (.func 72) #[.pointer (some ⟨b, 0, none⟩)] #[])]).toArray s R :=
 callsE (c := bodyOf Tryz.f69) la_othersFeed mo Tryz.func69 rfl (by kernel_rfl) Tryz.ntmps69 rfl (by kernel_rfl) (eq_othersFeed ..) h
def vc_settle {W : Type} (π : Prims W) (b : Nat) : W :=
 π.call 55 #[(.pointer (some (Addr.mk b 0 none)))] (false, [(false, [.int .i64])]) fun (((x0 : Int), _), _) =>
 π.loop [(false, [.int .i64])] ((x0, ()), ()) fun (((x2 : Int), _), _) again1 =>
  π.unSome (some (Addr.mk b 0 none)) fun p3 =>
  π.ld [.int .i64] ((p3.add 2).add 6) fun ((x4 : Int), _) =>
  π.ite (decide (x2 > x4)) (
   π.unSome (some (Addr.mk b 0 none)) fun p5 =>
   π.ld [.slice] (p5.add 14) fun (((a6 : Option Addr), (n7 : Nat), (c8 : Nat)), _) =>
   π.loop [(false, [.int .i64]), (false, [.int .i64]), (false, [.slice]), (false, [.int .i64]), (false, [.int .i64])] ((x2, ()), ((1 : Int), ()), ((a6, n7, c8), ()), ((↑n7 : Int), ()), ((0 : Int), ()), ()) fun (((x10 : Int), _), ((x11 : Int), _), (((a12 : Option Addr), (n13 : Nat), (c14 : Nat)), _), ((x15 : Int), _), ((x16 : Int), _), _) again9 =>
    π.ite (decide (x16 < x15)) (
     π.guard (0 ≤ x16 ∧ x16 < (↑n13 : Int)) <|
     π.unSome (a12) fun p17 =>
     π.ld [.int .i64] (p17.add (x16.toNat * 1)) fun ((x18 : Int), _) =>
     π.unSome (some (Addr.mk b 0 none)) fun p19 =>
     π.ld [.int .i64] (p19.add 0) fun ((x20 : Int), _) =>
     π.ite (x16 != x20) (
      π.ite (decide (x18 ≥ x10)) (
       again9 ((x10, ()), (i64.wrap (x11 + 1), ()), ((a12, n13, c14), ()), (x15, ()), (i64.wrap (x16 + 1), ()), ())
      ) (
       again9 ((x10, ()), (x11, ()), ((a12, n13, c14), ()), (x15, ()), (i64.wrap (x16 + 1), ()), ())
      )
     ) (
      again9 ((x10, ()), (x11, ()), ((a12, n13, c14), ()), (x15, ()), (i64.wrap (x16 + 1), ()), ())
     )
    ) (
     π.call 77 #[(.pointer (some (Addr.mk b 0 none))), (.int .i64 x10)] (true, [(false, [.int .i64]), (false, [.bool])]) fun (((x21 : Int), _), ((b22 : Bool), _), _) =>
     π.unSome (some (Addr.mk b 0 none)) fun p23 =>
     π.ld [.int .i64] ((p23.add 2).add 0) fun ((x24 : Int), _) =>
     π.ite (x21 == x24) (
      π.unSome (some (Addr.mk b 0 none)) fun p25 =>
      π.ld [.int .i64] (p25.add 1) fun ((x26 : Int), _) =>
      π.ite (decide (i64.wrap ((2 : Int) * x11) > x26)) (
       π.unSome (some (Addr.mk b 0 none)) fun p27 =>
       π.st ((p27.add 2).add 6) [(.int .i64 x10)] <|
       π.call 69 #[(.pointer (some (Addr.mk b 0 none))), (.func (Fn.func (72 : Nat)) #[(.pointer (some (Addr.mk b 0 none)))] #[])] (false, [(false, [.slice])]) fun ((((a28 : Option Addr), (n29 : Nat), (c30 : Nat)), _), _) =>
       π.ret (.slice a28 n29 c30)
      ) (
       again1 ((i64.wrap (x10 - 1), ()), ())
      )
     ) (
      again1 ((i64.wrap (x10 - 1), ()), ())
     )
    )
  ) (
   π.ret (.slice none 0 0)
  )
def ann_settle : Ann := { loop := [(2, [(3, 3)]), (6, [(3, 3), (4, 3), (23, 99), (24, 3), (25, 3)])] }
def la_settle : LA := {}
theorem eq_settle {W : Type} (π : Prims W) (b : Nat) : bodyE π Tryz.prog la_settle ann_settle 75 Tryz.f74 (bodyOf Tryz.f74) [.v (.pointer (some ⟨b, 0, none⟩))] [] = vc_settle π b := by kernel_rfl
theorem ok_settle (b : Nat) (R : RT) (s : PH) (h : vc_settle (RP Tryz.prog R) b s) : DCalls Tryz.prog 74 (List.map AV.val [.v (.pointer (some ⟨b, 0, none⟩))]).toArray s R :=
 callsE (c := bodyOf Tryz.f74) la_settle mo Tryz.func74 rfl (by kernel_rfl) Tryz.ntmps74 rfl (by kernel_rfl) (eq_settle ..) h
def vc_counted {W : Type} (π : Prims W) (b : Nat) : W :=
 π.unSome (some (Addr.mk b 0 none)) fun p0 =>
 π.ld [.slice] (p0.add 12) fun (((a1 : Option Addr), (n2 : Nat), (c3 : Nat)), _) =>
 π.loop [(false, [.int .i64]), (false, [.slice]), (false, [.int .i64]), (false, [.int .i64])] (((0 : Int), ()), ((a1, n2, c3), ()), ((↑n2 : Int), ()), ((0 : Int), ()), ()) fun (((x5 : Int), _), (((a6 : Option Addr), (n7 : Nat), (c8 : Nat)), _), ((x9 : Int), _), ((x10 : Int), _), _) again4 =>
  π.ite (decide (x10 < x9)) (
   π.guard (0 ≤ x10 ∧ x10 < (↑n7 : Int)) <|
   π.unSome (a6) fun p11 =>
   π.ld [.bool] (p11.add (x10.toNat * 1)) fun ((b12 : Bool), _) =>
   π.ite (b12) (
    again4 ((i64.wrap (x5 + 1), ()), ((a6, n7, c8), ()), (x9, ()), (i64.wrap (x10 + 1), ()), ())
   ) (
    again4 ((x5, ()), ((a6, n7, c8), ()), (x9, ()), (i64.wrap (x10 + 1), ()), ())
   )
  ) (
   π.unSome (some (Addr.mk b 0 none)) fun p13 =>
   π.ld [.int .i64] (p13.add 1) fun ((x14 : Int), _) =>
   π.ite (decide (i64.wrap ((2 : Int) * x5) ≤ x14)) (
    π.ret (.slice none 0 0)
   ) (
    π.unSome (some (Addr.mk b 0 none)) fun p15 =>
    π.ld [.int .i64] (p15.add 0) fun ((x16 : Int), _) =>
    π.unSome (some (Addr.mk b 0 none)) fun p17 =>
    π.st ((p17.add 2).add 2) [(.int .i64 2)] <|
    π.unSome (some (Addr.mk b 0 none)) fun p18 =>
    π.st ((p18.add 2).add 3) [(.int .i64 x16)] <|
    π.join [] (fun J19 =>
     π.callQ 55 #[(.pointer (some (Addr.mk b 0 none)))] (false, [(false, [.int .i64])]) fun (((x20 : Int), _), _) =>
     π.unSome (some (Addr.mk b 0 none)) fun p21 =>
     π.ld [.int .i64] (p21.add 1) fun ((x22 : Int), _) =>
     π.unSome (some (Addr.mk b 0 none)) fun p23 =>
     π.ld [.int .i64] (p23.add 1) fun ((x24 : Int), _) =>
     π.both (
      π.nw (Obj.cells #[(.int .i64 (i64.wrap (x20 + 1)))] (3 : Nat) (0, 0)) fun r25 =>
      π.both (
       π.call 103 #[(.slice (some (Addr.mk r25 0 none)) ((1 : Nat)) ((1 : Nat))), (.int .i64 x22)] (false, [(false, [.slice])]) fun ((((a26 : Option Addr), (n27 : Nat), (c28 : Nat)), _), _) =>
       π.still [.int .i64] (p23.add 1) (x24, ()) <|
       π.unSome (some (Addr.mk b 0 none)) fun p29 =>
       π.both (
        π.mksl (3 : Nat) (1 : Nat) (8 : Nat) [(.int .i64 0)] (x24) (x24) fun r30 =>
        π.st (p29.add 13) [(.slice a26 n27 c28)] <|
        π.unSome (some (Addr.mk b 0 none)) fun p31 =>
        π.st (p31.add 14) [(.slice (some (Addr.mk r30 0 none)) (x24.toNat) (x24.toNat))] <|
        J19 (())
       ) (
        π.st (p29.add 13) [(.slice a26 n27 c28)] <|
        π.mksl (3 : Nat) (1 : Nat) (8 : Nat) [(.int .i64 0)] (x24) (x24) fun r32 =>
        π.unSome (some (Addr.mk b 0 none)) fun p33 =>
        π.st (p33.add 14) [(.slice (some (Addr.mk r32 0 none)) (x24.toNat) (x24.toNat))] <|
        J19 (())
       )
      ) (
       π.mksl (3 : Nat) (1 : Nat) (8 : Nat) [(.int .i64 0)] (x24) (x24) fun r34 =>
       π.call 103 #[(.slice (some (Addr.mk r25 0 none)) ((1 : Nat)) ((1 : Nat))), (.int .i64 x22)] (false, [(false, [.slice])]) fun ((((a35 : Option Addr), (n36 : Nat), (c37 : Nat)), _), _) =>
       π.still [.int .i64] (p23.add 1) (x24, ()) <|
       π.unSome (some (Addr.mk b 0 none)) fun p38 =>
       π.st (p38.add 13) [(.slice a35 n36 c37)] <|
       π.unSome (some (Addr.mk b 0 none)) fun p39 =>
       π.st (p39.add 14) [(.slice (some (Addr.mk r34 0 none)) (x24.toNat) (x24.toNat))] <|
       J19 (())
      )
     ) (
      π.mksl (3 : Nat) (1 : Nat) (8 : Nat) [(.int .i64 0)] (x24) (x24) fun r40 =>
      π.nw (Obj.cells #[(.int .i64 (i64.wrap (x20 + 1)))] (3 : Nat) (0, 0)) fun r41 =>
      π.call 103 #[(.slice (some (Addr.mk r41 0 none)) ((1 : Nat)) ((1 : Nat))), (.int .i64 x22)] (false, [(false, [.slice])]) fun ((((a42 : Option Addr), (n43 : Nat), (c44 : Nat)), _), _) =>
      π.still [.int .i64] (p23.add 1) (x24, ()) <|
      π.unSome (some (Addr.mk b 0 none)) fun p45 =>
      π.st (p45.add 13) [(.slice a42 n43 c44)] <|
      π.unSome (some (Addr.mk b 0 none)) fun p46 =>
      π.st (p46.add 14) [(.slice (some (Addr.mk r40 0 none)) (x24.toNat) (x24.toNat))] <|
      J19 (())
     )
    ) (fun (_) =>
     π.callQ 55 #[(.pointer (some (Addr.mk b 0 none)))] (false, [(false, [.int .i64])]) fun (((x47 : Int), _), _) =>
     π.unSome (some (Addr.mk b 0 none)) fun p48 =>
     π.ld [.int .i64] ((p48.add 2).add 0) fun ((x49 : Int), _) =>
     π.nw (Obj.cells #[(.int .i64 x49), (.int .i64 0), (.int .i64 0), (.string ⟨#[]⟩)] (43 : Nat) (0, 0)) fun r50 =>
     π.call 73 #[(.pointer (some (Addr.mk b 0 none))), (.int .i64 (i64.wrap (x47 + 1))), (.slice (some (Addr.mk r50 0 none)) ((1 : Nat)) ((1 : Nat)))] (true, []) fun (_) =>
     π.call 69 #[(.pointer (some (Addr.mk b 0 none))), (.func (Fn.func (72 : Nat)) #[(.pointer (some (Addr.mk b 0 none)))] #[])] (false, [(false, [.slice])]) fun ((((a51 : Option Addr), (n52 : Nat), (c53 : Nat)), _), _) =>
     π.call 74 #[(.pointer (some (Addr.mk b 0 none)))] (false, [(false, [.slice])]) fun ((((a54 : Option Addr), (n55 : Nat), (c56 : Nat)), _), _) =>
     π.app (119 : Nat) (10 : Nat) (104 : Nat) [(.int .i64 0), (.int .i64 0), (.int .i64 0), (.int .i64 0), (.int .i64 0), (.int .i64 0), (.int .i64 0), (.bool false), (.slice none 0 0), (.string ⟨#[]⟩)] (a51) (n52) (c53) (Src.sl a54 n55) fun a57 n58 c59 =>
     π.ret (.slice a57 n58 c59)
    )
   )
  )
def ann_counted : Ann := { draws := [(11, { A := [0, 1, 2, 3, 4, 6, 7, 8, 9, 11, 12, 13, 14], quiet := [3], chkL := [(10, [14])], eag := [16, 17, 19, 20] }), (12, { A := [0, 1, 2, 3, 4, 5, 6, 7, 8, 9], quiet := [2] })], join := [(12, [])], loop := [(3, [(3, 3), (9, 98), (10, 3), (11, 3)])] }
def la_counted : LA := {}
theorem eq_counted {W : Type} (π : Prims W) (b : Nat) : bodyE π Tryz.prog la_counted ann_counted 77 Tryz.f71 (bodyOf Tryz.f71) [.v (.pointer (some ⟨b, 0, none⟩))] [] = vc_counted π b := by kernel_rfl
theorem ok_counted (b : Nat) (R : RT) (s : PH) (h : vc_counted (RP Tryz.prog R) b s) : DCalls Tryz.prog 71 (List.map AV.val [.v (.pointer (some ⟨b, 0, none⟩))]).toArray s R :=
 callsE (c := bodyOf Tryz.f71) la_counted mo Tryz.func71 rfl (by kernel_rfl) Tryz.ntmps71 rfl (by kernel_rfl) (eq_counted ..) h
def vc_Timeout {W : Type} (π : Prims W) (b : Nat) : W :=
 π.join [] (fun J0 =>
  π.ite ((some (Addr.mk b 0 none)).isNone) (
   π.ret (.slice none 0 0)
  ) (
   π.unSome (some (Addr.mk b 0 none)) fun p1 =>
   π.ld [.int .i64] ((p1.add 2).add 2) fun ((x2 : Int), _) =>
   π.ite (x2 == 2) (
    π.ret (.slice none 0 0)
   ) (
    J0 (())
   )
  )
 ) (fun (_) =>
  π.unSome (some (Addr.mk b 0 none)) fun p3 =>
  π.ld [.int .i64] ((p3.add 2).add 0) fun ((x4 : Int), _) =>
  π.unSome (some (Addr.mk b 0 none)) fun p5 =>
  π.ld [.int .i64] (p5.add 0) fun ((x6 : Int), _) =>
  π.call 68 #[(.pointer (some (Addr.mk b 0 none))), (.int .i64 (i64.wrap (x4 + 1))), (.int .i64 x6), (.int .i64 1)] (true, []) fun (_) =>
  π.unSome (some (Addr.mk b 0 none)) fun p7 =>
  π.ld [.int .i64] (p7.add 1) fun ((x8 : Int), _) =>
  π.mksl (4 : Nat) (1 : Nat) (1 : Nat) [(.bool false)] (x8) (x8) fun r9 =>
  π.unSome (some (Addr.mk b 0 none)) fun p10 =>
  π.st (p10.add 12) [(.slice (some (Addr.mk r9 0 none)) (x8.toNat) (x8.toNat))] <|
  π.unSome (some (Addr.mk b 0 none)) fun p11 =>
  π.ld [.slice] (p11.add 12) fun (((a12 : Option Addr), (n13 : Nat), (c14 : Nat)), _) =>
  π.unSome (some (Addr.mk b 0 none)) fun p15 =>
  π.ld [.int .i64] (p15.add 0) fun ((x16 : Int), _) =>
  π.guard (0 ≤ x16 ∧ x16 < (↑n13 : Int)) <|
  π.unSome (a12) fun p17 =>
  π.st (p17.add (x16.toNat * 1)) [(.bool true)] <|
  π.call 69 #[(.pointer (some (Addr.mk b 0 none))), (.func (Fn.func (70 : Nat)) #[(.pointer (some (Addr.mk b 0 none)))] #[])] (false, [(false, [.slice])]) fun ((((a18 : Option Addr), (n19 : Nat), (c20 : Nat)), _), _) =>
  π.call 71 #[(.pointer (some (Addr.mk b 0 none)))] (false, [(false, [.slice])]) fun ((((a21 : Option Addr), (n22 : Nat), (c23 : Nat)), _), _) =>
  π.app (119 : Nat) (10 : Nat) (104 : Nat) [(.int .i64 0), (.int .i64 0), (.int .i64 0), (.int .i64 0), (.int .i64 0), (.int .i64 0), (.int .i64 0), (.bool false), (.slice none 0 0), (.string ⟨#[]⟩)] (a18) (n19) (c20) (Src.sl a21 n22) fun a24 n25 c26 =>
  π.ret (.slice a24 n25 c26)
 )
def ann_Timeout : Ann := { draws := [(3, { A := [0, 1, 2, 3, 4, 5, 6, 7, 8, 9, 10] }), (5, { A := [0, 1, 2, 3, 4, 5, 6, 7, 8] })], join := [(3, [])],  }
def la_Timeout : LA := {}
theorem eq_Timeout {W : Type} (π : Prims W) (b : Nat) : bodyE π Tryz.prog la_Timeout ann_Timeout 51 Tryz.f47 (bodyOf Tryz.f47) [.v (.pointer (some ⟨b, 0, none⟩))] [] = vc_Timeout π b := by kernel_rfl
theorem ok_Timeout (b : Nat) (R : RT) (s : PH) (h : vc_Timeout (RP Tryz.prog R) b s) : DCalls Tryz.prog 47 (List.map AV.val [.v (.pointer (some ⟨b, 0, none⟩))]).toArray s R :=
 callsE (c := bodyOf Tryz.f47) la_Timeout mo Tryz.func47 rfl (by kernel_rfl) Tryz.ntmps47 rfl (by kernel_rfl) (eq_Timeout ..) h
def vc_Beat {W : Type} (π : Prims W) (b : Nat) : W :=
 π.ite ((some (Addr.mk b 0 none)).isNone) (
  π.ret (.slice none 0 0)
 ) (
  π.unSome (some (Addr.mk b 0 none)) fun p0 =>
  π.ld [.int .i64] ((p0.add 2).add 2) fun ((x1 : Int), _) =>
  π.ite (x1 != 2) (
   π.ret (.slice none 0 0)
  ) (
   π.call 69 #[(.pointer (some (Addr.mk b 0 none))), (.func (Fn.func (72 : Nat)) #[(.pointer (some (Addr.mk b 0 none)))] #[])] (false, [(false, [.slice])]) fun ((((a2 : Option Addr), (n3 : Nat), (c4 : Nat)), _), _) =>
   π.ret (.slice a2 n3 c4)
  )
 )
def ann_Beat : Ann := {}
def la_Beat : LA := {}
theorem eq_Beat {W : Type} (π : Prims W) (b : Nat) : bodyE π Tryz.prog la_Beat ann_Beat 17 Tryz.f48 (bodyOf Tryz.f48) [.v (.pointer (some ⟨b, 0, none⟩))] [] = vc_Beat π b := by kernel_rfl
theorem ok_Beat (b : Nat) (R : RT) (s : PH) (h : vc_Beat (RP Tryz.prog R) b s) : DCalls Tryz.prog 48 (List.map AV.val [.v (.pointer (some ⟨b, 0, none⟩))]).toArray s R :=
 callsE (c := bodyOf Tryz.f48) la_Beat mo Tryz.func48 rfl (by kernel_rfl) Tryz.ntmps48 rfl (by kernel_rfl) (eq_Beat ..) h
def vc_Propose {W : Type} (π : Prims W) (b : Nat) (at_ born : Int) (text : ByteArray) : W :=
 π.join [] (fun J0 =>
  π.ite ((some (Addr.mk b 0 none)).isNone) (
   π.ret (.tuple #[(.int .i64 0), (.slice none 0 0)])
  ) (
   π.unSome (some (Addr.mk b 0 none)) fun p1 =>
   π.ld [.int .i64] ((p1.add 2).add 2) fun ((x2 : Int), _) =>
   π.ite (x2 != 2) (
    π.ret (.tuple #[(.int .i64 0), (.slice none 0 0)])
   ) (
    J0 (())
   )
  )
 ) (fun (_) =>
  π.callQ 55 #[(.pointer (some (Addr.mk b 0 none)))] (false, [(false, [.int .i64])]) fun (((x3 : Int), _), _) =>
  π.unSome (some (Addr.mk b 0 none)) fun p4 =>
  π.ld [.int .i64] ((p4.add 2).add 0) fun ((x5 : Int), _) =>
  π.nw (Obj.cells #[(.int .i64 x5), (.int .i64 at_), (.int .i64 born), (.string text)] (43 : Nat) (0, 0)) fun r6 =>
  π.call 73 #[(.pointer (some (Addr.mk b 0 none))), (.int .i64 (i64.wrap (x3 + 1))), (.slice (some (Addr.mk r6 0 none)) ((1 : Nat)) ((1 : Nat)))] (true, []) fun (_) =>
  π.call 55 #[(.pointer (some (Addr.mk b 0 none)))] (false, [(false, [.int .i64])]) fun (((x7 : Int), _), _) =>
  π.call 69 #[(.pointer (some (Addr.mk b 0 none))), (.func (Fn.func (72 : Nat)) #[(.pointer (some (Addr.mk b 0 none)))] #[])] (false, [(false, [.slice])]) fun ((((a8 : Option Addr), (n9 : Nat), (c10 : Nat)), _), _) =>
  π.call 74 #[(.pointer (some (Addr.mk b 0 none)))] (false, [(false, [.slice])]) fun ((((a11 : Option Addr), (n12 : Nat), (c13 : Nat)), _), _) =>
  π.app (119 : Nat) (10 : Nat) (104 : Nat) [(.int .i64 0), (.int .i64 0), (.int .i64 0), (.int .i64 0), (.int .i64 0), (.int .i64 0), (.int .i64 0), (.bool false), (.slice none 0 0), (.string ⟨#[]⟩)] (a8) (n9) (c10) (Src.sl a11 n12) fun a14 n15 c16 =>
  π.ret (.tuple #[(.int .i64 x7), (.slice a14 n15 c16)])
 )
def ann_Propose : Ann := { draws := [(3, { A := [0, 1, 2, 3, 4, 5, 6, 7, 8, 9, 10, 11, 12], quiet := [2] })], join := [(3, [])],  }
def la_Propose : LA := {}
theorem eq_Propose {W : Type} (π : Prims W) (b : Nat) (at_ born : Int) (text : ByteArray) : bodyE π Tryz.prog la_Propose ann_Propose 44 Tryz.f49 (bodyOf Tryz.f49) [.v (.pointer (some ⟨b, 0, none⟩)), .v (.int .i64 at_), .v (.int .i64 born), .v (.string text)] [] = vc_Propose π b at_ born text := by kernel_rfl
theorem ok_Propose (b : Nat) (at_ born : Int) (text : ByteArray) (R : RT) (s : PH) (h : vc_Propose (RP Tryz.prog R) b at_ born text s) : DCalls Tryz.prog 49 (List.map AV.val [.v (.pointer (some ⟨b, 0, none⟩)), .v (.int .i64 at_), .v (.int .i64 born), .v (.string text)]).toArray s R :=
 callsE (c := bodyOf Tryz.f49) la_Propose mo Tryz.func49 rfl (by kernel_rfl) Tryz.ntmps49 rfl (by kernel_rfl) (eq_Propose ..) h
def vc_strange1 {W : Type} (π : Prims W) (n : Int) : W :=
 π.ite (decide (n < 0)) (
  π.ret (.bool true)
 ) (
  π.ret (.bool (decide (n > 1099511627776)))
 )
def ann_strange1 : Ann := {}
def la_strange1 : LA := {}
theorem eq_strange1 {W : Type} (π : Prims W) (n : Int) : bodyE π Tryz.prog la_strange1 ann_strange1 9 Tryz.f112 (bodyOf Tryz.f112) [.v (.int .i64 n)] [] = vc_strange1 π n := by kernel_rfl
theorem ok_strange1 (n : Int) (R : RT) (s : PH) (h : vc_strange1 (RP Tryz.prog R) n s) : DCalls Tryz.prog 112 (List.map AV.val [.v (.int .i64 n)]).toArray s R :=
 callsE (c := bodyOf Tryz.f112) la_strange1 mo Tryz.func112 rfl (by kernel_rfl) Tryz.ntmps112 rfl (by kernel_rfl) (eq_strange1 ..) h
def vc_strange {W : Type} (π : Prims W) (b : Nat) (mk mf mt mm mi mp mc : Int) (mg : Bool) (la : Option Addr) (ln lc : Nat) (ms : ByteArray) : W :=
 π.nw (Obj.cells #[(.int .i64 mk), (.int .i64 mf), (.int .i64 mt), (.int .i64 mm), (.int .i64 mi), (.int .i64 mp), (.int .i64 mc), (.bool mg), (.slice la ln lc), (.string ms)] (119 : Nat) (0, 0)) fun r0 =>
 π.join [(false, [.addr]), (false, [.int .i64])] (fun J1 =>
  π.ld [.int .i64] ((Addr.mk r0 0 none).add 0) fun ((x2 : Int), _) =>
  π.ite (x2 == 4) (
   J1 ((Addr.mk r0 0 none, ()), ((-1 : Int), ()), ())
  ) (
   J1 ((Addr.mk r0 0 none, ()), ((0 : Int), ()), ())
  )
 ) (fun ((p3, _), ((x4 : Int), _), _) =>
  π.ld [.int .i64] (p3.add 2) fun ((x5 : Int), _) =>
  π.unSome (some (Addr.mk b 0 none)) fun p6 =>
  π.ld [.int .i64] (p6.add 0) fun ((x7 : Int), _) =>
  π.ite (x5 != x7) (
   π.ret (.bool true)
  ) (
   π.ld [.int .i64] (p3.add 1) fun ((x8 : Int), _) =>
   π.unSome (some (Addr.mk b 0 none)) fun p9 =>
   π.ld [.int .i64] (p9.add 0) fun ((x10 : Int), _) =>
   π.ite (x8 == x10) (
    π.ret (.bool true)
   ) (
    π.ld [.int .i64] (p3.add 1) fun ((x11 : Int), _) =>
    π.ite (decide (x11 < 0)) (
     π.ret (.bool true)
    ) (
     π.ld [.int .i64] (p3.add 1) fun ((x12 : Int), _) =>
     π.unSome (some (Addr.mk b 0 none)) fun p13 =>
     π.ld [.int .i64] (p13.add 1) fun ((x14 : Int), _) =>
     π.ite (decide (x12 ≥ x14)) (
      π.ret (.bool true)
     ) (
      π.ld [.int .i64] (p3.add 0) fun ((x15 : Int), _) =>
      π.ite (decide (x15 < 1)) (
       π.ret (.bool true)
      ) (
       π.ld [.int .i64] (p3.add 0) fun ((x16 : Int), _) =>
       π.ite (decide (x16 > 5)) (
        π.ret (.bool true)
       ) (
        π.ld [.int .i64] (p3.add 3) fun ((x17 : Int), _) =>
        π.ite (decide (x17 < 1)) (
         π.ret (.bool true)
        ) (
         π.ld [.int .i64] (p3.add 3) fun ((x18 : Int), _) =>
         π.ite (decide (x18 > 1099511627776)) (
          π.ret (.bool true)
         ) (
          π.ld [.int .i64] (p3.add 4) fun ((x19 : Int), _) =>
          π.ite (decide (x19 < x4)) (
           π.ret (.bool true)
          ) (
           π.ld [.int .i64] (p3.add 4) fun ((x20 : Int), _) =>
           π.ite (decide (x20 > 1099511627776)) (
            π.ret (.bool true)
           ) (
            π.ld [.int .i64] (p3.add 5) fun ((x21 : Int), _) =>
            π.call 112 #[(.int .i64 x21)] (false, [(false, [.bool])]) fun (((b22 : Bool), _), _) =>
            π.ite (b22) (
             π.ret (.bool true)
            ) (
             π.ld [.int .i64] (p3.add 6) fun ((x23 : Int), _) =>
             π.call 112 #[(.int .i64 x23)] (false, [(false, [.bool])]) fun (((b24 : Bool), _), _) =>
             π.ret (.bool b24)
            )
           )
          )
         )
        )
       )
      )
     )
    )
   )
  )
 )
def ann_strange : Ann := { draws := [(5, { A := [0, 1, 2, 3, 4, 5, 6, 7, 8, 9, 10, 11, 12, 13, 14, 15, 16, 17, 18, 19, 20, 21, 22, 23, 24, 25, 26, 27, 28, 29, 30, 31, 32, 33, 34, 35, 36, 37, 38, 39, 40, 41, 42, 43, 44, 45, 46, 47, 48, 49, 50, 51, 52, 53, 54, 55, 56, 57, 58, 59, 60, 61, 62, 63, 64], eag := [66, 67, 68, 69, 72, 73] })], join := [(4, [(3, 1000000), (5, 3)])],  }
def la_strange : LA := {}
theorem eq_strange {W : Type} (π : Prims W) (b : Nat) (mk mf mt mm mi mp mc : Int) (mg : Bool) (la : Option Addr) (ln lc : Nat) (ms : ByteArray) : bodyE π Tryz.prog la_strange ann_strange 83 Tryz.f90 (bodyOf Tryz.f90) [.v (.pointer (some ⟨b, 0, none⟩)), .v (.agg #[.int .i64 mk, .int .i64 mf, .int .i64 mt, .int .i64 mm, .int .i64 mi, .int .i64 mp, .int .i64 mc, .bool mg, .slice la ln lc, .string ms])] [] = vc_strange π b mk mf mt mm mi mp mc mg la ln lc ms := by kernel_rfl
theorem ok_strange (b : Nat) (mk mf mt mm mi mp mc : Int) (mg : Bool) (la : Option Addr) (ln lc : Nat) (ms : ByteArray) (R : RT) (s : PH) (h : vc_strange (RP Tryz.prog R) b mk mf mt mm mi mp mc mg la ln lc ms s) : DCalls Tryz.prog 90 (List.map AV.val [.v (.pointer (some ⟨b, 0, none⟩)), .v (.agg #[.int .i64 mk, .int .i64 mf, .int .i64 mt, .int .i64 mm, .int .i64 mi, .int .i64 mp, .int .i64 mc, .bool mg, .slice la ln lc, .string ms])]).toArray s R :=
 callsE (c := bodyOf Tryz.f90) la_strange mo Tryz.func90 rfl (by kernel_rfl) Tryz.ntmps90 rfl (by kernel_rfl) (eq_strange ..) h
def vc_told {W : Type} (π : Prims W) (b : Nat) (to : Int) (good : Bool) (i : Int) : W :=
 π.call 91 #[(.pointer (some (Addr.mk b 0 none))), (.int .i64 4), (.int .i64 to)] (false, [(true, [.int .i64, .int .i64, .int .i64, .int .i64, .int .i64, .int .i64, .int .i64, .bool, .slice, .str])]) fun (((x0 : Int), (x1 : Int), (x2 : Int), (x3 : Int), (x4 : Int), (x5 : Int), (x6 : Int), (b7 : Bool), ((a8 : Option Addr), (n9 : Nat), (c10 : Nat)), (t11 : ByteArray), _), _) =>
 π.nw (Obj.cells #[(.int .i64 0), (.int .i64 0), (.int .i64 0), (.int .i64 0), (.int .i64 0), (.int .i64 0), (.int .i64 0), (.bool false), (.slice none 0 0), (.string ⟨#[]⟩)] (119 : Nat) (0, 0)) fun r12 =>
 π.st (Addr.mk r12 0 none) [(.int .i64 x0), (.int .i64 x1), (.int .i64 x2), (.int .i64 x3), (.int .i64 x4), (.int .i64 x5), (.int .i64 x6), (.bool b7), (.slice a8 n9 c10), (.string t11)] <|
 π.st ((Addr.mk r12 0 none).add 7) [(.bool good)] <|
 π.st ((Addr.mk r12 0 none).add 4) [(.int .i64 i)] <|
 π.ld [.int .i64, .int .i64, .int .i64, .int .i64, .int .i64, .int .i64, .int .i64, .bool, .slice, .str] (Addr.mk r12 0 none) fun ((x13 : Int), (x14 : Int), (x15 : Int), (x16 : Int), (x17 : Int), (x18 : Int), (x19 : Int), (b20 : Bool), ((a21 : Option Addr), (n22 : Nat), (c23 : Nat)), (t24 : ByteArray), _) =>
 π.nw (Obj.cells #[(.int .i64 x13), (.int .i64 x14), (.int .i64 x15), (.int .i64 x16), (.int .i64 x17), (.int .i64 x18), (.int .i64 x19), (.bool b20), (.slice a21 n22 c23), (.string t24)] (119 : Nat) (0, 0)) fun r25 =>
 π.ret (.slice (some (Addr.mk r25 0 none)) ((1 : Nat)) ((1 : Nat)))
def ann_told : Ann := {}
def la_told : LA := {}
theorem eq_told {W : Type} (π : Prims W) (b : Nat) (to : Int) (good : Bool) (i : Int) : bodyE π Tryz.prog la_told ann_told 19 Tryz.f92 (bodyOf Tryz.f92) [.v (.pointer (some ⟨b, 0, none⟩)), .v (.int .i64 to), .v (.bool good), .v (.int .i64 i)] [] = vc_told π b to good i := by kernel_rfl
theorem ok_told (b : Nat) (to : Int) (good : Bool) (i : Int) (R : RT) (s : PH) (h : vc_told (RP Tryz.prog R) b to good i s) : DCalls Tryz.prog 92 (List.map AV.val [.v (.pointer (some ⟨b, 0, none⟩)), .v (.int .i64 to), .v (.bool good), .v (.int .i64 i)]).toArray s R :=
 callsE (c := bodyOf Tryz.f92) la_told mo Tryz.func92 rfl (by kernel_rfl) Tryz.ntmps92 rfl (by kernel_rfl) (eq_told ..) h
def vc_asked {W : Type} (π : Prims W) (b : Nat) (mk mf mt mm mi mp mc : Int) (mg : Bool) (la : Option Addr) (ln lc : Nat) (ms : ByteArray) : W :=
 π.nw (Obj.cells #[(.int .i64 mk), (.int .i64 mf), (.int .i64 mt), (.int .i64 mm), (.int .i64 mi), (.int .i64 mp), (.int .i64 mc), (.bool mg), (.slice la ln lc), (.string ms)] (119 : Nat) (0, 0)) fun r0 =>
 π.call 55 #[(.pointer (some (Addr.mk b 0 none)))] (false, [(false, [.int .i64])]) fun (((x1 : Int), _), _) =>
 π.call 77 #[(.pointer (some (Addr.mk b 0 none))), (.int .i64 x1)] (true, [(false, [.int .i64]), (false, [.bool])]) fun (((x2 : Int), _), ((b3 : Bool), _), _) =>
 π.ld [.int .i64] ((Addr.mk r0 0 none).add 1) fun ((x4 : Int), _) =>
 π.call 91 #[(.pointer (some (Addr.mk b 0 none))), (.int .i64 2), (.int .i64 x4)] (false, [(true, [.int .i64, .int .i64, .int .i64, .int .i64, .int .i64, .int .i64, .int .i64, .bool, .slice, .str])]) fun (((x5 : Int), (x6 : Int), (x7 : Int), (x8 : Int), (x9 : Int), (x10 : Int), (x11 : Int), (b12 : Bool), ((a13 : Option Addr), (n14 : Nat), (c15 : Nat)), (t16 : ByteArray), _), _) =>
 π.nw (Obj.cells #[(.int .i64 0), (.int .i64 0), (.int .i64 0), (.int .i64 0), (.int .i64 0), (.int .i64 0), (.int .i64 0), (.bool false), (.slice none 0 0), (.string ⟨#[]⟩)] (119 : Nat) (0, 0)) fun r17 =>
 π.st (Addr.mk r17 0 none) [(.int .i64 x5), (.int .i64 x6), (.int .i64 x7), (.int .i64 x8), (.int .i64 x9), (.int .i64 x10), (.int .i64 x11), (.bool b12), (.slice a13 n14 c15), (.string t16)] <|
 π.unSome (some (Addr.mk b 0 none)) fun p18 =>
 π.ld [.int .i64] ((p18.add 2).add 1) fun ((x19 : Int), _) =>
 π.ite (decide (x19 < 0)) (
  π.ld [.int .i64] ((Addr.mk r0 0 none).add 5) fun ((x20 : Int), _) =>
  π.ite (decide (x20 > x2)) (
   π.st ((Addr.mk r17 0 none).add 7) [(.bool true)] <|
   π.ld [.bool] ((Addr.mk r17 0 none).add 7) fun ((b21 : Bool), _) =>
   π.ite (b21) (
    π.ld [.int .i64] ((Addr.mk r0 0 none).add 1) fun ((x22 : Int), _) =>
    π.unSome (some (Addr.mk b 0 none)) fun p23 =>
    π.st ((p23.add 2).add 1) [(.int .i64 x22)] <|
    π.unSome (some (Addr.mk b 0 none)) fun p24 =>
    π.st (p24.add 15) [(.bool true)] <|
    π.ld [.int .i64, .int .i64, .int .i64, .int .i64, .int .i64, .int .i64, .int .i64, .bool, .slice, .str] (Addr.mk r17 0 none) fun ((x25 : Int), (x26 : Int), (x27 : Int), (x28 : Int), (x29 : Int), (x30 : Int), (x31 : Int), (b32 : Bool), ((a33 : Option Addr), (n34 : Nat), (c35 : Nat)), (t36 : ByteArray), _) =>
    π.nw (Obj.cells #[(.int .i64 x25), (.int .i64 x26), (.int .i64 x27), (.int .i64 x28), (.int .i64 x29), (.int .i64 x30), (.int .i64 x31), (.bool b32), (.slice a33 n34 c35), (.string t36)] (119 : Nat) (0, 0)) fun r37 =>
    π.ret (.slice (some (Addr.mk r37 0 none)) ((1 : Nat)) ((1 : Nat)))
   ) (
    π.ld [.int .i64, .int .i64, .int .i64, .int .i64, .int .i64, .int .i64, .int .i64, .bool, .slice, .str] (Addr.mk r17 0 none) fun ((x38 : Int), (x39 : Int), (x40 : Int), (x41 : Int), (x42 : Int), (x43 : Int), (x44 : Int), (b45 : Bool), ((a46 : Option Addr), (n47 : Nat), (c48 : Nat)), (t49 : ByteArray), _) =>
    π.nw (Obj.cells #[(.int .i64 x38), (.int .i64 x39), (.int .i64 x40), (.int .i64 x41), (.int .i64 x42), (.int .i64 x43), (.int .i64 x44), (.bool b45), (.slice a46 n47 c48), (.string t49)] (119 : Nat) (0, 0)) fun r50 =>
    π.ret (.slice (some (Addr.mk r50 0 none)) ((1 : Nat)) ((1 : Nat)))
   )
  ) (
   π.ld [.int .i64] ((Addr.mk r0 0 none).add 5) fun ((x51 : Int), _) =>
   π.ite (x51 == x2) (
    π.ld [.int .i64] ((Addr.mk r0 0 none).add 4) fun ((x52 : Int), _) =>
    π.callQ 55 #[(.pointer (some (Addr.mk b 0 none)))] (false, [(false, [.int .i64])]) fun (((x53 : Int), _), _) =>
    π.st ((Addr.mk r17 0 none).add 7) [(.bool (decide (x52 ≥ x53)))] <|
    π.ld [.bool] ((Addr.mk r17 0 none).add 7) fun ((b54 : Bool), _) =>
    π.ite (b54) (
     π.ld [.int .i64] ((Addr.mk r0 0 none).add 1) fun ((x55 : Int), _) =>
     π.unSome (some (Addr.mk b 0 none)) fun p56 =>
     π.st ((p56.add 2).add 1) [(.int .i64 x55)] <|
     π.unSome (some (Addr.mk b 0 none)) fun p57 =>
     π.st (p57.add 15) [(.bool true)] <|
     π.ld [.int .i64, .int .i64, .int .i64, .int .i64, .int .i64, .int .i64, .int .i64, .bool, .slice, .str] (Addr.mk r17 0 none) fun ((x58 : Int), (x59 : Int), (x60 : Int), (x61 : Int), (x62 : Int), (x63 : Int), (x64 : Int), (b65 : Bool), ((a66 : Option Addr), (n67 : Nat), (c68 : Nat)), (t69 : ByteArray), _) =>
     π.nw (Obj.cells #[(.int .i64 x58), (.int .i64 x59), (.int .i64 x60), (.int .i64 x61), (.int .i64 x62), (.int .i64 x63), (.int .i64 x64), (.bool b65), (.slice a66 n67 c68), (.string t69)] (119 : Nat) (0, 0)) fun r70 =>
     π.ret (.slice (some (Addr.mk r70 0 none)) ((1 : Nat)) ((1 : Nat)))
    ) (
     π.ld [.int .i64, .int .i64, .int .i64, .int .i64, .int .i64, .int .i64, .int .i64, .bool, .slice, .str] (Addr.mk r17 0 none) fun ((x71 : Int), (x72 : Int), (x73 : Int), (x74 : Int), (x75 : Int), (x76 : Int), (x77 : Int), (b78 : Bool), ((a79 : Option Addr), (n80 : Nat), (c81 : Nat)), (t82 : ByteArray), _) =>
     π.nw (Obj.cells #[(.int .i64 x71), (.int .i64 x72), (.int .i64 x73), (.int .i64 x74), (.int .i64 x75), (.int .i64 x76), (.int .i64 x77), (.bool b78), (.slice a79 n80 c81), (.string t82)] (119 : Nat) (0, 0)) fun r83 =>
     π.ret (.slice (some (Addr.mk r83 0 none)) ((1 : Nat)) ((1 : Nat)))
    )
   ) (
    π.st ((Addr.mk r17 0 none).add 7) [(.bool false)] <|
    π.ld [.bool] ((Addr.mk r17 0 none).add 7) fun ((b84 : Bool), _) =>
    π.ite (b84) (
     π.ld [.int .i64] ((Addr.mk r0 0 none).add 1) fun ((x85 : Int), _) =>
     π.unSome (some (Addr.mk b 0 none)) fun p86 =>
     π.st ((p86.add 2).add 1) [(.int .i64 x85)] <|
     π.unSome (some (Addr.mk b 0 none)) fun p87 =>
     π.st (p87.add 15) [(.bool true)] <|
     π.ld [.int .i64, .int .i64, .int .i64, .int .i64, .int .i64, .int .i64, .int .i64, .bool, .slice, .str] (Addr.mk r17 0 none) fun ((x88 : Int), (x89 : Int), (x90 : Int), (x91 : Int), (x92 : Int), (x93 : Int), (x94 : Int), (b95 : Bool), ((a96 : Option Addr), (n97 : Nat), (c98 : Nat)), (t99 : ByteArray), _) =>
     π.nw (Obj.cells #[(.int .i64 x88), (.int .i64 x89), (.int .i64 x90), (.int .i64 x91), (.int .i64 x92), (.int .i64 x93), (.int .i64 x94), (.bool b95), (.slice a96 n97 c98), (.string t99)] (119 : Nat) (0, 0)) fun r100 =>
     π.ret (.slice (some (Addr.mk r100 0 none)) ((1 : Nat)) ((1 : Nat)))
    ) (
     π.ld [.int .i64, .int .i64, .int .i64, .int .i64, .int .i64, .int .i64, .int .i64, .bool, .slice, .str] (Addr.mk r17 0 none) fun ((x101 : Int), (x102 : Int), (x103 : Int), (x104 : Int), (x105 : Int), (x106 : Int), (x107 : Int), (b108 : Bool), ((a109 : Option Addr), (n110 : Nat), (c111 : Nat)), (t112 : ByteArray), _) =>
     π.nw (Obj.cells #[(.int .i64 x101), (.int .i64 x102), (.int .i64 x103), (.int .i64 x104), (.int .i64 x105), (.int .i64 x106), (.int .i64 x107), (.bool b108), (.slice a109 n110 c111), (.string t112)] (119 : Nat) (0, 0)) fun r113 =>
     π.ret (.slice (some (Addr.mk r113 0 none)) ((1 : Nat)) ((1 : Nat)))
    )
   )
  )
 ) (
  π.unSome (some (Addr.mk b 0 none)) fun p114 =>
  π.ld [.int .i64] ((p114.add 2).add 1) fun ((x115 : Int), _) =>
  π.ld [.int .i64] ((Addr.mk r0 0 none).add 1) fun ((x116 : Int), _) =>
  π.ite (x115 == x116) (
   π.ld [.int .i64] ((Addr.mk r0 0 none).add 5) fun ((x117 : Int), _) =>
   π.ite (decide (x117 > x2)) (
    π.st ((Addr.mk r17 0 none).add 7) [(.bool true)] <|
    π.ld [.bool] ((Addr.mk r17 0 none).add 7) fun ((b118 : Bool), _) =>
    π.ite (b118) (
     π.ld [.int .i64] ((Addr.mk r0 0 none).add 1) fun ((x119 : Int), _) =>
     π.unSome (some (Addr.mk b 0 none)) fun p120 =>
     π.st ((p120.add 2).add 1) [(.int .i64 x119)] <|
     π.unSome (some (Addr.mk b 0 none)) fun p121 =>
     π.st (p121.add 15) [(.bool true)] <|
     π.ld [.int .i64, .int .i64, .int .i64, .int .i64, .int .i64, .int .i64, .int .i64, .bool, .slice, .str] (Addr.mk r17 0 none) fun ((x122 : Int), (x123 : Int), (x124 : Int), (x125 : Int), (x126 : Int), (x127 : Int), (x128 : Int), (b129 : Bool), ((a130 : Option Addr), (n131 : Nat), (c132 : Nat)), (t133 : ByteArray), _) =>
     π.nw (Obj.cells #[(.int .i64 x122), (.int .i64 x123), (.int .i64 x124), (.int .i64 x125), (.int .i64 x126), (.int .i64 x127), (.int .i64 x128), (.bool b129), (.slice a130 n131 c132), (.string t133)] (119 : Nat) (0, 0)) fun r134 =>
     π.ret (.slice (some (Addr.mk r134 0 none)) ((1 : Nat)) ((1 : Nat)))
    ) (
     π.ld [.int .i64, .int .i64, .int .i64, .int .i64, .int .i64, .int .i64, .int .i64, .bool, .slice, .str] (Addr.mk r17 0 none) fun ((x135 : Int), (x136 : Int), (x137 : Int), (x138 : Int), (x139 : Int), (x140 : Int), (x141 : Int), (b142 : Bool), ((a143 : Option Addr), (n144 : Nat), (c145 : Nat)), (t146 : ByteArray), _) =>
     π.nw (Obj.cells #[(.int .i64 x135), (.int .i64 x136), (.int .i64 x137), (.int .i64 x138), (.int .i64 x139), (.int .i64 x140), (.int .i64 x141), (.bool b142), (.slice a143 n144 c145), (.string t146)] (119 : Nat) (0, 0)) fun r147 =>
     π.ret (.slice (some (Addr.mk r147 0 none)) ((1 : Nat)) ((1 : Nat)))
    )
   ) (
    π.ld [.int .i64] ((Addr.mk r0 0 none).add 5) fun ((x148 : Int), _) =>
    π.ite (x148 == x2) (
     π.ld [.int .i64] ((Addr.mk r0 0 none).add 4) fun ((x149 : Int), _) =>
     π.callQ 55 #[(.pointer (some (Addr.mk b 0 none)))] (false, [(false, [.int .i64])]) fun (((x150 : Int), _), _) =>
     π.st ((Addr.mk r17 0 none).add 7) [(.bool (decide (x149 ≥ x150)))] <|
     π.ld [.bool] ((Addr.mk r17 0 none).add 7) fun ((b151 : Bool), _) =>
     π.ite (b151) (
      π.ld [.int .i64] ((Addr.mk r0 0 none).add 1) fun ((x152 : Int), _) =>
      π.unSome (some (Addr.mk b 0 none)) fun p153 =>
      π.st ((p153.add 2).add 1) [(.int .i64 x152)] <|
      π.unSome (some (Addr.mk b 0 none)) fun p154 =>
      π.st (p154.add 15) [(.bool true)] <|
      π.ld [.int .i64, .int .i64, .int .i64, .int .i64, .int .i64, .int .i64, .int .i64, .bool, .slice, .str] (Addr.mk r17 0 none) fun ((x155 : Int), (x156 : Int), (x157 : Int), (x158 : Int), (x159 : Int), (x160 : Int), (x161 : Int), (b162 : Bool), ((a163 : Option Addr), (n164 : Nat), (c165 : Nat)), (t166 : ByteArray), _) =>
      π.nw (Obj.cells #[(.int .i64 x155), (.int .i64 x156), (.int .i64 x157), (.int .i64 x158), (.int .i64 x159), (.int .i64 x160), (.int .i64 x161), (.bool b162), (.slice a163 n164 c165), (.string t166)] (119 : Nat) (0, 0)) fun r167 =>
      π.ret (.slice (some (Addr.mk r167 0 none)) ((1 : Nat)) ((1 : Nat)))
     ) (
      π.ld [.int .i64, .int .i64, .int .i64, .int .i64, .int .i64, .int .i64, .int .i64, .bool, .slice, .str] (Addr.mk r17 0 none) fun ((x168 : Int), (x169 : Int), (x170 : Int), (x171 : Int), (x172 : Int), (x173 : Int), (x174 : Int), (b175 : Bool), ((a176 : Option Addr), (n177 : Nat), (c178 : Nat)), (t179 : ByteArray), _) =>
      π.nw (Obj.cells #[(.int .i64 x168), (.int .i64 x169), (.int .i64 x170), (.int .i64 x171), (.int .i64 x172), (.int .i64 x173), (.int .i64 x174), (.bool b175), (.slice a176 n177 c178), (.string t179)] (119 : Nat) (0, 0)) fun r180 =>
      π.ret (.slice (some (Addr.mk r180 0 none)) ((1 : Nat)) ((1 : Nat)))
     )
    ) (
     π.st ((Addr.mk r17 0 none).add 7) [(.bool false)] <|
     π.ld [.bool] ((Addr.mk r17 0 none).add 7) fun ((b181 : Bool), _) =>
     π.ite (b181) (
      π.ld [.int .i64] ((Addr.mk r0 0 none).add 1) fun ((x182 : Int), _) =>
      π.unSome (some (Addr.mk b 0 none)) fun p183 =>
      π.st ((p183.add 2).add 1) [(.int .i64 x182)] <|
      π.unSome (some (Addr.mk b 0 none)) fun p184 =>
      π.st (p184.add 15) [(.bool true)] <|
      π.ld [.int .i64, .int .i64, .int .i64, .int .i64, .int .i64, .int .i64, .int .i64, .bool, .slice, .str] (Addr.mk r17 0 none) fun ((x185 : Int), (x186 : Int), (x187 : Int), (x188 : Int), (x189 : Int), (x190 : Int), (x191 : Int), (b192 : Bool), ((a193 : Option Addr), (n194 : Nat), (c195 : Nat)), (t196 : ByteArray), _) =>
      π.nw (Obj.cells #[(.int .i64 x185), (.int .i64 x186), (.int .i64 x187), (.int .i64 x188), (.int .i64 x189), (.int .i64 x190), (.int .i64 x191), (.bool b192), (.slice a193 n194 c195), (.string t196)] (119 : Nat) (0, 0)) fun r197 =>
      π.ret (.slice (some (Addr.mk r197 0 none)) ((1 : Nat)) ((1 : Nat)))
     ) (
      π.ld [.int .i64, .int .i64, .int .i64, .int .i64, .int .i64, .int .i64, .int .i64, .bool, .slice, .str] (Addr.mk r17 0 none) fun ((x198 : Int), (x199 : Int), (x200 : Int), (x201 : Int), (x202 : Int), (x203 : Int), (x204 : Int), (b205 : Bool), ((a206 : Option Addr), (n207 : Nat), (c208 : Nat)), (t209 : ByteArray), _) =>
      π.nw (Obj.cells #[(.int .i64 x198), (.int .i64 x199), (.int .i64 x200), (.int .i64 x201), (.int .i64 x202), (.int .i64 x203), (.int .i64 x204), (.bool b205), (.slice a206 n207 c208), (.string t209)] (119 : Nat) (0, 0)) fun r210 =>
      π.ret (.slice (some (Addr.mk r210 0 none)) ((1 : Nat)) ((1 : Nat)))
     )
    )
   )
  ) (
   π.st ((Addr.mk r17 0 none).add 7) [(.bool false)] <|
   π.ld [.bool] ((Addr.mk r17 0 none).add 7) fun ((b211 : Bool), _) =>
   π.ite (b211) (
    π.ld [.int .i64] ((Addr.mk r0 0 none).add 1) fun ((x212 : Int), _) =>
    π.unSome (some (Addr.mk b 0 none)) fun p213 =>
    π.st ((p213.add 2).add 1) [(.int .i64 x212)] <|
    π.unSome (some (Addr.mk b 0 none)) fun p214 =>
    π.st (p214.add 15) [(.bool true)] <|
    π.ld [.int .i64, .int .i64, .int .i64, .int .i64, .int .i64, .int .i64, .int .i64, .bool, .slice, .str] (Addr.mk r17 0 none) fun ((x215 : Int), (x216 : Int), (x217 : Int), (x218 : Int), (x219 : Int), (x220 : Int), (x221 : Int), (b222 : Bool), ((a223 : Option Addr), (n224 : Nat), (c225 : Nat)), (t226 : ByteArray), _) =>
    π.nw (Obj.cells #[(.int .i64 x215), (.int .i64 x216), (.int .i64 x217), (.int .i64 x218), (.int .i64 x219), (.int .i64 x220), (.int .i64 x221), (.bool b222), (.slice a223 n224 c225), (.string t226)] (119 : Nat) (0, 0)) fun r227 =>
    π.ret (.slice (some (Addr.mk r227 0 none)) ((1 : Nat)) ((1 : Nat)))
   ) (
    π.ld [.int .i64, .int .i64, .int .i64, .int .i64, .int .i64, .int .i64, .int .i64, .bool, .slice, .str] (Addr.mk r17 0 none) fun ((x228 : Int), (x229 : Int), (x230 : Int), (x231 : Int), (x232 : Int), (x233 : Int), (x234 : Int), (b235 : Bool), ((a236 : Option Addr), (n237 : Nat), (c238 : Nat)), (t239 : ByteArray), _) =>
    π.nw (Obj.cells #[(.int .i64 x228), (.int .i64 x229), (.int .i64 x230), (.int .i64 x231), (.int .i64 x232), (.int .i64 x233), (.int .i64 x234), (.bool b235), (.slice a236 n237 c238), (.string t239)] (119 : Nat) (0, 0)) fun r240 =>
    π.ret (.slice (some (Addr.mk r240 0 none)) ((1 : Nat)) ((1 : Nat)))
   )
  )
 )
def ann_asked : Ann := { draws := [(3, { A := [0, 1, 2, 3, 4, 5, 6, 7, 8, 9, 10, 11, 12, 13, 14, 15, 16, 17, 18, 19, 20, 21, 22, 23, 24, 25, 26, 27, 28, 29, 30, 31, 32, 33, 34, 35], quiet := [30] })],  }
def la_asked : LA := {}
theorem eq_asked {W : Type} (π : Prims W) (b : Nat) (mk mf mt mm mi mp mc : Int) (mg : Bool) (la : Option Addr) (ln lc : Nat) (ms : ByteArray) : bodyE π Tryz.prog la_asked ann_asked 68 Tryz.f93 (bodyOf Tryz.f93) [.v (.pointer (some ⟨b, 0, none⟩)), .v (.agg #[.int .i64 mk, .int .i64 mf, .int .i64 mt, .int .i64 mm, .int .i64 mi, .int .i64 mp, .int .i64 mc, .bool mg, .slice la ln lc, .string ms])] [] = vc_asked π b mk mf mt mm mi mp mc mg la ln lc ms := by kernel_rfl
theorem ok_asked (b : Nat) (mk mf mt mm mi mp mc : Int) (mg : Bool) (la : Option Addr) (ln lc : Nat) (ms : ByteArray) (R : RT) (s : PH) (h : vc_asked (RP Tryz.prog R) b mk mf mt mm mi mp mc mg la ln lc ms s) : DCalls Tryz.prog 93 (List.map AV.val [.v (.pointer (some ⟨b, 0, none⟩)), .v (.agg #[.int .i64 mk, .int .i64 mf, .int .i64 mt, .int .i64 mm, .int .i64 mi, .int .i64 mp, .int .i64 mc, .bool mg, .slice la ln lc, .string ms])]).toArray s R :=
 callsE (c := bodyOf Tryz.f93) la_asked mo Tryz.func93 rfl (by kernel_rfl) Tryz.ntmps93 rfl (by kernel_rfl) (eq_asked ..) h
def vc_voted {W : Type} (π : Prims W) (b : Nat) (mk mf mt mm mi mp mc : Int) (mg : Bool) (la : Option Addr) (ln lc : Nat) (ms : ByteArray) : W :=
 π.nw (Obj.cells #[(.int .i64 mk), (.int .i64 mf), (.int .i64 mt), (.int .i64 mm), (.int .i64 mi), (.int .i64 mp), (.int .i64 mc), (.bool mg), (.slice la ln lc), (.string ms)] (119 : Nat) (0, 0)) fun r0 =>
 π.join [(false, [.addr])] (fun J1 =>
  π.unSome (some (Addr.mk b 0 none)) fun p2 =>
  π.ld [.int .i64] ((p2.add 2).add 2) fun ((x3 : Int), _) =>
  π.ite (x3 != 1) (
   π.ret (.slice none 0 0)
  ) (
   π.ld [.bool] ((Addr.mk r0 0 none).add 7) fun ((b4 : Bool), _) =>
   π.ite (!b4) (
    π.ret (.slice none 0 0)
   ) (
    J1 ((Addr.mk r0 0 none, ()), ())
   )
  )
 ) (fun ((p5, _), _) =>
  π.unSome (some (Addr.mk b 0 none)) fun p6 =>
  π.ld [.slice] (p6.add 12) fun (((a7 : Option Addr), (n8 : Nat), (c9 : Nat)), _) =>
  π.ld [.int .i64] (p5.add 1) fun ((x10 : Int), _) =>
  π.guard (0 ≤ x10 ∧ x10 < (↑n8 : Int)) <|
  π.unSome (a7) fun p11 =>
  π.st (p11.add (x10.toNat * 1)) [(.bool true)] <|
  π.call 71 #[(.pointer (some (Addr.mk b 0 none)))] (false, [(false, [.slice])]) fun ((((a12 : Option Addr), (n13 : Nat), (c14 : Nat)), _), _) =>
  π.ret (.slice a12 n13 c14)
 )
def ann_voted : Ann := { draws := [(3, { A := [0, 1, 2, 3, 4, 5, 6] })], join := [(3, [(3, 1000000)])],  }
def la_voted : LA := {}
theorem eq_voted {W : Type} (π : Prims W) (b : Nat) (mk mf mt mm mi mp mc : Int) (mg : Bool) (la : Option Addr) (ln lc : Nat) (ms : ByteArray) : bodyE π Tryz.prog la_voted ann_voted 25 Tryz.f94 (bodyOf Tryz.f94) [.v (.pointer (some ⟨b, 0, none⟩)), .v (.agg #[.int .i64 mk, .int .i64 mf, .int .i64 mt, .int .i64 mm, .int .i64 mi, .int .i64 mp, .int .i64 mc, .bool mg, .slice la ln lc, .string ms])] [] = vc_voted π b mk mf mt mm mi mp mc mg la ln lc ms := by kernel_rfl
theorem ok_voted (b : Nat) (mk mf mt mm mi mp mc : Int) (mg : Bool) (la : Option Addr) (ln lc : Nat) (ms : ByteArray) (R : RT) (s : PH) (h : vc_voted (RP Tryz.prog R) b mk mf mt mm mi mp mc mg la ln lc ms s) : DCalls Tryz.prog 94 (List.map AV.val [.v (.pointer (some ⟨b, 0, none⟩)), .v (.agg #[.int .i64 mk, .int .i64 mf, .int .i64 mt, .int .i64 mm, .int .i64 mi, .int .i64 mp, .int .i64 mc, .bool mg, .slice la ln lc, .string ms])]).toArray s R :=
 callsE (c := bodyOf Tryz.f94) la_voted mo Tryz.func94 rfl (by kernel_rfl) Tryz.ntmps94 rfl (by kernel_rfl) (eq_voted ..) h
def vc_fed {W : Type} (π : Prims W) (b : Nat) (mk mf mt mm mi mp mc : Int) (mg : Bool) (la : Option Addr) (ln lc : Nat) (ms : ByteArray) : W :=
 π.nw (Obj.cells #[(.int .i64 mk), (.int .i64 mf), (.int .i64 mt), (.int .i64 mm), (.int .i64 mi), (.int .i64 mp), (.int .i64 mc), (.bool mg), (.slice la ln lc), (.string ms)] (119 : Nat) (0, 0)) fun r0 =>
 π.unSome (some (Addr.mk b 0 none)) fun p1 =>
 π.ld [.int .i64] ((p1.add 2).add 2) fun ((x2 : Int), _) =>
 π.ite (x2 == 2) (
  π.ret (.slice none 0 0)
 ) (
  π.ld [.int .i64] ((Addr.mk r0 0 none).add 1) fun ((x3 : Int), _) =>
  π.unSome (some (Addr.mk b 0 none)) fun p4 =>
  π.st ((p4.add 2).add 2) [(.int .i64 0)] <|
  π.still [.int .i64] ((Addr.mk r0 0 none).add 1) (x3, ()) <|
  π.unSome (some (Addr.mk b 0 none)) fun p5 =>
  π.st ((p5.add 2).add 3) [(.int .i64 x3)] <|
  π.ld [.int .i64] ((Addr.mk r0 0 none).add 4) fun ((x6 : Int), _) =>
  π.ld [.slice] ((Addr.mk r0 0 none).add 8) fun (((a7 : Option Addr), (n8 : Nat), (c9 : Nat)), _) =>
  π.unSome (some (Addr.mk b 0 none)) fun p10 =>
  π.ld [.int .i64] ((p10.add 2).add 6) fun ((x11 : Int), _) =>
  π.ite (decide (i64.wrap (x6 + (↑n8 : Int)) ≤ x11)) (
   π.ld [.int .i64] ((Addr.mk r0 0 none).add 1) fun ((x12 : Int), _) =>
   π.call 92 #[(.pointer (some (Addr.mk b 0 none))), (.int .i64 x12), (.bool true), (.int .i64 (i64.wrap (x6 + (↑n8 : Int))))] (false, [(false, [.slice])]) fun ((((a13 : Option Addr), (n14 : Nat), (c15 : Nat)), _), _) =>
   π.ret (.slice a13 n14 c15)
  ) (
   π.ld [.slice] ((Addr.mk r0 0 none).add 8) fun (((a16 : Option Addr), (n17 : Nat), (c18 : Nat)), _) =>
   π.ld [.int .i64] ((Addr.mk r0 0 none).add 4) fun ((x19 : Int), _) =>
   π.join [(false, [.addr]), (false, [.int .i64]), (false, [.slice]), (false, [.int .i64])] (fun J20 =>
    π.unSome (some (Addr.mk b 0 none)) fun p21 =>
    π.ld [.int .i64] ((p21.add 2).add 6) fun ((x22 : Int), _) =>
    π.ite (decide (x19 < x22)) (
     π.unSome (some (Addr.mk b 0 none)) fun p23 =>
     π.ld [.int .i64] ((p23.add 2).add 6) fun ((x24 : Int), _) =>
     π.guard (0 ≤ i64.wrap (x24 - x19) ∧ i64.wrap (x24 - x19) ≤ (↑n17 : Int) ∧ (↑n17 : Int) ≤ (↑c18 : Int)) <|
     π.unSome (some (Addr.mk b 0 none)) fun p25 =>
     π.ld [.int .i64] ((p25.add 2).add 6) fun ((x26 : Int), _) =>
     J20 ((Addr.mk r0 0 none, ()), (i64.wrap (x6 + (↑n8 : Int)), ()), ((if c18 = (i64.wrap (x24 - x19)).toNat then a16 else Option.map (fun x => x.add ((i64.wrap (x24 - x19)).toNat * 4)) a16, (↑n17 : Int).toNat - (i64.wrap (x24 - x19)).toNat, c18 - (i64.wrap (x24 - x19)).toNat), ()), (x26, ()), ())
    ) (
     π.call 77 #[(.pointer (some (Addr.mk b 0 none))), (.int .i64 x19)] (true, [(false, [.int .i64]), (false, [.bool])]) fun (((x27 : Int), _), ((b28 : Bool), _), _) =>
     π.join [(false, [.addr]), (false, [.int .i64]), (false, [.slice]), (false, [.int .i64]), (false, [.bool])] (fun J29 =>
      π.ite (!b28) (
       J29 ((Addr.mk r0 0 none, ()), (i64.wrap (x6 + (↑n8 : Int)), ()), ((a16, n17, c18), ()), (x19, ()), (true, ()), ())
      ) (
       π.ld [.int .i64] ((Addr.mk r0 0 none).add 5) fun ((x30 : Int), _) =>
       J29 ((Addr.mk r0 0 none, ()), (i64.wrap (x6 + (↑n8 : Int)), ()), ((a16, n17, c18), ()), (x19, ()), (x27 != x30, ()), ())
      )
     ) (fun ((p31, _), ((x32 : Int), _), (((a33 : Option Addr), (n34 : Nat), (c35 : Nat)), _), ((x36 : Int), _), ((b37 : Bool), _), _) =>
      π.ite (b37) (
       π.ld [.int .i64] (p31.add 1) fun ((x38 : Int), _) =>
       π.callQ 55 #[(.pointer (some (Addr.mk b 0 none)))] (false, [(false, [.int .i64])]) fun (((x39 : Int), _), _) =>
       π.call 92 #[(.pointer (some (Addr.mk b 0 none))), (.int .i64 x38), (.bool false), (.int .i64 (if i64.wrap (x36 - 1) < x39 then i64.wrap (x36 - 1) else x39))] (false, [(false, [.slice])]) fun ((((a40 : Option Addr), (n41 : Nat), (c42 : Nat)), _), _) =>
       π.ret (.slice a40 n41 c42)
      ) (
       J20 ((p31, ()), (x32, ()), ((a33, n34, c35), ()), (x36, ()), ())
      )
     )
    )
   ) (fun ((p43, _), ((x44 : Int), _), (((a45 : Option Addr), (n46 : Nat), (c47 : Nat)), _), ((x48 : Int), _), _) =>
    π.join [(false, [.addr]), (false, [.int .i64])] (fun J49 =>
     π.loop [(false, [.addr]), (false, [.int .i64]), (false, [.slice]), (false, [.int .i64]), (false, [.slice]), (false, [.int .i64]), (false, [.int .i64])] ((p43, ()), (x44, ()), ((a45, n46, c47), ()), (x48, ()), ((a45, n46, c47), ()), ((↑n46 : Int), ()), ((0 : Int), ()), ()) fun ((p51, _), ((x52 : Int), _), (((a53 : Option Addr), (n54 : Nat), (c55 : Nat)), _), ((x56 : Int), _), (((a57 : Option Addr), (n58 : Nat), (c59 : Nat)), _), ((x60 : Int), _), ((x61 : Int), _), _) again50 =>
      π.ite (decide (x61 < x60)) (
       π.guard (0 ≤ x61 ∧ x61 < (↑n58 : Int)) <|
       π.unSome (a57) fun p62 =>
       π.ld [.int .i64, .int .i64, .int .i64, .str] (p62.add (x61.toNat * 4)) fun ((x63 : Int), (x64 : Int), (x65 : Int), (t66 : ByteArray), _) =>
       π.nw (Obj.cells #[(.int .i64 0), (.int .i64 0), (.int .i64 0), (.string ⟨#[]⟩)] (43 : Nat) (0, 0)) fun r67 =>
       π.st (Addr.mk r67 0 none) [(.int .i64 x63), (.int .i64 x64), (.int .i64 x65), (.string t66)] <|
       π.call 77 #[(.pointer (some (Addr.mk b 0 none))), (.int .i64 (i64.wrap (i64.wrap (x56 + 1) + x61)))] (true, [(false, [.int .i64]), (false, [.bool])]) fun (((x68 : Int), _), ((b69 : Bool), _), _) =>
       π.ite (!b69) (
        π.guard (0 ≤ x61 ∧ x61 ≤ (↑n54 : Int) ∧ (↑n54 : Int) ≤ (↑c55 : Int)) <|
        π.call 73 #[(.pointer (some (Addr.mk b 0 none))), (.int .i64 (i64.wrap (i64.wrap (x56 + 1) + x61))), (.slice (if c55 = x61.toNat then a53 else Option.map (fun x => x.add (x61.toNat * 4)) a53) ((↑n54 : Int).toNat - x61.toNat) (c55 - x61.toNat))] (true, []) fun (_) =>
        J49 ((p51, ()), (x52, ()), ())
       ) (
        π.ld [.int .i64] ((Addr.mk r67 0 none).add 0) fun ((x70 : Int), _) =>
        π.ite (x68 != x70) (
         π.guard (0 ≤ x61 ∧ x61 ≤ (↑n54 : Int) ∧ (↑n54 : Int) ≤ (↑c55 : Int)) <|
         π.call 73 #[(.pointer (some (Addr.mk b 0 none))), (.int .i64 (i64.wrap (i64.wrap (x56 + 1) + x61))), (.slice (if c55 = x61.toNat then a53 else Option.map (fun x => x.add (x61.toNat * 4)) a53) ((↑n54 : Int).toNat - x61.toNat) (c55 - x61.toNat))] (true, []) fun (_) =>
         J49 ((p51, ()), (x52, ()), ())
        ) (
         again50 ((p51, ()), (x52, ()), ((a53, n54, c55), ()), (x56, ()), ((a57, n58, c59), ()), (x60, ()), (i64.wrap (x61 + 1), ()), ())
        )
       )
      ) (
       J49 ((p51, ()), (x52, ()), ())
      )
    ) (fun ((p71, _), ((x72 : Int), _), _) =>
     π.unSome (some (Addr.mk b 0 none)) fun p73 =>
     π.ld [.int .i64] ((p73.add 2).add 6) fun ((x74 : Int), _) =>
     π.ld [.int .i64] (p71.add 6) fun ((x75 : Int), _) =>
     π.unSome (some (Addr.mk b 0 none)) fun p76 =>
     π.st ((p76.add 2).add 6) [(.int .i64 (if (if x72 < x75 then x72 else x75) > x74 then if x72 < x75 then x72 else x75 else x74))] <|
     π.ld [.int .i64] (p71.add 1) fun ((x77 : Int), _) =>
     π.call 92 #[(.pointer (some (Addr.mk b 0 none))), (.int .i64 x77), (.bool true), (.int .i64 x72)] (false, [(false, [.slice])]) fun ((((a78 : Option Addr), (n79 : Nat), (c80 : Nat)), _), _) =>
     π.ret (.slice a78 n79 c80)
    )
   )
  )
 )
def ann_fed : Ann := { draws := [(3, { A := [0, 1, 2, 3, 4, 5, 6], chkL := [(7, [3])], eag := [8, 9, 10] }), (7, { A := [0, 1, 2, 3, 4, 5] }), (9, { A := [0, 1, 2, 3, 4, 5, 6, 7, 8, 9, 10, 11, 12, 13] }), (12, { A := [0, 1, 2, 3, 4, 5, 6, 7], quiet := [4], eag := [9] }), (20, { A := [0, 1, 2, 3, 4, 5, 6, 7, 8, 9, 10, 11, 12, 13] })], join := [(12, [(3, 1000000), (5, 3), (6, 97), (7, 3), (86, 4)]), (13, [(3, 1000000), (5, 3), (6, 97), (7, 3)]), (20, [(3, 1000000), (5, 3)])], loop := [(14, [(3, 1000000), (5, 3), (6, 97), (7, 3), (96, 97), (97, 3), (98, 3)])] }
def la_fed : LA := {}
theorem eq_fed {W : Type} (π : Prims W) (b : Nat) (mk mf mt mm mi mp mc : Int) (mg : Bool) (la : Option Addr) (ln lc : Nat) (ms : ByteArray) : bodyE π Tryz.prog la_fed ann_fed 149 Tryz.f95 (bodyOf Tryz.f95) [.v (.pointer (some ⟨b, 0, none⟩)), .v (.agg #[.int .i64 mk, .int .i64 mf, .int .i64 mt, .int .i64 mm, .int .i64 mi, .int .i64 mp, .int .i64 mc, .bool mg, .slice la ln lc, .string ms])] [] = vc_fed π b mk mf mt mm mi mp mc mg la ln lc ms := by kernel_rfl
theorem ok_fed (b : Nat) (mk mf mt mm mi mp mc : Int) (mg : Bool) (la : Option Addr) (ln lc : Nat) (ms : ByteArray) (R : RT) (s : PH) (h : vc_fed (RP Tryz.prog R) b mk mf mt mm mi mp mc mg la ln lc ms s) : DCalls Tryz.prog 95 (List.map AV.val [.v (.pointer (some ⟨b, 0, none⟩)), .v (.agg #[.int .i64 mk, .int .i64 mf, .int .i64 mt, .int .i64 mm, .int .i64 mi, .int .i64 mp, .int .i64 mc, .bool mg, .slice la ln lc, .string ms])]).toArray s R :=
 callsE (c := bodyOf Tryz.f95) la_fed mo Tryz.func95 rfl (by kernel_rfl) Tryz.ntmps95 rfl (by kernel_rfl) (eq_fed ..) h
def vc_heard {W : Type} (π : Prims W) (b : Nat) (mk mf mt mm mi mp mc : Int) (mg : Bool) (la : Option Addr) (ln lc : Nat) (ms : ByteArray) : W :=
 π.nw (Obj.cells #[(.int .i64 mk), (.int .i64 mf), (.int .i64 mt), (.int .i64 mm), (.int .i64 mi), (.int .i64 mp), (.int .i64 mc), (.bool mg), (.slice la ln lc), (.string ms)] (119 : Nat) (0, 0)) fun r0 =>
 π.unSome (some (Addr.mk b 0 none)) fun p1 =>
 π.ld [.int .i64] ((p1.add 2).add 2) fun ((x2 : Int), _) =>
 π.ite (x2 != 2) (
  π.ret (.slice none 0 0)
 ) (
  π.ld [.int .i64] ((Addr.mk r0 0 none).add 1) fun ((x3 : Int), _) =>
  π.ld [.bool] ((Addr.mk r0 0 none).add 7) fun ((b4 : Bool), _) =>
  π.ite (!b4) (
   π.unSome (some (Addr.mk b 0 none)) fun p5 =>
   π.ld [.slice] (p5.add 13) fun (((a6 : Option Addr), (n7 : Nat), (c8 : Nat)), _) =>
   π.unSome (some (Addr.mk b 0 none)) fun p9 =>
   π.ld [.slice] (p9.add 14) fun (((a10 : Option Addr), (n11 : Nat), (c12 : Nat)), _) =>
   π.guard (0 ≤ x3 ∧ x3 < (↑n11 : Int)) <|
   π.unSome (a10) fun p13 =>
   π.ld [.int .i64] (p13.add (x3.toNat * 1)) fun ((x14 : Int), _) =>
   π.unSome (some (Addr.mk b 0 none)) fun p15 =>
   π.ld [.slice] (p15.add 13) fun (((a16 : Option Addr), (n17 : Nat), (c18 : Nat)), _) =>
   π.guard (0 ≤ x3 ∧ x3 < (↑n17 : Int)) <|
   π.unSome (a16) fun p19 =>
   π.ld [.int .i64] (p19.add (x3.toNat * 1)) fun ((x20 : Int), _) =>
   π.ld [.int .i64] ((Addr.mk r0 0 none).add 4) fun ((x21 : Int), _) =>
   π.guard (0 ≤ x3 ∧ x3 < (↑n7 : Int)) <|
   π.unSome (a6) fun p22 =>
   π.st (p22.add (x3.toNat * 1)) [(.int .i64 (if (if i64.wrap (x21 + 1) < i64.wrap (x20 - 1) then i64.wrap (x21 + 1) else i64.wrap (x20 - 1)) > i64.wrap (x14 + 1) then if i64.wrap (x21 + 1) < i64.wrap (x20 - 1) then i64.wrap (x21 + 1) else i64.wrap (x20 - 1) else i64.wrap (x14 + 1)))] <|
   π.call 72 #[(.pointer (some (Addr.mk b 0 none))), (.int .i64 x3)] (false, [(true, [.int .i64, .int .i64, .int .i64, .int .i64, .int .i64, .int .i64, .int .i64, .bool, .slice, .str])]) fun (((x23 : Int), (x24 : Int), (x25 : Int), (x26 : Int), (x27 : Int), (x28 : Int), (x29 : Int), (b30 : Bool), ((a31 : Option Addr), (n32 : Nat), (c33 : Nat)), (t34 : ByteArray), _), _) =>
   π.nw (Obj.cells #[(.int .i64 x23), (.int .i64 x24), (.int .i64 x25), (.int .i64 x26), (.int .i64 x27), (.int .i64 x28), (.int .i64 x29), (.bool b30), (.slice a31 n32 c33), (.string t34)] (119 : Nat) (0, 0)) fun r35 =>
   π.ret (.slice (some (Addr.mk r35 0 none)) ((1 : Nat)) ((1 : Nat)))
  ) (
   π.unSome (some (Addr.mk b 0 none)) fun p36 =>
   π.ld [.slice] (p36.add 14) fun (((a37 : Option Addr), (n38 : Nat), (c39 : Nat)), _) =>
   π.guard (0 ≤ x3 ∧ x3 < (↑n38 : Int)) <|
   π.unSome (a37) fun p40 =>
   π.ld [.int .i64] (p40.add (x3.toNat * 1)) fun ((x41 : Int), _) =>
   π.unSome (some (Addr.mk b 0 none)) fun p42 =>
   π.ld [.slice] (p42.add 14) fun (((a43 : Option Addr), (n44 : Nat), (c45 : Nat)), _) =>
   π.ld [.int .i64] ((Addr.mk r0 0 none).add 4) fun ((x46 : Int), _) =>
   π.callQ 55 #[(.pointer (some (Addr.mk b 0 none)))] (false, [(false, [.int .i64])]) fun (((x47 : Int), _), _) =>
   π.guard (0 ≤ x3 ∧ x3 < (↑n44 : Int)) <|
   π.unSome (a43) fun p48 =>
   π.st (p48.add (x3.toNat * 1)) [(.int .i64 (if (if x47 < x46 then x47 else x46) > x41 then if x47 < x46 then x47 else x46 else x41))] <|
   π.unSome (some (Addr.mk b 0 none)) fun p49 =>
   π.ld [.slice] (p49.add 13) fun (((a50 : Option Addr), (n51 : Nat), (c52 : Nat)), _) =>
   π.unSome (some (Addr.mk b 0 none)) fun p53 =>
   π.ld [.slice] (p53.add 14) fun (((a54 : Option Addr), (n55 : Nat), (c56 : Nat)), _) =>
   π.guard (0 ≤ x3 ∧ x3 < (↑n55 : Int)) <|
   π.unSome (a54) fun p57 =>
   π.ld [.int .i64] (p57.add (x3.toNat * 1)) fun ((x58 : Int), _) =>
   π.guard (0 ≤ x3 ∧ x3 < (↑n51 : Int)) <|
   π.unSome (a50) fun p59 =>
   π.st (p59.add (x3.toNat * 1)) [(.int .i64 (i64.wrap (x58 + 1)))] <|
   π.call 74 #[(.pointer (some (Addr.mk b 0 none)))] (false, [(false, [.slice])]) fun ((((a60 : Option Addr), (n61 : Nat), (c62 : Nat)), _), _) =>
   π.unSome (some (Addr.mk b 0 none)) fun p63 =>
   π.ld [.slice] (p63.add 14) fun (((a64 : Option Addr), (n65 : Nat), (c66 : Nat)), _) =>
   π.guard (0 ≤ x3 ∧ x3 < (↑n65 : Int)) <|
   π.unSome (a64) fun p67 =>
   π.ld [.int .i64] (p67.add (x3.toNat * 1)) fun ((x68 : Int), _) =>
   π.ite (decide (x68 > x41)) (
    π.unSome (some (Addr.mk b 0 none)) fun p69 =>
    π.ld [.slice] (p69.add 13) fun (((a70 : Option Addr), (n71 : Nat), (c72 : Nat)), _) =>
    π.guard (0 ≤ x3 ∧ x3 < (↑n71 : Int)) <|
    π.unSome (a70) fun p73 =>
    π.ld [.int .i64] (p73.add (x3.toNat * 1)) fun ((x74 : Int), _) =>
    π.callQ 55 #[(.pointer (some (Addr.mk b 0 none)))] (false, [(false, [.int .i64])]) fun (((x75 : Int), _), _) =>
    π.ite (decide (x74 ≤ x75)) (
     π.call 72 #[(.pointer (some (Addr.mk b 0 none))), (.int .i64 x3)] (false, [(true, [.int .i64, .int .i64, .int .i64, .int .i64, .int .i64, .int .i64, .int .i64, .bool, .slice, .str])]) fun (((x76 : Int), (x77 : Int), (x78 : Int), (x79 : Int), (x80 : Int), (x81 : Int), (x82 : Int), (b83 : Bool), ((a84 : Option Addr), (n85 : Nat), (c86 : Nat)), (t87 : ByteArray), _), _) =>
     π.nw (Obj.cells #[(.int .i64 x76), (.int .i64 x77), (.int .i64 x78), (.int .i64 x79), (.int .i64 x80), (.int .i64 x81), (.int .i64 x82), (.bool b83), (.slice a84 n85 c86), (.string t87)] (119 : Nat) (0, 0)) fun r88 =>
     π.app (119 : Nat) (10 : Nat) (104 : Nat) [(.int .i64 0), (.int .i64 0), (.int .i64 0), (.int .i64 0), (.int .i64 0), (.int .i64 0), (.int .i64 0), (.bool false), (.slice none 0 0), (.string ⟨#[]⟩)] (a60) (n61) (c62) (Src.sl (some (Addr.mk r88 0 none)) (1 : Nat)) fun a89 n90 c91 =>
     π.ret (.slice a89 n90 c91)
    ) (
     π.ret (.slice a60 n61 c62)
    )
   ) (
    π.ret (.slice a60 n61 c62)
   )
  )
 )
def ann_heard : Ann := { draws := [(5, { A := [0, 1, 2, 3, 4, 5, 6, 7, 8, 9, 10, 11, 12, 13, 14, 15, 16, 17, 18, 19, 20, 21, 22, 23, 24, 25, 26] }), (8, { A := [0, 1, 2, 3, 4, 5, 6, 7, 8, 9, 10, 11, 12], quiet := [9] }), (9, { A := [0, 1, 2, 3, 4, 5, 6, 7, 8, 9, 10, 11, 12, 13] }), (11, { A := [0, 1, 2, 3, 4, 5, 6, 7, 8, 9, 10, 11, 12, 13, 14, 15, 16, 17, 18, 19, 20], quiet := [18] })],  }
def la_heard : LA := {}
theorem eq_heard {W : Type} (π : Prims W) (b : Nat) (mk mf mt mm mi mp mc : Int) (mg : Bool) (la : Option Addr) (ln lc : Nat) (ms : ByteArray) : bodyE π Tryz.prog la_heard ann_heard 114 Tryz.f96 (bodyOf Tryz.f96) [.v (.pointer (some ⟨b, 0, none⟩)), .v (.agg #[.int .i64 mk, .int .i64 mf, .int .i64 mt, .int .i64 mm, .int .i64 mi, .int .i64 mp, .int .i64 mc, .bool mg, .slice la ln lc, .string ms])] [] = vc_heard π b mk mf mt mm mi mp mc mg la ln lc ms := by kernel_rfl
theorem ok_heard (b : Nat) (mk mf mt mm mi mp mc : Int) (mg : Bool) (la : Option Addr) (ln lc : Nat) (ms : ByteArray) (R : RT) (s : PH) (h : vc_heard (RP Tryz.prog R) b mk mf mt mm mi mp mc mg la ln lc ms s) : DCalls Tryz.prog 96 (List.map AV.val [.v (.pointer (some ⟨b, 0, none⟩)), .v (.agg #[.int .i64 mk, .int .i64 mf, .int .i64 mt, .int .i64 mm, .int .i64 mi, .int .i64 mp, .int .i64 mc, .bool mg, .slice la ln lc, .string ms])]).toArray s R :=
 callsE (c := bodyOf Tryz.f96) la_heard mo Tryz.func96 rfl (by kernel_rfl) Tryz.ntmps96 rfl (by kernel_rfl) (eq_heard ..) h
def vc_given {W : Type} (π : Prims W) (b : Nat) (mk mf mt mm mi mp mc : Int) (mg : Bool) (la : Option Addr) (ln lc : Nat) (ms : ByteArray) : W :=
 π.nw (Obj.cells #[(.int .i64 mk), (.int .i64 mf), (.int .i64 mt), (.int .i64 mm), (.int .i64 mi), (.int .i64 mp), (.int .i64 mc), (.bool mg), (.slice la ln lc), (.string ms)] (119 : Nat) (0, 0)) fun r0 =>
 π.unSome (some (Addr.mk b 0 none)) fun p1 =>
 π.ld [.int .i64] ((p1.add 2).add 2) fun ((x2 : Int), _) =>
 π.ite (x2 == 2) (
  π.ret (.slice none 0 0)
 ) (
  π.ld [.int .i64] ((Addr.mk r0 0 none).add 1) fun ((x3 : Int), _) =>
  π.unSome (some (Addr.mk b 0 none)) fun p4 =>
  π.st ((p4.add 2).add 2) [(.int .i64 0)] <|
  π.still [.int .i64] ((Addr.mk r0 0 none).add 1) (x3, ()) <|
  π.unSome (some (Addr.mk b 0 none)) fun p5 =>
  π.st ((p5.add 2).add 3) [(.int .i64 x3)] <|
  π.ld [.int .i64] ((Addr.mk r0 0 none).add 4) fun ((x6 : Int), _) =>
  π.unSome (some (Addr.mk b 0 none)) fun p7 =>
  π.ld [.int .i64] ((p7.add 2).add 6) fun ((x8 : Int), _) =>
  π.ite (decide (x6 ≤ x8)) (
   π.ld [.int .i64] ((Addr.mk r0 0 none).add 1) fun ((x9 : Int), _) =>
   π.ld [.int .i64] ((Addr.mk r0 0 none).add 4) fun ((x10 : Int), _) =>
   π.call 92 #[(.pointer (some (Addr.mk b 0 none))), (.int .i64 x9), (.bool true), (.int .i64 x10)] (false, [(false, [.slice])]) fun ((((a11 : Option Addr), (n12 : Nat), (c13 : Nat)), _), _) =>
   π.ret (.slice a11 n12 c13)
  ) (
   π.join [(false, [.addr]), (false, [.slice])] (fun J14 =>
    π.ld [.int .i64] ((Addr.mk r0 0 none).add 4) fun ((x15 : Int), _) =>
    π.call 77 #[(.pointer (some (Addr.mk b 0 none))), (.int .i64 x15)] (true, [(false, [.int .i64]), (false, [.bool])]) fun (((x16 : Int), _), ((b17 : Bool), _), _) =>
    π.ite (b17) (
     π.ld [.int .i64] ((Addr.mk r0 0 none).add 5) fun ((x18 : Int), _) =>
     π.ite (x16 == x18) (
      π.unSome (some (Addr.mk b 0 none)) fun p19 =>
      π.ld [.slice] (p19.add 11) fun (((a20 : Option Addr), (n21 : Nat), (c22 : Nat)), _) =>
      π.ld [.int .i64] ((Addr.mk r0 0 none).add 4) fun ((x23 : Int), _) =>
      π.unSome (some (Addr.mk b 0 none)) fun p24 =>
      π.ld [.int .i64] ((p24.add 2).add 4) fun ((x25 : Int), _) =>
      π.guard (0 ≤ i64.wrap (x23 - x25) ∧ i64.wrap (x23 - x25) ≤ (↑n21 : Int) ∧ (↑n21 : Int) ≤ (↑c22 : Int)) <|
      π.call 79 #[(.slice (if c22 = (i64.wrap (x23 - x25)).toNat then a20 else Option.map (fun x => x.add ((i64.wrap (x23 - x25)).toNat * 4)) a20) ((↑n21 : Int).toNat - (i64.wrap (x23 - x25)).toNat) (c22 - (i64.wrap (x23 - x25)).toNat))] (false, [(false, [.slice])]) fun ((((a26 : Option Addr), (n27 : Nat), (c28 : Nat)), _), _) =>
      J14 ((Addr.mk r0 0 none, ()), ((a26, n27, c28), ()), ())
     ) (
      J14 ((Addr.mk r0 0 none, ()), ((none, (0 : Nat), (0 : Nat)), ()), ())
     )
    ) (
     J14 ((Addr.mk r0 0 none, ()), ((none, (0 : Nat), (0 : Nat)), ()), ())
    )
   ) (fun ((p29, _), (((a30 : Option Addr), (n31 : Nat), (c32 : Nat)), _), _) =>
    π.ld [.int .i64] (p29.add 4) fun ((x33 : Int), _) =>
    π.ld [.int .i64] (p29.add 5) fun ((x34 : Int), _) =>
    π.ld [.str] (p29.add 9) fun ((t35 : ByteArray), _) =>
    π.call 78 #[(.pointer (some (Addr.mk b 0 none))), (.int .i64 x33), (.int .i64 x34), (.string t35), (.slice a30 n31 c32)] (true, []) fun (_) =>
    π.ld [.int .i64] (p29.add 4) fun ((x36 : Int), _) =>
    π.unSome (some (Addr.mk b 0 none)) fun p37 =>
    π.st ((p37.add 2).add 6) [(.int .i64 x36)] <|
    π.ld [.int .i64] (p29.add 1) fun ((x38 : Int), _) =>
    π.ld [.int .i64] (p29.add 4) fun ((x39 : Int), _) =>
    π.call 92 #[(.pointer (some (Addr.mk b 0 none))), (.int .i64 x38), (.bool true), (.int .i64 x39)] (false, [(false, [.slice])]) fun ((((a40 : Option Addr), (n41 : Nat), (c42 : Nat)), _), _) =>
    π.ret (.slice a40 n41 c42)
   )
  )
 )
def ann_given : Ann := { draws := [(3, { A := [0, 1, 2, 3, 4, 5, 6], chkL := [(7, [3])], eag := [8, 9, 10] }), (4, { A := [0, 1, 2, 3, 4, 5, 6, 7] }), (9, { A := [0, 1, 2, 3, 4, 5, 6, 7, 8, 9, 10, 11, 12], eag := [14] })], join := [(10, [(3, 1000000), (5, 97)])],  }
def la_given : LA := {}
theorem eq_given {W : Type} (π : Prims W) (b : Nat) (mk mf mt mm mi mp mc : Int) (mg : Bool) (la : Option Addr) (ln lc : Nat) (ms : ByteArray) : bodyE π Tryz.prog la_given ann_given 87 Tryz.f97 (bodyOf Tryz.f97) [.v (.pointer (some ⟨b, 0, none⟩)), .v (.agg #[.int .i64 mk, .int .i64 mf, .int .i64 mt, .int .i64 mm, .int .i64 mi, .int .i64 mp, .int .i64 mc, .bool mg, .slice la ln lc, .string ms])] [] = vc_given π b mk mf mt mm mi mp mc mg la ln lc ms := by kernel_rfl
theorem ok_given (b : Nat) (mk mf mt mm mi mp mc : Int) (mg : Bool) (la : Option Addr) (ln lc : Nat) (ms : ByteArray) (R : RT) (s : PH) (h : vc_given (RP Tryz.prog R) b mk mf mt mm mi mp mc mg la ln lc ms s) : DCalls Tryz.prog 97 (List.map AV.val [.v (.pointer (some ⟨b, 0, none⟩)), .v (.agg #[.int .i64 mk, .int .i64 mf, .int .i64 mt, .int .i64 mm, .int .i64 mi, .int .i64 mp, .int .i64 mc, .bool mg, .slice la ln lc, .string ms])]).toArray s R :=
 callsE (c := bodyOf Tryz.f97) la_given mo Tryz.func97 rfl (by kernel_rfl) Tryz.ntmps97 rfl (by kernel_rfl) (eq_given ..) h
def vc_rebase {W : Type} (π : Prims W) (b : Nat) (i term : Int) (snap : ByteArray) (a : Option Addr) (an ac : Nat) : W :=
 π.unSome (some (Addr.mk b 0 none)) fun p0 =>
 π.st ((p0.add 2).add 4) [(.int .i64 i)] <|
 π.unSome (some (Addr.mk b 0 none)) fun p1 =>
 π.st (p1.add 9) [(.int .i64 term)] <|
 π.unSome (some (Addr.mk b 0 none)) fun p2 =>
 π.st (p2.add 10) [(.string snap)] <|
 π.unSome (some (Addr.mk b 0 none)) fun p3 =>
 π.st (p3.add 11) [(.slice a an ac)] <|
 π.unSome (some (Addr.mk b 0 none)) fun p4 =>
 π.st (p4.add 15) [(.bool true)] <|
 π.unSome (some (Addr.mk b 0 none)) fun p5 =>
 π.st (p5.add 16) [(.bool true)] <|
 π.ret (.tuple #[])
def ann_rebase : Ann := {}
def la_rebase : LA := {}
theorem eq_rebase {W : Type} (π : Prims W) (b : Nat) (i term : Int) (snap : ByteArray) (a : Option Addr) (an ac : Nat) : bodyE π Tryz.prog la_rebase ann_rebase 33 Tryz.f78 (bodyOf Tryz.f78) [.v (.pointer (some ⟨b, 0, none⟩)), .v (.int .i64 i), .v (.int .i64 term), .v (.string snap), .v (.slice a an ac)] [] = vc_rebase π b i term snap a an ac := by kernel_rfl
theorem ok_rebase (b : Nat) (i term : Int) (snap : ByteArray) (a : Option Addr) (an ac : Nat) (R : RT) (s : PH) (h : vc_rebase (RP Tryz.prog R) b i term snap a an ac s) : DCalls Tryz.prog 78 (List.map AV.val [.v (.pointer (some ⟨b, 0, none⟩)), .v (.int .i64 i), .v (.int .i64 term), .v (.string snap), .v (.slice a an ac)]).toArray s R :=
 callsE (c := bodyOf Tryz.f78) la_rebase mo Tryz.func78 rfl (by kernel_rfl) Tryz.ntmps78 rfl (by kernel_rfl) (eq_rebase ..) h
def vc_Take {W : Type} (π : Prims W) (b : Nat) (mk mf mt mm mi mp mc : Int) (mg : Bool) (la : Option Addr) (ln lc : Nat) (ms : ByteArray) : W :=
 π.nw (Obj.cells #[(.int .i64 mk), (.int .i64 mf), (.int .i64 mt), (.int .i64 mm), (.int .i64 mi), (.int .i64 mp), (.int .i64 mc), (.bool mg), (.slice la ln lc), (.string ms)] (119 : Nat) (0, 0)) fun r0 =>
 π.join [(false, [.addr])] (fun J1 =>
  π.ite ((some (Addr.mk b 0 none)).isNone) (
   π.ret (.slice none 0 0)
  ) (
   π.ld [.int .i64, .int .i64, .int .i64, .int .i64, .int .i64, .int .i64, .int .i64, .bool, .slice, .str] (Addr.mk r0 0 none) fun ((x2 : Int), (x3 : Int), (x4 : Int), (x5 : Int), (x6 : Int), (x7 : Int), (x8 : Int), (b9 : Bool), ((a10 : Option Addr), (n11 : Nat), (c12 : Nat)), (t13 : ByteArray), _) =>
   π.call 90 #[(.pointer (some (Addr.mk b 0 none))), (.agg #[(.int .i64 x2), (.int .i64 x3), (.int .i64 x4), (.int .i64 x5), (.int .i64 x6), (.int .i64 x7), (.int .i64 x8), (.bool b9), (.slice a10 n11 c12), (.string t13)])] (false, [(false, [.bool])]) fun (((b14 : Bool), _), _) =>
   π.ite (b14) (
    π.ret (.slice none 0 0)
   ) (
    J1 ((Addr.mk r0 0 none, ()), ())
   )
  )
 ) (fun ((p15, _), _) =>
  π.join [(false, [.addr])] (fun J16 =>
   π.ld [.int .i64] (p15.add 3) fun ((x17 : Int), _) =>
   π.unSome (some (Addr.mk b 0 none)) fun p18 =>
   π.ld [.int .i64] ((p18.add 2).add 0) fun ((x19 : Int), _) =>
   π.ite (decide (x17 > x19)) (
    π.ld [.int .i64] (p15.add 3) fun ((x20 : Int), _) =>
    π.call 68 #[(.pointer (some (Addr.mk b 0 none))), (.int .i64 x20), (.int .i64 (-1)), (.int .i64 0)] (true, []) fun (_) =>
    J16 ((p15, ()), ())
   ) (
    J16 ((p15, ()), ())
   )
  ) (fun ((p21, _), _) =>
   π.ld [.int .i64] (p21.add 3) fun ((x22 : Int), _) =>
   π.unSome (some (Addr.mk b 0 none)) fun p23 =>
   π.ld [.int .i64] ((p23.add 2).add 0) fun ((x24 : Int), _) =>
   π.ite (decide (x22 < x24)) (
    π.ld [.int .i64] (p21.add 0) fun ((x25 : Int), _) =>
    π.ite (x25 == 1) (
     π.ld [.int .i64] (p21.add 1) fun ((x26 : Int), _) =>
     π.call 91 #[(.pointer (some (Addr.mk b 0 none))), (.int .i64 2), (.int .i64 x26)] (false, [(true, [.int .i64, .int .i64, .int .i64, .int .i64, .int .i64, .int .i64, .int .i64, .bool, .slice, .str])]) fun (((x27 : Int), (x28 : Int), (x29 : Int), (x30 : Int), (x31 : Int), (x32 : Int), (x33 : Int), (b34 : Bool), ((a35 : Option Addr), (n36 : Nat), (c37 : Nat)), (t38 : ByteArray), _), _) =>
     π.nw (Obj.cells #[(.int .i64 x27), (.int .i64 x28), (.int .i64 x29), (.int .i64 x30), (.int .i64 x31), (.int .i64 x32), (.int .i64 x33), (.bool b34), (.slice a35 n36 c37), (.string t38)] (119 : Nat) (0, 0)) fun r39 =>
     π.ret (.slice (some (Addr.mk r39 0 none)) ((1 : Nat)) ((1 : Nat)))
    ) (
     π.join [(false, [.addr]), (false, [.bool])] (fun J40 =>
      π.ite (x25 == 3) (
       J40 ((p21, ()), (true, ()), ())
      ) (
       J40 ((p21, ()), (x25 == 5, ()), ())
      )
     ) (fun ((p41, _), ((b42 : Bool), _), _) =>
      π.ite (b42) (
       π.ld [.int .i64] (p41.add 1) fun ((x43 : Int), _) =>
       π.callQ 55 #[(.pointer (some (Addr.mk b 0 none)))] (false, [(false, [.int .i64])]) fun (((x44 : Int), _), _) =>
       π.call 92 #[(.pointer (some (Addr.mk b 0 none))), (.int .i64 x43), (.bool false), (.int .i64 x44)] (false, [(false, [.slice])]) fun ((((a45 : Option Addr), (n46 : Nat), (c47 : Nat)), _), _) =>
       π.ret (.slice a45 n46 c47)
      ) (
       π.ret (.slice none 0 0)
      )
     )
    )
   ) (
    π.nw (Obj.cells #[(Value.nilFunc ), (Value.nilFunc ), (Value.nilFunc ), (Value.nilFunc ), (Value.nilFunc )] (160 : Nat) (0, 0)) fun r48 =>
    π.st (Addr.mk r48 0 none) [(.func (Fn.func (93 : Nat)) #[] #[]), (.func (Fn.func (94 : Nat)) #[] #[]), (.func (Fn.func (95 : Nat)) #[] #[]), (.func (Fn.func (96 : Nat)) #[] #[]), (.func (Fn.func (97 : Nat)) #[] #[])] <|
    π.ld [.int .i64] (p21.add 0) fun ((x49 : Int), _) =>
    π.guard (0 ≤ i64.wrap (x49 - 1) ∧ i64.wrap (x49 - 1) < 5) <|
    π.ld [.raw] ((Addr.mk r48 0 none).add ((i64.wrap (x49 - 1)).toNat * 1)) fun ((v50 : Value), _) =>
    π.ld [.int .i64, .int .i64, .int .i64, .int .i64, .int .i64, .int .i64, .int .i64, .bool, .slice, .str] (p21) fun ((x51 : Int), (x52 : Int), (x53 : Int), (x54 : Int), (x55 : Int), (x56 : Int), (x57 : Int), (b58 : Bool), ((a59 : Option Addr), (n60 : Nat), (c61 : Nat)), (t62 : ByteArray), _) =>
    π.callV v50 #[(.pointer (some (Addr.mk b 0 none))), (.agg #[(.int .i64 x51), (.int .i64 x52), (.int .i64 x53), (.int .i64 x54), (.int .i64 x55), (.int .i64 x56), (.int .i64 x57), (.bool b58), (.slice a59 n60 c61), (.string t62)])] (false, [(false, [.slice])]) fun ((((a63 : Option Addr), (n64 : Nat), (c65 : Nat)), _), _) =>
    π.ret (.slice a63 n64 c65)
   )
  )
 )
def ann_Take : Ann := { draws := [(3, { A := [0, 1, 2, 3, 4, 5, 6, 7] }), (5, { A := [0, 1, 2, 3, 4, 5, 6, 7] }), (11, { A := [0, 1, 2, 3, 4], quiet := [4], eag := [6] }), (14, { A := [0, 1, 2, 3, 4, 5, 6], eag := [8] })], join := [(3, [(3, 1000000)]), (5, [(3, 1000000)]), (11, [(3, 1000000), (42, 4)])],  }
def la_Take : LA := {}
theorem eq_Take {W : Type} (π : Prims W) (b : Nat) (mk mf mt mm mi mp mc : Int) (mg : Bool) (la : Option Addr) (ln lc : Nat) (ms : ByteArray) : bodyE π Tryz.prog la_Take ann_Take 60 Tryz.f61 (bodyOf Tryz.f61) [.v (.pointer (some ⟨b, 0, none⟩)), .v (.agg #[.int .i64 mk, .int .i64 mf, .int .i64 mt, .int .i64 mm, .int .i64 mi, .int .i64 mp, .int .i64 mc, .bool mg, .slice la ln lc, .string ms])] [] = vc_Take π b mk mf mt mm mi mp mc mg la ln lc ms := by kernel_rfl
theorem ok_Take (b : Nat) (mk mf mt mm mi mp mc : Int) (mg : Bool) (la : Option Addr) (ln lc : Nat) (ms : ByteArray) (R : RT) (s : PH) (h : vc_Take (RP Tryz.prog R) b mk mf mt mm mi mp mc mg la ln lc ms s) : DCalls Tryz.prog 61 (List.map AV.val [.v (.pointer (some ⟨b, 0, none⟩)), .v (.agg #[.int .i64 mk, .int .i64 mf, .int .i64 mt, .int .i64 mm, .int .i64 mi, .int .i64 mp, .int .i64 mc, .bool mg, .slice la ln lc, .string ms])]).toArray s R :=
 callsE (c := bodyOf Tryz.f61) la_Take mo Tryz.func61 rfl (by kernel_rfl) Tryz.ntmps61 rfl (by kernel_rfl) (eq_Take ..) h
def vc_Cut {W : Type} (π : Prims W) (b : Nat) (i : Int) (snap : ByteArray) : W :=
 π.join [] (fun J0 =>
  π.ite ((some (Addr.mk b 0 none)).isNone) (
   π.ret (.bool false)
  ) (
   π.unSome (some (Addr.mk b 0 none)) fun p1 =>
   π.ld [.int .i64] ((p1.add 2).add 4) fun ((x2 : Int), _) =>
   π.ite (decide (i ≤ x2)) (
    π.ret (.bool false)
   ) (
    π.unSome (some (Addr.mk b 0 none)) fun p3 =>
    π.ld [.int .i64] ((p3.add 2).add 6) fun ((x4 : Int), _) =>
    π.ite (decide (i > x4)) (
     π.ret (.bool false)
    ) (
     J0 (())
    )
   )
  )
 ) (fun (_) =>
  π.call 77 #[(.pointer (some (Addr.mk b 0 none))), (.int .i64 i)] (true, [(false, [.int .i64]), (false, [.bool])]) fun (((x5 : Int), _), ((b6 : Bool), _), _) =>
  π.unSome (some (Addr.mk b 0 none)) fun p7 =>
  π.ld [.slice] (p7.add 11) fun (((a8 : Option Addr), (n9 : Nat), (c10 : Nat)), _) =>
  π.unSome (some (Addr.mk b 0 none)) fun p11 =>
  π.ld [.int .i64] ((p11.add 2).add 4) fun ((x12 : Int), _) =>
  π.guard (0 ≤ i64.wrap (i - x12) ∧ i64.wrap (i - x12) ≤ (↑n9 : Int) ∧ (↑n9 : Int) ≤ (↑c10 : Int)) <|
  π.call 79 #[(.slice (if c10 = (i64.wrap (i - x12)).toNat then a8 else Option.map (fun x => x.add ((i64.wrap (i - x12)).toNat * 4)) a8) ((↑n9 : Int).toNat - (i64.wrap (i - x12)).toNat) (c10 - (i64.wrap (i - x12)).toNat))] (false, [(false, [.slice])]) fun ((((a13 : Option Addr), (n14 : Nat), (c15 : Nat)), _), _) =>
  π.call 78 #[(.pointer (some (Addr.mk b 0 none))), (.int .i64 i), (.int .i64 x5), (.string snap), (.slice a13 n14 c15)] (true, []) fun (_) =>
  π.ret (.bool true)
 )
def ann_Cut : Ann := { draws := [(4, { A := [0, 1, 2, 3, 4, 5, 6, 7, 8, 9, 10, 11, 12, 13, 14, 15] })], join := [(3, [])],  }
def la_Cut : LA := {}
theorem eq_Cut {W : Type} (π : Prims W) (b : Nat) (i : Int) (snap : ByteArray) : bodyE π Tryz.prog la_Cut ann_Cut 53 Tryz.f52 (bodyOf Tryz.f52) [.v (.pointer (some ⟨b, 0, none⟩)), .v (.int .i64 i), .v (.string snap)] [] = vc_Cut π b i snap := by kernel_rfl
theorem ok_Cut (b : Nat) (i : Int) (snap : ByteArray) (R : RT) (s : PH) (h : vc_Cut (RP Tryz.prog R) b i snap s) : DCalls Tryz.prog 52 (List.map AV.val [.v (.pointer (some ⟨b, 0, none⟩)), .v (.int .i64 i), .v (.string snap)]).toArray s R :=
 callsE (c := bodyOf Tryz.f52) la_Cut mo Tryz.func52 rfl (by kernel_rfl) Tryz.ntmps52 rfl (by kernel_rfl) (eq_Cut ..) h
def vc_Delta {W : Type} (π : Prims W) (b : Nat) : W :=
 π.nw (Obj.cells #[(.int .i64 0), (.int .i64 0), (.bool false), (.int .i64 0), (.int .i64 0), (.string ⟨#[]⟩), (.int .i64 0), (.slice none 0 0)] (113 : Nat) (0, 0)) fun r0 =>
 π.join [(false, [.addr])] (fun J1 =>
  π.ite ((some (Addr.mk b 0 none)).isNone) (
   π.st (Addr.mk r0 0 none) [(.int .i64 0), (.int .i64 0), (.bool false), (.int .i64 0), (.int .i64 0), (.string ⟨#[]⟩), (.int .i64 0), (.slice none 0 0)] <|
   π.ld [.int .i64, .int .i64, .bool, .int .i64, .int .i64, .str, .int .i64, .slice] (Addr.mk r0 0 none) fun ((x2 : Int), (x3 : Int), (b4 : Bool), (x5 : Int), (x6 : Int), (t7 : ByteArray), (x8 : Int), ((a9 : Option Addr), (n10 : Nat), (c11 : Nat)), _) =>
   π.ret (.tuple #[(.agg #[(.int .i64 x2), (.int .i64 x3), (.bool b4), (.int .i64 x5), (.int .i64 x6), (.string t7), (.int .i64 x8), (.slice a9 n10 c11)]), (.bool false)])
  ) (
   π.unSome (some (Addr.mk b 0 none)) fun p12 =>
   π.ld [.bool] (p12.add 15) fun ((b13 : Bool), _) =>
   π.ite (!b13) (
    π.st (Addr.mk r0 0 none) [(.int .i64 0), (.int .i64 0), (.bool false), (.int .i64 0), (.int .i64 0), (.string ⟨#[]⟩), (.int .i64 0), (.slice none 0 0)] <|
    π.ld [.int .i64, .int .i64, .bool, .int .i64, .int .i64, .str, .int .i64, .slice] (Addr.mk r0 0 none) fun ((x14 : Int), (x15 : Int), (b16 : Bool), (x17 : Int), (x18 : Int), (t19 : ByteArray), (x20 : Int), ((a21 : Option Addr), (n22 : Nat), (c23 : Nat)), _) =>
    π.ret (.tuple #[(.agg #[(.int .i64 x14), (.int .i64 x15), (.bool b16), (.int .i64 x17), (.int .i64 x18), (.string t19), (.int .i64 x20), (.slice a21 n22 c23)]), (.bool false)])
   ) (
    J1 ((Addr.mk r0 0 none, ()), ())
   )
  )
 ) (fun ((p24, _), _) =>
  π.unSome (some (Addr.mk b 0 none)) fun p25 =>
  π.ld [.int .i64] ((p25.add 2).add 0) fun ((x26 : Int), _) =>
  π.unSome (some (Addr.mk b 0 none)) fun p27 =>
  π.ld [.int .i64] ((p27.add 2).add 1) fun ((x28 : Int), _) =>
  π.unSome (some (Addr.mk b 0 none)) fun p29 =>
  π.ld [.int .i64] (p29.add 17) fun ((x30 : Int), _) =>
  π.nw (Obj.cells #[(.int .i64 0), (.int .i64 0), (.bool false), (.int .i64 0), (.int .i64 0), (.string ⟨#[]⟩), (.int .i64 0), (.slice none 0 0)] (113 : Nat) (0, 0)) fun r31 =>
  π.st (Addr.mk r31 0 none) [(.int .i64 x26), (.int .i64 x28), (.bool false), (.int .i64 0), (.int .i64 0), (.string ⟨#[]⟩), (.int .i64 x30), (.slice none 0 0)] <|
  π.join [(false, [.addr]), (false, [.addr])] (fun J32 =>
   π.unSome (some (Addr.mk b 0 none)) fun p33 =>
   π.ld [.bool] (p33.add 16) fun ((b34 : Bool), _) =>
   π.ite (b34) (
    π.unSome (some (Addr.mk b 0 none)) fun p35 =>
    π.ld [.int .i64] ((p35.add 2).add 4) fun ((x36 : Int), _) =>
    π.unSome (some (Addr.mk b 0 none)) fun p37 =>
    π.ld [.int .i64] (p37.add 9) fun ((x38 : Int), _) =>
    π.unSome (some (Addr.mk b 0 none)) fun p39 =>
    π.ld [.str] (p39.add 10) fun ((t40 : ByteArray), _) =>
    π.unSome (some (Addr.mk b 0 none)) fun p41 =>
    π.ld [.int .i64] ((p41.add 2).add 4) fun ((x42 : Int), _) =>
    π.st ((Addr.mk r31 0 none).add 2) [(.bool true)] <|
    π.still [.int .i64] ((p35.add 2).add 4) (x36, ()) <|
    π.still [.int .i64] (p37.add 9) (x38, ()) <|
    π.still [.str] (p39.add 10) (t40, ()) <|
    π.still [.int .i64] ((p41.add 2).add 4) (x42, ()) <|
    π.st ((Addr.mk r31 0 none).add 3) [(.int .i64 x36)] <|
    π.still [.int .i64] (p37.add 9) (x38, ()) <|
    π.still [.str] (p39.add 10) (t40, ()) <|
    π.still [.int .i64] ((p41.add 2).add 4) (x42, ()) <|
    π.st ((Addr.mk r31 0 none).add 4) [(.int .i64 x38)] <|
    π.still [.str] (p39.add 10) (t40, ()) <|
    π.still [.int .i64] ((p41.add 2).add 4) (x42, ()) <|
    π.st ((Addr.mk r31 0 none).add 5) [(.string t40)] <|
    π.still [.int .i64] ((p41.add 2).add 4) (x42, ()) <|
    π.st ((Addr.mk r31 0 none).add 6) [(.int .i64 (i64.wrap (x42 + 1)))] <|
    J32 ((p24, ()), (Addr.mk r31 0 none, ()), ())
   ) (
    J32 ((p24, ()), (Addr.mk r31 0 none, ()), ())
   )
  ) (fun ((p43, _), (p44, _), _) =>
   π.unSome (some (Addr.mk b 0 none)) fun p45 =>
   π.ld [.slice] (p45.add 11) fun (((a46 : Option Addr), (n47 : Nat), (c48 : Nat)), _) =>
   π.ld [.int .i64] (p44.add 6) fun ((x49 : Int), _) =>
   π.unSome (some (Addr.mk b 0 none)) fun p50 =>
   π.ld [.int .i64] ((p50.add 2).add 4) fun ((x51 : Int), _) =>
   π.guard (0 ≤ i64.wrap (i64.wrap (x49 - x51) - 1) ∧ i64.wrap (i64.wrap (x49 - x51) - 1) ≤ (↑n47 : Int) ∧ (↑n47 : Int) ≤ (↑c48 : Int)) <|
   π.call 79 #[(.slice (if c48 = (i64.wrap (i64.wrap (x49 - x51) - 1)).toNat then a46 else Option.map (fun x => x.add ((i64.wrap (i64.wrap (x49 - x51) - 1)).toNat * 4)) a46) ((↑n47 : Int).toNat - (i64.wrap (i64.wrap (x49 - x51) - 1)).toNat) (c48 - (i64.wrap (i64.wrap (x49 - x51) - 1)).toNat))] (false, [(false, [.slice])]) fun ((((a52 : Option Addr), (n53 : Nat), (c54 : Nat)), _), _) =>
   π.st (p44.add 7) [(.slice a52 n53 c54)] <|
   π.call 87 #[(.pointer (some (Addr.mk b 0 none)))] (true, []) fun (_) =>
   π.ld [.int .i64, .int .i64, .bool, .int .i64, .int .i64, .str, .int .i64, .slice] (p44) fun ((x55 : Int), (x56 : Int), (b57 : Bool), (x58 : Int), (x59 : Int), (t60 : ByteArray), (x61 : Int), ((a62 : Option Addr), (n63 : Nat), (c64 : Nat)), _) =>
   π.st (p43) [(.int .i64 x55), (.int .i64 x56), (.bool b57), (.int .i64 x58), (.int .i64 x59), (.string t60), (.int .i64 x61), (.slice a62 n63 c64)] <|
   π.ld [.int .i64, .int .i64, .bool, .int .i64, .int .i64, .str, .int .i64, .slice] (p43) fun ((x65 : Int), (x66 : Int), (b67 : Bool), (x68 : Int), (x69 : Int), (t70 : ByteArray), (x71 : Int), ((a72 : Option Addr), (n73 : Nat), (c74 : Nat)), _) =>
   π.ret (.tuple #[(.agg #[(.int .i64 x65), (.int .i64 x66), (.bool b67), (.int .i64 x68), (.int .i64 x69), (.string t70), (.int .i64 x71), (.slice a72 n73 c74)]), (.bool true)])
  )
 )
def ann_Delta : Ann := { draws := [(3, { A := [0, 1, 2, 3, 4, 5, 6, 7, 8, 9, 10, 11, 12, 13, 14] }), (5, { A := [0, 1, 2, 3, 4, 5, 6, 7, 8, 9, 10, 11, 12, 13, 14, 15, 16, 17, 18, 19], chkL := [(20, [4, 8, 12, 17]), (22, [8, 12, 17]), (24, [12, 17]), (26, [17])], eag := [21, 23, 25, 27] }), (6, { A := [0, 1, 2, 3, 4, 5, 6, 7, 8, 9, 10, 11, 12, 13], eag := [15] })], join := [(3, [(2, 1000000)]), (6, [(2, 1000000), (4, 1000000)])],  }
def la_Delta : LA := {}
theorem eq_Delta {W : Type} (π : Prims W) (b : Nat) : bodyE π Tryz.prog la_Delta ann_Delta 77 Tryz.f62 (bodyOf Tryz.f62) [.v (.pointer (some ⟨b, 0, none⟩))] [] = vc_Delta π b := by kernel_rfl
theorem ok_Delta (b : Nat) (R : RT) (s : PH) (h : vc_Delta (RP Tryz.prog R) b s) : DCalls Tryz.prog 62 (List.map AV.val [.v (.pointer (some ⟨b, 0, none⟩))]).toArray s R :=
 callsE (c := bodyOf Tryz.f62) la_Delta mo Tryz.func62 rfl (by kernel_rfl) Tryz.ntmps62 rfl (by kernel_rfl) (eq_Delta ..) h
def vc_Stand {W : Type} (π : Prims W) (b : Nat) : W :=
 π.nw (Obj.cells #[(.int .i64 0), (.int .i64 0), (.int .i64 0), (.int .i64 0), (.int .i64 0), (.int .i64 0), (.int .i64 0)] (37 : Nat) (0, 0)) fun r0 =>
 π.ite ((some (Addr.mk b 0 none)).isNone) (
  π.st (Addr.mk r0 0 none) [(.int .i64 0), (.int .i64 0), (.int .i64 0), (.int .i64 0), (.int .i64 0), (.int .i64 0), (.int .i64 0)] <|
  π.ld [.int .i64, .int .i64, .int .i64, .int .i64, .int .i64, .int .i64, .int .i64] (Addr.mk r0 0 none) fun ((x1 : Int), (x2 : Int), (x3 : Int), (x4 : Int), (x5 : Int), (x6 : Int), (x7 : Int), _) =>
  π.ret (.agg #[(.int .i64 x1), (.int .i64 x2), (.int .i64 x3), (.int .i64 x4), (.int .i64 x5), (.int .i64 x6), (.int .i64 x7)])
 ) (
  π.unSome (some (Addr.mk b 0 none)) fun p8 =>
  π.ld [.int .i64, .int .i64, .int .i64, .int .i64, .int .i64, .int .i64, .int .i64] (p8.add 2) fun ((x9 : Int), (x10 : Int), (x11 : Int), (x12 : Int), (x13 : Int), (x14 : Int), (x15 : Int), _) =>
  π.nw (Obj.cells #[(.int .i64 0), (.int .i64 0), (.int .i64 0), (.int .i64 0), (.int .i64 0), (.int .i64 0), (.int .i64 0)] (37 : Nat) (0, 0)) fun r16 =>
  π.st (Addr.mk r16 0 none) [(.int .i64 x9), (.int .i64 x10), (.int .i64 x11), (.int .i64 x12), (.int .i64 x13), (.int .i64 x14), (.int .i64 x15)] <|
  π.call 55 #[(.pointer (some (Addr.mk b 0 none)))] (false, [(false, [.int .i64])]) fun (((x17 : Int), _), _) =>
  π.st ((Addr.mk r16 0 none).add 5) [(.int .i64 x17)] <|
  π.ld [.int .i64, .int .i64, .int .i64, .int .i64, .int .i64, .int .i64, .int .i64] (Addr.mk r16 0 none) fun ((x18 : Int), (x19 : Int), (x20 : Int), (x21 : Int), (x22 : Int), (x23 : Int), (x24 : Int), _) =>
  π.st (Addr.mk r0 0 none) [(.int .i64 x18), (.int .i64 x19), (.int .i64 x20), (.int .i64 x21), (.int .i64 x22), (.int .i64 x23), (.int .i64 x24)] <|
  π.ld [.int .i64, .int .i64, .int .i64, .int .i64, .int .i64, .int .i64, .int .i64] (Addr.mk r0 0 none) fun ((x25 : Int), (x26 : Int), (x27 : Int), (x28 : Int), (x29 : Int), (x30 : Int), (x31 : Int), _) =>
  π.ret (.agg #[(.int .i64 x25), (.int .i64 x26), (.int .i64 x27), (.int .i64 x28), (.int .i64 x29), (.int .i64 x30), (.int .i64 x31)])
 )
def ann_Stand : Ann := {}
def la_Stand : LA := {}
theorem eq_Stand {W : Type} (π : Prims W) (b : Nat) : bodyE π Tryz.prog la_Stand ann_Stand 15 Tryz.f34 (bodyOf Tryz.f34) [.v (.pointer (some ⟨b, 0, none⟩))] [] = vc_Stand π b := by kernel_rfl
theorem ok_Stand (b : Nat) (R : RT) (s : PH) (h : vc_Stand (RP Tryz.prog R) b s) : DCalls Tryz.prog 34 (List.map AV.val [.v (.pointer (some ⟨b, 0, none⟩))]).toArray s R :=
 callsE (c := bodyOf Tryz.f34) la_Stand mo Tryz.func34 rfl (by kernel_rfl) Tryz.ntmps34 rfl (by kernel_rfl) (eq_Stand ..) h
def vc_Snap {W : Type} (π : Prims W) (b : Nat) : W :=
 π.ite ((some (Addr.mk b 0 none)).isNone) (
  π.ret (.string ⟨#[]⟩)
 ) (
  π.unSome (some (Addr.mk b 0 none)) fun p0 =>
  π.ld [.str] (p0.add 10) fun ((t1 : ByteArray), _) =>
  π.ret (.string t1)
 )
def ann_Snap : Ann := {}
def la_Snap : LA := {}
theorem eq_Snap {W : Type} (π : Prims W) (b : Nat) : bodyE π Tryz.prog la_Snap ann_Snap 9 Tryz.f54 (bodyOf Tryz.f54) [.v (.pointer (some ⟨b, 0, none⟩))] [] = vc_Snap π b := by kernel_rfl
theorem ok_Snap (b : Nat) (R : RT) (s : PH) (h : vc_Snap (RP Tryz.prog R) b s) : DCalls Tryz.prog 54 (List.map AV.val [.v (.pointer (some ⟨b, 0, none⟩))]).toArray s R :=
 callsE (c := bodyOf Tryz.f54) la_Snap mo Tryz.func54 rfl (by kernel_rfl) Tryz.ntmps54 rfl (by kernel_rfl) (eq_Snap ..) h
def vc_Mul64 {W : Type} (π : Prims W) (x y : Int) : W :=
 π.ret (.tuple #[(.int .u64 (u64.wrap (u64.wrap (u64.wrap (x.fdiv (4294967296 : Int) * y.fdiv (4294967296 : Int)) + (u64.wrap (u64.wrap (x.fdiv (4294967296 : Int) * u64.wrap (↑(BitVec.ofInt (64 : Nat) y &&& BitVec.ofInt (64 : Nat) (4294967295 : Int)).toNat : Int)) + (u64.wrap (u64.wrap (↑(BitVec.ofInt (64 : Nat) x &&& BitVec.ofInt (64 : Nat) (4294967295 : Int)).toNat : Int) * u64.wrap (↑(BitVec.ofInt (64 : Nat) y &&& BitVec.ofInt (64 : Nat) (4294967295 : Int)).toNat : Int))).fdiv (4294967296 : Int))).fdiv (4294967296 : Int)) + (u64.wrap (u64.wrap (↑(BitVec.ofInt (64 : Nat) (u64.wrap (u64.wrap (x.fdiv (4294967296 : Int) * u64.wrap (↑(BitVec.ofInt (64 : Nat) y &&& BitVec.ofInt (64 : Nat) (4294967295 : Int)).toNat : Int)) + (u64.wrap (u64.wrap (↑(BitVec.ofInt (64 : Nat) x &&& BitVec.ofInt (64 : Nat) (4294967295 : Int)).toNat : Int) * u64.wrap (↑(BitVec.ofInt (64 : Nat) y &&& BitVec.ofInt (64 : Nat) (4294967295 : Int)).toNat : Int))).fdiv (4294967296 : Int))) &&& BitVec.ofInt (64 : Nat) (4294967295 : Int)).toNat : Int) + u64.wrap (u64.wrap (↑(BitVec.ofInt (64 : Nat) x &&& BitVec.ofInt (64 : Nat) (4294967295 : Int)).toNat : Int) * y.fdiv (4294967296 : Int)))).fdiv (4294967296 : Int)))), (.int .u64 (u64.wrap (x * y)))])
def ann_Mul64 : Ann := {}
def la_Mul64 : LA := {}
theorem eq_Mul64 {W : Type} (π : Prims W) (x y : Int) : bodyE π Tryz.prog la_Mul64 ann_Mul64 51 Tryz.f119 (bodyOf Tryz.f119) [.v (.int .u64 x), .v (.int .u64 y)] [] = vc_Mul64 π x y := by kernel_rfl
theorem ok_Mul64 (x y : Int) (R : RT) (s : PH) (h : vc_Mul64 (RP Tryz.prog R) x y s) : DCalls Tryz.prog 119 (List.map AV.val [.v (.int .u64 x), .v (.int .u64 y)]).toArray s R :=
 callsE (c := bodyOf Tryz.f119) la_Mul64 mo Tryz.func119 rfl (by kernel_rfl) Tryz.ntmps119 rfl (by kernel_rfl) (eq_Mul64 ..) h
def vc_Mul {W : Type} (π : Prims W) (x y : Int) : W :=
 π.call 119 #[(.int .u64 x), (.int .u64 y)] (true, [(false, [.int .u64]), (false, [.int .u64])]) fun (((x0 : Int), _), ((x1 : Int), _), _) =>
 π.ret (.tuple #[(.int .u64 x0), (.int .u64 x1)])
def ann_Mul : Ann := {}
def la_Mul : LA := {}
theorem eq_Mul {W : Type} (π : Prims W) (x y : Int) : bodyE π Tryz.prog la_Mul ann_Mul 30 Tryz.f113 (bodyOf Tryz.f113) [.v (.int .u64 x), .v (.int .u64 y)] [] = vc_Mul π x y := by kernel_rfl
theorem ok_Mul (x y : Int) (R : RT) (s : PH) (h : vc_Mul (RP Tryz.prog R) x y s) : DCalls Tryz.prog 113 (List.map AV.val [.v (.int .u64 x), .v (.int .u64 y)]).toArray s R :=
 callsE (c := bodyOf Tryz.f113) la_Mul mo Tryz.func113 rfl (by kernel_rfl) Tryz.ntmps113 rfl (by kernel_rfl) (eq_Mul ..) h
def vc_Repeat {W : Type} (π : Prims W) (a : Option Addr) (an ac : Nat) (c : Int) : W :=
 π.join [] (fun J0 =>
  π.ite (decide (c < 0)) (
   π.fail
  ) (
   J0 (())
  )
 ) (fun (_) =>
  π.call 113 #[(.int .u64 (u64.wrap (↑an : Int))), (.int .u64 (u64.wrap c))] (true, [(false, [.int .u64]), (false, [.int .u64])]) fun (((x1 : Int), _), ((x2 : Int), _), _) =>
  π.join [(false, [.int .u64])] (fun J3 =>
   π.ite (decide (x1 > 0)) (
    π.fail
   ) (
    π.ite (decide (x2 > 9223372036854775807)) (
     π.fail
    ) (
     J3 ((x2, ()), ())
    )
   )
  ) (fun (((x4 : Int), _), _) =>
   π.mksl (3 : Nat) (1 : Nat) (8 : Nat) [(.int .i64 0)] (i64.wrap x4) (i64.wrap x4) fun r5 =>
   π.cpy (1 : Nat) (some (Addr.mk r5 0 none)) ((i64.wrap x4).toNat) (a) (an) fun n6 =>
   π.loop [(false, [.slice]), (false, [.int .i64])] (((some (Addr.mk r5 0 none), (i64.wrap x4).toNat, (i64.wrap x4).toNat), ()), ((↑n6 : Int), ()), ()) fun ((((a8 : Option Addr), (n9 : Nat), (c10 : Nat)), _), ((x11 : Int), _), _) again7 =>
    π.ite (decide (x11 < (↑n9 : Int))) (
     π.guard (0 ≤ x11 ∧ x11 ≤ (↑n9 : Int) ∧ (↑n9 : Int) ≤ (↑c10 : Int)) <|
     π.guard ((0 : Int) ≤ 0 ∧ 0 ≤ x11 ∧ x11 ≤ (↑c10 : Int)) <|
     π.cpy (1 : Nat) (if c10 = x11.toNat then a8 else Option.map (fun x => x.add (x11.toNat * 1)) a8) ((↑n9 : Int).toNat - x11.toNat) (if c10 = (0 : Nat) then a8 else Option.map (fun x => x.add 0) a8) (x11.toNat - (0 : Nat)) fun n12 =>
     again7 (((a8, n9, c10), ()), (i64.wrap (x11 + (↑n12 : Int)), ()), ())
    ) (
     π.ret (.slice a8 n9 c10)
    )
  )
 )
def ann_Repeat : Ann := { draws := [(9, { A := [0, 1, 2, 3, 4, 5, 6], eag := [8] })], join := [(3, []), (6, [(6, 56)])], loop := [(8, [(7, 99), (8, 3)])] }
def la_Repeat : LA := {}
theorem eq_Repeat {W : Type} (π : Prims W) (a : Option Addr) (an ac : Nat) (c : Int) : bodyE π Tryz.prog la_Repeat ann_Repeat 48 Tryz.f103 (bodyOf Tryz.f103) [.v (.slice a an ac), .v (.int .i64 c)] [] = vc_Repeat π a an ac c := by kernel_rfl
theorem ok_Repeat (a : Option Addr) (an ac : Nat) (c : Int) (R : RT) (s : PH) (h : vc_Repeat (RP Tryz.prog R) a an ac c s) : DCalls Tryz.prog 103 (List.map AV.val [.v (.slice a an ac), .v (.int .i64 c)]).toArray s R :=
 callsE (c := bodyOf Tryz.f103) la_Repeat mo Tryz.func103 rfl (by kernel_rfl) Tryz.ntmps103 rfl (by kernel_rfl) (eq_Repeat ..) h
def vc_EntryN {W : Type} (π : Prims W) (i : Int) : W :=
 π.nw (Obj.cells #[(.int .i64 0), (.int .i64 0), (.int .i64 0), (.string ⟨#[]⟩)] (43 : Nat) (0, 0)) fun r0 =>
 π.ite (true) (
  π.st (Addr.mk r0 0 none) [(.int .i64 0), (.int .i64 0), (.int .i64 0), (.string ⟨#[]⟩)] <|
  π.ld [.int .i64, .int .i64, .int .i64, .str] (Addr.mk r0 0 none) fun ((x1 : Int), (x2 : Int), (x3 : Int), (t4 : ByteArray), _) =>
  π.ret (.tuple #[(.agg #[(.int .i64 x1), (.int .i64 x2), (.int .i64 x3), (.string t4)]), (.bool false)])
 ) (
  π.unSome (none) fun p5 =>
  π.ld [.int .i64] ((p5.add 2).add 4) fun ((x6 : Int), _) =>
  π.ite (decide (i ≤ x6)) (
   π.st (Addr.mk r0 0 none) [(.int .i64 0), (.int .i64 0), (.int .i64 0), (.string ⟨#[]⟩)] <|
   π.ld [.int .i64, .int .i64, .int .i64, .str] (Addr.mk r0 0 none) fun ((x7 : Int), (x8 : Int), (x9 : Int), (t10 : ByteArray), _) =>
   π.ret (.tuple #[(.agg #[(.int .i64 x7), (.int .i64 x8), (.int .i64 x9), (.string t10)]), (.bool false)])
  ) (
   π.call 55 #[(.pointer none)] (false, [(false, [.int .i64])]) fun (((x11 : Int), _), _) =>
   π.ite (decide (i > x11)) (
    π.st (Addr.mk r0 0 none) [(.int .i64 0), (.int .i64 0), (.int .i64 0), (.string ⟨#[]⟩)] <|
    π.ld [.int .i64, .int .i64, .int .i64, .str] (Addr.mk r0 0 none) fun ((x12 : Int), (x13 : Int), (x14 : Int), (t15 : ByteArray), _) =>
    π.ret (.tuple #[(.agg #[(.int .i64 x12), (.int .i64 x13), (.int .i64 x14), (.string t15)]), (.bool false)])
   ) (
    π.unSome (none) fun p16 =>
    π.ld [.slice] (p16.add 11) fun (((a17 : Option Addr), (n18 : Nat), (c19 : Nat)), _) =>
    π.unSome (none) fun p20 =>
    π.ld [.int .i64] ((p20.add 2).add 4) fun ((x21 : Int), _) =>
    π.guard (0 ≤ i64.wrap (i64.wrap (i - x21) - 1) ∧ i64.wrap (i64.wrap (i - x21) - 1) < (↑n18 : Int)) <|
    π.unSome (a17) fun p22 =>
    π.ld [.int .i64, .int .i64, .int .i64, .str] (p22.add ((i64.wrap (i64.wrap (i - x21) - 1)).toNat * 4)) fun ((x23 : Int), (x24 : Int), (x25 : Int), (t26 : ByteArray), _) =>
    π.st (Addr.mk r0 0 none) [(.int .i64 x23), (.int .i64 x24), (.int .i64 x25), (.string t26)] <|
    π.ld [.int .i64, .int .i64, .int .i64, .str] (Addr.mk r0 0 none) fun ((x27 : Int), (x28 : Int), (x29 : Int), (t30 : ByteArray), _) =>
    π.ret (.tuple #[(.agg #[(.int .i64 x27), (.int .i64 x28), (.int .i64 x29), (.string t30)]), (.bool true)])
   )
  )
 )
def ann_EntryN : Ann := { draws := [(3, { A := [0, 1, 2, 3, 4, 5, 6, 7, 8, 9, 10, 11, 12, 13], eag := [15] })],  }
def la_EntryN : LA := {}
theorem eq_EntryN {W : Type} (π : Prims W) (i : Int) : bodyE π Tryz.prog la_EntryN ann_EntryN 38 Tryz.f35 (bodyOf Tryz.f35) [.v (.pointer none), .v (.int .i64 i)] [] = vc_EntryN π i := by kernel_rfl
theorem ok_EntryN (i : Int) (R : RT) (s : PH) (h : vc_EntryN (RP Tryz.prog R) i s) : DCalls Tryz.prog 35 (List.map AV.val [.v (.pointer none), .v (.int .i64 i)]).toArray s R :=
 callsE (c := bodyOf Tryz.f35) la_EntryN mo Tryz.func35 rfl (by kernel_rfl) Tryz.ntmps35 rfl (by kernel_rfl) (eq_EntryN ..) h
def vc_StandN {W : Type} (π : Prims W) : W :=
 π.nw (Obj.cells #[(.int .i64 0), (.int .i64 0), (.int .i64 0), (.int .i64 0), (.int .i64 0), (.int .i64 0), (.int .i64 0)] (37 : Nat) (0, 0)) fun r0 =>
 π.ite (true) (
  π.st (Addr.mk r0 0 none) [(.int .i64 0), (.int .i64 0), (.int .i64 0), (.int .i64 0), (.int .i64 0), (.int .i64 0), (.int .i64 0)] <|
  π.ld [.int .i64, .int .i64, .int .i64, .int .i64, .int .i64, .int .i64, .int .i64] (Addr.mk r0 0 none) fun ((x1 : Int), (x2 : Int), (x3 : Int), (x4 : Int), (x5 : Int), (x6 : Int), (x7 : Int), _) =>
  π.ret (.agg #[(.int .i64 x1), (.int .i64 x2), (.int .i64 x3), (.int .i64 x4), (.int .i64 x5), (.int .i64 x6), (.int .i64 x7)])
 ) (
  π.unSome (none) fun p8 =>
  π.ld [.int .i64, .int .i64, .int .i64, .int .i64, .int .i64, .int .i64, .int .i64] (p8.add 2) fun ((x9 : Int), (x10 : Int), (x11 : Int), (x12 : Int), (x13 : Int), (x14 : Int), (x15 : Int), _) =>
  π.nw (Obj.cells #[(.int .i64 0), (.int .i64 0), (.int .i64 0), (.int .i64 0), (.int .i64 0), (.int .i64 0), (.int .i64 0)] (37 : Nat) (0, 0)) fun r16 =>
  π.st (Addr.mk r16 0 none) [(.int .i64 x9), (.int .i64 x10), (.int .i64 x11), (.int .i64 x12), (.int .i64 x13), (.int .i64 x14), (.int .i64 x15)] <|
  π.call 55 #[(.pointer none)] (false, [(false, [.int .i64])]) fun (((x17 : Int), _), _) =>
  π.st ((Addr.mk r16 0 none).add 5) [(.int .i64 x17)] <|
  π.ld [.int .i64, .int .i64, .int .i64, .int .i64, .int .i64, .int .i64, .int .i64] (Addr.mk r16 0 none) fun ((x18 : Int), (x19 : Int), (x20 : Int), (x21 : Int), (x22 : Int), (x23 : Int), (x24 : Int), _) =>
  π.st (Addr.mk r0 0 none) [(.int .i64 x18), (.int .i64 x19), (.int .i64 x20), (.int .i64 x21), (.int .i64 x22), (.int .i64 x23), (.int .i64 x24)] <|
  π.ld [.int .i64, .int .i64, .int .i64, .int .i64, .int .i64, .int .i64, .int .i64] (Addr.mk r0 0 none) fun ((x25 : Int), (x26 : Int), (x27 : Int), (x28 : Int), (x29 : Int), (x30 : Int), (x31 : Int), _) =>
  π.ret (.agg #[(.int .i64 x25), (.int .i64 x26), (.int .i64 x27), (.int .i64 x28), (.int .i64 x29), (.int .i64 x30), (.int .i64 x31)])
 )
def ann_StandN : Ann := {}
def la_StandN : LA := {}
theorem eq_StandN {W : Type} (π : Prims W) : bodyE π Tryz.prog la_StandN ann_StandN 15 Tryz.f34 (bodyOf Tryz.f34) [.v (.pointer none)] [] = vc_StandN π := by kernel_rfl
theorem ok_StandN (R : RT) (s : PH) (h : vc_StandN (RP Tryz.prog R) s) : DCalls Tryz.prog 34 (List.map AV.val [.v (.pointer none)]).toArray s R :=
 callsE (c := bodyOf Tryz.f34) la_StandN mo Tryz.func34 rfl (by kernel_rfl) Tryz.ntmps34 rfl (by kernel_rfl) (eq_StandN ..) h
def vc_Load2 {W : Type} (π : Prims W) (id size : Int) (a : Option Addr) (an ac : Nat) : W :=
 π.call 86 #[(.int .i64 id), (.int .i64 size)] (true, [(false, [.ptr]), (false, [.int .i64])]) fun ((p0, _), ((x1 : Int), _), _) =>
 π.ite (x1 != 0) (
  π.ret (.tuple #[(.pointer none), (.int .i64 x1)])
 ) (
  π.loop [(false, [.ptr]), (false, [.slice]), (false, [.int .i64]), (false, [.int .i64])] ((p0, ()), ((a, an, ac), ()), ((↑an : Int), ()), ((0 : Int), ()), ()) fun ((p3, _), (((a4 : Option Addr), (n5 : Nat), (c6 : Nat)), _), ((x7 : Int), _), ((x8 : Int), _), _) again2 =>
   π.ite (decide (x8 < x7)) (
    π.guard (0 ≤ x8 ∧ x8 < (↑n5 : Int)) <|
    π.unSome (a4) fun p9 =>
    π.ld [.int .i64, .int .i64, .bool, .int .i64, .int .i64, .str, .int .i64, .slice] (p9.add (x8.toNat * 8)) fun ((x10 : Int), (x11 : Int), (b12 : Bool), (x13 : Int), (x14 : Int), (t15 : ByteArray), (x16 : Int), ((a17 : Option Addr), (n18 : Nat), (c19 : Nat)), _) =>
    π.join [(false, [.ptr]), (true, [.int .i64, .int .i64, .bool, .int .i64, .int .i64, .str, .int .i64, .slice]), (false, [.slice]), (false, [.int .i64]), (false, [.int .i64]), (false, [.bool])] (fun J20 =>
     π.join [(false, [.ptr]), (true, [.int .i64, .int .i64, .bool, .int .i64, .int .i64, .str, .int .i64, .slice]), (false, [.slice]), (false, [.int .i64]), (false, [.int .i64]), (false, [.bool])] (fun J21 =>
      π.ite (decide (x10 < 0)) (
       J21 ((p3, ()), (x10, x11, b12, x13, x14, t15, x16, (a17, n18, c19), ()), ((a4, n5, c6), ()), (x7, ()), (x8, ()), (true, ()), ())
      ) (
       π.ite (decide (x10 > 2199023255552)) (
        J21 ((p3, ()), (x10, x11, b12, x13, x14, t15, x16, (a17, n18, c19), ()), ((a4, n5, c6), ()), (x7, ()), (x8, ()), (true, ()), ())
       ) (
        π.ite (decide (x11 < (-1 : Int))) (
         J21 ((p3, ()), (x10, x11, b12, x13, x14, t15, x16, (a17, n18, c19), ()), ((a4, n5, c6), ()), (x7, ()), (x8, ()), (true, ()), ())
        ) (
         J21 ((p3, ()), (x10, x11, b12, x13, x14, t15, x16, (a17, n18, c19), ()), ((a4, n5, c6), ()), (x7, ()), (x8, ()), (decide (x11 ≥ size), ()), ())
        )
       )
      )
     ) (fun ((p22, _), ((x23 : Int), (x24 : Int), (b25 : Bool), (x26 : Int), (x27 : Int), (t28 : ByteArray), (x29 : Int), ((a30 : Option Addr), (n31 : Nat), (c32 : Nat)), _), (((a33 : Option Addr), (n34 : Nat), (c35 : Nat)), _), ((x36 : Int), _), ((x37 : Int), _), ((b38 : Bool), _), _) =>
      π.ite (b38) (
       J20 ((p22, ()), (x23, x24, b25, x26, x27, t28, x29, (a30, n31, c32), ()), ((a33, n34, c35), ()), (x36, ()), (x37, ()), (true, ()), ())
      ) (
       π.ite (b25) (
        π.ite (decide (x26 < 0)) (
         J20 ((p22, ()), (x23, x24, b25, x26, x27, t28, x29, (a30, n31, c32), ()), ((a33, n34, c35), ()), (x36, ()), (x37, ()), (true, ()), ())
        ) (
         π.ite (decide (x26 > 2199023255552)) (
          J20 ((p22, ()), (x23, x24, b25, x26, x27, t28, x29, (a30, n31, c32), ()), ((a33, n34, c35), ()), (x36, ()), (x37, ()), (true, ()), ())
         ) (
          π.ite (decide (x27 < 0)) (
           J20 ((p22, ()), (x23, x24, b25, x26, x27, t28, x29, (a30, n31, c32), ()), ((a33, n34, c35), ()), (x36, ()), (x37, ()), (true, ()), ())
          ) (
           π.ite (decide (x27 > 2199023255552)) (
            J20 ((p22, ()), (x23, x24, b25, x26, x27, t28, x29, (a30, n31, c32), ()), ((a33, n34, c35), ()), (x36, ()), (x37, ()), (true, ()), ())
           ) (
            π.ite (!b25) (
             π.unSome (p22) fun p39 =>
             π.ld [.int .i64] ((p39.add 2).add 4) fun ((x40 : Int), _) =>
             π.ite (decide (x29 ≤ x40)) (
              J20 ((p22, ()), (x23, x24, b25, x26, x27, t28, x29, (a30, n31, c32), ()), ((a33, n34, c35), ()), (x36, ()), (x37, ()), (true, ()), ())
             ) (
              π.callQ 55 #[(.pointer (p22))] (false, [(false, [.int .i64])]) fun (((x41 : Int), _), _) =>
              J20 ((p22, ()), (x23, x24, b25, x26, x27, t28, x29, (a30, n31, c32), ()), ((a33, n34, c35), ()), (x36, ()), (x37, ()), (decide (x29 > i64.wrap (x41 + 1)), ()), ())
             )
            ) (
             J20 ((p22, ()), (x23, x24, b25, x26, x27, t28, x29, (a30, n31, c32), ()), ((a33, n34, c35), ()), (x36, ()), (x37, ()), (false, ()), ())
            )
           )
          )
         )
        )
       ) (
        π.ite (!b25) (
         π.unSome (p22) fun p42 =>
         π.ld [.int .i64] ((p42.add 2).add 4) fun ((x43 : Int), _) =>
         π.ite (decide (x29 ≤ x43)) (
          J20 ((p22, ()), (x23, x24, b25, x26, x27, t28, x29, (a30, n31, c32), ()), ((a33, n34, c35), ()), (x36, ()), (x37, ()), (true, ()), ())
         ) (
          π.callQ 55 #[(.pointer (p22))] (false, [(false, [.int .i64])]) fun (((x44 : Int), _), _) =>
          J20 ((p22, ()), (x23, x24, b25, x26, x27, t28, x29, (a30, n31, c32), ()), ((a33, n34, c35), ()), (x36, ()), (x37, ()), (decide (x29 > i64.wrap (x44 + 1)), ()), ())
         )
        ) (
         J20 ((p22, ()), (x23, x24, b25, x26, x27, t28, x29, (a30, n31, c32), ()), ((a33, n34, c35), ()), (x36, ()), (x37, ()), (false, ()), ())
        )
       )
      )
     )
    ) (fun ((p45, _), ((x46 : Int), (x47 : Int), (b48 : Bool), (x49 : Int), (x50 : Int), (t51 : ByteArray), (x52 : Int), ((a53 : Option Addr), (n54 : Nat), (c55 : Nat)), _), (((a56 : Option Addr), (n57 : Nat), (c58 : Nat)), _), ((x59 : Int), _), ((x60 : Int), _), ((b61 : Bool), _), _) =>
     π.ite (b61) (
      π.ret (.tuple #[(.pointer none), (.int .i64 100)])
     ) (
      π.ite (b48) (
       π.call 79 #[(.slice a53 n54 c55)] (false, [(false, [.slice])]) fun ((((a62 : Option Addr), (n63 : Nat), (c64 : Nat)), _), _) =>
       π.unSome (p45) fun p65 =>
       π.st ((p65.add 2).add 4) [(.int .i64 x49)] <|
       π.unSome (p45) fun p66 =>
       π.st (p66.add 9) [(.int .i64 x50)] <|
       π.unSome (p45) fun p67 =>
       π.st (p67.add 10) [(.string t51)] <|
       π.unSome (p45) fun p68 =>
       π.st (p68.add 11) [(.slice a62 n63 c64)] <|
       π.unSome (p45) fun p69 =>
       π.st ((p69.add 2).add 0) [(.int .i64 x46)] <|
       π.unSome (p45) fun p70 =>
       π.st ((p70.add 2).add 1) [(.int .i64 x47)] <|
       again2 ((p45, ()), ((a56, n57, c58), ()), (x59, ()), (i64.wrap (x60 + 1), ()), ())
      ) (
       π.unSome (p45) fun p71 =>
       π.ld [.slice] (p71.add 11) fun (((a72 : Option Addr), (n73 : Nat), (c74 : Nat)), _) =>
       π.unSome (p45) fun p75 =>
       π.ld [.int .i64] ((p75.add 2).add 4) fun ((x76 : Int), _) =>
       π.unSome (p45) fun p77 =>
       π.ld [.int .i64] ((p77.add 2).add 4) fun ((x78 : Int), _) =>
       π.guard ((0 : Int) ≤ 0 ∧ 0 ≤ i64.wrap (i64.wrap (x52 - x76) - 1) ∧ i64.wrap (i64.wrap (x52 - x76) - 1) ≤ i64.wrap (i64.wrap (x52 - x78) - 1) ∧ i64.wrap (i64.wrap (x52 - x78) - 1) ≤ (↑c74 : Int)) <|
       π.app (43 : Nat) (4 : Nat) (40 : Nat) [(.int .i64 0), (.int .i64 0), (.int .i64 0), (.string ⟨#[]⟩)] (if (i64.wrap (i64.wrap (x52 - x78) - 1)).toNat = (0 : Nat) then a72 else Option.map (fun x => x.add 0) a72) ((i64.wrap (i64.wrap (x52 - x76) - 1)).toNat - (0 : Nat)) ((i64.wrap (i64.wrap (x52 - x78) - 1)).toNat - (0 : Nat)) (Src.sl a53 n54) fun a79 n80 c81 =>
       π.unSome (p45) fun p82 =>
       π.st (p82.add 11) [(.slice a79 n80 c81)] <|
       π.unSome (p45) fun p83 =>
       π.st ((p83.add 2).add 0) [(.int .i64 x46)] <|
       π.unSome (p45) fun p84 =>
       π.st ((p84.add 2).add 1) [(.int .i64 x47)] <|
       again2 ((p45, ()), ((a56, n57, c58), ()), (x59, ()), (i64.wrap (x60 + 1), ()), ())
      )
     )
    )
   ) (
    π.unSome (p3) fun p85 =>
    π.ld [.int .i64] ((p85.add 2).add 4) fun ((x86 : Int), _) =>
    π.unSome (p3) fun p87 =>
    π.st ((p87.add 2).add 6) [(.int .i64 x86)] <|
    π.call 87 #[(.pointer (p3))] (true, []) fun (_) =>
    π.ret (.tuple #[(.pointer (p3)), (.int .i64 0)])
   )
 )
def ann_Load2 : Ann := { draws := [(10, { A := [0, 1, 2, 3, 4, 5, 6, 7, 8, 9, 10, 11, 12, 13, 14, 15, 16, 17, 18, 19, 20, 21], quiet := [16] }), (13, { A := [0, 1, 2, 3, 4, 5, 6, 7, 8, 9, 10, 11], chkL := [(12, [5, 7, 9]), (16, [7, 9]), (19, [9])], eag := [13, 14, 15, 17, 18, 20, 21, 23, 24] }), (7, { A := [0, 1, 2, 3, 4, 5, 6, 7, 8, 9, 10, 11, 12, 13, 14, 15, 16, 17, 18, 19, 20, 21, 22, 23, 24, 25], eag := [27, 28] }), (14, { A := [0, 1, 2, 3, 4, 5, 6, 7, 8], chkL := [(9, [5])], eag := [10, 11, 12] })], join := [(9, [(8, 64), (11, 113), (21, 111), (22, 3), (23, 3), (56, 4)]), (11, [(8, 64), (11, 113), (21, 111), (22, 3), (23, 3), (56, 4)])], loop := [(5, [(8, 64), (21, 111), (22, 3), (23, 3)])] }
def la_Load2 : LA := { ptr := [(11, 11, 0), (57, 11, 0), (61, 11, 0), (66, 11, 1), (71, 11, 1), (76, 11, 2), (79, 11, 3), (83, 11, 3), (88, 11, 4), (93, 11, 4), (98, 11, 2), (102, 11, 6), (111, 11, 6), (120, 11, 2), (126, 11, 3), (128, 11, 4), (130, 11, 5), (132, 11, 7), (32, 11, 6), (41, 11, 6), (51, 11, 7), (146, 11, 0), (148, 11, 1)], ty := [(11, 113)] }
theorem eq_Load2 {W : Type} (π : Prims W) (id size : Int) (a : Option Addr) (an ac : Nat) : bodyE π Tryz.prog la_Load2 ann_Load2 169 Tryz.f59 (bodyOf Tryz.f59) [.v (.int .i64 id), .v (.int .i64 size), .v (.slice a an ac)] [] = vc_Load2 π id size a an ac := by kernel_rfl
theorem ok_Load2 (id size : Int) (a : Option Addr) (an ac : Nat) (R : RT) (s : PH) (h : vc_Load2 (RP Tryz.prog R) id size a an ac s) : DCalls Tryz.prog 59 (List.map AV.val [.v (.int .i64 id), .v (.int .i64 size), .v (.slice a an ac)]).toArray s R :=
 callsE (c := bodyOf Tryz.f59) la_Load2 mo Tryz.func59 rfl (by kernel_rfl) Tryz.ntmps59 rfl (by kernel_rfl) (eq_Load2 ..) h
end
end Go.Proofs.YtcdggocbjnmeaaaGreat
