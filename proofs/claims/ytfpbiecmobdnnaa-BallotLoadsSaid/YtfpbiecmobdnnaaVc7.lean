/-
  The laws; Load; the document's Load: printed by a program of this session's own, each proved to be the function's by the kernel.
  Conditions: none; it proves no statement by itself.
-/
import Derived.Test.YtfpbiecmobdnnaaFwU
import Derived.Test.YtfpbiecmobdnnaaProg
set_option linter.unusedVariables false
set_option maxHeartbeats 1000000
namespace Go.Proofs.Ytfpbiecmobdnnaa
open Fw Fw.W Go

/-- lintel/lintellaw09.BallotPlays -/
def vc_BallotPlays2 {W : Type} (π : Prims W) (id size : Int) (a : Option Addr) (an ac : Nat) : W :=
  π.join [] (fun J0 =>
    π.call (8 : Nat) #[] (false, [(false, [.bool])]) fun (((b1 : Bool), _), _) =>
    π.ite (!b1) (
      π.call (8 : Nat) #[] (false, [(false, [.bool])]) fun (((b2 : Bool), _), _) =>
      π.ret (Go.Value.bool (b2))
    ) (
      π.call (9 : Nat) #[(Go.Value.slice (a) (an) (ac))] (false, [(false, [.bool])]) fun (((b3 : Bool), _), _) =>
      π.ite (b3) (
        π.call (8 : Nat) #[] (false, [(false, [.bool])]) fun (((b4 : Bool), _), _) =>
        π.ret (Go.Value.bool (b4))
      ) (
        J0 (())
      )
    )
  ) (fun (_) =>
    π.call (7 : Nat) #[(Go.Value.int (IntKind.i64) (id)), (Go.Value.int (IntKind.i64) (size))] (true, [(false, [.ptr]), (false, [.int .i64])]) fun ((p5, _), ((x6 : Int), _), _) =>
    π.call (13 : Nat) #[(Go.Value.int (IntKind.i64) (id)), (Go.Value.int (IntKind.i64) (size))] (true, [(false, [.ptr]), (false, [.bool])]) fun ((p7, _), ((b8 : Bool), _), _) =>
    π.ite (!b8) (
      π.ite (p5.isNone) (
        π.ret (Go.Value.bool (x6 == (1 : Int)))
      ) (
        π.ret (Go.Value.bool (false))
      )
    ) (
      π.join [(false, [.ptr]), (false, [.ptr])] (fun J9 =>
        π.ite (x6 != (0 : Int)) (
          π.ret (Go.Value.bool (false))
        ) (
          π.ite (p5.isNone) (
            π.ret (Go.Value.bool (false))
          ) (
            J9 ((p5, ()), (p7, ()), ())
          )
        )
      ) (fun ((p10, _), (p11, _), _) =>
        π.loop [(false, [.ptr]), (false, [.ptr]), (false, [.slice]), (false, [.int .i64]), (false, [.int .i64])] ((p10, ()), (p11, ()), ((a, an, ac), ()), ((↑an : Int), ()), ((0 : Int), ()), ()) fun ((p13, _), (p14, _), (((a15 : Option Addr), (n16 : Nat), (c17 : Nat)), _), ((x18 : Int), _), ((x19 : Int), _), _) again12 =>
          π.ite (decide (x19 < x18)) (
            π.guard ((0 : Int) ≤ x19 ∧ x19 < (↑n16 : Int)) <|
            π.unSome (a15) fun p20 =>
            π.ld [.int .i64, .int .i64, .int .i64, .str, .int .i64, .int .i64, .int .i64, .int .i64, .int .i64, .int .i64, .int .i64, .bool, .slice, .str] (p20.add (x19.toNat * (14 : Nat))) fun ((x21 : Int), (x22 : Int), (x23 : Int), (t24 : ByteArray), (x25 : Int), (x26 : Int), (x27 : Int), (x28 : Int), (x29 : Int), (x30 : Int), (x31 : Int), (b32 : Bool), ((a33 : Option Addr), (n34 : Nat), (c35 : Nat)), (t36 : ByteArray), _) =>
            π.call (12 : Nat) #[(Go.Value.pointer (p13)), (Go.Value.agg #[(Go.Value.int (IntKind.i64) (x21)), (Go.Value.int (IntKind.i64) (x22)), (Go.Value.int (IntKind.i64) (x23)), (Go.Value.string (t24)), (Go.Value.int (IntKind.i64) (x25)), (Go.Value.int (IntKind.i64) (x26)), (Go.Value.int (IntKind.i64) (x27)), (Go.Value.int (IntKind.i64) (x28)), (Go.Value.int (IntKind.i64) (x29)), (Go.Value.int (IntKind.i64) (x30)), (Go.Value.int (IntKind.i64) (x31)), (Go.Value.bool (b32)), (Go.Value.slice (a33) (n34) (c35)), (Go.Value.string (t36))])] (true, [(false, [.slice]), (false, [.int .i64])]) fun ((((a37 : Option Addr), (n38 : Nat), (c39 : Nat)), _), ((x40 : Int), _), _) =>
            π.call (14 : Nat) #[(Go.Value.pointer (p14)), (Go.Value.agg #[(Go.Value.int (IntKind.i64) (x21)), (Go.Value.int (IntKind.i64) (x22)), (Go.Value.int (IntKind.i64) (x23)), (Go.Value.string (t24)), (Go.Value.int (IntKind.i64) (x25)), (Go.Value.int (IntKind.i64) (x26)), (Go.Value.int (IntKind.i64) (x27)), (Go.Value.int (IntKind.i64) (x28)), (Go.Value.int (IntKind.i64) (x29)), (Go.Value.int (IntKind.i64) (x30)), (Go.Value.int (IntKind.i64) (x31)), (Go.Value.bool (b32)), (Go.Value.slice (a33) (n34) (c35)), (Go.Value.string (t36))])] (true, [(false, [.slice]), (false, [.int .i64])]) fun ((((a41 : Option Addr), (n42 : Nat), (c43 : Nat)), _), ((x44 : Int), _), _) =>
            π.join [(false, [.ptr]), (false, [.ptr]), (true, [.int .i64, .int .i64, .int .i64, .str, .int .i64, .int .i64, .int .i64, .int .i64, .int .i64, .int .i64, .int .i64, .bool, .slice, .str]), (false, [.slice]), (false, [.slice]), (false, [.int .i64]), (false, [.int .i64])] (fun J45 =>
              π.ite (x40 != x44) (
                π.ret (Go.Value.bool (false))
              ) (
                π.call (15 : Nat) #[(Go.Value.slice (a37) (n38) (c39)), (Go.Value.slice (a41) (n42) (c43))] (false, [(false, [.bool])]) fun (((b46 : Bool), _), _) =>
                π.ite (!b46) (
                  π.ret (Go.Value.bool (false))
                ) (
                  π.call (16 : Nat) #[(Go.Value.pointer (p13)), (Go.Value.pointer (p14))] (false, [(false, [.bool])]) fun (((b47 : Bool), _), _) =>
                  π.ite (!b47) (
                    π.ret (Go.Value.bool (false))
                  ) (
                    J45 ((p13, ()), (p14, ()), (x21, x22, x23, t24, x25, x26, x27, x28, x29, x30, x31, b32, (a33, n34, c35), t36, ()), ((a37, n38, c39), ()), ((a15, n16, c17), ()), (x18, ()), (x19, ()), ())
                  )
                )
              )
            ) (fun ((p48, _), (p49, _), ((x50 : Int), (x51 : Int), (x52 : Int), (t53 : ByteArray), (x54 : Int), (x55 : Int), (x56 : Int), (x57 : Int), (x58 : Int), (x59 : Int), (x60 : Int), (b61 : Bool), ((a62 : Option Addr), (n63 : Nat), (c64 : Nat)), (t65 : ByteArray), _), (((a66 : Option Addr), (n67 : Nat), (c68 : Nat)), _), (((a69 : Option Addr), (n70 : Nat), (c71 : Nat)), _), ((x72 : Int), _), ((x73 : Int), _), _) =>
              π.join [(false, [.ptr]), (false, [.ptr]), (false, [.slice]), (false, [.slice]), (false, [.int .i64]), (false, [.int .i64])] (fun J74 =>
                π.ite (x50 == (6 : Int)) (
                  π.call (17 : Nat) #[(Go.Value.pointer (p48))] (true, [(true, [.int .i64, .int .i64, .bool, .int .i64, .int .i64, .str, .int .i64, .slice]), (false, [.bool])]) fun (((x75 : Int), (x76 : Int), (b77 : Bool), (x78 : Int), (x79 : Int), (t80 : ByteArray), (x81 : Int), ((a82 : Option Addr), (n83 : Nat), (c84 : Nat)), _), ((b85 : Bool), _), _) =>
                  π.call (18 : Nat) #[(Go.Value.pointer (p49))] (true, [(true, [.int .i64, .int .i64, .bool, .int .i64, .int .i64, .str, .int .i64, .slice]), (false, [.bool])]) fun (((x86 : Int), (x87 : Int), (b88 : Bool), (x89 : Int), (x90 : Int), (t91 : ByteArray), (x92 : Int), ((a93 : Option Addr), (n94 : Nat), (c95 : Nat)), _), ((b96 : Bool), _), _) =>
                  π.join [(false, [.ptr]), (false, [.ptr]), (false, [.slice]), (true, [.int .i64, .int .i64, .bool, .int .i64, .int .i64, .str, .int .i64, .slice]), (false, [.slice]), (false, [.int .i64]), (false, [.int .i64])] (fun J97 =>
                    π.ite (!b85 == b96) (
                      π.ret (Go.Value.bool (false))
                    ) (
                      π.call (19 : Nat) #[(Go.Value.agg #[(Go.Value.int (IntKind.i64) (x75)), (Go.Value.int (IntKind.i64) (x76)), (Go.Value.bool (b77)), (Go.Value.int (IntKind.i64) (x78)), (Go.Value.int (IntKind.i64) (x79)), (Go.Value.string (t80)), (Go.Value.int (IntKind.i64) (x81)), (Go.Value.slice (a82) (n83) (c84))]), (Go.Value.agg #[(Go.Value.int (IntKind.i64) (x86)), (Go.Value.int (IntKind.i64) (x87)), (Go.Value.bool (b88)), (Go.Value.int (IntKind.i64) (x89)), (Go.Value.int (IntKind.i64) (x90)), (Go.Value.string (t91)), (Go.Value.int (IntKind.i64) (x92)), (Go.Value.slice (a93) (n94) (c95))])] (false, [(false, [.bool])]) fun (((b98 : Bool), _), _) =>
                      π.ite (!b98) (
                        π.ret (Go.Value.bool (false))
                      ) (
                        J97 ((p48, ()), (p49, ()), ((a66, n67, c68), ()), (x75, x76, b77, x78, x79, t80, x81, (a82, n83, c84), ()), ((a69, n70, c71), ()), (x72, ()), (x73, ()), ())
                      )
                    )
                  ) (fun ((p99, _), (p100, _), (((a101 : Option Addr), (n102 : Nat), (c103 : Nat)), _), ((x104 : Int), (x105 : Int), (b106 : Bool), (x107 : Int), (x108 : Int), (t109 : ByteArray), (x110 : Int), ((a111 : Option Addr), (n112 : Nat), (c113 : Nat)), _), (((a114 : Option Addr), (n115 : Nat), (c116 : Nat)), _), ((x117 : Int), _), ((x118 : Int), _), _) =>
                    π.loop [(false, [.ptr]), (false, [.ptr]), (false, [.slice]), (true, [.int .i64, .int .i64, .bool, .int .i64, .int .i64, .str, .int .i64, .slice]), (false, [.slice]), (false, [.int .i64]), (false, [.int .i64]), (false, [.int .i64]), (false, [.int .i64])] ((p99, ()), (p100, ()), ((a101, n102, c103), ()), (x104, x105, b106, x107, x108, t109, x110, (a111, n112, c113), ()), ((a114, n115, c116), ()), (x117, ()), (x118, ()), ((↑n112 : Int), ()), ((0 : Int), ()), ()) fun ((p120, _), (p121, _), (((a122 : Option Addr), (n123 : Nat), (c124 : Nat)), _), ((x125 : Int), (x126 : Int), (b127 : Bool), (x128 : Int), (x129 : Int), (t130 : ByteArray), (x131 : Int), ((a132 : Option Addr), (n133 : Nat), (c134 : Nat)), _), (((a135 : Option Addr), (n136 : Nat), (c137 : Nat)), _), ((x138 : Int), _), ((x139 : Int), _), ((x140 : Int), _), ((x141 : Int), _), _) again119 =>
                      π.ite (decide (x141 < x140)) (
                        π.guard ((0 : Int) ≤ x141 ∧ x141 < (↑n133 : Int)) <|
                        π.unSome (a132) fun p142 =>
                        π.st ((p142.add (x141.toNat * (4 : Nat))).add (3 : Nat)) [(Go.Value.string (ByteArray.mk #[(115 : UInt8), (112 : UInt8), (111 : UInt8), (105 : UInt8), (108 : UInt8), (116 : UInt8)]))] <|
                        again119 ((p120, ()), (p121, ()), ((a122, n123, c124), ()), (x125, x126, b127, x128, x129, t130, x131, (a132, n133, c134), ()), ((a135, n136, c137), ()), (x138, ()), (x139, ()), (x140, ()), (IntKind.i64.wrap (x141 + (1 : Int)), ()), ())
                      ) (
                        J74 ((p120, ()), (p121, ()), ((a122, n123, c124), ()), ((a135, n136, c137), ()), (x138, ()), (x139, ()), ())
                      )
                  )
                ) (
                  J74 ((p48, ()), (p49, ()), ((a66, n67, c68), ()), ((a69, n70, c71), ()), (x72, ()), (x73, ()), ())
                )
              ) (fun ((p143, _), (p144, _), (((a145 : Option Addr), (n146 : Nat), (c147 : Nat)), _), (((a148 : Option Addr), (n149 : Nat), (c150 : Nat)), _), ((x151 : Int), _), ((x152 : Int), _), _) =>
                π.loop [(false, [.ptr]), (false, [.ptr]), (false, [.slice]), (false, [.slice]), (false, [.int .i64]), (false, [.int .i64]), (false, [.int .i64]), (false, [.int .i64])] ((p143, ()), (p144, ()), ((a145, n146, c147), ()), ((a148, n149, c150), ()), (x151, ()), (x152, ()), ((↑n146 : Int), ()), ((0 : Int), ()), ()) fun ((p154, _), (p155, _), (((a156 : Option Addr), (n157 : Nat), (c158 : Nat)), _), (((a159 : Option Addr), (n160 : Nat), (c161 : Nat)), _), ((x162 : Int), _), ((x163 : Int), _), ((x164 : Int), _), ((x165 : Int), _), _) again153 =>
                  π.ite (decide (x165 < x164)) (
                    π.guard ((0 : Int) ≤ x165 ∧ x165 < (↑n157 : Int)) <|
                    π.unSome (a156) fun p166 =>
                    π.ld [.slice] ((p166.add (x165.toNat * (10 : Nat))).add (8 : Nat)) fun (((a167 : Option Addr), (n168 : Nat), (c169 : Nat)), _) =>
                    π.loop [(false, [.ptr]), (false, [.ptr]), (false, [.slice]), (false, [.int .i64]), (false, [.slice]), (false, [.int .i64]), (false, [.int .i64]), (false, [.int .i64]), (false, [.int .i64]), (false, [.int .i64]), (false, [.int .i64])] ((p154, ()), (p155, ()), ((a156, n157, c158), ()), (x165, ()), ((a159, n160, c161), ()), (x162, ()), (x163, ()), (x164, ()), (x165, ()), ((↑n168 : Int), ()), ((0 : Int), ()), ()) fun ((p171, _), (p172, _), (((a173 : Option Addr), (n174 : Nat), (c175 : Nat)), _), ((x176 : Int), _), (((a177 : Option Addr), (n178 : Nat), (c179 : Nat)), _), ((x180 : Int), _), ((x181 : Int), _), ((x182 : Int), _), ((x183 : Int), _), ((x184 : Int), _), ((x185 : Int), _), _) again170 =>
                      π.ite (decide (x185 < x184)) (
                        π.guard ((0 : Int) ≤ x176 ∧ x176 < (↑n174 : Int)) <|
                        π.unSome (a173) fun p186 =>
                        π.ld [.slice] ((p186.add (x176.toNat * (10 : Nat))).add (8 : Nat)) fun (((a187 : Option Addr), (n188 : Nat), (c189 : Nat)), _) =>
                        π.guard ((0 : Int) ≤ x185 ∧ x185 < (↑n188 : Int)) <|
                        π.unSome (a187) fun p190 =>
                        π.st ((p190.add (x185.toNat * (4 : Nat))).add (3 : Nat)) [(Go.Value.string (ByteArray.mk #[(115 : UInt8), (112 : UInt8), (111 : UInt8), (105 : UInt8), (108 : UInt8), (116 : UInt8)]))] <|
                        again170 ((p171, ()), (p172, ()), ((a173, n174, c175), ()), (x176, ()), ((a177, n178, c179), ()), (x180, ()), (x181, ()), (x182, ()), (x183, ()), (x184, ()), (IntKind.i64.wrap (x185 + (1 : Int)), ()), ())
                      ) (
                        again153 ((p171, ()), (p172, ()), ((a173, n174, c175), ()), ((a177, n178, c179), ()), (x180, ()), (x181, ()), (x182, ()), (IntKind.i64.wrap (x183 + (1 : Int)), ()), ())
                      )
                  ) (
                    again12 ((p154, ()), (p155, ()), ((a159, n160, c161), ()), (x162, ()), (IntKind.i64.wrap (x163 + (1 : Int)), ()), ())
                  )
              )
            )
          ) (
            π.call (16 : Nat) #[(Go.Value.pointer (p13)), (Go.Value.pointer (p14))] (false, [(false, [.bool])]) fun (((b191 : Bool), _), _) =>
            π.ret (Go.Value.bool (b191))
          )
      )
    )
  )

def ann_BallotPlays2 : Ann := { draws := [], join := [(3, []), (9, [(7, 23), (9, 46)]), (16, [(7, 23), (9, 46), (12, 34), (13, 42), (57, 22), (58, 3), (59, 3)]), (21, [(7, 23), (9, 46), (13, 42), (17, 53), (57, 22), (58, 3), (59, 3)]), (26, [(7, 23), (9, 46), (13, 42), (57, 22), (58, 3), (59, 3)])], loop := [(10, [(7, 23), (9, 46), (57, 22), (58, 3), (59, 3)]), (22, [(7, 23), (9, 46), (13, 42), (17, 53), (57, 22), (58, 3), (59, 3), (114, 3), (115, 3)]), (27, [(7, 23), (9, 46), (13, 42), (57, 22), (58, 3), (59, 3), (125, 3), (126, 3)]), (30, [(7, 23), (9, 46), (13, 42), (22, 3), (57, 22), (58, 3), (59, 3), (125, 3), (126, 3), (134, 3), (135, 3)])] }
def la_BallotPlays2 : LA := { ptr := [(12, 12, 0), (17, 17, 0), (19, 19, 0), (90, 12, 0), (112, 17, 7), (118, 17, 7)], ty := [(12, 34), (17, 53), (19, 53)] }
set_option maxRecDepth 100000 in
theorem eq_BallotPlays2 {W : Type} (π : Prims W) (id size : Int) (a : Option Addr) (an ac : Nat) : bodyL π Try.prog la_BallotPlays2 ann_BallotPlays2 (mkFr (maskA [] [.v (.int .i64 id), .v (.int .i64 size), .v (.slice a an ac)] 0) 152) Try.f4 (bodyOf Try.f4) (mkFr (List.map some [.v (.int .i64 id), .v (.int .i64 size), .v (.slice a an ac)]) 152) = vc_BallotPlays2 π id size a an ac := by kernel_rfl
theorem ok_BallotPlays2 (id size : Int) (a : Option Addr) (an ac : Nat) (R : Value → PH → Prop) (s : PH) (h : vc_BallotPlays2 (RP Try.prog R) id size a an ac s) : DCalls Try.prog 4 (List.map AV.val [.v (.int .i64 id), .v (.int .i64 size), .v (.slice a an ac)]).toArray s R :=
  calls_vcL (c := bodyOf Try.f4) (ann := ann_BallotPlays2) la_BallotPlays2 (by kernel_rfl) Try.func4 rfl (by kernel_rfl) [.v (.int .i64 id), .v (.int .i64 size), .v (.slice a an ac)] [] (by rw [Try.ntmps4]; exact Nat.le_of_ble_eq_true rfl) (by kernel_rfl) (by rw [show Try.f4.ntmps = 152 from Try.ntmps4, eq_BallotPlays2]; exact h)

/-- lintel/lintellaw09.BallotLoads -/
def vc_BallotLoads2 {W : Type} (π : Prims W) (id size : Int) (a : Option Addr) (an ac : Nat) : W :=
  π.join [] (fun J0 =>
    π.call (8 : Nat) #[] (false, [(false, [.bool])]) fun (((b1 : Bool), _), _) =>
    π.ite (!b1) (
      π.call (8 : Nat) #[] (false, [(false, [.bool])]) fun (((b2 : Bool), _), _) =>
      π.ret (Go.Value.bool (b2))
    ) (
      π.ite (decide ((↑an : Int) > (100 : Int))) (
        π.call (8 : Nat) #[] (false, [(false, [.bool])]) fun (((b3 : Bool), _), _) =>
        π.ret (Go.Value.bool (b3))
      ) (
        J0 (())
      )
    )
  ) (fun (_) =>
    π.loop [(false, [.int .i64]), (false, [.slice]), (false, [.int .i64]), (false, [.int .i64])] (((0 : Int), ()), ((a, an, ac), ()), ((↑an : Int), ()), ((0 : Int), ()), ()) fun (((x5 : Int), _), (((a6 : Option Addr), (n7 : Nat), (c8 : Nat)), _), ((x9 : Int), _), ((x10 : Int), _), _) again4 =>
      π.ite (decide (x10 < x9)) (
        π.guard ((0 : Int) ≤ x10 ∧ x10 < (↑n7 : Int)) <|
        π.unSome (a6) fun p11 =>
        π.ld [.int .i64, .int .i64, .bool, .int .i64, .int .i64, .str, .int .i64, .slice] (p11.add (x10.toNat * (8 : Nat))) fun ((x12 : Int), (x13 : Int), (b14 : Bool), (x15 : Int), (x16 : Int), (t17 : ByteArray), (x18 : Int), ((a19 : Option Addr), (n20 : Nat), (c21 : Nat)), _) =>
        π.ite (decide (IntKind.i64.wrap (x5 + (↑n20 : Int)) > (4096 : Int))) (
          π.ret (Go.Value.bool (true))
        ) (
          again4 ((IntKind.i64.wrap (x5 + (↑n20 : Int)), ()), ((a6, n7, c8), ()), (x9, ()), (IntKind.i64.wrap (x10 + (1 : Int)), ()), ())
        )
      ) (
        π.nw (Go.Obj.cells #[] (53 : Nat) ((0 : Nat), (0 : Nat))) fun r22 =>
        π.app (53 : Nat) (8 : Nat) (88 : Nat) [(Go.Value.int (IntKind.i64) ((0 : Int))), (Go.Value.int (IntKind.i64) ((0 : Int))), (Go.Value.bool (false)), (Go.Value.int (IntKind.i64) ((0 : Int))), (Go.Value.int (IntKind.i64) ((0 : Int))), (Go.Value.string (ByteArray.mk #[])), (Go.Value.int (IntKind.i64) ((0 : Int))), (Go.Value.slice (none) ((0 : Nat)) ((0 : Nat)))] (some (Addr.mk r22 (0 : Nat) none)) ((0 : Nat)) ((0 : Nat)) (Src.sl a an) fun a23 n24 c25 =>
        π.call (21 : Nat) #[(Go.Value.int (IntKind.i64) (id)), (Go.Value.int (IntKind.i64) (size)), (Go.Value.slice (a23) (n24) (c25))] (true, [(false, [.ptr]), (false, [.int .i64])]) fun ((p26, _), ((x27 : Int), _), _) =>
        π.call (22 : Nat) #[(Go.Value.int (IntKind.i64) (id)), (Go.Value.int (IntKind.i64) (size)), (Go.Value.slice (a) (an) (ac))] (true, [(false, [.ptr]), (false, [.int .i64])]) fun ((p28, _), ((x29 : Int), _), _) =>
        π.join [(false, [.ptr]), (false, [.ptr])] (fun J30 =>
          π.ite (x27 != x29) (
            π.ite (x27 == x29) (
              π.ret (Go.Value.bool (p26.isNone))
            ) (
              π.ret (Go.Value.bool (false))
            )
          ) (
            π.ite (x29 != (0 : Int)) (
              π.ite (x27 == x29) (
                π.ret (Go.Value.bool (p26.isNone))
              ) (
                π.ret (Go.Value.bool (false))
              )
            ) (
              J30 ((p26, ()), (p28, ()), ())
            )
          )
        ) (fun ((p31, _), (p32, _), _) =>
          π.call (17 : Nat) #[(Go.Value.pointer (p31))] (true, [(true, [.int .i64, .int .i64, .bool, .int .i64, .int .i64, .str, .int .i64, .slice]), (false, [.bool])]) fun (((x33 : Int), (x34 : Int), (b35 : Bool), (x36 : Int), (x37 : Int), (t38 : ByteArray), (x39 : Int), ((a40 : Option Addr), (n41 : Nat), (c42 : Nat)), _), ((b43 : Bool), _), _) =>
          π.call (16 : Nat) #[(Go.Value.pointer (p31)), (Go.Value.pointer (p32))] (false, [(false, [.bool])]) fun (((b44 : Bool), _), _) =>
          π.ite (b44) (
            π.ret (Go.Value.bool (!b43))
          ) (
            π.ret (Go.Value.bool (false))
          )
        )
      )
  )

def ann_BallotLoads2 : Ann := { draws := [], join := [(3, []), (15, [(10, 23), (12, 46)])], loop := [(5, [(7, 3), (24, 59), (25, 3), (26, 3)])] }
def la_BallotLoads2 : LA := { ptr := [(9, 9, 0), (14, 14, 0), (31, 9, 7)], ty := [(9, 53), (14, 53)] }
set_option maxRecDepth 100000 in
theorem eq_BallotLoads2 {W : Type} (π : Prims W) (id size : Int) (a : Option Addr) (an ac : Nat) : bodyL π Try.prog la_BallotLoads2 ann_BallotLoads2 (mkFr (maskA [] [.v (.int .i64 id), .v (.int .i64 size), .v (.slice a an ac)] 0) 80) Try.f6 (bodyOf Try.f6) (mkFr (List.map some [.v (.int .i64 id), .v (.int .i64 size), .v (.slice a an ac)]) 80) = vc_BallotLoads2 π id size a an ac := by kernel_rfl
theorem ok_BallotLoads2 (id size : Int) (a : Option Addr) (an ac : Nat) (R : Value → PH → Prop) (s : PH) (h : vc_BallotLoads2 (RP Try.prog R) id size a an ac s) : DCalls Try.prog 6 (List.map AV.val [.v (.int .i64 id), .v (.int .i64 size), .v (.slice a an ac)]).toArray s R :=
  calls_vcL (c := bodyOf Try.f6) (ann := ann_BallotLoads2) la_BallotLoads2 (by kernel_rfl) Try.func6 rfl (by kernel_rfl) [.v (.int .i64 id), .v (.int .i64 size), .v (.slice a an ac)] [] (by rw [Try.ntmps6]; exact Nat.le_of_ble_eq_true rfl) (by kernel_rfl) (by rw [show Try.f6.ntmps = 80 from Try.ntmps6, eq_BallotLoads2]; exact h)

/-- lintel/ballot.Load -/
def vc_Load2 {W : Type} (π : Prims W) (id size : Int) (a : Option Addr) (an ac : Nat) : W :=
  π.call (7 : Nat) #[(Go.Value.int (IntKind.i64) (id)), (Go.Value.int (IntKind.i64) (size))] (true, [(false, [.ptr]), (false, [.int .i64])]) fun ((p0, _), ((x1 : Int), _), _) =>
  π.ite (x1 != (0 : Int)) (
    π.ret (Go.Value.tuple #[(Go.Value.pointer (none)), (Go.Value.int (IntKind.i64) (x1))])
  ) (
    π.loop [(false, [.ptr]), (false, [.slice]), (false, [.int .i64]), (false, [.int .i64])] ((p0, ()), ((a, an, ac), ()), ((↑an : Int), ()), ((0 : Int), ()), ()) fun ((p3, _), (((a4 : Option Addr), (n5 : Nat), (c6 : Nat)), _), ((x7 : Int), _), ((x8 : Int), _), _) again2 =>
      π.ite (decide (x8 < x7)) (
        π.guard ((0 : Int) ≤ x8 ∧ x8 < (↑n5 : Int)) <|
        π.unSome (a4) fun p9 =>
        π.ld [.int .i64, .int .i64, .bool, .int .i64, .int .i64, .str, .int .i64, .slice] (p9.add (x8.toNat * (8 : Nat))) fun ((x10 : Int), (x11 : Int), (b12 : Bool), (x13 : Int), (x14 : Int), (t15 : ByteArray), (x16 : Int), ((a17 : Option Addr), (n18 : Nat), (c19 : Nat)), _) =>
        π.join [(false, [.ptr]), (true, [.int .i64, .int .i64, .bool, .int .i64, .int .i64, .str, .int .i64, .slice]), (false, [.slice]), (false, [.int .i64]), (false, [.int .i64]), (false, [.bool])] (fun J20 =>
          π.join [(false, [.ptr]), (true, [.int .i64, .int .i64, .bool, .int .i64, .int .i64, .str, .int .i64, .slice]), (false, [.slice]), (false, [.int .i64]), (false, [.int .i64]), (false, [.bool])] (fun J21 =>
            π.ite (decide (x10 < (0 : Int))) (
              J21 ((p3, ()), (x10, x11, b12, x13, x14, t15, x16, (a17, n18, c19), ()), ((a4, n5, c6), ()), (x7, ()), (x8, ()), (true, ()), ())
            ) (
              π.ite (decide (x10 > (2199023255552 : Int))) (
                J21 ((p3, ()), (x10, x11, b12, x13, x14, t15, x16, (a17, n18, c19), ()), ((a4, n5, c6), ()), (x7, ()), (x8, ()), (true, ()), ())
              ) (
                π.ite (decide (x11 < (-1 : Int))) (
                  J21 ((p3, ()), (x10, x11, b12, x13, x14, t15, x16, (a17, n18, c19), ()), ((a4, n5, c6), ()), (x7, ()), (x8, ()), (true, ()), ())
                ) (
                  J21 ((p3, ()), (x10, x11, b12, x13, x14, t15, x16, (a17, n18, c19), ()), ((a4, n5, c6), ()), (x7, ()), (x8, ()), (decide (x11 ≥ size), ()), ())
                )
              )
            )
          ) (fun ((p22, _), ((x23 : Int), (x24 : Int), (b25 : Bool), (x26 : Int), (x27 : Int), (t28 : ByteArray), (x29 : Int), ((a30 : Option Addr), (n31 : Nat), (c32 : Nat)), _), (((a33 : Option Addr), (n34 : Nat), (c35 : Nat)), _), ((x36 : Int), _), ((x37 : Int), _), ((b38 : Bool), _), _) =>
            π.ite (b38) (
              J20 ((p22, ()), (x23, x24, b25, x26, x27, t28, x29, (a30, n31, c32), ()), ((a33, n34, c35), ()), (x36, ()), (x37, ()), (true, ()), ())
            ) (
              π.ite (b25) (
                π.ite (decide (x26 < (0 : Int))) (
                  J20 ((p22, ()), (x23, x24, b25, x26, x27, t28, x29, (a30, n31, c32), ()), ((a33, n34, c35), ()), (x36, ()), (x37, ()), (true, ()), ())
                ) (
                  π.ite (decide (x26 > (2199023255552 : Int))) (
                    J20 ((p22, ()), (x23, x24, b25, x26, x27, t28, x29, (a30, n31, c32), ()), ((a33, n34, c35), ()), (x36, ()), (x37, ()), (true, ()), ())
                  ) (
                    π.ite (decide (x27 < (0 : Int))) (
                      J20 ((p22, ()), (x23, x24, b25, x26, x27, t28, x29, (a30, n31, c32), ()), ((a33, n34, c35), ()), (x36, ()), (x37, ()), (true, ()), ())
                    ) (
                      π.ite (decide (x27 > (2199023255552 : Int))) (
                        J20 ((p22, ()), (x23, x24, b25, x26, x27, t28, x29, (a30, n31, c32), ()), ((a33, n34, c35), ()), (x36, ()), (x37, ()), (true, ()), ())
                      ) (
                        π.ite (!b25) (
                          π.unSome (p22) fun p39 =>
                          π.ld [.int .i64] ((p39.add (2 : Nat)).add (4 : Nat)) fun ((x40 : Int), _) =>
                          π.ite (decide (x29 ≤ x40)) (
                            J20 ((p22, ()), (x23, x24, b25, x26, x27, t28, x29, (a30, n31, c32), ()), ((a33, n34, c35), ()), (x36, ()), (x37, ()), (true, ()), ())
                          ) (
                            π.callQ (26 : Nat) #[(Go.Value.pointer (p22))] (false, [(false, [.int .i64])]) fun (((x41 : Int), _), _) =>
                            J20 ((p22, ()), (x23, x24, b25, x26, x27, t28, x29, (a30, n31, c32), ()), ((a33, n34, c35), ()), (x36, ()), (x37, ()), (decide (x29 > IntKind.i64.wrap (x41 + (1 : Int))), ()), ())
                          )
                        ) (
                          J20 ((p22, ()), (x23, x24, b25, x26, x27, t28, x29, (a30, n31, c32), ()), ((a33, n34, c35), ()), (x36, ()), (x37, ()), (false, ()), ())
                        )
                      )
                    )
                  )
                )
              ) (
                π.ite (!b25) (
                  π.unSome (p22) fun p42 =>
                  π.ld [.int .i64] ((p42.add (2 : Nat)).add (4 : Nat)) fun ((x43 : Int), _) =>
                  π.ite (decide (x29 ≤ x43)) (
                    J20 ((p22, ()), (x23, x24, b25, x26, x27, t28, x29, (a30, n31, c32), ()), ((a33, n34, c35), ()), (x36, ()), (x37, ()), (true, ()), ())
                  ) (
                    π.callQ (26 : Nat) #[(Go.Value.pointer (p22))] (false, [(false, [.int .i64])]) fun (((x44 : Int), _), _) =>
                    J20 ((p22, ()), (x23, x24, b25, x26, x27, t28, x29, (a30, n31, c32), ()), ((a33, n34, c35), ()), (x36, ()), (x37, ()), (decide (x29 > IntKind.i64.wrap (x44 + (1 : Int))), ()), ())
                  )
                ) (
                  J20 ((p22, ()), (x23, x24, b25, x26, x27, t28, x29, (a30, n31, c32), ()), ((a33, n34, c35), ()), (x36, ()), (x37, ()), (false, ()), ())
                )
              )
            )
          )
        ) (fun ((p45, _), ((x46 : Int), (x47 : Int), (b48 : Bool), (x49 : Int), (x50 : Int), (t51 : ByteArray), (x52 : Int), ((a53 : Option Addr), (n54 : Nat), (c55 : Nat)), _), (((a56 : Option Addr), (n57 : Nat), (c58 : Nat)), _), ((x59 : Int), _), ((x60 : Int), _), ((b61 : Bool), _), _) =>
          π.ite (b61) (
            π.ret (Go.Value.tuple #[(Go.Value.pointer (none)), (Go.Value.int (IntKind.i64) ((100 : Int)))])
          ) (
            π.ite (b48) (
              π.call (38 : Nat) #[(Go.Value.slice (a53) (n54) (c55))] (false, [(false, [.slice])]) fun ((((a62 : Option Addr), (n63 : Nat), (c64 : Nat)), _), _) =>
              π.unSome (p45) fun p65 =>
              π.st ((p65.add (2 : Nat)).add (4 : Nat)) [(Go.Value.int (IntKind.i64) (x49))] <|
              π.unSome (p45) fun p66 =>
              π.st (p66.add (9 : Nat)) [(Go.Value.int (IntKind.i64) (x50))] <|
              π.unSome (p45) fun p67 =>
              π.st (p67.add (10 : Nat)) [(Go.Value.string (t51))] <|
              π.unSome (p45) fun p68 =>
              π.st (p68.add (11 : Nat)) [(Go.Value.slice (a62) (n63) (c64))] <|
              π.unSome (p45) fun p69 =>
              π.st ((p69.add (2 : Nat)).add (0 : Nat)) [(Go.Value.int (IntKind.i64) (x46))] <|
              π.unSome (p45) fun p70 =>
              π.st ((p70.add (2 : Nat)).add (1 : Nat)) [(Go.Value.int (IntKind.i64) (x47))] <|
              again2 ((p45, ()), ((a56, n57, c58), ()), (x59, ()), (IntKind.i64.wrap (x60 + (1 : Int)), ()), ())
            ) (
              π.unSome (p45) fun p71 =>
              π.ld [.slice] (p71.add (11 : Nat)) fun (((a72 : Option Addr), (n73 : Nat), (c74 : Nat)), _) =>
              π.unSome (p45) fun p75 =>
              π.ld [.int .i64] ((p75.add (2 : Nat)).add (4 : Nat)) fun ((x76 : Int), _) =>
              π.unSome (p45) fun p77 =>
              π.ld [.int .i64] ((p77.add (2 : Nat)).add (4 : Nat)) fun ((x78 : Int), _) =>
              π.guard ((0 : Int) ≤ (0 : Int) ∧ (0 : Int) ≤ IntKind.i64.wrap (IntKind.i64.wrap (x52 - x76) - (1 : Int)) ∧ IntKind.i64.wrap (IntKind.i64.wrap (x52 - x76) - (1 : Int)) ≤ IntKind.i64.wrap (IntKind.i64.wrap (x52 - x78) - (1 : Int)) ∧ IntKind.i64.wrap (IntKind.i64.wrap (x52 - x78) - (1 : Int)) ≤ (↑c74 : Int)) <|
              π.app (39 : Nat) (4 : Nat) (40 : Nat) [(Go.Value.int (IntKind.i64) ((0 : Int))), (Go.Value.int (IntKind.i64) ((0 : Int))), (Go.Value.int (IntKind.i64) ((0 : Int))), (Go.Value.string (ByteArray.mk #[]))] (if (IntKind.i64.wrap (IntKind.i64.wrap (x52 - x78) - (1 : Int))).toNat = (0 : Nat) then a72 else Option.map (fun x => x.add (0 : Nat)) a72) ((IntKind.i64.wrap (IntKind.i64.wrap (x52 - x76) - (1 : Int))).toNat - (0 : Nat)) ((IntKind.i64.wrap (IntKind.i64.wrap (x52 - x78) - (1 : Int))).toNat - (0 : Nat)) (Src.sl a53 n54) fun a79 n80 c81 =>
              π.unSome (p45) fun p82 =>
              π.st (p82.add (11 : Nat)) [(Go.Value.slice (a79) (n80) (c81))] <|
              π.unSome (p45) fun p83 =>
              π.st ((p83.add (2 : Nat)).add (0 : Nat)) [(Go.Value.int (IntKind.i64) (x46))] <|
              π.unSome (p45) fun p84 =>
              π.st ((p84.add (2 : Nat)).add (1 : Nat)) [(Go.Value.int (IntKind.i64) (x47))] <|
              again2 ((p45, ()), ((a56, n57, c58), ()), (x59, ()), (IntKind.i64.wrap (x60 + (1 : Int)), ()), ())
            )
          )
        )
      ) (
        π.unSome (p3) fun p85 =>
        π.ld [.int .i64] ((p85.add (2 : Nat)).add (4 : Nat)) fun ((x86 : Int), _) =>
        π.unSome (p3) fun p87 =>
        π.st ((p87.add (2 : Nat)).add (6 : Nat)) [(Go.Value.int (IntKind.i64) (x86))] <|
        π.call (23 : Nat) #[(Go.Value.pointer (p3))] (true, []) fun (_) =>
        π.ret (Go.Value.tuple #[(Go.Value.pointer (p3)), (Go.Value.int (IntKind.i64) ((0 : Int)))])
      )
  )

def ann_Load2 : Ann := { draws := [(10, { A := [0, 1, 2, 3, 4, 5, 6, 7, 8, 9, 10, 11, 12, 13, 14, 15, 16, 17, 18, 19, 20, 21], quiet := [16] }), (13, { A := [0, 1, 2, 3, 4, 5, 6, 7, 8, 9, 10, 11], chkL := [(12, [5, 7, 9]), (16, [7, 9]), (19, [9])], eag := [13, 14, 15, 17, 18, 20, 21, 23, 24] }), (7, { A := [0, 1, 2, 3, 4, 5, 6, 7, 8, 9, 10, 11, 12, 13, 14, 15, 16, 17, 18, 19, 20, 21, 22, 23, 24, 25], eag := [27, 28] }), (14, { A := [0, 1, 2, 3, 4, 5, 6, 7, 8], chkL := [(9, [5])], eag := [10, 11, 12] })], join := [(9, [(8, 23), (11, 53), (21, 59), (22, 3), (23, 3), (56, 4)]), (11, [(8, 23), (11, 53), (21, 59), (22, 3), (23, 3), (56, 4)])], loop := [(5, [(8, 23), (21, 59), (22, 3), (23, 3)])] }
def la_Load2 : LA := { ptr := [(11, 11, 0), (57, 11, 0), (61, 11, 0), (66, 11, 1), (71, 11, 1), (76, 11, 2), (79, 11, 3), (83, 11, 3), (88, 11, 4), (93, 11, 4), (98, 11, 2), (102, 11, 6), (111, 11, 6), (120, 11, 2), (126, 11, 3), (128, 11, 4), (130, 11, 5), (132, 11, 7), (32, 11, 6), (41, 11, 6), (51, 11, 7), (146, 11, 0), (148, 11, 1)], ty := [(11, 53)] }
set_option maxRecDepth 100000 in
theorem eq_Load2 {W : Type} (π : Prims W) (id size : Int) (a : Option Addr) (an ac : Nat) : bodyL π Try.prog la_Load2 ann_Load2 (mkFr (maskA [] [.v (.int .i64 id), .v (.int .i64 size), .v (.slice a an ac)] 0) 169) Try.f21 (bodyOf Try.f21) (mkFr (List.map some [.v (.int .i64 id), .v (.int .i64 size), .v (.slice a an ac)]) 169) = vc_Load2 π id size a an ac := by kernel_rfl
theorem ok_Load2 (id size : Int) (a : Option Addr) (an ac : Nat) (R : Value → PH → Prop) (s : PH) (h : vc_Load2 (RP Try.prog R) id size a an ac s) : DCalls Try.prog 21 (List.map AV.val [.v (.int .i64 id), .v (.int .i64 size), .v (.slice a an ac)]).toArray s R :=
  calls_vcL (c := bodyOf Try.f21) (ann := ann_Load2) la_Load2 (by kernel_rfl) Try.func21 rfl (by kernel_rfl) [.v (.int .i64 id), .v (.int .i64 size), .v (.slice a an ac)] [] (by rw [Try.ntmps21]; exact Nat.le_of_ble_eq_true rfl) (by kernel_rfl) (by rw [show Try.f21.ntmps = 169 from Try.ntmps21, eq_Load2]; exact h)

/-- lintel/lintelref09.Load -/
def vc_rLoad2 {W : Type} (π : Prims W) (id size : Int) (a : Option Addr) (an ac : Nat) : W :=
  π.call (13 : Nat) #[(Go.Value.int (IntKind.i64) (id)), (Go.Value.int (IntKind.i64) (size))] (true, [(false, [.ptr]), (false, [.bool])]) fun ((p0, _), ((b1 : Bool), _), _) =>
  π.ite (!b1) (
    π.ret (Go.Value.tuple #[(Go.Value.pointer (none)), (Go.Value.int (IntKind.i64) ((1 : Int)))])
  ) (
    π.loop [(false, [.ptr]), (false, [.int .i64])] ((p0, ()), ((0 : Int), ()), ()) fun ((p3, _), ((x4 : Int), _), _) again2 =>
      π.ite (decide (x4 < (↑an : Int))) (
        π.guard ((0 : Int) ≤ x4 ∧ x4 < (↑an : Int)) <|
        π.unSome (a) fun p5 =>
        π.ld [.int .i64, .int .i64, .bool, .int .i64, .int .i64, .str, .int .i64, .slice] (p5.add (x4.toNat * (8 : Nat))) fun ((x6 : Int), (x7 : Int), (b8 : Bool), (x9 : Int), (x10 : Int), (t11 : ByteArray), (x12 : Int), ((a13 : Option Addr), (n14 : Nat), (c15 : Nat)), _) =>
        π.join [(false, [.ptr]), (false, [.int .i64]), (true, [.int .i64, .int .i64, .bool, .int .i64, .int .i64, .str, .int .i64, .slice])] (fun J16 =>
          π.ite (decide (x6 < (0 : Int))) (
            π.ret (Go.Value.tuple #[(Go.Value.pointer (none)), (Go.Value.int (IntKind.i64) ((100 : Int)))])
          ) (
            π.ite (decide (x6 > (2199023255552 : Int))) (
              π.ret (Go.Value.tuple #[(Go.Value.pointer (none)), (Go.Value.int (IntKind.i64) ((100 : Int)))])
            ) (
              π.ite (decide (x7 < (-1 : Int))) (
                π.ret (Go.Value.tuple #[(Go.Value.pointer (none)), (Go.Value.int (IntKind.i64) ((100 : Int)))])
              ) (
                π.ite (decide (x7 ≥ size)) (
                  π.ret (Go.Value.tuple #[(Go.Value.pointer (none)), (Go.Value.int (IntKind.i64) ((100 : Int)))])
                ) (
                  J16 ((p3, ()), (x4, ()), (x6, x7, b8, x9, x10, t11, x12, (a13, n14, c15), ()), ())
                )
              )
            )
          )
        ) (fun ((p17, _), ((x18 : Int), _), ((x19 : Int), (x20 : Int), (b21 : Bool), (x22 : Int), (x23 : Int), (t24 : ByteArray), (x25 : Int), ((a26 : Option Addr), (n27 : Nat), (c28 : Nat)), _), _) =>
          π.ite (b21) (
            π.join [(false, [.ptr]), (false, [.int .i64]), (true, [.int .i64, .int .i64, .bool, .int .i64, .int .i64, .str, .int .i64, .slice])] (fun J29 =>
              π.ite (decide (x22 < (0 : Int))) (
                π.ret (Go.Value.tuple #[(Go.Value.pointer (none)), (Go.Value.int (IntKind.i64) ((100 : Int)))])
              ) (
                π.ite (decide (x22 > (2199023255552 : Int))) (
                  π.ret (Go.Value.tuple #[(Go.Value.pointer (none)), (Go.Value.int (IntKind.i64) ((100 : Int)))])
                ) (
                  π.ite (decide (x23 < (0 : Int))) (
                    π.ret (Go.Value.tuple #[(Go.Value.pointer (none)), (Go.Value.int (IntKind.i64) ((100 : Int)))])
                  ) (
                    π.ite (decide (x23 > (2199023255552 : Int))) (
                      π.ret (Go.Value.tuple #[(Go.Value.pointer (none)), (Go.Value.int (IntKind.i64) ((100 : Int)))])
                    ) (
                      J29 ((p17, ()), (x18, ()), (x19, x20, b21, x22, x23, t24, x25, (a26, n27, c28), ()), ())
                    )
                  )
                )
              )
            ) (fun ((p30, _), ((x31 : Int), _), ((x32 : Int), (x33 : Int), (b34 : Bool), (x35 : Int), (x36 : Int), (t37 : ByteArray), (x38 : Int), ((a39 : Option Addr), (n40 : Nat), (c41 : Nat)), _), _) =>
              π.unSome (p30) fun p42 =>
              π.st (p42.add (6 : Nat)) [(Go.Value.int (IntKind.i64) (x35))] <|
              π.unSome (p30) fun p43 =>
              π.st (p43.add (7 : Nat)) [(Go.Value.int (IntKind.i64) (x36))] <|
              π.unSome (p30) fun p44 =>
              π.st (p44.add (8 : Nat)) [(Go.Value.string (t37))] <|
              π.nw (Go.Obj.cells #[] (39 : Nat) ((0 : Nat), (0 : Nat))) fun r45 =>
              π.app (39 : Nat) (4 : Nat) (40 : Nat) [(Go.Value.int (IntKind.i64) ((0 : Int))), (Go.Value.int (IntKind.i64) ((0 : Int))), (Go.Value.int (IntKind.i64) ((0 : Int))), (Go.Value.string (ByteArray.mk #[]))] (some (Addr.mk r45 (0 : Nat) none)) ((0 : Nat)) ((0 : Nat)) (Src.sl a39 n40) fun a46 n47 c48 =>
              π.unSome (p30) fun p49 =>
              π.st (p49.add (9 : Nat)) [(Go.Value.slice (a46) (n47) (c48))] <|
              π.unSome (p30) fun p50 =>
              π.st (p50.add (2 : Nat)) [(Go.Value.int (IntKind.i64) (x32))] <|
              π.unSome (p30) fun p51 =>
              π.st (p51.add (3 : Nat)) [(Go.Value.int (IntKind.i64) (x33))] <|
              again2 ((p30, ()), (IntKind.i64.wrap (x31 + (1 : Int)), ()), ())
            )
          ) (
            π.join [(false, [.ptr]), (false, [.int .i64]), (true, [.int .i64, .int .i64, .bool, .int .i64, .int .i64, .str, .int .i64, .slice])] (fun J52 =>
              π.unSome (p17) fun p53 =>
              π.ld [.int .i64] (p53.add (6 : Nat)) fun ((x54 : Int), _) =>
              π.ite (decide (x25 < IntKind.i64.wrap (x54 + (1 : Int)))) (
                π.ret (Go.Value.tuple #[(Go.Value.pointer (none)), (Go.Value.int (IntKind.i64) ((100 : Int)))])
              ) (
                π.call (37 : Nat) #[(Go.Value.pointer (p17))] (false, [(false, [.int .i64])]) fun (((x55 : Int), _), _) =>
                π.ite (decide (x25 > IntKind.i64.wrap (x55 + (1 : Int)))) (
                  π.ret (Go.Value.tuple #[(Go.Value.pointer (none)), (Go.Value.int (IntKind.i64) ((100 : Int)))])
                ) (
                  J52 ((p17, ()), (x18, ()), (x19, x20, b21, x22, x23, t24, x25, (a26, n27, c28), ()), ())
                )
              )
            ) (fun ((p56, _), ((x57 : Int), _), ((x58 : Int), (x59 : Int), (b60 : Bool), (x61 : Int), (x62 : Int), (t63 : ByteArray), (x64 : Int), ((a65 : Option Addr), (n66 : Nat), (c67 : Nat)), _), _) =>
              π.unSome (p56) fun p68 =>
              π.ld [.slice] (p68.add (9 : Nat)) fun (((a69 : Option Addr), (n70 : Nat), (c71 : Nat)), _) =>
              π.unSome (p56) fun p72 =>
              π.ld [.int .i64] (p72.add (6 : Nat)) fun ((x73 : Int), _) =>
              π.guard ((0 : Int) ≤ (0 : Int) ∧ (0 : Int) ≤ IntKind.i64.wrap (IntKind.i64.wrap (x64 - x73) - (1 : Int)) ∧ IntKind.i64.wrap (IntKind.i64.wrap (x64 - x73) - (1 : Int)) ≤ (↑c71 : Int)) <|
              π.nw (Go.Obj.cells #[] (39 : Nat) ((0 : Nat), (0 : Nat))) fun r74 =>
              π.app (39 : Nat) (4 : Nat) (40 : Nat) [(Go.Value.int (IntKind.i64) ((0 : Int))), (Go.Value.int (IntKind.i64) ((0 : Int))), (Go.Value.int (IntKind.i64) ((0 : Int))), (Go.Value.string (ByteArray.mk #[]))] (some (Addr.mk r74 (0 : Nat) none)) ((0 : Nat)) ((0 : Nat)) (Src.sl (if c71 = (0 : Nat) then a69 else Option.map (fun x => x.add (0 : Nat)) a69) ((IntKind.i64.wrap (IntKind.i64.wrap (x64 - x73) - (1 : Int))).toNat - (0 : Nat))) fun a75 n76 c77 =>
              π.app (39 : Nat) (4 : Nat) (40 : Nat) [(Go.Value.int (IntKind.i64) ((0 : Int))), (Go.Value.int (IntKind.i64) ((0 : Int))), (Go.Value.int (IntKind.i64) ((0 : Int))), (Go.Value.string (ByteArray.mk #[]))] (a75) (n76) (c77) (Src.sl a65 n66) fun a78 n79 c80 =>
              π.unSome (p56) fun p81 =>
              π.st (p81.add (9 : Nat)) [(Go.Value.slice (a78) (n79) (c80))] <|
              π.unSome (p56) fun p82 =>
              π.st (p82.add (2 : Nat)) [(Go.Value.int (IntKind.i64) (x58))] <|
              π.unSome (p56) fun p83 =>
              π.st (p83.add (3 : Nat)) [(Go.Value.int (IntKind.i64) (x59))] <|
              again2 ((p56, ()), (IntKind.i64.wrap (x57 + (1 : Int)), ()), ())
            )
          )
        )
      ) (
        π.unSome (p3) fun p84 =>
        π.ld [.int .i64] (p84.add (6 : Nat)) fun ((x85 : Int), _) =>
        π.unSome (p3) fun p86 =>
        π.st (p86.add (25 : Nat)) [(Go.Value.int (IntKind.i64) (x85))] <|
        π.call (37 : Nat) #[(Go.Value.pointer (p3))] (false, [(false, [.int .i64])]) fun (((x87 : Int), _), _) =>
        π.unSome (p3) fun p88 =>
        π.st (p88.add (28 : Nat)) [(Go.Value.int (IntKind.i64) (IntKind.i64.wrap (x87 + (1 : Int))))] <|
        π.ret (Go.Value.tuple #[(Go.Value.pointer (p3)), (Go.Value.int (IntKind.i64) ((0 : Int)))])
      )
  )

def ann_rLoad2 : Ann := { draws := [(17, { A := [0, 1, 2, 3, 4, 5, 6, 7, 8, 9, 10, 11], chkL := [(12, [10])], eag := [13, 14, 15] }), (19, { A := [1, 2, 3, 4, 5, 6, 7, 8, 9, 10, 11, 12, 13], eag := [15] })], join := [(10, [(8, 46), (10, 3), (11, 53)]), (13, [(8, 46), (10, 3), (11, 53)]), (19, [(8, 46), (10, 3), (11, 53)])], loop := [(5, [(8, 46), (10, 3)])] }
def la_rLoad2 : LA := { ptr := [(11, 11, 0), (31, 11, 0), (35, 11, 0), (40, 11, 1), (45, 11, 1), (50, 11, 2), (52, 11, 3), (56, 11, 3), (61, 11, 4), (66, 11, 4), (71, 11, 3), (76, 11, 4), (81, 11, 5), (87, 11, 7), (92, 11, 6), (101, 11, 6), (113, 11, 6), (125, 11, 7), (131, 11, 0), (136, 11, 1)], ty := [(11, 53)] }
set_option maxRecDepth 100000 in
theorem eq_rLoad2 {W : Type} (π : Prims W) (id size : Int) (a : Option Addr) (an ac : Nat) : bodyL π Try.prog la_rLoad2 ann_rLoad2 (mkFr (maskA [] [.v (.int .i64 id), .v (.int .i64 size), .v (.slice a an ac)] 0) 154) Try.f22 (bodyOf Try.f22) (mkFr (List.map some [.v (.int .i64 id), .v (.int .i64 size), .v (.slice a an ac)]) 154) = vc_rLoad2 π id size a an ac := by kernel_rfl
theorem ok_rLoad2 (id size : Int) (a : Option Addr) (an ac : Nat) (R : Value → PH → Prop) (s : PH) (h : vc_rLoad2 (RP Try.prog R) id size a an ac s) : DCalls Try.prog 22 (List.map AV.val [.v (.int .i64 id), .v (.int .i64 size), .v (.slice a an ac)]).toArray s R :=
  calls_vcL (c := bodyOf Try.f22) (ann := ann_rLoad2) la_rLoad2 (by kernel_rfl) Try.func22 rfl (by kernel_rfl) [.v (.int .i64 id), .v (.int .i64 size), .v (.slice a an ac)] [] (by rw [Try.ntmps22]; exact Nat.le_of_ble_eq_true rfl) (by kernel_rfl) (by rw [show Try.f22.ntmps = 154 from Try.ntmps22, eq_rLoad2]; exact h)

/-- lintel/lintellaw09.stands -/
def vc_stands2 {W : Type} (π : Prims W) (b r : Nat) : W :=
  π.call (10 : Nat) #[(Go.Value.pointer (some (Addr.mk b (0 : Nat) none)))] (false, [(true, [.int .i64, .int .i64, .int .i64, .int .i64, .int .i64, .int .i64, .int .i64])]) fun (((x0 : Int), (x1 : Int), (x2 : Int), (x3 : Int), (x4 : Int), (x5 : Int), (x6 : Int), _), _) =>
  π.join [] (fun J7 =>
    π.unSome (some (Addr.mk r (0 : Nat) none)) fun p8 =>
    π.ld [.int .i64] (p8.add (2 : Nat)) fun ((x9 : Int), _) =>
    π.unSome (some (Addr.mk r (0 : Nat) none)) fun p10 =>
    π.ld [.int .i64] (p10.add (3 : Nat)) fun ((x11 : Int), _) =>
    π.unSome (some (Addr.mk r (0 : Nat) none)) fun p12 =>
    π.ld [.int .i64] (p12.add (4 : Nat)) fun ((x13 : Int), _) =>
    π.unSome (some (Addr.mk r (0 : Nat) none)) fun p14 =>
    π.ld [.int .i64] (p14.add (5 : Nat)) fun ((x15 : Int), _) =>
    π.unSome (some (Addr.mk r (0 : Nat) none)) fun p16 =>
    π.ld [.int .i64] (p16.add (6 : Nat)) fun ((x17 : Int), _) =>
    π.unSome (some (Addr.mk r (0 : Nat) none)) fun p18 =>
    π.ld [.int .i64] (p18.add (25 : Nat)) fun ((x19 : Int), _) =>
    π.call (37 : Nat) #[(Go.Value.pointer (some (Addr.mk r (0 : Nat) none)))] (false, [(false, [.int .i64])]) fun (((x20 : Int), _), _) =>
    π.still [.int .i64] (p8.add (2 : Nat)) (x9, ()) <|
    π.still [.int .i64] (p10.add (3 : Nat)) (x11, ()) <|
    π.still [.int .i64] (p12.add (4 : Nat)) (x13, ()) <|
    π.still [.int .i64] (p14.add (5 : Nat)) (x15, ()) <|
    π.still [.int .i64] (p16.add (6 : Nat)) (x17, ()) <|
    π.still [.int .i64] (p18.add (25 : Nat)) (x19, ()) <|
    π.ite (!(x0 == x9 && (x1 == x11 && (x2 == x13 && (x3 == x15 && (x4 == x17 && (x5 == x20 && (x6 == x19 && true)))))))) (
      π.both (
        π.ret (Go.Value.bool (false))
      ) (
        π.ret (Go.Value.bool (false))
      )
    ) (
      π.unSome (some (Addr.mk r (0 : Nat) none)) fun p21 =>
      π.both (
        π.call (20 : Nat) #[(Go.Value.pointer (some (Addr.mk b (0 : Nat) none)))] (false, [(false, [.str])]) fun (((t22 : ByteArray), _), _) =>
        π.ld [.str] (p21.add (8 : Nat)) fun ((t23 : ByteArray), _) =>
        π.ite (!t22.toList == t23.toList) (
          π.ret (Go.Value.bool (false))
        ) (
          J7 (())
        )
      ) (
        π.ld [.str] (p21.add (8 : Nat)) fun ((t24 : ByteArray), _) =>
        π.call (20 : Nat) #[(Go.Value.pointer (some (Addr.mk b (0 : Nat) none)))] (false, [(false, [.str])]) fun (((t25 : ByteArray), _), _) =>
        π.ite (!t25.toList == t24.toList) (
          π.ret (Go.Value.bool (false))
        ) (
          J7 (())
        )
      )
    )
  ) (fun (_) =>
    π.unSome (some (Addr.mk r (0 : Nat) none)) fun p26 =>
    π.ld [.slice] (p26.add (9 : Nat)) fun (((a27 : Option Addr), (n28 : Nat), (c29 : Nat)), _) =>
    π.loop [(false, [.int .i64]), (false, [.int .i64])] (((↑n28 : Int), ()), ((0 : Int), ()), ()) fun (((x31 : Int), _), ((x32 : Int), _), _) again30 =>
      π.ite (decide (x32 < x31)) (
        π.unSome (some (Addr.mk r (0 : Nat) none)) fun p33 =>
        π.ld [.int .i64] (p33.add (6 : Nat)) fun ((x34 : Int), _) =>
        π.call (11 : Nat) #[(Go.Value.pointer (some (Addr.mk b (0 : Nat) none))), (Go.Value.int (IntKind.i64) (IntKind.i64.wrap (IntKind.i64.wrap (x34 + (1 : Int)) + x32)))] (true, [(true, [.int .i64, .int .i64, .int .i64, .str]), (false, [.bool])]) fun (((x35 : Int), (x36 : Int), (x37 : Int), (t38 : ByteArray), _), ((b39 : Bool), _), _) =>
        π.ite (!b39) (
          π.ret (Go.Value.bool (false))
        ) (
          π.unSome (some (Addr.mk r (0 : Nat) none)) fun p40 =>
          π.ld [.slice] (p40.add (9 : Nat)) fun (((a41 : Option Addr), (n42 : Nat), (c43 : Nat)), _) =>
          π.guard ((0 : Int) ≤ x32 ∧ x32 < (↑n42 : Int)) <|
          π.unSome (a41) fun p44 =>
          π.ld [.int .i64, .int .i64, .int .i64, .str] (p44.add (x32.toNat * (4 : Nat))) fun ((x45 : Int), (x46 : Int), (x47 : Int), (t48 : ByteArray), _) =>
          π.ite (!(x35 == x45 && (x36 == x46 && (x37 == x47 && (t38 == t48 && true))))) (
            π.ret (Go.Value.bool (false))
          ) (
            again30 ((x31, ()), (IntKind.i64.wrap (x32 + (1 : Int)), ()), ())
          )
        )
      ) (
        π.unSome (some (Addr.mk r (0 : Nat) none)) fun p49 =>
        π.ld [.int .i64] (p49.add (6 : Nat)) fun ((x50 : Int), _) =>
        π.call (11 : Nat) #[(Go.Value.pointer (some (Addr.mk b (0 : Nat) none))), (Go.Value.int (IntKind.i64) (x50))] (true, [(true, [.int .i64, .int .i64, .int .i64, .str]), (false, [.bool])]) fun (((x51 : Int), (x52 : Int), (x53 : Int), (t54 : ByteArray), _), ((b55 : Bool), _), _) =>
        π.call (37 : Nat) #[(Go.Value.pointer (some (Addr.mk r (0 : Nat) none)))] (false, [(false, [.int .i64])]) fun (((x56 : Int), _), _) =>
        π.call (11 : Nat) #[(Go.Value.pointer (some (Addr.mk b (0 : Nat) none))), (Go.Value.int (IntKind.i64) (IntKind.i64.wrap (x56 + (1 : Int))))] (true, [(true, [.int .i64, .int .i64, .int .i64, .str]), (false, [.bool])]) fun (((x57 : Int), (x58 : Int), (x59 : Int), (t60 : ByteArray), _), ((b61 : Bool), _), _) =>
        π.ite (!b55) (
          π.ret (Go.Value.bool (!b61))
        ) (
          π.ret (Go.Value.bool (false))
        )
      )
  )

def ann_stands2 : Ann := { draws := [(2, { A := [0, 1, 2, 3, 4, 5, 6, 7, 8, 9, 10, 11, 12, 13, 14, 15, 16, 17, 18, 19, 20, 21, 23, 24, 25, 26], chkL := [(22, [0, 4, 8, 12, 16, 20, 26])], eag := [27, 28, 29, 30, 32, 33, 34, 36, 37] }), (8, { A := [0, 1, 2, 3, 4, 5, 6, 7, 8, 9, 10, 11, 12] })], join := [(4, [])], loop := [(5, [(57, 3), (58, 3)])] }
def la_stands2 : LA := { ptr := [(5, 5, 0), (7, 7, 0), (9, 9, 0), (11, 11, 0)], ty := [(5, 36), (7, 39), (9, 39), (11, 39)] }
set_option maxRecDepth 100000 in
theorem eq_stands2 {W : Type} (π : Prims W) (b r : Nat) : bodyL π Try.prog la_stands2 ann_stands2 (mkFr (maskA [] [.v (.pointer (some ⟨b, 0, none⟩)), .v (.pointer (some ⟨r, 0, none⟩))] 0) 110) Try.f16 (bodyOf Try.f16) (mkFr (List.map some [.v (.pointer (some ⟨b, 0, none⟩)), .v (.pointer (some ⟨r, 0, none⟩))]) 110) = vc_stands2 π b r := by kernel_rfl
theorem ok_stands2 (b r : Nat) (R : Value → PH → Prop) (s : PH) (h : vc_stands2 (RP Try.prog R) b r s) : DCalls Try.prog 16 (List.map AV.val [.v (.pointer (some ⟨b, 0, none⟩)), .v (.pointer (some ⟨r, 0, none⟩))]).toArray s R :=
  calls_vcL (c := bodyOf Try.f16) (ann := ann_stands2) la_stands2 (by kernel_rfl) Try.func16 rfl (by kernel_rfl) [.v (.pointer (some ⟨b, 0, none⟩)), .v (.pointer (some ⟨r, 0, none⟩))] [] (by rw [Try.ntmps16]; exact Nat.le_of_ble_eq_true rfl) (by kernel_rfl) (by rw [show Try.f16.ntmps = 110 from Try.ntmps16, eq_stands2]; exact h)

end Go.Proofs.Ytfpbiecmobdnnaa
