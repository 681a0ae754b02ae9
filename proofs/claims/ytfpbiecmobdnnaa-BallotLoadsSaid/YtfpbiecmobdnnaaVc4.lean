/-
  The laws; Load; the document's ballot: printed by a program of this session's own, each proved to be the function's by the kernel.
  Conditions: none; it proves no statement by itself.
-/
import Derived.Test.YtfpbiecmobdnnaaFwN
import Derived.Test.YtfpbiecmobdnnaaProg
set_option linter.unusedVariables false
set_option maxHeartbeats 1000000
namespace Go.Proofs.Ytfpbiecmobdnnaa
open Fw Fw.W Go

/-- lintel/lintellaw09.BallotStays -/
def vc_BallotStays {W : Type} (π : Prims W) (id size : Int) (a : Option Addr) (an ac : Nat) : W :=
  π.call (7 : Nat) #[(Go.Value.int (IntKind.i64) (id)), (Go.Value.int (IntKind.i64) (size))] (true, [(false, [.ptr]), (false, [.int .i64])]) fun ((p0, _), ((x1 : Int), _), _) =>
  π.join [(false, [.ptr])] (fun J2 =>
    π.call (8 : Nat) #[] (false, [(false, [.bool])]) fun (((b3 : Bool), _), _) =>
    π.ite (!b3) (
      π.call (8 : Nat) #[] (false, [(false, [.bool])]) fun (((b4 : Bool), _), _) =>
      π.ret (Go.Value.bool (b4))
    ) (
      π.call (9 : Nat) #[(Go.Value.slice (a) (an) (ac))] (false, [(false, [.bool])]) fun (((b5 : Bool), _), _) =>
      π.ite (b5) (
        π.call (8 : Nat) #[] (false, [(false, [.bool])]) fun (((b6 : Bool), _), _) =>
        π.ret (Go.Value.bool (b6))
      ) (
        π.ite (x1 != (0 : Int)) (
          π.call (8 : Nat) #[] (false, [(false, [.bool])]) fun (((b7 : Bool), _), _) =>
          π.ret (Go.Value.bool (b7))
        ) (
          J2 ((p0, ()), ())
        )
      )
    )
  ) (fun ((p8, _), _) =>
    π.nw (Obj.map #[] (0 : Nat)) fun r9 =>
    π.loop [(false, [.ptr]), (false, [.map]), (false, [.slice]), (false, [.int .i64]), (false, [.int .i64])] ((p8, ()), (some r9, ()), ((a, an, ac), ()), ((↑an : Int), ()), ((0 : Int), ()), ()) fun ((p11, _), ((m12 : Option Nat), _), (((a13 : Option Addr), (n14 : Nat), (c15 : Nat)), _), ((x16 : Int), _), ((x17 : Int), _), _) again10 =>
      π.ite (decide (x17 < x16)) (
        π.guard ((0 : Int) ≤ x17 ∧ x17 < (↑n14 : Int)) <|
        π.unSome (a13) fun p18 =>
        π.ld [.int .i64, .int .i64, .int .i64, .str, .int .i64, .int .i64, .int .i64, .int .i64, .int .i64, .int .i64, .int .i64, .bool, .slice, .str] (p18.add (x17.toNat * (14 : Nat))) fun ((x19 : Int), (x20 : Int), (x21 : Int), (t22 : ByteArray), (x23 : Int), (x24 : Int), (x25 : Int), (x26 : Int), (x27 : Int), (x28 : Int), (x29 : Int), (b30 : Bool), ((a31 : Option Addr), (n32 : Nat), (c33 : Nat)), (t34 : ByteArray), _) =>
        π.nw (Go.Obj.cells #[(Go.Value.int (IntKind.i64) ((0 : Int))), (Go.Value.int (IntKind.i64) ((0 : Int))), (Go.Value.int (IntKind.i64) ((0 : Int))), (Go.Value.string (ByteArray.mk #[])), (Go.Value.int (IntKind.i64) ((0 : Int))), (Go.Value.int (IntKind.i64) ((0 : Int))), (Go.Value.int (IntKind.i64) ((0 : Int))), (Go.Value.int (IntKind.i64) ((0 : Int))), (Go.Value.int (IntKind.i64) ((0 : Int))), (Go.Value.int (IntKind.i64) ((0 : Int))), (Go.Value.int (IntKind.i64) ((0 : Int))), (Go.Value.bool (false)), (Go.Value.slice (none) ((0 : Nat)) ((0 : Nat))), (Go.Value.string (ByteArray.mk #[]))] (34 : Nat) ((0 : Nat), (0 : Nat))) fun r35 =>
        π.st (Addr.mk r35 (0 : Nat) none) [(Go.Value.int (IntKind.i64) (x19)), (Go.Value.int (IntKind.i64) (x20)), (Go.Value.int (IntKind.i64) (x21)), (Go.Value.string (t22)), (Go.Value.int (IntKind.i64) (x23)), (Go.Value.int (IntKind.i64) (x24)), (Go.Value.int (IntKind.i64) (x25)), (Go.Value.int (IntKind.i64) (x26)), (Go.Value.int (IntKind.i64) (x27)), (Go.Value.int (IntKind.i64) (x28)), (Go.Value.int (IntKind.i64) (x29)), (Go.Value.bool (b30)), (Go.Value.slice (a31) (n32) (c33)), (Go.Value.string (t34))] <|
        π.call (10 : Nat) #[(Go.Value.pointer (p11))] (false, [(true, [.int .i64, .int .i64, .int .i64, .int .i64, .int .i64, .int .i64, .int .i64])]) fun (((x36 : Int), (x37 : Int), (x38 : Int), (x39 : Int), (x40 : Int), (x41 : Int), (x42 : Int), _), _) =>
        π.nw (Go.Obj.cells #[(Go.Value.int (IntKind.i64) ((0 : Int))), (Go.Value.int (IntKind.i64) ((0 : Int))), (Go.Value.int (IntKind.i64) ((0 : Int))), (Go.Value.int (IntKind.i64) ((0 : Int))), (Go.Value.int (IntKind.i64) ((0 : Int))), (Go.Value.int (IntKind.i64) ((0 : Int))), (Go.Value.int (IntKind.i64) ((0 : Int)))] (36 : Nat) ((0 : Nat), (0 : Nat))) fun r43 =>
        π.st (Addr.mk r43 (0 : Nat) none) [(Go.Value.int (IntKind.i64) (x36)), (Go.Value.int (IntKind.i64) (x37)), (Go.Value.int (IntKind.i64) (x38)), (Go.Value.int (IntKind.i64) (x39)), (Go.Value.int (IntKind.i64) (x40)), (Go.Value.int (IntKind.i64) (x41)), (Go.Value.int (IntKind.i64) (x42))] <|
        π.ld [.int .i64] ((Addr.mk r43 (0 : Nat) none).add (5 : Nat)) fun ((x44 : Int), _) =>
        π.call (11 : Nat) #[(Go.Value.pointer (p11)), (Go.Value.int (IntKind.i64) (x44))] (true, [(true, [.int .i64, .int .i64, .int .i64, .str]), (false, [.bool])]) fun (((x45 : Int), (x46 : Int), (x47 : Int), (t48 : ByteArray), _), ((b49 : Bool), _), _) =>
        π.nw (Go.Obj.cells #[(Go.Value.int (IntKind.i64) ((0 : Int))), (Go.Value.int (IntKind.i64) ((0 : Int))), (Go.Value.int (IntKind.i64) ((0 : Int))), (Go.Value.string (ByteArray.mk #[]))] (39 : Nat) ((0 : Nat), (0 : Nat))) fun r50 =>
        π.st (Addr.mk r50 (0 : Nat) none) [(Go.Value.int (IntKind.i64) (x45)), (Go.Value.int (IntKind.i64) (x46)), (Go.Value.int (IntKind.i64) (x47)), (Go.Value.string (t48))] <|
        π.ld [.int .i64, .int .i64, .int .i64, .str, .int .i64, .int .i64, .int .i64, .int .i64, .int .i64, .int .i64, .int .i64, .bool, .slice, .str] (Addr.mk r35 (0 : Nat) none) fun ((x51 : Int), (x52 : Int), (x53 : Int), (t54 : ByteArray), (x55 : Int), (x56 : Int), (x57 : Int), (x58 : Int), (x59 : Int), (x60 : Int), (x61 : Int), (b62 : Bool), ((a63 : Option Addr), (n64 : Nat), (c65 : Nat)), (t66 : ByteArray), _) =>
        π.call (12 : Nat) #[(Go.Value.pointer (p11)), (Go.Value.agg #[(Go.Value.int (IntKind.i64) (x51)), (Go.Value.int (IntKind.i64) (x52)), (Go.Value.int (IntKind.i64) (x53)), (Go.Value.string (t54)), (Go.Value.int (IntKind.i64) (x55)), (Go.Value.int (IntKind.i64) (x56)), (Go.Value.int (IntKind.i64) (x57)), (Go.Value.int (IntKind.i64) (x58)), (Go.Value.int (IntKind.i64) (x59)), (Go.Value.int (IntKind.i64) (x60)), (Go.Value.int (IntKind.i64) (x61)), (Go.Value.bool (b62)), (Go.Value.slice (a63) (n64) (c65)), (Go.Value.string (t66))])] (true, [(false, [.slice]), (false, [.int .i64])]) fun ((((a67 : Option Addr), (n68 : Nat), (c69 : Nat)), _), ((x70 : Int), _), _) =>
        π.call (10 : Nat) #[(Go.Value.pointer (p11))] (false, [(true, [.int .i64, .int .i64, .int .i64, .int .i64, .int .i64, .int .i64, .int .i64])]) fun (((x71 : Int), (x72 : Int), (x73 : Int), (x74 : Int), (x75 : Int), (x76 : Int), (x77 : Int), _), _) =>
        π.nw (Go.Obj.cells #[(Go.Value.int (IntKind.i64) ((0 : Int))), (Go.Value.int (IntKind.i64) ((0 : Int))), (Go.Value.int (IntKind.i64) ((0 : Int))), (Go.Value.int (IntKind.i64) ((0 : Int))), (Go.Value.int (IntKind.i64) ((0 : Int))), (Go.Value.int (IntKind.i64) ((0 : Int))), (Go.Value.int (IntKind.i64) ((0 : Int)))] (36 : Nat) ((0 : Nat), (0 : Nat))) fun r78 =>
        π.st (Addr.mk r78 (0 : Nat) none) [(Go.Value.int (IntKind.i64) (x71)), (Go.Value.int (IntKind.i64) (x72)), (Go.Value.int (IntKind.i64) (x73)), (Go.Value.int (IntKind.i64) (x74)), (Go.Value.int (IntKind.i64) (x75)), (Go.Value.int (IntKind.i64) (x76)), (Go.Value.int (IntKind.i64) (x77))] <|
        π.join [(false, [.ptr]), (false, [.map]), (false, [.addr]), (false, [.addr]), (false, [.addr]), (false, [.slice]), (false, [.int .i64]), (false, [.int .i64])] (fun J79 =>
          π.ld [.int .i64] ((Addr.mk r78 (0 : Nat) none).add (6 : Nat)) fun ((x80 : Int), _) =>
          π.ld [.int .i64] ((Addr.mk r43 (0 : Nat) none).add (6 : Nat)) fun ((x81 : Int), _) =>
          π.ite (decide (x80 < x81)) (
            π.ret (Go.Value.bool (false))
          ) (
            π.ld [.int .i64] ((Addr.mk r78 (0 : Nat) none).add (4 : Nat)) fun ((x82 : Int), _) =>
            π.ld [.int .i64] ((Addr.mk r43 (0 : Nat) none).add (4 : Nat)) fun ((x83 : Int), _) =>
            π.ite (decide (x82 < x83)) (
              π.ret (Go.Value.bool (false))
            ) (
              π.ld [.int .i64] ((Addr.mk r78 (0 : Nat) none).add (4 : Nat)) fun ((x84 : Int), _) =>
              π.ld [.int .i64] ((Addr.mk r78 (0 : Nat) none).add (6 : Nat)) fun ((x85 : Int), _) =>
              π.ite (decide (x84 > x85)) (
                π.ret (Go.Value.bool (false))
              ) (
                π.ld [.int .i64] ((Addr.mk r78 (0 : Nat) none).add (6 : Nat)) fun ((x86 : Int), _) =>
                π.ld [.int .i64] ((Addr.mk r78 (0 : Nat) none).add (5 : Nat)) fun ((x87 : Int), _) =>
                π.ite (decide (x86 > x87)) (
                  π.ret (Go.Value.bool (false))
                ) (
                  J79 ((p11, ()), (m12, ()), (Addr.mk r43 (0 : Nat) none, ()), (Addr.mk r50 (0 : Nat) none, ()), (Addr.mk r78 (0 : Nat) none, ()), ((a13, n14, c15), ()), (x16, ()), (x17, ()), ())
                )
              )
            )
          )
        ) (fun ((p88, _), ((m89 : Option Nat), _), (p90, _), (p91, _), (p92, _), (((a93 : Option Addr), (n94 : Nat), (c95 : Nat)), _), ((x96 : Int), _), ((x97 : Int), _), _) =>
          π.join [(false, [.ptr]), (false, [.map]), (false, [.addr]), (false, [.slice]), (false, [.int .i64]), (false, [.int .i64])] (fun J98 =>
            π.join [(false, [.ptr]), (false, [.map]), (false, [.addr]), (false, [.addr]), (false, [.addr]), (false, [.slice]), (false, [.int .i64]), (false, [.int .i64]), (false, [.bool])] (fun J99 =>
              π.ld [.int .i64] (p90.add (2 : Nat)) fun ((x100 : Int), _) =>
              π.ite (x100 == (2 : Int)) (
                π.ld [.int .i64] (p92.add (2 : Nat)) fun ((x101 : Int), _) =>
                π.ite (x101 == (2 : Int)) (
                  π.ld [.int .i64] (p92.add (0 : Nat)) fun ((x102 : Int), _) =>
                  π.ld [.int .i64] (p90.add (0 : Nat)) fun ((x103 : Int), _) =>
                  π.ite (x102 == x103) (
                    π.ld [.int .i64] (p90.add (5 : Nat)) fun ((x104 : Int), _) =>
                    π.ld [.int .i64] (p92.add (4 : Nat)) fun ((x105 : Int), _) =>
                    J99 ((p88, ()), (m89, ()), (p90, ()), (p91, ()), (p92, ()), ((a93, n94, c95), ()), (x96, ()), (x97, ()), (decide (x104 > x105), ()), ())
                  ) (
                    J99 ((p88, ()), (m89, ()), (p90, ()), (p91, ()), (p92, ()), ((a93, n94, c95), ()), (x96, ()), (x97, ()), (false, ()), ())
                  )
                ) (
                  J99 ((p88, ()), (m89, ()), (p90, ()), (p91, ()), (p92, ()), ((a93, n94, c95), ()), (x96, ()), (x97, ()), (false, ()), ())
                )
              ) (
                J99 ((p88, ()), (m89, ()), (p90, ()), (p91, ()), (p92, ()), ((a93, n94, c95), ()), (x96, ()), (x97, ()), (false, ()), ())
              )
            ) (fun ((p106, _), ((m107 : Option Nat), _), (p108, _), (p109, _), (p110, _), (((a111 : Option Addr), (n112 : Nat), (c113 : Nat)), _), ((x114 : Int), _), ((x115 : Int), _), ((b116 : Bool), _), _) =>
              π.ite (b116) (
                π.ld [.int .i64] (p108.add (5 : Nat)) fun ((x117 : Int), _) =>
                π.call (11 : Nat) #[(Go.Value.pointer (p106)), (Go.Value.int (IntKind.i64) (x117))] (true, [(true, [.int .i64, .int .i64, .int .i64, .str]), (false, [.bool])]) fun (((x118 : Int), (x119 : Int), (x120 : Int), (t121 : ByteArray), _), ((b122 : Bool), _), _) =>
                π.nw (Go.Obj.cells #[(Go.Value.int (IntKind.i64) ((0 : Int))), (Go.Value.int (IntKind.i64) ((0 : Int))), (Go.Value.int (IntKind.i64) ((0 : Int))), (Go.Value.string (ByteArray.mk #[]))] (39 : Nat) ((0 : Nat), (0 : Nat))) fun r123 =>
                π.st (Addr.mk r123 (0 : Nat) none) [(Go.Value.int (IntKind.i64) (x118)), (Go.Value.int (IntKind.i64) (x119)), (Go.Value.int (IntKind.i64) (x120)), (Go.Value.string (t121))] <|
                π.ite (!b122) (
                  π.ret (Go.Value.bool (false))
                ) (
                  π.ld [.int .i64, .int .i64, .int .i64, .str] (Addr.mk r123 (0 : Nat) none) fun ((x124 : Int), (x125 : Int), (x126 : Int), (t127 : ByteArray), _) =>
                  π.ld [.int .i64, .int .i64, .int .i64, .str] (p109) fun ((x128 : Int), (x129 : Int), (x130 : Int), (t131 : ByteArray), _) =>
                  π.ite (!(x124 == x128 && (x125 == x129 && (x126 == x130 && (t127 == t131 && true))))) (
                    π.ret (Go.Value.bool (false))
                  ) (
                    J98 ((p106, ()), (m107, ()), (p110, ()), ((a111, n112, c113), ()), (x114, ()), (x115, ()), ())
                  )
                )
              ) (
                J98 ((p106, ()), (m107, ()), (p110, ()), ((a111, n112, c113), ()), (x114, ()), (x115, ()), ())
              )
            )
          ) (fun ((p132, _), ((m133 : Option Nat), _), (p134, _), (((a135 : Option Addr), (n136 : Nat), (c137 : Nat)), _), ((x138 : Int), _), ((x139 : Int), _), _) =>
            π.ld [.int .i64] (p134.add (4 : Nat)) fun ((x140 : Int), _) =>
            π.loop [(false, [.ptr]), (false, [.map]), (false, [.addr]), (false, [.int .i64]), (false, [.slice]), (false, [.int .i64]), (false, [.int .i64])] ((p132, ()), (m133, ()), (p134, ()), (IntKind.i64.wrap (x140 + (1 : Int)), ()), ((a135, n136, c137), ()), (x138, ()), (x139, ()), ()) fun ((p142, _), ((m143 : Option Nat), _), (p144, _), ((x145 : Int), _), (((a146 : Option Addr), (n147 : Nat), (c148 : Nat)), _), ((x149 : Int), _), ((x150 : Int), _), _) again141 =>
              π.ld [.int .i64] (p144.add (6 : Nat)) fun ((x151 : Int), _) =>
              π.ite (decide (x145 ≤ x151)) (
                π.call (11 : Nat) #[(Go.Value.pointer (p142)), (Go.Value.int (IntKind.i64) (x145))] (true, [(true, [.int .i64, .int .i64, .int .i64, .str]), (false, [.bool])]) fun (((x152 : Int), (x153 : Int), (x154 : Int), (t155 : ByteArray), _), ((b156 : Bool), _), _) =>
                π.nw (Go.Obj.cells #[(Go.Value.int (IntKind.i64) ((0 : Int))), (Go.Value.int (IntKind.i64) ((0 : Int))), (Go.Value.int (IntKind.i64) ((0 : Int))), (Go.Value.string (ByteArray.mk #[]))] (39 : Nat) ((0 : Nat), (0 : Nat))) fun r157 =>
                π.st (Addr.mk r157 (0 : Nat) none) [(Go.Value.int (IntKind.i64) (x152)), (Go.Value.int (IntKind.i64) (x153)), (Go.Value.int (IntKind.i64) (x154)), (Go.Value.string (t155))] <|
                π.ite (!b156) (
                  π.ret (Go.Value.bool (false))
                ) (
                  π.look (TypeDesc.int IntKind.i64) (m143) (Go.Value.int (IntKind.i64) (x145)) (Go.Value.agg #[(Go.Value.int (IntKind.i64) ((0 : Int))), (Go.Value.int (IntKind.i64) ((0 : Int))), (Go.Value.int (IntKind.i64) ((0 : Int))), (Go.Value.string (ByteArray.mk #[]))]) (true, [.int .i64, .int .i64, .int .i64, .str]) fun ((x159 : Int), (x160 : Int), (x161 : Int), (t162 : ByteArray), _) b158 =>
                  π.nw (Go.Obj.cells #[(Go.Value.int (IntKind.i64) ((0 : Int))), (Go.Value.int (IntKind.i64) ((0 : Int))), (Go.Value.int (IntKind.i64) ((0 : Int))), (Go.Value.string (ByteArray.mk #[]))] (39 : Nat) ((0 : Nat), (0 : Nat))) fun r163 =>
                  π.st (Addr.mk r163 (0 : Nat) none) [(Go.Value.int (IntKind.i64) (x159)), (Go.Value.int (IntKind.i64) (x160)), (Go.Value.int (IntKind.i64) (x161)), (Go.Value.string (t162))] <|
                  π.ite (b158) (
                    π.ld [.int .i64, .int .i64, .int .i64, .str] (Addr.mk r157 (0 : Nat) none) fun ((x164 : Int), (x165 : Int), (x166 : Int), (t167 : ByteArray), _) =>
                    π.ld [.int .i64, .int .i64, .int .i64, .str] (Addr.mk r163 (0 : Nat) none) fun ((x168 : Int), (x169 : Int), (x170 : Int), (t171 : ByteArray), _) =>
                    π.ite (!(x164 == x168 && (x165 == x169 && (x166 == x170 && (t167 == t171 && true))))) (
                      π.ret (Go.Value.bool (false))
                    ) (
                      π.ld [.int .i64, .int .i64, .int .i64, .str] (Addr.mk r157 (0 : Nat) none) fun ((x172 : Int), (x173 : Int), (x174 : Int), (t175 : ByteArray), _) =>
                      π.mset (TypeDesc.int IntKind.i64) (m143) (Go.Value.int (IntKind.i64) (x145)) (Go.Value.agg #[(Go.Value.int (IntKind.i64) (x172)), (Go.Value.int (IntKind.i64) (x173)), (Go.Value.int (IntKind.i64) (x174)), (Go.Value.string (t175))]) <|
                      again141 ((p142, ()), (m143, ()), (p144, ()), (IntKind.i64.wrap (x145 + (1 : Int)), ()), ((a146, n147, c148), ()), (x149, ()), (x150, ()), ())
                    )
                  ) (
                    π.ld [.int .i64, .int .i64, .int .i64, .str] (Addr.mk r157 (0 : Nat) none) fun ((x176 : Int), (x177 : Int), (x178 : Int), (t179 : ByteArray), _) =>
                    π.mset (TypeDesc.int IntKind.i64) (m143) (Go.Value.int (IntKind.i64) (x145)) (Go.Value.agg #[(Go.Value.int (IntKind.i64) (x176)), (Go.Value.int (IntKind.i64) (x177)), (Go.Value.int (IntKind.i64) (x178)), (Go.Value.string (t179))]) <|
                    again141 ((p142, ()), (m143, ()), (p144, ()), (IntKind.i64.wrap (x145 + (1 : Int)), ()), ((a146, n147, c148), ()), (x149, ()), (x150, ()), ())
                  )
                )
              ) (
                again10 ((p142, ()), (m143, ()), ((a146, n147, c148), ()), (x149, ()), (IntKind.i64.wrap (x150 + (1 : Int)), ()), ())
              )
          )
        )
      ) (
        π.ret (Go.Value.bool (true))
      )
  )

def ann_BallotStays : Ann := { draws := [], join := [(4, [(7, 23)]), (14, [(7, 23), (9, 29), (12, 1000000), (13, 1000000), (15, 1000000), (41, 22), (42, 3), (43, 3)]), (15, [(7, 23), (9, 29), (12, 1000000), (13, 1000000), (15, 1000000), (41, 22), (42, 3), (43, 3), (108, 4)]), (18, [(7, 23), (9, 29), (15, 1000000), (41, 22), (42, 3), (43, 3)])], loop := [(6, [(7, 23), (9, 29), (41, 22), (42, 3), (43, 3)]), (19, [(7, 23), (9, 29), (15, 1000000), (18, 3), (41, 22), (42, 3), (43, 3)])] }
set_option maxRecDepth 100000 in
theorem eq_BallotStays {W : Type} (π : Prims W) (id size : Int) (a : Option Addr) (an ac : Nat) : bodyW π Try.prog ann_BallotStays (mkFr (maskA [] [.v (.int .i64 id), .v (.int .i64 size), .v (.slice a an ac)] 0) 156) Try.f3 (bodyOf Try.f3) (mkFr (List.map some [.v (.int .i64 id), .v (.int .i64 size), .v (.slice a an ac)]) 156) = vc_BallotStays π id size a an ac := by kernel_rfl
theorem ok_BallotStays (id size : Int) (a : Option Addr) (an ac : Nat) (R : Value → PH → Prop) (s : PH) (h : vc_BallotStays (RP Try.prog R) id size a an ac s) : DCalls Try.prog 3 (List.map AV.val [.v (.int .i64 id), .v (.int .i64 size), .v (.slice a an ac)]).toArray s R :=
  calls_vc (c := bodyOf Try.f3) (ann := ann_BallotStays) (by kernel_rfl) Try.func3 rfl (by kernel_rfl) [.v (.int .i64 id), .v (.int .i64 size), .v (.slice a an ac)] [] (by rw [Try.ntmps3]; exact Nat.le_of_ble_eq_true rfl) (by rw [show Try.f3.ntmps = 156 from Try.ntmps3, eq_BallotStays]; exact h)

/-- lintel/lintellaw09.BallotPlays -/
def vc_BallotPlays {W : Type} (π : Prims W) (id size : Int) (a : Option Addr) (an ac : Nat) : W :=
  π.join [] (fun J0 =>
    π.call (8 : Nat) #[] (false, [(false, [.bool])]) fun (((b1 : Bool), _), _) =>
    π.ite (!b1) (
      π.call (8 : Nat) #[] (false, [(false, [.bool])]) fun (((b2 : Bool), _), _) =>
      π.ret (Go.Value.bool (b2))
    ) (
      π.call (9 : Nat) #[(Go.Value.slice (a) (an) (ac))] (false, [(false, [.bool])]) fun (((b3 : Bool), _), _) =>
      π.ite (b3) (
        π.call (8 : Nat) #[] (false, [(false, [.bool])]) fun (((b4 : Bool), _), _) =>
        π.ret (Go.Value.bool (b4))
      ) (
        J0 (())
      )
    )
  ) (fun (_) =>
    π.call (7 : Nat) #[(Go.Value.int (IntKind.i64) (id)), (Go.Value.int (IntKind.i64) (size))] (true, [(false, [.ptr]), (false, [.int .i64])]) fun ((p5, _), ((x6 : Int), _), _) =>
    π.call (13 : Nat) #[(Go.Value.int (IntKind.i64) (id)), (Go.Value.int (IntKind.i64) (size))] (true, [(false, [.ptr]), (false, [.bool])]) fun ((p7, _), ((b8 : Bool), _), _) =>
    π.ite (!b8) (
      π.ite (p5.isNone) (
        π.ret (Go.Value.bool (x6 == (1 : Int)))
      ) (
        π.ret (Go.Value.bool (false))
      )
    ) (
      π.join [(false, [.ptr]), (false, [.ptr])] (fun J9 =>
        π.ite (x6 != (0 : Int)) (
          π.ret (Go.Value.bool (false))
        ) (
          π.ite (p5.isNone) (
            π.ret (Go.Value.bool (false))
          ) (
            J9 ((p5, ()), (p7, ()), ())
          )
        )
      ) (fun ((p10, _), (p11, _), _) =>
        π.loop [(false, [.ptr]), (false, [.ptr]), (false, [.slice]), (false, [.int .i64]), (false, [.int .i64])] ((p10, ()), (p11, ()), ((a, an, ac), ()), ((↑an : Int), ()), ((0 : Int), ()), ()) fun ((p13, _), (p14, _), (((a15 : Option Addr), (n16 : Nat), (c17 : Nat)), _), ((x18 : Int), _), ((x19 : Int), _), _) again12 =>
          π.ite (decide (x19 < x18)) (
            π.guard ((0 : Int) ≤ x19 ∧ x19 < (↑n16 : Int)) <|
            π.unSome (a15) fun p20 =>
            π.ld [.int .i64, .int .i64, .int .i64, .str, .int .i64, .int .i64, .int .i64, .int .i64, .int .i64, .int .i64, .int .i64, .bool, .slice, .str] (p20.add (x19.toNat * (14 : Nat))) fun ((x21 : Int), (x22 : Int), (x23 : Int), (t24 : ByteArray), (x25 : Int), (x26 : Int), (x27 : Int), (x28 : Int), (x29 : Int), (x30 : Int), (x31 : Int), (b32 : Bool), ((a33 : Option Addr), (n34 : Nat), (c35 : Nat)), (t36 : ByteArray), _) =>
            π.nw (Go.Obj.cells #[(Go.Value.int (IntKind.i64) ((0 : Int))), (Go.Value.int (IntKind.i64) ((0 : Int))), (Go.Value.int (IntKind.i64) ((0 : Int))), (Go.Value.string (ByteArray.mk #[])), (Go.Value.int (IntKind.i64) ((0 : Int))), (Go.Value.int (IntKind.i64) ((0 : Int))), (Go.Value.int (IntKind.i64) ((0 : Int))), (Go.Value.int (IntKind.i64) ((0 : Int))), (Go.Value.int (IntKind.i64) ((0 : Int))), (Go.Value.int (IntKind.i64) ((0 : Int))), (Go.Value.int (IntKind.i64) ((0 : Int))), (Go.Value.bool (false)), (Go.Value.slice (none) ((0 : Nat)) ((0 : Nat))), (Go.Value.string (ByteArray.mk #[]))] (34 : Nat) ((0 : Nat), (0 : Nat))) fun r37 =>
            π.st (Addr.mk r37 (0 : Nat) none) [(Go.Value.int (IntKind.i64) (x21)), (Go.Value.int (IntKind.i64) (x22)), (Go.Value.int (IntKind.i64) (x23)), (Go.Value.string (t24)), (Go.Value.int (IntKind.i64) (x25)), (Go.Value.int (IntKind.i64) (x26)), (Go.Value.int (IntKind.i64) (x27)), (Go.Value.int (IntKind.i64) (x28)), (Go.Value.int (IntKind.i64) (x29)), (Go.Value.int (IntKind.i64) (x30)), (Go.Value.int (IntKind.i64) (x31)), (Go.Value.bool (b32)), (Go.Value.slice (a33) (n34) (c35)), (Go.Value.string (t36))] <|
            π.ld [.int .i64, .int .i64, .int .i64, .str, .int .i64, .int .i64, .int .i64, .int .i64, .int .i64, .int .i64, .int .i64, .bool, .slice, .str] (Addr.mk r37 (0 : Nat) none) fun ((x38 : Int), (x39 : Int), (x40 : Int), (t41 : ByteArray), (x42 : Int), (x43 : Int), (x44 : Int), (x45 : Int), (x46 : Int), (x47 : Int), (x48 : Int), (b49 : Bool), ((a50 : Option Addr), (n51 : Nat), (c52 : Nat)), (t53 : ByteArray), _) =>
            π.call (12 : Nat) #[(Go.Value.pointer (p13)), (Go.Value.agg #[(Go.Value.int (IntKind.i64) (x38)), (Go.Value.int (IntKind.i64) (x39)), (Go.Value.int (IntKind.i64) (x40)), (Go.Value.string (t41)), (Go.Value.int (IntKind.i64) (x42)), (Go.Value.int (IntKind.i64) (x43)), (Go.Value.int (IntKind.i64) (x44)), (Go.Value.int (IntKind.i64) (x45)), (Go.Value.int (IntKind.i64) (x46)), (Go.Value.int (IntKind.i64) (x47)), (Go.Value.int (IntKind.i64) (x48)), (Go.Value.bool (b49)), (Go.Value.slice (a50) (n51) (c52)), (Go.Value.string (t53))])] (true, [(false, [.slice]), (false, [.int .i64])]) fun ((((a54 : Option Addr), (n55 : Nat), (c56 : Nat)), _), ((x57 : Int), _), _) =>
            π.ld [.int .i64, .int .i64, .int .i64, .str, .int .i64, .int .i64, .int .i64, .int .i64, .int .i64, .int .i64, .int .i64, .bool, .slice, .str] (Addr.mk r37 (0 : Nat) none) fun ((x58 : Int), (x59 : Int), (x60 : Int), (t61 : ByteArray), (x62 : Int), (x63 : Int), (x64 : Int), (x65 : Int), (x66 : Int), (x67 : Int), (x68 : Int), (b69 : Bool), ((a70 : Option Addr), (n71 : Nat), (c72 : Nat)), (t73 : ByteArray), _) =>
            π.call (14 : Nat) #[(Go.Value.pointer (p14)), (Go.Value.agg #[(Go.Value.int (IntKind.i64) (x58)), (Go.Value.int (IntKind.i64) (x59)), (Go.Value.int (IntKind.i64) (x60)), (Go.Value.string (t61)), (Go.Value.int (IntKind.i64) (x62)), (Go.Value.int (IntKind.i64) (x63)), (Go.Value.int (IntKind.i64) (x64)), (Go.Value.int (IntKind.i64) (x65)), (Go.Value.int (IntKind.i64) (x66)), (Go.Value.int (IntKind.i64) (x67)), (Go.Value.int (IntKind.i64) (x68)), (Go.Value.bool (b69)), (Go.Value.slice (a70) (n71) (c72)), (Go.Value.string (t73))])] (true, [(false, [.slice]), (false, [.int .i64])]) fun ((((a74 : Option Addr), (n75 : Nat), (c76 : Nat)), _), ((x77 : Int), _), _) =>
            π.join [(false, [.ptr]), (false, [.ptr]), (false, [.addr]), (false, [.slice]), (false, [.slice]), (false, [.int .i64]), (false, [.int .i64])] (fun J78 =>
              π.ite (x57 != x77) (
                π.ret (Go.Value.bool (false))
              ) (
                π.call (15 : Nat) #[(Go.Value.slice (a54) (n55) (c56)), (Go.Value.slice (a74) (n75) (c76))] (false, [(false, [.bool])]) fun (((b79 : Bool), _), _) =>
                π.ite (!b79) (
                  π.ret (Go.Value.bool (false))
                ) (
                  π.call (16 : Nat) #[(Go.Value.pointer (p13)), (Go.Value.pointer (p14))] (false, [(false, [.bool])]) fun (((b80 : Bool), _), _) =>
                  π.ite (!b80) (
                    π.ret (Go.Value.bool (false))
                  ) (
                    J78 ((p13, ()), (p14, ()), (Addr.mk r37 (0 : Nat) none, ()), ((a54, n55, c56), ()), ((a15, n16, c17), ()), (x18, ()), (x19, ()), ())
                  )
                )
              )
            ) (fun ((p81, _), (p82, _), (p83, _), (((a84 : Option Addr), (n85 : Nat), (c86 : Nat)), _), (((a87 : Option Addr), (n88 : Nat), (c89 : Nat)), _), ((x90 : Int), _), ((x91 : Int), _), _) =>
              π.join [(false, [.ptr]), (false, [.ptr]), (false, [.slice]), (false, [.slice]), (false, [.int .i64]), (false, [.int .i64])] (fun J92 =>
                π.ld [.int .i64] (p83.add (0 : Nat)) fun ((x93 : Int), _) =>
                π.ite (x93 == (6 : Int)) (
                  π.call (17 : Nat) #[(Go.Value.pointer (p81))] (true, [(true, [.int .i64, .int .i64, .bool, .int .i64, .int .i64, .str, .int .i64, .slice]), (false, [.bool])]) fun (((x94 : Int), (x95 : Int), (b96 : Bool), (x97 : Int), (x98 : Int), (t99 : ByteArray), (x100 : Int), ((a101 : Option Addr), (n102 : Nat), (c103 : Nat)), _), ((b104 : Bool), _), _) =>
                  π.nw (Go.Obj.cells #[(Go.Value.int (IntKind.i64) ((0 : Int))), (Go.Value.int (IntKind.i64) ((0 : Int))), (Go.Value.bool (false)), (Go.Value.int (IntKind.i64) ((0 : Int))), (Go.Value.int (IntKind.i64) ((0 : Int))), (Go.Value.string (ByteArray.mk #[])), (Go.Value.int (IntKind.i64) ((0 : Int))), (Go.Value.slice (none) ((0 : Nat)) ((0 : Nat)))] (53 : Nat) ((0 : Nat), (0 : Nat))) fun r105 =>
                  π.st (Addr.mk r105 (0 : Nat) none) [(Go.Value.int (IntKind.i64) (x94)), (Go.Value.int (IntKind.i64) (x95)), (Go.Value.bool (b96)), (Go.Value.int (IntKind.i64) (x97)), (Go.Value.int (IntKind.i64) (x98)), (Go.Value.string (t99)), (Go.Value.int (IntKind.i64) (x100)), (Go.Value.slice (a101) (n102) (c103))] <|
                  π.call (18 : Nat) #[(Go.Value.pointer (p82))] (true, [(true, [.int .i64, .int .i64, .bool, .int .i64, .int .i64, .str, .int .i64, .slice]), (false, [.bool])]) fun (((x106 : Int), (x107 : Int), (b108 : Bool), (x109 : Int), (x110 : Int), (t111 : ByteArray), (x112 : Int), ((a113 : Option Addr), (n114 : Nat), (c115 : Nat)), _), ((b116 : Bool), _), _) =>
                  π.nw (Go.Obj.cells #[(Go.Value.int (IntKind.i64) ((0 : Int))), (Go.Value.int (IntKind.i64) ((0 : Int))), (Go.Value.bool (false)), (Go.Value.int (IntKind.i64) ((0 : Int))), (Go.Value.int (IntKind.i64) ((0 : Int))), (Go.Value.string (ByteArray.mk #[])), (Go.Value.int (IntKind.i64) ((0 : Int))), (Go.Value.slice (none) ((0 : Nat)) ((0 : Nat)))] (53 : Nat) ((0 : Nat), (0 : Nat))) fun r117 =>
                  π.st (Addr.mk r117 (0 : Nat) none) [(Go.Value.int (IntKind.i64) (x106)), (Go.Value.int (IntKind.i64) (x107)), (Go.Value.bool (b108)), (Go.Value.int (IntKind.i64) (x109)), (Go.Value.int (IntKind.i64) (x110)), (Go.Value.string (t111)), (Go.Value.int (IntKind.i64) (x112)), (Go.Value.slice (a113) (n114) (c115))] <|
                  π.join [(false, [.ptr]), (false, [.ptr]), (false, [.slice]), (false, [.addr]), (false, [.slice]), (false, [.int .i64]), (false, [.int .i64])] (fun J118 =>
                    π.ite (!b104 == b116) (
                      π.ret (Go.Value.bool (false))
                    ) (
                      π.ld [.int .i64, .int .i64, .bool, .int .i64, .int .i64, .str, .int .i64, .slice] (Addr.mk r105 (0 : Nat) none) fun ((x119 : Int), (x120 : Int), (b121 : Bool), (x122 : Int), (x123 : Int), (t124 : ByteArray), (x125 : Int), ((a126 : Option Addr), (n127 : Nat), (c128 : Nat)), _) =>
                      π.ld [.int .i64, .int .i64, .bool, .int .i64, .int .i64, .str, .int .i64, .slice] (Addr.mk r117 (0 : Nat) none) fun ((x129 : Int), (x130 : Int), (b131 : Bool), (x132 : Int), (x133 : Int), (t134 : ByteArray), (x135 : Int), ((a136 : Option Addr), (n137 : Nat), (c138 : Nat)), _) =>
                      π.call (19 : Nat) #[(Go.Value.agg #[(Go.Value.int (IntKind.i64) (x119)), (Go.Value.int (IntKind.i64) (x120)), (Go.Value.bool (b121)), (Go.Value.int (IntKind.i64) (x122)), (Go.Value.int (IntKind.i64) (x123)), (Go.Value.string (t124)), (Go.Value.int (IntKind.i64) (x125)), (Go.Value.slice (a126) (n127) (c128))]), (Go.Value.agg #[(Go.Value.int (IntKind.i64) (x129)), (Go.Value.int (IntKind.i64) (x130)), (Go.Value.bool (b131)), (Go.Value.int (IntKind.i64) (x132)), (Go.Value.int (IntKind.i64) (x133)), (Go.Value.string (t134)), (Go.Value.int (IntKind.i64) (x135)), (Go.Value.slice (a136) (n137) (c138))])] (false, [(false, [.bool])]) fun (((b139 : Bool), _), _) =>
                      π.ite (!b139) (
                        π.ret (Go.Value.bool (false))
                      ) (
                        J118 ((p81, ()), (p82, ()), ((a84, n85, c86), ()), (Addr.mk r105 (0 : Nat) none, ()), ((a87, n88, c89), ()), (x90, ()), (x91, ()), ())
                      )
                    )
                  ) (fun ((p140, _), (p141, _), (((a142 : Option Addr), (n143 : Nat), (c144 : Nat)), _), (p145, _), (((a146 : Option Addr), (n147 : Nat), (c148 : Nat)), _), ((x149 : Int), _), ((x150 : Int), _), _) =>
                    π.ld [.slice] (p145.add (7 : Nat)) fun (((a151 : Option Addr), (n152 : Nat), (c153 : Nat)), _) =>
                    π.loop [(false, [.ptr]), (false, [.ptr]), (false, [.slice]), (false, [.addr]), (false, [.slice]), (false, [.int .i64]), (false, [.int .i64]), (false, [.int .i64]), (false, [.int .i64])] ((p140, ()), (p141, ()), ((a142, n143, c144), ()), (p145, ()), ((a146, n147, c148), ()), (x149, ()), (x150, ()), ((↑n152 : Int), ()), ((0 : Int), ()), ()) fun ((p155, _), (p156, _), (((a157 : Option Addr), (n158 : Nat), (c159 : Nat)), _), (p160, _), (((a161 : Option Addr), (n162 : Nat), (c163 : Nat)), _), ((x164 : Int), _), ((x165 : Int), _), ((x166 : Int), _), ((x167 : Int), _), _) again154 =>
                      π.ite (decide (x167 < x166)) (
                        π.ld [.slice] (p160.add (7 : Nat)) fun (((a168 : Option Addr), (n169 : Nat), (c170 : Nat)), _) =>
                        π.guard ((0 : Int) ≤ x167 ∧ x167 < (↑n169 : Int)) <|
                        π.unSome (a168) fun p171 =>
                        π.st ((p171.add (x167.toNat * (4 : Nat))).add (3 : Nat)) [(Go.Value.string (ByteArray.mk #[(115 : UInt8), (112 : UInt8), (111 : UInt8), (105 : UInt8), (108 : UInt8), (116 : UInt8)]))] <|
                        again154 ((p155, ()), (p156, ()), ((a157, n158, c159), ()), (p160, ()), ((a161, n162, c163), ()), (x164, ()), (x165, ()), (x166, ()), (IntKind.i64.wrap (x167 + (1 : Int)), ()), ())
                      ) (
                        J92 ((p155, ()), (p156, ()), ((a157, n158, c159), ()), ((a161, n162, c163), ()), (x164, ()), (x165, ()), ())
                      )
                  )
                ) (
                  J92 ((p81, ()), (p82, ()), ((a84, n85, c86), ()), ((a87, n88, c89), ()), (x90, ()), (x91, ()), ())
                )
              ) (fun ((p172, _), (p173, _), (((a174 : Option Addr), (n175 : Nat), (c176 : Nat)), _), (((a177 : Option Addr), (n178 : Nat), (c179 : Nat)), _), ((x180 : Int), _), ((x181 : Int), _), _) =>
                π.loop [(false, [.ptr]), (false, [.ptr]), (false, [.slice]), (false, [.slice]), (false, [.int .i64]), (false, [.int .i64]), (false, [.int .i64]), (false, [.int .i64])] ((p172, ()), (p173, ()), ((a174, n175, c176), ()), ((a177, n178, c179), ()), (x180, ()), (x181, ()), ((↑n175 : Int), ()), ((0 : Int), ()), ()) fun ((p183, _), (p184, _), (((a185 : Option Addr), (n186 : Nat), (c187 : Nat)), _), (((a188 : Option Addr), (n189 : Nat), (c190 : Nat)), _), ((x191 : Int), _), ((x192 : Int), _), ((x193 : Int), _), ((x194 : Int), _), _) again182 =>
                  π.ite (decide (x194 < x193)) (
                    π.guard ((0 : Int) ≤ x194 ∧ x194 < (↑n186 : Int)) <|
                    π.unSome (a185) fun p195 =>
                    π.ld [.slice] ((p195.add (x194.toNat * (10 : Nat))).add (8 : Nat)) fun (((a196 : Option Addr), (n197 : Nat), (c198 : Nat)), _) =>
                    π.loop [(false, [.ptr]), (false, [.ptr]), (false, [.slice]), (false, [.int .i64]), (false, [.slice]), (false, [.int .i64]), (false, [.int .i64]), (false, [.int .i64]), (false, [.int .i64]), (false, [.int .i64]), (false, [.int .i64])] ((p183, ()), (p184, ()), ((a185, n186, c187), ()), (x194, ()), ((a188, n189, c190), ()), (x191, ()), (x192, ()), (x193, ()), (x194, ()), ((↑n197 : Int), ()), ((0 : Int), ()), ()) fun ((p200, _), (p201, _), (((a202 : Option Addr), (n203 : Nat), (c204 : Nat)), _), ((x205 : Int), _), (((a206 : Option Addr), (n207 : Nat), (c208 : Nat)), _), ((x209 : Int), _), ((x210 : Int), _), ((x211 : Int), _), ((x212 : Int), _), ((x213 : Int), _), ((x214 : Int), _), _) again199 =>
                      π.ite (decide (x214 < x213)) (
                        π.guard ((0 : Int) ≤ x205 ∧ x205 < (↑n203 : Int)) <|
                        π.unSome (a202) fun p215 =>
                        π.ld [.slice] ((p215.add (x205.toNat * (10 : Nat))).add (8 : Nat)) fun (((a216 : Option Addr), (n217 : Nat), (c218 : Nat)), _) =>
                        π.guard ((0 : Int) ≤ x214 ∧ x214 < (↑n217 : Int)) <|
                        π.unSome (a216) fun p219 =>
                        π.st ((p219.add (x214.toNat * (4 : Nat))).add (3 : Nat)) [(Go.Value.string (ByteArray.mk #[(115 : UInt8), (112 : UInt8), (111 : UInt8), (105 : UInt8), (108 : UInt8), (116 : UInt8)]))] <|
                        again199 ((p200, ()), (p201, ()), ((a202, n203, c204), ()), (x205, ()), ((a206, n207, c208), ()), (x209, ()), (x210, ()), (x211, ()), (x212, ()), (x213, ()), (IntKind.i64.wrap (x214 + (1 : Int)), ()), ())
                      ) (
                        again182 ((p200, ()), (p201, ()), ((a202, n203, c204), ()), ((a206, n207, c208), ()), (x209, ()), (x210, ()), (x211, ()), (IntKind.i64.wrap (x212 + (1 : Int)), ()), ())
                      )
                  ) (
                    again12 ((p183, ()), (p184, ()), ((a188, n189, c190), ()), (x191, ()), (IntKind.i64.wrap (x192 + (1 : Int)), ()), ())
                  )
              )
            )
          ) (
            π.call (16 : Nat) #[(Go.Value.pointer (p13)), (Go.Value.pointer (p14))] (false, [(false, [.bool])]) fun (((b220 : Bool), _), _) =>
            π.ret (Go.Value.bool (b220))
          )
      )
    )
  )

def ann_BallotPlays : Ann := { draws := [], join := [(3, []), (9, [(7, 23), (9, 46)]), (16, [(7, 23), (9, 46), (12, 1000000), (13, 42), (57, 22), (58, 3), (59, 3)]), (21, [(7, 23), (9, 46), (13, 42), (17, 1000000), (57, 22), (58, 3), (59, 3)]), (26, [(7, 23), (9, 46), (13, 42), (57, 22), (58, 3), (59, 3)])], loop := [(10, [(7, 23), (9, 46), (57, 22), (58, 3), (59, 3)]), (22, [(7, 23), (9, 46), (13, 42), (17, 1000000), (57, 22), (58, 3), (59, 3), (114, 3), (115, 3)]), (27, [(7, 23), (9, 46), (13, 42), (57, 22), (58, 3), (59, 3), (125, 3), (126, 3)]), (30, [(7, 23), (9, 46), (13, 42), (22, 3), (57, 22), (58, 3), (59, 3), (125, 3), (126, 3), (134, 3), (135, 3)])] }
set_option maxRecDepth 100000 in
theorem eq_BallotPlays {W : Type} (π : Prims W) (id size : Int) (a : Option Addr) (an ac : Nat) : bodyW π Try.prog ann_BallotPlays (mkFr (maskA [] [.v (.int .i64 id), .v (.int .i64 size), .v (.slice a an ac)] 0) 152) Try.f4 (bodyOf Try.f4) (mkFr (List.map some [.v (.int .i64 id), .v (.int .i64 size), .v (.slice a an ac)]) 152) = vc_BallotPlays π id size a an ac := by kernel_rfl
theorem ok_BallotPlays (id size : Int) (a : Option Addr) (an ac : Nat) (R : Value → PH → Prop) (s : PH) (h : vc_BallotPlays (RP Try.prog R) id size a an ac s) : DCalls Try.prog 4 (List.map AV.val [.v (.int .i64 id), .v (.int .i64 size), .v (.slice a an ac)]).toArray s R :=
  calls_vc (c := bodyOf Try.f4) (ann := ann_BallotPlays) (by kernel_rfl) Try.func4 rfl (by kernel_rfl) [.v (.int .i64 id), .v (.int .i64 size), .v (.slice a an ac)] [] (by rw [Try.ntmps4]; exact Nat.le_of_ble_eq_true rfl) (by rw [show Try.f4.ntmps = 152 from Try.ntmps4, eq_BallotPlays]; exact h)

/-- lintel/lintellaw09.BallotLoads -/
def vc_BallotLoads {W : Type} (π : Prims W) (id size : Int) (a : Option Addr) (an ac : Nat) : W :=
  π.join [] (fun J0 =>
    π.call (8 : Nat) #[] (false, [(false, [.bool])]) fun (((b1 : Bool), _), _) =>
    π.ite (!b1) (
      π.call (8 : Nat) #[] (false, [(false, [.bool])]) fun (((b2 : Bool), _), _) =>
      π.ret (Go.Value.bool (b2))
    ) (
      π.ite (decide ((↑an : Int) > (100 : Int))) (
        π.call (8 : Nat) #[] (false, [(false, [.bool])]) fun (((b3 : Bool), _), _) =>
        π.ret (Go.Value.bool (b3))
      ) (
        J0 (())
      )
    )
  ) (fun (_) =>
    π.loop [(false, [.int .i64]), (false, [.slice]), (false, [.int .i64]), (false, [.int .i64])] (((0 : Int), ()), ((a, an, ac), ()), ((↑an : Int), ()), ((0 : Int), ()), ()) fun (((x5 : Int), _), (((a6 : Option Addr), (n7 : Nat), (c8 : Nat)), _), ((x9 : Int), _), ((x10 : Int), _), _) again4 =>
      π.ite (decide (x10 < x9)) (
        π.guard ((0 : Int) ≤ x10 ∧ x10 < (↑n7 : Int)) <|
        π.unSome (a6) fun p11 =>
        π.ld [.int .i64, .int .i64, .bool, .int .i64, .int .i64, .str, .int .i64, .slice] (p11.add (x10.toNat * (8 : Nat))) fun ((x12 : Int), (x13 : Int), (b14 : Bool), (x15 : Int), (x16 : Int), (t17 : ByteArray), (x18 : Int), ((a19 : Option Addr), (n20 : Nat), (c21 : Nat)), _) =>
        π.nw (Go.Obj.cells #[(Go.Value.int (IntKind.i64) ((0 : Int))), (Go.Value.int (IntKind.i64) ((0 : Int))), (Go.Value.bool (false)), (Go.Value.int (IntKind.i64) ((0 : Int))), (Go.Value.int (IntKind.i64) ((0 : Int))), (Go.Value.string (ByteArray.mk #[])), (Go.Value.int (IntKind.i64) ((0 : Int))), (Go.Value.slice (none) ((0 : Nat)) ((0 : Nat)))] (53 : Nat) ((0 : Nat), (0 : Nat))) fun r22 =>
        π.st (Addr.mk r22 (0 : Nat) none) [(Go.Value.int (IntKind.i64) (x12)), (Go.Value.int (IntKind.i64) (x13)), (Go.Value.bool (b14)), (Go.Value.int (IntKind.i64) (x15)), (Go.Value.int (IntKind.i64) (x16)), (Go.Value.string (t17)), (Go.Value.int (IntKind.i64) (x18)), (Go.Value.slice (a19) (n20) (c21))] <|
        π.ld [.slice] ((Addr.mk r22 (0 : Nat) none).add (7 : Nat)) fun (((a23 : Option Addr), (n24 : Nat), (c25 : Nat)), _) =>
        π.ite (decide (IntKind.i64.wrap (x5 + (↑n24 : Int)) > (4096 : Int))) (
          π.ret (Go.Value.bool (true))
        ) (
          again4 ((IntKind.i64.wrap (x5 + (↑n24 : Int)), ()), ((a6, n7, c8), ()), (x9, ()), (IntKind.i64.wrap (x10 + (1 : Int)), ()), ())
        )
      ) (
        π.nw (Go.Obj.cells #[] (53 : Nat) ((0 : Nat), (0 : Nat))) fun r26 =>
        π.app (53 : Nat) (8 : Nat) (88 : Nat) [(Go.Value.int (IntKind.i64) ((0 : Int))), (Go.Value.int (IntKind.i64) ((0 : Int))), (Go.Value.bool (false)), (Go.Value.int (IntKind.i64) ((0 : Int))), (Go.Value.int (IntKind.i64) ((0 : Int))), (Go.Value.string (ByteArray.mk #[])), (Go.Value.int (IntKind.i64) ((0 : Int))), (Go.Value.slice (none) ((0 : Nat)) ((0 : Nat)))] (some (Addr.mk r26 (0 : Nat) none)) ((0 : Nat)) ((0 : Nat)) (Src.sl a an) fun a27 n28 c29 =>
        π.call (21 : Nat) #[(Go.Value.int (IntKind.i64) (id)), (Go.Value.int (IntKind.i64) (size)), (Go.Value.slice (a27) (n28) (c29))] (true, [(false, [.ptr]), (false, [.int .i64])]) fun ((p30, _), ((x31 : Int), _), _) =>
        π.call (22 : Nat) #[(Go.Value.int (IntKind.i64) (id)), (Go.Value.int (IntKind.i64) (size)), (Go.Value.slice (a) (an) (ac))] (true, [(false, [.ptr]), (false, [.int .i64])]) fun ((p32, _), ((x33 : Int), _), _) =>
        π.join [(false, [.ptr]), (false, [.ptr])] (fun J34 =>
          π.ite (x31 != x33) (
            π.ite (x31 == x33) (
              π.ret (Go.Value.bool (p30.isNone))
            ) (
              π.ret (Go.Value.bool (false))
            )
          ) (
            π.ite (x33 != (0 : Int)) (
              π.ite (x31 == x33) (
                π.ret (Go.Value.bool (p30.isNone))
              ) (
                π.ret (Go.Value.bool (false))
              )
            ) (
              J34 ((p30, ()), (p32, ()), ())
            )
          )
        ) (fun ((p35, _), (p36, _), _) =>
          π.call (17 : Nat) #[(Go.Value.pointer (p35))] (true, [(true, [.int .i64, .int .i64, .bool, .int .i64, .int .i64, .str, .int .i64, .slice]), (false, [.bool])]) fun (((x37 : Int), (x38 : Int), (b39 : Bool), (x40 : Int), (x41 : Int), (t42 : ByteArray), (x43 : Int), ((a44 : Option Addr), (n45 : Nat), (c46 : Nat)), _), ((b47 : Bool), _), _) =>
          π.nw (Go.Obj.cells #[(Go.Value.int (IntKind.i64) ((0 : Int))), (Go.Value.int (IntKind.i64) ((0 : Int))), (Go.Value.bool (false)), (Go.Value.int (IntKind.i64) ((0 : Int))), (Go.Value.int (IntKind.i64) ((0 : Int))), (Go.Value.string (ByteArray.mk #[])), (Go.Value.int (IntKind.i64) ((0 : Int))), (Go.Value.slice (none) ((0 : Nat)) ((0 : Nat)))] (53 : Nat) ((0 : Nat), (0 : Nat))) fun r48 =>
          π.st (Addr.mk r48 (0 : Nat) none) [(Go.Value.int (IntKind.i64) (x37)), (Go.Value.int (IntKind.i64) (x38)), (Go.Value.bool (b39)), (Go.Value.int (IntKind.i64) (x40)), (Go.Value.int (IntKind.i64) (x41)), (Go.Value.string (t42)), (Go.Value.int (IntKind.i64) (x43)), (Go.Value.slice (a44) (n45) (c46))] <|
          π.call (16 : Nat) #[(Go.Value.pointer (p35)), (Go.Value.pointer (p36))] (false, [(false, [.bool])]) fun (((b49 : Bool), _), _) =>
          π.ite (b49) (
            π.ret (Go.Value.bool (!b47))
          ) (
            π.ret (Go.Value.bool (false))
          )
        )
      )
  )

def ann_BallotLoads : Ann := { draws := [], join := [(3, []), (15, [(10, 23), (12, 46)])], loop := [(5, [(7, 3), (24, 59), (25, 3), (26, 3)])] }
set_option maxRecDepth 100000 in
theorem eq_BallotLoads {W : Type} (π : Prims W) (id size : Int) (a : Option Addr) (an ac : Nat) : bodyW π Try.prog ann_BallotLoads (mkFr (maskA [] [.v (.int .i64 id), .v (.int .i64 size), .v (.slice a an ac)] 0) 80) Try.f6 (bodyOf Try.f6) (mkFr (List.map some [.v (.int .i64 id), .v (.int .i64 size), .v (.slice a an ac)]) 80) = vc_BallotLoads π id size a an ac := by kernel_rfl
theorem ok_BallotLoads (id size : Int) (a : Option Addr) (an ac : Nat) (R : Value → PH → Prop) (s : PH) (h : vc_BallotLoads (RP Try.prog R) id size a an ac s) : DCalls Try.prog 6 (List.map AV.val [.v (.int .i64 id), .v (.int .i64 size), .v (.slice a an ac)]).toArray s R :=
  calls_vc (c := bodyOf Try.f6) (ann := ann_BallotLoads) (by kernel_rfl) Try.func6 rfl (by kernel_rfl) [.v (.int .i64 id), .v (.int .i64 size), .v (.slice a an ac)] [] (by rw [Try.ntmps6]; exact Nat.le_of_ble_eq_true rfl) (by rw [show Try.f6.ntmps = 80 from Try.ntmps6, eq_BallotLoads]; exact h)

/-- lintel/ballot.Load -/
def vc_Load {W : Type} (π : Prims W) (id size : Int) (a : Option Addr) (an ac : Nat) : W :=
  π.call (7 : Nat) #[(Go.Value.int (IntKind.i64) (id)), (Go.Value.int (IntKind.i64) (size))] (true, [(false, [.ptr]), (false, [.int .i64])]) fun ((p0, _), ((x1 : Int), _), _) =>
  π.ite (x1 != (0 : Int)) (
    π.ret (Go.Value.tuple #[(Go.Value.pointer (none)), (Go.Value.int (IntKind.i64) (x1))])
  ) (
    π.loop [(false, [.ptr]), (false, [.slice]), (false, [.int .i64]), (false, [.int .i64])] ((p0, ()), ((a, an, ac), ()), ((↑an : Int), ()), ((0 : Int), ()), ()) fun ((p3, _), (((a4 : Option Addr), (n5 : Nat), (c6 : Nat)), _), ((x7 : Int), _), ((x8 : Int), _), _) again2 =>
      π.ite (decide (x8 < x7)) (
        π.guard ((0 : Int) ≤ x8 ∧ x8 < (↑n5 : Int)) <|
        π.unSome (a4) fun p9 =>
        π.ld [.int .i64, .int .i64, .bool, .int .i64, .int .i64, .str, .int .i64, .slice] (p9.add (x8.toNat * (8 : Nat))) fun ((x10 : Int), (x11 : Int), (b12 : Bool), (x13 : Int), (x14 : Int), (t15 : ByteArray), (x16 : Int), ((a17 : Option Addr), (n18 : Nat), (c19 : Nat)), _) =>
        π.nw (Go.Obj.cells #[(Go.Value.int (IntKind.i64) ((0 : Int))), (Go.Value.int (IntKind.i64) ((0 : Int))), (Go.Value.bool (false)), (Go.Value.int (IntKind.i64) ((0 : Int))), (Go.Value.int (IntKind.i64) ((0 : Int))), (Go.Value.string (ByteArray.mk #[])), (Go.Value.int (IntKind.i64) ((0 : Int))), (Go.Value.slice (none) ((0 : Nat)) ((0 : Nat)))] (53 : Nat) ((0 : Nat), (0 : Nat))) fun r20 =>
        π.st (Addr.mk r20 (0 : Nat) none) [(Go.Value.int (IntKind.i64) (x10)), (Go.Value.int (IntKind.i64) (x11)), (Go.Value.bool (b12)), (Go.Value.int (IntKind.i64) (x13)), (Go.Value.int (IntKind.i64) (x14)), (Go.Value.string (t15)), (Go.Value.int (IntKind.i64) (x16)), (Go.Value.slice (a17) (n18) (c19))] <|
        π.join [(false, [.ptr]), (false, [.addr]), (false, [.slice]), (false, [.int .i64]), (false, [.int .i64]), (false, [.bool])] (fun J21 =>
          π.join [(false, [.ptr]), (false, [.addr]), (false, [.slice]), (false, [.int .i64]), (false, [.int .i64]), (false, [.bool])] (fun J22 =>
            π.ld [.int .i64] ((Addr.mk r20 (0 : Nat) none).add (0 : Nat)) fun ((x23 : Int), _) =>
            π.ite (decide (x23 < (0 : Int))) (
              J22 ((p3, ()), (Addr.mk r20 (0 : Nat) none, ()), ((a4, n5, c6), ()), (x7, ()), (x8, ()), (true, ()), ())
            ) (
              π.ld [.int .i64] ((Addr.mk r20 (0 : Nat) none).add (0 : Nat)) fun ((x24 : Int), _) =>
              π.ite (decide (x24 > (2199023255552 : Int))) (
                J22 ((p3, ()), (Addr.mk r20 (0 : Nat) none, ()), ((a4, n5, c6), ()), (x7, ()), (x8, ()), (true, ()), ())
              ) (
                π.ld [.int .i64] ((Addr.mk r20 (0 : Nat) none).add (1 : Nat)) fun ((x25 : Int), _) =>
                π.ite (decide (x25 < (-1 : Int))) (
                  J22 ((p3, ()), (Addr.mk r20 (0 : Nat) none, ()), ((a4, n5, c6), ()), (x7, ()), (x8, ()), (true, ()), ())
                ) (
                  π.ld [.int .i64] ((Addr.mk r20 (0 : Nat) none).add (1 : Nat)) fun ((x26 : Int), _) =>
                  J22 ((p3, ()), (Addr.mk r20 (0 : Nat) none, ()), ((a4, n5, c6), ()), (x7, ()), (x8, ()), (decide (x26 ≥ size), ()), ())
                )
              )
            )
          ) (fun ((p27, _), (p28, _), (((a29 : Option Addr), (n30 : Nat), (c31 : Nat)), _), ((x32 : Int), _), ((x33 : Int), _), ((b34 : Bool), _), _) =>
            π.ite (b34) (
              J21 ((p27, ()), (p28, ()), ((a29, n30, c31), ()), (x32, ()), (x33, ()), (true, ()), ())
            ) (
              π.ld [.bool] (p28.add (2 : Nat)) fun ((b35 : Bool), _) =>
              π.ite (b35) (
                π.ld [.int .i64] (p28.add (3 : Nat)) fun ((x36 : Int), _) =>
                π.ite (decide (x36 < (0 : Int))) (
                  J21 ((p27, ()), (p28, ()), ((a29, n30, c31), ()), (x32, ()), (x33, ()), (true, ()), ())
                ) (
                  π.ld [.int .i64] (p28.add (3 : Nat)) fun ((x37 : Int), _) =>
                  π.ite (decide (x37 > (2199023255552 : Int))) (
                    J21 ((p27, ()), (p28, ()), ((a29, n30, c31), ()), (x32, ()), (x33, ()), (true, ()), ())
                  ) (
                    π.ld [.int .i64] (p28.add (4 : Nat)) fun ((x38 : Int), _) =>
                    π.ite (decide (x38 < (0 : Int))) (
                      J21 ((p27, ()), (p28, ()), ((a29, n30, c31), ()), (x32, ()), (x33, ()), (true, ()), ())
                    ) (
                      π.ld [.int .i64] (p28.add (4 : Nat)) fun ((x39 : Int), _) =>
                      π.ite (decide (x39 > (2199023255552 : Int))) (
                        J21 ((p27, ()), (p28, ()), ((a29, n30, c31), ()), (x32, ()), (x33, ()), (true, ()), ())
                      ) (
                        π.ld [.bool] (p28.add (2 : Nat)) fun ((b40 : Bool), _) =>
                        π.ite (!b40) (
                          π.ld [.int .i64] (p28.add (6 : Nat)) fun ((x41 : Int), _) =>
                          π.unSome (p27) fun p42 =>
                          π.ld [.int .i64] ((p42.add (2 : Nat)).add (4 : Nat)) fun ((x43 : Int), _) =>
                          π.ite (decide (x41 ≤ x43)) (
                            J21 ((p27, ()), (p28, ()), ((a29, n30, c31), ()), (x32, ()), (x33, ()), (true, ()), ())
                          ) (
                            π.ld [.int .i64] (p28.add (6 : Nat)) fun ((x44 : Int), _) =>
                            π.callQ (26 : Nat) #[(Go.Value.pointer (p27))] (false, [(false, [.int .i64])]) fun (((x45 : Int), _), _) =>
                            J21 ((p27, ()), (p28, ()), ((a29, n30, c31), ()), (x32, ()), (x33, ()), (decide (x44 > IntKind.i64.wrap (x45 + (1 : Int))), ()), ())
                          )
                        ) (
                          J21 ((p27, ()), (p28, ()), ((a29, n30, c31), ()), (x32, ()), (x33, ()), (false, ()), ())
                        )
                      )
                    )
                  )
                )
              ) (
                π.ld [.bool] (p28.add (2 : Nat)) fun ((b46 : Bool), _) =>
                π.ite (!b46) (
                  π.ld [.int .i64] (p28.add (6 : Nat)) fun ((x47 : Int), _) =>
                  π.unSome (p27) fun p48 =>
                  π.ld [.int .i64] ((p48.add (2 : Nat)).add (4 : Nat)) fun ((x49 : Int), _) =>
                  π.ite (decide (x47 ≤ x49)) (
                    J21 ((p27, ()), (p28, ()), ((a29, n30, c31), ()), (x32, ()), (x33, ()), (true, ()), ())
                  ) (
                    π.ld [.int .i64] (p28.add (6 : Nat)) fun ((x50 : Int), _) =>
                    π.callQ (26 : Nat) #[(Go.Value.pointer (p27))] (false, [(false, [.int .i64])]) fun (((x51 : Int), _), _) =>
                    J21 ((p27, ()), (p28, ()), ((a29, n30, c31), ()), (x32, ()), (x33, ()), (decide (x50 > IntKind.i64.wrap (x51 + (1 : Int))), ()), ())
                  )
                ) (
                  J21 ((p27, ()), (p28, ()), ((a29, n30, c31), ()), (x32, ()), (x33, ()), (false, ()), ())
                )
              )
            )
          )
        ) (fun ((p52, _), (p53, _), (((a54 : Option Addr), (n55 : Nat), (c56 : Nat)), _), ((x57 : Int), _), ((x58 : Int), _), ((b59 : Bool), _), _) =>
          π.ite (b59) (
            π.ret (Go.Value.tuple #[(Go.Value.pointer (none)), (Go.Value.int (IntKind.i64) ((100 : Int)))])
          ) (
            π.ld [.bool] (p53.add (2 : Nat)) fun ((b60 : Bool), _) =>
            π.ite (b60) (
              π.ld [.int .i64] (p53.add (3 : Nat)) fun ((x61 : Int), _) =>
              π.ld [.int .i64] (p53.add (4 : Nat)) fun ((x62 : Int), _) =>
              π.ld [.str] (p53.add (5 : Nat)) fun ((t63 : ByteArray), _) =>
              π.ld [.slice] (p53.add (7 : Nat)) fun (((a64 : Option Addr), (n65 : Nat), (c66 : Nat)), _) =>
              π.call (38 : Nat) #[(Go.Value.slice (a64) (n65) (c66))] (false, [(false, [.slice])]) fun ((((a67 : Option Addr), (n68 : Nat), (c69 : Nat)), _), _) =>
              π.still [.int .i64] (p53.add (3 : Nat)) (x61, ()) <|
              π.still [.int .i64] (p53.add (4 : Nat)) (x62, ()) <|
              π.still [.str] (p53.add (5 : Nat)) (t63, ()) <|
              π.unSome (p52) fun p70 =>
              π.st ((p70.add (2 : Nat)).add (4 : Nat)) [(Go.Value.int (IntKind.i64) (x61))] <|
              π.still [.int .i64] (p53.add (4 : Nat)) (x62, ()) <|
              π.still [.str] (p53.add (5 : Nat)) (t63, ()) <|
              π.unSome (p52) fun p71 =>
              π.st (p71.add (9 : Nat)) [(Go.Value.int (IntKind.i64) (x62))] <|
              π.still [.str] (p53.add (5 : Nat)) (t63, ()) <|
              π.unSome (p52) fun p72 =>
              π.st (p72.add (10 : Nat)) [(Go.Value.string (t63))] <|
              π.unSome (p52) fun p73 =>
              π.st (p73.add (11 : Nat)) [(Go.Value.slice (a67) (n68) (c69))] <|
              π.ld [.int .i64] (p53.add (0 : Nat)) fun ((x74 : Int), _) =>
              π.ld [.int .i64] (p53.add (1 : Nat)) fun ((x75 : Int), _) =>
              π.unSome (p52) fun p76 =>
              π.st ((p76.add (2 : Nat)).add (0 : Nat)) [(Go.Value.int (IntKind.i64) (x74))] <|
              π.still [.int .i64] (p53.add (1 : Nat)) (x75, ()) <|
              π.unSome (p52) fun p77 =>
              π.st ((p77.add (2 : Nat)).add (1 : Nat)) [(Go.Value.int (IntKind.i64) (x75))] <|
              again2 ((p52, ()), ((a54, n55, c56), ()), (x57, ()), (IntKind.i64.wrap (x58 + (1 : Int)), ()), ())
            ) (
              π.unSome (p52) fun p78 =>
              π.ld [.slice] (p78.add (11 : Nat)) fun (((a79 : Option Addr), (n80 : Nat), (c81 : Nat)), _) =>
              π.ld [.int .i64] (p53.add (6 : Nat)) fun ((x82 : Int), _) =>
              π.unSome (p52) fun p83 =>
              π.ld [.int .i64] ((p83.add (2 : Nat)).add (4 : Nat)) fun ((x84 : Int), _) =>
              π.ld [.int .i64] (p53.add (6 : Nat)) fun ((x85 : Int), _) =>
              π.unSome (p52) fun p86 =>
              π.ld [.int .i64] ((p86.add (2 : Nat)).add (4 : Nat)) fun ((x87 : Int), _) =>
              π.guard ((0 : Int) ≤ (0 : Int) ∧ (0 : Int) ≤ IntKind.i64.wrap (IntKind.i64.wrap (x82 - x84) - (1 : Int)) ∧ IntKind.i64.wrap (IntKind.i64.wrap (x82 - x84) - (1 : Int)) ≤ IntKind.i64.wrap (IntKind.i64.wrap (x85 - x87) - (1 : Int)) ∧ IntKind.i64.wrap (IntKind.i64.wrap (x85 - x87) - (1 : Int)) ≤ (↑c81 : Int)) <|
              π.ld [.slice] (p53.add (7 : Nat)) fun (((a88 : Option Addr), (n89 : Nat), (c90 : Nat)), _) =>
              π.app (39 : Nat) (4 : Nat) (40 : Nat) [(Go.Value.int (IntKind.i64) ((0 : Int))), (Go.Value.int (IntKind.i64) ((0 : Int))), (Go.Value.int (IntKind.i64) ((0 : Int))), (Go.Value.string (ByteArray.mk #[]))] (if (IntKind.i64.wrap (IntKind.i64.wrap (x85 - x87) - (1 : Int))).toNat = (0 : Nat) then a79 else Option.map (fun x => x.add (0 : Nat)) a79) ((IntKind.i64.wrap (IntKind.i64.wrap (x82 - x84) - (1 : Int))).toNat - (0 : Nat)) ((IntKind.i64.wrap (IntKind.i64.wrap (x85 - x87) - (1 : Int))).toNat - (0 : Nat)) (Src.sl a88 n89) fun a91 n92 c93 =>
              π.unSome (p52) fun p94 =>
              π.st (p94.add (11 : Nat)) [(Go.Value.slice (a91) (n92) (c93))] <|
              π.ld [.int .i64] (p53.add (0 : Nat)) fun ((x95 : Int), _) =>
              π.ld [.int .i64] (p53.add (1 : Nat)) fun ((x96 : Int), _) =>
              π.unSome (p52) fun p97 =>
              π.st ((p97.add (2 : Nat)).add (0 : Nat)) [(Go.Value.int (IntKind.i64) (x95))] <|
              π.still [.int .i64] (p53.add (1 : Nat)) (x96, ()) <|
              π.unSome (p52) fun p98 =>
              π.st ((p98.add (2 : Nat)).add (1 : Nat)) [(Go.Value.int (IntKind.i64) (x96))] <|
              again2 ((p52, ()), ((a54, n55, c56), ()), (x57, ()), (IntKind.i64.wrap (x58 + (1 : Int)), ()), ())
            )
          )
        )
      ) (
        π.unSome (p3) fun p99 =>
        π.ld [.int .i64] ((p99.add (2 : Nat)).add (4 : Nat)) fun ((x100 : Int), _) =>
        π.unSome (p3) fun p101 =>
        π.st ((p101.add (2 : Nat)).add (6 : Nat)) [(Go.Value.int (IntKind.i64) (x100))] <|
        π.call (23 : Nat) #[(Go.Value.pointer (p3))] (true, []) fun (_) =>
        π.ret (Go.Value.tuple #[(Go.Value.pointer (p3)), (Go.Value.int (IntKind.i64) ((0 : Int)))])
      )
  )

def ann_Load : Ann := { draws := [(10, { A := [0, 1, 2, 3, 4, 5, 6, 7, 8, 9, 10, 11, 12, 13, 14, 15, 16, 17, 18, 19, 20, 21], quiet := [16] }), (13, { A := [0, 1, 2, 3, 4, 5, 6, 7, 8, 9, 10, 11], chkL := [(12, [5, 7, 9]), (16, [7, 9]), (19, [9])], eag := [13, 14, 15, 17, 18, 20, 21, 23, 24] }), (7, { A := [0, 1, 2, 3, 4, 5, 6, 7, 8, 9, 10, 11, 12, 13, 14, 15, 16, 17, 18, 19, 20, 21, 22, 23, 24, 25], eag := [27, 28] }), (14, { A := [0, 1, 2, 3, 4, 5, 6, 7, 8], chkL := [(9, [5])], eag := [10, 11, 12] })], join := [(9, [(8, 23), (11, 1000000), (21, 59), (22, 3), (23, 3), (56, 4)]), (11, [(8, 23), (11, 1000000), (21, 59), (22, 3), (23, 3), (56, 4)])], loop := [(5, [(8, 23), (21, 59), (22, 3), (23, 3)])] }
set_option maxRecDepth 100000 in
theorem eq_Load {W : Type} (π : Prims W) (id size : Int) (a : Option Addr) (an ac : Nat) : bodyW π Try.prog ann_Load (mkFr (maskA [] [.v (.int .i64 id), .v (.int .i64 size), .v (.slice a an ac)] 0) 169) Try.f21 (bodyOf Try.f21) (mkFr (List.map some [.v (.int .i64 id), .v (.int .i64 size), .v (.slice a an ac)]) 169) = vc_Load π id size a an ac := by kernel_rfl
theorem ok_Load (id size : Int) (a : Option Addr) (an ac : Nat) (R : Value → PH → Prop) (s : PH) (h : vc_Load (RP Try.prog R) id size a an ac s) : DCalls Try.prog 21 (List.map AV.val [.v (.int .i64 id), .v (.int .i64 size), .v (.slice a an ac)]).toArray s R :=
  calls_vc (c := bodyOf Try.f21) (ann := ann_Load) (by kernel_rfl) Try.func21 rfl (by kernel_rfl) [.v (.int .i64 id), .v (.int .i64 size), .v (.slice a an ac)] [] (by rw [Try.ntmps21]; exact Nat.le_of_ble_eq_true rfl) (by rw [show Try.f21.ntmps = 169 from Try.ntmps21, eq_Load]; exact h)

/-- lintel/lintelref09.New -/
def vc_rNew {W : Type} (π : Prims W) (id size : Int) : W :=
  π.ite (decide (size < (1 : Int))) (
    π.ret (Go.Value.tuple #[(Go.Value.pointer (none)), (Go.Value.bool (false))])
  ) (
    π.ite (decide (size > (5 : Int))) (
      π.ret (Go.Value.tuple #[(Go.Value.pointer (none)), (Go.Value.bool (false))])
    ) (
      π.ite (decide (id < (0 : Int))) (
        π.ret (Go.Value.tuple #[(Go.Value.pointer (none)), (Go.Value.bool (false))])
      ) (
        π.ite (decide (id ≥ size)) (
          π.ret (Go.Value.tuple #[(Go.Value.pointer (none)), (Go.Value.bool (false))])
        ) (
          π.nw (Go.Obj.cells #[(Go.Value.int (IntKind.i64) (id)), (Go.Value.int (IntKind.i64) (size)), (Go.Value.int (IntKind.i64) ((0 : Int))), (Go.Value.int (IntKind.i64) ((-1 : Int))), (Go.Value.int (IntKind.i64) ((0 : Int))), (Go.Value.int (IntKind.i64) ((-1 : Int))), (Go.Value.int (IntKind.i64) ((0 : Int))), (Go.Value.int (IntKind.i64) ((0 : Int))), (Go.Value.string (ByteArray.mk #[])), (Go.Value.slice (none) ((0 : Nat)) ((0 : Nat))), (Go.Value.bool (false)), (Go.Value.bool (false)), (Go.Value.bool (false)), (Go.Value.bool (false)), (Go.Value.bool (false)), (Go.Value.int (IntKind.i64) ((0 : Int))), (Go.Value.int (IntKind.i64) ((0 : Int))), (Go.Value.int (IntKind.i64) ((0 : Int))), (Go.Value.int (IntKind.i64) ((0 : Int))), (Go.Value.int (IntKind.i64) ((0 : Int))), (Go.Value.int (IntKind.i64) ((0 : Int))), (Go.Value.int (IntKind.i64) ((0 : Int))), (Go.Value.int (IntKind.i64) ((0 : Int))), (Go.Value.int (IntKind.i64) ((0 : Int))), (Go.Value.int (IntKind.i64) ((0 : Int))), (Go.Value.int (IntKind.i64) ((0 : Int))), (Go.Value.bool (false)), (Go.Value.bool (false)), (Go.Value.int (IntKind.i64) ((1 : Int))), (Go.Value.slice (none) ((0 : Nat)) ((0 : Nat)))] (78 : Nat) ((0 : Nat), (0 : Nat))) fun r0 =>
          π.ret (Go.Value.tuple #[(Go.Value.pointer (some (Addr.mk r0 (0 : Nat) none))), (Go.Value.bool (true))])
        )
      )
    )
  )

def ann_rNew : Ann := { draws := [], join := [], loop := [] }
set_option maxRecDepth 100000 in
theorem eq_rNew {W : Type} (π : Prims W) (id size : Int) : bodyW π Try.prog ann_rNew (mkFr (maskA [] [.v (.int .i64 id), .v (.int .i64 size)] 0) 25) Try.f13 (bodyOf Try.f13) (mkFr (List.map some [.v (.int .i64 id), .v (.int .i64 size)]) 25) = vc_rNew π id size := by kernel_rfl
theorem ok_rNew (id size : Int) (R : Value → PH → Prop) (s : PH) (h : vc_rNew (RP Try.prog R) id size s) : DCalls Try.prog 13 (List.map AV.val [.v (.int .i64 id), .v (.int .i64 size)]).toArray s R :=
  calls_vc (c := bodyOf Try.f13) (ann := ann_rNew) (by kernel_rfl) Try.func13 rfl (by kernel_rfl) [.v (.int .i64 id), .v (.int .i64 size)] [] (by rw [Try.ntmps13]; exact Nat.le_of_ble_eq_true rfl) (by rw [show Try.f13.ntmps = 25 from Try.ntmps13, eq_rNew]; exact h)

/-- lintel/lintelref09.Load -/
def vc_rLoad {W : Type} (π : Prims W) (id size : Int) (a : Option Addr) (an ac : Nat) : W :=
  π.call (13 : Nat) #[(Go.Value.int (IntKind.i64) (id)), (Go.Value.int (IntKind.i64) (size))] (true, [(false, [.ptr]), (false, [.bool])]) fun ((p0, _), ((b1 : Bool), _), _) =>
  π.ite (!b1) (
    π.ret (Go.Value.tuple #[(Go.Value.pointer (none)), (Go.Value.int (IntKind.i64) ((1 : Int)))])
  ) (
    π.loop [(false, [.ptr]), (false, [.int .i64])] ((p0, ()), ((0 : Int), ()), ()) fun ((p3, _), ((x4 : Int), _), _) again2 =>
      π.ite (decide (x4 < (↑an : Int))) (
        π.guard ((0 : Int) ≤ x4 ∧ x4 < (↑an : Int)) <|
        π.unSome (a) fun p5 =>
        π.ld [.int .i64, .int .i64, .bool, .int .i64, .int .i64, .str, .int .i64, .slice] (p5.add (x4.toNat * (8 : Nat))) fun ((x6 : Int), (x7 : Int), (b8 : Bool), (x9 : Int), (x10 : Int), (t11 : ByteArray), (x12 : Int), ((a13 : Option Addr), (n14 : Nat), (c15 : Nat)), _) =>
        π.nw (Go.Obj.cells #[(Go.Value.int (IntKind.i64) ((0 : Int))), (Go.Value.int (IntKind.i64) ((0 : Int))), (Go.Value.bool (false)), (Go.Value.int (IntKind.i64) ((0 : Int))), (Go.Value.int (IntKind.i64) ((0 : Int))), (Go.Value.string (ByteArray.mk #[])), (Go.Value.int (IntKind.i64) ((0 : Int))), (Go.Value.slice (none) ((0 : Nat)) ((0 : Nat)))] (53 : Nat) ((0 : Nat), (0 : Nat))) fun r16 =>
        π.st (Addr.mk r16 (0 : Nat) none) [(Go.Value.int (IntKind.i64) (x6)), (Go.Value.int (IntKind.i64) (x7)), (Go.Value.bool (b8)), (Go.Value.int (IntKind.i64) (x9)), (Go.Value.int (IntKind.i64) (x10)), (Go.Value.string (t11)), (Go.Value.int (IntKind.i64) (x12)), (Go.Value.slice (a13) (n14) (c15))] <|
        π.join [(false, [.ptr]), (false, [.int .i64]), (false, [.addr])] (fun J17 =>
          π.ld [.int .i64] ((Addr.mk r16 (0 : Nat) none).add (0 : Nat)) fun ((x18 : Int), _) =>
          π.ite (decide (x18 < (0 : Int))) (
            π.ret (Go.Value.tuple #[(Go.Value.pointer (none)), (Go.Value.int (IntKind.i64) ((100 : Int)))])
          ) (
            π.ld [.int .i64] ((Addr.mk r16 (0 : Nat) none).add (0 : Nat)) fun ((x19 : Int), _) =>
            π.ite (decide (x19 > (2199023255552 : Int))) (
              π.ret (Go.Value.tuple #[(Go.Value.pointer (none)), (Go.Value.int (IntKind.i64) ((100 : Int)))])
            ) (
              π.ld [.int .i64] ((Addr.mk r16 (0 : Nat) none).add (1 : Nat)) fun ((x20 : Int), _) =>
              π.ite (decide (x20 < (-1 : Int))) (
                π.ret (Go.Value.tuple #[(Go.Value.pointer (none)), (Go.Value.int (IntKind.i64) ((100 : Int)))])
              ) (
                π.ld [.int .i64] ((Addr.mk r16 (0 : Nat) none).add (1 : Nat)) fun ((x21 : Int), _) =>
                π.ite (decide (x21 ≥ size)) (
                  π.ret (Go.Value.tuple #[(Go.Value.pointer (none)), (Go.Value.int (IntKind.i64) ((100 : Int)))])
                ) (
                  J17 ((p3, ()), (x4, ()), (Addr.mk r16 (0 : Nat) none, ()), ())
                )
              )
            )
          )
        ) (fun ((p22, _), ((x23 : Int), _), (p24, _), _) =>
          π.ld [.bool] (p24.add (2 : Nat)) fun ((b25 : Bool), _) =>
          π.ite (b25) (
            π.join [(false, [.ptr]), (false, [.int .i64]), (false, [.addr])] (fun J26 =>
              π.ld [.int .i64] (p24.add (3 : Nat)) fun ((x27 : Int), _) =>
              π.ite (decide (x27 < (0 : Int))) (
                π.ret (Go.Value.tuple #[(Go.Value.pointer (none)), (Go.Value.int (IntKind.i64) ((100 : Int)))])
              ) (
                π.ld [.int .i64] (p24.add (3 : Nat)) fun ((x28 : Int), _) =>
                π.ite (decide (x28 > (2199023255552 : Int))) (
                  π.ret (Go.Value.tuple #[(Go.Value.pointer (none)), (Go.Value.int (IntKind.i64) ((100 : Int)))])
                ) (
                  π.ld [.int .i64] (p24.add (4 : Nat)) fun ((x29 : Int), _) =>
                  π.ite (decide (x29 < (0 : Int))) (
                    π.ret (Go.Value.tuple #[(Go.Value.pointer (none)), (Go.Value.int (IntKind.i64) ((100 : Int)))])
                  ) (
                    π.ld [.int .i64] (p24.add (4 : Nat)) fun ((x30 : Int), _) =>
                    π.ite (decide (x30 > (2199023255552 : Int))) (
                      π.ret (Go.Value.tuple #[(Go.Value.pointer (none)), (Go.Value.int (IntKind.i64) ((100 : Int)))])
                    ) (
                      J26 ((p22, ()), (x23, ()), (p24, ()), ())
                    )
                  )
                )
              )
            ) (fun ((p31, _), ((x32 : Int), _), (p33, _), _) =>
              π.ld [.int .i64] (p33.add (3 : Nat)) fun ((x34 : Int), _) =>
              π.unSome (p31) fun p35 =>
              π.st (p35.add (6 : Nat)) [(Go.Value.int (IntKind.i64) (x34))] <|
              π.ld [.int .i64] (p33.add (4 : Nat)) fun ((x36 : Int), _) =>
              π.unSome (p31) fun p37 =>
              π.st (p37.add (7 : Nat)) [(Go.Value.int (IntKind.i64) (x36))] <|
              π.ld [.str] (p33.add (5 : Nat)) fun ((t38 : ByteArray), _) =>
              π.unSome (p31) fun p39 =>
              π.st (p39.add (8 : Nat)) [(Go.Value.string (t38))] <|
              π.nw (Go.Obj.cells #[] (39 : Nat) ((0 : Nat), (0 : Nat))) fun r40 =>
              π.ld [.slice] (p33.add (7 : Nat)) fun (((a41 : Option Addr), (n42 : Nat), (c43 : Nat)), _) =>
              π.app (39 : Nat) (4 : Nat) (40 : Nat) [(Go.Value.int (IntKind.i64) ((0 : Int))), (Go.Value.int (IntKind.i64) ((0 : Int))), (Go.Value.int (IntKind.i64) ((0 : Int))), (Go.Value.string (ByteArray.mk #[]))] (some (Addr.mk r40 (0 : Nat) none)) ((0 : Nat)) ((0 : Nat)) (Src.sl a41 n42) fun a44 n45 c46 =>
              π.unSome (p31) fun p47 =>
              π.st (p47.add (9 : Nat)) [(Go.Value.slice (a44) (n45) (c46))] <|
              π.ld [.int .i64] (p33.add (0 : Nat)) fun ((x48 : Int), _) =>
              π.unSome (p31) fun p49 =>
              π.st (p49.add (2 : Nat)) [(Go.Value.int (IntKind.i64) (x48))] <|
              π.ld [.int .i64] (p33.add (1 : Nat)) fun ((x50 : Int), _) =>
              π.unSome (p31) fun p51 =>
              π.st (p51.add (3 : Nat)) [(Go.Value.int (IntKind.i64) (x50))] <|
              again2 ((p31, ()), (IntKind.i64.wrap (x32 + (1 : Int)), ()), ())
            )
          ) (
            π.join [(false, [.ptr]), (false, [.int .i64]), (false, [.addr])] (fun J52 =>
              π.ld [.int .i64] (p24.add (6 : Nat)) fun ((x53 : Int), _) =>
              π.unSome (p22) fun p54 =>
              π.ld [.int .i64] (p54.add (6 : Nat)) fun ((x55 : Int), _) =>
              π.ite (decide (x53 < IntKind.i64.wrap (x55 + (1 : Int)))) (
                π.ret (Go.Value.tuple #[(Go.Value.pointer (none)), (Go.Value.int (IntKind.i64) ((100 : Int)))])
              ) (
                π.ld [.int .i64] (p24.add (6 : Nat)) fun ((x56 : Int), _) =>
                π.call (37 : Nat) #[(Go.Value.pointer (p22))] (false, [(false, [.int .i64])]) fun (((x57 : Int), _), _) =>
                π.still [.int .i64] (p24.add (6 : Nat)) (x56, ()) <|
                π.ite (decide (x56 > IntKind.i64.wrap (x57 + (1 : Int)))) (
                  π.ret (Go.Value.tuple #[(Go.Value.pointer (none)), (Go.Value.int (IntKind.i64) ((100 : Int)))])
                ) (
                  J52 ((p22, ()), (x23, ()), (p24, ()), ())
                )
              )
            ) (fun ((p58, _), ((x59 : Int), _), (p60, _), _) =>
              π.unSome (p58) fun p61 =>
              π.ld [.slice] (p61.add (9 : Nat)) fun (((a62 : Option Addr), (n63 : Nat), (c64 : Nat)), _) =>
              π.ld [.int .i64] (p60.add (6 : Nat)) fun ((x65 : Int), _) =>
              π.unSome (p58) fun p66 =>
              π.ld [.int .i64] (p66.add (6 : Nat)) fun ((x67 : Int), _) =>
              π.guard ((0 : Int) ≤ (0 : Int) ∧ (0 : Int) ≤ IntKind.i64.wrap (IntKind.i64.wrap (x65 - x67) - (1 : Int)) ∧ IntKind.i64.wrap (IntKind.i64.wrap (x65 - x67) - (1 : Int)) ≤ (↑c64 : Int)) <|
              π.nw (Go.Obj.cells #[] (39 : Nat) ((0 : Nat), (0 : Nat))) fun r68 =>
              π.app (39 : Nat) (4 : Nat) (40 : Nat) [(Go.Value.int (IntKind.i64) ((0 : Int))), (Go.Value.int (IntKind.i64) ((0 : Int))), (Go.Value.int (IntKind.i64) ((0 : Int))), (Go.Value.string (ByteArray.mk #[]))] (some (Addr.mk r68 (0 : Nat) none)) ((0 : Nat)) ((0 : Nat)) (Src.sl (if c64 = (0 : Nat) then a62 else Option.map (fun x => x.add (0 : Nat)) a62) ((IntKind.i64.wrap (IntKind.i64.wrap (x65 - x67) - (1 : Int))).toNat - (0 : Nat))) fun a69 n70 c71 =>
              π.ld [.slice] (p60.add (7 : Nat)) fun (((a72 : Option Addr), (n73 : Nat), (c74 : Nat)), _) =>
              π.app (39 : Nat) (4 : Nat) (40 : Nat) [(Go.Value.int (IntKind.i64) ((0 : Int))), (Go.Value.int (IntKind.i64) ((0 : Int))), (Go.Value.int (IntKind.i64) ((0 : Int))), (Go.Value.string (ByteArray.mk #[]))] (a69) (n70) (c71) (Src.sl a72 n73) fun a75 n76 c77 =>
              π.unSome (p58) fun p78 =>
              π.st (p78.add (9 : Nat)) [(Go.Value.slice (a75) (n76) (c77))] <|
              π.ld [.int .i64] (p60.add (0 : Nat)) fun ((x79 : Int), _) =>
              π.unSome (p58) fun p80 =>
              π.st (p80.add (2 : Nat)) [(Go.Value.int (IntKind.i64) (x79))] <|
              π.ld [.int .i64] (p60.add (1 : Nat)) fun ((x81 : Int), _) =>
              π.unSome (p58) fun p82 =>
              π.st (p82.add (3 : Nat)) [(Go.Value.int (IntKind.i64) (x81))] <|
              again2 ((p58, ()), (IntKind.i64.wrap (x59 + (1 : Int)), ()), ())
            )
          )
        )
      ) (
        π.unSome (p3) fun p83 =>
        π.ld [.int .i64] (p83.add (6 : Nat)) fun ((x84 : Int), _) =>
        π.unSome (p3) fun p85 =>
        π.st (p85.add (25 : Nat)) [(Go.Value.int (IntKind.i64) (x84))] <|
        π.call (37 : Nat) #[(Go.Value.pointer (p3))] (false, [(false, [.int .i64])]) fun (((x86 : Int), _), _) =>
        π.unSome (p3) fun p87 =>
        π.st (p87.add (28 : Nat)) [(Go.Value.int (IntKind.i64) (IntKind.i64.wrap (x86 + (1 : Int))))] <|
        π.ret (Go.Value.tuple #[(Go.Value.pointer (p3)), (Go.Value.int (IntKind.i64) ((0 : Int)))])
      )
  )

def ann_rLoad : Ann := { draws := [(17, { A := [0, 1, 2, 3, 4, 5, 6, 7, 8, 9, 10, 11], chkL := [(12, [10])], eag := [13, 14, 15] }), (19, { A := [1, 2, 3, 4, 5, 6, 7, 8, 9, 10, 11, 12, 13], eag := [15] })], join := [(10, [(8, 46), (10, 3), (11, 1000000)]), (13, [(8, 46), (10, 3), (11, 1000000)]), (19, [(8, 46), (10, 3), (11, 1000000)])], loop := [(5, [(8, 46), (10, 3)])] }
set_option maxRecDepth 100000 in
theorem eq_rLoad {W : Type} (π : Prims W) (id size : Int) (a : Option Addr) (an ac : Nat) : bodyW π Try.prog ann_rLoad (mkFr (maskA [] [.v (.int .i64 id), .v (.int .i64 size), .v (.slice a an ac)] 0) 154) Try.f22 (bodyOf Try.f22) (mkFr (List.map some [.v (.int .i64 id), .v (.int .i64 size), .v (.slice a an ac)]) 154) = vc_rLoad π id size a an ac := by kernel_rfl
theorem ok_rLoad (id size : Int) (a : Option Addr) (an ac : Nat) (R : Value → PH → Prop) (s : PH) (h : vc_rLoad (RP Try.prog R) id size a an ac s) : DCalls Try.prog 22 (List.map AV.val [.v (.int .i64 id), .v (.int .i64 size), .v (.slice a an ac)]).toArray s R :=
  calls_vc (c := bodyOf Try.f22) (ann := ann_rLoad) (by kernel_rfl) Try.func22 rfl (by kernel_rfl) [.v (.int .i64 id), .v (.int .i64 size), .v (.slice a an ac)] [] (by rw [Try.ntmps22]; exact Nat.le_of_ble_eq_true rfl) (by rw [show Try.f22.ntmps = 154 from Try.ntmps22, eq_rLoad]; exact h)

/-- lintel/lintellaw09.stands -/
def vc_stands {W : Type} (π : Prims W) (b r : Nat) : W :=
  π.call (10 : Nat) #[(Go.Value.pointer (some (Addr.mk b (0 : Nat) none)))] (false, [(true, [.int .i64, .int .i64, .int .i64, .int .i64, .int .i64, .int .i64, .int .i64])]) fun (((x0 : Int), (x1 : Int), (x2 : Int), (x3 : Int), (x4 : Int), (x5 : Int), (x6 : Int), _), _) =>
  π.nw (Go.Obj.cells #[(Go.Value.int (IntKind.i64) ((0 : Int))), (Go.Value.int (IntKind.i64) ((0 : Int))), (Go.Value.int (IntKind.i64) ((0 : Int))), (Go.Value.int (IntKind.i64) ((0 : Int))), (Go.Value.int (IntKind.i64) ((0 : Int))), (Go.Value.int (IntKind.i64) ((0 : Int))), (Go.Value.int (IntKind.i64) ((0 : Int)))] (36 : Nat) ((0 : Nat), (0 : Nat))) fun r7 =>
  π.st (Addr.mk r7 (0 : Nat) none) [(Go.Value.int (IntKind.i64) (x0)), (Go.Value.int (IntKind.i64) (x1)), (Go.Value.int (IntKind.i64) (x2)), (Go.Value.int (IntKind.i64) (x3)), (Go.Value.int (IntKind.i64) (x4)), (Go.Value.int (IntKind.i64) (x5)), (Go.Value.int (IntKind.i64) (x6))] <|
  π.join [] (fun J8 =>
    π.ld [.int .i64, .int .i64, .int .i64, .int .i64, .int .i64, .int .i64, .int .i64] (Addr.mk r7 (0 : Nat) none) fun ((x9 : Int), (x10 : Int), (x11 : Int), (x12 : Int), (x13 : Int), (x14 : Int), (x15 : Int), _) =>
    π.unSome (some (Addr.mk r (0 : Nat) none)) fun p16 =>
    π.ld [.int .i64] (p16.add (2 : Nat)) fun ((x17 : Int), _) =>
    π.unSome (some (Addr.mk r (0 : Nat) none)) fun p18 =>
    π.ld [.int .i64] (p18.add (3 : Nat)) fun ((x19 : Int), _) =>
    π.unSome (some (Addr.mk r (0 : Nat) none)) fun p20 =>
    π.ld [.int .i64] (p20.add (4 : Nat)) fun ((x21 : Int), _) =>
    π.unSome (some (Addr.mk r (0 : Nat) none)) fun p22 =>
    π.ld [.int .i64] (p22.add (5 : Nat)) fun ((x23 : Int), _) =>
    π.unSome (some (Addr.mk r (0 : Nat) none)) fun p24 =>
    π.ld [.int .i64] (p24.add (6 : Nat)) fun ((x25 : Int), _) =>
    π.unSome (some (Addr.mk r (0 : Nat) none)) fun p26 =>
    π.ld [.int .i64] (p26.add (25 : Nat)) fun ((x27 : Int), _) =>
    π.call (37 : Nat) #[(Go.Value.pointer (some (Addr.mk r (0 : Nat) none)))] (false, [(false, [.int .i64])]) fun (((x28 : Int), _), _) =>
    π.still [.int .i64, .int .i64, .int .i64, .int .i64, .int .i64, .int .i64, .int .i64] (Addr.mk r7 (0 : Nat) none) (x9, x10, x11, x12, x13, x14, x15, ()) <|
    π.still [.int .i64] (p16.add (2 : Nat)) (x17, ()) <|
    π.still [.int .i64] (p18.add (3 : Nat)) (x19, ()) <|
    π.still [.int .i64] (p20.add (4 : Nat)) (x21, ()) <|
    π.still [.int .i64] (p22.add (5 : Nat)) (x23, ()) <|
    π.still [.int .i64] (p24.add (6 : Nat)) (x25, ()) <|
    π.still [.int .i64] (p26.add (25 : Nat)) (x27, ()) <|
    π.ite (!(x9 == x17 && (x10 == x19 && (x11 == x21 && (x12 == x23 && (x13 == x25 && (x14 == x28 && (x15 == x27 && true)))))))) (
      π.both (
        π.ret (Go.Value.bool (false))
      ) (
        π.ret (Go.Value.bool (false))
      )
    ) (
      π.unSome (some (Addr.mk r (0 : Nat) none)) fun p29 =>
      π.both (
        π.call (20 : Nat) #[(Go.Value.pointer (some (Addr.mk b (0 : Nat) none)))] (false, [(false, [.str])]) fun (((t30 : ByteArray), _), _) =>
        π.ld [.str] (p29.add (8 : Nat)) fun ((t31 : ByteArray), _) =>
        π.ite (!t30.toList == t31.toList) (
          π.ret (Go.Value.bool (false))
        ) (
          J8 (())
        )
      ) (
        π.ld [.str] (p29.add (8 : Nat)) fun ((t32 : ByteArray), _) =>
        π.call (20 : Nat) #[(Go.Value.pointer (some (Addr.mk b (0 : Nat) none)))] (false, [(false, [.str])]) fun (((t33 : ByteArray), _), _) =>
        π.ite (!t33.toList == t32.toList) (
          π.ret (Go.Value.bool (false))
        ) (
          J8 (())
        )
      )
    )
  ) (fun (_) =>
    π.unSome (some (Addr.mk r (0 : Nat) none)) fun p34 =>
    π.ld [.slice] (p34.add (9 : Nat)) fun (((a35 : Option Addr), (n36 : Nat), (c37 : Nat)), _) =>
    π.loop [(false, [.int .i64]), (false, [.int .i64])] (((↑n36 : Int), ()), ((0 : Int), ()), ()) fun (((x39 : Int), _), ((x40 : Int), _), _) again38 =>
      π.ite (decide (x40 < x39)) (
        π.unSome (some (Addr.mk r (0 : Nat) none)) fun p41 =>
        π.ld [.int .i64] (p41.add (6 : Nat)) fun ((x42 : Int), _) =>
        π.call (11 : Nat) #[(Go.Value.pointer (some (Addr.mk b (0 : Nat) none))), (Go.Value.int (IntKind.i64) (IntKind.i64.wrap (IntKind.i64.wrap (x42 + (1 : Int)) + x40)))] (true, [(true, [.int .i64, .int .i64, .int .i64, .str]), (false, [.bool])]) fun (((x43 : Int), (x44 : Int), (x45 : Int), (t46 : ByteArray), _), ((b47 : Bool), _), _) =>
        π.nw (Go.Obj.cells #[(Go.Value.int (IntKind.i64) ((0 : Int))), (Go.Value.int (IntKind.i64) ((0 : Int))), (Go.Value.int (IntKind.i64) ((0 : Int))), (Go.Value.string (ByteArray.mk #[]))] (39 : Nat) ((0 : Nat), (0 : Nat))) fun r48 =>
        π.st (Addr.mk r48 (0 : Nat) none) [(Go.Value.int (IntKind.i64) (x43)), (Go.Value.int (IntKind.i64) (x44)), (Go.Value.int (IntKind.i64) (x45)), (Go.Value.string (t46))] <|
        π.ite (!b47) (
          π.ret (Go.Value.bool (false))
        ) (
          π.ld [.int .i64, .int .i64, .int .i64, .str] (Addr.mk r48 (0 : Nat) none) fun ((x49 : Int), (x50 : Int), (x51 : Int), (t52 : ByteArray), _) =>
          π.unSome (some (Addr.mk r (0 : Nat) none)) fun p53 =>
          π.ld [.slice] (p53.add (9 : Nat)) fun (((a54 : Option Addr), (n55 : Nat), (c56 : Nat)), _) =>
          π.guard ((0 : Int) ≤ x40 ∧ x40 < (↑n55 : Int)) <|
          π.unSome (a54) fun p57 =>
          π.ld [.int .i64, .int .i64, .int .i64, .str] (p57.add (x40.toNat * (4 : Nat))) fun ((x58 : Int), (x59 : Int), (x60 : Int), (t61 : ByteArray), _) =>
          π.ite (!(x49 == x58 && (x50 == x59 && (x51 == x60 && (t52 == t61 && true))))) (
            π.ret (Go.Value.bool (false))
          ) (
            again38 ((x39, ()), (IntKind.i64.wrap (x40 + (1 : Int)), ()), ())
          )
        )
      ) (
        π.unSome (some (Addr.mk r (0 : Nat) none)) fun p62 =>
        π.ld [.int .i64] (p62.add (6 : Nat)) fun ((x63 : Int), _) =>
        π.call (11 : Nat) #[(Go.Value.pointer (some (Addr.mk b (0 : Nat) none))), (Go.Value.int (IntKind.i64) (x63))] (true, [(true, [.int .i64, .int .i64, .int .i64, .str]), (false, [.bool])]) fun (((x64 : Int), (x65 : Int), (x66 : Int), (t67 : ByteArray), _), ((b68 : Bool), _), _) =>
        π.nw (Go.Obj.cells #[(Go.Value.int (IntKind.i64) ((0 : Int))), (Go.Value.int (IntKind.i64) ((0 : Int))), (Go.Value.int (IntKind.i64) ((0 : Int))), (Go.Value.string (ByteArray.mk #[]))] (39 : Nat) ((0 : Nat), (0 : Nat))) fun r69 =>
        π.st (Addr.mk r69 (0 : Nat) none) [(Go.Value.int (IntKind.i64) (x64)), (Go.Value.int (IntKind.i64) (x65)), (Go.Value.int (IntKind.i64) (x66)), (Go.Value.string (t67))] <|
        π.call (37 : Nat) #[(Go.Value.pointer (some (Addr.mk r (0 : Nat) none)))] (false, [(false, [.int .i64])]) fun (((x70 : Int), _), _) =>
        π.call (11 : Nat) #[(Go.Value.pointer (some (Addr.mk b (0 : Nat) none))), (Go.Value.int (IntKind.i64) (IntKind.i64.wrap (x70 + (1 : Int))))] (true, [(true, [.int .i64, .int .i64, .int .i64, .str]), (false, [.bool])]) fun (((x71 : Int), (x72 : Int), (x73 : Int), (t74 : ByteArray), _), ((b75 : Bool), _), _) =>
        π.nw (Go.Obj.cells #[(Go.Value.int (IntKind.i64) ((0 : Int))), (Go.Value.int (IntKind.i64) ((0 : Int))), (Go.Value.int (IntKind.i64) ((0 : Int))), (Go.Value.string (ByteArray.mk #[]))] (39 : Nat) ((0 : Nat), (0 : Nat))) fun r76 =>
        π.st (Addr.mk r76 (0 : Nat) none) [(Go.Value.int (IntKind.i64) (x71)), (Go.Value.int (IntKind.i64) (x72)), (Go.Value.int (IntKind.i64) (x73)), (Go.Value.string (t74))] <|
        π.ite (!b68) (
          π.ret (Go.Value.bool (!b75))
        ) (
          π.ret (Go.Value.bool (false))
        )
      )
  )

def ann_stands : Ann := { draws := [(2, { A := [0, 1, 2, 3, 4, 5, 6, 7, 8, 9, 10, 11, 12, 13, 14, 15, 16, 17, 18, 19, 20, 21, 23, 24, 25, 26], chkL := [(22, [0, 4, 8, 12, 16, 20, 26])], eag := [27, 28, 29, 30, 32, 33, 34, 36, 37] }), (8, { A := [0, 1, 2, 3, 4, 5, 6, 7, 8, 9, 10, 11, 12] })], join := [(4, [])], loop := [(5, [(57, 3), (58, 3)])] }
set_option maxRecDepth 100000 in
theorem eq_stands {W : Type} (π : Prims W) (b r : Nat) : bodyW π Try.prog ann_stands (mkFr (maskA [] [.v (.pointer (some ⟨b, 0, none⟩)), .v (.pointer (some ⟨r, 0, none⟩))] 0) 110) Try.f16 (bodyOf Try.f16) (mkFr (List.map some [.v (.pointer (some ⟨b, 0, none⟩)), .v (.pointer (some ⟨r, 0, none⟩))]) 110) = vc_stands π b r := by kernel_rfl
theorem ok_stands (b r : Nat) (R : Value → PH → Prop) (s : PH) (h : vc_stands (RP Try.prog R) b r s) : DCalls Try.prog 16 (List.map AV.val [.v (.pointer (some ⟨b, 0, none⟩)), .v (.pointer (some ⟨r, 0, none⟩))]).toArray s R :=
  calls_vc (c := bodyOf Try.f16) (ann := ann_stands) (by kernel_rfl) Try.func16 rfl (by kernel_rfl) [.v (.pointer (some ⟨b, 0, none⟩)), .v (.pointer (some ⟨r, 0, none⟩))] [] (by rw [Try.ntmps16]; exact Nat.le_of_ble_eq_true rfl) (by rw [show Try.f16.ntmps = 110 from Try.ntmps16, eq_stands]; exact h)

end Go.Proofs.Ytfpbiecmobdnnaa
