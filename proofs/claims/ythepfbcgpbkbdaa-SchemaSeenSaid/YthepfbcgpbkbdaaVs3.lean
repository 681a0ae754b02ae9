/-
  Schemas: the document's; the laws: printed by a program of this session's own, each proved to be the function's by the kernel.
  Conditions: none; it proves no statement by itself.
-/
import Derived.Test.YthepfbcgpbkbdaaFwU
import Derived.Test.YthepfbcgpbkbdaaProg
set_option linter.unusedVariables false
set_option maxHeartbeats 1000000
namespace Go.Proofs.Ythepfbcgpbkbdaa
open Fw Fw.W Go

/-- lintel/lintelref15.Right -/
def vc_rRight {W : Type} (π : Prims W) (sv sl : Int) (sa : Option Addr) (san sac : Nat) : W :=
  π.join [(true, [.int .i64, .int .i64, .slice])] (fun J0 =>
    π.ite (decide (sv < (0 : Int))) (
      π.ret (Go.Value.bool (false))
    ) (
      π.ite (decide (sv > (1125899906842624 : Int))) (
        π.ret (Go.Value.bool (false))
      ) (
        π.ite (decide (sl < (0 : Int))) (
          π.ret (Go.Value.bool (false))
        ) (
          π.ite (decide (sl > (1125899906842624 : Int))) (
            π.ret (Go.Value.bool (false))
          ) (
            π.ite (decide ((↑san : Int) > (6 : Int))) (
              π.ret (Go.Value.bool (false))
            ) (
              J0 ((sv, sl, (sa, san, sac), ()), ())
            )
          )
        )
      )
    )
  ) (fun (((x1 : Int), (x2 : Int), ((a3 : Option Addr), (n4 : Nat), (c5 : Nat)), _), _) =>
    π.loop [(true, [.int .i64, .int .i64, .slice]), (false, [.slice]), (false, [.int .i64])] ((x1, x2, (a3, n4, c5), ()), ((none, (0 : Nat), (0 : Nat)), ()), ((0 : Int), ()), ()) fun (((x7 : Int), (x8 : Int), ((a9 : Option Addr), (n10 : Nat), (c11 : Nat)), _), (((a12 : Option Addr), (n13 : Nat), (c14 : Nat)), _), ((x15 : Int), _), _) again6 =>
      π.ite (decide (x15 < (↑n10 : Int))) (
        π.guard ((0 : Int) ≤ x15 ∧ x15 < (↑n10 : Int)) <|
        π.unSome (a9) fun p16 =>
        π.ld [.int .i64, .str, .slice, .slice, .slice] (p16.add (x15.toNat * (5 : Nat))) fun ((x17 : Int), (t18 : ByteArray), ((a19 : Option Addr), (n20 : Nat), (c21 : Nat)), ((a22 : Option Addr), (n23 : Nat), (c24 : Nat)), ((a25 : Option Addr), (n26 : Nat), (c27 : Nat)), _) =>
        π.join [(true, [.int .i64, .int .i64, .slice]), (false, [.slice]), (false, [.int .i64]), (true, [.int .i64, .str, .slice, .slice, .slice])] (fun J28 =>
          π.call (47 : Nat) #[(Go.Value.string (t18))] (false, [(false, [.bool])]) fun (((b29 : Bool), _), _) =>
          π.ite (!b29) (
            π.ret (Go.Value.bool (false))
          ) (
            π.call (18 : Nat) #[(Go.Value.agg #[(Go.Value.int (IntKind.i64) (x7)), (Go.Value.int (IntKind.i64) (x8)), (Go.Value.slice (a9) (n10) (c11))]), (Go.Value.string (t18))] (false, [(false, [.int .i64])]) fun (((x30 : Int), _), _) =>
            π.ite (x30 != x15) (
              π.ret (Go.Value.bool (false))
            ) (
              π.ite (decide ((↑n20 : Int) < (1 : Int))) (
                π.ret (Go.Value.bool (false))
              ) (
                π.ite (decide ((↑n20 : Int) > (8 : Int))) (
                  π.ret (Go.Value.bool (false))
                ) (
                  π.ite (decide ((↑n23 : Int) > (8 : Int))) (
                    π.ret (Go.Value.bool (false))
                  ) (
                    π.ite (decide ((↑n26 : Int) > (8 : Int))) (
                      π.ret (Go.Value.bool (false))
                    ) (
                      J28 ((x7, x8, (a9, n10, c11), ()), ((a12, n13, c14), ()), (x15, ()), (x17, t18, (a19, n20, c21), (a22, n23, c24), (a25, n26, c27), ()), ())
                    )
                  )
                )
              )
            )
          )
        ) (fun (((x31 : Int), (x32 : Int), ((a33 : Option Addr), (n34 : Nat), (c35 : Nat)), _), (((a36 : Option Addr), (n37 : Nat), (c38 : Nat)), _), ((x39 : Int), _), ((x40 : Int), (t41 : ByteArray), ((a42 : Option Addr), (n43 : Nat), (c44 : Nat)), ((a45 : Option Addr), (n46 : Nat), (c47 : Nat)), ((a48 : Option Addr), (n49 : Nat), (c50 : Nat)), _), _) =>
          π.nw (Go.Obj.cells #[(Go.Value.int (IntKind.i64) (x40))] (3 : Nat) ((0 : Nat), (0 : Nat))) fun r51 =>
          π.app (3 : Nat) (1 : Nat) (8 : Nat) [(Go.Value.int (IntKind.i64) ((0 : Int)))] (a36) (n37) (c38) (Src.sl (some (Addr.mk r51 (0 : Nat) none)) (1 : Nat)) fun a52 n53 c54 =>
          π.loop [(true, [.int .i64, .int .i64, .slice]), (false, [.slice]), (false, [.int .i64]), (true, [.int .i64, .str, .slice, .slice, .slice]), (false, [.int .i64])] ((x31, x32, (a33, n34, c35), ()), ((a52, n53, c54), ()), (x39, ()), (x40, t41, (a42, n43, c44), (a45, n46, c47), (a48, n49, c50), ()), ((0 : Int), ()), ()) fun (((x56 : Int), (x57 : Int), ((a58 : Option Addr), (n59 : Nat), (c60 : Nat)), _), (((a61 : Option Addr), (n62 : Nat), (c63 : Nat)), _), ((x64 : Int), _), ((x65 : Int), (t66 : ByteArray), ((a67 : Option Addr), (n68 : Nat), (c69 : Nat)), ((a70 : Option Addr), (n71 : Nat), (c72 : Nat)), ((a73 : Option Addr), (n74 : Nat), (c75 : Nat)), _), ((x76 : Int), _), _) again55 =>
            π.ite (decide (x76 < (↑n68 : Int))) (
              π.guard ((0 : Int) ≤ x76 ∧ x76 < (↑n68 : Int)) <|
              π.unSome (a67) fun p77 =>
              π.ld [.int .i64, .str, .int .i64, .int .i64, .int .i64, .int .i64, .str] (p77.add (x76.toNat * (7 : Nat))) fun ((x78 : Int), (t79 : ByteArray), (x80 : Int), (x81 : Int), (x82 : Int), (x83 : Int), (t84 : ByteArray), _) =>
              π.call (47 : Nat) #[(Go.Value.string (t79))] (false, [(false, [.bool])]) fun (((b85 : Bool), _), _) =>
              π.ite (!b85) (
                π.ret (Go.Value.bool (false))
              ) (
                π.call (48 : Nat) #[(Go.Value.agg #[(Go.Value.int (IntKind.i64) (x65)), (Go.Value.string (t66)), (Go.Value.slice (a67) (n68) (c69)), (Go.Value.slice (a70) (n71) (c72)), (Go.Value.slice (a73) (n74) (c75))]), (Go.Value.string (t79))] (false, [(false, [.int .i64])]) fun (((x86 : Int), _), _) =>
                π.ite (x86 != x76) (
                  π.ret (Go.Value.bool (false))
                ) (
                  π.ite (decide (x81 < (1 : Int))) (
                    π.ret (Go.Value.bool (false))
                  ) (
                    π.ite (decide (x81 > (3 : Int))) (
                      π.ret (Go.Value.bool (false))
                    ) (
                      π.ite (x76 == (0 : Int)) (
                        π.ite (x81 != (3 : Int)) (
                          π.ret (Go.Value.bool (false))
                        ) (
                          π.call (49 : Nat) #[(Go.Value.int (IntKind.i64) (x80))] (false, [(false, [.bool])]) fun (((b87 : Bool), _), _) =>
                          π.ite (!b87) (
                            π.ret (Go.Value.bool (false))
                          ) (
                            π.call (50 : Nat) #[(Go.Value.agg #[(Go.Value.int (IntKind.i64) (x82)), (Go.Value.int (IntKind.i64) (x83)), (Go.Value.string (t84))]), (Go.Value.int (IntKind.i64) (x80))] (false, [(false, [.bool])]) fun (((b88 : Bool), _), _) =>
                            π.ite (!b88) (
                              π.ret (Go.Value.bool (false))
                            ) (
                              π.nw (Go.Obj.cells #[(Go.Value.int (IntKind.i64) (x78))] (3 : Nat) ((0 : Nat), (0 : Nat))) fun r89 =>
                              π.app (3 : Nat) (1 : Nat) (8 : Nat) [(Go.Value.int (IntKind.i64) ((0 : Int)))] (a61) (n62) (c63) (Src.sl (some (Addr.mk r89 (0 : Nat) none)) (1 : Nat)) fun a90 n91 c92 =>
                              again55 ((x56, x57, (a58, n59, c60), ()), ((a90, n91, c92), ()), (x64, ()), (x65, t66, (a67, n68, c69), (a70, n71, c72), (a73, n74, c75), ()), (IntKind.i64.wrap (x76 + (1 : Int)), ()), ())
                            )
                          )
                        )
                      ) (
                        π.call (49 : Nat) #[(Go.Value.int (IntKind.i64) (x80))] (false, [(false, [.bool])]) fun (((b93 : Bool), _), _) =>
                        π.ite (!b93) (
                          π.ret (Go.Value.bool (false))
                        ) (
                          π.call (50 : Nat) #[(Go.Value.agg #[(Go.Value.int (IntKind.i64) (x82)), (Go.Value.int (IntKind.i64) (x83)), (Go.Value.string (t84))]), (Go.Value.int (IntKind.i64) (x80))] (false, [(false, [.bool])]) fun (((b94 : Bool), _), _) =>
                          π.ite (!b94) (
                            π.ret (Go.Value.bool (false))
                          ) (
                            π.nw (Go.Obj.cells #[(Go.Value.int (IntKind.i64) (x78))] (3 : Nat) ((0 : Nat), (0 : Nat))) fun r95 =>
                            π.app (3 : Nat) (1 : Nat) (8 : Nat) [(Go.Value.int (IntKind.i64) ((0 : Int)))] (a61) (n62) (c63) (Src.sl (some (Addr.mk r95 (0 : Nat) none)) (1 : Nat)) fun a96 n97 c98 =>
                            again55 ((x56, x57, (a58, n59, c60), ()), ((a96, n97, c98), ()), (x64, ()), (x65, t66, (a67, n68, c69), (a70, n71, c72), (a73, n74, c75), ()), (IntKind.i64.wrap (x76 + (1 : Int)), ()), ())
                          )
                        )
                      )
                    )
                  )
                )
              )
            ) (
              π.loop [(true, [.int .i64, .int .i64, .slice]), (false, [.slice]), (false, [.int .i64]), (true, [.int .i64, .str, .slice, .slice, .slice]), (false, [.int .i64])] ((x56, x57, (a58, n59, c60), ()), ((a61, n62, c63), ()), (x64, ()), (x65, t66, (a67, n68, c69), (a70, n71, c72), (a73, n74, c75), ()), ((0 : Int), ()), ()) fun (((x100 : Int), (x101 : Int), ((a102 : Option Addr), (n103 : Nat), (c104 : Nat)), _), (((a105 : Option Addr), (n106 : Nat), (c107 : Nat)), _), ((x108 : Int), _), ((x109 : Int), (t110 : ByteArray), ((a111 : Option Addr), (n112 : Nat), (c113 : Nat)), ((a114 : Option Addr), (n115 : Nat), (c116 : Nat)), ((a117 : Option Addr), (n118 : Nat), (c119 : Nat)), _), ((x120 : Int), _), _) again99 =>
                π.ite (decide (x120 < (↑n115 : Int))) (
                  π.guard ((0 : Int) ≤ x120 ∧ x120 < (↑n115 : Int)) <|
                  π.unSome (a114) fun p121 =>
                  π.ld [.int .i64, .str, .int .i64, .bool, .int .i64] (p121.add (x120.toNat * (5 : Nat))) fun ((x122 : Int), (t123 : ByteArray), (x124 : Int), (b125 : Bool), (x126 : Int), _) =>
                  π.call (47 : Nat) #[(Go.Value.string (t123))] (false, [(false, [.bool])]) fun (((b127 : Bool), _), _) =>
                  π.ite (!b127) (
                    π.ret (Go.Value.bool (false))
                  ) (
                    π.call (51 : Nat) #[(Go.Value.agg #[(Go.Value.int (IntKind.i64) (x109)), (Go.Value.string (t110)), (Go.Value.slice (a111) (n112) (c113)), (Go.Value.slice (a114) (n115) (c116)), (Go.Value.slice (a117) (n118) (c119))]), (Go.Value.string (t123))] (false, [(false, [.int .i64])]) fun (((x128 : Int), _), _) =>
                    π.ite (x128 != x120) (
                      π.ret (Go.Value.bool (false))
                    ) (
                      π.ite (decide (x126 < (1 : Int))) (
                        π.ret (Go.Value.bool (false))
                      ) (
                        π.ite (decide (x126 > (3 : Int))) (
                          π.ret (Go.Value.bool (false))
                        ) (
                          π.call (52 : Nat) #[(Go.Value.agg #[(Go.Value.int (IntKind.i64) (x109)), (Go.Value.string (t110)), (Go.Value.slice (a111) (n112) (c113)), (Go.Value.slice (a114) (n115) (c116)), (Go.Value.slice (a117) (n118) (c119))]), (Go.Value.int (IntKind.i64) (x124))] (false, [(false, [.int .i64])]) fun (((x129 : Int), _), _) =>
                          π.ite (decide (x129 < (0 : Int))) (
                            π.ret (Go.Value.bool (false))
                          ) (
                            π.nw (Go.Obj.cells #[(Go.Value.int (IntKind.i64) (x122))] (3 : Nat) ((0 : Nat), (0 : Nat))) fun r130 =>
                            π.app (3 : Nat) (1 : Nat) (8 : Nat) [(Go.Value.int (IntKind.i64) ((0 : Int)))] (a105) (n106) (c107) (Src.sl (some (Addr.mk r130 (0 : Nat) none)) (1 : Nat)) fun a131 n132 c133 =>
                            again99 ((x100, x101, (a102, n103, c104), ()), ((a131, n132, c133), ()), (x108, ()), (x109, t110, (a111, n112, c113), (a114, n115, c116), (a117, n118, c119), ()), (IntKind.i64.wrap (x120 + (1 : Int)), ()), ())
                          )
                        )
                      )
                    )
                  )
                ) (
                  π.loop [(true, [.int .i64, .int .i64, .slice]), (false, [.slice]), (false, [.int .i64]), (true, [.int .i64, .str, .slice, .slice, .slice]), (false, [.int .i64])] ((x100, x101, (a102, n103, c104), ()), ((a105, n106, c107), ()), (x108, ()), (x109, t110, (a111, n112, c113), (a114, n115, c116), (a117, n118, c119), ()), ((0 : Int), ()), ()) fun (((x135 : Int), (x136 : Int), ((a137 : Option Addr), (n138 : Nat), (c139 : Nat)), _), (((a140 : Option Addr), (n141 : Nat), (c142 : Nat)), _), ((x143 : Int), _), ((x144 : Int), (t145 : ByteArray), ((a146 : Option Addr), (n147 : Nat), (c148 : Nat)), ((a149 : Option Addr), (n150 : Nat), (c151 : Nat)), ((a152 : Option Addr), (n153 : Nat), (c154 : Nat)), _), ((x155 : Int), _), _) again134 =>
                    π.ite (decide (x155 < (↑n153 : Int))) (
                      π.guard ((0 : Int) ≤ x155 ∧ x155 < (↑n153 : Int)) <|
                      π.unSome (a152) fun p156 =>
                      π.ld [.int .i64, .str, .int .i64, .int .i64, .int .i64] (p156.add (x155.toNat * (5 : Nat))) fun ((x157 : Int), (t158 : ByteArray), (x159 : Int), (x160 : Int), (x161 : Int), _) =>
                      π.call (53 : Nat) #[(Go.Value.agg #[(Go.Value.int (IntKind.i64) (x135)), (Go.Value.int (IntKind.i64) (x136)), (Go.Value.slice (a137) (n138) (c139))]), (Go.Value.int (IntKind.i64) (x160))] (false, [(false, [.int .i64])]) fun (((x162 : Int), _), _) =>
                      π.call (52 : Nat) #[(Go.Value.agg #[(Go.Value.int (IntKind.i64) (x144)), (Go.Value.string (t145)), (Go.Value.slice (a146) (n147) (c148)), (Go.Value.slice (a149) (n150) (c151)), (Go.Value.slice (a152) (n153) (c154))]), (Go.Value.int (IntKind.i64) (x159))] (false, [(false, [.int .i64])]) fun (((x163 : Int), _), _) =>
                      π.join [(true, [.int .i64, .int .i64, .slice]), (false, [.slice]), (false, [.int .i64]), (true, [.int .i64, .str, .slice, .slice, .slice]), (false, [.int .i64]), (true, [.int .i64, .str, .int .i64, .int .i64, .int .i64]), (false, [.int .i64]), (false, [.int .i64])] (fun J164 =>
                        π.call (47 : Nat) #[(Go.Value.string (t158))] (false, [(false, [.bool])]) fun (((b165 : Bool), _), _) =>
                        π.ite (!b165) (
                          π.ret (Go.Value.bool (false))
                        ) (
                          π.call (54 : Nat) #[(Go.Value.agg #[(Go.Value.int (IntKind.i64) (x144)), (Go.Value.string (t145)), (Go.Value.slice (a146) (n147) (c148)), (Go.Value.slice (a149) (n150) (c151)), (Go.Value.slice (a152) (n153) (c154))]), (Go.Value.string (t158))] (false, [(false, [.int .i64])]) fun (((x166 : Int), _), _) =>
                          π.ite (x166 != x155) (
                            π.ret (Go.Value.bool (false))
                          ) (
                            π.ite (decide (x161 < (1 : Int))) (
                              π.ret (Go.Value.bool (false))
                            ) (
                              π.ite (decide (x161 > (3 : Int))) (
                                π.ret (Go.Value.bool (false))
                              ) (
                                π.ite (decide (x163 < (0 : Int))) (
                                  π.ret (Go.Value.bool (false))
                                ) (
                                  π.ite (decide (x162 < (0 : Int))) (
                                    π.ret (Go.Value.bool (false))
                                  ) (
                                    J164 ((x135, x136, (a137, n138, c139), ()), ((a140, n141, c142), ()), (x143, ()), (x144, t145, (a146, n147, c148), (a149, n150, c151), (a152, n153, c154), ()), (x155, ()), (x157, t158, x159, x160, x161, ()), (x162, ()), (x163, ()), ())
                                  )
                                )
                              )
                            )
                          )
                        )
                      ) (fun (((x167 : Int), (x168 : Int), ((a169 : Option Addr), (n170 : Nat), (c171 : Nat)), _), (((a172 : Option Addr), (n173 : Nat), (c174 : Nat)), _), ((x175 : Int), _), ((x176 : Int), (t177 : ByteArray), ((a178 : Option Addr), (n179 : Nat), (c180 : Nat)), ((a181 : Option Addr), (n182 : Nat), (c183 : Nat)), ((a184 : Option Addr), (n185 : Nat), (c186 : Nat)), _), ((x187 : Int), _), ((x188 : Int), (t189 : ByteArray), (x190 : Int), (x191 : Int), (x192 : Int), _), ((x193 : Int), _), ((x194 : Int), _), _) =>
                        π.guard ((0 : Int) ≤ x193 ∧ x193 < (↑n170 : Int)) <|
                        π.unSome (a169) fun p195 =>
                        π.ld [.slice] ((p195.add (x193.toNat * (5 : Nat))).add (2 : Nat)) fun (((a196 : Option Addr), (n197 : Nat), (c198 : Nat)), _) =>
                        π.ite ((↑n197 : Int) == (0 : Int)) (
                          π.ret (Go.Value.bool (false))
                        ) (
                          π.guard ((0 : Int) ≤ x193 ∧ x193 < (↑n170 : Int)) <|
                          π.unSome (a169) fun p199 =>
                          π.ld [.slice] ((p199.add (x193.toNat * (5 : Nat))).add (2 : Nat)) fun (((a200 : Option Addr), (n201 : Nat), (c202 : Nat)), _) =>
                          π.guard ((0 : Int) ≤ (0 : Int) ∧ (0 : Int) < (↑n201 : Int)) <|
                          π.unSome (a200) fun p203 =>
                          π.ld [.int .i64] ((p203.add (0 : Nat)).add (2 : Nat)) fun ((x204 : Int), _) =>
                          π.guard ((0 : Int) ≤ x194 ∧ x194 < (↑n179 : Int)) <|
                          π.unSome (a178) fun p205 =>
                          π.ld [.int .i64] ((p205.add (x194.toNat * (7 : Nat))).add (2 : Nat)) fun ((x206 : Int), _) =>
                          π.ite (x204 != x206) (
                            π.ret (Go.Value.bool (false))
                          ) (
                            π.nw (Go.Obj.cells #[(Go.Value.int (IntKind.i64) (x188))] (3 : Nat) ((0 : Nat), (0 : Nat))) fun r207 =>
                            π.app (3 : Nat) (1 : Nat) (8 : Nat) [(Go.Value.int (IntKind.i64) ((0 : Int)))] (a172) (n173) (c174) (Src.sl (some (Addr.mk r207 (0 : Nat) none)) (1 : Nat)) fun a208 n209 c210 =>
                            again134 ((x167, x168, (a169, n170, c171), ()), ((a208, n209, c210), ()), (x175, ()), (x176, t177, (a178, n179, c180), (a181, n182, c183), (a184, n185, c186), ()), (IntKind.i64.wrap (x187 + (1 : Int)), ()), ())
                          )
                        )
                      )
                    ) (
                      again6 ((x135, x136, (a137, n138, c139), ()), ((a140, n141, c142), ()), (IntKind.i64.wrap (x143 + (1 : Int)), ()), ())
                    )
                )
            )
        )
      ) (
        π.loop [(true, [.int .i64, .int .i64, .slice]), (false, [.slice]), (false, [.int .i64])] ((x7, x8, (a9, n10, c11), ()), ((a12, n13, c14), ()), ((0 : Int), ()), ()) fun (((x212 : Int), (x213 : Int), ((a214 : Option Addr), (n215 : Nat), (c216 : Nat)), _), (((a217 : Option Addr), (n218 : Nat), (c219 : Nat)), _), ((x220 : Int), _), _) again211 =>
          π.ite (decide (x220 < (↑n218 : Int))) (
            π.join [(true, [.int .i64, .int .i64, .slice]), (false, [.slice]), (false, [.int .i64])] (fun J221 =>
              π.guard ((0 : Int) ≤ x220 ∧ x220 < (↑n218 : Int)) <|
              π.unSome (a217) fun p222 =>
              π.ld [.int .i64] (p222.add (x220.toNat * (1 : Nat))) fun ((x223 : Int), _) =>
              π.ite (decide (x223 < (1 : Int))) (
                π.ret (Go.Value.bool (false))
              ) (
                π.guard ((0 : Int) ≤ x220 ∧ x220 < (↑n218 : Int)) <|
                π.unSome (a217) fun p224 =>
                π.ld [.int .i64] (p224.add (x220.toNat * (1 : Nat))) fun ((x225 : Int), _) =>
                π.ite (decide (x225 > x213)) (
                  π.ret (Go.Value.bool (false))
                ) (
                  J221 ((x212, x213, (a214, n215, c216), ()), ((a217, n218, c219), ()), (x220, ()), ())
                )
              )
            ) (fun (((x226 : Int), (x227 : Int), ((a228 : Option Addr), (n229 : Nat), (c230 : Nat)), _), (((a231 : Option Addr), (n232 : Nat), (c233 : Nat)), _), ((x234 : Int), _), _) =>
              π.loop [(true, [.int .i64, .int .i64, .slice]), (false, [.slice]), (false, [.int .i64]), (false, [.int .i64])] ((x226, x227, (a228, n229, c230), ()), ((a231, n232, c233), ()), (x234, ()), ((0 : Int), ()), ()) fun (((x236 : Int), (x237 : Int), ((a238 : Option Addr), (n239 : Nat), (c240 : Nat)), _), (((a241 : Option Addr), (n242 : Nat), (c243 : Nat)), _), ((x244 : Int), _), ((x245 : Int), _), _) again235 =>
                π.ite (decide (x245 < x244)) (
                  π.guard ((0 : Int) ≤ x245 ∧ x245 < (↑n242 : Int)) <|
                  π.unSome (a241) fun p246 =>
                  π.ld [.int .i64] (p246.add (x245.toNat * (1 : Nat))) fun ((x247 : Int), _) =>
                  π.guard ((0 : Int) ≤ x244 ∧ x244 < (↑n242 : Int)) <|
                  π.unSome (a241) fun p248 =>
                  π.ld [.int .i64] (p248.add (x244.toNat * (1 : Nat))) fun ((x249 : Int), _) =>
                  π.ite (x247 == x249) (
                    π.ret (Go.Value.bool (false))
                  ) (
                    again235 ((x236, x237, (a238, n239, c240), ()), ((a241, n242, c243), ()), (x244, ()), (IntKind.i64.wrap (x245 + (1 : Int)), ()), ())
                  )
                ) (
                  again211 ((x236, x237, (a238, n239, c240), ()), ((a241, n242, c243), ()), (IntKind.i64.wrap (x244 + (1 : Int)), ()), ())
                )
            )
          ) (
            π.ret (Go.Value.bool (true))
          )
      )
  )

def ann_rRight : Ann := { draws := [(33, { A := [0, 1, 2, 3, 4, 5, 6, 7, 8, 9, 10, 11, 12, 13, 14, 15, 16, 17, 18, 19, 20, 21, 22, 23, 24, 25] }), (39, { A := [0, 1, 2, 3, 4, 5, 6, 7, 8, 9, 10, 11, 12, 13] }), (44, { A := [0, 1, 2, 3, 4, 5, 6, 7, 8] })], join := [(3, [(1, 24)]), (10, [(1, 24), (3, 100), (4, 3), (5, 42)]), (33, [(1, 24), (3, 100), (4, 3), (5, 42), (10, 3), (11, 109), (12, 3), (13, 3)]), (41, [(1, 24), (3, 100), (14, 3)])], loop := [(5, [(1, 24), (3, 100), (4, 3)]), (12, [(1, 24), (3, 100), (4, 3), (5, 42), (6, 3)]), (19, [(1, 24), (3, 100), (4, 3), (5, 42), (8, 3)]), (26, [(1, 24), (3, 100), (4, 3), (5, 42), (10, 3)]), (37, [(1, 24), (3, 100), (14, 3)]), (42, [(1, 24), (3, 100), (14, 3), (15, 3)])] }
def la_rRight : LA := { ptr := [(1, 1, 0), (5, 5, 0), (7, 7, 0), (9, 9, 0), (11, 11, 0), (16, 1, 0), (20, 1, 0), (25, 1, 1), (30, 1, 1), (35, 1, 2), (41, 1, 2), (47, 1, 2), (52, 5, 1), (58, 5, 1), (65, 5, 2), (71, 5, 2), (77, 5, 3), (83, 5, 4), (89, 5, 0), (94, 5, 2), (100, 5, 2), (105, 7, 1), (111, 7, 1), (118, 7, 3), (123, 7, 3), (131, 7, 3), (137, 7, 2), (143, 7, 4), (145, 7, 2), (151, 7, 0), (156, 5, 3), (162, 5, 3), (167, 9, 1), (173, 9, 1), (180, 9, 4), (185, 9, 4), (191, 9, 2), (197, 9, 0), (202, 5, 4), (208, 5, 4), (214, 11, 3), (218, 11, 2), (221, 11, 1), (227, 11, 1), (234, 11, 4), (239, 11, 4), (251, 1, 2), (260, 1, 2), (269, 5, 2), (278, 11, 0), (298, 1, 1)], ty := [(1, 24), (5, 42), (7, 44), (9, 106), (11, 109)] }
set_option maxRecDepth 100000 in
theorem eq_rRight {W : Type} (π : Prims W) (sv sl : Int) (sa : Option Addr) (san sac : Nat) : bodyL π Try.prog la_rRight ann_rRight (mkFr (maskA [] [.v (.agg #[.int .i64 sv, .int .i64 sl, .slice sa san sac])] 0) 316) Try.f19 (bodyOf Try.f19) (mkFr (List.map some [.v (.agg #[.int .i64 sv, .int .i64 sl, .slice sa san sac])]) 316) = vc_rRight π sv sl sa san sac := by kernel_rfl
theorem ok_rRight (sv sl : Int) (sa : Option Addr) (san sac : Nat) (R : Value → PH → Prop) (s : PH) (h : vc_rRight (RP Try.prog R) sv sl sa san sac s) : DCalls Try.prog 19 (List.map AV.val [.v (.agg #[.int .i64 sv, .int .i64 sl, .slice sa san sac])]).toArray s R :=
  calls_vcL (c := bodyOf Try.f19) (ann := ann_rRight) la_rRight (by kernel_rfl) Try.func19 rfl (by kernel_rfl) [.v (.agg #[.int .i64 sv, .int .i64 sl, .slice sa san sac])] [] (by rw [Try.ntmps19]; exact Nat.le_of_ble_eq_true rfl) (by kernel_rfl) (by rw [show Try.f19.ntmps = 316 from Try.ntmps19, eq_rRight]; exact h)

/-- lintel/lintelref15.moves -/
def vc_rMoves {W : Type} (π : Prims W) (a : Option Addr) (an ac : Nat) : W :=
  π.loop [(false, [.slice]), (false, [.int .i64])] (((none, (0 : Nat), (0 : Nat)), ()), ((0 : Int), ()), ()) fun ((((a1 : Option Addr), (n2 : Nat), (c3 : Nat)), _), ((x4 : Int), _), _) again0 =>
    π.ite (decide (IntKind.i64.wrap (x4 + (1 : Int)) < (↑an : Int))) (
      π.guard ((0 : Int) ≤ x4 ∧ x4 < (↑an : Int)) <|
      π.unSome (a) fun p5 =>
      π.ld [.int .i64] (p5.add (x4.toNat * (1 : Nat))) fun ((x6 : Int), _) =>
      π.guard ((0 : Int) ≤ IntKind.i64.wrap (x4 + (1 : Int)) ∧ IntKind.i64.wrap (x4 + (1 : Int)) < (↑an : Int)) <|
      π.unSome (a) fun p7 =>
      π.ld [.int .i64] (p7.add ((IntKind.i64.wrap (x4 + (1 : Int))).toNat * (1 : Nat))) fun ((x8 : Int), _) =>
      π.nw (Go.Obj.cells #[(Go.Value.int (IntKind.i64) (x6)), (Go.Value.int (IntKind.i64) (x8))] (56 : Nat) ((0 : Nat), (0 : Nat))) fun r9 =>
      π.app (56 : Nat) (2 : Nat) (16 : Nat) [(Go.Value.int (IntKind.i64) ((0 : Int))), (Go.Value.int (IntKind.i64) ((0 : Int)))] (a1) (n2) (c3) (Src.sl (some (Addr.mk r9 (0 : Nat) none)) (1 : Nat)) fun a10 n11 c12 =>
      again0 (((a10, n11, c12), ()), (IntKind.i64.wrap (x4 + (2 : Int)), ()), ())
    ) (
      π.ret (Go.Value.slice (a1) (n2) (c3))
    )

def ann_rMoves : Ann := { draws := [(5, { A := [0, 1, 2, 3, 4, 5, 6, 7, 8, 9, 10] })], join := [], loop := [(3, [(3, 52), (4, 3)])] }
def la_rMoves : LA := { ptr := [], ty := [] }
set_option maxRecDepth 100000 in
theorem eq_rMoves {W : Type} (π : Prims W) (a : Option Addr) (an ac : Nat) : bodyL π Try.prog la_rMoves ann_rMoves (mkFr (maskA [] [.v (.slice a an ac)] 0) 26) Try.f64 (bodyOf Try.f64) (mkFr (List.map some [.v (.slice a an ac)]) 26) = vc_rMoves π a an ac := by kernel_rfl
theorem ok_rMoves (a : Option Addr) (an ac : Nat) (R : Value → PH → Prop) (s : PH) (h : vc_rMoves (RP Try.prog R) a an ac s) : DCalls Try.prog 64 (List.map AV.val [.v (.slice a an ac)]).toArray s R :=
  calls_vcL (c := bodyOf Try.f64) (ann := ann_rMoves) la_rMoves (by kernel_rfl) Try.func64 rfl (by kernel_rfl) [.v (.slice a an ac)] [] (by rw [Try.ntmps64]; exact Nat.le_of_ble_eq_true rfl) (by kernel_rfl) (by rw [show Try.f64.ntmps = 26 from Try.ntmps64, eq_rMoves]; exact h)

/-- lintel/lintelref15.Path -/
def vc_rPath {W : Type} (π : Prims W) (kind : Int) (back : Bool) : W :=
  π.ite (back) (
    π.ite (kind == (2 : Int)) (
      π.nw (Go.Obj.cells #[(Go.Value.int (IntKind.i64) ((1 : Int))), (Go.Value.int (IntKind.i64) ((1 : Int))), (Go.Value.int (IntKind.i64) ((3 : Int))), (Go.Value.int (IntKind.i64) ((0 : Int))), (Go.Value.int (IntKind.i64) ((5 : Int))), (Go.Value.int (IntKind.i64) ((0 : Int))), (Go.Value.int (IntKind.i64) ((1 : Int))), (Go.Value.int (IntKind.i64) ((0 : Int)))] (3 : Nat) ((0 : Nat), (0 : Nat))) fun r0 =>
      π.call (64 : Nat) #[(Go.Value.slice (some (Addr.mk r0 (0 : Nat) none)) ((8 : Nat)) ((8 : Nat)))] (false, [(false, [.slice])]) fun ((((a1 : Option Addr), (n2 : Nat), (c3 : Nat)), _), _) =>
      π.ret (Go.Value.slice (a1) (n2) (c3))
    ) (
      π.ite (kind == (4 : Int)) (
        π.nw (Go.Obj.cells #[(Go.Value.int (IntKind.i64) ((1 : Int))), (Go.Value.int (IntKind.i64) ((1 : Int))), (Go.Value.int (IntKind.i64) ((1 : Int))), (Go.Value.int (IntKind.i64) ((0 : Int)))] (3 : Nat) ((0 : Nat), (0 : Nat))) fun r4 =>
        π.call (64 : Nat) #[(Go.Value.slice (some (Addr.mk r4 (0 : Nat) none)) ((4 : Nat)) ((4 : Nat)))] (false, [(false, [.slice])]) fun ((((a5 : Option Addr), (n6 : Nat), (c7 : Nat)), _), _) =>
        π.ret (Go.Value.slice (a5) (n6) (c7))
      ) (
        π.ite (kind == (6 : Int)) (
          π.nw (Go.Obj.cells #[(Go.Value.int (IntKind.i64) ((1 : Int))), (Go.Value.int (IntKind.i64) ((0 : Int)))] (3 : Nat) ((0 : Nat), (0 : Nat))) fun r8 =>
          π.call (64 : Nat) #[(Go.Value.slice (some (Addr.mk r8 (0 : Nat) none)) ((2 : Nat)) ((2 : Nat)))] (false, [(false, [.slice])]) fun ((((a9 : Option Addr), (n10 : Nat), (c11 : Nat)), _), _) =>
          π.ret (Go.Value.slice (a9) (n10) (c11))
        ) (
          π.ret (Go.Value.slice (none) ((0 : Nat)) ((0 : Nat)))
        )
      )
    )
  ) (
    π.ite (kind == (1 : Int)) (
      π.nw (Go.Obj.cells #[(Go.Value.int (IntKind.i64) ((1 : Int))), (Go.Value.int (IntKind.i64) ((3 : Int)))] (3 : Nat) ((0 : Nat), (0 : Nat))) fun r12 =>
      π.call (64 : Nat) #[(Go.Value.slice (some (Addr.mk r12 (0 : Nat) none)) ((2 : Nat)) ((2 : Nat)))] (false, [(false, [.slice])]) fun ((((a13 : Option Addr), (n14 : Nat), (c15 : Nat)), _), _) =>
      π.ret (Go.Value.slice (a13) (n14) (c15))
    ) (
      π.ite (kind == (2 : Int)) (
        π.nw (Go.Obj.cells #[(Go.Value.int (IntKind.i64) ((1 : Int))), (Go.Value.int (IntKind.i64) ((1 : Int))), (Go.Value.int (IntKind.i64) ((1 : Int))), (Go.Value.int (IntKind.i64) ((2 : Int))), (Go.Value.int (IntKind.i64) ((3 : Int))), (Go.Value.int (IntKind.i64) ((0 : Int))), (Go.Value.int (IntKind.i64) ((4 : Int))), (Go.Value.int (IntKind.i64) ((0 : Int))), (Go.Value.int (IntKind.i64) ((1 : Int))), (Go.Value.int (IntKind.i64) ((3 : Int)))] (3 : Nat) ((0 : Nat), (0 : Nat))) fun r16 =>
        π.call (64 : Nat) #[(Go.Value.slice (some (Addr.mk r16 (0 : Nat) none)) ((10 : Nat)) ((10 : Nat)))] (false, [(false, [.slice])]) fun ((((a17 : Option Addr), (n18 : Nat), (c19 : Nat)), _), _) =>
        π.ret (Go.Value.slice (a17) (n18) (c19))
      ) (
        π.ite (kind == (3 : Int)) (
          π.nw (Go.Obj.cells #[(Go.Value.int (IntKind.i64) ((1 : Int))), (Go.Value.int (IntKind.i64) ((2 : Int))), (Go.Value.int (IntKind.i64) ((1 : Int))), (Go.Value.int (IntKind.i64) ((1 : Int))), (Go.Value.int (IntKind.i64) ((3 : Int))), (Go.Value.int (IntKind.i64) ((0 : Int))), (Go.Value.int (IntKind.i64) ((5 : Int))), (Go.Value.int (IntKind.i64) ((0 : Int))), (Go.Value.int (IntKind.i64) ((1 : Int))), (Go.Value.int (IntKind.i64) ((0 : Int)))] (3 : Nat) ((0 : Nat), (0 : Nat))) fun r20 =>
          π.call (64 : Nat) #[(Go.Value.slice (some (Addr.mk r20 (0 : Nat) none)) ((10 : Nat)) ((10 : Nat)))] (false, [(false, [.slice])]) fun ((((a21 : Option Addr), (n22 : Nat), (c23 : Nat)), _), _) =>
          π.ret (Go.Value.slice (a21) (n22) (c23))
        ) (
          π.ite (kind == (4 : Int)) (
            π.nw (Go.Obj.cells #[(Go.Value.int (IntKind.i64) ((1 : Int))), (Go.Value.int (IntKind.i64) ((1 : Int))), (Go.Value.int (IntKind.i64) ((1 : Int))), (Go.Value.int (IntKind.i64) ((2 : Int))), (Go.Value.int (IntKind.i64) ((3 : Int))), (Go.Value.int (IntKind.i64) ((0 : Int))), (Go.Value.int (IntKind.i64) ((4 : Int))), (Go.Value.int (IntKind.i64) ((0 : Int))), (Go.Value.int (IntKind.i64) ((2 : Int))), (Go.Value.int (IntKind.i64) ((3 : Int)))] (3 : Nat) ((0 : Nat), (0 : Nat))) fun r24 =>
            π.call (64 : Nat) #[(Go.Value.slice (some (Addr.mk r24 (0 : Nat) none)) ((10 : Nat)) ((10 : Nat)))] (false, [(false, [.slice])]) fun ((((a25 : Option Addr), (n26 : Nat), (c27 : Nat)), _), _) =>
            π.ret (Go.Value.slice (a25) (n26) (c27))
          ) (
            π.ite (kind == (5 : Int)) (
              π.nw (Go.Obj.cells #[(Go.Value.int (IntKind.i64) ((2 : Int))), (Go.Value.int (IntKind.i64) ((2 : Int))), (Go.Value.int (IntKind.i64) ((1 : Int))), (Go.Value.int (IntKind.i64) ((1 : Int))), (Go.Value.int (IntKind.i64) ((1 : Int))), (Go.Value.int (IntKind.i64) ((0 : Int)))] (3 : Nat) ((0 : Nat), (0 : Nat))) fun r28 =>
              π.call (64 : Nat) #[(Go.Value.slice (some (Addr.mk r28 (0 : Nat) none)) ((6 : Nat)) ((6 : Nat)))] (false, [(false, [.slice])]) fun ((((a29 : Option Addr), (n30 : Nat), (c31 : Nat)), _), _) =>
              π.ret (Go.Value.slice (a29) (n30) (c31))
            ) (
              π.ite (kind == (6 : Int)) (
                π.nw (Go.Obj.cells #[(Go.Value.int (IntKind.i64) ((1 : Int))), (Go.Value.int (IntKind.i64) ((2 : Int))), (Go.Value.int (IntKind.i64) ((3 : Int))), (Go.Value.int (IntKind.i64) ((0 : Int))), (Go.Value.int (IntKind.i64) ((4 : Int))), (Go.Value.int (IntKind.i64) ((0 : Int))), (Go.Value.int (IntKind.i64) ((1 : Int))), (Go.Value.int (IntKind.i64) ((3 : Int)))] (3 : Nat) ((0 : Nat), (0 : Nat))) fun r32 =>
                π.call (64 : Nat) #[(Go.Value.slice (some (Addr.mk r32 (0 : Nat) none)) ((8 : Nat)) ((8 : Nat)))] (false, [(false, [.slice])]) fun ((((a33 : Option Addr), (n34 : Nat), (c35 : Nat)), _), _) =>
                π.ret (Go.Value.slice (a33) (n34) (c35))
              ) (
                π.ite (kind == (7 : Int)) (
                  π.nw (Go.Obj.cells #[(Go.Value.int (IntKind.i64) ((1 : Int))), (Go.Value.int (IntKind.i64) ((0 : Int)))] (3 : Nat) ((0 : Nat), (0 : Nat))) fun r36 =>
                  π.call (64 : Nat) #[(Go.Value.slice (some (Addr.mk r36 (0 : Nat) none)) ((2 : Nat)) ((2 : Nat)))] (false, [(false, [.slice])]) fun ((((a37 : Option Addr), (n38 : Nat), (c39 : Nat)), _), _) =>
                  π.ret (Go.Value.slice (a37) (n38) (c39))
                ) (
                  π.ret (Go.Value.slice (none) ((0 : Nat)) ((0 : Nat)))
                )
              )
            )
          )
        )
      )
    )
  )

def ann_rPath : Ann := { draws := [], join := [], loop := [] }
def la_rPath : LA := { ptr := [], ty := [] }
set_option maxRecDepth 100000 in
theorem eq_rPath {W : Type} (π : Prims W) (kind : Int) (back : Bool) : bodyL π Try.prog la_rPath ann_rPath (mkFr (maskA [] [.v (.int .i64 kind), .v (.bool back)] 0) 48) Try.f24 (bodyOf Try.f24) (mkFr (List.map some [.v (.int .i64 kind), .v (.bool back)]) 48) = vc_rPath π kind back := by kernel_rfl
theorem ok_rPath (kind : Int) (back : Bool) (R : Value → PH → Prop) (s : PH) (h : vc_rPath (RP Try.prog R) kind back s) : DCalls Try.prog 24 (List.map AV.val [.v (.int .i64 kind), .v (.bool back)]).toArray s R :=
  calls_vcL (c := bodyOf Try.f24) (ann := ann_rPath) la_rPath (by kernel_rfl) Try.func24 rfl (by kernel_rfl) [.v (.int .i64 kind), .v (.bool back)] [] (by rw [Try.ntmps24]; exact Nat.le_of_ble_eq_true rfl) (by kernel_rfl) (by rw [show Try.f24.ntmps = 48 from Try.ntmps24, eq_rPath]; exact h)

/-- lintel/lintelref15.create -/
def vc_rCreate {W : Type} (π : Prims W) (sv sl : Int) (sa : Option Addr) (san sac : Nat) (dk : Int) (dt dn dc dp : ByteArray) (du : Bool) (dy vk vn : Int) (vs : ByteArray) (da : Option Addr) (dan dac : Nat) (state : Int) : W :=
  π.call (47 : Nat) #[(Go.Value.string (dt))] (false, [(false, [.bool])]) fun (((b0 : Bool), _), _) =>
  π.ite (!b0) (
    π.ret (Go.Value.tuple #[(Go.Value.agg #[(Go.Value.int (IntKind.i64) (sv)), (Go.Value.int (IntKind.i64) (sl)), (Go.Value.slice (sa) (san) (sac))]), (Go.Value.int (IntKind.i64) ((100 : Int)))])
  ) (
    π.loop [(true, [.int .i64, .int .i64, .slice]), (true, [.int .i64, .str, .str, .str, .str, .bool, .int .i64, .int .i64, .int .i64, .str, .slice]), (true, [.int .i64, .int .i64, .slice]), (false, [.int .i64])] ((sv, sl, (sa, san, sac), ()), (dk, dt, dn, dc, dp, du, dy, vk, vn, vs, (da, dan, dac), ()), ((0 : Int), (0 : Int), (none, (0 : Nat), (0 : Nat)), ()), ((0 : Int), ()), ()) fun (((x2 : Int), (x3 : Int), ((a4 : Option Addr), (n5 : Nat), (c6 : Nat)), _), ((x7 : Int), (t8 : ByteArray), (t9 : ByteArray), (t10 : ByteArray), (t11 : ByteArray), (b12 : Bool), (x13 : Int), (x14 : Int), (x15 : Int), (t16 : ByteArray), ((a17 : Option Addr), (n18 : Nat), (c19 : Nat)), _), ((x20 : Int), (x21 : Int), ((a22 : Option Addr), (n23 : Nat), (c24 : Nat)), _), ((x25 : Int), _), _) again1 =>
      π.ite (decide (x25 < (↑n18 : Int))) (
        π.guard ((0 : Int) ≤ x25 ∧ x25 < (↑n18 : Int)) <|
        π.unSome (a17) fun p26 =>
        π.ld [.str] ((p26.add (x25.toNat * (7 : Nat))).add (1 : Nat)) fun ((t27 : ByteArray), _) =>
        π.call (47 : Nat) #[(Go.Value.string (t27))] (false, [(false, [.bool])]) fun (((b28 : Bool), _), _) =>
        π.ite (!b28) (
          π.ret (Go.Value.tuple #[(Go.Value.agg #[(Go.Value.int (IntKind.i64) (x2)), (Go.Value.int (IntKind.i64) (x3)), (Go.Value.slice (a4) (n5) (c6))]), (Go.Value.int (IntKind.i64) ((100 : Int)))])
        ) (
          again1 ((x2, x3, (a4, n5, c6), ()), (x7, t8, t9, t10, t11, b12, x13, x14, x15, t16, (a17, n18, c19), ()), (x20, x21, (a22, n23, c24), ()), (IntKind.i64.wrap (x25 + (1 : Int)), ()), ())
        )
      ) (
        π.call (18 : Nat) #[(Go.Value.agg #[(Go.Value.int (IntKind.i64) (x2)), (Go.Value.int (IntKind.i64) (x3)), (Go.Value.slice (a4) (n5) (c6))]), (Go.Value.string (t8))] (false, [(false, [.int .i64])]) fun (((x29 : Int), _), _) =>
        π.ite (decide (x29 ≥ (0 : Int))) (
          π.ret (Go.Value.tuple #[(Go.Value.agg #[(Go.Value.int (IntKind.i64) (x2)), (Go.Value.int (IntKind.i64) (x3)), (Go.Value.slice (a4) (n5) (c6))]), (Go.Value.int (IntKind.i64) ((152 : Int)))])
        ) (
          π.loop [(true, [.int .i64, .int .i64, .slice]), (true, [.int .i64, .str, .str, .str, .str, .bool, .int .i64, .int .i64, .int .i64, .str, .slice]), (true, [.int .i64, .int .i64, .slice]), (true, [.int .i64, .str, .slice, .slice, .slice]), (false, [.int .i64])] ((x2, x3, (a4, n5, c6), ()), (x7, t8, t9, t10, t11, b12, x13, x14, x15, t16, (a17, n18, c19), ()), (x20, x21, (a22, n23, c24), ()), (IntKind.i64.wrap (x3 + (1 : Int)), t8, (a17, n18, c19), (none, (0 : Nat), (0 : Nat)), (none, (0 : Nat), (0 : Nat)), ()), ((0 : Int), ()), ()) fun (((x31 : Int), (x32 : Int), ((a33 : Option Addr), (n34 : Nat), (c35 : Nat)), _), ((x36 : Int), (t37 : ByteArray), (t38 : ByteArray), (t39 : ByteArray), (t40 : ByteArray), (b41 : Bool), (x42 : Int), (x43 : Int), (x44 : Int), (t45 : ByteArray), ((a46 : Option Addr), (n47 : Nat), (c48 : Nat)), _), ((x49 : Int), (x50 : Int), ((a51 : Option Addr), (n52 : Nat), (c53 : Nat)), _), ((x54 : Int), (t55 : ByteArray), ((a56 : Option Addr), (n57 : Nat), (c58 : Nat)), ((a59 : Option Addr), (n60 : Nat), (c61 : Nat)), ((a62 : Option Addr), (n63 : Nat), (c64 : Nat)), _), ((x65 : Int), _), _) again30 =>
            π.ite (decide (x65 < (↑n47 : Int))) (
              π.guard ((0 : Int) ≤ x65 ∧ x65 < (↑n47 : Int)) <|
              π.unSome (a46) fun p66 =>
              π.ld [.str] ((p66.add (x65.toNat * (7 : Nat))).add (1 : Nat)) fun ((t67 : ByteArray), _) =>
              π.callQ (48 : Nat) #[(Go.Value.agg #[(Go.Value.int (IntKind.i64) (x54)), (Go.Value.string (t55)), (Go.Value.slice (a56) (n57) (c58)), (Go.Value.slice (a59) (n60) (c61)), (Go.Value.slice (a62) (n63) (c64))]), (Go.Value.string (t67))] (false, [(false, [.int .i64])]) fun (((x68 : Int), _), _) =>
              π.ite (x68 != x65) (
                π.ret (Go.Value.tuple #[(Go.Value.agg #[(Go.Value.int (IntKind.i64) (x31)), (Go.Value.int (IntKind.i64) (x32)), (Go.Value.slice (a33) (n34) (c35))]), (Go.Value.int (IntKind.i64) ((152 : Int)))])
              ) (
                again30 ((x31, x32, (a33, n34, c35), ()), (x36, t37, t38, t39, t40, b41, x42, x43, x44, t45, (a46, n47, c48), ()), (x49, x50, (a51, n52, c53), ()), (x54, t55, (a56, n57, c58), (a59, n60, c61), (a62, n63, c64), ()), (IntKind.i64.wrap (x65 + (1 : Int)), ()), ())
              )
            ) (
              π.join [(true, [.int .i64, .int .i64, .slice]), (true, [.int .i64, .str, .str, .str, .str, .bool, .int .i64, .int .i64, .int .i64, .str, .slice]), (true, [.int .i64, .int .i64, .slice]), (true, [.int .i64, .str, .slice, .slice, .slice])] (fun J69 =>
                π.ite (decide ((↑n34 : Int) ≥ (6 : Int))) (
                  π.ret (Go.Value.tuple #[(Go.Value.agg #[(Go.Value.int (IntKind.i64) (x31)), (Go.Value.int (IntKind.i64) (x32)), (Go.Value.slice (a33) (n34) (c35))]), (Go.Value.int (IntKind.i64) ((156 : Int)))])
                ) (
                  π.ite ((↑n47 : Int) == (0 : Int)) (
                    π.ret (Go.Value.tuple #[(Go.Value.agg #[(Go.Value.int (IntKind.i64) (x31)), (Go.Value.int (IntKind.i64) (x32)), (Go.Value.slice (a33) (n34) (c35))]), (Go.Value.int (IntKind.i64) ((156 : Int)))])
                  ) (
                    π.ite (decide ((↑n47 : Int) > (8 : Int))) (
                      π.ret (Go.Value.tuple #[(Go.Value.agg #[(Go.Value.int (IntKind.i64) (x31)), (Go.Value.int (IntKind.i64) (x32)), (Go.Value.slice (a33) (n34) (c35))]), (Go.Value.int (IntKind.i64) ((156 : Int)))])
                    ) (
                      J69 ((x31, x32, (a33, n34, c35), ()), (x36, t37, t38, t39, t40, b41, x42, x43, x44, t45, (a46, n47, c48), ()), (x49, x50, (a51, n52, c53), ()), (x54, t55, (a56, n57, c58), (a59, n60, c61), (a62, n63, c64), ()), ())
                    )
                  )
                )
              ) (fun (((x70 : Int), (x71 : Int), ((a72 : Option Addr), (n73 : Nat), (c74 : Nat)), _), ((x75 : Int), (t76 : ByteArray), (t77 : ByteArray), (t78 : ByteArray), (t79 : ByteArray), (b80 : Bool), (x81 : Int), (x82 : Int), (x83 : Int), (t84 : ByteArray), ((a85 : Option Addr), (n86 : Nat), (c87 : Nat)), _), ((x88 : Int), (x89 : Int), ((a90 : Option Addr), (n91 : Nat), (c92 : Nat)), _), ((x93 : Int), (t94 : ByteArray), ((a95 : Option Addr), (n96 : Nat), (c97 : Nat)), ((a98 : Option Addr), (n99 : Nat), (c100 : Nat)), ((a101 : Option Addr), (n102 : Nat), (c103 : Nat)), _), _) =>
                π.loop [(true, [.int .i64, .int .i64, .slice]), (true, [.int .i64, .str, .str, .str, .str, .bool, .int .i64, .int .i64, .int .i64, .str, .slice]), (true, [.int .i64, .int .i64, .slice]), (true, [.int .i64, .str, .slice, .slice, .slice]), (false, [.int .i64])] ((x70, x71, (a72, n73, c74), ()), (x75, t76, t77, t78, t79, b80, x81, x82, x83, t84, (a85, n86, c87), ()), (x88, x89, (a90, n91, c92), ()), (x93, t94, (none, (0 : Nat), (0 : Nat)), (a98, n99, c100), (a101, n102, c103), ()), ((0 : Int), ()), ()) fun (((x105 : Int), (x106 : Int), ((a107 : Option Addr), (n108 : Nat), (c109 : Nat)), _), ((x110 : Int), (t111 : ByteArray), (t112 : ByteArray), (t113 : ByteArray), (t114 : ByteArray), (b115 : Bool), (x116 : Int), (x117 : Int), (x118 : Int), (t119 : ByteArray), ((a120 : Option Addr), (n121 : Nat), (c122 : Nat)), _), ((x123 : Int), (x124 : Int), ((a125 : Option Addr), (n126 : Nat), (c127 : Nat)), _), ((x128 : Int), (t129 : ByteArray), ((a130 : Option Addr), (n131 : Nat), (c132 : Nat)), ((a133 : Option Addr), (n134 : Nat), (c135 : Nat)), ((a136 : Option Addr), (n137 : Nat), (c138 : Nat)), _), ((x139 : Int), _), _) again104 =>
                  π.ite (decide (x139 < (↑n121 : Int))) (
                    π.guard ((0 : Int) ≤ x139 ∧ x139 < (↑n121 : Int)) <|
                    π.unSome (a120) fun p140 =>
                    π.ld [.int .i64] ((p140.add (x139.toNat * (7 : Nat))).add (2 : Nat)) fun ((x141 : Int), _) =>
                    π.call (49 : Nat) #[(Go.Value.int (IntKind.i64) (x141))] (false, [(false, [.bool])]) fun (((b142 : Bool), _), _) =>
                    π.ite (!b142) (
                      π.ret (Go.Value.tuple #[(Go.Value.agg #[(Go.Value.int (IntKind.i64) (x105)), (Go.Value.int (IntKind.i64) (x106)), (Go.Value.slice (a107) (n108) (c109))]), (Go.Value.int (IntKind.i64) ((154 : Int)))])
                    ) (
                      π.guard ((0 : Int) ≤ x139 ∧ x139 < (↑n121 : Int)) <|
                      π.unSome (a120) fun p143 =>
                      π.ld [.str] ((p143.add (x139.toNat * (7 : Nat))).add (1 : Nat)) fun ((t144 : ByteArray), _) =>
                      π.guard ((0 : Int) ≤ x139 ∧ x139 < (↑n121 : Int)) <|
                      π.unSome (a120) fun p145 =>
                      π.ld [.int .i64] ((p145.add (x139.toNat * (7 : Nat))).add (2 : Nat)) fun ((x146 : Int), _) =>
                      π.nw (Go.Obj.cells #[(Go.Value.int (IntKind.i64) (IntKind.i64.wrap (IntKind.i64.wrap (x106 + (2 : Int)) + x139))), (Go.Value.string (t144)), (Go.Value.int (IntKind.i64) (x146)), (Go.Value.int (IntKind.i64) ((3 : Int))), (Go.Value.int (IntKind.i64) ((0 : Int))), (Go.Value.int (IntKind.i64) ((0 : Int))), (Go.Value.string (ByteArray.mk #[]))] (44 : Nat) ((0 : Nat), (0 : Nat))) fun r147 =>
                      π.app (44 : Nat) (7 : Nat) (72 : Nat) [(Go.Value.int (IntKind.i64) ((0 : Int))), (Go.Value.string (ByteArray.mk #[])), (Go.Value.int (IntKind.i64) ((0 : Int))), (Go.Value.int (IntKind.i64) ((0 : Int))), (Go.Value.int (IntKind.i64) ((0 : Int))), (Go.Value.int (IntKind.i64) ((0 : Int))), (Go.Value.string (ByteArray.mk #[]))] (a130) (n131) (c132) (Src.sl (some (Addr.mk r147 (0 : Nat) none)) (1 : Nat)) fun a148 n149 c150 =>
                      again104 ((x105, x106, (a107, n108, c109), ()), (x110, t111, t112, t113, t114, b115, x116, x117, x118, t119, (a120, n121, c122), ()), (x123, x124, (a125, n126, c127), ()), (x128, t129, (a148, n149, c150), (a133, n134, c135), (a136, n137, c138), ()), (IntKind.i64.wrap (x139 + (1 : Int)), ()), ())
                    )
                  ) (
                    π.ite (state != (3 : Int)) (
                      π.ret (Go.Value.tuple #[(Go.Value.agg #[(Go.Value.int (IntKind.i64) (x105)), (Go.Value.int (IntKind.i64) (x106)), (Go.Value.slice (a107) (n108) (c109))]), (Go.Value.int (IntKind.i64) ((1 : Int)))])
                    ) (
                      π.nw (Go.Obj.cells #[(Go.Value.int (IntKind.i64) (x128)), (Go.Value.string (t129)), (Go.Value.slice (a130) (n131) (c132)), (Go.Value.slice (a133) (n134) (c135)), (Go.Value.slice (a136) (n137) (c138))] (42 : Nat) ((0 : Nat), (0 : Nat))) fun r151 =>
                      π.app (42 : Nat) (5 : Nat) (96 : Nat) [(Go.Value.int (IntKind.i64) ((0 : Int))), (Go.Value.string (ByteArray.mk #[])), (Go.Value.slice (none) ((0 : Nat)) ((0 : Nat))), (Go.Value.slice (none) ((0 : Nat)) ((0 : Nat))), (Go.Value.slice (none) ((0 : Nat)) ((0 : Nat)))] (a107) (n108) (c109) (Src.sl (some (Addr.mk r151 (0 : Nat) none)) (1 : Nat)) fun a152 n153 c154 =>
                      π.ret (Go.Value.tuple #[(Go.Value.agg #[(Go.Value.int (IntKind.i64) (x105)), (Go.Value.int (IntKind.i64) (IntKind.i64.wrap (IntKind.i64.wrap (x106 + (1 : Int)) + (↑n121 : Int)))), (Go.Value.slice (a152) (n153) (c154))]), (Go.Value.int (IntKind.i64) ((0 : Int)))])
                    )
                  )
              )
            )
        )
      )
  )

def ann_rCreate : Ann := { draws := [(14, { A := [0, 1, 2, 3, 4, 5, 6, 7, 8, 9], quiet := [7] }), (24, { A := [0, 1, 2, 3, 4, 5, 6, 7, 8, 9, 10, 11, 12, 13, 14, 15, 16, 17, 18, 19], eag := [22] })], join := [(18, [(3, 24), (4, 29), (6, 24), (9, 42)])], loop := [(4, [(3, 24), (4, 29), (6, 24), (8, 3)]), (12, [(3, 24), (4, 29), (6, 24), (9, 42), (10, 3)]), (20, [(3, 24), (4, 29), (6, 24), (9, 42), (11, 3)])] }
def la_rCreate : LA := { ptr := [(3, 3, 0), (4, 4, 0), (6, 6, 0), (9, 9, 0), (12, 4, 1), (18, 4, 10), (24, 4, 10), (34, 4, 1), (39, 3, 1), (42, 4, 1), (44, 4, 10), (48, 4, 10), (55, 4, 10), (65, 3, 2), (70, 4, 10), (76, 4, 10), (82, 9, 2), (84, 4, 10), (90, 4, 10), (99, 9, 2), (101, 3, 1), (106, 4, 10), (112, 4, 10), (121, 9, 2), (125, 3, 1), (128, 4, 10), (132, 3, 1), (133, 3, 2), (138, 3, 2)], ty := [(3, 24), (4, 29), (6, 24), (9, 42)] }
set_option maxRecDepth 100000 in
theorem eq_rCreate {W : Type} (π : Prims W) (sv sl : Int) (sa : Option Addr) (san sac : Nat) (dk : Int) (dt dn dc dp : ByteArray) (du : Bool) (dy vk vn : Int) (vs : ByteArray) (da : Option Addr) (dan dac : Nat) (state : Int) : bodyL π Try.prog la_rCreate ann_rCreate (mkFr (maskA [] [.v (.agg #[.int .i64 sv, .int .i64 sl, .slice sa san sac]), .v (.agg #[.int .i64 dk, .string dt, .string dn, .string dc, .string dp, .bool du, .int .i64 dy, .int .i64 vk, .int .i64 vn, .string vs, .slice da dan dac]), .v (.int .i64 state)] 0) 140) Try.f40 (bodyOf Try.f40) (mkFr (List.map some [.v (.agg #[.int .i64 sv, .int .i64 sl, .slice sa san sac]), .v (.agg #[.int .i64 dk, .string dt, .string dn, .string dc, .string dp, .bool du, .int .i64 dy, .int .i64 vk, .int .i64 vn, .string vs, .slice da dan dac]), .v (.int .i64 state)]) 140) = vc_rCreate π sv sl sa san sac dk dt dn dc dp du dy vk vn vs da dan dac state := by kernel_rfl
theorem ok_rCreate (sv sl : Int) (sa : Option Addr) (san sac : Nat) (dk : Int) (dt dn dc dp : ByteArray) (du : Bool) (dy vk vn : Int) (vs : ByteArray) (da : Option Addr) (dan dac : Nat) (state : Int) (R : Value → PH → Prop) (s : PH) (h : vc_rCreate (RP Try.prog R) sv sl sa san sac dk dt dn dc dp du dy vk vn vs da dan dac state s) : DCalls Try.prog 40 (List.map AV.val [.v (.agg #[.int .i64 sv, .int .i64 sl, .slice sa san sac]), .v (.agg #[.int .i64 dk, .string dt, .string dn, .string dc, .string dp, .bool du, .int .i64 dy, .int .i64 vk, .int .i64 vn, .string vs, .slice da dan dac]), .v (.int .i64 state)]).toArray s R :=
  calls_vcL (c := bodyOf Try.f40) (ann := ann_rCreate) la_rCreate (by kernel_rfl) Try.func40 rfl (by kernel_rfl) [.v (.agg #[.int .i64 sv, .int .i64 sl, .slice sa san sac]), .v (.agg #[.int .i64 dk, .string dt, .string dn, .string dc, .string dp, .bool du, .int .i64 dy, .int .i64 vk, .int .i64 vn, .string vs, .slice da dan dac]), .v (.int .i64 state)] [] (by rw [Try.ntmps40]; exact Nat.le_of_ble_eq_true rfl) (by kernel_rfl) (by rw [show Try.f40.ntmps = 140 from Try.ntmps40, eq_rCreate]; exact h)

/-- lintel/lintelref15.column -/
def vc_rColumn {W : Type} (π : Prims W) (sv sl : Int) (sa : Option Addr) (san sac : Nat) (i : Int) (dk : Int) (dt dn dc dp : ByteArray) (du : Bool) (dy vk vn : Int) (vs : ByteArray) (da : Option Addr) (dan dac : Nat) (state : Int) : W :=
  π.guard ((0 : Int) ≤ i ∧ i < (↑san : Int)) <|
  π.unSome (sa) fun p0 =>
  π.ld [.int .i64, .str, .slice, .slice, .slice] (p0.add (i.toNat * (5 : Nat))) fun ((x1 : Int), (t2 : ByteArray), ((a3 : Option Addr), (n4 : Nat), (c5 : Nat)), ((a6 : Option Addr), (n7 : Nat), (c8 : Nat)), ((a9 : Option Addr), (n10 : Nat), (c11 : Nat)), _) =>
  π.call (48 : Nat) #[(Go.Value.agg #[(Go.Value.int (IntKind.i64) (x1)), (Go.Value.string (t2)), (Go.Value.slice (a3) (n4) (c5)), (Go.Value.slice (a6) (n7) (c8)), (Go.Value.slice (a9) (n10) (c11))]), (Go.Value.string (dc))] (false, [(false, [.int .i64])]) fun (((x12 : Int), _), _) =>
  π.join [(true, [.int .i64, .int .i64, .slice]), (true, [.int .i64, .str, .str, .str, .str, .bool, .int .i64, .int .i64, .int .i64, .str, .slice]), (true, [.int .i64, .int .i64, .slice]), (true, [.int .i64, .str, .slice, .slice, .slice]), (false, [.int .i64]), (false, [.bool])] (fun J13 =>
    π.ite (dk == (4 : Int)) (
      J13 ((sv, sl, (sa, san, sac), ()), (dk, dt, dn, dc, dp, du, dy, vk, vn, vs, (da, dan, dac), ()), ((0 : Int), (0 : Int), (none, (0 : Nat), (0 : Nat)), ()), (x1, t2, (a3, n4, c5), (a6, n7, c8), (a9, n10, c11), ()), (x12, ()), (decide (x12 < (0 : Int)), ()), ())
    ) (
      J13 ((sv, sl, (sa, san, sac), ()), (dk, dt, dn, dc, dp, du, dy, vk, vn, vs, (da, dan, dac), ()), ((0 : Int), (0 : Int), (none, (0 : Nat), (0 : Nat)), ()), (x1, t2, (a3, n4, c5), (a6, n7, c8), (a9, n10, c11), ()), (x12, ()), (false, ()), ())
    )
  ) (fun (((x14 : Int), (x15 : Int), ((a16 : Option Addr), (n17 : Nat), (c18 : Nat)), _), ((x19 : Int), (t20 : ByteArray), (t21 : ByteArray), (t22 : ByteArray), (t23 : ByteArray), (b24 : Bool), (x25 : Int), (x26 : Int), (x27 : Int), (t28 : ByteArray), ((a29 : Option Addr), (n30 : Nat), (c31 : Nat)), _), ((x32 : Int), (x33 : Int), ((a34 : Option Addr), (n35 : Nat), (c36 : Nat)), _), ((x37 : Int), (t38 : ByteArray), ((a39 : Option Addr), (n40 : Nat), (c41 : Nat)), ((a42 : Option Addr), (n43 : Nat), (c44 : Nat)), ((a45 : Option Addr), (n46 : Nat), (c47 : Nat)), _), ((x48 : Int), _), ((b49 : Bool), _), _) =>
    π.ite (b49) (
      π.call (81 : Nat) #[(Go.Value.string (t22)), (Go.Value.int (IntKind.i64) ((↑n40 : Int)))] (false, [(false, [.int .i64])]) fun (((x50 : Int), _), _) =>
      π.ite (x50 != (0 : Int)) (
        π.ret (Go.Value.tuple #[(Go.Value.agg #[(Go.Value.int (IntKind.i64) (x14)), (Go.Value.int (IntKind.i64) (x15)), (Go.Value.slice (a16) (n17) (c18))]), (Go.Value.int (IntKind.i64) (x50))])
      ) (
        π.join [(true, [.int .i64, .int .i64, .slice]), (true, [.int .i64, .str, .str, .str, .str, .bool, .int .i64, .int .i64, .int .i64, .str, .slice]), (true, [.int .i64, .int .i64, .slice])] (fun J51 =>
          π.call (49 : Nat) #[(Go.Value.int (IntKind.i64) (x25))] (false, [(false, [.bool])]) fun (((b52 : Bool), _), _) =>
          π.ite (!b52) (
            π.ret (Go.Value.tuple #[(Go.Value.agg #[(Go.Value.int (IntKind.i64) (x14)), (Go.Value.int (IntKind.i64) (x15)), (Go.Value.slice (a16) (n17) (c18))]), (Go.Value.int (IntKind.i64) ((154 : Int)))])
          ) (
            π.call (50 : Nat) #[(Go.Value.agg #[(Go.Value.int (IntKind.i64) (x26)), (Go.Value.int (IntKind.i64) (x27)), (Go.Value.string (t28))]), (Go.Value.int (IntKind.i64) (x25))] (false, [(false, [.bool])]) fun (((b53 : Bool), _), _) =>
            π.ite (!b53) (
              π.ret (Go.Value.tuple #[(Go.Value.agg #[(Go.Value.int (IntKind.i64) (x14)), (Go.Value.int (IntKind.i64) (x15)), (Go.Value.slice (a16) (n17) (c18))]), (Go.Value.int (IntKind.i64) ((154 : Int)))])
            ) (
              J51 ((x14, x15, (a16, n17, c18), ()), (x19, t20, t21, t22, t23, b24, x25, x26, x27, t28, (a29, n30, c31), ()), (x32, x33, (a34, n35, c36), ()), ())
            )
          )
        ) (fun (((x54 : Int), (x55 : Int), ((a56 : Option Addr), (n57 : Nat), (c58 : Nat)), _), ((x59 : Int), (t60 : ByteArray), (t61 : ByteArray), (t62 : ByteArray), (t63 : ByteArray), (b64 : Bool), (x65 : Int), (x66 : Int), (x67 : Int), (t68 : ByteArray), ((a69 : Option Addr), (n70 : Nat), (c71 : Nat)), _), ((x72 : Int), (x73 : Int), ((a74 : Option Addr), (n75 : Nat), (c76 : Nat)), _), _) =>
          π.ite (state == (0 : Int)) (
            π.ret (Go.Value.tuple #[(Go.Value.agg #[(Go.Value.int (IntKind.i64) (x54)), (Go.Value.int (IntKind.i64) (x55)), (Go.Value.slice (a56) (n57) (c58))]), (Go.Value.int (IntKind.i64) ((1 : Int)))])
          ) (
            π.guard ((0 : Int) ≤ i ∧ i < (↑n57 : Int)) <|
            π.unSome (a56) fun p77 =>
            π.ld [.slice] ((p77.add (i.toNat * (5 : Nat))).add (2 : Nat)) fun (((a78 : Option Addr), (n79 : Nat), (c80 : Nat)), _) =>
            π.nw (Go.Obj.cells #[(Go.Value.int (IntKind.i64) (IntKind.i64.wrap (x55 + (1 : Int)))), (Go.Value.string (t62)), (Go.Value.int (IntKind.i64) (x65)), (Go.Value.int (IntKind.i64) (state)), (Go.Value.int (IntKind.i64) (x66)), (Go.Value.int (IntKind.i64) (x67)), (Go.Value.string (t68))] (44 : Nat) ((0 : Nat), (0 : Nat))) fun r81 =>
            π.app (44 : Nat) (7 : Nat) (72 : Nat) [(Go.Value.int (IntKind.i64) ((0 : Int))), (Go.Value.string (ByteArray.mk #[])), (Go.Value.int (IntKind.i64) ((0 : Int))), (Go.Value.int (IntKind.i64) ((0 : Int))), (Go.Value.int (IntKind.i64) ((0 : Int))), (Go.Value.int (IntKind.i64) ((0 : Int))), (Go.Value.string (ByteArray.mk #[]))] (a78) (n79) (c80) (Src.sl (some (Addr.mk r81 (0 : Nat) none)) (1 : Nat)) fun a82 n83 c84 =>
            π.guard ((0 : Int) ≤ i ∧ i < (↑n57 : Int)) <|
            π.unSome (a56) fun p85 =>
            π.st ((p85.add (i.toNat * (5 : Nat))).add (2 : Nat)) [(Go.Value.slice (a82) (n83) (c84))] <|
            π.ret (Go.Value.tuple #[(Go.Value.agg #[(Go.Value.int (IntKind.i64) (x54)), (Go.Value.int (IntKind.i64) (IntKind.i64.wrap (x55 + (1 : Int)))), (Go.Value.slice (a56) (n57) (c58))]), (Go.Value.int (IntKind.i64) ((0 : Int)))])
          )
        )
      )
    ) (
      π.join [(true, [.int .i64, .int .i64, .slice]), (true, [.int .i64, .str, .str, .str, .str, .bool, .int .i64, .int .i64, .int .i64, .str, .slice]), (true, [.int .i64, .int .i64, .slice]), (true, [.int .i64, .str, .slice, .slice, .slice]), (false, [.int .i64])] (fun J86 =>
        π.ite (x19 == (4 : Int)) (
          π.guard ((0 : Int) ≤ x48 ∧ x48 < (↑n40 : Int)) <|
          π.unSome (a39) fun p87 =>
          π.ld [.int .i64] ((p87.add (x48.toNat * (7 : Nat))).add (3 : Nat)) fun ((x88 : Int), _) =>
          π.ite (x88 == (3 : Int)) (
            π.ret (Go.Value.tuple #[(Go.Value.agg #[(Go.Value.int (IntKind.i64) (x14)), (Go.Value.int (IntKind.i64) (x15)), (Go.Value.slice (a16) (n17) (c18))]), (Go.Value.int (IntKind.i64) ((152 : Int)))])
          ) (
            J86 ((x14, x15, (a16, n17, c18), ()), (x19, t20, t21, t22, t23, b24, x25, x26, x27, t28, (a29, n30, c31), ()), (x32, x33, (a34, n35, c36), ()), (x37, t38, (a39, n40, c41), (a42, n43, c44), (a45, n46, c47), ()), (x48, ()), ())
          )
        ) (
          J86 ((x14, x15, (a16, n17, c18), ()), (x19, t20, t21, t22, t23, b24, x25, x26, x27, t28, (a29, n30, c31), ()), (x32, x33, (a34, n35, c36), ()), (x37, t38, (a39, n40, c41), (a42, n43, c44), (a45, n46, c47), ()), (x48, ()), ())
        )
      ) (fun (((x89 : Int), (x90 : Int), ((a91 : Option Addr), (n92 : Nat), (c93 : Nat)), _), ((x94 : Int), (t95 : ByteArray), (t96 : ByteArray), (t97 : ByteArray), (t98 : ByteArray), (b99 : Bool), (x100 : Int), (x101 : Int), (x102 : Int), (t103 : ByteArray), ((a104 : Option Addr), (n105 : Nat), (c106 : Nat)), _), ((x107 : Int), (x108 : Int), ((a109 : Option Addr), (n110 : Nat), (c111 : Nat)), _), ((x112 : Int), (t113 : ByteArray), ((a114 : Option Addr), (n115 : Nat), (c116 : Nat)), ((a117 : Option Addr), (n118 : Nat), (c119 : Nat)), ((a120 : Option Addr), (n121 : Nat), (c122 : Nat)), _), ((x123 : Int), _), _) =>
        π.ite (decide (x123 < (0 : Int))) (
          π.ret (Go.Value.tuple #[(Go.Value.agg #[(Go.Value.int (IntKind.i64) (x89)), (Go.Value.int (IntKind.i64) (x90)), (Go.Value.slice (a91) (n92) (c93))]), (Go.Value.int (IntKind.i64) ((151 : Int)))])
        ) (
          π.join [(true, [.int .i64, .int .i64, .slice]), (true, [.int .i64, .int .i64, .slice]), (true, [.int .i64, .str, .slice, .slice, .slice]), (false, [.int .i64])] (fun J124 =>
            π.ite (x94 == (5 : Int)) (
              π.loop [(true, [.int .i64, .int .i64, .slice]), (true, [.int .i64, .int .i64, .slice]), (true, [.int .i64, .str, .slice, .slice, .slice]), (false, [.int .i64]), (false, [.bool]), (false, [.int .i64])] ((x89, x90, (a91, n92, c93), ()), (x107, x108, (a109, n110, c111), ()), (x112, t113, (a114, n115, c116), (a117, n118, c119), (a120, n121, c122), ()), (x123, ()), (x123 == (0 : Int), ()), ((0 : Int), ()), ()) fun (((x126 : Int), (x127 : Int), ((a128 : Option Addr), (n129 : Nat), (c130 : Nat)), _), ((x131 : Int), (x132 : Int), ((a133 : Option Addr), (n134 : Nat), (c135 : Nat)), _), ((x136 : Int), (t137 : ByteArray), ((a138 : Option Addr), (n139 : Nat), (c140 : Nat)), ((a141 : Option Addr), (n142 : Nat), (c143 : Nat)), ((a144 : Option Addr), (n145 : Nat), (c146 : Nat)), _), ((x147 : Int), _), ((b148 : Bool), _), ((x149 : Int), _), _) again125 =>
                π.ite (decide (x149 < (↑n142 : Int))) (
                  π.ite (b148) (
                    again125 ((x126, x127, (a128, n129, c130), ()), (x131, x132, (a133, n134, c135), ()), (x136, t137, (a138, n139, c140), (a141, n142, c143), (a144, n145, c146), ()), (x147, ()), (true, ()), (IntKind.i64.wrap (x149 + (1 : Int)), ()), ())
                  ) (
                    π.guard ((0 : Int) ≤ x149 ∧ x149 < (↑n142 : Int)) <|
                    π.unSome (a141) fun p150 =>
                    π.ld [.int .i64] ((p150.add (x149.toNat * (5 : Nat))).add (2 : Nat)) fun ((x151 : Int), _) =>
                    π.guard ((0 : Int) ≤ x147 ∧ x147 < (↑n139 : Int)) <|
                    π.unSome (a138) fun p152 =>
                    π.ld [.int .i64] ((p152.add (x147.toNat * (7 : Nat))).add (0 : Nat)) fun ((x153 : Int), _) =>
                    again125 ((x126, x127, (a128, n129, c130), ()), (x131, x132, (a133, n134, c135), ()), (x136, t137, (a138, n139, c140), (a141, n142, c143), (a144, n145, c146), ()), (x147, ()), (x151 == x153, ()), (IntKind.i64.wrap (x149 + (1 : Int)), ()), ())
                  )
                ) (
                  π.loop [(true, [.int .i64, .int .i64, .slice]), (true, [.int .i64, .int .i64, .slice]), (true, [.int .i64, .str, .slice, .slice, .slice]), (false, [.int .i64]), (false, [.bool]), (false, [.int .i64])] ((x126, x127, (a128, n129, c130), ()), (x131, x132, (a133, n134, c135), ()), (x136, t137, (a138, n139, c140), (a141, n142, c143), (a144, n145, c146), ()), (x147, ()), (b148, ()), ((0 : Int), ()), ()) fun (((x155 : Int), (x156 : Int), ((a157 : Option Addr), (n158 : Nat), (c159 : Nat)), _), ((x160 : Int), (x161 : Int), ((a162 : Option Addr), (n163 : Nat), (c164 : Nat)), _), ((x165 : Int), (t166 : ByteArray), ((a167 : Option Addr), (n168 : Nat), (c169 : Nat)), ((a170 : Option Addr), (n171 : Nat), (c172 : Nat)), ((a173 : Option Addr), (n174 : Nat), (c175 : Nat)), _), ((x176 : Int), _), ((b177 : Bool), _), ((x178 : Int), _), _) again154 =>
                    π.ite (decide (x178 < (↑n174 : Int))) (
                      π.ite (b177) (
                        again154 ((x155, x156, (a157, n158, c159), ()), (x160, x161, (a162, n163, c164), ()), (x165, t166, (a167, n168, c169), (a170, n171, c172), (a173, n174, c175), ()), (x176, ()), (true, ()), (IntKind.i64.wrap (x178 + (1 : Int)), ()), ())
                      ) (
                        π.guard ((0 : Int) ≤ x178 ∧ x178 < (↑n174 : Int)) <|
                        π.unSome (a173) fun p179 =>
                        π.ld [.int .i64] ((p179.add (x178.toNat * (5 : Nat))).add (2 : Nat)) fun ((x180 : Int), _) =>
                        π.guard ((0 : Int) ≤ x176 ∧ x176 < (↑n168 : Int)) <|
                        π.unSome (a167) fun p181 =>
                        π.ld [.int .i64] ((p181.add (x176.toNat * (7 : Nat))).add (0 : Nat)) fun ((x182 : Int), _) =>
                        again154 ((x155, x156, (a157, n158, c159), ()), (x160, x161, (a162, n163, c164), ()), (x165, t166, (a167, n168, c169), (a170, n171, c172), (a173, n174, c175), ()), (x176, ()), (x180 == x182, ()), (IntKind.i64.wrap (x178 + (1 : Int)), ()), ())
                      )
                    ) (
                      π.ite (b177) (
                        π.ret (Go.Value.tuple #[(Go.Value.agg #[(Go.Value.int (IntKind.i64) (x155)), (Go.Value.int (IntKind.i64) (x156)), (Go.Value.slice (a157) (n158) (c159))]), (Go.Value.int (IntKind.i64) ((155 : Int)))])
                      ) (
                        J124 ((x155, x156, (a157, n158, c159), ()), (x160, x161, (a162, n163, c164), ()), (x165, t166, (a167, n168, c169), (a170, n171, c172), (a173, n174, c175), ()), (x176, ()), ())
                      )
                    )
                )
            ) (
              J124 ((x89, x90, (a91, n92, c93), ()), (x107, x108, (a109, n110, c111), ()), (x112, t113, (a114, n115, c116), (a117, n118, c119), (a120, n121, c122), ()), (x123, ()), ())
            )
          ) (fun (((x183 : Int), (x184 : Int), ((a185 : Option Addr), (n186 : Nat), (c187 : Nat)), _), ((x188 : Int), (x189 : Int), ((a190 : Option Addr), (n191 : Nat), (c192 : Nat)), _), ((x193 : Int), (t194 : ByteArray), ((a195 : Option Addr), (n196 : Nat), (c197 : Nat)), ((a198 : Option Addr), (n199 : Nat), (c200 : Nat)), ((a201 : Option Addr), (n202 : Nat), (c203 : Nat)), _), ((x204 : Int), _), _) =>
            π.loop [(true, [.int .i64, .int .i64, .slice]), (true, [.int .i64, .int .i64, .slice]), (true, [.int .i64, .str, .slice, .slice, .slice]), (false, [.int .i64]), (false, [.slice]), (false, [.int .i64])] ((x183, x184, (a185, n186, c187), ()), (x188, x189, (a190, n191, c192), ()), (x193, t194, (a195, n196, c197), (a198, n199, c200), (a201, n202, c203), ()), (x204, ()), ((none, (0 : Nat), (0 : Nat)), ()), ((0 : Int), ()), ()) fun (((x206 : Int), (x207 : Int), ((a208 : Option Addr), (n209 : Nat), (c210 : Nat)), _), ((x211 : Int), (x212 : Int), ((a213 : Option Addr), (n214 : Nat), (c215 : Nat)), _), ((x216 : Int), (t217 : ByteArray), ((a218 : Option Addr), (n219 : Nat), (c220 : Nat)), ((a221 : Option Addr), (n222 : Nat), (c223 : Nat)), ((a224 : Option Addr), (n225 : Nat), (c226 : Nat)), _), ((x227 : Int), _), (((a228 : Option Addr), (n229 : Nat), (c230 : Nat)), _), ((x231 : Int), _), _) again205 =>
              π.ite (decide (x231 < (↑n219 : Int))) (
                π.guard ((0 : Int) ≤ x231 ∧ x231 < (↑n219 : Int)) <|
                π.unSome (a218) fun p232 =>
                π.ld [.int .i64, .str, .int .i64, .int .i64, .int .i64, .int .i64, .str] (p232.add (x231.toNat * (7 : Nat))) fun ((x233 : Int), (t234 : ByteArray), (x235 : Int), (x236 : Int), (x237 : Int), (x238 : Int), (t239 : ByteArray), _) =>
                π.ite (x231 == x227) (
                  π.ite (state != (0 : Int)) (
                    π.nw (Go.Obj.cells #[(Go.Value.int (IntKind.i64) (x233)), (Go.Value.string (t234)), (Go.Value.int (IntKind.i64) (x235)), (Go.Value.int (IntKind.i64) (state)), (Go.Value.int (IntKind.i64) (x237)), (Go.Value.int (IntKind.i64) (x238)), (Go.Value.string (t239))] (44 : Nat) ((0 : Nat), (0 : Nat))) fun r240 =>
                    π.app (44 : Nat) (7 : Nat) (72 : Nat) [(Go.Value.int (IntKind.i64) ((0 : Int))), (Go.Value.string (ByteArray.mk #[])), (Go.Value.int (IntKind.i64) ((0 : Int))), (Go.Value.int (IntKind.i64) ((0 : Int))), (Go.Value.int (IntKind.i64) ((0 : Int))), (Go.Value.int (IntKind.i64) ((0 : Int))), (Go.Value.string (ByteArray.mk #[]))] (a228) (n229) (c230) (Src.sl (some (Addr.mk r240 (0 : Nat) none)) (1 : Nat)) fun a241 n242 c243 =>
                    again205 ((x206, x207, (a208, n209, c210), ()), (x211, x212, (a213, n214, c215), ()), (x216, t217, (a218, n219, c220), (a221, n222, c223), (a224, n225, c226), ()), (x227, ()), ((a241, n242, c243), ()), (IntKind.i64.wrap (x231 + (1 : Int)), ()), ())
                  ) (
                    again205 ((x206, x207, (a208, n209, c210), ()), (x211, x212, (a213, n214, c215), ()), (x216, t217, (a218, n219, c220), (a221, n222, c223), (a224, n225, c226), ()), (x227, ()), ((a228, n229, c230), ()), (IntKind.i64.wrap (x231 + (1 : Int)), ()), ())
                  )
                ) (
                  π.ite (x236 != (0 : Int)) (
                    π.nw (Go.Obj.cells #[(Go.Value.int (IntKind.i64) (x233)), (Go.Value.string (t234)), (Go.Value.int (IntKind.i64) (x235)), (Go.Value.int (IntKind.i64) (x236)), (Go.Value.int (IntKind.i64) (x237)), (Go.Value.int (IntKind.i64) (x238)), (Go.Value.string (t239))] (44 : Nat) ((0 : Nat), (0 : Nat))) fun r244 =>
                    π.app (44 : Nat) (7 : Nat) (72 : Nat) [(Go.Value.int (IntKind.i64) ((0 : Int))), (Go.Value.string (ByteArray.mk #[])), (Go.Value.int (IntKind.i64) ((0 : Int))), (Go.Value.int (IntKind.i64) ((0 : Int))), (Go.Value.int (IntKind.i64) ((0 : Int))), (Go.Value.int (IntKind.i64) ((0 : Int))), (Go.Value.string (ByteArray.mk #[]))] (a228) (n229) (c230) (Src.sl (some (Addr.mk r244 (0 : Nat) none)) (1 : Nat)) fun a245 n246 c247 =>
                    again205 ((x206, x207, (a208, n209, c210), ()), (x211, x212, (a213, n214, c215), ()), (x216, t217, (a218, n219, c220), (a221, n222, c223), (a224, n225, c226), ()), (x227, ()), ((a245, n246, c247), ()), (IntKind.i64.wrap (x231 + (1 : Int)), ()), ())
                  ) (
                    again205 ((x206, x207, (a208, n209, c210), ()), (x211, x212, (a213, n214, c215), ()), (x216, t217, (a218, n219, c220), (a221, n222, c223), (a224, n225, c226), ()), (x227, ()), ((a228, n229, c230), ()), (IntKind.i64.wrap (x231 + (1 : Int)), ()), ())
                  )
                )
              ) (
                π.guard ((0 : Int) ≤ i ∧ i < (↑n209 : Int)) <|
                π.unSome (a208) fun p248 =>
                π.st ((p248.add (i.toNat * (5 : Nat))).add (2 : Nat)) [(Go.Value.slice (a228) (n229) (c230))] <|
                π.ret (Go.Value.tuple #[(Go.Value.agg #[(Go.Value.int (IntKind.i64) (x206)), (Go.Value.int (IntKind.i64) (x207)), (Go.Value.slice (a208) (n209) (c210))]), (Go.Value.int (IntKind.i64) ((0 : Int)))])
              )
          )
        )
      )
    )
  )

def ann_rColumn : Ann := { draws := [(12, { A := [0, 1, 2, 3, 4, 5, 6, 7, 8, 9, 10, 11, 12, 13, 14, 15, 16, 17, 18], chkL := [(20, [1])], eag := [21, 22] }), (23, { A := [0, 1, 2, 3, 4, 5, 6, 7, 8, 9, 10, 11, 12, 13, 14, 15] }), (27, { A := [0, 1, 2, 3, 4, 5, 6, 7, 8, 9, 10, 11, 12, 13, 14, 15] })], join := [(4, [(4, 24), (6, 29), (8, 24), (10, 42), (11, 3), (34, 4)]), (9, [(4, 24), (6, 29), (8, 24)]), (16, [(4, 24), (6, 29), (8, 24), (10, 42), (11, 3)]), (30, [(4, 24), (8, 24), (10, 42), (11, 3)])], loop := [(21, [(4, 24), (8, 24), (10, 42), (11, 3), (13, 4), (14, 3)]), (25, [(4, 24), (8, 24), (10, 42), (11, 3), (13, 4), (15, 3)]), (32, [(4, 24), (8, 24), (10, 42), (11, 3), (16, 27), (17, 3)])] }
def la_rColumn : LA := { ptr := [(4, 4, 0), (6, 6, 0), (8, 8, 0), (10, 10, 0), (18, 18, 0), (19, 4, 2), (25, 6, 3), (28, 6, 0), (35, 6, 3), (37, 10, 2), (45, 6, 6), (50, 6, 7), (52, 6, 6), (61, 4, 1), (64, 4, 1), (65, 4, 2), (68, 4, 2), (74, 4, 1), (76, 6, 3), (78, 6, 6), (81, 6, 7), (89, 6, 0), (93, 10, 2), (105, 6, 0), (111, 10, 3), (119, 10, 3), (125, 10, 2), (134, 10, 4), (142, 10, 4), (148, 10, 2), (159, 10, 2), (165, 10, 2), (174, 18, 3), (175, 18, 3), (182, 4, 2)], ty := [(4, 24), (6, 29), (8, 24), (10, 42), (18, 44)] }
set_option maxRecDepth 100000 in
theorem eq_rColumn {W : Type} (π : Prims W) (sv sl : Int) (sa : Option Addr) (san sac : Nat) (i : Int) (dk : Int) (dt dn dc dp : ByteArray) (du : Bool) (dy vk vn : Int) (vs : ByteArray) (da : Option Addr) (dan dac : Nat) (state : Int) : bodyL π Try.prog la_rColumn ann_rColumn (mkFr (maskA [] [.v (.agg #[.int .i64 sv, .int .i64 sl, .slice sa san sac]), .v (.int .i64 i), .v (.agg #[.int .i64 dk, .string dt, .string dn, .string dc, .string dp, .bool du, .int .i64 dy, .int .i64 vk, .int .i64 vn, .string vs, .slice da dan dac]), .v (.int .i64 state)] 0) 189) Try.f41 (bodyOf Try.f41) (mkFr (List.map some [.v (.agg #[.int .i64 sv, .int .i64 sl, .slice sa san sac]), .v (.int .i64 i), .v (.agg #[.int .i64 dk, .string dt, .string dn, .string dc, .string dp, .bool du, .int .i64 dy, .int .i64 vk, .int .i64 vn, .string vs, .slice da dan dac]), .v (.int .i64 state)]) 189) = vc_rColumn π sv sl sa san sac i dk dt dn dc dp du dy vk vn vs da dan dac state := by kernel_rfl
theorem ok_rColumn (sv sl : Int) (sa : Option Addr) (san sac : Nat) (i : Int) (dk : Int) (dt dn dc dp : ByteArray) (du : Bool) (dy vk vn : Int) (vs : ByteArray) (da : Option Addr) (dan dac : Nat) (state : Int) (R : Value → PH → Prop) (s : PH) (h : vc_rColumn (RP Try.prog R) sv sl sa san sac i dk dt dn dc dp du dy vk vn vs da dan dac state s) : DCalls Try.prog 41 (List.map AV.val [.v (.agg #[.int .i64 sv, .int .i64 sl, .slice sa san sac]), .v (.int .i64 i), .v (.agg #[.int .i64 dk, .string dt, .string dn, .string dc, .string dp, .bool du, .int .i64 dy, .int .i64 vk, .int .i64 vn, .string vs, .slice da dan dac]), .v (.int .i64 state)]).toArray s R :=
  calls_vcL (c := bodyOf Try.f41) (ann := ann_rColumn) la_rColumn (by kernel_rfl) Try.func41 rfl (by kernel_rfl) [.v (.agg #[.int .i64 sv, .int .i64 sl, .slice sa san sac]), .v (.int .i64 i), .v (.agg #[.int .i64 dk, .string dt, .string dn, .string dc, .string dp, .bool du, .int .i64 dy, .int .i64 vk, .int .i64 vn, .string vs, .slice da dan dac]), .v (.int .i64 state)] [] (by rw [Try.ntmps41]; exact Nat.le_of_ble_eq_true rfl) (by kernel_rfl) (by rw [show Try.f41.ntmps = 189 from Try.ntmps41, eq_rColumn]; exact h)

/-- lintel/lintelref15.index -/
def vc_rIndex {W : Type} (π : Prims W) (sv sl : Int) (sa : Option Addr) (san sac : Nat) (i : Int) (dk : Int) (dt dn dc dp : ByteArray) (du : Bool) (dy vk vn : Int) (vs : ByteArray) (da : Option Addr) (dan dac : Nat) (state : Int) : W :=
  π.guard ((0 : Int) ≤ i ∧ i < (↑san : Int)) <|
  π.unSome (sa) fun p0 =>
  π.ld [.int .i64, .str, .slice, .slice, .slice] (p0.add (i.toNat * (5 : Nat))) fun ((x1 : Int), (t2 : ByteArray), ((a3 : Option Addr), (n4 : Nat), (c5 : Nat)), ((a6 : Option Addr), (n7 : Nat), (c8 : Nat)), ((a9 : Option Addr), (n10 : Nat), (c11 : Nat)), _) =>
  π.call (51 : Nat) #[(Go.Value.agg #[(Go.Value.int (IntKind.i64) (x1)), (Go.Value.string (t2)), (Go.Value.slice (a3) (n4) (c5)), (Go.Value.slice (a6) (n7) (c8)), (Go.Value.slice (a9) (n10) (c11))]), (Go.Value.string (dn))] (false, [(false, [.int .i64])]) fun (((x12 : Int), _), _) =>
  π.join [(true, [.int .i64, .int .i64, .slice]), (true, [.int .i64, .str, .str, .str, .str, .bool, .int .i64, .int .i64, .int .i64, .str, .slice]), (true, [.int .i64, .int .i64, .slice]), (true, [.int .i64, .str, .slice, .slice, .slice]), (false, [.int .i64]), (false, [.bool])] (fun J13 =>
    π.ite (dk == (2 : Int)) (
      J13 ((sv, sl, (sa, san, sac), ()), (dk, dt, dn, dc, dp, du, dy, vk, vn, vs, (da, dan, dac), ()), ((0 : Int), (0 : Int), (none, (0 : Nat), (0 : Nat)), ()), (x1, t2, (a3, n4, c5), (a6, n7, c8), (a9, n10, c11), ()), (x12, ()), (decide (x12 < (0 : Int)), ()), ())
    ) (
      J13 ((sv, sl, (sa, san, sac), ()), (dk, dt, dn, dc, dp, du, dy, vk, vn, vs, (da, dan, dac), ()), ((0 : Int), (0 : Int), (none, (0 : Nat), (0 : Nat)), ()), (x1, t2, (a3, n4, c5), (a6, n7, c8), (a9, n10, c11), ()), (x12, ()), (false, ()), ())
    )
  ) (fun (((x14 : Int), (x15 : Int), ((a16 : Option Addr), (n17 : Nat), (c18 : Nat)), _), ((x19 : Int), (t20 : ByteArray), (t21 : ByteArray), (t22 : ByteArray), (t23 : ByteArray), (b24 : Bool), (x25 : Int), (x26 : Int), (x27 : Int), (t28 : ByteArray), ((a29 : Option Addr), (n30 : Nat), (c31 : Nat)), _), ((x32 : Int), (x33 : Int), ((a34 : Option Addr), (n35 : Nat), (c36 : Nat)), _), ((x37 : Int), (t38 : ByteArray), ((a39 : Option Addr), (n40 : Nat), (c41 : Nat)), ((a42 : Option Addr), (n43 : Nat), (c44 : Nat)), ((a45 : Option Addr), (n46 : Nat), (c47 : Nat)), _), ((x48 : Int), _), ((b49 : Bool), _), _) =>
    π.ite (b49) (
      π.call (81 : Nat) #[(Go.Value.string (t21)), (Go.Value.int (IntKind.i64) ((↑n43 : Int)))] (false, [(false, [.int .i64])]) fun (((x50 : Int), _), _) =>
      π.ite (x50 != (0 : Int)) (
        π.ret (Go.Value.tuple #[(Go.Value.agg #[(Go.Value.int (IntKind.i64) (x14)), (Go.Value.int (IntKind.i64) (x15)), (Go.Value.slice (a16) (n17) (c18))]), (Go.Value.int (IntKind.i64) (x50))])
      ) (
        π.call (82 : Nat) #[(Go.Value.agg #[(Go.Value.int (IntKind.i64) (x37)), (Go.Value.string (t38)), (Go.Value.slice (a39) (n40) (c41)), (Go.Value.slice (a42) (n43) (c44)), (Go.Value.slice (a45) (n46) (c47))]), (Go.Value.string (t22))] (false, [(false, [.int .i64])]) fun (((x51 : Int), _), _) =>
        π.ite (decide (x51 < (0 : Int))) (
          π.ret (Go.Value.tuple #[(Go.Value.agg #[(Go.Value.int (IntKind.i64) (x14)), (Go.Value.int (IntKind.i64) (x15)), (Go.Value.slice (a16) (n17) (c18))]), (Go.Value.int (IntKind.i64) ((151 : Int)))])
        ) (
          π.ite (state == (0 : Int)) (
            π.ret (Go.Value.tuple #[(Go.Value.agg #[(Go.Value.int (IntKind.i64) (x14)), (Go.Value.int (IntKind.i64) (x15)), (Go.Value.slice (a16) (n17) (c18))]), (Go.Value.int (IntKind.i64) ((1 : Int)))])
          ) (
            π.guard ((0 : Int) ≤ i ∧ i < (↑n17 : Int)) <|
            π.unSome (a16) fun p52 =>
            π.ld [.slice] ((p52.add (i.toNat * (5 : Nat))).add (3 : Nat)) fun (((a53 : Option Addr), (n54 : Nat), (c55 : Nat)), _) =>
            π.guard ((0 : Int) ≤ x51 ∧ x51 < (↑n40 : Int)) <|
            π.unSome (a39) fun p56 =>
            π.ld [.int .i64] ((p56.add (x51.toNat * (7 : Nat))).add (0 : Nat)) fun ((x57 : Int), _) =>
            π.nw (Go.Obj.cells #[(Go.Value.int (IntKind.i64) (IntKind.i64.wrap (x15 + (1 : Int)))), (Go.Value.string (t21)), (Go.Value.int (IntKind.i64) (x57)), (Go.Value.bool (b24)), (Go.Value.int (IntKind.i64) (state))] (106 : Nat) ((0 : Nat), (0 : Nat))) fun r58 =>
            π.app (106 : Nat) (5 : Nat) (48 : Nat) [(Go.Value.int (IntKind.i64) ((0 : Int))), (Go.Value.string (ByteArray.mk #[])), (Go.Value.int (IntKind.i64) ((0 : Int))), (Go.Value.bool (false)), (Go.Value.int (IntKind.i64) ((0 : Int)))] (a53) (n54) (c55) (Src.sl (some (Addr.mk r58 (0 : Nat) none)) (1 : Nat)) fun a59 n60 c61 =>
            π.guard ((0 : Int) ≤ i ∧ i < (↑n17 : Int)) <|
            π.unSome (a16) fun p62 =>
            π.st ((p62.add (i.toNat * (5 : Nat))).add (3 : Nat)) [(Go.Value.slice (a59) (n60) (c61))] <|
            π.ret (Go.Value.tuple #[(Go.Value.agg #[(Go.Value.int (IntKind.i64) (x14)), (Go.Value.int (IntKind.i64) (IntKind.i64.wrap (x15 + (1 : Int)))), (Go.Value.slice (a16) (n17) (c18))]), (Go.Value.int (IntKind.i64) ((0 : Int)))])
          )
        )
      )
    ) (
      π.join [(true, [.int .i64, .int .i64, .slice]), (true, [.int .i64, .int .i64, .slice]), (true, [.int .i64, .str, .slice, .slice, .slice]), (false, [.int .i64])] (fun J63 =>
        π.ite (x19 == (2 : Int)) (
          π.guard ((0 : Int) ≤ x48 ∧ x48 < (↑n43 : Int)) <|
          π.unSome (a42) fun p64 =>
          π.ld [.int .i64] ((p64.add (x48.toNat * (5 : Nat))).add (4 : Nat)) fun ((x65 : Int), _) =>
          π.ite (x65 == (3 : Int)) (
            π.ret (Go.Value.tuple #[(Go.Value.agg #[(Go.Value.int (IntKind.i64) (x14)), (Go.Value.int (IntKind.i64) (x15)), (Go.Value.slice (a16) (n17) (c18))]), (Go.Value.int (IntKind.i64) ((152 : Int)))])
          ) (
            J63 ((x14, x15, (a16, n17, c18), ()), (x32, x33, (a34, n35, c36), ()), (x37, t38, (a39, n40, c41), (a42, n43, c44), (a45, n46, c47), ()), (x48, ()), ())
          )
        ) (
          J63 ((x14, x15, (a16, n17, c18), ()), (x32, x33, (a34, n35, c36), ()), (x37, t38, (a39, n40, c41), (a42, n43, c44), (a45, n46, c47), ()), (x48, ()), ())
        )
      ) (fun (((x66 : Int), (x67 : Int), ((a68 : Option Addr), (n69 : Nat), (c70 : Nat)), _), ((x71 : Int), (x72 : Int), ((a73 : Option Addr), (n74 : Nat), (c75 : Nat)), _), ((x76 : Int), (t77 : ByteArray), ((a78 : Option Addr), (n79 : Nat), (c80 : Nat)), ((a81 : Option Addr), (n82 : Nat), (c83 : Nat)), ((a84 : Option Addr), (n85 : Nat), (c86 : Nat)), _), ((x87 : Int), _), _) =>
        π.ite (decide (x87 < (0 : Int))) (
          π.ret (Go.Value.tuple #[(Go.Value.agg #[(Go.Value.int (IntKind.i64) (x66)), (Go.Value.int (IntKind.i64) (x67)), (Go.Value.slice (a68) (n69) (c70))]), (Go.Value.int (IntKind.i64) ((153 : Int)))])
        ) (
          π.loop [(true, [.int .i64, .int .i64, .slice]), (true, [.int .i64, .int .i64, .slice]), (true, [.int .i64, .str, .slice, .slice, .slice]), (false, [.int .i64]), (false, [.slice]), (false, [.int .i64])] ((x66, x67, (a68, n69, c70), ()), (x71, x72, (a73, n74, c75), ()), (x76, t77, (a78, n79, c80), (a81, n82, c83), (a84, n85, c86), ()), (x87, ()), ((none, (0 : Nat), (0 : Nat)), ()), ((0 : Int), ()), ()) fun (((x89 : Int), (x90 : Int), ((a91 : Option Addr), (n92 : Nat), (c93 : Nat)), _), ((x94 : Int), (x95 : Int), ((a96 : Option Addr), (n97 : Nat), (c98 : Nat)), _), ((x99 : Int), (t100 : ByteArray), ((a101 : Option Addr), (n102 : Nat), (c103 : Nat)), ((a104 : Option Addr), (n105 : Nat), (c106 : Nat)), ((a107 : Option Addr), (n108 : Nat), (c109 : Nat)), _), ((x110 : Int), _), (((a111 : Option Addr), (n112 : Nat), (c113 : Nat)), _), ((x114 : Int), _), _) again88 =>
            π.ite (decide (x114 < (↑n105 : Int))) (
              π.guard ((0 : Int) ≤ x114 ∧ x114 < (↑n105 : Int)) <|
              π.unSome (a104) fun p115 =>
              π.ld [.int .i64, .str, .int .i64, .bool, .int .i64] (p115.add (x114.toNat * (5 : Nat))) fun ((x116 : Int), (t117 : ByteArray), (x118 : Int), (b119 : Bool), (x120 : Int), _) =>
              π.ite (x114 == x110) (
                π.ite (state != (0 : Int)) (
                  π.nw (Go.Obj.cells #[(Go.Value.int (IntKind.i64) (x116)), (Go.Value.string (t117)), (Go.Value.int (IntKind.i64) (x118)), (Go.Value.bool (b119)), (Go.Value.int (IntKind.i64) (state))] (106 : Nat) ((0 : Nat), (0 : Nat))) fun r121 =>
                  π.app (106 : Nat) (5 : Nat) (48 : Nat) [(Go.Value.int (IntKind.i64) ((0 : Int))), (Go.Value.string (ByteArray.mk #[])), (Go.Value.int (IntKind.i64) ((0 : Int))), (Go.Value.bool (false)), (Go.Value.int (IntKind.i64) ((0 : Int)))] (a111) (n112) (c113) (Src.sl (some (Addr.mk r121 (0 : Nat) none)) (1 : Nat)) fun a122 n123 c124 =>
                  again88 ((x89, x90, (a91, n92, c93), ()), (x94, x95, (a96, n97, c98), ()), (x99, t100, (a101, n102, c103), (a104, n105, c106), (a107, n108, c109), ()), (x110, ()), ((a122, n123, c124), ()), (IntKind.i64.wrap (x114 + (1 : Int)), ()), ())
                ) (
                  again88 ((x89, x90, (a91, n92, c93), ()), (x94, x95, (a96, n97, c98), ()), (x99, t100, (a101, n102, c103), (a104, n105, c106), (a107, n108, c109), ()), (x110, ()), ((a111, n112, c113), ()), (IntKind.i64.wrap (x114 + (1 : Int)), ()), ())
                )
              ) (
                π.ite (x120 != (0 : Int)) (
                  π.nw (Go.Obj.cells #[(Go.Value.int (IntKind.i64) (x116)), (Go.Value.string (t117)), (Go.Value.int (IntKind.i64) (x118)), (Go.Value.bool (b119)), (Go.Value.int (IntKind.i64) (x120))] (106 : Nat) ((0 : Nat), (0 : Nat))) fun r125 =>
                  π.app (106 : Nat) (5 : Nat) (48 : Nat) [(Go.Value.int (IntKind.i64) ((0 : Int))), (Go.Value.string (ByteArray.mk #[])), (Go.Value.int (IntKind.i64) ((0 : Int))), (Go.Value.bool (false)), (Go.Value.int (IntKind.i64) ((0 : Int)))] (a111) (n112) (c113) (Src.sl (some (Addr.mk r125 (0 : Nat) none)) (1 : Nat)) fun a126 n127 c128 =>
                  again88 ((x89, x90, (a91, n92, c93), ()), (x94, x95, (a96, n97, c98), ()), (x99, t100, (a101, n102, c103), (a104, n105, c106), (a107, n108, c109), ()), (x110, ()), ((a126, n127, c128), ()), (IntKind.i64.wrap (x114 + (1 : Int)), ()), ())
                ) (
                  again88 ((x89, x90, (a91, n92, c93), ()), (x94, x95, (a96, n97, c98), ()), (x99, t100, (a101, n102, c103), (a104, n105, c106), (a107, n108, c109), ()), (x110, ()), ((a111, n112, c113), ()), (IntKind.i64.wrap (x114 + (1 : Int)), ()), ())
                )
              )
            ) (
              π.guard ((0 : Int) ≤ i ∧ i < (↑n92 : Int)) <|
              π.unSome (a91) fun p129 =>
              π.st ((p129.add (i.toNat * (5 : Nat))).add (3 : Nat)) [(Go.Value.slice (a111) (n112) (c113))] <|
              π.ret (Go.Value.tuple #[(Go.Value.agg #[(Go.Value.int (IntKind.i64) (x89)), (Go.Value.int (IntKind.i64) (x90)), (Go.Value.slice (a91) (n92) (c93))]), (Go.Value.int (IntKind.i64) ((0 : Int)))])
            )
        )
      )
    )
  )

def ann_rIndex : Ann := { draws := [(13, { A := [0, 1, 2, 3, 4, 5, 6, 7, 8, 9, 10, 11, 12, 13, 14, 15, 16, 17, 18, 19, 20, 21, 22], chkL := [(24, [1])], eag := [25, 26] })], join := [(4, [(4, 24), (6, 29), (8, 24), (10, 42), (11, 3), (32, 4)]), (17, [(4, 24), (8, 24), (10, 42), (11, 3)])], loop := [(21, [(4, 24), (8, 24), (10, 42), (11, 3), (14, 39), (15, 3)])] }
def la_rIndex : LA := { ptr := [(4, 4, 0), (6, 6, 0), (8, 8, 0), (10, 10, 0), (16, 16, 0), (17, 4, 2), (23, 6, 2), (26, 6, 0), (33, 6, 2), (35, 10, 3), (44, 6, 3), (53, 4, 1), (56, 4, 1), (57, 4, 2), (60, 4, 2), (66, 4, 1), (68, 6, 2), (70, 10, 2), (76, 6, 5), (85, 6, 0), (89, 10, 3), (102, 10, 3), (108, 10, 3), (117, 16, 4), (118, 16, 4), (125, 4, 2)], ty := [(4, 24), (6, 29), (8, 24), (10, 42), (16, 106)] }
set_option maxRecDepth 100000 in
theorem eq_rIndex {W : Type} (π : Prims W) (sv sl : Int) (sa : Option Addr) (san sac : Nat) (i : Int) (dk : Int) (dt dn dc dp : ByteArray) (du : Bool) (dy vk vn : Int) (vs : ByteArray) (da : Option Addr) (dan dac : Nat) (state : Int) : bodyL π Try.prog la_rIndex ann_rIndex (mkFr (maskA [] [.v (.agg #[.int .i64 sv, .int .i64 sl, .slice sa san sac]), .v (.int .i64 i), .v (.agg #[.int .i64 dk, .string dt, .string dn, .string dc, .string dp, .bool du, .int .i64 dy, .int .i64 vk, .int .i64 vn, .string vs, .slice da dan dac]), .v (.int .i64 state)] 0) 132) Try.f42 (bodyOf Try.f42) (mkFr (List.map some [.v (.agg #[.int .i64 sv, .int .i64 sl, .slice sa san sac]), .v (.int .i64 i), .v (.agg #[.int .i64 dk, .string dt, .string dn, .string dc, .string dp, .bool du, .int .i64 dy, .int .i64 vk, .int .i64 vn, .string vs, .slice da dan dac]), .v (.int .i64 state)]) 132) = vc_rIndex π sv sl sa san sac i dk dt dn dc dp du dy vk vn vs da dan dac state := by kernel_rfl
theorem ok_rIndex (sv sl : Int) (sa : Option Addr) (san sac : Nat) (i : Int) (dk : Int) (dt dn dc dp : ByteArray) (du : Bool) (dy vk vn : Int) (vs : ByteArray) (da : Option Addr) (dan dac : Nat) (state : Int) (R : Value → PH → Prop) (s : PH) (h : vc_rIndex (RP Try.prog R) sv sl sa san sac i dk dt dn dc dp du dy vk vn vs da dan dac state s) : DCalls Try.prog 42 (List.map AV.val [.v (.agg #[.int .i64 sv, .int .i64 sl, .slice sa san sac]), .v (.int .i64 i), .v (.agg #[.int .i64 dk, .string dt, .string dn, .string dc, .string dp, .bool du, .int .i64 dy, .int .i64 vk, .int .i64 vn, .string vs, .slice da dan dac]), .v (.int .i64 state)]).toArray s R :=
  calls_vcL (c := bodyOf Try.f42) (ann := ann_rIndex) la_rIndex (by kernel_rfl) Try.func42 rfl (by kernel_rfl) [.v (.agg #[.int .i64 sv, .int .i64 sl, .slice sa san sac]), .v (.int .i64 i), .v (.agg #[.int .i64 dk, .string dt, .string dn, .string dc, .string dp, .bool du, .int .i64 dy, .int .i64 vk, .int .i64 vn, .string vs, .slice da dan dac]), .v (.int .i64 state)] [] (by rw [Try.ntmps42]; exact Nat.le_of_ble_eq_true rfl) (by kernel_rfl) (by rw [show Try.f42.ntmps = 132 from Try.ntmps42, eq_rIndex]; exact h)

/-- lintel/lintelref15.foreign -/
def vc_rForeign {W : Type} (π : Prims W) (sv sl : Int) (sa : Option Addr) (san sac : Nat) (i : Int) (dk : Int) (dt dn dc dp : ByteArray) (du : Bool) (dy vk vn : Int) (vs : ByteArray) (da : Option Addr) (dan dac : Nat) (state : Int) : W :=
  π.guard ((0 : Int) ≤ i ∧ i < (↑san : Int)) <|
  π.unSome (sa) fun p0 =>
  π.ld [.int .i64, .str, .slice, .slice, .slice] (p0.add (i.toNat * (5 : Nat))) fun ((x1 : Int), (t2 : ByteArray), ((a3 : Option Addr), (n4 : Nat), (c5 : Nat)), ((a6 : Option Addr), (n7 : Nat), (c8 : Nat)), ((a9 : Option Addr), (n10 : Nat), (c11 : Nat)), _) =>
  π.call (54 : Nat) #[(Go.Value.agg #[(Go.Value.int (IntKind.i64) (x1)), (Go.Value.string (t2)), (Go.Value.slice (a3) (n4) (c5)), (Go.Value.slice (a6) (n7) (c8)), (Go.Value.slice (a9) (n10) (c11))]), (Go.Value.string (dn))] (false, [(false, [.int .i64])]) fun (((x12 : Int), _), _) =>
  π.join [(true, [.int .i64, .int .i64, .slice]), (true, [.int .i64, .str, .str, .str, .str, .bool, .int .i64, .int .i64, .int .i64, .str, .slice]), (true, [.int .i64, .int .i64, .slice]), (true, [.int .i64, .str, .slice, .slice, .slice]), (false, [.int .i64]), (false, [.bool])] (fun J13 =>
    π.ite (dk == (6 : Int)) (
      J13 ((sv, sl, (sa, san, sac), ()), (dk, dt, dn, dc, dp, du, dy, vk, vn, vs, (da, dan, dac), ()), ((0 : Int), (0 : Int), (none, (0 : Nat), (0 : Nat)), ()), (x1, t2, (a3, n4, c5), (a6, n7, c8), (a9, n10, c11), ()), (x12, ()), (decide (x12 < (0 : Int)), ()), ())
    ) (
      J13 ((sv, sl, (sa, san, sac), ()), (dk, dt, dn, dc, dp, du, dy, vk, vn, vs, (da, dan, dac), ()), ((0 : Int), (0 : Int), (none, (0 : Nat), (0 : Nat)), ()), (x1, t2, (a3, n4, c5), (a6, n7, c8), (a9, n10, c11), ()), (x12, ()), (false, ()), ())
    )
  ) (fun (((x14 : Int), (x15 : Int), ((a16 : Option Addr), (n17 : Nat), (c18 : Nat)), _), ((x19 : Int), (t20 : ByteArray), (t21 : ByteArray), (t22 : ByteArray), (t23 : ByteArray), (b24 : Bool), (x25 : Int), (x26 : Int), (x27 : Int), (t28 : ByteArray), ((a29 : Option Addr), (n30 : Nat), (c31 : Nat)), _), ((x32 : Int), (x33 : Int), ((a34 : Option Addr), (n35 : Nat), (c36 : Nat)), _), ((x37 : Int), (t38 : ByteArray), ((a39 : Option Addr), (n40 : Nat), (c41 : Nat)), ((a42 : Option Addr), (n43 : Nat), (c44 : Nat)), ((a45 : Option Addr), (n46 : Nat), (c47 : Nat)), _), ((x48 : Int), _), ((b49 : Bool), _), _) =>
    π.ite (b49) (
      π.call (81 : Nat) #[(Go.Value.string (t21)), (Go.Value.int (IntKind.i64) ((↑n46 : Int)))] (false, [(false, [.int .i64])]) fun (((x50 : Int), _), _) =>
      π.ite (x50 != (0 : Int)) (
        π.ret (Go.Value.tuple #[(Go.Value.agg #[(Go.Value.int (IntKind.i64) (x14)), (Go.Value.int (IntKind.i64) (x15)), (Go.Value.slice (a16) (n17) (c18))]), (Go.Value.int (IntKind.i64) (x50))])
      ) (
        π.call (82 : Nat) #[(Go.Value.agg #[(Go.Value.int (IntKind.i64) (x37)), (Go.Value.string (t38)), (Go.Value.slice (a39) (n40) (c41)), (Go.Value.slice (a42) (n43) (c44)), (Go.Value.slice (a45) (n46) (c47))]), (Go.Value.string (t22))] (false, [(false, [.int .i64])]) fun (((x51 : Int), _), _) =>
        π.ite (decide (x51 < (0 : Int))) (
          π.ret (Go.Value.tuple #[(Go.Value.agg #[(Go.Value.int (IntKind.i64) (x14)), (Go.Value.int (IntKind.i64) (x15)), (Go.Value.slice (a16) (n17) (c18))]), (Go.Value.int (IntKind.i64) ((151 : Int)))])
        ) (
          π.call (18 : Nat) #[(Go.Value.agg #[(Go.Value.int (IntKind.i64) (x14)), (Go.Value.int (IntKind.i64) (x15)), (Go.Value.slice (a16) (n17) (c18))]), (Go.Value.string (t23))] (false, [(false, [.int .i64])]) fun (((x52 : Int), _), _) =>
          π.ite (decide (x52 < (0 : Int))) (
            π.ret (Go.Value.tuple #[(Go.Value.agg #[(Go.Value.int (IntKind.i64) (x14)), (Go.Value.int (IntKind.i64) (x15)), (Go.Value.slice (a16) (n17) (c18))]), (Go.Value.int (IntKind.i64) ((150 : Int)))])
          ) (
            π.guard ((0 : Int) ≤ x52 ∧ x52 < (↑n17 : Int)) <|
            π.unSome (a16) fun p53 =>
            π.ld [.slice] ((p53.add (x52.toNat * (5 : Nat))).add (2 : Nat)) fun (((a54 : Option Addr), (n55 : Nat), (c56 : Nat)), _) =>
            π.guard ((0 : Int) ≤ (0 : Int) ∧ (0 : Int) < (↑n55 : Int)) <|
            π.unSome (a54) fun p57 =>
            π.ld [.int .i64] ((p57.add (0 : Nat)).add (2 : Nat)) fun ((x58 : Int), _) =>
            π.guard ((0 : Int) ≤ x51 ∧ x51 < (↑n40 : Int)) <|
            π.unSome (a39) fun p59 =>
            π.ld [.int .i64] ((p59.add (x51.toNat * (7 : Nat))).add (2 : Nat)) fun ((x60 : Int), _) =>
            π.ite (x58 != x60) (
              π.ret (Go.Value.tuple #[(Go.Value.agg #[(Go.Value.int (IntKind.i64) (x14)), (Go.Value.int (IntKind.i64) (x15)), (Go.Value.slice (a16) (n17) (c18))]), (Go.Value.int (IntKind.i64) ((154 : Int)))])
            ) (
              π.ite (state == (0 : Int)) (
                π.ret (Go.Value.tuple #[(Go.Value.agg #[(Go.Value.int (IntKind.i64) (x14)), (Go.Value.int (IntKind.i64) (x15)), (Go.Value.slice (a16) (n17) (c18))]), (Go.Value.int (IntKind.i64) ((1 : Int)))])
              ) (
                π.guard ((0 : Int) ≤ i ∧ i < (↑n17 : Int)) <|
                π.unSome (a16) fun p61 =>
                π.ld [.slice] ((p61.add (i.toNat * (5 : Nat))).add (4 : Nat)) fun (((a62 : Option Addr), (n63 : Nat), (c64 : Nat)), _) =>
                π.guard ((0 : Int) ≤ x51 ∧ x51 < (↑n40 : Int)) <|
                π.unSome (a39) fun p65 =>
                π.ld [.int .i64] ((p65.add (x51.toNat * (7 : Nat))).add (0 : Nat)) fun ((x66 : Int), _) =>
                π.guard ((0 : Int) ≤ x52 ∧ x52 < (↑n17 : Int)) <|
                π.unSome (a16) fun p67 =>
                π.ld [.int .i64] ((p67.add (x52.toNat * (5 : Nat))).add (0 : Nat)) fun ((x68 : Int), _) =>
                π.nw (Go.Obj.cells #[(Go.Value.int (IntKind.i64) (IntKind.i64.wrap (x15 + (1 : Int)))), (Go.Value.string (t21)), (Go.Value.int (IntKind.i64) (x66)), (Go.Value.int (IntKind.i64) (x68)), (Go.Value.int (IntKind.i64) (state))] (109 : Nat) ((0 : Nat), (0 : Nat))) fun r69 =>
                π.app (109 : Nat) (5 : Nat) (48 : Nat) [(Go.Value.int (IntKind.i64) ((0 : Int))), (Go.Value.string (ByteArray.mk #[])), (Go.Value.int (IntKind.i64) ((0 : Int))), (Go.Value.int (IntKind.i64) ((0 : Int))), (Go.Value.int (IntKind.i64) ((0 : Int)))] (a62) (n63) (c64) (Src.sl (some (Addr.mk r69 (0 : Nat) none)) (1 : Nat)) fun a70 n71 c72 =>
                π.guard ((0 : Int) ≤ i ∧ i < (↑n17 : Int)) <|
                π.unSome (a16) fun p73 =>
                π.st ((p73.add (i.toNat * (5 : Nat))).add (4 : Nat)) [(Go.Value.slice (a70) (n71) (c72))] <|
                π.ret (Go.Value.tuple #[(Go.Value.agg #[(Go.Value.int (IntKind.i64) (x14)), (Go.Value.int (IntKind.i64) (IntKind.i64.wrap (x15 + (1 : Int)))), (Go.Value.slice (a16) (n17) (c18))]), (Go.Value.int (IntKind.i64) ((0 : Int)))])
              )
            )
          )
        )
      )
    ) (
      π.join [(true, [.int .i64, .int .i64, .slice]), (true, [.int .i64, .int .i64, .slice]), (true, [.int .i64, .str, .slice, .slice, .slice]), (false, [.int .i64])] (fun J74 =>
        π.ite (x19 == (6 : Int)) (
          π.guard ((0 : Int) ≤ x48 ∧ x48 < (↑n46 : Int)) <|
          π.unSome (a45) fun p75 =>
          π.ld [.int .i64] ((p75.add (x48.toNat * (5 : Nat))).add (4 : Nat)) fun ((x76 : Int), _) =>
          π.ite (x76 == (3 : Int)) (
            π.ret (Go.Value.tuple #[(Go.Value.agg #[(Go.Value.int (IntKind.i64) (x14)), (Go.Value.int (IntKind.i64) (x15)), (Go.Value.slice (a16) (n17) (c18))]), (Go.Value.int (IntKind.i64) ((152 : Int)))])
          ) (
            J74 ((x14, x15, (a16, n17, c18), ()), (x32, x33, (a34, n35, c36), ()), (x37, t38, (a39, n40, c41), (a42, n43, c44), (a45, n46, c47), ()), (x48, ()), ())
          )
        ) (
          J74 ((x14, x15, (a16, n17, c18), ()), (x32, x33, (a34, n35, c36), ()), (x37, t38, (a39, n40, c41), (a42, n43, c44), (a45, n46, c47), ()), (x48, ()), ())
        )
      ) (fun (((x77 : Int), (x78 : Int), ((a79 : Option Addr), (n80 : Nat), (c81 : Nat)), _), ((x82 : Int), (x83 : Int), ((a84 : Option Addr), (n85 : Nat), (c86 : Nat)), _), ((x87 : Int), (t88 : ByteArray), ((a89 : Option Addr), (n90 : Nat), (c91 : Nat)), ((a92 : Option Addr), (n93 : Nat), (c94 : Nat)), ((a95 : Option Addr), (n96 : Nat), (c97 : Nat)), _), ((x98 : Int), _), _) =>
        π.ite (decide (x98 < (0 : Int))) (
          π.ret (Go.Value.tuple #[(Go.Value.agg #[(Go.Value.int (IntKind.i64) (x77)), (Go.Value.int (IntKind.i64) (x78)), (Go.Value.slice (a79) (n80) (c81))]), (Go.Value.int (IntKind.i64) ((153 : Int)))])
        ) (
          π.loop [(true, [.int .i64, .int .i64, .slice]), (true, [.int .i64, .int .i64, .slice]), (true, [.int .i64, .str, .slice, .slice, .slice]), (false, [.int .i64]), (false, [.slice]), (false, [.int .i64])] ((x77, x78, (a79, n80, c81), ()), (x82, x83, (a84, n85, c86), ()), (x87, t88, (a89, n90, c91), (a92, n93, c94), (a95, n96, c97), ()), (x98, ()), ((none, (0 : Nat), (0 : Nat)), ()), ((0 : Int), ()), ()) fun (((x100 : Int), (x101 : Int), ((a102 : Option Addr), (n103 : Nat), (c104 : Nat)), _), ((x105 : Int), (x106 : Int), ((a107 : Option Addr), (n108 : Nat), (c109 : Nat)), _), ((x110 : Int), (t111 : ByteArray), ((a112 : Option Addr), (n113 : Nat), (c114 : Nat)), ((a115 : Option Addr), (n116 : Nat), (c117 : Nat)), ((a118 : Option Addr), (n119 : Nat), (c120 : Nat)), _), ((x121 : Int), _), (((a122 : Option Addr), (n123 : Nat), (c124 : Nat)), _), ((x125 : Int), _), _) again99 =>
            π.ite (decide (x125 < (↑n119 : Int))) (
              π.guard ((0 : Int) ≤ x125 ∧ x125 < (↑n119 : Int)) <|
              π.unSome (a118) fun p126 =>
              π.ld [.int .i64, .str, .int .i64, .int .i64, .int .i64] (p126.add (x125.toNat * (5 : Nat))) fun ((x127 : Int), (t128 : ByteArray), (x129 : Int), (x130 : Int), (x131 : Int), _) =>
              π.ite (x125 == x121) (
                π.ite (state != (0 : Int)) (
                  π.nw (Go.Obj.cells #[(Go.Value.int (IntKind.i64) (x127)), (Go.Value.string (t128)), (Go.Value.int (IntKind.i64) (x129)), (Go.Value.int (IntKind.i64) (x130)), (Go.Value.int (IntKind.i64) (state))] (109 : Nat) ((0 : Nat), (0 : Nat))) fun r132 =>
                  π.app (109 : Nat) (5 : Nat) (48 : Nat) [(Go.Value.int (IntKind.i64) ((0 : Int))), (Go.Value.string (ByteArray.mk #[])), (Go.Value.int (IntKind.i64) ((0 : Int))), (Go.Value.int (IntKind.i64) ((0 : Int))), (Go.Value.int (IntKind.i64) ((0 : Int)))] (a122) (n123) (c124) (Src.sl (some (Addr.mk r132 (0 : Nat) none)) (1 : Nat)) fun a133 n134 c135 =>
                  again99 ((x100, x101, (a102, n103, c104), ()), (x105, x106, (a107, n108, c109), ()), (x110, t111, (a112, n113, c114), (a115, n116, c117), (a118, n119, c120), ()), (x121, ()), ((a133, n134, c135), ()), (IntKind.i64.wrap (x125 + (1 : Int)), ()), ())
                ) (
                  again99 ((x100, x101, (a102, n103, c104), ()), (x105, x106, (a107, n108, c109), ()), (x110, t111, (a112, n113, c114), (a115, n116, c117), (a118, n119, c120), ()), (x121, ()), ((a122, n123, c124), ()), (IntKind.i64.wrap (x125 + (1 : Int)), ()), ())
                )
              ) (
                π.ite (x131 != (0 : Int)) (
                  π.nw (Go.Obj.cells #[(Go.Value.int (IntKind.i64) (x127)), (Go.Value.string (t128)), (Go.Value.int (IntKind.i64) (x129)), (Go.Value.int (IntKind.i64) (x130)), (Go.Value.int (IntKind.i64) (x131))] (109 : Nat) ((0 : Nat), (0 : Nat))) fun r136 =>
                  π.app (109 : Nat) (5 : Nat) (48 : Nat) [(Go.Value.int (IntKind.i64) ((0 : Int))), (Go.Value.string (ByteArray.mk #[])), (Go.Value.int (IntKind.i64) ((0 : Int))), (Go.Value.int (IntKind.i64) ((0 : Int))), (Go.Value.int (IntKind.i64) ((0 : Int)))] (a122) (n123) (c124) (Src.sl (some (Addr.mk r136 (0 : Nat) none)) (1 : Nat)) fun a137 n138 c139 =>
                  again99 ((x100, x101, (a102, n103, c104), ()), (x105, x106, (a107, n108, c109), ()), (x110, t111, (a112, n113, c114), (a115, n116, c117), (a118, n119, c120), ()), (x121, ()), ((a137, n138, c139), ()), (IntKind.i64.wrap (x125 + (1 : Int)), ()), ())
                ) (
                  again99 ((x100, x101, (a102, n103, c104), ()), (x105, x106, (a107, n108, c109), ()), (x110, t111, (a112, n113, c114), (a115, n116, c117), (a118, n119, c120), ()), (x121, ()), ((a122, n123, c124), ()), (IntKind.i64.wrap (x125 + (1 : Int)), ()), ())
                )
              )
            ) (
              π.guard ((0 : Int) ≤ i ∧ i < (↑n103 : Int)) <|
              π.unSome (a102) fun p140 =>
              π.st ((p140.add (i.toNat * (5 : Nat))).add (4 : Nat)) [(Go.Value.slice (a122) (n123) (c124))] <|
              π.ret (Go.Value.tuple #[(Go.Value.agg #[(Go.Value.int (IntKind.i64) (x100)), (Go.Value.int (IntKind.i64) (x101)), (Go.Value.slice (a102) (n103) (c104))]), (Go.Value.int (IntKind.i64) ((0 : Int)))])
            )
        )
      )
    )
  )

def ann_rForeign : Ann := { draws := [(13, { A := [0, 1, 2, 3, 4, 5, 6, 7, 8, 9, 10, 11, 12, 13, 14, 15] }), (18, { A := [0, 1, 2, 3, 4, 5, 6, 7, 8, 9, 10, 11, 12, 13, 14, 15, 16, 17, 18, 19, 20, 21, 22, 23, 24, 25, 26], chkL := [(28, [1])], eag := [29, 30] })], join := [(4, [(4, 24), (6, 29), (8, 24), (10, 42), (11, 3), (33, 4)]), (22, [(4, 24), (8, 24), (10, 42), (11, 3)])], loop := [(26, [(4, 24), (8, 24), (10, 42), (11, 3), (15, 40), (16, 3)])] }
def la_rForeign : LA := { ptr := [(4, 4, 0), (6, 6, 0), (8, 8, 0), (10, 10, 0), (17, 17, 0), (18, 4, 2), (24, 6, 2), (27, 6, 0), (34, 6, 2), (36, 10, 4), (45, 6, 3), (52, 6, 4), (58, 4, 2), (67, 10, 2), (78, 4, 1), (81, 4, 1), (82, 4, 2), (85, 4, 2), (91, 4, 1), (93, 6, 2), (95, 10, 2), (101, 4, 2), (114, 6, 0), (118, 10, 4), (131, 10, 4), (137, 10, 4), (146, 17, 4), (147, 17, 4), (154, 4, 2)], ty := [(4, 24), (6, 29), (8, 24), (10, 42), (17, 109)] }
set_option maxRecDepth 100000 in
theorem eq_rForeign {W : Type} (π : Prims W) (sv sl : Int) (sa : Option Addr) (san sac : Nat) (i : Int) (dk : Int) (dt dn dc dp : ByteArray) (du : Bool) (dy vk vn : Int) (vs : ByteArray) (da : Option Addr) (dan dac : Nat) (state : Int) : bodyL π Try.prog la_rForeign ann_rForeign (mkFr (maskA [] [.v (.agg #[.int .i64 sv, .int .i64 sl, .slice sa san sac]), .v (.int .i64 i), .v (.agg #[.int .i64 dk, .string dt, .string dn, .string dc, .string dp, .bool du, .int .i64 dy, .int .i64 vk, .int .i64 vn, .string vs, .slice da dan dac]), .v (.int .i64 state)] 0) 161) Try.f43 (bodyOf Try.f43) (mkFr (List.map some [.v (.agg #[.int .i64 sv, .int .i64 sl, .slice sa san sac]), .v (.int .i64 i), .v (.agg #[.int .i64 dk, .string dt, .string dn, .string dc, .string dp, .bool du, .int .i64 dy, .int .i64 vk, .int .i64 vn, .string vs, .slice da dan dac]), .v (.int .i64 state)]) 161) = vc_rForeign π sv sl sa san sac i dk dt dn dc dp du dy vk vn vs da dan dac state := by kernel_rfl
theorem ok_rForeign (sv sl : Int) (sa : Option Addr) (san sac : Nat) (i : Int) (dk : Int) (dt dn dc dp : ByteArray) (du : Bool) (dy vk vn : Int) (vs : ByteArray) (da : Option Addr) (dan dac : Nat) (state : Int) (R : Value → PH → Prop) (s : PH) (h : vc_rForeign (RP Try.prog R) sv sl sa san sac i dk dt dn dc dp du dy vk vn vs da dan dac state s) : DCalls Try.prog 43 (List.map AV.val [.v (.agg #[.int .i64 sv, .int .i64 sl, .slice sa san sac]), .v (.int .i64 i), .v (.agg #[.int .i64 dk, .string dt, .string dn, .string dc, .string dp, .bool du, .int .i64 dy, .int .i64 vk, .int .i64 vn, .string vs, .slice da dan dac]), .v (.int .i64 state)]).toArray s R :=
  calls_vcL (c := bodyOf Try.f43) (ann := ann_rForeign) la_rForeign (by kernel_rfl) Try.func43 rfl (by kernel_rfl) [.v (.agg #[.int .i64 sv, .int .i64 sl, .slice sa san sac]), .v (.int .i64 i), .v (.agg #[.int .i64 dk, .string dt, .string dn, .string dc, .string dp, .bool du, .int .i64 dy, .int .i64 vk, .int .i64 vn, .string vs, .slice da dan dac]), .v (.int .i64 state)] [] (by rw [Try.ntmps43]; exact Nat.le_of_ble_eq_true rfl) (by kernel_rfl) (by rw [show Try.f43.ntmps = 161 from Try.ntmps43, eq_rForeign]; exact h)

/-- lintel/lintelref15.Turn -/
def vc_rTurn {W : Type} (π : Prims W) (sv sl : Int) (sa : Option Addr) (san sac : Nat) (dk : Int) (dt dn dc dp : ByteArray) (du : Bool) (dy vk vn : Int) (vs : ByteArray) (da : Option Addr) (dan dac : Nat) (state : Int) : W :=
  π.join [(true, [.int .i64, .int .i64, .slice]), (true, [.int .i64, .str, .str, .str, .str, .bool, .int .i64, .int .i64, .int .i64, .str, .slice]), (true, [.int .i64, .int .i64, .slice])] (fun J0 =>
    π.call (19 : Nat) #[(Go.Value.agg #[(Go.Value.int (IntKind.i64) (sv)), (Go.Value.int (IntKind.i64) (sl)), (Go.Value.slice (sa) (san) (sac))])] (false, [(false, [.bool])]) fun (((b1 : Bool), _), _) =>
    π.ite (!b1) (
      π.ret (Go.Value.tuple #[(Go.Value.agg #[(Go.Value.int (IntKind.i64) ((0 : Int))), (Go.Value.int (IntKind.i64) ((0 : Int))), (Go.Value.slice (none) ((0 : Nat)) ((0 : Nat)))]), (Go.Value.int (IntKind.i64) ((100 : Int)))])
    ) (
      π.ite (decide (state < (0 : Int))) (
        π.ret (Go.Value.tuple #[(Go.Value.agg #[(Go.Value.int (IntKind.i64) ((0 : Int))), (Go.Value.int (IntKind.i64) ((0 : Int))), (Go.Value.slice (none) ((0 : Nat)) ((0 : Nat)))]), (Go.Value.int (IntKind.i64) ((100 : Int)))])
      ) (
        π.ite (decide (state > (3 : Int))) (
          π.ret (Go.Value.tuple #[(Go.Value.agg #[(Go.Value.int (IntKind.i64) ((0 : Int))), (Go.Value.int (IntKind.i64) ((0 : Int))), (Go.Value.slice (none) ((0 : Nat)) ((0 : Nat)))]), (Go.Value.int (IntKind.i64) ((100 : Int)))])
        ) (
          J0 ((sv, sl, (sa, san, sac), ()), (dk, dt, dn, dc, dp, du, dy, vk, vn, vs, (da, dan, dac), ()), ((0 : Int), (0 : Int), (none, (0 : Nat), (0 : Nat)), ()), ())
        )
      )
    )
  ) (fun (((x2 : Int), (x3 : Int), ((a4 : Option Addr), (n5 : Nat), (c6 : Nat)), _), ((x7 : Int), (t8 : ByteArray), (t9 : ByteArray), (t10 : ByteArray), (t11 : ByteArray), (b12 : Bool), (x13 : Int), (x14 : Int), (x15 : Int), (t16 : ByteArray), ((a17 : Option Addr), (n18 : Nat), (c19 : Nat)), _), ((x20 : Int), (x21 : Int), ((a22 : Option Addr), (n23 : Nat), (c24 : Nat)), _), _) =>
    π.join [(true, [.int .i64, .int .i64, .slice]), (true, [.int .i64, .str, .str, .str, .str, .bool, .int .i64, .int .i64, .int .i64, .str, .slice]), (true, [.int .i64, .int .i64, .slice])] (fun J25 =>
      π.ite (decide (x7 < (1 : Int))) (
        π.ret (Go.Value.tuple #[(Go.Value.agg #[(Go.Value.int (IntKind.i64) ((0 : Int))), (Go.Value.int (IntKind.i64) ((0 : Int))), (Go.Value.slice (none) ((0 : Nat)) ((0 : Nat)))]), (Go.Value.int (IntKind.i64) ((1 : Int)))])
      ) (
        π.ite (decide (x7 > (7 : Int))) (
          π.ret (Go.Value.tuple #[(Go.Value.agg #[(Go.Value.int (IntKind.i64) ((0 : Int))), (Go.Value.int (IntKind.i64) ((0 : Int))), (Go.Value.slice (none) ((0 : Nat)) ((0 : Nat)))]), (Go.Value.int (IntKind.i64) ((1 : Int)))])
        ) (
          J25 ((x2, x3, (a4, n5, c6), ()), (x7, t8, t9, t10, t11, b12, x13, x14, x15, t16, (a17, n18, c19), ()), (x20, x21, (a22, n23, c24), ()), ())
        )
      )
    ) (fun (((x26 : Int), (x27 : Int), ((a28 : Option Addr), (n29 : Nat), (c30 : Nat)), _), ((x31 : Int), (t32 : ByteArray), (t33 : ByteArray), (t34 : ByteArray), (t35 : ByteArray), (b36 : Bool), (x37 : Int), (x38 : Int), (x39 : Int), (t40 : ByteArray), ((a41 : Option Addr), (n42 : Nat), (c43 : Nat)), _), ((x44 : Int), (x45 : Int), ((a46 : Option Addr), (n47 : Nat), (c48 : Nat)), _), _) =>
      π.call (13 : Nat) #[(Go.Value.agg #[(Go.Value.int (IntKind.i64) (x26)), (Go.Value.int (IntKind.i64) (x27)), (Go.Value.slice (a28) (n29) (c30))])] (false, [(true, [.int .i64, .int .i64, .slice])]) fun (((x49 : Int), (x50 : Int), ((a51 : Option Addr), (n52 : Nat), (c53 : Nat)), _), _) =>
      π.call (18 : Nat) #[(Go.Value.agg #[(Go.Value.int (IntKind.i64) (IntKind.i64.wrap (x49 + (1 : Int)))), (Go.Value.int (IntKind.i64) (x50)), (Go.Value.slice (a51) (n52) (c53))]), (Go.Value.string (t32))] (false, [(false, [.int .i64])]) fun (((x54 : Int), _), _) =>
      π.ite (x31 == (1 : Int)) (
        π.call (40 : Nat) #[(Go.Value.agg #[(Go.Value.int (IntKind.i64) (IntKind.i64.wrap (x49 + (1 : Int)))), (Go.Value.int (IntKind.i64) (x50)), (Go.Value.slice (a51) (n52) (c53))]), (Go.Value.agg #[(Go.Value.int (IntKind.i64) (x31)), (Go.Value.string (t32)), (Go.Value.string (t33)), (Go.Value.string (t34)), (Go.Value.string (t35)), (Go.Value.bool (b36)), (Go.Value.int (IntKind.i64) (x37)), (Go.Value.int (IntKind.i64) (x38)), (Go.Value.int (IntKind.i64) (x39)), (Go.Value.string (t40)), (Go.Value.slice (a41) (n42) (c43))]), (Go.Value.int (IntKind.i64) (state))] (true, [(true, [.int .i64, .int .i64, .slice]), (false, [.int .i64])]) fun (((x55 : Int), (x56 : Int), ((a57 : Option Addr), (n58 : Nat), (c59 : Nat)), _), ((x60 : Int), _), _) =>
        π.ite (x60 != (0 : Int)) (
          π.ret (Go.Value.tuple #[(Go.Value.agg #[(Go.Value.int (IntKind.i64) ((0 : Int))), (Go.Value.int (IntKind.i64) ((0 : Int))), (Go.Value.slice (none) ((0 : Nat)) ((0 : Nat)))]), (Go.Value.int (IntKind.i64) (x60))])
        ) (
          π.ret (Go.Value.tuple #[(Go.Value.agg #[(Go.Value.int (IntKind.i64) (x55)), (Go.Value.int (IntKind.i64) (x56)), (Go.Value.slice (a57) (n58) (c59))]), (Go.Value.int (IntKind.i64) ((0 : Int)))])
        )
      ) (
        π.ite (decide (x54 < (0 : Int))) (
          π.ite (true) (
            π.ret (Go.Value.tuple #[(Go.Value.agg #[(Go.Value.int (IntKind.i64) ((0 : Int))), (Go.Value.int (IntKind.i64) ((0 : Int))), (Go.Value.slice (none) ((0 : Nat)) ((0 : Nat)))]), (Go.Value.int (IntKind.i64) ((150 : Int)))])
          ) (
            π.ret (Go.Value.tuple #[(Go.Value.agg #[(Go.Value.int (IntKind.i64) (IntKind.i64.wrap (x49 + (1 : Int)))), (Go.Value.int (IntKind.i64) (x50)), (Go.Value.slice (a51) (n52) (c53))]), (Go.Value.int (IntKind.i64) ((0 : Int)))])
          )
        ) (
          π.join [(true, [.int .i64, .str, .str, .str, .str, .bool, .int .i64, .int .i64, .int .i64, .str, .slice]), (true, [.int .i64, .int .i64, .slice]), (true, [.int .i64, .int .i64, .slice]), (false, [.int .i64]), (false, [.bool])] (fun J61 =>
            π.ite (x31 == (4 : Int)) (
              J61 ((x31, t32, t33, t34, t35, b36, x37, x38, x39, t40, (a41, n42, c43), ()), (x44, x45, (a46, n47, c48), ()), (IntKind.i64.wrap (x49 + (1 : Int)), x50, (a51, n52, c53), ()), (x54, ()), (true, ()), ())
            ) (
              J61 ((x31, t32, t33, t34, t35, b36, x37, x38, x39, t40, (a41, n42, c43), ()), (x44, x45, (a46, n47, c48), ()), (IntKind.i64.wrap (x49 + (1 : Int)), x50, (a51, n52, c53), ()), (x54, ()), (x31 == (5 : Int), ()), ())
            )
          ) (fun (((x62 : Int), (t63 : ByteArray), (t64 : ByteArray), (t65 : ByteArray), (t66 : ByteArray), (b67 : Bool), (x68 : Int), (x69 : Int), (x70 : Int), (t71 : ByteArray), ((a72 : Option Addr), (n73 : Nat), (c74 : Nat)), _), ((x75 : Int), (x76 : Int), ((a77 : Option Addr), (n78 : Nat), (c79 : Nat)), _), ((x80 : Int), (x81 : Int), ((a82 : Option Addr), (n83 : Nat), (c84 : Nat)), _), ((x85 : Int), _), ((b86 : Bool), _), _) =>
            π.ite (b86) (
              π.call (41 : Nat) #[(Go.Value.agg #[(Go.Value.int (IntKind.i64) (x80)), (Go.Value.int (IntKind.i64) (x81)), (Go.Value.slice (a82) (n83) (c84))]), (Go.Value.int (IntKind.i64) (x85)), (Go.Value.agg #[(Go.Value.int (IntKind.i64) (x62)), (Go.Value.string (t63)), (Go.Value.string (t64)), (Go.Value.string (t65)), (Go.Value.string (t66)), (Go.Value.bool (b67)), (Go.Value.int (IntKind.i64) (x68)), (Go.Value.int (IntKind.i64) (x69)), (Go.Value.int (IntKind.i64) (x70)), (Go.Value.string (t71)), (Go.Value.slice (a72) (n73) (c74))]), (Go.Value.int (IntKind.i64) (state))] (true, [(true, [.int .i64, .int .i64, .slice]), (false, [.int .i64])]) fun (((x87 : Int), (x88 : Int), ((a89 : Option Addr), (n90 : Nat), (c91 : Nat)), _), ((x92 : Int), _), _) =>
              π.ite (x92 != (0 : Int)) (
                π.ret (Go.Value.tuple #[(Go.Value.agg #[(Go.Value.int (IntKind.i64) ((0 : Int))), (Go.Value.int (IntKind.i64) ((0 : Int))), (Go.Value.slice (none) ((0 : Nat)) ((0 : Nat)))]), (Go.Value.int (IntKind.i64) (x92))])
              ) (
                π.ret (Go.Value.tuple #[(Go.Value.agg #[(Go.Value.int (IntKind.i64) (x87)), (Go.Value.int (IntKind.i64) (x88)), (Go.Value.slice (a89) (n90) (c91))]), (Go.Value.int (IntKind.i64) ((0 : Int)))])
              )
            ) (
              π.join [(true, [.int .i64, .str, .str, .str, .str, .bool, .int .i64, .int .i64, .int .i64, .str, .slice]), (true, [.int .i64, .int .i64, .slice]), (true, [.int .i64, .int .i64, .slice]), (false, [.int .i64]), (false, [.bool])] (fun J93 =>
                π.ite (x62 == (2 : Int)) (
                  J93 ((x62, t63, t64, t65, t66, b67, x68, x69, x70, t71, (a72, n73, c74), ()), (x75, x76, (a77, n78, c79), ()), (x80, x81, (a82, n83, c84), ()), (x85, ()), (true, ()), ())
                ) (
                  J93 ((x62, t63, t64, t65, t66, b67, x68, x69, x70, t71, (a72, n73, c74), ()), (x75, x76, (a77, n78, c79), ()), (x80, x81, (a82, n83, c84), ()), (x85, ()), (x62 == (3 : Int), ()), ())
                )
              ) (fun (((x94 : Int), (t95 : ByteArray), (t96 : ByteArray), (t97 : ByteArray), (t98 : ByteArray), (b99 : Bool), (x100 : Int), (x101 : Int), (x102 : Int), (t103 : ByteArray), ((a104 : Option Addr), (n105 : Nat), (c106 : Nat)), _), ((x107 : Int), (x108 : Int), ((a109 : Option Addr), (n110 : Nat), (c111 : Nat)), _), ((x112 : Int), (x113 : Int), ((a114 : Option Addr), (n115 : Nat), (c116 : Nat)), _), ((x117 : Int), _), ((b118 : Bool), _), _) =>
                π.ite (b118) (
                  π.call (42 : Nat) #[(Go.Value.agg #[(Go.Value.int (IntKind.i64) (x112)), (Go.Value.int (IntKind.i64) (x113)), (Go.Value.slice (a114) (n115) (c116))]), (Go.Value.int (IntKind.i64) (x117)), (Go.Value.agg #[(Go.Value.int (IntKind.i64) (x94)), (Go.Value.string (t95)), (Go.Value.string (t96)), (Go.Value.string (t97)), (Go.Value.string (t98)), (Go.Value.bool (b99)), (Go.Value.int (IntKind.i64) (x100)), (Go.Value.int (IntKind.i64) (x101)), (Go.Value.int (IntKind.i64) (x102)), (Go.Value.string (t103)), (Go.Value.slice (a104) (n105) (c106))]), (Go.Value.int (IntKind.i64) (state))] (true, [(true, [.int .i64, .int .i64, .slice]), (false, [.int .i64])]) fun (((x119 : Int), (x120 : Int), ((a121 : Option Addr), (n122 : Nat), (c123 : Nat)), _), ((x124 : Int), _), _) =>
                  π.ite (x124 != (0 : Int)) (
                    π.ret (Go.Value.tuple #[(Go.Value.agg #[(Go.Value.int (IntKind.i64) ((0 : Int))), (Go.Value.int (IntKind.i64) ((0 : Int))), (Go.Value.slice (none) ((0 : Nat)) ((0 : Nat)))]), (Go.Value.int (IntKind.i64) (x124))])
                  ) (
                    π.ret (Go.Value.tuple #[(Go.Value.agg #[(Go.Value.int (IntKind.i64) (x119)), (Go.Value.int (IntKind.i64) (x120)), (Go.Value.slice (a121) (n122) (c123))]), (Go.Value.int (IntKind.i64) ((0 : Int)))])
                  )
                ) (
                  π.call (43 : Nat) #[(Go.Value.agg #[(Go.Value.int (IntKind.i64) (x112)), (Go.Value.int (IntKind.i64) (x113)), (Go.Value.slice (a114) (n115) (c116))]), (Go.Value.int (IntKind.i64) (x117)), (Go.Value.agg #[(Go.Value.int (IntKind.i64) (x94)), (Go.Value.string (t95)), (Go.Value.string (t96)), (Go.Value.string (t97)), (Go.Value.string (t98)), (Go.Value.bool (b99)), (Go.Value.int (IntKind.i64) (x100)), (Go.Value.int (IntKind.i64) (x101)), (Go.Value.int (IntKind.i64) (x102)), (Go.Value.string (t103)), (Go.Value.slice (a104) (n105) (c106))]), (Go.Value.int (IntKind.i64) (state))] (true, [(true, [.int .i64, .int .i64, .slice]), (false, [.int .i64])]) fun (((x125 : Int), (x126 : Int), ((a127 : Option Addr), (n128 : Nat), (c129 : Nat)), _), ((x130 : Int), _), _) =>
                  π.ite (x130 != (0 : Int)) (
                    π.ret (Go.Value.tuple #[(Go.Value.agg #[(Go.Value.int (IntKind.i64) ((0 : Int))), (Go.Value.int (IntKind.i64) ((0 : Int))), (Go.Value.slice (none) ((0 : Nat)) ((0 : Nat)))]), (Go.Value.int (IntKind.i64) (x130))])
                  ) (
                    π.ret (Go.Value.tuple #[(Go.Value.agg #[(Go.Value.int (IntKind.i64) (x125)), (Go.Value.int (IntKind.i64) (x126)), (Go.Value.slice (a127) (n128) (c129))]), (Go.Value.int (IntKind.i64) ((0 : Int)))])
                  )
                )
              )
            )
          )
        )
      )
    )
  )

def ann_rTurn : Ann := { draws := [], join := [(3, [(3, 24), (4, 29), (6, 24)]), (5, [(3, 24), (4, 29), (6, 24)]), (15, [(4, 29), (6, 24), (8, 24), (10, 3), (64, 4)]), (17, [(4, 29), (6, 24), (8, 24), (10, 3), (81, 4)])], loop := [] }
def la_rTurn : LA := { ptr := [(3, 3, 0), (4, 4, 0), (6, 6, 0), (8, 8, 0), (23, 4, 0), (27, 4, 0), (34, 8, 0), (37, 8, 0), (39, 4, 1), (51, 4, 0), (65, 4, 0), (69, 4, 0), (82, 4, 0), (86, 4, 0)], ty := [(3, 24), (4, 29), (6, 24), (8, 24)] }
set_option maxRecDepth 100000 in
theorem eq_rTurn {W : Type} (π : Prims W) (sv sl : Int) (sa : Option Addr) (san sac : Nat) (dk : Int) (dt dn dc dp : ByteArray) (du : Bool) (dy vk vn : Int) (vs : ByteArray) (da : Option Addr) (dan dac : Nat) (state : Int) : bodyL π Try.prog la_rTurn ann_rTurn (mkFr (maskA [] [.v (.agg #[.int .i64 sv, .int .i64 sl, .slice sa san sac]), .v (.agg #[.int .i64 dk, .string dt, .string dn, .string dc, .string dp, .bool du, .int .i64 dy, .int .i64 vk, .int .i64 vn, .string vs, .slice da dan dac]), .v (.int .i64 state)] 0) 103) Try.f15 (bodyOf Try.f15) (mkFr (List.map some [.v (.agg #[.int .i64 sv, .int .i64 sl, .slice sa san sac]), .v (.agg #[.int .i64 dk, .string dt, .string dn, .string dc, .string dp, .bool du, .int .i64 dy, .int .i64 vk, .int .i64 vn, .string vs, .slice da dan dac]), .v (.int .i64 state)]) 103) = vc_rTurn π sv sl sa san sac dk dt dn dc dp du dy vk vn vs da dan dac state := by kernel_rfl
theorem ok_rTurn (sv sl : Int) (sa : Option Addr) (san sac : Nat) (dk : Int) (dt dn dc dp : ByteArray) (du : Bool) (dy vk vn : Int) (vs : ByteArray) (da : Option Addr) (dan dac : Nat) (state : Int) (R : Value → PH → Prop) (s : PH) (h : vc_rTurn (RP Try.prog R) sv sl sa san sac dk dt dn dc dp du dy vk vn vs da dan dac state s) : DCalls Try.prog 15 (List.map AV.val [.v (.agg #[.int .i64 sv, .int .i64 sl, .slice sa san sac]), .v (.agg #[.int .i64 dk, .string dt, .string dn, .string dc, .string dp, .bool du, .int .i64 dy, .int .i64 vk, .int .i64 vn, .string vs, .slice da dan dac]), .v (.int .i64 state)]).toArray s R :=
  calls_vcL (c := bodyOf Try.f15) (ann := ann_rTurn) la_rTurn (by kernel_rfl) Try.func15 rfl (by kernel_rfl) [.v (.agg #[.int .i64 sv, .int .i64 sl, .slice sa san sac]), .v (.agg #[.int .i64 dk, .string dt, .string dn, .string dc, .string dp, .bool du, .int .i64 dy, .int .i64 vk, .int .i64 vn, .string vs, .slice da dan dac]), .v (.int .i64 state)] [] (by rw [Try.ntmps15]; exact Nat.le_of_ble_eq_true rfl) (by kernel_rfl) (by rw [show Try.f15.ntmps = 103 from Try.ntmps15, eq_rTurn]; exact h)

/-- lintel/lintelref15.Seen -/
def vc_rSeen {W : Type} (π : Prims W) (sv sl : Int) (sa : Option Addr) (san sac : Nat) : W :=
  π.call (13 : Nat) #[(Go.Value.agg #[(Go.Value.int (IntKind.i64) (sv)), (Go.Value.int (IntKind.i64) (sl)), (Go.Value.slice (sa) (san) (sac))])] (false, [(true, [.int .i64, .int .i64, .slice])]) fun (((x0 : Int), (x1 : Int), ((a2 : Option Addr), (n3 : Nat), (c4 : Nat)), _), _) =>
  π.loop [(true, [.int .i64, .int .i64, .slice]), (true, [.int .i64, .int .i64, .slice]), (false, [.int .i64])] ((x0, x1, (a2, n3, c4), ()), ((0 : Int), (0 : Int), (none, (0 : Nat), (0 : Nat)), ()), ((0 : Int), ()), ()) fun (((x6 : Int), (x7 : Int), ((a8 : Option Addr), (n9 : Nat), (c10 : Nat)), _), ((x11 : Int), (x12 : Int), ((a13 : Option Addr), (n14 : Nat), (c15 : Nat)), _), ((x16 : Int), _), _) again5 =>
    π.ite (decide (x16 < (↑n9 : Int))) (
      π.guard ((0 : Int) ≤ x16 ∧ x16 < (↑n9 : Int)) <|
      π.unSome (a8) fun p17 =>
      π.ld [.int .i64, .str, .slice, .slice, .slice] (p17.add (x16.toNat * (5 : Nat))) fun ((x18 : Int), (t19 : ByteArray), ((a20 : Option Addr), (n21 : Nat), (c22 : Nat)), ((a23 : Option Addr), (n24 : Nat), (c25 : Nat)), ((a26 : Option Addr), (n27 : Nat), (c28 : Nat)), _) =>
      π.loop [(true, [.int .i64, .int .i64, .slice]), (true, [.int .i64, .int .i64, .slice]), (false, [.int .i64]), (true, [.int .i64, .str, .slice, .slice, .slice]), (true, [.int .i64, .str, .slice, .slice, .slice]), (false, [.int .i64])] ((x6, x7, (a8, n9, c10), ()), (x11, x12, (a13, n14, c15), ()), (x16, ()), (x18, t19, (a20, n21, c22), (a23, n24, c25), (a26, n27, c28), ()), (x18, t19, (none, (0 : Nat), (0 : Nat)), (none, (0 : Nat), (0 : Nat)), (none, (0 : Nat), (0 : Nat)), ()), ((0 : Int), ()), ()) fun (((x30 : Int), (x31 : Int), ((a32 : Option Addr), (n33 : Nat), (c34 : Nat)), _), ((x35 : Int), (x36 : Int), ((a37 : Option Addr), (n38 : Nat), (c39 : Nat)), _), ((x40 : Int), _), ((x41 : Int), (t42 : ByteArray), ((a43 : Option Addr), (n44 : Nat), (c45 : Nat)), ((a46 : Option Addr), (n47 : Nat), (c48 : Nat)), ((a49 : Option Addr), (n50 : Nat), (c51 : Nat)), _), ((x52 : Int), (t53 : ByteArray), ((a54 : Option Addr), (n55 : Nat), (c56 : Nat)), ((a57 : Option Addr), (n58 : Nat), (c59 : Nat)), ((a60 : Option Addr), (n61 : Nat), (c62 : Nat)), _), ((x63 : Int), _), _) again29 =>
        π.ite (decide (x63 < (↑n44 : Int))) (
          π.guard ((0 : Int) ≤ x63 ∧ x63 < (↑n44 : Int)) <|
          π.unSome (a43) fun p64 =>
          π.ld [.int .i64] ((p64.add (x63.toNat * (7 : Nat))).add (3 : Nat)) fun ((x65 : Int), _) =>
          π.ite (x65 == (3 : Int)) (
            π.guard ((0 : Int) ≤ x63 ∧ x63 < (↑n44 : Int)) <|
            π.unSome (a43) fun p66 =>
            π.ld [.int .i64, .str, .int .i64, .int .i64, .int .i64, .int .i64, .str] (p66.add (x63.toNat * (7 : Nat))) fun ((x67 : Int), (t68 : ByteArray), (x69 : Int), (x70 : Int), (x71 : Int), (x72 : Int), (t73 : ByteArray), _) =>
            π.nw (Go.Obj.cells #[(Go.Value.int (IntKind.i64) (x67)), (Go.Value.string (t68)), (Go.Value.int (IntKind.i64) (x69)), (Go.Value.int (IntKind.i64) (x70)), (Go.Value.int (IntKind.i64) (x71)), (Go.Value.int (IntKind.i64) (x72)), (Go.Value.string (t73))] (44 : Nat) ((0 : Nat), (0 : Nat))) fun r74 =>
            π.app (44 : Nat) (7 : Nat) (72 : Nat) [(Go.Value.int (IntKind.i64) ((0 : Int))), (Go.Value.string (ByteArray.mk #[])), (Go.Value.int (IntKind.i64) ((0 : Int))), (Go.Value.int (IntKind.i64) ((0 : Int))), (Go.Value.int (IntKind.i64) ((0 : Int))), (Go.Value.int (IntKind.i64) ((0 : Int))), (Go.Value.string (ByteArray.mk #[]))] (a54) (n55) (c56) (Src.sl (some (Addr.mk r74 (0 : Nat) none)) (1 : Nat)) fun a75 n76 c77 =>
            again29 ((x30, x31, (a32, n33, c34), ()), (x35, x36, (a37, n38, c39), ()), (x40, ()), (x41, t42, (a43, n44, c45), (a46, n47, c48), (a49, n50, c51), ()), (x52, t53, (a75, n76, c77), (a57, n58, c59), (a60, n61, c62), ()), (IntKind.i64.wrap (x63 + (1 : Int)), ()), ())
          ) (
            again29 ((x30, x31, (a32, n33, c34), ()), (x35, x36, (a37, n38, c39), ()), (x40, ()), (x41, t42, (a43, n44, c45), (a46, n47, c48), (a49, n50, c51), ()), (x52, t53, (a54, n55, c56), (a57, n58, c59), (a60, n61, c62), ()), (IntKind.i64.wrap (x63 + (1 : Int)), ()), ())
          )
        ) (
          π.loop [(true, [.int .i64, .int .i64, .slice]), (true, [.int .i64, .int .i64, .slice]), (false, [.int .i64]), (true, [.int .i64, .str, .slice, .slice, .slice]), (true, [.int .i64, .str, .slice, .slice, .slice]), (false, [.int .i64])] ((x30, x31, (a32, n33, c34), ()), (x35, x36, (a37, n38, c39), ()), (x40, ()), (x41, t42, (a43, n44, c45), (a46, n47, c48), (a49, n50, c51), ()), (x52, t53, (a54, n55, c56), (a57, n58, c59), (a60, n61, c62), ()), ((0 : Int), ()), ()) fun (((x79 : Int), (x80 : Int), ((a81 : Option Addr), (n82 : Nat), (c83 : Nat)), _), ((x84 : Int), (x85 : Int), ((a86 : Option Addr), (n87 : Nat), (c88 : Nat)), _), ((x89 : Int), _), ((x90 : Int), (t91 : ByteArray), ((a92 : Option Addr), (n93 : Nat), (c94 : Nat)), ((a95 : Option Addr), (n96 : Nat), (c97 : Nat)), ((a98 : Option Addr), (n99 : Nat), (c100 : Nat)), _), ((x101 : Int), (t102 : ByteArray), ((a103 : Option Addr), (n104 : Nat), (c105 : Nat)), ((a106 : Option Addr), (n107 : Nat), (c108 : Nat)), ((a109 : Option Addr), (n110 : Nat), (c111 : Nat)), _), ((x112 : Int), _), _) again78 =>
            π.ite (decide (x112 < (↑n96 : Int))) (
              π.guard ((0 : Int) ≤ x112 ∧ x112 < (↑n96 : Int)) <|
              π.unSome (a95) fun p113 =>
              π.ld [.int .i64] ((p113.add (x112.toNat * (5 : Nat))).add (4 : Nat)) fun ((x114 : Int), _) =>
              π.ite (x114 == (3 : Int)) (
                π.guard ((0 : Int) ≤ x112 ∧ x112 < (↑n96 : Int)) <|
                π.unSome (a95) fun p115 =>
                π.ld [.int .i64, .str, .int .i64, .bool, .int .i64] (p115.add (x112.toNat * (5 : Nat))) fun ((x116 : Int), (t117 : ByteArray), (x118 : Int), (b119 : Bool), (x120 : Int), _) =>
                π.nw (Go.Obj.cells #[(Go.Value.int (IntKind.i64) (x116)), (Go.Value.string (t117)), (Go.Value.int (IntKind.i64) (x118)), (Go.Value.bool (b119)), (Go.Value.int (IntKind.i64) (x120))] (106 : Nat) ((0 : Nat), (0 : Nat))) fun r121 =>
                π.app (106 : Nat) (5 : Nat) (48 : Nat) [(Go.Value.int (IntKind.i64) ((0 : Int))), (Go.Value.string (ByteArray.mk #[])), (Go.Value.int (IntKind.i64) ((0 : Int))), (Go.Value.bool (false)), (Go.Value.int (IntKind.i64) ((0 : Int)))] (a106) (n107) (c108) (Src.sl (some (Addr.mk r121 (0 : Nat) none)) (1 : Nat)) fun a122 n123 c124 =>
                again78 ((x79, x80, (a81, n82, c83), ()), (x84, x85, (a86, n87, c88), ()), (x89, ()), (x90, t91, (a92, n93, c94), (a95, n96, c97), (a98, n99, c100), ()), (x101, t102, (a103, n104, c105), (a122, n123, c124), (a109, n110, c111), ()), (IntKind.i64.wrap (x112 + (1 : Int)), ()), ())
              ) (
                again78 ((x79, x80, (a81, n82, c83), ()), (x84, x85, (a86, n87, c88), ()), (x89, ()), (x90, t91, (a92, n93, c94), (a95, n96, c97), (a98, n99, c100), ()), (x101, t102, (a103, n104, c105), (a106, n107, c108), (a109, n110, c111), ()), (IntKind.i64.wrap (x112 + (1 : Int)), ()), ())
              )
            ) (
              π.loop [(true, [.int .i64, .int .i64, .slice]), (true, [.int .i64, .int .i64, .slice]), (false, [.int .i64]), (true, [.int .i64, .str, .slice, .slice, .slice]), (true, [.int .i64, .str, .slice, .slice, .slice]), (false, [.int .i64])] ((x79, x80, (a81, n82, c83), ()), (x84, x85, (a86, n87, c88), ()), (x89, ()), (x90, t91, (a92, n93, c94), (a95, n96, c97), (a98, n99, c100), ()), (x101, t102, (a103, n104, c105), (a106, n107, c108), (a109, n110, c111), ()), ((0 : Int), ()), ()) fun (((x126 : Int), (x127 : Int), ((a128 : Option Addr), (n129 : Nat), (c130 : Nat)), _), ((x131 : Int), (x132 : Int), ((a133 : Option Addr), (n134 : Nat), (c135 : Nat)), _), ((x136 : Int), _), ((x137 : Int), (t138 : ByteArray), ((a139 : Option Addr), (n140 : Nat), (c141 : Nat)), ((a142 : Option Addr), (n143 : Nat), (c144 : Nat)), ((a145 : Option Addr), (n146 : Nat), (c147 : Nat)), _), ((x148 : Int), (t149 : ByteArray), ((a150 : Option Addr), (n151 : Nat), (c152 : Nat)), ((a153 : Option Addr), (n154 : Nat), (c155 : Nat)), ((a156 : Option Addr), (n157 : Nat), (c158 : Nat)), _), ((x159 : Int), _), _) again125 =>
                π.ite (decide (x159 < (↑n146 : Int))) (
                  π.guard ((0 : Int) ≤ x159 ∧ x159 < (↑n146 : Int)) <|
                  π.unSome (a145) fun p160 =>
                  π.ld [.int .i64] ((p160.add (x159.toNat * (5 : Nat))).add (4 : Nat)) fun ((x161 : Int), _) =>
                  π.ite (x161 == (3 : Int)) (
                    π.guard ((0 : Int) ≤ x159 ∧ x159 < (↑n146 : Int)) <|
                    π.unSome (a145) fun p162 =>
                    π.ld [.int .i64, .str, .int .i64, .int .i64, .int .i64] (p162.add (x159.toNat * (5 : Nat))) fun ((x163 : Int), (t164 : ByteArray), (x165 : Int), (x166 : Int), (x167 : Int), _) =>
                    π.nw (Go.Obj.cells #[(Go.Value.int (IntKind.i64) (x163)), (Go.Value.string (t164)), (Go.Value.int (IntKind.i64) (x165)), (Go.Value.int (IntKind.i64) (x166)), (Go.Value.int (IntKind.i64) (x167))] (109 : Nat) ((0 : Nat), (0 : Nat))) fun r168 =>
                    π.app (109 : Nat) (5 : Nat) (48 : Nat) [(Go.Value.int (IntKind.i64) ((0 : Int))), (Go.Value.string (ByteArray.mk #[])), (Go.Value.int (IntKind.i64) ((0 : Int))), (Go.Value.int (IntKind.i64) ((0 : Int))), (Go.Value.int (IntKind.i64) ((0 : Int)))] (a156) (n157) (c158) (Src.sl (some (Addr.mk r168 (0 : Nat) none)) (1 : Nat)) fun a169 n170 c171 =>
                    again125 ((x126, x127, (a128, n129, c130), ()), (x131, x132, (a133, n134, c135), ()), (x136, ()), (x137, t138, (a139, n140, c141), (a142, n143, c144), (a145, n146, c147), ()), (x148, t149, (a150, n151, c152), (a153, n154, c155), (a169, n170, c171), ()), (IntKind.i64.wrap (x159 + (1 : Int)), ()), ())
                  ) (
                    again125 ((x126, x127, (a128, n129, c130), ()), (x131, x132, (a133, n134, c135), ()), (x136, ()), (x137, t138, (a139, n140, c141), (a142, n143, c144), (a145, n146, c147), ()), (x148, t149, (a150, n151, c152), (a153, n154, c155), (a156, n157, c158), ()), (IntKind.i64.wrap (x159 + (1 : Int)), ()), ())
                  )
                ) (
                  π.guard ((0 : Int) ≤ x136 ∧ x136 < (↑n129 : Int)) <|
                  π.unSome (a128) fun p172 =>
                  π.st (p172.add (x136.toNat * (5 : Nat))) [(Go.Value.int (IntKind.i64) (x148)), (Go.Value.string (t149)), (Go.Value.slice (a150) (n151) (c152)), (Go.Value.slice (a153) (n154) (c155)), (Go.Value.slice (a156) (n157) (c158))] <|
                  again5 ((x126, x127, (a128, n129, c130), ()), (x131, x132, (a133, n134, c135), ()), (IntKind.i64.wrap (x136 + (1 : Int)), ()), ())
                )
            )
        )
    ) (
      π.ret (Go.Value.agg #[(Go.Value.int (IntKind.i64) (x6)), (Go.Value.int (IntKind.i64) (x7)), (Go.Value.slice (a8) (n9) (c10))])
    )

def ann_rSeen : Ann := { draws := [(11, { A := [0, 1, 2, 3, 4, 5, 6], eag := [9] }), (16, { A := [0, 1, 2, 3, 4, 5, 6], eag := [9] }), (21, { A := [0, 1, 2, 3, 4, 5, 6], eag := [9] })], join := [], loop := [(3, [(1, 24), (2, 24), (3, 3)]), (8, [(1, 24), (2, 24), (3, 3), (4, 42), (5, 42), (6, 3)]), (13, [(1, 24), (2, 24), (3, 3), (4, 42), (5, 42), (7, 3)]), (18, [(1, 24), (2, 24), (3, 3), (4, 42), (5, 42), (8, 3)])] }
def la_rSeen : LA := { ptr := [(1, 1, 0), (2, 2, 0), (4, 4, 0), (5, 5, 0), (12, 1, 2), (18, 1, 2), (23, 4, 0), (25, 4, 1), (29, 4, 2), (35, 4, 2), (42, 5, 2), (44, 4, 2), (51, 5, 2), (53, 4, 3), (59, 4, 3), (66, 5, 3), (68, 4, 3), (75, 5, 3), (77, 4, 4), (83, 4, 4), (90, 5, 4), (92, 4, 4), (99, 5, 4), (100, 1, 2)], ty := [(1, 24), (2, 24), (4, 42), (5, 42)] }
set_option maxRecDepth 100000 in
theorem eq_rSeen {W : Type} (π : Prims W) (sv sl : Int) (sa : Option Addr) (san sac : Nat) : bodyL π Try.prog la_rSeen ann_rSeen (mkFr (maskA [] [.v (.agg #[.int .i64 sv, .int .i64 sl, .slice sa san sac])] 0) 106) Try.f22 (bodyOf Try.f22) (mkFr (List.map some [.v (.agg #[.int .i64 sv, .int .i64 sl, .slice sa san sac])]) 106) = vc_rSeen π sv sl sa san sac := by kernel_rfl
theorem ok_rSeen (sv sl : Int) (sa : Option Addr) (san sac : Nat) (R : Value → PH → Prop) (s : PH) (h : vc_rSeen (RP Try.prog R) sv sl sa san sac s) : DCalls Try.prog 22 (List.map AV.val [.v (.agg #[.int .i64 sv, .int .i64 sl, .slice sa san sac])]).toArray s R :=
  calls_vcL (c := bodyOf Try.f22) (ann := ann_rSeen) la_rSeen (by kernel_rfl) Try.func22 rfl (by kernel_rfl) [.v (.agg #[.int .i64 sv, .int .i64 sl, .slice sa san sac])] [] (by rw [Try.ntmps22]; exact Nat.le_of_ble_eq_true rfl) (by kernel_rfl) (by rw [show Try.f22.ntmps = 106 from Try.ntmps22, eq_rSeen]; exact h)

/-- lintel/lintelref15.State -/
def vc_rState {W : Type} (π : Prims W) (sv sl : Int) (sa : Option Addr) (san sac : Nat) (dk : Int) (dt dn dc dp : ByteArray) (du : Bool) (dy vk vn : Int) (vs : ByteArray) (da : Option Addr) (dan dac : Nat) : W :=
  π.call (18 : Nat) #[(Go.Value.agg #[(Go.Value.int (IntKind.i64) (sv)), (Go.Value.int (IntKind.i64) (sl)), (Go.Value.slice (sa) (san) (sac))]), (Go.Value.string (dt))] (false, [(false, [.int .i64])]) fun (((x0 : Int), _), _) =>
  π.ite (dk == (1 : Int)) (
    π.ite (decide (x0 < (0 : Int))) (
      π.ret (Go.Value.int (IntKind.i64) ((0 : Int)))
    ) (
      π.ret (Go.Value.int (IntKind.i64) ((3 : Int)))
    )
  ) (
    π.ite (decide (x0 < (0 : Int))) (
      π.ret (Go.Value.int (IntKind.i64) ((0 : Int)))
    ) (
      π.guard ((0 : Int) ≤ x0 ∧ x0 < (↑san : Int)) <|
      π.unSome (sa) fun p1 =>
      π.ld [.int .i64, .str, .slice, .slice, .slice] (p1.add (x0.toNat * (5 : Nat))) fun ((x2 : Int), (t3 : ByteArray), ((a4 : Option Addr), (n5 : Nat), (c6 : Nat)), ((a7 : Option Addr), (n8 : Nat), (c9 : Nat)), ((a10 : Option Addr), (n11 : Nat), (c12 : Nat)), _) =>
      π.join [(true, [.int .i64, .str, .str, .str, .str, .bool, .int .i64, .int .i64, .int .i64, .str, .slice]), (true, [.int .i64, .str, .slice, .slice, .slice]), (false, [.bool])] (fun J13 =>
        π.ite (dk == (4 : Int)) (
          J13 ((dk, dt, dn, dc, dp, du, dy, vk, vn, vs, (da, dan, dac), ()), (x2, t3, (a4, n5, c6), (a7, n8, c9), (a10, n11, c12), ()), (true, ()), ())
        ) (
          J13 ((dk, dt, dn, dc, dp, du, dy, vk, vn, vs, (da, dan, dac), ()), (x2, t3, (a4, n5, c6), (a7, n8, c9), (a10, n11, c12), ()), (dk == (5 : Int), ()), ())
        )
      ) (fun (((x14 : Int), (t15 : ByteArray), (t16 : ByteArray), (t17 : ByteArray), (t18 : ByteArray), (b19 : Bool), (x20 : Int), (x21 : Int), (x22 : Int), (t23 : ByteArray), ((a24 : Option Addr), (n25 : Nat), (c26 : Nat)), _), ((x27 : Int), (t28 : ByteArray), ((a29 : Option Addr), (n30 : Nat), (c31 : Nat)), ((a32 : Option Addr), (n33 : Nat), (c34 : Nat)), ((a35 : Option Addr), (n36 : Nat), (c37 : Nat)), _), ((b38 : Bool), _), _) =>
        π.ite (b38) (
          π.call (48 : Nat) #[(Go.Value.agg #[(Go.Value.int (IntKind.i64) (x27)), (Go.Value.string (t28)), (Go.Value.slice (a29) (n30) (c31)), (Go.Value.slice (a32) (n33) (c34)), (Go.Value.slice (a35) (n36) (c37))]), (Go.Value.string (t17))] (false, [(false, [.int .i64])]) fun (((x39 : Int), _), _) =>
          π.ite (decide (x39 ≥ (0 : Int))) (
            π.guard ((0 : Int) ≤ x39 ∧ x39 < (↑n30 : Int)) <|
            π.unSome (a29) fun p40 =>
            π.ld [.int .i64] ((p40.add (x39.toNat * (7 : Nat))).add (3 : Nat)) fun ((x41 : Int), _) =>
            π.ret (Go.Value.int (IntKind.i64) (x41))
          ) (
            π.ret (Go.Value.int (IntKind.i64) ((0 : Int)))
          )
        ) (
          π.join [(true, [.int .i64, .str, .str, .str, .str, .bool, .int .i64, .int .i64, .int .i64, .str, .slice]), (true, [.int .i64, .str, .slice, .slice, .slice]), (false, [.bool])] (fun J42 =>
            π.ite (x14 == (2 : Int)) (
              J42 ((x14, t15, t16, t17, t18, b19, x20, x21, x22, t23, (a24, n25, c26), ()), (x27, t28, (a29, n30, c31), (a32, n33, c34), (a35, n36, c37), ()), (true, ()), ())
            ) (
              J42 ((x14, t15, t16, t17, t18, b19, x20, x21, x22, t23, (a24, n25, c26), ()), (x27, t28, (a29, n30, c31), (a32, n33, c34), (a35, n36, c37), ()), (x14 == (3 : Int), ()), ())
            )
          ) (fun (((x43 : Int), (t44 : ByteArray), (t45 : ByteArray), (t46 : ByteArray), (t47 : ByteArray), (b48 : Bool), (x49 : Int), (x50 : Int), (x51 : Int), (t52 : ByteArray), ((a53 : Option Addr), (n54 : Nat), (c55 : Nat)), _), ((x56 : Int), (t57 : ByteArray), ((a58 : Option Addr), (n59 : Nat), (c60 : Nat)), ((a61 : Option Addr), (n62 : Nat), (c63 : Nat)), ((a64 : Option Addr), (n65 : Nat), (c66 : Nat)), _), ((b67 : Bool), _), _) =>
            π.ite (b67) (
              π.call (51 : Nat) #[(Go.Value.agg #[(Go.Value.int (IntKind.i64) (x56)), (Go.Value.string (t57)), (Go.Value.slice (a58) (n59) (c60)), (Go.Value.slice (a61) (n62) (c63)), (Go.Value.slice (a64) (n65) (c66))]), (Go.Value.string (t45))] (false, [(false, [.int .i64])]) fun (((x68 : Int), _), _) =>
              π.ite (decide (x68 ≥ (0 : Int))) (
                π.guard ((0 : Int) ≤ x68 ∧ x68 < (↑n62 : Int)) <|
                π.unSome (a61) fun p69 =>
                π.ld [.int .i64] ((p69.add (x68.toNat * (5 : Nat))).add (4 : Nat)) fun ((x70 : Int), _) =>
                π.ret (Go.Value.int (IntKind.i64) (x70))
              ) (
                π.ret (Go.Value.int (IntKind.i64) ((0 : Int)))
              )
            ) (
              π.call (54 : Nat) #[(Go.Value.agg #[(Go.Value.int (IntKind.i64) (x56)), (Go.Value.string (t57)), (Go.Value.slice (a58) (n59) (c60)), (Go.Value.slice (a61) (n62) (c63)), (Go.Value.slice (a64) (n65) (c66))]), (Go.Value.string (t45))] (false, [(false, [.int .i64])]) fun (((x71 : Int), _), _) =>
              π.ite (decide (x71 ≥ (0 : Int))) (
                π.guard ((0 : Int) ≤ x71 ∧ x71 < (↑n65 : Int)) <|
                π.unSome (a64) fun p72 =>
                π.ld [.int .i64] ((p72.add (x71.toNat * (5 : Nat))).add (4 : Nat)) fun ((x73 : Int), _) =>
                π.ret (Go.Value.int (IntKind.i64) (x73))
              ) (
                π.ret (Go.Value.int (IntKind.i64) ((0 : Int)))
              )
            )
          )
        )
      )
    )
  )

def ann_rState : Ann := { draws := [], join := [(10, [(3, 29), (6, 42), (33, 4)]), (15, [(3, 29), (6, 42), (53, 4)])], loop := [] }
def la_rState : LA := { ptr := [(2, 2, 0), (3, 3, 0), (6, 6, 0), (11, 3, 1), (14, 3, 0), (21, 2, 2), (26, 3, 0), (30, 3, 0), (35, 3, 3), (40, 6, 2), (46, 3, 0), (50, 3, 0), (55, 3, 2), (60, 6, 3), (67, 3, 2), (72, 6, 4)], ty := [(2, 24), (3, 29), (6, 42)] }
set_option maxRecDepth 100000 in
theorem eq_rState {W : Type} (π : Prims W) (sv sl : Int) (sa : Option Addr) (san sac : Nat) (dk : Int) (dt dn dc dp : ByteArray) (du : Bool) (dy vk vn : Int) (vs : ByteArray) (da : Option Addr) (dan dac : Nat) : bodyL π Try.prog la_rState ann_rState (mkFr (maskA [] [.v (.agg #[.int .i64 sv, .int .i64 sl, .slice sa san sac]), .v (.agg #[.int .i64 dk, .string dt, .string dn, .string dc, .string dp, .bool du, .int .i64 dy, .int .i64 vk, .int .i64 vn, .string vs, .slice da dan dac])] 0) 78) Try.f25 (bodyOf Try.f25) (mkFr (List.map some [.v (.agg #[.int .i64 sv, .int .i64 sl, .slice sa san sac]), .v (.agg #[.int .i64 dk, .string dt, .string dn, .string dc, .string dp, .bool du, .int .i64 dy, .int .i64 vk, .int .i64 vn, .string vs, .slice da dan dac])]) 78) = vc_rState π sv sl sa san sac dk dt dn dc dp du dy vk vn vs da dan dac := by kernel_rfl
theorem ok_rState (sv sl : Int) (sa : Option Addr) (san sac : Nat) (dk : Int) (dt dn dc dp : ByteArray) (du : Bool) (dy vk vn : Int) (vs : ByteArray) (da : Option Addr) (dan dac : Nat) (R : Value → PH → Prop) (s : PH) (h : vc_rState (RP Try.prog R) sv sl sa san sac dk dt dn dc dp du dy vk vn vs da dan dac s) : DCalls Try.prog 25 (List.map AV.val [.v (.agg #[.int .i64 sv, .int .i64 sl, .slice sa san sac]), .v (.agg #[.int .i64 dk, .string dt, .string dn, .string dc, .string dp, .bool du, .int .i64 dy, .int .i64 vk, .int .i64 vn, .string vs, .slice da dan dac])]).toArray s R :=
  calls_vcL (c := bodyOf Try.f25) (ann := ann_rState) la_rState (by kernel_rfl) Try.func25 rfl (by kernel_rfl) [.v (.agg #[.int .i64 sv, .int .i64 sl, .slice sa san sac]), .v (.agg #[.int .i64 dk, .string dt, .string dn, .string dc, .string dp, .bool du, .int .i64 dy, .int .i64 vk, .int .i64 vn, .string vs, .slice da dan dac])] [] (by rw [Try.ntmps25]; exact Nat.le_of_ble_eq_true rfl) (by kernel_rfl) (by rw [show Try.f25.ntmps = 78 from Try.ntmps25, eq_rState]; exact h)

/-- lintel/lintelref15.Without -/
def vc_rWithout {W : Type} (π : Prims W) (sv sl : Int) (sa : Option Addr) (san sac : Nat) (dk : Int) (dt dn dc dp : ByteArray) (du : Bool) (dy vk vn : Int) (vs : ByteArray) (da : Option Addr) (dan dac : Nat) : W :=
  π.call (13 : Nat) #[(Go.Value.agg #[(Go.Value.int (IntKind.i64) (sv)), (Go.Value.int (IntKind.i64) (sl)), (Go.Value.slice (sa) (san) (sac))])] (false, [(true, [.int .i64, .int .i64, .slice])]) fun (((x0 : Int), (x1 : Int), ((a2 : Option Addr), (n3 : Nat), (c4 : Nat)), _), _) =>
  π.loop [(true, [.int .i64, .int .i64, .slice]), (true, [.int .i64, .str, .str, .str, .str, .bool, .int .i64, .int .i64, .int .i64, .str, .slice]), (true, [.int .i64, .int .i64, .slice]), (false, [.slice]), (false, [.int .i64])] ((x0, x1, (a2, n3, c4), ()), (dk, dt, dn, dc, dp, du, dy, vk, vn, vs, (da, dan, dac), ()), ((0 : Int), (0 : Int), (none, (0 : Nat), (0 : Nat)), ()), ((none, (0 : Nat), (0 : Nat)), ()), ((0 : Int), ()), ()) fun (((x6 : Int), (x7 : Int), ((a8 : Option Addr), (n9 : Nat), (c10 : Nat)), _), ((x11 : Int), (t12 : ByteArray), (t13 : ByteArray), (t14 : ByteArray), (t15 : ByteArray), (b16 : Bool), (x17 : Int), (x18 : Int), (x19 : Int), (t20 : ByteArray), ((a21 : Option Addr), (n22 : Nat), (c23 : Nat)), _), ((x24 : Int), (x25 : Int), ((a26 : Option Addr), (n27 : Nat), (c28 : Nat)), _), (((a29 : Option Addr), (n30 : Nat), (c31 : Nat)), _), ((x32 : Int), _), _) again5 =>
    π.ite (decide (x32 < (↑n9 : Int))) (
      π.guard ((0 : Int) ≤ x32 ∧ x32 < (↑n9 : Int)) <|
      π.unSome (a8) fun p33 =>
      π.ld [.int .i64, .str, .slice, .slice, .slice] (p33.add (x32.toNat * (5 : Nat))) fun ((x34 : Int), (t35 : ByteArray), ((a36 : Option Addr), (n37 : Nat), (c38 : Nat)), ((a39 : Option Addr), (n40 : Nat), (c41 : Nat)), ((a42 : Option Addr), (n43 : Nat), (c44 : Nat)), _) =>
      π.ite (!t35.toList == t12.toList) (
        π.nw (Go.Obj.cells #[(Go.Value.int (IntKind.i64) (x34)), (Go.Value.string (t35)), (Go.Value.slice (a36) (n37) (c38)), (Go.Value.slice (a39) (n40) (c41)), (Go.Value.slice (a42) (n43) (c44))] (42 : Nat) ((0 : Nat), (0 : Nat))) fun r45 =>
        π.app (42 : Nat) (5 : Nat) (96 : Nat) [(Go.Value.int (IntKind.i64) ((0 : Int))), (Go.Value.string (ByteArray.mk #[])), (Go.Value.slice (none) ((0 : Nat)) ((0 : Nat))), (Go.Value.slice (none) ((0 : Nat)) ((0 : Nat))), (Go.Value.slice (none) ((0 : Nat)) ((0 : Nat)))] (a29) (n30) (c31) (Src.sl (some (Addr.mk r45 (0 : Nat) none)) (1 : Nat)) fun a46 n47 c48 =>
        again5 ((x6, x7, (a8, n9, c10), ()), (x11, t12, t13, t14, t15, b16, x17, x18, x19, t20, (a21, n22, c23), ()), (x24, x25, (a26, n27, c28), ()), ((a46, n47, c48), ()), (IntKind.i64.wrap (x32 + (1 : Int)), ()), ())
      ) (
        π.ite (x11 == (1 : Int)) (
          again5 ((x6, x7, (a8, n9, c10), ()), (x11, t12, t13, t14, t15, b16, x17, x18, x19, t20, (a21, n22, c23), ()), (x24, x25, (a26, n27, c28), ()), ((a29, n30, c31), ()), (IntKind.i64.wrap (x32 + (1 : Int)), ()), ())
        ) (
          π.join [(true, [.int .i64, .int .i64, .slice]), (true, [.int .i64, .str, .str, .str, .str, .bool, .int .i64, .int .i64, .int .i64, .str, .slice]), (true, [.int .i64, .int .i64, .slice]), (false, [.slice]), (false, [.int .i64]), (true, [.int .i64, .str, .slice, .slice, .slice])] (fun J49 =>
            π.call (48 : Nat) #[(Go.Value.agg #[(Go.Value.int (IntKind.i64) (x34)), (Go.Value.string (t35)), (Go.Value.slice (a36) (n37) (c38)), (Go.Value.slice (a39) (n40) (c41)), (Go.Value.slice (a42) (n43) (c44))]), (Go.Value.string (t14))] (false, [(false, [.int .i64])]) fun (((x50 : Int), _), _) =>
            π.join [(true, [.int .i64, .int .i64, .slice]), (true, [.int .i64, .str, .str, .str, .str, .bool, .int .i64, .int .i64, .int .i64, .str, .slice]), (true, [.int .i64, .int .i64, .slice]), (false, [.slice]), (false, [.int .i64]), (true, [.int .i64, .str, .slice, .slice, .slice]), (false, [.int .i64]), (false, [.bool])] (fun J51 =>
              π.ite (x11 == (4 : Int)) (
                J51 ((x6, x7, (a8, n9, c10), ()), (x11, t12, t13, t14, t15, b16, x17, x18, x19, t20, (a21, n22, c23), ()), (x24, x25, (a26, n27, c28), ()), ((a29, n30, c31), ()), (x32, ()), (x34, t35, (a36, n37, c38), (a39, n40, c41), (a42, n43, c44), ()), (x50, ()), (decide (x50 ≥ (0 : Int)), ()), ())
              ) (
                π.ite (x11 == (5 : Int)) (
                  J51 ((x6, x7, (a8, n9, c10), ()), (x11, t12, t13, t14, t15, b16, x17, x18, x19, t20, (a21, n22, c23), ()), (x24, x25, (a26, n27, c28), ()), ((a29, n30, c31), ()), (x32, ()), (x34, t35, (a36, n37, c38), (a39, n40, c41), (a42, n43, c44), ()), (x50, ()), (decide (x50 ≥ (0 : Int)), ()), ())
                ) (
                  J51 ((x6, x7, (a8, n9, c10), ()), (x11, t12, t13, t14, t15, b16, x17, x18, x19, t20, (a21, n22, c23), ()), (x24, x25, (a26, n27, c28), ()), ((a29, n30, c31), ()), (x32, ()), (x34, t35, (a36, n37, c38), (a39, n40, c41), (a42, n43, c44), ()), (x50, ()), (false, ()), ())
                )
              )
            ) (fun (((x52 : Int), (x53 : Int), ((a54 : Option Addr), (n55 : Nat), (c56 : Nat)), _), ((x57 : Int), (t58 : ByteArray), (t59 : ByteArray), (t60 : ByteArray), (t61 : ByteArray), (b62 : Bool), (x63 : Int), (x64 : Int), (x65 : Int), (t66 : ByteArray), ((a67 : Option Addr), (n68 : Nat), (c69 : Nat)), _), ((x70 : Int), (x71 : Int), ((a72 : Option Addr), (n73 : Nat), (c74 : Nat)), _), (((a75 : Option Addr), (n76 : Nat), (c77 : Nat)), _), ((x78 : Int), _), ((x79 : Int), (t80 : ByteArray), ((a81 : Option Addr), (n82 : Nat), (c83 : Nat)), ((a84 : Option Addr), (n85 : Nat), (c86 : Nat)), ((a87 : Option Addr), (n88 : Nat), (c89 : Nat)), _), ((x90 : Int), _), ((b91 : Bool), _), _) =>
              π.ite (b91) (
                π.guard ((0 : Int) ≤ (0 : Int) ∧ (0 : Int) ≤ x90 ∧ x90 ≤ (↑c83 : Int)) <|
                π.guard ((0 : Int) ≤ IntKind.i64.wrap (x90 + (1 : Int)) ∧ IntKind.i64.wrap (x90 + (1 : Int)) ≤ (↑n82 : Int) ∧ (↑n82 : Int) ≤ (↑c83 : Int)) <|
                π.nw (Go.Obj.cells #[] (44 : Nat) ((0 : Nat), (0 : Nat))) fun r92 =>
                π.app (44 : Nat) (7 : Nat) (72 : Nat) [(Go.Value.int (IntKind.i64) ((0 : Int))), (Go.Value.string (ByteArray.mk #[])), (Go.Value.int (IntKind.i64) ((0 : Int))), (Go.Value.int (IntKind.i64) ((0 : Int))), (Go.Value.int (IntKind.i64) ((0 : Int))), (Go.Value.int (IntKind.i64) ((0 : Int))), (Go.Value.string (ByteArray.mk #[]))] (some (Addr.mk r92 (0 : Nat) none)) ((0 : Nat)) ((0 : Nat)) (Src.sl (if c83 = (0 : Nat) then a81 else Option.map (fun x => x.add (0 : Nat)) a81) (x90.toNat - (0 : Nat))) fun a93 n94 c95 =>
                π.app (44 : Nat) (7 : Nat) (72 : Nat) [(Go.Value.int (IntKind.i64) ((0 : Int))), (Go.Value.string (ByteArray.mk #[])), (Go.Value.int (IntKind.i64) ((0 : Int))), (Go.Value.int (IntKind.i64) ((0 : Int))), (Go.Value.int (IntKind.i64) ((0 : Int))), (Go.Value.int (IntKind.i64) ((0 : Int))), (Go.Value.string (ByteArray.mk #[]))] (a93) (n94) (c95) (Src.sl (if c83 = (IntKind.i64.wrap (x90 + (1 : Int))).toNat then a81 else Option.map (fun x => x.add ((IntKind.i64.wrap (x90 + (1 : Int))).toNat * (7 : Nat))) a81) ((↑n82 : Int).toNat - (IntKind.i64.wrap (x90 + (1 : Int))).toNat)) fun a96 n97 c98 =>
                J49 ((x52, x53, (a54, n55, c56), ()), (x57, t58, t59, t60, t61, b62, x63, x64, x65, t66, (a67, n68, c69), ()), (x70, x71, (a72, n73, c74), ()), ((a75, n76, c77), ()), (x78, ()), (x79, t80, (a96, n97, c98), (a84, n85, c86), (a87, n88, c89), ()), ())
              ) (
                J49 ((x52, x53, (a54, n55, c56), ()), (x57, t58, t59, t60, t61, b62, x63, x64, x65, t66, (a67, n68, c69), ()), (x70, x71, (a72, n73, c74), ()), ((a75, n76, c77), ()), (x78, ()), (x79, t80, (a81, n82, c83), (a84, n85, c86), (a87, n88, c89), ()), ())
              )
            )
          ) (fun (((x99 : Int), (x100 : Int), ((a101 : Option Addr), (n102 : Nat), (c103 : Nat)), _), ((x104 : Int), (t105 : ByteArray), (t106 : ByteArray), (t107 : ByteArray), (t108 : ByteArray), (b109 : Bool), (x110 : Int), (x111 : Int), (x112 : Int), (t113 : ByteArray), ((a114 : Option Addr), (n115 : Nat), (c116 : Nat)), _), ((x117 : Int), (x118 : Int), ((a119 : Option Addr), (n120 : Nat), (c121 : Nat)), _), (((a122 : Option Addr), (n123 : Nat), (c124 : Nat)), _), ((x125 : Int), _), ((x126 : Int), (t127 : ByteArray), ((a128 : Option Addr), (n129 : Nat), (c130 : Nat)), ((a131 : Option Addr), (n132 : Nat), (c133 : Nat)), ((a134 : Option Addr), (n135 : Nat), (c136 : Nat)), _), _) =>
            π.join [(true, [.int .i64, .int .i64, .slice]), (true, [.int .i64, .str, .str, .str, .str, .bool, .int .i64, .int .i64, .int .i64, .str, .slice]), (true, [.int .i64, .int .i64, .slice]), (false, [.slice]), (false, [.int .i64]), (true, [.int .i64, .str, .slice, .slice, .slice])] (fun J137 =>
              π.call (51 : Nat) #[(Go.Value.agg #[(Go.Value.int (IntKind.i64) (x126)), (Go.Value.string (t127)), (Go.Value.slice (a128) (n129) (c130)), (Go.Value.slice (a131) (n132) (c133)), (Go.Value.slice (a134) (n135) (c136))]), (Go.Value.string (t106))] (false, [(false, [.int .i64])]) fun (((x138 : Int), _), _) =>
              π.join [(true, [.int .i64, .int .i64, .slice]), (true, [.int .i64, .str, .str, .str, .str, .bool, .int .i64, .int .i64, .int .i64, .str, .slice]), (true, [.int .i64, .int .i64, .slice]), (false, [.slice]), (false, [.int .i64]), (true, [.int .i64, .str, .slice, .slice, .slice]), (false, [.int .i64]), (false, [.bool])] (fun J139 =>
                π.ite (x104 == (2 : Int)) (
                  J139 ((x99, x100, (a101, n102, c103), ()), (x104, t105, t106, t107, t108, b109, x110, x111, x112, t113, (a114, n115, c116), ()), (x117, x118, (a119, n120, c121), ()), ((a122, n123, c124), ()), (x125, ()), (x126, t127, (a128, n129, c130), (a131, n132, c133), (a134, n135, c136), ()), (x138, ()), (decide (x138 ≥ (0 : Int)), ()), ())
                ) (
                  π.ite (x104 == (3 : Int)) (
                    J139 ((x99, x100, (a101, n102, c103), ()), (x104, t105, t106, t107, t108, b109, x110, x111, x112, t113, (a114, n115, c116), ()), (x117, x118, (a119, n120, c121), ()), ((a122, n123, c124), ()), (x125, ()), (x126, t127, (a128, n129, c130), (a131, n132, c133), (a134, n135, c136), ()), (x138, ()), (decide (x138 ≥ (0 : Int)), ()), ())
                  ) (
                    J139 ((x99, x100, (a101, n102, c103), ()), (x104, t105, t106, t107, t108, b109, x110, x111, x112, t113, (a114, n115, c116), ()), (x117, x118, (a119, n120, c121), ()), ((a122, n123, c124), ()), (x125, ()), (x126, t127, (a128, n129, c130), (a131, n132, c133), (a134, n135, c136), ()), (x138, ()), (false, ()), ())
                  )
                )
              ) (fun (((x140 : Int), (x141 : Int), ((a142 : Option Addr), (n143 : Nat), (c144 : Nat)), _), ((x145 : Int), (t146 : ByteArray), (t147 : ByteArray), (t148 : ByteArray), (t149 : ByteArray), (b150 : Bool), (x151 : Int), (x152 : Int), (x153 : Int), (t154 : ByteArray), ((a155 : Option Addr), (n156 : Nat), (c157 : Nat)), _), ((x158 : Int), (x159 : Int), ((a160 : Option Addr), (n161 : Nat), (c162 : Nat)), _), (((a163 : Option Addr), (n164 : Nat), (c165 : Nat)), _), ((x166 : Int), _), ((x167 : Int), (t168 : ByteArray), ((a169 : Option Addr), (n170 : Nat), (c171 : Nat)), ((a172 : Option Addr), (n173 : Nat), (c174 : Nat)), ((a175 : Option Addr), (n176 : Nat), (c177 : Nat)), _), ((x178 : Int), _), ((b179 : Bool), _), _) =>
                π.ite (b179) (
                  π.guard ((0 : Int) ≤ (0 : Int) ∧ (0 : Int) ≤ x178 ∧ x178 ≤ (↑c174 : Int)) <|
                  π.guard ((0 : Int) ≤ IntKind.i64.wrap (x178 + (1 : Int)) ∧ IntKind.i64.wrap (x178 + (1 : Int)) ≤ (↑n173 : Int) ∧ (↑n173 : Int) ≤ (↑c174 : Int)) <|
                  π.nw (Go.Obj.cells #[] (106 : Nat) ((0 : Nat), (0 : Nat))) fun r180 =>
                  π.app (106 : Nat) (5 : Nat) (48 : Nat) [(Go.Value.int (IntKind.i64) ((0 : Int))), (Go.Value.string (ByteArray.mk #[])), (Go.Value.int (IntKind.i64) ((0 : Int))), (Go.Value.bool (false)), (Go.Value.int (IntKind.i64) ((0 : Int)))] (some (Addr.mk r180 (0 : Nat) none)) ((0 : Nat)) ((0 : Nat)) (Src.sl (if c174 = (0 : Nat) then a172 else Option.map (fun x => x.add (0 : Nat)) a172) (x178.toNat - (0 : Nat))) fun a181 n182 c183 =>
                  π.app (106 : Nat) (5 : Nat) (48 : Nat) [(Go.Value.int (IntKind.i64) ((0 : Int))), (Go.Value.string (ByteArray.mk #[])), (Go.Value.int (IntKind.i64) ((0 : Int))), (Go.Value.bool (false)), (Go.Value.int (IntKind.i64) ((0 : Int)))] (a181) (n182) (c183) (Src.sl (if c174 = (IntKind.i64.wrap (x178 + (1 : Int))).toNat then a172 else Option.map (fun x => x.add ((IntKind.i64.wrap (x178 + (1 : Int))).toNat * (5 : Nat))) a172) ((↑n173 : Int).toNat - (IntKind.i64.wrap (x178 + (1 : Int))).toNat)) fun a184 n185 c186 =>
                  J137 ((x140, x141, (a142, n143, c144), ()), (x145, t146, t147, t148, t149, b150, x151, x152, x153, t154, (a155, n156, c157), ()), (x158, x159, (a160, n161, c162), ()), ((a163, n164, c165), ()), (x166, ()), (x167, t168, (a169, n170, c171), (a184, n185, c186), (a175, n176, c177), ()), ())
                ) (
                  J137 ((x140, x141, (a142, n143, c144), ()), (x145, t146, t147, t148, t149, b150, x151, x152, x153, t154, (a155, n156, c157), ()), (x158, x159, (a160, n161, c162), ()), ((a163, n164, c165), ()), (x166, ()), (x167, t168, (a169, n170, c171), (a172, n173, c174), (a175, n176, c177), ()), ())
                )
              )
            ) (fun (((x187 : Int), (x188 : Int), ((a189 : Option Addr), (n190 : Nat), (c191 : Nat)), _), ((x192 : Int), (t193 : ByteArray), (t194 : ByteArray), (t195 : ByteArray), (t196 : ByteArray), (b197 : Bool), (x198 : Int), (x199 : Int), (x200 : Int), (t201 : ByteArray), ((a202 : Option Addr), (n203 : Nat), (c204 : Nat)), _), ((x205 : Int), (x206 : Int), ((a207 : Option Addr), (n208 : Nat), (c209 : Nat)), _), (((a210 : Option Addr), (n211 : Nat), (c212 : Nat)), _), ((x213 : Int), _), ((x214 : Int), (t215 : ByteArray), ((a216 : Option Addr), (n217 : Nat), (c218 : Nat)), ((a219 : Option Addr), (n220 : Nat), (c221 : Nat)), ((a222 : Option Addr), (n223 : Nat), (c224 : Nat)), _), _) =>
              π.call (54 : Nat) #[(Go.Value.agg #[(Go.Value.int (IntKind.i64) (x214)), (Go.Value.string (t215)), (Go.Value.slice (a216) (n217) (c218)), (Go.Value.slice (a219) (n220) (c221)), (Go.Value.slice (a222) (n223) (c224))]), (Go.Value.string (t194))] (false, [(false, [.int .i64])]) fun (((x225 : Int), _), _) =>
              π.join [(true, [.int .i64, .int .i64, .slice]), (true, [.int .i64, .str, .str, .str, .str, .bool, .int .i64, .int .i64, .int .i64, .str, .slice]), (true, [.int .i64, .int .i64, .slice]), (false, [.slice]), (false, [.int .i64]), (true, [.int .i64, .str, .slice, .slice, .slice]), (false, [.int .i64]), (false, [.bool])] (fun J226 =>
                π.ite (decide (x192 ≥ (6 : Int))) (
                  J226 ((x187, x188, (a189, n190, c191), ()), (x192, t193, t194, t195, t196, b197, x198, x199, x200, t201, (a202, n203, c204), ()), (x205, x206, (a207, n208, c209), ()), ((a210, n211, c212), ()), (x213, ()), (x214, t215, (a216, n217, c218), (a219, n220, c221), (a222, n223, c224), ()), (x225, ()), (decide (x225 ≥ (0 : Int)), ()), ())
                ) (
                  J226 ((x187, x188, (a189, n190, c191), ()), (x192, t193, t194, t195, t196, b197, x198, x199, x200, t201, (a202, n203, c204), ()), (x205, x206, (a207, n208, c209), ()), ((a210, n211, c212), ()), (x213, ()), (x214, t215, (a216, n217, c218), (a219, n220, c221), (a222, n223, c224), ()), (x225, ()), (false, ()), ())
                )
              ) (fun (((x227 : Int), (x228 : Int), ((a229 : Option Addr), (n230 : Nat), (c231 : Nat)), _), ((x232 : Int), (t233 : ByteArray), (t234 : ByteArray), (t235 : ByteArray), (t236 : ByteArray), (b237 : Bool), (x238 : Int), (x239 : Int), (x240 : Int), (t241 : ByteArray), ((a242 : Option Addr), (n243 : Nat), (c244 : Nat)), _), ((x245 : Int), (x246 : Int), ((a247 : Option Addr), (n248 : Nat), (c249 : Nat)), _), (((a250 : Option Addr), (n251 : Nat), (c252 : Nat)), _), ((x253 : Int), _), ((x254 : Int), (t255 : ByteArray), ((a256 : Option Addr), (n257 : Nat), (c258 : Nat)), ((a259 : Option Addr), (n260 : Nat), (c261 : Nat)), ((a262 : Option Addr), (n263 : Nat), (c264 : Nat)), _), ((x265 : Int), _), ((b266 : Bool), _), _) =>
                π.ite (b266) (
                  π.guard ((0 : Int) ≤ (0 : Int) ∧ (0 : Int) ≤ x265 ∧ x265 ≤ (↑c264 : Int)) <|
                  π.guard ((0 : Int) ≤ IntKind.i64.wrap (x265 + (1 : Int)) ∧ IntKind.i64.wrap (x265 + (1 : Int)) ≤ (↑n263 : Int) ∧ (↑n263 : Int) ≤ (↑c264 : Int)) <|
                  π.nw (Go.Obj.cells #[] (109 : Nat) ((0 : Nat), (0 : Nat))) fun r267 =>
                  π.app (109 : Nat) (5 : Nat) (48 : Nat) [(Go.Value.int (IntKind.i64) ((0 : Int))), (Go.Value.string (ByteArray.mk #[])), (Go.Value.int (IntKind.i64) ((0 : Int))), (Go.Value.int (IntKind.i64) ((0 : Int))), (Go.Value.int (IntKind.i64) ((0 : Int)))] (some (Addr.mk r267 (0 : Nat) none)) ((0 : Nat)) ((0 : Nat)) (Src.sl (if c264 = (0 : Nat) then a262 else Option.map (fun x => x.add (0 : Nat)) a262) (x265.toNat - (0 : Nat))) fun a268 n269 c270 =>
                  π.app (109 : Nat) (5 : Nat) (48 : Nat) [(Go.Value.int (IntKind.i64) ((0 : Int))), (Go.Value.string (ByteArray.mk #[])), (Go.Value.int (IntKind.i64) ((0 : Int))), (Go.Value.int (IntKind.i64) ((0 : Int))), (Go.Value.int (IntKind.i64) ((0 : Int)))] (a268) (n269) (c270) (Src.sl (if c264 = (IntKind.i64.wrap (x265 + (1 : Int))).toNat then a262 else Option.map (fun x => x.add ((IntKind.i64.wrap (x265 + (1 : Int))).toNat * (5 : Nat))) a262) ((↑n263 : Int).toNat - (IntKind.i64.wrap (x265 + (1 : Int))).toNat)) fun a271 n272 c273 =>
                  π.nw (Go.Obj.cells #[(Go.Value.int (IntKind.i64) (x254)), (Go.Value.string (t255)), (Go.Value.slice (a256) (n257) (c258)), (Go.Value.slice (a259) (n260) (c261)), (Go.Value.slice (a271) (n272) (c273))] (42 : Nat) ((0 : Nat), (0 : Nat))) fun r274 =>
                  π.app (42 : Nat) (5 : Nat) (96 : Nat) [(Go.Value.int (IntKind.i64) ((0 : Int))), (Go.Value.string (ByteArray.mk #[])), (Go.Value.slice (none) ((0 : Nat)) ((0 : Nat))), (Go.Value.slice (none) ((0 : Nat)) ((0 : Nat))), (Go.Value.slice (none) ((0 : Nat)) ((0 : Nat)))] (a250) (n251) (c252) (Src.sl (some (Addr.mk r274 (0 : Nat) none)) (1 : Nat)) fun a275 n276 c277 =>
                  again5 ((x227, x228, (a229, n230, c231), ()), (x232, t233, t234, t235, t236, b237, x238, x239, x240, t241, (a242, n243, c244), ()), (x245, x246, (a247, n248, c249), ()), ((a275, n276, c277), ()), (IntKind.i64.wrap (x253 + (1 : Int)), ()), ())
                ) (
                  π.nw (Go.Obj.cells #[(Go.Value.int (IntKind.i64) (x254)), (Go.Value.string (t255)), (Go.Value.slice (a256) (n257) (c258)), (Go.Value.slice (a259) (n260) (c261)), (Go.Value.slice (a262) (n263) (c264))] (42 : Nat) ((0 : Nat), (0 : Nat))) fun r278 =>
                  π.app (42 : Nat) (5 : Nat) (96 : Nat) [(Go.Value.int (IntKind.i64) ((0 : Int))), (Go.Value.string (ByteArray.mk #[])), (Go.Value.slice (none) ((0 : Nat)) ((0 : Nat))), (Go.Value.slice (none) ((0 : Nat)) ((0 : Nat))), (Go.Value.slice (none) ((0 : Nat)) ((0 : Nat)))] (a250) (n251) (c252) (Src.sl (some (Addr.mk r278 (0 : Nat) none)) (1 : Nat)) fun a279 n280 c281 =>
                  again5 ((x227, x228, (a229, n230, c231), ()), (x232, t233, t234, t235, t236, b237, x238, x239, x240, t241, (a242, n243, c244), ()), (x245, x246, (a247, n248, c249), ()), ((a279, n280, c281), ()), (IntKind.i64.wrap (x253 + (1 : Int)), ()), ())
                )
              )
            )
          )
        )
      )
    ) (
      π.ret (Go.Value.agg #[(Go.Value.int (IntKind.i64) ((0 : Int))), (Go.Value.int (IntKind.i64) ((0 : Int))), (Go.Value.slice (a29) (n30) (c31))])
    )

def ann_rWithout : Ann := { draws := [(12, { A := [1, 2, 3, 4, 6, 7, 8, 9, 10], chkL := [(5, [7])], eag := [12] }), (15, { A := [1, 2, 3, 4, 6, 7, 8, 9, 10], chkL := [(5, [7])], eag := [12] }), (18, { A := [1, 2, 3, 4, 6, 7, 8, 9, 10], chkL := [(5, [7])], eag := [12] })], join := [(12, [(2, 24), (3, 29), (4, 24), (5, 22), (6, 3), (7, 42), (8, 3), (52, 4)]), (13, [(2, 24), (3, 29), (4, 24), (5, 22), (6, 3), (7, 42)]), (15, [(2, 24), (3, 29), (4, 24), (5, 22), (6, 3), (7, 42), (9, 3), (81, 4)]), (16, [(2, 24), (3, 29), (4, 24), (5, 22), (6, 3), (7, 42)]), (18, [(2, 24), (3, 29), (4, 24), (5, 22), (6, 3), (7, 42), (10, 3), (105, 4)])], loop := [(4, [(2, 24), (3, 29), (4, 24), (5, 22), (6, 3)])] }
def la_rWithout : LA := { ptr := [(2, 2, 0), (3, 3, 0), (4, 4, 0), (7, 7, 0), (14, 2, 2), (20, 2, 2), (25, 7, 1), (27, 3, 1), (34, 3, 0), (38, 3, 3), (41, 3, 0), (45, 3, 0), (54, 7, 2), (59, 7, 2), (65, 7, 2), (67, 3, 2), (70, 3, 0), (74, 3, 0), (83, 7, 3), (88, 7, 3), (94, 7, 3), (96, 3, 2), (99, 3, 0), (107, 7, 4), (112, 7, 4), (118, 7, 4), (124, 2, 2), (125, 2, 0), (126, 2, 1)], ty := [(2, 24), (3, 29), (4, 24), (7, 42)] }
set_option maxRecDepth 100000 in
theorem eq_rWithout {W : Type} (π : Prims W) (sv sl : Int) (sa : Option Addr) (san sac : Nat) (dk : Int) (dt dn dc dp : ByteArray) (du : Bool) (dy vk vn : Int) (vs : ByteArray) (da : Option Addr) (dan dac : Nat) : bodyL π Try.prog la_rWithout ann_rWithout (mkFr (maskA [] [.v (.agg #[.int .i64 sv, .int .i64 sl, .slice sa san sac]), .v (.agg #[.int .i64 dk, .string dt, .string dn, .string dc, .string dp, .bool du, .int .i64 dy, .int .i64 vk, .int .i64 vn, .string vs, .slice da dan dac])] 0) 128) Try.f27 (bodyOf Try.f27) (mkFr (List.map some [.v (.agg #[.int .i64 sv, .int .i64 sl, .slice sa san sac]), .v (.agg #[.int .i64 dk, .string dt, .string dn, .string dc, .string dp, .bool du, .int .i64 dy, .int .i64 vk, .int .i64 vn, .string vs, .slice da dan dac])]) 128) = vc_rWithout π sv sl sa san sac dk dt dn dc dp du dy vk vn vs da dan dac := by kernel_rfl
theorem ok_rWithout (sv sl : Int) (sa : Option Addr) (san sac : Nat) (dk : Int) (dt dn dc dp : ByteArray) (du : Bool) (dy vk vn : Int) (vs : ByteArray) (da : Option Addr) (dan dac : Nat) (R : Value → PH → Prop) (s : PH) (h : vc_rWithout (RP Try.prog R) sv sl sa san sac dk dt dn dc dp du dy vk vn vs da dan dac s) : DCalls Try.prog 27 (List.map AV.val [.v (.agg #[.int .i64 sv, .int .i64 sl, .slice sa san sac]), .v (.agg #[.int .i64 dk, .string dt, .string dn, .string dc, .string dp, .bool du, .int .i64 dy, .int .i64 vk, .int .i64 vn, .string vs, .slice da dan dac])]).toArray s R :=
  calls_vcL (c := bodyOf Try.f27) (ann := ann_rWithout) la_rWithout (by kernel_rfl) Try.func27 rfl (by kernel_rfl) [.v (.agg #[.int .i64 sv, .int .i64 sl, .slice sa san sac]), .v (.agg #[.int .i64 dk, .string dt, .string dn, .string dc, .string dp, .bool du, .int .i64 dy, .int .i64 vk, .int .i64 vn, .string vs, .slice da dan dac])] [] (by rw [Try.ntmps27]; exact Nat.le_of_ble_eq_true rfl) (by kernel_rfl) (by rw [show Try.f27.ntmps = 128 from Try.ntmps27, eq_rWithout]; exact h)

/-- lintel/lintellaw15.Example -/
def vc_Example {W : Type} (π : Prims W) : W :=
  π.nw (Go.Obj.cells #[(Go.Value.int (IntKind.i64) ((0 : Int))), (Go.Value.string (ByteArray.mk #[(97 : UInt8)])), (Go.Value.int (IntKind.i64) ((1 : Int))), (Go.Value.int (IntKind.i64) ((0 : Int))), (Go.Value.int (IntKind.i64) ((0 : Int))), (Go.Value.int (IntKind.i64) ((0 : Int))), (Go.Value.string (ByteArray.mk #[])), (Go.Value.int (IntKind.i64) ((0 : Int))), (Go.Value.string (ByteArray.mk #[(98 : UInt8)])), (Go.Value.int (IntKind.i64) ((2 : Int))), (Go.Value.int (IntKind.i64) ((0 : Int))), (Go.Value.int (IntKind.i64) ((0 : Int))), (Go.Value.int (IntKind.i64) ((0 : Int))), (Go.Value.string (ByteArray.mk #[]))] (44 : Nat) ((0 : Nat), (0 : Nat))) fun r0 =>
  π.ret (Go.Value.agg #[(Go.Value.int (IntKind.i64) ((1 : Int))), (Go.Value.string (ByteArray.mk #[(116 : UInt8)])), (Go.Value.string (ByteArray.mk #[])), (Go.Value.string (ByteArray.mk #[])), (Go.Value.string (ByteArray.mk #[])), (Go.Value.bool (false)), (Go.Value.int (IntKind.i64) ((0 : Int))), (Go.Value.int (IntKind.i64) ((0 : Int))), (Go.Value.int (IntKind.i64) ((0 : Int))), (Go.Value.string (ByteArray.mk #[])), (Go.Value.slice (some (Addr.mk r0 (0 : Nat) none)) ((2 : Nat)) ((2 : Nat)))])

def ann_Example : Ann := { draws := [], join := [], loop := [] }
def la_Example : LA := { ptr := [(0, 0, 0)], ty := [(0, 29)] }
set_option maxRecDepth 100000 in
theorem eq_Example {W : Type} (π : Prims W) : bodyL π Try.prog la_Example ann_Example (mkFr (maskA [] [] 0) 5) Try.f37 (bodyOf Try.f37) (mkFr (List.map some []) 5) = vc_Example π := by kernel_rfl
theorem ok_Example (R : Value → PH → Prop) (s : PH) (h : vc_Example (RP Try.prog R) s) : DCalls Try.prog 37 (List.map AV.val []).toArray s R :=
  calls_vcL (c := bodyOf Try.f37) (ann := ann_Example) la_Example (by kernel_rfl) Try.func37 rfl (by kernel_rfl) [] [] (by rw [Try.ntmps37]; exact Nat.le_of_ble_eq_true rfl) (by kernel_rfl) (by rw [show Try.f37.ntmps = 5 from Try.ntmps37, eq_Example]; exact h)

/-- lintel/lintellaw15.awake -/
def vc_awake {W : Type} (π : Prims W) : W :=
  π.call (37 : Nat) #[] (false, [(true, [.int .i64, .str, .str, .str, .str, .bool, .int .i64, .int .i64, .int .i64, .str, .slice])]) fun (((x0 : Int), (t1 : ByteArray), (t2 : ByteArray), (t3 : ByteArray), (t4 : ByteArray), (b5 : Bool), (x6 : Int), (x7 : Int), (x8 : Int), (t9 : ByteArray), ((a10 : Option Addr), (n11 : Nat), (c12 : Nat)), _), _) =>
  π.call (14 : Nat) #[(Go.Value.agg #[(Go.Value.int (IntKind.i64) ((0 : Int))), (Go.Value.int (IntKind.i64) ((0 : Int))), (Go.Value.slice (none) ((0 : Nat)) ((0 : Nat)))]), (Go.Value.agg #[(Go.Value.int (IntKind.i64) (x0)), (Go.Value.string (t1)), (Go.Value.string (t2)), (Go.Value.string (t3)), (Go.Value.string (t4)), (Go.Value.bool (b5)), (Go.Value.int (IntKind.i64) (x6)), (Go.Value.int (IntKind.i64) (x7)), (Go.Value.int (IntKind.i64) (x8)), (Go.Value.string (t9)), (Go.Value.slice (a10) (n11) (c12))]), (Go.Value.int (IntKind.i64) ((3 : Int)))] (true, [(true, [.int .i64, .int .i64, .slice]), (false, [.int .i64])]) fun (((x13 : Int), (x14 : Int), ((a15 : Option Addr), (n16 : Nat), (c17 : Nat)), _), ((x18 : Int), _), _) =>
  π.call (14 : Nat) #[(Go.Value.agg #[(Go.Value.int (IntKind.i64) (x13)), (Go.Value.int (IntKind.i64) (x14)), (Go.Value.slice (a15) (n16) (c17))]), (Go.Value.agg #[(Go.Value.int (IntKind.i64) ((2 : Int))), (Go.Value.string (ByteArray.mk #[(116 : UInt8)])), (Go.Value.string (ByteArray.mk #[(105 : UInt8)])), (Go.Value.string (ByteArray.mk #[(98 : UInt8)])), (Go.Value.string (ByteArray.mk #[])), (Go.Value.bool (false)), (Go.Value.int (IntKind.i64) ((0 : Int))), (Go.Value.int (IntKind.i64) ((0 : Int))), (Go.Value.int (IntKind.i64) ((0 : Int))), (Go.Value.string (ByteArray.mk #[])), (Go.Value.slice (none) ((0 : Nat)) ((0 : Nat)))]), (Go.Value.int (IntKind.i64) ((1 : Int)))] (true, [(true, [.int .i64, .int .i64, .slice]), (false, [.int .i64])]) fun (((x19 : Int), (x20 : Int), ((a21 : Option Addr), (n22 : Nat), (c23 : Nat)), _), ((x24 : Int), _), _) =>
  π.call (14 : Nat) #[(Go.Value.agg #[(Go.Value.int (IntKind.i64) (x19)), (Go.Value.int (IntKind.i64) (x20)), (Go.Value.slice (a21) (n22) (c23))]), (Go.Value.agg #[(Go.Value.int (IntKind.i64) ((5 : Int))), (Go.Value.string (ByteArray.mk #[(116 : UInt8)])), (Go.Value.string (ByteArray.mk #[])), (Go.Value.string (ByteArray.mk #[(98 : UInt8)])), (Go.Value.string (ByteArray.mk #[])), (Go.Value.bool (false)), (Go.Value.int (IntKind.i64) ((0 : Int))), (Go.Value.int (IntKind.i64) ((0 : Int))), (Go.Value.int (IntKind.i64) ((0 : Int))), (Go.Value.string (ByteArray.mk #[])), (Go.Value.slice (none) ((0 : Nat)) ((0 : Nat)))]), (Go.Value.int (IntKind.i64) ((2 : Int)))] (true, [(true, [.int .i64, .int .i64, .slice]), (false, [.int .i64])]) fun (((x25 : Int), (x26 : Int), ((a27 : Option Addr), (n28 : Nat), (c29 : Nat)), _), ((x30 : Int), _), _) =>
  π.ite (x18 == (0 : Int)) (
    π.ite (x14 == (3 : Int)) (
      π.ite (x13 == (1 : Int)) (
        π.ite (x24 == (0 : Int)) (
          π.ite (x20 == (4 : Int)) (
            π.guard ((0 : Int) ≤ (0 : Int) ∧ (0 : Int) < (↑n22 : Int)) <|
            π.unSome (a21) fun p31 =>
            π.ld [.slice] ((p31.add (0 : Nat)).add (3 : Nat)) fun (((a32 : Option Addr), (n33 : Nat), (c34 : Nat)), _) =>
            π.ite ((↑n33 : Int) == (1 : Int)) (
              π.ite (x30 == (155 : Int)) (
                π.ret (Go.Value.bool (true))
              ) (
                π.ret (Go.Value.bool (false))
              )
            ) (
              π.ret (Go.Value.bool (false))
            )
          ) (
            π.ret (Go.Value.bool (false))
          )
        ) (
          π.ret (Go.Value.bool (false))
        )
      ) (
        π.ret (Go.Value.bool (false))
      )
    ) (
      π.ret (Go.Value.bool (false))
    )
  ) (
    π.ret (Go.Value.bool (false))
  )

def ann_awake : Ann := { draws := [], join := [], loop := [] }
def la_awake : LA := { ptr := [(1, 1, 0), (3, 3, 0), (5, 5, 0), (28, 1, 1), (33, 1, 0), (42, 3, 1), (47, 3, 2)], ty := [(1, 24), (3, 24), (5, 24)] }
set_option maxRecDepth 100000 in
theorem eq_awake {W : Type} (π : Prims W) : bodyL π Try.prog la_awake ann_awake (mkFr (maskA [] [] 0) 69) Try.f11 (bodyOf Try.f11) (mkFr (List.map some []) 69) = vc_awake π := by kernel_rfl
theorem ok_awake (R : Value → PH → Prop) (s : PH) (h : vc_awake (RP Try.prog R) s) : DCalls Try.prog 11 (List.map AV.val []).toArray s R :=
  calls_vcL (c := bodyOf Try.f11) (ann := ann_awake) la_awake (by kernel_rfl) Try.func11 rfl (by kernel_rfl) [] [] (by rw [Try.ntmps11]; exact Nat.le_of_ble_eq_true rfl) (by kernel_rfl) (by rw [show Try.f11.ntmps = 69 from Try.ntmps11, eq_awake]; exact h)

/-- lintel/lintellaw15.great -/
def vc_great {W : Type} (π : Prims W) (sv sl : Int) (sa : Option Addr) (san sac : Nat) (dk : Int) (dt dn dc dp : ByteArray) (du : Bool) (dy vk vn : Int) (vs : ByteArray) (da : Option Addr) (dan dac : Nat) : W :=
  π.loop [(false, [.int .i64]), (false, [.slice]), (false, [.int .i64]), (false, [.int .i64])] ((IntKind.i64.wrap ((↑san : Int) + (↑dan : Int)), ()), ((sa, san, sac), ()), ((↑san : Int), ()), ((0 : Int), ()), ()) fun (((x1 : Int), _), (((a2 : Option Addr), (n3 : Nat), (c4 : Nat)), _), ((x5 : Int), _), ((x6 : Int), _), _) again0 =>
    π.ite (decide (x6 < x5)) (
      π.guard ((0 : Int) ≤ x6 ∧ x6 < (↑n3 : Int)) <|
      π.unSome (a2) fun p7 =>
      π.ld [.int .i64, .str, .slice, .slice, .slice] (p7.add (x6.toNat * (5 : Nat))) fun ((x8 : Int), (t9 : ByteArray), ((a10 : Option Addr), (n11 : Nat), (c12 : Nat)), ((a13 : Option Addr), (n14 : Nat), (c15 : Nat)), ((a16 : Option Addr), (n17 : Nat), (c18 : Nat)), _) =>
      π.ite (decide (IntKind.i64.wrap (x1 + IntKind.i64.wrap (IntKind.i64.wrap ((↑n11 : Int) + (↑n14 : Int)) + (↑n17 : Int))) > (300 : Int))) (
        π.ret (Go.Value.bool (true))
      ) (
        again0 ((IntKind.i64.wrap (x1 + IntKind.i64.wrap (IntKind.i64.wrap ((↑n11 : Int) + (↑n14 : Int)) + (↑n17 : Int))), ()), ((a2, n3, c4), ()), (x5, ()), (IntKind.i64.wrap (x6 + (1 : Int)), ()), ())
      )
    ) (
      π.ret (Go.Value.bool (decide (x1 > (300 : Int))))
    )

def ann_great : Ann := { draws := [], join := [], loop := [(3, [(5, 3), (16, 22), (17, 3), (18, 3)])] }
def la_great : LA := { ptr := [(2, 2, 0), (3, 3, 0), (7, 7, 0), (8, 2, 2), (11, 3, 10), (15, 2, 2), (23, 7, 2), (26, 7, 3), (30, 7, 4)], ty := [(2, 24), (3, 29), (7, 42)] }
set_option maxRecDepth 100000 in
theorem eq_great {W : Type} (π : Prims W) (sv sl : Int) (sa : Option Addr) (san sac : Nat) (dk : Int) (dt dn dc dp : ByteArray) (du : Bool) (dy vk vn : Int) (vs : ByteArray) (da : Option Addr) (dan dac : Nat) : bodyL π Try.prog la_great ann_great (mkFr (maskA [] [.v (.agg #[.int .i64 sv, .int .i64 sl, .slice sa san sac]), .v (.agg #[.int .i64 dk, .string dt, .string dn, .string dc, .string dp, .bool du, .int .i64 dy, .int .i64 vk, .int .i64 vn, .string vs, .slice da dan dac])] 0) 40) Try.f12 (bodyOf Try.f12) (mkFr (List.map some [.v (.agg #[.int .i64 sv, .int .i64 sl, .slice sa san sac]), .v (.agg #[.int .i64 dk, .string dt, .string dn, .string dc, .string dp, .bool du, .int .i64 dy, .int .i64 vk, .int .i64 vn, .string vs, .slice da dan dac])]) 40) = vc_great π sv sl sa san sac dk dt dn dc dp du dy vk vn vs da dan dac := by kernel_rfl
theorem ok_great (sv sl : Int) (sa : Option Addr) (san sac : Nat) (dk : Int) (dt dn dc dp : ByteArray) (du : Bool) (dy vk vn : Int) (vs : ByteArray) (da : Option Addr) (dan dac : Nat) (R : Value → PH → Prop) (s : PH) (h : vc_great (RP Try.prog R) sv sl sa san sac dk dt dn dc dp du dy vk vn vs da dan dac s) : DCalls Try.prog 12 (List.map AV.val [.v (.agg #[.int .i64 sv, .int .i64 sl, .slice sa san sac]), .v (.agg #[.int .i64 dk, .string dt, .string dn, .string dc, .string dp, .bool du, .int .i64 dy, .int .i64 vk, .int .i64 vn, .string vs, .slice da dan dac])]).toArray s R :=
  calls_vcL (c := bodyOf Try.f12) (ann := ann_great) la_great (by kernel_rfl) Try.func12 rfl (by kernel_rfl) [.v (.agg #[.int .i64 sv, .int .i64 sl, .slice sa san sac]), .v (.agg #[.int .i64 dk, .string dt, .string dn, .string dc, .string dp, .bool du, .int .i64 dy, .int .i64 vk, .int .i64 vn, .string vs, .slice da dan dac])] [] (by rw [Try.ntmps12]; exact Nat.le_of_ble_eq_true rfl) (by kernel_rfl) (by rw [show Try.f12.ntmps = 40 from Try.ntmps12, eq_great]; exact h)

/-- lintel/lintellaw15.walked -/
def vc_walked {W : Type} (π : Prims W) (sv sl : Int) (sa : Option Addr) (san sac : Nat) (dk : Int) (dt dn dc dp : ByteArray) (du : Bool) (dy vk vn : Int) (vs : ByteArray) (da : Option Addr) (dan dac : Nat) (m : Option Addr) (mn mc : Nat) : W :=
  π.nw (Go.Obj.cells #[(Go.Value.int (IntKind.i64) (sv)), (Go.Value.int (IntKind.i64) (sl)), (Go.Value.slice (sa) (san) (sac))] (24 : Nat) ((0 : Nat), (0 : Nat))) fun r0 =>
  π.loop [(true, [.int .i64, .int .i64, .slice]), (true, [.int .i64, .str, .str, .str, .str, .bool, .int .i64, .int .i64, .int .i64, .str, .slice]), (false, [.slice]), (false, [.slice]), (false, [.int .i64]), (false, [.int .i64])] ((sv, sl, (sa, san, sac), ()), (dk, dt, dn, dc, dp, du, dy, vk, vn, vs, (da, dan, dac), ()), ((some (Addr.mk r0 (0 : Nat) none), (1 : Nat), (1 : Nat)), ()), ((m, mn, mc), ()), ((↑mn : Int), ()), ((0 : Int), ()), ()) fun (((x2 : Int), (x3 : Int), ((a4 : Option Addr), (n5 : Nat), (c6 : Nat)), _), ((x7 : Int), (t8 : ByteArray), (t9 : ByteArray), (t10 : ByteArray), (t11 : ByteArray), (b12 : Bool), (x13 : Int), (x14 : Int), (x15 : Int), (t16 : ByteArray), ((a17 : Option Addr), (n18 : Nat), (c19 : Nat)), _), (((a20 : Option Addr), (n21 : Nat), (c22 : Nat)), _), (((a23 : Option Addr), (n24 : Nat), (c25 : Nat)), _), ((x26 : Int), _), ((x27 : Int), _), _) again1 =>
    π.ite (decide (x27 < x26)) (
      π.guard ((0 : Int) ≤ x27 ∧ x27 < (↑n24 : Int)) <|
      π.unSome (a23) fun p28 =>
      π.ld [.int .i64, .int .i64] (p28.add (x27.toNat * (2 : Nat))) fun ((x29 : Int), (x30 : Int), _) =>
      π.join [(true, [.int .i64, .int .i64, .slice]), (true, [.int .i64, .str, .str, .str, .str, .bool, .int .i64, .int .i64, .int .i64, .str, .slice]), (false, [.slice]), (true, [.int .i64, .int .i64]), (false, [.slice]), (false, [.int .i64]), (false, [.int .i64]), (false, [.bool])] (fun J31 =>
        π.ite (x29 == (1 : Int)) (
          J31 ((x2, x3, (a4, n5, c6), ()), (x7, t8, t9, t10, t11, b12, x13, x14, x15, t16, (a17, n18, c19), ()), ((a20, n21, c22), ()), (x29, x30, ()), ((a23, n24, c25), ()), (x26, ()), (x27, ()), (true, ()), ())
        ) (
          J31 ((x2, x3, (a4, n5, c6), ()), (x7, t8, t9, t10, t11, b12, x13, x14, x15, t16, (a17, n18, c19), ()), ((a20, n21, c22), ()), (x29, x30, ()), ((a23, n24, c25), ()), (x26, ()), (x27, ()), (x29 == (2 : Int), ()), ())
        )
      ) (fun (((x32 : Int), (x33 : Int), ((a34 : Option Addr), (n35 : Nat), (c36 : Nat)), _), ((x37 : Int), (t38 : ByteArray), (t39 : ByteArray), (t40 : ByteArray), (t41 : ByteArray), (b42 : Bool), (x43 : Int), (x44 : Int), (x45 : Int), (t46 : ByteArray), ((a47 : Option Addr), (n48 : Nat), (c49 : Nat)), _), (((a50 : Option Addr), (n51 : Nat), (c52 : Nat)), _), ((x53 : Int), (x54 : Int), _), (((a55 : Option Addr), (n56 : Nat), (c57 : Nat)), _), ((x58 : Int), _), ((x59 : Int), _), ((b60 : Bool), _), _) =>
        π.ite (b60) (
          π.call (14 : Nat) #[(Go.Value.agg #[(Go.Value.int (IntKind.i64) (x32)), (Go.Value.int (IntKind.i64) (x33)), (Go.Value.slice (a34) (n35) (c36))]), (Go.Value.agg #[(Go.Value.int (IntKind.i64) (x37)), (Go.Value.string (t38)), (Go.Value.string (t39)), (Go.Value.string (t40)), (Go.Value.string (t41)), (Go.Value.bool (b42)), (Go.Value.int (IntKind.i64) (x43)), (Go.Value.int (IntKind.i64) (x44)), (Go.Value.int (IntKind.i64) (x45)), (Go.Value.string (t46)), (Go.Value.slice (a47) (n48) (c49))]), (Go.Value.int (IntKind.i64) (x54))] (true, [(true, [.int .i64, .int .i64, .slice]), (false, [.int .i64])]) fun (((x61 : Int), (x62 : Int), ((a63 : Option Addr), (n64 : Nat), (c65 : Nat)), _), ((x66 : Int), _), _) =>
          π.ite (x66 != (0 : Int)) (
            π.ret (Go.Value.tuple #[(Go.Value.slice (a50) (n51) (c52)), (Go.Value.bool (false))])
          ) (
            π.nw (Go.Obj.cells #[(Go.Value.int (IntKind.i64) (x61)), (Go.Value.int (IntKind.i64) (x62)), (Go.Value.slice (a63) (n64) (c65))] (24 : Nat) ((0 : Nat), (0 : Nat))) fun r67 =>
            π.app (24 : Nat) (3 : Nat) (40 : Nat) [(Go.Value.int (IntKind.i64) ((0 : Int))), (Go.Value.int (IntKind.i64) ((0 : Int))), (Go.Value.slice (none) ((0 : Nat)) ((0 : Nat)))] (a50) (n51) (c52) (Src.sl (some (Addr.mk r67 (0 : Nat) none)) (1 : Nat)) fun a68 n69 c70 =>
            again1 ((x61, x62, (a63, n64, c65), ()), (x37, t38, t39, t40, t41, b42, x43, x44, x45, t46, (a47, n48, c49), ()), ((a68, n69, c70), ()), ((a55, n56, c57), ()), (x58, ()), (IntKind.i64.wrap (x59 + (1 : Int)), ()), ())
          )
        ) (
          π.nw (Go.Obj.cells #[(Go.Value.int (IntKind.i64) (x32)), (Go.Value.int (IntKind.i64) (x33)), (Go.Value.slice (a34) (n35) (c36))] (24 : Nat) ((0 : Nat), (0 : Nat))) fun r71 =>
          π.app (24 : Nat) (3 : Nat) (40 : Nat) [(Go.Value.int (IntKind.i64) ((0 : Int))), (Go.Value.int (IntKind.i64) ((0 : Int))), (Go.Value.slice (none) ((0 : Nat)) ((0 : Nat)))] (a50) (n51) (c52) (Src.sl (some (Addr.mk r71 (0 : Nat) none)) (1 : Nat)) fun a72 n73 c74 =>
          again1 ((x32, x33, (a34, n35, c36), ()), (x37, t38, t39, t40, t41, b42, x43, x44, x45, t46, (a47, n48, c49), ()), ((a72, n73, c74), ()), ((a55, n56, c57), ()), (x58, ()), (IntKind.i64.wrap (x59 + (1 : Int)), ()), ())
        )
      )
    ) (
      π.ret (Go.Value.tuple #[(Go.Value.slice (a20) (n21) (c22)), (Go.Value.bool (true))])
    )

def ann_walked : Ann := { draws := [], join := [(6, [(3, 24), (4, 29), (8, 59), (10, 56), (15, 52), (16, 3), (17, 3), (28, 4)])], loop := [(3, [(3, 24), (4, 29), (8, 59), (15, 52), (16, 3), (17, 3)])] }
def la_walked : LA := { ptr := [(3, 3, 0), (4, 4, 0), (10, 10, 0), (11, 11, 0), (21, 10, 0), (25, 10, 0), (32, 10, 1)], ty := [(3, 24), (4, 29), (10, 56), (11, 24)] }
set_option maxRecDepth 100000 in
theorem eq_walked {W : Type} (π : Prims W) (sv sl : Int) (sa : Option Addr) (san sac : Nat) (dk : Int) (dt dn dc dp : ByteArray) (du : Bool) (dy vk vn : Int) (vs : ByteArray) (da : Option Addr) (dan dac : Nat) (m : Option Addr) (mn mc : Nat) : bodyL π Try.prog la_walked ann_walked (mkFr (maskA [] [.v (.agg #[.int .i64 sv, .int .i64 sl, .slice sa san sac]), .v (.agg #[.int .i64 dk, .string dt, .string dn, .string dc, .string dp, .bool du, .int .i64 dy, .int .i64 vk, .int .i64 vn, .string vs, .slice da dan dac]), .v (.slice m mn mc)] 0) 47) Try.f26 (bodyOf Try.f26) (mkFr (List.map some [.v (.agg #[.int .i64 sv, .int .i64 sl, .slice sa san sac]), .v (.agg #[.int .i64 dk, .string dt, .string dn, .string dc, .string dp, .bool du, .int .i64 dy, .int .i64 vk, .int .i64 vn, .string vs, .slice da dan dac]), .v (.slice m mn mc)]) 47) = vc_walked π sv sl sa san sac dk dt dn dc dp du dy vk vn vs da dan dac m mn mc := by kernel_rfl
theorem ok_walked (sv sl : Int) (sa : Option Addr) (san sac : Nat) (dk : Int) (dt dn dc dp : ByteArray) (du : Bool) (dy vk vn : Int) (vs : ByteArray) (da : Option Addr) (dan dac : Nat) (m : Option Addr) (mn mc : Nat) (R : Value → PH → Prop) (s : PH) (h : vc_walked (RP Try.prog R) sv sl sa san sac dk dt dn dc dp du dy vk vn vs da dan dac m mn mc s) : DCalls Try.prog 26 (List.map AV.val [.v (.agg #[.int .i64 sv, .int .i64 sl, .slice sa san sac]), .v (.agg #[.int .i64 dk, .string dt, .string dn, .string dc, .string dp, .bool du, .int .i64 dy, .int .i64 vk, .int .i64 vn, .string vs, .slice da dan dac]), .v (.slice m mn mc)]).toArray s R :=
  calls_vcL (c := bodyOf Try.f26) (ann := ann_walked) la_walked (by kernel_rfl) Try.func26 rfl (by kernel_rfl) [.v (.agg #[.int .i64 sv, .int .i64 sl, .slice sa san sac]), .v (.agg #[.int .i64 dk, .string dt, .string dn, .string dc, .string dp, .bool du, .int .i64 dy, .int .i64 vk, .int .i64 vn, .string vs, .slice da dan dac]), .v (.slice m mn mc)] [] (by rw [Try.ntmps26]; exact Nat.le_of_ble_eq_true rfl) (by kernel_rfl) (by rw [show Try.f26.ntmps = 47 from Try.ntmps26, eq_walked]; exact h)

/-- lintel/lintellaw15.SchemaTurns -/
def vc_SchemaTurns {W : Type} (π : Prims W) (sv sl : Int) (sa : Option Addr) (san sac : Nat) (dk : Int) (dt dn dc dp : ByteArray) (du : Bool) (dy vk vn : Int) (vs : ByteArray) (da : Option Addr) (dan dac : Nat) (state : Int) : W :=
  π.join [(true, [.int .i64, .int .i64, .slice]), (true, [.int .i64, .str, .str, .str, .str, .bool, .int .i64, .int .i64, .int .i64, .str, .slice])] (fun J0 =>
    π.call (11 : Nat) #[] (false, [(false, [.bool])]) fun (((b1 : Bool), _), _) =>
    π.ite (!b1) (
      π.call (11 : Nat) #[] (false, [(false, [.bool])]) fun (((b2 : Bool), _), _) =>
      π.ret (Go.Value.bool (b2))
    ) (
      π.call (12 : Nat) #[(Go.Value.agg #[(Go.Value.int (IntKind.i64) (sv)), (Go.Value.int (IntKind.i64) (sl)), (Go.Value.slice (sa) (san) (sac))]), (Go.Value.agg #[(Go.Value.int (IntKind.i64) (dk)), (Go.Value.string (dt)), (Go.Value.string (dn)), (Go.Value.string (dc)), (Go.Value.string (dp)), (Go.Value.bool (du)), (Go.Value.int (IntKind.i64) (dy)), (Go.Value.int (IntKind.i64) (vk)), (Go.Value.int (IntKind.i64) (vn)), (Go.Value.string (vs)), (Go.Value.slice (da) (dan) (dac))])] (false, [(false, [.bool])]) fun (((b3 : Bool), _), _) =>
      π.ite (b3) (
        π.call (11 : Nat) #[] (false, [(false, [.bool])]) fun (((b4 : Bool), _), _) =>
        π.ret (Go.Value.bool (b4))
      ) (
        J0 ((sv, sl, (sa, san, sac), ()), (dk, dt, dn, dc, dp, du, dy, vk, vn, vs, (da, dan, dac), ()), ())
      )
    )
  ) (fun (((x5 : Int), (x6 : Int), ((a7 : Option Addr), (n8 : Nat), (c9 : Nat)), _), ((x10 : Int), (t11 : ByteArray), (t12 : ByteArray), (t13 : ByteArray), (t14 : ByteArray), (b15 : Bool), (x16 : Int), (x17 : Int), (x18 : Int), (t19 : ByteArray), ((a20 : Option Addr), (n21 : Nat), (c22 : Nat)), _), _) =>
    π.call (13 : Nat) #[(Go.Value.agg #[(Go.Value.int (IntKind.i64) (x5)), (Go.Value.int (IntKind.i64) (x6)), (Go.Value.slice (a7) (n8) (c9))])] (false, [(true, [.int .i64, .int .i64, .slice])]) fun (((x23 : Int), (x24 : Int), ((a25 : Option Addr), (n26 : Nat), (c27 : Nat)), _), _) =>
    π.call (14 : Nat) #[(Go.Value.agg #[(Go.Value.int (IntKind.i64) (x23)), (Go.Value.int (IntKind.i64) (x24)), (Go.Value.slice (a25) (n26) (c27))]), (Go.Value.agg #[(Go.Value.int (IntKind.i64) (x10)), (Go.Value.string (t11)), (Go.Value.string (t12)), (Go.Value.string (t13)), (Go.Value.string (t14)), (Go.Value.bool (b15)), (Go.Value.int (IntKind.i64) (x16)), (Go.Value.int (IntKind.i64) (x17)), (Go.Value.int (IntKind.i64) (x18)), (Go.Value.string (t19)), (Go.Value.slice (a20) (n21) (c22))]), (Go.Value.int (IntKind.i64) (state))] (true, [(true, [.int .i64, .int .i64, .slice]), (false, [.int .i64])]) fun (((x28 : Int), (x29 : Int), ((a30 : Option Addr), (n31 : Nat), (c32 : Nat)), _), ((x33 : Int), _), _) =>
    π.call (15 : Nat) #[(Go.Value.agg #[(Go.Value.int (IntKind.i64) (x5)), (Go.Value.int (IntKind.i64) (x6)), (Go.Value.slice (a7) (n8) (c9))]), (Go.Value.agg #[(Go.Value.int (IntKind.i64) (x10)), (Go.Value.string (t11)), (Go.Value.string (t12)), (Go.Value.string (t13)), (Go.Value.string (t14)), (Go.Value.bool (b15)), (Go.Value.int (IntKind.i64) (x16)), (Go.Value.int (IntKind.i64) (x17)), (Go.Value.int (IntKind.i64) (x18)), (Go.Value.string (t19)), (Go.Value.slice (a20) (n21) (c22))]), (Go.Value.int (IntKind.i64) (state))] (true, [(true, [.int .i64, .int .i64, .slice]), (false, [.int .i64])]) fun (((x34 : Int), (x35 : Int), ((a36 : Option Addr), (n37 : Nat), (c38 : Nat)), _), ((x39 : Int), _), _) =>
    π.join [(true, [.int .i64, .int .i64, .slice]), (true, [.int .i64, .int .i64, .slice]), (true, [.int .i64, .int .i64, .slice])] (fun J40 =>
      π.ite (x33 != x39) (
        π.ret (Go.Value.bool (false))
      ) (
        π.call (16 : Nat) #[(Go.Value.agg #[(Go.Value.int (IntKind.i64) (x28)), (Go.Value.int (IntKind.i64) (x29)), (Go.Value.slice (a30) (n31) (c32))]), (Go.Value.agg #[(Go.Value.int (IntKind.i64) (x34)), (Go.Value.int (IntKind.i64) (x35)), (Go.Value.slice (a36) (n37) (c38))])] (false, [(false, [.bool])]) fun (((b41 : Bool), _), _) =>
        π.ite (!b41) (
          π.ret (Go.Value.bool (false))
        ) (
          π.call (16 : Nat) #[(Go.Value.agg #[(Go.Value.int (IntKind.i64) (x23)), (Go.Value.int (IntKind.i64) (x24)), (Go.Value.slice (a25) (n26) (c27))]), (Go.Value.agg #[(Go.Value.int (IntKind.i64) (x5)), (Go.Value.int (IntKind.i64) (x6)), (Go.Value.slice (a7) (n8) (c9))])] (false, [(false, [.bool])]) fun (((b42 : Bool), _), _) =>
          π.ite (!b42) (
            π.ret (Go.Value.bool (false))
          ) (
            J40 ((x5, x6, (a7, n8, c9), ()), (x23, x24, (a25, n26, c27), ()), (x28, x29, (a30, n31, c32), ()), ())
          )
        )
      )
    ) (fun (((x43 : Int), (x44 : Int), ((a45 : Option Addr), (n46 : Nat), (c47 : Nat)), _), ((x48 : Int), (x49 : Int), ((a50 : Option Addr), (n51 : Nat), (c52 : Nat)), _), ((x53 : Int), (x54 : Int), ((a55 : Option Addr), (n56 : Nat), (c57 : Nat)), _), _) =>
      π.loop [(true, [.int .i64, .int .i64, .slice]), (true, [.int .i64, .int .i64, .slice]), (true, [.int .i64, .int .i64, .slice]), (false, [.int .i64]), (false, [.int .i64])] ((x43, x44, (a45, n46, c47), ()), (x48, x49, (a50, n51, c52), ()), (x53, x54, (a55, n56, c57), ()), ((↑n56 : Int), ()), ((0 : Int), ()), ()) fun (((x59 : Int), (x60 : Int), ((a61 : Option Addr), (n62 : Nat), (c63 : Nat)), _), ((x64 : Int), (x65 : Int), ((a66 : Option Addr), (n67 : Nat), (c68 : Nat)), _), ((x69 : Int), (x70 : Int), ((a71 : Option Addr), (n72 : Nat), (c73 : Nat)), _), ((x74 : Int), _), ((x75 : Int), _), _) again58 =>
        π.ite (decide (x75 < x74)) (
          π.guard ((0 : Int) ≤ x75 ∧ x75 < (↑n72 : Int)) <|
          π.unSome (a71) fun p76 =>
          π.ld [.slice] ((p76.add (x75.toNat * (5 : Nat))).add (2 : Nat)) fun (((a77 : Option Addr), (n78 : Nat), (c79 : Nat)), _) =>
          π.loop [(true, [.int .i64, .int .i64, .slice]), (true, [.int .i64, .int .i64, .slice]), (true, [.int .i64, .int .i64, .slice]), (false, [.int .i64]), (false, [.int .i64]), (false, [.int .i64]), (false, [.int .i64]), (false, [.int .i64])] ((x59, x60, (a61, n62, c63), ()), (x64, x65, (a66, n67, c68), ()), (x69, x70, (a71, n72, c73), ()), (x75, ()), (x74, ()), (x75, ()), ((↑n78 : Int), ()), ((0 : Int), ()), ()) fun (((x81 : Int), (x82 : Int), ((a83 : Option Addr), (n84 : Nat), (c85 : Nat)), _), ((x86 : Int), (x87 : Int), ((a88 : Option Addr), (n89 : Nat), (c90 : Nat)), _), ((x91 : Int), (x92 : Int), ((a93 : Option Addr), (n94 : Nat), (c95 : Nat)), _), ((x96 : Int), _), ((x97 : Int), _), ((x98 : Int), _), ((x99 : Int), _), ((x100 : Int), _), _) again80 =>
            π.ite (decide (x100 < x99)) (
              π.guard ((0 : Int) ≤ x96 ∧ x96 < (↑n94 : Int)) <|
              π.unSome (a93) fun p101 =>
              π.ld [.slice] ((p101.add (x96.toNat * (5 : Nat))).add (2 : Nat)) fun (((a102 : Option Addr), (n103 : Nat), (c104 : Nat)), _) =>
              π.guard ((0 : Int) ≤ x100 ∧ x100 < (↑n103 : Int)) <|
              π.unSome (a102) fun p105 =>
              π.st ((p105.add (x100.toNat * (7 : Nat))).add (1 : Nat)) [(Go.Value.string (ByteArray.mk #[(115 : UInt8), (112 : UInt8), (111 : UInt8), (105 : UInt8), (108 : UInt8), (116 : UInt8)]))] <|
              again80 ((x81, x82, (a83, n84, c85), ()), (x86, x87, (a88, n89, c90), ()), (x91, x92, (a93, n94, c95), ()), (x96, ()), (x97, ()), (x98, ()), (x99, ()), (IntKind.i64.wrap (x100 + (1 : Int)), ()), ())
            ) (
              again58 ((x81, x82, (a83, n84, c85), ()), (x86, x87, (a88, n89, c90), ()), (x91, x92, (a93, n94, c95), ()), (x97, ()), (IntKind.i64.wrap (x98 + (1 : Int)), ()), ())
            )
        ) (
          π.call (16 : Nat) #[(Go.Value.agg #[(Go.Value.int (IntKind.i64) (x64)), (Go.Value.int (IntKind.i64) (x65)), (Go.Value.slice (a66) (n67) (c68))]), (Go.Value.agg #[(Go.Value.int (IntKind.i64) (x59)), (Go.Value.int (IntKind.i64) (x60)), (Go.Value.slice (a61) (n62) (c63))])] (false, [(false, [.bool])]) fun (((b106 : Bool), _), _) =>
          π.ret (Go.Value.bool (b106))
        )
    )
  )

def ann_SchemaTurns : Ann := { draws := [], join := [(3, [(3, 24), (4, 29)]), (8, [(3, 24), (7, 24), (8, 24)])], loop := [(9, [(3, 24), (7, 24), (8, 24), (55, 3), (56, 3)]), (12, [(3, 24), (7, 24), (8, 24), (12, 3), (55, 3), (56, 3), (65, 3), (66, 3)])] }
def la_SchemaTurns : LA := { ptr := [(3, 3, 0), (4, 4, 0), (7, 7, 0), (8, 8, 0), (10, 10, 0), (53, 8, 2), (59, 8, 2), (69, 8, 2)], ty := [(3, 24), (4, 29), (7, 24), (8, 24), (10, 24)] }
set_option maxRecDepth 100000 in
theorem eq_SchemaTurns {W : Type} (π : Prims W) (sv sl : Int) (sa : Option Addr) (san sac : Nat) (dk : Int) (dt dn dc dp : ByteArray) (du : Bool) (dy vk vn : Int) (vs : ByteArray) (da : Option Addr) (dan dac : Nat) (state : Int) : bodyL π Try.prog la_SchemaTurns ann_SchemaTurns (mkFr (maskA [] [.v (.agg #[.int .i64 sv, .int .i64 sl, .slice sa san sac]), .v (.agg #[.int .i64 dk, .string dt, .string dn, .string dc, .string dp, .bool du, .int .i64 dy, .int .i64 vk, .int .i64 vn, .string vs, .slice da dan dac]), .v (.int .i64 state)] 0) 83) Try.f3 (bodyOf Try.f3) (mkFr (List.map some [.v (.agg #[.int .i64 sv, .int .i64 sl, .slice sa san sac]), .v (.agg #[.int .i64 dk, .string dt, .string dn, .string dc, .string dp, .bool du, .int .i64 dy, .int .i64 vk, .int .i64 vn, .string vs, .slice da dan dac]), .v (.int .i64 state)]) 83) = vc_SchemaTurns π sv sl sa san sac dk dt dn dc dp du dy vk vn vs da dan dac state := by kernel_rfl
theorem ok_SchemaTurns (sv sl : Int) (sa : Option Addr) (san sac : Nat) (dk : Int) (dt dn dc dp : ByteArray) (du : Bool) (dy vk vn : Int) (vs : ByteArray) (da : Option Addr) (dan dac : Nat) (state : Int) (R : Value → PH → Prop) (s : PH) (h : vc_SchemaTurns (RP Try.prog R) sv sl sa san sac dk dt dn dc dp du dy vk vn vs da dan dac state s) : DCalls Try.prog 3 (List.map AV.val [.v (.agg #[.int .i64 sv, .int .i64 sl, .slice sa san sac]), .v (.agg #[.int .i64 dk, .string dt, .string dn, .string dc, .string dp, .bool du, .int .i64 dy, .int .i64 vk, .int .i64 vn, .string vs, .slice da dan dac]), .v (.int .i64 state)]).toArray s R :=
  calls_vcL (c := bodyOf Try.f3) (ann := ann_SchemaTurns) la_SchemaTurns (by kernel_rfl) Try.func3 rfl (by kernel_rfl) [.v (.agg #[.int .i64 sv, .int .i64 sl, .slice sa san sac]), .v (.agg #[.int .i64 dk, .string dt, .string dn, .string dc, .string dp, .bool du, .int .i64 dy, .int .i64 vk, .int .i64 vn, .string vs, .slice da dan dac]), .v (.int .i64 state)] [] (by rw [Try.ntmps3]; exact Nat.le_of_ble_eq_true rfl) (by kernel_rfl) (by rw [show Try.f3.ntmps = 83 from Try.ntmps3, eq_SchemaTurns]; exact h)

/-- lintel/lintellaw15.SchemaChecks -/
def vc_SchemaChecks {W : Type} (π : Prims W) (sv sl : Int) (sa : Option Addr) (san sac : Nat) (name : ByteArray) : W :=
  π.join [(true, [.int .i64, .int .i64, .slice])] (fun J0 =>
    π.call (11 : Nat) #[] (false, [(false, [.bool])]) fun (((b1 : Bool), _), _) =>
    π.ite (!b1) (
      π.call (11 : Nat) #[] (false, [(false, [.bool])]) fun (((b2 : Bool), _), _) =>
      π.ret (Go.Value.bool (b2))
    ) (
      π.call (12 : Nat) #[(Go.Value.agg #[(Go.Value.int (IntKind.i64) (sv)), (Go.Value.int (IntKind.i64) (sl)), (Go.Value.slice (sa) (san) (sac))]), (Go.Value.agg #[(Go.Value.int (IntKind.i64) ((0 : Int))), (Go.Value.string (ByteArray.mk #[])), (Go.Value.string (ByteArray.mk #[])), (Go.Value.string (ByteArray.mk #[])), (Go.Value.string (ByteArray.mk #[])), (Go.Value.bool (false)), (Go.Value.int (IntKind.i64) ((0 : Int))), (Go.Value.int (IntKind.i64) ((0 : Int))), (Go.Value.int (IntKind.i64) ((0 : Int))), (Go.Value.string (ByteArray.mk #[])), (Go.Value.slice (none) ((0 : Nat)) ((0 : Nat)))])] (false, [(false, [.bool])]) fun (((b3 : Bool), _), _) =>
      π.ite (b3) (
        π.call (11 : Nat) #[] (false, [(false, [.bool])]) fun (((b4 : Bool), _), _) =>
        π.ret (Go.Value.bool (b4))
      ) (
        J0 ((sv, sl, (sa, san, sac), ()), ())
      )
    )
  ) (fun (((x5 : Int), (x6 : Int), ((a7 : Option Addr), (n8 : Nat), (c9 : Nat)), _), _) =>
    π.call (17 : Nat) #[(Go.Value.agg #[(Go.Value.int (IntKind.i64) (x5)), (Go.Value.int (IntKind.i64) (x6)), (Go.Value.slice (a7) (n8) (c9))]), (Go.Value.string (name))] (true, [(true, [.int .i64, .str, .slice, .slice, .slice]), (false, [.bool])]) fun (((x10 : Int), (t11 : ByteArray), ((a12 : Option Addr), (n13 : Nat), (c14 : Nat)), ((a15 : Option Addr), (n16 : Nat), (c17 : Nat)), ((a18 : Option Addr), (n19 : Nat), (c20 : Nat)), _), ((b21 : Bool), _), _) =>
    π.call (18 : Nat) #[(Go.Value.agg #[(Go.Value.int (IntKind.i64) (x5)), (Go.Value.int (IntKind.i64) (x6)), (Go.Value.slice (a7) (n8) (c9))]), (Go.Value.string (name))] (false, [(false, [.int .i64])]) fun (((x22 : Int), _), _) =>
    π.join [(true, [.int .i64, .int .i64, .slice])] (fun J23 =>
      π.ite (!b21 == decide (x22 ≥ (0 : Int))) (
        π.ret (Go.Value.bool (false))
      ) (
        π.ite (b21) (
          π.guard ((0 : Int) ≤ x22 ∧ x22 ≤ IntKind.i64.wrap (x22 + (1 : Int)) ∧ IntKind.i64.wrap (x22 + (1 : Int)) ≤ (↑c9 : Int)) <|
          π.nw (Go.Obj.cells #[(Go.Value.int (IntKind.i64) (x10)), (Go.Value.string (t11)), (Go.Value.slice (a12) (n13) (c14)), (Go.Value.slice (a15) (n16) (c17)), (Go.Value.slice (a18) (n19) (c20))] (42 : Nat) ((0 : Nat), (0 : Nat))) fun r24 =>
          π.call (16 : Nat) #[(Go.Value.agg #[(Go.Value.int (IntKind.i64) ((0 : Int))), (Go.Value.int (IntKind.i64) ((0 : Int))), (Go.Value.slice (some (Addr.mk r24 (0 : Nat) none)) ((1 : Nat)) ((1 : Nat)))]), (Go.Value.agg #[(Go.Value.int (IntKind.i64) ((0 : Int))), (Go.Value.int (IntKind.i64) ((0 : Int))), (Go.Value.slice (if c9 = x22.toNat then a7 else Option.map (fun x => x.add (x22.toNat * (5 : Nat))) a7) ((IntKind.i64.wrap (x22 + (1 : Int))).toNat - x22.toNat) (c9 - x22.toNat))])] (false, [(false, [.bool])]) fun (((b25 : Bool), _), _) =>
          π.ite (!b25) (
            π.ret (Go.Value.bool (false))
          ) (
            J23 ((x5, x6, (a7, n8, c9), ()), ())
          )
        ) (
          J23 ((x5, x6, (a7, n8, c9), ()), ())
        )
      )
    ) (fun (((x26 : Int), (x27 : Int), ((a28 : Option Addr), (n29 : Nat), (c30 : Nat)), _), _) =>
      π.call (19 : Nat) #[(Go.Value.agg #[(Go.Value.int (IntKind.i64) (x26)), (Go.Value.int (IntKind.i64) (x27)), (Go.Value.slice (a28) (n29) (c30))])] (false, [(false, [.bool])]) fun (((b31 : Bool), _), _) =>
      π.ite (b31) (
        π.call (20 : Nat) #[(Go.Value.agg #[(Go.Value.int (IntKind.i64) (x26)), (Go.Value.int (IntKind.i64) (x27)), (Go.Value.slice (a28) (n29) (c30))])] (false, [(false, [.int .i64])]) fun (((x32 : Int), _), _) =>
        π.ret (Go.Value.bool (x32 == (0 : Int)))
      ) (
        π.call (20 : Nat) #[(Go.Value.agg #[(Go.Value.int (IntKind.i64) (x26)), (Go.Value.int (IntKind.i64) (x27)), (Go.Value.slice (a28) (n29) (c30))])] (false, [(false, [.int .i64])]) fun (((x33 : Int), _), _) =>
        π.ret (Go.Value.bool (x33 == (100 : Int)))
      )
    )
  )

def ann_SchemaChecks : Ann := { draws := [(5, { A := [0, 1, 2, 3, 4, 5, 6, 7, 10, 11, 12, 13, 14, 15, 16], quiet := [17], eag := [9, 18, 19, 20] })], join := [(3, [(2, 24)]), (7, [(2, 24)])], loop := [] }
def la_SchemaChecks : LA := { ptr := [(2, 2, 0), (5, 5, 0), (36, 2, 2)], ty := [(2, 24), (5, 42)] }
set_option maxRecDepth 100000 in
theorem eq_SchemaChecks {W : Type} (π : Prims W) (sv sl : Int) (sa : Option Addr) (san sac : Nat) (name : ByteArray) : bodyL π Try.prog la_SchemaChecks ann_SchemaChecks (mkFr (maskA [] [.v (.agg #[.int .i64 sv, .int .i64 sl, .slice sa san sac]), .v (.string name)] 0) 53) Try.f4 (bodyOf Try.f4) (mkFr (List.map some [.v (.agg #[.int .i64 sv, .int .i64 sl, .slice sa san sac]), .v (.string name)]) 53) = vc_SchemaChecks π sv sl sa san sac name := by kernel_rfl
theorem ok_SchemaChecks (sv sl : Int) (sa : Option Addr) (san sac : Nat) (name : ByteArray) (R : Value → PH → Prop) (s : PH) (h : vc_SchemaChecks (RP Try.prog R) sv sl sa san sac name s) : DCalls Try.prog 4 (List.map AV.val [.v (.agg #[.int .i64 sv, .int .i64 sl, .slice sa san sac]), .v (.string name)]).toArray s R :=
  calls_vcL (c := bodyOf Try.f4) (ann := ann_SchemaChecks) la_SchemaChecks (by kernel_rfl) Try.func4 rfl (by kernel_rfl) [.v (.agg #[.int .i64 sv, .int .i64 sl, .slice sa san sac]), .v (.string name)] [] (by rw [Try.ntmps4]; exact Nat.le_of_ble_eq_true rfl) (by kernel_rfl) (by rw [show Try.f4.ntmps = 53 from Try.ntmps4, eq_SchemaChecks]; exact h)

/-- lintel/lintellaw15.SchemaSeen -/
def vc_SchemaSeen {W : Type} (π : Prims W) (sv sl : Int) (sa : Option Addr) (san sac : Nat) : W :=
  π.join [(true, [.int .i64, .int .i64, .slice])] (fun J0 =>
    π.call (11 : Nat) #[] (false, [(false, [.bool])]) fun (((b1 : Bool), _), _) =>
    π.ite (!b1) (
      π.call (11 : Nat) #[] (false, [(false, [.bool])]) fun (((b2 : Bool), _), _) =>
      π.ret (Go.Value.bool (b2))
    ) (
      π.call (12 : Nat) #[(Go.Value.agg #[(Go.Value.int (IntKind.i64) (sv)), (Go.Value.int (IntKind.i64) (sl)), (Go.Value.slice (sa) (san) (sac))]), (Go.Value.agg #[(Go.Value.int (IntKind.i64) ((0 : Int))), (Go.Value.string (ByteArray.mk #[])), (Go.Value.string (ByteArray.mk #[])), (Go.Value.string (ByteArray.mk #[])), (Go.Value.string (ByteArray.mk #[])), (Go.Value.bool (false)), (Go.Value.int (IntKind.i64) ((0 : Int))), (Go.Value.int (IntKind.i64) ((0 : Int))), (Go.Value.int (IntKind.i64) ((0 : Int))), (Go.Value.string (ByteArray.mk #[])), (Go.Value.slice (none) ((0 : Nat)) ((0 : Nat)))])] (false, [(false, [.bool])]) fun (((b3 : Bool), _), _) =>
      π.ite (b3) (
        π.call (11 : Nat) #[] (false, [(false, [.bool])]) fun (((b4 : Bool), _), _) =>
        π.ret (Go.Value.bool (b4))
      ) (
        J0 ((sv, sl, (sa, san, sac), ()), ())
      )
    )
  ) (fun (((x5 : Int), (x6 : Int), ((a7 : Option Addr), (n8 : Nat), (c9 : Nat)), _), _) =>
    π.call (21 : Nat) #[(Go.Value.agg #[(Go.Value.int (IntKind.i64) (x5)), (Go.Value.int (IntKind.i64) (x6)), (Go.Value.slice (a7) (n8) (c9))])] (false, [(true, [.int .i64, .int .i64, .slice])]) fun (((x10 : Int), (x11 : Int), ((a12 : Option Addr), (n13 : Nat), (c14 : Nat)), _), _) =>
    π.call (22 : Nat) #[(Go.Value.agg #[(Go.Value.int (IntKind.i64) (x5)), (Go.Value.int (IntKind.i64) (x6)), (Go.Value.slice (a7) (n8) (c9))])] (false, [(true, [.int .i64, .int .i64, .slice])]) fun (((x15 : Int), (x16 : Int), ((a17 : Option Addr), (n18 : Nat), (c19 : Nat)), _), _) =>
    π.call (16 : Nat) #[(Go.Value.agg #[(Go.Value.int (IntKind.i64) (x10)), (Go.Value.int (IntKind.i64) (x11)), (Go.Value.slice (a12) (n13) (c14))]), (Go.Value.agg #[(Go.Value.int (IntKind.i64) (x15)), (Go.Value.int (IntKind.i64) (x16)), (Go.Value.slice (a17) (n18) (c19))])] (false, [(false, [.bool])]) fun (((b20 : Bool), _), _) =>
    π.ret (Go.Value.bool (b20))
  )

def ann_SchemaSeen : Ann := { draws := [(3, { A := [0, 2], quiet := [4], chkL := [(1, [2])], eag := [5] })], join := [(3, [(1, 24)])], loop := [] }
def la_SchemaSeen : LA := { ptr := [(1, 1, 0)], ty := [(1, 24)] }
set_option maxRecDepth 100000 in
theorem eq_SchemaSeen {W : Type} (π : Prims W) (sv sl : Int) (sa : Option Addr) (san sac : Nat) : bodyL π Try.prog la_SchemaSeen ann_SchemaSeen (mkFr (maskA [] [.v (.agg #[.int .i64 sv, .int .i64 sl, .slice sa san sac])] 0) 16) Try.f5 (bodyOf Try.f5) (mkFr (List.map some [.v (.agg #[.int .i64 sv, .int .i64 sl, .slice sa san sac])]) 16) = vc_SchemaSeen π sv sl sa san sac := by kernel_rfl
theorem ok_SchemaSeen (sv sl : Int) (sa : Option Addr) (san sac : Nat) (R : Value → PH → Prop) (s : PH) (h : vc_SchemaSeen (RP Try.prog R) sv sl sa san sac s) : DCalls Try.prog 5 (List.map AV.val [.v (.agg #[.int .i64 sv, .int .i64 sl, .slice sa san sac])]).toArray s R :=
  calls_vcL (c := bodyOf Try.f5) (ann := ann_SchemaSeen) la_SchemaSeen (by kernel_rfl) Try.func5 rfl (by kernel_rfl) [.v (.agg #[.int .i64 sv, .int .i64 sl, .slice sa san sac])] [] (by rw [Try.ntmps5]; exact Nat.le_of_ble_eq_true rfl) (by kernel_rfl) (by rw [show Try.f5.ntmps = 16 from Try.ntmps5, eq_SchemaSeen]; exact h)

/-- lintel/lintellaw15.SchemaPaths -/
def vc_SchemaPaths {W : Type} (π : Prims W) (dk : Int) (dt dn dc dp : ByteArray) (du : Bool) (dy vk vn : Int) (vs : ByteArray) (da : Option Addr) (dan dac : Nat) (back : Bool) : W :=
  π.call (23 : Nat) #[(Go.Value.agg #[(Go.Value.int (IntKind.i64) (dk)), (Go.Value.string (dt)), (Go.Value.string (dn)), (Go.Value.string (dc)), (Go.Value.string (dp)), (Go.Value.bool (du)), (Go.Value.int (IntKind.i64) (dy)), (Go.Value.int (IntKind.i64) (vk)), (Go.Value.int (IntKind.i64) (vn)), (Go.Value.string (vs)), (Go.Value.slice (da) (dan) (dac))]), (Go.Value.bool (back))] (false, [(false, [.slice])]) fun ((((a0 : Option Addr), (n1 : Nat), (c2 : Nat)), _), _) =>
  π.call (24 : Nat) #[(Go.Value.int (IntKind.i64) (dk)), (Go.Value.bool (back))] (false, [(false, [.slice])]) fun ((((a3 : Option Addr), (n4 : Nat), (c5 : Nat)), _), _) =>
  π.join [(false, [.slice]), (false, [.slice])] (fun J6 =>
    π.call (11 : Nat) #[] (false, [(false, [.bool])]) fun (((b7 : Bool), _), _) =>
    π.ite (!b7) (
      π.ret (Go.Value.bool (false))
    ) (
      π.ite ((↑n1 : Int) != (↑n4 : Int)) (
        π.ret (Go.Value.bool (false))
      ) (
        J6 (((a0, n1, c2), ()), ((a3, n4, c5), ()), ())
      )
    )
  ) (fun ((((a8 : Option Addr), (n9 : Nat), (c10 : Nat)), _), (((a11 : Option Addr), (n12 : Nat), (c13 : Nat)), _), _) =>
    π.loop [(false, [.slice]), (false, [.slice]), (false, [.int .i64]), (false, [.int .i64])] (((a8, n9, c10), ()), ((a11, n12, c13), ()), ((↑n9 : Int), ()), ((0 : Int), ()), ()) fun ((((a15 : Option Addr), (n16 : Nat), (c17 : Nat)), _), (((a18 : Option Addr), (n19 : Nat), (c20 : Nat)), _), ((x21 : Int), _), ((x22 : Int), _), _) again14 =>
      π.ite (decide (x22 < x21)) (
        π.guard ((0 : Int) ≤ x22 ∧ x22 < (↑n16 : Int)) <|
        π.unSome (a15) fun p23 =>
        π.ld [.int .i64, .int .i64] (p23.add (x22.toNat * (2 : Nat))) fun ((x24 : Int), (x25 : Int), _) =>
        π.guard ((0 : Int) ≤ x22 ∧ x22 < (↑n19 : Int)) <|
        π.unSome (a18) fun p26 =>
        π.ld [.int .i64, .int .i64] (p26.add (x22.toNat * (2 : Nat))) fun ((x27 : Int), (x28 : Int), _) =>
        π.ite (!(x24 == x27 && (x25 == x28 && true))) (
          π.ret (Go.Value.bool (false))
        ) (
          again14 (((a15, n16, c17), ()), ((a18, n19, c20), ()), (x21, ()), (IntKind.i64.wrap (x22 + (1 : Int)), ()), ())
        )
      ) (
        π.ret (Go.Value.bool (true))
      )
  )

def ann_SchemaPaths : Ann := { draws := [(1, { A := [0, 1, 3, 4, 5], chkL := [(2, [4])], eag := [7, 8] }), (7, { A := [0, 1, 2, 3, 4, 5, 6, 7, 8] })], join := [(4, [(5, 52), (6, 52)])], loop := [(5, [(5, 52), (6, 52), (25, 3), (26, 3)])] }
def la_SchemaPaths : LA := { ptr := [(2, 2, 0), (11, 2, 0)], ty := [(2, 29)] }
set_option maxRecDepth 100000 in
theorem eq_SchemaPaths {W : Type} (π : Prims W) (dk : Int) (dt dn dc dp : ByteArray) (du : Bool) (dy vk vn : Int) (vs : ByteArray) (da : Option Addr) (dan dac : Nat) (back : Bool) : bodyL π Try.prog la_SchemaPaths ann_SchemaPaths (mkFr (maskA [] [.v (.agg #[.int .i64 dk, .string dt, .string dn, .string dc, .string dp, .bool du, .int .i64 dy, .int .i64 vk, .int .i64 vn, .string vs, .slice da dan dac]), .v (.bool back)] 0) 39) Try.f6 (bodyOf Try.f6) (mkFr (List.map some [.v (.agg #[.int .i64 dk, .string dt, .string dn, .string dc, .string dp, .bool du, .int .i64 dy, .int .i64 vk, .int .i64 vn, .string vs, .slice da dan dac]), .v (.bool back)]) 39) = vc_SchemaPaths π dk dt dn dc dp du dy vk vn vs da dan dac back := by kernel_rfl
theorem ok_SchemaPaths (dk : Int) (dt dn dc dp : ByteArray) (du : Bool) (dy vk vn : Int) (vs : ByteArray) (da : Option Addr) (dan dac : Nat) (back : Bool) (R : Value → PH → Prop) (s : PH) (h : vc_SchemaPaths (RP Try.prog R) dk dt dn dc dp du dy vk vn vs da dan dac back s) : DCalls Try.prog 6 (List.map AV.val [.v (.agg #[.int .i64 dk, .string dt, .string dn, .string dc, .string dp, .bool du, .int .i64 dy, .int .i64 vk, .int .i64 vn, .string vs, .slice da dan dac]), .v (.bool back)]).toArray s R :=
  calls_vcL (c := bodyOf Try.f6) (ann := ann_SchemaPaths) la_SchemaPaths (by kernel_rfl) Try.func6 rfl (by kernel_rfl) [.v (.agg #[.int .i64 dk, .string dt, .string dn, .string dc, .string dp, .bool du, .int .i64 dy, .int .i64 vk, .int .i64 vn, .string vs, .slice da dan dac]), .v (.bool back)] [] (by rw [Try.ntmps6]; exact Nat.le_of_ble_eq_true rfl) (by kernel_rfl) (by rw [show Try.f6.ntmps = 39 from Try.ntmps6, eq_SchemaPaths]; exact h)

/-- lintel/lintellaw15.SchemaSteps -/
def vc_SchemaSteps {W : Type} (π : Prims W) (sv sl : Int) (sa : Option Addr) (san sac : Nat) (dk : Int) (dt dn dc dp : ByteArray) (du : Bool) (dy vk vn : Int) (vs : ByteArray) (da : Option Addr) (dan dac : Nat) : W :=
  π.join [(true, [.int .i64, .int .i64, .slice]), (true, [.int .i64, .str, .str, .str, .str, .bool, .int .i64, .int .i64, .int .i64, .str, .slice])] (fun J0 =>
    π.call (11 : Nat) #[] (false, [(false, [.bool])]) fun (((b1 : Bool), _), _) =>
    π.ite (!b1) (
      π.call (11 : Nat) #[] (false, [(false, [.bool])]) fun (((b2 : Bool), _), _) =>
      π.ret (Go.Value.bool (b2))
    ) (
      π.call (12 : Nat) #[(Go.Value.agg #[(Go.Value.int (IntKind.i64) (sv)), (Go.Value.int (IntKind.i64) (sl)), (Go.Value.slice (sa) (san) (sac))]), (Go.Value.agg #[(Go.Value.int (IntKind.i64) (dk)), (Go.Value.string (dt)), (Go.Value.string (dn)), (Go.Value.string (dc)), (Go.Value.string (dp)), (Go.Value.bool (du)), (Go.Value.int (IntKind.i64) (dy)), (Go.Value.int (IntKind.i64) (vk)), (Go.Value.int (IntKind.i64) (vn)), (Go.Value.string (vs)), (Go.Value.slice (da) (dan) (dac))])] (false, [(false, [.bool])]) fun (((b3 : Bool), _), _) =>
      π.ite (b3) (
        π.call (11 : Nat) #[] (false, [(false, [.bool])]) fun (((b4 : Bool), _), _) =>
        π.ret (Go.Value.bool (b4))
      ) (
        π.call (20 : Nat) #[(Go.Value.agg #[(Go.Value.int (IntKind.i64) (sv)), (Go.Value.int (IntKind.i64) (sl)), (Go.Value.slice (sa) (san) (sac))])] (false, [(false, [.int .i64])]) fun (((x5 : Int), _), _) =>
        π.ite (x5 != (0 : Int)) (
          π.call (11 : Nat) #[] (false, [(false, [.bool])]) fun (((b6 : Bool), _), _) =>
          π.ret (Go.Value.bool (b6))
        ) (
          π.ite (decide (sv > (562949953421312 : Int))) (
            π.call (11 : Nat) #[] (false, [(false, [.bool])]) fun (((b7 : Bool), _), _) =>
            π.ret (Go.Value.bool (b7))
          ) (
            π.ite (decide (sl > (562949953421312 : Int))) (
              π.call (11 : Nat) #[] (false, [(false, [.bool])]) fun (((b8 : Bool), _), _) =>
              π.ret (Go.Value.bool (b8))
            ) (
              J0 ((sv, sl, (sa, san, sac), ()), (dk, dt, dn, dc, dp, du, dy, vk, vn, vs, (da, dan, dac), ()), ())
            )
          )
        )
      )
    )
  ) (fun (((x9 : Int), (x10 : Int), ((a11 : Option Addr), (n12 : Nat), (c13 : Nat)), _), ((x14 : Int), (t15 : ByteArray), (t16 : ByteArray), (t17 : ByteArray), (t18 : ByteArray), (b19 : Bool), (x20 : Int), (x21 : Int), (x22 : Int), (t23 : ByteArray), ((a24 : Option Addr), (n25 : Nat), (c26 : Nat)), _), _) =>
    π.join [(true, [.int .i64, .int .i64, .slice]), (true, [.int .i64, .str, .str, .str, .str, .bool, .int .i64, .int .i64, .int .i64, .str, .slice]), (false, [.bool])] (fun J27 =>
      π.ite (x14 == (1 : Int)) (
        J27 ((x9, x10, (a11, n12, c13), ()), (x14, t15, t16, t17, t18, b19, x20, x21, x22, t23, (a24, n25, c26), ()), (true, ()), ())
      ) (
        π.ite (x14 == (2 : Int)) (
          J27 ((x9, x10, (a11, n12, c13), ()), (x14, t15, t16, t17, t18, b19, x20, x21, x22, t23, (a24, n25, c26), ()), (true, ()), ())
        ) (
          π.ite (x14 == (4 : Int)) (
            J27 ((x9, x10, (a11, n12, c13), ()), (x14, t15, t16, t17, t18, b19, x20, x21, x22, t23, (a24, n25, c26), ()), (true, ()), ())
          ) (
            J27 ((x9, x10, (a11, n12, c13), ()), (x14, t15, t16, t17, t18, b19, x20, x21, x22, t23, (a24, n25, c26), ()), (x14 == (6 : Int), ()), ())
          )
        )
      )
    ) (fun (((x28 : Int), (x29 : Int), ((a30 : Option Addr), (n31 : Nat), (c32 : Nat)), _), ((x33 : Int), (t34 : ByteArray), (t35 : ByteArray), (t36 : ByteArray), (t37 : ByteArray), (b38 : Bool), (x39 : Int), (x40 : Int), (x41 : Int), (t42 : ByteArray), ((a43 : Option Addr), (n44 : Nat), (c45 : Nat)), _), ((b46 : Bool), _), _) =>
      π.join [(true, [.int .i64, .int .i64, .slice]), (true, [.int .i64, .str, .str, .str, .str, .bool, .int .i64, .int .i64, .int .i64, .str, .slice]), (false, [.bool])] (fun J47 =>
        π.call (25 : Nat) #[(Go.Value.agg #[(Go.Value.int (IntKind.i64) (x28)), (Go.Value.int (IntKind.i64) (x29)), (Go.Value.slice (a30) (n31) (c32))]), (Go.Value.agg #[(Go.Value.int (IntKind.i64) (x33)), (Go.Value.string (t34)), (Go.Value.string (t35)), (Go.Value.string (t36)), (Go.Value.string (t37)), (Go.Value.bool (b38)), (Go.Value.int (IntKind.i64) (x39)), (Go.Value.int (IntKind.i64) (x40)), (Go.Value.int (IntKind.i64) (x41)), (Go.Value.string (t42)), (Go.Value.slice (a43) (n44) (c45))])] (false, [(false, [.int .i64])]) fun (((x48 : Int), _), _) =>
        π.ite (b46) (
          π.ite (x48 != (0 : Int)) (
            π.ret (Go.Value.bool (true))
          ) (
            π.ite (!b46) (
              π.ite (x48 != (3 : Int)) (
                π.ret (Go.Value.bool (true))
              ) (
                J47 ((x28, x29, (a30, n31, c32), ()), (x33, t34, t35, t36, t37, b38, x39, x40, x41, t42, (a43, n44, c45), ()), (b46, ()), ())
              )
            ) (
              J47 ((x28, x29, (a30, n31, c32), ()), (x33, t34, t35, t36, t37, b38, x39, x40, x41, t42, (a43, n44, c45), ()), (b46, ()), ())
            )
          )
        ) (
          π.ite (!b46) (
            π.ite (x48 != (3 : Int)) (
              π.ret (Go.Value.bool (true))
            ) (
              J47 ((x28, x29, (a30, n31, c32), ()), (x33, t34, t35, t36, t37, b38, x39, x40, x41, t42, (a43, n44, c45), ()), (b46, ()), ())
            )
          ) (
            J47 ((x28, x29, (a30, n31, c32), ()), (x33, t34, t35, t36, t37, b38, x39, x40, x41, t42, (a43, n44, c45), ()), (b46, ()), ())
          )
        )
      ) (fun (((x49 : Int), (x50 : Int), ((a51 : Option Addr), (n52 : Nat), (c53 : Nat)), _), ((x54 : Int), (t55 : ByteArray), (t56 : ByteArray), (t57 : ByteArray), (t58 : ByteArray), (b59 : Bool), (x60 : Int), (x61 : Int), (x62 : Int), (t63 : ByteArray), ((a64 : Option Addr), (n65 : Nat), (c66 : Nat)), _), ((b67 : Bool), _), _) =>
        π.call (23 : Nat) #[(Go.Value.agg #[(Go.Value.int (IntKind.i64) (x54)), (Go.Value.string (t55)), (Go.Value.string (t56)), (Go.Value.string (t57)), (Go.Value.string (t58)), (Go.Value.bool (b59)), (Go.Value.int (IntKind.i64) (x60)), (Go.Value.int (IntKind.i64) (x61)), (Go.Value.int (IntKind.i64) (x62)), (Go.Value.string (t63)), (Go.Value.slice (a64) (n65) (c66))]), (Go.Value.bool (false))] (false, [(false, [.slice])]) fun ((((a68 : Option Addr), (n69 : Nat), (c70 : Nat)), _), _) =>
        π.call (26 : Nat) #[(Go.Value.agg #[(Go.Value.int (IntKind.i64) (x49)), (Go.Value.int (IntKind.i64) (x50)), (Go.Value.slice (a51) (n52) (c53))]), (Go.Value.agg #[(Go.Value.int (IntKind.i64) (x54)), (Go.Value.string (t55)), (Go.Value.string (t56)), (Go.Value.string (t57)), (Go.Value.string (t58)), (Go.Value.bool (b59)), (Go.Value.int (IntKind.i64) (x60)), (Go.Value.int (IntKind.i64) (x61)), (Go.Value.int (IntKind.i64) (x62)), (Go.Value.string (t63)), (Go.Value.slice (a64) (n65) (c66))]), (Go.Value.slice (a68) (n69) (c70))] (true, [(false, [.slice]), (false, [.bool])]) fun ((((a71 : Option Addr), (n72 : Nat), (c73 : Nat)), _), ((b74 : Bool), _), _) =>
        π.ite (!b74) (
          π.ret (Go.Value.bool ((↑n72 : Int) == (1 : Int)))
        ) (
          π.ite ((↑n69 : Int) == (0 : Int)) (
            π.ite (decide (x54 < (1 : Int))) (
              π.ret (Go.Value.bool (true))
            ) (
              π.ret (Go.Value.bool (decide (x54 > (7 : Int))))
            )
          ) (
            π.loop [(true, [.int .i64, .int .i64, .slice]), (true, [.int .i64, .str, .str, .str, .str, .bool, .int .i64, .int .i64, .int .i64, .str, .slice]), (false, [.bool]), (false, [.slice]), (false, [.int .i64])] ((x49, x50, (a51, n52, c53), ()), (x54, t55, t56, t57, t58, b59, x60, x61, x62, t63, (a64, n65, c66), ()), (b67, ()), ((a71, n72, c73), ()), ((1 : Int), ()), ()) fun (((x76 : Int), (x77 : Int), ((a78 : Option Addr), (n79 : Nat), (c80 : Nat)), _), ((x81 : Int), (t82 : ByteArray), (t83 : ByteArray), (t84 : ByteArray), (t85 : ByteArray), (b86 : Bool), (x87 : Int), (x88 : Int), (x89 : Int), (t90 : ByteArray), ((a91 : Option Addr), (n92 : Nat), (c93 : Nat)), _), ((b94 : Bool), _), (((a95 : Option Addr), (n96 : Nat), (c97 : Nat)), _), ((x98 : Int), _), _) again75 =>
              π.ite (decide (x98 < (↑n96 : Int))) (
                π.guard ((0 : Int) ≤ IntKind.i64.wrap (x98 - (1 : Int)) ∧ IntKind.i64.wrap (x98 - (1 : Int)) < (↑n96 : Int)) <|
                π.unSome (a95) fun p99 =>
                π.ld [.int .i64, .int .i64, .slice] (p99.add ((IntKind.i64.wrap (x98 - (1 : Int))).toNat * (3 : Nat))) fun ((x100 : Int), (x101 : Int), ((a102 : Option Addr), (n103 : Nat), (c104 : Nat)), _) =>
                π.callQ (25 : Nat) #[(Go.Value.agg #[(Go.Value.int (IntKind.i64) (x100)), (Go.Value.int (IntKind.i64) (x101)), (Go.Value.slice (a102) (n103) (c104))]), (Go.Value.agg #[(Go.Value.int (IntKind.i64) (x81)), (Go.Value.string (t82)), (Go.Value.string (t83)), (Go.Value.string (t84)), (Go.Value.string (t85)), (Go.Value.bool (b86)), (Go.Value.int (IntKind.i64) (x87)), (Go.Value.int (IntKind.i64) (x88)), (Go.Value.int (IntKind.i64) (x89)), (Go.Value.string (t90)), (Go.Value.slice (a91) (n92) (c93))])] (false, [(false, [.int .i64])]) fun (((x105 : Int), _), _) =>
                π.guard ((0 : Int) ≤ x98 ∧ x98 < (↑n96 : Int)) <|
                π.unSome (a95) fun p106 =>
                π.ld [.int .i64, .int .i64, .slice] (p106.add (x98.toNat * (3 : Nat))) fun ((x107 : Int), (x108 : Int), ((a109 : Option Addr), (n110 : Nat), (c111 : Nat)), _) =>
                π.callQ (25 : Nat) #[(Go.Value.agg #[(Go.Value.int (IntKind.i64) (x107)), (Go.Value.int (IntKind.i64) (x108)), (Go.Value.slice (a109) (n110) (c111))]), (Go.Value.agg #[(Go.Value.int (IntKind.i64) (x81)), (Go.Value.string (t82)), (Go.Value.string (t83)), (Go.Value.string (t84)), (Go.Value.string (t85)), (Go.Value.bool (b86)), (Go.Value.int (IntKind.i64) (x87)), (Go.Value.int (IntKind.i64) (x88)), (Go.Value.int (IntKind.i64) (x89)), (Go.Value.string (t90)), (Go.Value.slice (a91) (n92) (c93))])] (false, [(false, [.int .i64])]) fun (((x112 : Int), _), _) =>
                π.join [(true, [.int .i64, .int .i64, .slice]), (true, [.int .i64, .str, .str, .str, .str, .bool, .int .i64, .int .i64, .int .i64, .str, .slice]), (false, [.bool]), (false, [.slice]), (false, [.int .i64])] (fun J113 =>
                  π.ite (decide (x81 ≥ (2 : Int))) (
                    π.ite (decide (x81 ≤ (5 : Int))) (
                      π.ite (decide (IntKind.i64.wrap (x112 - x105) > (1 : Int))) (
                        π.ret (Go.Value.bool (false))
                      ) (
                        π.ite (decide (IntKind.i64.wrap (x105 - x112) > (1 : Int))) (
                          π.ret (Go.Value.bool (false))
                        ) (
                          π.guard ((0 : Int) ≤ x98 ∧ x98 < (↑n96 : Int)) <|
                          π.unSome (a95) fun p114 =>
                          π.ld [.int .i64, .int .i64, .slice] (p114.add (x98.toNat * (3 : Nat))) fun ((x115 : Int), (x116 : Int), ((a117 : Option Addr), (n118 : Nat), (c119 : Nat)), _) =>
                          π.callQ (19 : Nat) #[(Go.Value.agg #[(Go.Value.int (IntKind.i64) (x115)), (Go.Value.int (IntKind.i64) (x116)), (Go.Value.slice (a117) (n118) (c119))])] (false, [(false, [.bool])]) fun (((b120 : Bool), _), _) =>
                          π.ite (!b120) (
                            π.ret (Go.Value.bool (false))
                          ) (
                            π.guard ((0 : Int) ≤ x98 ∧ x98 < (↑n96 : Int)) <|
                            π.unSome (a95) fun p121 =>
                            π.ld [.int .i64] ((p121.add (x98.toNat * (3 : Nat))).add (0 : Nat)) fun ((x122 : Int), _) =>
                            π.guard ((0 : Int) ≤ IntKind.i64.wrap (x98 - (1 : Int)) ∧ IntKind.i64.wrap (x98 - (1 : Int)) < (↑n96 : Int)) <|
                            π.unSome (a95) fun p123 =>
                            π.ld [.int .i64] ((p123.add ((IntKind.i64.wrap (x98 - (1 : Int))).toNat * (3 : Nat))).add (0 : Nat)) fun ((x124 : Int), _) =>
                            π.ite (decide (x122 < x124)) (
                              π.ret (Go.Value.bool (false))
                            ) (
                              π.guard ((0 : Int) ≤ x98 ∧ x98 < (↑n96 : Int)) <|
                              π.unSome (a95) fun p125 =>
                              π.ld [.int .i64] ((p125.add (x98.toNat * (3 : Nat))).add (0 : Nat)) fun ((x126 : Int), _) =>
                              π.guard ((0 : Int) ≤ IntKind.i64.wrap (x98 - (1 : Int)) ∧ IntKind.i64.wrap (x98 - (1 : Int)) < (↑n96 : Int)) <|
                              π.unSome (a95) fun p127 =>
                              π.ld [.int .i64] ((p127.add ((IntKind.i64.wrap (x98 - (1 : Int))).toNat * (3 : Nat))).add (0 : Nat)) fun ((x128 : Int), _) =>
                              π.ite (decide (x126 > IntKind.i64.wrap (x128 + (1 : Int)))) (
                                π.ret (Go.Value.bool (false))
                              ) (
                                J113 ((x76, x77, (a78, n79, c80), ()), (x81, t82, t83, t84, t85, b86, x87, x88, x89, t90, (a91, n92, c93), ()), (b94, ()), ((a95, n96, c97), ()), (x98, ()), ())
                              )
                            )
                          )
                        )
                      )
                    ) (
                      π.guard ((0 : Int) ≤ x98 ∧ x98 < (↑n96 : Int)) <|
                      π.unSome (a95) fun p129 =>
                      π.ld [.int .i64, .int .i64, .slice] (p129.add (x98.toNat * (3 : Nat))) fun ((x130 : Int), (x131 : Int), ((a132 : Option Addr), (n133 : Nat), (c134 : Nat)), _) =>
                      π.callQ (19 : Nat) #[(Go.Value.agg #[(Go.Value.int (IntKind.i64) (x130)), (Go.Value.int (IntKind.i64) (x131)), (Go.Value.slice (a132) (n133) (c134))])] (false, [(false, [.bool])]) fun (((b135 : Bool), _), _) =>
                      π.ite (!b135) (
                        π.ret (Go.Value.bool (false))
                      ) (
                        π.guard ((0 : Int) ≤ x98 ∧ x98 < (↑n96 : Int)) <|
                        π.unSome (a95) fun p136 =>
                        π.ld [.int .i64] ((p136.add (x98.toNat * (3 : Nat))).add (0 : Nat)) fun ((x137 : Int), _) =>
                        π.guard ((0 : Int) ≤ IntKind.i64.wrap (x98 - (1 : Int)) ∧ IntKind.i64.wrap (x98 - (1 : Int)) < (↑n96 : Int)) <|
                        π.unSome (a95) fun p138 =>
                        π.ld [.int .i64] ((p138.add ((IntKind.i64.wrap (x98 - (1 : Int))).toNat * (3 : Nat))).add (0 : Nat)) fun ((x139 : Int), _) =>
                        π.ite (decide (x137 < x139)) (
                          π.ret (Go.Value.bool (false))
                        ) (
                          π.guard ((0 : Int) ≤ x98 ∧ x98 < (↑n96 : Int)) <|
                          π.unSome (a95) fun p140 =>
                          π.ld [.int .i64] ((p140.add (x98.toNat * (3 : Nat))).add (0 : Nat)) fun ((x141 : Int), _) =>
                          π.guard ((0 : Int) ≤ IntKind.i64.wrap (x98 - (1 : Int)) ∧ IntKind.i64.wrap (x98 - (1 : Int)) < (↑n96 : Int)) <|
                          π.unSome (a95) fun p142 =>
                          π.ld [.int .i64] ((p142.add ((IntKind.i64.wrap (x98 - (1 : Int))).toNat * (3 : Nat))).add (0 : Nat)) fun ((x143 : Int), _) =>
                          π.ite (decide (x141 > IntKind.i64.wrap (x143 + (1 : Int)))) (
                            π.ret (Go.Value.bool (false))
                          ) (
                            J113 ((x76, x77, (a78, n79, c80), ()), (x81, t82, t83, t84, t85, b86, x87, x88, x89, t90, (a91, n92, c93), ()), (b94, ()), ((a95, n96, c97), ()), (x98, ()), ())
                          )
                        )
                      )
                    )
                  ) (
                    π.guard ((0 : Int) ≤ x98 ∧ x98 < (↑n96 : Int)) <|
                    π.unSome (a95) fun p144 =>
                    π.ld [.int .i64, .int .i64, .slice] (p144.add (x98.toNat * (3 : Nat))) fun ((x145 : Int), (x146 : Int), ((a147 : Option Addr), (n148 : Nat), (c149 : Nat)), _) =>
                    π.callQ (19 : Nat) #[(Go.Value.agg #[(Go.Value.int (IntKind.i64) (x145)), (Go.Value.int (IntKind.i64) (x146)), (Go.Value.slice (a147) (n148) (c149))])] (false, [(false, [.bool])]) fun (((b150 : Bool), _), _) =>
                    π.ite (!b150) (
                      π.ret (Go.Value.bool (false))
                    ) (
                      π.guard ((0 : Int) ≤ x98 ∧ x98 < (↑n96 : Int)) <|
                      π.unSome (a95) fun p151 =>
                      π.ld [.int .i64] ((p151.add (x98.toNat * (3 : Nat))).add (0 : Nat)) fun ((x152 : Int), _) =>
                      π.guard ((0 : Int) ≤ IntKind.i64.wrap (x98 - (1 : Int)) ∧ IntKind.i64.wrap (x98 - (1 : Int)) < (↑n96 : Int)) <|
                      π.unSome (a95) fun p153 =>
                      π.ld [.int .i64] ((p153.add ((IntKind.i64.wrap (x98 - (1 : Int))).toNat * (3 : Nat))).add (0 : Nat)) fun ((x154 : Int), _) =>
                      π.ite (decide (x152 < x154)) (
                        π.ret (Go.Value.bool (false))
                      ) (
                        π.guard ((0 : Int) ≤ x98 ∧ x98 < (↑n96 : Int)) <|
                        π.unSome (a95) fun p155 =>
                        π.ld [.int .i64] ((p155.add (x98.toNat * (3 : Nat))).add (0 : Nat)) fun ((x156 : Int), _) =>
                        π.guard ((0 : Int) ≤ IntKind.i64.wrap (x98 - (1 : Int)) ∧ IntKind.i64.wrap (x98 - (1 : Int)) < (↑n96 : Int)) <|
                        π.unSome (a95) fun p157 =>
                        π.ld [.int .i64] ((p157.add ((IntKind.i64.wrap (x98 - (1 : Int))).toNat * (3 : Nat))).add (0 : Nat)) fun ((x158 : Int), _) =>
                        π.ite (decide (x156 > IntKind.i64.wrap (x158 + (1 : Int)))) (
                          π.ret (Go.Value.bool (false))
                        ) (
                          J113 ((x76, x77, (a78, n79, c80), ()), (x81, t82, t83, t84, t85, b86, x87, x88, x89, t90, (a91, n92, c93), ()), (b94, ()), ((a95, n96, c97), ()), (x98, ()), ())
                        )
                      )
                    )
                  )
                ) (fun (((x159 : Int), (x160 : Int), ((a161 : Option Addr), (n162 : Nat), (c163 : Nat)), _), ((x164 : Int), (t165 : ByteArray), (t166 : ByteArray), (t167 : ByteArray), (t168 : ByteArray), (b169 : Bool), (x170 : Int), (x171 : Int), (x172 : Int), (t173 : ByteArray), ((a174 : Option Addr), (n175 : Nat), (c176 : Nat)), _), ((b177 : Bool), _), (((a178 : Option Addr), (n179 : Nat), (c180 : Nat)), _), ((x181 : Int), _), _) =>
                  π.guard ((0 : Int) ≤ x181 ∧ x181 < (↑n179 : Int)) <|
                  π.unSome (a178) fun p182 =>
                  π.ld [.int .i64, .int .i64, .slice] (p182.add (x181.toNat * (3 : Nat))) fun ((x183 : Int), (x184 : Int), ((a185 : Option Addr), (n186 : Nat), (c187 : Nat)), _) =>
                  π.call (27 : Nat) #[(Go.Value.agg #[(Go.Value.int (IntKind.i64) (x183)), (Go.Value.int (IntKind.i64) (x184)), (Go.Value.slice (a185) (n186) (c187))]), (Go.Value.agg #[(Go.Value.int (IntKind.i64) (x164)), (Go.Value.string (t165)), (Go.Value.string (t166)), (Go.Value.string (t167)), (Go.Value.string (t168)), (Go.Value.bool (b169)), (Go.Value.int (IntKind.i64) (x170)), (Go.Value.int (IntKind.i64) (x171)), (Go.Value.int (IntKind.i64) (x172)), (Go.Value.string (t173)), (Go.Value.slice (a174) (n175) (c176))])] (false, [(true, [.int .i64, .int .i64, .slice])]) fun (((x188 : Int), (x189 : Int), ((a190 : Option Addr), (n191 : Nat), (c192 : Nat)), _), _) =>
                  π.call (27 : Nat) #[(Go.Value.agg #[(Go.Value.int (IntKind.i64) (x159)), (Go.Value.int (IntKind.i64) (x160)), (Go.Value.slice (a161) (n162) (c163))]), (Go.Value.agg #[(Go.Value.int (IntKind.i64) (x164)), (Go.Value.string (t165)), (Go.Value.string (t166)), (Go.Value.string (t167)), (Go.Value.string (t168)), (Go.Value.bool (b169)), (Go.Value.int (IntKind.i64) (x170)), (Go.Value.int (IntKind.i64) (x171)), (Go.Value.int (IntKind.i64) (x172)), (Go.Value.string (t173)), (Go.Value.slice (a174) (n175) (c176))])] (false, [(true, [.int .i64, .int .i64, .slice])]) fun (((x193 : Int), (x194 : Int), ((a195 : Option Addr), (n196 : Nat), (c197 : Nat)), _), _) =>
                  π.call (16 : Nat) #[(Go.Value.agg #[(Go.Value.int (IntKind.i64) (x188)), (Go.Value.int (IntKind.i64) (x189)), (Go.Value.slice (a190) (n191) (c192))]), (Go.Value.agg #[(Go.Value.int (IntKind.i64) (x193)), (Go.Value.int (IntKind.i64) (x194)), (Go.Value.slice (a195) (n196) (c197))])] (false, [(false, [.bool])]) fun (((b198 : Bool), _), _) =>
                  π.ite (!b198) (
                    π.ret (Go.Value.bool (false))
                  ) (
                    again75 ((x159, x160, (a161, n162, c163), ()), (x164, t165, t166, t167, t168, b169, x170, x171, x172, t173, (a174, n175, c176), ()), (b177, ()), ((a178, n179, c180), ()), (IntKind.i64.wrap (x181 + (1 : Int)), ()), ())
                  )
                )
              ) (
                π.guard ((0 : Int) ≤ IntKind.i64.wrap ((↑n96 : Int) - (1 : Int)) ∧ IntKind.i64.wrap ((↑n96 : Int) - (1 : Int)) < (↑n96 : Int)) <|
                π.unSome (a95) fun p199 =>
                π.ld [.int .i64, .int .i64, .slice] (p199.add ((IntKind.i64.wrap ((↑n96 : Int) - (1 : Int))).toNat * (3 : Nat))) fun ((x200 : Int), (x201 : Int), ((a202 : Option Addr), (n203 : Nat), (c204 : Nat)), _) =>
                π.callQ (25 : Nat) #[(Go.Value.agg #[(Go.Value.int (IntKind.i64) (x200)), (Go.Value.int (IntKind.i64) (x201)), (Go.Value.slice (a202) (n203) (c204))]), (Go.Value.agg #[(Go.Value.int (IntKind.i64) (x81)), (Go.Value.string (t82)), (Go.Value.string (t83)), (Go.Value.string (t84)), (Go.Value.string (t85)), (Go.Value.bool (b86)), (Go.Value.int (IntKind.i64) (x87)), (Go.Value.int (IntKind.i64) (x88)), (Go.Value.int (IntKind.i64) (x89)), (Go.Value.string (t90)), (Go.Value.slice (a91) (n92) (c93))])] (false, [(false, [.int .i64])]) fun (((x205 : Int), _), _) =>
                π.ite (b94) (
                  π.ite (x205 == (3 : Int)) (
                    π.ret (Go.Value.bool (true))
                  ) (
                    π.ite (!b94) (
                      π.ret (Go.Value.bool (x205 == (0 : Int)))
                    ) (
                      π.ret (Go.Value.bool (false))
                    )
                  )
                ) (
                  π.ite (!b94) (
                    π.ret (Go.Value.bool (x205 == (0 : Int)))
                  ) (
                    π.ret (Go.Value.bool (false))
                  )
                )
              )
          )
        )
      )
    )
  )

def ann_SchemaSteps : Ann := { draws := [(16, { A := [0, 1, 2, 3, 4, 5, 6, 7, 8, 9, 10, 11, 12, 13, 14], quiet := [6, 12] }), (17, { A := [0, 1, 2, 3, 4, 5, 6, 7, 8, 9, 10, 11, 12, 13, 14, 15, 16, 17, 18, 19, 20, 21, 22, 23, 24, 25, 26, 27, 28, 29, 30, 31, 32, 33, 34, 35, 36, 37, 38, 39, 40, 41, 42, 43, 44, 45, 46, 47, 48, 49, 50, 51, 52, 53, 54, 55, 56], quiet := [25] }), (19, { A := [0, 1, 2, 3, 4, 6, 7], quiet := [9], chkL := [(5, [6, 7])], eag := [10] }), (21, { A := [0, 1, 2, 3, 4, 5, 6, 7, 8], quiet := [7] })], join := [(3, [(2, 24), (3, 29)]), (4, [(2, 24), (3, 29), (5, 4)]), (7, [(2, 24), (3, 29), (5, 4)]), (19, [(2, 24), (3, 29), (5, 4), (8, 59), (10, 3)])], loop := [(14, [(2, 24), (3, 29), (5, 4), (8, 59), (10, 3)])] }
def la_SchemaSteps : LA := { ptr := [(2, 2, 0), (3, 3, 0), (27, 2, 0), (32, 2, 1), (37, 3, 0), (41, 3, 0), (46, 3, 0), (51, 3, 0), (88, 3, 0), (92, 3, 0), (115, 3, 0), (119, 3, 0)], ty := [(2, 24), (3, 29)] }
set_option maxRecDepth 100000 in
theorem eq_SchemaSteps {W : Type} (π : Prims W) (sv sl : Int) (sa : Option Addr) (san sac : Nat) (dk : Int) (dt dn dc dp : ByteArray) (du : Bool) (dy vk vn : Int) (vs : ByteArray) (da : Option Addr) (dan dac : Nat) : bodyL π Try.prog la_SchemaSteps ann_SchemaSteps (mkFr (maskA [] [.v (.agg #[.int .i64 sv, .int .i64 sl, .slice sa san sac]), .v (.agg #[.int .i64 dk, .string dt, .string dn, .string dc, .string dp, .bool du, .int .i64 dy, .int .i64 vk, .int .i64 vn, .string vs, .slice da dan dac])] 0) 204) Try.f7 (bodyOf Try.f7) (mkFr (List.map some [.v (.agg #[.int .i64 sv, .int .i64 sl, .slice sa san sac]), .v (.agg #[.int .i64 dk, .string dt, .string dn, .string dc, .string dp, .bool du, .int .i64 dy, .int .i64 vk, .int .i64 vn, .string vs, .slice da dan dac])]) 204) = vc_SchemaSteps π sv sl sa san sac dk dt dn dc dp du dy vk vn vs da dan dac := by kernel_rfl
theorem ok_SchemaSteps (sv sl : Int) (sa : Option Addr) (san sac : Nat) (dk : Int) (dt dn dc dp : ByteArray) (du : Bool) (dy vk vn : Int) (vs : ByteArray) (da : Option Addr) (dan dac : Nat) (R : Value → PH → Prop) (s : PH) (h : vc_SchemaSteps (RP Try.prog R) sv sl sa san sac dk dt dn dc dp du dy vk vn vs da dan dac s) : DCalls Try.prog 7 (List.map AV.val [.v (.agg #[.int .i64 sv, .int .i64 sl, .slice sa san sac]), .v (.agg #[.int .i64 dk, .string dt, .string dn, .string dc, .string dp, .bool du, .int .i64 dy, .int .i64 vk, .int .i64 vn, .string vs, .slice da dan dac])]).toArray s R :=
  calls_vcL (c := bodyOf Try.f7) (ann := ann_SchemaSteps) la_SchemaSteps (by kernel_rfl) Try.func7 rfl (by kernel_rfl) [.v (.agg #[.int .i64 sv, .int .i64 sl, .slice sa san sac]), .v (.agg #[.int .i64 dk, .string dt, .string dn, .string dc, .string dp, .bool du, .int .i64 dy, .int .i64 vk, .int .i64 vn, .string vs, .slice da dan dac])] [] (by rw [Try.ntmps7]; exact Nat.le_of_ble_eq_true rfl) (by kernel_rfl) (by rw [show Try.f7.ntmps = 204 from Try.ntmps7, eq_SchemaSteps]; exact h)

/-- lintel/lintellaw15.SchemaUndo -/
def vc_SchemaUndo {W : Type} (π : Prims W) (sv sl : Int) (sa : Option Addr) (san sac : Nat) (dk : Int) (dt dn dc dp : ByteArray) (du : Bool) (dy vk vn : Int) (vs : ByteArray) (da : Option Addr) (dan dac : Nat) : W :=
  π.join [(true, [.int .i64, .int .i64, .slice]), (true, [.int .i64, .str, .str, .str, .str, .bool, .int .i64, .int .i64, .int .i64, .str, .slice])] (fun J0 =>
    π.call (11 : Nat) #[] (false, [(false, [.bool])]) fun (((b1 : Bool), _), _) =>
    π.ite (!b1) (
      π.call (11 : Nat) #[] (false, [(false, [.bool])]) fun (((b2 : Bool), _), _) =>
      π.ret (Go.Value.bool (b2))
    ) (
      π.call (12 : Nat) #[(Go.Value.agg #[(Go.Value.int (IntKind.i64) (sv)), (Go.Value.int (IntKind.i64) (sl)), (Go.Value.slice (sa) (san) (sac))]), (Go.Value.agg #[(Go.Value.int (IntKind.i64) (dk)), (Go.Value.string (dt)), (Go.Value.string (dn)), (Go.Value.string (dc)), (Go.Value.string (dp)), (Go.Value.bool (du)), (Go.Value.int (IntKind.i64) (dy)), (Go.Value.int (IntKind.i64) (vk)), (Go.Value.int (IntKind.i64) (vn)), (Go.Value.string (vs)), (Go.Value.slice (da) (dan) (dac))])] (false, [(false, [.bool])]) fun (((b3 : Bool), _), _) =>
      π.ite (b3) (
        π.call (11 : Nat) #[] (false, [(false, [.bool])]) fun (((b4 : Bool), _), _) =>
        π.ret (Go.Value.bool (b4))
      ) (
        π.call (20 : Nat) #[(Go.Value.agg #[(Go.Value.int (IntKind.i64) (sv)), (Go.Value.int (IntKind.i64) (sl)), (Go.Value.slice (sa) (san) (sac))])] (false, [(false, [.int .i64])]) fun (((x5 : Int), _), _) =>
        π.ite (x5 != (0 : Int)) (
          π.call (11 : Nat) #[] (false, [(false, [.bool])]) fun (((b6 : Bool), _), _) =>
          π.ret (Go.Value.bool (b6))
        ) (
          π.call (25 : Nat) #[(Go.Value.agg #[(Go.Value.int (IntKind.i64) (sv)), (Go.Value.int (IntKind.i64) (sl)), (Go.Value.slice (sa) (san) (sac))]), (Go.Value.agg #[(Go.Value.int (IntKind.i64) (dk)), (Go.Value.string (dt)), (Go.Value.string (dn)), (Go.Value.string (dc)), (Go.Value.string (dp)), (Go.Value.bool (du)), (Go.Value.int (IntKind.i64) (dy)), (Go.Value.int (IntKind.i64) (vk)), (Go.Value.int (IntKind.i64) (vn)), (Go.Value.string (vs)), (Go.Value.slice (da) (dan) (dac))])] (false, [(false, [.int .i64])]) fun (((x7 : Int), _), _) =>
          π.ite (x7 != (0 : Int)) (
            π.call (11 : Nat) #[] (false, [(false, [.bool])]) fun (((b8 : Bool), _), _) =>
            π.ret (Go.Value.bool (b8))
          ) (
            π.ite (decide (sv > (562949953421312 : Int))) (
              π.call (11 : Nat) #[] (false, [(false, [.bool])]) fun (((b9 : Bool), _), _) =>
              π.ret (Go.Value.bool (b9))
            ) (
              π.ite (decide (sl > (562949953421312 : Int))) (
                π.call (11 : Nat) #[] (false, [(false, [.bool])]) fun (((b10 : Bool), _), _) =>
                π.ret (Go.Value.bool (b10))
              ) (
                J0 ((sv, sl, (sa, san, sac), ()), (dk, dt, dn, dc, dp, du, dy, vk, vn, vs, (da, dan, dac), ()), ())
              )
            )
          )
        )
      )
    )
  ) (fun (((x11 : Int), (x12 : Int), ((a13 : Option Addr), (n14 : Nat), (c15 : Nat)), _), ((x16 : Int), (t17 : ByteArray), (t18 : ByteArray), (t19 : ByteArray), (t20 : ByteArray), (b21 : Bool), (x22 : Int), (x23 : Int), (x24 : Int), (t25 : ByteArray), ((a26 : Option Addr), (n27 : Nat), (c28 : Nat)), _), _) =>
    π.call (23 : Nat) #[(Go.Value.agg #[(Go.Value.int (IntKind.i64) (x16)), (Go.Value.string (t17)), (Go.Value.string (t18)), (Go.Value.string (t19)), (Go.Value.string (t20)), (Go.Value.bool (b21)), (Go.Value.int (IntKind.i64) (x22)), (Go.Value.int (IntKind.i64) (x23)), (Go.Value.int (IntKind.i64) (x24)), (Go.Value.string (t25)), (Go.Value.slice (a26) (n27) (c28))]), (Go.Value.bool (false))] (false, [(false, [.slice])]) fun ((((a29 : Option Addr), (n30 : Nat), (c31 : Nat)), _), _) =>
    π.join [(true, [.int .i64, .int .i64, .slice]), (true, [.int .i64, .str, .str, .str, .str, .bool, .int .i64, .int .i64, .int .i64, .str, .slice]), (false, [.slice]), (false, [.int .i64])] (fun J32 =>
      π.loop [(true, [.int .i64, .int .i64, .slice]), (true, [.int .i64, .str, .str, .str, .str, .bool, .int .i64, .int .i64, .int .i64, .str, .slice]), (false, [.slice]), (false, [.int .i64])] ((x11, x12, (a13, n14, c15), ()), (x16, t17, t18, t19, t20, b21, x22, x23, x24, t25, (a26, n27, c28), ()), ((a29, n30, c31), ()), ((0 : Int), ()), ()) fun (((x34 : Int), (x35 : Int), ((a36 : Option Addr), (n37 : Nat), (c38 : Nat)), _), ((x39 : Int), (t40 : ByteArray), (t41 : ByteArray), (t42 : ByteArray), (t43 : ByteArray), (b44 : Bool), (x45 : Int), (x46 : Int), (x47 : Int), (t48 : ByteArray), ((a49 : Option Addr), (n50 : Nat), (c51 : Nat)), _), (((a52 : Option Addr), (n53 : Nat), (c54 : Nat)), _), ((x55 : Int), _), _) again33 =>
        π.ite (decide (x55 < (↑n53 : Int))) (
          π.guard ((0 : Int) ≤ x55 ∧ x55 < (↑n53 : Int)) <|
          π.unSome (a52) fun p56 =>
          π.ld [.int .i64] ((p56.add (x55.toNat * (2 : Nat))).add (0 : Nat)) fun ((x57 : Int), _) =>
          π.ite (x57 != (4 : Int)) (
            again33 ((x34, x35, (a36, n37, c38), ()), (x39, t40, t41, t42, t43, b44, x45, x46, x47, t48, (a49, n50, c51), ()), ((a52, n53, c54), ()), (IntKind.i64.wrap (x55 + (1 : Int)), ()), ())
          ) (
            J32 ((x34, x35, (a36, n37, c38), ()), (x39, t40, t41, t42, t43, b44, x45, x46, x47, t48, (a49, n50, c51), ()), ((a52, n53, c54), ()), (x55, ()), ())
          )
        ) (
          J32 ((x34, x35, (a36, n37, c38), ()), (x39, t40, t41, t42, t43, b44, x45, x46, x47, t48, (a49, n50, c51), ()), ((a52, n53, c54), ()), (x55, ()), ())
        )
    ) (fun (((x58 : Int), (x59 : Int), ((a60 : Option Addr), (n61 : Nat), (c62 : Nat)), _), ((x63 : Int), (t64 : ByteArray), (t65 : ByteArray), (t66 : ByteArray), (t67 : ByteArray), (b68 : Bool), (x69 : Int), (x70 : Int), (x71 : Int), (t72 : ByteArray), ((a73 : Option Addr), (n74 : Nat), (c75 : Nat)), _), (((a76 : Option Addr), (n77 : Nat), (c78 : Nat)), _), ((x79 : Int), _), _) =>
      π.call (23 : Nat) #[(Go.Value.agg #[(Go.Value.int (IntKind.i64) (x63)), (Go.Value.string (t64)), (Go.Value.string (t65)), (Go.Value.string (t66)), (Go.Value.string (t67)), (Go.Value.bool (b68)), (Go.Value.int (IntKind.i64) (x69)), (Go.Value.int (IntKind.i64) (x70)), (Go.Value.int (IntKind.i64) (x71)), (Go.Value.string (t72)), (Go.Value.slice (a73) (n74) (c75))]), (Go.Value.bool (true))] (false, [(false, [.slice])]) fun ((((a80 : Option Addr), (n81 : Nat), (c82 : Nat)), _), _) =>
      π.join [(true, [.int .i64, .int .i64, .slice]), (true, [.int .i64, .str, .str, .str, .str, .bool, .int .i64, .int .i64, .int .i64, .str, .slice]), (false, [.slice]), (false, [.int .i64]), (false, [.slice])] (fun J83 =>
        π.ite (x79 == (↑n77 : Int)) (
          π.ret (Go.Value.bool (true))
        ) (
          π.ite ((↑n81 : Int) == (0 : Int)) (
            π.ret (Go.Value.bool (true))
          ) (
            J83 ((x58, x59, (a60, n61, c62), ()), (x63, t64, t65, t66, t67, b68, x69, x70, x71, t72, (a73, n74, c75), ()), ((a76, n77, c78), ()), (x79, ()), ((a80, n81, c82), ()), ())
          )
        )
      ) (fun (((x84 : Int), (x85 : Int), ((a86 : Option Addr), (n87 : Nat), (c88 : Nat)), _), ((x89 : Int), (t90 : ByteArray), (t91 : ByteArray), (t92 : ByteArray), (t93 : ByteArray), (b94 : Bool), (x95 : Int), (x96 : Int), (x97 : Int), (t98 : ByteArray), ((a99 : Option Addr), (n100 : Nat), (c101 : Nat)), _), (((a102 : Option Addr), (n103 : Nat), (c104 : Nat)), _), ((x105 : Int), _), (((a106 : Option Addr), (n107 : Nat), (c108 : Nat)), _), _) =>
        π.guard ((0 : Int) ≤ (0 : Int) ∧ (0 : Int) ≤ x105 ∧ x105 ≤ (↑c104 : Int)) <|
        π.call (26 : Nat) #[(Go.Value.agg #[(Go.Value.int (IntKind.i64) (x84)), (Go.Value.int (IntKind.i64) (x85)), (Go.Value.slice (a86) (n87) (c88))]), (Go.Value.agg #[(Go.Value.int (IntKind.i64) (x89)), (Go.Value.string (t90)), (Go.Value.string (t91)), (Go.Value.string (t92)), (Go.Value.string (t93)), (Go.Value.bool (b94)), (Go.Value.int (IntKind.i64) (x95)), (Go.Value.int (IntKind.i64) (x96)), (Go.Value.int (IntKind.i64) (x97)), (Go.Value.string (t98)), (Go.Value.slice (a99) (n100) (c101))]), (Go.Value.slice (if c104 = (0 : Nat) then a102 else Option.map (fun x => x.add (0 : Nat)) a102) (x105.toNat - (0 : Nat)) (c104 - (0 : Nat)))] (true, [(false, [.slice]), (false, [.bool])]) fun ((((a109 : Option Addr), (n110 : Nat), (c111 : Nat)), _), ((b112 : Bool), _), _) =>
        π.ite (!b112) (
          π.ret (Go.Value.bool ((↑n110 : Int) == (1 : Int)))
        ) (
          π.guard ((0 : Int) ≤ IntKind.i64.wrap ((↑n110 : Int) - (1 : Int)) ∧ IntKind.i64.wrap ((↑n110 : Int) - (1 : Int)) < (↑n110 : Int)) <|
          π.unSome (a109) fun p113 =>
          π.ld [.int .i64, .int .i64, .slice] (p113.add ((IntKind.i64.wrap ((↑n110 : Int) - (1 : Int))).toNat * (3 : Nat))) fun ((x114 : Int), (x115 : Int), ((a116 : Option Addr), (n117 : Nat), (c118 : Nat)), _) =>
          π.call (26 : Nat) #[(Go.Value.agg #[(Go.Value.int (IntKind.i64) (x114)), (Go.Value.int (IntKind.i64) (x115)), (Go.Value.slice (a116) (n117) (c118))]), (Go.Value.agg #[(Go.Value.int (IntKind.i64) (x89)), (Go.Value.string (t90)), (Go.Value.string (t91)), (Go.Value.string (t92)), (Go.Value.string (t93)), (Go.Value.bool (b94)), (Go.Value.int (IntKind.i64) (x95)), (Go.Value.int (IntKind.i64) (x96)), (Go.Value.int (IntKind.i64) (x97)), (Go.Value.string (t98)), (Go.Value.slice (a99) (n100) (c101))]), (Go.Value.slice (a106) (n107) (c108))] (true, [(false, [.slice]), (false, [.bool])]) fun ((((a119 : Option Addr), (n120 : Nat), (c121 : Nat)), _), ((b122 : Bool), _), _) =>
          π.guard ((0 : Int) ≤ IntKind.i64.wrap ((↑n120 : Int) - (1 : Int)) ∧ IntKind.i64.wrap ((↑n120 : Int) - (1 : Int)) < (↑n120 : Int)) <|
          π.unSome (a119) fun p123 =>
          π.ld [.int .i64, .int .i64, .slice] (p123.add ((IntKind.i64.wrap ((↑n120 : Int) - (1 : Int))).toNat * (3 : Nat))) fun ((x124 : Int), (x125 : Int), ((a126 : Option Addr), (n127 : Nat), (c128 : Nat)), _) =>
          π.ite (b122) (
            π.call (16 : Nat) #[(Go.Value.agg #[(Go.Value.int (IntKind.i64) (x84)), (Go.Value.int (IntKind.i64) (x85)), (Go.Value.slice (a126) (n127) (c128))]), (Go.Value.agg #[(Go.Value.int (IntKind.i64) (x84)), (Go.Value.int (IntKind.i64) (x85)), (Go.Value.slice (a86) (n87) (c88))])] (false, [(false, [.bool])]) fun (((b129 : Bool), _), _) =>
            π.ret (Go.Value.bool (b129))
          ) (
            π.ret (Go.Value.bool (false))
          )
        )
      )
    )
  )

def ann_SchemaUndo : Ann := { draws := [(10, { A := [0, 1, 2, 3, 4], eag := [6, 7, 8, 9, 10] }), (13, { A := [0, 1, 2, 3, 4, 5, 6, 7], eag := [9, 10, 11, 13] }), (15, { A := [0, 1, 2, 3, 4], chkL := [(5, [3])], eag := [6] })], join := [(3, [(2, 24), (3, 29)]), (7, [(2, 24), (3, 29), (5, 52), (6, 3)]), (10, [(2, 24), (3, 29), (5, 52), (6, 3), (7, 52)])], loop := [(5, [(2, 24), (3, 29), (5, 52), (6, 3)])] }
def la_SchemaUndo : LA := { ptr := [(2, 2, 0), (3, 3, 0), (10, 10, 0), (30, 2, 0), (35, 2, 1), (99, 2, 0), (101, 2, 1), (103, 10, 0), (104, 10, 1)], ty := [(2, 24), (3, 29), (10, 24)] }
set_option maxRecDepth 100000 in
theorem eq_SchemaUndo {W : Type} (π : Prims W) (sv sl : Int) (sa : Option Addr) (san sac : Nat) (dk : Int) (dt dn dc dp : ByteArray) (du : Bool) (dy vk vn : Int) (vs : ByteArray) (da : Option Addr) (dan dac : Nat) : bodyL π Try.prog la_SchemaUndo ann_SchemaUndo (mkFr (maskA [] [.v (.agg #[.int .i64 sv, .int .i64 sl, .slice sa san sac]), .v (.agg #[.int .i64 dk, .string dt, .string dn, .string dc, .string dp, .bool du, .int .i64 dy, .int .i64 vk, .int .i64 vn, .string vs, .slice da dan dac])] 0) 111) Try.f8 (bodyOf Try.f8) (mkFr (List.map some [.v (.agg #[.int .i64 sv, .int .i64 sl, .slice sa san sac]), .v (.agg #[.int .i64 dk, .string dt, .string dn, .string dc, .string dp, .bool du, .int .i64 dy, .int .i64 vk, .int .i64 vn, .string vs, .slice da dan dac])]) 111) = vc_SchemaUndo π sv sl sa san sac dk dt dn dc dp du dy vk vn vs da dan dac := by kernel_rfl
theorem ok_SchemaUndo (sv sl : Int) (sa : Option Addr) (san sac : Nat) (dk : Int) (dt dn dc dp : ByteArray) (du : Bool) (dy vk vn : Int) (vs : ByteArray) (da : Option Addr) (dan dac : Nat) (R : Value → PH → Prop) (s : PH) (h : vc_SchemaUndo (RP Try.prog R) sv sl sa san sac dk dt dn dc dp du dy vk vn vs da dan dac s) : DCalls Try.prog 8 (List.map AV.val [.v (.agg #[.int .i64 sv, .int .i64 sl, .slice sa san sac]), .v (.agg #[.int .i64 dk, .string dt, .string dn, .string dc, .string dp, .bool du, .int .i64 dy, .int .i64 vk, .int .i64 vn, .string vs, .slice da dan dac])]).toArray s R :=
  calls_vcL (c := bodyOf Try.f8) (ann := ann_SchemaUndo) la_SchemaUndo (by kernel_rfl) Try.func8 rfl (by kernel_rfl) [.v (.agg #[.int .i64 sv, .int .i64 sl, .slice sa san sac]), .v (.agg #[.int .i64 dk, .string dt, .string dn, .string dc, .string dp, .bool du, .int .i64 dy, .int .i64 vk, .int .i64 vn, .string vs, .slice da dan dac])] [] (by rw [Try.ntmps8]; exact Nat.le_of_ble_eq_true rfl) (by kernel_rfl) (by rw [show Try.f8.ntmps = 111 from Try.ntmps8, eq_SchemaUndo]; exact h)

end Go.Proofs.Ythepfbcgpbkbdaa
