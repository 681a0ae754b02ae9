/-
  Part 27 for the law: lemmas.
  Conditions: none.
-/
import Derived.Test.YtlfdfgokflhdbaaGreatExecReadsK26
set_option maxHeartbeats 4000000
set_option maxRecDepth 100000
set_option linter.unusedVariables false
set_option linter.unusedSimpArgs false
set_option linter.unusedSectionVars false
namespace Go.Proofs.YtlfdfgokflhdbaaGreat
open Fw Go Go.IntKind
section
variable {W : Type} (π : fX W)
open Fw.W
def FZ (x : BA) (pf pt : BA) : W :=
 π.ite (Op.bytesLess pf.toList x.toList || pf.toList == x.toList) (π.ret (.bool (Op.bytesLess x.toList pt.toList))) (π.ret (.bool false))
theorem Ku (x : BA) (pf pt : BA) : OK 233 [.v (.string x), .v (.agg #[.string pf, .string pt])] fun _ π => FZ π x pf pt :=
 aW { ptr := [(3, 3, 0), (5, 3, 0), (11, 3, 1)], ty := [(3, 129)] } {} [] Tryz.func233 Tryz.ntmps233 rfl (by kernel_rfl) fun _ π => by kernel_rfl
def xA (a : OA) (an ac : Nat) : W :=
 π.ite (a.isNone) (π.ret (.slice none 0 0)) (π.nw (Obj.cells #[] 75 (0, 0)) fun r0 => π.app 75 3 40 [(.string ⟨#[]⟩), (.int .i64 0), (.string ⟨#[]⟩)] (some (Addr.mk r0 0 none)) 0 0 (Src.sl a an) fun a1 n2 c3 => π.ret (.slice a1 n2 c3))
theorem E1 (a : OA) (an ac : Nat) : OK 232 [.v (.slice a an ac)] fun _ π => xA π a an ac :=
 aW {} {} [] Tryz.func232 Tryz.ntmps232 rfl (by kernel_rfl) fun _ π => by kernel_rfl
def A7 (w : Nat) (pf pt : BA) : W :=
 π.aa (some (Addr.mk w 0 none)) fun p0 => π.ld [.map] (p0.add 5) fun ((m1 : Option Nat), _) => π.gv ((129 : Nat)) m1 (.agg #[(.string pf), (.string pt)]) (.slice none 0 0) (false, [.slice]) fun (((a3 : OA), (n4 : Nat), (c5 : Nat)), _) b2 => π.join [(true, [.str, .str]), (false, [.slice])] (fun J6 => π.ite (!b2) (π.aa (some (Addr.mk w 0 none)) fun p7 => π.ld [.raw] (p7.add 3) fun ((v8 : Value), _) => π.inv v8 "Span" #[(.agg #[(.string pf), (.string pt)])] (false, [(false, [.slice])]) fun ((((a9 : OA), (n10 : Nat), (c11 : Nat)), _), _) => π.call 232 #[(.slice a9 n10 c11)] (false, [(false, [.slice])]) fun ((((a12 : OA), (n13 : Nat), (c14 : Nat)), _), _) => π.loop [(true, [.str, .str]), (false, [.slice]), (true, [.str, .str, .slice]), (false, [.slice]), (false, [.int .i64]), (false, [.int .i64])] ((pf, pt, ()), ((a12, n13, c14), ()), (pf, pt, (none, (0 : Nat), (0 : Nat)), ()), ((a12, n13, c14), ()), ((↑n13 : Int), ()), ((0 : Int), ()), ()) fun (((t16 : BA), (t17 : BA), _), (((a18 : OA), (n19 : Nat), (c20 : Nat)), _), ((t21 : BA), (t22 : BA), ((a23 : OA), (n24 : Nat), (c25 : Nat)), _), (((a26 : OA), (n27 : Nat), (c28 : Nat)), _), ((x29 : Int), _), ((x30 : Int), _), _) again15 => π.ite (decide (x30 < x29)) (π.guard (0 ≤ x30 ∧ x30 < (↑n27 : Int)) <| π.aa a26 fun p31 => π.ld [.str, .int .i64, .str] (p31.add (x30.toNat * 3)) fun ((t32 : BA), (x33 : Int), (t34 : BA), _) => π.nw (Obj.cells #[(.string t32), (.int .i64 x33)] 215 (0, 0)) fun r35 =>
 π.app 215 2 24 [(.string ⟨#[]⟩), (.int .i64 0)] a23 n24 c25 (Src.sl (some (Addr.mk r35 0 none)) 1) fun a36 n37 c38 => again15 ((t16, t17, ()), ((a18, n19, c20), ()), (t21, t22, (a36, n37, c38), ()), ((a26, n27, c28), ()), (x29, ()), (i64.wrap (x30 + 1), ()), ())) (π.aa (some (Addr.mk w 0 none)) fun p39 => π.ld [.map] (p39.add 5) fun ((m40 : Option Nat), _) => π.iQ ((129 : Nat)) m40 (.agg #[(.string t16), (.string t17)]) (.slice a18 n19 c20) <| π.aa (some (Addr.mk w 0 none)) fun p41 => π.ld [.slice] (p41.add 4) fun (((a42 : OA), (n43 : Nat), (c44 : Nat)), _) => π.nw (Obj.cells #[(.string t21), (.string t22), (.slice a23 n24 c25)] 132 (0, 0)) fun r45 => π.app 132 3 56 [(.string ⟨#[]⟩), (.string ⟨#[]⟩), (.slice none 0 0)] a42 n43 c44 (Src.sl (some (Addr.mk r45 0 none)) 1) fun a46 n47 c48 => π.aa (some (Addr.mk w 0 none)) fun p49 => π.st (p49.add 4) [(.slice a46 n47 c48)] <| J6 ((t16, t17, ()), ((a18, n19, c20), ()), ()))) (J6 ((pf, pt, ()), ((a3, n4, c5), ()), ()))) (fun (((t50 : BA), (t51 : BA), _), (((a52 : OA), (n53 : Nat), (c54 : Nat)), _), _) => π.loop [(true, [.str, .str]), (false, [.slice]), (false, [.slice]), (false, [.int .i64]), (false, [.int .i64])] ((t50, t51, ()), ((none, (0 : Nat), (0 : Nat)), ()), ((a52, n53, c54), ()), ((↑n53 : Int), ()), ((0 : Int), ()), ()) fun (((t56 : BA), (t57 : BA), _), (((a58 : OA), (n59 : Nat), (c60 : Nat)), _), (((a61 : OA), (n62 : Nat), (c63 : Nat)), _), ((x64 : Int), _), ((x65 : Int), _), _) again55 =>
 π.ite (decide (x65 < x64)) (π.guard (0 ≤ x65 ∧ x65 < (↑n62 : Int)) <| π.aa a61 fun p66 => π.ld [.str, .int .i64, .str] (p66.add (x65.toNat * 3)) fun ((t67 : BA), (x68 : Int), (t69 : BA), _) => π.aa (some (Addr.mk w 0 none)) fun p70 => π.ld [.map] (p70.add 6) fun ((m71 : Option Nat), _) => π.look (TypeDesc.string) m71 (.string t67) (.agg #[(.string ⟨#[]⟩), (.string ⟨#[]⟩), (.bool false)]) (true, [.str, .str, .bool]) fun ((t73 : BA), (t74 : BA), (b75 : Bool), _) b72 => π.ite (!b72) (π.nw (Obj.cells #[(.string t67), (.int .i64 x68), (.string t69)] 75 (0, 0)) fun r76 => π.app 75 3 40 [(.string ⟨#[]⟩), (.int .i64 0), (.string ⟨#[]⟩)] a58 n59 c60 (Src.sl (some (Addr.mk r76 0 none)) 1) fun a77 n78 c79 => again55 ((t56, t57, ()), ((a77, n78, c79), ()), ((a61, n62, c63), ()), (x64, ()), (i64.wrap (x65 + 1), ()), ())) (again55 ((t56, t57, ()), ((a58, n59, c60), ()), ((a61, n62, c63), ()), (x64, ()), (i64.wrap (x65 + 1), ()), ()))) (π.aa (some (Addr.mk w 0 none)) fun p80 => π.ld [.map] (p80.add 6) fun ((m81 : Option Nat), _) => π.oc m81 fun r82 => π.loop [(true, [.str, .str]), (false, [.slice]), (false, [.addr])] ((t56, t57, ()), ((a58, n59, c60), ()), (Addr.mk r82 0 none, ()), ()) fun (((t84 : BA), (t85 : BA), _), (((a86 : OA), (n87 : Nat), (c88 : Nat)), _), (p89, _), _) again83 => π.guard (p89.2 = (0 : Nat)) <| π.nY (p89.1) fun v90 => π.ext v90 ((0 : Nat)) (false, [.bool]) fun ((b91 : Bool), _) => π.ite b91 (π.guard (p89.2 = (0 : Nat)) <| π.nS (p89.1) fun v92 =>
 π.ext v92 ((0 : Nat)) (false, [.str]) fun ((t93 : BA), _) => π.ext v92 ((1 : Nat)) (true, [.str, .str, .bool]) fun ((t94 : BA), (t95 : BA), (b96 : Bool), _) => π.call 233 #[(.string t93), (.agg #[(.string t84), (.string t85)])] (false, [(false, [.bool])]) fun (((b97 : Bool), _), _) => π.ite b97 (π.ite (!b96) (π.nw (Obj.cells #[(.string t93), (.int .i64 0), (.string t95)] 75 (0, 0)) fun r98 => π.app 75 3 40 [(.string ⟨#[]⟩), (.int .i64 0), (.string ⟨#[]⟩)] a86 n87 c88 (Src.sl (some (Addr.mk r98 0 none)) 1) fun a99 n100 c101 => again83 ((t84, t85, ()), ((a99, n100, c101), ()), (p89, ()), ())) (again83 ((t84, t85, ()), ((a86, n87, c88), ()), (p89, ()), ()))) (again83 ((t84, t85, ()), ((a86, n87, c88), ()), (p89, ()), ()))) (π.call 234 #[(.slice a86 n87 c88), (.func (Fn.func 235) #[] #[])] (true, []) fun _ => π.ret (.slice a86 n87 c88))))
theorem Hq (w : Nat) (pf pt : BA) : OK 185 [.v (.pointer (some ⟨w, 0, none⟩)), .v (.agg #[.string pf, .string pt])] fun _ π => A7 π w pf pt :=
 aW { ptr := [(3, 3, 0), (7, 7, 0), (9, 9, 0), (12, 12, 0), (13, 13, 0), (16, 16, 0), (43, 7, 2), (45, 9, 0), (47, 9, 1), (52, 7, 2), (81, 12, 0), (107, 16, 2), (113, 16, 1)], ty := [(3, 129), (7, 132), (9, 75), (12, 75), (13, 79), (16, 79)] } { draws := [(1, { A := [0, 1, 2, 3, 4, 5, 6, 7, 8, 9, 10] }), (3, { A := [0, 1, 2, 3, 4], eag := [7] }), (10, { A := [0, 1, 2, 3, 4, 5] }), (11, { A := [0, 1, 2, 3, 4, 5], eag := [8, 9] }), (16, { A := [0, 1, 2, 3, 4, 5, 6, 7, 8, 9], eag := [12] })], join := [(12, [(3, 129), (5, 65)])], loop := [(6, [(3, 129), (5, 65), (7, 132), (37, 65), (38, 3), (39, 3)]), (14, [(3, 129), (10, 65), (70, 65), (71, 3), (72, 3)]), (21, [(3, 129), (10, 65), (97, 1000000)])] } [] Tryz.func185 Tryz.ntmps185 rfl (by kernel_rfl) fun _ π => by kernel_rfl
def sq (ti : Int) (tn : BA) (ta : OA) (tan tac : Nat) (tx : OA) (txn txc : Nat) (tk : OA) (tkn tkc : Nat) (a : OA) (an ac : Nat) : W :=
 π.loop [(true, [.int .i64, .str, .slice, .slice, .slice]), (false, [.slice]), (false, [.slice]), (false, [.int .i64]), (false, [.int .i64])] ((ti, tn, (ta, tan, tac), (tx, txn, txc), (tk, tkn, tkc), ()), ((none, (0 : Nat), (0 : Nat)), ()), ((a, an, ac), ()), ((↑an : Int), ()), ((0 : Int), ()), ()) fun (((x1 : Int), (t2 : BA), ((a3 : OA), (n4 : Nat), (c5 : Nat)), ((a6 : OA), (n7 : Nat), (c8 : Nat)), ((a9 : OA), (n10 : Nat), (c11 : Nat)), _), (((a12 : OA), (n13 : Nat), (c14 : Nat)), _), (((a15 : OA), (n16 : Nat), (c17 : Nat)), _), ((x18 : Int), _), ((x19 : Int), _), _) again0 => π.ite (decide (x19 < x18)) (π.guard (0 ≤ x19 ∧ x19 < (↑n16 : Int)) <| π.aa a15 fun p20 => π.ld [.str, .int .i64, .str] (p20.add (x19.toNat * 3)) fun ((t21 : BA), (x22 : Int), (t23 : BA), _) => π.call 211 #[(.string t23)] (true, [(false, [.slice]), (false, [.int .i64])]) fun ((((a24 : OA), (n25 : Nat), (c26 : Nat)), _), ((x27 : Int), _), _) => π.join [(true, [.int .i64, .str, .slice, .slice, .slice]), (false, [.slice]), (false, [.slice]), (false, [.slice]), (false, [.int .i64]), (false, [.int .i64]), (false, [.bool])] (fun J28 => π.ite (x27 == 0) (J28 ((x1, t2, (a3, n4, c5), (a6, n7, c8), (a9, n10, c11), ()), ((a12, n13, c14), ()), ((a24, n25, c26), ()), ((a15, n16, c17), ()), (x18, ()), (x19, ()), (decide ((↑n25 : Int) > 0), ()), ())) (J28 ((x1, t2, (a3, n4, c5), (a6, n7, c8), (a9, n10, c11), ()), ((a12, n13, c14), ()), ((a24, n25, c26), ()), ((a15, n16, c17), ()), (x18, ()), (x19, ()), (false, ()), ()))) (fun (((x29 : Int), (t30 : BA), ((a31 : OA), (n32 : Nat), (c33 : Nat)), ((a34 : OA), (n35 : Nat), (c36 : Nat)), ((a37 : OA), (n38 : Nat), (c39 : Nat)), _), (((a40 : OA), (n41 : Nat), (c42 : Nat)), _), (((a43 : OA), (n44 : Nat), (c45 : Nat)), _), (((a46 : OA), (n47 : Nat), (c48 : Nat)), _), ((x49 : Int), _), ((x50 : Int), _), ((b51 : Bool), _), _) =>
 π.ite b51 (π.guard ((0 : Int) ≤ 0 ∧ 0 < (↑n32 : Int)) <| π.aa a31 fun p52 => π.ld [.int .i64] ((p52.add 0).add 0) fun ((x53 : Int), _) => π.call 127 #[(.slice a43 n44 c45), (.int .i64 x53)] (false, [(true, [.int .i64, .int .i64, .str])]) fun (((x54 : Int), (x55 : Int), (t56 : BA), _), _) => π.nw (Obj.cells #[(.int .i64 x54), (.int .i64 x55), (.string t56), (.slice a43 n44 c45)] 234 (0, 0)) fun r57 => π.app 234 4 56 [(.int .i64 0), (.int .i64 0), (.string ⟨#[]⟩), (.slice none 0 0)] a40 n41 c42 (Src.sl (some (Addr.mk r57 0 none)) 1) fun a58 n59 c60 => again0 ((x29, t30, (a31, n32, c33), (a34, n35, c36), (a37, n38, c39), ()), ((a58, n59, c60), ()), ((a46, n47, c48), ()), (x49, ()), (i64.wrap (x50 + 1), ()), ())) (again0 ((x29, t30, (a31, n32, c33), (a34, n35, c36), (a37, n38, c39), ()), ((a40, n41, c42), ()), ((a46, n47, c48), ()), (x49, ()), (i64.wrap (x50 + 1), ()), ())))) (π.ret (.slice a12 n13 c14))
theorem Bx (ti : Int) (tn : BA) (ta : OA) (tan tac : Nat) (tx : OA) (txn txc : Nat) (tk : OA) (tkn tkc : Nat) (a : OA) (an ac : Nat) : OK 184 [.v (.agg #[.int .i64 ti, .string tn, .slice ta tan tac, .slice tx txn txc, .slice tk tkn tkc]), .v (.slice a an ac)] fun _ π => sq π ti tn ta tan tac tx txn txc tk tkn tkc a an ac :=
 aW { ptr := [(2, 2, 0), (7, 7, 0), (17, 7, 2), (31, 2, 2)], ty := [(2, 139), (7, 75)] } { join := [(7, [(2, 139), (5, 227), (8, 95), (10, 65), (11, 3), (12, 3), (28, 4)])], loop := [(3, [(2, 139), (5, 227), (10, 65), (11, 3), (12, 3)])] } [] Tryz.func184 Tryz.ntmps184 rfl (by kernel_rfl) fun _ π => by kernel_rfl
def Cz (w : Nat) (ti : Int) (tn : BA) (ta : OA) (tan tac : Nat) (tx : OA) (txn txc : Nat) (tk : OA) (tkn tkc : Nat) (vk vn : Int) (vs : BA) : W :=
 π.call 162 #[(.int .i64 ti), (.agg #[(.int .i64 vk), (.int .i64 vn), (.string vs)])] (false, [(false, [.str])]) fun (((t0 : BA), _), _) => π.guard ((↑(t0.size + (1 : Nat)) : Int) ≤ 9223372036854775807) <| π.call 185 #[(.pointer (some (Addr.mk w 0 none))), (.agg #[(.string t0), (.string (t0 ++ ByteArray.mk #[(0 : UInt8)]))])] (false, [(false, [.slice])]) fun ((((a1 : OA), (n2 : Nat), (c3 : Nat)), _), _) => π.call 184 #[(.agg #[(.int .i64 ti), (.string tn), (.slice ta tan tac), (.slice tx txn txc), (.slice tk tkn tkc)]), (.slice a1 n2 c3)] (false, [(false, [.slice])]) fun ((((a4 : OA), (n5 : Nat), (c6 : Nat)), _), _) => π.ret (.slice a4 n5 c6)
theorem Jp (w : Nat) (ti : Int) (tn : BA) (ta : OA) (tan tac : Nat) (tx : OA) (txn txc : Nat) (tk : OA) (tkn tkc : Nat) (vk vn : Int) (vs : BA) : OK 121 [.v (.pointer (some ⟨w, 0, none⟩)), .v (.agg #[.int .i64 ti, .string tn, .slice ta tan tac, .slice tx txn txc, .slice tk tkn tkc]), .v (.agg #[.int .i64 vk, .int .i64 vn, .string vs])] fun _ π => Cz π w ti tn ta tan tac tx txn txc tk tkn tkc vk vn vs :=
 aW { ptr := [(4, 4, 0), (5, 5, 0), (8, 4, 0)], ty := [(4, 139), (5, 28)] } { draws := [(2, { A := [0, 1, 2, 3, 4, 5], chkL := [(6, [0])], eag := [8] })],  } [] Tryz.func121 Tryz.ntmps121 rfl (by kernel_rfl) fun _ π => by kernel_rfl
def A8 (w : Nat) (pf pt : BA) : W :=
 π.call 185 #[(.pointer (some (Addr.mk w 0 none))), (.agg #[(.string pf), (.string pt)])] (false, [(false, [.slice])]) fun ((((a0 : OA), (n1 : Nat), (c2 : Nat)), _), _) => π.ite (decide ((↑n1 : Int) > 64)) (π.ret (.tuple #[(.slice none 0 0), (.int .i64 156)])) (π.ret (.tuple #[(.slice a0 n1 c2), (.int .i64 0)]))
theorem Hr (w : Nat) (pf pt : BA) : OK 194 [.v (.pointer (some ⟨w, 0, none⟩)), .v (.agg #[.string pf, .string pt])] fun _ π => A8 π w pf pt :=
 aW { ptr := [(3, 3, 0)], ty := [(3, 129)] } {} [] Tryz.func194 Tryz.ntmps194 rfl (by kernel_rfl) fun _ π => by kernel_rfl
def Cx (w : Nat) (ti : Int) (tn : BA) (ta : OA) (tan tac : Nat) (tx : OA) (txn txc : Nat) (tk : OA) (tkn tkc : Nat) : W :=
 π.call 210 #[(.int .i64 ti)] (false, [(true, [.str, .str])]) fun (((t0 : BA), (t1 : BA), _), _) => π.call 194 #[(.pointer (some (Addr.mk w 0 none))), (.agg #[(.string t0), (.string t1)])] (true, [(false, [.slice]), (false, [.int .i64])]) fun ((((a2 : OA), (n3 : Nat), (c4 : Nat)), _), ((x5 : Int), _), _) => π.call 184 #[(.agg #[(.int .i64 ti), (.string tn), (.slice ta tan tac), (.slice tx txn txc), (.slice tk tkn tkc)]), (.slice a2 n3 c4)] (false, [(false, [.slice])]) fun ((((a6 : OA), (n7 : Nat), (c8 : Nat)), _), _) => π.ret (.tuple #[(.slice a6 n7 c8), (.int .i64 x5)])
theorem Jn (w : Nat) (ti : Int) (tn : BA) (ta : OA) (tan tac : Nat) (tx : OA) (txn txc : Nat) (tk : OA) (tkn tkc : Nat) : OK 190 [.v (.pointer (some ⟨w, 0, none⟩)), .v (.agg #[.int .i64 ti, .string tn, .slice ta tan tac, .slice tx txn txc, .slice tk tkn tkc])] fun _ π => Cx π w ti tn ta tan tac tx txn txc tk tkn tkc :=
 aW { ptr := [(3, 3, 0), (10, 3, 0)], ty := [(3, 139)] } {} [] Tryz.func190 Tryz.ntmps190 rfl (by kernel_rfl) fun _ π => by kernel_rfl
def vm (xi : Int) (xn : BA) (xc : Int) (xu : Bool) (xs : Int) (p : Nat) : W :=
 π.ld [.int .i64] ((Addr.mk p 0 none).add 7) fun ((x0 : Int), _) => π.ite (xc == x0) (π.ret (.bool (xs == 3))) (π.ret (.bool false))
theorem Dy (xi : Int) (xn : BA) (xc : Int) (xu : Bool) (xs : Int) (p : Nat) : OK 191 [.v (.agg #[.int .i64 xi, .string xn, .int .i64 xc, .bool xu, .int .i64 xs]), .v (.pointer (some ⟨p, 0, none⟩))] fun _ π => vm π xi xn xc xu xs p :=
 aW { ptr := [(2, 2, 0), (4, 2, 2), (10, 2, 4)], ty := [(2, 170)] } {} [] Tryz.func191 Tryz.ntmps191 rfl (by kernel_rfl) fun _ π => by kernel_rfl
def vo (rk rn : Int) (rs : BA) (ra : OA) (ran rac : Nat) (p : Nat) : W :=
 π.ld [.int .i64] ((Addr.mk p 0 none).add 7) fun ((x0 : Int), _) => π.cy 127 #[(.slice ra ran rac), (.int .i64 x0)] (false, [(true, [.int .i64, .int .i64, .str])]) fun (((x1 : Int), (x2 : Int), (t3 : BA), _), _) => π.ld [.int .i64, .int .i64, .str] ((Addr.mk p 0 none).add 8) fun ((x4 : Int), (x5 : Int), (t6 : BA), _) => π.ret (.bool (!(x1 == x4 && (x2 == x5 && (t3 == t6 && true)))))
theorem Dz (rk rn : Int) (rs : BA) (ra : OA) (ran rac : Nat) (p : Nat) : OK 193 [.v (.agg #[.int .i64 rk, .int .i64 rn, .string rs, .slice ra ran rac]), .v (.pointer (some ⟨p, 0, none⟩))] fun _ π => vo π rk rn rs ra ran rac p :=
 aW { ptr := [(2, 2, 0), (4, 2, 3)], ty := [(2, 234)] } { draws := [(1, { A := [0, 1, 2, 3, 4, 5, 6, 7, 8], quiet := [4] })],  } [] Tryz.func193 Tryz.ntmps193 rfl (by kernel_rfl) fun _ π => by kernel_rfl
def oB (a : OA) (an ac : Nat) (p : Nat) : W :=
 π.loop [(false, [.int .i64]), (false, [.int .i64])] (((↑an : Int), ()), ((0 : Int), ()), ()) fun (((x1 : Int), _), ((x2 : Int), _), _) again0 => π.ite (decide (x2 < x1)) (π.guard (0 ≤ x2 ∧ x2 < (↑an : Int)) <| π.aa a fun p3 => π.ld [.int .i64, .str, .int .i64, .bool, .int .i64] (p3.add (x2.toNat * 5)) fun ((x4 : Int), (t5 : BA), (x6 : Int), (b7 : Bool), (x8 : Int), _) => π.call 191 #[(.agg #[(.int .i64 x4), (.string t5), (.int .i64 x6), (.bool b7), (.int .i64 x8)]), (.pointer (some (Addr.mk p 0 none)))] (false, [(false, [.bool])]) fun (((b9 : Bool), _), _) => π.ite b9 (π.ret (.int .i64 x2)) (again0 ((x1, ()), (i64.wrap (x2 + 1), ()), ()))) (π.ret (.int .i64 (-1)))
theorem we (a : OA) (an ac : Nat) (p : Nat) : OK 90 [.v (.slice a an ac), .v (.func (.func 191) #[] #[.pointer (some ⟨p, 0, none⟩)])] fun _ π => oB π a an ac p :=
 aW {} { loop := [(2, [(7, 3), (8, 3)])] } [] Tryz.func90 Tryz.ntmps90 rfl (by kernel_rfl) fun _ π => by kernel_rfl
def oy (a : OA) (an ac : Nat) (p : Nat) : W :=
 π.loop [(false, [.int .i64]), (false, [.int .i64])] (((↑an : Int), ()), ((0 : Int), ()), ()) fun (((x1 : Int), _), ((x2 : Int), _), _) again0 => π.ite (decide (x2 < x1)) (π.guard (0 ≤ x2 ∧ x2 < (↑an : Int)) <| π.aa a fun p3 => π.ld [.int .i64, .int .i64, .str, .slice] (p3.add (x2.toNat * 4)) fun ((x4 : Int), (x5 : Int), (t6 : BA), ((a7 : OA), (n8 : Nat), (c9 : Nat)), _) => π.call 193 #[(.agg #[(.int .i64 x4), (.int .i64 x5), (.string t6), (.slice a7 n8 c9)]), (.pointer (some (Addr.mk p 0 none)))] (false, [(false, [.bool])]) fun (((b10 : Bool), _), _) => π.ite b10 (π.ret (.int .i64 x2)) (again0 ((x1, ()), (i64.wrap (x2 + 1), ()), ()))) (π.ret (.int .i64 (-1)))
theorem vX (a : OA) (an ac : Nat) (p : Nat) : OK 238 [.v (.slice a an ac), .v (.func (.func 193) #[] #[.pointer (some ⟨p, 0, none⟩)])] fun _ π => oy π a an ac p :=
 aW {} { loop := [(2, [(7, 3), (8, 3)])] } [] Tryz.func238 Tryz.ntmps238 rfl (by kernel_rfl) fun _ π => by kernel_rfl
def ot (a : OA) (an ac : Nat) (p : Nat) : W :=
 π.call 238 #[(.slice a an ac), (.func (Fn.func 193) #[] #[(.pointer (some (Addr.mk p 0 none)))])] (false, [(false, [.int .i64])]) fun (((x0 : Int), _), _) => π.ite (x0 == (-1 : Int)) (π.ret (.slice a an ac)) (π.loop [(false, [.int .i64]), (false, [.int .i64])] ((x0, ()), (i64.wrap (x0 + 1), ()), ()) fun (((x2 : Int), _), ((x3 : Int), _), _) again1 => π.ite (decide (x3 < (↑an : Int))) (π.guard (0 ≤ x3 ∧ x3 < (↑an : Int)) <| π.aa a fun p4 => π.ld [.int .i64, .int .i64, .str, .slice] (p4.add (x3.toNat * 4)) fun ((x5 : Int), (x6 : Int), (t7 : BA), ((a8 : OA), (n9 : Nat), (c10 : Nat)), _) => π.call 193 #[(.agg #[(.int .i64 x5), (.int .i64 x6), (.string t7), (.slice a8 n9 c10)]), (.pointer (some (Addr.mk p 0 none)))] (false, [(false, [.bool])]) fun (((b11 : Bool), _), _) => π.ite (!b11) (π.guard (0 ≤ x2 ∧ x2 < (↑an : Int)) <| π.aa a fun p12 => π.st (p12.add (x2.toNat * 4)) [(.int .i64 x5), (.int .i64 x6), (.string t7), (.slice a8 n9 c10)] <| again1 ((i64.wrap (x2 + 1), ()), (i64.wrap (x3 + 1), ()), ())) (again1 ((x2, ()), (i64.wrap (x3 + 1), ()), ()))) (π.guard (0 ≤ x2 ∧ x2 ≤ (↑an : Int) ∧ (↑an : Int) ≤ (↑ac : Int)) <| π.nR [(.int .i64 0), (.int .i64 0), (.string ⟨#[]⟩), (.slice none 0 0)] (if ac = x2.toNat then a else Option.map (fun x => x.add (x2.toNat * 4)) a) ((↑an : Int).toNat - x2.toNat) <| π.guard ((0 : Int) ≤ 0 ∧ 0 ≤ x2 ∧ x2 ≤ (↑ac : Int)) <| π.ret (.slice (if ac = (0 : Nat) then a else Option.map (fun x => x.add 0) a) (x2.toNat - (0 : Nat)) (ac - (0 : Nat)))))
theorem vT (a : OA) (an ac : Nat) (p : Nat) : OK 192 [.v (.slice a an ac), .v (.func (.func 193) #[] #[.pointer (some ⟨p, 0, none⟩)])] fun _ π => ot π a an ac p :=
 aW { ptr := [(7, 7, 0)], ty := [(7, 234)] } { loop := [(5, [(5, 3), (6, 3)])] } [] Tryz.func192 Tryz.ntmps192 rfl (by kernel_rfl) fun _ π => by kernel_rfl
def xW (w : Nat) (ti : Int) (tn : BA) (ta : OA) (tan tac : Nat) (tx : OA) (txn txc : Nat) (tk : OA) (tkn tkc : Nat) (bk bt : Int) (ba : OA) (ban bac : Nat) (be gk gn : Int) (gs : BA) (bw sk sn : Int) (ss : BA) : W :=
 π.nw (Obj.cells #[(.int .i64 bk), (.int .i64 bt), (.slice ba ban bac), (.int .i64 be), (.int .i64 gk), (.int .i64 gn), (.string gs), (.int .i64 bw), (.int .i64 sk), (.int .i64 sn), (.string ss)] 127 (0, 0)) fun r0 => π.ld [.int .i64] ((Addr.mk r0 0 none).add 7) fun ((x1 : Int), _) => π.ite (x1 == 0) (π.call 190 #[(.pointer (some (Addr.mk w 0 none))), (.agg #[(.int .i64 ti), (.string tn), (.slice ta tan tac), (.slice tx txn txc), (.slice tk tkn tkc)])] (true, [(false, [.slice]), (false, [.int .i64])]) fun ((((a2 : OA), (n3 : Nat), (c4 : Nat)), _), ((x5 : Int), _), _) => π.ret (.tuple #[(.slice a2 n3 c4), (.int .i64 x5)])) (π.ld [.int .i64] ((Addr.mk r0 0 none).add 7) fun ((x6 : Int), _) => π.guard ((0 : Int) ≤ 0 ∧ 0 < (↑tan : Int)) <| π.aa ta fun p7 => π.ld [.int .i64] ((p7.add 0).add 0) fun ((x8 : Int), _) => π.ite (x6 == x8) (π.ld [.int .i64, .int .i64, .str] ((Addr.mk r0 0 none).add 8) fun ((x9 : Int), (x10 : Int), (t11 : BA), _) => π.call 121 #[(.pointer (some (Addr.mk w 0 none))), (.agg #[(.int .i64 ti), (.string tn), (.slice ta tan tac), (.slice tx txn txc), (.slice tk tkn tkc)]), (.agg #[(.int .i64 x9), (.int .i64 x10), (.string t11)])] (false, [(false, [.slice])]) fun ((((a12 : OA), (n13 : Nat), (c14 : Nat)), _), _) => π.ret (.tuple #[(.slice a12 n13 c14), (.int .i64 0)])) (π.call 90 #[(.slice tx txn txc), (.func (Fn.func 191) #[] #[(.pointer (some (Addr.mk r0 0 none)))])] (false, [(false, [.int .i64])]) fun (((x15 : Int), _), _) => π.ite (decide (x15 < 0)) (π.call 190 #[(.pointer (some (Addr.mk w 0 none))), (.agg #[(.int .i64 ti), (.string tn), (.slice ta tan tac), (.slice tx txn txc), (.slice tk tkn tkc)])] (true, [(false, [.slice]), (false, [.int .i64])]) fun ((((a16 : OA), (n17 : Nat), (c18 : Nat)), _), ((x19 : Int), _), _) =>
 π.call 192 #[(.slice a16 n17 c18), (.func (Fn.func 193) #[] #[(.pointer (some (Addr.mk r0 0 none)))])] (false, [(false, [.slice])]) fun ((((a20 : OA), (n21 : Nat), (c22 : Nat)), _), _) => π.ret (.tuple #[(.slice a20 n21 c22), (.int .i64 x19)])) (π.guard (0 ≤ x15 ∧ x15 < (↑txn : Int)) <| π.aa tx fun p23 => π.ld [.int .i64] ((p23.add (x15.toNat * 5)).add 0) fun ((x24 : Int), _) => π.ld [.int .i64, .int .i64, .str] ((Addr.mk r0 0 none).add 8) fun ((x25 : Int), (x26 : Int), (t27 : BA), _) => π.cy 153 #[(.int .i64 x24), (.agg #[(.int .i64 x25), (.int .i64 x26), (.string t27)])] (false, [(true, [.str, .str])]) fun (((t28 : BA), (t29 : BA), _), _) => π.call 194 #[(.pointer (some (Addr.mk w 0 none))), (.agg #[(.string t28), (.string t29)])] (true, [(false, [.slice]), (false, [.int .i64])]) fun ((((a30 : OA), (n31 : Nat), (c32 : Nat)), _), ((x33 : Int), _), _) => π.loop [(true, [.int .i64, .str, .slice, .slice, .slice]), (false, [.int .i64]), (false, [.slice]), (false, [.slice]), (false, [.int .i64]), (false, [.int .i64])] ((ti, tn, (ta, tan, tac), (tx, txn, txc), (tk, tkn, tkc), ()), (x33, ()), ((none, (0 : Nat), (0 : Nat)), ()), ((a30, n31, c32), ()), ((↑n31 : Int), ()), ((0 : Int), ()), ()) fun (((x35 : Int), (t36 : BA), ((a37 : OA), (n38 : Nat), (c39 : Nat)), ((a40 : OA), (n41 : Nat), (c42 : Nat)), ((a43 : OA), (n44 : Nat), (c45 : Nat)), _), ((x46 : Int), _), (((a47 : OA), (n48 : Nat), (c49 : Nat)), _), (((a50 : OA), (n51 : Nat), (c52 : Nat)), _), ((x53 : Int), _), ((x54 : Int), _), _) again34 =>
 π.ite (decide (x54 < x53)) (π.guard (0 ≤ x54 ∧ x54 < (↑n51 : Int)) <| π.aa a50 fun p55 => π.ld [.str, .int .i64, .str] (p55.add (x54.toNat * 3)) fun ((t56 : BA), (x57 : Int), (t58 : BA), _) => π.call 150 #[(.string t56)] (true, [(true, [.int .i64, .int .i64, .str]), (false, [.int .i64])]) fun (((x59 : Int), (x60 : Int), (t61 : BA), _), ((x62 : Int), _), _) => π.ite (x62 == 0) (π.call 121 #[(.pointer (some (Addr.mk w 0 none))), (.agg #[(.int .i64 x35), (.string t36), (.slice a37 n38 c39), (.slice a40 n41 c42), (.slice a43 n44 c45)]), (.agg #[(.int .i64 x59), (.int .i64 x60), (.string t61)])] (false, [(false, [.slice])]) fun ((((a63 : OA), (n64 : Nat), (c65 : Nat)), _), _) => π.app 234 4 56 [(.int .i64 0), (.int .i64 0), (.string ⟨#[]⟩), (.slice none 0 0)] a47 n48 c49 (Src.sl a63 n64) fun a66 n67 c68 => again34 ((x35, t36, (a37, n38, c39), (a40, n41, c42), (a43, n44, c45), ()), (x46, ()), ((a66, n67, c68), ()), ((a50, n51, c52), ()), (x53, ()), (i64.wrap (x54 + 1), ()), ())) (again34 ((x35, t36, (a37, n38, c39), (a40, n41, c42), (a43, n44, c45), ()), (x46, ()), ((a47, n48, c49), ()), ((a50, n51, c52), ()), (x53, ()), (i64.wrap (x54 + 1), ()), ()))) (π.ret (.tuple #[(.slice a47 n48 c49), (.int .i64 x46)])))))
theorem Fp (w : Nat) (ti : Int) (tn : BA) (ta : OA) (tan tac : Nat) (tx : OA) (txn txc : Nat) (tk : OA) (tkn tkc : Nat) (bk bt : Int) (ba : OA) (ban bac : Nat) (be gk gn : Int) (gs : BA) (bw sk sn : Int) (ss : BA) : OK 124 [.v (.pointer (some ⟨w, 0, none⟩)), .v (.agg #[.int .i64 ti, .string tn, .slice ta tan tac, .slice tx txn txc, .slice tk tkn tkc]), .v (.agg #[.int .i64 bk, .int .i64 bt, .slice ba ban bac, .int .i64 be, .int .i64 gk, .int .i64 gn, .string gs, .int .i64 bw, .int .i64 sk, .int .i64 sn, .string ss])] fun _ π => xW π w ti tn ta tan tac tx txn txc tk tkn tkc bk bt ba ban bac be gk gn gs bw sk sn ss :=
 aW { ptr := [(4, 4, 0), (15, 15, 0), (16, 16, 0), (28, 4, 2), (39, 4, 3), (57, 4, 3), (76, 15, 0)], ty := [(4, 139), (15, 75), (16, 28)] } { draws := [(3, { A := [0, 1, 2, 3, 4, 5, 6, 7] }), (9, { A := [0, 1, 2, 3, 4, 5, 6, 7, 8, 9], quiet := [9], eag := [11, 12, 13, 14, 15] })], loop := [(12, [(4, 139), (12, 32), (13, 227), (69, 65), (70, 3), (71, 3)])] } [] Tryz.func124 Tryz.ntmps124 rfl (by kernel_rfl) fun _ π => by kernel_rfl
def vj (k : Int) : W :=
 π.ite (k == 2) (π.ret (.bool true)) (π.ret (.bool (k == 3)))
theorem Dw (k : Int) : OK 187 [.v (.int .i64 k)] fun _ π => vj π k :=
 aW {} {} [] Tryz.func187 Tryz.ntmps187 rfl (by kernel_rfl) fun _ π => by kernel_rfl
def vg (k : Int) (p q : Nat) : W :=
 π.ld [.slice] (Addr.mk p 0 none) fun (((a0 : OA), (n1 : Nat), (c2 : Nat)), _) => π.call 127 #[(.slice a0 n1 c2), (.int .i64 k)] (false, [(true, [.int .i64, .int .i64, .str])]) fun (((x3 : Int), (x4 : Int), (t5 : BA), _), _) => π.ite (x3 != 0) (π.ld [.slice] (Addr.mk q 0 none) fun (((a6 : OA), (n7 : Nat), (c8 : Nat)), _) => π.ite ((↑n7 : Int) == 0) (π.ret (.tuple #[(.agg #[(.int .i64 x3), (.int .i64 x4), (.string t5)]), (.bool true)])) (π.ld [.slice] (Addr.mk q 0 none) fun (((a9 : OA), (n10 : Nat), (c11 : Nat)), _) => π.cy 127 #[(.slice a9 n10 c11), (.int .i64 k)] (false, [(true, [.int .i64, .int .i64, .str])]) fun (((x12 : Int), (x13 : Int), (t14 : BA), _), _) => π.ret (.tuple #[(.agg #[(.int .i64 x3), (.int .i64 x4), (.string t5)]), (.bool (!(x12 == x3 && (x13 == x4 && (t14 == t5 && true)))))]))) (π.ret (.tuple #[(.agg #[(.int .i64 x3), (.int .i64 x4), (.string t5)]), (.bool false)]))
theorem Dt (k : Int) (p q : Nat) : OK 186 [.v (.int .i64 k), .v (.pointer (some ⟨p, 0, none⟩)), .v (.pointer (some ⟨q, 0, none⟩))] fun _ π => vg π k p q :=
 aW { ptr := [(4, 4, 0), (6, 6, 0), (11, 6, 0)], ty := [(4, 28), (6, 28)] } { draws := [(2, { A := [0, 1, 2, 3, 4, 5, 6, 7, 8, 9, 10, 11, 12, 13, 14, 15], quiet := [11], chkL := [(16, [12])], eag := [17] })],  } [] Tryz.func186 Tryz.ntmps186 rfl (by kernel_rfl) fun _ π => by kernel_rfl
def vh (ti : Int) (tn : BA) (ta : OA) (tan tac : Nat) (tx : OA) (txn txc : Nat) (tk : OA) (tkn tkc : Nat) (p : Nat) : W :=
 π.ld [.int .i64] ((Addr.mk p 0 none).add 3) fun ((x0 : Int), _) => π.ret (.bool (ti == x0))
theorem Du (ti : Int) (tn : BA) (ta : OA) (tan tac : Nat) (tx : OA) (txn txc : Nat) (tk : OA) (tkn tkc : Nat) (p : Nat) : OK 188 [.v (.agg #[.int .i64 ti, .string tn, .slice ta tan tac, .slice tx txn txc, .slice tk tkn tkc]), .v (.pointer (some ⟨p, 0, none⟩))] fun _ π => vh π ti tn ta tan tac tx txn txc tk tkn tkc p :=
 aW { ptr := [(2, 2, 0), (4, 2, 0)], ty := [(2, 139)] } {} [] Tryz.func188 Tryz.ntmps188 rfl (by kernel_rfl) fun _ π => by kernel_rfl
def oA (a : OA) (an ac : Nat) (p : Nat) : W :=
 π.loop [(false, [.int .i64]), (false, [.int .i64])] (((↑an : Int), ()), ((0 : Int), ()), ()) fun (((x1 : Int), _), ((x2 : Int), _), _) again0 => π.ite (decide (x2 < x1)) (π.guard (0 ≤ x2 ∧ x2 < (↑an : Int)) <| π.aa a fun p3 => π.ld [.int .i64, .str, .slice, .slice, .slice] (p3.add (x2.toNat * 5)) fun ((x4 : Int), (t5 : BA), ((a6 : OA), (n7 : Nat), (c8 : Nat)), ((a9 : OA), (n10 : Nat), (c11 : Nat)), ((a12 : OA), (n13 : Nat), (c14 : Nat)), _) => π.call 188 #[(.agg #[(.int .i64 x4), (.string t5), (.slice a6 n7 c8), (.slice a9 n10 c11), (.slice a12 n13 c14)]), (.pointer (some (Addr.mk p 0 none)))] (false, [(false, [.bool])]) fun (((b15 : Bool), _), _) => π.ite b15 (π.ret (.int .i64 x2)) (again0 ((x1, ()), (i64.wrap (x2 + 1), ()), ()))) (π.ret (.int .i64 (-1)))
theorem vZ (a : OA) (an ac : Nat) (p : Nat) : OK 128 [.v (.slice a an ac), .v (.func (.func 188) #[] #[.pointer (some ⟨p, 0, none⟩)])] fun _ π => oA π a an ac p :=
 aW {} { loop := [(2, [(7, 3), (8, 3)])] } [] Tryz.func128 Tryz.ntmps128 rfl (by kernel_rfl) fun _ π => by kernel_rfl
def xU (w : Nat) (ti : Int) (tn : BA) (ta : OA) (tan tac : Nat) (tx : OA) (txn txc : Nat) (tk : OA) (tkn tkc : Nat) (vk vn : Int) (vs : BA) (a : OA) (an ac : Nat) (b : OA) (bn bc : Nat) : W :=
 π.nw (Obj.cells #[(.slice a an ac)] 95 (0, 0)) fun r0 => π.nw (Obj.cells #[(.slice b bn bc)] 95 (0, 0)) fun r1 => π.loop [(true, [.int .i64, .str, .slice, .slice, .slice]), (true, [.int .i64, .int .i64, .str]), (false, [.raw]), (false, [.slice]), (false, [.int .i64]), (false, [.int .i64])] ((ti, tn, (ta, tan, tac), (tx, txn, txc), (tk, tkn, tkc), ()), (vk, vn, vs, ()), ((.func (Fn.func 186) #[] #[(.pointer (some (Addr.mk r1 0 none))), (.pointer (some (Addr.mk r0 0 none)))]), ()), ((tx, txn, txc), ()), ((↑txn : Int), ()), ((0 : Int), ()), ()) fun (((x3 : Int), (t4 : BA), ((a5 : OA), (n6 : Nat), (c7 : Nat)), ((a8 : OA), (n9 : Nat), (c10 : Nat)), ((a11 : OA), (n12 : Nat), (c13 : Nat)), _), ((x14 : Int), (x15 : Int), (t16 : BA), _), ((v17 : Value), _), (((a18 : OA), (n19 : Nat), (c20 : Nat)), _), ((x21 : Int), _), ((x22 : Int), _), _) again2 => π.ite (decide (x22 < x21)) (π.guard (0 ≤ x22 ∧ x22 < (↑n19 : Int)) <| π.aa a18 fun p23 => π.ld [.int .i64, .str, .int .i64, .bool, .int .i64] (p23.add (x22.toNat * 5)) fun ((x24 : Int), (t25 : BA), (x26 : Int), (b27 : Bool), (x28 : Int), _) => π.dR v17 #[(.int .i64 x26)] (true, [(true, [.int .i64, .int .i64, .str]), (false, [.bool])]) fun (((x29 : Int), (x30 : Int), (t31 : BA), _), ((b32 : Bool), _), _) => π.join [(true, [.int .i64, .str, .slice, .slice, .slice]), (true, [.int .i64, .int .i64, .str]), (false, [.raw]), (true, [.int .i64, .str, .int .i64, .bool, .int .i64]), (true, [.int .i64, .int .i64, .str]), (false, [.slice]), (false, [.int .i64]), (false, [.int .i64])] (fun J33 =>
 π.ite (!b32) (again2 ((x3, t4, (a5, n6, c7), (a8, n9, c10), (a11, n12, c13), ()), (x14, x15, t16, ()), (v17, ()), ((a18, n19, c20), ()), (x21, ()), (i64.wrap (x22 + 1), ()), ())) (π.ite (!b27) (again2 ((x3, t4, (a5, n6, c7), (a8, n9, c10), (a11, n12, c13), ()), (x14, x15, t16, ()), (v17, ()), ((a18, n19, c20), ()), (x21, ()), (i64.wrap (x22 + 1), ()), ())) (π.call 187 #[(.int .i64 x28)] (false, [(false, [.bool])]) fun (((b34 : Bool), _), _) => π.ite (!b34) (again2 ((x3, t4, (a5, n6, c7), (a8, n9, c10), (a11, n12, c13), ()), (x14, x15, t16, ()), (v17, ()), ((a18, n19, c20), ()), (x21, ()), (i64.wrap (x22 + 1), ()), ())) (J33 ((x3, t4, (a5, n6, c7), (a8, n9, c10), (a11, n12, c13), ()), (x14, x15, t16, ()), (v17, ()), (x24, t25, x26, b27, x28, ()), (x29, x30, t31, ()), ((a18, n19, c20), ()), (x21, ()), (x22, ()), ()))))) (fun (((x35 : Int), (t36 : BA), ((a37 : OA), (n38 : Nat), (c39 : Nat)), ((a40 : OA), (n41 : Nat), (c42 : Nat)), ((a43 : OA), (n44 : Nat), (c45 : Nat)), _), ((x46 : Int), (x47 : Int), (t48 : BA), _), ((v49 : Value), _), ((x50 : Int), (t51 : BA), (x52 : Int), (b53 : Bool), (x54 : Int), _), ((x55 : Int), (x56 : Int), (t57 : BA), _), (((a58 : OA), (n59 : Nat), (c60 : Nat)), _), ((x61 : Int), _), ((x62 : Int), _), _) => π.call 153 #[(.int .i64 x50), (.agg #[(.int .i64 x55), (.int .i64 x56), (.string t57)])] (false, [(true, [.str, .str])]) fun (((t63 : BA), (t64 : BA), _), _) =>
 π.call 185 #[(.pointer (some (Addr.mk w 0 none))), (.agg #[(.string t63), (.string t64)])] (false, [(false, [.slice])]) fun ((((a65 : OA), (n66 : Nat), (c67 : Nat)), _), _) => π.loop [(true, [.int .i64, .str, .slice, .slice, .slice]), (true, [.int .i64, .int .i64, .str]), (false, [.raw]), (false, [.slice]), (false, [.int .i64]), (false, [.int .i64]), (false, [.slice]), (false, [.int .i64]), (false, [.int .i64])] ((x35, t36, (a37, n38, c39), (a40, n41, c42), (a43, n44, c45), ()), (x46, x47, t48, ()), (v49, ()), ((a58, n59, c60), ()), (x61, ()), (x62, ()), ((a65, n66, c67), ()), ((↑n66 : Int), ()), ((0 : Int), ()), ()) fun (((x69 : Int), (t70 : BA), ((a71 : OA), (n72 : Nat), (c73 : Nat)), ((a74 : OA), (n75 : Nat), (c76 : Nat)), ((a77 : OA), (n78 : Nat), (c79 : Nat)), _), ((x80 : Int), (x81 : Int), (t82 : BA), _), ((v83 : Value), _), (((a84 : OA), (n85 : Nat), (c86 : Nat)), _), ((x87 : Int), _), ((x88 : Int), _), (((a89 : OA), (n90 : Nat), (c91 : Nat)), _), ((x92 : Int), _), ((x93 : Int), _), _) again68 => π.ite (decide (x93 < x92)) (π.guard (0 ≤ x93 ∧ x93 < (↑n90 : Int)) <| π.aa a89 fun p94 => π.ld [.str, .int .i64, .str] (p94.add (x93.toNat * 3)) fun ((t95 : BA), (x96 : Int), (t97 : BA), _) => π.call 150 #[(.string t95)] (true, [(true, [.int .i64, .int .i64, .str]), (false, [.int .i64])]) fun (((x98 : Int), (x99 : Int), (t100 : BA), _), ((x101 : Int), _), _) => π.ite (x101 == 0) (π.ite (!(x98 == x80 && (x99 == x81 && (t100 == t82 && true)))) (π.ret (.int .i64 210)) (again68 ((x69, t70, (a71, n72, c73), (a74, n75, c76), (a77, n78, c79), ()), (x80, x81, t82, ()), (v83, ()), ((a84, n85, c86), ()), (x87, ()), (x88, ()), ((a89, n90, c91), ()), (x92, ()), (i64.wrap (x93 + 1), ()), ()))) (again68 ((x69, t70, (a71, n72, c73), (a74, n75, c76), (a77, n78, c79), ()), (x80, x81, t82, ()), (v83, ()), ((a84, n85, c86), ()), (x87, ()), (x88, ()), ((a89, n90, c91), ()), (x92, ()), (i64.wrap (x93 + 1), ()), ()))) (again2 ((x69, t70, (a71, n72, c73), (a74, n75, c76), (a77, n78, c79), ()), (x80, x81, t82, ()), (v83, ()), ((a84, n85, c86), ()), (x87, ()), (i64.wrap (x88 + 1), ()), ())))) (π.loop [(true, [.int .i64, .str, .slice, .slice, .slice]), (true, [.int .i64, .int .i64, .str]), (false, [.raw]), (false, [.slice]), (false, [.int .i64]), (false, [.int .i64])] ((x3, t4, (a5, n6, c7), (a8, n9, c10), (a11, n12, c13), ()), (x14, x15, t16, ()), (v17, ()), ((a11, n12, c13), ()), ((↑n12 : Int), ()), ((0 : Int), ()), ()) fun (((x103 : Int), (t104 : BA), ((a105 : OA), (n106 : Nat), (c107 : Nat)), ((a108 : OA), (n109 : Nat), (c110 : Nat)), ((a111 : OA), (n112 : Nat), (c113 : Nat)), _), ((x114 : Int), (x115 : Int), (t116 : BA), _), ((v117 : Value), _), (((a118 : OA), (n119 : Nat), (c120 : Nat)), _), ((x121 : Int), _), ((x122 : Int), _), _) again102 =>
 π.ite (decide (x122 < x121)) (π.guard (0 ≤ x122 ∧ x122 < (↑n119 : Int)) <| π.aa a118 fun p123 => π.ld [.int .i64, .str, .int .i64, .int .i64, .int .i64] (p123.add (x122.toNat * 5)) fun ((x124 : Int), (t125 : BA), (x126 : Int), (x127 : Int), (x128 : Int), _) => π.nw (Obj.cells #[(.int .i64 0), (.string ⟨#[]⟩), (.int .i64 0), (.int .i64 0), (.int .i64 0)] 173 (0, 0)) fun r129 => π.st (Addr.mk r129 0 none) [(.int .i64 x124), (.string t125), (.int .i64 x126), (.int .i64 x127), (.int .i64 x128)] <| π.ld [.int .i64] ((Addr.mk r129 0 none).add 2) fun ((x130 : Int), _) => π.dR v117 #[(.int .i64 x130)] (true, [(true, [.int .i64, .int .i64, .str]), (false, [.bool])]) fun (((x131 : Int), (x132 : Int), (t133 : BA), _), ((b134 : Bool), _), _) => π.join [(true, [.int .i64, .str, .slice, .slice, .slice]), (true, [.int .i64, .int .i64, .str]), (false, [.raw]), (false, [.addr]), (true, [.int .i64, .int .i64, .str]), (false, [.slice]), (false, [.int .i64]), (false, [.int .i64])] (fun J135 => π.ite (!b134) (again102 ((x103, t104, (a105, n106, c107), (a108, n109, c110), (a111, n112, c113), ()), (x114, x115, t116, ()), (v117, ()), ((a118, n119, c120), ()), (x121, ()), (i64.wrap (x122 + 1), ()), ())) (π.ld [.int .i64] ((Addr.mk r129 0 none).add 4) fun ((x136 : Int), _) => π.call 187 #[(.int .i64 x136)] (false, [(false, [.bool])]) fun (((b137 : Bool), _), _) => π.ite (!b137) (again102 ((x103, t104, (a105, n106, c107), (a108, n109, c110), (a111, n112, c113), ()), (x114, x115, t116, ()), (v117, ()), ((a118, n119, c120), ()), (x121, ()), (i64.wrap (x122 + 1), ()), ())) (π.ld [.int .i64] ((Addr.mk r129 0 none).add 3) fun ((x138 : Int), _) =>
 π.ite (x138 == x103) (π.ite (x131 == x114 && (x132 == x115 && (t133 == t116 && true))) (again102 ((x103, t104, (a105, n106, c107), (a108, n109, c110), (a111, n112, c113), ()), (x114, x115, t116, ()), (v117, ()), ((a118, n119, c120), ()), (x121, ()), (i64.wrap (x122 + 1), ()), ())) (J135 ((x103, t104, (a105, n106, c107), (a108, n109, c110), (a111, n112, c113), ()), (x114, x115, t116, ()), (v117, ()), (Addr.mk r129 0 none, ()), (x131, x132, t133, ()), ((a118, n119, c120), ()), (x121, ()), (x122, ()), ()))) (J135 ((x103, t104, (a105, n106, c107), (a108, n109, c110), (a111, n112, c113), ()), (x114, x115, t116, ()), (v117, ()), (Addr.mk r129 0 none, ()), (x131, x132, t133, ()), ((a118, n119, c120), ()), (x121, ()), (x122, ()), ()))))) (fun (((x139 : Int), (t140 : BA), ((a141 : OA), (n142 : Nat), (c143 : Nat)), ((a144 : OA), (n145 : Nat), (c146 : Nat)), ((a147 : OA), (n148 : Nat), (c149 : Nat)), _), ((x150 : Int), (x151 : Int), (t152 : BA), _), ((v153 : Value), _), (p154, _), ((x155 : Int), (x156 : Int), (t157 : BA), _), (((a158 : OA), (n159 : Nat), (c160 : Nat)), _), ((x161 : Int), _), ((x162 : Int), _), _) => π.aa (some (Addr.mk w 0 none)) fun p163 => π.ld [.slice] ((p163.add 0).add 2) fun (((a164 : OA), (n165 : Nat), (c166 : Nat)), _) => π.call 128 #[(.slice a164 n165 c166), (.func (Fn.func 188) #[] #[(.pointer (some p154))])] (false, [(false, [.int .i64])]) fun (((x167 : Int), _), _) => π.aa (some (Addr.mk w 0 none)) fun p168 =>
 π.ld [.slice] ((p168.add 0).add 2) fun (((a169 : OA), (n170 : Nat), (c171 : Nat)), _) => π.guard (0 ≤ x167 ∧ x167 < (↑n170 : Int)) <| π.aa a169 fun p172 => π.ld [.int .i64, .str, .slice, .slice, .slice] (p172.add (x167.toNat * 5)) fun ((x173 : Int), (t174 : BA), ((a175 : OA), (n176 : Nat), (c177 : Nat)), ((a178 : OA), (n179 : Nat), (c180 : Nat)), ((a181 : OA), (n182 : Nat), (c183 : Nat)), _) => π.call 121 #[(.pointer (some (Addr.mk w 0 none))), (.agg #[(.int .i64 x173), (.string t174), (.slice a175 n176 c177), (.slice a178 n179 c180), (.slice a181 n182 c183)]), (.agg #[(.int .i64 x155), (.int .i64 x156), (.string t157)])] (false, [(false, [.slice])]) fun ((((a184 : OA), (n185 : Nat), (c186 : Nat)), _), _) => π.ite ((↑n185 : Int) == 0) (π.ret (.int .i64 211)) (again102 ((x139, t140, (a141, n142, c143), (a144, n145, c146), (a147, n148, c149), ()), (x150, x151, t152, ()), (v153, ()), ((a158, n159, c160), ()), (x161, ()), (i64.wrap (x162 + 1), ()), ())))) (π.ret (.int .i64 0)))
theorem Fm (w : Nat) (ti : Int) (tn : BA) (ta : OA) (tan tac : Nat) (tx : OA) (txn txc : Nat) (tk : OA) (tkn tkc : Nat) (vk vn : Int) (vs : BA) (a : OA) (an ac : Nat) (b : OA) (bn bc : Nat) : OK 122 [.v (.pointer (some ⟨w, 0, none⟩)), .v (.agg #[.int .i64 ti, .string tn, .slice ta tan tac, .slice tx txn txc, .slice tk tkn tkc]), .v (.agg #[.int .i64 vk, .int .i64 vn, .string vs]), .v (.slice a an ac), .v (.slice b bn bc)] fun _ π => xU π w ti tn ta tan tac tx txn txc tk tkn tkc vk vn vs a an ac b bn bc :=
 aW { ptr := [(6, 6, 0), (7, 7, 0), (13, 13, 0), (14, 14, 0), (17, 17, 0), (18, 18, 0), (22, 22, 0), (26, 6, 3), (35, 13, 2), (43, 13, 3), (48, 13, 4), (54, 13, 0), (65, 17, 0), (79, 6, 4), (104, 6, 0)], ty := [(6, 139), (7, 28), (13, 170), (14, 28), (17, 75), (18, 28), (22, 28)] } { draws := [(21, { A := [0, 1, 2, 3, 4, 5, 6, 7, 8, 9], eag := [11, 12] })], join := [(7, [(6, 139), (7, 28), (11, 279), (13, 170), (14, 28), (27, 136), (28, 3), (29, 3)]), (20, [(6, 139), (7, 28), (11, 279), (21, 1000000), (22, 28), (80, 137), (81, 3), (82, 3)])], loop := [(3, [(6, 139), (7, 28), (11, 279), (27, 136), (28, 3), (29, 3)]), (8, [(6, 139), (7, 28), (11, 279), (27, 136), (28, 3), (29, 3), (58, 65), (59, 3), (60, 3)]), (16, [(6, 139), (7, 28), (11, 279), (80, 137), (81, 3), (82, 3)])] } [] Tryz.func122 Tryz.ntmps122 rfl (by kernel_rfl) fun _ π => by kernel_rfl
def A3 (k v : BA) (d : Bool) (p : Nat) : W :=
 π.ld [.slice] (Addr.mk p 0 none) fun (((a0 : OA), (n1 : Nat), (c2 : Nat)), _) => π.nw (Obj.cells #[(.string k), (.string v), (.bool d)] 79 (0, 0)) fun r3 => π.app 79 3 40 [(.string ⟨#[]⟩), (.string ⟨#[]⟩), (.bool false)] a0 n1 c2 (Src.sl (some (Addr.mk r3 0 none)) 1) fun a4 n5 c6 => π.st (Addr.mk p 0 none) [(.slice a4 n5 c6)] <| π.ret (.tuple #[])
theorem Hj (k v : BA) (d : Bool) (p : Nat) : OK 237 [.v (.string k), .v (.string v), .v (.bool d), .v (.pointer (some ⟨p, 0, none⟩))] fun _ π => A3 π k v d p :=
 aW {} {} [] Tryz.func237 Tryz.ntmps237 rfl (by kernel_rfl) fun _ π => by kernel_rfl
def so (ti : Int) (tn : BA) (ta : OA) (tan tac : Nat) (tx : OA) (txn txc : Nat) (tk : OA) (tkn tkc : Nat) (a : OA) (an ac : Nat) (b : OA) (bn bc : Nat) : W :=
 π.join [(true, [.int .i64, .str, .slice, .slice, .slice])] (fun J0 => π.ite ((↑tan : Int) == 0) (π.ret (.slice none 0 0)) (π.ite (i64.wrap ((↑an : Int) + (↑bn : Int)) == 0) (π.ret (.slice none 0 0)) (J0 ((ti, tn, (ta, tan, tac), (tx, txn, txc), (tk, tkn, tkc), ()), ())))) (fun (((x1 : Int), (t2 : BA), ((a3 : OA), (n4 : Nat), (c5 : Nat)), ((a6 : OA), (n7 : Nat), (c8 : Nat)), ((a9 : OA), (n10 : Nat), (c11 : Nat)), _), _) => π.call 158 #[(.slice b bn bc)] (true, [(false, [.str]), (false, [.int .i64])]) fun (((t12 : BA), _), ((x13 : Int), _), _) => π.ite (x13 != 0) (π.ret (.slice none 0 0)) (π.guard ((0 : Int) ≤ 0 ∧ 0 < (↑n4 : Int)) <| π.aa a3 fun p14 => π.ld [.int .i64] ((p14.add 0).add 0) fun ((x15 : Int), _) => π.call 127 #[(.slice b bn bc), (.int .i64 x15)] (false, [(true, [.int .i64, .int .i64, .str])]) fun (((x16 : Int), (x17 : Int), (t18 : BA), _), _) => π.join [(true, [.int .i64, .str, .slice, .slice, .slice]), (false, [.str]), (true, [.int .i64, .int .i64, .str])] (fun J19 => π.ite (decide ((↑an : Int) > 0)) (π.guard ((0 : Int) ≤ 0 ∧ 0 < (↑n4 : Int)) <| π.aa a3 fun p20 => π.ld [.int .i64] ((p20.add 0).add 0) fun ((x21 : Int), _) => π.call 127 #[(.slice a an ac), (.int .i64 x21)] (false, [(true, [.int .i64, .int .i64, .str])]) fun (((x22 : Int), (x23 : Int), (t24 : BA), _), _) => J19 ((x1, t2, (a3, n4, c5), (a6, n7, c8), (a9, n10, c11), ()), (t12, ()), (x22, x23, t24, ()), ())) (J19 ((x1, t2, (a3, n4, c5), (a6, n7, c8), (a9, n10, c11), ()), (t12, ()), (x16, x17, t18, ()), ()))) (fun (((x25 : Int), (t26 : BA), ((a27 : OA), (n28 : Nat), (c29 : Nat)), ((a30 : OA), (n31 : Nat), (c32 : Nat)), ((a33 : OA), (n34 : Nat), (c35 : Nat)), _), ((t36 : BA), _), ((x37 : Int), (x38 : Int), (t39 : BA), _), _) =>
 π.nw (Obj.cells #[(.slice none 0 0)] 26 (0, 0)) fun r40 => π.call 162 #[(.int .i64 x25), (.agg #[(.int .i64 x37), (.int .i64 x38), (.string t39)])] (false, [(false, [.str])]) fun (((t41 : BA), _), _) => π.call 237 #[(.string t41), (.string t36), (.bool ((↑bn : Int) == 0)), (.pointer (some (Addr.mk r40 0 none)))] (true, []) fun _ => π.loop [(true, [.int .i64, .int .i64, .str]), (false, [.addr]), (false, [.raw]), (false, [.slice]), (false, [.int .i64]), (false, [.int .i64])] ((x37, x38, t39, ()), (Addr.mk r40 0 none, ()), ((.func (Fn.func 237) #[] #[(.pointer (some (Addr.mk r40 0 none)))]), ()), ((a30, n31, c32), ()), ((↑n31 : Int), ()), ((0 : Int), ()), ()) fun (((x43 : Int), (x44 : Int), (t45 : BA), _), (p46, _), ((v47 : Value), _), (((a48 : OA), (n49 : Nat), (c50 : Nat)), _), ((x51 : Int), _), ((x52 : Int), _), _) again42 => π.ite (decide (x52 < x51)) (π.guard (0 ≤ x52 ∧ x52 < (↑n49 : Int)) <| π.aa a48 fun p53 => π.ld [.int .i64, .str, .int .i64, .bool, .int .i64] (p53.add (x52.toNat * 5)) fun ((x54 : Int), (t55 : BA), (x56 : Int), (b57 : Bool), (x58 : Int), _) => π.join [(true, [.int .i64, .int .i64, .str]), (false, [.addr]), (false, [.raw]), (true, [.int .i64, .str, .int .i64, .bool, .int .i64]), (true, [.int .i64, .int .i64, .str]), (true, [.int .i64, .int .i64, .str]), (false, [.slice]), (false, [.int .i64]), (false, [.int .i64])] (fun J59 => π.cy 127 #[(.slice a an ac), (.int .i64 x56)] (false, [(true, [.int .i64, .int .i64, .str])]) fun (((x60 : Int), (x61 : Int), (t62 : BA), _), _) =>
 π.cy 127 #[(.slice b bn bc), (.int .i64 x56)] (false, [(true, [.int .i64, .int .i64, .str])]) fun (((x63 : Int), (x64 : Int), (t65 : BA), _), _) => π.both (J59 ((x43, x44, t45, ()), (p46, ()), (v47, ()), (x54, t55, x56, b57, x58, ()), (x60, x61, t62, ()), (x63, x64, t65, ()), ((a48, n49, c50), ()), (x51, ()), (x52, ()), ())) (J59 ((x43, x44, t45, ()), (p46, ()), (v47, ()), (x54, t55, x56, b57, x58, ()), (x60, x61, t62, ()), (x63, x64, t65, ()), ((a48, n49, c50), ()), (x51, ()), (x52, ()), ()))) (fun (((x66 : Int), (x67 : Int), (t68 : BA), _), (p69, _), ((v70 : Value), _), ((x71 : Int), (t72 : BA), (x73 : Int), (b74 : Bool), (x75 : Int), _), ((x76 : Int), (x77 : Int), (t78 : BA), _), ((x79 : Int), (x80 : Int), (t81 : BA), _), (((a82 : OA), (n83 : Nat), (c84 : Nat)), _), ((x85 : Int), _), ((x86 : Int), _), _) => π.join [(true, [.int .i64, .int .i64, .str]), (false, [.addr]), (false, [.raw]), (true, [.int .i64, .str, .int .i64, .bool, .int .i64]), (true, [.int .i64, .int .i64, .str]), (false, [.slice]), (false, [.int .i64]), (false, [.int .i64])] (fun J87 => π.join [(true, [.int .i64, .int .i64, .str]), (false, [.addr]), (false, [.raw]), (true, [.int .i64, .str, .int .i64, .bool, .int .i64]), (true, [.int .i64, .int .i64, .str]), (true, [.int .i64, .int .i64, .str]), (false, [.slice]), (false, [.int .i64]), (false, [.int .i64]), (false, [.bool])] (fun J88 => π.ite (decide ((↑an : Int) > 0)) (π.ite ((↑bn : Int) == 0) (J88 ((x66, x67, t68, ()), (p69, ()), (v70, ()), (x71, t72, x73, b74, x75, ()), (x76, x77, t78, ()), (x79, x80, t81, ()), ((a82, n83, c84), ()), (x85, ()), (x86, ()), (true, ()), ())) (J88 ((x66, x67, t68, ()), (p69, ()), (v70, ()), (x71, t72, x73, b74, x75, ()), (x76, x77, t78, ()), (x79, x80, t81, ()), ((a82, n83, c84), ()), (x85, ()), (x86, ()), (!(x76 == x79 && (x77 == x80 && (t78 == t81 && true))), ()), ()))) (J88 ((x66, x67, t68, ()), (p69, ()), (v70, ()), (x71, t72, x73, b74, x75, ()), (x76, x77, t78, ()), (x79, x80, t81, ()), ((a82, n83, c84), ()), (x85, ()), (x86, ()), (false, ()), ()))) (fun (((x89 : Int), (x90 : Int), (t91 : BA), _), (p92, _), ((v93 : Value), _), ((x94 : Int), (t95 : BA), (x96 : Int), (b97 : Bool), (x98 : Int), _), ((x99 : Int), (x100 : Int), (t101 : BA), _), ((x102 : Int), (x103 : Int), (t104 : BA), _), (((a105 : OA), (n106 : Nat), (c107 : Nat)), _), ((x108 : Int), _), ((x109 : Int), _), ((b110 : Bool), _), _) =>
 π.ite b110 (π.call 154 #[(.int .i64 x94), (.agg #[(.int .i64 x99), (.int .i64 x100), (.string t101)]), (.agg #[(.int .i64 x89), (.int .i64 x90), (.string t91)])] (false, [(false, [.str])]) fun (((t111 : BA), _), _) => π.dR v93 #[(.string t111), (.string ⟨#[]⟩), (.bool true)] (true, []) fun _ => J87 ((x89, x90, t91, ()), (p92, ()), (v93, ()), (x94, t95, x96, b97, x98, ()), (x102, x103, t104, ()), ((a105, n106, c107), ()), (x108, ()), (x109, ()), ())) (J87 ((x89, x90, t91, ()), (p92, ()), (v93, ()), (x94, t95, x96, b97, x98, ()), (x102, x103, t104, ()), ((a105, n106, c107), ()), (x108, ()), (x109, ()), ())))) (fun (((x112 : Int), (x113 : Int), (t114 : BA), _), (p115, _), ((v116 : Value), _), ((x117 : Int), (t118 : BA), (x119 : Int), (b120 : Bool), (x121 : Int), _), ((x122 : Int), (x123 : Int), (t124 : BA), _), (((a125 : OA), (n126 : Nat), (c127 : Nat)), _), ((x128 : Int), _), ((x129 : Int), _), _) => π.join [(true, [.int .i64, .int .i64, .str]), (false, [.addr]), (false, [.raw]), (true, [.int .i64, .str, .int .i64, .bool, .int .i64]), (true, [.int .i64, .int .i64, .str]), (false, [.slice]), (false, [.int .i64]), (false, [.int .i64]), (false, [.bool])] (fun J130 => π.ite (decide ((↑bn : Int) > 0)) (π.ite (x121 == 2) (J130 ((x112, x113, t114, ()), (p115, ()), (v116, ()), (x117, t118, x119, b120, x121, ()), (x122, x123, t124, ()), ((a125, n126, c127), ()), (x128, ()), (x129, ()), (true, ()), ())) (J130 ((x112, x113, t114, ()), (p115, ()), (v116, ()), (x117, t118, x119, b120, x121, ()), (x122, x123, t124, ()), ((a125, n126, c127), ()), (x128, ()), (x129, ()), (x121 == 3, ()), ()))) (J130 ((x112, x113, t114, ()), (p115, ()), (v116, ()), (x117, t118, x119, b120, x121, ()), (x122, x123, t124, ()), ((a125, n126, c127), ()), (x128, ()), (x129, ()), (false, ()), ()))) (fun (((x131 : Int), (x132 : Int), (t133 : BA), _), (p134, _), ((v135 : Value), _), ((x136 : Int), (t137 : BA), (x138 : Int), (b139 : Bool), (x140 : Int), _), ((x141 : Int), (x142 : Int), (t143 : BA), _), (((a144 : OA), (n145 : Nat), (c146 : Nat)), _), ((x147 : Int), _), ((x148 : Int), _), ((b149 : Bool), _), _) =>
 π.ite b149 (π.call 154 #[(.int .i64 x136), (.agg #[(.int .i64 x141), (.int .i64 x142), (.string t143)]), (.agg #[(.int .i64 x131), (.int .i64 x132), (.string t133)])] (false, [(false, [.str])]) fun (((t150 : BA), _), _) => π.dR v135 #[(.string t150), (.string ⟨#[]⟩), (.bool false)] (true, []) fun _ => again42 ((x131, x132, t133, ()), (p134, ()), (v135, ()), ((a144, n145, c146), ()), (x147, ()), (i64.wrap (x148 + 1), ()), ())) (again42 ((x131, x132, t133, ()), (p134, ()), (v135, ()), ((a144, n145, c146), ()), (x147, ()), (i64.wrap (x148 + 1), ()), ())))))) (π.ld [.slice] p46 fun (((a151 : OA), (n152 : Nat), (c153 : Nat)), _) => π.ret (.slice a151 n152 c153)))))
theorem Bw (ti : Int) (tn : BA) (ta : OA) (tan tac : Nat) (tx : OA) (txn txc : Nat) (tk : OA) (tkn tkc : Nat) (a : OA) (an ac : Nat) (b : OA) (bn bc : Nat) : OK 189 [.v (.agg #[.int .i64 ti, .string tn, .slice ta tan tac, .slice tx txn txc, .slice tk tkn tkc]), .v (.slice a an ac), .v (.slice b bn bc)] fun _ π => so π ti tn ta tan tac tx txn txc tk tkn tkc a an ac b bn bc :=
 aW { ptr := [(3, 3, 0), (9, 9, 0), (13, 13, 0), (14, 14, 0), (15, 15, 0), (16, 3, 2), (36, 3, 2), (46, 3, 2), (54, 3, 0), (63, 3, 3), (71, 13, 2), (75, 13, 2), (92, 13, 0), (102, 13, 4), (106, 13, 4), (112, 13, 0)], ty := [(3, 139), (9, 28), (13, 170), (14, 28), (15, 28)] } { draws := [(15, { A := [0, 1, 2, 3, 4, 5, 6, 7], quiet := [3, 7] })], join := [(3, [(3, 139)]), (9, [(3, 139), (7, 9), (9, 28)]), (16, [(9, 28), (10, 1000000), (11, 251), (13, 170), (14, 28), (15, 28), (64, 136), (65, 3), (66, 3)]), (17, [(9, 28), (10, 1000000), (11, 251), (13, 170), (14, 28), (15, 28), (64, 136), (65, 3), (66, 3), (90, 4)]), (18, [(9, 28), (10, 1000000), (11, 251), (13, 170), (15, 28), (64, 136), (65, 3), (66, 3)]), (19, [(9, 28), (10, 1000000), (11, 251), (13, 170), (15, 28), (64, 136), (65, 3), (66, 3), (110, 4)])], loop := [(13, [(9, 28), (10, 1000000), (11, 251), (64, 136), (65, 3), (66, 3)])] } [] Tryz.func189 Tryz.ntmps189 rfl (by kernel_rfl) fun _ π => by kernel_rfl
def xY (w : Nat) (ti : Int) (tn : BA) (ta : OA) (tan tac : Nat) (tx : OA) (txn txc : Nat) (tk : OA) (tkn tkc : Nat) (a : OA) (an ac : Nat) (b : OA) (bn bc : Nat) : W :=
 π.call 189 #[(.agg #[(.int .i64 ti), (.string tn), (.slice ta tan tac), (.slice tx txn txc), (.slice tk tkn tkc)]), (.slice a an ac), (.slice b bn bc)] (false, [(false, [.slice])]) fun ((((a0 : OA), (n1 : Nat), (c2 : Nat)), _), _) => π.loop [(false, [.slice]), (false, [.int .i64]), (false, [.int .i64])] (((a0, n1, c2), ()), ((↑n1 : Int), ()), ((0 : Int), ()), ()) fun ((((a4 : OA), (n5 : Nat), (c6 : Nat)), _), ((x7 : Int), _), ((x8 : Int), _), _) again3 => π.ite (decide (x8 < x7)) (π.guard (0 ≤ x8 ∧ x8 < (↑n5 : Int)) <| π.aa a4 fun p9 => π.ld [.str, .str, .bool] (p9.add (x8.toNat * 3)) fun ((t10 : BA), (t11 : BA), (b12 : Bool), _) => π.aa (some (Addr.mk w 0 none)) fun p13 => π.ld [.map] (p13.add 6) fun ((m14 : Option Nat), _) => π.gN (TypeDesc.string) m14 (.string t10) (.agg #[(.string t10), (.string t11), (.bool b12)]) <| again3 (((a4, n5, c6), ()), (x7, ()), (i64.wrap (x8 + 1), ()), ())) (π.ret (.tuple #[]))
theorem Fs (w : Nat) (ti : Int) (tn : BA) (ta : OA) (tan tac : Nat) (tx : OA) (txn txc : Nat) (tk : OA) (tkn tkc : Nat) (a : OA) (an ac : Nat) (b : OA) (bn bc : Nat) : OK 123 [.v (.pointer (some ⟨w, 0, none⟩)), .v (.agg #[.int .i64 ti, .string tn, .slice ta tan tac, .slice tx txn txc, .slice tk tkn tkc]), .v (.slice a an ac), .v (.slice b bn bc)] fun _ π => xY π w ti tn ta tan tac tx txn txc tk tkn tkc a an ac b bn bc :=
 aW { ptr := [(5, 5, 0), (9, 9, 0), (23, 9, 0)], ty := [(5, 139), (9, 79)] } { draws := [(4, { A := [0, 1, 2, 3, 4, 5, 6] })], loop := [(2, [(13, 26), (14, 3), (15, 3)])] } [] Tryz.func123 Tryz.ntmps123 rfl (by kernel_rfl) fun _ π => by kernel_rfl
def A9 (ei ek en : Int) (es : BA) (k : Int) : W :=
 π.ret (.int .i64 (i64.wrap (ei - k)))
theorem Hs (ei ek en : Int) (es : BA) (k : Int) : OK 182 [.v (.agg #[.int .i64 ei, .int .i64 ek, .int .i64 en, .string es]), .v (.int .i64 k)] fun _ π => A9 π ei ek en es k :=
 aW { ptr := [(2, 2, 0), (5, 2, 0)], ty := [(2, 94)] } {} [] Tryz.func182 Tryz.ntmps182 rfl (by kernel_rfl) fun _ π => by kernel_rfl
def uQ (a : OA) (an ac : Nat) (k : Int) : W :=
 π.loop [(false, [.int .i64]), (false, [.int .i64]), (false, [.int .i64])] (((↑an : Int), ()), ((0 : Int), ()), ((↑an : Int), ()), ()) fun (((x1 : Int), _), ((x2 : Int), _), ((x3 : Int), _), _) again0 => π.ite (decide (x2 < x3)) (π.guard (0 ≤ i64.wrap ((u64.wrap (i64.wrap (x2 + x3))).fdiv (2 : Int)) ∧ i64.wrap ((u64.wrap (i64.wrap (x2 + x3))).fdiv (2 : Int)) < (↑an : Int)) <| π.aa a fun p4 => π.ld [.int .i64, .int .i64, .int .i64, .str] (p4.add ((i64.wrap ((u64.wrap (i64.wrap (x2 + x3))).fdiv (2 : Int))).toNat * 4)) fun ((x5 : Int), (x6 : Int), (x7 : Int), (t8 : BA), _) => π.call 182 #[(.agg #[(.int .i64 x5), (.int .i64 x6), (.int .i64 x7), (.string t8)]), (.int .i64 k)] (false, [(false, [.int .i64])]) fun (((x9 : Int), _), _) => π.ite (decide (x9 < 0)) (again0 ((x1, ()), (i64.wrap (i64.wrap ((u64.wrap (i64.wrap (x2 + x3))).fdiv (2 : Int)) + 1), ()), (x3, ()), ())) (again0 ((x1, ()), (x2, ()), (i64.wrap ((u64.wrap (i64.wrap (x2 + x3))).fdiv (2 : Int)), ()), ()))) (π.ite (decide (x2 < x1)) (π.guard (0 ≤ x2 ∧ x2 < (↑an : Int)) <| π.aa a fun p10 => π.ld [.int .i64, .int .i64, .int .i64, .str] (p10.add (x2.toNat * 4)) fun ((x11 : Int), (x12 : Int), (x13 : Int), (t14 : BA), _) => π.call 182 #[(.agg #[(.int .i64 x11), (.int .i64 x12), (.int .i64 x13), (.string t14)]), (.int .i64 k)] (false, [(false, [.int .i64])]) fun (((x15 : Int), _), _) =>
 π.ret (.tuple #[(.int .i64 x2), (.bool (x15 == 0))])) (π.ret (.tuple #[(.int .i64 x2), (.bool false)])))
theorem De (a : OA) (an ac : Nat) (k : Int) : OK 156 [.v (.slice a an ac), .v (.int .i64 k), .v (.func (.func 182) #[] #[])] fun _ π => uQ π a an ac k :=
 aW {} { loop := [(3, [(8, 3), (9, 3), (10, 3)])] } [] Tryz.func156 Tryz.ntmps156 rfl (by kernel_rfl) fun _ π => by kernel_rfl
def xz (a : OA) (an ac : Nat) : W :=
 π.ite (a.isNone) (π.ret (.slice none 0 0)) (π.nw (Obj.cells #[] 94 (0, 0)) fun r0 => π.app 94 4 40 [(.int .i64 0), (.int .i64 0), (.int .i64 0), (.string ⟨#[]⟩)] (some (Addr.mk r0 0 none)) 0 0 (Src.sl a an) fun a1 n2 c3 => π.ret (.slice a1 n2 c3))
theorem E0 (a : OA) (an ac : Nat) : OK 183 [.v (.slice a an ac)] fun _ π => xz π a an ac :=
 aW {} {} [] Tryz.func183 Tryz.ntmps183 rfl (by kernel_rfl) fun _ π => by kernel_rfl
def uS (a : OA) (an ac : Nat) (i : Int) (b : OA) (bn bc : Nat) : W :=
 π.guard (0 ≤ i ∧ i ≤ (↑an : Int) ∧ (↑an : Int) ≤ (↑ac : Int)) <| π.ite ((↑bn : Int) == 0) (π.ret (.slice a an ac)) (π.ite (i == (↑an : Int)) (π.app 94 4 40 [(.int .i64 0), (.int .i64 0), (.int .i64 0), (.string ⟨#[]⟩)] a an ac (Src.sl b bn) fun a0 n1 c2 => π.ret (.slice a0 n1 c2)) (π.ite (decide (i64.wrap ((↑an : Int) + (↑bn : Int)) > (↑ac : Int))) (π.guard ((0 : Int) ≤ 0 ∧ 0 ≤ i ∧ i ≤ (↑ac : Int)) <| π.app 94 4 40 [(.int .i64 0), (.int .i64 0), (.int .i64 0), (.string ⟨#[]⟩)] (if ac = (0 : Nat) then a else Option.map (fun x => x.add 0) a) (i.toNat - (0 : Nat)) (ac - (0 : Nat)) (Src.zer [(.int .i64 0), (.int .i64 0), (.int .i64 0), (.string ⟨#[]⟩)] (i64.wrap (i64.wrap ((↑an : Int) + (↑bn : Int)) - i))) fun a3 n4 c5 => π.guard (0 ≤ i ∧ i ≤ (↑n4 : Int) ∧ (↑n4 : Int) ≤ (↑c5 : Int)) <| π.lV (4 : Nat) (if c5 = i.toNat then a3 else Option.map (fun x => x.add (i.toNat * 4)) a3) ((↑n4 : Int).toNat - i.toNat) b bn fun n6 => π.guard (0 ≤ i64.wrap (i + (↑bn : Int)) ∧ i64.wrap (i + (↑bn : Int)) ≤ (↑n4 : Int) ∧ (↑n4 : Int) ≤ (↑c5 : Int)) <| π.guard (0 ≤ i ∧ i ≤ (↑an : Int) ∧ (↑an : Int) ≤ (↑ac : Int)) <| π.lV (4 : Nat) (if c5 = (i64.wrap (i + (↑bn : Int))).toNat then a3 else Option.map (fun x => x.add ((i64.wrap (i + (↑bn : Int))).toNat * 4)) a3) ((↑n4 : Int).toNat - (i64.wrap (i + (↑bn : Int))).toNat) (if ac = i.toNat then a else Option.map (fun x => x.add (i.toNat * 4)) a) ((↑an : Int).toNat - i.toNat) fun n7 => π.ret (.slice a3 n4 c5)) (π.guard ((0 : Int) ≤ 0 ∧ 0 ≤ i64.wrap ((↑an : Int) + (↑bn : Int)) ∧ i64.wrap ((↑an : Int) + (↑bn : Int)) ≤ (↑ac : Int)) <| π.guard (0 ≤ i64.wrap (i + (↑bn : Int)) ∧ i64.wrap (i + (↑bn : Int)) ≤ (↑((i64.wrap ((↑an : Int) + (↑bn : Int))).toNat - (0 : Nat)) : Int) ∧ (↑((i64.wrap ((↑an : Int) + (↑bn : Int))).toNat - (0 : Nat)) : Int) ≤ (↑(ac - (0 : Nat)) : Int)) <| π.xt (217 : Nat) #[(.slice b bn bc), (.slice (if ac - (0 : Nat) = (i64.wrap (i + (↑bn : Int))).toNat then if ac = (0 : Nat) then a else Option.map (fun x =>
 x.add 0) a else Option.map (fun x => x.add ((i64.wrap (i + (↑bn : Int))).toNat * 4)) (if ac = (0 : Nat) then a else Option.map (fun x => x.add 0) a)) ((↑((i64.wrap ((↑an : Int) + (↑bn : Int))).toNat - (0 : Nat)) : Int).toNat - (i64.wrap (i + (↑bn : Int))).toNat) (ac - (0 : Nat) - (i64.wrap (i + (↑bn : Int))).toNat))] (false, [(false, [.bool])]) fun (((b8 : Bool), _), _) => π.ite (!b8) (π.guard (0 ≤ i64.wrap (i + (↑bn : Int)) ∧ i64.wrap (i + (↑bn : Int)) ≤ (↑((i64.wrap ((↑an : Int) + (↑bn : Int))).toNat - (0 : Nat)) : Int) ∧ (↑((i64.wrap ((↑an : Int) + (↑bn : Int))).toNat - (0 : Nat)) : Int) ≤ (↑(ac - (0 : Nat)) : Int)) <| π.guard (0 ≤ i ∧ i ≤ (↑((i64.wrap ((↑an : Int) + (↑bn : Int))).toNat - (0 : Nat)) : Int) ∧ (↑((i64.wrap ((↑an : Int) + (↑bn : Int))).toNat - (0 : Nat)) : Int) ≤ (↑(ac - (0 : Nat)) : Int)) <| π.lV (4 : Nat) (if ac - (0 : Nat) = (i64.wrap (i + (↑bn : Int))).toNat then if ac = (0 : Nat) then a else Option.map (fun x => x.add 0) a else Option.map (fun x => x.add ((i64.wrap (i + (↑bn : Int))).toNat * 4)) (if ac = (0 : Nat) then a else Option.map (fun x => x.add 0) a)) ((↑((i64.wrap ((↑an : Int) + (↑bn : Int))).toNat - (0 : Nat)) : Int).toNat - (i64.wrap (i + (↑bn : Int))).toNat) (if ac - (0 : Nat) = i.toNat then if ac = (0 : Nat) then a else Option.map (fun x => x.add 0) a else Option.map (fun x => x.add (i.toNat * 4)) (if ac = (0 : Nat) then a else Option.map (fun x =>
 x.add 0) a)) ((↑((i64.wrap ((↑an : Int) + (↑bn : Int))).toNat - (0 : Nat)) : Int).toNat - i.toNat) fun n9 => π.guard (0 ≤ i ∧ i ≤ (↑((i64.wrap ((↑an : Int) + (↑bn : Int))).toNat - (0 : Nat)) : Int) ∧ (↑((i64.wrap ((↑an : Int) + (↑bn : Int))).toNat - (0 : Nat)) : Int) ≤ (↑(ac - (0 : Nat)) : Int)) <| π.lV (4 : Nat) (if ac - (0 : Nat) = i.toNat then if ac = (0 : Nat) then a else Option.map (fun x => x.add 0) a else Option.map (fun x => x.add (i.toNat * 4)) (if ac = (0 : Nat) then a else Option.map (fun x => x.add 0) a)) ((↑((i64.wrap ((↑an : Int) + (↑bn : Int))).toNat - (0 : Nat)) : Int).toNat - i.toNat) b bn fun n10 => π.ret (.slice (if ac = (0 : Nat) then a else Option.map (fun x => x.add 0) a) ((i64.wrap ((↑an : Int) + (↑bn : Int))).toNat - (0 : Nat)) (ac - (0 : Nat)))) (π.guard (0 ≤ (↑an : Int) ∧ (↑an : Int) ≤ (↑((i64.wrap ((↑an : Int) + (↑bn : Int))).toNat - (0 : Nat)) : Int) ∧ (↑((i64.wrap ((↑an : Int) + (↑bn : Int))).toNat - (0 : Nat)) : Int) ≤ (↑(ac - (0 : Nat)) : Int)) <| π.lV (4 : Nat) (if ac - (0 : Nat) = (↑an : Int).toNat then if ac = (0 : Nat) then a else Option.map (fun x => x.add 0) a else Option.map (fun x => x.add ((↑an : Int).toNat * 4)) (if ac = (0 : Nat) then a else Option.map (fun x => x.add 0) a)) ((↑((i64.wrap ((↑an : Int) + (↑bn : Int))).toNat - (0 : Nat)) : Int).toNat - (↑an : Int).toNat) b bn fun n11 => π.guard (0 ≤ i ∧ i ≤ (↑((i64.wrap ((↑an : Int) + (↑bn : Int))).toNat - (0 : Nat)) : Int) ∧ (↑((i64.wrap ((↑an : Int) + (↑bn : Int))).toNat - (0 : Nat)) : Int) ≤ (↑(ac - (0 : Nat)) : Int)) <| π.call 218 #[(.slice (if ac - (0 : Nat) = i.toNat then if ac = (0 : Nat) then a else Option.map (fun x =>
 x.add 0) a else Option.map (fun x => x.add (i.toNat * 4)) (if ac = (0 : Nat) then a else Option.map (fun x => x.add 0) a)) ((↑((i64.wrap ((↑an : Int) + (↑bn : Int))).toNat - (0 : Nat)) : Int).toNat - i.toNat) (ac - (0 : Nat) - i.toNat)), (.int .i64 ((↑bn : Int)))] (true, []) fun _ => π.ret (.slice (if ac = (0 : Nat) then a else Option.map (fun x => x.add 0) a) ((i64.wrap ((↑an : Int) + (↑bn : Int))).toNat - (0 : Nat)) (ac - (0 : Nat)))))))
theorem Dg (a : OA) (an ac : Nat) (i : Int) (b : OA) (bn bc : Nat) : OK 159 [.v (.slice a an ac), .v (.int .i64 i), .v (.slice b bn bc)] fun _ π => uS π a an ac i b bn bc :=
 aW {} { draws := [(11, { A := [0, 1, 2, 3, 4, 5, 6, 7] }), (15, { A := [0, 1, 2, 3, 4, 5, 6, 7] })],  } [0] Tryz.func159 Tryz.ntmps159 rfl (by kernel_rfl) fun _ π => by kernel_rfl
def CA (a : OA) (an ac : Nat) (k : Int) (vk vn : Int) (vs : BA) : W :=
 π.call 156 #[(.slice a an ac), (.int .i64 k), (.func (Fn.func 182) #[] #[])] (true, [(false, [.int .i64]), (false, [.bool])]) fun (((x0 : Int), _), ((b1 : Bool), _), _) => π.call 183 #[(.slice a an ac)] (false, [(false, [.slice])]) fun ((((a2 : OA), (n3 : Nat), (c4 : Nat)), _), _) => π.ite b1 (π.guard (0 ≤ x0 ∧ x0 < (↑n3 : Int)) <| π.aa a2 fun p5 => π.st ((p5.add (x0.toNat * 4)).add 1) [(.int .i64 vk), (.int .i64 vn), (.string vs)] <| π.ret (.slice a2 n3 c4)) (π.nw (Obj.cells #[(.int .i64 k), (.int .i64 vk), (.int .i64 vn), (.string vs)] 94 (0, 0)) fun r6 => π.call 159 #[(.slice a2 n3 c4), (.int .i64 x0), (.slice (some (Addr.mk r6 0 none)) 1 1)] (false, [(false, [.slice])]) fun ((((a7 : OA), (n8 : Nat), (c9 : Nat)), _), _) => π.ret (.slice a7 n8 c9))
theorem Jq (a : OA) (an ac : Nat) (k : Int) (vk vn : Int) (vs : BA) : OK 120 [.v (.slice a an ac), .v (.int .i64 k), .v (.agg #[.int .i64 vk, .int .i64 vn, .string vs])] fun _ π => CA π a an ac k vk vn vs :=
 aW { ptr := [(5, 5, 0)], ty := [(5, 28)] } {} [0] Tryz.func120 Tryz.ntmps120 rfl (by kernel_rfl) fun _ π => by kernel_rfl
def A6 (ei ek en : Int) (es : BA) (p : Nat) : W :=
 π.ld [.int .i64] (Addr.mk p 0 none) fun ((x0 : Int), _) => π.ret (.bool (ei == x0))
theorem Hp (ei ek en : Int) (es : BA) (p : Nat) : OK 196 [.v (.agg #[.int .i64 ei, .int .i64 ek, .int .i64 en, .string es]), .v (.pointer (some ⟨p, 0, none⟩))] fun _ π => A6 π ei ek en es p :=
 aW { ptr := [(2, 2, 0), (4, 2, 0)], ty := [(2, 94)] } {} [] Tryz.func196 Tryz.ntmps196 rfl (by kernel_rfl) fun _ π => by kernel_rfl
def pZ (a : OA) (an ac : Nat) (p : Nat) : W :=
 π.loop [(false, [.int .i64]), (false, [.int .i64])] (((↑an : Int), ()), ((0 : Int), ()), ()) fun (((x1 : Int), _), ((x2 : Int), _), _) again0 => π.ite (decide (x2 < x1)) (π.guard (0 ≤ x2 ∧ x2 < (↑an : Int)) <| π.aa a fun p3 => π.ld [.int .i64, .int .i64, .int .i64, .str] (p3.add (x2.toNat * 4)) fun ((x4 : Int), (x5 : Int), (x6 : Int), (t7 : BA), _) => π.call 196 #[(.agg #[(.int .i64 x4), (.int .i64 x5), (.int .i64 x6), (.string t7)]), (.pointer (some (Addr.mk p 0 none)))] (false, [(false, [.bool])]) fun (((b8 : Bool), _), _) => π.ite b8 (π.ret (.int .i64 x2)) (again0 ((x1, ()), (i64.wrap (x2 + 1), ()), ()))) (π.ret (.int .i64 (-1)))
theorem yq (a : OA) (an ac : Nat) (p : Nat) : OK 239 [.v (.slice a an ac), .v (.func (.func 196) #[] #[.pointer (some ⟨p, 0, none⟩)])] fun _ π => pZ π a an ac p :=
 aW {} { loop := [(2, [(7, 3), (8, 3)])] } [] Tryz.func239 Tryz.ntmps239 rfl (by kernel_rfl) fun _ π => by kernel_rfl
def qU (a : OA) (an ac : Nat) (p : Nat) : W :=
 π.call 239 #[(.slice a an ac), (.func (Fn.func 196) #[] #[(.pointer (some (Addr.mk p 0 none)))])] (false, [(false, [.int .i64])]) fun (((x0 : Int), _), _) => π.ret (.bool (decide (x0 ≥ 0)))
theorem zY (a : OA) (an ac : Nat) (p : Nat) : OK 195 [.v (.slice a an ac), .v (.func (.func 196) #[] #[.pointer (some ⟨p, 0, none⟩)])] fun _ π => qU π a an ac p :=
 aW {} {} [] Tryz.func195 Tryz.ntmps195 rfl (by kernel_rfl) fun _ π => by kernel_rfl
def Cy (a : OA) (an ac : Nat) (k : Int) : W :=
 π.nw (Obj.cells #[(.int .i64 k)] 3 (0, 0)) fun r0 => π.call 195 #[(.slice a an ac), (.func (Fn.func 196) #[] #[(.pointer (some (Addr.mk r0 0 none)))])] (false, [(false, [.bool])]) fun (((b1 : Bool), _), _) => π.ret (.bool b1)
theorem Jo (a : OA) (an ac : Nat) (k : Int) : OK 125 [.v (.slice a an ac), .v (.int .i64 k)] fun _ π => Cy π a an ac k :=
 aW {} {} [] Tryz.func125 Tryz.ntmps125 rfl (by kernel_rfl) fun _ π => by kernel_rfl
def vl (w : Nat) (ti : Int) (tn : BA) (ta : OA) (tan tac : Nat) (tx : OA) (txn txc : Nat) (tk : OA) (tkn tkc : Nat) (bk bt : Int) (ba : OA) (ban bac : Nat) (be gk gn : Int) (gs : BA) (bw sk sn : Int) (ss : BA) : W :=
 π.loop [(true, [.int .i64, .str, .slice, .slice, .slice]), (true, [.int .i64, .int .i64, .slice, .int .i64, .int .i64, .int .i64, .str, .int .i64, .int .i64, .int .i64, .str]), (true, [.int .i64, .slice]), (false, [.slice]), (false, [.slice]), (false, [.slice]), (false, [.int .i64]), (false, [.int .i64])] ((ti, tn, (ta, tan, tac), (tx, txn, txc), (tk, tkn, tkc), ()), (bk, bt, (ba, ban, bac), be, gk, gn, gs, bw, sk, sn, ss, ()), ((0 : Int), (none, (0 : Nat), (0 : Nat)), ()), ((none, (0 : Nat), (0 : Nat)), ()), ((ba, ban, bac), ()), ((ta, tan, tac), ()), ((↑tan : Int), ()), ((0 : Int), ()), ()) fun (((x1 : Int), (t2 : BA), ((a3 : OA), (n4 : Nat), (c5 : Nat)), ((a6 : OA), (n7 : Nat), (c8 : Nat)), ((a9 : OA), (n10 : Nat), (c11 : Nat)), _), ((x12 : Int), (x13 : Int), ((a14 : OA), (n15 : Nat), (c16 : Nat)), (x17 : Int), (x18 : Int), (x19 : Int), (t20 : BA), (x21 : Int), (x22 : Int), (x23 : Int), (t24 : BA), _), ((x25 : Int), ((a26 : OA), (n27 : Nat), (c28 : Nat)), _), (((a29 : OA), (n30 : Nat), (c31 : Nat)), _), (((a32 : OA), (n33 : Nat), (c34 : Nat)), _), (((a35 : OA), (n36 : Nat), (c37 : Nat)), _), ((x38 : Int), _), ((x39 : Int), _), _) again0 => π.ite (decide (x39 < x38)) (π.guard (0 ≤ x39 ∧ x39 < (↑n36 : Int)) <| π.aa a35 fun p40 => π.ld [.int .i64, .str, .int .i64, .int .i64, .int .i64, .int .i64, .str] (p40.add (x39.toNat * 7)) fun ((x41 : Int), (t42 : BA), (x43 : Int), (x44 : Int), (x45 : Int), (x46 : Int), (t47 : BA), _) =>
 π.ite (x44 == 3) (π.guard ((0 : Int) ≤ 0 ∧ 0 < (↑n33 : Int)) <| π.aa a32 fun p48 => π.ld [.int .i64, .int .i64, .str] (p48.add 0) fun ((x49 : Int), (x50 : Int), (t51 : BA), _) => π.call 120 #[(.slice a29 n30 c31), (.int .i64 x41), (.agg #[(.int .i64 x49), (.int .i64 x50), (.string t51)])] (false, [(false, [.slice])]) fun ((((a52 : OA), (n53 : Nat), (c54 : Nat)), _), _) => π.guard ((0 : Int) ≤ 1 ∧ 1 ≤ (↑n33 : Int) ∧ (↑n33 : Int) ≤ (↑c34 : Int)) <| again0 ((x1, t2, (a3, n4, c5), (a6, n7, c8), (a9, n10, c11), ()), (x12, x13, (a14, n15, c16), x17, x18, x19, t20, x21, x22, x23, t24, ()), (x25, (a26, n27, c28), ()), ((a52, n53, c54), ()), ((if c34 = (1 : Nat) then a32 else Option.map (fun x => x.add 3) a32, (↑n33 : Int).toNat - (1 : Nat), c34 - (1 : Nat)), ()), ((a35, n36, c37), ()), (x38, ()), (i64.wrap (x39 + 1), ()), ())) (π.ite (x44 == 2) (π.call 120 #[(.slice a29 n30 c31), (.int .i64 x41), (.agg #[(.int .i64 x45), (.int .i64 x46), (.string t47)])] (false, [(false, [.slice])]) fun ((((a55 : OA), (n56 : Nat), (c57 : Nat)), _), _) => again0 ((x1, t2, (a3, n4, c5), (a6, n7, c8), (a9, n10, c11), ()), (x12, x13, (a14, n15, c16), x17, x18, x19, t20, x21, x22, x23, t24, ()), (x25, (a26, n27, c28), ()), ((a55, n56, c57), ()), ((a32, n33, c34), ()), ((a35, n36, c37), ()), (x38, ()), (i64.wrap (x39 + 1), ()), ())) (again0 ((x1, t2, (a3, n4, c5), (a6, n7, c8), (a9, n10, c11), ()), (x12, x13, (a14, n15, c16), x17, x18, x19, t20, x21, x22, x23, t24, ()), (x25, (a26, n27, c28), ()), ((a29, n30, c31), ()), ((a32, n33, c34), ()), ((a35, n36, c37), ()), (x38, ()), (i64.wrap (x39 + 1), ()), ())))) (π.guard ((0 : Int) ≤ 0 ∧ 0 < (↑n15 : Int)) <| π.aa a14 fun p58 =>
 π.ld [.int .i64, .int .i64, .str] (p58.add 0) fun ((x59 : Int), (x60 : Int), (t61 : BA), _) => π.call 121 #[(.pointer (some (Addr.mk w 0 none))), (.agg #[(.int .i64 x1), (.string t2), (.slice a3 n4 c5), (.slice a6 n7 c8), (.slice a9 n10 c11)]), (.agg #[(.int .i64 x59), (.int .i64 x60), (.string t61)])] (false, [(false, [.slice])]) fun ((((a62 : OA), (n63 : Nat), (c64 : Nat)), _), _) => π.ite (decide ((↑n63 : Int) > 0)) (π.ret (.tuple #[(.agg #[(.int .i64 0), (.slice none 0 0)]), (.int .i64 210)])) (π.call 122 #[(.pointer (some (Addr.mk w 0 none))), (.agg #[(.int .i64 x1), (.string t2), (.slice a3 n4 c5), (.slice a6 n7 c8), (.slice a9 n10 c11)]), (.agg #[(.int .i64 x59), (.int .i64 x60), (.string t61)]), (.slice none 0 0), (.slice a29 n30 c31)] (false, [(false, [.int .i64])]) fun (((x65 : Int), _), _) => π.ite (x65 != 0) (π.ret (.tuple #[(.agg #[(.int .i64 0), (.slice none 0 0)]), (.int .i64 x65)])) (π.call 123 #[(.pointer (some (Addr.mk w 0 none))), (.agg #[(.int .i64 x1), (.string t2), (.slice a3 n4 c5), (.slice a6 n7 c8), (.slice a9 n10 c11)]), (.slice none 0 0), (.slice a29 n30 c31)] (true, []) fun _ => π.ret (.tuple #[(.agg #[(.int .i64 1), (.slice none 0 0)]), (.int .i64 0)]))))
theorem Dx (w : Nat) (ti : Int) (tn : BA) (ta : OA) (tan tac : Nat) (tx : OA) (txn txc : Nat) (tk : OA) (tkn tkc : Nat) (bk bt : Int) (ba : OA) (ban bac : Nat) (be gk gn : Int) (gs : BA) (bw sk sn : Int) (ss : BA) : OK 58 [.v (.pointer (some ⟨w, 0, none⟩)), .v (.agg #[.int .i64 ti, .string tn, .slice ta tan tac, .slice tx txn txc, .slice tk tkn tkc]), .v (.agg #[.int .i64 bk, .int .i64 bt, .slice ba ban bac, .int .i64 be, .int .i64 gk, .int .i64 gn, .string gs, .int .i64 bw, .int .i64 sk, .int .i64 sn, .string ss])] fun _ π => vl π w ti tn ta tan tac tx txn txc tk tkn tkc bk bt ba ban bac be gk gn gs bw sk sn ss :=
 aW { ptr := [(4, 4, 0), (5, 5, 0), (6, 6, 0), (11, 11, 0), (12, 12, 0), (14, 5, 2), (16, 4, 2), (23, 11, 3), (28, 11, 0), (39, 11, 0), (41, 11, 4), (45, 5, 2)], ty := [(4, 139), (5, 127), (6, 135), (11, 165), (12, 28)] } { draws := [(8, { A := [0, 1, 2, 3, 4, 5] })], loop := [(4, [(4, 139), (5, 127), (6, 135), (8, 95), (9, 125), (17, 29), (18, 3), (19, 3)])] } [] Tryz.func58 Tryz.ntmps58 rfl (by kernel_rfl) fun _ π => by kernel_rfl
def vu (w : Nat) (ti : Int) (tn : BA) (ta : OA) (tan tac : Nat) (tx : OA) (txn txc : Nat) (tk : OA) (tkn tkc : Nat) (bk bt : Int) (ba : OA) (ban bac : Nat) (be gk gn : Int) (gs : BA) (bw sk sn : Int) (ss : BA) : W :=
 π.call 124 #[(.pointer (some (Addr.mk w 0 none))), (.agg #[(.int .i64 ti), (.string tn), (.slice ta tan tac), (.slice tx txn txc), (.slice tk tkn tkc)]), (.agg #[(.int .i64 bk), (.int .i64 bt), (.slice ba ban bac), (.int .i64 be), (.int .i64 gk), (.int .i64 gn), (.string gs), (.int .i64 bw), (.int .i64 sk), (.int .i64 sn), (.string ss)])] (true, [(false, [.slice]), (false, [.int .i64])]) fun ((((a0 : OA), (n1 : Nat), (c2 : Nat)), _), ((x3 : Int), _), _) => π.ite (x3 != 0) (π.ret (.tuple #[(.agg #[(.int .i64 0), (.slice none 0 0)]), (.int .i64 x3)])) (π.loop [(true, [.int .i64, .str, .slice, .slice, .slice]), (true, [.int .i64, .int .i64, .slice, .int .i64, .int .i64, .int .i64, .str, .int .i64, .int .i64, .int .i64, .str]), (true, [.int .i64, .slice]), (false, [.slice]), (false, [.slice]), (false, [.int .i64]), (false, [.int .i64])] ((ti, tn, (ta, tan, tac), (tx, txn, txc), (tk, tkn, tkc), ()), (bk, bt, (ba, ban, bac), be, gk, gn, gs, bw, sk, sn, ss, ()), ((0 : Int), (none, (0 : Nat), (0 : Nat)), ()), ((a0, n1, c2), ()), ((a0, n1, c2), ()), ((↑n1 : Int), ()), ((0 : Int), ()), ()) fun (((x5 : Int), (t6 : BA), ((a7 : OA), (n8 : Nat), (c9 : Nat)), ((a10 : OA), (n11 : Nat), (c12 : Nat)), ((a13 : OA), (n14 : Nat), (c15 : Nat)), _), ((x16 : Int), (x17 : Int), ((a18 : OA), (n19 : Nat), (c20 : Nat)), (x21 : Int), (x22 : Int), (x23 : Int), (t24 : BA), (x25 : Int), (x26 : Int), (x27 : Int), (t28 : BA), _), ((x29 : Int), ((a30 : OA), (n31 : Nat), (c32 : Nat)), _), (((a33 : OA), (n34 : Nat), (c35 : Nat)), _), (((a36 : OA), (n37 : Nat), (c38 : Nat)), _), ((x39 : Int), _), ((x40 : Int), _), _) again4 =>
 π.ite (decide (x40 < x39)) (π.guard (0 ≤ x40 ∧ x40 < (↑n37 : Int)) <| π.aa a36 fun p41 => π.ld [.int .i64, .int .i64, .str, .slice] (p41.add (x40.toNat * 4)) fun ((x42 : Int), (x43 : Int), (t44 : BA), ((a45 : OA), (n46 : Nat), (c47 : Nat)), _) => π.call 120 #[(.slice a45 n46 c47), (.int .i64 x21), (.agg #[(.int .i64 x22), (.int .i64 x23), (.string t24)])] (false, [(false, [.slice])]) fun ((((a48 : OA), (n49 : Nat), (c50 : Nat)), _), _) => π.loop [(true, [.int .i64, .str, .slice, .slice, .slice]), (true, [.int .i64, .int .i64, .slice, .int .i64, .int .i64, .int .i64, .str, .int .i64, .int .i64, .int .i64, .str]), (true, [.int .i64, .slice]), (false, [.slice]), (true, [.int .i64, .int .i64, .str, .slice]), (false, [.slice]), (false, [.slice]), (false, [.int .i64]), (false, [.int .i64]), (false, [.slice]), (false, [.int .i64]), (false, [.int .i64])] ((x5, t6, (a7, n8, c9), (a10, n11, c12), (a13, n14, c15), ()), (x16, x17, (a18, n19, c20), x21, x22, x23, t24, x25, x26, x27, t28, ()), (x29, (a30, n31, c32), ()), ((a33, n34, c35), ()), (x42, x43, t44, (a45, n46, c47), ()), ((a48, n49, c50), ()), ((a36, n37, c38), ()), (x39, ()), (x40, ()), ((a7, n8, c9), ()), ((↑n8 : Int), ()), ((0 : Int), ()), ()) fun (((x52 : Int), (t53 : BA), ((a54 : OA), (n55 : Nat), (c56 : Nat)), ((a57 : OA), (n58 : Nat), (c59 : Nat)), ((a60 : OA), (n61 : Nat), (c62 : Nat)), _), ((x63 : Int), (x64 : Int), ((a65 : OA), (n66 : Nat), (c67 : Nat)), (x68 : Int), (x69 : Int), (x70 : Int), (t71 : BA), (x72 : Int), (x73 : Int), (x74 : Int), (t75 : BA), _), ((x76 : Int), ((a77 : OA), (n78 : Nat), (c79 : Nat)), _), (((a80 : OA), (n81 : Nat), (c82 : Nat)), _), ((x83 : Int), (x84 : Int), (t85 : BA), ((a86 : OA), (n87 : Nat), (c88 : Nat)), _), (((a89 : OA), (n90 : Nat), (c91 : Nat)), _), (((a92 : OA), (n93 : Nat), (c94 : Nat)), _), ((x95 : Int), _), ((x96 : Int), _), (((a97 : OA), (n98 : Nat), (c99 : Nat)), _), ((x100 : Int), _), ((x101 : Int), _), _) again51 =>
 π.ite (decide (x101 < x100)) (π.guard (0 ≤ x101 ∧ x101 < (↑n98 : Int)) <| π.aa a97 fun p102 => π.ld [.int .i64, .str, .int .i64, .int .i64, .int .i64, .int .i64, .str] (p102.add (x101.toNat * 7)) fun ((x103 : Int), (t104 : BA), (x105 : Int), (x106 : Int), (x107 : Int), (x108 : Int), (t109 : BA), _) => π.ite (x106 == 2) (π.call 125 #[(.slice a89 n90 c91), (.int .i64 x103)] (false, [(false, [.bool])]) fun (((b110 : Bool), _), _) => π.ite (!b110) (π.call 120 #[(.slice a89 n90 c91), (.int .i64 x103), (.agg #[(.int .i64 x107), (.int .i64 x108), (.string t109)])] (false, [(false, [.slice])]) fun ((((a111 : OA), (n112 : Nat), (c113 : Nat)), _), _) => again51 ((x52, t53, (a54, n55, c56), (a57, n58, c59), (a60, n61, c62), ()), (x63, x64, (a65, n66, c67), x68, x69, x70, t71, x72, x73, x74, t75, ()), (x76, (a77, n78, c79), ()), ((a80, n81, c82), ()), (x83, x84, t85, (a86, n87, c88), ()), ((a111, n112, c113), ()), ((a92, n93, c94), ()), (x95, ()), (x96, ()), ((a97, n98, c99), ()), (x100, ()), (i64.wrap (x101 + 1), ()), ())) (again51 ((x52, t53, (a54, n55, c56), (a57, n58, c59), (a60, n61, c62), ()), (x63, x64, (a65, n66, c67), x68, x69, x70, t71, x72, x73, x74, t75, ()), (x76, (a77, n78, c79), ()), ((a80, n81, c82), ()), (x83, x84, t85, (a86, n87, c88), ()), ((a89, n90, c91), ()), ((a92, n93, c94), ()), (x95, ()), (x96, ()), ((a97, n98, c99), ()), (x100, ()), (i64.wrap (x101 + 1), ()), ()))) (again51 ((x52, t53, (a54, n55, c56), (a57, n58, c59), (a60, n61, c62), ()), (x63, x64, (a65, n66, c67), x68, x69, x70, t71, x72, x73, x74, t75, ()), (x76, (a77, n78, c79), ()), ((a80, n81, c82), ()), (x83, x84, t85, (a86, n87, c88), ()), ((a89, n90, c91), ()), ((a92, n93, c94), ()), (x95, ()), (x96, ()), ((a97, n98, c99), ()), (x100, ()), (i64.wrap (x101 + 1), ()), ()))) (π.call 122 #[(.pointer (some (Addr.mk w 0 none))), (.agg #[(.int .i64 x52), (.string t53), (.slice a54 n55 c56), (.slice a57 n58 c59), (.slice a60 n61 c62)]), (.agg #[(.int .i64 x83), (.int .i64 x84), (.string t85)]), (.slice a86 n87 c88), (.slice a89 n90 c91)] (false, [(false, [.int .i64])]) fun (((x114 : Int), _), _) =>
 π.ite (x114 != 0) (π.ret (.tuple #[(.agg #[(.int .i64 0), (.slice none 0 0)]), (.int .i64 x114)])) (π.call 123 #[(.pointer (some (Addr.mk w 0 none))), (.agg #[(.int .i64 x52), (.string t53), (.slice a54 n55 c56), (.slice a57 n58 c59), (.slice a60 n61 c62)]), (.slice a86 n87 c88), (.slice a89 n90 c91)] (true, []) fun _ => again4 ((x52, t53, (a54, n55, c56), (a57, n58, c59), (a60, n61, c62), ()), (x63, x64, (a65, n66, c67), x68, x69, x70, t71, x72, x73, x74, t75, ()), (x76, (a77, n78, c79), ()), ((a80, n81, c82), ()), ((a92, n93, c94), ()), (x95, ()), (i64.wrap (x96 + 1), ()), ())))) (π.ret (.tuple #[(.agg #[(.int .i64 ((↑n34 : Int))), (.slice none 0 0)]), (.int .i64 0)])))
theorem DD (w : Nat) (ti : Int) (tn : BA) (ta : OA) (tan tac : Nat) (tx : OA) (txn txc : Nat) (tk : OA) (tkn tkc : Nat) (bk bt : Int) (ba : OA) (ban bac : Nat) (be gk gn : Int) (gs : BA) (bw sk sn : Int) (ss : BA) : OK 59 [.v (.pointer (some ⟨w, 0, none⟩)), .v (.agg #[.int .i64 ti, .string tn, .slice ta tan tac, .slice tx txn txc, .slice tk tkn tkc]), .v (.agg #[.int .i64 bk, .int .i64 bt, .slice ba ban bac, .int .i64 be, .int .i64 gk, .int .i64 gn, .string gs, .int .i64 bw, .int .i64 sk, .int .i64 sn, .string ss])] fun _ π => vu π w ti tn ta tan tac tx txn txc tk tkn tkc bk bt ba ban bac be gk gn gs bw sk sn ss :=
 aW { ptr := [(4, 4, 0), (5, 5, 0), (6, 6, 0), (11, 11, 0), (14, 14, 0), (33, 11, 3), (35, 5, 3), (37, 5, 4), (40, 4, 2), (47, 14, 3), (52, 14, 0), (58, 14, 0), (60, 14, 4), (66, 11, 0), (68, 11, 3), (78, 11, 3)], ty := [(4, 139), (5, 127), (6, 135), (11, 234), (14, 165)] } { loop := [(5, [(4, 139), (5, 127), (6, 135), (8, 227), (27, 227), (28, 3), (29, 3)]), (9, [(4, 139), (5, 127), (6, 135), (8, 227), (11, 234), (12, 95), (27, 227), (28, 3), (29, 3), (41, 29), (42, 3), (43, 3)])] } [] Tryz.func59 Tryz.ntmps59 rfl (by kernel_rfl) fun _ π => by kernel_rfl
def xV (rk rn : Int) (rs : BA) (ra : OA) (ran rac : Nat) (p q r2 u : Nat) : W :=
 π.ld [.int .i64] ((Addr.mk p 0 none).add 2) fun ((x0 : Int), _) => π.cy 127 #[(.slice ra ran rac), (.int .i64 x0)] (false, [(true, [.int .i64, .int .i64, .str])]) fun (((x1 : Int), (x2 : Int), (t3 : BA), _), _) => π.ld [.int .i64, .int .i64, .str] ((Addr.mk q 0 none).add 0) fun ((x4 : Int), (x5 : Int), (t6 : BA), _) => π.ite (x1 == x4 && (x2 == x5 && (t3 == t6 && true))) (π.ld [.int .i64] ((Addr.mk r2 0 none).add 0) fun ((x7 : Int), _) => π.ld [.int .i64] ((Addr.mk u 0 none).add 0) fun ((x8 : Int), _) => π.ite (x7 != x8) (π.ret (.bool true)) (π.ld [.int .i64, .int .i64, .str] ((Addr.mk q 0 none).add 0) fun ((x9 : Int), (x10 : Int), (t11 : BA), _) => π.ret (.bool (!(rk == x9 && (rn == x10 && (rs == t11 && true))))))) (π.ret (.bool false))
theorem Fo (rk rn : Int) (rs : BA) (ra : OA) (ran rac : Nat) (p q r2 u : Nat) : OK 198 [.v (.agg #[.int .i64 rk, .int .i64 rn, .string rs, .slice ra ran rac]), .v (.pointer (some ⟨p, 0, none⟩)), .v (.pointer (some ⟨q, 0, none⟩)), .v (.pointer (some ⟨r2, 0, none⟩)), .v (.pointer (some ⟨u, 0, none⟩))] fun _ π => xV π rk rn rs ra ran rac p q r2 u :=
 aW { ptr := [(5, 5, 0), (7, 5, 3), (22, 5, 0)], ty := [(5, 234)] } { draws := [(1, { A := [0, 1, 2, 3, 4, 5, 6, 7, 8, 9, 10, 11, 12, 13, 14, 15, 16, 17, 18, 19, 20, 21, 22], quiet := [4] })],  } [] Tryz.func198 Tryz.ntmps198 rfl (by kernel_rfl) fun _ π => by kernel_rfl
def ox (a : OA) (an ac : Nat) (p q r2 u : Nat) : W :=
 π.loop [(false, [.int .i64]), (false, [.int .i64])] (((↑an : Int), ()), ((0 : Int), ()), ()) fun (((x1 : Int), _), ((x2 : Int), _), _) again0 => π.ite (decide (x2 < x1)) (π.guard (0 ≤ x2 ∧ x2 < (↑an : Int)) <| π.aa a fun p3 => π.ld [.int .i64, .int .i64, .str, .slice] (p3.add (x2.toNat * 4)) fun ((x4 : Int), (x5 : Int), (t6 : BA), ((a7 : OA), (n8 : Nat), (c9 : Nat)), _) => π.call 198 #[(.agg #[(.int .i64 x4), (.int .i64 x5), (.string t6), (.slice a7 n8 c9)]), (.pointer (some (Addr.mk p 0 none))), (.pointer (some (Addr.mk q 0 none))), (.pointer (some (Addr.mk r2 0 none))), (.pointer (some (Addr.mk u 0 none)))] (false, [(false, [.bool])]) fun (((b10 : Bool), _), _) => π.ite b10 (π.ret (.int .i64 x2)) (again0 ((x1, ()), (i64.wrap (x2 + 1), ()), ()))) (π.ret (.int .i64 (-1)))
theorem vW (a : OA) (an ac : Nat) (p q r2 u : Nat) : OK 238 [.v (.slice a an ac), .v (.func (.func 198) #[] #[.pointer (some ⟨p, 0, none⟩), .pointer (some ⟨q, 0, none⟩), .pointer (some ⟨r2, 0, none⟩), .pointer (some ⟨u, 0, none⟩)])] fun _ π => ox π a an ac p q r2 u :=
 aW {} { loop := [(2, [(7, 3), (8, 3)])] } [] Tryz.func238 Tryz.ntmps238 rfl (by kernel_rfl) fun _ π => by kernel_rfl
def qV (a : OA) (an ac : Nat) (p q r2 u : Nat) : W :=
 π.call 238 #[(.slice a an ac), (.func (Fn.func 198) #[] #[(.pointer (some (Addr.mk p 0 none))), (.pointer (some (Addr.mk q 0 none))), (.pointer (some (Addr.mk r2 0 none))), (.pointer (some (Addr.mk u 0 none)))])] (false, [(false, [.int .i64])]) fun (((x0 : Int), _), _) => π.ret (.bool (decide (x0 ≥ 0)))
theorem zZ (a : OA) (an ac : Nat) (p q r2 u : Nat) : OK 197 [.v (.slice a an ac), .v (.func (.func 198) #[] #[.pointer (some ⟨p, 0, none⟩), .pointer (some ⟨q, 0, none⟩), .pointer (some ⟨r2, 0, none⟩), .pointer (some ⟨u, 0, none⟩)])] fun _ π => qV π a an ac p q r2 u :=
 aW {} {} [] Tryz.func197 Tryz.ntmps197 rfl (by kernel_rfl) fun _ π => by kernel_rfl
def A5 (w : Nat) (ti : Int) (tn : BA) (ta : OA) (tan tac : Nat) (tx : OA) (txn txc : Nat) (tk : OA) (tkn tkc : Nat) (rk rn : Int) (rs : BA) (ra : OA) (ran rac : Nat) : W :=
 π.nw (Obj.cells #[(.int .i64 ti), (.string tn), (.slice ta tan tac), (.slice tx txn txc), (.slice tk tkn tkc)] 139 (0, 0)) fun r0 => π.nw (Obj.cells #[(.int .i64 rk), (.int .i64 rn), (.string rs), (.slice ra ran rac)] 234 (0, 0)) fun r1 => π.aa (some (Addr.mk w 0 none)) fun p2 => π.ld [.slice] ((p2.add 0).add 2) fun (((a3 : OA), (n4 : Nat), (c5 : Nat)), _) => π.loop [(false, [.addr]), (false, [.addr]), (false, [.slice]), (false, [.int .i64]), (false, [.int .i64])] ((Addr.mk r0 0 none, ()), (Addr.mk r1 0 none, ()), ((a3, n4, c5), ()), ((↑n4 : Int), ()), ((0 : Int), ()), ()) fun ((p7, _), (p8, _), (((a9 : OA), (n10 : Nat), (c11 : Nat)), _), ((x12 : Int), _), ((x13 : Int), _), _) again6 => π.ite (decide (x13 < x12)) (π.guard (0 ≤ x13 ∧ x13 < (↑n10 : Int)) <| π.aa a9 fun p14 => π.ld [.int .i64, .str, .slice, .slice, .slice] (p14.add (x13.toNat * 5)) fun ((x15 : Int), (t16 : BA), ((a17 : OA), (n18 : Nat), (c19 : Nat)), ((a20 : OA), (n21 : Nat), (c22 : Nat)), ((a23 : OA), (n24 : Nat), (c25 : Nat)), _) => π.nw (Obj.cells #[(.int .i64 0), (.string ⟨#[]⟩), (.slice none 0 0), (.slice none 0 0), (.slice none 0 0)] 139 (0, 0)) fun r26 => π.st (Addr.mk r26 0 none) [(.int .i64 x15), (.string t16), (.slice a17 n18 c19), (.slice a20 n21 c22), (.slice a23 n24 c25)] <| π.ld [.slice] ((Addr.mk r26 0 none).add 4) fun (((a27 : OA), (n28 : Nat), (c29 : Nat)), _) => π.loop [(false, [.addr]), (false, [.addr]), (false, [.addr]), (false, [.slice]), (false, [.int .i64]), (false, [.int .i64]), (false, [.slice]), (false, [.int .i64]), (false, [.int .i64])] ((p7, ()), (p8, ()), (Addr.mk r26 0 none, ()), ((a9, n10, c11), ()), (x12, ()), (x13, ()), ((a27, n28, c29), ()), ((↑n28 : Int), ()), ((0 : Int), ()), ()) fun ((p31, _), (p32, _), (p33, _), (((a34 : OA), (n35 : Nat), (c36 : Nat)), _), ((x37 : Int), _), ((x38 : Int), _), (((a39 : OA), (n40 : Nat), (c41 : Nat)), _), ((x42 : Int), _), ((x43 : Int), _), _) again30 =>
 π.ite (decide (x43 < x42)) (π.guard (0 ≤ x43 ∧ x43 < (↑n40 : Int)) <| π.aa a39 fun p44 => π.ld [.int .i64, .str, .int .i64, .int .i64, .int .i64] (p44.add (x43.toNat * 5)) fun ((x45 : Int), (t46 : BA), (x47 : Int), (x48 : Int), (x49 : Int), _) => π.nw (Obj.cells #[(.int .i64 0), (.string ⟨#[]⟩), (.int .i64 0), (.int .i64 0), (.int .i64 0)] 173 (0, 0)) fun r50 => π.st (Addr.mk r50 0 none) [(.int .i64 x45), (.string t46), (.int .i64 x47), (.int .i64 x48), (.int .i64 x49)] <| π.join [(false, [.addr]), (false, [.addr]), (false, [.addr]), (false, [.addr]), (false, [.slice]), (false, [.int .i64]), (false, [.int .i64]), (false, [.slice]), (false, [.int .i64]), (false, [.int .i64])] (fun J51 => π.ld [.int .i64] ((Addr.mk r50 0 none).add 3) fun ((x52 : Int), _) => π.ld [.int .i64] (p31.add 0) fun ((x53 : Int), _) => π.ite (x52 != x53) (again30 ((p31, ()), (p32, ()), (p33, ()), ((a34, n35, c36), ()), (x37, ()), (x38, ()), ((a39, n40, c41), ()), (x42, ()), (i64.wrap (x43 + 1), ()), ())) (π.ld [.int .i64] ((Addr.mk r50 0 none).add 4) fun ((x54 : Int), _) => π.call 187 #[(.int .i64 x54)] (false, [(false, [.bool])]) fun (((b55 : Bool), _), _) => π.ite (!b55) (again30 ((p31, ()), (p32, ()), (p33, ()), ((a34, n35, c36), ()), (x37, ()), (x38, ()), ((a39, n40, c41), ()), (x42, ()), (i64.wrap (x43 + 1), ()), ())) (J51 ((p31, ()), (p32, ()), (p33, ()), (Addr.mk r50 0 none, ()), ((a34, n35, c36), ()), (x37, ()), (x38, ()), ((a39, n40, c41), ()), (x42, ()), (x43, ()), ())))) (fun ((p56, _), (p57, _), (p58, _), (p59, _), (((a60 : OA), (n61 : Nat), (c62 : Nat)), _), ((x63 : Int), _), ((x64 : Int), _), (((a65 : OA), (n66 : Nat), (c67 : Nat)), _), ((x68 : Int), _), ((x69 : Int), _), _) =>
 π.ld [.int .i64, .str, .slice, .slice, .slice] p58 fun ((x70 : Int), (t71 : BA), ((a72 : OA), (n73 : Nat), (c74 : Nat)), ((a75 : OA), (n76 : Nat), (c77 : Nat)), ((a78 : OA), (n79 : Nat), (c80 : Nat)), _) => π.call 190 #[(.pointer (some (Addr.mk w 0 none))), (.agg #[(.int .i64 x70), (.string t71), (.slice a72 n73 c74), (.slice a75 n76 c77), (.slice a78 n79 c80)])] (true, [(false, [.slice]), (false, [.int .i64])]) fun ((((a81 : OA), (n82 : Nat), (c83 : Nat)), _), ((x84 : Int), _), _) => π.ite (x84 != 0) (π.ret (.int .i64 x84)) (π.call 197 #[(.slice a81 n82 c83), (.func (Fn.func 198) #[] #[(.pointer (some p59)), (.pointer (some p57)), (.pointer (some p58)), (.pointer (some p56))])] (false, [(false, [.bool])]) fun (((b85 : Bool), _), _) => π.ite b85 (π.ret (.int .i64 212)) (again30 ((p56, ()), (p57, ()), (p58, ()), ((a60, n61, c62), ()), (x63, ()), (x64, ()), ((a65, n66, c67), ()), (x68, ()), (i64.wrap (x69 + 1), ()), ()))))) (again6 ((p31, ()), (p32, ()), ((a34, n35, c36), ()), (x37, ()), (i64.wrap (x38 + 1), ()), ()))) (π.ret (.int .i64 0))
theorem Ho (w : Nat) (ti : Int) (tn : BA) (ta : OA) (tan tac : Nat) (tx : OA) (txn txc : Nat) (tk : OA) (tkn tkc : Nat) (rk rn : Int) (rs : BA) (ra : OA) (ran rac : Nat) : OK 126 [.v (.pointer (some ⟨w, 0, none⟩)), .v (.agg #[.int .i64 ti, .string tn, .slice ta tan tac, .slice tx txn txc, .slice tk tkn tkc]), .v (.agg #[.int .i64 rk, .int .i64 rn, .string rs, .slice ra ran rac])] fun _ π => A5 π w ti tn ta tan tac tx txn txc tk tkn tkc rk rn rs ra ran rac :=
 aW {} { join := [(8, [(4, 1000000), (5, 1000000), (8, 1000000), (10, 1000000), (17, 41), (18, 3), (19, 3), (24, 137), (25, 3), (26, 3)])], loop := [(2, [(4, 1000000), (5, 1000000), (17, 41), (18, 3), (19, 3)]), (5, [(4, 1000000), (5, 1000000), (8, 1000000), (17, 41), (18, 3), (19, 3), (24, 137), (25, 3), (26, 3)])] } [] Tryz.func126 Tryz.ntmps126 rfl (by kernel_rfl) fun _ π => by kernel_rfl
def vp (w : Nat) (ti : Int) (tn : BA) (ta : OA) (tan tac : Nat) (tx : OA) (txn txc : Nat) (tk : OA) (tkn tkc : Nat) (bk bt : Int) (ba : OA) (ban bac : Nat) (be gk gn : Int) (gs : BA) (bw sk sn : Int) (ss : BA) : W :=
 π.call 124 #[(.pointer (some (Addr.mk w 0 none))), (.agg #[(.int .i64 ti), (.string tn), (.slice ta tan tac), (.slice tx txn txc), (.slice tk tkn tkc)]), (.agg #[(.int .i64 bk), (.int .i64 bt), (.slice ba ban bac), (.int .i64 be), (.int .i64 gk), (.int .i64 gn), (.string gs), (.int .i64 bw), (.int .i64 sk), (.int .i64 sn), (.string ss)])] (true, [(false, [.slice]), (false, [.int .i64])]) fun ((((a0 : OA), (n1 : Nat), (c2 : Nat)), _), ((x3 : Int), _), _) => π.ite (x3 != 0) (π.ret (.tuple #[(.agg #[(.int .i64 0), (.slice none 0 0)]), (.int .i64 x3)])) (π.loop [(true, [.int .i64, .str, .slice, .slice, .slice]), (true, [.int .i64, .slice]), (false, [.slice]), (false, [.slice]), (false, [.int .i64]), (false, [.int .i64])] ((ti, tn, (ta, tan, tac), (tx, txn, txc), (tk, tkn, tkc), ()), ((0 : Int), (none, (0 : Nat), (0 : Nat)), ()), ((a0, n1, c2), ()), ((a0, n1, c2), ()), ((↑n1 : Int), ()), ((0 : Int), ()), ()) fun (((x5 : Int), (t6 : BA), ((a7 : OA), (n8 : Nat), (c9 : Nat)), ((a10 : OA), (n11 : Nat), (c12 : Nat)), ((a13 : OA), (n14 : Nat), (c15 : Nat)), _), ((x16 : Int), ((a17 : OA), (n18 : Nat), (c19 : Nat)), _), (((a20 : OA), (n21 : Nat), (c22 : Nat)), _), (((a23 : OA), (n24 : Nat), (c25 : Nat)), _), ((x26 : Int), _), ((x27 : Int), _), _) again4 => π.ite (decide (x27 < x26)) (π.guard (0 ≤ x27 ∧ x27 < (↑n24 : Int)) <| π.aa a23 fun p28 => π.ld [.int .i64, .int .i64, .str, .slice] (p28.add (x27.toNat * 4)) fun ((x29 : Int), (x30 : Int), (t31 : BA), ((a32 : OA), (n33 : Nat), (c34 : Nat)), _) =>
 π.call 126 #[(.pointer (some (Addr.mk w 0 none))), (.agg #[(.int .i64 x5), (.string t6), (.slice a7 n8 c9), (.slice a10 n11 c12), (.slice a13 n14 c15)]), (.agg #[(.int .i64 x29), (.int .i64 x30), (.string t31), (.slice a32 n33 c34)])] (false, [(false, [.int .i64])]) fun (((x35 : Int), _), _) => π.ite (x35 != 0) (π.ret (.tuple #[(.agg #[(.int .i64 0), (.slice none 0 0)]), (.int .i64 x35)])) (π.call 123 #[(.pointer (some (Addr.mk w 0 none))), (.agg #[(.int .i64 x5), (.string t6), (.slice a7 n8 c9), (.slice a10 n11 c12), (.slice a13 n14 c15)]), (.slice a32 n33 c34), (.slice none 0 0)] (true, []) fun _ => again4 ((x5, t6, (a7, n8, c9), (a10, n11, c12), (a13, n14, c15), ()), (x16, (a17, n18, c19), ()), ((a20, n21, c22), ()), ((a23, n24, c25), ()), (x26, ()), (i64.wrap (x27 + 1), ()), ()))) (π.ret (.tuple #[(.agg #[(.int .i64 ((↑n21 : Int))), (.slice none 0 0)]), (.int .i64 0)])))
theorem DA (w : Nat) (ti : Int) (tn : BA) (ta : OA) (tan tac : Nat) (tx : OA) (txn txc : Nat) (tk : OA) (tkn tkc : Nat) (bk bt : Int) (ba : OA) (ban bac : Nat) (be gk gn : Int) (gs : BA) (bw sk sn : Int) (ss : BA) : OK 60 [.v (.pointer (some ⟨w, 0, none⟩)), .v (.agg #[.int .i64 ti, .string tn, .slice ta tan tac, .slice tx txn txc, .slice tk tkn tkc]), .v (.agg #[.int .i64 bk, .int .i64 bt, .slice ba ban bac, .int .i64 be, .int .i64 gk, .int .i64 gn, .string gs, .int .i64 bw, .int .i64 sk, .int .i64 sn, .string ss])] fun _ π => vp π w ti tn ta tan tac tx txn txc tk tkn tkc bk bt ba ban bac be gk gn gs bw sk sn ss :=
 aW { ptr := [(4, 4, 0), (5, 5, 0), (6, 6, 0), (11, 11, 0), (40, 11, 3)], ty := [(4, 139), (5, 127), (6, 135), (11, 234)] } { loop := [(5, [(4, 139), (6, 135), (8, 227), (24, 227), (25, 3), (26, 3)])] } [] Tryz.func60 Tryz.ntmps60 rfl (by kernel_rfl) fun _ π => by kernel_rfl
def vi (w : Nat) (ti : Int) (tn : BA) (ta : OA) (tan tac : Nat) (tx : OA) (txn txc : Nat) (tk : OA) (tkn tkc : Nat) (bk bt : Int) (ba : OA) (ban bac : Nat) (be gk gn : Int) (gs : BA) (bw sk sn : Int) (ss : BA) : W :=
 π.call 124 #[(.pointer (some (Addr.mk w 0 none))), (.agg #[(.int .i64 ti), (.string tn), (.slice ta tan tac), (.slice tx txn txc), (.slice tk tkn tkc)]), (.agg #[(.int .i64 bk), (.int .i64 bt), (.slice ba ban bac), (.int .i64 be), (.int .i64 gk), (.int .i64 gn), (.string gs), (.int .i64 bw), (.int .i64 sk), (.int .i64 sn), (.string ss)])] (true, [(false, [.slice]), (false, [.int .i64])]) fun ((((a0 : OA), (n1 : Nat), (c2 : Nat)), _), ((x3 : Int), _), _) => π.ite (x3 != 0) (π.ret (.tuple #[(.agg #[(.int .i64 0), (.slice none 0 0)]), (.int .i64 x3)])) (π.loop [(true, [.int .i64, .str, .slice, .slice, .slice]), (true, [.int .i64, .slice]), (true, [.int .i64, .slice]), (false, [.slice]), (false, [.int .i64]), (false, [.int .i64])] ((ti, tn, (ta, tan, tac), (tx, txn, txc), (tk, tkn, tkc), ()), ((0 : Int), (none, (0 : Nat), (0 : Nat)), ()), ((0 : Int), (none, (0 : Nat), (0 : Nat)), ()), ((a0, n1, c2), ()), ((↑n1 : Int), ()), ((0 : Int), ()), ()) fun (((x5 : Int), (t6 : BA), ((a7 : OA), (n8 : Nat), (c9 : Nat)), ((a10 : OA), (n11 : Nat), (c12 : Nat)), ((a13 : OA), (n14 : Nat), (c15 : Nat)), _), ((x16 : Int), ((a17 : OA), (n18 : Nat), (c19 : Nat)), _), ((x20 : Int), ((a21 : OA), (n22 : Nat), (c23 : Nat)), _), (((a24 : OA), (n25 : Nat), (c26 : Nat)), _), ((x27 : Int), _), ((x28 : Int), _), _) again4 => π.ite (decide (x28 < x27)) (π.guard (0 ≤ x28 ∧ x28 < (↑n25 : Int)) <| π.aa a24 fun p29 => π.ld [.int .i64, .int .i64, .str, .slice] (p29.add (x28.toNat * 4)) fun ((x30 : Int), (x31 : Int), (t32 : BA), ((a33 : OA), (n34 : Nat), (c35 : Nat)), _) =>
 π.loop [(true, [.int .i64, .str, .slice, .slice, .slice]), (true, [.int .i64, .slice]), (true, [.int .i64, .slice]), (true, [.int .i64, .int .i64, .str, .slice]), (false, [.slice]), (false, [.slice]), (false, [.int .i64]), (false, [.int .i64]), (false, [.slice]), (false, [.int .i64]), (false, [.int .i64])] ((x5, t6, (a7, n8, c9), (a10, n11, c12), (a13, n14, c15), ()), (x16, (a17, n18, c19), ()), (x20, (a21, n22, c23), ()), (x30, x31, t32, (a33, n34, c35), ()), ((none, (0 : Nat), (0 : Nat)), ()), ((a24, n25, c26), ()), (x27, ()), (x28, ()), ((a7, n8, c9), ()), ((↑n8 : Int), ()), ((0 : Int), ()), ()) fun (((x37 : Int), (t38 : BA), ((a39 : OA), (n40 : Nat), (c41 : Nat)), ((a42 : OA), (n43 : Nat), (c44 : Nat)), ((a45 : OA), (n46 : Nat), (c47 : Nat)), _), ((x48 : Int), ((a49 : OA), (n50 : Nat), (c51 : Nat)), _), ((x52 : Int), ((a53 : OA), (n54 : Nat), (c55 : Nat)), _), ((x56 : Int), (x57 : Int), (t58 : BA), ((a59 : OA), (n60 : Nat), (c61 : Nat)), _), (((a62 : OA), (n63 : Nat), (c64 : Nat)), _), (((a65 : OA), (n66 : Nat), (c67 : Nat)), _), ((x68 : Int), _), ((x69 : Int), _), (((a70 : OA), (n71 : Nat), (c72 : Nat)), _), ((x73 : Int), _), ((x74 : Int), _), _) again36 => π.ite (decide (x74 < x73)) (π.guard (0 ≤ x74 ∧ x74 < (↑n71 : Int)) <| π.aa a70 fun p75 => π.ld [.int .i64, .str, .int .i64, .int .i64, .int .i64, .int .i64, .str] (p75.add (x74.toNat * 7)) fun ((x76 : Int), (t77 : BA), (x78 : Int), (x79 : Int), (x80 : Int), (x81 : Int), (t82 : BA), _) =>
 π.ite (x79 == 3) (π.call 127 #[(.slice a59 n60 c61), (.int .i64 x76)] (false, [(true, [.int .i64, .int .i64, .str])]) fun (((x83 : Int), (x84 : Int), (t85 : BA), _), _) => π.nw (Obj.cells #[(.int .i64 x83), (.int .i64 x84), (.string t85)] 28 (0, 0)) fun r86 => π.app 28 3 32 [(.int .i64 0), (.int .i64 0), (.string ⟨#[]⟩)] a62 n63 c64 (Src.sl (some (Addr.mk r86 0 none)) 1) fun a87 n88 c89 => again36 ((x37, t38, (a39, n40, c41), (a42, n43, c44), (a45, n46, c47), ()), (x48, (a49, n50, c51), ()), (x52, (a53, n54, c55), ()), (x56, x57, t58, (a59, n60, c61), ()), ((a87, n88, c89), ()), ((a65, n66, c67), ()), (x68, ()), (x69, ()), ((a70, n71, c72), ()), (x73, ()), (i64.wrap (x74 + 1), ()), ())) (again36 ((x37, t38, (a39, n40, c41), (a42, n43, c44), (a45, n46, c47), ()), (x48, (a49, n50, c51), ()), (x52, (a53, n54, c55), ()), (x56, x57, t58, (a59, n60, c61), ()), ((a62, n63, c64), ()), ((a65, n66, c67), ()), (x68, ()), (x69, ()), ((a70, n71, c72), ()), (x73, ()), (i64.wrap (x74 + 1), ()), ()))) (π.nw (Obj.cells #[(.slice a62 n63 c64)] 125 (0, 0)) fun r90 => π.app 125 1 24 [(.slice none 0 0)] a53 n54 c55 (Src.sl (some (Addr.mk r90 0 none)) 1) fun a91 n92 c93 => again4 ((x37, t38, (a39, n40, c41), (a42, n43, c44), (a45, n46, c47), ()), (x48, (a49, n50, c51), ()), (x52, (a91, n92, c93), ()), ((a65, n66, c67), ()), (x68, ()), (i64.wrap (x69 + 1), ()), ()))) (π.ret (.tuple #[(.agg #[(.int .i64 x20), (.slice a21 n22 c23)]), (.int .i64 0)])))
theorem Dv (w : Nat) (ti : Int) (tn : BA) (ta : OA) (tan tac : Nat) (tx : OA) (txn txc : Nat) (tk : OA) (tkn tkc : Nat) (bk bt : Int) (ba : OA) (ban bac : Nat) (be gk gn : Int) (gs : BA) (bw sk sn : Int) (ss : BA) : OK 61 [.v (.pointer (some ⟨w, 0, none⟩)), .v (.agg #[.int .i64 ti, .string tn, .slice ta tan tac, .slice tx txn txc, .slice tk tkn tkc]), .v (.agg #[.int .i64 bk, .int .i64 bt, .slice ba ban bac, .int .i64 be, .int .i64 gk, .int .i64 gn, .string gs, .int .i64 bw, .int .i64 sk, .int .i64 sn, .string ss])] fun _ π => vi π w ti tn ta tan tac tx txn txc tk tkn tkc bk bt ba ban bac be gk gn gs bw sk sn ss :=
 aW { ptr := [(4, 4, 0), (5, 5, 0), (6, 6, 0), (10, 10, 0), (12, 12, 0), (15, 15, 0), (34, 4, 2), (41, 15, 3), (45, 12, 3), (47, 15, 0), (53, 10, 1), (58, 10, 1)], ty := [(4, 139), (5, 127), (6, 135), (10, 135), (12, 234), (15, 165)] } { loop := [(6, [(4, 139), (6, 135), (10, 135), (28, 227), (29, 3), (30, 3)]), (10, [(4, 139), (6, 135), (10, 135), (12, 234), (13, 125), (28, 227), (29, 3), (30, 3), (35, 29), (36, 3), (37, 3)])] } [] Tryz.func61 Tryz.ntmps61 rfl (by kernel_rfl) fun _ π => by kernel_rfl
def A4 (vk vn : Int) (vs : BA) (ci : Int) (cn : BA) (ck cs dk dn : Int) (ds : BA) : W :=
 π.call 199 #[(.agg #[(.int .i64 vk), (.int .i64 vn), (.string vs)])] (false, [(false, [.int .i64])]) fun (((x0 : Int), _), _) => π.ite (x0 == 0) (π.ite (vk == 0) (π.ret (.bool true)) (π.ret (.bool (vk == ck)))) (π.ret (.bool false))
theorem Hl (vk vn : Int) (vs : BA) (ci : Int) (cn : BA) (ck cs dk dn : Int) (ds : BA) : OK 133 [.v (.agg #[.int .i64 vk, .int .i64 vn, .string vs]), .v (.agg #[.int .i64 ci, .string cn, .int .i64 ck, .int .i64 cs, .int .i64 dk, .int .i64 dn, .string ds])] fun _ π => A4 π vk vn vs ci cn ck cs dk dn ds :=
 aW { ptr := [(2, 2, 0), (3, 3, 0), (9, 2, 0), (13, 2, 0), (15, 3, 2)], ty := [(2, 28), (3, 165)] } {} [] Tryz.func133 Tryz.ntmps133 rfl (by kernel_rfl) fun _ π => by kernel_rfl
def vq (ti : Int) (tn : BA) (ta : OA) (tan tac : Nat) (tx : OA) (txn txc : Nat) (tk : OA) (tkn tkc : Nat) (p : Nat) : W :=
 π.ld [.int .i64] ((Addr.mk p 0 none).add 1) fun ((x0 : Int), _) => π.ret (.bool (ti == x0))
theorem DB (ti : Int) (tn : BA) (ta : OA) (tan tac : Nat) (tx : OA) (txn txc : Nat) (tk : OA) (tkn tkc : Nat) (p : Nat) : OK 129 [.v (.agg #[.int .i64 ti, .string tn, .slice ta tan tac, .slice tx txn txc, .slice tk tkn tkc]), .v (.pointer (some ⟨p, 0, none⟩))] fun _ π => vq π ti tn ta tan tac tx txn txc tk tkn tkc p :=
 aW { ptr := [(2, 2, 0), (4, 2, 0)], ty := [(2, 139)] } {} [] Tryz.func129 Tryz.ntmps129 rfl (by kernel_rfl) fun _ π => by kernel_rfl
def oz (a : OA) (an ac : Nat) (p : Nat) : W :=
 π.loop [(false, [.int .i64]), (false, [.int .i64])] (((↑an : Int), ()), ((0 : Int), ()), ()) fun (((x1 : Int), _), ((x2 : Int), _), _) again0 => π.ite (decide (x2 < x1)) (π.guard (0 ≤ x2 ∧ x2 < (↑an : Int)) <| π.aa a fun p3 => π.ld [.int .i64, .str, .slice, .slice, .slice] (p3.add (x2.toNat * 5)) fun ((x4 : Int), (t5 : BA), ((a6 : OA), (n7 : Nat), (c8 : Nat)), ((a9 : OA), (n10 : Nat), (c11 : Nat)), ((a12 : OA), (n13 : Nat), (c14 : Nat)), _) => π.call 129 #[(.agg #[(.int .i64 x4), (.string t5), (.slice a6 n7 c8), (.slice a9 n10 c11), (.slice a12 n13 c14)]), (.pointer (some (Addr.mk p 0 none)))] (false, [(false, [.bool])]) fun (((b15 : Bool), _), _) => π.ite b15 (π.ret (.int .i64 x2)) (again0 ((x1, ()), (i64.wrap (x2 + 1), ()), ()))) (π.ret (.int .i64 (-1)))
theorem vY (a : OA) (an ac : Nat) (p : Nat) : OK 128 [.v (.slice a an ac), .v (.func (.func 129) #[] #[.pointer (some ⟨p, 0, none⟩)])] fun _ π => oz π a an ac p :=
 aW {} { loop := [(2, [(7, 3), (8, 3)])] } [] Tryz.func128 Tryz.ntmps128 rfl (by kernel_rfl) fun _ π => by kernel_rfl
def sr (ci : Int) (cn : BA) (ck cs dk dn : Int) (ds : BA) (p q r2 u : Nat) : W :=
 π.ld [.int .i64] (Addr.mk p 0 none) fun ((x0 : Int), _) => π.ite (ci == x0) (π.ite (cs == 3) (π.ld [.bool] (Addr.mk q 0 none) fun ((b1 : Bool), _) => π.ite b1 (π.ld [.int .i64, .int .i64, .str] (Addr.mk u 0 none) fun ((x2 : Int), (x3 : Int), (t4 : BA), _) => π.cy 133 #[(.agg #[(.int .i64 x2), (.int .i64 x3), (.string t4)]), (.agg #[(.int .i64 ci), (.string cn), (.int .i64 ck), (.int .i64 cs), (.int .i64 dk), (.int .i64 dn), (.string ds)])] (false, [(false, [.bool])]) fun (((b5 : Bool), _), _) => π.ret (.bool b5)) (π.ld [.int .i64] (Addr.mk p 0 none) fun ((x6 : Int), _) => π.ld [.slice] ((Addr.mk r2 0 none).add 2) fun (((a7 : OA), (n8 : Nat), (c9 : Nat)), _) => π.guard ((0 : Int) ≤ 0 ∧ 0 < (↑n8 : Int)) <| π.aa a7 fun p10 => π.ld [.int .i64] ((p10.add 0).add 0) fun ((x11 : Int), _) => π.ite (x6 != x11) (π.ld [.int .i64, .int .i64, .str] (Addr.mk u 0 none) fun ((x12 : Int), (x13 : Int), (t14 : BA), _) => π.cy 133 #[(.agg #[(.int .i64 x12), (.int .i64 x13), (.string t14)]), (.agg #[(.int .i64 ci), (.string cn), (.int .i64 ck), (.int .i64 cs), (.int .i64 dk), (.int .i64 dn), (.string ds)])] (false, [(false, [.bool])]) fun (((b15 : Bool), _), _) => π.ret (.bool b15)) (π.ret (.bool false)))) (π.ret (.bool false))) (π.ret (.bool false))
theorem By (ci : Int) (cn : BA) (ck cs dk dn : Int) (ds : BA) (p q r2 u : Nat) : OK 132 [.v (.agg #[.int .i64 ci, .string cn, .int .i64 ck, .int .i64 cs, .int .i64 dk, .int .i64 dn, .string ds]), .v (.pointer (some ⟨p, 0, none⟩)), .v (.pointer (some ⟨q, 0, none⟩)), .v (.pointer (some ⟨r2, 0, none⟩)), .v (.pointer (some ⟨u, 0, none⟩))] fun _ π => sr π ci cn ck cs dk dn ds p q r2 u :=
 aW { ptr := [(5, 5, 0), (7, 5, 0), (12, 5, 3)], ty := [(5, 165)] } { draws := [(1, { A := [0, 1, 2, 3, 4, 5, 6, 7, 8, 9, 10, 11, 12, 13, 14, 15, 16, 17, 18, 19, 20, 21, 22, 23, 24, 25, 26], quiet := [24] })],  } [] Tryz.func132 Tryz.ntmps132 rfl (by kernel_rfl) fun _ π => by kernel_rfl
def ow (a : OA) (an ac : Nat) (p q r2 u : Nat) : W :=
 π.loop [(false, [.int .i64]), (false, [.int .i64])] (((↑an : Int), ()), ((0 : Int), ()), ()) fun (((x1 : Int), _), ((x2 : Int), _), _) again0 => π.ite (decide (x2 < x1)) (π.guard (0 ≤ x2 ∧ x2 < (↑an : Int)) <| π.aa a fun p3 => π.ld [.int .i64, .str, .int .i64, .int .i64, .int .i64, .int .i64, .str] (p3.add (x2.toNat * 7)) fun ((x4 : Int), (t5 : BA), (x6 : Int), (x7 : Int), (x8 : Int), (x9 : Int), (t10 : BA), _) => π.call 132 #[(.agg #[(.int .i64 x4), (.string t5), (.int .i64 x6), (.int .i64 x7), (.int .i64 x8), (.int .i64 x9), (.string t10)]), (.pointer (some (Addr.mk p 0 none))), (.pointer (some (Addr.mk q 0 none))), (.pointer (some (Addr.mk r2 0 none))), (.pointer (some (Addr.mk u 0 none)))] (false, [(false, [.bool])]) fun (((b11 : Bool), _), _) => π.ite b11 (π.ret (.int .i64 x2)) (again0 ((x1, ()), (i64.wrap (x2 + 1), ()), ()))) (π.ret (.int .i64 (-1)))
theorem vV (a : OA) (an ac : Nat) (p q r2 u : Nat) : OK 92 [.v (.slice a an ac), .v (.func (.func 132) #[] #[.pointer (some ⟨p, 0, none⟩), .pointer (some ⟨q, 0, none⟩), .pointer (some ⟨r2, 0, none⟩), .pointer (some ⟨u, 0, none⟩)])] fun _ π => ow π a an ac p q r2 u :=
 aW {} { loop := [(2, [(7, 3), (8, 3)])] } [] Tryz.func92 Tryz.ntmps92 rfl (by kernel_rfl) fun _ π => by kernel_rfl
def pX (a : OA) (an ac : Nat) (p q r2 u : Nat) : W :=
 π.call 92 #[(.slice a an ac), (.func (Fn.func 132) #[] #[(.pointer (some (Addr.mk p 0 none))), (.pointer (some (Addr.mk q 0 none))), (.pointer (some (Addr.mk r2 0 none))), (.pointer (some (Addr.mk u 0 none)))])] (false, [(false, [.int .i64])]) fun (((x0 : Int), _), _) => π.ret (.bool (decide (x0 ≥ 0)))
theorem yo (a : OA) (an ac : Nat) (p q r2 u : Nat) : OK 131 [.v (.slice a an ac), .v (.func (.func 132) #[] #[.pointer (some ⟨p, 0, none⟩), .pointer (some ⟨q, 0, none⟩), .pointer (some ⟨r2, 0, none⟩), .pointer (some ⟨u, 0, none⟩)])] fun _ π => pX π a an ac p q r2 u :=
 aW {} {} [] Tryz.func131 Tryz.ntmps131 rfl (by kernel_rfl) fun _ π => by kernel_rfl
def vr (k : Int) (vk vn : Int) (vs : BA) (b : Bool) (p : Nat) : W :=
 π.nw (Obj.cells #[(.int .i64 k)] 3 (0, 0)) fun r0 => π.nw (Obj.cells #[(.int .i64 vk), (.int .i64 vn), (.string vs)] 28 (0, 0)) fun r1 => π.nw (Obj.cells #[(.bool b)] 4 (0, 0)) fun r2 => π.ld [.slice] ((Addr.mk p 0 none).add 2) fun (((a3 : OA), (n4 : Nat), (c5 : Nat)), _) => π.call 131 #[(.slice a3 n4 c5), (.func (Fn.func 132) #[] #[(.pointer (some (Addr.mk r0 0 none))), (.pointer (some (Addr.mk r2 0 none))), (.pointer (some (Addr.mk p 0 none))), (.pointer (some (Addr.mk r1 0 none)))])] (false, [(false, [.bool])]) fun (((b6 : Bool), _), _) => π.ret (.bool b6)
theorem DC (k : Int) (vk vn : Int) (vs : BA) (b : Bool) (p : Nat) : OK 130 [.v (.int .i64 k), .v (.agg #[.int .i64 vk, .int .i64 vn, .string vs]), .v (.bool b), .v (.pointer (some ⟨p, 0, none⟩))] fun _ π => vr π k vk vn vs b p :=
 aW {} {} [] Tryz.func130 Tryz.ntmps130 rfl (by kernel_rfl) fun _ π => by kernel_rfl
def xX (w : Nat) (bk bt : Int) (ba : OA) (ban bac : Nat) (be gk gn : Int) (gs : BA) (bw sk sn : Int) (ss : BA) : W :=
 π.nw (Obj.cells #[(.int .i64 bk), (.int .i64 bt), (.slice ba ban bac), (.int .i64 be), (.int .i64 gk), (.int .i64 gn), (.string gs), (.int .i64 bw), (.int .i64 sk), (.int .i64 sn), (.string ss)] 127 (0, 0)) fun r0 => π.aa (some (Addr.mk w 0 none)) fun p1 => π.ld [.slice] ((p1.add 0).add 2) fun (((a2 : OA), (n3 : Nat), (c4 : Nat)), _) => π.call 128 #[(.slice a2 n3 c4), (.func (Fn.func 129) #[] #[(.pointer (some (Addr.mk r0 0 none)))])] (false, [(false, [.int .i64])]) fun (((x5 : Int), _), _) => π.join [(false, [.addr]), (true, [.int .i64, .str, .slice, .slice, .slice]), (false, [.int .i64])] (fun J6 => π.ite (decide (x5 < 0)) (π.ret (.tuple #[(.agg #[(.int .i64 0), (.string ⟨#[]⟩), (.slice none 0 0), (.slice none 0 0), (.slice none 0 0)]), (.bool false)])) (π.ld [.int .i64] ((Addr.mk r0 0 none).add 0) fun ((x7 : Int), _) => π.ite (decide (x7 < 1)) (π.ret (.tuple #[(.agg #[(.int .i64 0), (.string ⟨#[]⟩), (.slice none 0 0), (.slice none 0 0), (.slice none 0 0)]), (.bool false)])) (π.ld [.int .i64] ((Addr.mk r0 0 none).add 0) fun ((x8 : Int), _) => π.ite (decide (x8 > 4)) (π.ret (.tuple #[(.agg #[(.int .i64 0), (.string ⟨#[]⟩), (.slice none 0 0), (.slice none 0 0), (.slice none 0 0)]), (.bool false)])) (J6 ((Addr.mk r0 0 none, ()), ((0 : Int), ByteArray.mk #[], (none, (0 : Nat), (0 : Nat)), (none, (0 : Nat), (0 : Nat)), (none, (0 : Nat), (0 : Nat)), ()), (x5, ()), ()))))) (fun ((p9, _), ((x10 : Int), (t11 : BA), ((a12 : OA), (n13 : Nat), (c14 : Nat)), ((a15 : OA), (n16 : Nat), (c17 : Nat)), ((a18 : OA), (n19 : Nat), (c20 : Nat)), _), ((x21 : Int), _), _) =>
 π.aa (some (Addr.mk w 0 none)) fun p22 => π.ld [.slice] ((p22.add 0).add 2) fun (((a23 : OA), (n24 : Nat), (c25 : Nat)), _) => π.guard (0 ≤ x21 ∧ x21 < (↑n24 : Int)) <| π.aa a23 fun p26 => π.ld [.int .i64, .str, .slice, .slice, .slice] (p26.add (x21.toNat * 5)) fun ((x27 : Int), (t28 : BA), ((a29 : OA), (n30 : Nat), (c31 : Nat)), ((a32 : OA), (n33 : Nat), (c34 : Nat)), ((a35 : OA), (n36 : Nat), (c37 : Nat)), _) => π.nw (Obj.cells #[(.int .i64 0), (.string ⟨#[]⟩), (.slice none 0 0), (.slice none 0 0), (.slice none 0 0)] 139 (0, 0)) fun r38 => π.st (Addr.mk r38 0 none) [(.int .i64 x27), (.string t28), (.slice a29 n30 c31), (.slice a32 n33 c34), (.slice a35 n36 c37)] <| π.join [(false, [.addr]), (true, [.int .i64, .str, .slice, .slice, .slice]), (false, [.addr]), (false, [.raw])] (fun J39 => π.ld [.int .i64] (p9.add 0) fun ((x40 : Int), _) => π.ite (x40 == 1) (π.ld [.slice] (p9.add 2) fun (((a41 : OA), (n42 : Nat), (c43 : Nat)), _) => π.ld [.slice] ((Addr.mk r38 0 none).add 2) fun (((a44 : OA), (n45 : Nat), (c46 : Nat)), _) => π.loop [(true, [.int .i64, .str, .slice, .slice, .slice]), (false, [.addr]), (false, [.slice]), (false, [.slice]), (false, [.int .i64]), (false, [.int .i64])] ((x10, t11, (a12, n13, c14), (a15, n16, c17), (a18, n19, c20), ()), (Addr.mk r38 0 none, ()), ((a41, n42, c43), ()), ((a44, n45, c46), ()), ((↑n45 : Int), ()), ((0 : Int), ()), ()) fun (((x48 : Int), (t49 : BA), ((a50 : OA), (n51 : Nat), (c52 : Nat)), ((a53 : OA), (n54 : Nat), (c55 : Nat)), ((a56 : OA), (n57 : Nat), (c58 : Nat)), _), (p59, _), (((a60 : OA), (n61 : Nat), (c62 : Nat)), _), (((a63 : OA), (n64 : Nat), (c65 : Nat)), _), ((x66 : Int), _), ((x67 : Int), _), _) again47 =>
 π.ite (decide (x67 < x66)) (π.guard (0 ≤ x67 ∧ x67 < (↑n64 : Int)) <| π.aa a63 fun p68 => π.ld [.int .i64, .str, .int .i64, .int .i64, .int .i64, .int .i64, .str] (p68.add (x67.toNat * 7)) fun ((x69 : Int), (t70 : BA), (x71 : Int), (x72 : Int), (x73 : Int), (x74 : Int), (t75 : BA), _) => π.ite (x72 != 3) (again47 ((x48, t49, (a50, n51, c52), (a53, n54, c55), (a56, n57, c58), ()), (p59, ()), ((a60, n61, c62), ()), ((a63, n64, c65), ()), (x66, ()), (i64.wrap (x67 + 1), ()), ())) (π.ite ((↑n61 : Int) == 0) (π.ld [.int .i64, .str, .slice, .slice, .slice] p59 fun ((x76 : Int), (t77 : BA), ((a78 : OA), (n79 : Nat), (c80 : Nat)), ((a81 : OA), (n82 : Nat), (c83 : Nat)), ((a84 : OA), (n85 : Nat), (c86 : Nat)), _) => π.ret (.tuple #[(.agg #[(.int .i64 x76), (.string t77), (.slice a78 n79 c80), (.slice a81 n82 c83), (.slice a84 n85 c86)]), (.bool false)])) (π.guard ((0 : Int) ≤ 0 ∧ 0 < (↑n61 : Int)) <| π.aa a60 fun p87 => π.ld [.int .i64, .int .i64, .str] (p87.add 0) fun ((x88 : Int), (x89 : Int), (t90 : BA), _) => π.cy 133 #[(.agg #[(.int .i64 x88), (.int .i64 x89), (.string t90)]), (.agg #[(.int .i64 x69), (.string t70), (.int .i64 x71), (.int .i64 x72), (.int .i64 x73), (.int .i64 x74), (.string t75)])] (false, [(false, [.bool])]) fun (((b91 : Bool), _), _) => π.ite (!b91) (π.ld [.int .i64, .str, .slice, .slice, .slice] p59 fun ((x92 : Int), (t93 : BA), ((a94 : OA), (n95 : Nat), (c96 : Nat)), ((a97 : OA), (n98 : Nat), (c99 : Nat)), ((a100 : OA), (n101 : Nat), (c102 : Nat)), _) =>
 π.ret (.tuple #[(.agg #[(.int .i64 x92), (.string t93), (.slice a94 n95 c96), (.slice a97 n98 c99), (.slice a100 n101 c102)]), (.bool false)])) (π.ite (x67 == 0) (π.guard ((0 : Int) ≤ 0 ∧ 0 < (↑n61 : Int)) <| π.aa a60 fun p103 => π.ld [.int .i64] ((p103.add 0).add 0) fun ((x104 : Int), _) => π.ite (x104 == 0) (π.ld [.int .i64, .str, .slice, .slice, .slice] p59 fun ((x105 : Int), (t106 : BA), ((a107 : OA), (n108 : Nat), (c109 : Nat)), ((a110 : OA), (n111 : Nat), (c112 : Nat)), ((a113 : OA), (n114 : Nat), (c115 : Nat)), _) => π.ret (.tuple #[(.agg #[(.int .i64 x105), (.string t106), (.slice a107 n108 c109), (.slice a110 n111 c112), (.slice a113 n114 c115)]), (.bool false)])) (π.guard ((0 : Int) ≤ 1 ∧ 1 ≤ (↑n61 : Int) ∧ (↑n61 : Int) ≤ (↑c62 : Int)) <| again47 ((x48, t49, (a50, n51, c52), (a53, n54, c55), (a56, n57, c58), ()), (p59, ()), ((if c62 = (1 : Nat) then a60 else Option.map (fun x => x.add 3) a60, (↑n61 : Int).toNat - (1 : Nat), c62 - (1 : Nat)), ()), ((a63, n64, c65), ()), (x66, ()), (i64.wrap (x67 + 1), ()), ()))) (π.guard ((0 : Int) ≤ 1 ∧ 1 ≤ (↑n61 : Int) ∧ (↑n61 : Int) ≤ (↑c62 : Int)) <| again47 ((x48, t49, (a50, n51, c52), (a53, n54, c55), (a56, n57, c58), ()), (p59, ()), ((if c62 = (1 : Nat) then a60 else Option.map (fun x => x.add 3) a60, (↑n61 : Int).toNat - (1 : Nat), c62 - (1 : Nat)), ()), ((a63, n64, c65), ()), (x66, ()), (i64.wrap (x67 + 1), ()), ())))))) (π.ld [.int .i64, .str, .slice, .slice, .slice] p59 fun ((x116 : Int), (t117 : BA), ((a118 : OA), (n119 : Nat), (c120 : Nat)), ((a121 : OA), (n122 : Nat), (c123 : Nat)), ((a124 : OA), (n125 : Nat), (c126 : Nat)), _) =>
 π.ret (.tuple #[(.agg #[(.int .i64 x116), (.string t117), (.slice a118 n119 c120), (.slice a121 n122 c123), (.slice a124 n125 c126)]), (.bool ((↑n61 : Int) == 0))]))) (π.ld [.int .i64] (p9.add 0) fun ((x127 : Int), _) => π.ite (x127 == 2) (π.ld [.int .i64] (p9.add 3) fun ((x128 : Int), _) => π.ld [.int .i64, .int .i64, .str] (p9.add 4) fun ((x129 : Int), (x130 : Int), (t131 : BA), _) => π.call 130 #[(.int .i64 x128), (.agg #[(.int .i64 x129), (.int .i64 x130), (.string t131)]), (.bool false), (.pointer (some (Addr.mk r38 0 none)))] (false, [(false, [.bool])]) fun (((b132 : Bool), _), _) => π.ite (!b132) (π.ld [.int .i64, .str, .slice, .slice, .slice] (Addr.mk r38 0 none) fun ((x133 : Int), (t134 : BA), ((a135 : OA), (n136 : Nat), (c137 : Nat)), ((a138 : OA), (n139 : Nat), (c140 : Nat)), ((a141 : OA), (n142 : Nat), (c143 : Nat)), _) => π.ret (.tuple #[(.agg #[(.int .i64 x133), (.string t134), (.slice a135 n136 c137), (.slice a138 n139 c140), (.slice a141 n142 c143)]), (.bool false)])) (J39 ((p9, ()), (x10, t11, (a12, n13, c14), (a15, n16, c17), (a18, n19, c20), ()), (Addr.mk r38 0 none, ()), ((.func (Fn.func 130) #[] #[(.pointer (some (Addr.mk r38 0 none)))]), ()), ()))) (J39 ((p9, ()), (x10, t11, (a12, n13, c14), (a15, n16, c17), (a18, n19, c20), ()), (Addr.mk r38 0 none, ()), ((.func (Fn.func 130) #[] #[(.pointer (some (Addr.mk r38 0 none)))]), ()), ())))) (fun ((p144, _), ((x145 : Int), (t146 : BA), ((a147 : OA), (n148 : Nat), (c149 : Nat)), ((a150 : OA), (n151 : Nat), (c152 : Nat)), ((a153 : OA), (n154 : Nat), (c155 : Nat)), _), (p156, _), ((v157 : Value), _), _) =>
 π.ld [.int .i64, .str, .slice, .slice, .slice] p156 fun ((x158 : Int), (t159 : BA), ((a160 : OA), (n161 : Nat), (c162 : Nat)), ((a163 : OA), (n164 : Nat), (c165 : Nat)), ((a166 : OA), (n167 : Nat), (c168 : Nat)), _) => π.ld [.int .i64] (p144.add 7) fun ((x169 : Int), _) => π.ite (x169 == 0) (π.still [.int .i64, .str, .slice, .slice, .slice] p156 (x158, t159, (a160, n161, c162), (a163, n164, c165), (a166, n167, c168), ()) <| π.ret (.tuple #[(.agg #[(.int .i64 x158), (.string t159), (.slice a160 n161 c162), (.slice a163 n164 c165), (.slice a166 n167 c168)]), (.bool true)])) (π.ld [.int .i64] (p144.add 7) fun ((x170 : Int), _) => π.ld [.int .i64, .int .i64, .str] (p144.add 8) fun ((x171 : Int), (x172 : Int), (t173 : BA), _) => π.dR v157 #[(.int .i64 x170), (.agg #[(.int .i64 x171), (.int .i64 x172), (.string t173)]), (.bool true)] (false, [(false, [.bool])]) fun (((b174 : Bool), _), _) => π.still [.int .i64, .str, .slice, .slice, .slice] p156 (x158, t159, (a160, n161, c162), (a163, n164, c165), (a166, n167, c168), ()) <| π.ret (.tuple #[(.agg #[(.int .i64 x158), (.string t159), (.slice a160 n161 c162), (.slice a163 n164 c165), (.slice a166 n167 c168)]), (.bool b174)]))))
theorem Fq (w : Nat) (bk bt : Int) (ba : OA) (ban bac : Nat) (be gk gn : Int) (gs : BA) (bw sk sn : Int) (ss : BA) : OK 62 [.v (.pointer (some ⟨w, 0, none⟩)), .v (.agg #[.int .i64 bk, .int .i64 bt, .slice ba ban bac, .int .i64 be, .int .i64 gk, .int .i64 gn, .string gs, .int .i64 bw, .int .i64 sk, .int .i64 sn, .string ss])] fun _ π => xX π w bk bt ba ban bac be gk gn gs bw sk sn ss :=
 aW { ptr := [(4, 4, 0), (11, 11, 0), (55, 11, 3)], ty := [(4, 139), (11, 165)] } { draws := [(12, { A := [0, 1, 2, 3, 4, 5, 6, 7, 8, 9, 10, 11, 12, 13, 14, 15, 16, 17, 18, 19, 20, 21], quiet := [8] }), (19, { A := [0, 1, 2, 3, 4, 5, 6, 7, 8, 9], chkL := [(10, [0])], eag := [11, 13] })], join := [(4, [(3, 1000000), (4, 139), (6, 3)]), (19, [(3, 1000000), (4, 139), (7, 1000000), (8, 241)])], loop := [(9, [(4, 139), (7, 1000000), (9, 125), (48, 29), (49, 3), (50, 3)])] } [] Tryz.func62 Tryz.ntmps62 rfl (by kernel_rfl) fun _ π => by kernel_rfl
def Cw (sv sl : Int) (sa : OA) (san sac : Nat) (b : OA) (bn bc : Nat) (t : TypeId) (x : Value) : W :=
 π.ite false (π.ret (.tuple #[(.agg #[(.slice none 0 0), (.slice none 0 0), (.slice none 0 0)]), (.int .i64 0), (.int .i64 2)])) (π.call 57 #[(.agg #[(.int .i64 sv), (.int .i64 sl), (.slice sa san sac)])] (false, [(false, [.int .i64])]) fun (((x0 : Int), _), _) => π.ite (x0 != 0) (π.ret (.tuple #[(.agg #[(.slice none 0 0), (.slice none 0 0), (.slice none 0 0)]), (.int .i64 0), (.int .i64 100)])) (π.nw (Obj.map #[] (0 : Nat)) fun r1 => π.nw (Obj.map #[] (0 : Nat)) fun r2 => π.nw (Obj.cells #[(.int .i64 sv), (.int .i64 sl), (.slice sa san sac), (Value.iface t x), (.slice none 0 0), (.map (some r1)), (.map (some r2))] 147 (0, 0)) fun r3 => π.nw (Obj.cells #[(Value.nilFunc), (Value.nilFunc), (Value.nilFunc), (Value.nilFunc)] 150 (0, 0)) fun r4 => π.st (Addr.mk r4 0 none) [(.func (Fn.func 58) #[] #[]), (.func (Fn.func 59) #[] #[]), (.func (Fn.func 60) #[] #[]), (.func (Fn.func 61) #[] #[])] <| π.loop [(true, [.slice, .slice, .slice]), (false, [.ptr]), (false, [.addr]), (true, [.slice, .slice, .slice]), (false, [.slice]), (false, [.int .i64]), (false, [.int .i64])] (((none, (0 : Nat), (0 : Nat)), (none, (0 : Nat), (0 : Nat)), (none, (0 : Nat), (0 : Nat)), ()), (some (Addr.mk r3 0 none), ()), (Addr.mk r4 0 none, ()), ((none, (0 : Nat), (0 : Nat)), (none, (0 : Nat), (0 : Nat)), (none, (0 : Nat), (0 : Nat)), ()), ((b, bn, bc), ()), ((↑bn : Int), ()), ((0 : Int), ()), ()) fun ((((a6 : OA), (n7 : Nat), (c8 : Nat)), ((a9 : OA), (n10 : Nat), (c11 : Nat)), ((a12 : OA), (n13 : Nat), (c14 : Nat)), _), (p15, _), (p16, _), (((a17 : OA), (n18 : Nat), (c19 : Nat)), ((a20 : OA), (n21 : Nat), (c22 : Nat)), ((a23 : OA), (n24 : Nat), (c25 : Nat)), _), (((a26 : OA), (n27 : Nat), (c28 : Nat)), _), ((x29 : Int), _), ((x30 : Int), _), _) again5 =>
 π.ite (decide (x30 < x29)) (π.guard (0 ≤ x30 ∧ x30 < (↑n27 : Int)) <| π.aa a26 fun p31 => π.ld [.int .i64, .int .i64, .slice, .int .i64, .int .i64, .int .i64, .str, .int .i64, .int .i64, .int .i64, .str] (p31.add (x30.toNat * 11)) fun ((x32 : Int), (x33 : Int), ((a34 : OA), (n35 : Nat), (c36 : Nat)), (x37 : Int), (x38 : Int), (x39 : Int), (t40 : BA), (x41 : Int), (x42 : Int), (x43 : Int), (t44 : BA), _) => π.call 62 #[(.pointer p15), (.agg #[(.int .i64 x32), (.int .i64 x33), (.slice a34 n35 c36), (.int .i64 x37), (.int .i64 x38), (.int .i64 x39), (.string t40), (.int .i64 x41), (.int .i64 x42), (.int .i64 x43), (.string t44)])] (true, [(true, [.int .i64, .str, .slice, .slice, .slice]), (false, [.bool])]) fun (((x45 : Int), (t46 : BA), ((a47 : OA), (n48 : Nat), (c49 : Nat)), ((a50 : OA), (n51 : Nat), (c52 : Nat)), ((a53 : OA), (n54 : Nat), (c55 : Nat)), _), ((b56 : Bool), _), _) => π.ite (!b56) (π.ret (.tuple #[(.agg #[(.slice none 0 0), (.slice none 0 0), (.slice none 0 0)]), (.int .i64 x30), (.int .i64 1)])) (π.join [(true, [.slice, .slice, .slice]), (false, [.ptr]), (false, [.addr]), (true, [.slice, .slice, .slice]), (false, [.int .i64]), (true, [.int .i64, .slice]), (false, [.int .i64]), (false, [.slice]), (false, [.int .i64]), (false, [.int .i64])] (fun J57 => π.guard (0 ≤ i64.wrap (x32 - 1) ∧ i64.wrap (x32 - 1) < 4) <| π.ld [.raw] (p16.add ((i64.wrap (x32 - 1)).toNat * 1)) fun ((v58 : Value), _) =>
 π.both (π.dR v58 #[(.pointer p15), (.agg #[(.int .i64 x45), (.string t46), (.slice a47 n48 c49), (.slice a50 n51 c52), (.slice a53 n54 c55)]), (.agg #[(.int .i64 x32), (.int .i64 x33), (.slice a34 n35 c36), (.int .i64 x37), (.int .i64 x38), (.int .i64 x39), (.string t40), (.int .i64 x41), (.int .i64 x42), (.int .i64 x43), (.string t44)])] (true, [(true, [.int .i64, .slice]), (false, [.int .i64])]) fun (((x59 : Int), ((a60 : OA), (n61 : Nat), (c62 : Nat)), _), ((x63 : Int), _), _) => J57 (((a6, n7, c8), (a9, n10, c11), (a12, n13, c14), ()), (p15, ()), (p16, ()), ((a17, n18, c19), (a20, n21, c22), (a23, n24, c25), ()), (x30, ()), (x59, (a60, n61, c62), ()), (x63, ()), ((a26, n27, c28), ()), (x29, ()), (x30, ()), ())) (π.dR v58 #[(.pointer p15), (.agg #[(.int .i64 x45), (.string t46), (.slice a47 n48 c49), (.slice a50 n51 c52), (.slice a53 n54 c55)]), (.agg #[(.int .i64 x32), (.int .i64 x33), (.slice a34 n35 c36), (.int .i64 x37), (.int .i64 x38), (.int .i64 x39), (.string t40), (.int .i64 x41), (.int .i64 x42), (.int .i64 x43), (.string t44)])] (true, [(true, [.int .i64, .slice]), (false, [.int .i64])]) fun (((x64 : Int), ((a65 : OA), (n66 : Nat), (c67 : Nat)), _), ((x68 : Int), _), _) => J57 (((a6, n7, c8), (a9, n10, c11), (a12, n13, c14), ()), (p15, ()), (p16, ()), ((a17, n18, c19), (a20, n21, c22), (a23, n24, c25), ()), (x30, ()), (x64, (a65, n66, c67), ()), (x68, ()), ((a26, n27, c28), ()), (x29, ()), (x30, ()), ()))) (fun ((((a69 : OA), (n70 : Nat), (c71 : Nat)), ((a72 : OA), (n73 : Nat), (c74 : Nat)), ((a75 : OA), (n76 : Nat), (c77 : Nat)), _), (p78, _), (p79, _), (((a80 : OA), (n81 : Nat), (c82 : Nat)), ((a83 : OA), (n84 : Nat), (c85 : Nat)), ((a86 : OA), (n87 : Nat), (c88 : Nat)), _), ((x89 : Int), _), ((x90 : Int), ((a91 : OA), (n92 : Nat), (c93 : Nat)), _), ((x94 : Int), _), (((a95 : OA), (n96 : Nat), (c97 : Nat)), _), ((x98 : Int), _), ((x99 : Int), _), _) =>
 π.ite (x94 != 0) (π.ret (.tuple #[(.agg #[(.slice none 0 0), (.slice none 0 0), (.slice none 0 0)]), (.int .i64 x89), (.int .i64 x94)])) (π.nw (Obj.cells #[(.int .i64 x90), (.slice a91 n92 c93)] 135 (0, 0)) fun r100 => π.app 135 2 32 [(.int .i64 0), (.slice none 0 0)] a86 n87 c88 (Src.sl (some (Addr.mk r100 0 none)) 1) fun a101 n102 c103 => again5 (((a69, n70, c71), (a72, n73, c74), (a75, n76, c77), ()), (p78, ()), (p79, ()), ((a80, n81, c82), (a83, n84, c85), (a101, n102, c103), ()), ((a95, n96, c97), ()), (x98, ()), (i64.wrap (x99 + 1), ()), ()))))) (π.aa p15 fun p104 => π.ld [.slice] (p104.add 4) fun (((a105 : OA), (n106 : Nat), (c107 : Nat)), _) => π.aa p15 fun p108 => π.ld [.map] (p108.add 6) fun ((m109 : Option Nat), _) => π.call 64 #[(.map m109)] (false, [(false, [.raw])]) fun (((v110 : Value), _), _) => π.call 63 #[v110] (false, [(false, [.slice])]) fun ((((a111 : OA), (n112 : Nat), (c113 : Nat)), _), _) => π.loop [(true, [.slice, .slice, .slice]), (false, [.ptr]), (true, [.slice, .slice, .slice]), (false, [.slice]), (false, [.int .i64]), (false, [.int .i64])] (((a6, n7, c8), (a9, n10, c11), (a12, n13, c14), ()), (p15, ()), ((a105, n106, c107), (a20, n21, c22), (a23, n24, c25), ()), ((a111, n112, c113), ()), ((↑n112 : Int), ()), ((0 : Int), ()), ()) fun ((((a115 : OA), (n116 : Nat), (c117 : Nat)), ((a118 : OA), (n119 : Nat), (c120 : Nat)), ((a121 : OA), (n122 : Nat), (c123 : Nat)), _), (p124, _), (((a125 : OA), (n126 : Nat), (c127 : Nat)), ((a128 : OA), (n129 : Nat), (c130 : Nat)), ((a131 : OA), (n132 : Nat), (c133 : Nat)), _), (((a134 : OA), (n135 : Nat), (c136 : Nat)), _), ((x137 : Int), _), ((x138 : Int), _), _) again114 =>
 π.ite (decide (x138 < x137)) (π.guard (0 ≤ x138 ∧ x138 < (↑n135 : Int)) <| π.aa a134 fun p139 => π.ld [.str] (p139.add (x138.toNat * 1)) fun ((t140 : BA), _) => π.aa p124 fun p141 => π.ld [.map] (p141.add 6) fun ((m142 : Option Nat), _) => π.look (TypeDesc.string) m142 (.string t140) (.agg #[(.string ⟨#[]⟩), (.string ⟨#[]⟩), (.bool false)]) (true, [.str, .str, .bool]) fun ((t144 : BA), (t145 : BA), (b146 : Bool), _) b143 => π.nw (Obj.cells #[(.string t144), (.string t145), (.bool b146)] 79 (0, 0)) fun r147 => π.app 79 3 40 [(.string ⟨#[]⟩), (.string ⟨#[]⟩), (.bool false)] a128 n129 c130 (Src.sl (some (Addr.mk r147 0 none)) 1) fun a148 n149 c150 => again114 (((a115, n116, c117), (a118, n119, c120), (a121, n122, c123), ()), (p124, ()), ((a125, n126, c127), (a148, n149, c150), (a131, n132, c133), ()), ((a134, n135, c136), ()), (x137, ()), (i64.wrap (x138 + 1), ()), ())) (π.ret (.tuple #[(.agg #[(.slice a125 n126 c127), (.slice a128 n129 c130), (.slice a131 n132 c133)]), (.int .i64 0), (.int .i64 0)])))))
theorem Jm (sv sl : Int) (sa : OA) (san sac : Nat) (b : OA) (bn bc : Nat) (t : TypeId) (x : Value) : OK 19 [.v (.agg #[.int .i64 sv, .int .i64 sl, .slice sa san sac]), .v (.slice b bn bc), .v (.iface t x)] fun _ π => Cw π sv sl sa san sac b bn bc t x :=
 aW { ptr := [(3, 3, 0), (6, 6, 0), (11, 11, 0), (13, 13, 0), (14, 14, 0), (16, 16, 0), (55, 13, 0), (71, 11, 2), (76, 11, 2), (82, 11, 0), (94, 11, 1), (104, 11, 1)], ty := [(3, 43), (6, 70), (11, 70), (13, 127), (14, 139), (16, 135)] } { draws := [(14, { A := [0, 1, 2, 3, 4, 5, 6, 7], eag := [9, 10, 11, 14] }), (23, { A := [0, 1, 2, 3, 4, 5, 6, 7], eag := [10] })], join := [(15, [(6, 70), (9, 143), (10, 1000000), (11, 70), (12, 3), (16, 135), (17, 32), (37, 64), (38, 3), (39, 3)])], loop := [(9, [(6, 70), (9, 143), (10, 1000000), (11, 70), (37, 64), (38, 3), (39, 3)]), (21, [(6, 70), (9, 143), (11, 70), (88, 154), (89, 3), (90, 3)])] } [] Tryz.func19 Tryz.ntmps19 rfl (by kernel_rfl) fun _ π => by kernel_rfl
end
section
attribute [-simp] Fw.W.bC Fw.W.bA
theorem KL (x : BA) (p : bJ) (s : PH) : ah 233 #[.string x, nv p] s fun y s' => y = .bool (gU x p) ∧ s' = s := by
 refine Ku x p.1 p.2 _ s ?_;unfold FZ;rw [EM, tN, tN, bV]
 have e : (bO p.1 x || decide (p.1 = x)) = !bO x p.1 := by
  cases h : bO p.1 x with
  | true => rw [EV h]; (first | done | rfl)
  | false =>
   by_cases g : p.1 = x
   ·rw [g, eU]; simp
   ·cases k : bO x p.1 with
    | true => simp [g]
    | false => exact absurd (rB h k) g
 rw [e];simp only [aO, aE];exact (W.af _ _ _ _).2 ⟨fun h => ⟨by rw [h, Bool.true_and], rfl⟩, fun h => ⟨by rw [h, Bool.false_and], rfl⟩⟩
theorem Gg {s : PH} {a : OA} {n c : Nat} {l : List Ht} (h : Sl bl s (a, n, c) l) (hn : n ≤ 4000000) :
  ah 232 #[.slice a n c] s fun y s' => ∃ a' n' c', y = .slice a' n' c' ∧ Gw bl 75 s s' a' n' c' l := by
 refine E1 a n c _ s ?_;unfold xA;have hlen : n = l.length := h.len;simp only [aO, aE, cj, dg];refine aI (fun e => ?_) fun e => ?_
 ·have e : a = none := by simpa using e
  subst e
  have : l = [] := by
   cases l with
   | nil => rfl
   | cons x l => obtain ⟨ad, _, h1, _⟩ := h.el.2 0 x rfl; cases h1
  subst this;exact ⟨none, 0, 0, rfl, Gw.nil (Mod.refl _ _)⟩
 ·refine mP (k := n) (E := bl) (xs := l) h.el.kX rfl hlen.symm (by omega) (by omega) rfl fun a' c' s' hrow hm hfr => ?_;exact ⟨a', n, c', rfl, hrow, hfr, hm⟩
theorem Gf {s : PH} {a : OA} {n c : Nat} {l : List aY} (h : Sl bz s (a, n, c) l) (hn : n ≤ 4000000) :
  ah 183 #[.slice a n c] s fun y s' => ∃ a' n' c', y = .slice a' n' c' ∧ Gw bz 94 s s' a' n' c' l := by
 refine E0 a n c _ s ?_;unfold xz;have hlen : n = l.length := h.len;simp only [aO, aE, cj, dg];refine aI (fun e => ?_) fun e => ?_
 ·have e : a = none := by simpa using e
  subst e
  have : l = [] := by
   cases l with
   | nil => rfl
   | cons x l => obtain ⟨ad, _, h1, _⟩ := h.el.2 0 x rfl; cases h1
  subst this;exact ⟨none, 0, 0, rfl, Gw.nil (Mod.refl _ _)⟩
 ·refine mP (k := n) (E := bz) (xs := l) h.el.kX rfl hlen.symm (by omega) (by omega) rfl fun a' c' s' hrow hm hfr => ?_;exact ⟨a', n, c', rfl, hrow, hfr, hm⟩
structure iu where
 r : Rw
 u : aP
def lW : cK iu where
 sz := 4
 f q := [.int .i64 q.r.key.kind, .int .i64 q.r.key.n, .string q.r.key.s, .slice q.u.1 q.u.2.1 q.u.2.2]
 len _ := rfl
 one q v hv := by simp at hv; rcases hv with rfl | rfl | rfl | rfl <;> rfl
 pos := by omega
abbrev Ky (r : Rw) (u : aP) : Value := .agg #[.int .i64 r.key.kind, .int .i64 r.key.n, .string r.key.s, .slice u.1 u.2.1 u.2.2]
abbrev xl (r : Rw) (u : aP) : Den [.int .i64, .int .i64, .str, .slice] := (r.key.kind, r.key.n, r.key.s, u, ())
structure fq (s0 s : PH) (a : OA) (n c : Nat) (L : List Rw) (qs : List iu) : Prop where
 gw : Gw lW 234 s0 s a n c qs
 eq : qs.map (·.r) = L
 cs : ∀ q ∈ qs, bp bz s 94 q.u.1 q.u.2.1 q.u.2.2 q.r.cells ∧ ∀ g ∈ Fw.aU q.u.1, s0 g = none
theorem fq.same {s0 s s' : PH} {a : OA} {n c : Nat} {L : List Rw} {qs : List iu} (h : fq s0 s a n c L qs) (hm : Fw.Mod [] s s') : fq s0 s' a n c L qs :=
 ⟨h.gw.same hm, h.eq, fun q hq => ⟨(h.cs q hq).1.mod hm (by simp), (h.cs q hq).2⟩⟩
theorem fq.len {s0 s : PH} {a : OA} {n c : Nat} {L : List Rw} {qs : List iu} (h : fq s0 s a n c L qs) : n = L.length := by rw [← h.eq, List.length_map]; exact h.gw.row.len
theorem gQ {α β : Type} {E : cK α} {E' : cK β} {e e' : TypeId} {s0 s s' : PH} {a b : OA} {n c m d : Nat} {l : List α} {l' : List β} (h : bp E s e a n c l) (hG : Gw E' e' s0 s b m d l') (hne : e ≠ e') (hm : Fw.Mod (Fw.aU b) s s') : bp E s' e a n c l := by
 refine h.mod hm fun g hg hb => ?_;rcases h.shape with ⟨rfl, _⟩ | ⟨g', rfl⟩
 ·simp [Fw.aU] at hg
 ·simp [Fw.aU] at hg; subst hg;obtain ⟨cur, hcur⟩ := h.ty rfl;exact hG.off hcur hne hb
theorem fq.push {s0 s : PH} {a : OA} {n c : Nat} {L : List Rw} {qs : List iu} {r : Rw} {u : aP} {cs : Array Value} {K : OA → Nat → Nat → W.T} (h : fq s0 s a n c L qs) (hu : bp bz s 94 u.1 u.2.1 u.2.2 r.cells) (hf : ∀ g ∈ Fw.aU u.1, s0 g = none)
  (hc : cs.toList = lW.f ⟨r, u⟩) (hl : n + 1 ≤ 4294967296)
  (hK : ∀ a' c' s' qs', fq s0 s' a' (n + 1) c' (L ++ [r]) qs' → K a' (n + 1) c' s') : W.nw (.cells cs 234 (0, 0)) (fun r => W.app 234 4 56 [.int .i64 0, .int .i64 0, .string ⟨#[]⟩, .slice none 0 0] a n c (Src.sl (some ⟨r, 0, none⟩) 1) K) s := by
 refine h.gw.nr [⟨r, u⟩] (k := 1) (by rw [hc]; simp) rfl rfl hl (by omega) fun a' c' s' h1 m1 => hK a' c' s' (qs ++ [⟨r, u⟩]) ⟨h1, by rw [List.map_append, h.eq]; (first | done | rfl), fun q hq => ?_⟩;rcases List.mem_append.1 hq with hq | hq
 ·exact ⟨gQ (h.cs q hq).1 h.gw (by decide) m1, (h.cs q hq).2⟩
 ·simp only [List.mem_singleton] at hq;subst hq;exact ⟨gQ hu h.gw (by decide) m1, hf⟩
def rN (l : List Ht) : Prop := ∀ h ∈ l, h.val.size ≤ 4000000
theorem Bg {T : aG} {h : Ht} (e : gA h.val = none) : ff T h = none := by unfold ff; rw [e]
theorem CV {T : aG} {h : Ht} (e : gA h.val = some []) : ff T h = none := by unfold ff; rw [e]
theorem Bh {T : aG} {h : Ht} {l : List aY} (e : gA h.val = some l) (hne : l ≠ []) : ff T h = some ⟨bh l (eT T), l⟩ := by
 unfold ff; rw [e]
 cases l with
 | nil => exact absurd rfl hne
 | cons c l => rfl
theorem DM {T : aG} {l : List Ht} {k : Nat} {h : Ht} (hk : l[k]? = some h) : iR T (l.take (k + 1)) = iR T (l.take k) ++ (ff T h).toList := by
 unfold iR;rw [List.take_add_one, hk, List.filterMap_append]
 congr 1
theorem tT {s : PH} {p : aC} {a : OA} {n c : Nat} {l : List Ht} (hp : fY s p) (hc : p.T.cols ≠ []) (h : Sl bl s (a, n, c) l) (hn : n ≤ 4000000) (hv : rN l) :
  ah 184 #[dX p.T p.c p.x p.k, .slice a n c] s fun y s' => ∃ a' n' c' qs, y = .slice a' n' c' ∧ fq s s' a' n' c' (iR p.T l) qs := by
 obtain ⟨T, ⟨ca, can, cac⟩, ⟨xa, xan, xac⟩, ⟨ka, kan, kac⟩⟩ := p;refine Bx T.id T.name ca can cac xa xan xac ka kan kac a n c _ s ?_;unfold sq;have hlen : n = l.length := h.len;have hcs := hp.c;dsimp only at hcs hc
 obtain ⟨c0, hc0⟩ : ∃ c0, T.cols[0]? = some c0 := by
  cases hT : T.cols with
  | nil => exact absurd hT hc
  | cons x r => exact ⟨x, rfl⟩
 have hcol0 : eT T = c0.id := by unfold eT; rw [hc0]; (first | done | rfl)
 have hclen : can = T.cols.length := hcs.len
 have hcpos : 0 < can := by rw [hclen]; exact List.length_pos_iff.2 hc
 simp only [aQ, aO, aE, aR, aM, bH, bS, aT, cj, dg, cG]
 refine ⟨fun z s' => ∃ (k : Nat) (b : OA) (m d : Nat) (qs : List iu), z = ((T.id, T.name, (ca, can, cac), (xa, xan, xac), (ka, kan, kac), ()), ((b, m, d), ()), ((a, n, c), ()), ((n : Int), ()), ((k : Int), ()), ()) ∧ k ≤ n ∧ m ≤ k ∧ fq s s' b m d (iR T (l.take k)) qs, fun z _ => n - z.2.2.2.2.1.1.toNat,
  ⟨0, none, 0, 0, [], rfl, Nat.zero_le _, Nat.le_refl _, Gw.nil (Mod.refl _ _), rfl, by simp⟩, ?_⟩
 rintro _ s1 ⟨k, b, m, d, qs, rfl, hk, hm, hG⟩;dsimp only;refine aI (fun e => ?_) fun e => ?_;rotate_left
 ·have e : ¬ (k : Int) < (n : Int) := of_decide_eq_false e;rw [List.take_of_length_le (by omega)] at hG;exact ⟨b, m, d, qs, rfl, hG⟩
 have hlt : (k : Int) < (n : Int) := of_decide_eq_true e
 obtain ⟨x, hx⟩ : ∃ x, l[k]? = some x := ⟨_, List.getElem?_eq_getElem (by omega)⟩
 obtain ⟨ad, had, hh⟩ := (h.el.mono hG.gw.md.le).aA hx;dsimp only at had;subst had;refine bF ⟨by omega, hlt⟩ ?_;simp only [dj, Int.toNat_natCast];have hh : s1.has (ad.add (k * 3)) (bl.f x) := hh;refine az hh (y := mH x) rfl ?_;dsimp only;have htk := DM (T := T) hx;refine W.ak (JZ x.val (hv x (List.mem_of_getElem? hx))) ?_;intro y s2 hq
 have hnext : ∀ {s'' : PH}, fq s s'' b m d (iR T (l.take k)) qs → ff T x = none → ((∃ (k_1 : Nat) (b_1 : OA) (m_1 d_1 : Nat) (qs : List iu), (((T.id, T.name, (ca, can, cac), (xa, xan, xac), (ka, kan, kac), ()), ((b, m, d), ()), ((some ad, n, c), ()), ((n : Int), ()), ((i64.wrap ((k : Int) + 1)), ()), ()) : bR [(true, [.int .i64, .str, .slice, .slice, .slice]), (false, [.slice]), (false, [.slice]), (false, [.int .i64]), (false, [.int .i64])]) =
   ((T.id, T.name, (ca, can, cac), (xa, xan, xac), (ka, kan, kac), ()), ((b_1, m_1, d_1), ()), ((some ad, n, c), ()), ((n : Int), ()), ((k_1 : Int), ()), ()) ∧ k_1 ≤ n ∧ m_1 ≤ k_1 ∧ fq s s'' b_1 m_1 d_1 (iR T (l.take k_1)) qs) ∧ n - (i64.wrap ((k : Int) + 1)).toNat < n - ((k : Int)).toNat) := fun h1 h2 => by
  rw [ai (k := k) (by omega)];refine ⟨⟨k + 1, b, m, d, qs, rfl, by omega, by omega, ?_⟩, by simp only [Int.toNat_natCast]; omega⟩;rw [htk, h2];simpa using h1
 cases hg : gA x.val with
 | none =>
  rw [hg] at hq;obtain ⟨rfl, mq⟩ := hq;refine ⟨(((none, 0, 0), ()), (100, ()), ()), rfl, ?_⟩;dsimp only;refine W.bx (fun z s' => z = ((T.id, T.name, (ca, can, cac), (xa, xan, xac), (ka, kan, kac), ()), ((b, m, d), ()), ((none, 0, 0), ()), ((some ad, n, c), ()), ((n : Int), ()), ((k : Int), ()), (false, ()), ()) ∧ s2 = s') ?_ ?_
  ·rintro _ _ ⟨rfl, rfl⟩;dsimp only;refine (W.af _ _ _ _).2 ⟨fun e => (by cases e), fun _ => hnext (hG.same mq) (Bg hg)⟩
  ·intro J hJ;exact (W.af _ _ _ _).2 ⟨fun e => (by cases e), fun _ => hJ _ _ ⟨rfl, rfl⟩⟩
 | some cs =>
  rw [hg] at hq;obtain ⟨a2, n2, c2, rfl, hV⟩ := hq;have hl2 := hV.row.len;refine ⟨(((a2, n2, c2), ()), (0, ()), ()), rfl, ?_⟩;dsimp only;have hG2 := hG.same hV.md;refine W.bx (fun z s' => z = ((T.id, T.name, (ca, can, cac), (xa, xan, xac), (ka, kan, kac), ()), ((b, m, d), ()), ((a2, n2, c2), ()), ((some ad, n, c), ()), ((n : Int), ()), ((k : Int), ()), (decide ((n2 : Int) > 0), ()), ()) ∧ s2 = s') ?_ ?_
  ·rintro _ _ ⟨rfl, rfl⟩;dsimp only;refine aI (fun e => ?_) fun e => ?_
   ·have e : (n2 : Int) > 0 := of_decide_eq_true e;refine bF ⟨by omega, by omega⟩ ?_;obtain ⟨ac, hac, hhc⟩ := (hcs.el.mono hG2.gw.md.le).aA hc0;dsimp only at hac;subst hac;simp only [dj]
    have hhc : s2.has (ac.add 0) (dD.f c0) := by simpa using hhc
    refine bq (j := 0) hhc (y := (c0.id, ())) rfl ?_
    have hne : cs ≠ [] := by rintro rfl; simp at hl2; omega
    have hdr := Bh (T := T) hg hne;rw [hcol0] at hdr
    refine aH (bM (bh cs c0.id), ()) (lf (Sl.bE hV.row (by
     have hb := nh hg
     have : (cs.flatMap cW).length = x.val.size := by rw [hb.1, cE]
     have h3 : cs.length ≤ (cs.flatMap cW).length := by
      clear hb this hne hdr hl2 hV hg
      induction cs with
      | nil => simp
      | cons c cs ih => rw [List.flatMap_cons, List.length_append, List.length_cons]; have : 0 < (cW c).length := by unfold cW; simp
                        omega
     have := hv x (List.mem_of_getElem? hx)
     omega)) c0.id) rfl ?_
    dsimp only;refine hG2.push (r := ⟨bh cs c0.id, cs⟩) (u := (a2, n2, c2)) hV.row (fun g hg => hG.gw.md.none (hV.fr g hg) (by simp)) rfl (by omega) fun a3 c3 s3 qs3 h3 => ?_;rw [ai (k := k) (by omega)];refine ⟨⟨k + 1, a3, m + 1, c3, qs3, rfl, by omega, by omega, ?_⟩, by simp only [Int.toNat_natCast]; omega⟩;rw [htk, hdr]; exact h3
   ·have e : ¬ (n2 : Int) > 0 := of_decide_eq_false e;have : cs = [] := List.eq_nil_of_length_eq_zero (by omega);subst this;exact hnext hG2 (CV hg)
  ·intro J hJ;exact (W.af _ _ _ _).2 ⟨fun _ => hJ _ _ ⟨rfl, rfl⟩, fun e => (by cases e)⟩
end
section
attribute [-simp] Fw.W.bC Fw.W.bA
def jq (l : List aY) : Prop := l.Pairwise fun a b => a.id < b.id
def CE (l : List aY) : Prop := ∀ c ∈ l, 1 ≤ c.id ∧ c.id ≤ 9223372036854775807
def dw (l : List aY) (k : Int) : Nat := (l.takeWhile fun c => decide (c.id < k)).length
theorem zn (l : List aY) (k : Int) : dw l k ≤ l.length := by
 unfold dw;have := congrArg List.length (List.takeWhile_append_dropWhile (p := fun c : aY => decide (c.id < k)) (l := l));rw [List.length_append] at this; omega
theorem oT (l : List aY) (k : Int) : l.takeWhile (fun c => decide (c.id < k)) = l.take (dw l k) ∧ l.dropWhile (fun c => decide (c.id < k)) = l.drop (dw l k) := by
 unfold dw
 constructor
 ·induction l with
  | nil => rfl
  | cons c l ih =>
   by_cases h : c.id < k
   ·rw [List.takeWhile_cons_of_pos (by simpa using h)]; simp [← ih]
   ·rw [List.takeWhile_cons_of_neg (by simpa using h)]; (first | done | rfl)
 ·induction l with
  | nil => rfl
  | cons c l ih =>
   by_cases h : c.id < k
   ·rw [List.takeWhile_cons_of_pos (by simpa using h), List.dropWhile_cons_of_pos (by simpa using h)]; simpa using ih
   ·rw [List.takeWhile_cons_of_neg (by simpa using h), List.dropWhile_cons_of_neg (by simpa using h)]; (first | done | rfl)
theorem oS {l : List aY} (h : jq l) (k : Int) : ∀ i c, l[i]? = some c → (i < dw l k ↔ c.id < k) := by
 unfold dw
 induction l with
 | nil => intro i c hc; simp at hc
 | cons b l ih =>
  have h2 := List.pairwise_cons.1 h;intro i c hc
  by_cases hb : b.id < k
  ·rw [List.takeWhile_cons_of_pos (by simpa using hb)]
   cases i with
   | zero => simp at hc; subst hc; simp [hb]
   | succ i => have := ih h2.2 i c (by simpa using hc); simp only [List.length_cons]; rw [← this]; omega
  ·rw [List.takeWhile_cons_of_neg (by simpa using hb)]
   cases i with
   | zero => simp at hc; subst hc; simp [hb]
   | succ i =>
    have := h2.1 c (List.mem_of_getElem? (by simpa using hc));simp; omega
theorem zH {l : List aY} (h : jq l) (k : Int) : gZ l k = ((l[dw l k]?).map fun c => c.id == k).getD false := by
 cases hc : l[dw l k]? with
 | none =>
  have hlen := List.getElem?_eq_none_iff.1 hc;simp only [Option.map_none, Option.getD_none];unfold gZ;rw [List.any_eq_false];intro c hm;obtain ⟨i, hi⟩ := List.mem_iff_getElem?.1 hm;have hil := (List.getElem?_eq_some_iff.1 hi).1;have := (oS h k i c hi).1 (by omega);simp; omega
 | some c =>
  have hlen := (List.getElem?_eq_some_iff.1 hc).1
  have hge : ¬ c.id < k := fun g => by have := (oS h k _ c hc).2 g; omega
  simp only [Option.map_some, Option.getD_some]
  by_cases hk : c.id = k
  ·have h1 : gZ l k = true := by
    unfold gZ; rw [List.any_eq_true]; exact ⟨c, List.mem_of_getElem? hc, by simp [hk]⟩
   rw [h1]; simp [hk]
  ·have h1 : gZ l k = false := by
    unfold gZ;rw [List.any_eq_false];intro d hm;obtain ⟨i, hi⟩ := List.mem_iff_getElem?.1 hm;have hil := (List.getElem?_eq_some_iff.1 hi).1;rcases Nat.lt_trichotomy i (dw l k) with g | g | g
    ·have := (oS h k i d hi).1 g; simp; omega
    ·subst g; rw [hc] at hi; cases hi; simpa using hk
    ·have := List.pairwise_iff_getElem.1 h (dw l k) i hlen hil g;have e1 := (List.getElem?_eq_some_iff.1 hc).2;have e2 := (List.getElem?_eq_some_iff.1 hi).2;rw [e1, e2] at this;simp; omega
   rw [h1]; simp [hk]
theorem Cb {l : List aY} (h : jq l) {k : Int} (v : aK) (e : gZ l k = true) : ∃ c, l[dw l k]? = some c ∧ c.id = k ∧ gR l k v = l.set (dw l k) ⟨k, v⟩ := by
 rw [zH h] at e
 cases hc : l[dw l k]? with
 | none => rw [hc] at e; simp at e
 | some c =>
  rw [hc] at e;simp at e;refine ⟨c, rfl, e, ?_⟩;unfold gR;rw [(oT l k).1, (oT l k).2, ct hc];simp only [if_pos e];rw [List.set_eq_take_append_cons_drop, if_pos (List.getElem?_eq_some_iff.1 hc).1];simp
theorem FI {l : List aY} (h : jq l) {k : Int} (v : aK) (e : gZ l k = false) : gR l k v = l.take (dw l k) ++ [⟨k, v⟩] ++ l.drop (dw l k) := by
 rw [zH h] at e;unfold gR;rw [(oT l k).1, (oT l k).2]
 cases hc : l[dw l k]? with
 | none =>
  rw [List.drop_of_length_le (List.getElem?_eq_none_iff.1 hc)]
 | some c =>
  rw [hc] at e;simp at e;rw [ct hc];simp only [if_neg e]
abbrev J5 (c : aY) : Value := .agg #[.int .i64 c.id, .int .i64 c.v.kind, .int .i64 c.v.n, .string c.v.s]
theorem BR (c : aY) (k : Int) (h1 : 1 ≤ c.id) (h2 : c.id ≤ 9223372036854775807) (h3 : 1 ≤ k) (h4 : k ≤ 9223372036854775807) (s : PH) : ah 182 #[J5 c, .int .i64 k] s fun y s' => y = .int .i64 (c.id - k) ∧ s' = s := by
 refine Hs c.id c.v.kind c.v.n c.v.s k _ s ?_;unfold A9;rw [cq (by omega) (by omega)];exact ⟨rfl, rfl⟩
theorem Ec {s : PH} {a : OA} {n c : Nat} {l : List aY} (h : Sl bz s (a, n, c) l) (hs : jq l) (hi : CE l) (hn : n ≤ 4000000) {k : Int} (h3 : 1 ≤ k) (h4 : k ≤ 9223372036854775807) :
  ah 156 #[.slice a n c, .int .i64 k, .func (.func 182) #[] #[]] s fun y s' => y = .tuple #[.int .i64 (dw l k : Nat), .bool (gZ l k)] ∧ s' = s := by
 refine De a n c k _ s ?_;unfold uQ
 obtain ⟨R, hR⟩ : ∃ R : Value → PH → Prop, (fun y s' => y = .tuple #[.int .i64 (dw l k : Nat), .bool (gZ l k)] ∧ s' = s) = R := ⟨_, rfl⟩
 rw [hR];have hlen : n = l.length := h.len;have hcl := zn l k
 have hat : ∀ {i : Nat}, i < n → ∃ x ad, l[i]? = some x ∧ a = some ad ∧ s.has (ad.add (i * 4)) (bz.f x) ∧ 1 ≤ x.id ∧ x.id ≤ 9223372036854775807 := fun {i} hi2 => by
  obtain ⟨x, hx⟩ : ∃ x, l[i]? = some x := ⟨_, List.getElem?_eq_getElem (by omega)⟩
  obtain ⟨ad, had, hh⟩ := h.el.aA hx;exact ⟨x, ad, hx, had, hh, (hi x (List.mem_of_getElem? hx)).1, (hi x (List.mem_of_getElem? hx)).2⟩
 simp only [aQ, aO, aE, aR, aM, bH, aT];refine ⟨fun z s' => ∃ i j : Nat, z = (((n : Int), ()), ((i : Int), ()), ((j : Int), ()), ()) ∧ i ≤ dw l k ∧ dw l k ≤ j ∧ j ≤ n ∧ s = s', fun z _ => z.2.2.1.1.toNat - z.2.1.1.toNat, ⟨0, n, rfl, Nat.zero_le _, by omega, Nat.le_refl _, rfl⟩, ?_⟩;rintro _ _ ⟨i, j, rfl, g1, g2, g3, rfl⟩;dsimp only
 have hmid : i64.wrap ((u64.wrap (i64.wrap ((i : Int) + (j : Int)))).fdiv 2) = (((i + j) / 2 : Nat) : Int) := by
  rw [cq (n := (i : Int) + (j : Int)) (by omega) (by omega), su, Int.fdiv_eq_ediv_of_nonneg _ (by omega), cq (by omega) (by omega)]; omega
 rw [hmid];refine aI (fun e => ?_) fun e => ?_
 ·have e : (i : Int) < (j : Int) := of_decide_eq_true e;obtain ⟨x, ad, hx, rfl, hh, b1, b2⟩ := hat (i := (i + j) / 2) (by omega);refine bF ⟨by omega, by omega⟩ ?_;simp only [dj, Int.toNat_natCast];refine az hh (y := zj x) rfl ?_;refine aH ((x.id - k, ()), ()) (BR x k b1 b2 h3 h4 s) rfl ?_;have hsp := oS hs k _ x hx;rw [ai (k := (i + j) / 2) (by omega)];refine aI (fun e2 => ?_) fun e2 => ?_
  ·have e2 : x.id - k < 0 := of_decide_eq_true e2;have := hsp.2 (by omega);exact ⟨⟨(i + j) / 2 + 1, j, rfl, by omega, g2, g3, rfl⟩, by simp only [Int.toNat_natCast]; omega⟩
  ·have e2 : ¬ x.id - k < 0 := of_decide_eq_false e2;have : ¬ (i + j) / 2 < dw l k := fun g => e2 (by have := hsp.1 g; omega);exact ⟨⟨i, (i + j) / 2, rfl, g1, by omega, by omega, rfl⟩, by (try simp only [Int.toNat_natCast]); omega⟩
 ·have e : ¬ (i : Int) < (j : Int) := of_decide_eq_false e
  have hik : i = dw l k := by omega
  subst hik;have hha := zH hs k;refine aI (fun e2 => ?_) fun e2 => ?_
  ·have e2 : ((dw l k : Nat) : Int) < (n : Int) := of_decide_eq_true e2;obtain ⟨x, ad, hx, rfl, hh, b1, b2⟩ := hat (i := dw l k) (by omega);refine bF ⟨by omega, by omega⟩ ?_;simp only [dj, Int.toNat_natCast];refine az hh (y := zj x) rfl ?_;refine aH ((x.id - k, ()), ()) (BR x k b1 b2 h3 h4 s) rfl ?_;rw [← hR];refine ⟨?_, rfl⟩;rw [hha, hx]
   show Value.tuple #[_, .bool (x.id - k == 0)] = Value.tuple #[_, .bool (x.id == k)]
   congr 4
   by_cases hq : x.id = k
   ·simp [hq]
   ·have : ¬ x.id - k = 0 := by omega
    rw [beq_eq_false_iff_ne.2 this, beq_eq_false_iff_ne.2 hq]
  ·have e2 : ¬ ((dw l k : Nat) : Int) < (n : Int) := of_decide_eq_false e2;rw [← hR];refine ⟨?_, rfl⟩;rw [hha, List.getElem?_eq_none (by omega)]; (first | done | rfl)
theorem tX {s : PH} {g off sz n m : Nat} {cur : Array Value} {e : TypeId} {src : OA} {news : List Value} {K : Nat → W.T} (h : s g = some (.cells cur e (0, 0))) (hsrc : eF s sz (.sl src (Nat.min m n)) news) (h1 : ∀ v ∈ news, v.oneCell' = true) (hne : news ≠ []) (hsz : off + news.length ≤ cur.size)
  (hK : ∀ s', s' = s.aS g (.cells (gh cur off news) e (0, 0)) → K (Nat.min m n) s') : W.lV sz (some ⟨g, off, none⟩) n src m K s := by
 refine ⟨news, hsrc, h1, ?_⟩;have hlen : 0 < news.length := List.length_pos_iff.2 hne;refine ⟨(tg (a := ⟨g, off, none⟩) h hlen).2 ⟨rfl, hsz, by simp [zE]⟩, ?_⟩;rw [PH.jU (a := ⟨g, off, none⟩) rfl news 0 cur s h hne];exact hK _ (by simp)
theorem Jy {s : PH} {g h : Nat} {cg ch : Array Value} {e e' : TypeId} (hg : s g = some (.cells cg e (0, 0))) (hh : s h = some (.cells ch e' (0, 0))) (hne : g ≠ h) (hc : ch.size ≠ 0) {off la ca lb cb : Nat} (w : World) (hw : Sub s w) :
  (callFunc 217 #[.slice (some ⟨g, 0, none⟩) la ca, .slice (some ⟨h, off, none⟩) lb cb]).run Tryz.prog w = .ok (.value (.bool false)) w := by
 have h1 : w.shape? g = some (e, cg.size) := by unfold World.shape?; rw [hw _ _ hg]
 have h2 : w.shape? h = some (e', ch.size) := by unfold World.shape?; rw [hw _ _ hh]
 have h3 : ∀ o, w.frozen? ⟨g, o, none⟩ = false := fun o => by unfold World.frozen?; dsimp only; rw [hw _ _ hg]; simp
 rw [run_callFunc_extern Tryz.func217 (by kernel_rfl) (by kernel_rfl) (by kernel_rfl) (e := Extern.SlicesOverlaps.overlaps #[95, 95] #[4]) (by kernel_rfl)];rw [Lib.run_overlaps_apart w 95 4 94 (by kernel_rfl) 4 Tryz.sizeOf94 ⟨g, 0, none⟩ ⟨h, off, none⟩ la ca lb cb hne e e' _ _ h1 h2 hc (h3 0) (h3 _)]
 first | done | rfl
theorem xZ (m : Nat) : (Builtin.zeroCells #[.int .i64 0, .int .i64 0, .int .i64 0, .string ⟨#[]⟩] m).toList.length = m * 4 := by
 simp [Builtin.zeroCells]
theorem JD (m : Nat) : ∀ v ∈ (Builtin.zeroCells #[.int .i64 0, .int .i64 0, .int .i64 0, .string ⟨#[]⟩] m).toList, v.oneCell' = true := by
 intro v hv;simp only [Builtin.zeroCells, Array.toList_map, List.mem_map] at hv;obtain ⟨i, hi, rfl⟩ := hv
 have : i % 4 = 0 ∨ i % 4 = 1 ∨ i % 4 = 2 ∨ i % 4 = 3 := by omega
 show (#[Value.int .i64 0, .int .i64 0, .int .i64 0, .string ⟨#[]⟩][i % 4]!).oneCell' = true
 rcases this with e | e | e | e <;> rw [e] <;> rfl
theorem FQ (l : List aY) (i : Nat) : ((l.flatMap bz.f).take (i * 4)) = (l.take i).flatMap bz.f := ng (E := bz) l i
theorem wP (l : List aY) (i : Nat) : ((l.flatMap bz.f).drop (i * 4)) = (l.drop i).flatMap bz.f := qv (E := bz) l i
theorem cJ (l : List aY) : (l.flatMap bz.f).length = l.length * 4 := dV (E := bz) l
set_option maxHeartbeats 8000000 in
theorem Ee {s0 s : PH} {a : OA} {n c r : Nat} {l : List aY} {x : aY} {i : Nat} (h : Gw bz 94 s0 s a n c l) (hr : s r = some (.cells #[.int .i64 x.id, .int .i64 x.v.kind, .int .i64 x.v.n, .string x.v.s] 94 (0, 0))) (hra : r ∉ Fw.aU a) (hi : i ≤ n) (hn : n ≤ 4000000) :
  ah 159 #[.slice a n c, .int .i64 (i : Nat), .slice (some ⟨r, 0, none⟩) 1 1] s fun y s' => ∃ a' c', y = .slice a' (n + 1) c' ∧ Gw bz 94 s0 s' a' (n + 1) c' (l.take i ++ [x] ++ l.drop i) := by
 refine Dg a n c i (some ⟨r, 0, none⟩) 1 1 _ s ?_;unfold uS;have hlen := h.row.len;have hle := h.row.le;have hmax : c ≤ 9223372036854775807 := h.row.max
 have hsrc : ∀ {s' : PH}, s' r = s r → eF s' 4 (.sl (some ⟨r, 0, none⟩) 1) (bz.f x) := fun {s'} e => ⟨rfl, jP (e.trans hr)⟩
 have hx1 : ∀ v ∈ bz.f x, v.oneCell' = true := bz.one x;have hsn := HY;simp only [aO, aE, aR, dg, JI, KH, aT];refine bF ⟨by omega, by omega, by omega⟩ ?_;refine (W.af _ _ _ _).2 ⟨fun e => (by exact absurd e (by decide)), fun _ => ?_⟩;refine aI (fun e => ?_) fun e => ?_
 ·have e : (i : Int) = (n : Int) := eq_of_beq e
  have e : i = n := by omega
  subst e;have hmx : maxLen = 9223372036854775807 := rfl;refine iU (E := bz) (k := 1) (ys := [x]) h.row rfl (by have := hsrc (s' := s) rfl; rw [List.flatMap_cons, List.flatMap_nil, List.append_nil]; exact this) rfl rfl (by omega) (by omega) ?_;intro a' c' s' h' hm;refine ⟨a', c', rfl, ?_, ?_, ?_⟩
  ·rw [List.take_of_length_le (by omega), List.drop_of_length_le (by omega), List.append_nil]; exact h'
  ·rcases hm with ⟨rfl, _⟩ | ⟨g, rfl, hg, _⟩
   ·exact h.fr
   ·intro g' hg'
    have : g' = g := by simpa [Fw.aU] using hg'
    subst this;exact h.md.none hg (by simp)
  ·rcases hm with ⟨rfl, hm⟩ | ⟨g, rfl, hg, hm⟩
   ·exact h.md.fresh hm fun g hg => .inr (h.fr g hg)
   ·exact h.md.trans hm
 have hin : i < n := by
  have : ¬ (i : Int) = (n : Int) := by simpa using e
  omega
 obtain ⟨g, cur, rfl, hg, hcc, ht⟩ : ∃ g cur, a = some ⟨g, 0, none⟩ ∧ s g = some (.cells cur 94 (0, 0)) ∧ c * 4 ≤ cur.size ∧ cur.toList.take (n * 4) = l.flatMap bz.f := by
  obtain ⟨_, _, _, ⟨rfl, _, rfl⟩ | ⟨g, cur, e1, e2, e3, e4⟩⟩ := h.row
  ·omega
  ·exact ⟨g, cur, e1, e2, e3, e4⟩
 have hgr : g ≠ r := fun e => hra (by simp [Fw.aU, e]);have hg0 : s0 g = none := h.fr g (by simp [Fw.aU]);have hfl := cJ l
 have hw1 : i64.wrap ((n : Int) + (1 : Nat)) = ((n + 1 : Nat) : Int) := by rw [cq (by omega) (by omega)]; omega
 have hw2 : i64.wrap ((i : Int) + (1 : Nat)) = ((i + 1 : Nat) : Int) := by rw [cq (by omega) (by omega)]; omega
 have hw3 : i64.wrap (((n + 1 : Nat) : Int) - (i : Int)) = ((n + 1 - i : Nat) : Int) := by rw [cq (by omega) (by omega)]; omega
 have hc0 : ¬ c = 0 := by omega
 rw [hw1, hw2, hw3];simp only [Int.toNat_natCast, Nat.sub_zero, if_neg hc0, Option.map_some, bf, Nat.zero_add, Nat.add_zero]
 have htl : cur.toList.take (i * 4) = (l.take i).flatMap bz.f := by
  rw [← FQ, ← ht, List.take_take, Nat.min_eq_left (by omega)]
 refine aI (fun e2 => ?_) fun e2 => ?_
 ·-- there is no room
  have e2 : ((n + 1 : Nat) : Int) > (c : Int) := of_decide_eq_true e2
  have hcn : c = n := by omega
  refine bF ⟨by omega, by omega, by omega⟩ ?_;have hz := xZ (n + 1 - i);have hold : eF s 4 (.sl (some ⟨g, 0, none⟩) i) ((l.take i).flatMap bz.f) := h.row.HL hi;have hmx : maxLen = 9223372036854775807 := rfl;refine ⟨(l.take i).flatMap bz.f, (Builtin.zeroCells #[.int .i64 0, .int .i64 0, .int .i64 0, .string ⟨#[]⟩] (n + 1 - i)).toList, hold, ⟨by omega, by omega, by simp⟩, JD _, by simp only [Src.len, Int.toNat_natCast]; omega, by simp only [Src.len, Int.toNat_natCast]; omega, fun hx => ?_, fun hx => ?_⟩
  ·simp only [Src.len, Int.toNat_natCast] at hx; omega
  simp only [Src.len, Int.toNat_natCast];rw [show i + (n + 1 - i) = n + 1 by omega];intro b' c' hb hle2 hmx2
  obtain ⟨CUR, hCUR⟩ : ∃ CUR, ((l.take i).flatMap bz.f).toArray ++ (Builtin.zeroCells #[.int .i64 0, .int .i64 0, .int .i64 0, .string ⟨#[]⟩] (n + 1 - i)).toList.toArray ++ Builtin.zeroCells [Value.int .i64 0, .int .i64 0, .int .i64 0, .string ⟨#[]⟩].toArray (c' - (n + 1)) = CUR := ⟨_, rfl⟩
  rw [hCUR]
  have hCs : CUR.size = c' * 4 := by
   have h1 := xZ (c' - (n + 1));rw [← hCUR];simp only [Array.size_append, List.size_toArray];rw [cJ, hz, List.length_take];rw [Array.length_toList] at h1
   show min i l.length * 4 + (n + 1 - i) * 4 + (Builtin.zeroCells #[Value.int .i64 0, .int .i64 0, .int .i64 0, .string ⟨#[]⟩] (c' - (n + 1))).size = c' * 4
   rw [h1]; omega
  have hCt : CUR.toList.take (i * 4) = (l.take i).flatMap bz.f := by
   rw [← hCUR];simp only [Array.toList_append, List.append_assoc];rw [List.take_append_of_le_length (by rw [cJ, List.length_take]; omega), List.take_of_length_le (by rw [cJ, List.length_take]; omega)]
  have hbr : b' ≠ r := fun e => by rw [e, hr] at hb; cases hb
  have hbg : b' ≠ g := fun e => by rw [e, hg] at hb; cases hb
  have k1 : (s.aS b' (.cells CUR 94 (0, 0))) b' = some (.cells CUR 94 (0, 0)) := PH.bB _ _ _;refine bF ⟨by omega, by omega, by omega⟩ ?_;simp only [if_neg (show ¬ c' = i by omega), if_neg (show ¬ c' = i + 1 by omega), if_neg (show ¬ c = i by omega), Option.map_some, bf, Nat.zero_add];refine tX (m := 1) (n := n + 1 - i) k1 (news := bz.f x) ?_ hx1 (by simp [bz]) (by show i * 4 + 4 ≤ CUR.size; omega) ?_
  ·rw [show Nat.min 1 (n + 1 - i) = 1 from Nat.min_eq_left (by omega)];exact hsrc (PH.bG _ _ hbr.symm)
  intro s2 hs2
  have k2 : s2 b' = some (.cells (gh CUR (i * 4) (bz.f x)) 94 (0, 0)) := by rw [hs2, PH.bB]
  have hg2 : s2 g = s g := by rw [hs2, PH.bG _ _ hbg.symm, PH.bG _ _ hbg.symm]
  refine (W.aZ _ _ _).2 ⟨⟨by omega, by omega, by omega⟩, bF ⟨by omega, by omega, by omega⟩ ?_⟩;refine tX (m := n - i) (n := n + 1 - (i + 1)) k2 (news := (l.drop i).flatMap bz.f) ?_ (sQ (E := bz) _) ?_ ?_ ?_
  ·rw [show Nat.min (n - i) (n + 1 - (i + 1)) = n - i from Nat.min_eq_left (by omega)];refine ⟨by rw [cJ, List.length_drop, hlen], ?_⟩;intro j v hv;rw [je (hg2.trans hg) rfl];rw [← wP, ← ht] at hv;rw [List.getElem?_drop, List.getElem?_take] at hv
   split at hv
   ·simpa using hv
   ·cases hv
  ·rw [← List.length_pos_iff, cJ, List.length_drop]; omega
  ·rw [eJ, hCs, cJ, List.length_drop]; omega
  intro s3 hs3
  have k3 : s3 b' = some (.cells (gh (gh CUR (i * 4) (bz.f x)) ((i + 1) * 4) ((l.drop i).flatMap bz.f)) 94 (0, 0)) := by rw [hs3, PH.bB]
  have h0b : s0 b' = none := h.md.none hb (by simp);refine ⟨some ⟨b', 0, none⟩, c', rfl, ⟨?_, by omega, hmx2, .inr ⟨b', _, rfl, k3, by rw [eJ, eJ, hCs]; exact Nat.le_refl _, ?_⟩⟩, by simp [Fw.aU, h0b], ?_⟩
  ·show _ = (n + 1) * 4
   rw [cJ]; simp only [List.length_append, List.length_take, List.length_drop, List.length_cons, List.length_nil]; omega
  ·have hxl : (bz.f x).length = 4 := rfl;rw [fQ _ _ _ (by rw [eJ, hCs, cJ, List.length_drop]; omega), fQ _ _ _ (by rw [hxl, hCs]; omega)]
   have hA : (CUR.toList.take (i * 4) ++ bz.f x ++ CUR.toList.drop (i * 4 + (bz.f x).length)).take ((i + 1) * 4) = CUR.toList.take (i * 4) ++ bz.f x := by
    rw [List.take_append_of_le_length (by rw [List.length_append, List.length_take, Array.length_toList, hCs, hxl]; omega), List.take_of_length_le (by rw [List.length_append, List.length_take, Array.length_toList, hCs, hxl]; omega)]
   rw [hA, hCt];rw [List.take_append_of_le_length (by simp only [List.length_append, cJ, hxl, List.length_take, List.length_drop]; show (n + 1) * 4 ≤ _; omega), List.take_of_length_le (by simp only [List.length_append, cJ, hxl, List.length_take, List.length_drop]; show _ ≤ (n + 1) * 4; omega)];simp
  ·rw [hs3, hs2];exact ((h.md.bT (.inr h0b)).bT (.inr h0b)).bT (.inr h0b)
 ·-- there is room
  have e2 : ¬ ((n + 1 : Nat) : Int) > (c : Int) := of_decide_eq_false e2;refine (W.aZ _ _ _).2 ⟨⟨by omega, by omega, by omega⟩, bF ⟨by omega, by omega, by omega⟩ ?_⟩
  have hci : ¬ c = i + 1 := by omega
  have hci2 : ¬ c = i := by omega
  simp only [if_neg hci, if_neg hci2];refine ⟨((false, ()), ()), fun w hw => Jy hr hg hgr.symm (by omega) w hw, ?_⟩;dsimp only;refine (W.af _ _ _ _).2 ⟨fun _ => ?_, fun e => absurd e (by decide)⟩;refine (W.aZ _ _ _).2 ⟨⟨by omega, by omega, by omega⟩, bF ⟨by omega, by omega, by omega⟩ ?_⟩;refine tX (m := n + 1 - i) (n := n + 1 - (i + 1)) hg (news := (l.drop i).flatMap bz.f) ?_ (sQ (E := bz) _) ?_ ?_ ?_
  ·rw [show Nat.min (n + 1 - i) (n + 1 - (i + 1)) = n - i from (Nat.min_eq_right (by omega)).trans (by omega)];refine ⟨by rw [cJ, List.length_drop, hlen], ?_⟩;intro j v hv;rw [je hg rfl];rw [← wP, ← ht] at hv;rw [List.getElem?_drop, List.getElem?_take] at hv
   split at hv
   ·simpa using hv
   ·cases hv
  ·rw [← List.length_pos_iff, cJ, List.length_drop]; omega
  ·rw [cJ, List.length_drop]; omega
  intro s2 hs2
  have k2 : s2 g = some (.cells (gh cur ((i + 1) * 4) ((l.drop i).flatMap bz.f)) 94 (0, 0)) := by rw [hs2, PH.bB]
  refine bF ⟨by omega, by omega, by omega⟩ ?_;refine tX (m := 1) (n := n + 1 - i) k2 (news := bz.f x) ?_ hx1 (by simp [bz]) (by rw [eJ]; show i * 4 + 4 ≤ cur.size; omega) ?_
  ·rw [show Nat.min 1 (n + 1 - i) = 1 from Nat.min_eq_left (by omega)];exact hsrc (by rw [hs2, PH.bG _ _ hgr.symm])
  intro s3 hs3
  have k3 : s3 g = some (.cells (gh (gh cur ((i + 1) * 4) ((l.drop i).flatMap bz.f)) (i * 4) (bz.f x)) 94 (0, 0)) := by rw [hs3, PH.bB]
  have hxl : (bz.f x).length = 4 := rfl;refine ⟨some ⟨g, 0, none⟩, c, rfl, ⟨?_, by omega, hmax, .inr ⟨g, _, rfl, k3, by rw [eJ, eJ]; exact hcc, ?_⟩⟩, by simp [Fw.aU, hg0], ?_⟩
  ·show _ = (n + 1) * 4
   rw [cJ]; simp only [List.length_append, List.length_take, List.length_drop, List.length_cons, List.length_nil]; omega
  ·rw [fQ _ _ _ (by rw [eJ, hxl]; omega), fQ _ _ _ (by rw [cJ, List.length_drop]; omega)]
   have hA : (cur.toList.take ((i + 1) * 4) ++ (l.drop i).flatMap bz.f ++ cur.toList.drop ((i + 1) * 4 + ((l.drop i).flatMap bz.f).length)).take (i * 4) = (l.take i).flatMap bz.f := by
    rw [List.append_assoc, List.take_append_of_le_length (by rw [List.length_take, Array.length_toList]; omega), List.take_take, Nat.min_eq_left (by omega), htl]
   have hB : (cur.toList.take ((i + 1) * 4) ++ (l.drop i).flatMap bz.f ++ cur.toList.drop ((i + 1) * 4 + ((l.drop i).flatMap bz.f).length)).drop (i * 4 + (bz.f x).length) = (l.drop i).flatMap bz.f ++ cur.toList.drop ((i + 1) * 4 + ((l.drop i).flatMap bz.f).length) := by
    have hlt : (cur.toList.take ((i + 1) * 4)).length = i * 4 + (bz.f x).length := by rw [List.length_take, Array.length_toList, hxl]; omega
    rw [List.append_assoc, ← hlt, List.drop_append_of_le_length (Nat.le_refl _), List.drop_length, List.nil_append]
   rw [hA, hB, ← List.append_assoc];rw [List.take_append_of_le_length (by simp only [List.length_append, cJ, hxl, List.length_take, List.length_drop]; show (n + 1) * 4 ≤ _; omega), List.take_of_length_le (by simp only [List.length_append, cJ, hxl, List.length_take, List.length_drop]; show _ ≤ (n + 1) * 4; omega)];simp
  ·rw [hs3, hs2];exact (h.md.bT (.inr hg0)).bT (.inr hg0)
theorem BC (l : List aY) (hs : jq l) (k : Int) (v : aK) : (gR l k v).length = if gZ l k = true then l.length else l.length + 1 := by
 cases e : gZ l k with
 | true =>
  obtain ⟨c, h1, h2, h3⟩ := Cb hs v e;rw [h3]; simp
 | false =>
  have := zn l k;rw [FI hs v e];simp only [List.length_append, List.length_take, List.length_drop, List.length_cons, List.length_nil, Bool.false_eq_true, if_false]; omega
theorem tU {s : PH} {a : OA} {n c : Nat} {l : List aY} (h : Sl bz s (a, n, c) l) (hs : jq l) (hi : CE l) (hn : n ≤ 4000000) {k : Int} (h3 : 1 ≤ k) (h4 : k ≤ 9223372036854775807) (v : aK) :
  ah 120 #[.slice a n c, .int .i64 k, fm v] s fun y s' => ∃ a' n' c', y = .slice a' n' c' ∧ Gw bz 94 s s' a' n' c' (gR l k v) := by
 refine Jq a n c k v.kind v.n v.s _ s ?_;unfold CA;have hlen : n = l.length := h.len;simp only [aO, aE, aR, aM, gX, aT, cj];refine aH ((((dw l k : Nat) : Int), ()), (gZ l k, ()), ()) (Ec h hs hi hn h3 h4) rfl ?_;refine W.ak (Gf h hn) ?_;rintro _ s1 ⟨a1, n1, c1, rfl, hG⟩;refine ⟨((((a1, n1, c1), ()), ())), rfl, ?_⟩;have hn1 := hG.row.len;have hcl := zn l k;dsimp only;refine aI (fun e => ?_) fun e => ?_
 ·obtain ⟨x, hx, hxk, hset⟩ := Cb hs v e;have hxl := (List.getElem?_eq_some_iff.1 hx).1;obtain ⟨g, rfl, hh⟩ := hG.row.at hx;refine bF ⟨by omega, by omega⟩ ?_;simp only [dj, Int.toNat_natCast, bf, Nat.zero_add];rw [hset];refine bp.st hG.row hx (j := 1) (x' := ⟨k, v⟩) (by rw [← hxk]; (first | done | rfl)) (by show 1 + 3 ≤ 4; omega) (by simp) (by intro w hw; simp at hw; rcases hw with rfl | rfl | rfl <;> rfl) rfl fun s2 h2 m2 => ?_;have hg0 : s g = none := hG.fr g (by simp [Fw.aU]);exact ⟨some ⟨g, 0, none⟩, n1, c1, rfl, h2, by simp [Fw.aU, hg0], hG.md.fresh m2 (by simp [hg0])⟩
 ·refine W.bK fun r s2 hr m2 k2 => ?_;rw [FI hs v e];have hG2 := hG.same m2;refine W.ak (Ee (x := ⟨k, v⟩) hG2 k2 (fun hb => ?_) (by omega) (by omega)) ?_
  ·exact hG.row.known r hb hr
  ·rintro _ s3 ⟨a3, c3, rfl, h3⟩;exact ⟨((((a3, n1 + 1, c3), ()), ())), rfl, a3, n1 + 1, c3, rfl, h3⟩
theorem IT {s : PH} {p : Nat} {k : Int} (c : aY) (hp : s p = some (.cells #[.int .i64 k] 3 (0, 0))) : ah 196 #[J5 c, cp p] s fun y s' => y = .bool (c.id == k) ∧ s' = s := by
 refine Hp c.id c.v.kind c.v.n c.v.s p _ s ?_;unfold A6;simp only [aM, bH, aE, dj, bf, Nat.zero_add];refine (W.aB hp _ _ _ _).2 ⟨(k, ()), rfl, ?_⟩;exact ⟨rfl, rfl⟩
theorem jK {cs : List CT} {α : Type} {E : cK α} {P : Program} {F : FuncId} {A : Den cs → Array Value} (rd : α → Den cs) {p : α → Bool} {R : Value → PH → Prop} {s : PH} {a : OA} {n c : Nat} {l : List α} (h : Sl E s (a, n, c) l) (hrd : ∀ x, E.f x = vals cs (rd x))
  (hcall : ∀ x ∈ l, bu P F (A (rd x)) s fun y s' => y = .bool (p x) ∧ s' = s) (hR : R (.int .i64 (aJ p l 0)) s) :
  W.loop [(false, [.int .i64]), (false, [.int .i64])] (((n : Int), ()), ((0 : Int), ()), ()) (fun x again0 => W.br (decide (x.2.1.fst < x.1.fst)) (W.guard (0 ≤ x.2.1.fst ∧ x.2.1.fst < (n : Int)) (W.aa a fun p3 => W.ld cs (p3.add (Int.toNat x.2.1.fst * E.sz)) fun y =>
   W.call P F (A y) (false, [(false, [CT.bool])]) fun z => W.br z.1.fst (W.ret R (.int .i64 x.2.1.fst)) (again0 ((x.1.fst, ()), (i64.wrap (x.2.1.fst + 1), ()), ())))) (W.ret R (.int .i64 (-1)))) s := by
 have hlen : n = l.length := h.len;have hfew := h.cO;refine ⟨fun z s' => ∃ k : Nat, z = (((n : Int), ()), ((k : Int), ()), ()) ∧ k ≤ n ∧ s = s' ∧ aJ p (l.drop k) k = aJ p l 0, fun z _ => n - z.2.1.1.toNat, ⟨0, rfl, Nat.zero_le _, rfl, by rw [List.drop_zero]⟩, ?_⟩;rintro _ _ ⟨k, rfl, hk, rfl, hs⟩;dsimp only;refine aI (fun e => ?_) fun e => ?_
 ·have hlt : (k : Int) < (n : Int) := of_decide_eq_true e
  obtain ⟨x, hx⟩ : ∃ x, l[k]? = some x := ⟨_, List.getElem?_eq_getElem (by omega)⟩
  obtain ⟨ad, had, hh⟩ := h.el.aA hx;dsimp only at had;subst had;refine bF ⟨Int.natCast_nonneg k, hlt⟩ ?_;simp only [dj, Int.toNat_natCast];rw [hrd x] at hh;refine B0 hh ?_;refine aH ((p x, ()), ()) (hcall x (List.mem_of_getElem? hx)) rfl ?_;rw [ec hx] at hs;refine aI (fun e2 => ?_) fun e2 => ?_
  ·have e2 : p x = true := e2;rw [if_pos e2] at hs;rw [← hs] at hR;exact hR
  ·have e2 : p x = false := e2;rw [if_neg (by simp [e2])] at hs;rw [ai (k := k) (by omega)];exact ⟨⟨k + 1, rfl, by omega, rfl, hs⟩, by simp only [Int.toNat_natCast]; omega⟩
 ·have e : ¬ (k : Int) < (n : Int) := of_decide_eq_false e;rw [eW (by omega)] at hs;rw [← hs] at hR;exact hR
theorem tv {α : Type} (p : α → Bool) (l : List α) : decide (aJ p l 0 ≥ 0) = l.any p := by
 rcases iX (p := p) l 0 with ⟨h, h2⟩ | ⟨j, x, h, h2, h3, _⟩
 ·rw [h]
  have : l.any p = false := by rw [List.any_eq_false]; intro x hx; simp [h2 x hx]
  rw [this]; (first | done | rfl)
 ·rw [h]
  have : l.any p = true := by rw [List.any_eq_true]; exact ⟨x, List.mem_of_getElem? h2, h3⟩
  rw [this];simp
theorem y4 {s : PH} {a : OA} {n c p : Nat} {l : List aY} {k : Int} (h : Sl bz s (a, n, c) l) (hp : s p = some (.cells #[.int .i64 k] 3 (0, 0))) :
  ah 239 #[.slice a n c, .func (.func 196) #[] #[cp p]] s fun y s' => y = .int .i64 (aJ (fun c : aY => c.id == k) l 0) ∧ s' = s := by
 refine yq a n c p _ s ?_;unfold pZ;exact jK zj h (fun _ => rfl) (fun x _ => IT x hp) ⟨rfl, rfl⟩
theorem J3 {s : PH} {a : OA} {n c : Nat} {l : List aY} (h : Sl bz s (a, n, c) l) (k : Int) :
  ah 125 #[.slice a n c, .int .i64 k] s fun y s' => y = .bool (gZ l k) ∧ s' = s := by
 refine bu.quiet (Jo a n c k _ s ?_);unfold Cy;simp only [cj, aT, aE];refine W.bK fun r s1 hr m1 k1 => ?_;refine aH ((gZ l k, ()), ()) ?_ rfl ⟨rfl, m1⟩;refine zY a n c r _ s1 ?_;unfold qU;simp only [aT, aE];refine aH ((aJ (fun c : aY => c.id == k) l 0, ()), ()) (y4 (h.mono m1.le) k1) rfl ?_;refine ⟨?_, rfl⟩
 show Value.bool (decide (aJ (fun c : aY => c.id == k) l 0 ≥ 0)) = _
 rw [tv]; (first | done | rfl)
end
section
open Go.MapKept (Stamped stamped_empty stamped_push stamped_modify)
attribute [-simp] Fw.W.bC Fw.W.bA
structure F4 (P : Program) (K : Type) [BEq K] [LawfulBEq K] where
 kt : TypeId
 ud : TypeDesc
 und : P.underlying kt = some ud
 enc : K → Value
 eB : ∀ a b w, (Instr.checkKey b 10000 kt (enc a)).run P w = .ok () w
 nod : ∀ a b, Instr.sameNow ud (enc a) (enc b) = none
 same : ∀ a b w, (Op.equal kt (enc a) (enc b)).run P w = .ok (a == b) w
 bits : ∀ a, Instr.sameBits 10000 (enc a) (enc a) = true
 inj : ∀ a b, enc a = enc b → a = b
section
variable {P : Program} {K V : Type} [BEq K] [LawfulBEq K] (ks : F4 P K) (ve : V → Value)
def lF (s : PH) (m : Nat) (f : List (K × V)) : Prop :=
 ∃ es c, s m = some (.map es c) ∧ es.toList.map (fun e => (e.key, e.val)) = f.map (fun p => (ks.enc p.1, ve p.2)) ∧ Stamped es c
variable {ks ve}
theorem zA (k : K) : ∀ (l : List MapEntry) (f : List (K × V)) (i : Nat), l.map (fun e => (e.key, e.val)) = f.map (fun p => (ks.enc p.1, ve p.2)) →
  (f.lookup k = none ∧ (∀ w, (Instr.findAsking ks.kt (ks.enc k) l i).run P w = .ok none w) ∧ (∀ p ∈ f, p.1 ≠ k) ∧ dm f k = fun v => f ++ [(k, v)]) ∨
  (∃ j v, f.lookup k = some v ∧ (∀ w, (Instr.findAsking ks.kt (ks.enc k) l i).run P w = .ok (some (i + j, ve v)) w) ∧ j < f.length ∧ f[j]? = some (k, v) ∧ dm f k = fun v => f.set j (k, v)) := by
 intro l
 induction l with
 | nil =>
  intro f i h
  cases f with
  | nil => exact .inl ⟨rfl, fun w => rfl, by simp, rfl⟩
  | cons p f => simp at h
 | cons e l ih =>
  intro f i h
  cases f with
  | nil => simp at h
  | cons p f =>
   obtain ⟨a, b⟩ := p;simp only [List.map_cons, List.cons.injEq, Prod.mk.injEq] at h;obtain ⟨⟨h1, h2⟩, h3⟩ := h
   by_cases hk : k = a
   ·subst hk;refine .inr ⟨0, b, by simp, fun w => ?_, by simp, rfl, ?_⟩
    ·simp only [Instr.findAsking, h1, Sem.run_bind, ks.same, beq_self_eq_true, Result.andThen_ok, if_true, Sem.run_pure, h2, Nat.add_zero]
    ·funext v; simp [dm]
   ·have hb : (k == a) = false := by simpa using hk
    rcases ih f (i + 1) h3 with ⟨g1, g2, g3, g4⟩ | ⟨j, v, g1, g2, g3, g4, g5⟩
    ·refine .inl ⟨by simp [List.lookup_cons, hb, g1], fun w => ?_, ?_, ?_⟩
     ·simp only [Instr.findAsking, h1, Sem.run_bind, ks.same, hb, Result.andThen_ok, Bool.false_eq_true, if_false]; exact g2 w
     ·intro p hp;rcases List.mem_cons.1 hp with rfl | hp
      ·exact Ne.symm hk
      ·exact g3 p hp
     ·funext v; simp [dm, hb, g4]
    ·refine .inr ⟨j + 1, v, by simp [List.lookup_cons, hb, g1], fun w => ?_, by simpa using g3, by simpa using g4, ?_⟩
     ·simp only [Instr.findAsking, h1, Sem.run_bind, ks.same, hb, Result.andThen_ok, Bool.false_eq_true, if_false]; rw [g2]; show Result.ok (some (i + 1 + j, ve v)) w = Result.ok (some (i + (j + 1), ve v)) w; rw [show i + 1 + j = i + (j + 1) by omega]
     ·funext v; simp [dm, hb, g5]
theorem qt (k : K) (l : List MapEntry) (f : List (K × V)) (h : l.map (fun e => (e.key, e.val)) = f.map (fun p => (ks.enc p.1, ve p.2))) :
  (f.lookup k = none ∧ (∀ w, (Instr.findKey ks.kt (ks.enc k) l).run P w = .ok none w) ∧ (∀ p ∈ f, p.1 ≠ k) ∧ dm f k = fun v => f ++ [(k, v)]) ∨
  (∃ j v, f.lookup k = some v ∧ (∀ w, (Instr.findKey ks.kt (ks.enc k) l).run P w = .ok (some (j, ve v)) w) ∧ j < f.length ∧ f[j]? = some (k, v) ∧ dm f k = fun v => f.set j (k, v)) := by
 cases l with
 | nil =>
  cases f with
  | nil =>
   refine .inl ⟨rfl, fun w => ?_, by simp, rfl⟩;simp only [Instr.findKey, Sem.run_bind, aj ks.und, Result.andThen_ok, Instr.findNow, Sem.run_pure]
  | cons p f => simp at h
 | cons e l =>
  cases f with
  | nil => simp at h
  | cons p f =>
   have hno : Instr.findNow ks.ud (ks.enc k) (e :: l) 0 = none := by
    simp only [List.map_cons, List.cons.injEq, Prod.mk.injEq] at h;simp only [Instr.findNow, h.1.1, ks.nod]
   have hrun : ∀ w, (Instr.findKey ks.kt (ks.enc k) (e :: l)).run P w = (Instr.findAsking ks.kt (ks.enc k) (e :: l) 0).run P w := fun w => by
    simp only [Instr.findKey, Sem.run_bind, aj ks.und, Result.andThen_ok, hno]
   rcases zA k (e :: l) (p :: f) 0 h with ⟨g1, g2, g3, g4⟩ | ⟨j, v, g1, g2, g3, g4, g5⟩
   ·exact .inl ⟨g1, fun w => by rw [hrun, g2], g3, g4⟩
   ·exact .inr ⟨j, v, g1, fun w => by rw [hrun, g2, Nat.zero_add], g3, g4, g5⟩
theorem lF.mod {L : List Nat} {s s' : PH} {m : Nat} {f : List (K × V)} (h : lF ks ve s m f) (hm : Fw.Mod L s s') (hl : m ∉ L) : lF ks ve s' m f := by
 obtain ⟨es, c, h, r⟩ := h; exact ⟨es, c, hm.at h hl, r⟩
theorem GP {s : PH} {m : Nat} {f : List (K × V)} (hm : lF ks ve s m f) {key : K} {zero : Value} {h : Shape} {k : Den h.2 → Bool → W.T}
  (hk : Ig zero h ve k s (f.lookup key)) : W.gv P ks.kt (some m) (ks.enc key) zero h k s := by
 obtain ⟨es, c, h1, h2, h3⟩ := hm;rcases qt (ks := ks) (ve := ve) key es.toList f h2 with ⟨g1, g2, g3, g4⟩ | ⟨j, v, g1, g2, g3, g4, g5⟩
 ·rw [g1] at hk;exact ⟨es, c, _, h1, ⟨fun b w => ks.eB _ _ _, g2⟩, hk⟩
 ·rw [g1] at hk;exact ⟨es, c, _, h1, ⟨fun b w => ks.eB _ _ _, g2⟩, hk⟩
theorem GR {s : PH} {m : Nat} {f : List (K × V)} (hm : lF ks ve s m f) {key : K} {v : V} {k : W.T}
  (hk : ∀ o, lF ks ve (s.aS m o) m (dm f key v) → k (s.aS m o)) : W.iQ P ks.kt (some m) (ks.enc key) (ve v) k s := by
 obtain ⟨es, c, h1, h2, h3⟩ := hm;rcases qt (ks := ks) (ve := ve) key es.toList f h2 with ⟨g1, g2, g3, g4⟩ | ⟨j, u, g1, g2, g3, g4, g5⟩
 ·refine ⟨m, es, c, _, rfl, h1, ⟨fun b w => ks.eB _ _ _, g2⟩, hk _ ⟨_, _, PH.bB _ _ _, ?_, stamped_push h3 ?_⟩⟩
  ·rw [g4]; simp [h2]
  ·intro x hx e
   have : (x.key, x.val) ∈ f.map (fun p => (ks.enc p.1, ve p.2)) := by rw [← h2]; exact List.mem_map_of_mem hx
   obtain ⟨p, hp, he⟩ := List.mem_map.1 this;simp only [Prod.mk.injEq] at he;exact g3 p hp (ks.inj _ _ (he.1.trans e))
 ·have hlen : es.toList.length = f.length := by simpa using congrArg List.length h2
  have hj : j < es.size := by rw [← Array.length_toList]; omega
  have hej : (es[j].key, es[j].val) = (ks.enc key, ve u) := by
   have := congrArg (fun l => l[j]?) h2;simp [g4, hj] at this;exact Prod.ext this.1 this.2
  have hkey : es[j].key = ks.enc key := congrArg Prod.fst hej;refine ⟨m, es, c, _, rfl, h1, ⟨fun b w => ks.eB _ _ _, g2⟩, ⟨es[j], by simp [hj], ?_⟩, hk _ ⟨_, _, PH.bB _ _ _, ?_, ?_⟩⟩
  ·rw [hkey]; exact ks.bits key
  ·rw [g5];apply List.ext_getElem?;intro i;simp only [Array.toList_modify, List.getElem?_map, List.getElem?_set];have h2i := congrArg (fun l => l[i]?) h2;simp only [List.getElem?_map] at h2i
   by_cases hi : j = i
   ·subst hi;simp [g3, hj]
   ·rw [if_neg hi, List.getElem?_modify_ne _ _ hi];exact h2i
  ·refine stamped_modify h3 _ _ (fun _ _ => rfl) ?_;intro e he hi
   have : e = es[j] := by simpa [hj] using hi.symm
   rw [this, hkey]
end
theorem IW (b : Bool) (n : Nat) (x : BA) (w : World) : (Instr.checkKey b (n + 1) 9 (.string x)).run Tryz.prog w = .ok () w := by
 have h9 := aj (P := Tryz.prog) (w := w) Tryz.underlying9;rw [Instr.checkKey];simp only [Sem.run_bind, h9, Result.andThen_ok, Sem.run_pure]
theorem GA (a : bJ) (b : Bool) (n : Nat) (w : World) : (Instr.checkKey b (n + 2) 129 (nv a)).run Tryz.prog w = .ok () w := by
 have h1 := aj (P := Tryz.prog) (w := w) Tryz.underlying129;have hs := IW b n;have ha : ∀ w, (isAgg 9).run Tryz.prog w = .ok false w := Tryz.isAgg9;rw [Instr.checkKey];simp only [Sem.run_bind, h1, Result.andThen_ok, Sem.run_pure];simp [part, ha, hs]
def wq : F4 Tryz.prog bJ where
 kt := 129
 ud := _
 und := Tryz.underlying129
 enc := nv
 eB a b w := by
  exact GA a b 9998 w
 nod a b := rfl
 same a b w := by
  have e : pP Tryz.prog 9 129 (nv a) (nv b) = some (a.1 == b.1 && (a.2 == b.2 && true)) := by kernel_rfl
  have e2 : (a == b) = (a.1 == b.1 && (a.2 == b.2 && true)) := by rw [Bool.and_true]; (first | done | rfl)
  rw [e2];exact zx Tryz.prog 9 _ _ _ _ _ w (by decide) e
 bits a := by simp [Instr.sameBits]
 inj a b h := by
  obtain ⟨a1, a2⟩ := a; obtain ⟨b1, b2⟩ := b;simp at h;exact Prod.ext h.1 h.2
end
end Go.Proofs.YtlfdfgokflhdbaaGreat
section
namespace Go.Proofs
open Go.Shelf Go.RowKit Go.Lib Go.Sort
def Tryz.BE : Go.Shelf.Ren := ⟨fun | 6 => 234 | 15 => 202 | 14 => 273 | 28 => 249 | 29 => 250 | 20 => 285 | 21 => 286 | 22 => 287 | 23 => 288 | 24 => 289 | 25 => 290 | 26 => 291 | 27 => 292 | 46 => 295 | 47 => 276 | 48 => 277 | 49 => 296 | 50 => 297 | 57 => 298 | n => n, fun | 22 => 65 | 24 => 75 | 25 => 323 | 3 => 3 | 39 => 294 | 0 => 0 | 53 => 335 | 55 => 213 | 4 => 4 | 46 => 328 | 45 => 327 | 50 => 260 | 5 => 5 | 9 => 9 | 66 => 363 | 70 => 351 | 76 => 378 | 77 => 379 | n => n, fun | n => n⟩
theorem Tryz.Cd : Go.Proofs.SlLaysF0.n6 Tryz.prog Tryz.BE := {
 mixed := by kernel_rfl
 f6 := ⟨Tryz.f234.name, by decide, Tryz.func234.trans (congrArg some (by kernel_rfl))⟩
 f14 := ⟨Tryz.f273.name, by decide, Tryz.func273.trans (congrArg some (by kernel_rfl))⟩
 f15 := Tryz.func202.trans (congrArg some (by kernel_rfl))
 f20 := ⟨Tryz.f285.name, by decide, Tryz.func285.trans (congrArg some (by kernel_rfl))⟩
 f21 := ⟨Tryz.f286.name, by decide, Tryz.func286.trans (congrArg some (by kernel_rfl))⟩
 f22 := ⟨Tryz.f287.name, by decide, Tryz.func287.trans (congrArg some (by kernel_rfl))⟩
 f23 := ⟨Tryz.f288.name, by decide, Tryz.func288.trans (congrArg some (by kernel_rfl))⟩
 f24 := ⟨Tryz.f289.name, by decide, Tryz.func289.trans (congrArg some (by kernel_rfl))⟩
 f25 := ⟨Tryz.f290.name, by decide, Tryz.func290.trans (congrArg some (by kernel_rfl))⟩
 f26 := ⟨Tryz.f291.name, by decide, Tryz.func291.trans (congrArg some (by kernel_rfl))⟩
 f27 := ⟨Tryz.f292.name, by decide, Tryz.func292.trans (congrArg some (by kernel_rfl))⟩
 f28 := Tryz.func249.trans (congrArg some (by kernel_rfl))
 f29 := Tryz.func250.trans (congrArg some (by kernel_rfl))
 f46 := ⟨Tryz.f295.name, by decide, Tryz.func295.trans (congrArg some (by kernel_rfl))⟩
 f47 := Tryz.func276.trans (congrArg some (by kernel_rfl))
 f48 := Tryz.func277.trans (congrArg some (by kernel_rfl))
 f49 := ⟨Tryz.f296.name, by decide, Tryz.func296.trans (congrArg some (by kernel_rfl))⟩
 f50 := ⟨Tryz.f297.name, by decide, Tryz.func297.trans (congrArg some (by kernel_rfl))⟩
 f57 := ⟨Tryz.f298.name, by decide, Tryz.func298.trans (congrArg some (by kernel_rfl))⟩
 t0 := Tryz.underlying0
 a0 := Tryz.isAgg0
 z0 := Tryz.sizeOf0
 v0 := Tryz.zeroValue0
 t3 := Tryz.underlying3
 a3 := Tryz.isAgg3
 z3 := Tryz.sizeOf3
 v3 := Tryz.zeroValue3
 t4 := Tryz.underlying4
 a4 := Tryz.isAgg4
 z4 := Tryz.sizeOf4
 v4 := Tryz.zeroValue4
 t5 := Tryz.underlying5
 a5 := Tryz.isAgg5
 z5 := Tryz.sizeOf5
 v5 := Tryz.zeroValue5
 t9 := Tryz.underlying9
 a9 := Tryz.isAgg9
 z9 := Tryz.sizeOf9
 v9 := Tryz.zeroValue9
 t22 := Tryz.underlying65
 a22 := Tryz.isAgg65
 z22 := Tryz.sizeOf65
 v22 := Tryz.zeroValue65
 t25 := Tryz.underlying323
 a25 := Tryz.isAgg323
 z25 := Tryz.sizeOf323
 v25 := Tryz.zeroValue323
 t39 := Tryz.underlying294
 a39 := Tryz.isAgg294
 z39 := Tryz.sizeOf294
 v39 := Tryz.zeroValue294
 t45 := Tryz.underlying327
 a45 := Tryz.isAgg327
 z45 := Tryz.sizeOf327
 v45 := Tryz.zeroValue327
 t46 := Tryz.underlying328
 a46 := Tryz.isAgg328
 z46 := Tryz.sizeOf328
 v46 := Tryz.zeroValue328
 t50 := Tryz.underlying260
 a50 := Tryz.isAgg260
 z50 := Tryz.sizeOf260
 v50 := Tryz.zeroValue260
 t53 := Tryz.underlying335
 a53 := Tryz.isAgg335
 z53 := Tryz.sizeOf335
 v53 := Tryz.zeroValue335
 t55 := Tryz.underlying213
 a55 := Tryz.isAgg213
 z55 := Tryz.sizeOf213
 v55 := Tryz.zeroValue213
 t66 := Tryz.underlying363
 a66 := Tryz.isAgg363
 z66 := Tryz.sizeOf363
 v66 := Tryz.zeroValue363
 t70 := Tryz.underlying351
 a70 := Tryz.isAgg351
 z70 := Tryz.sizeOf351
 v70 := Tryz.zeroValue351
 t76 := Tryz.underlying378
 a76 := Tryz.isAgg378
 z76 := Tryz.sizeOf378
 v76 := Tryz.zeroValue378
 t77 := Tryz.underlying379
 a77 := Tryz.isAgg379
 z77 := Tryz.sizeOf379
 v77 := Tryz.zeroValue379 }
set_option maxHeartbeats 4000000 in
set_option maxRecDepth 100000 in
theorem Tryz.nQ (a b : BA) (w : World) :
  Calls Tryz.prog 274 #[.string a, .string b] w fun e w' => e = .returned (.int .i64 (Lib.compareBytes a.data.toList b.data.toList)) ∧ w' = w := by
 go_enter Tryz.func274, Tryz.ntmps274
 go_wp2
 rw [run_callFunc_extern Tryz.func293 (by kernel_rfl) (by kernel_rfl) (by kernel_rfl) (e := Extern.BytealgCompare.compare) (by kernel_rfl), Lib.run_compareString];simp only [Result.andThen];rw [Oper.upon_value]
 go_wp2
 go_ret
 exact ⟨rfl, rfl⟩
set_option maxHeartbeats 4000000 in
theorem Tryz.uN (a b : BA) (w : World) :
  Calls Tryz.prog 236 #[.string a, .string b] w fun e w' => e = .returned (.int .i64 (Lib.compareBytes a.data.toList b.data.toList)) ∧ w' = w := by
 go_enter Tryz.func236, Tryz.ntmps236
 go_wp2_with (go_at_call 274; refine (Tryz.nQ _ _ _).mono ?_; rintro e w' ⟨rfl, rfl⟩)
 go_ret
 exact ⟨rfl, rfl⟩
set_option maxHeartbeats 4000000 in
theorem Tryz.IX (k1 v1 k2 v2 : BA) (t1 t2 : Int) (W : World) :
  Calls Tryz.prog 235 #[.agg #[.string k1, .int .i64 t1, .string v1], .agg #[.string k2, .int .i64 t2, .string v2]] W fun e w' => e = .returned (.int .i64 (Lib.compareBytes k1.data.toList k2.data.toList)) ∧ ∃ q os', w' = grow (W.drewN q) os' := by
 have hcon := fun W' => Tryz.uN k1 k2 W'
 generalize Lib.compareBytes k1.data.toList k2.data.toList = r at hcon ⊢
 go_enter Tryz.func235, Tryz.ntmps235
 go_wp2_with (go_at_call 236; refine (hcon _).mono ?_; rintro e w' ⟨rfl, rfl⟩)
 go_ret
 exact ⟨rfl, 0, _, by rw [alloc_eq_grow, alloc_eq_grow, grow_grow]; (first | done | rfl)⟩
namespace YtlfdfgokflhdbaaGreat
open Fw
instance : Inhabited Ht := ⟨⟨⟨#[]⟩, 0, ⟨#[]⟩⟩⟩
theorem J8 : ∀ (x y : List UInt8), Lib.compareBytes x y = fF x y
 | [], [] => rfl
 | [], _ :: _ => rfl
 | _ :: _, [] => rfl
 | a :: x, b :: y => by simp only [Lib.compareBytes, fF, J8 x y, UInt8.lt_iff_toNat_lt]
def zm (x y : Ht) : Int := Lib.compareBytes x.key.data.toList y.key.data.toList
theorem Ih (x y : Ht) : ltOf zm x y = bO x.key y.key := by
 unfold ltOf zm;rw [J8];have := pH x.key y.key;unfold cS at this
 cases h : bO x.key y.key with
 | true => rw [h] at this; simpa using this.2 rfl
 | false => rw [h] at this; simp at this ⊢; omega
theorem Ll : SWO (ltOf zm) where
 irrefl x := by rw [Ih]; exact eU _
 trans x y z h1 h2 := by rw [Ih] at *; exact qE h1 h2
 ntrans x y z h1 h2 := by
  rw [Ih] at *
  cases h : bO x.key z.key with
  | false => rfl
  | true =>
   exfalso
   cases g : bO y.key x.key with
   | true => have := qE g h; rw [h2] at this; cases this
   | false =>
    have := rB h1 g;rw [this] at h;rw [h2] at h; cases h
theorem Ic (L : List Ht) : (flatK bl.f 3 L.toArray).toList = L.flatMap bl.f := by
 apply List.ext_getElem?;intro t
 by_cases ht : t < L.length * 3
 ·have h3 : t / 3 < L.length := by omega
  obtain ⟨x, hx⟩ : ∃ x, L[t / 3]? = some x := ⟨_, List.getElem?_eq_getElem h3⟩
  obtain ⟨l, r, e1, e2, _, _⟩ := vM (E := bl) hx;have e2 : l.length = t / 3 * 3 := e2;have hxl : (bl.f x).length = 3 := rfl;rw [e1, List.append_assoc, List.getElem?_append_right (by omega), List.getElem?_append_left (by omega)]
  have hs : t < (flatK bl.f 3 L.toArray).size := by rw [size_flatK]; simpa using ht
  rw [Array.getElem?_toList, Array.getElem?_eq_getElem hs, ← getElem!_pos _ t hs, get_flatK _ _ _ _ (by simpa using ht)]
  have hx2 : L.toArray[t / 3]! = x := by
   have := (List.getElem?_eq_some_iff.1 hx)
   obtain ⟨q, hq⟩ := this;rw [getElem!_pos _ _ (by simpa using q)];simpa using hq
  rw [hx2, show t - l.length = t % 3 by omega]
  have : t % 3 < (bl.f x).length := by rw [hxl]; omega
  rw [List.getElem?_eq_getElem this, getElem!_pos (bl.f x) (t % 3) this]
 ·rw [List.getElem?_eq_none (by rw [Array.length_toList, size_flatK]; simp; omega), List.getElem?_eq_none (by rw [dV (E := bl)]; show L.length * 3 ≤ t; omega)]
theorem IQ {s0 s : PH} {a : OA} {n c : Nat} {l : List Ht} (h : Gw bl 75 s0 s a n c l) (hn : n ≤ 4000000) :
  bu Tryz.prog 234 #[.slice a n c, .func (.func 235) #[] #[]] s fun y s' =>
   y = .tuple #[] ∧ ∃ l', l'.Perm l ∧ l'.Pairwise (fun x y => bO y.key x.key = false) ∧ Gw bl 75 s0 s' a n c l' ∧ Fw.Mod (Fw.aU a) s s' := by
 have hlen := h.row.len;rcases Nat.eq_zero_or_pos n with h0 | hpos
 ·subst h0;intro w hw;refine (AnyF.slices_SortFunc_none Tryz.Cd a c _ w).mono ?_;rintro e w' ⟨rfl, rfl⟩;have : l = [] := List.eq_nil_of_length_eq_zero (by omega);subst this;exact ⟨_, s, rfl, Rel.start hw, rfl, [], .nil, .nil, h, Mod.refl _ _⟩
 obtain ⟨g, cur, rfl, hg, hcc, ht⟩ : ∃ g cur, a = some ⟨g, 0, none⟩ ∧ s g = some (.cells cur 75 (0, 0)) ∧ c * 3 ≤ cur.size ∧ cur.toList.take (n * 3) = l.flatMap bl.f := by
  obtain ⟨_, _, _, ⟨_, h2, _⟩ | ⟨g, cur, e1, e2, e3, e4⟩⟩ := h.row
  ·omega
  ·exact ⟨g, cur, e1, e2, e3, e4⟩
 have hle := h.row.le;have hfl : (l.flatMap bl.f).length = l.length * 3 := dV (E := bl) l;intro w hw;have hgw := hw _ _ hg
 have hblk : g < w.heap.size := by
  rcases Nat.lt_or_ge g w.heap.size with q | q
  ·exact q
  ·simp [Array.getElem?_eq_none q] at hgw
 have hH : HoldsK bl.f 3 w g 0 l.toArray := by
  intro j hj;rw [size_flatK] at hj
  have hj : j < l.length * 3 := by simpa using hj
  refine ⟨?_, ?_⟩
  ·have hcell : w.cell? ⟨g, 0 + j, none⟩ = cur[j]? := by unfold World.cell?; dsimp only; rw [hgw]; simp
   rw [hcell]
   have hs : j < (flatK bl.f 3 l.toArray).size := by rw [size_flatK]; simpa using hj
   have e1 : (flatK bl.f 3 l.toArray)[j]? = cur[j]? := by
    rw [← Array.getElem?_toList, Ic, ← ht, List.getElem?_take, if_pos (by omega), Array.getElem?_toList]
   rw [← e1, Array.getElem?_eq_getElem hs, getElem!_pos _ j hs]; (first | done | rfl)
  ·unfold World.frozen?; dsimp only; rw [hgw]; simp
 have eg : ∀ args w, (callFunc 235 args).run Tryz.prog w = .ok (.enter 235 args) w := enters_of Tryz.func235 (by kernel_rfl) rfl;have hcmp : CmpLays Tryz.prog 235 #[] bl.f 3 zm g 0 l.toArray.size w := fun _ _ _ _ x y => Tryz.IX x.key x.val y.key y.val x.ts y.ts _;have hcon := AnyQ.slices_SortFunc Tryz.Cd 3 Tryz.isAgg75 Tryz.sizeOf75 bl.f bl.len bl.one zm Ll 235 #[] g 0 c l.toArray w eg hcmp hH hblk (by simp; omega)
 have hsz : l.toArray.size = n := by simp; omega
 rw [hsz] at hcon;refine hcon.mono ?_;rintro e w' ⟨rfl, d', m, os, hp, hs, rfl⟩;obtain ⟨hp1, _, hp3⟩ := hp
 have hd' : d'.size = n := by rw [hp1, hsz]
 have hex : ∀ d : Array Ht, d.size = n → (d.extract 0 n).toList = d.toList := fun d hd => by rw [← hd]; simp
 rw [hex d' hd', hex _ hsz] at hp3
 obtain ⟨l', hl'⟩ : ∃ l', d'.toList = l' := ⟨_, rfl⟩
 have hd2 : d' = l'.toArray := by rw [← hl']
 subst hd2
 have hl2 : l'.length = n := by simpa using hd'
 have hF : (flatK bl.f 3 l'.toArray).size = n * 3 := by rw [size_flatK]; simp [hl2]
 obtain ⟨cur', hcur'⟩ : ∃ cur', putCells id 0 (flatK bl.f 3 l'.toArray) cur = cur' := ⟨_, rfl⟩
 have hcs : cur'.size = cur.size := by rw [← hcur']; unfold putCells; simp
 have hct : cur'.toList.take (n * 3) = l'.flatMap bl.f := by
  rw [← Ic];apply List.ext_getElem?;intro t;rw [List.getElem?_take]
  split
  ·rename_i htl
   rw [Array.getElem?_toList, Array.getElem?_toList, ← hcur'];unfold putCells;rw [Array.getElem?_mapIdx, Array.getElem?_eq_getElem (show t < cur.size by omega)];simp only [Option.map_some];rw [if_pos ⟨Nat.zero_le _, by omega⟩, Array.getElem?_eq_getElem (show t < (flatK bl.f 3 l'.toArray).size by omega), ← getElem!_pos _ t (by omega)];simp
  ·rename_i htl
   rw [List.getElem?_eq_none (by rw [Array.length_toList]; omega)]
 have hgnew : (sortWorldK bl.f 3 w g 0 m l'.toArray os).heap[g]? = some (.cells cur' 75 (0, 0)) := by
  unfold sortWorldK putRowK putRow mapBlock grow Sort.ahead;dsimp only;rw [Array.getElem?_append_left (by simpa using hblk), Array.getElem?_modify, if_pos rfl, hgw];simp only [Option.map_some, onCells];rw [hcur']
 have hother : ∀ b, b ≠ g → b < w.heap.size → (sortWorldK bl.f 3 w g 0 m l'.toArray os).heap[b]? = w.heap[b]? := fun b hb hlt => by
  unfold sortWorldK putRowK putRow mapBlock grow Sort.ahead;dsimp only;rw [Array.getElem?_append_left (by simpa using hlt), Array.getElem?_modify, if_neg (Ne.symm hb)]
 have hsize : w.heap.size ≤ (sortWorldK bl.f 3 w g 0 m l'.toArray os).heap.size := by
  unfold sortWorldK putRowK putRow mapBlock grow Sort.ahead;simp
 have hrel : Rel w s (s.aS g (.cells cur' 75 (0, 0))) (sortWorldK bl.f 3 w g 0 m l'.toArray os) := by
  refine ⟨fun b o e => ?_, rfl, rfl, rfl, hsize, fun k hk e => ?_⟩
  ·by_cases hb : b = g
   ·subst hb; rw [PH.bB] at e; cases e; exact hgnew
   ·rw [PH.bG _ _ hb] at e;have hwb := hw _ _ e
    have hlt : b < w.heap.size := by
     rcases Nat.lt_or_ge b w.heap.size with q | q
     ·exact q
     ·simp [Array.getElem?_eq_none q] at hwb
    rw [hother b hb hlt]; exact hwb
  ·have hkg : k ≠ g := by rintro rfl; rw [hg] at e; cases e
   rw [PH.bG _ _ hkg];exact ⟨e, hother k hkg hk⟩
 have hg0 : s0 g = none := h.fr g (by simp [Fw.aU]);refine ⟨_, _, rfl, hrel, rfl, l', hp3, ?_, ⟨⟨?_, hle, h.row.max, .inr ⟨g, cur', rfl, PH.bB _ _ _, by rw [hcs]; exact hcc, hct⟩⟩, by simp [Fw.aU, hg0], h.md.bT (.inr hg0)⟩, Mod.aS (by simp [Fw.aU])⟩
 ·rw [List.pairwise_iff_getElem];intro i j hi hj hij;have := hs i j (Nat.zero_le _) hij (by omega);rw [Ih] at this;rw [getElem!_pos _ _ (by simpa using hj), getElem!_pos _ _ (by simpa using hi)] at this;simpa using this
 ·rw [dV (E := bl), hl2]
end YtlfdfgokflhdbaaGreat
end Go.Proofs
end
section
namespace Go.Proofs
open Go.RowKit Go.Maps Go.Sort Go.Shelf
def Tryz.uk : Go.Shelf.Ren := ⟨fun | 7 => 64 | 10 => 136 | n => n, fun | 23 => 145 | 26 => 9 | 3 => 79 | 28 => 157 | 0 => 0 | 27 => 156 | 33 => 162 | 4 => 4 | n => n, fun | n => n⟩
theorem Tryz.ET : Go.Proofs.SlLaysZ.n7 Tryz.prog Tryz.uk := {
 mixed := by kernel_rfl
 f7 := ⟨Tryz.f64.name, by decide, Tryz.func64.trans (congrArg some (by kernel_rfl))⟩
 f10 := ⟨Tryz.f136.name, by decide, Tryz.func136.trans (congrArg some (by kernel_rfl))⟩
 t0 := Tryz.underlying0
 a0 := Tryz.isAgg0
 z0 := Tryz.sizeOf0
 v0 := Tryz.zeroValue0
 t4 := Tryz.underlying4
 a4 := Tryz.isAgg4
 z4 := Tryz.sizeOf4
 v4 := Tryz.zeroValue4
 t23 := Tryz.underlying145
 a23 := Tryz.isAgg145
 z23 := Tryz.sizeOf145
 v23 := Tryz.zeroValue145
 t26 := Tryz.underlying9
 a26 := Tryz.isAgg9
 z26 := Tryz.sizeOf9
 v26 := Tryz.zeroValue9
 t27 := Tryz.underlying156
 a27 := Tryz.isAgg156
 z27 := Tryz.sizeOf156
 v27 := Tryz.zeroValue156
 t28 := Tryz.underlying157
 a28 := Tryz.isAgg157
 z28 := Tryz.sizeOf157
 v28 := Tryz.zeroValue157
 t33 := Tryz.underlying162
 a33 := Tryz.isAgg162
 z33 := Tryz.sizeOf162
 v33 := Tryz.zeroValue162 }
def Tryz.qO : Go.Shelf.Ren := ⟨fun | 6 => 63 | 8 => 134 | 9 => 135 | 11 => 200 | 13 => 202 | 12 => 201 | 23 => 249 | 24 => 250 | 14 => 240 | 15 => 241 | 16 => 242 | 17 => 243 | 18 => 244 | 19 => 245 | 20 => 246 | 21 => 247 | 22 => 248 | 25 => 275 | 26 => 276 | 27 => 277 | 28 => 278 | 29 => 279 | 30 => 280 | 31 => 294 | n => n, fun | 26 => 9 | 28 => 157 | 24 => 154 | 0 => 0 | 3 => 3 | 37 => 294 | 48 => 335 | 50 => 213 | 4 => 4 | 40 => 328 | 39 => 327 | 45 => 260 | 5 => 5 | 9 => 9 | 51 => 363 | 55 => 351 | 57 => 378 | 58 => 379 | 33 => 162 | n => n, fun | n => n⟩
theorem Tryz.HK : Go.Proofs.SlLaysZ.n6 Tryz.prog Tryz.qO := {
 mixed := by kernel_rfl
 f6 := ⟨Tryz.f63.name, by decide, Tryz.func63.trans (congrArg some (by kernel_rfl))⟩
 f8 := ⟨Tryz.f134.name, by decide, Tryz.func134.trans (congrArg some (by kernel_rfl))⟩
 f11 := ⟨Tryz.f200.name, by decide, Tryz.func200.trans (congrArg some (by kernel_rfl))⟩
 t0 := Tryz.underlying0
 a0 := Tryz.isAgg0
 z0 := Tryz.sizeOf0
 v0 := Tryz.zeroValue0
 t24 := Tryz.underlying154
 a24 := Tryz.isAgg154
 z24 := Tryz.sizeOf154
 v24 := Tryz.zeroValue154
 t26 := Tryz.underlying9
 a26 := Tryz.isAgg9
 z26 := Tryz.sizeOf9
 v26 := Tryz.zeroValue9
 t28 := Tryz.underlying157
 a28 := Tryz.isAgg157
 z28 := Tryz.sizeOf157
 v28 := Tryz.zeroValue157
 i26 := by kernel_rfl }
def Tryz.DU : Go.Shelf.Ren := ⟨fun | 6 => 135 | 8 => 202 | 9 => 201 | 19 => 249 | 20 => 250 | 21 => 240 | 22 => 241 | 23 => 242 | 24 => 243 | 25 => 244 | 26 => 245 | 27 => 246 | 28 => 247 | 29 => 248 | 36 => 275 | 31 => 276 | 32 => 277 | 37 => 278 | 38 => 279 | 39 => 280 | 41 => 294 | n => n, fun | 27 => 154 | 29 => 9 | 3 => 3 | 32 => 294 | 26 => 154 | 0 => 0 | 44 => 335 | 46 => 213 | 4 => 4 | 36 => 328 | 35 => 327 | 41 => 260 | 5 => 5 | 9 => 9 | 53 => 363 | 57 => 351 | 63 => 378 | 64 => 379 | n => n, fun | n => n⟩
theorem Tryz.FK : Go.Proofs.SlLaysM.n6 Tryz.prog Tryz.DU := {
 mixed := by kernel_rfl
 f6 := ⟨Tryz.f135.name, by decide, Tryz.func135.trans (congrArg some (by kernel_rfl))⟩
 f8 := Tryz.func202.trans (congrArg some (by kernel_rfl))
 f9 := ⟨Tryz.f201.name, by decide, Tryz.func201.trans (congrArg some (by kernel_rfl))⟩
 f19 := Tryz.func249.trans (congrArg some (by kernel_rfl))
 f20 := Tryz.func250.trans (congrArg some (by kernel_rfl))
 f21 := ⟨Tryz.f240.name, by decide, Tryz.func240.trans (congrArg some (by kernel_rfl))⟩
 f22 := ⟨Tryz.f241.name, by decide, Tryz.func241.trans (congrArg some (by kernel_rfl))⟩
 f23 := ⟨Tryz.f242.name, by decide, Tryz.func242.trans (congrArg some (by kernel_rfl))⟩
 f24 := ⟨Tryz.f243.name, by decide, Tryz.func243.trans (congrArg some (by kernel_rfl))⟩
 f25 := ⟨Tryz.f244.name, by decide, Tryz.func244.trans (congrArg some (by kernel_rfl))⟩
 f26 := ⟨Tryz.f245.name, by decide, Tryz.func245.trans (congrArg some (by kernel_rfl))⟩
 f27 := ⟨Tryz.f246.name, by decide, Tryz.func246.trans (congrArg some (by kernel_rfl))⟩
 f28 := ⟨Tryz.f247.name, by decide, Tryz.func247.trans (congrArg some (by kernel_rfl))⟩
 f29 := ⟨Tryz.f248.name, by decide, Tryz.func248.trans (congrArg some (by kernel_rfl))⟩
 f31 := Tryz.func276.trans (congrArg some (by kernel_rfl))
 f32 := Tryz.func277.trans (congrArg some (by kernel_rfl))
 f36 := ⟨Tryz.f275.name, by decide, Tryz.func275.trans (congrArg some (by kernel_rfl))⟩
 f37 := ⟨Tryz.f278.name, by decide, Tryz.func278.trans (congrArg some (by kernel_rfl))⟩
 f38 := ⟨Tryz.f279.name, by decide, Tryz.func279.trans (congrArg some (by kernel_rfl))⟩
 f39 := ⟨Tryz.f280.name, by decide, Tryz.func280.trans (congrArg some (by kernel_rfl))⟩
 f41 := ⟨Tryz.f294.name, by decide, Tryz.func294.trans (congrArg some (by kernel_rfl))⟩
 t0 := Tryz.underlying0
 a0 := Tryz.isAgg0
 z0 := Tryz.sizeOf0
 v0 := Tryz.zeroValue0
 t3 := Tryz.underlying3
 a3 := Tryz.isAgg3
 z3 := Tryz.sizeOf3
 v3 := Tryz.zeroValue3
 t4 := Tryz.underlying4
 a4 := Tryz.isAgg4
 z4 := Tryz.sizeOf4
 v4 := Tryz.zeroValue4
 t5 := Tryz.underlying5
 a5 := Tryz.isAgg5
 z5 := Tryz.sizeOf5
 v5 := Tryz.zeroValue5
 t9 := Tryz.underlying9
 a9 := Tryz.isAgg9
 z9 := Tryz.sizeOf9
 v9 := Tryz.zeroValue9
 t26 := Tryz.underlying154
 a26 := Tryz.isAgg154
 z26 := Tryz.sizeOf154
 v26 := Tryz.zeroValue154
 t27 := Tryz.underlying154
 a27 := Tryz.isAgg154
 z27 := Tryz.sizeOf154
 v27 := Tryz.zeroValue154
 t29 := Tryz.underlying9
 a29 := Tryz.isAgg9
 z29 := Tryz.sizeOf9
 v29 := Tryz.zeroValue9
 t32 := Tryz.underlying294
 a32 := Tryz.isAgg294
 z32 := Tryz.sizeOf294
 v32 := Tryz.zeroValue294
 t35 := Tryz.underlying327
 a35 := Tryz.isAgg327
 z35 := Tryz.sizeOf327
 v35 := Tryz.zeroValue327
 t36 := Tryz.underlying328
 a36 := Tryz.isAgg328
 z36 := Tryz.sizeOf328
 v36 := Tryz.zeroValue328
 t41 := Tryz.underlying260
 a41 := Tryz.isAgg260
 z41 := Tryz.sizeOf260
 v41 := Tryz.zeroValue260
 t44 := Tryz.underlying335
 a44 := Tryz.isAgg335
 z44 := Tryz.sizeOf335
 v44 := Tryz.zeroValue335
 t46 := Tryz.underlying213
 a46 := Tryz.isAgg213
 z46 := Tryz.sizeOf213
 v46 := Tryz.zeroValue213
 t53 := Tryz.underlying363
 a53 := Tryz.isAgg363
 z53 := Tryz.sizeOf363
 v53 := Tryz.zeroValue363
 t57 := Tryz.underlying351
 a57 := Tryz.isAgg351
 z57 := Tryz.sizeOf351
 v57 := Tryz.zeroValue351
 t63 := Tryz.underlying378
 a63 := Tryz.isAgg378
 z63 := Tryz.sizeOf378
 v63 := Tryz.zeroValue378
 t64 := Tryz.underlying379
 a64 := Tryz.isAgg379
 z64 := Tryz.sizeOf379
 v64 := Tryz.zeroValue379 }
theorem Tryz.Jz (m : Nat) : AnyZ.SortsIn Tryz.prog Tryz.qO Fence.wide m :=
 ⟨fun aU off cap ss W hH hblk hsz => callsIn_wide.2 (AnyM.slices_Sort_string Tryz.FK aU off cap ss W hH hblk hsz),
  fun p cap W => callsIn_wide.2 (AnyM.slices_Sort_string_none Tryz.FK p cap W)⟩
theorem Tryz.zR (mb : Option Nat) (W : World) : CallsIn Fence.wide 5 Tryz.prog 64 #[.map mb] W fun e w' => e = .returned (.func (.func 136) #[] #[.pointer (some ⟨W.heap.size, 0, none⟩)]) ∧ w' = W.alloc (.cells #[.map mb] 145) :=
 AnyZ.keys_in Tryz.ET Fence.wide 5 trivial rfl mb W
namespace YtlfdfgokflhdbaaGreat
open Fw
theorem xe {w w' : World} {s : PH} (hs : Sub s w) (hb : RowKit.Below w.heap.size w w') : Rel w s s w' :=
 ⟨fun b o e => by
   have h := hs b o e;rcases Nat.lt_or_ge b w.heap.size with q | q
   ·rw [hb.block b q]; exact h
   ·simp [Array.getElem?_eq_none q] at h,
  hb.os, hb.tape, hb.output, hb.size, fun k hk e => ⟨e, hb.block k hk⟩⟩
theorem yA {w w' : World} {s : PH} (hs : Sub s w) (hb : RowKit.Below w.heap.size w w') {g : Nat} {o : Obj} (hg : w.heap.size ≤ g) (ho : w'.heap[g]? = some o) : s g = none ∧ Rel w s (s.aS g o) w' := by
 have hn : s g = none := by
  cases e : s g with
  | none => rfl
  | some x => have := hs g x e; simp [Array.getElem?_eq_none hg] at this
 have hr := xe hs hb;refine ⟨hn, fun b x e => ?_, hr.os, hr.tape, hr.output, hr.size, fun k hk e => ?_⟩
 ·by_cases hbg : b = g
  ·subst hbg; rw [PH.bB] at e; cases e; exact ho
  ·rw [PH.bG _ _ hbg] at e; exact hr.sub b x e
 ·have hkg : k ≠ g := by omega
  rw [PH.bG _ _ hkg]; exact hr.out k hk e
def KA (s : PH) (a : OA) (n c : Nat) (l : List BA) : Prop :=
 n = l.length ∧ ((a = none ∧ c = 0 ∧ l = []) ∨ ∃ g cur, a = some ⟨g, 0, none⟩ ∧ s g = some (.cells cur 9 (0, 0)) ∧ cur.toList.take n = l.map Value.string ∧ n ≤ c ∧ cur.size = c)
def ofBytes (l : List UInt8) : BA := ⟨l.toArray⟩
def iq {V : Type} (f : List (BA × V)) : List BA := ((f.map fun p => p.1.data.toList).mergeSort leB).map ofBytes
theorem JR (mb : Option Nat) (s : PH) : bu Tryz.prog 64 #[.map mb] s fun v s' =>
  ∃ r, s r = none ∧ v = .func (.func 136) #[] #[.pointer (some ⟨r, 0, none⟩)] ∧ s' = s.aS r (.cells #[.map mb] 145 (0, 0)) := by
 intro w hw;refine (callsIn_wide.1 (Tryz.zR mb w)).mono ?_;rintro e w' ⟨rfl, rfl⟩
 have hn : s w.heap.size = none := by
  cases e : s w.heap.size with
  | none => rfl
  | some x => have := hw _ x e; simp at this
 refine ⟨_, _, rfl, ?_, _, hn, rfl, rfl⟩;exact (Rel.new (Rel.start hw) _).2
theorem Gh {V : Type} {ve : V → Value} {s : PH} {r m : Nat} {f : List (BA × V)} (hr : s r = some (.cells #[.map (some m)] 145 (0, 0))) (hm : ic iB ve s m f)
  (hk : ∀ p ∈ f, p.1.size ≤ maxLen) (hl : f.length * 16 ≤ 140737488355328) :
  bu Tryz.prog 63 #[.func (.func 136) #[] #[.pointer (some ⟨r, 0, none⟩)]] s fun v s' =>
   ∃ a n c, v = .slice a n c ∧ KA s' a n c (iq f) ∧ Fw.Mod [] s s' ∧ (∀ g, a = some ⟨g, 0, none⟩ → s g = none) := by
 intro w hw;obtain ⟨es, c, h1, h2, h3⟩ := hm
 have hes : es.size = f.length := by simpa using congrArg List.length h2
 have hkey : ∀ x ∈ es.toList, ∃ p ∈ f, x.key = .string p.1 := by
  intro x hx
  have : (x.key, x.val) ∈ f.map (fun p => (iB.enc p.1, ve p.2)) := by rw [← h2]; exact List.mem_map_of_mem hx
  obtain ⟨p, hp, he⟩ := List.mem_map.1 this;simp only [Prod.mk.injEq] at he;exact ⟨p, hp, he.1.symm⟩
 let R : Value → Option (DataW Nat × List MemPlace) := fun _ => some (.nil, [])
 have hko : ∀ k : BA, k.size ≤ maxLen → Go.keyOf Tryz.prog 9 (.string k) = some (.string k.data.toList) := by
  intro k hk;unfold Go.keyOf;rw [Tryz.underlying9];simp [mapKey, Tryz.underlying9, hk]
 have hrd : ∀ x ∈ es.toList, ∀ k, x.key = .string k → k.size ≤ maxLen → Go.WideElems.rd Tryz.prog 9 R x = some (.string k.data.toList, .nil) := by
  intro x hx k e hk;unfold Go.WideElems.rd;rw [e, hko k hk]; (first | done | rfl)
 have hown : w.ownsMap Tryz.prog 9 R m es.size (.map ((es.toList.map (Go.WideElems.rg Tryz.prog 9 R)).foldr DataW.insert [])) := by
  refine ⟨es, c, hw _ _ h1, ⟨?_, h3, ?_⟩, Nat.le_refl _, rfl⟩
  ·have : maxLen = 9223372036854775807 := rfl;omega
  ·intro x hx;obtain ⟨p, hp, e⟩ := hkey x hx;exact ⟨_, hrd x hx _ e (hk p hp)⟩
 have hkeys : (strKeys (DataW.map ((es.toList.map (Go.WideElems.rg Tryz.prog 9 R)).foldr DataW.insert []))).Perm (f.map fun p => p.1.data.toList) := by
  refine (List.Perm.map _ (Go.WideShapes.sorted_perm _)).trans ?_
  have : es.toList.map (fun e => e.key) = f.map (fun p => Value.string p.1) := by
   have := congrArg (List.map Prod.fst) h2;rw [List.map_map, List.map_map] at this;exact this
  have e2 : (es.toList.map (Go.WideElems.rg Tryz.prog 9 R)).map (fun p => strOf p.1) = f.map (fun p => p.1.data.toList) := by
   have e3 : (es.toList.map (Go.WideElems.rg Tryz.prog 9 R)).map (fun p => strOf p.1) = (es.toList.map (fun e => e.key)).map (fun v => match v with | .string k => k.data.toList | _ => []) := by
    rw [List.map_map, List.map_map];apply List.map_congr_left;intro x hx;obtain ⟨p, hp, e⟩ := hkey x hx;simp only [Function.comp_apply, Go.WideElems.rg, hrd x hx _ e (hk p hp), e, Option.getD_some, strOf]
   rw [e3, this, List.map_map]
   first | done | rfl
  rw [e2]
 have hsize : Maps.size (DataW.map (H := Nat) ((es.toList.map (Go.WideElems.rg Tryz.prog 9 R)).foldr DataW.insert [])) = f.length := by
  have := hkeys.length_eq;simpa [strKeys, Maps.size] using this
 have hlt : r < w.heap.size := by
  have := hw _ _ hr;rcases Nat.lt_or_ge r w.heap.size with q | q
  ·exact q
  ·simp [Array.getElem?_eq_none q] at this
 have hseq : SeqGives Fence.wide 2 Tryz.prog 136 #[.pointer (some ⟨r, 0, none⟩)] encStr (fun ss => ss.Perm (strKeys (DataW.map ((es.toList.map (Go.WideElems.rg Tryz.prog 9 R)).foldr DataW.insert [])))) (Maps.size (DataW.map (H := Nat) ((es.toList.map (Go.WideElems.rg Tryz.prog 9 R)).foldr DataW.insert []))) w :=
  AnyZ.keys_gives (ρ := Tryz.uk) { Tryz.ET with } Fence.wide _ trivial rfl (by omega) r m es.size _ _ hlt (by
   unfold World.cell?
   rw [show (Addr.mk r 0 none).block = r from rfl, hw _ _ hr]; (first | done | rfl)) hown
 refine (callsIn_wide.1 (AnyZ.sorted_in Tryz.HK Fence.wide 5 trivial trivial trivial trivial rfl (by omega) (Tryz.Jz _) (enters_of Tryz.func135 (by kernel_rfl) rfl) 136 #[.pointer (some ⟨r, 0, none⟩)] trivial (enters_of Tryz.func136 (by kernel_rfl) rfl) _ _ ?_ ?_ _ hseq)).mono ?_
 ·rw [hsize]; have : maxLen = 9223372036854775807 := rfl; omega
 ·rw [hsize]; exact hl
 rintro e w' ⟨v, ss, rfl, hS, hrow, hnil, hb⟩;have hsort : (ss.mergeSort fun x y => decide (x ≤ y)) = (f.map fun p => p.1.data.toList).mergeSort leB := mergeSort_of_perm (hS.trans hkeys)
 have hlen : ss.length = (iq f).length := by
  have := (hS.trans hkeys).length_eq;simp [iq, this]
 have henc : List.map encStr (ss.mergeSort fun x y => decide (x ≤ y)) = (iq f).map Value.string := by
  rw [hsort]; simp [iq, ofBytes, encStr]
 rw [henc] at hrow;obtain ⟨_, hrow⟩ := hrow;rcases hrow with ⟨rfl, h0⟩ | ⟨g, cap, cur, rfl, hbase, hg, hc1, hc2, hc3, hc4⟩
 ·refine ⟨_, s, rfl, xe hw hb, none, 0, 0, rfl, ⟨by omega, .inl ⟨rfl, rfl, ?_⟩⟩, Mod.refl _ _, by simp⟩;exact List.length_eq_zero_iff.1 (by omega)
 ·obtain ⟨hn, hrel⟩ := yA hw hb hbase hg;refine ⟨_, _, rfl, hrel, _, _, _, rfl, ⟨hlen, .inr ⟨g, cur, rfl, PH.bB _ _ _, ?_, hc1, by omega⟩⟩, Mod.new hn, ?_⟩
  ·rw [Nat.mul_one] at hc4; exact hc4
  ·intro g' e; simp only [Option.some.injEq, Addr.mk.injEq] at e; rw [← e.1]; exact hn
end YtlfdfgokflhdbaaGreat
end Go.Proofs
end
namespace Go.Proofs.YtlfdfgokflhdbaaGreat
open Fw Go Go.IntKind
section
open Go.MapKept (Stamped stamped_empty stamped_push stamped_modify)
attribute [-simp] Fw.W.bC Fw.W.bA
section
variable {K V : Type} [BEq K] [LawfulBEq K] {ke : sy K} {ve : V → Value}
def lB (f : List (K × V)) (idx : List Nat) : List (K × V) := idx.filterMap fun i => f[i]?
def gr (es : Array MapEntry) (i : Nat) : Nat := ((es[i]?).map (·.born)).getD 0
def pM (ke : sy K) (ve : V → Value) (s : PH) (r m : Nat) (f : List (K × V)) (idx : List Nat) : Prop :=
 ∃ es c, s r = some (.mapIter (some m) c (idx.map (gr es)).toArray c) ∧ s m = some (.map es c) ∧ es.toList.map (fun e => (e.key, e.val)) = f.map (fun p => (ke.enc p.1, ve p.2)) ∧ Stamped es c ∧ idx.Nodup ∧ ∀ i ∈ idx, i < f.length
theorem pM.mod {s s' : PH} {r m : Nat} {f : List (K × V)} {idx : List Nat} {L : List Nat} (h : pM ke ve s r m f idx) (hm : Fw.Mod L s s') (hr : r ∉ L) (hl : m ∉ L) : pM ke ve s' r m f idx := by
 obtain ⟨es, c, h1, h2, h3⟩ := h;exact ⟨es, c, hm.at h1 hr, hm.at h2 hl, h3⟩
theorem Jx {s : PH} {m : Nat} {f : List (K × V)} (hm : ic ke ve s m f) {k : Nat → W.T} (hk : ∀ r s', s r = none → Fw.Mod [] s s' → pM ke ve s' r m f [] → k r s') : W.oc (some m) k s := by
 obtain ⟨es, c, h1, h2, h3⟩ := hm;refine ⟨_, ⟨es, c, h1, rfl⟩, fun r hr => ?_⟩
 have hne : m ≠ r := by rintro rfl; rw [h1] at hr; cases hr
 exact hk r _ hr (Mod.new hr) ⟨es, c, PH.bB _ _ _, by rw [PH.bG _ _ hne]; exact h1, h2, h3, .nil, by simp⟩
theorem born_inj {es : Array MapEntry} {c i j : Nat} (h : Stamped es c) (hi : i < es.size) (hj : j < es.size) (e : gr es i = gr es j) : i = j := by
 have hn := h.2.1;unfold gr at e;rw [Array.getElem?_eq_getElem hi, Array.getElem?_eq_getElem hj] at e;simp only [Option.map_some, Option.getD_some] at e
 have := (List.nodup_iff_pairwise_ne.1 hn)
 rcases Nat.lt_trichotomy i j with g | g | g
 ·have := List.pairwise_iff_getElem.1 this i j (by simpa using hi) (by simpa using hj) g;simp at this; exact absurd e this
 ·exact g
 ·have := List.pairwise_iff_getElem.1 this j i (by simpa using hj) (by simpa using hi) g;simp at this; exact absurd e.symm this
theorem ue {e : MapEntry} : ∀ {l : List MapEntry}, (l.map (·.born)).Nodup → e ∈ l → l.find? (·.born == e.born) = some e
 | [], _, h => by cases h
 | a :: l, hn, h => by
  simp only [List.map_cons, List.nodup_cons] at hn;rcases List.mem_cons.1 h with rfl | h
  ·simp
  ·have hne : a.born ≠ e.born := fun e1 => hn.1 (by rw [e1]; exact List.mem_map_of_mem h);rw [List.find?_cons_of_neg (by simpa using hne)];exact ue hn.2 h
theorem JC {f : List (K × V)} {idx : List Nat} (hn : idx.Nodup) (hl : ∀ i ∈ idx, i < f.length) (ha : ∀ i, i < f.length → i ∈ idx) : (lB f idx).Perm f := by
 have hp : idx.Perm (List.range f.length) := (List.perm_ext_iff_of_nodup hn List.nodup_range).2 fun i => ⟨fun h => List.mem_range.2 (hl i h), fun h => ha i (List.mem_range.1 h)⟩
 have h2 : (lB f idx).Perm ((List.range f.length).filterMap fun i => f[i]?) := hp.filterMap _
 have h3 : ∀ f : List (K × V), (List.range f.length).filterMap (fun i => f[i]?) = f := by
  intro f
  induction f with
  | nil => rfl
  | cons p f ih =>
   rw [List.length_cons, List.range_succ_eq_map, List.filterMap_cons];simp only [List.getElem?_cons_zero, List.filterMap_map]
   congr 1
 rw [h3] at h2; exact h2
theorem I7 {s : PH} {r m : Nat} {f : List (K × V)} {idx : List Nat} (h : pM ke ve s r m f idx) {k : Value → W.T} (h0 : (lB f idx).Perm f → k (.tuple #[.bool false]) s)
  (h1 : ∀ i p, f[i]? = some p → ∀ s', Fw.Mod [r] s s' → pM ke ve s' r m f (idx ++ [i]) → idx.length < f.length → (∀ K : Value → W.T, K (.tuple #[ke.enc p.1, ve p.2]) s' → W.nS r K s') → k (.tuple #[.bool true, ke.enc p.1, ve p.2]) s') : W.nY r k s := by
 obtain ⟨es, c, g1, g2, g3, g4, g5, g6⟩ := h
 have hne : m ≠ r := by rintro rfl; rw [g1] at g2; cases g2
 have hlen : es.size = f.length := by simpa using congrArg List.length g3
 refine ⟨some m, c, _, g1, es, g2, fun e he => g4.1 e (by simpa using he), fun hall => h0 (JC g5 g6 fun i hi => ?_), fun e he hn => ?_⟩
 ·have hi2 : i < es.size := by omega
  have := hall es[i] (Array.getElem_mem hi2);simp only [List.contains_toArray, List.contains_iff_mem, List.mem_map] at this;obtain ⟨j, hj, e⟩ := this
  have hbi : gr es i = es[i].born := by unfold gr; rw [Array.getElem?_eq_getElem hi2]; (first | done | rfl)
  have := born_inj g4 (by rw [hlen]; exact g6 j hj) hi2 (e.trans hbi.symm)
  rwa [← this]
 ·obtain ⟨i, hi, rfl⟩ := Array.getElem_of_mem he
  have hbi : gr es i = es[i].born := by unfold gr; rw [Array.getElem?_eq_getElem hi]; (first | done | rfl)
  have hin : i ∉ idx := by
   intro hm;simp only [List.contains_toArray] at hn
   have : (idx.map (gr es)).contains es[i].born = true := by rw [List.contains_iff_mem]; exact List.mem_map.2 ⟨i, hm, hbi⟩
   rw [this] at hn; cases hn
  obtain ⟨p, hp⟩ : ∃ p, f[i]? = some p := ⟨_, List.getElem?_eq_getElem (by omega)⟩
  have hpe : (es[i].key, es[i].val) = (ke.enc p.1, ve p.2) := by
   have := congrArg (fun l => l[i]?) g3;simp only [List.getElem?_map, hp, Array.getElem?_toList, Array.getElem?_eq_getElem hi, Option.map_some, Option.some.injEq] at this;exact this
  obtain ⟨hp1, hp2⟩ := Prod.mk.inj hpe;rw [hp1, hp2]
  have hlt : idx.length < f.length := by
   have h2 : (i :: idx).Nodup := List.nodup_cons.2 ⟨hin, g5⟩
   have h3 : ∀ x ∈ i :: idx, x ∈ List.range f.length := fun x hx => by
    rcases List.mem_cons.1 hx with rfl | hx
    ·exact List.mem_range.2 (by omega)
    ·exact List.mem_range.2 (g6 x hx)
   have hperm : (i :: idx).Perm ((List.range f.length).filter fun x => decide (x ∈ i :: idx)) := (List.perm_ext_iff_of_nodup h2 (List.nodup_range.filter _)).2 fun x => by
    simp only [List.mem_filter, decide_eq_true_eq];exact ⟨fun h => ⟨h3 x h, h⟩, fun h => h.2⟩
   have h4 := hperm.length_eq;have h5 := List.length_filter_le (fun x => decide (x ∈ i :: idx)) (List.range f.length);simp only [List.length_cons, List.length_range] at h4 h5; omega
  have k1 : (s.aS r (.mapIter (some m) c ((idx.map (gr es)).toArray.push es[i].born) c)) r = some (.mapIter (some m) c ((idx.map (gr es)).toArray.push es[i].born) c) := PH.bB _ _ _
  have k2 : (s.aS r (.mapIter (some m) c ((idx.map (gr es)).toArray.push es[i].born) c)) m = some (.map es c) := by rw [PH.bG _ _ hne]; exact g2
  have hpush : (idx.map (gr es)).toArray.push es[i].born = ((idx ++ [i]).map (gr es)).toArray := by
   rw [List.map_append, List.map_cons, List.map_nil, hbi]; simp
  refine h1 i p hp _ (Mod.aS (by simp)) ⟨es, c, by rw [← hpush]; exact k1, k2, g3, g4, ?_, ?_⟩ hlt fun K hK => ⟨m, c, _, c, es, es[i], k1, k2, by simp, ?_, by rw [hp1, hp2]; exact hK⟩
  ·rw [List.nodup_append];refine ⟨g5, by simp, ?_⟩;intro a ha b hb;simp at hb; subst hb;rintro rfl; exact hin ha
  ·intro j hj;rcases List.mem_append.1 hj with hj | hj
   ·exact g6 j hj
   ·simp at hj; omega
  ·rw [← Array.find?_toList]; exact ue g4.2.1 (by simp)
end
abbrev Ax (t : aP) : Value := .iface 73 t.v
abbrev wD (S : aD) (tt sh r : aP) (mb mo : Nat) : Obj := .cells #[.int .i64 S.version, .int .i64 S.last, .slice tt.1 tt.2.1 tt.2.2, .iface 73 (.slice sh.1 sh.2.1 sh.2.2), .slice r.1 r.2.1 r.2.2, .map (some mb), .map (some mo)] 147 (0, 0)
structure wF where
 p : bJ
 u : aP
def qI : cK wF where
 sz := 3
 f q := [.string q.p.1, .string q.p.2, .slice q.u.1 q.u.2.1 q.u.2.2]
 len _ := rfl
 one q v hv := by simp at hv; rcases hv with rfl | rfl | rfl <;> rfl
 pos := by omega
def Cf : cK (BA × Int) where
 sz := 2
 f q := [.string q.1, .int .i64 q.2]
 len _ := rfl
 one q v hv := by simp at hv; rcases hv with rfl | rfl <;> rfl
 pos := by omega
def stamps (l : List Ht) : List (BA × Int) := l.map fun h => (h.key, h.ts)
abbrev sx (x : Wr) : Value := .agg #[.string x.key, .string x.val, .bool x.dead]
abbrev gS (u : aP) : Value := .slice u.1 u.2.1 u.2.2
structure D4 (s0 s : PH) (w : Nat) (S : aD) (tt sh : aP) (B : List Ht) (rds : List bJ) (ov : List Wr) (r : aP) (mb mo : Nat) (qs : List wF) (bs : List (bJ × aP)) (f : List (BA × Wr)) : Prop where
 md : Fw.Mod [] s0 s
 w0 : s0 w = none
 aU : s w = some (wD S tt sh r mb mo)
 mb0 : s0 mb = none
 mo0 : s0 mo = none
 ne : mb ≠ mo
 rd : Gw qI 132 s0 s r.1 r.2.1 r.2.2 qs
 rdq : qs.map (·.p) = rds
 seen : ∀ q ∈ qs, bp Cf s 215 q.u.1 q.u.2.1 q.u.2.2 (stamps (au B q.p))
 bm : lF wq gS s mb bs
 bmq : bs.map (·.1) = rds
 bv : ∀ e ∈ bs, bp bl s 75 e.2.1 e.2.2.1 e.2.2.2 (au B e.1)
 om : ic iB sx s mo f
 omk : ∀ p ∈ f, p.1 = p.2.key
 omp : (f.map (·.2)).Perm ov
def EI (s0 s : PH) (w : Nat) (S : aD) (tt sh : aP) (B : List Ht) (rds : List bJ) (ov : List Wr) : Prop := ∃ r mb mo qs bs f, D4 s0 s w S tt sh B rds ov r mb mo qs bs f
def Kt (s s' : PH) : Prop := ∀ k cur e, s k = some (.cells cur e (0, 0)) → e ≠ 147 → e ≠ 132 → s' k = some (.cells cur e (0, 0))
theorem Kt.refl (s : PH) : Kt s s := fun _ _ _ h _ _ => h
theorem Kt.trans {s s' s'' : PH} (h : Kt s s') (k : Kt s' s'') : Kt s s'' := fun b c e h1 h2 h3 => k b c e (h b c e h1 h2 h3) h2 h3
theorem Kt.of {s s' : PH} (h : Fw.Mod [] s s') : Kt s s' := fun b c e h1 _ _ => h.at h1 (by simp)
theorem Kt.mod {L : List Nat} {s s' : PH} (h : Fw.Mod L s s') (hL : ∀ g ∈ L, ∀ cur e, s g = some (.cells cur e (0, 0)) → e = 147 ∨ e = 132) : Kt s s' := fun b c e h1 h2 h3 =>
 h.at h1 fun hb => by rcases hL b hb c e h1 with g | g; exact h2 g; exact h3 g
theorem Kt.row {α : Type} {E : cK α} {e : TypeId} {s s' : PH} {a : OA} {n c : Nat} {l : List α} (hk : Kt s s') (h : bp E s e a n c l) (h2 : e ≠ 147) (h3 : e ≠ 132) : bp E s' e a n c l := by
 obtain ⟨g1, g2, g3, g4⟩ := h;refine ⟨g1, g2, g3, ?_⟩;rcases g4 with g4 | ⟨g, cur, e1, e2, e3, e4⟩
 ·exact .inl g4
 ·exact .inr ⟨g, cur, e1, hk g cur e e2 h2 h3, e3, e4⟩
theorem Kt.rws {s0 s s' : PH} {a : OA} {n c : Nat} {L : List Rw} {qs : List iu} (hk : Kt s s') (h : fq s0 s a n c L qs) (hm : Fw.Mod [] s0 s') : fq s0 s' a n c L qs :=
 ⟨⟨hk.row h.gw.row (by decide) (by decide), h.gw.fr, hm⟩, h.eq, fun q hq => ⟨hk.row (h.cs q hq).1 (by decide) (by decide), (h.cs q hq).2⟩⟩
section
variable {s0 s s' : PH} {w : Nat} {S : aD} {tt sh : aP} {B : List Ht} {rds : List bJ} {ov : List Wr} {r : aP} {mb mo : Nat} {qs : List wF} {bs : List (bJ × aP)} {f : List (BA × Wr)}
theorem D4.same (h : D4 s0 s w S tt sh B rds ov r mb mo qs bs f) (hm : Fw.Mod [] s s') : D4 s0 s' w S tt sh B rds ov r mb mo qs bs f :=
 ⟨h.md.trans hm, h.w0, hm.at h.aU (by simp), h.mb0, h.mo0, h.ne, h.rd.same hm, h.rdq, fun q hq => (h.seen q hq).mod hm (by simp), h.bm.mod hm (by simp), h.bmq, fun e he => (h.bv e he).mod hm (by simp), h.om.mod hm (by simp), h.omk, h.omp⟩
theorem EI.same (h : EI s0 s w S tt sh B rds ov) (hm : Fw.Mod [] s s') : EI s0 s' w S tt sh B rds ov := by
 obtain ⟨r, mb, mo, qs, bs, f, h⟩ := h;exact ⟨r, mb, mo, qs, bs, f, h.same hm⟩
theorem EI.md (h : EI s0 s w S tt sh B rds ov) : Fw.Mod [] s0 s := by obtain ⟨r, mb, mo, qs, bs, f, h⟩ := h; exact h.md
end
def gf (rds : List bJ) (p : bJ) : List bJ := if p ∈ rds then rds else rds ++ [p]
structure iI (s0 : PH) (sh : aP) (B : List Ht) : Prop where
 sl : Sl bl s0 sh B
 cO : sh.2.1 ≤ 100000
 ks : rM B
 vs : rN B
 cY : cl B
theorem jf {K V : Type} [BEq K] [LawfulBEq K] {f : List (K × V)} {k : K} : (f.lookup k = none ↔ k ∉ f.map (·.1)) ∧ ∀ v, f.lookup k = some v → (k, v) ∈ f := by
 induction f with
 | nil => simp
 | cons p f ih =>
  obtain ⟨a, b⟩ := p;simp only [List.lookup_cons, List.map_cons, List.mem_cons, not_or]
  by_cases h : k = a
  ·subst h;simp
  ·have hb : (k == a) = false := by simpa using h
   simp only [hb];exact ⟨⟨fun g => ⟨h, ih.1.1 g⟩, fun g => ih.1.2 g.2⟩, fun v g => .inr (ih.2 v g)⟩
theorem yW {K V : Type} [BEq K] [LawfulBEq K] : ∀ {f : List (K × V)} {k : K} {v : V}, f.lookup k = none → dm f k v = f ++ [(k, v)]
 | [], k, v, _ => rfl
 | (a, b) :: f, k, v, h => by
  simp only [List.lookup_cons] at h
  by_cases hk : k = a
  ·subst hk; simp at h
  ·have hb : (k == a) = false := by simpa using hk
   rw [hb] at h;simp only at h;simp only [dm, hb, Bool.false_eq_true, if_false, List.cons_append, yW h]
end
end Go.Proofs.YtlfdfgokflhdbaaGreat
