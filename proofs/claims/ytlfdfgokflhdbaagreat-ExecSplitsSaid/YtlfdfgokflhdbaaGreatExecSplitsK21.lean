/-
  Part 21 for the law: lemmas.
  Conditions: none.
-/
import Derived.Test.YtlfdfgokflhdbaaGreatExecSplitsK20
set_option maxHeartbeats 4000000
set_option maxRecDepth 100000
set_option linter.unusedVariables false
set_option linter.unusedSimpArgs false
set_option linter.unusedSectionVars false
namespace Fw
open Go
abbrev G6 {W : Type} (π : fW W) (P : Program) (la : LA) (ann : lH) (n : Nat) (fn : Func) (c : Code) (args : List AV) (ws : List Nat) : W := G7 π P la ann (jC (j4 ws args 0) n) fn c (jC (args.map some) n)
abbrev RT := Value → PH → Prop
theorem Jc {P : Program} {ann : lH} {f : FuncId} {fn : Func} {c : Code} (la : LA) (hm : P.follows .mixedOrders = true) {s : PH} {Q : Value → PH → Prop} (hf : P.funcs[f]? = some fn) (hb : fn.body = some c) (hc : eI P (ann.old la) c = true) {n : Nat} (hnn : fn.ntmps = n)
    {args : List AV} {ws : List Nat} (hn : Nat.ble args.length n = true) (hpin : zy la args.length = true) {x : W.T} (e : G6 (RP P Q) P la ann n fn c args ws = x) (h : x s) : bu P f (args.map AV.val).toArray s Q := by
 subst hnn
 exact DL la hm hf hb hc args ws (Nat.le_of_ble_eq_true hn) hpin (cast (congrFun e s).symm h)
end Fw
namespace Go.Proofs.YtlfdfgokflhdbaaGreat
open Fw Go Go.IntKind
abbrev OK (f : FuncId) (args : List AV) (v : (W : Type) → fW W → W) : Prop := ∀ (R : RT) (s : PH), v _ (RP Tryz.prog R) s → bu Tryz.prog f (args.map AV.val).toArray s R
theorem aV (la : LA) (ann : lH) (ws : List Nat) {f : FuncId} {fn : Func} {n : Nat} {args : List AV} {v : (W : Type) → fW W → W} (hf : Tryz.prog.funcs[f]? = some fn) (hn : fn.ntmps = n) (hb : fn.body = some (sZ fn))
  (hc : (eI Tryz.prog (ann.old la) (sZ fn) && (Nat.ble args.length n && zy la args.length)) = true) (e : ∀ (W : Type) (π : fW W), G6 π Tryz.prog la ann n fn (sZ fn) args ws = v W π) : OK f args v := fun R s h => by
 simp only [Bool.and_eq_true] at hc
 exact Jc (c := sZ fn) la (by kernel_rfl) hf hb hc.1 hn hc.2.1 hc.2.2 (e _ _) h
abbrev ai := bu Tryz.prog
section
variable {W : Type} (π : fW W)
open Fw.W
def Ai (tx : ByteArray) : W :=
 π.ite (decide ((↑tx.size : Int) < 1)) (
 π.ret (.bool false)
 ) (
 π.ite (decide ((↑tx.size : Int) > 16)) (
 π.ret (.bool false)
 ) (
 π.loop [(false, [.int .i64]), (false, [.int .i64])] (((↑tx.size : Int), ()), ((0 : Int), ()), ()) fun (((x1 : Int), _), ((x2 : Int), _), _) again0 =>
 π.ite (decide (x2 < x1)) (
 π.guard (0 ≤ x2 ∧ x2 < (↑tx.size : Int)) <|
 π.ite (decide ((↑(tx[x2.toNat]?.getD (0 : UInt8)).toNat : Int) ≥ 97)) (
 π.ite (!decide ((↑(tx[x2.toNat]?.getD (0 : UInt8)).toNat : Int) ≤ 122)) (
 π.ite (x2 == 0) (
 π.ret (.bool false)
 ) (
 π.ite ((↑(tx[x2.toNat]?.getD (0 : UInt8)).toNat : Int) != 95) (
 π.ite (decide ((↑(tx[x2.toNat]?.getD (0 : UInt8)).toNat : Int) < 48)) (
 π.ret (.bool false)
 ) (
 π.ite (decide ((↑(tx[x2.toNat]?.getD (0 : UInt8)).toNat : Int) > 57)) (
 π.ret (.bool false)
 ) (
 again0 ((x1, ()), (i64.wrap (x2 + 1), ()), ())
 )
 )
 ) (
 again0 ((x1, ()), (i64.wrap (x2 + 1), ()), ())
 )
 )
 ) (
 again0 ((x1, ()), (i64.wrap (x2 + 1), ()), ())
 )
 ) (
 π.ite (x2 == 0) (
 π.ret (.bool false)
 ) (
 π.ite ((↑(tx[x2.toNat]?.getD (0 : UInt8)).toNat : Int) != 95) (
 π.ite (decide ((↑(tx[x2.toNat]?.getD (0 : UInt8)).toNat : Int) < 48)) (
 π.ret (.bool false)
 ) (
 π.ite (decide ((↑(tx[x2.toNat]?.getD (0 : UInt8)).toNat : Int) > 57)) (
 π.ret (.bool false)
 ) (
 again0 ((x1, ()), (i64.wrap (x2 + 1), ()), ())
 )
 )
 ) (
 again0 ((x1, ()), (i64.wrap (x2 + 1), ()), ())
 )
 )
 )
 ) (
 π.ret (.bool true)
 )
 )
 )
theorem Gj (tx : ByteArray) : OK 169 [.v (.string tx)] fun _ π => Ai π tx :=
 aV {} { loop := [(4, [(15, 3), (16, 3)])] } [] Tryz.func169 Tryz.ntmps169 rfl (by kernel_rfl) fun _ π => by kernel_rfl
def Bx (k : Int) : W :=
 π.ite (k == 1) (
 π.ret (.bool true)
 ) (
 π.ret (.bool (k == 2))
 )
theorem Ik (k : Int) : OK 178 [.v (.int .i64 k)] fun _ π => Bx π k :=
 aV {} {} [] Tryz.func178 Tryz.ntmps178 rfl (by kernel_rfl) fun _ π => by kernel_rfl
def w9 (vk vn : Int) (vs : ByteArray) : W :=
 π.ite (vk == 0) (
 π.ite (vn == 0) (
 π.ite (!vs.toList == (ByteArray.mk #[]).toList) (
 π.ret (.int .i64 10)
 ) (
 π.ret (.int .i64 0)
 )
 ) (
 π.ret (.int .i64 10)
 )
 ) (
 π.ite (vk == 1) (
 π.ite (!vs.toList == (ByteArray.mk #[]).toList) (
 π.ret (.int .i64 10)
 ) (
 π.ret (.int .i64 0)
 )
 ) (
 π.ite (vk == 2) (
 π.ite (vn == 0) (
 π.ite (!decide ((↑vs.size : Int) ≤ 64)) (
 π.ret (.int .i64 10)
 ) (
 π.ret (.int .i64 0)
 )
 ) (
 π.ret (.int .i64 10)
 )
 ) (
 π.ret (.int .i64 10)
 )
 )
 )
theorem Eo (vk vn : Int) (vs : ByteArray) : OK 199 [.v (.agg #[.int .i64 vk, .int .i64 vn, .string vs])] fun _ π => w9 π vk vn vs :=
 aV { ptr := [(1, 1, 0), (4, 1, 0), (8, 1, 1), (12, 1, 2), (18, 1, 2), (23, 1, 1), (27, 1, 2)], ty := [(1, 28)] } {} [] Tryz.func199 Tryz.ntmps199 rfl (by kernel_rfl) fun _ π => by kernel_rfl
def Bv (vk vn : Int) (vs : ByteArray) (k : Int) : W :=
 π.call 199 #[(.agg #[(.int .i64 vk), (.int .i64 vn), (.string vs)])] (false, [(false, [.int .i64])]) fun (((x0 : Int), _), _) =>
 π.ite (x0 == 0) (
 π.ite (vk == 0) (
 π.ret (.bool true)
 ) (
 π.ret (.bool (vk == k))
 )
 ) (
 π.ret (.bool false)
 )
theorem Ii (vk vn : Int) (vs : ByteArray) (k : Int) : OK 179 [.v (.agg #[.int .i64 vk, .int .i64 vn, .string vs]), .v (.int .i64 k)] fun _ π => Bv π vk vn vs k :=
 aV { ptr := [(2, 2, 0), (9, 2, 0), (13, 2, 0)], ty := [(2, 28)] } {} [] Tryz.func179 Tryz.ntmps179 rfl (by kernel_rfl) fun _ π => by kernel_rfl
def wR (ti : Int) (tn : ByteArray) (ca : Option Addr) (can cac : Nat) (xa : Option Addr) (xan xac : Nat) (ka : Option Addr) (kan kac : Nat) : W :=
 π.ret (.string tn)
theorem Eb (ti : Int) (tn : ByteArray) (ca : Option Addr) (can cac : Nat) (xa : Option Addr) (xan xac : Nat) (ka : Option Addr) (kan kac : Nat) : OK 118 [.v (.agg #[.int .i64 ti, .string tn, .slice ca can cac, .slice xa xan xac, .slice ka kan kac])] fun _ π => wR π ti tn ca can cac xa xan xac ka kan kac :=
 aV { ptr := [(1, 1, 0), (3, 1, 1)], ty := [(1, 139)] } {} [] Tryz.func118 Tryz.ntmps118 rfl (by kernel_rfl) fun _ π => by kernel_rfl
def uu (ci : Int) (cn : ByteArray) (ck cs vk vn : Int) (vs : ByteArray) : W :=
 π.ret (.string cn)
theorem Cq (ci : Int) (cn : ByteArray) (ck cs vk vn : Int) (vs : ByteArray) : OK 172 [.v (.agg #[.int .i64 ci, .string cn, .int .i64 ck, .int .i64 cs, .int .i64 vk, .int .i64 vn, .string vs])] fun _ π => uu π ci cn ck cs vk vn vs :=
 aV { ptr := [(1, 1, 0), (3, 1, 1)], ty := [(1, 165)] } {} [] Tryz.func172 Tryz.ntmps172 rfl (by kernel_rfl) fun _ π => by kernel_rfl
def wQ (xi : Int) (xn : ByteArray) (xc : Int) (xu : Bool) (xs : Int) : W :=
 π.ret (.string xn)
theorem Ea (xi : Int) (xn : ByteArray) (xc : Int) (xu : Bool) (xs : Int) : OK 174 [.v (.agg #[.int .i64 xi, .string xn, .int .i64 xc, .bool xu, .int .i64 xs])] fun _ π => wQ π xi xn xc xu xs :=
 aV { ptr := [(1, 1, 0), (3, 1, 1)], ty := [(1, 170)] } {} [] Tryz.func174 Tryz.ntmps174 rfl (by kernel_rfl) fun _ π => by kernel_rfl
def rC (fi : Int) (fn : ByteArray) (fc fp fs : Int) : W :=
 π.ret (.string fn)
theorem AJ (fi : Int) (fn : ByteArray) (fc fp fs : Int) : OK 176 [.v (.agg #[.int .i64 fi, .string fn, .int .i64 fc, .int .i64 fp, .int .i64 fs])] fun _ π => rC π fi fn fc fp fs :=
 aV { ptr := [(1, 1, 0), (3, 1, 1)], ty := [(1, 173)] } {} [] Tryz.func176 Tryz.ntmps176 rfl (by kernel_rfl) fun _ π => by kernel_rfl
def zZ (ti : Int) (tn : ByteArray) (ca : Option Addr) (can cac : Nat) (xa : Option Addr) (xan xac : Nat) (ka : Option Addr) (kan kac : Nat) (p q : Nat) : W :=
 π.ld [.raw] (Addr.mk p 0 none) fun ((v0 : Value), _) =>
 π.ld [.str] (Addr.mk q 0 none) fun ((t1 : ByteArray), _) =>
 π.dK v0 #[(.agg #[(.int .i64 ti), (.string tn), (.slice ca can cac), (.slice xa xan xac), (.slice ka kan kac)])] (false, [(false, [.str])]) fun (((t2 : ByteArray), _), _) =>
 π.still [.str] (Addr.mk q 0 none) (t1, ()) <|
 π.ret (.bool (t2.toList == t1.toList))
theorem F7 (ti : Int) (tn : ByteArray) (ca : Option Addr) (can cac : Nat) (xa : Option Addr) (xan xac : Nat) (ka : Option Addr) (kan kac : Nat) (p q : Nat) : OK 204 [.v (.agg #[.int .i64 ti, .string tn, .slice ca can cac, .slice xa xan xac, .slice ka kan kac]), .v (.pointer (some ⟨p, 0, none⟩)), .v (.pointer (some ⟨q, 0, none⟩))] fun _ π => zZ π ti tn ca can cac xa xan xac ka kan kac p q :=
 aV { ptr := [(3, 3, 0)], ty := [(3, 139)] } { draws := [(1, { A := [0, 1, 3], chkL := [(2, [3])], eag := [4, 5] })],  } [] Tryz.func204 Tryz.ntmps204 rfl (by kernel_rfl) fun _ π => by kernel_rfl
def z6 (ci : Int) (cn : ByteArray) (ck cs vk vn : Int) (vs : ByteArray) (p q : Nat) : W :=
 π.ld [.raw] (Addr.mk p 0 none) fun ((v0 : Value), _) =>
 π.ld [.str] (Addr.mk q 0 none) fun ((t1 : ByteArray), _) =>
 π.dK v0 #[(.agg #[(.int .i64 ci), (.string cn), (.int .i64 ck), (.int .i64 cs), (.int .i64 vk), (.int .i64 vn), (.string vs)])] (false, [(false, [.str])]) fun (((t2 : ByteArray), _), _) =>
 π.still [.str] (Addr.mk q 0 none) (t1, ()) <|
 π.ret (.bool (t2.toList == t1.toList))
theorem F8 (ci : Int) (cn : ByteArray) (ck cs vk vn : Int) (vs : ByteArray) (p q : Nat) : OK 270 [.v (.agg #[.int .i64 ci, .string cn, .int .i64 ck, .int .i64 cs, .int .i64 vk, .int .i64 vn, .string vs]), .v (.pointer (some ⟨p, 0, none⟩)), .v (.pointer (some ⟨q, 0, none⟩))] fun _ π => z6 π ci cn ck cs vk vn vs p q :=
 aV { ptr := [(3, 3, 0)], ty := [(3, 165)] } { draws := [(1, { A := [0, 1, 3], chkL := [(2, [3])], eag := [4, 5] })],  } [] Tryz.func270 Tryz.ntmps270 rfl (by kernel_rfl) fun _ π => by kernel_rfl
def z7 (xi : Int) (xn : ByteArray) (xc : Int) (xu : Bool) (xs : Int) (p q : Nat) : W :=
 π.ld [.raw] (Addr.mk p 0 none) fun ((v0 : Value), _) =>
 π.ld [.str] (Addr.mk q 0 none) fun ((t1 : ByteArray), _) =>
 π.dK v0 #[(.agg #[(.int .i64 xi), (.string xn), (.int .i64 xc), (.bool xu), (.int .i64 xs)])] (false, [(false, [.str])]) fun (((t2 : ByteArray), _), _) =>
 π.still [.str] (Addr.mk q 0 none) (t1, ()) <|
 π.ret (.bool (t2.toList == t1.toList))
theorem F9 (xi : Int) (xn : ByteArray) (xc : Int) (xu : Bool) (xs : Int) (p q : Nat) : OK 271 [.v (.agg #[.int .i64 xi, .string xn, .int .i64 xc, .bool xu, .int .i64 xs]), .v (.pointer (some ⟨p, 0, none⟩)), .v (.pointer (some ⟨q, 0, none⟩))] fun _ π => z7 π xi xn xc xu xs p q :=
 aV { ptr := [(3, 3, 0)], ty := [(3, 170)] } { draws := [(1, { A := [0, 1, 3], chkL := [(2, [3])], eag := [4, 5] })],  } [] Tryz.func271 Tryz.ntmps271 rfl (by kernel_rfl) fun _ π => by kernel_rfl
def z8 (fi : Int) (fn : ByteArray) (fc fp fs : Int) (p q : Nat) : W :=
 π.ld [.raw] (Addr.mk p 0 none) fun ((v0 : Value), _) =>
 π.ld [.str] (Addr.mk q 0 none) fun ((t1 : ByteArray), _) =>
 π.dK v0 #[(.agg #[(.int .i64 fi), (.string fn), (.int .i64 fc), (.int .i64 fp), (.int .i64 fs)])] (false, [(false, [.str])]) fun (((t2 : ByteArray), _), _) =>
 π.still [.str] (Addr.mk q 0 none) (t1, ()) <|
 π.ret (.bool (t2.toList == t1.toList))
theorem Ga (fi : Int) (fn : ByteArray) (fc fp fs : Int) (p q : Nat) : OK 272 [.v (.agg #[.int .i64 fi, .string fn, .int .i64 fc, .int .i64 fp, .int .i64 fs]), .v (.pointer (some ⟨p, 0, none⟩)), .v (.pointer (some ⟨q, 0, none⟩))] fun _ π => z8 π fi fn fc fp fs p q :=
 aV { ptr := [(3, 3, 0)], ty := [(3, 173)] } { draws := [(1, { A := [0, 1, 3], chkL := [(2, [3])], eag := [4, 5] })],  } [] Tryz.func272 Tryz.ntmps272 rfl (by kernel_rfl) fun _ π => by kernel_rfl
def pF (a : Option Addr) (an ac : Nat) (p q : Nat) : W :=
 π.loop [(false, [.int .i64]), (false, [.int .i64])] (((↑an : Int), ()), ((0 : Int), ()), ()) fun (((x1 : Int), _), ((x2 : Int), _), _) again0 =>
 π.ite (decide (x2 < x1)) (
 π.guard (0 ≤ x2 ∧ x2 < (↑an : Int)) <|
 π.af (a) fun p3 =>
 π.ld [.int .i64, .str, .slice, .slice, .slice] (p3.add (x2.toNat * 5)) fun ((x4 : Int), (t5 : ByteArray), ((a6 : Option Addr), (n7 : Nat), (c8 : Nat)), ((a9 : Option Addr), (n10 : Nat), (c11 : Nat)), ((a12 : Option Addr), (n13 : Nat), (c14 : Nat)), _) =>
 π.call 204 #[(.agg #[(.int .i64 x4), (.string t5), (.slice a6 n7 c8), (.slice a9 n10 c11), (.slice a12 n13 c14)]), (.pointer (some (Addr.mk p 0 none))), (.pointer (some (Addr.mk q 0 none)))] (false, [(false, [.bool])]) fun (((b15 : Bool), _), _) =>
 π.ite (b15) (
 π.ret (.int .i64 x2)
 ) (
 again0 ((x1, ()), (i64.wrap (x2 + 1), ()), ())
 )
 ) (
 π.ret (.int .i64 (-1))
 )
theorem xH (a : Option Addr) (an ac : Nat) (p q : Nat) : OK 128 [.v (.slice a an ac), .v (.func (.func 204) #[] #[.pointer (some ⟨p, 0, none⟩), .pointer (some ⟨q, 0, none⟩)])] fun _ π => pF π a an ac p q :=
 aV {} { loop := [(2, [(7, 3), (8, 3)])] } [] Tryz.func128 Tryz.ntmps128 rfl (by kernel_rfl) fun _ π => by kernel_rfl
def pq (a : Option Addr) (an ac : Nat) (p q : Nat) : W :=
 π.loop [(false, [.int .i64]), (false, [.int .i64])] (((↑an : Int), ()), ((0 : Int), ()), ()) fun (((x1 : Int), _), ((x2 : Int), _), _) again0 =>
 π.ite (decide (x2 < x1)) (
 π.guard (0 ≤ x2 ∧ x2 < (↑an : Int)) <|
 π.af (a) fun p3 =>
 π.ld [.int .i64, .str, .int .i64, .int .i64, .int .i64, .int .i64, .str] (p3.add (x2.toNat * 7)) fun ((x4 : Int), (t5 : ByteArray), (x6 : Int), (x7 : Int), (x8 : Int), (x9 : Int), (t10 : ByteArray), _) =>
 π.call 270 #[(.agg #[(.int .i64 x4), (.string t5), (.int .i64 x6), (.int .i64 x7), (.int .i64 x8), (.int .i64 x9), (.string t10)]), (.pointer (some (Addr.mk p 0 none))), (.pointer (some (Addr.mk q 0 none)))] (false, [(false, [.bool])]) fun (((b11 : Bool), _), _) =>
 π.ite (b11) (
 π.ret (.int .i64 x2)
 ) (
 again0 ((x1, ()), (i64.wrap (x2 + 1), ()), ())
 )
 ) (
 π.ret (.int .i64 (-1))
 )
theorem xE (a : Option Addr) (an ac : Nat) (p q : Nat) : OK 92 [.v (.slice a an ac), .v (.func (.func 270) #[] #[.pointer (some ⟨p, 0, none⟩), .pointer (some ⟨q, 0, none⟩)])] fun _ π => pq π a an ac p q :=
 aV {} { loop := [(2, [(7, 3), (8, 3)])] } [] Tryz.func92 Tryz.ntmps92 rfl (by kernel_rfl) fun _ π => by kernel_rfl
def pG (a : Option Addr) (an ac : Nat) (p q : Nat) : W :=
 π.loop [(false, [.int .i64]), (false, [.int .i64])] (((↑an : Int), ()), ((0 : Int), ()), ()) fun (((x1 : Int), _), ((x2 : Int), _), _) again0 =>
 π.ite (decide (x2 < x1)) (
 π.guard (0 ≤ x2 ∧ x2 < (↑an : Int)) <|
 π.af (a) fun p3 =>
 π.ld [.int .i64, .str, .int .i64, .bool, .int .i64] (p3.add (x2.toNat * 5)) fun ((x4 : Int), (t5 : ByteArray), (x6 : Int), (b7 : Bool), (x8 : Int), _) =>
 π.call 271 #[(.agg #[(.int .i64 x4), (.string t5), (.int .i64 x6), (.bool b7), (.int .i64 x8)]), (.pointer (some (Addr.mk p 0 none))), (.pointer (some (Addr.mk q 0 none)))] (false, [(false, [.bool])]) fun (((b9 : Bool), _), _) =>
 π.ite (b9) (
 π.ret (.int .i64 x2)
 ) (
 again0 ((x1, ()), (i64.wrap (x2 + 1), ()), ())
 )
 ) (
 π.ret (.int .i64 (-1))
 )
theorem xI (a : Option Addr) (an ac : Nat) (p q : Nat) : OK 90 [.v (.slice a an ac), .v (.func (.func 271) #[] #[.pointer (some ⟨p, 0, none⟩), .pointer (some ⟨q, 0, none⟩)])] fun _ π => pG π a an ac p q :=
 aV {} { loop := [(2, [(7, 3), (8, 3)])] } [] Tryz.func90 Tryz.ntmps90 rfl (by kernel_rfl) fun _ π => by kernel_rfl
def pE (a : Option Addr) (an ac : Nat) (p q : Nat) : W :=
 π.loop [(false, [.int .i64]), (false, [.int .i64])] (((↑an : Int), ()), ((0 : Int), ()), ()) fun (((x1 : Int), _), ((x2 : Int), _), _) again0 =>
 π.ite (decide (x2 < x1)) (
 π.guard (0 ≤ x2 ∧ x2 < (↑an : Int)) <|
 π.af (a) fun p3 =>
 π.ld [.int .i64, .str, .int .i64, .int .i64, .int .i64] (p3.add (x2.toNat * 5)) fun ((x4 : Int), (t5 : ByteArray), (x6 : Int), (x7 : Int), (x8 : Int), _) =>
 π.call 272 #[(.agg #[(.int .i64 x4), (.string t5), (.int .i64 x6), (.int .i64 x7), (.int .i64 x8)]), (.pointer (some (Addr.mk p 0 none))), (.pointer (some (Addr.mk q 0 none)))] (false, [(false, [.bool])]) fun (((b9 : Bool), _), _) =>
 π.ite (b9) (
 π.ret (.int .i64 x2)
 ) (
 again0 ((x1, ()), (i64.wrap (x2 + 1), ()), ())
 )
 ) (
 π.ret (.int .i64 (-1))
 )
theorem xG (a : Option Addr) (an ac : Nat) (p q : Nat) : OK 94 [.v (.slice a an ac), .v (.func (.func 272) #[] #[.pointer (some ⟨p, 0, none⟩), .pointer (some ⟨q, 0, none⟩)])] fun _ π => pE π a an ac p q :=
 aV {} { loop := [(2, [(7, 3), (8, 3)])] } [] Tryz.func94 Tryz.ntmps94 rfl (by kernel_rfl) fun _ π => by kernel_rfl
def Ac (a : Option Addr) (an ac : Nat) (name : ByteArray) : W :=
 π.nw (Obj.cells #[(.string name)] (9 : Nat) (0, 0)) fun r0 =>
 π.nw (Obj.cells #[(.func (Fn.func (118 : Nat)) #[] #[])] (224 : Nat) (0, 0)) fun r1 =>
 π.call 128 #[(.slice a an ac), (.func (Fn.func (204 : Nat)) #[] #[(.pointer (some (Addr.mk r1 0 none))), (.pointer (some (Addr.mk r0 0 none)))])] (false, [(false, [.int .i64])]) fun (((x2 : Int), _), _) =>
 π.ret (.int .i64 x2)
theorem Gd (a : Option Addr) (an ac : Nat) (name : ByteArray) : OK 142 [.v (.slice a an ac), .v (.string name), .v (.func (.func 118) #[] #[])] fun _ π => Ac π a an ac name :=
 aV {} {} [] Tryz.func142 Tryz.ntmps142 rfl (by kernel_rfl) fun _ π => by kernel_rfl
def Aa (a : Option Addr) (an ac : Nat) (name : ByteArray) : W :=
 π.nw (Obj.cells #[(.string name)] (9 : Nat) (0, 0)) fun r0 =>
 π.nw (Obj.cells #[(.func (Fn.func (172 : Nat)) #[] #[])] (272 : Nat) (0, 0)) fun r1 =>
 π.call 92 #[(.slice a an ac), (.func (Fn.func (270 : Nat)) #[] #[(.pointer (some (Addr.mk r1 0 none))), (.pointer (some (Addr.mk r0 0 none)))])] (false, [(false, [.int .i64])]) fun (((x2 : Int), _), _) =>
 π.ret (.int .i64 x2)
theorem Gb (a : Option Addr) (an ac : Nat) (name : ByteArray) : OK 227 [.v (.slice a an ac), .v (.string name), .v (.func (.func 172) #[] #[])] fun _ π => Aa π a an ac name :=
 aV {} {} [] Tryz.func227 Tryz.ntmps227 rfl (by kernel_rfl) fun _ π => by kernel_rfl
def Ad (a : Option Addr) (an ac : Nat) (name : ByteArray) : W :=
 π.nw (Obj.cells #[(.string name)] (9 : Nat) (0, 0)) fun r0 =>
 π.nw (Obj.cells #[(.func (Fn.func (174 : Nat)) #[] #[])] (274 : Nat) (0, 0)) fun r1 =>
 π.call 90 #[(.slice a an ac), (.func (Fn.func (271 : Nat)) #[] #[(.pointer (some (Addr.mk r1 0 none))), (.pointer (some (Addr.mk r0 0 none)))])] (false, [(false, [.int .i64])]) fun (((x2 : Int), _), _) =>
 π.ret (.int .i64 x2)
theorem Ge (a : Option Addr) (an ac : Nat) (name : ByteArray) : OK 228 [.v (.slice a an ac), .v (.string name), .v (.func (.func 174) #[] #[])] fun _ π => Ad π a an ac name :=
 aV {} {} [] Tryz.func228 Tryz.ntmps228 rfl (by kernel_rfl) fun _ π => by kernel_rfl
def Ab (a : Option Addr) (an ac : Nat) (name : ByteArray) : W :=
 π.nw (Obj.cells #[(.string name)] (9 : Nat) (0, 0)) fun r0 =>
 π.nw (Obj.cells #[(.func (Fn.func (176 : Nat)) #[] #[])] (276 : Nat) (0, 0)) fun r1 =>
 π.call 94 #[(.slice a an ac), (.func (Fn.func (272 : Nat)) #[] #[(.pointer (some (Addr.mk r1 0 none))), (.pointer (some (Addr.mk r0 0 none)))])] (false, [(false, [.int .i64])]) fun (((x2 : Int), _), _) =>
 π.ret (.int .i64 x2)
theorem Gc (a : Option Addr) (an ac : Nat) (name : ByteArray) : OK 229 [.v (.slice a an ac), .v (.string name), .v (.func (.func 176) #[] #[])] fun _ π => Ab π a an ac name :=
 aV {} {} [] Tryz.func229 Tryz.ntmps229 rfl (by kernel_rfl) fun _ π => by kernel_rfl
def E2 (ci : Int) (cn : ByteArray) (ck cs vk vn : Int) (vs : ByteArray) (p : Nat) : W :=
 π.ld [.int .i64] (Addr.mk p 0 none) fun ((x0 : Int), _) =>
 π.ret (.bool (ci == x0))
theorem Jw (ci : Int) (cn : ByteArray) (ck cs vk vn : Int) (vs : ByteArray) (p : Nat) : OK 230 [.v (.agg #[.int .i64 ci, .string cn, .int .i64 ck, .int .i64 cs, .int .i64 vk, .int .i64 vn, .string vs]), .v (.pointer (some ⟨p, 0, none⟩))] fun _ π => E2 π ci cn ck cs vk vn vs p :=
 aV { ptr := [(2, 2, 0), (4, 2, 0)], ty := [(2, 165)] } {} [] Tryz.func230 Tryz.ntmps230 rfl (by kernel_rfl) fun _ π => by kernel_rfl
def zY (ti : Int) (tn : ByteArray) (ca : Option Addr) (can cac : Nat) (xa : Option Addr) (xan xac : Nat) (ka : Option Addr) (kan kac : Nat) (p : Nat) : W :=
 π.ld [.int .i64] (Addr.mk p 0 none) fun ((x0 : Int), _) =>
 π.ret (.bool (ti == x0))
theorem F6 (ti : Int) (tn : ByteArray) (ca : Option Addr) (can cac : Nat) (xa : Option Addr) (xan xac : Nat) (ka : Option Addr) (kan kac : Nat) (p : Nat) : OK 231 [.v (.agg #[.int .i64 ti, .string tn, .slice ca can cac, .slice xa xan xac, .slice ka kan kac]), .v (.pointer (some ⟨p, 0, none⟩))] fun _ π => zY π ti tn ca can cac xa xan xac ka kan kac p :=
 aV { ptr := [(2, 2, 0), (4, 2, 0)], ty := [(2, 139)] } {} [] Tryz.func231 Tryz.ntmps231 rfl (by kernel_rfl) fun _ π => by kernel_rfl
def nU (a : Option Addr) (an ac : Nat) (p : Nat) : W :=
 π.loop [(false, [.int .i64]), (false, [.int .i64])] (((↑an : Int), ()), ((0 : Int), ()), ()) fun (((x1 : Int), _), ((x2 : Int), _), _) again0 =>
 π.ite (decide (x2 < x1)) (
 π.guard (0 ≤ x2 ∧ x2 < (↑an : Int)) <|
 π.af (a) fun p3 =>
 π.ld [.int .i64, .str, .int .i64, .int .i64, .int .i64, .int .i64, .str] (p3.add (x2.toNat * 7)) fun ((x4 : Int), (t5 : ByteArray), (x6 : Int), (x7 : Int), (x8 : Int), (x9 : Int), (t10 : ByteArray), _) =>
 π.call 230 #[(.agg #[(.int .i64 x4), (.string t5), (.int .i64 x6), (.int .i64 x7), (.int .i64 x8), (.int .i64 x9), (.string t10)]), (.pointer (some (Addr.mk p 0 none)))] (false, [(false, [.bool])]) fun (((b11 : Bool), _), _) =>
 π.ite (b11) (
 π.ret (.int .i64 x2)
 ) (
 again0 ((x1, ()), (i64.wrap (x2 + 1), ()), ())
 )
 ) (
 π.ret (.int .i64 (-1))
 )
theorem vq (a : Option Addr) (an ac : Nat) (p : Nat) : OK 92 [.v (.slice a an ac), .v (.func (.func 230) #[] #[.pointer (some ⟨p, 0, none⟩)])] fun _ π => nU π a an ac p :=
 aV {} { loop := [(2, [(7, 3), (8, 3)])] } [] Tryz.func92 Tryz.ntmps92 rfl (by kernel_rfl) fun _ π => by kernel_rfl
def mE (a : Option Addr) (an ac : Nat) (p : Nat) : W :=
 π.loop [(false, [.int .i64]), (false, [.int .i64])] (((↑an : Int), ()), ((0 : Int), ()), ()) fun (((x1 : Int), _), ((x2 : Int), _), _) again0 =>
 π.ite (decide (x2 < x1)) (
 π.guard (0 ≤ x2 ∧ x2 < (↑an : Int)) <|
 π.af (a) fun p3 =>
 π.ld [.int .i64, .str, .slice, .slice, .slice] (p3.add (x2.toNat * 5)) fun ((x4 : Int), (t5 : ByteArray), ((a6 : Option Addr), (n7 : Nat), (c8 : Nat)), ((a9 : Option Addr), (n10 : Nat), (c11 : Nat)), ((a12 : Option Addr), (n13 : Nat), (c14 : Nat)), _) =>
 π.call 231 #[(.agg #[(.int .i64 x4), (.string t5), (.slice a6 n7 c8), (.slice a9 n10 c11), (.slice a12 n13 c14)]), (.pointer (some (Addr.mk p 0 none)))] (false, [(false, [.bool])]) fun (((b15 : Bool), _), _) =>
 π.ite (b15) (
 π.ret (.int .i64 x2)
 ) (
 again0 ((x1, ()), (i64.wrap (x2 + 1), ()), ())
 )
 ) (
 π.ret (.int .i64 (-1))
 )
theorem sB (a : Option Addr) (an ac : Nat) (p : Nat) : OK 128 [.v (.slice a an ac), .v (.func (.func 231) #[] #[.pointer (some ⟨p, 0, none⟩)])] fun _ π => mE π a an ac p :=
 aV {} { loop := [(2, [(7, 3), (8, 3)])] } [] Tryz.func128 Tryz.ntmps128 rfl (by kernel_rfl) fun _ π => by kernel_rfl
def Hs (ti : Int) (tn : ByteArray) (ca : Option Addr) (can cac : Nat) (xa : Option Addr) (xan xac : Nat) (ka : Option Addr) (kan kac : Nat) (id : Int) : W :=
 π.nw (Obj.cells #[(.int .i64 id)] (3 : Nat) (0, 0)) fun r0 =>
 π.call 92 #[(.slice ca can cac), (.func (Fn.func (230 : Nat)) #[] #[(.pointer (some (Addr.mk r0 0 none)))])] (false, [(false, [.int .i64])]) fun (((x1 : Int), _), _) =>
 π.ret (.int .i64 x1)
theorem JW (ti : Int) (tn : ByteArray) (ca : Option Addr) (can cac : Nat) (xa : Option Addr) (xan xac : Nat) (ka : Option Addr) (kan kac : Nat) (id : Int) : OK 180 [.v (.agg #[.int .i64 ti, .string tn, .slice ca can cac, .slice xa xan xac, .slice ka kan kac]), .v (.int .i64 id)] fun _ π => Hs π ti tn ca can cac xa xan xac ka kan kac id :=
 aV { ptr := [(2, 2, 0), (5, 2, 2)], ty := [(2, 139)] } {} [] Tryz.func180 Tryz.ntmps180 rfl (by kernel_rfl) fun _ π => by kernel_rfl
def Bt (sv sl : Int) (sa : Option Addr) (san sac : Nat) (id : Int) : W :=
 π.nw (Obj.cells #[(.int .i64 id)] (3 : Nat) (0, 0)) fun r0 =>
 π.call 128 #[(.slice sa san sac), (.func (Fn.func (231 : Nat)) #[] #[(.pointer (some (Addr.mk r0 0 none)))])] (false, [(false, [.int .i64])]) fun (((x1 : Int), _), _) =>
 π.ret (.int .i64 x1)
theorem Ig (sv sl : Int) (sa : Option Addr) (san sac : Nat) (id : Int) : OK 181 [.v (.agg #[.int .i64 sv, .int .i64 sl, .slice sa san sac]), .v (.int .i64 id)] fun _ π => Bt π sv sl sa san sac id :=
 aV { ptr := [(2, 2, 0), (5, 2, 2)], ty := [(2, 43)] } {} [] Tryz.func181 Tryz.ntmps181 rfl (by kernel_rfl) fun _ π => by kernel_rfl
def w5 (tx : ByteArray) : W :=
 π.ite ((↑tx.size : Int) == 0) (
 π.ret (.bool false)
 ) (
 π.ite (decide ((↑tx.size : Int) > 16)) (
 π.ret (.bool false)
 ) (
 π.loop [(false, [.int .i64])] (((0 : Int), ()), ()) fun (((x1 : Int), _), _) again0 =>
 π.ite (decide (x1 < (↑tx.size : Int))) (
 π.guard (0 ≤ x1 ∧ x1 < (↑tx.size : Int)) <|
 π.ite (decide ((↑(tx[x1.toNat]?.getD (0 : UInt8)).toNat : Int) ≥ 97)) (
 π.guard (0 ≤ x1 ∧ x1 < (↑tx.size : Int)) <|
 π.guard (0 ≤ x1 ∧ x1 < (↑tx.size : Int)) <|
 π.ite ((↑(tx[x1.toNat]?.getD (0 : UInt8)).toNat : Int) == 95) (
 π.ite (!decide ((↑(tx[x1.toNat]?.getD (0 : UInt8)).toNat : Int) ≤ 122)) (
 π.ite (x1 == 0) (
 π.ret (.bool false)
 ) (
 again0 ((i64.wrap (x1 + 1), ()), ())
 )
 ) (
 again0 ((i64.wrap (x1 + 1), ()), ())
 )
 ) (
 π.guard (0 ≤ x1 ∧ x1 < (↑tx.size : Int)) <|
 π.ite (decide ((↑(tx[x1.toNat]?.getD (0 : UInt8)).toNat : Int) ≥ 48)) (
 π.guard (0 ≤ x1 ∧ x1 < (↑tx.size : Int)) <|
 π.ite (!decide ((↑(tx[x1.toNat]?.getD (0 : UInt8)).toNat : Int) ≤ 122)) (
 π.ite (!decide ((↑(tx[x1.toNat]?.getD (0 : UInt8)).toNat : Int) ≤ 57)) (
 π.ret (.bool false)
 ) (
 π.ite (x1 == 0) (
 π.ret (.bool false)
 ) (
 again0 ((i64.wrap (x1 + 1), ()), ())
 )
 )
 ) (
 again0 ((i64.wrap (x1 + 1), ()), ())
 )
 ) (
 π.ite (!decide ((↑(tx[x1.toNat]?.getD (0 : UInt8)).toNat : Int) ≤ 122)) (
 π.ret (.bool false)
 ) (
 again0 ((i64.wrap (x1 + 1), ()), ())
 )
 )
 )
 ) (
 π.guard (0 ≤ x1 ∧ x1 < (↑tx.size : Int)) <|
 π.ite ((↑(tx[x1.toNat]?.getD (0 : UInt8)).toNat : Int) == 95) (
 π.ite (x1 == 0) (
 π.ret (.bool false)
 ) (
 again0 ((i64.wrap (x1 + 1), ()), ())
 )
 ) (
 π.guard (0 ≤ x1 ∧ x1 < (↑tx.size : Int)) <|
 π.ite (decide ((↑(tx[x1.toNat]?.getD (0 : UInt8)).toNat : Int) ≥ 48)) (
 π.guard (0 ≤ x1 ∧ x1 < (↑tx.size : Int)) <|
 π.ite (!decide ((↑(tx[x1.toNat]?.getD (0 : UInt8)).toNat : Int) ≤ 57)) (
 π.ret (.bool false)
 ) (
 π.ite (x1 == 0) (
 π.ret (.bool false)
 ) (
 again0 ((i64.wrap (x1 + 1), ()), ())
 )
 )
 ) (
 π.ret (.bool false)
 )
 )
 )
 ) (
 π.ret (.bool true)
 )
 )
 )
theorem El (tx : ByteArray) : OK 68 [.v (.string tx)] fun _ π => w5 π tx :=
 aV {} { loop := [(4, [(3, 3)])] } [] Tryz.func68 Tryz.ntmps68 rfl (by kernel_rfl) fun _ π => by kernel_rfl
def w7 (k : Int) : W :=
 π.ite (k == 1) (
 π.ret (.bool true)
 ) (
 π.ret (.bool (k == 2))
 )
theorem En (k : Int) : OK 71 [.v (.int .i64 k)] fun _ π => w7 π k :=
 aV {} {} [] Tryz.func71 Tryz.ntmps71 rfl (by kernel_rfl) fun _ π => by kernel_rfl
def uD (vk vn : Int) (vs : ByteArray) : W :=
 π.ite (vk == 0) (
 π.ite (vn == 0) (
 π.ret (.bool (vs.toList == (ByteArray.mk #[]).toList))
 ) (
 π.ret (.bool false)
 )
 ) (
 π.ite (vk == 1) (
 π.ret (.bool (vs.toList == (ByteArray.mk #[]).toList))
 ) (
 π.ite (vk == 2) (
 π.ite (vn == 0) (
 π.ret (.bool (decide ((↑vs.size : Int) ≤ 64)))
 ) (
 π.ret (.bool false)
 )
 ) (
 π.ret (.bool false)
 )
 )
 )
theorem Cy (vk vn : Int) (vs : ByteArray) : OK 137 [.v (.agg #[.int .i64 vk, .int .i64 vn, .string vs])] fun _ π => uD π vk vn vs :=
 aV { ptr := [(1, 1, 0), (3, 1, 0), (6, 1, 1), (10, 1, 2), (14, 1, 0), (17, 1, 2), (20, 1, 0), (24, 1, 1), (29, 1, 2)], ty := [(1, 28)] } {} [] Tryz.func137 Tryz.ntmps137 rfl (by kernel_rfl) fun _ π => by kernel_rfl
def Ak (vk vn : Int) (vs : ByteArray) (k : Int) : W :=
 π.call 137 #[(.agg #[(.int .i64 vk), (.int .i64 vn), (.string vs)])] (false, [(false, [.bool])]) fun (((b0 : Bool), _), _) =>
 π.ite (b0) (
 π.ite (vk == 0) (
 π.ret (.bool true)
 ) (
 π.ret (.bool (vk == k))
 )
 ) (
 π.ret (.bool false)
 )
theorem Gl (vk vn : Int) (vs : ByteArray) (k : Int) : OK 72 [.v (.agg #[.int .i64 vk, .int .i64 vn, .string vs]), .v (.int .i64 k)] fun _ π => Ak π vk vn vs k :=
 aV { ptr := [(2, 2, 0), (8, 2, 0), (12, 2, 0)], ty := [(2, 28)] } {} [] Tryz.func72 Tryz.ntmps72 rfl (by kernel_rfl) fun _ π => by kernel_rfl
def rF (sv sl : Int) (sa : Option Addr) (san sac : Nat) (name : ByteArray) : W :=
 π.loop [(true, [.int .i64, .int .i64, .slice]), (false, [.int .i64])] ((sv, sl, (sa, san, sac), ()), ((0 : Int), ()), ()) fun (((x1 : Int), (x2 : Int), ((a3 : Option Addr), (n4 : Nat), (c5 : Nat)), _), ((x6 : Int), _), _) again0 =>
 π.ite (decide (x6 < (↑n4 : Int))) (
 π.guard (0 ≤ x6 ∧ x6 < (↑n4 : Int)) <|
 π.af (a3) fun p7 =>
 π.ld [.str] ((p7.add (x6.toNat * 5)).add 1) fun ((t8 : ByteArray), _) =>
 π.ite (t8.toList == name.toList) (
 π.ret (.int .i64 x6)
 ) (
 again0 ((x1, x2, (a3, n4, c5), ()), (i64.wrap (x6 + 1), ()), ())
 )
 ) (
 π.ret (.int .i64 (-1))
 )
theorem AM (sv sl : Int) (sa : Option Addr) (san sac : Nat) (name : ByteArray) : OK 69 [.v (.agg #[.int .i64 sv, .int .i64 sl, .slice sa san sac]), .v (.string name)] fun _ π => rF π sv sl sa san sac name :=
 aV { ptr := [(2, 2, 0), (7, 2, 2), (13, 2, 2)], ty := [(2, 43)] } { loop := [(2, [(2, 43), (5, 3)])] } [] Tryz.func69 Tryz.ntmps69 rfl (by kernel_rfl) fun _ π => by kernel_rfl
def rG (sv sl : Int) (sa : Option Addr) (san sac : Nat) (id : Int) : W :=
 π.loop [(true, [.int .i64, .int .i64, .slice]), (false, [.int .i64])] ((sv, sl, (sa, san, sac), ()), ((0 : Int), ()), ()) fun (((x1 : Int), (x2 : Int), ((a3 : Option Addr), (n4 : Nat), (c5 : Nat)), _), ((x6 : Int), _), _) again0 =>
 π.ite (decide (x6 < (↑n4 : Int))) (
 π.guard (0 ≤ x6 ∧ x6 < (↑n4 : Int)) <|
 π.af (a3) fun p7 =>
 π.ld [.int .i64] ((p7.add (x6.toNat * 5)).add 0) fun ((x8 : Int), _) =>
 π.ite (x8 == id) (
 π.ret (.int .i64 x6)
 ) (
 again0 ((x1, x2, (a3, n4, c5), ()), (i64.wrap (x6 + 1), ()), ())
 )
 ) (
 π.ret (.int .i64 (-1))
 )
theorem AN (sv sl : Int) (sa : Option Addr) (san sac : Nat) (id : Int) : OK 75 [.v (.agg #[.int .i64 sv, .int .i64 sl, .slice sa san sac]), .v (.int .i64 id)] fun _ π => rG π sv sl sa san sac id :=
 aV { ptr := [(2, 2, 0), (7, 2, 2), (13, 2, 2)], ty := [(2, 43)] } { loop := [(2, [(2, 43), (5, 3)])] } [] Tryz.func75 Tryz.ntmps75 rfl (by kernel_rfl) fun _ π => by kernel_rfl
def qz (ti : Int) (tn : ByteArray) (ca : Option Addr) (can cac : Nat) (xa : Option Addr) (xan xac : Nat) (ka : Option Addr) (kan kac : Nat) (name : ByteArray) : W :=
 π.loop [(true, [.int .i64, .str, .slice, .slice, .slice]), (false, [.int .i64])] ((ti, tn, (ca, can, cac), (xa, xan, xac), (ka, kan, kac), ()), ((0 : Int), ()), ()) fun (((x1 : Int), (t2 : ByteArray), ((a3 : Option Addr), (n4 : Nat), (c5 : Nat)), ((a6 : Option Addr), (n7 : Nat), (c8 : Nat)), ((a9 : Option Addr), (n10 : Nat), (c11 : Nat)), _), ((x12 : Int), _), _) again0 =>
 π.ite (decide (x12 < (↑n4 : Int))) (
 π.guard (0 ≤ x12 ∧ x12 < (↑n4 : Int)) <|
 π.af (a3) fun p13 =>
 π.ld [.str] ((p13.add (x12.toNat * 7)).add 1) fun ((t14 : ByteArray), _) =>
 π.ite (t14.toList == name.toList) (
 π.ret (.int .i64 x12)
 ) (
 again0 ((x1, t2, (a3, n4, c5), (a6, n7, c8), (a9, n10, c11), ()), (i64.wrap (x12 + 1), ()), ())
 )
 ) (
 π.ret (.int .i64 (-1))
 )
theorem zm (ti : Int) (tn : ByteArray) (ca : Option Addr) (can cac : Nat) (xa : Option Addr) (xan xac : Nat) (ka : Option Addr) (kan kac : Nat) (name : ByteArray) : OK 70 [.v (.agg #[.int .i64 ti, .string tn, .slice ca can cac, .slice xa xan xac, .slice ka kan kac]), .v (.string name)] fun _ π => qz π ti tn ca can cac xa xan xac ka kan kac name :=
 aV { ptr := [(2, 2, 0), (7, 2, 2), (13, 2, 2)], ty := [(2, 139)] } { loop := [(2, [(2, 139), (5, 3)])] } [] Tryz.func70 Tryz.ntmps70 rfl (by kernel_rfl) fun _ π => by kernel_rfl
def qA (ti : Int) (tn : ByteArray) (ca : Option Addr) (can cac : Nat) (xa : Option Addr) (xan xac : Nat) (ka : Option Addr) (kan kac : Nat) (id : Int) : W :=
 π.loop [(true, [.int .i64, .str, .slice, .slice, .slice]), (false, [.int .i64])] ((ti, tn, (ca, can, cac), (xa, xan, xac), (ka, kan, kac), ()), ((0 : Int), ()), ()) fun (((x1 : Int), (t2 : ByteArray), ((a3 : Option Addr), (n4 : Nat), (c5 : Nat)), ((a6 : Option Addr), (n7 : Nat), (c8 : Nat)), ((a9 : Option Addr), (n10 : Nat), (c11 : Nat)), _), ((x12 : Int), _), _) again0 =>
 π.ite (decide (x12 < (↑n4 : Int))) (
 π.guard (0 ≤ x12 ∧ x12 < (↑n4 : Int)) <|
 π.af (a3) fun p13 =>
 π.ld [.int .i64] ((p13.add (x12.toNat * 7)).add 0) fun ((x14 : Int), _) =>
 π.ite (x14 == id) (
 π.ret (.int .i64 x12)
 ) (
 again0 ((x1, t2, (a3, n4, c5), (a6, n7, c8), (a9, n10, c11), ()), (i64.wrap (x12 + 1), ()), ())
 )
 ) (
 π.ret (.int .i64 (-1))
 )
theorem zn (ti : Int) (tn : ByteArray) (ca : Option Addr) (can cac : Nat) (xa : Option Addr) (xan xac : Nat) (ka : Option Addr) (kan kac : Nat) (id : Int) : OK 74 [.v (.agg #[.int .i64 ti, .string tn, .slice ca can cac, .slice xa xan xac, .slice ka kan kac]), .v (.int .i64 id)] fun _ π => qA π ti tn ca can cac xa xan xac ka kan kac id :=
 aV { ptr := [(2, 2, 0), (7, 2, 2), (13, 2, 2)], ty := [(2, 139)] } { loop := [(2, [(2, 139), (5, 3)])] } [] Tryz.func74 Tryz.ntmps74 rfl (by kernel_rfl) fun _ π => by kernel_rfl
def rE (ti : Int) (tn : ByteArray) (ca : Option Addr) (can cac : Nat) (xa : Option Addr) (xan xac : Nat) (ka : Option Addr) (kan kac : Nat) (name : ByteArray) : W :=
 π.loop [(true, [.int .i64, .str, .slice, .slice, .slice]), (false, [.int .i64])] ((ti, tn, (ca, can, cac), (xa, xan, xac), (ka, kan, kac), ()), ((0 : Int), ()), ()) fun (((x1 : Int), (t2 : ByteArray), ((a3 : Option Addr), (n4 : Nat), (c5 : Nat)), ((a6 : Option Addr), (n7 : Nat), (c8 : Nat)), ((a9 : Option Addr), (n10 : Nat), (c11 : Nat)), _), ((x12 : Int), _), _) again0 =>
 π.ite (decide (x12 < (↑n7 : Int))) (
 π.guard (0 ≤ x12 ∧ x12 < (↑n7 : Int)) <|
 π.af (a6) fun p13 =>
 π.ld [.str] ((p13.add (x12.toNat * 5)).add 1) fun ((t14 : ByteArray), _) =>
 π.ite (t14.toList == name.toList) (
 π.ret (.int .i64 x12)
 ) (
 again0 ((x1, t2, (a3, n4, c5), (a6, n7, c8), (a9, n10, c11), ()), (i64.wrap (x12 + 1), ()), ())
 )
 ) (
 π.ret (.int .i64 (-1))
 )
theorem AL (ti : Int) (tn : ByteArray) (ca : Option Addr) (can cac : Nat) (xa : Option Addr) (xan xac : Nat) (ka : Option Addr) (kan kac : Nat) (name : ByteArray) : OK 73 [.v (.agg #[.int .i64 ti, .string tn, .slice ca can cac, .slice xa xan xac, .slice ka kan kac]), .v (.string name)] fun _ π => rE π ti tn ca can cac xa xan xac ka kan kac name :=
 aV { ptr := [(2, 2, 0), (7, 2, 3), (13, 2, 3)], ty := [(2, 139)] } { loop := [(2, [(2, 139), (5, 3)])] } [] Tryz.func73 Tryz.ntmps73 rfl (by kernel_rfl) fun _ π => by kernel_rfl
def w4 (ti : Int) (tn : ByteArray) (ca : Option Addr) (can cac : Nat) (xa : Option Addr) (xan xac : Nat) (ka : Option Addr) (kan kac : Nat) (name : ByteArray) : W :=
 π.loop [(true, [.int .i64, .str, .slice, .slice, .slice]), (false, [.int .i64])] ((ti, tn, (ca, can, cac), (xa, xan, xac), (ka, kan, kac), ()), ((0 : Int), ()), ()) fun (((x1 : Int), (t2 : ByteArray), ((a3 : Option Addr), (n4 : Nat), (c5 : Nat)), ((a6 : Option Addr), (n7 : Nat), (c8 : Nat)), ((a9 : Option Addr), (n10 : Nat), (c11 : Nat)), _), ((x12 : Int), _), _) again0 =>
 π.ite (decide (x12 < (↑n10 : Int))) (
 π.guard (0 ≤ x12 ∧ x12 < (↑n10 : Int)) <|
 π.af (a9) fun p13 =>
 π.ld [.str] ((p13.add (x12.toNat * 5)).add 1) fun ((t14 : ByteArray), _) =>
 π.ite (t14.toList == name.toList) (
 π.ret (.int .i64 x12)
 ) (
 again0 ((x1, t2, (a3, n4, c5), (a6, n7, c8), (a9, n10, c11), ()), (i64.wrap (x12 + 1), ()), ())
 )
 ) (
 π.ret (.int .i64 (-1))
 )
theorem Ek (ti : Int) (tn : ByteArray) (ca : Option Addr) (can cac : Nat) (xa : Option Addr) (xan xac : Nat) (ka : Option Addr) (kan kac : Nat) (name : ByteArray) : OK 76 [.v (.agg #[.int .i64 ti, .string tn, .slice ca can cac, .slice xa xan xac, .slice ka kan kac]), .v (.string name)] fun _ π => w4 π ti tn ca can cac xa xan xac ka kan kac name :=
 aV { ptr := [(2, 2, 0), (7, 2, 4), (13, 2, 4)], ty := [(2, 139)] } { loop := [(2, [(2, 139), (5, 3)])] } [] Tryz.func76 Tryz.ntmps76 rfl (by kernel_rfl) fun _ π => by kernel_rfl
def Aj (sv sl : Int) (sa : Option Addr) (san sac : Nat) : W :=
 π.loop [(true, [.int .i64, .int .i64, .slice]), (true, [.int .i64, .int .i64, .slice]), (false, [.slice]), (false, [.int .i64])] ((sv, sl, (sa, san, sac), ()), ((0 : Int), (0 : Int), (none, (0 : Nat), (0 : Nat)), ()), ((none, (0 : Nat), (0 : Nat)), ()), ((0 : Int), ()), ()) fun (((x1 : Int), (x2 : Int), ((a3 : Option Addr), (n4 : Nat), (c5 : Nat)), _), ((x6 : Int), (x7 : Int), ((a8 : Option Addr), (n9 : Nat), (c10 : Nat)), _), (((a11 : Option Addr), (n12 : Nat), (c13 : Nat)), _), ((x14 : Int), _), _) again0 =>
 π.ite (decide (x14 < (↑n4 : Int))) (
 π.guard (0 ≤ x14 ∧ x14 < (↑n4 : Int)) <|
 π.af (a3) fun p15 =>
 π.ld [.int .i64, .str, .slice, .slice, .slice] (p15.add (x14.toNat * 5)) fun ((x16 : Int), (t17 : ByteArray), ((a18 : Option Addr), (n19 : Nat), (c20 : Nat)), ((a21 : Option Addr), (n22 : Nat), (c23 : Nat)), ((a24 : Option Addr), (n25 : Nat), (c26 : Nat)), _) =>
 π.nw (Obj.cells #[] (165 : Nat) (0, 0)) fun r27 =>
 π.app (165 : Nat) (7 : Nat) (72 : Nat) [(.int .i64 0), (.string ⟨#[]⟩), (.int .i64 0), (.int .i64 0), (.int .i64 0), (.int .i64 0), (.string ⟨#[]⟩)] (some (Addr.mk r27 0 none)) ((0 : Nat)) ((0 : Nat)) (Src.sl a18 n19) fun a28 n29 c30 =>
 π.nw (Obj.cells #[] (170 : Nat) (0, 0)) fun r31 =>
 π.app (170 : Nat) (5 : Nat) (48 : Nat) [(.int .i64 0), (.string ⟨#[]⟩), (.int .i64 0), (.bool false), (.int .i64 0)] (some (Addr.mk r31 0 none)) ((0 : Nat)) ((0 : Nat)) (Src.sl a21 n22) fun a32 n33 c34 =>
 π.nw (Obj.cells #[] (173 : Nat) (0, 0)) fun r35 =>
 π.app (173 : Nat) (5 : Nat) (48 : Nat) [(.int .i64 0), (.string ⟨#[]⟩), (.int .i64 0), (.int .i64 0), (.int .i64 0)] (some (Addr.mk r35 0 none)) ((0 : Nat)) ((0 : Nat)) (Src.sl a24 n25) fun a36 n37 c38 =>
 π.nw (Obj.cells #[(.int .i64 x16), (.string t17), (.slice a28 n29 c30), (.slice a32 n33 c34), (.slice a36 n37 c38)] (139 : Nat) (0, 0)) fun r39 =>
 π.app (139 : Nat) (5 : Nat) (96 : Nat) [(.int .i64 0), (.string ⟨#[]⟩), (.slice none 0 0), (.slice none 0 0), (.slice none 0 0)] (a11) (n12) (c13) (Src.sl (some (Addr.mk r39 0 none)) (1 : Nat)) fun a40 n41 c42 =>
 again0 ((x1, x2, (a3, n4, c5), ()), (x6, x7, (a8, n9, c10), ()), ((a40, n41, c42), ()), (i64.wrap (x14 + 1), ()), ())
 ) (
 π.ret (.agg #[(.int .i64 x1), (.int .i64 x2), (.slice a11 n12 c13)])
 )
theorem Gk (sv sl : Int) (sa : Option Addr) (san sac : Nat) : OK 83 [.v (.agg #[.int .i64 sv, .int .i64 sl, .slice sa san sac])] fun _ π => Aj π sv sl sa san sac :=
 aV { ptr := [(1, 1, 0), (2, 2, 0), (5, 5, 0), (7, 1, 2), (13, 1, 2), (19, 5, 2), (22, 5, 2), (24, 5, 3), (27, 5, 3), (29, 5, 4), (32, 5, 4), (38, 1, 2)], ty := [(1, 43), (2, 43), (5, 139)] } { loop := [(3, [(1, 43), (2, 43), (3, 41), (4, 3)])] } [] Tryz.func83 Tryz.ntmps83 rfl (by kernel_rfl) fun _ π => by kernel_rfl
end
section
variable {W : Type} (π : fW W)
open Fw.W
def Bu (c : Nat) (n : Int) : W :=
 π.af (some (Addr.mk c 0 none)) fun p0 =>
 π.ld [.bool] (p0.add 2) fun ((b1 : Bool), _) =>
 π.ite (b1) (
 π.af (some (Addr.mk c 0 none)) fun p2 =>
 π.st (p2.add 2) [(.bool true)] <|
 π.af (some (Addr.mk c 0 none)) fun p3 =>
 π.ld [.map] (p3.add 1) fun ((m4 : Option Nat), _) =>
 π.gF (TypeDesc.int IntKind.i64) (m4) (.int .i64 n) (.bool true) <|
 π.ret (.tuple #[])
 ) (
 π.ite (decide (n < 1)) (
 π.af (some (Addr.mk c 0 none)) fun p5 =>
 π.st (p5.add 2) [(.bool true)] <|
 π.af (some (Addr.mk c 0 none)) fun p6 =>
 π.ld [.map] (p6.add 1) fun ((m7 : Option Nat), _) =>
 π.gF (TypeDesc.int IntKind.i64) (m7) (.int .i64 n) (.bool true) <|
 π.ret (.tuple #[])
 ) (
 π.af (some (Addr.mk c 0 none)) fun p8 =>
 π.ld [.int .i64] (p8.add 0) fun ((x9 : Int), _) =>
 π.ite (decide (n > x9)) (
 π.af (some (Addr.mk c 0 none)) fun p10 =>
 π.st (p10.add 2) [(.bool true)] <|
 π.af (some (Addr.mk c 0 none)) fun p11 =>
 π.ld [.map] (p11.add 1) fun ((m12 : Option Nat), _) =>
 π.gF (TypeDesc.int IntKind.i64) (m12) (.int .i64 n) (.bool true) <|
 π.ret (.tuple #[])
 ) (
 π.af (some (Addr.mk c 0 none)) fun p13 =>
 π.ld [.map] (p13.add 1) fun ((m14 : Option Nat), _) =>
 π.look (TypeDesc.int IntKind.i64) (m14) (.int .i64 n) (.bool false) (false, [.bool]) fun ((b16 : Bool), _) b15 =>
 π.af (some (Addr.mk c 0 none)) fun p17 =>
 π.st (p17.add 2) [(.bool b16)] <|
 π.af (some (Addr.mk c 0 none)) fun p18 =>
 π.ld [.map] (p18.add 1) fun ((m19 : Option Nat), _) =>
 π.gF (TypeDesc.int IntKind.i64) (m19) (.int .i64 n) (.bool true) <|
 π.ret (.tuple #[])
 )
 )
 )
theorem Ih (c : Nat) (n : Int) : OK 170 [.v (.pointer (some ⟨c, 0, none⟩)), .v (.int .i64 n)] fun _ π => Bu π c n :=
 aV {} {} [] Tryz.func170 Tryz.ntmps170 rfl (by kernel_rfl) fun _ π => by kernel_rfl
def uo (c : Nat) (n : Int) : W :=
 π.af (some (Addr.mk c 0 none)) fun p0 =>
 π.ld [.bool] (p0.add 2) fun ((b1 : Bool), _) =>
 π.ite (b1) (
 π.af (some (Addr.mk c 0 none)) fun p2 =>
 π.st (p2.add 2) [(.bool true)] <|
 π.ret (.tuple #[])
 ) (
 π.ite (decide (n < 1)) (
 π.af (some (Addr.mk c 0 none)) fun p3 =>
 π.st (p3.add 2) [(.bool true)] <|
 π.ret (.tuple #[])
 ) (
 π.af (some (Addr.mk c 0 none)) fun p4 =>
 π.st (p4.add 2) [(.bool (decide (n > 3)))] <|
 π.ret (.tuple #[])
 )
 )
theorem Co (c : Nat) (n : Int) : OK 177 [.v (.pointer (some ⟨c, 0, none⟩)), .v (.int .i64 n)] fun _ π => uo π c n :=
 aV {} {} [] Tryz.func177 Tryz.ntmps177 rfl (by kernel_rfl) fun _ π => by kernel_rfl
def wX (c : Nat) (a : Option Addr) (an ac : Nat) (least most : Int) : W :=
 π.join [] (fun J0 =>
 π.af (some (Addr.mk c 0 none)) fun p1 =>
 π.ld [.bool] (p1.add 2) fun ((b2 : Bool), _) =>
 π.ite (b2) (
 π.af (some (Addr.mk c 0 none)) fun p3 =>
 π.st (p3.add 2) [(.bool true)] <|
 J0 (())
 ) (
 π.ite (decide ((↑an : Int) < least)) (
 π.af (some (Addr.mk c 0 none)) fun p4 =>
 π.st (p4.add 2) [(.bool true)] <|
 J0 (())
 ) (
 π.af (some (Addr.mk c 0 none)) fun p5 =>
 π.st (p5.add 2) [(.bool (decide ((↑an : Int) > most)))] <|
 J0 (())
 )
 )
 ) (fun (_) =>
 π.loop [(false, [.slice]), (false, [.int .i64]), (false, [.int .i64])] (((a, an, ac), ()), ((↑an : Int), ()), ((0 : Int), ()), ()) fun ((((a7 : Option Addr), (n8 : Nat), (c9 : Nat)), _), ((x10 : Int), _), ((x11 : Int), _), _) again6 =>
 π.ite (decide (x11 < x10)) (
 π.guard (0 ≤ x11 ∧ x11 < (↑n8 : Int)) <|
 π.af (a7) fun p12 =>
 π.ld [.int .i64, .str, .slice, .slice, .slice] (p12.add (x11.toNat * 5)) fun ((x13 : Int), (t14 : ByteArray), ((a15 : Option Addr), (n16 : Nat), (c17 : Nat)), ((a18 : Option Addr), (n19 : Nat), (c20 : Nat)), ((a21 : Option Addr), (n22 : Nat), (c23 : Nat)), _) =>
 π.af (some (Addr.mk c 0 none)) fun p24 =>
 π.ld [.bool] (p24.add 2) fun ((b25 : Bool), _) =>
 π.ite (b25) (
 π.af (some (Addr.mk c 0 none)) fun p26 =>
 π.st (p26.add 2) [(.bool true)] <|
 π.af (some (Addr.mk c 0 none)) fun p27 =>
 π.ld [.bool] (p27.add 2) fun ((b28 : Bool), _) =>
 π.ite (b28) (
 π.ret (.tuple #[])
 ) (
 again6 (((a7, n8, c9), ()), (x10, ()), (i64.wrap (x11 + 1), ()), ())
 )
 ) (
 π.call 118 #[(.agg #[(.int .i64 x13), (.string t14), (.slice a15 n16 c17), (.slice a18 n19 c20), (.slice a21 n22 c23)])] (false, [(false, [.str])]) fun (((t29 : ByteArray), _), _) =>
 π.call 169 #[(.string t29)] (false, [(false, [.bool])]) fun (((b30 : Bool), _), _) =>
 π.ite (!b30) (
 π.af (some (Addr.mk c 0 none)) fun p31 =>
 π.st (p31.add 2) [(.bool true)] <|
 π.af (some (Addr.mk c 0 none)) fun p32 =>
 π.ld [.bool] (p32.add 2) fun ((b33 : Bool), _) =>
 π.ite (b33) (
 π.ret (.tuple #[])
 ) (
 again6 (((a7, n8, c9), ()), (x10, ()), (i64.wrap (x11 + 1), ()), ())
 )
 ) (
 π.call 118 #[(.agg #[(.int .i64 x13), (.string t14), (.slice a15 n16 c17), (.slice a18 n19 c20), (.slice a21 n22 c23)])] (false, [(false, [.str])]) fun (((t34 : ByteArray), _), _) =>
 π.call 142 #[(.slice a an ac), (.string t34), (.func (Fn.func (118 : Nat)) #[] #[])] (false, [(false, [.int .i64])]) fun (((x35 : Int), _), _) =>
 π.af (some (Addr.mk c 0 none)) fun p36 =>
 π.st (p36.add 2) [(.bool (x35 != x11))] <|
 π.af (some (Addr.mk c 0 none)) fun p37 =>
 π.ld [.bool] (p37.add 2) fun ((b38 : Bool), _) =>
 π.ite (b38) (
 π.ret (.tuple #[])
 ) (
 again6 (((a7, n8, c9), ()), (x10, ()), (i64.wrap (x11 + 1), ()), ())
 )
 )
 )
 ) (
 π.ret (.tuple #[])
 )
 )
theorem Eh (c : Nat) (a : Option Addr) (an ac : Nat) (least most : Int) : OK 117 [.v (.pointer (some ⟨c, 0, none⟩)), .v (.slice a an ac), .v (.int .i64 least), .v (.int .i64 most), .v (.func (.func 118) #[] #[])] fun _ π => wX π c a an ac least most :=
 aV { ptr := [(11, 11, 0)], ty := [(11, 139)] } { join := [(1, [])], loop := [(2, [(31, 41), (32, 3), (33, 3)])] } [] Tryz.func117 Tryz.ntmps117 rfl (by kernel_rfl) fun _ π => by kernel_rfl
def wV (c : Nat) (a : Option Addr) (an ac : Nat) (least most : Int) : W :=
 π.join [] (fun J0 =>
 π.af (some (Addr.mk c 0 none)) fun p1 =>
 π.ld [.bool] (p1.add 2) fun ((b2 : Bool), _) =>
 π.ite (b2) (
 π.af (some (Addr.mk c 0 none)) fun p3 =>
 π.st (p3.add 2) [(.bool true)] <|
 J0 (())
 ) (
 π.ite (decide ((↑an : Int) < least)) (
 π.af (some (Addr.mk c 0 none)) fun p4 =>
 π.st (p4.add 2) [(.bool true)] <|
 J0 (())
 ) (
 π.af (some (Addr.mk c 0 none)) fun p5 =>
 π.st (p5.add 2) [(.bool (decide ((↑an : Int) > most)))] <|
 J0 (())
 )
 )
 ) (fun (_) =>
 π.loop [(false, [.slice]), (false, [.int .i64]), (false, [.int .i64])] (((a, an, ac), ()), ((↑an : Int), ()), ((0 : Int), ()), ()) fun ((((a7 : Option Addr), (n8 : Nat), (c9 : Nat)), _), ((x10 : Int), _), ((x11 : Int), _), _) again6 =>
 π.ite (decide (x11 < x10)) (
 π.guard (0 ≤ x11 ∧ x11 < (↑n8 : Int)) <|
 π.af (a7) fun p12 =>
 π.ld [.int .i64, .str, .int .i64, .int .i64, .int .i64, .int .i64, .str] (p12.add (x11.toNat * 7)) fun ((x13 : Int), (t14 : ByteArray), (x15 : Int), (x16 : Int), (x17 : Int), (x18 : Int), (t19 : ByteArray), _) =>
 π.af (some (Addr.mk c 0 none)) fun p20 =>
 π.ld [.bool] (p20.add 2) fun ((b21 : Bool), _) =>
 π.ite (b21) (
 π.af (some (Addr.mk c 0 none)) fun p22 =>
 π.st (p22.add 2) [(.bool true)] <|
 π.af (some (Addr.mk c 0 none)) fun p23 =>
 π.ld [.bool] (p23.add 2) fun ((b24 : Bool), _) =>
 π.ite (b24) (
 π.ret (.tuple #[])
 ) (
 again6 (((a7, n8, c9), ()), (x10, ()), (i64.wrap (x11 + 1), ()), ())
 )
 ) (
 π.call 172 #[(.agg #[(.int .i64 x13), (.string t14), (.int .i64 x15), (.int .i64 x16), (.int .i64 x17), (.int .i64 x18), (.string t19)])] (false, [(false, [.str])]) fun (((t25 : ByteArray), _), _) =>
 π.call 169 #[(.string t25)] (false, [(false, [.bool])]) fun (((b26 : Bool), _), _) =>
 π.ite (!b26) (
 π.af (some (Addr.mk c 0 none)) fun p27 =>
 π.st (p27.add 2) [(.bool true)] <|
 π.af (some (Addr.mk c 0 none)) fun p28 =>
 π.ld [.bool] (p28.add 2) fun ((b29 : Bool), _) =>
 π.ite (b29) (
 π.ret (.tuple #[])
 ) (
 again6 (((a7, n8, c9), ()), (x10, ()), (i64.wrap (x11 + 1), ()), ())
 )
 ) (
 π.call 172 #[(.agg #[(.int .i64 x13), (.string t14), (.int .i64 x15), (.int .i64 x16), (.int .i64 x17), (.int .i64 x18), (.string t19)])] (false, [(false, [.str])]) fun (((t30 : ByteArray), _), _) =>
 π.call 227 #[(.slice a an ac), (.string t30), (.func (Fn.func (172 : Nat)) #[] #[])] (false, [(false, [.int .i64])]) fun (((x31 : Int), _), _) =>
 π.af (some (Addr.mk c 0 none)) fun p32 =>
 π.st (p32.add 2) [(.bool (x31 != x11))] <|
 π.af (some (Addr.mk c 0 none)) fun p33 =>
 π.ld [.bool] (p33.add 2) fun ((b34 : Bool), _) =>
 π.ite (b34) (
 π.ret (.tuple #[])
 ) (
 again6 (((a7, n8, c9), ()), (x10, ()), (i64.wrap (x11 + 1), ()), ())
 )
 )
 )
 ) (
 π.ret (.tuple #[])
 )
 )
theorem Ef (c : Nat) (a : Option Addr) (an ac : Nat) (least most : Int) : OK 171 [.v (.pointer (some ⟨c, 0, none⟩)), .v (.slice a an ac), .v (.int .i64 least), .v (.int .i64 most), .v (.func (.func 172) #[] #[])] fun _ π => wV π c a an ac least most :=
 aV { ptr := [(11, 11, 0)], ty := [(11, 165)] } { join := [(1, [])], loop := [(2, [(31, 29), (32, 3), (33, 3)])] } [] Tryz.func171 Tryz.ntmps171 rfl (by kernel_rfl) fun _ π => by kernel_rfl
def wY (c : Nat) (a : Option Addr) (an ac : Nat) (least most : Int) : W :=
 π.join [] (fun J0 =>
 π.af (some (Addr.mk c 0 none)) fun p1 =>
 π.ld [.bool] (p1.add 2) fun ((b2 : Bool), _) =>
 π.ite (b2) (
 π.af (some (Addr.mk c 0 none)) fun p3 =>
 π.st (p3.add 2) [(.bool true)] <|
 J0 (())
 ) (
 π.ite (decide ((↑an : Int) < least)) (
 π.af (some (Addr.mk c 0 none)) fun p4 =>
 π.st (p4.add 2) [(.bool true)] <|
 J0 (())
 ) (
 π.af (some (Addr.mk c 0 none)) fun p5 =>
 π.st (p5.add 2) [(.bool (decide ((↑an : Int) > most)))] <|
 J0 (())
 )
 )
 ) (fun (_) =>
 π.loop [(false, [.slice]), (false, [.int .i64]), (false, [.int .i64])] (((a, an, ac), ()), ((↑an : Int), ()), ((0 : Int), ()), ()) fun ((((a7 : Option Addr), (n8 : Nat), (c9 : Nat)), _), ((x10 : Int), _), ((x11 : Int), _), _) again6 =>
 π.ite (decide (x11 < x10)) (
 π.guard (0 ≤ x11 ∧ x11 < (↑n8 : Int)) <|
 π.af (a7) fun p12 =>
 π.ld [.int .i64, .str, .int .i64, .bool, .int .i64] (p12.add (x11.toNat * 5)) fun ((x13 : Int), (t14 : ByteArray), (x15 : Int), (b16 : Bool), (x17 : Int), _) =>
 π.af (some (Addr.mk c 0 none)) fun p18 =>
 π.ld [.bool] (p18.add 2) fun ((b19 : Bool), _) =>
 π.ite (b19) (
 π.af (some (Addr.mk c 0 none)) fun p20 =>
 π.st (p20.add 2) [(.bool true)] <|
 π.af (some (Addr.mk c 0 none)) fun p21 =>
 π.ld [.bool] (p21.add 2) fun ((b22 : Bool), _) =>
 π.ite (b22) (
 π.ret (.tuple #[])
 ) (
 again6 (((a7, n8, c9), ()), (x10, ()), (i64.wrap (x11 + 1), ()), ())
 )
 ) (
 π.call 174 #[(.agg #[(.int .i64 x13), (.string t14), (.int .i64 x15), (.bool b16), (.int .i64 x17)])] (false, [(false, [.str])]) fun (((t23 : ByteArray), _), _) =>
 π.call 169 #[(.string t23)] (false, [(false, [.bool])]) fun (((b24 : Bool), _), _) =>
 π.ite (!b24) (
 π.af (some (Addr.mk c 0 none)) fun p25 =>
 π.st (p25.add 2) [(.bool true)] <|
 π.af (some (Addr.mk c 0 none)) fun p26 =>
 π.ld [.bool] (p26.add 2) fun ((b27 : Bool), _) =>
 π.ite (b27) (
 π.ret (.tuple #[])
 ) (
 again6 (((a7, n8, c9), ()), (x10, ()), (i64.wrap (x11 + 1), ()), ())
 )
 ) (
 π.call 174 #[(.agg #[(.int .i64 x13), (.string t14), (.int .i64 x15), (.bool b16), (.int .i64 x17)])] (false, [(false, [.str])]) fun (((t28 : ByteArray), _), _) =>
 π.call 228 #[(.slice a an ac), (.string t28), (.func (Fn.func (174 : Nat)) #[] #[])] (false, [(false, [.int .i64])]) fun (((x29 : Int), _), _) =>
 π.af (some (Addr.mk c 0 none)) fun p30 =>
 π.st (p30.add 2) [(.bool (x29 != x11))] <|
 π.af (some (Addr.mk c 0 none)) fun p31 =>
 π.ld [.bool] (p31.add 2) fun ((b32 : Bool), _) =>
 π.ite (b32) (
 π.ret (.tuple #[])
 ) (
 again6 (((a7, n8, c9), ()), (x10, ()), (i64.wrap (x11 + 1), ()), ())
 )
 )
 )
 ) (
 π.ret (.tuple #[])
 )
 )
theorem Ei (c : Nat) (a : Option Addr) (an ac : Nat) (least most : Int) : OK 173 [.v (.pointer (some ⟨c, 0, none⟩)), .v (.slice a an ac), .v (.int .i64 least), .v (.int .i64 most), .v (.func (.func 174) #[] #[])] fun _ π => wY π c a an ac least most :=
 aV { ptr := [(11, 11, 0)], ty := [(11, 170)] } { join := [(1, [])], loop := [(2, [(31, 136), (32, 3), (33, 3)])] } [] Tryz.func173 Tryz.ntmps173 rfl (by kernel_rfl) fun _ π => by kernel_rfl
def wW (c : Nat) (a : Option Addr) (an ac : Nat) (least most : Int) : W :=
 π.join [] (fun J0 =>
 π.af (some (Addr.mk c 0 none)) fun p1 =>
 π.ld [.bool] (p1.add 2) fun ((b2 : Bool), _) =>
 π.ite (b2) (
 π.af (some (Addr.mk c 0 none)) fun p3 =>
 π.st (p3.add 2) [(.bool true)] <|
 J0 (())
 ) (
 π.ite (decide ((↑an : Int) < least)) (
 π.af (some (Addr.mk c 0 none)) fun p4 =>
 π.st (p4.add 2) [(.bool true)] <|
 J0 (())
 ) (
 π.af (some (Addr.mk c 0 none)) fun p5 =>
 π.st (p5.add 2) [(.bool (decide ((↑an : Int) > most)))] <|
 J0 (())
 )
 )
 ) (fun (_) =>
 π.loop [(false, [.slice]), (false, [.int .i64]), (false, [.int .i64])] (((a, an, ac), ()), ((↑an : Int), ()), ((0 : Int), ()), ()) fun ((((a7 : Option Addr), (n8 : Nat), (c9 : Nat)), _), ((x10 : Int), _), ((x11 : Int), _), _) again6 =>
 π.ite (decide (x11 < x10)) (
 π.guard (0 ≤ x11 ∧ x11 < (↑n8 : Int)) <|
 π.af (a7) fun p12 =>
 π.ld [.int .i64, .str, .int .i64, .int .i64, .int .i64] (p12.add (x11.toNat * 5)) fun ((x13 : Int), (t14 : ByteArray), (x15 : Int), (x16 : Int), (x17 : Int), _) =>
 π.af (some (Addr.mk c 0 none)) fun p18 =>
 π.ld [.bool] (p18.add 2) fun ((b19 : Bool), _) =>
 π.ite (b19) (
 π.af (some (Addr.mk c 0 none)) fun p20 =>
 π.st (p20.add 2) [(.bool true)] <|
 π.af (some (Addr.mk c 0 none)) fun p21 =>
 π.ld [.bool] (p21.add 2) fun ((b22 : Bool), _) =>
 π.ite (b22) (
 π.ret (.tuple #[])
 ) (
 again6 (((a7, n8, c9), ()), (x10, ()), (i64.wrap (x11 + 1), ()), ())
 )
 ) (
 π.call 176 #[(.agg #[(.int .i64 x13), (.string t14), (.int .i64 x15), (.int .i64 x16), (.int .i64 x17)])] (false, [(false, [.str])]) fun (((t23 : ByteArray), _), _) =>
 π.call 169 #[(.string t23)] (false, [(false, [.bool])]) fun (((b24 : Bool), _), _) =>
 π.ite (!b24) (
 π.af (some (Addr.mk c 0 none)) fun p25 =>
 π.st (p25.add 2) [(.bool true)] <|
 π.af (some (Addr.mk c 0 none)) fun p26 =>
 π.ld [.bool] (p26.add 2) fun ((b27 : Bool), _) =>
 π.ite (b27) (
 π.ret (.tuple #[])
 ) (
 again6 (((a7, n8, c9), ()), (x10, ()), (i64.wrap (x11 + 1), ()), ())
 )
 ) (
 π.call 176 #[(.agg #[(.int .i64 x13), (.string t14), (.int .i64 x15), (.int .i64 x16), (.int .i64 x17)])] (false, [(false, [.str])]) fun (((t28 : ByteArray), _), _) =>
 π.call 229 #[(.slice a an ac), (.string t28), (.func (Fn.func (176 : Nat)) #[] #[])] (false, [(false, [.int .i64])]) fun (((x29 : Int), _), _) =>
 π.af (some (Addr.mk c 0 none)) fun p30 =>
 π.st (p30.add 2) [(.bool (x29 != x11))] <|
 π.af (some (Addr.mk c 0 none)) fun p31 =>
 π.ld [.bool] (p31.add 2) fun ((b32 : Bool), _) =>
 π.ite (b32) (
 π.ret (.tuple #[])
 ) (
 again6 (((a7, n8, c9), ()), (x10, ()), (i64.wrap (x11 + 1), ()), ())
 )
 )
 )
 ) (
 π.ret (.tuple #[])
 )
 )
theorem Eg (c : Nat) (a : Option Addr) (an ac : Nat) (least most : Int) : OK 175 [.v (.pointer (some ⟨c, 0, none⟩)), .v (.slice a an ac), .v (.int .i64 least), .v (.int .i64 most), .v (.func (.func 176) #[] #[])] fun _ π => wW π c a an ac least most :=
 aV { ptr := [(11, 11, 0)], ty := [(11, 173)] } { join := [(1, [])], loop := [(2, [(31, 137), (32, 3), (33, 3)])] } [] Tryz.func175 Tryz.ntmps175 rfl (by kernel_rfl) fun _ π => by kernel_rfl
def uq (c : Nat) (sv sl : Int) (sa : Option Addr) (san sac : Nat) (ti : Int) (tn : ByteArray) (ca : Option Addr) (can cac : Nat) (xa : Option Addr) (xan xac : Nat) (ka : Option Addr) (kan kac : Nat) : W :=
 π.call 170 #[(.pointer (some (Addr.mk c 0 none))), (.int .i64 ti)] (true, []) fun (_) =>
 π.call 171 #[(.pointer (some (Addr.mk c 0 none))), (.slice ca can cac), (.int .i64 1), (.int .i64 8), (.func (Fn.func (172 : Nat)) #[] #[])] (true, []) fun (_) =>
 π.call 173 #[(.pointer (some (Addr.mk c 0 none))), (.slice xa xan xac), (.int .i64 0), (.int .i64 8), (.func (Fn.func (174 : Nat)) #[] #[])] (true, []) fun (_) =>
 π.call 175 #[(.pointer (some (Addr.mk c 0 none))), (.slice ka kan kac), (.int .i64 0), (.int .i64 8), (.func (Fn.func (176 : Nat)) #[] #[])] (true, []) fun (_) =>
 π.af (some (Addr.mk c 0 none)) fun p0 =>
 π.ld [.bool] (p0.add 2) fun ((b1 : Bool), _) =>
 π.ite (b1) (
 π.ret (.tuple #[])
 ) (
 π.guard ((0 : Int) ≤ 0 ∧ 0 < (↑can : Int)) <|
 π.af (ca) fun p2 =>
 π.ld [.int .i64] ((p2.add 0).add 3) fun ((x3 : Int), _) =>
 π.af (some (Addr.mk c 0 none)) fun p4 =>
 π.st (p4.add 2) [(.bool (x3 != 3))] <|
 π.loop [(true, [.int .i64, .int .i64, .slice]), (true, [.int .i64, .str, .slice, .slice, .slice]), (false, [.slice]), (false, [.int .i64]), (false, [.int .i64])] ((sv, sl, (sa, san, sac), ()), (ti, tn, (ca, can, cac), (xa, xan, xac), (ka, kan, kac), ()), ((ca, can, cac), ()), ((↑can : Int), ()), ((0 : Int), ()), ()) fun (((x6 : Int), (x7 : Int), ((a8 : Option Addr), (n9 : Nat), (c10 : Nat)), _), ((x11 : Int), (t12 : ByteArray), ((a13 : Option Addr), (n14 : Nat), (c15 : Nat)), ((a16 : Option Addr), (n17 : Nat), (c18 : Nat)), ((a19 : Option Addr), (n20 : Nat), (c21 : Nat)), _), (((a22 : Option Addr), (n23 : Nat), (c24 : Nat)), _), ((x25 : Int), _), ((x26 : Int), _), _) again5 =>
 π.ite (decide (x26 < x25)) (
 π.guard (0 ≤ x26 ∧ x26 < (↑n23 : Int)) <|
 π.af (a22) fun p27 =>
 π.ld [.int .i64, .str, .int .i64, .int .i64, .int .i64, .int .i64, .str] (p27.add (x26.toNat * 7)) fun ((x28 : Int), (t29 : ByteArray), (x30 : Int), (x31 : Int), (x32 : Int), (x33 : Int), (t34 : ByteArray), _) =>
 π.call 170 #[(.pointer (some (Addr.mk c 0 none))), (.int .i64 x28)] (true, []) fun (_) =>
 π.call 177 #[(.pointer (some (Addr.mk c 0 none))), (.int .i64 x31)] (true, []) fun (_) =>
 π.af (some (Addr.mk c 0 none)) fun p35 =>
 π.ld [.bool] (p35.add 2) fun ((b36 : Bool), _) =>
 π.ite (b36) (
 π.af (some (Addr.mk c 0 none)) fun p37 =>
 π.st (p37.add 2) [(.bool true)] <|
 again5 ((x6, x7, (a8, n9, c10), ()), (x11, t12, (a13, n14, c15), (a16, n17, c18), (a19, n20, c21), ()), ((a22, n23, c24), ()), (x25, ()), (i64.wrap (x26 + 1), ()), ())
 ) (
 π.call 178 #[(.int .i64 x30)] (false, [(false, [.bool])]) fun (((b38 : Bool), _), _) =>
 π.ite (!b38) (
 π.af (some (Addr.mk c 0 none)) fun p39 =>
 π.st (p39.add 2) [(.bool true)] <|
 again5 ((x6, x7, (a8, n9, c10), ()), (x11, t12, (a13, n14, c15), (a16, n17, c18), (a19, n20, c21), ()), ((a22, n23, c24), ()), (x25, ()), (i64.wrap (x26 + 1), ()), ())
 ) (
 π.call 179 #[(.agg #[(.int .i64 x32), (.int .i64 x33), (.string t34)]), (.int .i64 x30)] (false, [(false, [.bool])]) fun (((b40 : Bool), _), _) =>
 π.af (some (Addr.mk c 0 none)) fun p41 =>
 π.st (p41.add 2) [(.bool (!b40))] <|
 again5 ((x6, x7, (a8, n9, c10), ()), (x11, t12, (a13, n14, c15), (a16, n17, c18), (a19, n20, c21), ()), ((a22, n23, c24), ()), (x25, ()), (i64.wrap (x26 + 1), ()), ())
 )
 )
 ) (
 π.loop [(true, [.int .i64, .int .i64, .slice]), (true, [.int .i64, .str, .slice, .slice, .slice]), (false, [.slice]), (false, [.int .i64]), (false, [.int .i64])] ((x6, x7, (a8, n9, c10), ()), (x11, t12, (a13, n14, c15), (a16, n17, c18), (a19, n20, c21), ()), ((a16, n17, c18), ()), ((↑n17 : Int), ()), ((0 : Int), ()), ()) fun (((x43 : Int), (x44 : Int), ((a45 : Option Addr), (n46 : Nat), (c47 : Nat)), _), ((x48 : Int), (t49 : ByteArray), ((a50 : Option Addr), (n51 : Nat), (c52 : Nat)), ((a53 : Option Addr), (n54 : Nat), (c55 : Nat)), ((a56 : Option Addr), (n57 : Nat), (c58 : Nat)), _), (((a59 : Option Addr), (n60 : Nat), (c61 : Nat)), _), ((x62 : Int), _), ((x63 : Int), _), _) again42 =>
 π.ite (decide (x63 < x62)) (
 π.guard (0 ≤ x63 ∧ x63 < (↑n60 : Int)) <|
 π.af (a59) fun p64 =>
 π.ld [.int .i64, .str, .int .i64, .bool, .int .i64] (p64.add (x63.toNat * 5)) fun ((x65 : Int), (t66 : ByteArray), (x67 : Int), (b68 : Bool), (x69 : Int), _) =>
 π.call 170 #[(.pointer (some (Addr.mk c 0 none))), (.int .i64 x65)] (true, []) fun (_) =>
 π.call 177 #[(.pointer (some (Addr.mk c 0 none))), (.int .i64 x69)] (true, []) fun (_) =>
 π.af (some (Addr.mk c 0 none)) fun p70 =>
 π.ld [.bool] (p70.add 2) fun ((b71 : Bool), _) =>
 π.ite (b71) (
 π.af (some (Addr.mk c 0 none)) fun p72 =>
 π.st (p72.add 2) [(.bool true)] <|
 again42 ((x43, x44, (a45, n46, c47), ()), (x48, t49, (a50, n51, c52), (a53, n54, c55), (a56, n57, c58), ()), ((a59, n60, c61), ()), (x62, ()), (i64.wrap (x63 + 1), ()), ())
 ) (
 π.call 180 #[(.agg #[(.int .i64 x48), (.string t49), (.slice a50 n51 c52), (.slice a53 n54 c55), (.slice a56 n57 c58)]), (.int .i64 x67)] (false, [(false, [.int .i64])]) fun (((x73 : Int), _), _) =>
 π.af (some (Addr.mk c 0 none)) fun p74 =>
 π.st (p74.add 2) [(.bool (decide (x73 < 0)))] <|
 again42 ((x43, x44, (a45, n46, c47), ()), (x48, t49, (a50, n51, c52), (a53, n54, c55), (a56, n57, c58), ()), ((a59, n60, c61), ()), (x62, ()), (i64.wrap (x63 + 1), ()), ())
 )
 ) (
 π.loop [(true, [.int .i64, .int .i64, .slice]), (true, [.int .i64, .str, .slice, .slice, .slice]), (false, [.slice]), (false, [.int .i64]), (false, [.int .i64])] ((x43, x44, (a45, n46, c47), ()), (x48, t49, (a50, n51, c52), (a53, n54, c55), (a56, n57, c58), ()), ((a56, n57, c58), ()), ((↑n57 : Int), ()), ((0 : Int), ()), ()) fun (((x76 : Int), (x77 : Int), ((a78 : Option Addr), (n79 : Nat), (c80 : Nat)), _), ((x81 : Int), (t82 : ByteArray), ((a83 : Option Addr), (n84 : Nat), (c85 : Nat)), ((a86 : Option Addr), (n87 : Nat), (c88 : Nat)), ((a89 : Option Addr), (n90 : Nat), (c91 : Nat)), _), (((a92 : Option Addr), (n93 : Nat), (c94 : Nat)), _), ((x95 : Int), _), ((x96 : Int), _), _) again75 =>
 π.ite (decide (x96 < x95)) (
 π.guard (0 ≤ x96 ∧ x96 < (↑n93 : Int)) <|
 π.af (a92) fun p97 =>
 π.ld [.int .i64, .str, .int .i64, .int .i64, .int .i64] (p97.add (x96.toNat * 5)) fun ((x98 : Int), (t99 : ByteArray), (x100 : Int), (x101 : Int), (x102 : Int), _) =>
 π.call 170 #[(.pointer (some (Addr.mk c 0 none))), (.int .i64 x98)] (true, []) fun (_) =>
 π.call 177 #[(.pointer (some (Addr.mk c 0 none))), (.int .i64 x102)] (true, []) fun (_) =>
 π.cr 180 #[(.agg #[(.int .i64 x81), (.string t82), (.slice a83 n84 c85), (.slice a86 n87 c88), (.slice a89 n90 c91)]), (.int .i64 x100)] (false, [(false, [.int .i64])]) fun (((x103 : Int), _), _) =>
 π.cr 181 #[(.agg #[(.int .i64 x76), (.int .i64 x77), (.slice a78 n79 c80)]), (.int .i64 x101)] (false, [(false, [.int .i64])]) fun (((x104 : Int), _), _) =>
 π.af (some (Addr.mk c 0 none)) fun p105 =>
 π.ld [.bool] (p105.add 2) fun ((b106 : Bool), _) =>
 π.ite (b106) (
 π.af (some (Addr.mk c 0 none)) fun p107 =>
 π.st (p107.add 2) [(.bool true)] <|
 again75 ((x76, x77, (a78, n79, c80), ()), (x81, t82, (a83, n84, c85), (a86, n87, c88), (a89, n90, c91), ()), ((a92, n93, c94), ()), (x95, ()), (i64.wrap (x96 + 1), ()), ())
 ) (
 π.ite (decide (x103 < 0)) (
 π.af (some (Addr.mk c 0 none)) fun p108 =>
 π.st (p108.add 2) [(.bool true)] <|
 again75 ((x76, x77, (a78, n79, c80), ()), (x81, t82, (a83, n84, c85), (a86, n87, c88), (a89, n90, c91), ()), ((a92, n93, c94), ()), (x95, ()), (i64.wrap (x96 + 1), ()), ())
 ) (
 π.ite (decide (x104 < 0)) (
 π.af (some (Addr.mk c 0 none)) fun p109 =>
 π.st (p109.add 2) [(.bool true)] <|
 again75 ((x76, x77, (a78, n79, c80), ()), (x81, t82, (a83, n84, c85), (a86, n87, c88), (a89, n90, c91), ()), ((a92, n93, c94), ()), (x95, ()), (i64.wrap (x96 + 1), ()), ())
 ) (
 π.guard (0 ≤ x104 ∧ x104 < (↑n79 : Int)) <|
 π.af (a78) fun p110 =>
 π.ld [.slice] ((p110.add (x104.toNat * 5)).add 2) fun (((a111 : Option Addr), (n112 : Nat), (c113 : Nat)), _) =>
 π.ite ((↑n112 : Int) == 0) (
 π.af (some (Addr.mk c 0 none)) fun p114 =>
 π.st (p114.add 2) [(.bool true)] <|
 again75 ((x76, x77, (a78, n79, c80), ()), (x81, t82, (a83, n84, c85), (a86, n87, c88), (a89, n90, c91), ()), ((a92, n93, c94), ()), (x95, ()), (i64.wrap (x96 + 1), ()), ())
 ) (
 π.guard (0 ≤ x103 ∧ x103 < (↑n84 : Int)) <|
 π.af (a83) fun p115 =>
 π.ld [.int .i64] ((p115.add (x103.toNat * 7)).add 2) fun ((x116 : Int), _) =>
 π.guard (0 ≤ x104 ∧ x104 < (↑n79 : Int)) <|
 π.af (a78) fun p117 =>
 π.ld [.slice] ((p117.add (x104.toNat * 5)).add 2) fun (((a118 : Option Addr), (n119 : Nat), (c120 : Nat)), _) =>
 π.guard ((0 : Int) ≤ 0 ∧ 0 < (↑n119 : Int)) <|
 π.af (a118) fun p121 =>
 π.ld [.int .i64] ((p121.add 0).add 2) fun ((x122 : Int), _) =>
 π.af (some (Addr.mk c 0 none)) fun p123 =>
 π.st (p123.add 2) [(.bool (x116 != x122))] <|
 again75 ((x76, x77, (a78, n79, c80), ()), (x81, t82, (a83, n84, c85), (a86, n87, c88), (a89, n90, c91), ()), ((a92, n93, c94), ()), (x95, ()), (i64.wrap (x96 + 1), ()), ())
 )
 )
 )
 )
 ) (
 π.ret (.tuple #[])
 )
 )
 )
 )
theorem Cp (c : Nat) (sv sl : Int) (sa : Option Addr) (san sac : Nat) (ti : Int) (tn : ByteArray) (ca : Option Addr) (can cac : Nat) (xa : Option Addr) (xan xac : Nat) (ka : Option Addr) (kan kac : Nat) : OK 119 [.v (.pointer (some ⟨c, 0, none⟩)), .v (.agg #[.int .i64 sv, .int .i64 sl, .slice sa san sac]), .v (.agg #[.int .i64 ti, .string tn, .slice ca can cac, .slice xa xan xac, .slice ka kan kac])] fun _ π => uq π c sv sl sa san sac ti tn ca can cac xa xan xac ka kan kac :=
 aV { ptr := [(4, 4, 0), (5, 5, 0), (7, 7, 0), (9, 9, 0), (11, 11, 0), (15, 5, 0), (19, 5, 2), (23, 5, 3), (27, 5, 4), (35, 5, 2), (43, 5, 2), (51, 7, 0), (55, 7, 3), (64, 7, 2), (70, 7, 4), (72, 7, 2), (80, 5, 3), (88, 9, 0), (92, 9, 4), (102, 9, 2), (110, 5, 4), (118, 11, 0), (122, 11, 4), (126, 11, 2), (130, 11, 3), (147, 4, 2), (157, 5, 2), (163, 4, 2)], ty := [(4, 43), (5, 139), (7, 165), (9, 170), (11, 173)] } { draws := [(26, { A := [0, 1, 2, 3, 4, 5, 6, 7, 8, 9], quiet := [3, 7] }), (27, { A := [0, 1, 2, 3, 4, 5, 6, 7, 8, 9, 10, 11, 12, 13, 14, 15, 16, 17, 18, 19, 20, 21, 22, 23, 24, 25, 26, 27, 28, 29, 30, 31, 32, 33, 34, 35, 36, 37, 38, 39, 40, 41, 42] })], loop := [(8, [(4, 43), (5, 139), (44, 29), (45, 3), (46, 3)]), (15, [(4, 43), (5, 139), (81, 136), (82, 3), (83, 3)]), (22, [(4, 43), (5, 139), (111, 137), (112, 3), (113, 3)])] } [] Tryz.func119 Tryz.ntmps119 rfl (by kernel_rfl) fun _ π => by kernel_rfl
def zX (sv sl : Int) (sa : Option Addr) (san sac : Nat) : W :=
 π.join [(true, [.int .i64, .int .i64, .slice]), (false, [.ptr])] (fun J0 =>
 π.nw (Obj.map #[] (0 : Nat)) fun r1 =>
 π.ite (decide (sv < 0)) (
 π.nw (Obj.cells #[(.int .i64 sl), (.map (some r1)), (.bool true)] (222 : Nat) (0, 0)) fun r2 =>
 J0 ((sv, sl, (sa, san, sac), ()), (some (Addr.mk r2 0 none), ()), ())
 ) (
 π.ite (decide (sv > 1125899906842624)) (
 π.nw (Obj.cells #[(.int .i64 sl), (.map (some r1)), (.bool true)] (222 : Nat) (0, 0)) fun r3 =>
 J0 ((sv, sl, (sa, san, sac), ()), (some (Addr.mk r3 0 none), ()), ())
 ) (
 π.ite (decide (sl < 0)) (
 π.nw (Obj.cells #[(.int .i64 sl), (.map (some r1)), (.bool true)] (222 : Nat) (0, 0)) fun r4 =>
 J0 ((sv, sl, (sa, san, sac), ()), (some (Addr.mk r4 0 none), ()), ())
 ) (
 π.nw (Obj.cells #[(.int .i64 sl), (.map (some r1)), (.bool (decide (sl > 1125899906842624)))] (222 : Nat) (0, 0)) fun r5 =>
 J0 ((sv, sl, (sa, san, sac), ()), (some (Addr.mk r5 0 none), ()), ())
 )
 )
 )
 ) (fun (((x6 : Int), (x7 : Int), ((a8 : Option Addr), (n9 : Nat), (c10 : Nat)), _), (p11, _), _) =>
 π.call 117 #[(.pointer (p11)), (.slice a8 n9 c10), (.int .i64 0), (.int .i64 6), (.func (Fn.func (118 : Nat)) #[] #[])] (true, []) fun (_) =>
 π.loop [(true, [.int .i64, .int .i64, .slice]), (false, [.ptr]), (false, [.slice]), (false, [.int .i64]), (false, [.int .i64])] ((x6, x7, (a8, n9, c10), ()), (p11, ()), ((a8, n9, c10), ()), ((↑n9 : Int), ()), ((0 : Int), ()), ()) fun (((x13 : Int), (x14 : Int), ((a15 : Option Addr), (n16 : Nat), (c17 : Nat)), _), (p18, _), (((a19 : Option Addr), (n20 : Nat), (c21 : Nat)), _), ((x22 : Int), _), ((x23 : Int), _), _) again12 =>
 π.ite (decide (x23 < x22)) (
 π.guard (0 ≤ x23 ∧ x23 < (↑n20 : Int)) <|
 π.af (a19) fun p24 =>
 π.ld [.int .i64, .str, .slice, .slice, .slice] (p24.add (x23.toNat * 5)) fun ((x25 : Int), (t26 : ByteArray), ((a27 : Option Addr), (n28 : Nat), (c29 : Nat)), ((a30 : Option Addr), (n31 : Nat), (c32 : Nat)), ((a33 : Option Addr), (n34 : Nat), (c35 : Nat)), _) =>
 π.af (p18) fun p36 =>
 π.ld [.bool] (p36.add 2) fun ((b37 : Bool), _) =>
 π.ite (b37) (
 π.ret (.int .i64 100)
 ) (
 π.call 119 #[(.pointer (p18)), (.agg #[(.int .i64 x13), (.int .i64 x14), (.slice a15 n16 c17)]), (.agg #[(.int .i64 x25), (.string t26), (.slice a27 n28 c29), (.slice a30 n31 c32), (.slice a33 n34 c35)])] (true, []) fun (_) =>
 again12 ((x13, x14, (a15, n16, c17), ()), (p18, ()), ((a19, n20, c21), ()), (x22, ()), (i64.wrap (x23 + 1), ()), ())
 )
 ) (
 π.af (p18) fun p38 =>
 π.ld [.bool] (p38.add 2) fun ((b39 : Bool), _) =>
 π.ite (b39) (
 π.ret (.int .i64 100)
 ) (
 π.ret (.int .i64 0)
 )
 )
 )
theorem F5 (sv sl : Int) (sa : Option Addr) (san sac : Nat) : OK 57 [.v (.agg #[.int .i64 sv, .int .i64 sl, .slice sa san sac])] fun _ π => zX π sv sl sa san sac :=
 aV { ptr := [(1, 1, 0), (5, 5, 0), (6, 1, 1), (9, 1, 0), (13, 1, 0), (18, 1, 1), (23, 1, 1), (30, 1, 2), (33, 1, 2)], ty := [(1, 43), (5, 139)] } { join := [(2, [(1, 43), (3, 219)])], loop := [(4, [(1, 43), (3, 219), (34, 41), (35, 3), (36, 3)])] } [] Tryz.func57 Tryz.ntmps57 rfl (by kernel_rfl) fun _ π => by kernel_rfl
end
end Go.Proofs.YtlfdfgokflhdbaaGreat
