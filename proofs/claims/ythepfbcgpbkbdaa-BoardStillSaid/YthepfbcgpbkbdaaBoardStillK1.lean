/-
  Part 1 for the law: texts of this session's own, those parts that the claim needs, one behind the other.
  Conditions: none; it proves no statement by itself.
-/
import Derived.Test.YthepfbcgpbkbdaaFwQ
import Derived.Test.YthepfbcgpbkbdaaFwU
import Derived.Test.YthepfbcgpbkbdaaProg
import Derived.Test.YthepfbcgpbkbdaaFwW
import Derived.Test.YthepfbcgpbkbdaaFwO
import Derived.KernelRfl
import Derived.WalkKit
import Derived.ProofKit
import Derived.OpenShut
import Derived.ShutString
import Derived.ChangeOld
import Derived.Below
import Derived.SizedLaws
set_option linter.unusedVariables false
set_option linter.unusedSectionVars false
set_option linter.unusedSimpArgs false
section
set_option linter.unusedVariables false
set_option maxHeartbeats 1000000
namespace Go.Proofs.Ythepfbcgpbkbdaa
open Fw Fw.W Go
/-- lintel/schema.named -/
def vc_named {W : Type} (π : Prims W) (tx : ByteArray) : W :=
  π.ite (decide ((↑tx.size : Int) < (1 : Int))) (
    π.ret (Go.Value.bool (false))
  ) (
    π.ite (decide ((↑tx.size : Int) > (16 : Int))) (
      π.ret (Go.Value.bool (false))
    ) (
      π.loop [(false, [.int .i64]), (false, [.int .i64])] (((↑tx.size : Int), ()), ((0 : Int), ()), ()) fun (((x1 : Int), _), ((x2 : Int), _), _) again0 =>
        π.ite (decide (x2 < x1)) (
          π.guard ((0 : Int) ≤ x2 ∧ x2 < (↑tx.size : Int)) <|
          π.ite (decide ((↑(tx[x2.toNat]?.getD (0 : UInt8)).toNat : Int) ≥ (97 : Int))) (
            π.ite (!decide ((↑(tx[x2.toNat]?.getD (0 : UInt8)).toNat : Int) ≤ (122 : Int))) (
              π.ite (x2 == (0 : Int)) (
                π.ret (Go.Value.bool (false))
              ) (
                π.ite ((↑(tx[x2.toNat]?.getD (0 : UInt8)).toNat : Int) != (95 : Int)) (
                  π.ite (decide ((↑(tx[x2.toNat]?.getD (0 : UInt8)).toNat : Int) < (48 : Int))) (
                    π.ret (Go.Value.bool (false))
                  ) (
                    π.ite (decide ((↑(tx[x2.toNat]?.getD (0 : UInt8)).toNat : Int) > (57 : Int))) (
                      π.ret (Go.Value.bool (false))
                    ) (
                      again0 ((x1, ()), (IntKind.i64.wrap (x2 + (1 : Int)), ()), ())
                    )
                  )
                ) (
                  again0 ((x1, ()), (IntKind.i64.wrap (x2 + (1 : Int)), ()), ())
                )
              )
            ) (
              again0 ((x1, ()), (IntKind.i64.wrap (x2 + (1 : Int)), ()), ())
            )
          ) (
            π.ite (x2 == (0 : Int)) (
              π.ret (Go.Value.bool (false))
            ) (
              π.ite ((↑(tx[x2.toNat]?.getD (0 : UInt8)).toNat : Int) != (95 : Int)) (
                π.ite (decide ((↑(tx[x2.toNat]?.getD (0 : UInt8)).toNat : Int) < (48 : Int))) (
                  π.ret (Go.Value.bool (false))
                ) (
                  π.ite (decide ((↑(tx[x2.toNat]?.getD (0 : UInt8)).toNat : Int) > (57 : Int))) (
                    π.ret (Go.Value.bool (false))
                  ) (
                    again0 ((x1, ()), (IntKind.i64.wrap (x2 + (1 : Int)), ()), ())
                  )
                )
              ) (
                again0 ((x1, ()), (IntKind.i64.wrap (x2 + (1 : Int)), ()), ())
              )
            )
          )
        ) (
          π.ret (Go.Value.bool (true))
        )
    )
  )
def ann_named : Ann := { draws := [], join := [], loop := [(4, [(15, 3), (16, 3)])] }
def la_named : LA := { ptr := [], ty := [] }
set_option maxRecDepth 100000 in
theorem eq_named {W : Type} (π : Prims W) (tx : ByteArray) : bodyL π Try.prog la_named ann_named (mkFr (maskA [] [.v (.string tx)] 0) 47) Try.f91 (bodyOf Try.f91) (mkFr (List.map some [.v (.string tx)]) 47) = vc_named π tx := by kernel_rfl
theorem ok_named (tx : ByteArray) (R : Value → PH → Prop) (s : PH) (h : vc_named (RP Try.prog R) tx s) : DCalls Try.prog 91 (List.map AV.val [.v (.string tx)]).toArray s R :=
  calls_vcL (c := bodyOf Try.f91) (ann := ann_named) la_named (by kernel_rfl) Try.func91 rfl (by kernel_rfl) [.v (.string tx)] [] (by rw [Try.ntmps91]; exact Nat.le_of_ble_eq_true rfl) (by kernel_rfl) (by rw [show Try.f91.ntmps = 47 from Try.ntmps91, eq_named]; exact h)
/-- lintel/schema.kind -/
def vc_kind {W : Type} (π : Prims W) (k : Int) : W :=
  π.ite (k == (1 : Int)) (
    π.ret (Go.Value.bool (true))
  ) (
    π.ret (Go.Value.bool (k == (2 : Int)))
  )
def ann_kind : Ann := { draws := [], join := [], loop := [] }
def la_kind : LA := { ptr := [], ty := [] }
set_option maxRecDepth 100000 in
theorem eq_kind {W : Type} (π : Prims W) (k : Int) : bodyL π Try.prog la_kind ann_kind (mkFr (maskA [] [.v (.int .i64 k)] 0) 9) Try.f100 (bodyOf Try.f100) (mkFr (List.map some [.v (.int .i64 k)]) 9) = vc_kind π k := by kernel_rfl
theorem ok_kind (k : Int) (R : Value → PH → Prop) (s : PH) (h : vc_kind (RP Try.prog R) k s) : DCalls Try.prog 100 (List.map AV.val [.v (.int .i64 k)]).toArray s R :=
  calls_vcL (c := bodyOf Try.f100) (ann := ann_kind) la_kind (by kernel_rfl) Try.func100 rfl (by kernel_rfl) [.v (.int .i64 k)] [] (by rw [Try.ntmps100]; exact Nat.le_of_ble_eq_true rfl) (by kernel_rfl) (by rw [show Try.f100.ntmps = 9 from Try.ntmps100, eq_kind]; exact h)
/-- lintel/value.Check -/
def vc_vCheck {W : Type} (π : Prims W) (vk vn : Int) (vs : ByteArray) : W :=
  π.ite (vk == (0 : Int)) (
    π.ite (vn == (0 : Int)) (
      π.ite (!vs.toList == (ByteArray.mk #[]).toList) (
        π.ret (Go.Value.int (IntKind.i64) ((10 : Int)))
      ) (
        π.ret (Go.Value.int (IntKind.i64) ((0 : Int)))
      )
    ) (
      π.ret (Go.Value.int (IntKind.i64) ((10 : Int)))
    )
  ) (
    π.ite (vk == (1 : Int)) (
      π.ite (!vs.toList == (ByteArray.mk #[]).toList) (
        π.ret (Go.Value.int (IntKind.i64) ((10 : Int)))
      ) (
        π.ret (Go.Value.int (IntKind.i64) ((0 : Int)))
      )
    ) (
      π.ite (vk == (2 : Int)) (
        π.ite (vn == (0 : Int)) (
          π.ite (!decide ((↑vs.size : Int) ≤ (64 : Int))) (
            π.ret (Go.Value.int (IntKind.i64) ((10 : Int)))
          ) (
            π.ret (Go.Value.int (IntKind.i64) ((0 : Int)))
          )
        ) (
          π.ret (Go.Value.int (IntKind.i64) ((10 : Int)))
        )
      ) (
        π.ret (Go.Value.int (IntKind.i64) ((10 : Int)))
      )
    )
  )
def ann_vCheck : Ann := { draws := [], join := [], loop := [] }
def la_vCheck : LA := { ptr := [(1, 1, 0), (4, 1, 0), (8, 1, 1), (12, 1, 2), (18, 1, 2), (23, 1, 1), (27, 1, 2)], ty := [(1, 26)] }
set_option maxRecDepth 100000 in
theorem eq_vCheck {W : Type} (π : Prims W) (vk vn : Int) (vs : ByteArray) : bodyL π Try.prog la_vCheck ann_vCheck (mkFr (maskA [] [.v (.agg #[.int .i64 vk, .int .i64 vn, .string vs])] 0) 34) Try.f133 (bodyOf Try.f133) (mkFr (List.map some [.v (.agg #[.int .i64 vk, .int .i64 vn, .string vs])]) 34) = vc_vCheck π vk vn vs := by kernel_rfl
theorem ok_vCheck (vk vn : Int) (vs : ByteArray) (R : Value → PH → Prop) (s : PH) (h : vc_vCheck (RP Try.prog R) vk vn vs s) : DCalls Try.prog 133 (List.map AV.val [.v (.agg #[.int .i64 vk, .int .i64 vn, .string vs])]).toArray s R :=
  calls_vcL (c := bodyOf Try.f133) (ann := ann_vCheck) la_vCheck (by kernel_rfl) Try.func133 rfl (by kernel_rfl) [.v (.agg #[.int .i64 vk, .int .i64 vn, .string vs])] [] (by rw [Try.ntmps133]; exact Nat.le_of_ble_eq_true rfl) (by kernel_rfl) (by rw [show Try.f133.ntmps = 34 from Try.ntmps133, eq_vCheck]; exact h)
/-- lintel/schema.fits -/
def vc_fits {W : Type} (π : Prims W) (vk vn : Int) (vs : ByteArray) (k : Int) : W :=
  π.call (133 : Nat) #[(Go.Value.agg #[(Go.Value.int (IntKind.i64) (vk)), (Go.Value.int (IntKind.i64) (vn)), (Go.Value.string (vs))])] (false, [(false, [.int .i64])]) fun (((x0 : Int), _), _) =>
  π.ite (x0 == (0 : Int)) (
    π.ite (vk == (0 : Int)) (
      π.ret (Go.Value.bool (true))
    ) (
      π.ret (Go.Value.bool (vk == k))
    )
  ) (
    π.ret (Go.Value.bool (false))
  )
def ann_fits : Ann := { draws := [], join := [], loop := [] }
def la_fits : LA := { ptr := [(2, 2, 0), (9, 2, 0), (13, 2, 0)], ty := [(2, 26)] }
set_option maxRecDepth 100000 in
theorem eq_fits {W : Type} (π : Prims W) (vk vn : Int) (vs : ByteArray) (k : Int) : bodyL π Try.prog la_fits ann_fits (mkFr (maskA [] [.v (.agg #[.int .i64 vk, .int .i64 vn, .string vs]), .v (.int .i64 k)] 0) 19) Try.f101 (bodyOf Try.f101) (mkFr (List.map some [.v (.agg #[.int .i64 vk, .int .i64 vn, .string vs]), .v (.int .i64 k)]) 19) = vc_fits π vk vn vs k := by kernel_rfl
theorem ok_fits (vk vn : Int) (vs : ByteArray) (k : Int) (R : Value → PH → Prop) (s : PH) (h : vc_fits (RP Try.prog R) vk vn vs k s) : DCalls Try.prog 101 (List.map AV.val [.v (.agg #[.int .i64 vk, .int .i64 vn, .string vs]), .v (.int .i64 k)]).toArray s R :=
  calls_vcL (c := bodyOf Try.f101) (ann := ann_fits) la_fits (by kernel_rfl) Try.func101 rfl (by kernel_rfl) [.v (.agg #[.int .i64 vk, .int .i64 vn, .string vs]), .v (.int .i64 k)] [] (by rw [Try.ntmps101]; exact Nat.le_of_ble_eq_true rfl) (by kernel_rfl) (by rw [show Try.f101.ntmps = 19 from Try.ntmps101, eq_fits]; exact h)
/-- lintel/schema.fresh -/
def vc_fresh {W : Type} (π : Prims W) (name : ByteArray) (n : Int) : W :=
  π.call (91 : Nat) #[(Go.Value.string (name))] (false, [(false, [.bool])]) fun (((b0 : Bool), _), _) =>
  π.ite (!b0) (
    π.ret (Go.Value.int (IntKind.i64) ((100 : Int)))
  ) (
    π.ite (decide (n ≥ (8 : Int))) (
      π.ret (Go.Value.int (IntKind.i64) ((156 : Int)))
    ) (
      π.ret (Go.Value.int (IntKind.i64) ((0 : Int)))
    )
  )
def ann_fresh : Ann := { draws := [], join := [], loop := [] }
def la_fresh : LA := { ptr := [], ty := [] }
set_option maxRecDepth 100000 in
theorem eq_fresh {W : Type} (π : Prims W) (name : ByteArray) (n : Int) : bodyL π Try.prog la_fresh ann_fresh (mkFr (maskA [] [.v (.string name), .v (.int .i64 n)] 0) 12) Try.f118 (bodyOf Try.f118) (mkFr (List.map some [.v (.string name), .v (.int .i64 n)]) 12) = vc_fresh π name n := by kernel_rfl
theorem ok_fresh (name : ByteArray) (n : Int) (R : Value → PH → Prop) (s : PH) (h : vc_fresh (RP Try.prog R) name n s) : DCalls Try.prog 118 (List.map AV.val [.v (.string name), .v (.int .i64 n)]).toArray s R :=
  calls_vcL (c := bodyOf Try.f118) (ann := ann_fresh) la_fresh (by kernel_rfl) Try.func118 rfl (by kernel_rfl) [.v (.string name), .v (.int .i64 n)] [] (by rw [Try.ntmps118]; exact Nat.le_of_ble_eq_true rfl) (by kernel_rfl) (by rw [show Try.f118.ntmps = 12 from Try.ntmps118, eq_fresh]; exact h)
/-- lintel/schema.table -/
def vc_fTable {W : Type} (π : Prims W) (ti : Int) (tn : ByteArray) (ca : Option Addr) (can cac : Nat) (xa : Option Addr) (xan xac : Nat) (ka : Option Addr) (kan kac : Nat) : W :=
  π.ret (Go.Value.string (tn))
def ann_fTable : Ann := { draws := [], join := [], loop := [] }
def la_fTable : LA := { ptr := [(1, 1, 0), (3, 1, 1)], ty := [(1, 42)] }
set_option maxRecDepth 100000 in
theorem eq_fTable {W : Type} (π : Prims W) (ti : Int) (tn : ByteArray) (ca : Option Addr) (can cac : Nat) (xa : Option Addr) (xan xac : Nat) (ka : Option Addr) (kan kac : Nat) : bodyL π Try.prog la_fTable ann_fTable (mkFr (maskA [] [.v (.agg #[.int .i64 ti, .string tn, .slice ca can cac, .slice xa xan xac, .slice ka kan kac])] 0) 5) Try.f46 (bodyOf Try.f46) (mkFr (List.map some [.v (.agg #[.int .i64 ti, .string tn, .slice ca can cac, .slice xa xan xac, .slice ka kan kac])]) 5) = vc_fTable π ti tn ca can cac xa xan xac ka kan kac := by kernel_rfl
theorem ok_fTable (ti : Int) (tn : ByteArray) (ca : Option Addr) (can cac : Nat) (xa : Option Addr) (xan xac : Nat) (ka : Option Addr) (kan kac : Nat) (R : Value → PH → Prop) (s : PH) (h : vc_fTable (RP Try.prog R) ti tn ca can cac xa xan xac ka kan kac s) : DCalls Try.prog 46 (List.map AV.val [.v (.agg #[.int .i64 ti, .string tn, .slice ca can cac, .slice xa xan xac, .slice ka kan kac])]).toArray s R :=
  calls_vcL (c := bodyOf Try.f46) (ann := ann_fTable) la_fTable (by kernel_rfl) Try.func46 rfl (by kernel_rfl) [.v (.agg #[.int .i64 ti, .string tn, .slice ca can cac, .slice xa xan xac, .slice ka kan kac])] [] (by rw [Try.ntmps46]; exact Nat.le_of_ble_eq_true rfl) (by kernel_rfl) (by rw [show Try.f46.ntmps = 5 from Try.ntmps46, eq_fTable]; exact h)
/-- lintel/schema.column -/
def vc_fColumn {W : Type} (π : Prims W) (ci : Int) (cn : ByteArray) (ck cs vk vn : Int) (vs : ByteArray) : W :=
  π.ret (Go.Value.string (cn))
def ann_fColumn : Ann := { draws := [], join := [], loop := [] }
def la_fColumn : LA := { ptr := [(1, 1, 0), (3, 1, 1)], ty := [(1, 44)] }
set_option maxRecDepth 100000 in
theorem eq_fColumn {W : Type} (π : Prims W) (ci : Int) (cn : ByteArray) (ck cs vk vn : Int) (vs : ByteArray) : bodyL π Try.prog la_fColumn ann_fColumn (mkFr (maskA [] [.v (.agg #[.int .i64 ci, .string cn, .int .i64 ck, .int .i64 cs, .int .i64 vk, .int .i64 vn, .string vs])] 0) 5) Try.f94 (bodyOf Try.f94) (mkFr (List.map some [.v (.agg #[.int .i64 ci, .string cn, .int .i64 ck, .int .i64 cs, .int .i64 vk, .int .i64 vn, .string vs])]) 5) = vc_fColumn π ci cn ck cs vk vn vs := by kernel_rfl
theorem ok_fColumn (ci : Int) (cn : ByteArray) (ck cs vk vn : Int) (vs : ByteArray) (R : Value → PH → Prop) (s : PH) (h : vc_fColumn (RP Try.prog R) ci cn ck cs vk vn vs s) : DCalls Try.prog 94 (List.map AV.val [.v (.agg #[.int .i64 ci, .string cn, .int .i64 ck, .int .i64 cs, .int .i64 vk, .int .i64 vn, .string vs])]).toArray s R :=
  calls_vcL (c := bodyOf Try.f94) (ann := ann_fColumn) la_fColumn (by kernel_rfl) Try.func94 rfl (by kernel_rfl) [.v (.agg #[.int .i64 ci, .string cn, .int .i64 ck, .int .i64 cs, .int .i64 vk, .int .i64 vn, .string vs])] [] (by rw [Try.ntmps94]; exact Nat.le_of_ble_eq_true rfl) (by kernel_rfl) (by rw [show Try.f94.ntmps = 5 from Try.ntmps94, eq_fColumn]; exact h)
/-- lintel/schema.index -/
def vc_fIndex {W : Type} (π : Prims W) (xi : Int) (xn : ByteArray) (xc : Int) (xu : Bool) (xs : Int) : W :=
  π.ret (Go.Value.string (xn))
def ann_fIndex : Ann := { draws := [], join := [], loop := [] }
def la_fIndex : LA := { ptr := [(1, 1, 0), (3, 1, 1)], ty := [(1, 106)] }
set_option maxRecDepth 100000 in
theorem eq_fIndex {W : Type} (π : Prims W) (xi : Int) (xn : ByteArray) (xc : Int) (xu : Bool) (xs : Int) : bodyL π Try.prog la_fIndex ann_fIndex (mkFr (maskA [] [.v (.agg #[.int .i64 xi, .string xn, .int .i64 xc, .bool xu, .int .i64 xs])] 0) 5) Try.f96 (bodyOf Try.f96) (mkFr (List.map some [.v (.agg #[.int .i64 xi, .string xn, .int .i64 xc, .bool xu, .int .i64 xs])]) 5) = vc_fIndex π xi xn xc xu xs := by kernel_rfl
theorem ok_fIndex (xi : Int) (xn : ByteArray) (xc : Int) (xu : Bool) (xs : Int) (R : Value → PH → Prop) (s : PH) (h : vc_fIndex (RP Try.prog R) xi xn xc xu xs s) : DCalls Try.prog 96 (List.map AV.val [.v (.agg #[.int .i64 xi, .string xn, .int .i64 xc, .bool xu, .int .i64 xs])]).toArray s R :=
  calls_vcL (c := bodyOf Try.f96) (ann := ann_fIndex) la_fIndex (by kernel_rfl) Try.func96 rfl (by kernel_rfl) [.v (.agg #[.int .i64 xi, .string xn, .int .i64 xc, .bool xu, .int .i64 xs])] [] (by rw [Try.ntmps96]; exact Nat.le_of_ble_eq_true rfl) (by kernel_rfl) (by rw [show Try.f96.ntmps = 5 from Try.ntmps96, eq_fIndex]; exact h)
/-- lintel/schema.foreign -/
def vc_fForeign {W : Type} (π : Prims W) (fi : Int) (fn : ByteArray) (fc fp fs : Int) : W :=
  π.ret (Go.Value.string (fn))
def ann_fForeign : Ann := { draws := [], join := [], loop := [] }
def la_fForeign : LA := { ptr := [(1, 1, 0), (3, 1, 1)], ty := [(1, 109)] }
set_option maxRecDepth 100000 in
theorem eq_fForeign {W : Type} (π : Prims W) (fi : Int) (fn : ByteArray) (fc fp fs : Int) : bodyL π Try.prog la_fForeign ann_fForeign (mkFr (maskA [] [.v (.agg #[.int .i64 fi, .string fn, .int .i64 fc, .int .i64 fp, .int .i64 fs])] 0) 5) Try.f98 (bodyOf Try.f98) (mkFr (List.map some [.v (.agg #[.int .i64 fi, .string fn, .int .i64 fc, .int .i64 fp, .int .i64 fs])]) 5) = vc_fForeign π fi fn fc fp fs := by kernel_rfl
theorem ok_fForeign (fi : Int) (fn : ByteArray) (fc fp fs : Int) (R : Value → PH → Prop) (s : PH) (h : vc_fForeign (RP Try.prog R) fi fn fc fp fs s) : DCalls Try.prog 98 (List.map AV.val [.v (.agg #[.int .i64 fi, .string fn, .int .i64 fc, .int .i64 fp, .int .i64 fs])]).toArray s R :=
  calls_vcL (c := bodyOf Try.f98) (ann := ann_fForeign) la_fForeign (by kernel_rfl) Try.func98 rfl (by kernel_rfl) [.v (.agg #[.int .i64 fi, .string fn, .int .i64 fc, .int .i64 fp, .int .i64 fs])] [] (by rw [Try.ntmps98]; exact Nat.le_of_ble_eq_true rfl) (by kernel_rfl) (by rw [show Try.f98.ntmps = 5 from Try.ntmps98, eq_fForeign]; exact h)
/-- lintel/schema.find[lintel/api.Table]$1 -/
def vc_find1 {W : Type} (π : Prims W) (ti : Int) (tn : ByteArray) (ca : Option Addr) (can cac : Nat) (xa : Option Addr) (xan xac : Nat) (ka : Option Addr) (kan kac : Nat) (p q : Nat) : W :=
  π.ld [.raw] (Addr.mk p (0 : Nat) none) fun ((v0 : Value), _) =>
  π.ld [.str] (Addr.mk q (0 : Nat) none) fun ((t1 : ByteArray), _) =>
  π.callV v0 #[(Go.Value.agg #[(Go.Value.int (IntKind.i64) (ti)), (Go.Value.string (tn)), (Go.Value.slice (ca) (can) (cac)), (Go.Value.slice (xa) (xan) (xac)), (Go.Value.slice (ka) (kan) (kac))])] (false, [(false, [.str])]) fun (((t2 : ByteArray), _), _) =>
  π.still [.str] (Addr.mk q (0 : Nat) none) (t1, ()) <|
  π.ret (Go.Value.bool (t2.toList == t1.toList))
def ann_find1 : Ann := { draws := [(1, { A := [0, 1, 3], chkL := [(2, [3])], eag := [4, 5] })], join := [], loop := [] }
def la_find1 : LA := { ptr := [(3, 3, 0)], ty := [(3, 42)] }
set_option maxRecDepth 100000 in
theorem eq_find1 {W : Type} (π : Prims W) (ti : Int) (tn : ByteArray) (ca : Option Addr) (can cac : Nat) (xa : Option Addr) (xan xac : Nat) (ka : Option Addr) (kan kac : Nat) (p q : Nat) : bodyL π Try.prog la_find1 ann_find1 (mkFr (maskA [] [.v (.agg #[.int .i64 ti, .string tn, .slice ca can cac, .slice xa xan xac, .slice ka kan kac]), .v (.pointer (some ⟨p, 0, none⟩)), .v (.pointer (some ⟨q, 0, none⟩))] 0) 10) Try.f89 (bodyOf Try.f89) (mkFr (List.map some [.v (.agg #[.int .i64 ti, .string tn, .slice ca can cac, .slice xa xan xac, .slice ka kan kac]), .v (.pointer (some ⟨p, 0, none⟩)), .v (.pointer (some ⟨q, 0, none⟩))]) 10) = vc_find1 π ti tn ca can cac xa xan xac ka kan kac p q := by kernel_rfl
theorem ok_find1 (ti : Int) (tn : ByteArray) (ca : Option Addr) (can cac : Nat) (xa : Option Addr) (xan xac : Nat) (ka : Option Addr) (kan kac : Nat) (p q : Nat) (R : Value → PH → Prop) (s : PH) (h : vc_find1 (RP Try.prog R) ti tn ca can cac xa xan xac ka kan kac p q s) : DCalls Try.prog 89 (List.map AV.val [.v (.agg #[.int .i64 ti, .string tn, .slice ca can cac, .slice xa xan xac, .slice ka kan kac]), .v (.pointer (some ⟨p, 0, none⟩)), .v (.pointer (some ⟨q, 0, none⟩))]).toArray s R :=
  calls_vcL (c := bodyOf Try.f89) (ann := ann_find1) la_find1 (by kernel_rfl) Try.func89 rfl (by kernel_rfl) [.v (.agg #[.int .i64 ti, .string tn, .slice ca can cac, .slice xa xan xac, .slice ka kan kac]), .v (.pointer (some ⟨p, 0, none⟩)), .v (.pointer (some ⟨q, 0, none⟩))] [] (by rw [Try.ntmps89]; exact Nat.le_of_ble_eq_true rfl) (by kernel_rfl) (by rw [show Try.f89.ntmps = 10 from Try.ntmps89, eq_find1]; exact h)
/-- lintel/schema.find[lintel/api.Column]$1 -/
def vc_find2 {W : Type} (π : Prims W) (ci : Int) (cn : ByteArray) (ck cs vk vn : Int) (vs : ByteArray) (p q : Nat) : W :=
  π.ld [.raw] (Addr.mk p (0 : Nat) none) fun ((v0 : Value), _) =>
  π.ld [.str] (Addr.mk q (0 : Nat) none) fun ((t1 : ByteArray), _) =>
  π.callV v0 #[(Go.Value.agg #[(Go.Value.int (IntKind.i64) (ci)), (Go.Value.string (cn)), (Go.Value.int (IntKind.i64) (ck)), (Go.Value.int (IntKind.i64) (cs)), (Go.Value.int (IntKind.i64) (vk)), (Go.Value.int (IntKind.i64) (vn)), (Go.Value.string (vs))])] (false, [(false, [.str])]) fun (((t2 : ByteArray), _), _) =>
  π.still [.str] (Addr.mk q (0 : Nat) none) (t1, ()) <|
  π.ret (Go.Value.bool (t2.toList == t1.toList))
def ann_find2 : Ann := { draws := [(1, { A := [0, 1, 3], chkL := [(2, [3])], eag := [4, 5] })], join := [], loop := [] }
def la_find2 : LA := { ptr := [(3, 3, 0)], ty := [(3, 44)] }
set_option maxRecDepth 100000 in
theorem eq_find2 {W : Type} (π : Prims W) (ci : Int) (cn : ByteArray) (ck cs vk vn : Int) (vs : ByteArray) (p q : Nat) : bodyL π Try.prog la_find2 ann_find2 (mkFr (maskA [] [.v (.agg #[.int .i64 ci, .string cn, .int .i64 ck, .int .i64 cs, .int .i64 vk, .int .i64 vn, .string vs]), .v (.pointer (some ⟨p, 0, none⟩)), .v (.pointer (some ⟨q, 0, none⟩))] 0) 10) Try.f140 (bodyOf Try.f140) (mkFr (List.map some [.v (.agg #[.int .i64 ci, .string cn, .int .i64 ck, .int .i64 cs, .int .i64 vk, .int .i64 vn, .string vs]), .v (.pointer (some ⟨p, 0, none⟩)), .v (.pointer (some ⟨q, 0, none⟩))]) 10) = vc_find2 π ci cn ck cs vk vn vs p q := by kernel_rfl
theorem ok_find2 (ci : Int) (cn : ByteArray) (ck cs vk vn : Int) (vs : ByteArray) (p q : Nat) (R : Value → PH → Prop) (s : PH) (h : vc_find2 (RP Try.prog R) ci cn ck cs vk vn vs p q s) : DCalls Try.prog 140 (List.map AV.val [.v (.agg #[.int .i64 ci, .string cn, .int .i64 ck, .int .i64 cs, .int .i64 vk, .int .i64 vn, .string vs]), .v (.pointer (some ⟨p, 0, none⟩)), .v (.pointer (some ⟨q, 0, none⟩))]).toArray s R :=
  calls_vcL (c := bodyOf Try.f140) (ann := ann_find2) la_find2 (by kernel_rfl) Try.func140 rfl (by kernel_rfl) [.v (.agg #[.int .i64 ci, .string cn, .int .i64 ck, .int .i64 cs, .int .i64 vk, .int .i64 vn, .string vs]), .v (.pointer (some ⟨p, 0, none⟩)), .v (.pointer (some ⟨q, 0, none⟩))] [] (by rw [Try.ntmps140]; exact Nat.le_of_ble_eq_true rfl) (by kernel_rfl) (by rw [show Try.f140.ntmps = 10 from Try.ntmps140, eq_find2]; exact h)
/-- lintel/schema.find[lintel/api.Index]$1 -/
def vc_find3 {W : Type} (π : Prims W) (xi : Int) (xn : ByteArray) (xc : Int) (xu : Bool) (xs : Int) (p q : Nat) : W :=
  π.ld [.raw] (Addr.mk p (0 : Nat) none) fun ((v0 : Value), _) =>
  π.ld [.str] (Addr.mk q (0 : Nat) none) fun ((t1 : ByteArray), _) =>
  π.callV v0 #[(Go.Value.agg #[(Go.Value.int (IntKind.i64) (xi)), (Go.Value.string (xn)), (Go.Value.int (IntKind.i64) (xc)), (Go.Value.bool (xu)), (Go.Value.int (IntKind.i64) (xs))])] (false, [(false, [.str])]) fun (((t2 : ByteArray), _), _) =>
  π.still [.str] (Addr.mk q (0 : Nat) none) (t1, ()) <|
  π.ret (Go.Value.bool (t2.toList == t1.toList))
def ann_find3 : Ann := { draws := [(1, { A := [0, 1, 3], chkL := [(2, [3])], eag := [4, 5] })], join := [], loop := [] }
def la_find3 : LA := { ptr := [(3, 3, 0)], ty := [(3, 106)] }
set_option maxRecDepth 100000 in
theorem eq_find3 {W : Type} (π : Prims W) (xi : Int) (xn : ByteArray) (xc : Int) (xu : Bool) (xs : Int) (p q : Nat) : bodyL π Try.prog la_find3 ann_find3 (mkFr (maskA [] [.v (.agg #[.int .i64 xi, .string xn, .int .i64 xc, .bool xu, .int .i64 xs]), .v (.pointer (some ⟨p, 0, none⟩)), .v (.pointer (some ⟨q, 0, none⟩))] 0) 10) Try.f142 (bodyOf Try.f142) (mkFr (List.map some [.v (.agg #[.int .i64 xi, .string xn, .int .i64 xc, .bool xu, .int .i64 xs]), .v (.pointer (some ⟨p, 0, none⟩)), .v (.pointer (some ⟨q, 0, none⟩))]) 10) = vc_find3 π xi xn xc xu xs p q := by kernel_rfl
theorem ok_find3 (xi : Int) (xn : ByteArray) (xc : Int) (xu : Bool) (xs : Int) (p q : Nat) (R : Value → PH → Prop) (s : PH) (h : vc_find3 (RP Try.prog R) xi xn xc xu xs p q s) : DCalls Try.prog 142 (List.map AV.val [.v (.agg #[.int .i64 xi, .string xn, .int .i64 xc, .bool xu, .int .i64 xs]), .v (.pointer (some ⟨p, 0, none⟩)), .v (.pointer (some ⟨q, 0, none⟩))]).toArray s R :=
  calls_vcL (c := bodyOf Try.f142) (ann := ann_find3) la_find3 (by kernel_rfl) Try.func142 rfl (by kernel_rfl) [.v (.agg #[.int .i64 xi, .string xn, .int .i64 xc, .bool xu, .int .i64 xs]), .v (.pointer (some ⟨p, 0, none⟩)), .v (.pointer (some ⟨q, 0, none⟩))] [] (by rw [Try.ntmps142]; exact Nat.le_of_ble_eq_true rfl) (by kernel_rfl) (by rw [show Try.f142.ntmps = 10 from Try.ntmps142, eq_find3]; exact h)
/-- lintel/schema.find[lintel/api.Foreign]$1 -/
def vc_find4 {W : Type} (π : Prims W) (fi : Int) (fn : ByteArray) (fc fp fs : Int) (p q : Nat) : W :=
  π.ld [.raw] (Addr.mk p (0 : Nat) none) fun ((v0 : Value), _) =>
  π.ld [.str] (Addr.mk q (0 : Nat) none) fun ((t1 : ByteArray), _) =>
  π.callV v0 #[(Go.Value.agg #[(Go.Value.int (IntKind.i64) (fi)), (Go.Value.string (fn)), (Go.Value.int (IntKind.i64) (fc)), (Go.Value.int (IntKind.i64) (fp)), (Go.Value.int (IntKind.i64) (fs))])] (false, [(false, [.str])]) fun (((t2 : ByteArray), _), _) =>
  π.still [.str] (Addr.mk q (0 : Nat) none) (t1, ()) <|
  π.ret (Go.Value.bool (t2.toList == t1.toList))
def ann_find4 : Ann := { draws := [(1, { A := [0, 1, 3], chkL := [(2, [3])], eag := [4, 5] })], join := [], loop := [] }
def la_find4 : LA := { ptr := [(3, 3, 0)], ty := [(3, 109)] }
set_option maxRecDepth 100000 in
theorem eq_find4 {W : Type} (π : Prims W) (fi : Int) (fn : ByteArray) (fc fp fs : Int) (p q : Nat) : bodyL π Try.prog la_find4 ann_find4 (mkFr (maskA [] [.v (.agg #[.int .i64 fi, .string fn, .int .i64 fc, .int .i64 fp, .int .i64 fs]), .v (.pointer (some ⟨p, 0, none⟩)), .v (.pointer (some ⟨q, 0, none⟩))] 0) 10) Try.f144 (bodyOf Try.f144) (mkFr (List.map some [.v (.agg #[.int .i64 fi, .string fn, .int .i64 fc, .int .i64 fp, .int .i64 fs]), .v (.pointer (some ⟨p, 0, none⟩)), .v (.pointer (some ⟨q, 0, none⟩))]) 10) = vc_find4 π fi fn fc fp fs p q := by kernel_rfl
theorem ok_find4 (fi : Int) (fn : ByteArray) (fc fp fs : Int) (p q : Nat) (R : Value → PH → Prop) (s : PH) (h : vc_find4 (RP Try.prog R) fi fn fc fp fs p q s) : DCalls Try.prog 144 (List.map AV.val [.v (.agg #[.int .i64 fi, .string fn, .int .i64 fc, .int .i64 fp, .int .i64 fs]), .v (.pointer (some ⟨p, 0, none⟩)), .v (.pointer (some ⟨q, 0, none⟩))]).toArray s R :=
  calls_vcL (c := bodyOf Try.f144) (ann := ann_find4) la_find4 (by kernel_rfl) Try.func144 rfl (by kernel_rfl) [.v (.agg #[.int .i64 fi, .string fn, .int .i64 fc, .int .i64 fp, .int .i64 fs]), .v (.pointer (some ⟨p, 0, none⟩)), .v (.pointer (some ⟨q, 0, none⟩))] [] (by rw [Try.ntmps144]; exact Nat.le_of_ble_eq_true rfl) (by kernel_rfl) (by rw [show Try.f144.ntmps = 10 from Try.ntmps144, eq_find4]; exact h)
/-- slices.IndexFunc[[]lintel/api.Table,lintel/api.Table] -/
def vc_IndexFuncT {W : Type} (π : Prims W) (a : Option Addr) (an ac : Nat) (p q : Nat) : W :=
  π.loop [(false, [.int .i64]), (false, [.int .i64])] (((↑an : Int), ()), ((0 : Int), ()), ()) fun (((x1 : Int), _), ((x2 : Int), _), _) again0 =>
    π.ite (decide (x2 < x1)) (
      π.guard ((0 : Int) ≤ x2 ∧ x2 < (↑an : Int)) <|
      π.unSome (a) fun p3 =>
      π.ld [.int .i64, .str, .slice, .slice, .slice] (p3.add (x2.toNat * (5 : Nat))) fun ((x4 : Int), (t5 : ByteArray), ((a6 : Option Addr), (n7 : Nat), (c8 : Nat)), ((a9 : Option Addr), (n10 : Nat), (c11 : Nat)), ((a12 : Option Addr), (n13 : Nat), (c14 : Nat)), _) =>
      π.call (89 : Nat) #[(Go.Value.agg #[(Go.Value.int (IntKind.i64) (x4)), (Go.Value.string (t5)), (Go.Value.slice (a6) (n7) (c8)), (Go.Value.slice (a9) (n10) (c11)), (Go.Value.slice (a12) (n13) (c14))]), (Go.Value.pointer (some (Addr.mk p (0 : Nat) none))), (Go.Value.pointer (some (Addr.mk q (0 : Nat) none)))] (false, [(false, [.bool])]) fun (((b15 : Bool), _), _) =>
      π.ite (b15) (
        π.ret (Go.Value.int (IntKind.i64) (x2))
      ) (
        again0 ((x1, ()), (IntKind.i64.wrap (x2 + (1 : Int)), ()), ())
      )
    ) (
      π.ret (Go.Value.int (IntKind.i64) ((-1 : Int)))
    )
def ann_IndexFuncT : Ann := { draws := [], join := [], loop := [(2, [(7, 3), (8, 3)])] }
def la_IndexFuncT : LA := { ptr := [], ty := [] }
set_option maxRecDepth 100000 in
theorem eq_IndexFuncT {W : Type} (π : Prims W) (a : Option Addr) (an ac : Nat) (p q : Nat) : bodyL π Try.prog la_IndexFuncT ann_IndexFuncT (mkFr (maskA [] [.v (.slice a an ac), .v (.func (.func 89) #[] #[.pointer (some ⟨p, 0, none⟩), .pointer (some ⟨q, 0, none⟩)])] 0) 19) Try.f88 (bodyOf Try.f88) (mkFr (List.map some [.v (.slice a an ac), .v (.func (.func 89) #[] #[.pointer (some ⟨p, 0, none⟩), .pointer (some ⟨q, 0, none⟩)])]) 19) = vc_IndexFuncT π a an ac p q := by kernel_rfl
theorem ok_IndexFuncT (a : Option Addr) (an ac : Nat) (p q : Nat) (R : Value → PH → Prop) (s : PH) (h : vc_IndexFuncT (RP Try.prog R) a an ac p q s) : DCalls Try.prog 88 (List.map AV.val [.v (.slice a an ac), .v (.func (.func 89) #[] #[.pointer (some ⟨p, 0, none⟩), .pointer (some ⟨q, 0, none⟩)])]).toArray s R :=
  calls_vcL (c := bodyOf Try.f88) (ann := ann_IndexFuncT) la_IndexFuncT (by kernel_rfl) Try.func88 rfl (by kernel_rfl) [.v (.slice a an ac), .v (.func (.func 89) #[] #[.pointer (some ⟨p, 0, none⟩), .pointer (some ⟨q, 0, none⟩)])] [] (by rw [Try.ntmps88]; exact Nat.le_of_ble_eq_true rfl) (by kernel_rfl) (by rw [show Try.f88.ntmps = 19 from Try.ntmps88, eq_IndexFuncT]; exact h)
/-- slices.IndexFunc[[]lintel/api.Column,lintel/api.Column] -/
def vc_IndexFuncC {W : Type} (π : Prims W) (a : Option Addr) (an ac : Nat) (p q : Nat) : W :=
  π.loop [(false, [.int .i64]), (false, [.int .i64])] (((↑an : Int), ()), ((0 : Int), ()), ()) fun (((x1 : Int), _), ((x2 : Int), _), _) again0 =>
    π.ite (decide (x2 < x1)) (
      π.guard ((0 : Int) ≤ x2 ∧ x2 < (↑an : Int)) <|
      π.unSome (a) fun p3 =>
      π.ld [.int .i64, .str, .int .i64, .int .i64, .int .i64, .int .i64, .str] (p3.add (x2.toNat * (7 : Nat))) fun ((x4 : Int), (t5 : ByteArray), (x6 : Int), (x7 : Int), (x8 : Int), (x9 : Int), (t10 : ByteArray), _) =>
      π.call (140 : Nat) #[(Go.Value.agg #[(Go.Value.int (IntKind.i64) (x4)), (Go.Value.string (t5)), (Go.Value.int (IntKind.i64) (x6)), (Go.Value.int (IntKind.i64) (x7)), (Go.Value.int (IntKind.i64) (x8)), (Go.Value.int (IntKind.i64) (x9)), (Go.Value.string (t10))]), (Go.Value.pointer (some (Addr.mk p (0 : Nat) none))), (Go.Value.pointer (some (Addr.mk q (0 : Nat) none)))] (false, [(false, [.bool])]) fun (((b11 : Bool), _), _) =>
      π.ite (b11) (
        π.ret (Go.Value.int (IntKind.i64) (x2))
      ) (
        again0 ((x1, ()), (IntKind.i64.wrap (x2 + (1 : Int)), ()), ())
      )
    ) (
      π.ret (Go.Value.int (IntKind.i64) ((-1 : Int)))
    )
def ann_IndexFuncC : Ann := { draws := [], join := [], loop := [(2, [(7, 3), (8, 3)])] }
def la_IndexFuncC : LA := { ptr := [], ty := [] }
set_option maxRecDepth 100000 in
theorem eq_IndexFuncC {W : Type} (π : Prims W) (a : Option Addr) (an ac : Nat) (p q : Nat) : bodyL π Try.prog la_IndexFuncC ann_IndexFuncC (mkFr (maskA [] [.v (.slice a an ac), .v (.func (.func 140) #[] #[.pointer (some ⟨p, 0, none⟩), .pointer (some ⟨q, 0, none⟩)])] 0) 19) Try.f104 (bodyOf Try.f104) (mkFr (List.map some [.v (.slice a an ac), .v (.func (.func 140) #[] #[.pointer (some ⟨p, 0, none⟩), .pointer (some ⟨q, 0, none⟩)])]) 19) = vc_IndexFuncC π a an ac p q := by kernel_rfl
theorem ok_IndexFuncC (a : Option Addr) (an ac : Nat) (p q : Nat) (R : Value → PH → Prop) (s : PH) (h : vc_IndexFuncC (RP Try.prog R) a an ac p q s) : DCalls Try.prog 104 (List.map AV.val [.v (.slice a an ac), .v (.func (.func 140) #[] #[.pointer (some ⟨p, 0, none⟩), .pointer (some ⟨q, 0, none⟩)])]).toArray s R :=
  calls_vcL (c := bodyOf Try.f104) (ann := ann_IndexFuncC) la_IndexFuncC (by kernel_rfl) Try.func104 rfl (by kernel_rfl) [.v (.slice a an ac), .v (.func (.func 140) #[] #[.pointer (some ⟨p, 0, none⟩), .pointer (some ⟨q, 0, none⟩)])] [] (by rw [Try.ntmps104]; exact Nat.le_of_ble_eq_true rfl) (by kernel_rfl) (by rw [show Try.f104.ntmps = 19 from Try.ntmps104, eq_IndexFuncC]; exact h)
/-- slices.IndexFunc[[]lintel/api.Index,lintel/api.Index] -/
def vc_IndexFuncX {W : Type} (π : Prims W) (a : Option Addr) (an ac : Nat) (p q : Nat) : W :=
  π.loop [(false, [.int .i64]), (false, [.int .i64])] (((↑an : Int), ()), ((0 : Int), ()), ()) fun (((x1 : Int), _), ((x2 : Int), _), _) again0 =>
    π.ite (decide (x2 < x1)) (
      π.guard ((0 : Int) ≤ x2 ∧ x2 < (↑an : Int)) <|
      π.unSome (a) fun p3 =>
      π.ld [.int .i64, .str, .int .i64, .bool, .int .i64] (p3.add (x2.toNat * (5 : Nat))) fun ((x4 : Int), (t5 : ByteArray), (x6 : Int), (b7 : Bool), (x8 : Int), _) =>
      π.call (142 : Nat) #[(Go.Value.agg #[(Go.Value.int (IntKind.i64) (x4)), (Go.Value.string (t5)), (Go.Value.int (IntKind.i64) (x6)), (Go.Value.bool (b7)), (Go.Value.int (IntKind.i64) (x8))]), (Go.Value.pointer (some (Addr.mk p (0 : Nat) none))), (Go.Value.pointer (some (Addr.mk q (0 : Nat) none)))] (false, [(false, [.bool])]) fun (((b9 : Bool), _), _) =>
      π.ite (b9) (
        π.ret (Go.Value.int (IntKind.i64) (x2))
      ) (
        again0 ((x1, ()), (IntKind.i64.wrap (x2 + (1 : Int)), ()), ())
      )
    ) (
      π.ret (Go.Value.int (IntKind.i64) ((-1 : Int)))
    )
def ann_IndexFuncX : Ann := { draws := [], join := [], loop := [(2, [(7, 3), (8, 3)])] }
def la_IndexFuncX : LA := { ptr := [], ty := [] }
set_option maxRecDepth 100000 in
theorem eq_IndexFuncX {W : Type} (π : Prims W) (a : Option Addr) (an ac : Nat) (p q : Nat) : bodyL π Try.prog la_IndexFuncX ann_IndexFuncX (mkFr (maskA [] [.v (.slice a an ac), .v (.func (.func 142) #[] #[.pointer (some ⟨p, 0, none⟩), .pointer (some ⟨q, 0, none⟩)])] 0) 19) Try.f105 (bodyOf Try.f105) (mkFr (List.map some [.v (.slice a an ac), .v (.func (.func 142) #[] #[.pointer (some ⟨p, 0, none⟩), .pointer (some ⟨q, 0, none⟩)])]) 19) = vc_IndexFuncX π a an ac p q := by kernel_rfl
theorem ok_IndexFuncX (a : Option Addr) (an ac : Nat) (p q : Nat) (R : Value → PH → Prop) (s : PH) (h : vc_IndexFuncX (RP Try.prog R) a an ac p q s) : DCalls Try.prog 105 (List.map AV.val [.v (.slice a an ac), .v (.func (.func 142) #[] #[.pointer (some ⟨p, 0, none⟩), .pointer (some ⟨q, 0, none⟩)])]).toArray s R :=
  calls_vcL (c := bodyOf Try.f105) (ann := ann_IndexFuncX) la_IndexFuncX (by kernel_rfl) Try.func105 rfl (by kernel_rfl) [.v (.slice a an ac), .v (.func (.func 142) #[] #[.pointer (some ⟨p, 0, none⟩), .pointer (some ⟨q, 0, none⟩)])] [] (by rw [Try.ntmps105]; exact Nat.le_of_ble_eq_true rfl) (by kernel_rfl) (by rw [show Try.f105.ntmps = 19 from Try.ntmps105, eq_IndexFuncX]; exact h)
/-- slices.IndexFunc[[]lintel/api.Foreign,lintel/api.Foreign] -/
def vc_IndexFuncF {W : Type} (π : Prims W) (a : Option Addr) (an ac : Nat) (p q : Nat) : W :=
  π.loop [(false, [.int .i64]), (false, [.int .i64])] (((↑an : Int), ()), ((0 : Int), ()), ()) fun (((x1 : Int), _), ((x2 : Int), _), _) again0 =>
    π.ite (decide (x2 < x1)) (
      π.guard ((0 : Int) ≤ x2 ∧ x2 < (↑an : Int)) <|
      π.unSome (a) fun p3 =>
      π.ld [.int .i64, .str, .int .i64, .int .i64, .int .i64] (p3.add (x2.toNat * (5 : Nat))) fun ((x4 : Int), (t5 : ByteArray), (x6 : Int), (x7 : Int), (x8 : Int), _) =>
      π.call (144 : Nat) #[(Go.Value.agg #[(Go.Value.int (IntKind.i64) (x4)), (Go.Value.string (t5)), (Go.Value.int (IntKind.i64) (x6)), (Go.Value.int (IntKind.i64) (x7)), (Go.Value.int (IntKind.i64) (x8))]), (Go.Value.pointer (some (Addr.mk p (0 : Nat) none))), (Go.Value.pointer (some (Addr.mk q (0 : Nat) none)))] (false, [(false, [.bool])]) fun (((b9 : Bool), _), _) =>
      π.ite (b9) (
        π.ret (Go.Value.int (IntKind.i64) (x2))
      ) (
        again0 ((x1, ()), (IntKind.i64.wrap (x2 + (1 : Int)), ()), ())
      )
    ) (
      π.ret (Go.Value.int (IntKind.i64) ((-1 : Int)))
    )
def ann_IndexFuncF : Ann := { draws := [], join := [], loop := [(2, [(7, 3), (8, 3)])] }
def la_IndexFuncF : LA := { ptr := [], ty := [] }
set_option maxRecDepth 100000 in
theorem eq_IndexFuncF {W : Type} (π : Prims W) (a : Option Addr) (an ac : Nat) (p q : Nat) : bodyL π Try.prog la_IndexFuncF ann_IndexFuncF (mkFr (maskA [] [.v (.slice a an ac), .v (.func (.func 144) #[] #[.pointer (some ⟨p, 0, none⟩), .pointer (some ⟨q, 0, none⟩)])] 0) 19) Try.f106 (bodyOf Try.f106) (mkFr (List.map some [.v (.slice a an ac), .v (.func (.func 144) #[] #[.pointer (some ⟨p, 0, none⟩), .pointer (some ⟨q, 0, none⟩)])]) 19) = vc_IndexFuncF π a an ac p q := by kernel_rfl
theorem ok_IndexFuncF (a : Option Addr) (an ac : Nat) (p q : Nat) (R : Value → PH → Prop) (s : PH) (h : vc_IndexFuncF (RP Try.prog R) a an ac p q s) : DCalls Try.prog 106 (List.map AV.val [.v (.slice a an ac), .v (.func (.func 144) #[] #[.pointer (some ⟨p, 0, none⟩), .pointer (some ⟨q, 0, none⟩)])]).toArray s R :=
  calls_vcL (c := bodyOf Try.f106) (ann := ann_IndexFuncF) la_IndexFuncF (by kernel_rfl) Try.func106 rfl (by kernel_rfl) [.v (.slice a an ac), .v (.func (.func 144) #[] #[.pointer (some ⟨p, 0, none⟩), .pointer (some ⟨q, 0, none⟩)])] [] (by rw [Try.ntmps106]; exact Nat.le_of_ble_eq_true rfl) (by kernel_rfl) (by rw [show Try.f106.ntmps = 19 from Try.ntmps106, eq_IndexFuncF]; exact h)
/-- lintel/schema.find[lintel/api.Table] -/
def vc_findT {W : Type} (π : Prims W) (a : Option Addr) (an ac : Nat) (name : ByteArray) : W :=
  π.nw (Go.Obj.cells #[(Go.Value.string (name))] (9 : Nat) ((0 : Nat), (0 : Nat))) fun r0 =>
  π.nw (Go.Obj.cells #[(Go.Value.func (Fn.func (46 : Nat)) #[] #[])] (99 : Nat) ((0 : Nat), (0 : Nat))) fun r1 =>
  π.call (88 : Nat) #[(Go.Value.slice (a) (an) (ac)), (Go.Value.func (Fn.func (89 : Nat)) #[] #[(Go.Value.pointer (some (Addr.mk r1 (0 : Nat) none))), (Go.Value.pointer (some (Addr.mk r0 (0 : Nat) none)))])] (false, [(false, [.int .i64])]) fun (((x2 : Int), _), _) =>
  π.ret (Go.Value.int (IntKind.i64) (x2))
def ann_findT : Ann := { draws := [], join := [], loop := [] }
def la_findT : LA := { ptr := [], ty := [] }
set_option maxRecDepth 100000 in
theorem eq_findT {W : Type} (π : Prims W) (a : Option Addr) (an ac : Nat) (name : ByteArray) : bodyL π Try.prog la_findT ann_findT (mkFr (maskA [] [.v (.slice a an ac), .v (.string name), .v (.func (.func 46) #[] #[])] 0) 10) Try.f45 (bodyOf Try.f45) (mkFr (List.map some [.v (.slice a an ac), .v (.string name), .v (.func (.func 46) #[] #[])]) 10) = vc_findT π a an ac name := by kernel_rfl
theorem ok_findT (a : Option Addr) (an ac : Nat) (name : ByteArray) (R : Value → PH → Prop) (s : PH) (h : vc_findT (RP Try.prog R) a an ac name s) : DCalls Try.prog 45 (List.map AV.val [.v (.slice a an ac), .v (.string name), .v (.func (.func 46) #[] #[])]).toArray s R :=
  calls_vcL (c := bodyOf Try.f45) (ann := ann_findT) la_findT (by kernel_rfl) Try.func45 rfl (by kernel_rfl) [.v (.slice a an ac), .v (.string name), .v (.func (.func 46) #[] #[])] [] (by rw [Try.ntmps45]; exact Nat.le_of_ble_eq_true rfl) (by kernel_rfl) (by rw [show Try.f45.ntmps = 10 from Try.ntmps45, eq_findT]; exact h)
/-- lintel/schema.find[lintel/api.Column] -/
def vc_findC {W : Type} (π : Prims W) (a : Option Addr) (an ac : Nat) (name : ByteArray) : W :=
  π.nw (Go.Obj.cells #[(Go.Value.string (name))] (9 : Nat) ((0 : Nat), (0 : Nat))) fun r0 =>
  π.nw (Go.Obj.cells #[(Go.Value.func (Fn.func (94 : Nat)) #[] #[])] (150 : Nat) ((0 : Nat), (0 : Nat))) fun r1 =>
  π.call (104 : Nat) #[(Go.Value.slice (a) (an) (ac)), (Go.Value.func (Fn.func (140 : Nat)) #[] #[(Go.Value.pointer (some (Addr.mk r1 (0 : Nat) none))), (Go.Value.pointer (some (Addr.mk r0 (0 : Nat) none)))])] (false, [(false, [.int .i64])]) fun (((x2 : Int), _), _) =>
  π.ret (Go.Value.int (IntKind.i64) (x2))
def ann_findC : Ann := { draws := [], join := [], loop := [] }
def la_findC : LA := { ptr := [], ty := [] }
set_option maxRecDepth 100000 in
theorem eq_findC {W : Type} (π : Prims W) (a : Option Addr) (an ac : Nat) (name : ByteArray) : bodyL π Try.prog la_findC ann_findC (mkFr (maskA [] [.v (.slice a an ac), .v (.string name), .v (.func (.func 94) #[] #[])] 0) 10) Try.f117 (bodyOf Try.f117) (mkFr (List.map some [.v (.slice a an ac), .v (.string name), .v (.func (.func 94) #[] #[])]) 10) = vc_findC π a an ac name := by kernel_rfl
theorem ok_findC (a : Option Addr) (an ac : Nat) (name : ByteArray) (R : Value → PH → Prop) (s : PH) (h : vc_findC (RP Try.prog R) a an ac name s) : DCalls Try.prog 117 (List.map AV.val [.v (.slice a an ac), .v (.string name), .v (.func (.func 94) #[] #[])]).toArray s R :=
  calls_vcL (c := bodyOf Try.f117) (ann := ann_findC) la_findC (by kernel_rfl) Try.func117 rfl (by kernel_rfl) [.v (.slice a an ac), .v (.string name), .v (.func (.func 94) #[] #[])] [] (by rw [Try.ntmps117]; exact Nat.le_of_ble_eq_true rfl) (by kernel_rfl) (by rw [show Try.f117.ntmps = 10 from Try.ntmps117, eq_findC]; exact h)
/-- lintel/schema.find[lintel/api.Index] -/
def vc_findX {W : Type} (π : Prims W) (a : Option Addr) (an ac : Nat) (name : ByteArray) : W :=
  π.nw (Go.Obj.cells #[(Go.Value.string (name))] (9 : Nat) ((0 : Nat), (0 : Nat))) fun r0 =>
  π.nw (Go.Obj.cells #[(Go.Value.func (Fn.func (96 : Nat)) #[] #[])] (152 : Nat) ((0 : Nat), (0 : Nat))) fun r1 =>
  π.call (105 : Nat) #[(Go.Value.slice (a) (an) (ac)), (Go.Value.func (Fn.func (142 : Nat)) #[] #[(Go.Value.pointer (some (Addr.mk r1 (0 : Nat) none))), (Go.Value.pointer (some (Addr.mk r0 (0 : Nat) none)))])] (false, [(false, [.int .i64])]) fun (((x2 : Int), _), _) =>
  π.ret (Go.Value.int (IntKind.i64) (x2))
def ann_findX : Ann := { draws := [], join := [], loop := [] }
def la_findX : LA := { ptr := [], ty := [] }
set_option maxRecDepth 100000 in
theorem eq_findX {W : Type} (π : Prims W) (a : Option Addr) (an ac : Nat) (name : ByteArray) : bodyL π Try.prog la_findX ann_findX (mkFr (maskA [] [.v (.slice a an ac), .v (.string name), .v (.func (.func 96) #[] #[])] 0) 10) Try.f125 (bodyOf Try.f125) (mkFr (List.map some [.v (.slice a an ac), .v (.string name), .v (.func (.func 96) #[] #[])]) 10) = vc_findX π a an ac name := by kernel_rfl
theorem ok_findX (a : Option Addr) (an ac : Nat) (name : ByteArray) (R : Value → PH → Prop) (s : PH) (h : vc_findX (RP Try.prog R) a an ac name s) : DCalls Try.prog 125 (List.map AV.val [.v (.slice a an ac), .v (.string name), .v (.func (.func 96) #[] #[])]).toArray s R :=
  calls_vcL (c := bodyOf Try.f125) (ann := ann_findX) la_findX (by kernel_rfl) Try.func125 rfl (by kernel_rfl) [.v (.slice a an ac), .v (.string name), .v (.func (.func 96) #[] #[])] [] (by rw [Try.ntmps125]; exact Nat.le_of_ble_eq_true rfl) (by kernel_rfl) (by rw [show Try.f125.ntmps = 10 from Try.ntmps125, eq_findX]; exact h)
/-- lintel/schema.find[lintel/api.Foreign] -/
def vc_findF {W : Type} (π : Prims W) (a : Option Addr) (an ac : Nat) (name : ByteArray) : W :=
  π.nw (Go.Obj.cells #[(Go.Value.string (name))] (9 : Nat) ((0 : Nat), (0 : Nat))) fun r0 =>
  π.nw (Go.Obj.cells #[(Go.Value.func (Fn.func (98 : Nat)) #[] #[])] (154 : Nat) ((0 : Nat), (0 : Nat))) fun r1 =>
  π.call (106 : Nat) #[(Go.Value.slice (a) (an) (ac)), (Go.Value.func (Fn.func (144 : Nat)) #[] #[(Go.Value.pointer (some (Addr.mk r1 (0 : Nat) none))), (Go.Value.pointer (some (Addr.mk r0 (0 : Nat) none)))])] (false, [(false, [.int .i64])]) fun (((x2 : Int), _), _) =>
  π.ret (Go.Value.int (IntKind.i64) (x2))
def ann_findF : Ann := { draws := [], join := [], loop := [] }
def la_findF : LA := { ptr := [], ty := [] }
set_option maxRecDepth 100000 in
theorem eq_findF {W : Type} (π : Prims W) (a : Option Addr) (an ac : Nat) (name : ByteArray) : bodyL π Try.prog la_findF ann_findF (mkFr (maskA [] [.v (.slice a an ac), .v (.string name), .v (.func (.func 98) #[] #[])] 0) 10) Try.f129 (bodyOf Try.f129) (mkFr (List.map some [.v (.slice a an ac), .v (.string name), .v (.func (.func 98) #[] #[])]) 10) = vc_findF π a an ac name := by kernel_rfl
theorem ok_findF (a : Option Addr) (an ac : Nat) (name : ByteArray) (R : Value → PH → Prop) (s : PH) (h : vc_findF (RP Try.prog R) a an ac name s) : DCalls Try.prog 129 (List.map AV.val [.v (.slice a an ac), .v (.string name), .v (.func (.func 98) #[] #[])]).toArray s R :=
  calls_vcL (c := bodyOf Try.f129) (ann := ann_findF) la_findF (by kernel_rfl) Try.func129 rfl (by kernel_rfl) [.v (.slice a an ac), .v (.string name), .v (.func (.func 98) #[] #[])] [] (by rw [Try.ntmps129]; exact Nat.le_of_ble_eq_true rfl) (by kernel_rfl) (by rw [show Try.f129.ntmps = 10 from Try.ntmps129, eq_findF]; exact h)
/-- lintel/schema.at$1 -/
def vc_at1 {W : Type} (π : Prims W) (ci : Int) (cn : ByteArray) (ck cs vk vn : Int) (vs : ByteArray) (p : Nat) : W :=
  π.ld [.int .i64] (Addr.mk p (0 : Nat) none) fun ((x0 : Int), _) =>
  π.ret (Go.Value.bool (ci == x0))
def ann_at1 : Ann := { draws := [], join := [], loop := [] }
def la_at1 : LA := { ptr := [(2, 2, 0), (4, 2, 0)], ty := [(2, 44)] }
set_option maxRecDepth 100000 in
theorem eq_at1 {W : Type} (π : Prims W) (ci : Int) (cn : ByteArray) (ck cs vk vn : Int) (vs : ByteArray) (p : Nat) : bodyL π Try.prog la_at1 ann_at1 (mkFr (maskA [] [.v (.agg #[.int .i64 ci, .string cn, .int .i64 ck, .int .i64 cs, .int .i64 vk, .int .i64 vn, .string vs]), .v (.pointer (some ⟨p, 0, none⟩))] 0) 8) Try.f134 (bodyOf Try.f134) (mkFr (List.map some [.v (.agg #[.int .i64 ci, .string cn, .int .i64 ck, .int .i64 cs, .int .i64 vk, .int .i64 vn, .string vs]), .v (.pointer (some ⟨p, 0, none⟩))]) 8) = vc_at1 π ci cn ck cs vk vn vs p := by kernel_rfl
theorem ok_at1 (ci : Int) (cn : ByteArray) (ck cs vk vn : Int) (vs : ByteArray) (p : Nat) (R : Value → PH → Prop) (s : PH) (h : vc_at1 (RP Try.prog R) ci cn ck cs vk vn vs p s) : DCalls Try.prog 134 (List.map AV.val [.v (.agg #[.int .i64 ci, .string cn, .int .i64 ck, .int .i64 cs, .int .i64 vk, .int .i64 vn, .string vs]), .v (.pointer (some ⟨p, 0, none⟩))]).toArray s R :=
  calls_vcL (c := bodyOf Try.f134) (ann := ann_at1) la_at1 (by kernel_rfl) Try.func134 rfl (by kernel_rfl) [.v (.agg #[.int .i64 ci, .string cn, .int .i64 ck, .int .i64 cs, .int .i64 vk, .int .i64 vn, .string vs]), .v (.pointer (some ⟨p, 0, none⟩))] [] (by rw [Try.ntmps134]; exact Nat.le_of_ble_eq_true rfl) (by kernel_rfl) (by rw [show Try.f134.ntmps = 8 from Try.ntmps134, eq_at1]; exact h)
/-- lintel/schema.byId$1 -/
def vc_byId1 {W : Type} (π : Prims W) (ti : Int) (tn : ByteArray) (ca : Option Addr) (can cac : Nat) (xa : Option Addr) (xan xac : Nat) (ka : Option Addr) (kan kac : Nat) (p : Nat) : W :=
  π.ld [.int .i64] (Addr.mk p (0 : Nat) none) fun ((x0 : Int), _) =>
  π.ret (Go.Value.bool (ti == x0))
def ann_byId1 : Ann := { draws := [], join := [], loop := [] }
def la_byId1 : LA := { ptr := [(2, 2, 0), (4, 2, 0)], ty := [(2, 42)] }
set_option maxRecDepth 100000 in
theorem eq_byId1 {W : Type} (π : Prims W) (ti : Int) (tn : ByteArray) (ca : Option Addr) (can cac : Nat) (xa : Option Addr) (xan xac : Nat) (ka : Option Addr) (kan kac : Nat) (p : Nat) : bodyL π Try.prog la_byId1 ann_byId1 (mkFr (maskA [] [.v (.agg #[.int .i64 ti, .string tn, .slice ca can cac, .slice xa xan xac, .slice ka kan kac]), .v (.pointer (some ⟨p, 0, none⟩))] 0) 8) Try.f135 (bodyOf Try.f135) (mkFr (List.map some [.v (.agg #[.int .i64 ti, .string tn, .slice ca can cac, .slice xa xan xac, .slice ka kan kac]), .v (.pointer (some ⟨p, 0, none⟩))]) 8) = vc_byId1 π ti tn ca can cac xa xan xac ka kan kac p := by kernel_rfl
theorem ok_byId1 (ti : Int) (tn : ByteArray) (ca : Option Addr) (can cac : Nat) (xa : Option Addr) (xan xac : Nat) (ka : Option Addr) (kan kac : Nat) (p : Nat) (R : Value → PH → Prop) (s : PH) (h : vc_byId1 (RP Try.prog R) ti tn ca can cac xa xan xac ka kan kac p s) : DCalls Try.prog 135 (List.map AV.val [.v (.agg #[.int .i64 ti, .string tn, .slice ca can cac, .slice xa xan xac, .slice ka kan kac]), .v (.pointer (some ⟨p, 0, none⟩))]).toArray s R :=
  calls_vcL (c := bodyOf Try.f135) (ann := ann_byId1) la_byId1 (by kernel_rfl) Try.func135 rfl (by kernel_rfl) [.v (.agg #[.int .i64 ti, .string tn, .slice ca can cac, .slice xa xan xac, .slice ka kan kac]), .v (.pointer (some ⟨p, 0, none⟩))] [] (by rw [Try.ntmps135]; exact Nat.le_of_ble_eq_true rfl) (by kernel_rfl) (by rw [show Try.f135.ntmps = 8 from Try.ntmps135, eq_byId1]; exact h)
/-- slices.IndexFunc[[]lintel/api.Column,lintel/api.Column] -/
def vc_IndexFuncAt {W : Type} (π : Prims W) (a : Option Addr) (an ac : Nat) (p : Nat) : W :=
  π.loop [(false, [.int .i64]), (false, [.int .i64])] (((↑an : Int), ()), ((0 : Int), ()), ()) fun (((x1 : Int), _), ((x2 : Int), _), _) again0 =>
    π.ite (decide (x2 < x1)) (
      π.guard ((0 : Int) ≤ x2 ∧ x2 < (↑an : Int)) <|
      π.unSome (a) fun p3 =>
      π.ld [.int .i64, .str, .int .i64, .int .i64, .int .i64, .int .i64, .str] (p3.add (x2.toNat * (7 : Nat))) fun ((x4 : Int), (t5 : ByteArray), (x6 : Int), (x7 : Int), (x8 : Int), (x9 : Int), (t10 : ByteArray), _) =>
      π.call (134 : Nat) #[(Go.Value.agg #[(Go.Value.int (IntKind.i64) (x4)), (Go.Value.string (t5)), (Go.Value.int (IntKind.i64) (x6)), (Go.Value.int (IntKind.i64) (x7)), (Go.Value.int (IntKind.i64) (x8)), (Go.Value.int (IntKind.i64) (x9)), (Go.Value.string (t10))]), (Go.Value.pointer (some (Addr.mk p (0 : Nat) none)))] (false, [(false, [.bool])]) fun (((b11 : Bool), _), _) =>
      π.ite (b11) (
        π.ret (Go.Value.int (IntKind.i64) (x2))
      ) (
        again0 ((x1, ()), (IntKind.i64.wrap (x2 + (1 : Int)), ()), ())
      )
    ) (
      π.ret (Go.Value.int (IntKind.i64) ((-1 : Int)))
    )
def ann_IndexFuncAt : Ann := { draws := [], join := [], loop := [(2, [(7, 3), (8, 3)])] }
def la_IndexFuncAt : LA := { ptr := [], ty := [] }
set_option maxRecDepth 100000 in
theorem eq_IndexFuncAt {W : Type} (π : Prims W) (a : Option Addr) (an ac : Nat) (p : Nat) : bodyL π Try.prog la_IndexFuncAt ann_IndexFuncAt (mkFr (maskA [] [.v (.slice a an ac), .v (.func (.func 134) #[] #[.pointer (some ⟨p, 0, none⟩)])] 0) 19) Try.f104 (bodyOf Try.f104) (mkFr (List.map some [.v (.slice a an ac), .v (.func (.func 134) #[] #[.pointer (some ⟨p, 0, none⟩)])]) 19) = vc_IndexFuncAt π a an ac p := by kernel_rfl
theorem ok_IndexFuncAt (a : Option Addr) (an ac : Nat) (p : Nat) (R : Value → PH → Prop) (s : PH) (h : vc_IndexFuncAt (RP Try.prog R) a an ac p s) : DCalls Try.prog 104 (List.map AV.val [.v (.slice a an ac), .v (.func (.func 134) #[] #[.pointer (some ⟨p, 0, none⟩)])]).toArray s R :=
  calls_vcL (c := bodyOf Try.f104) (ann := ann_IndexFuncAt) la_IndexFuncAt (by kernel_rfl) Try.func104 rfl (by kernel_rfl) [.v (.slice a an ac), .v (.func (.func 134) #[] #[.pointer (some ⟨p, 0, none⟩)])] [] (by rw [Try.ntmps104]; exact Nat.le_of_ble_eq_true rfl) (by kernel_rfl) (by rw [show Try.f104.ntmps = 19 from Try.ntmps104, eq_IndexFuncAt]; exact h)
/-- slices.IndexFunc[[]lintel/api.Table,lintel/api.Table] -/
def vc_IndexFuncById {W : Type} (π : Prims W) (a : Option Addr) (an ac : Nat) (p : Nat) : W :=
  π.loop [(false, [.int .i64]), (false, [.int .i64])] (((↑an : Int), ()), ((0 : Int), ()), ()) fun (((x1 : Int), _), ((x2 : Int), _), _) again0 =>
    π.ite (decide (x2 < x1)) (
      π.guard ((0 : Int) ≤ x2 ∧ x2 < (↑an : Int)) <|
      π.unSome (a) fun p3 =>
      π.ld [.int .i64, .str, .slice, .slice, .slice] (p3.add (x2.toNat * (5 : Nat))) fun ((x4 : Int), (t5 : ByteArray), ((a6 : Option Addr), (n7 : Nat), (c8 : Nat)), ((a9 : Option Addr), (n10 : Nat), (c11 : Nat)), ((a12 : Option Addr), (n13 : Nat), (c14 : Nat)), _) =>
      π.call (135 : Nat) #[(Go.Value.agg #[(Go.Value.int (IntKind.i64) (x4)), (Go.Value.string (t5)), (Go.Value.slice (a6) (n7) (c8)), (Go.Value.slice (a9) (n10) (c11)), (Go.Value.slice (a12) (n13) (c14))]), (Go.Value.pointer (some (Addr.mk p (0 : Nat) none)))] (false, [(false, [.bool])]) fun (((b15 : Bool), _), _) =>
      π.ite (b15) (
        π.ret (Go.Value.int (IntKind.i64) (x2))
      ) (
        again0 ((x1, ()), (IntKind.i64.wrap (x2 + (1 : Int)), ()), ())
      )
    ) (
      π.ret (Go.Value.int (IntKind.i64) ((-1 : Int)))
    )
def ann_IndexFuncById : Ann := { draws := [], join := [], loop := [(2, [(7, 3), (8, 3)])] }
def la_IndexFuncById : LA := { ptr := [], ty := [] }
set_option maxRecDepth 100000 in
theorem eq_IndexFuncById {W : Type} (π : Prims W) (a : Option Addr) (an ac : Nat) (p : Nat) : bodyL π Try.prog la_IndexFuncById ann_IndexFuncById (mkFr (maskA [] [.v (.slice a an ac), .v (.func (.func 135) #[] #[.pointer (some ⟨p, 0, none⟩)])] 0) 19) Try.f88 (bodyOf Try.f88) (mkFr (List.map some [.v (.slice a an ac), .v (.func (.func 135) #[] #[.pointer (some ⟨p, 0, none⟩)])]) 19) = vc_IndexFuncById π a an ac p := by kernel_rfl
theorem ok_IndexFuncById (a : Option Addr) (an ac : Nat) (p : Nat) (R : Value → PH → Prop) (s : PH) (h : vc_IndexFuncById (RP Try.prog R) a an ac p s) : DCalls Try.prog 88 (List.map AV.val [.v (.slice a an ac), .v (.func (.func 135) #[] #[.pointer (some ⟨p, 0, none⟩)])]).toArray s R :=
  calls_vcL (c := bodyOf Try.f88) (ann := ann_IndexFuncById) la_IndexFuncById (by kernel_rfl) Try.func88 rfl (by kernel_rfl) [.v (.slice a an ac), .v (.func (.func 135) #[] #[.pointer (some ⟨p, 0, none⟩)])] [] (by rw [Try.ntmps88]; exact Nat.le_of_ble_eq_true rfl) (by kernel_rfl) (by rw [show Try.f88.ntmps = 19 from Try.ntmps88, eq_IndexFuncById]; exact h)
/-- lintel/schema.at -/
def vc_at {W : Type} (π : Prims W) (ti : Int) (tn : ByteArray) (ca : Option Addr) (can cac : Nat) (xa : Option Addr) (xan xac : Nat) (ka : Option Addr) (kan kac : Nat) (id : Int) : W :=
  π.nw (Go.Obj.cells #[(Go.Value.int (IntKind.i64) (id))] (3 : Nat) ((0 : Nat), (0 : Nat))) fun r0 =>
  π.call (104 : Nat) #[(Go.Value.slice (ca) (can) (cac)), (Go.Value.func (Fn.func (134 : Nat)) #[] #[(Go.Value.pointer (some (Addr.mk r0 (0 : Nat) none)))])] (false, [(false, [.int .i64])]) fun (((x1 : Int), _), _) =>
  π.ret (Go.Value.int (IntKind.i64) (x1))
def ann_at : Ann := { draws := [], join := [], loop := [] }
def la_at : LA := { ptr := [(2, 2, 0), (5, 2, 2)], ty := [(2, 42)] }
set_option maxRecDepth 100000 in
theorem eq_at {W : Type} (π : Prims W) (ti : Int) (tn : ByteArray) (ca : Option Addr) (can cac : Nat) (xa : Option Addr) (xan xac : Nat) (ka : Option Addr) (kan kac : Nat) (id : Int) : bodyL π Try.prog la_at ann_at (mkFr (maskA [] [.v (.agg #[.int .i64 ti, .string tn, .slice ca can cac, .slice xa xan xac, .slice ka kan kac]), .v (.int .i64 id)] 0) 9) Try.f102 (bodyOf Try.f102) (mkFr (List.map some [.v (.agg #[.int .i64 ti, .string tn, .slice ca can cac, .slice xa xan xac, .slice ka kan kac]), .v (.int .i64 id)]) 9) = vc_at π ti tn ca can cac xa xan xac ka kan kac id := by kernel_rfl
theorem ok_at (ti : Int) (tn : ByteArray) (ca : Option Addr) (can cac : Nat) (xa : Option Addr) (xan xac : Nat) (ka : Option Addr) (kan kac : Nat) (id : Int) (R : Value → PH → Prop) (s : PH) (h : vc_at (RP Try.prog R) ti tn ca can cac xa xan xac ka kan kac id s) : DCalls Try.prog 102 (List.map AV.val [.v (.agg #[.int .i64 ti, .string tn, .slice ca can cac, .slice xa xan xac, .slice ka kan kac]), .v (.int .i64 id)]).toArray s R :=
  calls_vcL (c := bodyOf Try.f102) (ann := ann_at) la_at (by kernel_rfl) Try.func102 rfl (by kernel_rfl) [.v (.agg #[.int .i64 ti, .string tn, .slice ca can cac, .slice xa xan xac, .slice ka kan kac]), .v (.int .i64 id)] [] (by rw [Try.ntmps102]; exact Nat.le_of_ble_eq_true rfl) (by kernel_rfl) (by rw [show Try.f102.ntmps = 9 from Try.ntmps102, eq_at]; exact h)
/-- lintel/schema.byId -/
def vc_byId {W : Type} (π : Prims W) (sv sl : Int) (sa : Option Addr) (san sac : Nat) (id : Int) : W :=
  π.nw (Go.Obj.cells #[(Go.Value.int (IntKind.i64) (id))] (3 : Nat) ((0 : Nat), (0 : Nat))) fun r0 =>
  π.call (88 : Nat) #[(Go.Value.slice (sa) (san) (sac)), (Go.Value.func (Fn.func (135 : Nat)) #[] #[(Go.Value.pointer (some (Addr.mk r0 (0 : Nat) none)))])] (false, [(false, [.int .i64])]) fun (((x1 : Int), _), _) =>
  π.ret (Go.Value.int (IntKind.i64) (x1))
def ann_byId : Ann := { draws := [], join := [], loop := [] }
def la_byId : LA := { ptr := [(2, 2, 0), (5, 2, 2)], ty := [(2, 24)] }
set_option maxRecDepth 100000 in
theorem eq_byId {W : Type} (π : Prims W) (sv sl : Int) (sa : Option Addr) (san sac : Nat) (id : Int) : bodyL π Try.prog la_byId ann_byId (mkFr (maskA [] [.v (.agg #[.int .i64 sv, .int .i64 sl, .slice sa san sac]), .v (.int .i64 id)] 0) 9) Try.f103 (bodyOf Try.f103) (mkFr (List.map some [.v (.agg #[.int .i64 sv, .int .i64 sl, .slice sa san sac]), .v (.int .i64 id)]) 9) = vc_byId π sv sl sa san sac id := by kernel_rfl
theorem ok_byId (sv sl : Int) (sa : Option Addr) (san sac : Nat) (id : Int) (R : Value → PH → Prop) (s : PH) (h : vc_byId (RP Try.prog R) sv sl sa san sac id s) : DCalls Try.prog 103 (List.map AV.val [.v (.agg #[.int .i64 sv, .int .i64 sl, .slice sa san sac]), .v (.int .i64 id)]).toArray s R :=
  calls_vcL (c := bodyOf Try.f103) (ann := ann_byId) la_byId (by kernel_rfl) Try.func103 rfl (by kernel_rfl) [.v (.agg #[.int .i64 sv, .int .i64 sl, .slice sa san sac]), .v (.int .i64 id)] [] (by rw [Try.ntmps103]; exact Nat.le_of_ble_eq_true rfl) (by kernel_rfl) (by rw [show Try.f103.ntmps = 9 from Try.ntmps103, eq_byId]; exact h)
/-- slices.Clone[[]lintel/api.Column,lintel/api.Column] -/
def vc_CloneC {W : Type} (π : Prims W) (a : Option Addr) (an ac : Nat) : W :=
  π.ite (a.isNone) (
    π.ret (Go.Value.slice (none) ((0 : Nat)) ((0 : Nat)))
  ) (
    π.nw (Go.Obj.cells #[] (44 : Nat) ((0 : Nat), (0 : Nat))) fun r0 =>
    π.app (44 : Nat) (7 : Nat) (72 : Nat) [(Go.Value.int (IntKind.i64) ((0 : Int))), (Go.Value.string (ByteArray.mk #[])), (Go.Value.int (IntKind.i64) ((0 : Int))), (Go.Value.int (IntKind.i64) ((0 : Int))), (Go.Value.int (IntKind.i64) ((0 : Int))), (Go.Value.int (IntKind.i64) ((0 : Int))), (Go.Value.string (ByteArray.mk #[]))] (some (Addr.mk r0 (0 : Nat) none)) ((0 : Nat)) ((0 : Nat)) (Src.sl a an) fun a1 n2 c3 =>
    π.ret (Go.Value.slice (a1) (n2) (c3))
  )
def ann_CloneC : Ann := { draws := [], join := [], loop := [] }
def la_CloneC : LA := { ptr := [], ty := [] }
set_option maxRecDepth 100000 in
theorem eq_CloneC {W : Type} (π : Prims W) (a : Option Addr) (an ac : Nat) : bodyL π Try.prog la_CloneC ann_CloneC (mkFr (maskA [] [.v (.slice a an ac)] 0) 8) Try.f66 (bodyOf Try.f66) (mkFr (List.map some [.v (.slice a an ac)]) 8) = vc_CloneC π a an ac := by kernel_rfl
theorem ok_CloneC (a : Option Addr) (an ac : Nat) (R : Value → PH → Prop) (s : PH) (h : vc_CloneC (RP Try.prog R) a an ac s) : DCalls Try.prog 66 (List.map AV.val [.v (.slice a an ac)]).toArray s R :=
  calls_vcL (c := bodyOf Try.f66) (ann := ann_CloneC) la_CloneC (by kernel_rfl) Try.func66 rfl (by kernel_rfl) [.v (.slice a an ac)] [] (by rw [Try.ntmps66]; exact Nat.le_of_ble_eq_true rfl) (by kernel_rfl) (by rw [show Try.f66.ntmps = 8 from Try.ntmps66, eq_CloneC]; exact h)
/-- slices.Clone[[]lintel/api.Index,lintel/api.Index] -/
def vc_CloneX {W : Type} (π : Prims W) (a : Option Addr) (an ac : Nat) : W :=
  π.ite (a.isNone) (
    π.ret (Go.Value.slice (none) ((0 : Nat)) ((0 : Nat)))
  ) (
    π.nw (Go.Obj.cells #[] (106 : Nat) ((0 : Nat), (0 : Nat))) fun r0 =>
    π.app (106 : Nat) (5 : Nat) (48 : Nat) [(Go.Value.int (IntKind.i64) ((0 : Int))), (Go.Value.string (ByteArray.mk #[])), (Go.Value.int (IntKind.i64) ((0 : Int))), (Go.Value.bool (false)), (Go.Value.int (IntKind.i64) ((0 : Int)))] (some (Addr.mk r0 (0 : Nat) none)) ((0 : Nat)) ((0 : Nat)) (Src.sl a an) fun a1 n2 c3 =>
    π.ret (Go.Value.slice (a1) (n2) (c3))
  )
def ann_CloneX : Ann := { draws := [], join := [], loop := [] }
def la_CloneX : LA := { ptr := [], ty := [] }
set_option maxRecDepth 100000 in
theorem eq_CloneX {W : Type} (π : Prims W) (a : Option Addr) (an ac : Nat) : bodyL π Try.prog la_CloneX ann_CloneX (mkFr (maskA [] [.v (.slice a an ac)] 0) 8) Try.f75 (bodyOf Try.f75) (mkFr (List.map some [.v (.slice a an ac)]) 8) = vc_CloneX π a an ac := by kernel_rfl
theorem ok_CloneX (a : Option Addr) (an ac : Nat) (R : Value → PH → Prop) (s : PH) (h : vc_CloneX (RP Try.prog R) a an ac s) : DCalls Try.prog 75 (List.map AV.val [.v (.slice a an ac)]).toArray s R :=
  calls_vcL (c := bodyOf Try.f75) (ann := ann_CloneX) la_CloneX (by kernel_rfl) Try.func75 rfl (by kernel_rfl) [.v (.slice a an ac)] [] (by rw [Try.ntmps75]; exact Nat.le_of_ble_eq_true rfl) (by kernel_rfl) (by rw [show Try.f75.ntmps = 8 from Try.ntmps75, eq_CloneX]; exact h)
/-- slices.Clone[[]lintel/api.Foreign,lintel/api.Foreign] -/
def vc_CloneF {W : Type} (π : Prims W) (a : Option Addr) (an ac : Nat) : W :=
  π.ite (a.isNone) (
    π.ret (Go.Value.slice (none) ((0 : Nat)) ((0 : Nat)))
  ) (
    π.nw (Go.Obj.cells #[] (109 : Nat) ((0 : Nat), (0 : Nat))) fun r0 =>
    π.app (109 : Nat) (5 : Nat) (48 : Nat) [(Go.Value.int (IntKind.i64) ((0 : Int))), (Go.Value.string (ByteArray.mk #[])), (Go.Value.int (IntKind.i64) ((0 : Int))), (Go.Value.int (IntKind.i64) ((0 : Int))), (Go.Value.int (IntKind.i64) ((0 : Int)))] (some (Addr.mk r0 (0 : Nat) none)) ((0 : Nat)) ((0 : Nat)) (Src.sl a an) fun a1 n2 c3 =>
    π.ret (Go.Value.slice (a1) (n2) (c3))
  )
def ann_CloneF : Ann := { draws := [], join := [], loop := [] }
def la_CloneF : LA := { ptr := [], ty := [] }
set_option maxRecDepth 100000 in
theorem eq_CloneF {W : Type} (π : Prims W) (a : Option Addr) (an ac : Nat) : bodyL π Try.prog la_CloneF ann_CloneF (mkFr (maskA [] [.v (.slice a an ac)] 0) 8) Try.f76 (bodyOf Try.f76) (mkFr (List.map some [.v (.slice a an ac)]) 8) = vc_CloneF π a an ac := by kernel_rfl
theorem ok_CloneF (a : Option Addr) (an ac : Nat) (R : Value → PH → Prop) (s : PH) (h : vc_CloneF (RP Try.prog R) a an ac s) : DCalls Try.prog 76 (List.map AV.val [.v (.slice a an ac)]).toArray s R :=
  calls_vcL (c := bodyOf Try.f76) (ann := ann_CloneF) la_CloneF (by kernel_rfl) Try.func76 rfl (by kernel_rfl) [.v (.slice a an ac)] [] (by rw [Try.ntmps76]; exact Nat.le_of_ble_eq_true rfl) (by kernel_rfl) (by rw [show Try.f76.ntmps = 8 from Try.ntmps76, eq_CloneF]; exact h)
/-- lintel/schema.copied -/
def vc_copied {W : Type} (π : Prims W) (ti : Int) (tn : ByteArray) (ca : Option Addr) (can cac : Nat) (xa : Option Addr) (xan xac : Nat) (ka : Option Addr) (kan kac : Nat) : W :=
  π.call (66 : Nat) #[(Go.Value.slice (ca) (can) (cac))] (false, [(false, [.slice])]) fun ((((a0 : Option Addr), (n1 : Nat), (c2 : Nat)), _), _) =>
  π.call (75 : Nat) #[(Go.Value.slice (xa) (xan) (xac))] (false, [(false, [.slice])]) fun ((((a3 : Option Addr), (n4 : Nat), (c5 : Nat)), _), _) =>
  π.call (76 : Nat) #[(Go.Value.slice (ka) (kan) (kac))] (false, [(false, [.slice])]) fun ((((a6 : Option Addr), (n7 : Nat), (c8 : Nat)), _), _) =>
  π.ret (Go.Value.agg #[(Go.Value.int (IntKind.i64) (ti)), (Go.Value.string (tn)), (Go.Value.slice (a0) (n1) (c2)), (Go.Value.slice (a3) (n4) (c5)), (Go.Value.slice (a6) (n7) (c8))])
def ann_copied : Ann := { draws := [(1, { A := [0, 1, 3, 4, 6, 7], chkL := [(2, [4, 7]), (5, [7])], eag := [9, 11, 13] })], join := [], loop := [] }
def la_copied : LA := { ptr := [(1, 1, 0), (2, 2, 0), (3, 1, 2), (6, 1, 3), (9, 1, 4), (12, 1, 2), (13, 1, 3), (14, 1, 4)], ty := [(1, 42), (2, 42)] }
set_option maxRecDepth 100000 in
theorem eq_copied {W : Type} (π : Prims W) (ti : Int) (tn : ByteArray) (ca : Option Addr) (can cac : Nat) (xa : Option Addr) (xan xac : Nat) (ka : Option Addr) (kan kac : Nat) : bodyL π Try.prog la_copied ann_copied (mkFr (maskA [] [.v (.agg #[.int .i64 ti, .string tn, .slice ca can cac, .slice xa xan xac, .slice ka kan kac])] 0) 16) Try.f38 (bodyOf Try.f38) (mkFr (List.map some [.v (.agg #[.int .i64 ti, .string tn, .slice ca can cac, .slice xa xan xac, .slice ka kan kac])]) 16) = vc_copied π ti tn ca can cac xa xan xac ka kan kac := by kernel_rfl
theorem ok_copied (ti : Int) (tn : ByteArray) (ca : Option Addr) (can cac : Nat) (xa : Option Addr) (xan xac : Nat) (ka : Option Addr) (kan kac : Nat) (R : Value → PH → Prop) (s : PH) (h : vc_copied (RP Try.prog R) ti tn ca can cac xa xan xac ka kan kac s) : DCalls Try.prog 38 (List.map AV.val [.v (.agg #[.int .i64 ti, .string tn, .slice ca can cac, .slice xa xan xac, .slice ka kan kac])]).toArray s R :=
  calls_vcL (c := bodyOf Try.f38) (ann := ann_copied) la_copied (by kernel_rfl) Try.func38 rfl (by kernel_rfl) [.v (.agg #[.int .i64 ti, .string tn, .slice ca can cac, .slice xa xan xac, .slice ka kan kac])] [] (by rw [Try.ntmps38]; exact Nat.le_of_ble_eq_true rfl) (by kernel_rfl) (by rw [show Try.f38.ntmps = 16 from Try.ntmps38, eq_copied]; exact h)
end Go.Proofs.Ythepfbcgpbkbdaa
end
section
set_option linter.unusedVariables false
set_option maxHeartbeats 1000000
namespace Go.Proofs.Ythepfbcgpbkbdaa
open Fw Fw.W Go
/-- (*lintel/schema.checker).id -/
def vc_ckId {W : Type} (π : Prims W) (c : Nat) (n : Int) : W :=
  π.unSome (some (Addr.mk c (0 : Nat) none)) fun p0 =>
  π.ld [.bool] (p0.add (2 : Nat)) fun ((b1 : Bool), _) =>
  π.ite (b1) (
    π.unSome (some (Addr.mk c (0 : Nat) none)) fun p2 =>
    π.st (p2.add (2 : Nat)) [(Go.Value.bool (true))] <|
    π.unSome (some (Addr.mk c (0 : Nat) none)) fun p3 =>
    π.ld [.map] (p3.add (1 : Nat)) fun ((m4 : Option Nat), _) =>
    π.mset (TypeDesc.int IntKind.i64) (m4) (Go.Value.int (IntKind.i64) (n)) (Go.Value.bool (true)) <|
    π.ret (Go.Value.tuple #[])
  ) (
    π.ite (decide (n < (1 : Int))) (
      π.unSome (some (Addr.mk c (0 : Nat) none)) fun p5 =>
      π.st (p5.add (2 : Nat)) [(Go.Value.bool (true))] <|
      π.unSome (some (Addr.mk c (0 : Nat) none)) fun p6 =>
      π.ld [.map] (p6.add (1 : Nat)) fun ((m7 : Option Nat), _) =>
      π.mset (TypeDesc.int IntKind.i64) (m7) (Go.Value.int (IntKind.i64) (n)) (Go.Value.bool (true)) <|
      π.ret (Go.Value.tuple #[])
    ) (
      π.unSome (some (Addr.mk c (0 : Nat) none)) fun p8 =>
      π.ld [.int .i64] (p8.add (0 : Nat)) fun ((x9 : Int), _) =>
      π.ite (decide (n > x9)) (
        π.unSome (some (Addr.mk c (0 : Nat) none)) fun p10 =>
        π.st (p10.add (2 : Nat)) [(Go.Value.bool (true))] <|
        π.unSome (some (Addr.mk c (0 : Nat) none)) fun p11 =>
        π.ld [.map] (p11.add (1 : Nat)) fun ((m12 : Option Nat), _) =>
        π.mset (TypeDesc.int IntKind.i64) (m12) (Go.Value.int (IntKind.i64) (n)) (Go.Value.bool (true)) <|
        π.ret (Go.Value.tuple #[])
      ) (
        π.unSome (some (Addr.mk c (0 : Nat) none)) fun p13 =>
        π.ld [.map] (p13.add (1 : Nat)) fun ((m14 : Option Nat), _) =>
        π.look (TypeDesc.int IntKind.i64) (m14) (Go.Value.int (IntKind.i64) (n)) (Go.Value.bool (false)) (false, [.bool]) fun ((b16 : Bool), _) b15 =>
        π.unSome (some (Addr.mk c (0 : Nat) none)) fun p17 =>
        π.st (p17.add (2 : Nat)) [(Go.Value.bool (b16))] <|
        π.unSome (some (Addr.mk c (0 : Nat) none)) fun p18 =>
        π.ld [.map] (p18.add (1 : Nat)) fun ((m19 : Option Nat), _) =>
        π.mset (TypeDesc.int IntKind.i64) (m19) (Go.Value.int (IntKind.i64) (n)) (Go.Value.bool (true)) <|
        π.ret (Go.Value.tuple #[])
      )
    )
  )
def ann_ckId : Ann := { draws := [], join := [], loop := [] }
def la_ckId : LA := { ptr := [], ty := [] }
set_option maxRecDepth 100000 in
theorem eq_ckId {W : Type} (π : Prims W) (c : Nat) (n : Int) : bodyL π Try.prog la_ckId ann_ckId (mkFr (maskA [] [.v (.pointer (some ⟨c, 0, none⟩)), .v (.int .i64 n)] 0) 36) Try.f92 (bodyOf Try.f92) (mkFr (List.map some [.v (.pointer (some ⟨c, 0, none⟩)), .v (.int .i64 n)]) 36) = vc_ckId π c n := by kernel_rfl
theorem ok_ckId (c : Nat) (n : Int) (R : Value → PH → Prop) (s : PH) (h : vc_ckId (RP Try.prog R) c n s) : DCalls Try.prog 92 (List.map AV.val [.v (.pointer (some ⟨c, 0, none⟩)), .v (.int .i64 n)]).toArray s R :=
  calls_vcL (c := bodyOf Try.f92) (ann := ann_ckId) la_ckId (by kernel_rfl) Try.func92 rfl (by kernel_rfl) [.v (.pointer (some ⟨c, 0, none⟩)), .v (.int .i64 n)] [] (by rw [Try.ntmps92]; exact Nat.le_of_ble_eq_true rfl) (by kernel_rfl) (by rw [show Try.f92.ntmps = 36 from Try.ntmps92, eq_ckId]; exact h)
/-- (*lintel/schema.checker).state -/
def vc_ckState {W : Type} (π : Prims W) (c : Nat) (n : Int) : W :=
  π.unSome (some (Addr.mk c (0 : Nat) none)) fun p0 =>
  π.ld [.bool] (p0.add (2 : Nat)) fun ((b1 : Bool), _) =>
  π.ite (b1) (
    π.unSome (some (Addr.mk c (0 : Nat) none)) fun p2 =>
    π.st (p2.add (2 : Nat)) [(Go.Value.bool (true))] <|
    π.ret (Go.Value.tuple #[])
  ) (
    π.ite (decide (n < (1 : Int))) (
      π.unSome (some (Addr.mk c (0 : Nat) none)) fun p3 =>
      π.st (p3.add (2 : Nat)) [(Go.Value.bool (true))] <|
      π.ret (Go.Value.tuple #[])
    ) (
      π.unSome (some (Addr.mk c (0 : Nat) none)) fun p4 =>
      π.st (p4.add (2 : Nat)) [(Go.Value.bool (decide (n > (3 : Int))))] <|
      π.ret (Go.Value.tuple #[])
    )
  )
def ann_ckState : Ann := { draws := [], join := [], loop := [] }
def la_ckState : LA := { ptr := [], ty := [] }
set_option maxRecDepth 100000 in
theorem eq_ckState {W : Type} (π : Prims W) (c : Nat) (n : Int) : bodyL π Try.prog la_ckState ann_ckState (mkFr (maskA [] [.v (.pointer (some ⟨c, 0, none⟩)), .v (.int .i64 n)] 0) 19) Try.f99 (bodyOf Try.f99) (mkFr (List.map some [.v (.pointer (some ⟨c, 0, none⟩)), .v (.int .i64 n)]) 19) = vc_ckState π c n := by kernel_rfl
theorem ok_ckState (c : Nat) (n : Int) (R : Value → PH → Prop) (s : PH) (h : vc_ckState (RP Try.prog R) c n s) : DCalls Try.prog 99 (List.map AV.val [.v (.pointer (some ⟨c, 0, none⟩)), .v (.int .i64 n)]).toArray s R :=
  calls_vcL (c := bodyOf Try.f99) (ann := ann_ckState) la_ckState (by kernel_rfl) Try.func99 rfl (by kernel_rfl) [.v (.pointer (some ⟨c, 0, none⟩)), .v (.int .i64 n)] [] (by rw [Try.ntmps99]; exact Nat.le_of_ble_eq_true rfl) (by kernel_rfl) (by rw [show Try.f99.ntmps = 19 from Try.ntmps99, eq_ckState]; exact h)
/-- lintel/schema.names[lintel/api.Table] -/
def vc_namesT {W : Type} (π : Prims W) (c : Nat) (a : Option Addr) (an ac : Nat) (least most : Int) : W :=
  π.join [] (fun J0 =>
    π.unSome (some (Addr.mk c (0 : Nat) none)) fun p1 =>
    π.ld [.bool] (p1.add (2 : Nat)) fun ((b2 : Bool), _) =>
    π.ite (b2) (
      π.unSome (some (Addr.mk c (0 : Nat) none)) fun p3 =>
      π.st (p3.add (2 : Nat)) [(Go.Value.bool (true))] <|
      J0 (())
    ) (
      π.ite (decide ((↑an : Int) < least)) (
        π.unSome (some (Addr.mk c (0 : Nat) none)) fun p4 =>
        π.st (p4.add (2 : Nat)) [(Go.Value.bool (true))] <|
        J0 (())
      ) (
        π.unSome (some (Addr.mk c (0 : Nat) none)) fun p5 =>
        π.st (p5.add (2 : Nat)) [(Go.Value.bool (decide ((↑an : Int) > most)))] <|
        J0 (())
      )
    )
  ) (fun (_) =>
    π.loop [(false, [.slice]), (false, [.int .i64]), (false, [.int .i64])] (((a, an, ac), ()), ((↑an : Int), ()), ((0 : Int), ()), ()) fun ((((a7 : Option Addr), (n8 : Nat), (c9 : Nat)), _), ((x10 : Int), _), ((x11 : Int), _), _) again6 =>
      π.ite (decide (x11 < x10)) (
        π.guard ((0 : Int) ≤ x11 ∧ x11 < (↑n8 : Int)) <|
        π.unSome (a7) fun p12 =>
        π.ld [.int .i64, .str, .slice, .slice, .slice] (p12.add (x11.toNat * (5 : Nat))) fun ((x13 : Int), (t14 : ByteArray), ((a15 : Option Addr), (n16 : Nat), (c17 : Nat)), ((a18 : Option Addr), (n19 : Nat), (c20 : Nat)), ((a21 : Option Addr), (n22 : Nat), (c23 : Nat)), _) =>
        π.unSome (some (Addr.mk c (0 : Nat) none)) fun p24 =>
        π.ld [.bool] (p24.add (2 : Nat)) fun ((b25 : Bool), _) =>
        π.ite (b25) (
          π.unSome (some (Addr.mk c (0 : Nat) none)) fun p26 =>
          π.st (p26.add (2 : Nat)) [(Go.Value.bool (true))] <|
          π.unSome (some (Addr.mk c (0 : Nat) none)) fun p27 =>
          π.ld [.bool] (p27.add (2 : Nat)) fun ((b28 : Bool), _) =>
          π.ite (b28) (
            π.ret (Go.Value.tuple #[])
          ) (
            again6 (((a7, n8, c9), ()), (x10, ()), (IntKind.i64.wrap (x11 + (1 : Int)), ()), ())
          )
        ) (
          π.call (46 : Nat) #[(Go.Value.agg #[(Go.Value.int (IntKind.i64) (x13)), (Go.Value.string (t14)), (Go.Value.slice (a15) (n16) (c17)), (Go.Value.slice (a18) (n19) (c20)), (Go.Value.slice (a21) (n22) (c23))])] (false, [(false, [.str])]) fun (((t29 : ByteArray), _), _) =>
          π.call (91 : Nat) #[(Go.Value.string (t29))] (false, [(false, [.bool])]) fun (((b30 : Bool), _), _) =>
          π.ite (!b30) (
            π.unSome (some (Addr.mk c (0 : Nat) none)) fun p31 =>
            π.st (p31.add (2 : Nat)) [(Go.Value.bool (true))] <|
            π.unSome (some (Addr.mk c (0 : Nat) none)) fun p32 =>
            π.ld [.bool] (p32.add (2 : Nat)) fun ((b33 : Bool), _) =>
            π.ite (b33) (
              π.ret (Go.Value.tuple #[])
            ) (
              again6 (((a7, n8, c9), ()), (x10, ()), (IntKind.i64.wrap (x11 + (1 : Int)), ()), ())
            )
          ) (
            π.call (46 : Nat) #[(Go.Value.agg #[(Go.Value.int (IntKind.i64) (x13)), (Go.Value.string (t14)), (Go.Value.slice (a15) (n16) (c17)), (Go.Value.slice (a18) (n19) (c20)), (Go.Value.slice (a21) (n22) (c23))])] (false, [(false, [.str])]) fun (((t34 : ByteArray), _), _) =>
            π.call (45 : Nat) #[(Go.Value.slice (a) (an) (ac)), (Go.Value.string (t34)), (Go.Value.func (Fn.func (46 : Nat)) #[] #[])] (false, [(false, [.int .i64])]) fun (((x35 : Int), _), _) =>
            π.unSome (some (Addr.mk c (0 : Nat) none)) fun p36 =>
            π.st (p36.add (2 : Nat)) [(Go.Value.bool (x35 != x11))] <|
            π.unSome (some (Addr.mk c (0 : Nat) none)) fun p37 =>
            π.ld [.bool] (p37.add (2 : Nat)) fun ((b38 : Bool), _) =>
            π.ite (b38) (
              π.ret (Go.Value.tuple #[])
            ) (
              again6 (((a7, n8, c9), ()), (x10, ()), (IntKind.i64.wrap (x11 + (1 : Int)), ()), ())
            )
          )
        )
      ) (
        π.ret (Go.Value.tuple #[])
      )
  )
def ann_namesT : Ann := { draws := [], join := [(1, [])], loop := [(2, [(31, 22), (32, 3), (33, 3)])] }
def la_namesT : LA := { ptr := [(11, 11, 0)], ty := [(11, 42)] }
set_option maxRecDepth 100000 in
theorem eq_namesT {W : Type} (π : Prims W) (c : Nat) (a : Option Addr) (an ac : Nat) (least most : Int) : bodyL π Try.prog la_namesT ann_namesT (mkFr (maskA [] [.v (.pointer (some ⟨c, 0, none⟩)), .v (.slice a an ac), .v (.int .i64 least), .v (.int .i64 most), .v (.func (.func 46) #[] #[])] 0) 67) Try.f55 (bodyOf Try.f55) (mkFr (List.map some [.v (.pointer (some ⟨c, 0, none⟩)), .v (.slice a an ac), .v (.int .i64 least), .v (.int .i64 most), .v (.func (.func 46) #[] #[])]) 67) = vc_namesT π c a an ac least most := by kernel_rfl
theorem ok_namesT (c : Nat) (a : Option Addr) (an ac : Nat) (least most : Int) (R : Value → PH → Prop) (s : PH) (h : vc_namesT (RP Try.prog R) c a an ac least most s) : DCalls Try.prog 55 (List.map AV.val [.v (.pointer (some ⟨c, 0, none⟩)), .v (.slice a an ac), .v (.int .i64 least), .v (.int .i64 most), .v (.func (.func 46) #[] #[])]).toArray s R :=
  calls_vcL (c := bodyOf Try.f55) (ann := ann_namesT) la_namesT (by kernel_rfl) Try.func55 rfl (by kernel_rfl) [.v (.pointer (some ⟨c, 0, none⟩)), .v (.slice a an ac), .v (.int .i64 least), .v (.int .i64 most), .v (.func (.func 46) #[] #[])] [] (by rw [Try.ntmps55]; exact Nat.le_of_ble_eq_true rfl) (by kernel_rfl) (by rw [show Try.f55.ntmps = 67 from Try.ntmps55, eq_namesT]; exact h)
/-- lintel/schema.names[lintel/api.Column] -/
def vc_namesC {W : Type} (π : Prims W) (c : Nat) (a : Option Addr) (an ac : Nat) (least most : Int) : W :=
  π.join [] (fun J0 =>
    π.unSome (some (Addr.mk c (0 : Nat) none)) fun p1 =>
    π.ld [.bool] (p1.add (2 : Nat)) fun ((b2 : Bool), _) =>
    π.ite (b2) (
      π.unSome (some (Addr.mk c (0 : Nat) none)) fun p3 =>
      π.st (p3.add (2 : Nat)) [(Go.Value.bool (true))] <|
      J0 (())
    ) (
      π.ite (decide ((↑an : Int) < least)) (
        π.unSome (some (Addr.mk c (0 : Nat) none)) fun p4 =>
        π.st (p4.add (2 : Nat)) [(Go.Value.bool (true))] <|
        J0 (())
      ) (
        π.unSome (some (Addr.mk c (0 : Nat) none)) fun p5 =>
        π.st (p5.add (2 : Nat)) [(Go.Value.bool (decide ((↑an : Int) > most)))] <|
        J0 (())
      )
    )
  ) (fun (_) =>
    π.loop [(false, [.slice]), (false, [.int .i64]), (false, [.int .i64])] (((a, an, ac), ()), ((↑an : Int), ()), ((0 : Int), ()), ()) fun ((((a7 : Option Addr), (n8 : Nat), (c9 : Nat)), _), ((x10 : Int), _), ((x11 : Int), _), _) again6 =>
      π.ite (decide (x11 < x10)) (
        π.guard ((0 : Int) ≤ x11 ∧ x11 < (↑n8 : Int)) <|
        π.unSome (a7) fun p12 =>
        π.ld [.int .i64, .str, .int .i64, .int .i64, .int .i64, .int .i64, .str] (p12.add (x11.toNat * (7 : Nat))) fun ((x13 : Int), (t14 : ByteArray), (x15 : Int), (x16 : Int), (x17 : Int), (x18 : Int), (t19 : ByteArray), _) =>
        π.unSome (some (Addr.mk c (0 : Nat) none)) fun p20 =>
        π.ld [.bool] (p20.add (2 : Nat)) fun ((b21 : Bool), _) =>
        π.ite (b21) (
          π.unSome (some (Addr.mk c (0 : Nat) none)) fun p22 =>
          π.st (p22.add (2 : Nat)) [(Go.Value.bool (true))] <|
          π.unSome (some (Addr.mk c (0 : Nat) none)) fun p23 =>
          π.ld [.bool] (p23.add (2 : Nat)) fun ((b24 : Bool), _) =>
          π.ite (b24) (
            π.ret (Go.Value.tuple #[])
          ) (
            again6 (((a7, n8, c9), ()), (x10, ()), (IntKind.i64.wrap (x11 + (1 : Int)), ()), ())
          )
        ) (
          π.call (94 : Nat) #[(Go.Value.agg #[(Go.Value.int (IntKind.i64) (x13)), (Go.Value.string (t14)), (Go.Value.int (IntKind.i64) (x15)), (Go.Value.int (IntKind.i64) (x16)), (Go.Value.int (IntKind.i64) (x17)), (Go.Value.int (IntKind.i64) (x18)), (Go.Value.string (t19))])] (false, [(false, [.str])]) fun (((t25 : ByteArray), _), _) =>
          π.call (91 : Nat) #[(Go.Value.string (t25))] (false, [(false, [.bool])]) fun (((b26 : Bool), _), _) =>
          π.ite (!b26) (
            π.unSome (some (Addr.mk c (0 : Nat) none)) fun p27 =>
            π.st (p27.add (2 : Nat)) [(Go.Value.bool (true))] <|
            π.unSome (some (Addr.mk c (0 : Nat) none)) fun p28 =>
            π.ld [.bool] (p28.add (2 : Nat)) fun ((b29 : Bool), _) =>
            π.ite (b29) (
              π.ret (Go.Value.tuple #[])
            ) (
              again6 (((a7, n8, c9), ()), (x10, ()), (IntKind.i64.wrap (x11 + (1 : Int)), ()), ())
            )
          ) (
            π.call (94 : Nat) #[(Go.Value.agg #[(Go.Value.int (IntKind.i64) (x13)), (Go.Value.string (t14)), (Go.Value.int (IntKind.i64) (x15)), (Go.Value.int (IntKind.i64) (x16)), (Go.Value.int (IntKind.i64) (x17)), (Go.Value.int (IntKind.i64) (x18)), (Go.Value.string (t19))])] (false, [(false, [.str])]) fun (((t30 : ByteArray), _), _) =>
            π.call (117 : Nat) #[(Go.Value.slice (a) (an) (ac)), (Go.Value.string (t30)), (Go.Value.func (Fn.func (94 : Nat)) #[] #[])] (false, [(false, [.int .i64])]) fun (((x31 : Int), _), _) =>
            π.unSome (some (Addr.mk c (0 : Nat) none)) fun p32 =>
            π.st (p32.add (2 : Nat)) [(Go.Value.bool (x31 != x11))] <|
            π.unSome (some (Addr.mk c (0 : Nat) none)) fun p33 =>
            π.ld [.bool] (p33.add (2 : Nat)) fun ((b34 : Bool), _) =>
            π.ite (b34) (
              π.ret (Go.Value.tuple #[])
            ) (
              again6 (((a7, n8, c9), ()), (x10, ()), (IntKind.i64.wrap (x11 + (1 : Int)), ()), ())
            )
          )
        )
      ) (
        π.ret (Go.Value.tuple #[])
      )
  )
def ann_namesC : Ann := { draws := [], join := [(1, [])], loop := [(2, [(31, 27), (32, 3), (33, 3)])] }
def la_namesC : LA := { ptr := [(11, 11, 0)], ty := [(11, 44)] }
set_option maxRecDepth 100000 in
theorem eq_namesC {W : Type} (π : Prims W) (c : Nat) (a : Option Addr) (an ac : Nat) (least most : Int) : bodyL π Try.prog la_namesC ann_namesC (mkFr (maskA [] [.v (.pointer (some ⟨c, 0, none⟩)), .v (.slice a an ac), .v (.int .i64 least), .v (.int .i64 most), .v (.func (.func 94) #[] #[])] 0) 67) Try.f93 (bodyOf Try.f93) (mkFr (List.map some [.v (.pointer (some ⟨c, 0, none⟩)), .v (.slice a an ac), .v (.int .i64 least), .v (.int .i64 most), .v (.func (.func 94) #[] #[])]) 67) = vc_namesC π c a an ac least most := by kernel_rfl
theorem ok_namesC (c : Nat) (a : Option Addr) (an ac : Nat) (least most : Int) (R : Value → PH → Prop) (s : PH) (h : vc_namesC (RP Try.prog R) c a an ac least most s) : DCalls Try.prog 93 (List.map AV.val [.v (.pointer (some ⟨c, 0, none⟩)), .v (.slice a an ac), .v (.int .i64 least), .v (.int .i64 most), .v (.func (.func 94) #[] #[])]).toArray s R :=
  calls_vcL (c := bodyOf Try.f93) (ann := ann_namesC) la_namesC (by kernel_rfl) Try.func93 rfl (by kernel_rfl) [.v (.pointer (some ⟨c, 0, none⟩)), .v (.slice a an ac), .v (.int .i64 least), .v (.int .i64 most), .v (.func (.func 94) #[] #[])] [] (by rw [Try.ntmps93]; exact Nat.le_of_ble_eq_true rfl) (by kernel_rfl) (by rw [show Try.f93.ntmps = 67 from Try.ntmps93, eq_namesC]; exact h)
/-- lintel/schema.names[lintel/api.Index] -/
def vc_namesX {W : Type} (π : Prims W) (c : Nat) (a : Option Addr) (an ac : Nat) (least most : Int) : W :=
  π.join [] (fun J0 =>
    π.unSome (some (Addr.mk c (0 : Nat) none)) fun p1 =>
    π.ld [.bool] (p1.add (2 : Nat)) fun ((b2 : Bool), _) =>
    π.ite (b2) (
      π.unSome (some (Addr.mk c (0 : Nat) none)) fun p3 =>
      π.st (p3.add (2 : Nat)) [(Go.Value.bool (true))] <|
      J0 (())
    ) (
      π.ite (decide ((↑an : Int) < least)) (
        π.unSome (some (Addr.mk c (0 : Nat) none)) fun p4 =>
        π.st (p4.add (2 : Nat)) [(Go.Value.bool (true))] <|
        J0 (())
      ) (
        π.unSome (some (Addr.mk c (0 : Nat) none)) fun p5 =>
        π.st (p5.add (2 : Nat)) [(Go.Value.bool (decide ((↑an : Int) > most)))] <|
        J0 (())
      )
    )
  ) (fun (_) =>
    π.loop [(false, [.slice]), (false, [.int .i64]), (false, [.int .i64])] (((a, an, ac), ()), ((↑an : Int), ()), ((0 : Int), ()), ()) fun ((((a7 : Option Addr), (n8 : Nat), (c9 : Nat)), _), ((x10 : Int), _), ((x11 : Int), _), _) again6 =>
      π.ite (decide (x11 < x10)) (
        π.guard ((0 : Int) ≤ x11 ∧ x11 < (↑n8 : Int)) <|
        π.unSome (a7) fun p12 =>
        π.ld [.int .i64, .str, .int .i64, .bool, .int .i64] (p12.add (x11.toNat * (5 : Nat))) fun ((x13 : Int), (t14 : ByteArray), (x15 : Int), (b16 : Bool), (x17 : Int), _) =>
        π.unSome (some (Addr.mk c (0 : Nat) none)) fun p18 =>
        π.ld [.bool] (p18.add (2 : Nat)) fun ((b19 : Bool), _) =>
        π.ite (b19) (
          π.unSome (some (Addr.mk c (0 : Nat) none)) fun p20 =>
          π.st (p20.add (2 : Nat)) [(Go.Value.bool (true))] <|
          π.unSome (some (Addr.mk c (0 : Nat) none)) fun p21 =>
          π.ld [.bool] (p21.add (2 : Nat)) fun ((b22 : Bool), _) =>
          π.ite (b22) (
            π.ret (Go.Value.tuple #[])
          ) (
            again6 (((a7, n8, c9), ()), (x10, ()), (IntKind.i64.wrap (x11 + (1 : Int)), ()), ())
          )
        ) (
          π.call (96 : Nat) #[(Go.Value.agg #[(Go.Value.int (IntKind.i64) (x13)), (Go.Value.string (t14)), (Go.Value.int (IntKind.i64) (x15)), (Go.Value.bool (b16)), (Go.Value.int (IntKind.i64) (x17))])] (false, [(false, [.str])]) fun (((t23 : ByteArray), _), _) =>
          π.call (91 : Nat) #[(Go.Value.string (t23))] (false, [(false, [.bool])]) fun (((b24 : Bool), _), _) =>
          π.ite (!b24) (
            π.unSome (some (Addr.mk c (0 : Nat) none)) fun p25 =>
            π.st (p25.add (2 : Nat)) [(Go.Value.bool (true))] <|
            π.unSome (some (Addr.mk c (0 : Nat) none)) fun p26 =>
            π.ld [.bool] (p26.add (2 : Nat)) fun ((b27 : Bool), _) =>
            π.ite (b27) (
              π.ret (Go.Value.tuple #[])
            ) (
              again6 (((a7, n8, c9), ()), (x10, ()), (IntKind.i64.wrap (x11 + (1 : Int)), ()), ())
            )
          ) (
            π.call (96 : Nat) #[(Go.Value.agg #[(Go.Value.int (IntKind.i64) (x13)), (Go.Value.string (t14)), (Go.Value.int (IntKind.i64) (x15)), (Go.Value.bool (b16)), (Go.Value.int (IntKind.i64) (x17))])] (false, [(false, [.str])]) fun (((t28 : ByteArray), _), _) =>
            π.call (125 : Nat) #[(Go.Value.slice (a) (an) (ac)), (Go.Value.string (t28)), (Go.Value.func (Fn.func (96 : Nat)) #[] #[])] (false, [(false, [.int .i64])]) fun (((x29 : Int), _), _) =>
            π.unSome (some (Addr.mk c (0 : Nat) none)) fun p30 =>
            π.st (p30.add (2 : Nat)) [(Go.Value.bool (x29 != x11))] <|
            π.unSome (some (Addr.mk c (0 : Nat) none)) fun p31 =>
            π.ld [.bool] (p31.add (2 : Nat)) fun ((b32 : Bool), _) =>
            π.ite (b32) (
              π.ret (Go.Value.tuple #[])
            ) (
              again6 (((a7, n8, c9), ()), (x10, ()), (IntKind.i64.wrap (x11 + (1 : Int)), ()), ())
            )
          )
        )
      ) (
        π.ret (Go.Value.tuple #[])
      )
  )
def ann_namesX : Ann := { draws := [], join := [(1, [])], loop := [(2, [(31, 39), (32, 3), (33, 3)])] }
def la_namesX : LA := { ptr := [(11, 11, 0)], ty := [(11, 106)] }
set_option maxRecDepth 100000 in
theorem eq_namesX {W : Type} (π : Prims W) (c : Nat) (a : Option Addr) (an ac : Nat) (least most : Int) : bodyL π Try.prog la_namesX ann_namesX (mkFr (maskA [] [.v (.pointer (some ⟨c, 0, none⟩)), .v (.slice a an ac), .v (.int .i64 least), .v (.int .i64 most), .v (.func (.func 96) #[] #[])] 0) 67) Try.f95 (bodyOf Try.f95) (mkFr (List.map some [.v (.pointer (some ⟨c, 0, none⟩)), .v (.slice a an ac), .v (.int .i64 least), .v (.int .i64 most), .v (.func (.func 96) #[] #[])]) 67) = vc_namesX π c a an ac least most := by kernel_rfl
theorem ok_namesX (c : Nat) (a : Option Addr) (an ac : Nat) (least most : Int) (R : Value → PH → Prop) (s : PH) (h : vc_namesX (RP Try.prog R) c a an ac least most s) : DCalls Try.prog 95 (List.map AV.val [.v (.pointer (some ⟨c, 0, none⟩)), .v (.slice a an ac), .v (.int .i64 least), .v (.int .i64 most), .v (.func (.func 96) #[] #[])]).toArray s R :=
  calls_vcL (c := bodyOf Try.f95) (ann := ann_namesX) la_namesX (by kernel_rfl) Try.func95 rfl (by kernel_rfl) [.v (.pointer (some ⟨c, 0, none⟩)), .v (.slice a an ac), .v (.int .i64 least), .v (.int .i64 most), .v (.func (.func 96) #[] #[])] [] (by rw [Try.ntmps95]; exact Nat.le_of_ble_eq_true rfl) (by kernel_rfl) (by rw [show Try.f95.ntmps = 67 from Try.ntmps95, eq_namesX]; exact h)
/-- lintel/schema.names[lintel/api.Foreign] -/
def vc_namesF {W : Type} (π : Prims W) (c : Nat) (a : Option Addr) (an ac : Nat) (least most : Int) : W :=
  π.join [] (fun J0 =>
    π.unSome (some (Addr.mk c (0 : Nat) none)) fun p1 =>
    π.ld [.bool] (p1.add (2 : Nat)) fun ((b2 : Bool), _) =>
    π.ite (b2) (
      π.unSome (some (Addr.mk c (0 : Nat) none)) fun p3 =>
      π.st (p3.add (2 : Nat)) [(Go.Value.bool (true))] <|
      J0 (())
    ) (
      π.ite (decide ((↑an : Int) < least)) (
        π.unSome (some (Addr.mk c (0 : Nat) none)) fun p4 =>
        π.st (p4.add (2 : Nat)) [(Go.Value.bool (true))] <|
        J0 (())
      ) (
        π.unSome (some (Addr.mk c (0 : Nat) none)) fun p5 =>
        π.st (p5.add (2 : Nat)) [(Go.Value.bool (decide ((↑an : Int) > most)))] <|
        J0 (())
      )
    )
  ) (fun (_) =>
    π.loop [(false, [.slice]), (false, [.int .i64]), (false, [.int .i64])] (((a, an, ac), ()), ((↑an : Int), ()), ((0 : Int), ()), ()) fun ((((a7 : Option Addr), (n8 : Nat), (c9 : Nat)), _), ((x10 : Int), _), ((x11 : Int), _), _) again6 =>
      π.ite (decide (x11 < x10)) (
        π.guard ((0 : Int) ≤ x11 ∧ x11 < (↑n8 : Int)) <|
        π.unSome (a7) fun p12 =>
        π.ld [.int .i64, .str, .int .i64, .int .i64, .int .i64] (p12.add (x11.toNat * (5 : Nat))) fun ((x13 : Int), (t14 : ByteArray), (x15 : Int), (x16 : Int), (x17 : Int), _) =>
        π.unSome (some (Addr.mk c (0 : Nat) none)) fun p18 =>
        π.ld [.bool] (p18.add (2 : Nat)) fun ((b19 : Bool), _) =>
        π.ite (b19) (
          π.unSome (some (Addr.mk c (0 : Nat) none)) fun p20 =>
          π.st (p20.add (2 : Nat)) [(Go.Value.bool (true))] <|
          π.unSome (some (Addr.mk c (0 : Nat) none)) fun p21 =>
          π.ld [.bool] (p21.add (2 : Nat)) fun ((b22 : Bool), _) =>
          π.ite (b22) (
            π.ret (Go.Value.tuple #[])
          ) (
            again6 (((a7, n8, c9), ()), (x10, ()), (IntKind.i64.wrap (x11 + (1 : Int)), ()), ())
          )
        ) (
          π.call (98 : Nat) #[(Go.Value.agg #[(Go.Value.int (IntKind.i64) (x13)), (Go.Value.string (t14)), (Go.Value.int (IntKind.i64) (x15)), (Go.Value.int (IntKind.i64) (x16)), (Go.Value.int (IntKind.i64) (x17))])] (false, [(false, [.str])]) fun (((t23 : ByteArray), _), _) =>
          π.call (91 : Nat) #[(Go.Value.string (t23))] (false, [(false, [.bool])]) fun (((b24 : Bool), _), _) =>
          π.ite (!b24) (
            π.unSome (some (Addr.mk c (0 : Nat) none)) fun p25 =>
            π.st (p25.add (2 : Nat)) [(Go.Value.bool (true))] <|
            π.unSome (some (Addr.mk c (0 : Nat) none)) fun p26 =>
            π.ld [.bool] (p26.add (2 : Nat)) fun ((b27 : Bool), _) =>
            π.ite (b27) (
              π.ret (Go.Value.tuple #[])
            ) (
              again6 (((a7, n8, c9), ()), (x10, ()), (IntKind.i64.wrap (x11 + (1 : Int)), ()), ())
            )
          ) (
            π.call (98 : Nat) #[(Go.Value.agg #[(Go.Value.int (IntKind.i64) (x13)), (Go.Value.string (t14)), (Go.Value.int (IntKind.i64) (x15)), (Go.Value.int (IntKind.i64) (x16)), (Go.Value.int (IntKind.i64) (x17))])] (false, [(false, [.str])]) fun (((t28 : ByteArray), _), _) =>
            π.call (129 : Nat) #[(Go.Value.slice (a) (an) (ac)), (Go.Value.string (t28)), (Go.Value.func (Fn.func (98 : Nat)) #[] #[])] (false, [(false, [.int .i64])]) fun (((x29 : Int), _), _) =>
            π.unSome (some (Addr.mk c (0 : Nat) none)) fun p30 =>
            π.st (p30.add (2 : Nat)) [(Go.Value.bool (x29 != x11))] <|
            π.unSome (some (Addr.mk c (0 : Nat) none)) fun p31 =>
            π.ld [.bool] (p31.add (2 : Nat)) fun ((b32 : Bool), _) =>
            π.ite (b32) (
              π.ret (Go.Value.tuple #[])
            ) (
              again6 (((a7, n8, c9), ()), (x10, ()), (IntKind.i64.wrap (x11 + (1 : Int)), ()), ())
            )
          )
        )
      ) (
        π.ret (Go.Value.tuple #[])
      )
  )
def ann_namesF : Ann := { draws := [], join := [(1, [])], loop := [(2, [(31, 40), (32, 3), (33, 3)])] }
def la_namesF : LA := { ptr := [(11, 11, 0)], ty := [(11, 109)] }
set_option maxRecDepth 100000 in
theorem eq_namesF {W : Type} (π : Prims W) (c : Nat) (a : Option Addr) (an ac : Nat) (least most : Int) : bodyL π Try.prog la_namesF ann_namesF (mkFr (maskA [] [.v (.pointer (some ⟨c, 0, none⟩)), .v (.slice a an ac), .v (.int .i64 least), .v (.int .i64 most), .v (.func (.func 98) #[] #[])] 0) 67) Try.f97 (bodyOf Try.f97) (mkFr (List.map some [.v (.pointer (some ⟨c, 0, none⟩)), .v (.slice a an ac), .v (.int .i64 least), .v (.int .i64 most), .v (.func (.func 98) #[] #[])]) 67) = vc_namesF π c a an ac least most := by kernel_rfl
theorem ok_namesF (c : Nat) (a : Option Addr) (an ac : Nat) (least most : Int) (R : Value → PH → Prop) (s : PH) (h : vc_namesF (RP Try.prog R) c a an ac least most s) : DCalls Try.prog 97 (List.map AV.val [.v (.pointer (some ⟨c, 0, none⟩)), .v (.slice a an ac), .v (.int .i64 least), .v (.int .i64 most), .v (.func (.func 98) #[] #[])]).toArray s R :=
  calls_vcL (c := bodyOf Try.f97) (ann := ann_namesF) la_namesF (by kernel_rfl) Try.func97 rfl (by kernel_rfl) [.v (.pointer (some ⟨c, 0, none⟩)), .v (.slice a an ac), .v (.int .i64 least), .v (.int .i64 most), .v (.func (.func 98) #[] #[])] [] (by rw [Try.ntmps97]; exact Nat.le_of_ble_eq_true rfl) (by kernel_rfl) (by rw [show Try.f97.ntmps = 67 from Try.ntmps97, eq_namesF]; exact h)
/-- (*lintel/schema.checker).table -/
def vc_ckTable {W : Type} (π : Prims W) (c : Nat) (sv sl : Int) (sa : Option Addr) (san sac : Nat) (ti : Int) (tn : ByteArray) (ca : Option Addr) (can cac : Nat) (xa : Option Addr) (xan xac : Nat) (ka : Option Addr) (kan kac : Nat) : W :=
  π.call (92 : Nat) #[(Go.Value.pointer (some (Addr.mk c (0 : Nat) none))), (Go.Value.int (IntKind.i64) (ti))] (true, []) fun (_) =>
  π.call (93 : Nat) #[(Go.Value.pointer (some (Addr.mk c (0 : Nat) none))), (Go.Value.slice (ca) (can) (cac)), (Go.Value.int (IntKind.i64) ((1 : Int))), (Go.Value.int (IntKind.i64) ((8 : Int))), (Go.Value.func (Fn.func (94 : Nat)) #[] #[])] (true, []) fun (_) =>
  π.call (95 : Nat) #[(Go.Value.pointer (some (Addr.mk c (0 : Nat) none))), (Go.Value.slice (xa) (xan) (xac)), (Go.Value.int (IntKind.i64) ((0 : Int))), (Go.Value.int (IntKind.i64) ((8 : Int))), (Go.Value.func (Fn.func (96 : Nat)) #[] #[])] (true, []) fun (_) =>
  π.call (97 : Nat) #[(Go.Value.pointer (some (Addr.mk c (0 : Nat) none))), (Go.Value.slice (ka) (kan) (kac)), (Go.Value.int (IntKind.i64) ((0 : Int))), (Go.Value.int (IntKind.i64) ((8 : Int))), (Go.Value.func (Fn.func (98 : Nat)) #[] #[])] (true, []) fun (_) =>
  π.unSome (some (Addr.mk c (0 : Nat) none)) fun p0 =>
  π.ld [.bool] (p0.add (2 : Nat)) fun ((b1 : Bool), _) =>
  π.ite (b1) (
    π.ret (Go.Value.tuple #[])
  ) (
    π.guard ((0 : Int) ≤ (0 : Int) ∧ (0 : Int) < (↑can : Int)) <|
    π.unSome (ca) fun p2 =>
    π.ld [.int .i64] ((p2.add (0 : Nat)).add (3 : Nat)) fun ((x3 : Int), _) =>
    π.unSome (some (Addr.mk c (0 : Nat) none)) fun p4 =>
    π.st (p4.add (2 : Nat)) [(Go.Value.bool (x3 != (3 : Int)))] <|
    π.loop [(true, [.int .i64, .int .i64, .slice]), (true, [.int .i64, .str, .slice, .slice, .slice]), (false, [.slice]), (false, [.int .i64]), (false, [.int .i64])] ((sv, sl, (sa, san, sac), ()), (ti, tn, (ca, can, cac), (xa, xan, xac), (ka, kan, kac), ()), ((ca, can, cac), ()), ((↑can : Int), ()), ((0 : Int), ()), ()) fun (((x6 : Int), (x7 : Int), ((a8 : Option Addr), (n9 : Nat), (c10 : Nat)), _), ((x11 : Int), (t12 : ByteArray), ((a13 : Option Addr), (n14 : Nat), (c15 : Nat)), ((a16 : Option Addr), (n17 : Nat), (c18 : Nat)), ((a19 : Option Addr), (n20 : Nat), (c21 : Nat)), _), (((a22 : Option Addr), (n23 : Nat), (c24 : Nat)), _), ((x25 : Int), _), ((x26 : Int), _), _) again5 =>
      π.ite (decide (x26 < x25)) (
        π.guard ((0 : Int) ≤ x26 ∧ x26 < (↑n23 : Int)) <|
        π.unSome (a22) fun p27 =>
        π.ld [.int .i64, .str, .int .i64, .int .i64, .int .i64, .int .i64, .str] (p27.add (x26.toNat * (7 : Nat))) fun ((x28 : Int), (t29 : ByteArray), (x30 : Int), (x31 : Int), (x32 : Int), (x33 : Int), (t34 : ByteArray), _) =>
        π.call (92 : Nat) #[(Go.Value.pointer (some (Addr.mk c (0 : Nat) none))), (Go.Value.int (IntKind.i64) (x28))] (true, []) fun (_) =>
        π.call (99 : Nat) #[(Go.Value.pointer (some (Addr.mk c (0 : Nat) none))), (Go.Value.int (IntKind.i64) (x31))] (true, []) fun (_) =>
        π.unSome (some (Addr.mk c (0 : Nat) none)) fun p35 =>
        π.ld [.bool] (p35.add (2 : Nat)) fun ((b36 : Bool), _) =>
        π.ite (b36) (
          π.unSome (some (Addr.mk c (0 : Nat) none)) fun p37 =>
          π.st (p37.add (2 : Nat)) [(Go.Value.bool (true))] <|
          again5 ((x6, x7, (a8, n9, c10), ()), (x11, t12, (a13, n14, c15), (a16, n17, c18), (a19, n20, c21), ()), ((a22, n23, c24), ()), (x25, ()), (IntKind.i64.wrap (x26 + (1 : Int)), ()), ())
        ) (
          π.call (100 : Nat) #[(Go.Value.int (IntKind.i64) (x30))] (false, [(false, [.bool])]) fun (((b38 : Bool), _), _) =>
          π.ite (!b38) (
            π.unSome (some (Addr.mk c (0 : Nat) none)) fun p39 =>
            π.st (p39.add (2 : Nat)) [(Go.Value.bool (true))] <|
            again5 ((x6, x7, (a8, n9, c10), ()), (x11, t12, (a13, n14, c15), (a16, n17, c18), (a19, n20, c21), ()), ((a22, n23, c24), ()), (x25, ()), (IntKind.i64.wrap (x26 + (1 : Int)), ()), ())
          ) (
            π.call (101 : Nat) #[(Go.Value.agg #[(Go.Value.int (IntKind.i64) (x32)), (Go.Value.int (IntKind.i64) (x33)), (Go.Value.string (t34))]), (Go.Value.int (IntKind.i64) (x30))] (false, [(false, [.bool])]) fun (((b40 : Bool), _), _) =>
            π.unSome (some (Addr.mk c (0 : Nat) none)) fun p41 =>
            π.st (p41.add (2 : Nat)) [(Go.Value.bool (!b40))] <|
            again5 ((x6, x7, (a8, n9, c10), ()), (x11, t12, (a13, n14, c15), (a16, n17, c18), (a19, n20, c21), ()), ((a22, n23, c24), ()), (x25, ()), (IntKind.i64.wrap (x26 + (1 : Int)), ()), ())
          )
        )
      ) (
        π.loop [(true, [.int .i64, .int .i64, .slice]), (true, [.int .i64, .str, .slice, .slice, .slice]), (false, [.slice]), (false, [.int .i64]), (false, [.int .i64])] ((x6, x7, (a8, n9, c10), ()), (x11, t12, (a13, n14, c15), (a16, n17, c18), (a19, n20, c21), ()), ((a16, n17, c18), ()), ((↑n17 : Int), ()), ((0 : Int), ()), ()) fun (((x43 : Int), (x44 : Int), ((a45 : Option Addr), (n46 : Nat), (c47 : Nat)), _), ((x48 : Int), (t49 : ByteArray), ((a50 : Option Addr), (n51 : Nat), (c52 : Nat)), ((a53 : Option Addr), (n54 : Nat), (c55 : Nat)), ((a56 : Option Addr), (n57 : Nat), (c58 : Nat)), _), (((a59 : Option Addr), (n60 : Nat), (c61 : Nat)), _), ((x62 : Int), _), ((x63 : Int), _), _) again42 =>
          π.ite (decide (x63 < x62)) (
            π.guard ((0 : Int) ≤ x63 ∧ x63 < (↑n60 : Int)) <|
            π.unSome (a59) fun p64 =>
            π.ld [.int .i64, .str, .int .i64, .bool, .int .i64] (p64.add (x63.toNat * (5 : Nat))) fun ((x65 : Int), (t66 : ByteArray), (x67 : Int), (b68 : Bool), (x69 : Int), _) =>
            π.call (92 : Nat) #[(Go.Value.pointer (some (Addr.mk c (0 : Nat) none))), (Go.Value.int (IntKind.i64) (x65))] (true, []) fun (_) =>
            π.call (99 : Nat) #[(Go.Value.pointer (some (Addr.mk c (0 : Nat) none))), (Go.Value.int (IntKind.i64) (x69))] (true, []) fun (_) =>
            π.unSome (some (Addr.mk c (0 : Nat) none)) fun p70 =>
            π.ld [.bool] (p70.add (2 : Nat)) fun ((b71 : Bool), _) =>
            π.ite (b71) (
              π.unSome (some (Addr.mk c (0 : Nat) none)) fun p72 =>
              π.st (p72.add (2 : Nat)) [(Go.Value.bool (true))] <|
              again42 ((x43, x44, (a45, n46, c47), ()), (x48, t49, (a50, n51, c52), (a53, n54, c55), (a56, n57, c58), ()), ((a59, n60, c61), ()), (x62, ()), (IntKind.i64.wrap (x63 + (1 : Int)), ()), ())
            ) (
              π.call (102 : Nat) #[(Go.Value.agg #[(Go.Value.int (IntKind.i64) (x48)), (Go.Value.string (t49)), (Go.Value.slice (a50) (n51) (c52)), (Go.Value.slice (a53) (n54) (c55)), (Go.Value.slice (a56) (n57) (c58))]), (Go.Value.int (IntKind.i64) (x67))] (false, [(false, [.int .i64])]) fun (((x73 : Int), _), _) =>
              π.unSome (some (Addr.mk c (0 : Nat) none)) fun p74 =>
              π.st (p74.add (2 : Nat)) [(Go.Value.bool (decide (x73 < (0 : Int))))] <|
              again42 ((x43, x44, (a45, n46, c47), ()), (x48, t49, (a50, n51, c52), (a53, n54, c55), (a56, n57, c58), ()), ((a59, n60, c61), ()), (x62, ()), (IntKind.i64.wrap (x63 + (1 : Int)), ()), ())
            )
          ) (
            π.loop [(true, [.int .i64, .int .i64, .slice]), (true, [.int .i64, .str, .slice, .slice, .slice]), (false, [.slice]), (false, [.int .i64]), (false, [.int .i64])] ((x43, x44, (a45, n46, c47), ()), (x48, t49, (a50, n51, c52), (a53, n54, c55), (a56, n57, c58), ()), ((a56, n57, c58), ()), ((↑n57 : Int), ()), ((0 : Int), ()), ()) fun (((x76 : Int), (x77 : Int), ((a78 : Option Addr), (n79 : Nat), (c80 : Nat)), _), ((x81 : Int), (t82 : ByteArray), ((a83 : Option Addr), (n84 : Nat), (c85 : Nat)), ((a86 : Option Addr), (n87 : Nat), (c88 : Nat)), ((a89 : Option Addr), (n90 : Nat), (c91 : Nat)), _), (((a92 : Option Addr), (n93 : Nat), (c94 : Nat)), _), ((x95 : Int), _), ((x96 : Int), _), _) again75 =>
              π.ite (decide (x96 < x95)) (
                π.guard ((0 : Int) ≤ x96 ∧ x96 < (↑n93 : Int)) <|
                π.unSome (a92) fun p97 =>
                π.ld [.int .i64, .str, .int .i64, .int .i64, .int .i64] (p97.add (x96.toNat * (5 : Nat))) fun ((x98 : Int), (t99 : ByteArray), (x100 : Int), (x101 : Int), (x102 : Int), _) =>
                π.call (92 : Nat) #[(Go.Value.pointer (some (Addr.mk c (0 : Nat) none))), (Go.Value.int (IntKind.i64) (x98))] (true, []) fun (_) =>
                π.call (99 : Nat) #[(Go.Value.pointer (some (Addr.mk c (0 : Nat) none))), (Go.Value.int (IntKind.i64) (x102))] (true, []) fun (_) =>
                π.callQ (102 : Nat) #[(Go.Value.agg #[(Go.Value.int (IntKind.i64) (x81)), (Go.Value.string (t82)), (Go.Value.slice (a83) (n84) (c85)), (Go.Value.slice (a86) (n87) (c88)), (Go.Value.slice (a89) (n90) (c91))]), (Go.Value.int (IntKind.i64) (x100))] (false, [(false, [.int .i64])]) fun (((x103 : Int), _), _) =>
                π.callQ (103 : Nat) #[(Go.Value.agg #[(Go.Value.int (IntKind.i64) (x76)), (Go.Value.int (IntKind.i64) (x77)), (Go.Value.slice (a78) (n79) (c80))]), (Go.Value.int (IntKind.i64) (x101))] (false, [(false, [.int .i64])]) fun (((x104 : Int), _), _) =>
                π.unSome (some (Addr.mk c (0 : Nat) none)) fun p105 =>
                π.ld [.bool] (p105.add (2 : Nat)) fun ((b106 : Bool), _) =>
                π.ite (b106) (
                  π.unSome (some (Addr.mk c (0 : Nat) none)) fun p107 =>
                  π.st (p107.add (2 : Nat)) [(Go.Value.bool (true))] <|
                  again75 ((x76, x77, (a78, n79, c80), ()), (x81, t82, (a83, n84, c85), (a86, n87, c88), (a89, n90, c91), ()), ((a92, n93, c94), ()), (x95, ()), (IntKind.i64.wrap (x96 + (1 : Int)), ()), ())
                ) (
                  π.ite (decide (x103 < (0 : Int))) (
                    π.unSome (some (Addr.mk c (0 : Nat) none)) fun p108 =>
                    π.st (p108.add (2 : Nat)) [(Go.Value.bool (true))] <|
                    again75 ((x76, x77, (a78, n79, c80), ()), (x81, t82, (a83, n84, c85), (a86, n87, c88), (a89, n90, c91), ()), ((a92, n93, c94), ()), (x95, ()), (IntKind.i64.wrap (x96 + (1 : Int)), ()), ())
                  ) (
                    π.ite (decide (x104 < (0 : Int))) (
                      π.unSome (some (Addr.mk c (0 : Nat) none)) fun p109 =>
                      π.st (p109.add (2 : Nat)) [(Go.Value.bool (true))] <|
                      again75 ((x76, x77, (a78, n79, c80), ()), (x81, t82, (a83, n84, c85), (a86, n87, c88), (a89, n90, c91), ()), ((a92, n93, c94), ()), (x95, ()), (IntKind.i64.wrap (x96 + (1 : Int)), ()), ())
                    ) (
                      π.guard ((0 : Int) ≤ x104 ∧ x104 < (↑n79 : Int)) <|
                      π.unSome (a78) fun p110 =>
                      π.ld [.slice] ((p110.add (x104.toNat * (5 : Nat))).add (2 : Nat)) fun (((a111 : Option Addr), (n112 : Nat), (c113 : Nat)), _) =>
                      π.ite ((↑n112 : Int) == (0 : Int)) (
                        π.unSome (some (Addr.mk c (0 : Nat) none)) fun p114 =>
                        π.st (p114.add (2 : Nat)) [(Go.Value.bool (true))] <|
                        again75 ((x76, x77, (a78, n79, c80), ()), (x81, t82, (a83, n84, c85), (a86, n87, c88), (a89, n90, c91), ()), ((a92, n93, c94), ()), (x95, ()), (IntKind.i64.wrap (x96 + (1 : Int)), ()), ())
                      ) (
                        π.guard ((0 : Int) ≤ x103 ∧ x103 < (↑n84 : Int)) <|
                        π.unSome (a83) fun p115 =>
                        π.ld [.int .i64] ((p115.add (x103.toNat * (7 : Nat))).add (2 : Nat)) fun ((x116 : Int), _) =>
                        π.guard ((0 : Int) ≤ x104 ∧ x104 < (↑n79 : Int)) <|
                        π.unSome (a78) fun p117 =>
                        π.ld [.slice] ((p117.add (x104.toNat * (5 : Nat))).add (2 : Nat)) fun (((a118 : Option Addr), (n119 : Nat), (c120 : Nat)), _) =>
                        π.guard ((0 : Int) ≤ (0 : Int) ∧ (0 : Int) < (↑n119 : Int)) <|
                        π.unSome (a118) fun p121 =>
                        π.ld [.int .i64] ((p121.add (0 : Nat)).add (2 : Nat)) fun ((x122 : Int), _) =>
                        π.unSome (some (Addr.mk c (0 : Nat) none)) fun p123 =>
                        π.st (p123.add (2 : Nat)) [(Go.Value.bool (x116 != x122))] <|
                        again75 ((x76, x77, (a78, n79, c80), ()), (x81, t82, (a83, n84, c85), (a86, n87, c88), (a89, n90, c91), ()), ((a92, n93, c94), ()), (x95, ()), (IntKind.i64.wrap (x96 + (1 : Int)), ()), ())
                      )
                    )
                  )
                )
              ) (
                π.ret (Go.Value.tuple #[])
              )
          )
      )
  )
def ann_ckTable : Ann := { draws := [(26, { A := [0, 1, 2, 3, 4, 5, 6, 7, 8, 9], quiet := [3, 7] }), (27, { A := [0, 1, 2, 3, 4, 5, 6, 7, 8, 9, 10, 11, 12, 13, 14, 15, 16, 17, 18, 19, 20, 21, 22, 23, 24, 25, 26, 27, 28, 29, 30, 31, 32, 33, 34, 35, 36, 37, 38, 39, 40, 41, 42] })], join := [], loop := [(8, [(4, 24), (5, 42), (44, 27), (45, 3), (46, 3)]), (15, [(4, 24), (5, 42), (81, 39), (82, 3), (83, 3)]), (22, [(4, 24), (5, 42), (111, 40), (112, 3), (113, 3)])] }
def la_ckTable : LA := { ptr := [(4, 4, 0), (5, 5, 0), (7, 7, 0), (9, 9, 0), (11, 11, 0), (15, 5, 0), (19, 5, 2), (23, 5, 3), (27, 5, 4), (35, 5, 2), (43, 5, 2), (51, 7, 0), (55, 7, 3), (64, 7, 2), (70, 7, 4), (72, 7, 2), (80, 5, 3), (88, 9, 0), (92, 9, 4), (102, 9, 2), (110, 5, 4), (118, 11, 0), (122, 11, 4), (126, 11, 2), (130, 11, 3), (147, 4, 2), (157, 5, 2), (163, 4, 2)], ty := [(4, 24), (5, 42), (7, 44), (9, 106), (11, 109)] }
set_option maxRecDepth 100000 in
theorem eq_ckTable {W : Type} (π : Prims W) (c : Nat) (sv sl : Int) (sa : Option Addr) (san sac : Nat) (ti : Int) (tn : ByteArray) (ca : Option Addr) (can cac : Nat) (xa : Option Addr) (xan xac : Nat) (ka : Option Addr) (kan kac : Nat) : bodyL π Try.prog la_ckTable ann_ckTable (mkFr (maskA [] [.v (.pointer (some ⟨c, 0, none⟩)), .v (.agg #[.int .i64 sv, .int .i64 sl, .slice sa san sac]), .v (.agg #[.int .i64 ti, .string tn, .slice ca can cac, .slice xa xan xac, .slice ka kan kac])] 0) 177) Try.f56 (bodyOf Try.f56) (mkFr (List.map some [.v (.pointer (some ⟨c, 0, none⟩)), .v (.agg #[.int .i64 sv, .int .i64 sl, .slice sa san sac]), .v (.agg #[.int .i64 ti, .string tn, .slice ca can cac, .slice xa xan xac, .slice ka kan kac])]) 177) = vc_ckTable π c sv sl sa san sac ti tn ca can cac xa xan xac ka kan kac := by kernel_rfl
theorem ok_ckTable (c : Nat) (sv sl : Int) (sa : Option Addr) (san sac : Nat) (ti : Int) (tn : ByteArray) (ca : Option Addr) (can cac : Nat) (xa : Option Addr) (xan xac : Nat) (ka : Option Addr) (kan kac : Nat) (R : Value → PH → Prop) (s : PH) (h : vc_ckTable (RP Try.prog R) c sv sl sa san sac ti tn ca can cac xa xan xac ka kan kac s) : DCalls Try.prog 56 (List.map AV.val [.v (.pointer (some ⟨c, 0, none⟩)), .v (.agg #[.int .i64 sv, .int .i64 sl, .slice sa san sac]), .v (.agg #[.int .i64 ti, .string tn, .slice ca can cac, .slice xa xan xac, .slice ka kan kac])]).toArray s R :=
  calls_vcL (c := bodyOf Try.f56) (ann := ann_ckTable) la_ckTable (by kernel_rfl) Try.func56 rfl (by kernel_rfl) [.v (.pointer (some ⟨c, 0, none⟩)), .v (.agg #[.int .i64 sv, .int .i64 sl, .slice sa san sac]), .v (.agg #[.int .i64 ti, .string tn, .slice ca can cac, .slice xa xan xac, .slice ka kan kac])] [] (by rw [Try.ntmps56]; exact Nat.le_of_ble_eq_true rfl) (by kernel_rfl) (by rw [show Try.f56.ntmps = 177 from Try.ntmps56, eq_ckTable]; exact h)
/-- lintel/schema.Check -/
def vc_Check {W : Type} (π : Prims W) (sv sl : Int) (sa : Option Addr) (san sac : Nat) : W :=
  π.join [(true, [.int .i64, .int .i64, .slice]), (false, [.ptr])] (fun J0 =>
    π.nw (Obj.map #[] (0 : Nat)) fun r1 =>
    π.ite (decide (sv < (0 : Int))) (
      π.nw (Go.Obj.cells #[(Go.Value.int (IntKind.i64) (sl)), (Go.Value.map (some r1)), (Go.Value.bool (true))] (114 : Nat) ((0 : Nat), (0 : Nat))) fun r2 =>
      J0 ((sv, sl, (sa, san, sac), ()), (some (Addr.mk r2 (0 : Nat) none), ()), ())
    ) (
      π.ite (decide (sv > (1125899906842624 : Int))) (
        π.nw (Go.Obj.cells #[(Go.Value.int (IntKind.i64) (sl)), (Go.Value.map (some r1)), (Go.Value.bool (true))] (114 : Nat) ((0 : Nat), (0 : Nat))) fun r3 =>
        J0 ((sv, sl, (sa, san, sac), ()), (some (Addr.mk r3 (0 : Nat) none), ()), ())
      ) (
        π.ite (decide (sl < (0 : Int))) (
          π.nw (Go.Obj.cells #[(Go.Value.int (IntKind.i64) (sl)), (Go.Value.map (some r1)), (Go.Value.bool (true))] (114 : Nat) ((0 : Nat), (0 : Nat))) fun r4 =>
          J0 ((sv, sl, (sa, san, sac), ()), (some (Addr.mk r4 (0 : Nat) none), ()), ())
        ) (
          π.nw (Go.Obj.cells #[(Go.Value.int (IntKind.i64) (sl)), (Go.Value.map (some r1)), (Go.Value.bool (decide (sl > (1125899906842624 : Int))))] (114 : Nat) ((0 : Nat), (0 : Nat))) fun r5 =>
          J0 ((sv, sl, (sa, san, sac), ()), (some (Addr.mk r5 (0 : Nat) none), ()), ())
        )
      )
    )
  ) (fun (((x6 : Int), (x7 : Int), ((a8 : Option Addr), (n9 : Nat), (c10 : Nat)), _), (p11, _), _) =>
    π.call (55 : Nat) #[(Go.Value.pointer (p11)), (Go.Value.slice (a8) (n9) (c10)), (Go.Value.int (IntKind.i64) ((0 : Int))), (Go.Value.int (IntKind.i64) ((6 : Int))), (Go.Value.func (Fn.func (46 : Nat)) #[] #[])] (true, []) fun (_) =>
    π.loop [(true, [.int .i64, .int .i64, .slice]), (false, [.ptr]), (false, [.slice]), (false, [.int .i64]), (false, [.int .i64])] ((x6, x7, (a8, n9, c10), ()), (p11, ()), ((a8, n9, c10), ()), ((↑n9 : Int), ()), ((0 : Int), ()), ()) fun (((x13 : Int), (x14 : Int), ((a15 : Option Addr), (n16 : Nat), (c17 : Nat)), _), (p18, _), (((a19 : Option Addr), (n20 : Nat), (c21 : Nat)), _), ((x22 : Int), _), ((x23 : Int), _), _) again12 =>
      π.ite (decide (x23 < x22)) (
        π.guard ((0 : Int) ≤ x23 ∧ x23 < (↑n20 : Int)) <|
        π.unSome (a19) fun p24 =>
        π.ld [.int .i64, .str, .slice, .slice, .slice] (p24.add (x23.toNat * (5 : Nat))) fun ((x25 : Int), (t26 : ByteArray), ((a27 : Option Addr), (n28 : Nat), (c29 : Nat)), ((a30 : Option Addr), (n31 : Nat), (c32 : Nat)), ((a33 : Option Addr), (n34 : Nat), (c35 : Nat)), _) =>
        π.unSome (p18) fun p36 =>
        π.ld [.bool] (p36.add (2 : Nat)) fun ((b37 : Bool), _) =>
        π.ite (b37) (
          π.ret (Go.Value.int (IntKind.i64) ((100 : Int)))
        ) (
          π.call (56 : Nat) #[(Go.Value.pointer (p18)), (Go.Value.agg #[(Go.Value.int (IntKind.i64) (x13)), (Go.Value.int (IntKind.i64) (x14)), (Go.Value.slice (a15) (n16) (c17))]), (Go.Value.agg #[(Go.Value.int (IntKind.i64) (x25)), (Go.Value.string (t26)), (Go.Value.slice (a27) (n28) (c29)), (Go.Value.slice (a30) (n31) (c32)), (Go.Value.slice (a33) (n34) (c35))])] (true, []) fun (_) =>
          again12 ((x13, x14, (a15, n16, c17), ()), (p18, ()), ((a19, n20, c21), ()), (x22, ()), (IntKind.i64.wrap (x23 + (1 : Int)), ()), ())
        )
      ) (
        π.unSome (p18) fun p38 =>
        π.ld [.bool] (p38.add (2 : Nat)) fun ((b39 : Bool), _) =>
        π.ite (b39) (
          π.ret (Go.Value.int (IntKind.i64) ((100 : Int)))
        ) (
          π.ret (Go.Value.int (IntKind.i64) ((0 : Int)))
        )
      )
  )
def ann_Check : Ann := { draws := [], join := [(2, [(1, 24), (3, 111)])], loop := [(4, [(1, 24), (3, 111), (34, 22), (35, 3), (36, 3)])] }
def la_Check : LA := { ptr := [(1, 1, 0), (5, 5, 0), (6, 1, 1), (9, 1, 0), (13, 1, 0), (18, 1, 1), (23, 1, 1), (30, 1, 2), (33, 1, 2)], ty := [(1, 24), (5, 42)] }
set_option maxRecDepth 100000 in
theorem eq_Check {W : Type} (π : Prims W) (sv sl : Int) (sa : Option Addr) (san sac : Nat) : bodyL π Try.prog la_Check ann_Check (mkFr (maskA [] [.v (.agg #[.int .i64 sv, .int .i64 sl, .slice sa san sac])] 0) 53) Try.f20 (bodyOf Try.f20) (mkFr (List.map some [.v (.agg #[.int .i64 sv, .int .i64 sl, .slice sa san sac])]) 53) = vc_Check π sv sl sa san sac := by kernel_rfl
theorem ok_Check (sv sl : Int) (sa : Option Addr) (san sac : Nat) (R : Value → PH → Prop) (s : PH) (h : vc_Check (RP Try.prog R) sv sl sa san sac s) : DCalls Try.prog 20 (List.map AV.val [.v (.agg #[.int .i64 sv, .int .i64 sl, .slice sa san sac])]).toArray s R :=
  calls_vcL (c := bodyOf Try.f20) (ann := ann_Check) la_Check (by kernel_rfl) Try.func20 rfl (by kernel_rfl) [.v (.agg #[.int .i64 sv, .int .i64 sl, .slice sa san sac])] [] (by rw [Try.ntmps20]; exact Nat.le_of_ble_eq_true rfl) (by kernel_rfl) (by rw [show Try.f20.ntmps = 53 from Try.ntmps20, eq_Check]; exact h)
/-- lintel/schema.doubled -/
def vc_doubled {W : Type} (π : Prims W) (a : Option Addr) (an ac : Nat) : W :=
  π.nw (Obj.map #[] (0 : Nat)) fun r0 =>
  π.loop [(false, [.map]), (false, [.slice]), (false, [.int .i64]), (false, [.int .i64])] ((some r0, ()), ((a, an, ac), ()), ((↑an : Int), ()), ((0 : Int), ()), ()) fun (((m2 : Option Nat), _), (((a3 : Option Addr), (n4 : Nat), (c5 : Nat)), _), ((x6 : Int), _), ((x7 : Int), _), _) again1 =>
    π.ite (decide (x7 < x6)) (
      π.guard ((0 : Int) ≤ x7 ∧ x7 < (↑n4 : Int)) <|
      π.unSome (a3) fun p8 =>
      π.ld [.int .i64, .str, .int .i64, .int .i64, .int .i64, .int .i64, .str] (p8.add (x7.toNat * (7 : Nat))) fun ((x9 : Int), (t10 : ByteArray), (x11 : Int), (x12 : Int), (x13 : Int), (x14 : Int), (t15 : ByteArray), _) =>
      π.look (TypeDesc.string) (m2) (Go.Value.string (t10)) (Go.Value.bool (false)) (false, [.bool]) fun ((b17 : Bool), _) b16 =>
      π.ite (b17) (
        π.ret (Go.Value.bool (true))
      ) (
        π.mset (TypeDesc.string) (m2) (Go.Value.string (t10)) (Go.Value.bool (true)) <|
        again1 ((m2, ()), ((a3, n4, c5), ()), (x6, ()), (IntKind.i64.wrap (x7 + (1 : Int)), ()), ())
      )
    ) (
      π.ret (Go.Value.bool (false))
    )
def ann_doubled : Ann := { draws := [], join := [], loop := [(3, [(3, 193), (7, 27), (8, 3), (9, 3)])] }
def la_doubled : LA := { ptr := [(5, 5, 0), (14, 5, 1), (18, 5, 1)], ty := [(5, 44)] }
set_option maxRecDepth 100000 in
theorem eq_doubled {W : Type} (π : Prims W) (a : Option Addr) (an ac : Nat) : bodyL π Try.prog la_doubled ann_doubled (mkFr (maskA [] [.v (.slice a an ac)] 0) 21) Try.f116 (bodyOf Try.f116) (mkFr (List.map some [.v (.slice a an ac)]) 21) = vc_doubled π a an ac := by kernel_rfl
theorem ok_doubled (a : Option Addr) (an ac : Nat) (R : Value → PH → Prop) (s : PH) (h : vc_doubled (RP Try.prog R) a an ac s) : DCalls Try.prog 116 (List.map AV.val [.v (.slice a an ac)]).toArray s R :=
  calls_vcL (c := bodyOf Try.f116) (ann := ann_doubled) la_doubled (by kernel_rfl) Try.func116 rfl (by kernel_rfl) [.v (.slice a an ac)] [] (by rw [Try.ntmps116]; exact Nat.le_of_ble_eq_true rfl) (by kernel_rfl) (by rw [show Try.f116.ntmps = 21 from Try.ntmps116, eq_doubled]; exact h)
/-- lintel/schema.public -/
def vc_public {W : Type} (π : Prims W) (t : Addr) (name : ByteArray) : W :=
  π.unSome (some t) fun p0 =>
  π.ld [.slice] (p0.add (2 : Nat)) fun (((a1 : Option Addr), (n2 : Nat), (c3 : Nat)), _) =>
  π.call (117 : Nat) #[(Go.Value.slice (a1) (n2) (c3)), (Go.Value.string (name)), (Go.Value.func (Fn.func (94 : Nat)) #[] #[])] (false, [(false, [.int .i64])]) fun (((x4 : Int), _), _) =>
  π.ite (decide (x4 ≥ (0 : Int))) (
    π.unSome (some t) fun p5 =>
    π.ld [.slice] (p5.add (2 : Nat)) fun (((a6 : Option Addr), (n7 : Nat), (c8 : Nat)), _) =>
    π.guard ((0 : Int) ≤ x4 ∧ x4 < (↑n7 : Int)) <|
    π.unSome (a6) fun p9 =>
    π.ld [.int .i64] ((p9.add (x4.toNat * (7 : Nat))).add (3 : Nat)) fun ((x10 : Int), _) =>
    π.ite (x10 != (3 : Int)) (
      π.ret (Go.Value.int (IntKind.i64) ((-1 : Int)))
    ) (
      π.ret (Go.Value.int (IntKind.i64) (x4))
    )
  ) (
    π.ret (Go.Value.int (IntKind.i64) (x4))
  )
def ann_public : Ann := { draws := [], join := [], loop := [] }
def la_public : LA := { ptr := [], ty := [] }
set_option maxRecDepth 100000 in
theorem eq_public {W : Type} (π : Prims W) (t : Addr) (name : ByteArray) : bodyL π Try.prog la_public ann_public (mkFr (maskA [] [.v (.pointer (some t)), .v (.string name)] 0) 26) Try.f126 (bodyOf Try.f126) (mkFr (List.map some [.v (.pointer (some t)), .v (.string name)]) 26) = vc_public π t name := by kernel_rfl
theorem ok_public (t : Addr) (name : ByteArray) (R : Value → PH → Prop) (s : PH) (h : vc_public (RP Try.prog R) t name s) : DCalls Try.prog 126 (List.map AV.val [.v (.pointer (some t)), .v (.string name)]).toArray s R :=
  calls_vcL (c := bodyOf Try.f126) (ann := ann_public) la_public (by kernel_rfl) Try.func126 rfl (by kernel_rfl) [.v (.pointer (some t)), .v (.string name)] [] (by rw [Try.ntmps126]; exact Nat.le_of_ble_eq_true rfl) (by kernel_rfl) (by rw [show Try.f126.ntmps = 26 from Try.ntmps126, eq_public]; exact h)
/-- lintel/schema.columns$1 -/
def vc_colsX {W : Type} (π : Prims W) (xi : Int) (xn : ByteArray) (xc : Int) (xu : Bool) (xs : Int) (p : Nat) : W :=
  π.ld [.int .i64] (Addr.mk p (0 : Nat) none) fun ((x0 : Int), _) =>
  π.ret (Go.Value.bool (xc == x0))
def ann_colsX : Ann := { draws := [], join := [], loop := [] }
def la_colsX : LA := { ptr := [(2, 2, 0), (4, 2, 2)], ty := [(2, 106)] }
set_option maxRecDepth 100000 in
theorem eq_colsX {W : Type} (π : Prims W) (xi : Int) (xn : ByteArray) (xc : Int) (xu : Bool) (xs : Int) (p : Nat) : bodyL π Try.prog la_colsX ann_colsX (mkFr (maskA [] [.v (.agg #[.int .i64 xi, .string xn, .int .i64 xc, .bool xu, .int .i64 xs]), .v (.pointer (some ⟨p, 0, none⟩))] 0) 8) Try.f120 (bodyOf Try.f120) (mkFr (List.map some [.v (.agg #[.int .i64 xi, .string xn, .int .i64 xc, .bool xu, .int .i64 xs]), .v (.pointer (some ⟨p, 0, none⟩))]) 8) = vc_colsX π xi xn xc xu xs p := by kernel_rfl
theorem ok_colsX (xi : Int) (xn : ByteArray) (xc : Int) (xu : Bool) (xs : Int) (p : Nat) (R : Value → PH → Prop) (s : PH) (h : vc_colsX (RP Try.prog R) xi xn xc xu xs p s) : DCalls Try.prog 120 (List.map AV.val [.v (.agg #[.int .i64 xi, .string xn, .int .i64 xc, .bool xu, .int .i64 xs]), .v (.pointer (some ⟨p, 0, none⟩))]).toArray s R :=
  calls_vcL (c := bodyOf Try.f120) (ann := ann_colsX) la_colsX (by kernel_rfl) Try.func120 rfl (by kernel_rfl) [.v (.agg #[.int .i64 xi, .string xn, .int .i64 xc, .bool xu, .int .i64 xs]), .v (.pointer (some ⟨p, 0, none⟩))] [] (by rw [Try.ntmps120]; exact Nat.le_of_ble_eq_true rfl) (by kernel_rfl) (by rw [show Try.f120.ntmps = 8 from Try.ntmps120, eq_colsX]; exact h)
/-- lintel/schema.columns$2 -/
def vc_colsF {W : Type} (π : Prims W) (fi : Int) (fn : ByteArray) (fc fp fs : Int) (p : Nat) : W :=
  π.ld [.int .i64] (Addr.mk p (0 : Nat) none) fun ((x0 : Int), _) =>
  π.ret (Go.Value.bool (fc == x0))
def ann_colsF : Ann := { draws := [], join := [], loop := [] }
def la_colsF : LA := { ptr := [(2, 2, 0), (4, 2, 2)], ty := [(2, 109)] }
set_option maxRecDepth 100000 in
theorem eq_colsF {W : Type} (π : Prims W) (fi : Int) (fn : ByteArray) (fc fp fs : Int) (p : Nat) : bodyL π Try.prog la_colsF ann_colsF (mkFr (maskA [] [.v (.agg #[.int .i64 fi, .string fn, .int .i64 fc, .int .i64 fp, .int .i64 fs]), .v (.pointer (some ⟨p, 0, none⟩))] 0) 8) Try.f122 (bodyOf Try.f122) (mkFr (List.map some [.v (.agg #[.int .i64 fi, .string fn, .int .i64 fc, .int .i64 fp, .int .i64 fs]), .v (.pointer (some ⟨p, 0, none⟩))]) 8) = vc_colsF π fi fn fc fp fs p := by kernel_rfl
theorem ok_colsF (fi : Int) (fn : ByteArray) (fc fp fs : Int) (p : Nat) (R : Value → PH → Prop) (s : PH) (h : vc_colsF (RP Try.prog R) fi fn fc fp fs p s) : DCalls Try.prog 122 (List.map AV.val [.v (.agg #[.int .i64 fi, .string fn, .int .i64 fc, .int .i64 fp, .int .i64 fs]), .v (.pointer (some ⟨p, 0, none⟩))]).toArray s R :=
  calls_vcL (c := bodyOf Try.f122) (ann := ann_colsF) la_colsF (by kernel_rfl) Try.func122 rfl (by kernel_rfl) [.v (.agg #[.int .i64 fi, .string fn, .int .i64 fc, .int .i64 fp, .int .i64 fs]), .v (.pointer (some ⟨p, 0, none⟩))] [] (by rw [Try.ntmps122]; exact Nat.le_of_ble_eq_true rfl) (by kernel_rfl) (by rw [show Try.f122.ntmps = 8 from Try.ntmps122, eq_colsF]; exact h)
/-- slices.IndexFunc[[]lintel/api.Index,lintel/api.Index] -/
def vc_IndexFuncXc {W : Type} (π : Prims W) (a : Option Addr) (an ac : Nat) (p : Nat) : W :=
  π.loop [(false, [.int .i64]), (false, [.int .i64])] (((↑an : Int), ()), ((0 : Int), ()), ()) fun (((x1 : Int), _), ((x2 : Int), _), _) again0 =>
    π.ite (decide (x2 < x1)) (
      π.guard ((0 : Int) ≤ x2 ∧ x2 < (↑an : Int)) <|
      π.unSome (a) fun p3 =>
      π.ld [.int .i64, .str, .int .i64, .bool, .int .i64] (p3.add (x2.toNat * (5 : Nat))) fun ((x4 : Int), (t5 : ByteArray), (x6 : Int), (b7 : Bool), (x8 : Int), _) =>
      π.call (120 : Nat) #[(Go.Value.agg #[(Go.Value.int (IntKind.i64) (x4)), (Go.Value.string (t5)), (Go.Value.int (IntKind.i64) (x6)), (Go.Value.bool (b7)), (Go.Value.int (IntKind.i64) (x8))]), (Go.Value.pointer (some (Addr.mk p (0 : Nat) none)))] (false, [(false, [.bool])]) fun (((b9 : Bool), _), _) =>
      π.ite (b9) (
        π.ret (Go.Value.int (IntKind.i64) (x2))
      ) (
        again0 ((x1, ()), (IntKind.i64.wrap (x2 + (1 : Int)), ()), ())
      )
    ) (
      π.ret (Go.Value.int (IntKind.i64) ((-1 : Int)))
    )
def ann_IndexFuncXc : Ann := { draws := [], join := [], loop := [(2, [(7, 3), (8, 3)])] }
def la_IndexFuncXc : LA := { ptr := [], ty := [] }
set_option maxRecDepth 100000 in
theorem eq_IndexFuncXc {W : Type} (π : Prims W) (a : Option Addr) (an ac : Nat) (p : Nat) : bodyL π Try.prog la_IndexFuncXc ann_IndexFuncXc (mkFr (maskA [] [.v (.slice a an ac), .v (.func (.func 120) #[] #[.pointer (some ⟨p, 0, none⟩)])] 0) 19) Try.f105 (bodyOf Try.f105) (mkFr (List.map some [.v (.slice a an ac), .v (.func (.func 120) #[] #[.pointer (some ⟨p, 0, none⟩)])]) 19) = vc_IndexFuncXc π a an ac p := by kernel_rfl
theorem ok_IndexFuncXc (a : Option Addr) (an ac : Nat) (p : Nat) (R : Value → PH → Prop) (s : PH) (h : vc_IndexFuncXc (RP Try.prog R) a an ac p s) : DCalls Try.prog 105 (List.map AV.val [.v (.slice a an ac), .v (.func (.func 120) #[] #[.pointer (some ⟨p, 0, none⟩)])]).toArray s R :=
  calls_vcL (c := bodyOf Try.f105) (ann := ann_IndexFuncXc) la_IndexFuncXc (by kernel_rfl) Try.func105 rfl (by kernel_rfl) [.v (.slice a an ac), .v (.func (.func 120) #[] #[.pointer (some ⟨p, 0, none⟩)])] [] (by rw [Try.ntmps105]; exact Nat.le_of_ble_eq_true rfl) (by kernel_rfl) (by rw [show Try.f105.ntmps = 19 from Try.ntmps105, eq_IndexFuncXc]; exact h)
/-- slices.IndexFunc[[]lintel/api.Foreign,lintel/api.Foreign] -/
def vc_IndexFuncFc {W : Type} (π : Prims W) (a : Option Addr) (an ac : Nat) (p : Nat) : W :=
  π.loop [(false, [.int .i64]), (false, [.int .i64])] (((↑an : Int), ()), ((0 : Int), ()), ()) fun (((x1 : Int), _), ((x2 : Int), _), _) again0 =>
    π.ite (decide (x2 < x1)) (
      π.guard ((0 : Int) ≤ x2 ∧ x2 < (↑an : Int)) <|
      π.unSome (a) fun p3 =>
      π.ld [.int .i64, .str, .int .i64, .int .i64, .int .i64] (p3.add (x2.toNat * (5 : Nat))) fun ((x4 : Int), (t5 : ByteArray), (x6 : Int), (x7 : Int), (x8 : Int), _) =>
      π.call (122 : Nat) #[(Go.Value.agg #[(Go.Value.int (IntKind.i64) (x4)), (Go.Value.string (t5)), (Go.Value.int (IntKind.i64) (x6)), (Go.Value.int (IntKind.i64) (x7)), (Go.Value.int (IntKind.i64) (x8))]), (Go.Value.pointer (some (Addr.mk p (0 : Nat) none)))] (false, [(false, [.bool])]) fun (((b9 : Bool), _), _) =>
      π.ite (b9) (
        π.ret (Go.Value.int (IntKind.i64) (x2))
      ) (
        again0 ((x1, ()), (IntKind.i64.wrap (x2 + (1 : Int)), ()), ())
      )
    ) (
      π.ret (Go.Value.int (IntKind.i64) ((-1 : Int)))
    )
def ann_IndexFuncFc : Ann := { draws := [], join := [], loop := [(2, [(7, 3), (8, 3)])] }
def la_IndexFuncFc : LA := { ptr := [], ty := [] }
set_option maxRecDepth 100000 in
theorem eq_IndexFuncFc {W : Type} (π : Prims W) (a : Option Addr) (an ac : Nat) (p : Nat) : bodyL π Try.prog la_IndexFuncFc ann_IndexFuncFc (mkFr (maskA [] [.v (.slice a an ac), .v (.func (.func 122) #[] #[.pointer (some ⟨p, 0, none⟩)])] 0) 19) Try.f106 (bodyOf Try.f106) (mkFr (List.map some [.v (.slice a an ac), .v (.func (.func 122) #[] #[.pointer (some ⟨p, 0, none⟩)])]) 19) = vc_IndexFuncFc π a an ac p := by kernel_rfl
theorem ok_IndexFuncFc (a : Option Addr) (an ac : Nat) (p : Nat) (R : Value → PH → Prop) (s : PH) (h : vc_IndexFuncFc (RP Try.prog R) a an ac p s) : DCalls Try.prog 106 (List.map AV.val [.v (.slice a an ac), .v (.func (.func 122) #[] #[.pointer (some ⟨p, 0, none⟩)])]).toArray s R :=
  calls_vcL (c := bodyOf Try.f106) (ann := ann_IndexFuncFc) la_IndexFuncFc (by kernel_rfl) Try.func106 rfl (by kernel_rfl) [.v (.slice a an ac), .v (.func (.func 122) #[] #[.pointer (some ⟨p, 0, none⟩)])] [] (by rw [Try.ntmps106]; exact Nat.le_of_ble_eq_true rfl) (by kernel_rfl) (by rw [show Try.f106.ntmps = 19 from Try.ntmps106, eq_IndexFuncFc]; exact h)
/-- slices.ContainsFunc[[]lintel/api.Index,lintel/api.Index] -/
def vc_ContainsX {W : Type} (π : Prims W) (a : Option Addr) (an ac : Nat) (p : Nat) : W :=
  π.call (105 : Nat) #[(Go.Value.slice (a) (an) (ac)), (Go.Value.func (Fn.func (120 : Nat)) #[] #[(Go.Value.pointer (some (Addr.mk p (0 : Nat) none)))])] (false, [(false, [.int .i64])]) fun (((x0 : Int), _), _) =>
  π.ret (Go.Value.bool (decide (x0 ≥ (0 : Int))))
def ann_ContainsX : Ann := { draws := [], join := [], loop := [] }
def la_ContainsX : LA := { ptr := [], ty := [] }
set_option maxRecDepth 100000 in
theorem eq_ContainsX {W : Type} (π : Prims W) (a : Option Addr) (an ac : Nat) (p : Nat) : bodyL π Try.prog la_ContainsX ann_ContainsX (mkFr (maskA [] [.v (.slice a an ac), .v (.func (.func 120) #[] #[.pointer (some ⟨p, 0, none⟩)])] 0) 9) Try.f119 (bodyOf Try.f119) (mkFr (List.map some [.v (.slice a an ac), .v (.func (.func 120) #[] #[.pointer (some ⟨p, 0, none⟩)])]) 9) = vc_ContainsX π a an ac p := by kernel_rfl
theorem ok_ContainsX (a : Option Addr) (an ac : Nat) (p : Nat) (R : Value → PH → Prop) (s : PH) (h : vc_ContainsX (RP Try.prog R) a an ac p s) : DCalls Try.prog 119 (List.map AV.val [.v (.slice a an ac), .v (.func (.func 120) #[] #[.pointer (some ⟨p, 0, none⟩)])]).toArray s R :=
  calls_vcL (c := bodyOf Try.f119) (ann := ann_ContainsX) la_ContainsX (by kernel_rfl) Try.func119 rfl (by kernel_rfl) [.v (.slice a an ac), .v (.func (.func 120) #[] #[.pointer (some ⟨p, 0, none⟩)])] [] (by rw [Try.ntmps119]; exact Nat.le_of_ble_eq_true rfl) (by kernel_rfl) (by rw [show Try.f119.ntmps = 9 from Try.ntmps119, eq_ContainsX]; exact h)
/-- slices.ContainsFunc[[]lintel/api.Foreign,lintel/api.Foreign] -/
def vc_ContainsF {W : Type} (π : Prims W) (a : Option Addr) (an ac : Nat) (p : Nat) : W :=
  π.call (106 : Nat) #[(Go.Value.slice (a) (an) (ac)), (Go.Value.func (Fn.func (122 : Nat)) #[] #[(Go.Value.pointer (some (Addr.mk p (0 : Nat) none)))])] (false, [(false, [.int .i64])]) fun (((x0 : Int), _), _) =>
  π.ret (Go.Value.bool (decide (x0 ≥ (0 : Int))))
def ann_ContainsF : Ann := { draws := [], join := [], loop := [] }
def la_ContainsF : LA := { ptr := [], ty := [] }
set_option maxRecDepth 100000 in
theorem eq_ContainsF {W : Type} (π : Prims W) (a : Option Addr) (an ac : Nat) (p : Nat) : bodyL π Try.prog la_ContainsF ann_ContainsF (mkFr (maskA [] [.v (.slice a an ac), .v (.func (.func 122) #[] #[.pointer (some ⟨p, 0, none⟩)])] 0) 9) Try.f121 (bodyOf Try.f121) (mkFr (List.map some [.v (.slice a an ac), .v (.func (.func 122) #[] #[.pointer (some ⟨p, 0, none⟩)])]) 9) = vc_ContainsF π a an ac p := by kernel_rfl
theorem ok_ContainsF (a : Option Addr) (an ac : Nat) (p : Nat) (R : Value → PH → Prop) (s : PH) (h : vc_ContainsF (RP Try.prog R) a an ac p s) : DCalls Try.prog 121 (List.map AV.val [.v (.slice a an ac), .v (.func (.func 122) #[] #[.pointer (some ⟨p, 0, none⟩)])]).toArray s R :=
  calls_vcL (c := bodyOf Try.f121) (ann := ann_ContainsF) la_ContainsF (by kernel_rfl) Try.func121 rfl (by kernel_rfl) [.v (.slice a an ac), .v (.func (.func 122) #[] #[.pointer (some ⟨p, 0, none⟩)])] [] (by rw [Try.ntmps121]; exact Nat.le_of_ble_eq_true rfl) (by kernel_rfl) (by rw [show Try.f121.ntmps = 9 from Try.ntmps121, eq_ContainsF]; exact h)
/-- lintel/schema.columns$3 -/
def vc_stateC {W : Type} (π : Prims W) (a : Addr) : W :=
  π.unSome (some a) fun p0 =>
  π.ret (Go.Value.pointer (some (p0.add (3 : Nat))))
def ann_stateC : Ann := { draws := [], join := [], loop := [] }
def la_stateC : LA := { ptr := [], ty := [] }
set_option maxRecDepth 100000 in
theorem eq_stateC {W : Type} (π : Prims W) (a : Addr) : bodyL π Try.prog la_stateC ann_stateC (mkFr (maskA [] [.v (.pointer (some a))] 0) 6) Try.f124 (bodyOf Try.f124) (mkFr (List.map some [.v (.pointer (some a))]) 6) = vc_stateC π a := by kernel_rfl
theorem ok_stateC (a : Addr) (R : Value → PH → Prop) (s : PH) (h : vc_stateC (RP Try.prog R) a s) : DCalls Try.prog 124 (List.map AV.val [.v (.pointer (some a))]).toArray s R :=
  calls_vcL (c := bodyOf Try.f124) (ann := ann_stateC) la_stateC (by kernel_rfl) Try.func124 rfl (by kernel_rfl) [.v (.pointer (some a))] [] (by rw [Try.ntmps124]; exact Nat.le_of_ble_eq_true rfl) (by kernel_rfl) (by rw [show Try.f124.ntmps = 6 from Try.ntmps124, eq_stateC]; exact h)
/-- lintel/schema.indexes$1 -/
def vc_stateX {W : Type} (π : Prims W) (a : Addr) : W :=
  π.unSome (some a) fun p0 =>
  π.ret (Go.Value.pointer (some (p0.add (4 : Nat))))
def ann_stateX : Ann := { draws := [], join := [], loop := [] }
def la_stateX : LA := { ptr := [], ty := [] }
set_option maxRecDepth 100000 in
theorem eq_stateX {W : Type} (π : Prims W) (a : Addr) : bodyL π Try.prog la_stateX ann_stateX (mkFr (maskA [] [.v (.pointer (some a))] 0) 6) Try.f128 (bodyOf Try.f128) (mkFr (List.map some [.v (.pointer (some a))]) 6) = vc_stateX π a := by kernel_rfl
theorem ok_stateX (a : Addr) (R : Value → PH → Prop) (s : PH) (h : vc_stateX (RP Try.prog R) a s) : DCalls Try.prog 128 (List.map AV.val [.v (.pointer (some a))]).toArray s R :=
  calls_vcL (c := bodyOf Try.f128) (ann := ann_stateX) la_stateX (by kernel_rfl) Try.func128 rfl (by kernel_rfl) [.v (.pointer (some a))] [] (by rw [Try.ntmps128]; exact Nat.le_of_ble_eq_true rfl) (by kernel_rfl) (by rw [show Try.f128.ntmps = 6 from Try.ntmps128, eq_stateX]; exact h)
/-- lintel/schema.foreigns$1 -/
def vc_stateF {W : Type} (π : Prims W) (a : Addr) : W :=
  π.unSome (some a) fun p0 =>
  π.ret (Go.Value.pointer (some (p0.add (4 : Nat))))
def ann_stateF : Ann := { draws := [], join := [], loop := [] }
def la_stateF : LA := { ptr := [], ty := [] }
set_option maxRecDepth 100000 in
theorem eq_stateF {W : Type} (π : Prims W) (a : Addr) : bodyL π Try.prog la_stateF ann_stateF (mkFr (maskA [] [.v (.pointer (some a))] 0) 6) Try.f131 (bodyOf Try.f131) (mkFr (List.map some [.v (.pointer (some a))]) 6) = vc_stateF π a := by kernel_rfl
theorem ok_stateF (a : Addr) (R : Value → PH → Prop) (s : PH) (h : vc_stateF (RP Try.prog R) a s) : DCalls Try.prog 131 (List.map AV.val [.v (.pointer (some a))]).toArray s R :=
  calls_vcL (c := bodyOf Try.f131) (ann := ann_stateF) la_stateF (by kernel_rfl) Try.func131 rfl (by kernel_rfl) [.v (.pointer (some a))] [] (by rw [Try.ntmps131]; exact Nat.le_of_ble_eq_true rfl) (by kernel_rfl) (by rw [show Try.f131.ntmps = 6 from Try.ntmps131, eq_stateF]; exact h)
/-- slices.Delete[[]lintel/api.Column,lintel/api.Column] -/
def vc_DeleteC {W : Type} (π : Prims W) (a : Option Addr) (an ac : Nat) (i j : Int) : W :=
  π.guard ((0 : Int) ≤ i ∧ i ≤ j ∧ j ≤ (↑an : Int) ∧ (↑an : Int) ≤ (↑ac : Int)) <|
  π.ite (i == j) (
    π.ret (Go.Value.slice (a) (an) (ac))
  ) (
    π.guard ((0 : Int) ≤ (0 : Int) ∧ (0 : Int) ≤ i ∧ i ≤ (↑ac : Int)) <|
    π.guard ((0 : Int) ≤ j ∧ j ≤ (↑an : Int) ∧ (↑an : Int) ≤ (↑ac : Int)) <|
    π.app (44 : Nat) (7 : Nat) (72 : Nat) [(Go.Value.int (IntKind.i64) ((0 : Int))), (Go.Value.string (ByteArray.mk #[])), (Go.Value.int (IntKind.i64) ((0 : Int))), (Go.Value.int (IntKind.i64) ((0 : Int))), (Go.Value.int (IntKind.i64) ((0 : Int))), (Go.Value.int (IntKind.i64) ((0 : Int))), (Go.Value.string (ByteArray.mk #[]))] (if ac = (0 : Nat) then a else Option.map (fun x => x.add (0 : Nat)) a) (i.toNat - (0 : Nat)) (ac - (0 : Nat)) (Src.sl (if ac = j.toNat then a else Option.map (fun x => x.add (j.toNat * (7 : Nat))) a) ((↑an : Int).toNat - j.toNat)) fun a0 n1 c2 =>
    π.guard ((0 : Int) ≤ (↑n1 : Int) ∧ (↑n1 : Int) ≤ (↑an : Int) ∧ (↑an : Int) ≤ (↑c2 : Int)) <|
    π.clr [(Go.Value.int (IntKind.i64) ((0 : Int))), (Go.Value.string (ByteArray.mk #[])), (Go.Value.int (IntKind.i64) ((0 : Int))), (Go.Value.int (IntKind.i64) ((0 : Int))), (Go.Value.int (IntKind.i64) ((0 : Int))), (Go.Value.int (IntKind.i64) ((0 : Int))), (Go.Value.string (ByteArray.mk #[]))] (if c2 = (↑n1 : Int).toNat then a0 else Option.map (fun x => x.add ((↑n1 : Int).toNat * (7 : Nat))) a0) ((↑an : Int).toNat - (↑n1 : Int).toNat) <|
    π.ret (Go.Value.slice (a0) (n1) (c2))
  )
def ann_DeleteC : Ann := { draws := [(5, { A := [0, 1, 2, 3, 4, 5] })], join := [], loop := [] }
def la_DeleteC : LA := { ptr := [], ty := [] }
set_option maxRecDepth 100000 in
theorem eq_DeleteC {W : Type} (π : Prims W) (a : Option Addr) (an ac : Nat) (i j : Int) : bodyL π Try.prog la_DeleteC ann_DeleteC (mkFr (maskA [0] [.v (.slice a an ac), .v (.int .i64 i), .v (.int .i64 j)] 0) 33) Try.f141 (bodyOf Try.f141) (mkFr (List.map some [.v (.slice a an ac), .v (.int .i64 i), .v (.int .i64 j)]) 33) = vc_DeleteC π a an ac i j := by kernel_rfl
theorem ok_DeleteC (a : Option Addr) (an ac : Nat) (i j : Int) (R : Value → PH → Prop) (s : PH) (h : vc_DeleteC (RP Try.prog R) a an ac i j s) : DCalls Try.prog 141 (List.map AV.val [.v (.slice a an ac), .v (.int .i64 i), .v (.int .i64 j)]).toArray s R :=
  calls_vcL (c := bodyOf Try.f141) (ann := ann_DeleteC) la_DeleteC (by kernel_rfl) Try.func141 rfl (by kernel_rfl) [.v (.slice a an ac), .v (.int .i64 i), .v (.int .i64 j)] [0] (by rw [Try.ntmps141]; exact Nat.le_of_ble_eq_true rfl) (by kernel_rfl) (by rw [show Try.f141.ntmps = 33 from Try.ntmps141, eq_DeleteC]; exact h)
/-- slices.Delete[[]lintel/api.Index,lintel/api.Index] -/
def vc_DeleteX {W : Type} (π : Prims W) (a : Option Addr) (an ac : Nat) (i j : Int) : W :=
  π.guard ((0 : Int) ≤ i ∧ i ≤ j ∧ j ≤ (↑an : Int) ∧ (↑an : Int) ≤ (↑ac : Int)) <|
  π.ite (i == j) (
    π.ret (Go.Value.slice (a) (an) (ac))
  ) (
    π.guard ((0 : Int) ≤ (0 : Int) ∧ (0 : Int) ≤ i ∧ i ≤ (↑ac : Int)) <|
    π.guard ((0 : Int) ≤ j ∧ j ≤ (↑an : Int) ∧ (↑an : Int) ≤ (↑ac : Int)) <|
    π.app (106 : Nat) (5 : Nat) (48 : Nat) [(Go.Value.int (IntKind.i64) ((0 : Int))), (Go.Value.string (ByteArray.mk #[])), (Go.Value.int (IntKind.i64) ((0 : Int))), (Go.Value.bool (false)), (Go.Value.int (IntKind.i64) ((0 : Int)))] (if ac = (0 : Nat) then a else Option.map (fun x => x.add (0 : Nat)) a) (i.toNat - (0 : Nat)) (ac - (0 : Nat)) (Src.sl (if ac = j.toNat then a else Option.map (fun x => x.add (j.toNat * (5 : Nat))) a) ((↑an : Int).toNat - j.toNat)) fun a0 n1 c2 =>
    π.guard ((0 : Int) ≤ (↑n1 : Int) ∧ (↑n1 : Int) ≤ (↑an : Int) ∧ (↑an : Int) ≤ (↑c2 : Int)) <|
    π.clr [(Go.Value.int (IntKind.i64) ((0 : Int))), (Go.Value.string (ByteArray.mk #[])), (Go.Value.int (IntKind.i64) ((0 : Int))), (Go.Value.bool (false)), (Go.Value.int (IntKind.i64) ((0 : Int)))] (if c2 = (↑n1 : Int).toNat then a0 else Option.map (fun x => x.add ((↑n1 : Int).toNat * (5 : Nat))) a0) ((↑an : Int).toNat - (↑n1 : Int).toNat) <|
    π.ret (Go.Value.slice (a0) (n1) (c2))
  )
def ann_DeleteX : Ann := { draws := [(5, { A := [0, 1, 2, 3, 4, 5] })], join := [], loop := [] }
def la_DeleteX : LA := { ptr := [], ty := [] }
set_option maxRecDepth 100000 in
theorem eq_DeleteX {W : Type} (π : Prims W) (a : Option Addr) (an ac : Nat) (i j : Int) : bodyL π Try.prog la_DeleteX ann_DeleteX (mkFr (maskA [0] [.v (.slice a an ac), .v (.int .i64 i), .v (.int .i64 j)] 0) 33) Try.f143 (bodyOf Try.f143) (mkFr (List.map some [.v (.slice a an ac), .v (.int .i64 i), .v (.int .i64 j)]) 33) = vc_DeleteX π a an ac i j := by kernel_rfl
theorem ok_DeleteX (a : Option Addr) (an ac : Nat) (i j : Int) (R : Value → PH → Prop) (s : PH) (h : vc_DeleteX (RP Try.prog R) a an ac i j s) : DCalls Try.prog 143 (List.map AV.val [.v (.slice a an ac), .v (.int .i64 i), .v (.int .i64 j)]).toArray s R :=
  calls_vcL (c := bodyOf Try.f143) (ann := ann_DeleteX) la_DeleteX (by kernel_rfl) Try.func143 rfl (by kernel_rfl) [.v (.slice a an ac), .v (.int .i64 i), .v (.int .i64 j)] [0] (by rw [Try.ntmps143]; exact Nat.le_of_ble_eq_true rfl) (by kernel_rfl) (by rw [show Try.f143.ntmps = 33 from Try.ntmps143, eq_DeleteX]; exact h)
/-- slices.Delete[[]lintel/api.Foreign,lintel/api.Foreign] -/
def vc_DeleteF {W : Type} (π : Prims W) (a : Option Addr) (an ac : Nat) (i j : Int) : W :=
  π.guard ((0 : Int) ≤ i ∧ i ≤ j ∧ j ≤ (↑an : Int) ∧ (↑an : Int) ≤ (↑ac : Int)) <|
  π.ite (i == j) (
    π.ret (Go.Value.slice (a) (an) (ac))
  ) (
    π.guard ((0 : Int) ≤ (0 : Int) ∧ (0 : Int) ≤ i ∧ i ≤ (↑ac : Int)) <|
    π.guard ((0 : Int) ≤ j ∧ j ≤ (↑an : Int) ∧ (↑an : Int) ≤ (↑ac : Int)) <|
    π.app (109 : Nat) (5 : Nat) (48 : Nat) [(Go.Value.int (IntKind.i64) ((0 : Int))), (Go.Value.string (ByteArray.mk #[])), (Go.Value.int (IntKind.i64) ((0 : Int))), (Go.Value.int (IntKind.i64) ((0 : Int))), (Go.Value.int (IntKind.i64) ((0 : Int)))] (if ac = (0 : Nat) then a else Option.map (fun x => x.add (0 : Nat)) a) (i.toNat - (0 : Nat)) (ac - (0 : Nat)) (Src.sl (if ac = j.toNat then a else Option.map (fun x => x.add (j.toNat * (5 : Nat))) a) ((↑an : Int).toNat - j.toNat)) fun a0 n1 c2 =>
    π.guard ((0 : Int) ≤ (↑n1 : Int) ∧ (↑n1 : Int) ≤ (↑an : Int) ∧ (↑an : Int) ≤ (↑c2 : Int)) <|
    π.clr [(Go.Value.int (IntKind.i64) ((0 : Int))), (Go.Value.string (ByteArray.mk #[])), (Go.Value.int (IntKind.i64) ((0 : Int))), (Go.Value.int (IntKind.i64) ((0 : Int))), (Go.Value.int (IntKind.i64) ((0 : Int)))] (if c2 = (↑n1 : Int).toNat then a0 else Option.map (fun x => x.add ((↑n1 : Int).toNat * (5 : Nat))) a0) ((↑an : Int).toNat - (↑n1 : Int).toNat) <|
    π.ret (Go.Value.slice (a0) (n1) (c2))
  )
def ann_DeleteF : Ann := { draws := [(5, { A := [0, 1, 2, 3, 4, 5] })], join := [], loop := [] }
def la_DeleteF : LA := { ptr := [], ty := [] }
set_option maxRecDepth 100000 in
theorem eq_DeleteF {W : Type} (π : Prims W) (a : Option Addr) (an ac : Nat) (i j : Int) : bodyL π Try.prog la_DeleteF ann_DeleteF (mkFr (maskA [0] [.v (.slice a an ac), .v (.int .i64 i), .v (.int .i64 j)] 0) 33) Try.f145 (bodyOf Try.f145) (mkFr (List.map some [.v (.slice a an ac), .v (.int .i64 i), .v (.int .i64 j)]) 33) = vc_DeleteF π a an ac i j := by kernel_rfl
theorem ok_DeleteF (a : Option Addr) (an ac : Nat) (i j : Int) (R : Value → PH → Prop) (s : PH) (h : vc_DeleteF (RP Try.prog R) a an ac i j s) : DCalls Try.prog 145 (List.map AV.val [.v (.slice a an ac), .v (.int .i64 i), .v (.int .i64 j)]).toArray s R :=
  calls_vcL (c := bodyOf Try.f145) (ann := ann_DeleteF) la_DeleteF (by kernel_rfl) Try.func145 rfl (by kernel_rfl) [.v (.slice a an ac), .v (.int .i64 i), .v (.int .i64 j)] [0] (by rw [Try.ntmps145]; exact Nat.le_of_ble_eq_true rfl) (by kernel_rfl) (by rw [show Try.f145.ntmps = 33 from Try.ntmps145, eq_DeleteF]; exact h)
/-- lintel/schema.place[lintel/api.Column] -/
def vc_placeC {W : Type} (π : Prims W) (l : Addr) (i state : Int) : W :=
  π.ite (state == (0 : Int)) (
    π.unSome (some l) fun p0 =>
    π.ld [.slice] (p0) fun (((a1 : Option Addr), (n2 : Nat), (c3 : Nat)), _) =>
    π.call (141 : Nat) #[(Go.Value.slice (a1) (n2) (c3)), (Go.Value.int (IntKind.i64) (i)), (Go.Value.int (IntKind.i64) (IntKind.i64.wrap (i + (1 : Int))))] (false, [(false, [.slice])]) fun ((((a4 : Option Addr), (n5 : Nat), (c6 : Nat)), _), _) =>
    π.unSome (some l) fun p7 =>
    π.st (p7) [(Go.Value.slice (a4) (n5) (c6))] <|
    π.ret (Go.Value.tuple #[])
  ) (
    π.unSome (some l) fun p8 =>
    π.ld [.slice] (p8) fun (((a9 : Option Addr), (n10 : Nat), (c11 : Nat)), _) =>
    π.guard ((0 : Int) ≤ i ∧ i < (↑n10 : Int)) <|
    π.unSome (a9) fun p12 =>
    π.call (124 : Nat) #[(Go.Value.pointer (some (p12.add (i.toNat * (7 : Nat)))))] (false, [(false, [.ptr])]) fun ((p13, _), _) =>
    π.unSome (p13) fun p14 =>
    π.st (p14) [(Go.Value.int (IntKind.i64) (state))] <|
    π.ret (Go.Value.tuple #[])
  )
def ann_placeC : Ann := { draws := [], join := [], loop := [] }
def la_placeC : LA := { ptr := [], ty := [] }
set_option maxRecDepth 100000 in
theorem eq_placeC {W : Type} (π : Prims W) (l : Addr) (i state : Int) : bodyL π Try.prog la_placeC ann_placeC (mkFr (maskA [] [.v (.pointer (some l)), .v (.int .i64 i), .v (.int .i64 state), .v (.func (.func 124) #[] #[])] 0) 28) Try.f123 (bodyOf Try.f123) (mkFr (List.map some [.v (.pointer (some l)), .v (.int .i64 i), .v (.int .i64 state), .v (.func (.func 124) #[] #[])]) 28) = vc_placeC π l i state := by kernel_rfl
theorem ok_placeC (l : Addr) (i state : Int) (R : Value → PH → Prop) (s : PH) (h : vc_placeC (RP Try.prog R) l i state s) : DCalls Try.prog 123 (List.map AV.val [.v (.pointer (some l)), .v (.int .i64 i), .v (.int .i64 state), .v (.func (.func 124) #[] #[])]).toArray s R :=
  calls_vcL (c := bodyOf Try.f123) (ann := ann_placeC) la_placeC (by kernel_rfl) Try.func123 rfl (by kernel_rfl) [.v (.pointer (some l)), .v (.int .i64 i), .v (.int .i64 state), .v (.func (.func 124) #[] #[])] [] (by rw [Try.ntmps123]; exact Nat.le_of_ble_eq_true rfl) (by kernel_rfl) (by rw [show Try.f123.ntmps = 28 from Try.ntmps123, eq_placeC]; exact h)
/-- lintel/schema.place[lintel/api.Index] -/
def vc_placeX {W : Type} (π : Prims W) (l : Addr) (i state : Int) : W :=
  π.ite (state == (0 : Int)) (
    π.unSome (some l) fun p0 =>
    π.ld [.slice] (p0) fun (((a1 : Option Addr), (n2 : Nat), (c3 : Nat)), _) =>
    π.call (143 : Nat) #[(Go.Value.slice (a1) (n2) (c3)), (Go.Value.int (IntKind.i64) (i)), (Go.Value.int (IntKind.i64) (IntKind.i64.wrap (i + (1 : Int))))] (false, [(false, [.slice])]) fun ((((a4 : Option Addr), (n5 : Nat), (c6 : Nat)), _), _) =>
    π.unSome (some l) fun p7 =>
    π.st (p7) [(Go.Value.slice (a4) (n5) (c6))] <|
    π.ret (Go.Value.tuple #[])
  ) (
    π.unSome (some l) fun p8 =>
    π.ld [.slice] (p8) fun (((a9 : Option Addr), (n10 : Nat), (c11 : Nat)), _) =>
    π.guard ((0 : Int) ≤ i ∧ i < (↑n10 : Int)) <|
    π.unSome (a9) fun p12 =>
    π.call (128 : Nat) #[(Go.Value.pointer (some (p12.add (i.toNat * (5 : Nat)))))] (false, [(false, [.ptr])]) fun ((p13, _), _) =>
    π.unSome (p13) fun p14 =>
    π.st (p14) [(Go.Value.int (IntKind.i64) (state))] <|
    π.ret (Go.Value.tuple #[])
  )
def ann_placeX : Ann := { draws := [], join := [], loop := [] }
def la_placeX : LA := { ptr := [], ty := [] }
set_option maxRecDepth 100000 in
theorem eq_placeX {W : Type} (π : Prims W) (l : Addr) (i state : Int) : bodyL π Try.prog la_placeX ann_placeX (mkFr (maskA [] [.v (.pointer (some l)), .v (.int .i64 i), .v (.int .i64 state), .v (.func (.func 128) #[] #[])] 0) 28) Try.f127 (bodyOf Try.f127) (mkFr (List.map some [.v (.pointer (some l)), .v (.int .i64 i), .v (.int .i64 state), .v (.func (.func 128) #[] #[])]) 28) = vc_placeX π l i state := by kernel_rfl
theorem ok_placeX (l : Addr) (i state : Int) (R : Value → PH → Prop) (s : PH) (h : vc_placeX (RP Try.prog R) l i state s) : DCalls Try.prog 127 (List.map AV.val [.v (.pointer (some l)), .v (.int .i64 i), .v (.int .i64 state), .v (.func (.func 128) #[] #[])]).toArray s R :=
  calls_vcL (c := bodyOf Try.f127) (ann := ann_placeX) la_placeX (by kernel_rfl) Try.func127 rfl (by kernel_rfl) [.v (.pointer (some l)), .v (.int .i64 i), .v (.int .i64 state), .v (.func (.func 128) #[] #[])] [] (by rw [Try.ntmps127]; exact Nat.le_of_ble_eq_true rfl) (by kernel_rfl) (by rw [show Try.f127.ntmps = 28 from Try.ntmps127, eq_placeX]; exact h)
/-- lintel/schema.place[lintel/api.Foreign] -/
def vc_placeF {W : Type} (π : Prims W) (l : Addr) (i state : Int) : W :=
  π.ite (state == (0 : Int)) (
    π.unSome (some l) fun p0 =>
    π.ld [.slice] (p0) fun (((a1 : Option Addr), (n2 : Nat), (c3 : Nat)), _) =>
    π.call (145 : Nat) #[(Go.Value.slice (a1) (n2) (c3)), (Go.Value.int (IntKind.i64) (i)), (Go.Value.int (IntKind.i64) (IntKind.i64.wrap (i + (1 : Int))))] (false, [(false, [.slice])]) fun ((((a4 : Option Addr), (n5 : Nat), (c6 : Nat)), _), _) =>
    π.unSome (some l) fun p7 =>
    π.st (p7) [(Go.Value.slice (a4) (n5) (c6))] <|
    π.ret (Go.Value.tuple #[])
  ) (
    π.unSome (some l) fun p8 =>
    π.ld [.slice] (p8) fun (((a9 : Option Addr), (n10 : Nat), (c11 : Nat)), _) =>
    π.guard ((0 : Int) ≤ i ∧ i < (↑n10 : Int)) <|
    π.unSome (a9) fun p12 =>
    π.call (131 : Nat) #[(Go.Value.pointer (some (p12.add (i.toNat * (5 : Nat)))))] (false, [(false, [.ptr])]) fun ((p13, _), _) =>
    π.unSome (p13) fun p14 =>
    π.st (p14) [(Go.Value.int (IntKind.i64) (state))] <|
    π.ret (Go.Value.tuple #[])
  )
def ann_placeF : Ann := { draws := [], join := [], loop := [] }
def la_placeF : LA := { ptr := [], ty := [] }
set_option maxRecDepth 100000 in
theorem eq_placeF {W : Type} (π : Prims W) (l : Addr) (i state : Int) : bodyL π Try.prog la_placeF ann_placeF (mkFr (maskA [] [.v (.pointer (some l)), .v (.int .i64 i), .v (.int .i64 state), .v (.func (.func 131) #[] #[])] 0) 28) Try.f130 (bodyOf Try.f130) (mkFr (List.map some [.v (.pointer (some l)), .v (.int .i64 i), .v (.int .i64 state), .v (.func (.func 131) #[] #[])]) 28) = vc_placeF π l i state := by kernel_rfl
theorem ok_placeF (l : Addr) (i state : Int) (R : Value → PH → Prop) (s : PH) (h : vc_placeF (RP Try.prog R) l i state s) : DCalls Try.prog 130 (List.map AV.val [.v (.pointer (some l)), .v (.int .i64 i), .v (.int .i64 state), .v (.func (.func 131) #[] #[])]).toArray s R :=
  calls_vcL (c := bodyOf Try.f130) (ann := ann_placeF) la_placeF (by kernel_rfl) Try.func130 rfl (by kernel_rfl) [.v (.pointer (some l)), .v (.int .i64 i), .v (.int .i64 state), .v (.func (.func 131) #[] #[])] [] (by rw [Try.ntmps130]; exact Nat.le_of_ble_eq_true rfl) (by kernel_rfl) (by rw [show Try.f130.ntmps = 28 from Try.ntmps130, eq_placeF]; exact h)
/-- lintel/schema.create -/
def vc_create {W : Type} (π : Prims W) (b : Nat) (dk : Int) (dt dn dc dp : ByteArray) (du : Bool) (dy vk vn : Int) (vs : ByteArray) (da : Option Addr) (dan dac : Nat) (state there : Int) : W :=
  π.call (91 : Nat) #[(Go.Value.string (dt))] (false, [(false, [.bool])]) fun (((b0 : Bool), _), _) =>
  π.loop [(true, [.int .i64, .str, .str, .str, .str, .bool, .int .i64, .int .i64, .int .i64, .str, .slice]), (false, [.bool]), (false, [.bool]), (false, [.slice]), (false, [.int .i64]), (false, [.int .i64])] ((dk, dt, dn, dc, dp, du, dy, vk, vn, vs, (da, dan, dac), ()), (b0, ()), (true, ()), ((da, dan, dac), ()), ((↑dan : Int), ()), ((0 : Int), ()), ()) fun (((x2 : Int), (t3 : ByteArray), (t4 : ByteArray), (t5 : ByteArray), (t6 : ByteArray), (b7 : Bool), (x8 : Int), (x9 : Int), (x10 : Int), (t11 : ByteArray), ((a12 : Option Addr), (n13 : Nat), (c14 : Nat)), _), ((b15 : Bool), _), ((b16 : Bool), _), (((a17 : Option Addr), (n18 : Nat), (c19 : Nat)), _), ((x20 : Int), _), ((x21 : Int), _), _) again1 =>
    π.ite (decide (x21 < x20)) (
      π.guard ((0 : Int) ≤ x21 ∧ x21 < (↑n18 : Int)) <|
      π.unSome (a17) fun p22 =>
      π.ld [.int .i64, .str, .int .i64, .int .i64, .int .i64, .int .i64, .str] (p22.add (x21.toNat * (7 : Nat))) fun ((x23 : Int), (t24 : ByteArray), (x25 : Int), (x26 : Int), (x27 : Int), (x28 : Int), (t29 : ByteArray), _) =>
      π.ite (b15) (
        π.call (91 : Nat) #[(Go.Value.string (t24))] (false, [(false, [.bool])]) fun (((b30 : Bool), _), _) =>
        π.ite (b16) (
          π.call (100 : Nat) #[(Go.Value.int (IntKind.i64) (x25))] (false, [(false, [.bool])]) fun (((b31 : Bool), _), _) =>
          again1 ((x2, t3, t4, t5, t6, b7, x8, x9, x10, t11, (a12, n13, c14), ()), (b30, ()), (b31, ()), ((a17, n18, c19), ()), (x20, ()), (IntKind.i64.wrap (x21 + (1 : Int)), ()), ())
        ) (
          again1 ((x2, t3, t4, t5, t6, b7, x8, x9, x10, t11, (a12, n13, c14), ()), (b30, ()), (false, ()), ((a17, n18, c19), ()), (x20, ()), (IntKind.i64.wrap (x21 + (1 : Int)), ()), ())
        )
      ) (
        π.ite (b16) (
          π.call (100 : Nat) #[(Go.Value.int (IntKind.i64) (x25))] (false, [(false, [.bool])]) fun (((b32 : Bool), _), _) =>
          again1 ((x2, t3, t4, t5, t6, b7, x8, x9, x10, t11, (a12, n13, c14), ()), (false, ()), (b32, ()), ((a17, n18, c19), ()), (x20, ()), (IntKind.i64.wrap (x21 + (1 : Int)), ()), ())
        ) (
          again1 ((x2, t3, t4, t5, t6, b7, x8, x9, x10, t11, (a12, n13, c14), ()), (false, ()), (false, ()), ((a17, n18, c19), ()), (x20, ()), (IntKind.i64.wrap (x21 + (1 : Int)), ()), ())
        )
      )
    ) (
      π.join [(true, [.int .i64, .str, .str, .str, .str, .bool, .int .i64, .int .i64, .int .i64, .str, .slice])] (fun J33 =>
        π.ite (!b15) (
          π.ret (Go.Value.int (IntKind.i64) ((100 : Int)))
        ) (
          π.join [(true, [.int .i64, .str, .str, .str, .str, .bool, .int .i64, .int .i64, .int .i64, .str, .slice]), (false, [.bool]), (false, [.bool])] (fun J34 =>
            π.ite (decide (there ≥ (0 : Int))) (
              J34 ((x2, t3, t4, t5, t6, b7, x8, x9, x10, t11, (a12, n13, c14), ()), (b16, ()), (true, ()), ())
            ) (
              π.call (116 : Nat) #[(Go.Value.slice (a12) (n13) (c14))] (false, [(false, [.bool])]) fun (((b35 : Bool), _), _) =>
              J34 ((x2, t3, t4, t5, t6, b7, x8, x9, x10, t11, (a12, n13, c14), ()), (b16, ()), (b35, ()), ())
            )
          ) (fun (((x36 : Int), (t37 : ByteArray), (t38 : ByteArray), (t39 : ByteArray), (t40 : ByteArray), (b41 : Bool), (x42 : Int), (x43 : Int), (x44 : Int), (t45 : ByteArray), ((a46 : Option Addr), (n47 : Nat), (c48 : Nat)), _), ((b49 : Bool), _), ((b50 : Bool), _), _) =>
            π.ite (b50) (
              π.ret (Go.Value.int (IntKind.i64) ((152 : Int)))
            ) (
              π.unSome (some (Addr.mk b (0 : Nat) none)) fun p51 =>
              π.ld [.slice] (p51.add (2 : Nat)) fun (((a52 : Option Addr), (n53 : Nat), (c54 : Nat)), _) =>
              π.ite ((↑n53 : Int) == (6 : Int)) (
                π.ret (Go.Value.int (IntKind.i64) ((156 : Int)))
              ) (
                π.ite (decide ((↑n47 : Int) < (1 : Int))) (
                  π.ret (Go.Value.int (IntKind.i64) ((156 : Int)))
                ) (
                  π.ite (decide ((↑n47 : Int) > (8 : Int))) (
                    π.ret (Go.Value.int (IntKind.i64) ((156 : Int)))
                  ) (
                    π.ite (!b49) (
                      π.ret (Go.Value.int (IntKind.i64) ((154 : Int)))
                    ) (
                      π.ite (state != (3 : Int)) (
                        π.ret (Go.Value.int (IntKind.i64) ((1 : Int)))
                      ) (
                        J33 ((x36, t37, t38, t39, t40, b41, x42, x43, x44, t45, (a46, n47, c48), ()), ())
                      )
                    )
                  )
                )
              )
            )
          )
        )
      ) (fun (((x55 : Int), (t56 : ByteArray), (t57 : ByteArray), (t58 : ByteArray), (t59 : ByteArray), (b60 : Bool), (x61 : Int), (x62 : Int), (x63 : Int), (t64 : ByteArray), ((a65 : Option Addr), (n66 : Nat), (c67 : Nat)), _), _) =>
        π.unSome (some (Addr.mk b (0 : Nat) none)) fun p68 =>
        π.ld [.int .i64] (p68.add (1 : Nat)) fun ((x69 : Int), _) =>
        π.unSome (some (Addr.mk b (0 : Nat) none)) fun p70 =>
        π.st (p70.add (1 : Nat)) [(Go.Value.int (IntKind.i64) (IntKind.i64.wrap (x69 + (1 : Int))))] <|
        π.unSome (some (Addr.mk b (0 : Nat) none)) fun p71 =>
        π.ld [.int .i64] (p71.add (1 : Nat)) fun ((x72 : Int), _) =>
        π.loop [(true, [.int .i64, .str, .slice, .slice, .slice]), (false, [.slice]), (false, [.int .i64]), (false, [.int .i64])] ((x72, t56, (none, (0 : Nat), (0 : Nat)), (none, (0 : Nat), (0 : Nat)), (none, (0 : Nat), (0 : Nat)), ()), ((a65, n66, c67), ()), ((↑n66 : Int), ()), ((0 : Int), ()), ()) fun (((x74 : Int), (t75 : ByteArray), ((a76 : Option Addr), (n77 : Nat), (c78 : Nat)), ((a79 : Option Addr), (n80 : Nat), (c81 : Nat)), ((a82 : Option Addr), (n83 : Nat), (c84 : Nat)), _), (((a85 : Option Addr), (n86 : Nat), (c87 : Nat)), _), ((x88 : Int), _), ((x89 : Int), _), _) again73 =>
          π.ite (decide (x89 < x88)) (
            π.guard ((0 : Int) ≤ x89 ∧ x89 < (↑n86 : Int)) <|
            π.unSome (a85) fun p90 =>
            π.ld [.int .i64, .str, .int .i64, .int .i64, .int .i64, .int .i64, .str] (p90.add (x89.toNat * (7 : Nat))) fun ((x91 : Int), (t92 : ByteArray), (x93 : Int), (x94 : Int), (x95 : Int), (x96 : Int), (t97 : ByteArray), _) =>
            π.unSome (some (Addr.mk b (0 : Nat) none)) fun p98 =>
            π.ld [.int .i64] (p98.add (1 : Nat)) fun ((x99 : Int), _) =>
            π.unSome (some (Addr.mk b (0 : Nat) none)) fun p100 =>
            π.st (p100.add (1 : Nat)) [(Go.Value.int (IntKind.i64) (IntKind.i64.wrap (x99 + (1 : Int))))] <|
            π.unSome (some (Addr.mk b (0 : Nat) none)) fun p101 =>
            π.ld [.int .i64] (p101.add (1 : Nat)) fun ((x102 : Int), _) =>
            π.nw (Go.Obj.cells #[(Go.Value.int (IntKind.i64) (x102)), (Go.Value.string (t92)), (Go.Value.int (IntKind.i64) (x93)), (Go.Value.int (IntKind.i64) ((3 : Int))), (Go.Value.int (IntKind.i64) ((0 : Int))), (Go.Value.int (IntKind.i64) ((0 : Int))), (Go.Value.string (ByteArray.mk #[]))] (44 : Nat) ((0 : Nat), (0 : Nat))) fun r103 =>
            π.app (44 : Nat) (7 : Nat) (72 : Nat) [(Go.Value.int (IntKind.i64) ((0 : Int))), (Go.Value.string (ByteArray.mk #[])), (Go.Value.int (IntKind.i64) ((0 : Int))), (Go.Value.int (IntKind.i64) ((0 : Int))), (Go.Value.int (IntKind.i64) ((0 : Int))), (Go.Value.int (IntKind.i64) ((0 : Int))), (Go.Value.string (ByteArray.mk #[]))] (a76) (n77) (c78) (Src.sl (some (Addr.mk r103 (0 : Nat) none)) (1 : Nat)) fun a104 n105 c106 =>
            again73 ((x74, t75, (a104, n105, c106), (a79, n80, c81), (a82, n83, c84), ()), ((a85, n86, c87), ()), (x88, ()), (IntKind.i64.wrap (x89 + (1 : Int)), ()), ())
          ) (
            π.unSome (some (Addr.mk b (0 : Nat) none)) fun p107 =>
            π.ld [.slice] (p107.add (2 : Nat)) fun (((a108 : Option Addr), (n109 : Nat), (c110 : Nat)), _) =>
            π.nw (Go.Obj.cells #[(Go.Value.int (IntKind.i64) (x74)), (Go.Value.string (t75)), (Go.Value.slice (a76) (n77) (c78)), (Go.Value.slice (a79) (n80) (c81)), (Go.Value.slice (a82) (n83) (c84))] (42 : Nat) ((0 : Nat), (0 : Nat))) fun r111 =>
            π.app (42 : Nat) (5 : Nat) (96 : Nat) [(Go.Value.int (IntKind.i64) ((0 : Int))), (Go.Value.string (ByteArray.mk #[])), (Go.Value.slice (none) ((0 : Nat)) ((0 : Nat))), (Go.Value.slice (none) ((0 : Nat)) ((0 : Nat))), (Go.Value.slice (none) ((0 : Nat)) ((0 : Nat)))] (a108) (n109) (c110) (Src.sl (some (Addr.mk r111 (0 : Nat) none)) (1 : Nat)) fun a112 n113 c114 =>
            π.unSome (some (Addr.mk b (0 : Nat) none)) fun p115 =>
            π.st (p115.add (2 : Nat)) [(Go.Value.slice (a112) (n113) (c114))] <|
            π.ret (Go.Value.int (IntKind.i64) ((0 : Int)))
          )
      )
    )
def ann_create : Ann := { draws := [(19, { A := [0, 1, 2, 3, 4, 5, 6] }), (24, { A := [0, 1, 2, 3, 4, 5, 6, 7, 8, 9, 10], eag := [13] }), (26, { A := [0, 1, 2, 3, 4, 5], eag := [8, 9] })], join := [(11, [(5, 29), (10, 4), (42, 4)]), (18, [(5, 29)])], loop := [(3, [(5, 29), (9, 4), (10, 4), (20, 27), (21, 3), (22, 3)]), (21, [(13, 42), (90, 27), (91, 3), (92, 3)])] }
def la_create : LA := { ptr := [(5, 5, 0), (12, 12, 0), (13, 13, 0), (15, 15, 0), (16, 5, 1), (19, 5, 10), (28, 12, 1), (34, 12, 2), (46, 5, 10), (58, 5, 10), (64, 5, 10), (86, 5, 1), (89, 5, 10), (103, 13, 2), (109, 15, 1), (111, 15, 2), (116, 13, 2)], ty := [(5, 29), (12, 44), (13, 42), (15, 44)] }
set_option maxRecDepth 100000 in
theorem eq_create {W : Type} (π : Prims W) (b : Nat) (dk : Int) (dt dn dc dp : ByteArray) (du : Bool) (dy vk vn : Int) (vs : ByteArray) (da : Option Addr) (dan dac : Nat) (state there : Int) : bodyL π Try.prog la_create ann_create (mkFr (maskA [] [.v (.pointer (some ⟨b, 0, none⟩)), .v (.agg #[.int .i64 dk, .string dt, .string dn, .string dc, .string dp, .bool du, .int .i64 dy, .int .i64 vk, .int .i64 vn, .string vs, .slice da dan dac]), .v (.int .i64 state), .v (.int .i64 there)] 0) 128) Try.f77 (bodyOf Try.f77) (mkFr (List.map some [.v (.pointer (some ⟨b, 0, none⟩)), .v (.agg #[.int .i64 dk, .string dt, .string dn, .string dc, .string dp, .bool du, .int .i64 dy, .int .i64 vk, .int .i64 vn, .string vs, .slice da dan dac]), .v (.int .i64 state), .v (.int .i64 there)]) 128) = vc_create π b dk dt dn dc dp du dy vk vn vs da dan dac state there := by kernel_rfl
theorem ok_create (b : Nat) (dk : Int) (dt dn dc dp : ByteArray) (du : Bool) (dy vk vn : Int) (vs : ByteArray) (da : Option Addr) (dan dac : Nat) (state there : Int) (R : Value → PH → Prop) (s : PH) (h : vc_create (RP Try.prog R) b dk dt dn dc dp du dy vk vn vs da dan dac state there s) : DCalls Try.prog 77 (List.map AV.val [.v (.pointer (some ⟨b, 0, none⟩)), .v (.agg #[.int .i64 dk, .string dt, .string dn, .string dc, .string dp, .bool du, .int .i64 dy, .int .i64 vk, .int .i64 vn, .string vs, .slice da dan dac]), .v (.int .i64 state), .v (.int .i64 there)]).toArray s R :=
  calls_vcL (c := bodyOf Try.f77) (ann := ann_create) la_create (by kernel_rfl) Try.func77 rfl (by kernel_rfl) [.v (.pointer (some ⟨b, 0, none⟩)), .v (.agg #[.int .i64 dk, .string dt, .string dn, .string dc, .string dp, .bool du, .int .i64 dy, .int .i64 vk, .int .i64 vn, .string vs, .slice da dan dac]), .v (.int .i64 state), .v (.int .i64 there)] [] (by rw [Try.ntmps77]; exact Nat.le_of_ble_eq_true rfl) (by kernel_rfl) (by rw [show Try.f77.ntmps = 128 from Try.ntmps77, eq_create]; exact h)
/-- lintel/schema.columns -/
def vc_columns {W : Type} (π : Prims W) (b : Nat) (t : Addr) (dk : Int) (dt dn dc dp : ByteArray) (du : Bool) (dy vk vn : Int) (vs : ByteArray) (da : Option Addr) (dan dac : Nat) (state : Int) : W :=
  π.unSome (some t) fun p0 =>
  π.ld [.slice] (p0.add (2 : Nat)) fun (((a1 : Option Addr), (n2 : Nat), (c3 : Nat)), _) =>
  π.callQ (117 : Nat) #[(Go.Value.slice (a1) (n2) (c3)), (Go.Value.string (dc)), (Go.Value.func (Fn.func (94 : Nat)) #[] #[])] (false, [(false, [.int .i64])]) fun (((x4 : Int), _), _) =>
  π.join [(true, [.int .i64, .str, .str, .str, .str, .bool, .int .i64, .int .i64, .int .i64, .str, .slice]), (false, [.int .i64])] (fun J5 =>
    π.join [(true, [.int .i64, .str, .str, .str, .str, .bool, .int .i64, .int .i64, .int .i64, .str, .slice]), (false, [.int .i64]), (false, [.bool])] (fun J6 =>
      π.ite (dk == (4 : Int)) (
        J6 ((dk, dt, dn, dc, dp, du, dy, vk, vn, vs, (da, dan, dac), ()), (x4, ()), (decide (x4 < (0 : Int)), ()), ())
      ) (
        J6 ((dk, dt, dn, dc, dp, du, dy, vk, vn, vs, (da, dan, dac), ()), (x4, ()), (false, ()), ())
      )
    ) (fun (((x7 : Int), (t8 : ByteArray), (t9 : ByteArray), (t10 : ByteArray), (t11 : ByteArray), (b12 : Bool), (x13 : Int), (x14 : Int), (x15 : Int), (t16 : ByteArray), ((a17 : Option Addr), (n18 : Nat), (c19 : Nat)), _), ((x20 : Int), _), ((b21 : Bool), _), _) =>
      π.ite (b21) (
        π.unSome (some t) fun p22 =>
        π.ld [.slice] (p22.add (2 : Nat)) fun (((a23 : Option Addr), (n24 : Nat), (c25 : Nat)), _) =>
        π.callQ (118 : Nat) #[(Go.Value.string (t10)), (Go.Value.int (IntKind.i64) ((↑n24 : Int)))] (false, [(false, [.int .i64])]) fun (((x26 : Int), _), _) =>
        π.ite (x26 != (0 : Int)) (
          π.ret (Go.Value.int (IntKind.i64) (x26))
        ) (
          π.join [(true, [.int .i64, .str, .str, .str, .str, .bool, .int .i64, .int .i64, .int .i64, .str, .slice])] (fun J27 =>
            π.call (100 : Nat) #[(Go.Value.int (IntKind.i64) (x13))] (false, [(false, [.bool])]) fun (((b28 : Bool), _), _) =>
            π.ite (!b28) (
              π.ret (Go.Value.int (IntKind.i64) ((154 : Int)))
            ) (
              π.call (101 : Nat) #[(Go.Value.agg #[(Go.Value.int (IntKind.i64) (x14)), (Go.Value.int (IntKind.i64) (x15)), (Go.Value.string (t16))]), (Go.Value.int (IntKind.i64) (x13))] (false, [(false, [.bool])]) fun (((b29 : Bool), _), _) =>
              π.ite (!b29) (
                π.ret (Go.Value.int (IntKind.i64) ((154 : Int)))
              ) (
                J27 ((x7, t8, t9, t10, t11, b12, x13, x14, x15, t16, (a17, n18, c19), ()), ())
              )
            )
          ) (fun (((x30 : Int), (t31 : ByteArray), (t32 : ByteArray), (t33 : ByteArray), (t34 : ByteArray), (b35 : Bool), (x36 : Int), (x37 : Int), (x38 : Int), (t39 : ByteArray), ((a40 : Option Addr), (n41 : Nat), (c42 : Nat)), _), _) =>
            π.ite (state == (0 : Int)) (
              π.ret (Go.Value.int (IntKind.i64) ((1 : Int)))
            ) (
              π.unSome (some (Addr.mk b (0 : Nat) none)) fun p43 =>
              π.ld [.int .i64] (p43.add (1 : Nat)) fun ((x44 : Int), _) =>
              π.unSome (some (Addr.mk b (0 : Nat) none)) fun p45 =>
              π.st (p45.add (1 : Nat)) [(Go.Value.int (IntKind.i64) (IntKind.i64.wrap (x44 + (1 : Int))))] <|
              π.unSome (some t) fun p46 =>
              π.ld [.slice] (p46.add (2 : Nat)) fun (((a47 : Option Addr), (n48 : Nat), (c49 : Nat)), _) =>
              π.unSome (some (Addr.mk b (0 : Nat) none)) fun p50 =>
              π.ld [.int .i64] (p50.add (1 : Nat)) fun ((x51 : Int), _) =>
              π.nw (Go.Obj.cells #[(Go.Value.int (IntKind.i64) (x51)), (Go.Value.string (t33)), (Go.Value.int (IntKind.i64) (x36)), (Go.Value.int (IntKind.i64) (state)), (Go.Value.int (IntKind.i64) (x37)), (Go.Value.int (IntKind.i64) (x38)), (Go.Value.string (t39))] (44 : Nat) ((0 : Nat), (0 : Nat))) fun r52 =>
              π.app (44 : Nat) (7 : Nat) (72 : Nat) [(Go.Value.int (IntKind.i64) ((0 : Int))), (Go.Value.string (ByteArray.mk #[])), (Go.Value.int (IntKind.i64) ((0 : Int))), (Go.Value.int (IntKind.i64) ((0 : Int))), (Go.Value.int (IntKind.i64) ((0 : Int))), (Go.Value.int (IntKind.i64) ((0 : Int))), (Go.Value.string (ByteArray.mk #[]))] (a47) (n48) (c49) (Src.sl (some (Addr.mk r52 (0 : Nat) none)) (1 : Nat)) fun a53 n54 c55 =>
              π.unSome (some t) fun p56 =>
              π.st (p56.add (2 : Nat)) [(Go.Value.slice (a53) (n54) (c55))] <|
              π.ret (Go.Value.int (IntKind.i64) ((0 : Int)))
            )
          )
        )
      ) (
        π.ite (x7 == (4 : Int)) (
          π.unSome (some t) fun p57 =>
          π.ld [.slice] (p57.add (2 : Nat)) fun (((a58 : Option Addr), (n59 : Nat), (c60 : Nat)), _) =>
          π.guard ((0 : Int) ≤ x20 ∧ x20 < (↑n59 : Int)) <|
          π.unSome (a58) fun p61 =>
          π.ld [.int .i64] ((p61.add (x20.toNat * (7 : Nat))).add (3 : Nat)) fun ((x62 : Int), _) =>
          π.ite (x62 == (3 : Int)) (
            π.ret (Go.Value.int (IntKind.i64) ((152 : Int)))
          ) (
            π.ite (decide (x20 < (0 : Int))) (
              π.ret (Go.Value.int (IntKind.i64) ((151 : Int)))
            ) (
              J5 ((x7, t8, t9, t10, t11, b12, x13, x14, x15, t16, (a17, n18, c19), ()), (x20, ()), ())
            )
          )
        ) (
          π.ite (decide (x20 < (0 : Int))) (
            π.ret (Go.Value.int (IntKind.i64) ((151 : Int)))
          ) (
            J5 ((x7, t8, t9, t10, t11, b12, x13, x14, x15, t16, (a17, n18, c19), ()), (x20, ()), ())
          )
        )
      )
    )
  ) (fun (((x63 : Int), (t64 : ByteArray), (t65 : ByteArray), (t66 : ByteArray), (t67 : ByteArray), (b68 : Bool), (x69 : Int), (x70 : Int), (x71 : Int), (t72 : ByteArray), ((a73 : Option Addr), (n74 : Nat), (c75 : Nat)), _), ((x76 : Int), _), _) =>
    π.unSome (some t) fun p77 =>
    π.ld [.slice] (p77.add (2 : Nat)) fun (((a78 : Option Addr), (n79 : Nat), (c80 : Nat)), _) =>
    π.guard ((0 : Int) ≤ x76 ∧ x76 < (↑n79 : Int)) <|
    π.unSome (a78) fun p81 =>
    π.ld [.int .i64] ((p81.add (x76.toNat * (7 : Nat))).add (0 : Nat)) fun ((x82 : Int), _) =>
    π.nw (Go.Obj.cells #[(Go.Value.int (IntKind.i64) ((0 : Int)))] (3 : Nat) ((0 : Nat), (0 : Nat))) fun r83 =>
    π.st (Addr.mk r83 (0 : Nat) none) [(Go.Value.int (IntKind.i64) (x82))] <|
    π.ite (x76 == (0 : Int)) (
      π.ite (x63 == (5 : Int)) (
        π.ret (Go.Value.int (IntKind.i64) ((155 : Int)))
      ) (
        π.unSome (some t) fun p84 =>
        π.call (123 : Nat) #[(Go.Value.pointer (some (p84.add (2 : Nat)))), (Go.Value.int (IntKind.i64) (x76)), (Go.Value.int (IntKind.i64) (state)), (Go.Value.func (Fn.func (124 : Nat)) #[] #[])] (true, []) fun (_) =>
        π.ret (Go.Value.int (IntKind.i64) ((0 : Int)))
      )
    ) (
      π.unSome (some t) fun p85 =>
      π.ld [.slice] (p85.add (3 : Nat)) fun (((a86 : Option Addr), (n87 : Nat), (c88 : Nat)), _) =>
      π.call (119 : Nat) #[(Go.Value.slice (a86) (n87) (c88)), (Go.Value.func (Fn.func (120 : Nat)) #[] #[(Go.Value.pointer (some (Addr.mk r83 (0 : Nat) none)))])] (false, [(false, [.bool])]) fun (((b89 : Bool), _), _) =>
      π.ite (b89) (
        π.ite (x63 == (5 : Int)) (
          π.ret (Go.Value.int (IntKind.i64) ((155 : Int)))
        ) (
          π.unSome (some t) fun p90 =>
          π.call (123 : Nat) #[(Go.Value.pointer (some (p90.add (2 : Nat)))), (Go.Value.int (IntKind.i64) (x76)), (Go.Value.int (IntKind.i64) (state)), (Go.Value.func (Fn.func (124 : Nat)) #[] #[])] (true, []) fun (_) =>
          π.ret (Go.Value.int (IntKind.i64) ((0 : Int)))
        )
      ) (
        π.unSome (some t) fun p91 =>
        π.ld [.slice] (p91.add (4 : Nat)) fun (((a92 : Option Addr), (n93 : Nat), (c94 : Nat)), _) =>
        π.call (121 : Nat) #[(Go.Value.slice (a92) (n93) (c94)), (Go.Value.func (Fn.func (122 : Nat)) #[] #[(Go.Value.pointer (some (Addr.mk r83 (0 : Nat) none)))])] (false, [(false, [.bool])]) fun (((b95 : Bool), _), _) =>
        π.ite (x63 == (5 : Int)) (
          π.ite (b95) (
            π.ret (Go.Value.int (IntKind.i64) ((155 : Int)))
          ) (
            π.unSome (some t) fun p96 =>
            π.call (123 : Nat) #[(Go.Value.pointer (some (p96.add (2 : Nat)))), (Go.Value.int (IntKind.i64) (x76)), (Go.Value.int (IntKind.i64) (state)), (Go.Value.func (Fn.func (124 : Nat)) #[] #[])] (true, []) fun (_) =>
            π.ret (Go.Value.int (IntKind.i64) ((0 : Int)))
          )
        ) (
          π.unSome (some t) fun p97 =>
          π.call (123 : Nat) #[(Go.Value.pointer (some (p97.add (2 : Nat)))), (Go.Value.int (IntKind.i64) (x76)), (Go.Value.int (IntKind.i64) (state)), (Go.Value.func (Fn.func (124 : Nat)) #[] #[])] (true, []) fun (_) =>
          π.ret (Go.Value.int (IntKind.i64) ((0 : Int)))
        )
      )
    )
  )
def ann_columns : Ann := { draws := [(1, { A := [0, 1, 2, 3, 4, 5, 6, 7], quiet := [6] }), (3, { A := [0, 1, 2, 3, 4, 5, 6, 7, 8], quiet := [7] }), (11, { A := [0, 1, 2, 3, 4, 5, 6, 7, 8, 9, 10, 11, 12, 13, 14, 15, 16], eag := [19, 20] })], join := [(3, [(6, 29), (9, 3), (20, 4)]), (8, [(6, 29)]), (17, [(6, 29), (9, 3)])], loop := [] }
def la_columns : LA := { ptr := [(6, 6, 0), (17, 6, 3), (21, 6, 0), (28, 6, 3), (39, 6, 6), (44, 6, 7), (46, 6, 6), (69, 6, 3), (71, 6, 6), (74, 6, 7), (82, 6, 0), (125, 6, 0)], ty := [(6, 29)] }
set_option maxRecDepth 100000 in
theorem eq_columns {W : Type} (π : Prims W) (b : Nat) (t : Addr) (dk : Int) (dt dn dc dp : ByteArray) (du : Bool) (dy vk vn : Int) (vs : ByteArray) (da : Option Addr) (dan dac : Nat) (state : Int) : bodyL π Try.prog la_columns ann_columns (mkFr (maskA [] [.v (.pointer (some ⟨b, 0, none⟩)), .v (.pointer (some t)), .v (.agg #[.int .i64 dk, .string dt, .string dn, .string dc, .string dp, .bool du, .int .i64 dy, .int .i64 vk, .int .i64 vn, .string vs, .slice da dan dac]), .v (.int .i64 state)] 0) 137) Try.f78 (bodyOf Try.f78) (mkFr (List.map some [.v (.pointer (some ⟨b, 0, none⟩)), .v (.pointer (some t)), .v (.agg #[.int .i64 dk, .string dt, .string dn, .string dc, .string dp, .bool du, .int .i64 dy, .int .i64 vk, .int .i64 vn, .string vs, .slice da dan dac]), .v (.int .i64 state)]) 137) = vc_columns π b t dk dt dn dc dp du dy vk vn vs da dan dac state := by kernel_rfl
theorem ok_columns (b : Nat) (t : Addr) (dk : Int) (dt dn dc dp : ByteArray) (du : Bool) (dy vk vn : Int) (vs : ByteArray) (da : Option Addr) (dan dac : Nat) (state : Int) (R : Value → PH → Prop) (s : PH) (h : vc_columns (RP Try.prog R) b t dk dt dn dc dp du dy vk vn vs da dan dac state s) : DCalls Try.prog 78 (List.map AV.val [.v (.pointer (some ⟨b, 0, none⟩)), .v (.pointer (some t)), .v (.agg #[.int .i64 dk, .string dt, .string dn, .string dc, .string dp, .bool du, .int .i64 dy, .int .i64 vk, .int .i64 vn, .string vs, .slice da dan dac]), .v (.int .i64 state)]).toArray s R :=
  calls_vcL (c := bodyOf Try.f78) (ann := ann_columns) la_columns (by kernel_rfl) Try.func78 rfl (by kernel_rfl) [.v (.pointer (some ⟨b, 0, none⟩)), .v (.pointer (some t)), .v (.agg #[.int .i64 dk, .string dt, .string dn, .string dc, .string dp, .bool du, .int .i64 dy, .int .i64 vk, .int .i64 vn, .string vs, .slice da dan dac]), .v (.int .i64 state)] [] (by rw [Try.ntmps78]; exact Nat.le_of_ble_eq_true rfl) (by kernel_rfl) (by rw [show Try.f78.ntmps = 137 from Try.ntmps78, eq_columns]; exact h)
/-- lintel/schema.indexes -/
def vc_indexes {W : Type} (π : Prims W) (b : Nat) (t : Addr) (dk : Int) (dt dn dc dp : ByteArray) (du : Bool) (dy vk vn : Int) (vs : ByteArray) (da : Option Addr) (dan dac : Nat) (state : Int) : W :=
  π.unSome (some t) fun p0 =>
  π.ld [.slice] (p0.add (3 : Nat)) fun (((a1 : Option Addr), (n2 : Nat), (c3 : Nat)), _) =>
  π.callQ (125 : Nat) #[(Go.Value.slice (a1) (n2) (c3)), (Go.Value.string (dn)), (Go.Value.func (Fn.func (96 : Nat)) #[] #[])] (false, [(false, [.int .i64])]) fun (((x4 : Int), _), _) =>
  π.join [(true, [.int .i64, .str, .str, .str, .str, .bool, .int .i64, .int .i64, .int .i64, .str, .slice]), (false, [.int .i64]), (false, [.bool])] (fun J5 =>
    π.ite (dk == (2 : Int)) (
      J5 ((dk, dt, dn, dc, dp, du, dy, vk, vn, vs, (da, dan, dac), ()), (x4, ()), (decide (x4 < (0 : Int)), ()), ())
    ) (
      J5 ((dk, dt, dn, dc, dp, du, dy, vk, vn, vs, (da, dan, dac), ()), (x4, ()), (false, ()), ())
    )
  ) (fun (((x6 : Int), (t7 : ByteArray), (t8 : ByteArray), (t9 : ByteArray), (t10 : ByteArray), (b11 : Bool), (x12 : Int), (x13 : Int), (x14 : Int), (t15 : ByteArray), ((a16 : Option Addr), (n17 : Nat), (c18 : Nat)), _), ((x19 : Int), _), ((b20 : Bool), _), _) =>
    π.ite (b20) (
      π.unSome (some t) fun p21 =>
      π.ld [.slice] (p21.add (3 : Nat)) fun (((a22 : Option Addr), (n23 : Nat), (c24 : Nat)), _) =>
      π.callQ (118 : Nat) #[(Go.Value.string (t8)), (Go.Value.int (IntKind.i64) ((↑n23 : Int)))] (false, [(false, [.int .i64])]) fun (((x25 : Int), _), _) =>
      π.ite (x25 != (0 : Int)) (
        π.ret (Go.Value.int (IntKind.i64) (x25))
      ) (
        π.call (126 : Nat) #[(Go.Value.pointer (some t)), (Go.Value.string (t9))] (false, [(false, [.int .i64])]) fun (((x26 : Int), _), _) =>
        π.ite (decide (x26 < (0 : Int))) (
          π.ret (Go.Value.int (IntKind.i64) ((151 : Int)))
        ) (
          π.ite (state == (0 : Int)) (
            π.ret (Go.Value.int (IntKind.i64) ((1 : Int)))
          ) (
            π.unSome (some (Addr.mk b (0 : Nat) none)) fun p27 =>
            π.ld [.int .i64] (p27.add (1 : Nat)) fun ((x28 : Int), _) =>
            π.unSome (some (Addr.mk b (0 : Nat) none)) fun p29 =>
            π.st (p29.add (1 : Nat)) [(Go.Value.int (IntKind.i64) (IntKind.i64.wrap (x28 + (1 : Int))))] <|
            π.unSome (some t) fun p30 =>
            π.ld [.slice] (p30.add (3 : Nat)) fun (((a31 : Option Addr), (n32 : Nat), (c33 : Nat)), _) =>
            π.unSome (some (Addr.mk b (0 : Nat) none)) fun p34 =>
            π.ld [.int .i64] (p34.add (1 : Nat)) fun ((x35 : Int), _) =>
            π.unSome (some t) fun p36 =>
            π.ld [.slice] (p36.add (2 : Nat)) fun (((a37 : Option Addr), (n38 : Nat), (c39 : Nat)), _) =>
            π.guard ((0 : Int) ≤ x26 ∧ x26 < (↑n38 : Int)) <|
            π.unSome (a37) fun p40 =>
            π.ld [.int .i64] ((p40.add (x26.toNat * (7 : Nat))).add (0 : Nat)) fun ((x41 : Int), _) =>
            π.nw (Go.Obj.cells #[(Go.Value.int (IntKind.i64) (x35)), (Go.Value.string (t8)), (Go.Value.int (IntKind.i64) (x41)), (Go.Value.bool (b11)), (Go.Value.int (IntKind.i64) (state))] (106 : Nat) ((0 : Nat), (0 : Nat))) fun r42 =>
            π.app (106 : Nat) (5 : Nat) (48 : Nat) [(Go.Value.int (IntKind.i64) ((0 : Int))), (Go.Value.string (ByteArray.mk #[])), (Go.Value.int (IntKind.i64) ((0 : Int))), (Go.Value.bool (false)), (Go.Value.int (IntKind.i64) ((0 : Int)))] (a31) (n32) (c33) (Src.sl (some (Addr.mk r42 (0 : Nat) none)) (1 : Nat)) fun a43 n44 c45 =>
            π.unSome (some t) fun p46 =>
            π.st (p46.add (3 : Nat)) [(Go.Value.slice (a43) (n44) (c45))] <|
            π.ret (Go.Value.int (IntKind.i64) ((0 : Int)))
          )
        )
      )
    ) (
      π.ite (x6 == (2 : Int)) (
        π.unSome (some t) fun p47 =>
        π.ld [.slice] (p47.add (3 : Nat)) fun (((a48 : Option Addr), (n49 : Nat), (c50 : Nat)), _) =>
        π.guard ((0 : Int) ≤ x19 ∧ x19 < (↑n49 : Int)) <|
        π.unSome (a48) fun p51 =>
        π.ld [.int .i64] ((p51.add (x19.toNat * (5 : Nat))).add (4 : Nat)) fun ((x52 : Int), _) =>
        π.ite (x52 == (3 : Int)) (
          π.ret (Go.Value.int (IntKind.i64) ((152 : Int)))
        ) (
          π.ite (decide (x19 < (0 : Int))) (
            π.ret (Go.Value.int (IntKind.i64) ((153 : Int)))
          ) (
            π.unSome (some t) fun p53 =>
            π.call (127 : Nat) #[(Go.Value.pointer (some (p53.add (3 : Nat)))), (Go.Value.int (IntKind.i64) (x19)), (Go.Value.int (IntKind.i64) (state)), (Go.Value.func (Fn.func (128 : Nat)) #[] #[])] (true, []) fun (_) =>
            π.ret (Go.Value.int (IntKind.i64) ((0 : Int)))
          )
        )
      ) (
        π.ite (decide (x19 < (0 : Int))) (
          π.ret (Go.Value.int (IntKind.i64) ((153 : Int)))
        ) (
          π.unSome (some t) fun p54 =>
          π.call (127 : Nat) #[(Go.Value.pointer (some (p54.add (3 : Nat)))), (Go.Value.int (IntKind.i64) (x19)), (Go.Value.int (IntKind.i64) (state)), (Go.Value.func (Fn.func (128 : Nat)) #[] #[])] (true, []) fun (_) =>
          π.ret (Go.Value.int (IntKind.i64) ((0 : Int)))
        )
      )
    )
  )
def ann_indexes : Ann := { draws := [(1, { A := [0, 1, 2, 3, 4, 5, 6, 7], quiet := [6] }), (3, { A := [0, 1, 2, 3, 4, 5, 6, 7, 8], quiet := [7] }), (12, { A := [0, 1, 2, 3, 4, 5, 6, 7, 8, 9, 10, 11, 12, 13, 14, 15, 16, 17, 18, 19, 20, 21, 22], eag := [25, 26] })], join := [(3, [(6, 29), (9, 3), (19, 4)])], loop := [] }
def la_indexes : LA := { ptr := [(6, 6, 0), (16, 6, 2), (20, 6, 0), (27, 6, 2), (39, 6, 3), (62, 6, 2), (72, 6, 5), (81, 6, 0)], ty := [(6, 29)] }
set_option maxRecDepth 100000 in
theorem eq_indexes {W : Type} (π : Prims W) (b : Nat) (t : Addr) (dk : Int) (dt dn dc dp : ByteArray) (du : Bool) (dy vk vn : Int) (vs : ByteArray) (da : Option Addr) (dan dac : Nat) (state : Int) : bodyL π Try.prog la_indexes ann_indexes (mkFr (maskA [] [.v (.pointer (some ⟨b, 0, none⟩)), .v (.pointer (some t)), .v (.agg #[.int .i64 dk, .string dt, .string dn, .string dc, .string dp, .bool du, .int .i64 dy, .int .i64 vk, .int .i64 vn, .string vs, .slice da dan dac]), .v (.int .i64 state)] 0) 104) Try.f79 (bodyOf Try.f79) (mkFr (List.map some [.v (.pointer (some ⟨b, 0, none⟩)), .v (.pointer (some t)), .v (.agg #[.int .i64 dk, .string dt, .string dn, .string dc, .string dp, .bool du, .int .i64 dy, .int .i64 vk, .int .i64 vn, .string vs, .slice da dan dac]), .v (.int .i64 state)]) 104) = vc_indexes π b t dk dt dn dc dp du dy vk vn vs da dan dac state := by kernel_rfl
theorem ok_indexes (b : Nat) (t : Addr) (dk : Int) (dt dn dc dp : ByteArray) (du : Bool) (dy vk vn : Int) (vs : ByteArray) (da : Option Addr) (dan dac : Nat) (state : Int) (R : Value → PH → Prop) (s : PH) (h : vc_indexes (RP Try.prog R) b t dk dt dn dc dp du dy vk vn vs da dan dac state s) : DCalls Try.prog 79 (List.map AV.val [.v (.pointer (some ⟨b, 0, none⟩)), .v (.pointer (some t)), .v (.agg #[.int .i64 dk, .string dt, .string dn, .string dc, .string dp, .bool du, .int .i64 dy, .int .i64 vk, .int .i64 vn, .string vs, .slice da dan dac]), .v (.int .i64 state)]).toArray s R :=
  calls_vcL (c := bodyOf Try.f79) (ann := ann_indexes) la_indexes (by kernel_rfl) Try.func79 rfl (by kernel_rfl) [.v (.pointer (some ⟨b, 0, none⟩)), .v (.pointer (some t)), .v (.agg #[.int .i64 dk, .string dt, .string dn, .string dc, .string dp, .bool du, .int .i64 dy, .int .i64 vk, .int .i64 vn, .string vs, .slice da dan dac]), .v (.int .i64 state)] [] (by rw [Try.ntmps79]; exact Nat.le_of_ble_eq_true rfl) (by kernel_rfl) (by rw [show Try.f79.ntmps = 104 from Try.ntmps79, eq_indexes]; exact h)
/-- lintel/schema.foreigns -/
def vc_foreigns {W : Type} (π : Prims W) (b : Nat) (t : Addr) (dk : Int) (dt dn dc dp : ByteArray) (du : Bool) (dy vk vn : Int) (vs : ByteArray) (da : Option Addr) (dan dac : Nat) (state : Int) : W :=
  π.unSome (some t) fun p0 =>
  π.ld [.slice] (p0.add (4 : Nat)) fun (((a1 : Option Addr), (n2 : Nat), (c3 : Nat)), _) =>
  π.callQ (129 : Nat) #[(Go.Value.slice (a1) (n2) (c3)), (Go.Value.string (dn)), (Go.Value.func (Fn.func (98 : Nat)) #[] #[])] (false, [(false, [.int .i64])]) fun (((x4 : Int), _), _) =>
  π.join [(true, [.int .i64, .str, .str, .str, .str, .bool, .int .i64, .int .i64, .int .i64, .str, .slice]), (false, [.int .i64]), (false, [.bool])] (fun J5 =>
    π.ite (dk == (6 : Int)) (
      J5 ((dk, dt, dn, dc, dp, du, dy, vk, vn, vs, (da, dan, dac), ()), (x4, ()), (decide (x4 < (0 : Int)), ()), ())
    ) (
      J5 ((dk, dt, dn, dc, dp, du, dy, vk, vn, vs, (da, dan, dac), ()), (x4, ()), (false, ()), ())
    )
  ) (fun (((x6 : Int), (t7 : ByteArray), (t8 : ByteArray), (t9 : ByteArray), (t10 : ByteArray), (b11 : Bool), (x12 : Int), (x13 : Int), (x14 : Int), (t15 : ByteArray), ((a16 : Option Addr), (n17 : Nat), (c18 : Nat)), _), ((x19 : Int), _), ((b20 : Bool), _), _) =>
    π.ite (b20) (
      π.unSome (some t) fun p21 =>
      π.ld [.slice] (p21.add (4 : Nat)) fun (((a22 : Option Addr), (n23 : Nat), (c24 : Nat)), _) =>
      π.callQ (118 : Nat) #[(Go.Value.string (t8)), (Go.Value.int (IntKind.i64) ((↑n23 : Int)))] (false, [(false, [.int .i64])]) fun (((x25 : Int), _), _) =>
      π.ite (x25 != (0 : Int)) (
        π.ret (Go.Value.int (IntKind.i64) (x25))
      ) (
        π.callQ (126 : Nat) #[(Go.Value.pointer (some t)), (Go.Value.string (t9))] (false, [(false, [.int .i64])]) fun (((x26 : Int), _), _) =>
        π.unSome (some (Addr.mk b (0 : Nat) none)) fun p27 =>
        π.ld [.slice] (p27.add (2 : Nat)) fun (((a28 : Option Addr), (n29 : Nat), (c30 : Nat)), _) =>
        π.callQ (45 : Nat) #[(Go.Value.slice (a28) (n29) (c30)), (Go.Value.string (t10)), (Go.Value.func (Fn.func (46 : Nat)) #[] #[])] (false, [(false, [.int .i64])]) fun (((x31 : Int), _), _) =>
        π.ite (decide (x26 < (0 : Int))) (
          π.ret (Go.Value.int (IntKind.i64) ((151 : Int)))
        ) (
          π.ite (decide (x31 < (0 : Int))) (
            π.ret (Go.Value.int (IntKind.i64) ((150 : Int)))
          ) (
            π.unSome (some t) fun p32 =>
            π.ld [.slice] (p32.add (2 : Nat)) fun (((a33 : Option Addr), (n34 : Nat), (c35 : Nat)), _) =>
            π.guard ((0 : Int) ≤ x26 ∧ x26 < (↑n34 : Int)) <|
            π.unSome (a33) fun p36 =>
            π.ld [.int .i64] ((p36.add (x26.toNat * (7 : Nat))).add (2 : Nat)) fun ((x37 : Int), _) =>
            π.unSome (some (Addr.mk b (0 : Nat) none)) fun p38 =>
            π.ld [.slice] (p38.add (2 : Nat)) fun (((a39 : Option Addr), (n40 : Nat), (c41 : Nat)), _) =>
            π.guard ((0 : Int) ≤ x31 ∧ x31 < (↑n40 : Int)) <|
            π.unSome (a39) fun p42 =>
            π.ld [.slice] ((p42.add (x31.toNat * (5 : Nat))).add (2 : Nat)) fun (((a43 : Option Addr), (n44 : Nat), (c45 : Nat)), _) =>
            π.guard ((0 : Int) ≤ (0 : Int) ∧ (0 : Int) < (↑n44 : Int)) <|
            π.unSome (a43) fun p46 =>
            π.ld [.int .i64] ((p46.add (0 : Nat)).add (2 : Nat)) fun ((x47 : Int), _) =>
            π.ite (x37 != x47) (
              π.ret (Go.Value.int (IntKind.i64) ((154 : Int)))
            ) (
              π.ite (state == (0 : Int)) (
                π.ret (Go.Value.int (IntKind.i64) ((1 : Int)))
              ) (
                π.unSome (some (Addr.mk b (0 : Nat) none)) fun p48 =>
                π.ld [.int .i64] (p48.add (1 : Nat)) fun ((x49 : Int), _) =>
                π.unSome (some (Addr.mk b (0 : Nat) none)) fun p50 =>
                π.st (p50.add (1 : Nat)) [(Go.Value.int (IntKind.i64) (IntKind.i64.wrap (x49 + (1 : Int))))] <|
                π.unSome (some t) fun p51 =>
                π.ld [.slice] (p51.add (4 : Nat)) fun (((a52 : Option Addr), (n53 : Nat), (c54 : Nat)), _) =>
                π.unSome (some (Addr.mk b (0 : Nat) none)) fun p55 =>
                π.ld [.int .i64] (p55.add (1 : Nat)) fun ((x56 : Int), _) =>
                π.unSome (some t) fun p57 =>
                π.ld [.slice] (p57.add (2 : Nat)) fun (((a58 : Option Addr), (n59 : Nat), (c60 : Nat)), _) =>
                π.guard ((0 : Int) ≤ x26 ∧ x26 < (↑n59 : Int)) <|
                π.unSome (a58) fun p61 =>
                π.ld [.int .i64] ((p61.add (x26.toNat * (7 : Nat))).add (0 : Nat)) fun ((x62 : Int), _) =>
                π.unSome (some (Addr.mk b (0 : Nat) none)) fun p63 =>
                π.ld [.slice] (p63.add (2 : Nat)) fun (((a64 : Option Addr), (n65 : Nat), (c66 : Nat)), _) =>
                π.guard ((0 : Int) ≤ x31 ∧ x31 < (↑n65 : Int)) <|
                π.unSome (a64) fun p67 =>
                π.ld [.int .i64] ((p67.add (x31.toNat * (5 : Nat))).add (0 : Nat)) fun ((x68 : Int), _) =>
                π.nw (Go.Obj.cells #[(Go.Value.int (IntKind.i64) (x56)), (Go.Value.string (t8)), (Go.Value.int (IntKind.i64) (x62)), (Go.Value.int (IntKind.i64) (x68)), (Go.Value.int (IntKind.i64) (state))] (109 : Nat) ((0 : Nat), (0 : Nat))) fun r69 =>
                π.app (109 : Nat) (5 : Nat) (48 : Nat) [(Go.Value.int (IntKind.i64) ((0 : Int))), (Go.Value.string (ByteArray.mk #[])), (Go.Value.int (IntKind.i64) ((0 : Int))), (Go.Value.int (IntKind.i64) ((0 : Int))), (Go.Value.int (IntKind.i64) ((0 : Int)))] (a52) (n53) (c54) (Src.sl (some (Addr.mk r69 (0 : Nat) none)) (1 : Nat)) fun a70 n71 c72 =>
                π.unSome (some t) fun p73 =>
                π.st (p73.add (4 : Nat)) [(Go.Value.slice (a70) (n71) (c72))] <|
                π.ret (Go.Value.int (IntKind.i64) ((0 : Int)))
              )
            )
          )
        )
      )
    ) (
      π.ite (x6 == (6 : Int)) (
        π.unSome (some t) fun p74 =>
        π.ld [.slice] (p74.add (4 : Nat)) fun (((a75 : Option Addr), (n76 : Nat), (c77 : Nat)), _) =>
        π.guard ((0 : Int) ≤ x19 ∧ x19 < (↑n76 : Int)) <|
        π.unSome (a75) fun p78 =>
        π.ld [.int .i64] ((p78.add (x19.toNat * (5 : Nat))).add (4 : Nat)) fun ((x79 : Int), _) =>
        π.ite (x79 == (3 : Int)) (
          π.ret (Go.Value.int (IntKind.i64) ((152 : Int)))
        ) (
          π.ite (decide (x19 < (0 : Int))) (
            π.ret (Go.Value.int (IntKind.i64) ((153 : Int)))
          ) (
            π.unSome (some t) fun p80 =>
            π.call (130 : Nat) #[(Go.Value.pointer (some (p80.add (4 : Nat)))), (Go.Value.int (IntKind.i64) (x19)), (Go.Value.int (IntKind.i64) (state)), (Go.Value.func (Fn.func (131 : Nat)) #[] #[])] (true, []) fun (_) =>
            π.ret (Go.Value.int (IntKind.i64) ((0 : Int)))
          )
        )
      ) (
        π.ite (decide (x19 < (0 : Int))) (
          π.ret (Go.Value.int (IntKind.i64) ((153 : Int)))
        ) (
          π.unSome (some t) fun p81 =>
          π.call (130 : Nat) #[(Go.Value.pointer (some (p81.add (4 : Nat)))), (Go.Value.int (IntKind.i64) (x19)), (Go.Value.int (IntKind.i64) (state)), (Go.Value.func (Fn.func (131 : Nat)) #[] #[])] (true, []) fun (_) =>
          π.ret (Go.Value.int (IntKind.i64) ((0 : Int)))
        )
      )
    )
  )
def ann_foreigns : Ann := { draws := [(1, { A := [0, 1, 2, 3, 4, 5, 6, 7], quiet := [6] }), (3, { A := [0, 1, 2, 3, 4, 5, 6, 7, 8], quiet := [7] }), (6, { A := [0, 1, 2, 3, 4, 5, 6, 7, 8, 9, 10, 11, 12], quiet := [3, 10] }), (11, { A := [0, 1, 2, 3, 4, 5, 6, 7, 8, 9, 10, 11, 12, 13, 14, 15, 16, 17, 18, 19, 20] }), (16, { A := [0, 1, 2, 3, 4, 5, 6, 7, 8, 9, 10, 11, 12, 13, 14, 15, 16, 17, 18, 19, 20, 21, 22, 23, 24, 25, 26, 27, 28], eag := [31, 32] })], join := [(3, [(6, 29), (9, 3), (20, 4)])], loop := [] }
def la_foreigns : LA := { ptr := [(6, 6, 0), (17, 6, 2), (21, 6, 0), (28, 6, 2), (40, 6, 3), (47, 6, 4), (96, 6, 2), (121, 6, 0)], ty := [(6, 29)] }
set_option maxRecDepth 100000 in
theorem eq_foreigns {W : Type} (π : Prims W) (b : Nat) (t : Addr) (dk : Int) (dt dn dc dp : ByteArray) (du : Bool) (dy vk vn : Int) (vs : ByteArray) (da : Option Addr) (dan dac : Nat) (state : Int) : bodyL π Try.prog la_foreigns ann_foreigns (mkFr (maskA [] [.v (.pointer (some ⟨b, 0, none⟩)), .v (.pointer (some t)), .v (.agg #[.int .i64 dk, .string dt, .string dn, .string dc, .string dp, .bool du, .int .i64 dy, .int .i64 vk, .int .i64 vn, .string vs, .slice da dan dac]), .v (.int .i64 state)] 0) 144) Try.f80 (bodyOf Try.f80) (mkFr (List.map some [.v (.pointer (some ⟨b, 0, none⟩)), .v (.pointer (some t)), .v (.agg #[.int .i64 dk, .string dt, .string dn, .string dc, .string dp, .bool du, .int .i64 dy, .int .i64 vk, .int .i64 vn, .string vs, .slice da dan dac]), .v (.int .i64 state)]) 144) = vc_foreigns π b t dk dt dn dc dp du dy vk vn vs da dan dac state := by kernel_rfl
theorem ok_foreigns (b : Nat) (t : Addr) (dk : Int) (dt dn dc dp : ByteArray) (du : Bool) (dy vk vn : Int) (vs : ByteArray) (da : Option Addr) (dan dac : Nat) (state : Int) (R : Value → PH → Prop) (s : PH) (h : vc_foreigns (RP Try.prog R) b t dk dt dn dc dp du dy vk vn vs da dan dac state s) : DCalls Try.prog 80 (List.map AV.val [.v (.pointer (some ⟨b, 0, none⟩)), .v (.pointer (some t)), .v (.agg #[.int .i64 dk, .string dt, .string dn, .string dc, .string dp, .bool du, .int .i64 dy, .int .i64 vk, .int .i64 vn, .string vs, .slice da dan dac]), .v (.int .i64 state)]).toArray s R :=
  calls_vcL (c := bodyOf Try.f80) (ann := ann_foreigns) la_foreigns (by kernel_rfl) Try.func80 rfl (by kernel_rfl) [.v (.pointer (some ⟨b, 0, none⟩)), .v (.pointer (some t)), .v (.agg #[.int .i64 dk, .string dt, .string dn, .string dc, .string dp, .bool du, .int .i64 dy, .int .i64 vk, .int .i64 vn, .string vs, .slice da dan dac]), .v (.int .i64 state)] [] (by rw [Try.ntmps80]; exact Nat.le_of_ble_eq_true rfl) (by kernel_rfl) (by rw [show Try.f80.ntmps = 144 from Try.ntmps80, eq_foreigns]; exact h)
/-- lintel/schema.turn -/
def vc_turn {W : Type} (π : Prims W) (b : Nat) (dk : Int) (dt dn dc dp : ByteArray) (du : Bool) (dy vk vn : Int) (vs : ByteArray) (da : Option Addr) (dan dac : Nat) (state : Int) : W :=
  π.unSome (some (Addr.mk b (0 : Nat) none)) fun p0 =>
  π.ld [.slice] (p0.add (2 : Nat)) fun (((a1 : Option Addr), (n2 : Nat), (c3 : Nat)), _) =>
  π.callQ (45 : Nat) #[(Go.Value.slice (a1) (n2) (c3)), (Go.Value.string (dt)), (Go.Value.func (Fn.func (46 : Nat)) #[] #[])] (false, [(false, [.int .i64])]) fun (((x4 : Int), _), _) =>
  π.ite (dk == (1 : Int)) (
    π.call (77 : Nat) #[(Go.Value.pointer (some (Addr.mk b (0 : Nat) none))), (Go.Value.agg #[(Go.Value.int (IntKind.i64) (dk)), (Go.Value.string (dt)), (Go.Value.string (dn)), (Go.Value.string (dc)), (Go.Value.string (dp)), (Go.Value.bool (du)), (Go.Value.int (IntKind.i64) (dy)), (Go.Value.int (IntKind.i64) (vk)), (Go.Value.int (IntKind.i64) (vn)), (Go.Value.string (vs)), (Go.Value.slice (da) (dan) (dac))]), (Go.Value.int (IntKind.i64) (state)), (Go.Value.int (IntKind.i64) (x4))] (false, [(false, [.int .i64])]) fun (((x5 : Int), _), _) =>
    π.ret (Go.Value.int (IntKind.i64) (x5))
  ) (
    π.ite (decide (x4 < (0 : Int))) (
      π.ret (Go.Value.int (IntKind.i64) ((150 : Int)))
    ) (
      π.unSome (some (Addr.mk b (0 : Nat) none)) fun p6 =>
      π.ld [.slice] (p6.add (2 : Nat)) fun (((a7 : Option Addr), (n8 : Nat), (c9 : Nat)), _) =>
      π.guard ((0 : Int) ≤ x4 ∧ x4 < (↑n8 : Int)) <|
      π.unSome (a7) fun p10 =>
      π.join [(true, [.int .i64, .str, .str, .str, .str, .bool, .int .i64, .int .i64, .int .i64, .str, .slice]), (false, [.ptr]), (false, [.int .i64]), (false, [.bool])] (fun J11 =>
        π.ite (dk == (4 : Int)) (
          J11 ((dk, dt, dn, dc, dp, du, dy, vk, vn, vs, (da, dan, dac), ()), (some (p10.add (x4.toNat * (5 : Nat))), ()), (dk, ()), (true, ()), ())
        ) (
          J11 ((dk, dt, dn, dc, dp, du, dy, vk, vn, vs, (da, dan, dac), ()), (some (p10.add (x4.toNat * (5 : Nat))), ()), (dk, ()), (dk == (5 : Int), ()), ())
        )
      ) (fun (((x12 : Int), (t13 : ByteArray), (t14 : ByteArray), (t15 : ByteArray), (t16 : ByteArray), (b17 : Bool), (x18 : Int), (x19 : Int), (x20 : Int), (t21 : ByteArray), ((a22 : Option Addr), (n23 : Nat), (c24 : Nat)), _), (p25, _), ((x26 : Int), _), ((b27 : Bool), _), _) =>
        π.ite (b27) (
          π.call (78 : Nat) #[(Go.Value.pointer (some (Addr.mk b (0 : Nat) none))), (Go.Value.pointer (p25)), (Go.Value.agg #[(Go.Value.int (IntKind.i64) (x12)), (Go.Value.string (t13)), (Go.Value.string (t14)), (Go.Value.string (t15)), (Go.Value.string (t16)), (Go.Value.bool (b17)), (Go.Value.int (IntKind.i64) (x18)), (Go.Value.int (IntKind.i64) (x19)), (Go.Value.int (IntKind.i64) (x20)), (Go.Value.string (t21)), (Go.Value.slice (a22) (n23) (c24))]), (Go.Value.int (IntKind.i64) (state))] (false, [(false, [.int .i64])]) fun (((x28 : Int), _), _) =>
          π.ret (Go.Value.int (IntKind.i64) (x28))
        ) (
          π.ite (x26 == (2 : Int)) (
            π.call (79 : Nat) #[(Go.Value.pointer (some (Addr.mk b (0 : Nat) none))), (Go.Value.pointer (p25)), (Go.Value.agg #[(Go.Value.int (IntKind.i64) (x12)), (Go.Value.string (t13)), (Go.Value.string (t14)), (Go.Value.string (t15)), (Go.Value.string (t16)), (Go.Value.bool (b17)), (Go.Value.int (IntKind.i64) (x18)), (Go.Value.int (IntKind.i64) (x19)), (Go.Value.int (IntKind.i64) (x20)), (Go.Value.string (t21)), (Go.Value.slice (a22) (n23) (c24))]), (Go.Value.int (IntKind.i64) (state))] (false, [(false, [.int .i64])]) fun (((x29 : Int), _), _) =>
            π.ret (Go.Value.int (IntKind.i64) (x29))
          ) (
            π.ite (x26 == (3 : Int)) (
              π.call (79 : Nat) #[(Go.Value.pointer (some (Addr.mk b (0 : Nat) none))), (Go.Value.pointer (p25)), (Go.Value.agg #[(Go.Value.int (IntKind.i64) (x12)), (Go.Value.string (t13)), (Go.Value.string (t14)), (Go.Value.string (t15)), (Go.Value.string (t16)), (Go.Value.bool (b17)), (Go.Value.int (IntKind.i64) (x18)), (Go.Value.int (IntKind.i64) (x19)), (Go.Value.int (IntKind.i64) (x20)), (Go.Value.string (t21)), (Go.Value.slice (a22) (n23) (c24))]), (Go.Value.int (IntKind.i64) (state))] (false, [(false, [.int .i64])]) fun (((x30 : Int), _), _) =>
              π.ret (Go.Value.int (IntKind.i64) (x30))
            ) (
              π.call (80 : Nat) #[(Go.Value.pointer (some (Addr.mk b (0 : Nat) none))), (Go.Value.pointer (p25)), (Go.Value.agg #[(Go.Value.int (IntKind.i64) (x12)), (Go.Value.string (t13)), (Go.Value.string (t14)), (Go.Value.string (t15)), (Go.Value.string (t16)), (Go.Value.bool (b17)), (Go.Value.int (IntKind.i64) (x18)), (Go.Value.int (IntKind.i64) (x19)), (Go.Value.int (IntKind.i64) (x20)), (Go.Value.string (t21)), (Go.Value.slice (a22) (n23) (c24))]), (Go.Value.int (IntKind.i64) (state))] (false, [(false, [.int .i64])]) fun (((x31 : Int), _), _) =>
              π.ret (Go.Value.int (IntKind.i64) (x31))
            )
          )
        )
      )
    )
  )
def ann_turn : Ann := { draws := [(1, { A := [0, 1, 2, 3, 4, 5, 6, 7], quiet := [6] })], join := [(10, [(4, 29), (8, 137), (33, 3), (34, 4)])], loop := [] }
def la_turn : LA := { ptr := [(4, 4, 0), (13, 4, 1), (16, 4, 0), (32, 4, 0)], ty := [(4, 29)] }
set_option maxRecDepth 100000 in
theorem eq_turn {W : Type} (π : Prims W) (b : Nat) (dk : Int) (dt dn dc dp : ByteArray) (du : Bool) (dy vk vn : Int) (vs : ByteArray) (da : Option Addr) (dan dac : Nat) (state : Int) : bodyL π Try.prog la_turn ann_turn (mkFr (maskA [] [.v (.pointer (some ⟨b, 0, none⟩)), .v (.agg #[.int .i64 dk, .string dt, .string dn, .string dc, .string dp, .bool du, .int .i64 dy, .int .i64 vk, .int .i64 vn, .string vs, .slice da dan dac]), .v (.int .i64 state)] 0) 55) Try.f39 (bodyOf Try.f39) (mkFr (List.map some [.v (.pointer (some ⟨b, 0, none⟩)), .v (.agg #[.int .i64 dk, .string dt, .string dn, .string dc, .string dp, .bool du, .int .i64 dy, .int .i64 vk, .int .i64 vn, .string vs, .slice da dan dac]), .v (.int .i64 state)]) 55) = vc_turn π b dk dt dn dc dp du dy vk vn vs da dan dac state := by kernel_rfl
theorem ok_turn (b : Nat) (dk : Int) (dt dn dc dp : ByteArray) (du : Bool) (dy vk vn : Int) (vs : ByteArray) (da : Option Addr) (dan dac : Nat) (state : Int) (R : Value → PH → Prop) (s : PH) (h : vc_turn (RP Try.prog R) b dk dt dn dc dp du dy vk vn vs da dan dac state s) : DCalls Try.prog 39 (List.map AV.val [.v (.pointer (some ⟨b, 0, none⟩)), .v (.agg #[.int .i64 dk, .string dt, .string dn, .string dc, .string dp, .bool du, .int .i64 dy, .int .i64 vk, .int .i64 vn, .string vs, .slice da dan dac]), .v (.int .i64 state)]).toArray s R :=
  calls_vcL (c := bodyOf Try.f39) (ann := ann_turn) la_turn (by kernel_rfl) Try.func39 rfl (by kernel_rfl) [.v (.pointer (some ⟨b, 0, none⟩)), .v (.agg #[.int .i64 dk, .string dt, .string dn, .string dc, .string dp, .bool du, .int .i64 dy, .int .i64 vk, .int .i64 vn, .string vs, .slice da dan dac]), .v (.int .i64 state)] [] (by rw [Try.ntmps39]; exact Nat.le_of_ble_eq_true rfl) (by kernel_rfl) (by rw [show Try.f39.ntmps = 55 from Try.ntmps39, eq_turn]; exact h)
/-- lintel/schema.Turn -/
def vc_Turn {W : Type} (π : Prims W) (sv sl : Int) (sa : Option Addr) (san sac : Nat) (dk : Int) (dt dn dc dp : ByteArray) (du : Bool) (dy vk vn : Int) (vs : ByteArray) (da : Option Addr) (dan dac : Nat) (state : Int) : W :=
  π.join [(true, [.int .i64, .int .i64, .slice]), (true, [.int .i64, .str, .str, .str, .str, .bool, .int .i64, .int .i64, .int .i64, .str, .slice]), (true, [.int .i64, .int .i64, .slice])] (fun J0 =>
    π.call (20 : Nat) #[(Go.Value.agg #[(Go.Value.int (IntKind.i64) (sv)), (Go.Value.int (IntKind.i64) (sl)), (Go.Value.slice (sa) (san) (sac))])] (false, [(false, [.int .i64])]) fun (((x1 : Int), _), _) =>
    π.ite (x1 != (0 : Int)) (
      π.ret (Go.Value.tuple #[(Go.Value.agg #[(Go.Value.int (IntKind.i64) ((0 : Int))), (Go.Value.int (IntKind.i64) ((0 : Int))), (Go.Value.slice (none) ((0 : Nat)) ((0 : Nat)))]), (Go.Value.int (IntKind.i64) ((100 : Int)))])
    ) (
      π.ite (decide (state < (0 : Int))) (
        π.ret (Go.Value.tuple #[(Go.Value.agg #[(Go.Value.int (IntKind.i64) ((0 : Int))), (Go.Value.int (IntKind.i64) ((0 : Int))), (Go.Value.slice (none) ((0 : Nat)) ((0 : Nat)))]), (Go.Value.int (IntKind.i64) ((100 : Int)))])
      ) (
        π.ite (decide (state > (3 : Int))) (
          π.ret (Go.Value.tuple #[(Go.Value.agg #[(Go.Value.int (IntKind.i64) ((0 : Int))), (Go.Value.int (IntKind.i64) ((0 : Int))), (Go.Value.slice (none) ((0 : Nat)) ((0 : Nat)))]), (Go.Value.int (IntKind.i64) ((100 : Int)))])
        ) (
          J0 ((sv, sl, (sa, san, sac), ()), (dk, dt, dn, dc, dp, du, dy, vk, vn, vs, (da, dan, dac), ()), ((0 : Int), (0 : Int), (none, (0 : Nat), (0 : Nat)), ()), ())
        )
      )
    )
  ) (fun (((x2 : Int), (x3 : Int), ((a4 : Option Addr), (n5 : Nat), (c6 : Nat)), _), ((x7 : Int), (t8 : ByteArray), (t9 : ByteArray), (t10 : ByteArray), (t11 : ByteArray), (b12 : Bool), (x13 : Int), (x14 : Int), (x15 : Int), (t16 : ByteArray), ((a17 : Option Addr), (n18 : Nat), (c19 : Nat)), _), ((x20 : Int), (x21 : Int), ((a22 : Option Addr), (n23 : Nat), (c24 : Nat)), _), _) =>
    π.join [(true, [.int .i64, .int .i64, .slice]), (true, [.int .i64, .str, .str, .str, .str, .bool, .int .i64, .int .i64, .int .i64, .str, .slice]), (true, [.int .i64, .int .i64, .slice])] (fun J25 =>
      π.ite (decide (x7 < (1 : Int))) (
        π.ret (Go.Value.tuple #[(Go.Value.agg #[(Go.Value.int (IntKind.i64) ((0 : Int))), (Go.Value.int (IntKind.i64) ((0 : Int))), (Go.Value.slice (none) ((0 : Nat)) ((0 : Nat)))]), (Go.Value.int (IntKind.i64) ((1 : Int)))])
      ) (
        π.ite (decide (x7 > (7 : Int))) (
          π.ret (Go.Value.tuple #[(Go.Value.agg #[(Go.Value.int (IntKind.i64) ((0 : Int))), (Go.Value.int (IntKind.i64) ((0 : Int))), (Go.Value.slice (none) ((0 : Nat)) ((0 : Nat)))]), (Go.Value.int (IntKind.i64) ((1 : Int)))])
        ) (
          J25 ((x2, x3, (a4, n5, c6), ()), (x7, t8, t9, t10, t11, b12, x13, x14, x15, t16, (a17, n18, c19), ()), (x20, x21, (a22, n23, c24), ()), ())
        )
      )
    ) (fun (((x26 : Int), (x27 : Int), ((a28 : Option Addr), (n29 : Nat), (c30 : Nat)), _), ((x31 : Int), (t32 : ByteArray), (t33 : ByteArray), (t34 : ByteArray), (t35 : ByteArray), (b36 : Bool), (x37 : Int), (x38 : Int), (x39 : Int), (t40 : ByteArray), ((a41 : Option Addr), (n42 : Nat), (c43 : Nat)), _), ((x44 : Int), (x45 : Int), ((a46 : Option Addr), (n47 : Nat), (c48 : Nat)), _), _) =>
      π.nw (Go.Obj.cells #[(Go.Value.int (IntKind.i64) ((0 : Int))), (Go.Value.int (IntKind.i64) ((0 : Int))), (Go.Value.slice (none) ((0 : Nat)) ((0 : Nat)))] (24 : Nat) ((0 : Nat), (0 : Nat))) fun r49 =>
      π.st (Addr.mk r49 (0 : Nat) none) [(Go.Value.int (IntKind.i64) (x26)), (Go.Value.int (IntKind.i64) (x27)), (Go.Value.slice (a28) (n29) (c30))] <|
      π.ld [.int .i64] ((Addr.mk r49 (0 : Nat) none).add (0 : Nat)) fun ((x50 : Int), _) =>
      π.st ((Addr.mk r49 (0 : Nat) none).add (0 : Nat)) [(Go.Value.int (IntKind.i64) (IntKind.i64.wrap (x50 + (1 : Int))))] <|
      π.st ((Addr.mk r49 (0 : Nat) none).add (2 : Nat)) [(Go.Value.slice (none) ((0 : Nat)) ((0 : Nat)))] <|
      π.loop [(true, [.int .i64, .str, .str, .str, .str, .bool, .int .i64, .int .i64, .int .i64, .str, .slice]), (true, [.int .i64, .int .i64, .slice]), (false, [.addr]), (false, [.slice]), (false, [.int .i64]), (false, [.int .i64])] ((x31, t32, t33, t34, t35, b36, x37, x38, x39, t40, (a41, n42, c43), ()), (x44, x45, (a46, n47, c48), ()), (Addr.mk r49 (0 : Nat) none, ()), ((a28, n29, c30), ()), ((↑n29 : Int), ()), ((0 : Int), ()), ()) fun (((x52 : Int), (t53 : ByteArray), (t54 : ByteArray), (t55 : ByteArray), (t56 : ByteArray), (b57 : Bool), (x58 : Int), (x59 : Int), (x60 : Int), (t61 : ByteArray), ((a62 : Option Addr), (n63 : Nat), (c64 : Nat)), _), ((x65 : Int), (x66 : Int), ((a67 : Option Addr), (n68 : Nat), (c69 : Nat)), _), (p70, _), (((a71 : Option Addr), (n72 : Nat), (c73 : Nat)), _), ((x74 : Int), _), ((x75 : Int), _), _) again51 =>
        π.ite (decide (x75 < x74)) (
          π.guard ((0 : Int) ≤ x75 ∧ x75 < (↑n72 : Int)) <|
          π.unSome (a71) fun p76 =>
          π.ld [.int .i64, .str, .slice, .slice, .slice] (p76.add (x75.toNat * (5 : Nat))) fun ((x77 : Int), (t78 : ByteArray), ((a79 : Option Addr), (n80 : Nat), (c81 : Nat)), ((a82 : Option Addr), (n83 : Nat), (c84 : Nat)), ((a85 : Option Addr), (n86 : Nat), (c87 : Nat)), _) =>
          π.ld [.slice] (p70.add (2 : Nat)) fun (((a88 : Option Addr), (n89 : Nat), (c90 : Nat)), _) =>
          π.call (38 : Nat) #[(Go.Value.agg #[(Go.Value.int (IntKind.i64) (x77)), (Go.Value.string (t78)), (Go.Value.slice (a79) (n80) (c81)), (Go.Value.slice (a82) (n83) (c84)), (Go.Value.slice (a85) (n86) (c87))])] (false, [(true, [.int .i64, .str, .slice, .slice, .slice])]) fun (((x91 : Int), (t92 : ByteArray), ((a93 : Option Addr), (n94 : Nat), (c95 : Nat)), ((a96 : Option Addr), (n97 : Nat), (c98 : Nat)), ((a99 : Option Addr), (n100 : Nat), (c101 : Nat)), _), _) =>
          π.still [.slice] (p70.add (2 : Nat)) ((a88, n89, c90), ()) <|
          π.nw (Go.Obj.cells #[(Go.Value.int (IntKind.i64) (x91)), (Go.Value.string (t92)), (Go.Value.slice (a93) (n94) (c95)), (Go.Value.slice (a96) (n97) (c98)), (Go.Value.slice (a99) (n100) (c101))] (42 : Nat) ((0 : Nat), (0 : Nat))) fun r102 =>
          π.app (42 : Nat) (5 : Nat) (96 : Nat) [(Go.Value.int (IntKind.i64) ((0 : Int))), (Go.Value.string (ByteArray.mk #[])), (Go.Value.slice (none) ((0 : Nat)) ((0 : Nat))), (Go.Value.slice (none) ((0 : Nat)) ((0 : Nat))), (Go.Value.slice (none) ((0 : Nat)) ((0 : Nat)))] (a88) (n89) (c90) (Src.sl (some (Addr.mk r102 (0 : Nat) none)) (1 : Nat)) fun a103 n104 c105 =>
          π.st (p70.add (2 : Nat)) [(Go.Value.slice (a103) (n104) (c105))] <|
          again51 ((x52, t53, t54, t55, t56, b57, x58, x59, x60, t61, (a62, n63, c64), ()), (x65, x66, (a67, n68, c69), ()), (p70, ()), ((a71, n72, c73), ()), (x74, ()), (IntKind.i64.wrap (x75 + (1 : Int)), ()), ())
        ) (
          π.call (39 : Nat) #[(Go.Value.pointer (some p70)), (Go.Value.agg #[(Go.Value.int (IntKind.i64) (x52)), (Go.Value.string (t53)), (Go.Value.string (t54)), (Go.Value.string (t55)), (Go.Value.string (t56)), (Go.Value.bool (b57)), (Go.Value.int (IntKind.i64) (x58)), (Go.Value.int (IntKind.i64) (x59)), (Go.Value.int (IntKind.i64) (x60)), (Go.Value.string (t61)), (Go.Value.slice (a62) (n63) (c64))]), (Go.Value.int (IntKind.i64) (state))] (false, [(false, [.int .i64])]) fun (((x106 : Int), _), _) =>
          π.ite (x106 != (0 : Int)) (
            π.ret (Go.Value.tuple #[(Go.Value.agg #[(Go.Value.int (IntKind.i64) ((0 : Int))), (Go.Value.int (IntKind.i64) ((0 : Int))), (Go.Value.slice (none) ((0 : Nat)) ((0 : Nat)))]), (Go.Value.int (IntKind.i64) (x106))])
          ) (
            π.ld [.int .i64, .int .i64, .slice] (p70) fun ((x107 : Int), (x108 : Int), ((a109 : Option Addr), (n110 : Nat), (c111 : Nat)), _) =>
            π.ret (Go.Value.tuple #[(Go.Value.agg #[(Go.Value.int (IntKind.i64) (x107)), (Go.Value.int (IntKind.i64) (x108)), (Go.Value.slice (a109) (n110) (c111))]), (Go.Value.int (IntKind.i64) ((0 : Int)))])
          )
        )
    )
  )
def ann_Turn : Ann := { draws := [(11, { A := [0, 1, 2], chkL := [(3, [1])], eag := [6] })], join := [(3, [(3, 24), (4, 29), (6, 24)]), (5, [(3, 24), (4, 29), (6, 24)])], loop := [(9, [(4, 29), (6, 24), (8, 1000000), (40, 22), (41, 3), (42, 3)])] }
def la_Turn : LA := { ptr := [(3, 3, 0), (4, 4, 0), (6, 6, 0), (10, 10, 0), (24, 4, 0), (28, 4, 0), (39, 3, 2)], ty := [(3, 24), (4, 29), (6, 24), (10, 42)] }
set_option maxRecDepth 100000 in
theorem eq_Turn {W : Type} (π : Prims W) (sv sl : Int) (sa : Option Addr) (san sac : Nat) (dk : Int) (dt dn dc dp : ByteArray) (du : Bool) (dy vk vn : Int) (vs : ByteArray) (da : Option Addr) (dan dac : Nat) (state : Int) : bodyL π Try.prog la_Turn ann_Turn (mkFr (maskA [] [.v (.agg #[.int .i64 sv, .int .i64 sl, .slice sa san sac]), .v (.agg #[.int .i64 dk, .string dt, .string dn, .string dc, .string dp, .bool du, .int .i64 dy, .int .i64 vk, .int .i64 vn, .string vs, .slice da dan dac]), .v (.int .i64 state)] 0) 62) Try.f14 (bodyOf Try.f14) (mkFr (List.map some [.v (.agg #[.int .i64 sv, .int .i64 sl, .slice sa san sac]), .v (.agg #[.int .i64 dk, .string dt, .string dn, .string dc, .string dp, .bool du, .int .i64 dy, .int .i64 vk, .int .i64 vn, .string vs, .slice da dan dac]), .v (.int .i64 state)]) 62) = vc_Turn π sv sl sa san sac dk dt dn dc dp du dy vk vn vs da dan dac state := by kernel_rfl
theorem ok_Turn (sv sl : Int) (sa : Option Addr) (san sac : Nat) (dk : Int) (dt dn dc dp : ByteArray) (du : Bool) (dy vk vn : Int) (vs : ByteArray) (da : Option Addr) (dan dac : Nat) (state : Int) (R : Value → PH → Prop) (s : PH) (h : vc_Turn (RP Try.prog R) sv sl sa san sac dk dt dn dc dp du dy vk vn vs da dan dac state s) : DCalls Try.prog 14 (List.map AV.val [.v (.agg #[.int .i64 sv, .int .i64 sl, .slice sa san sac]), .v (.agg #[.int .i64 dk, .string dt, .string dn, .string dc, .string dp, .bool du, .int .i64 dy, .int .i64 vk, .int .i64 vn, .string vs, .slice da dan dac]), .v (.int .i64 state)]).toArray s R :=
  calls_vcL (c := bodyOf Try.f14) (ann := ann_Turn) la_Turn (by kernel_rfl) Try.func14 rfl (by kernel_rfl) [.v (.agg #[.int .i64 sv, .int .i64 sl, .slice sa san sac]), .v (.agg #[.int .i64 dk, .string dt, .string dn, .string dc, .string dp, .bool du, .int .i64 dy, .int .i64 vk, .int .i64 vn, .string vs, .slice da dan dac]), .v (.int .i64 state)] [] (by rw [Try.ntmps14]; exact Nat.le_of_ble_eq_true rfl) (by kernel_rfl) (by rw [show Try.f14.ntmps = 62 from Try.ntmps14, eq_Turn]; exact h)
/-- lintel/schema.Path$1 -/
def vc_bump {W : Type} (π : Prims W) (state : Int) : W :=
  π.ret (Go.Value.agg #[(Go.Value.int (IntKind.i64) ((1 : Int))), (Go.Value.int (IntKind.i64) (state))])
def ann_bump : Ann := { draws := [], join := [], loop := [] }
def la_bump : LA := { ptr := [(2, 2, 0)], ty := [(2, 56)] }
set_option maxRecDepth 100000 in
theorem eq_bump {W : Type} (π : Prims W) (state : Int) : bodyL π Try.prog la_bump ann_bump (mkFr (maskA [] [.v (.int .i64 state)] 0) 5) Try.f63 (bodyOf Try.f63) (mkFr (List.map some [.v (.int .i64 state)]) 5) = vc_bump π state := by kernel_rfl
theorem ok_bump (state : Int) (R : Value → PH → Prop) (s : PH) (h : vc_bump (RP Try.prog R) state s) : DCalls Try.prog 63 (List.map AV.val [.v (.int .i64 state)]).toArray s R :=
  calls_vcL (c := bodyOf Try.f63) (ann := ann_bump) la_bump (by kernel_rfl) Try.func63 rfl (by kernel_rfl) [.v (.int .i64 state)] [] (by rw [Try.ntmps63]; exact Nat.le_of_ble_eq_true rfl) (by kernel_rfl) (by rw [show Try.f63.ntmps = 5 from Try.ntmps63, eq_bump]; exact h)
/-- lintel/schema.Path -/
def vc_Path {W : Type} (π : Prims W) (dk : Int) (dt dn dc dp : ByteArray) (du : Bool) (dy vk vn : Int) (vs : ByteArray) (da : Option Addr) (dan dac : Nat) (back : Bool) : W :=
  π.join [(true, [.int .i64, .str, .str, .str, .str, .bool, .int .i64, .int .i64, .int .i64, .str, .slice]), (false, [.raw]), (true, [.int .i64, .int .i64]), (true, [.int .i64, .int .i64]), (true, [.int .i64, .int .i64])] (fun J0 =>
    π.join [(true, [.int .i64, .str, .str, .str, .str, .bool, .int .i64, .int .i64, .int .i64, .str, .slice]), (false, [.raw]), (true, [.int .i64, .int .i64]), (true, [.int .i64, .int .i64]), (true, [.int .i64, .int .i64]), (false, [.bool])] (fun J1 =>
      π.ite (back) (
        J1 ((dk, dt, dn, dc, dp, du, dy, vk, vn, vs, (da, dan, dac), ()), ((Go.Value.func (Fn.func (63 : Nat)) #[] #[]), ()), ((3 : Int), (0 : Int), ()), ((4 : Int), (0 : Int), ()), ((5 : Int), (0 : Int), ()), (dk == (2 : Int), ()), ())
      ) (
        J1 ((dk, dt, dn, dc, dp, du, dy, vk, vn, vs, (da, dan, dac), ()), ((Go.Value.func (Fn.func (63 : Nat)) #[] #[]), ()), ((3 : Int), (0 : Int), ()), ((4 : Int), (0 : Int), ()), ((5 : Int), (0 : Int), ()), (false, ()), ())
      )
    ) (fun (((x2 : Int), (t3 : ByteArray), (t4 : ByteArray), (t5 : ByteArray), (t6 : ByteArray), (b7 : Bool), (x8 : Int), (x9 : Int), (x10 : Int), (t11 : ByteArray), ((a12 : Option Addr), (n13 : Nat), (c14 : Nat)), _), ((v15 : Value), _), ((x16 : Int), (x17 : Int), _), ((x18 : Int), (x19 : Int), _), ((x20 : Int), (x21 : Int), _), ((b22 : Bool), _), _) =>
      π.ite (b22) (
        π.callV v15 #[(Go.Value.int (IntKind.i64) ((1 : Int)))] (false, [(true, [.int .i64, .int .i64])]) fun (((x23 : Int), (x24 : Int), _), _) =>
        π.callV v15 #[(Go.Value.int (IntKind.i64) ((0 : Int)))] (false, [(true, [.int .i64, .int .i64])]) fun (((x25 : Int), (x26 : Int), _), _) =>
        π.nw (Go.Obj.cells #[(Go.Value.int (IntKind.i64) (x23)), (Go.Value.int (IntKind.i64) (x24)), (Go.Value.int (IntKind.i64) (x16)), (Go.Value.int (IntKind.i64) (x17)), (Go.Value.int (IntKind.i64) (x20)), (Go.Value.int (IntKind.i64) (x21)), (Go.Value.int (IntKind.i64) (x25)), (Go.Value.int (IntKind.i64) (x26))] (56 : Nat) ((0 : Nat), (0 : Nat))) fun r27 =>
        π.ret (Go.Value.slice (some (Addr.mk r27 (0 : Nat) none)) ((4 : Nat)) ((4 : Nat)))
      ) (
        π.join [(true, [.int .i64, .str, .str, .str, .str, .bool, .int .i64, .int .i64, .int .i64, .str, .slice]), (false, [.raw]), (true, [.int .i64, .int .i64]), (true, [.int .i64, .int .i64]), (true, [.int .i64, .int .i64]), (false, [.bool])] (fun J28 =>
          π.ite (back) (
            J28 ((x2, t3, t4, t5, t6, b7, x8, x9, x10, t11, (a12, n13, c14), ()), (v15, ()), (x16, x17, ()), (x18, x19, ()), (x20, x21, ()), (x2 == (4 : Int), ()), ())
          ) (
            J28 ((x2, t3, t4, t5, t6, b7, x8, x9, x10, t11, (a12, n13, c14), ()), (v15, ()), (x16, x17, ()), (x18, x19, ()), (x20, x21, ()), (false, ()), ())
          )
        ) (fun (((x29 : Int), (t30 : ByteArray), (t31 : ByteArray), (t32 : ByteArray), (t33 : ByteArray), (b34 : Bool), (x35 : Int), (x36 : Int), (x37 : Int), (t38 : ByteArray), ((a39 : Option Addr), (n40 : Nat), (c41 : Nat)), _), ((v42 : Value), _), ((x43 : Int), (x44 : Int), _), ((x45 : Int), (x46 : Int), _), ((x47 : Int), (x48 : Int), _), ((b49 : Bool), _), _) =>
          π.ite (b49) (
            π.callV v42 #[(Go.Value.int (IntKind.i64) ((1 : Int)))] (false, [(true, [.int .i64, .int .i64])]) fun (((x50 : Int), (x51 : Int), _), _) =>
            π.callV v42 #[(Go.Value.int (IntKind.i64) ((0 : Int)))] (false, [(true, [.int .i64, .int .i64])]) fun (((x52 : Int), (x53 : Int), _), _) =>
            π.nw (Go.Obj.cells #[(Go.Value.int (IntKind.i64) (x50)), (Go.Value.int (IntKind.i64) (x51)), (Go.Value.int (IntKind.i64) (x52)), (Go.Value.int (IntKind.i64) (x53))] (56 : Nat) ((0 : Nat), (0 : Nat))) fun r54 =>
            π.ret (Go.Value.slice (some (Addr.mk r54 (0 : Nat) none)) ((2 : Nat)) ((2 : Nat)))
          ) (
            π.ite (back) (
              π.ite (x29 == (6 : Int)) (
                π.callV v42 #[(Go.Value.int (IntKind.i64) ((0 : Int)))] (false, [(true, [.int .i64, .int .i64])]) fun (((x55 : Int), (x56 : Int), _), _) =>
                π.nw (Go.Obj.cells #[(Go.Value.int (IntKind.i64) (x55)), (Go.Value.int (IntKind.i64) (x56))] (56 : Nat) ((0 : Nat), (0 : Nat))) fun r57 =>
                π.ret (Go.Value.slice (some (Addr.mk r57 (0 : Nat) none)) ((1 : Nat)) ((1 : Nat)))
              ) (
                π.ite (back) (
                  π.ret (Go.Value.slice (none) ((0 : Nat)) ((0 : Nat)))
                ) (
                  J0 ((x29, t30, t31, t32, t33, b34, x35, x36, x37, t38, (a39, n40, c41), ()), (v42, ()), (x43, x44, ()), (x45, x46, ()), (x47, x48, ()), ())
                )
              )
            ) (
              π.ite (back) (
                π.ret (Go.Value.slice (none) ((0 : Nat)) ((0 : Nat)))
              ) (
                J0 ((x29, t30, t31, t32, t33, b34, x35, x36, x37, t38, (a39, n40, c41), ()), (v42, ()), (x43, x44, ()), (x45, x46, ()), (x47, x48, ()), ())
              )
            )
          )
        )
      )
    )
  ) (fun (((x58 : Int), (t59 : ByteArray), (t60 : ByteArray), (t61 : ByteArray), (t62 : ByteArray), (b63 : Bool), (x64 : Int), (x65 : Int), (x66 : Int), (t67 : ByteArray), ((a68 : Option Addr), (n69 : Nat), (c70 : Nat)), _), ((v71 : Value), _), ((x72 : Int), (x73 : Int), _), ((x74 : Int), (x75 : Int), _), ((x76 : Int), (x77 : Int), _), _) =>
    π.ite (x58 == (1 : Int)) (
      π.callV v71 #[(Go.Value.int (IntKind.i64) ((3 : Int)))] (false, [(true, [.int .i64, .int .i64])]) fun (((x78 : Int), (x79 : Int), _), _) =>
      π.nw (Go.Obj.cells #[(Go.Value.int (IntKind.i64) (x78)), (Go.Value.int (IntKind.i64) (x79))] (56 : Nat) ((0 : Nat), (0 : Nat))) fun r80 =>
      π.ret (Go.Value.slice (some (Addr.mk r80 (0 : Nat) none)) ((1 : Nat)) ((1 : Nat)))
    ) (
      π.ite (x58 == (2 : Int)) (
        π.callV v71 #[(Go.Value.int (IntKind.i64) ((1 : Int)))] (false, [(true, [.int .i64, .int .i64])]) fun (((x81 : Int), (x82 : Int), _), _) =>
        π.callV v71 #[(Go.Value.int (IntKind.i64) ((2 : Int)))] (false, [(true, [.int .i64, .int .i64])]) fun (((x83 : Int), (x84 : Int), _), _) =>
        π.callV v71 #[(Go.Value.int (IntKind.i64) ((3 : Int)))] (false, [(true, [.int .i64, .int .i64])]) fun (((x85 : Int), (x86 : Int), _), _) =>
        π.nw (Go.Obj.cells #[(Go.Value.int (IntKind.i64) (x81)), (Go.Value.int (IntKind.i64) (x82)), (Go.Value.int (IntKind.i64) (x83)), (Go.Value.int (IntKind.i64) (x84)), (Go.Value.int (IntKind.i64) (x72)), (Go.Value.int (IntKind.i64) (x73)), (Go.Value.int (IntKind.i64) (x74)), (Go.Value.int (IntKind.i64) (x75)), (Go.Value.int (IntKind.i64) (x85)), (Go.Value.int (IntKind.i64) (x86))] (56 : Nat) ((0 : Nat), (0 : Nat))) fun r87 =>
        π.ret (Go.Value.slice (some (Addr.mk r87 (0 : Nat) none)) ((5 : Nat)) ((5 : Nat)))
      ) (
        π.ite (x58 == (3 : Int)) (
          π.callV v71 #[(Go.Value.int (IntKind.i64) ((2 : Int)))] (false, [(true, [.int .i64, .int .i64])]) fun (((x88 : Int), (x89 : Int), _), _) =>
          π.callV v71 #[(Go.Value.int (IntKind.i64) ((1 : Int)))] (false, [(true, [.int .i64, .int .i64])]) fun (((x90 : Int), (x91 : Int), _), _) =>
          π.callV v71 #[(Go.Value.int (IntKind.i64) ((0 : Int)))] (false, [(true, [.int .i64, .int .i64])]) fun (((x92 : Int), (x93 : Int), _), _) =>
          π.nw (Go.Obj.cells #[(Go.Value.int (IntKind.i64) (x88)), (Go.Value.int (IntKind.i64) (x89)), (Go.Value.int (IntKind.i64) (x90)), (Go.Value.int (IntKind.i64) (x91)), (Go.Value.int (IntKind.i64) (x72)), (Go.Value.int (IntKind.i64) (x73)), (Go.Value.int (IntKind.i64) (x76)), (Go.Value.int (IntKind.i64) (x77)), (Go.Value.int (IntKind.i64) (x92)), (Go.Value.int (IntKind.i64) (x93))] (56 : Nat) ((0 : Nat), (0 : Nat))) fun r94 =>
          π.ret (Go.Value.slice (some (Addr.mk r94 (0 : Nat) none)) ((5 : Nat)) ((5 : Nat)))
        ) (
          π.ite (x58 == (4 : Int)) (
            π.callV v71 #[(Go.Value.int (IntKind.i64) ((1 : Int)))] (false, [(true, [.int .i64, .int .i64])]) fun (((x95 : Int), (x96 : Int), _), _) =>
            π.callV v71 #[(Go.Value.int (IntKind.i64) ((2 : Int)))] (false, [(true, [.int .i64, .int .i64])]) fun (((x97 : Int), (x98 : Int), _), _) =>
            π.nw (Go.Obj.cells #[(Go.Value.int (IntKind.i64) (x95)), (Go.Value.int (IntKind.i64) (x96)), (Go.Value.int (IntKind.i64) (x97)), (Go.Value.int (IntKind.i64) (x98)), (Go.Value.int (IntKind.i64) (x72)), (Go.Value.int (IntKind.i64) (x73)), (Go.Value.int (IntKind.i64) (x74)), (Go.Value.int (IntKind.i64) (x75)), (Go.Value.int (IntKind.i64) ((2 : Int))), (Go.Value.int (IntKind.i64) ((3 : Int)))] (56 : Nat) ((0 : Nat), (0 : Nat))) fun r99 =>
            π.ret (Go.Value.slice (some (Addr.mk r99 (0 : Nat) none)) ((5 : Nat)) ((5 : Nat)))
          ) (
            π.ite (x58 == (5 : Int)) (
              π.callV v71 #[(Go.Value.int (IntKind.i64) ((1 : Int)))] (false, [(true, [.int .i64, .int .i64])]) fun (((x100 : Int), (x101 : Int), _), _) =>
              π.callV v71 #[(Go.Value.int (IntKind.i64) ((0 : Int)))] (false, [(true, [.int .i64, .int .i64])]) fun (((x102 : Int), (x103 : Int), _), _) =>
              π.nw (Go.Obj.cells #[(Go.Value.int (IntKind.i64) ((2 : Int))), (Go.Value.int (IntKind.i64) ((2 : Int))), (Go.Value.int (IntKind.i64) (x100)), (Go.Value.int (IntKind.i64) (x101)), (Go.Value.int (IntKind.i64) (x102)), (Go.Value.int (IntKind.i64) (x103))] (56 : Nat) ((0 : Nat), (0 : Nat))) fun r104 =>
              π.ret (Go.Value.slice (some (Addr.mk r104 (0 : Nat) none)) ((3 : Nat)) ((3 : Nat)))
            ) (
              π.ite (x58 == (6 : Int)) (
                π.callV v71 #[(Go.Value.int (IntKind.i64) ((2 : Int)))] (false, [(true, [.int .i64, .int .i64])]) fun (((x105 : Int), (x106 : Int), _), _) =>
                π.callV v71 #[(Go.Value.int (IntKind.i64) ((3 : Int)))] (false, [(true, [.int .i64, .int .i64])]) fun (((x107 : Int), (x108 : Int), _), _) =>
                π.nw (Go.Obj.cells #[(Go.Value.int (IntKind.i64) (x105)), (Go.Value.int (IntKind.i64) (x106)), (Go.Value.int (IntKind.i64) (x72)), (Go.Value.int (IntKind.i64) (x73)), (Go.Value.int (IntKind.i64) (x74)), (Go.Value.int (IntKind.i64) (x75)), (Go.Value.int (IntKind.i64) (x107)), (Go.Value.int (IntKind.i64) (x108))] (56 : Nat) ((0 : Nat), (0 : Nat))) fun r109 =>
                π.ret (Go.Value.slice (some (Addr.mk r109 (0 : Nat) none)) ((4 : Nat)) ((4 : Nat)))
              ) (
                π.ite (x58 == (7 : Int)) (
                  π.callV v71 #[(Go.Value.int (IntKind.i64) ((0 : Int)))] (false, [(true, [.int .i64, .int .i64])]) fun (((x110 : Int), (x111 : Int), _), _) =>
                  π.nw (Go.Obj.cells #[(Go.Value.int (IntKind.i64) (x110)), (Go.Value.int (IntKind.i64) (x111))] (56 : Nat) ((0 : Nat), (0 : Nat))) fun r112 =>
                  π.ret (Go.Value.slice (some (Addr.mk r112 (0 : Nat) none)) ((1 : Nat)) ((1 : Nat)))
                ) (
                  π.ret (Go.Value.slice (none) ((0 : Nat)) ((0 : Nat)))
                )
              )
            )
          )
        )
      )
    )
  )
def ann_Path : Ann := { draws := [(4, { A := [0, 2, 3, 4], chkL := [(1, [2, 3]), (5, [2, 3])], eag := [7] }), (15, { A := [0, 2, 4, 5, 6], chkL := [(1, [4, 5]), (3, [4, 5]), (7, [4, 5])], eag := [9] }), (17, { A := [0, 2, 4, 5, 6], chkL := [(1, [4, 5]), (3, [4, 5]), (7, [4, 5])], eag := [9] }), (19, { A := [0, 2, 4, 5, 6], chkL := [(1, [4, 5]), (3, [4, 5])], eag := [8] }), (23, { A := [0, 2, 3, 4], chkL := [(1, [2, 3]), (5, [2, 3])], eag := [7] })], join := [(4, [(2, 29), (5, 123), (6, 56), (7, 56), (8, 56), (12, 4)]), (6, [(2, 29), (5, 123), (6, 56), (7, 56), (8, 56), (26, 4)]), (11, [(2, 29), (5, 123), (6, 56), (7, 56), (8, 56)])], loop := [] }
def la_Path : LA := { ptr := [(2, 2, 0), (6, 6, 0), (7, 7, 0), (8, 8, 0), (15, 2, 0), (29, 2, 0), (41, 2, 0), (50, 2, 0)], ty := [(2, 29), (6, 56), (7, 56), (8, 56)] }
set_option maxRecDepth 100000 in
theorem eq_Path {W : Type} (π : Prims W) (dk : Int) (dt dn dc dp : ByteArray) (du : Bool) (dy vk vn : Int) (vs : ByteArray) (da : Option Addr) (dan dac : Nat) (back : Bool) : bodyL π Try.prog la_Path ann_Path (mkFr (maskA [] [.v (.agg #[.int .i64 dk, .string dt, .string dn, .string dc, .string dp, .bool du, .int .i64 dy, .int .i64 vk, .int .i64 vn, .string vs, .slice da dan dac]), .v (.bool back)] 0) 111) Try.f23 (bodyOf Try.f23) (mkFr (List.map some [.v (.agg #[.int .i64 dk, .string dt, .string dn, .string dc, .string dp, .bool du, .int .i64 dy, .int .i64 vk, .int .i64 vn, .string vs, .slice da dan dac]), .v (.bool back)]) 111) = vc_Path π dk dt dn dc dp du dy vk vn vs da dan dac back := by kernel_rfl
theorem ok_Path (dk : Int) (dt dn dc dp : ByteArray) (du : Bool) (dy vk vn : Int) (vs : ByteArray) (da : Option Addr) (dan dac : Nat) (back : Bool) (R : Value → PH → Prop) (s : PH) (h : vc_Path (RP Try.prog R) dk dt dn dc dp du dy vk vn vs da dan dac back s) : DCalls Try.prog 23 (List.map AV.val [.v (.agg #[.int .i64 dk, .string dt, .string dn, .string dc, .string dp, .bool du, .int .i64 dy, .int .i64 vk, .int .i64 vn, .string vs, .slice da dan dac]), .v (.bool back)]).toArray s R :=
  calls_vcL (c := bodyOf Try.f23) (ann := ann_Path) la_Path (by kernel_rfl) Try.func23 rfl (by kernel_rfl) [.v (.agg #[.int .i64 dk, .string dt, .string dn, .string dc, .string dp, .bool du, .int .i64 dy, .int .i64 vk, .int .i64 vn, .string vs, .slice da dan dac]), .v (.bool back)] [] (by rw [Try.ntmps23]; exact Nat.le_of_ble_eq_true rfl) (by kernel_rfl) (by rw [show Try.f23.ntmps = 111 from Try.ntmps23, eq_Path]; exact h)
end Go.Proofs.Ythepfbcgpbkbdaa
end
