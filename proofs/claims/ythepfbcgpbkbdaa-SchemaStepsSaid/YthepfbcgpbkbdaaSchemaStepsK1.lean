/-
  Part 1 for the law: texts of this session's own, those parts that the claim needs, one behind the other.
  Conditions: none; it proves no statement by itself.
-/
import Derived.Test.YthepfbcgpbkbdaaFwQ
import Derived.Test.YthepfbcgpbkbdaaFwU
import Derived.Test.YthepfbcgpbkbdaaProg
import Derived.Test.YthepfbcgpbkbdaaFwW
import Derived.Test.YthepfbcgpbkbdaaFwO
import Derived.WalkKit
import Derived.ProofKit
import Derived.OpenShut
import Derived.ShutString
import Derived.ChangeOld
import Derived.Below
import Derived.SizedLaws
set_option linter.unusedVariables false
set_option linter.unusedSectionVars false
set_option linter.unusedSimpArgs false
section
set_option linter.unusedVariables false
set_option maxHeartbeats 1000000
namespace Go.Proofs.Ythepfbcgpbkbdaa
open Fw Fw.W Go
/-- lintel/schema.named -/
def vc_named {W : Type} (π : Prims W) (tx : ByteArray) : W :=
  π.ite (decide ((↑tx.size : Int) < (1 : Int))) (
    π.ret (Go.Value.bool (false))
  ) (
    π.ite (decide ((↑tx.size : Int) > (16 : Int))) (
      π.ret (Go.Value.bool (false))
    ) (
      π.loop [(false, [.int .i64]), (false, [.int .i64])] (((↑tx.size : Int), ()), ((0 : Int), ()), ()) fun (((x1 : Int), _), ((x2 : Int), _), _) again0 =>
        π.ite (decide (x2 < x1)) (
          π.guard ((0 : Int) ≤ x2 ∧ x2 < (↑tx.size : Int)) <|
          π.ite (decide ((↑(tx[x2.toNat]?.getD (0 : UInt8)).toNat : Int) ≥ (97 : Int))) (
            π.ite (!decide ((↑(tx[x2.toNat]?.getD (0 : UInt8)).toNat : Int) ≤ (122 : Int))) (
              π.ite (x2 == (0 : Int)) (
                π.ret (Go.Value.bool (false))
              ) (
                π.ite ((↑(tx[x2.toNat]?.getD (0 : UInt8)).toNat : Int) != (95 : Int)) (
                  π.ite (decide ((↑(tx[x2.toNat]?.getD (0 : UInt8)).toNat : Int) < (48 : Int))) (
                    π.ret (Go.Value.bool (false))
                  ) (
                    π.ite (decide ((↑(tx[x2.toNat]?.getD (0 : UInt8)).toNat : Int) > (57 : Int))) (
                      π.ret (Go.Value.bool (false))
                    ) (
                      again0 ((x1, ()), (IntKind.i64.wrap (x2 + (1 : Int)), ()), ())
                    )
                  )
                ) (
                  again0 ((x1, ()), (IntKind.i64.wrap (x2 + (1 : Int)), ()), ())
                )
              )
            ) (
              again0 ((x1, ()), (IntKind.i64.wrap (x2 + (1 : Int)), ()), ())
            )
          ) (
            π.ite (x2 == (0 : Int)) (
              π.ret (Go.Value.bool (false))
            ) (
              π.ite ((↑(tx[x2.toNat]?.getD (0 : UInt8)).toNat : Int) != (95 : Int)) (
                π.ite (decide ((↑(tx[x2.toNat]?.getD (0 : UInt8)).toNat : Int) < (48 : Int))) (
                  π.ret (Go.Value.bool (false))
                ) (
                  π.ite (decide ((↑(tx[x2.toNat]?.getD (0 : UInt8)).toNat : Int) > (57 : Int))) (
                    π.ret (Go.Value.bool (false))
                  ) (
                    again0 ((x1, ()), (IntKind.i64.wrap (x2 + (1 : Int)), ()), ())
                  )
                )
              ) (
                again0 ((x1, ()), (IntKind.i64.wrap (x2 + (1 : Int)), ()), ())
              )
            )
          )
        ) (
          π.ret (Go.Value.bool (true))
        )
    )
  )
def ann_named : Ann := { draws := [], join := [], loop := [(4, [(15, 3), (16, 3)])] }
def la_named : LA := { ptr := [], ty := [] }
set_option maxRecDepth 100000 in
theorem eq_named {W : Type} (π : Prims W) (tx : ByteArray) : bodyL π Try.prog la_named ann_named (mkFr (maskA [] [.v (.string tx)] 0) 47) Try.f91 (bodyOf Try.f91) (mkFr (List.map some [.v (.string tx)]) 47) = vc_named π tx := by kernel_rfl
theorem ok_named (tx : ByteArray) (R : Value → PH → Prop) (s : PH) (h : vc_named (RP Try.prog R) tx s) : DCalls Try.prog 91 (List.map AV.val [.v (.string tx)]).toArray s R :=
  calls_vcL (c := bodyOf Try.f91) (ann := ann_named) la_named (by kernel_rfl) Try.func91 rfl (by kernel_rfl) [.v (.string tx)] [] (by rw [Try.ntmps91]; exact Nat.le_of_ble_eq_true rfl) (by kernel_rfl) (by rw [show Try.f91.ntmps = 47 from Try.ntmps91, eq_named]; exact h)
/-- lintel/schema.kind -/
def vc_kind {W : Type} (π : Prims W) (k : Int) : W :=
  π.ite (k == (1 : Int)) (
    π.ret (Go.Value.bool (true))
  ) (
    π.ret (Go.Value.bool (k == (2 : Int)))
  )
def ann_kind : Ann := { draws := [], join := [], loop := [] }
def la_kind : LA := { ptr := [], ty := [] }
set_option maxRecDepth 100000 in
theorem eq_kind {W : Type} (π : Prims W) (k : Int) : bodyL π Try.prog la_kind ann_kind (mkFr (maskA [] [.v (.int .i64 k)] 0) 9) Try.f100 (bodyOf Try.f100) (mkFr (List.map some [.v (.int .i64 k)]) 9) = vc_kind π k := by kernel_rfl
theorem ok_kind (k : Int) (R : Value → PH → Prop) (s : PH) (h : vc_kind (RP Try.prog R) k s) : DCalls Try.prog 100 (List.map AV.val [.v (.int .i64 k)]).toArray s R :=
  calls_vcL (c := bodyOf Try.f100) (ann := ann_kind) la_kind (by kernel_rfl) Try.func100 rfl (by kernel_rfl) [.v (.int .i64 k)] [] (by rw [Try.ntmps100]; exact Nat.le_of_ble_eq_true rfl) (by kernel_rfl) (by rw [show Try.f100.ntmps = 9 from Try.ntmps100, eq_kind]; exact h)
/-- lintel/value.Check -/
def vc_vCheck {W : Type} (π : Prims W) (vk vn : Int) (vs : ByteArray) : W :=
  π.ite (vk == (0 : Int)) (
    π.ite (vn == (0 : Int)) (
      π.ite (!vs.toList == (ByteArray.mk #[]).toList) (
        π.ret (Go.Value.int (IntKind.i64) ((10 : Int)))
      ) (
        π.ret (Go.Value.int (IntKind.i64) ((0 : Int)))
      )
    ) (
      π.ret (Go.Value.int (IntKind.i64) ((10 : Int)))
    )
  ) (
    π.ite (vk == (1 : Int)) (
      π.ite (!vs.toList == (ByteArray.mk #[]).toList) (
        π.ret (Go.Value.int (IntKind.i64) ((10 : Int)))
      ) (
        π.ret (Go.Value.int (IntKind.i64) ((0 : Int)))
      )
    ) (
      π.ite (vk == (2 : Int)) (
        π.ite (vn == (0 : Int)) (
          π.ite (!decide ((↑vs.size : Int) ≤ (64 : Int))) (
            π.ret (Go.Value.int (IntKind.i64) ((10 : Int)))
          ) (
            π.ret (Go.Value.int (IntKind.i64) ((0 : Int)))
          )
        ) (
          π.ret (Go.Value.int (IntKind.i64) ((10 : Int)))
        )
      ) (
        π.ret (Go.Value.int (IntKind.i64) ((10 : Int)))
      )
    )
  )
def ann_vCheck : Ann := { draws := [], join := [], loop := [] }
def la_vCheck : LA := { ptr := [(1, 1, 0), (4, 1, 0), (8, 1, 1), (12, 1, 2), (18, 1, 2), (23, 1, 1), (27, 1, 2)], ty := [(1, 26)] }
set_option maxRecDepth 100000 in
theorem eq_vCheck {W : Type} (π : Prims W) (vk vn : Int) (vs : ByteArray) : bodyL π Try.prog la_vCheck ann_vCheck (mkFr (maskA [] [.v (.agg #[.int .i64 vk, .int .i64 vn, .string vs])] 0) 34) Try.f133 (bodyOf Try.f133) (mkFr (List.map some [.v (.agg #[.int .i64 vk, .int .i64 vn, .string vs])]) 34) = vc_vCheck π vk vn vs := by kernel_rfl
theorem ok_vCheck (vk vn : Int) (vs : ByteArray) (R : Value → PH → Prop) (s : PH) (h : vc_vCheck (RP Try.prog R) vk vn vs s) : DCalls Try.prog 133 (List.map AV.val [.v (.agg #[.int .i64 vk, .int .i64 vn, .string vs])]).toArray s R :=
  calls_vcL (c := bodyOf Try.f133) (ann := ann_vCheck) la_vCheck (by kernel_rfl) Try.func133 rfl (by kernel_rfl) [.v (.agg #[.int .i64 vk, .int .i64 vn, .string vs])] [] (by rw [Try.ntmps133]; exact Nat.le_of_ble_eq_true rfl) (by kernel_rfl) (by rw [show Try.f133.ntmps = 34 from Try.ntmps133, eq_vCheck]; exact h)
/-- lintel/schema.fits -/
def vc_fits {W : Type} (π : Prims W) (vk vn : Int) (vs : ByteArray) (k : Int) : W :=
  π.call (133 : Nat) #[(Go.Value.agg #[(Go.Value.int (IntKind.i64) (vk)), (Go.Value.int (IntKind.i64) (vn)), (Go.Value.string (vs))])] (false, [(false, [.int .i64])]) fun (((x0 : Int), _), _) =>
  π.ite (x0 == (0 : Int)) (
    π.ite (vk == (0 : Int)) (
      π.ret (Go.Value.bool (true))
    ) (
      π.ret (Go.Value.bool (vk == k))
    )
  ) (
    π.ret (Go.Value.bool (false))
  )
def ann_fits : Ann := { draws := [], join := [], loop := [] }
def la_fits : LA := { ptr := [(2, 2, 0), (9, 2, 0), (13, 2, 0)], ty := [(2, 26)] }
set_option maxRecDepth 100000 in
theorem eq_fits {W : Type} (π : Prims W) (vk vn : Int) (vs : ByteArray) (k : Int) : bodyL π Try.prog la_fits ann_fits (mkFr (maskA [] [.v (.agg #[.int .i64 vk, .int .i64 vn, .string vs]), .v (.int .i64 k)] 0) 19) Try.f101 (bodyOf Try.f101) (mkFr (List.map some [.v (.agg #[.int .i64 vk, .int .i64 vn, .string vs]), .v (.int .i64 k)]) 19) = vc_fits π vk vn vs k := by kernel_rfl
theorem ok_fits (vk vn : Int) (vs : ByteArray) (k : Int) (R : Value → PH → Prop) (s : PH) (h : vc_fits (RP Try.prog R) vk vn vs k s) : DCalls Try.prog 101 (List.map AV.val [.v (.agg #[.int .i64 vk, .int .i64 vn, .string vs]), .v (.int .i64 k)]).toArray s R :=
  calls_vcL (c := bodyOf Try.f101) (ann := ann_fits) la_fits (by kernel_rfl) Try.func101 rfl (by kernel_rfl) [.v (.agg #[.int .i64 vk, .int .i64 vn, .string vs]), .v (.int .i64 k)] [] (by rw [Try.ntmps101]; exact Nat.le_of_ble_eq_true rfl) (by kernel_rfl) (by rw [show Try.f101.ntmps = 19 from Try.ntmps101, eq_fits]; exact h)
/-- lintel/schema.fresh -/
def vc_fresh {W : Type} (π : Prims W) (name : ByteArray) (n : Int) : W :=
  π.call (91 : Nat) #[(Go.Value.string (name))] (false, [(false, [.bool])]) fun (((b0 : Bool), _), _) =>
  π.ite (!b0) (
    π.ret (Go.Value.int (IntKind.i64) ((100 : Int)))
  ) (
    π.ite (decide (n ≥ (8 : Int))) (
      π.ret (Go.Value.int (IntKind.i64) ((156 : Int)))
    ) (
      π.ret (Go.Value.int (IntKind.i64) ((0 : Int)))
    )
  )
def ann_fresh : Ann := { draws := [], join := [], loop := [] }
def la_fresh : LA := { ptr := [], ty := [] }
set_option maxRecDepth 100000 in
theorem eq_fresh {W : Type} (π : Prims W) (name : ByteArray) (n : Int) : bodyL π Try.prog la_fresh ann_fresh (mkFr (maskA [] [.v (.string name), .v (.int .i64 n)] 0) 12) Try.f118 (bodyOf Try.f118) (mkFr (List.map some [.v (.string name), .v (.int .i64 n)]) 12) = vc_fresh π name n := by kernel_rfl
theorem ok_fresh (name : ByteArray) (n : Int) (R : Value → PH → Prop) (s : PH) (h : vc_fresh (RP Try.prog R) name n s) : DCalls Try.prog 118 (List.map AV.val [.v (.string name), .v (.int .i64 n)]).toArray s R :=
  calls_vcL (c := bodyOf Try.f118) (ann := ann_fresh) la_fresh (by kernel_rfl) Try.func118 rfl (by kernel_rfl) [.v (.string name), .v (.int .i64 n)] [] (by rw [Try.ntmps118]; exact Nat.le_of_ble_eq_true rfl) (by kernel_rfl) (by rw [show Try.f118.ntmps = 12 from Try.ntmps118, eq_fresh]; exact h)
/-- lintel/schema.table -/
def vc_fTable {W : Type} (π : Prims W) (ti : Int) (tn : ByteArray) (ca : Option Addr) (can cac : Nat) (xa : Option Addr) (xan xac : Nat) (ka : Option Addr) (kan kac : Nat) : W :=
  π.ret (Go.Value.string (tn))
def ann_fTable : Ann := { draws := [], join := [], loop := [] }
def la_fTable : LA := { ptr := [(1, 1, 0), (3, 1, 1)], ty := [(1, 42)] }
set_option maxRecDepth 100000 in
theorem eq_fTable {W : Type} (π : Prims W) (ti : Int) (tn : ByteArray) (ca : Option Addr) (can cac : Nat) (xa : Option Addr) (xan xac : Nat) (ka : Option Addr) (kan kac : Nat) : bodyL π Try.prog la_fTable ann_fTable (mkFr (maskA [] [.v (.agg #[.int .i64 ti, .string tn, .slice ca can cac, .slice xa xan xac, .slice ka kan kac])] 0) 5) Try.f46 (bodyOf Try.f46) (mkFr (List.map some [.v (.agg #[.int .i64 ti, .string tn, .slice ca can cac, .slice xa xan xac, .slice ka kan kac])]) 5) = vc_fTable π ti tn ca can cac xa xan xac ka kan kac := by kernel_rfl
theorem ok_fTable (ti : Int) (tn : ByteArray) (ca : Option Addr) (can cac : Nat) (xa : Option Addr) (xan xac : Nat) (ka : Option Addr) (kan kac : Nat) (R : Value → PH → Prop) (s : PH) (h : vc_fTable (RP Try.prog R) ti tn ca can cac xa xan xac ka kan kac s) : DCalls Try.prog 46 (List.map AV.val [.v (.agg #[.int .i64 ti, .string tn, .slice ca can cac, .slice xa xan xac, .slice ka kan kac])]).toArray s R :=
  calls_vcL (c := bodyOf Try.f46) (ann := ann_fTable) la_fTable (by kernel_rfl) Try.func46 rfl (by kernel_rfl) [.v (.agg #[.int .i64 ti, .string tn, .slice ca can cac, .slice xa xan xac, .slice ka kan kac])] [] (by rw [Try.ntmps46]; exact Nat.le_of_ble_eq_true rfl) (by kernel_rfl) (by rw [show Try.f46.ntmps = 5 from Try.ntmps46, eq_fTable]; exact h)
/-- lintel/schema.column -/
def vc_fColumn {W : Type} (π : Prims W) (ci : Int) (cn : ByteArray) (ck cs vk vn : Int) (vs : ByteArray) : W :=
  π.ret (Go.Value.string (cn))
def ann_fColumn : Ann := { draws := [], join := [], loop := [] }
def la_fColumn : LA := { ptr := [(1, 1, 0), (3, 1, 1)], ty := [(1, 44)] }
set_option maxRecDepth 100000 in
theorem eq_fColumn {W : Type} (π : Prims W) (ci : Int) (cn : ByteArray) (ck cs vk vn : Int) (vs : ByteArray) : bodyL π Try.prog la_fColumn ann_fColumn (mkFr (maskA [] [.v (.agg #[.int .i64 ci, .string cn, .int .i64 ck, .int .i64 cs, .int .i64 vk, .int .i64 vn, .string vs])] 0) 5) Try.f94 (bodyOf Try.f94) (mkFr (List.map some [.v (.agg #[.int .i64 ci, .string cn, .int .i64 ck, .int .i64 cs, .int .i64 vk, .int .i64 vn, .string vs])]) 5) = vc_fColumn π ci cn ck cs vk vn vs := by kernel_rfl
theorem ok_fColumn (ci : Int) (cn : ByteArray) (ck cs vk vn : Int) (vs : ByteArray) (R : Value → PH → Prop) (s : PH) (h : vc_fColumn (RP Try.prog R) ci cn ck cs vk vn vs s) : DCalls Try.prog 94 (List.map AV.val [.v (.agg #[.int .i64 ci, .string cn, .int .i64 ck, .int .i64 cs, .int .i64 vk, .int .i64 vn, .string vs])]).toArray s R :=
  calls_vcL (c := bodyOf Try.f94) (ann := ann_fColumn) la_fColumn (by kernel_rfl) Try.func94 rfl (by kernel_rfl) [.v (.agg #[.int .i64 ci, .string cn, .int .i64 ck, .int .i64 cs, .int .i64 vk, .int .i64 vn, .string vs])] [] (by rw [Try.ntmps94]; exact Nat.le_of_ble_eq_true rfl) (by kernel_rfl) (by rw [show Try.f94.ntmps = 5 from Try.ntmps94, eq_fColumn]; exact h)
/-- lintel/schema.index -/
def vc_fIndex {W : Type} (π : Prims W) (xi : Int) (xn : ByteArray) (xc : Int) (xu : Bool) (xs : Int) : W :=
  π.ret (Go.Value.string (xn))
def ann_fIndex : Ann := { draws := [], join := [], loop := [] }
def la_fIndex : LA := { ptr := [(1, 1, 0), (3, 1, 1)], ty := [(1, 106)] }
set_option maxRecDepth 100000 in
theorem eq_fIndex {W : Type} (π : Prims W) (xi : Int) (xn : ByteArray) (xc : Int) (xu : Bool) (xs : Int) : bodyL π Try.prog la_fIndex ann_fIndex (mkFr (maskA [] [.v (.agg #[.int .i64 xi, .string xn, .int .i64 xc, .bool xu, .int .i64 xs])] 0) 5) Try.f96 (bodyOf Try.f96) (mkFr (List.map some [.v (.agg #[.int .i64 xi, .string xn, .int .i64 xc, .bool xu, .int .i64 xs])]) 5) = vc_fIndex π xi xn xc xu xs := by kernel_rfl
theorem ok_fIndex (xi : Int) (xn : ByteArray) (xc : Int) (xu : Bool) (xs : Int) (R : Value → PH → Prop) (s : PH) (h : vc_fIndex (RP Try.prog R) xi xn xc xu xs s) : DCalls Try.prog 96 (List.map AV.val [.v (.agg #[.int .i64 xi, .string xn, .int .i64 xc, .bool xu, .int .i64 xs])]).toArray s R :=
  calls_vcL (c := bodyOf Try.f96) (ann := ann_fIndex) la_fIndex (by kernel_rfl) Try.func96 rfl (by kernel_rfl) [.v (.agg #[.int .i64 xi, .string xn, .int .i64 xc, .bool xu, .int .i64 xs])] [] (by rw [Try.ntmps96]; exact Nat.le_of_ble_eq_true rfl) (by kernel_rfl) (by rw [show Try.f96.ntmps = 5 from Try.ntmps96, eq_fIndex]; exact h)
/-- lintel/schema.foreign -/
def vc_fForeign {W : Type} (π : Prims W) (fi : Int) (fn : ByteArray) (fc fp fs : Int) : W :=
  π.ret (Go.Value.string (fn))
def ann_fForeign : Ann := { draws := [], join := [], loop := [] }
def la_fForeign : LA := { ptr := [(1, 1, 0), (3, 1, 1)], ty := [(1, 109)] }
set_option maxRecDepth 100000 in
theorem eq_fForeign {W : Type} (π : Prims W) (fi : Int) (fn : ByteArray) (fc fp fs : Int) : bodyL π Try.prog la_fForeign ann_fForeign (mkFr (maskA [] [.v (.agg #[.int .i64 fi, .string fn, .int .i64 fc, .int .i64 fp, .int .i64 fs])] 0) 5) Try.f98 (bodyOf Try.f98) (mkFr (List.map some [.v (.agg #[.int .i64 fi, .string fn, .int .i64 fc, .int .i64 fp, .int .i64 fs])]) 5) = vc_fForeign π fi fn fc fp fs := by kernel_rfl
theorem ok_fForeign (fi : Int) (fn : ByteArray) (fc fp fs : Int) (R : Value → PH → Prop) (s : PH) (h : vc_fForeign (RP Try.prog R) fi fn fc fp fs s) : DCalls Try.prog 98 (List.map AV.val [.v (.agg #[.int .i64 fi, .string fn, .int .i64 fc, .int .i64 fp, .int .i64 fs])]).toArray s R :=
  calls_vcL (c := bodyOf Try.f98) (ann := ann_fForeign) la_fForeign (by kernel_rfl) Try.func98 rfl (by kernel_rfl) [.v (.agg #[.int .i64 fi, .string fn, .int .i64 fc, .int .i64 fp, .int .i64 fs])] [] (by rw [Try.ntmps98]; exact Nat.le_of_ble_eq_true rfl) (by kernel_rfl) (by rw [show Try.f98.ntmps = 5 from Try.ntmps98, eq_fForeign]; exact h)
/-- lintel/schema.find[lintel/api.Table]$1 -/
def vc_find1 {W : Type} (π : Prims W) (ti : Int) (tn : ByteArray) (ca : Option Addr) (can cac : Nat) (xa : Option Addr) (xan xac : Nat) (ka : Option Addr) (kan kac : Nat) (p q : Nat) : W :=
  π.ld [.raw] (Addr.mk p (0 : Nat) none) fun ((v0 : Value), _) =>
  π.ld [.str] (Addr.mk q (0 : Nat) none) fun ((t1 : ByteArray), _) =>
  π.callV v0 #[(Go.Value.agg #[(Go.Value.int (IntKind.i64) (ti)), (Go.Value.string (tn)), (Go.Value.slice (ca) (can) (cac)), (Go.Value.slice (xa) (xan) (xac)), (Go.Value.slice (ka) (kan) (kac))])] (false, [(false, [.str])]) fun (((t2 : ByteArray), _), _) =>
  π.still [.str] (Addr.mk q (0 : Nat) none) (t1, ()) <|
  π.ret (Go.Value.bool (t2.toList == t1.toList))
def ann_find1 : Ann := { draws := [(1, { A := [0, 1, 3], chkL := [(2, [3])], eag := [4, 5] })], join := [], loop := [] }
def la_find1 : LA := { ptr := [(3, 3, 0)], ty := [(3, 42)] }
set_option maxRecDepth 100000 in
theorem eq_find1 {W : Type} (π : Prims W) (ti : Int) (tn : ByteArray) (ca : Option Addr) (can cac : Nat) (xa : Option Addr) (xan xac : Nat) (ka : Option Addr) (kan kac : Nat) (p q : Nat) : bodyL π Try.prog la_find1 ann_find1 (mkFr (maskA [] [.v (.agg #[.int .i64 ti, .string tn, .slice ca can cac, .slice xa xan xac, .slice ka kan kac]), .v (.pointer (some ⟨p, 0, none⟩)), .v (.pointer (some ⟨q, 0, none⟩))] 0) 10) Try.f89 (bodyOf Try.f89) (mkFr (List.map some [.v (.agg #[.int .i64 ti, .string tn, .slice ca can cac, .slice xa xan xac, .slice ka kan kac]), .v (.pointer (some ⟨p, 0, none⟩)), .v (.pointer (some ⟨q, 0, none⟩))]) 10) = vc_find1 π ti tn ca can cac xa xan xac ka kan kac p q := by kernel_rfl
theorem ok_find1 (ti : Int) (tn : ByteArray) (ca : Option Addr) (can cac : Nat) (xa : Option Addr) (xan xac : Nat) (ka : Option Addr) (kan kac : Nat) (p q : Nat) (R : Value → PH → Prop) (s : PH) (h : vc_find1 (RP Try.prog R) ti tn ca can cac xa xan xac ka kan kac p q s) : DCalls Try.prog 89 (List.map AV.val [.v (.agg #[.int .i64 ti, .string tn, .slice ca can cac, .slice xa xan xac, .slice ka kan kac]), .v (.pointer (some ⟨p, 0, none⟩)), .v (.pointer (some ⟨q, 0, none⟩))]).toArray s R :=
  calls_vcL (c := bodyOf Try.f89) (ann := ann_find1) la_find1 (by kernel_rfl) Try.func89 rfl (by kernel_rfl) [.v (.agg #[.int .i64 ti, .string tn, .slice ca can cac, .slice xa xan xac, .slice ka kan kac]), .v (.pointer (some ⟨p, 0, none⟩)), .v (.pointer (some ⟨q, 0, none⟩))] [] (by rw [Try.ntmps89]; exact Nat.le_of_ble_eq_true rfl) (by kernel_rfl) (by rw [show Try.f89.ntmps = 10 from Try.ntmps89, eq_find1]; exact h)
/-- lintel/schema.find[lintel/api.Column]$1 -/
def vc_find2 {W : Type} (π : Prims W) (ci : Int) (cn : ByteArray) (ck cs vk vn : Int) (vs : ByteArray) (p q : Nat) : W :=
  π.ld [.raw] (Addr.mk p (0 : Nat) none) fun ((v0 : Value), _) =>
  π.ld [.str] (Addr.mk q (0 : Nat) none) fun ((t1 : ByteArray), _) =>
  π.callV v0 #[(Go.Value.agg #[(Go.Value.int (IntKind.i64) (ci)), (Go.Value.string (cn)), (Go.Value.int (IntKind.i64) (ck)), (Go.Value.int (IntKind.i64) (cs)), (Go.Value.int (IntKind.i64) (vk)), (Go.Value.int (IntKind.i64) (vn)), (Go.Value.string (vs))])] (false, [(false, [.str])]) fun (((t2 : ByteArray), _), _) =>
  π.still [.str] (Addr.mk q (0 : Nat) none) (t1, ()) <|
  π.ret (Go.Value.bool (t2.toList == t1.toList))
def ann_find2 : Ann := { draws := [(1, { A := [0, 1, 3], chkL := [(2, [3])], eag := [4, 5] })], join := [], loop := [] }
def la_find2 : LA := { ptr := [(3, 3, 0)], ty := [(3, 44)] }
set_option maxRecDepth 100000 in
theorem eq_find2 {W : Type} (π : Prims W) (ci : Int) (cn : ByteArray) (ck cs vk vn : Int) (vs : ByteArray) (p q : Nat) : bodyL π Try.prog la_find2 ann_find2 (mkFr (maskA [] [.v (.agg #[.int .i64 ci, .string cn, .int .i64 ck, .int .i64 cs, .int .i64 vk, .int .i64 vn, .string vs]), .v (.pointer (some ⟨p, 0, none⟩)), .v (.pointer (some ⟨q, 0, none⟩))] 0) 10) Try.f140 (bodyOf Try.f140) (mkFr (List.map some [.v (.agg #[.int .i64 ci, .string cn, .int .i64 ck, .int .i64 cs, .int .i64 vk, .int .i64 vn, .string vs]), .v (.pointer (some ⟨p, 0, none⟩)), .v (.pointer (some ⟨q, 0, none⟩))]) 10) = vc_find2 π ci cn ck cs vk vn vs p q := by kernel_rfl
theorem ok_find2 (ci : Int) (cn : ByteArray) (ck cs vk vn : Int) (vs : ByteArray) (p q : Nat) (R : Value → PH → Prop) (s : PH) (h : vc_find2 (RP Try.prog R) ci cn ck cs vk vn vs p q s) : DCalls Try.prog 140 (List.map AV.val [.v (.agg #[.int .i64 ci, .string cn, .int .i64 ck, .int .i64 cs, .int .i64 vk, .int .i64 vn, .string vs]), .v (.pointer (some ⟨p, 0, none⟩)), .v (.pointer (some ⟨q, 0, none⟩))]).toArray s R :=
  calls_vcL (c := bodyOf Try.f140) (ann := ann_find2) la_find2 (by kernel_rfl) Try.func140 rfl (by kernel_rfl) [.v (.agg #[.int .i64 ci, .string cn, .int .i64 ck, .int .i64 cs, .int .i64 vk, .int .i64 vn, .string vs]), .v (.pointer (some ⟨p, 0, none⟩)), .v (.pointer (some ⟨q, 0, none⟩))] [] (by rw [Try.ntmps140]; exact Nat.le_of_ble_eq_true rfl) (by kernel_rfl) (by rw [show Try.f140.ntmps = 10 from Try.ntmps140, eq_find2]; exact h)
/-- lintel/schema.find[lintel/api.Index]$1 -/
def vc_find3 {W : Type} (π : Prims W) (xi : Int) (xn : ByteArray) (xc : Int) (xu : Bool) (xs : Int) (p q : Nat) : W :=
  π.ld [.raw] (Addr.mk p (0 : Nat) none) fun ((v0 : Value), _) =>
  π.ld [.str] (Addr.mk q (0 : Nat) none) fun ((t1 : ByteArray), _) =>
  π.callV v0 #[(Go.Value.agg #[(Go.Value.int (IntKind.i64) (xi)), (Go.Value.string (xn)), (Go.Value.int (IntKind.i64) (xc)), (Go.Value.bool (xu)), (Go.Value.int (IntKind.i64) (xs))])] (false, [(false, [.str])]) fun (((t2 : ByteArray), _), _) =>
  π.still [.str] (Addr.mk q (0 : Nat) none) (t1, ()) <|
  π.ret (Go.Value.bool (t2.toList == t1.toList))
def ann_find3 : Ann := { draws := [(1, { A := [0, 1, 3], chkL := [(2, [3])], eag := [4, 5] })], join := [], loop := [] }
def la_find3 : LA := { ptr := [(3, 3, 0)], ty := [(3, 106)] }
set_option maxRecDepth 100000 in
theorem eq_find3 {W : Type} (π : Prims W) (xi : Int) (xn : ByteArray) (xc : Int) (xu : Bool) (xs : Int) (p q : Nat) : bodyL π Try.prog la_find3 ann_find3 (mkFr (maskA [] [.v (.agg #[.int .i64 xi, .string xn, .int .i64 xc, .bool xu, .int .i64 xs]), .v (.pointer (some ⟨p, 0, none⟩)), .v (.pointer (some ⟨q, 0, none⟩))] 0) 10) Try.f142 (bodyOf Try.f142) (mkFr (List.map some [.v (.agg #[.int .i64 xi, .string xn, .int .i64 xc, .bool xu, .int .i64 xs]), .v (.pointer (some ⟨p, 0, none⟩)), .v (.pointer (some ⟨q, 0, none⟩))]) 10) = vc_find3 π xi xn xc xu xs p q := by kernel_rfl
theorem ok_find3 (xi : Int) (xn : ByteArray) (xc : Int) (xu : Bool) (xs : Int) (p q : Nat) (R : Value → PH → Prop) (s : PH) (h : vc_find3 (RP Try.prog R) xi xn xc xu xs p q s) : DCalls Try.prog 142 (List.map AV.val [.v (.agg #[.int .i64 xi, .string xn, .int .i64 xc, .bool xu, .int .i64 xs]), .v (.pointer (some ⟨p, 0, none⟩)), .v (.pointer (some ⟨q, 0, none⟩))]).toArray s R :=
  calls_vcL (c := bodyOf Try.f142) (ann := ann_find3) la_find3 (by kernel_rfl) Try.func142 rfl (by kernel_rfl) [.v (.agg #[.int .i64 xi, .string xn, .int .i64 xc, .bool xu, .int .i64 xs]), .v (.pointer (some ⟨p, 0, none⟩)), .v (.pointer (some ⟨q, 0, none⟩))] [] (by rw [Try.ntmps142]; exact Nat.le_of_ble_eq_true rfl) (by kernel_rfl) (by rw [show Try.f142.ntmps = 10 from Try.ntmps142, eq_find3]; exact h)
/-- lintel/schema.find[lintel/api.Foreign]$1 -/
def vc_find4 {W : Type} (π : Prims W) (fi : Int) (fn : ByteArray) (fc fp fs : Int) (p q : Nat) : W :=
  π.ld [.raw] (Addr.mk p (0 : Nat) none) fun ((v0 : Value), _) =>
  π.ld [.str] (Addr.mk q (0 : Nat) none) fun ((t1 : ByteArray), _) =>
  π.callV v0 #[(Go.Value.agg #[(Go.Value.int (IntKind.i64) (fi)), (Go.Value.string (fn)), (Go.Value.int (IntKind.i64) (fc)), (Go.Value.int (IntKind.i64) (fp)), (Go.Value.int (IntKind.i64) (fs))])] (false, [(false, [.str])]) fun (((t2 : ByteArray), _), _) =>
  π.still [.str] (Addr.mk q (0 : Nat) none) (t1, ()) <|
  π.ret (Go.Value.bool (t2.toList == t1.toList))
def ann_find4 : Ann := { draws := [(1, { A := [0, 1, 3], chkL := [(2, [3])], eag := [4, 5] })], join := [], loop := [] }
def la_find4 : LA := { ptr := [(3, 3, 0)], ty := [(3, 109)] }
set_option maxRecDepth 100000 in
theorem eq_find4 {W : Type} (π : Prims W) (fi : Int) (fn : ByteArray) (fc fp fs : Int) (p q : Nat) : bodyL π Try.prog la_find4 ann_find4 (mkFr (maskA [] [.v (.agg #[.int .i64 fi, .string fn, .int .i64 fc, .int .i64 fp, .int .i64 fs]), .v (.pointer (some ⟨p, 0, none⟩)), .v (.pointer (some ⟨q, 0, none⟩))] 0) 10) Try.f144 (bodyOf Try.f144) (mkFr (List.map some [.v (.agg #[.int .i64 fi, .string fn, .int .i64 fc, .int .i64 fp, .int .i64 fs]), .v (.pointer (some ⟨p, 0, none⟩)), .v (.pointer (some ⟨q, 0, none⟩))]) 10) = vc_find4 π fi fn fc fp fs p q := by kernel_rfl
theorem ok_find4 (fi : Int) (fn : ByteArray) (fc fp fs : Int) (p q : Nat) (R : Value → PH → Prop) (s : PH) (h : vc_find4 (RP Try.prog R) fi fn fc fp fs p q s) : DCalls Try.prog 144 (List.map AV.val [.v (.agg #[.int .i64 fi, .string fn, .int .i64 fc, .int .i64 fp, .int .i64 fs]), .v (.pointer (some ⟨p, 0, none⟩)), .v (.pointer (some ⟨q, 0, none⟩))]).toArray s R :=
  calls_vcL (c := bodyOf Try.f144) (ann := ann_find4) la_find4 (by kernel_rfl) Try.func144 rfl (by kernel_rfl) [.v (.agg #[.int .i64 fi, .string fn, .int .i64 fc, .int .i64 fp, .int .i64 fs]), .v (.pointer (some ⟨p, 0, none⟩)), .v (.pointer (some ⟨q, 0, none⟩))] [] (by rw [Try.ntmps144]; exact Nat.le_of_ble_eq_true rfl) (by kernel_rfl) (by rw [show Try.f144.ntmps = 10 from Try.ntmps144, eq_find4]; exact h)
/-- slices.IndexFunc[[]lintel/api.Table,lintel/api.Table] -/
def vc_IndexFuncT {W : Type} (π : Prims W) (a : Option Addr) (an ac : Nat) (p q : Nat) : W :=
  π.loop [(false, [.int .i64]), (false, [.int .i64])] (((↑an : Int), ()), ((0 : Int), ()), ()) fun (((x1 : Int), _), ((x2 : Int), _), _) again0 =>
    π.ite (decide (x2 < x1)) (
      π.guard ((0 : Int) ≤ x2 ∧ x2 < (↑an : Int)) <|
      π.unSome (a) fun p3 =>
      π.ld [.int .i64, .str, .slice, .slice, .slice] (p3.add (x2.toNat * (5 : Nat))) fun ((x4 : Int), (t5 : ByteArray), ((a6 : Option Addr), (n7 : Nat), (c8 : Nat)), ((a9 : Option Addr), (n10 : Nat), (c11 : Nat)), ((a12 : Option Addr), (n13 : Nat), (c14 : Nat)), _) =>
      π.call (89 : Nat) #[(Go.Value.agg #[(Go.Value.int (IntKind.i64) (x4)), (Go.Value.string (t5)), (Go.Value.slice (a6) (n7) (c8)), (Go.Value.slice (a9) (n10) (c11)), (Go.Value.slice (a12) (n13) (c14))]), (Go.Value.pointer (some (Addr.mk p (0 : Nat) none))), (Go.Value.pointer (some (Addr.mk q (0 : Nat) none)))] (false, [(false, [.bool])]) fun (((b15 : Bool), _), _) =>
      π.ite (b15) (
        π.ret (Go.Value.int (IntKind.i64) (x2))
      ) (
        again0 ((x1, ()), (IntKind.i64.wrap (x2 + (1 : Int)), ()), ())
      )
    ) (
      π.ret (Go.Value.int (IntKind.i64) ((-1 : Int)))
    )
def ann_IndexFuncT : Ann := { draws := [], join := [], loop := [(2, [(7, 3), (8, 3)])] }
def la_IndexFuncT : LA := { ptr := [], ty := [] }
set_option maxRecDepth 100000 in
theorem eq_IndexFuncT {W : Type} (π : Prims W) (a : Option Addr) (an ac : Nat) (p q : Nat) : bodyL π Try.prog la_IndexFuncT ann_IndexFuncT (mkFr (maskA [] [.v (.slice a an ac), .v (.func (.func 89) #[] #[.pointer (some ⟨p, 0, none⟩), .pointer (some ⟨q, 0, none⟩)])] 0) 19) Try.f88 (bodyOf Try.f88) (mkFr (List.map some [.v (.slice a an ac), .v (.func (.func 89) #[] #[.pointer (some ⟨p, 0, none⟩), .pointer (some ⟨q, 0, none⟩)])]) 19) = vc_IndexFuncT π a an ac p q := by kernel_rfl
theorem ok_IndexFuncT (a : Option Addr) (an ac : Nat) (p q : Nat) (R : Value → PH → Prop) (s : PH) (h : vc_IndexFuncT (RP Try.prog R) a an ac p q s) : DCalls Try.prog 88 (List.map AV.val [.v (.slice a an ac), .v (.func (.func 89) #[] #[.pointer (some ⟨p, 0, none⟩), .pointer (some ⟨q, 0, none⟩)])]).toArray s R :=
  calls_vcL (c := bodyOf Try.f88) (ann := ann_IndexFuncT) la_IndexFuncT (by kernel_rfl) Try.func88 rfl (by kernel_rfl) [.v (.slice a an ac), .v (.func (.func 89) #[] #[.pointer (some ⟨p, 0, none⟩), .pointer (some ⟨q, 0, none⟩)])] [] (by rw [Try.ntmps88]; exact Nat.le_of_ble_eq_true rfl) (by kernel_rfl) (by rw [show Try.f88.ntmps = 19 from Try.ntmps88, eq_IndexFuncT]; exact h)
/-- slices.IndexFunc[[]lintel/api.Column,lintel/api.Column] -/
def vc_IndexFuncC {W : Type} (π : Prims W) (a : Option Addr) (an ac : Nat) (p q : Nat) : W :=
  π.loop [(false, [.int .i64]), (false, [.int .i64])] (((↑an : Int), ()), ((0 : Int), ()), ()) fun (((x1 : Int), _), ((x2 : Int), _), _) again0 =>
    π.ite (decide (x2 < x1)) (
      π.guard ((0 : Int) ≤ x2 ∧ x2 < (↑an : Int)) <|
      π.unSome (a) fun p3 =>
      π.ld [.int .i64, .str, .int .i64, .int .i64, .int .i64, .int .i64, .str] (p3.add (x2.toNat * (7 : Nat))) fun ((x4 : Int), (t5 : ByteArray), (x6 : Int), (x7 : Int), (x8 : Int), (x9 : Int), (t10 : ByteArray), _) =>
      π.call (140 : Nat) #[(Go.Value.agg #[(Go.Value.int (IntKind.i64) (x4)), (Go.Value.string (t5)), (Go.Value.int (IntKind.i64) (x6)), (Go.Value.int (IntKind.i64) (x7)), (Go.Value.int (IntKind.i64) (x8)), (Go.Value.int (IntKind.i64) (x9)), (Go.Value.string (t10))]), (Go.Value.pointer (some (Addr.mk p (0 : Nat) none))), (Go.Value.pointer (some (Addr.mk q (0 : Nat) none)))] (false, [(false, [.bool])]) fun (((b11 : Bool), _), _) =>
      π.ite (b11) (
        π.ret (Go.Value.int (IntKind.i64) (x2))
      ) (
        again0 ((x1, ()), (IntKind.i64.wrap (x2 + (1 : Int)), ()), ())
      )
    ) (
      π.ret (Go.Value.int (IntKind.i64) ((-1 : Int)))
    )
def ann_IndexFuncC : Ann := { draws := [], join := [], loop := [(2, [(7, 3), (8, 3)])] }
def la_IndexFuncC : LA := { ptr := [], ty := [] }
set_option maxRecDepth 100000 in
theorem eq_IndexFuncC {W : Type} (π : Prims W) (a : Option Addr) (an ac : Nat) (p q : Nat) : bodyL π Try.prog la_IndexFuncC ann_IndexFuncC (mkFr (maskA [] [.v (.slice a an ac), .v (.func (.func 140) #[] #[.pointer (some ⟨p, 0, none⟩), .pointer (some ⟨q, 0, none⟩)])] 0) 19) Try.f104 (bodyOf Try.f104) (mkFr (List.map some [.v (.slice a an ac), .v (.func (.func 140) #[] #[.pointer (some ⟨p, 0, none⟩), .pointer (some ⟨q, 0, none⟩)])]) 19) = vc_IndexFuncC π a an ac p q := by kernel_rfl
theorem ok_IndexFuncC (a : Option Addr) (an ac : Nat) (p q : Nat) (R : Value → PH → Prop) (s : PH) (h : vc_IndexFuncC (RP Try.prog R) a an ac p q s) : DCalls Try.prog 104 (List.map AV.val [.v (.slice a an ac), .v (.func (.func 140) #[] #[.pointer (some ⟨p, 0, none⟩), .pointer (some ⟨q, 0, none⟩)])]).toArray s R :=
  calls_vcL (c := bodyOf Try.f104) (ann := ann_IndexFuncC) la_IndexFuncC (by kernel_rfl) Try.func104 rfl (by kernel_rfl) [.v (.slice a an ac), .v (.func (.func 140) #[] #[.pointer (some ⟨p, 0, none⟩), .pointer (some ⟨q, 0, none⟩)])] [] (by rw [Try.ntmps104]; exact Nat.le_of_ble_eq_true rfl) (by kernel_rfl) (by rw [show Try.f104.ntmps = 19 from Try.ntmps104, eq_IndexFuncC]; exact h)
/-- slices.IndexFunc[[]lintel/api.Index,lintel/api.Index] -/
def vc_IndexFuncX {W : Type} (π : Prims W) (a : Option Addr) (an ac : Nat) (p q : Nat) : W :=
  π.loop [(false, [.int .i64]), (false, [.int .i64])] (((↑an : Int), ()), ((0 : Int), ()), ()) fun (((x1 : Int), _), ((x2 : Int), _), _) again0 =>
    π.ite (decide (x2 < x1)) (
      π.guard ((0 : Int) ≤ x2 ∧ x2 < (↑an : Int)) <|
      π.unSome (a) fun p3 =>
      π.ld [.int .i64, .str, .int .i64, .bool, .int .i64] (p3.add (x2.toNat * (5 : Nat))) fun ((x4 : Int), (t5 : ByteArray), (x6 : Int), (b7 : Bool), (x8 : Int), _) =>
      π.call (142 : Nat) #[(Go.Value.agg #[(Go.Value.int (IntKind.i64) (x4)), (Go.Value.string (t5)), (Go.Value.int (IntKind.i64) (x6)), (Go.Value.bool (b7)), (Go.Value.int (IntKind.i64) (x8))]), (Go.Value.pointer (some (Addr.mk p (0 : Nat) none))), (Go.Value.pointer (some (Addr.mk q (0 : Nat) none)))] (false, [(false, [.bool])]) fun (((b9 : Bool), _), _) =>
      π.ite (b9) (
        π.ret (Go.Value.int (IntKind.i64) (x2))
      ) (
        again0 ((x1, ()), (IntKind.i64.wrap (x2 + (1 : Int)), ()), ())
      )
    ) (
      π.ret (Go.Value.int (IntKind.i64) ((-1 : Int)))
    )
def ann_IndexFuncX : Ann := { draws := [], join := [], loop := [(2, [(7, 3), (8, 3)])] }
def la_IndexFuncX : LA := { ptr := [], ty := [] }
set_option maxRecDepth 100000 in
theorem eq_IndexFuncX {W : Type} (π : Prims W) (a : Option Addr) (an ac : Nat) (p q : Nat) : bodyL π Try.prog la_IndexFuncX ann_IndexFuncX (mkFr (maskA [] [.v (.slice a an ac), .v (.func (.func 142) #[] #[.pointer (some ⟨p, 0, none⟩), .pointer (some ⟨q, 0, none⟩)])] 0) 19) Try.f105 (bodyOf Try.f105) (mkFr (List.map some [.v (.slice a an ac), .v (.func (.func 142) #[] #[.pointer (some ⟨p, 0, none⟩), .pointer (some ⟨q, 0, none⟩)])]) 19) = vc_IndexFuncX π a an ac p q := by kernel_rfl
theorem ok_IndexFuncX (a : Option Addr) (an ac : Nat) (p q : Nat) (R : Value → PH → Prop) (s : PH) (h : vc_IndexFuncX (RP Try.prog R) a an ac p q s) : DCalls Try.prog 105 (List.map AV.val [.v (.slice a an ac), .v (.func (.func 142) #[] #[.pointer (some ⟨p, 0, none⟩), .pointer (some ⟨q, 0, none⟩)])]).toArray s R :=
  calls_vcL (c := bodyOf Try.f105) (ann := ann_IndexFuncX) la_IndexFuncX (by kernel_rfl) Try.func105 rfl (by kernel_rfl) [.v (.slice a an ac), .v (.func (.func 142) #[] #[.pointer (some ⟨p, 0, none⟩), .pointer (some ⟨q, 0, none⟩)])] [] (by rw [Try.ntmps105]; exact Nat.le_of_ble_eq_true rfl) (by kernel_rfl) (by rw [show Try.f105.ntmps = 19 from Try.ntmps105, eq_IndexFuncX]; exact h)
/-- slices.IndexFunc[[]lintel/api.Foreign,lintel/api.Foreign] -/
def vc_IndexFuncF {W : Type} (π : Prims W) (a : Option Addr) (an ac : Nat) (p q : Nat) : W :=
  π.loop [(false, [.int .i64]), (false, [.int .i64])] (((↑an : Int), ()), ((0 : Int), ()), ()) fun (((x1 : Int), _), ((x2 : Int), _), _) again0 =>
    π.ite (decide (x2 < x1)) (
      π.guard ((0 : Int) ≤ x2 ∧ x2 < (↑an : Int)) <|
      π.unSome (a) fun p3 =>
      π.ld [.int .i64, .str, .int .i64, .int .i64, .int .i64] (p3.add (x2.toNat * (5 : Nat))) fun ((x4 : Int), (t5 : ByteArray), (x6 : Int), (x7 : Int), (x8 : Int), _) =>
      π.call (144 : Nat) #[(Go.Value.agg #[(Go.Value.int (IntKind.i64) (x4)), (Go.Value.string (t5)), (Go.Value.int (IntKind.i64) (x6)), (Go.Value.int (IntKind.i64) (x7)), (Go.Value.int (IntKind.i64) (x8))]), (Go.Value.pointer (some (Addr.mk p (0 : Nat) none))), (Go.Value.pointer (some (Addr.mk q (0 : Nat) none)))] (false, [(false, [.bool])]) fun (((b9 : Bool), _), _) =>
      π.ite (b9) (
        π.ret (Go.Value.int (IntKind.i64) (x2))
      ) (
        again0 ((x1, ()), (IntKind.i64.wrap (x2 + (1 : Int)), ()), ())
      )
    ) (
      π.ret (Go.Value.int (IntKind.i64) ((-1 : Int)))
    )
def ann_IndexFuncF : Ann := { draws := [], join := [], loop := [(2, [(7, 3), (8, 3)])] }
def la_IndexFuncF : LA := { ptr := [], ty := [] }
set_option maxRecDepth 100000 in
theorem eq_IndexFuncF {W : Type} (π : Prims W) (a : Option Addr) (an ac : Nat) (p q : Nat) : bodyL π Try.prog la_IndexFuncF ann_IndexFuncF (mkFr (maskA [] [.v (.slice a an ac), .v (.func (.func 144) #[] #[.pointer (some ⟨p, 0, none⟩), .pointer (some ⟨q, 0, none⟩)])] 0) 19) Try.f106 (bodyOf Try.f106) (mkFr (List.map some [.v (.slice a an ac), .v (.func (.func 144) #[] #[.pointer (some ⟨p, 0, none⟩), .pointer (some ⟨q, 0, none⟩)])]) 19) = vc_IndexFuncF π a an ac p q := by kernel_rfl
theorem ok_IndexFuncF (a : Option Addr) (an ac : Nat) (p q : Nat) (R : Value → PH → Prop) (s : PH) (h : vc_IndexFuncF (RP Try.prog R) a an ac p q s) : DCalls Try.prog 106 (List.map AV.val [.v (.slice a an ac), .v (.func (.func 144) #[] #[.pointer (some ⟨p, 0, none⟩), .pointer (some ⟨q, 0, none⟩)])]).toArray s R :=
  calls_vcL (c := bodyOf Try.f106) (ann := ann_IndexFuncF) la_IndexFuncF (by kernel_rfl) Try.func106 rfl (by kernel_rfl) [.v (.slice a an ac), .v (.func (.func 144) #[] #[.pointer (some ⟨p, 0, none⟩), .pointer (some ⟨q, 0, none⟩)])] [] (by rw [Try.ntmps106]; exact Nat.le_of_ble_eq_true rfl) (by kernel_rfl) (by rw [show Try.f106.ntmps = 19 from Try.ntmps106, eq_IndexFuncF]; exact h)
/-- lintel/schema.find[lintel/api.Table] -/
def vc_findT {W : Type} (π : Prims W) (a : Option Addr) (an ac : Nat) (name : ByteArray) : W :=
  π.nw (Go.Obj.cells #[(Go.Value.string (name))] (9 : Nat) ((0 : Nat), (0 : Nat))) fun r0 =>
  π.nw (Go.Obj.cells #[(Go.Value.func (Fn.func (46 : Nat)) #[] #[])] (99 : Nat) ((0 : Nat), (0 : Nat))) fun r1 =>
  π.call (88 : Nat) #[(Go.Value.slice (a) (an) (ac)), (Go.Value.func (Fn.func (89 : Nat)) #[] #[(Go.Value.pointer (some (Addr.mk r1 (0 : Nat) none))), (Go.Value.pointer (some (Addr.mk r0 (0 : Nat) none)))])] (false, [(false, [.int .i64])]) fun (((x2 : Int), _), _) =>
  π.ret (Go.Value.int (IntKind.i64) (x2))
def ann_findT : Ann := { draws := [], join := [], loop := [] }
def la_findT : LA := { ptr := [], ty := [] }
set_option maxRecDepth 100000 in
theorem eq_findT {W : Type} (π : Prims W) (a : Option Addr) (an ac : Nat) (name : ByteArray) : bodyL π Try.prog la_findT ann_findT (mkFr (maskA [] [.v (.slice a an ac), .v (.string name), .v (.func (.func 46) #[] #[])] 0) 10) Try.f45 (bodyOf Try.f45) (mkFr (List.map some [.v (.slice a an ac), .v (.string name), .v (.func (.func 46) #[] #[])]) 10) = vc_findT π a an ac name := by kernel_rfl
theorem ok_findT (a : Option Addr) (an ac : Nat) (name : ByteArray) (R : Value → PH → Prop) (s : PH) (h : vc_findT (RP Try.prog R) a an ac name s) : DCalls Try.prog 45 (List.map AV.val [.v (.slice a an ac), .v (.string name), .v (.func (.func 46) #[] #[])]).toArray s R :=
  calls_vcL (c := bodyOf Try.f45) (ann := ann_findT) la_findT (by kernel_rfl) Try.func45 rfl (by kernel_rfl) [.v (.slice a an ac), .v (.string name), .v (.func (.func 46) #[] #[])] [] (by rw [Try.ntmps45]; exact Nat.le_of_ble_eq_true rfl) (by kernel_rfl) (by rw [show Try.f45.ntmps = 10 from Try.ntmps45, eq_findT]; exact h)
/-- lintel/schema.find[lintel/api.Column] -/
def vc_findC {W : Type} (π : Prims W) (a : Option Addr) (an ac : Nat) (name : ByteArray) : W :=
  π.nw (Go.Obj.cells #[(Go.Value.string (name))] (9 : Nat) ((0 : Nat), (0 : Nat))) fun r0 =>
  π.nw (Go.Obj.cells #[(Go.Value.func (Fn.func (94 : Nat)) #[] #[])] (150 : Nat) ((0 : Nat), (0 : Nat))) fun r1 =>
  π.call (104 : Nat) #[(Go.Value.slice (a) (an) (ac)), (Go.Value.func (Fn.func (140 : Nat)) #[] #[(Go.Value.pointer (some (Addr.mk r1 (0 : Nat) none))), (Go.Value.pointer (some (Addr.mk r0 (0 : Nat) none)))])] (false, [(false, [.int .i64])]) fun (((x2 : Int), _), _) =>
  π.ret (Go.Value.int (IntKind.i64) (x2))
def ann_findC : Ann := { draws := [], join := [], loop := [] }
def la_findC : LA := { ptr := [], ty := [] }
set_option maxRecDepth 100000 in
theorem eq_findC {W : Type} (π : Prims W) (a : Option Addr) (an ac : Nat) (name : ByteArray) : bodyL π Try.prog la_findC ann_findC (mkFr (maskA [] [.v (.slice a an ac), .v (.string name), .v (.func (.func 94) #[] #[])] 0) 10) Try.f117 (bodyOf Try.f117) (mkFr (List.map some [.v (.slice a an ac), .v (.string name), .v (.func (.func 94) #[] #[])]) 10) = vc_findC π a an ac name := by kernel_rfl
theorem ok_findC (a : Option Addr) (an ac : Nat) (name : ByteArray) (R : Value → PH → Prop) (s : PH) (h : vc_findC (RP Try.prog R) a an ac name s) : DCalls Try.prog 117 (List.map AV.val [.v (.slice a an ac), .v (.string name), .v (.func (.func 94) #[] #[])]).toArray s R :=
  calls_vcL (c := bodyOf Try.f117) (ann := ann_findC) la_findC (by kernel_rfl) Try.func117 rfl (by kernel_rfl) [.v (.slice a an ac), .v (.string name), .v (.func (.func 94) #[] #[])] [] (by rw [Try.ntmps117]; exact Nat.le_of_ble_eq_true rfl) (by kernel_rfl) (by rw [show Try.f117.ntmps = 10 from Try.ntmps117, eq_findC]; exact h)
/-- lintel/schema.find[lintel/api.Index] -/
def vc_findX {W : Type} (π : Prims W) (a : Option Addr) (an ac : Nat) (name : ByteArray) : W :=
  π.nw (Go.Obj.cells #[(Go.Value.string (name))] (9 : Nat) ((0 : Nat), (0 : Nat))) fun r0 =>
  π.nw (Go.Obj.cells #[(Go.Value.func (Fn.func (96 : Nat)) #[] #[])] (152 : Nat) ((0 : Nat), (0 : Nat))) fun r1 =>
  π.call (105 : Nat) #[(Go.Value.slice (a) (an) (ac)), (Go.Value.func (Fn.func (142 : Nat)) #[] #[(Go.Value.pointer (some (Addr.mk r1 (0 : Nat) none))), (Go.Value.pointer (some (Addr.mk r0 (0 : Nat) none)))])] (false, [(false, [.int .i64])]) fun (((x2 : Int), _), _) =>
  π.ret (Go.Value.int (IntKind.i64) (x2))
def ann_findX : Ann := { draws := [], join := [], loop := [] }
def la_findX : LA := { ptr := [], ty := [] }
set_option maxRecDepth 100000 in
theorem eq_findX {W : Type} (π : Prims W) (a : Option Addr) (an ac : Nat) (name : ByteArray) : bodyL π Try.prog la_findX ann_findX (mkFr (maskA [] [.v (.slice a an ac), .v (.string name), .v (.func (.func 96) #[] #[])] 0) 10) Try.f125 (bodyOf Try.f125) (mkFr (List.map some [.v (.slice a an ac), .v (.string name), .v (.func (.func 96) #[] #[])]) 10) = vc_findX π a an ac name := by kernel_rfl
theorem ok_findX (a : Option Addr) (an ac : Nat) (name : ByteArray) (R : Value → PH → Prop) (s : PH) (h : vc_findX (RP Try.prog R) a an ac name s) : DCalls Try.prog 125 (List.map AV.val [.v (.slice a an ac), .v (.string name), .v (.func (.func 96) #[] #[])]).toArray s R :=
  calls_vcL (c := bodyOf Try.f125) (ann := ann_findX) la_findX (by kernel_rfl) Try.func125 rfl (by kernel_rfl) [.v (.slice a an ac), .v (.string name), .v (.func (.func 96) #[] #[])] [] (by rw [Try.ntmps125]; exact Nat.le_of_ble_eq_true rfl) (by kernel_rfl) (by rw [show Try.f125.ntmps = 10 from Try.ntmps125, eq_findX]; exact h)
/-- lintel/schema.find[lintel/api.Foreign] -/
def vc_findF {W : Type} (π : Prims W) (a : Option Addr) (an ac : Nat) (name : ByteArray) : W :=
  π.nw (Go.Obj.cells #[(Go.Value.string (name))] (9 : Nat) ((0 : Nat), (0 : Nat))) fun r0 =>
  π.nw (Go.Obj.cells #[(Go.Value.func (Fn.func (98 : Nat)) #[] #[])] (154 : Nat) ((0 : Nat), (0 : Nat))) fun r1 =>
  π.call (106 : Nat) #[(Go.Value.slice (a) (an) (ac)), (Go.Value.func (Fn.func (144 : Nat)) #[] #[(Go.Value.pointer (some (Addr.mk r1 (0 : Nat) none))), (Go.Value.pointer (some (Addr.mk r0 (0 : Nat) none)))])] (false, [(false, [.int .i64])]) fun (((x2 : Int), _), _) =>
  π.ret (Go.Value.int (IntKind.i64) (x2))
def ann_findF : Ann := { draws := [], join := [], loop := [] }
def la_findF : LA := { ptr := [], ty := [] }
set_option maxRecDepth 100000 in
theorem eq_findF {W : Type} (π : Prims W) (a : Option Addr) (an ac : Nat) (name : ByteArray) : bodyL π Try.prog la_findF ann_findF (mkFr (maskA [] [.v (.slice a an ac), .v (.string name), .v (.func (.func 98) #[] #[])] 0) 10) Try.f129 (bodyOf Try.f129) (mkFr (List.map some [.v (.slice a an ac), .v (.string name), .v (.func (.func 98) #[] #[])]) 10) = vc_findF π a an ac name := by kernel_rfl
theorem ok_findF (a : Option Addr) (an ac : Nat) (name : ByteArray) (R : Value → PH → Prop) (s : PH) (h : vc_findF (RP Try.prog R) a an ac name s) : DCalls Try.prog 129 (List.map AV.val [.v (.slice a an ac), .v (.string name), .v (.func (.func 98) #[] #[])]).toArray s R :=
  calls_vcL (c := bodyOf Try.f129) (ann := ann_findF) la_findF (by kernel_rfl) Try.func129 rfl (by kernel_rfl) [.v (.slice a an ac), .v (.string name), .v (.func (.func 98) #[] #[])] [] (by rw [Try.ntmps129]; exact Nat.le_of_ble_eq_true rfl) (by kernel_rfl) (by rw [show Try.f129.ntmps = 10 from Try.ntmps129, eq_findF]; exact h)
/-- lintel/schema.at$1 -/
def vc_at1 {W : Type} (π : Prims W) (ci : Int) (cn : ByteArray) (ck cs vk vn : Int) (vs : ByteArray) (p : Nat) : W :=
  π.ld [.int .i64] (Addr.mk p (0 : Nat) none) fun ((x0 : Int), _) =>
  π.ret (Go.Value.bool (ci == x0))
def ann_at1 : Ann := { draws := [], join := [], loop := [] }
def la_at1 : LA := { ptr := [(2, 2, 0), (4, 2, 0)], ty := [(2, 44)] }
set_option maxRecDepth 100000 in
theorem eq_at1 {W : Type} (π : Prims W) (ci : Int) (cn : ByteArray) (ck cs vk vn : Int) (vs : ByteArray) (p : Nat) : bodyL π Try.prog la_at1 ann_at1 (mkFr (maskA [] [.v (.agg #[.int .i64 ci, .string cn, .int .i64 ck, .int .i64 cs, .int .i64 vk, .int .i64 vn, .string vs]), .v (.pointer (some ⟨p, 0, none⟩))] 0) 8) Try.f134 (bodyOf Try.f134) (mkFr (List.map some [.v (.agg #[.int .i64 ci, .string cn, .int .i64 ck, .int .i64 cs, .int .i64 vk, .int .i64 vn, .string vs]), .v (.pointer (some ⟨p, 0, none⟩))]) 8) = vc_at1 π ci cn ck cs vk vn vs p := by kernel_rfl
theorem ok_at1 (ci : Int) (cn : ByteArray) (ck cs vk vn : Int) (vs : ByteArray) (p : Nat) (R : Value → PH → Prop) (s : PH) (h : vc_at1 (RP Try.prog R) ci cn ck cs vk vn vs p s) : DCalls Try.prog 134 (List.map AV.val [.v (.agg #[.int .i64 ci, .string cn, .int .i64 ck, .int .i64 cs, .int .i64 vk, .int .i64 vn, .string vs]), .v (.pointer (some ⟨p, 0, none⟩))]).toArray s R :=
  calls_vcL (c := bodyOf Try.f134) (ann := ann_at1) la_at1 (by kernel_rfl) Try.func134 rfl (by kernel_rfl) [.v (.agg #[.int .i64 ci, .string cn, .int .i64 ck, .int .i64 cs, .int .i64 vk, .int .i64 vn, .string vs]), .v (.pointer (some ⟨p, 0, none⟩))] [] (by rw [Try.ntmps134]; exact Nat.le_of_ble_eq_true rfl) (by kernel_rfl) (by rw [show Try.f134.ntmps = 8 from Try.ntmps134, eq_at1]; exact h)
/-- lintel/schema.byId$1 -/
def vc_byId1 {W : Type} (π : Prims W) (ti : Int) (tn : ByteArray) (ca : Option Addr) (can cac : Nat) (xa : Option Addr) (xan xac : Nat) (ka : Option Addr) (kan kac : Nat) (p : Nat) : W :=
  π.ld [.int .i64] (Addr.mk p (0 : Nat) none) fun ((x0 : Int), _) =>
  π.ret (Go.Value.bool (ti == x0))
def ann_byId1 : Ann := { draws := [], join := [], loop := [] }
def la_byId1 : LA := { ptr := [(2, 2, 0), (4, 2, 0)], ty := [(2, 42)] }
set_option maxRecDepth 100000 in
theorem eq_byId1 {W : Type} (π : Prims W) (ti : Int) (tn : ByteArray) (ca : Option Addr) (can cac : Nat) (xa : Option Addr) (xan xac : Nat) (ka : Option Addr) (kan kac : Nat) (p : Nat) : bodyL π Try.prog la_byId1 ann_byId1 (mkFr (maskA [] [.v (.agg #[.int .i64 ti, .string tn, .slice ca can cac, .slice xa xan xac, .slice ka kan kac]), .v (.pointer (some ⟨p, 0, none⟩))] 0) 8) Try.f135 (bodyOf Try.f135) (mkFr (List.map some [.v (.agg #[.int .i64 ti, .string tn, .slice ca can cac, .slice xa xan xac, .slice ka kan kac]), .v (.pointer (some ⟨p, 0, none⟩))]) 8) = vc_byId1 π ti tn ca can cac xa xan xac ka kan kac p := by kernel_rfl
theorem ok_byId1 (ti : Int) (tn : ByteArray) (ca : Option Addr) (can cac : Nat) (xa : Option Addr) (xan xac : Nat) (ka : Option Addr) (kan kac : Nat) (p : Nat) (R : Value → PH → Prop) (s : PH) (h : vc_byId1 (RP Try.prog R) ti tn ca can cac xa xan xac ka kan kac p s) : DCalls Try.prog 135 (List.map AV.val [.v (.agg #[.int .i64 ti, .string tn, .slice ca can cac, .slice xa xan xac, .slice ka kan kac]), .v (.pointer (some ⟨p, 0, none⟩))]).toArray s R :=
  calls_vcL (c := bodyOf Try.f135) (ann := ann_byId1) la_byId1 (by kernel_rfl) Try.func135 rfl (by kernel_rfl) [.v (.agg #[.int .i64 ti, .string tn, .slice ca can cac, .slice xa xan xac, .slice ka kan kac]), .v (.pointer (some ⟨p, 0, none⟩))] [] (by rw [Try.ntmps135]; exact Nat.le_of_ble_eq_true rfl) (by kernel_rfl) (by rw [show Try.f135.ntmps = 8 from Try.ntmps135, eq_byId1]; exact h)
/-- slices.IndexFunc[[]lintel/api.Column,lintel/api.Column] -/
def vc_IndexFuncAt {W : Type} (π : Prims W) (a : Option Addr) (an ac : Nat) (p : Nat) : W :=
  π.loop [(false, [.int .i64]), (false, [.int .i64])] (((↑an : Int), ()), ((0 : Int), ()), ()) fun (((x1 : Int), _), ((x2 : Int), _), _) again0 =>
    π.ite (decide (x2 < x1)) (
      π.guard ((0 : Int) ≤ x2 ∧ x2 < (↑an : Int)) <|
      π.unSome (a) fun p3 =>
      π.ld [.int .i64, .str, .int .i64, .int .i64, .int .i64, .int .i64, .str] (p3.add (x2.toNat * (7 : Nat))) fun ((x4 : Int), (t5 : ByteArray), (x6 : Int), (x7 : Int), (x8 : Int), (x9 : Int), (t10 : ByteArray), _) =>
      π.call (134 : Nat) #[(Go.Value.agg #[(Go.Value.int (IntKind.i64) (x4)), (Go.Value.string (t5)), (Go.Value.int (IntKind.i64) (x6)), (Go.Value.int (IntKind.i64) (x7)), (Go.Value.int (IntKind.i64) (x8)), (Go.Value.int (IntKind.i64) (x9)), (Go.Value.string (t10))]), (Go.Value.pointer (some (Addr.mk p (0 : Nat) none)))] (false, [(false, [.bool])]) fun (((b11 : Bool), _), _) =>
      π.ite (b11) (
        π.ret (Go.Value.int (IntKind.i64) (x2))
      ) (
        again0 ((x1, ()), (IntKind.i64.wrap (x2 + (1 : Int)), ()), ())
      )
    ) (
      π.ret (Go.Value.int (IntKind.i64) ((-1 : Int)))
    )
def ann_IndexFuncAt : Ann := { draws := [], join := [], loop := [(2, [(7, 3), (8, 3)])] }
def la_IndexFuncAt : LA := { ptr := [], ty := [] }
set_option maxRecDepth 100000 in
theorem eq_IndexFuncAt {W : Type} (π : Prims W) (a : Option Addr) (an ac : Nat) (p : Nat) : bodyL π Try.prog la_IndexFuncAt ann_IndexFuncAt (mkFr (maskA [] [.v (.slice a an ac), .v (.func (.func 134) #[] #[.pointer (some ⟨p, 0, none⟩)])] 0) 19) Try.f104 (bodyOf Try.f104) (mkFr (List.map some [.v (.slice a an ac), .v (.func (.func 134) #[] #[.pointer (some ⟨p, 0, none⟩)])]) 19) = vc_IndexFuncAt π a an ac p := by kernel_rfl
theorem ok_IndexFuncAt (a : Option Addr) (an ac : Nat) (p : Nat) (R : Value → PH → Prop) (s : PH) (h : vc_IndexFuncAt (RP Try.prog R) a an ac p s) : DCalls Try.prog 104 (List.map AV.val [.v (.slice a an ac), .v (.func (.func 134) #[] #[.pointer (some ⟨p, 0, none⟩)])]).toArray s R :=
  calls_vcL (c := bodyOf Try.f104) (ann := ann_IndexFuncAt) la_IndexFuncAt (by kernel_rfl) Try.func104 rfl (by kernel_rfl) [.v (.slice a an ac), .v (.func (.func 134) #[] #[.pointer (some ⟨p, 0, none⟩)])] [] (by rw [Try.ntmps104]; exact Nat.le_of_ble_eq_true rfl) (by kernel_rfl) (by rw [show Try.f104.ntmps = 19 from Try.ntmps104, eq_IndexFuncAt]; exact h)
/-- slices.IndexFunc[[]lintel/api.Table,lintel/api.Table] -/
def vc_IndexFuncById {W : Type} (π : Prims W) (a : Option Addr) (an ac : Nat) (p : Nat) : W :=
  π.loop [(false, [.int .i64]), (false, [.int .i64])] (((↑an : Int), ()), ((0 : Int), ()), ()) fun (((x1 : Int), _), ((x2 : Int), _), _) again0 =>
    π.ite (decide (x2 < x1)) (
      π.guard ((0 : Int) ≤ x2 ∧ x2 < (↑an : Int)) <|
      π.unSome (a) fun p3 =>
      π.ld [.int .i64, .str, .slice, .slice, .slice] (p3.add (x2.toNat * (5 : Nat))) fun ((x4 : Int), (t5 : ByteArray), ((a6 : Option Addr), (n7 : Nat), (c8 : Nat)), ((a9 : Option Addr), (n10 : Nat), (c11 : Nat)), ((a12 : Option Addr), (n13 : Nat), (c14 : Nat)), _) =>
      π.call (135 : Nat) #[(Go.Value.agg #[(Go.Value.int (IntKind.i64) (x4)), (Go.Value.string (t5)), (Go.Value.slice (a6) (n7) (c8)), (Go.Value.slice (a9) (n10) (c11)), (Go.Value.slice (a12) (n13) (c14))]), (Go.Value.pointer (some (Addr.mk p (0 : Nat) none)))] (false, [(false, [.bool])]) fun (((b15 : Bool), _), _) =>
      π.ite (b15) (
        π.ret (Go.Value.int (IntKind.i64) (x2))
      ) (
        again0 ((x1, ()), (IntKind.i64.wrap (x2 + (1 : Int)), ()), ())
      )
    ) (
      π.ret (Go.Value.int (IntKind.i64) ((-1 : Int)))
    )
def ann_IndexFuncById : Ann := { draws := [], join := [], loop := [(2, [(7, 3), (8, 3)])] }
def la_IndexFuncById : LA := { ptr := [], ty := [] }
set_option maxRecDepth 100000 in
theorem eq_IndexFuncById {W : Type} (π : Prims W) (a : Option Addr) (an ac : Nat) (p : Nat) : bodyL π Try.prog la_IndexFuncById ann_IndexFuncById (mkFr (maskA [] [.v (.slice a an ac), .v (.func (.func 135) #[] #[.pointer (some ⟨p, 0, none⟩)])] 0) 19) Try.f88 (bodyOf Try.f88) (mkFr (List.map some [.v (.slice a an ac), .v (.func (.func 135) #[] #[.pointer (some ⟨p, 0, none⟩)])]) 19) = vc_IndexFuncById π a an ac p := by kernel_rfl
theorem ok_IndexFuncById (a : Option Addr) (an ac : Nat) (p : Nat) (R : Value → PH → Prop) (s : PH) (h : vc_IndexFuncById (RP Try.prog R) a an ac p s) : DCalls Try.prog 88 (List.map AV.val [.v (.slice a an ac), .v (.func (.func 135) #[] #[.pointer (some ⟨p, 0, none⟩)])]).toArray s R :=
  calls_vcL (c := bodyOf Try.f88) (ann := ann_IndexFuncById) la_IndexFuncById (by kernel_rfl) Try.func88 rfl (by kernel_rfl) [.v (.slice a an ac), .v (.func (.func 135) #[] #[.pointer (some ⟨p, 0, none⟩)])] [] (by rw [Try.ntmps88]; exact Nat.le_of_ble_eq_true rfl) (by kernel_rfl) (by rw [show Try.f88.ntmps = 19 from Try.ntmps88, eq_IndexFuncById]; exact h)
/-- lintel/schema.at -/
def vc_at {W : Type} (π : Prims W) (ti : Int) (tn : ByteArray) (ca : Option Addr) (can cac : Nat) (xa : Option Addr) (xan xac : Nat) (ka : Option Addr) (kan kac : Nat) (id : Int) : W :=
  π.nw (Go.Obj.cells #[(Go.Value.int (IntKind.i64) (id))] (3 : Nat) ((0 : Nat), (0 : Nat))) fun r0 =>
  π.call (104 : Nat) #[(Go.Value.slice (ca) (can) (cac)), (Go.Value.func (Fn.func (134 : Nat)) #[] #[(Go.Value.pointer (some (Addr.mk r0 (0 : Nat) none)))])] (false, [(false, [.int .i64])]) fun (((x1 : Int), _), _) =>
  π.ret (Go.Value.int (IntKind.i64) (x1))
def ann_at : Ann := { draws := [], join := [], loop := [] }
def la_at : LA := { ptr := [(2, 2, 0), (5, 2, 2)], ty := [(2, 42)] }
set_option maxRecDepth 100000 in
theorem eq_at {W : Type} (π : Prims W) (ti : Int) (tn : ByteArray) (ca : Option Addr) (can cac : Nat) (xa : Option Addr) (xan xac : Nat) (ka : Option Addr) (kan kac : Nat) (id : Int) : bodyL π Try.prog la_at ann_at (mkFr (maskA [] [.v (.agg #[.int .i64 ti, .string tn, .slice ca can cac, .slice xa xan xac, .slice ka kan kac]), .v (.int .i64 id)] 0) 9) Try.f102 (bodyOf Try.f102) (mkFr (List.map some [.v (.agg #[.int .i64 ti, .string tn, .slice ca can cac, .slice xa xan xac, .slice ka kan kac]), .v (.int .i64 id)]) 9) = vc_at π ti tn ca can cac xa xan xac ka kan kac id := by kernel_rfl
theorem ok_at (ti : Int) (tn : ByteArray) (ca : Option Addr) (can cac : Nat) (xa : Option Addr) (xan xac : Nat) (ka : Option Addr) (kan kac : Nat) (id : Int) (R : Value → PH → Prop) (s : PH) (h : vc_at (RP Try.prog R) ti tn ca can cac xa xan xac ka kan kac id s) : DCalls Try.prog 102 (List.map AV.val [.v (.agg #[.int .i64 ti, .string tn, .slice ca can cac, .slice xa xan xac, .slice ka kan kac]), .v (.int .i64 id)]).toArray s R :=
  calls_vcL (c := bodyOf Try.f102) (ann := ann_at) la_at (by kernel_rfl) Try.func102 rfl (by kernel_rfl) [.v (.agg #[.int .i64 ti, .string tn, .slice ca can cac, .slice xa xan xac, .slice ka kan kac]), .v (.int .i64 id)] [] (by rw [Try.ntmps102]; exact Nat.le_of_ble_eq_true rfl) (by kernel_rfl) (by rw [show Try.f102.ntmps = 9 from Try.ntmps102, eq_at]; exact h)
/-- lintel/schema.byId -/
def vc_byId {W : Type} (π : Prims W) (sv sl : Int) (sa : Option Addr) (san sac : Nat) (id : Int) : W :=
  π.nw (Go.Obj.cells #[(Go.Value.int (IntKind.i64) (id))] (3 : Nat) ((0 : Nat), (0 : Nat))) fun r0 =>
  π.call (88 : Nat) #[(Go.Value.slice (sa) (san) (sac)), (Go.Value.func (Fn.func (135 : Nat)) #[] #[(Go.Value.pointer (some (Addr.mk r0 (0 : Nat) none)))])] (false, [(false, [.int .i64])]) fun (((x1 : Int), _), _) =>
  π.ret (Go.Value.int (IntKind.i64) (x1))
def ann_byId : Ann := { draws := [], join := [], loop := [] }
def la_byId : LA := { ptr := [(2, 2, 0), (5, 2, 2)], ty := [(2, 24)] }
set_option maxRecDepth 100000 in
theorem eq_byId {W : Type} (π : Prims W) (sv sl : Int) (sa : Option Addr) (san sac : Nat) (id : Int) : bodyL π Try.prog la_byId ann_byId (mkFr (maskA [] [.v (.agg #[.int .i64 sv, .int .i64 sl, .slice sa san sac]), .v (.int .i64 id)] 0) 9) Try.f103 (bodyOf Try.f103) (mkFr (List.map some [.v (.agg #[.int .i64 sv, .int .i64 sl, .slice sa san sac]), .v (.int .i64 id)]) 9) = vc_byId π sv sl sa san sac id := by kernel_rfl
theorem ok_byId (sv sl : Int) (sa : Option Addr) (san sac : Nat) (id : Int) (R : Value → PH → Prop) (s : PH) (h : vc_byId (RP Try.prog R) sv sl sa san sac id s) : DCalls Try.prog 103 (List.map AV.val [.v (.agg #[.int .i64 sv, .int .i64 sl, .slice sa san sac]), .v (.int .i64 id)]).toArray s R :=
  calls_vcL (c := bodyOf Try.f103) (ann := ann_byId) la_byId (by kernel_rfl) Try.func103 rfl (by kernel_rfl) [.v (.agg #[.int .i64 sv, .int .i64 sl, .slice sa san sac]), .v (.int .i64 id)] [] (by rw [Try.ntmps103]; exact Nat.le_of_ble_eq_true rfl) (by kernel_rfl) (by rw [show Try.f103.ntmps = 9 from Try.ntmps103, eq_byId]; exact h)
/-- slices.Clone[[]lintel/api.Column,lintel/api.Column] -/
def vc_CloneC {W : Type} (π : Prims W) (a : Option Addr) (an ac : Nat) : W :=
  π.ite (a.isNone) (
    π.ret (Go.Value.slice (none) ((0 : Nat)) ((0 : Nat)))
  ) (
    π.nw (Go.Obj.cells #[] (44 : Nat) ((0 : Nat), (0 : Nat))) fun r0 =>
    π.app (44 : Nat) (7 : Nat) (72 : Nat) [(Go.Value.int (IntKind.i64) ((0 : Int))), (Go.Value.string (ByteArray.mk #[])), (Go.Value.int (IntKind.i64) ((0 : Int))), (Go.Value.int (IntKind.i64) ((0 : Int))), (Go.Value.int (IntKind.i64) ((0 : Int))), (Go.Value.int (IntKind.i64) ((0 : Int))), (Go.Value.string (ByteArray.mk #[]))] (some (Addr.mk r0 (0 : Nat) none)) ((0 : Nat)) ((0 : Nat)) (Src.sl a an) fun a1 n2 c3 =>
    π.ret (Go.Value.slice (a1) (n2) (c3))
  )
def ann_CloneC : Ann := { draws := [], join := [], loop := [] }
def la_CloneC : LA := { ptr := [], ty := [] }
set_option maxRecDepth 100000 in
theorem eq_CloneC {W : Type} (π : Prims W) (a : Option Addr) (an ac : Nat) : bodyL π Try.prog la_CloneC ann_CloneC (mkFr (maskA [] [.v (.slice a an ac)] 0) 8) Try.f66 (bodyOf Try.f66) (mkFr (List.map some [.v (.slice a an ac)]) 8) = vc_CloneC π a an ac := by kernel_rfl
theorem ok_CloneC (a : Option Addr) (an ac : Nat) (R : Value → PH → Prop) (s : PH) (h : vc_CloneC (RP Try.prog R) a an ac s) : DCalls Try.prog 66 (List.map AV.val [.v (.slice a an ac)]).toArray s R :=
  calls_vcL (c := bodyOf Try.f66) (ann := ann_CloneC) la_CloneC (by kernel_rfl) Try.func66 rfl (by kernel_rfl) [.v (.slice a an ac)] [] (by rw [Try.ntmps66]; exact Nat.le_of_ble_eq_true rfl) (by kernel_rfl) (by rw [show Try.f66.ntmps = 8 from Try.ntmps66, eq_CloneC]; exact h)
/-- slices.Clone[[]lintel/api.Index,lintel/api.Index] -/
def vc_CloneX {W : Type} (π : Prims W) (a : Option Addr) (an ac : Nat) : W :=
  π.ite (a.isNone) (
    π.ret (Go.Value.slice (none) ((0 : Nat)) ((0 : Nat)))
  ) (
    π.nw (Go.Obj.cells #[] (106 : Nat) ((0 : Nat), (0 : Nat))) fun r0 =>
    π.app (106 : Nat) (5 : Nat) (48 : Nat) [(Go.Value.int (IntKind.i64) ((0 : Int))), (Go.Value.string (ByteArray.mk #[])), (Go.Value.int (IntKind.i64) ((0 : Int))), (Go.Value.bool (false)), (Go.Value.int (IntKind.i64) ((0 : Int)))] (some (Addr.mk r0 (0 : Nat) none)) ((0 : Nat)) ((0 : Nat)) (Src.sl a an) fun a1 n2 c3 =>
    π.ret (Go.Value.slice (a1) (n2) (c3))
  )
def ann_CloneX : Ann := { draws := [], join := [], loop := [] }
def la_CloneX : LA := { ptr := [], ty := [] }
set_option maxRecDepth 100000 in
theorem eq_CloneX {W : Type} (π : Prims W) (a : Option Addr) (an ac : Nat) : bodyL π Try.prog la_CloneX ann_CloneX (mkFr (maskA [] [.v (.slice a an ac)] 0) 8) Try.f75 (bodyOf Try.f75) (mkFr (List.map some [.v (.slice a an ac)]) 8) = vc_CloneX π a an ac := by kernel_rfl
theorem ok_CloneX (a : Option Addr) (an ac : Nat) (R : Value → PH → Prop) (s : PH) (h : vc_CloneX (RP Try.prog R) a an ac s) : DCalls Try.prog 75 (List.map AV.val [.v (.slice a an ac)]).toArray s R :=
  calls_vcL (c := bodyOf Try.f75) (ann := ann_CloneX) la_CloneX (by kernel_rfl) Try.func75 rfl (by kernel_rfl) [.v (.slice a an ac)] [] (by rw [Try.ntmps75]; exact Nat.le_of_ble_eq_true rfl) (by kernel_rfl) (by rw [show Try.f75.ntmps = 8 from Try.ntmps75, eq_CloneX]; exact h)
/-- slices.Clone[[]lintel/api.Foreign,lintel/api.Foreign] -/
def vc_CloneF {W : Type} (π : Prims W) (a : Option Addr) (an ac : Nat) : W :=
  π.ite (a.isNone) (
    π.ret (Go.Value.slice (none) ((0 : Nat)) ((0 : Nat)))
  ) (
    π.nw (Go.Obj.cells #[] (109 : Nat) ((0 : Nat), (0 : Nat))) fun r0 =>
    π.app (109 : Nat) (5 : Nat) (48 : Nat) [(Go.Value.int (IntKind.i64) ((0 : Int))), (Go.Value.string (ByteArray.mk #[])), (Go.Value.int (IntKind.i64) ((0 : Int))), (Go.Value.int (IntKind.i64) ((0 : Int))), (Go.Value.int (IntKind.i64) ((0 : Int)))] (some (Addr.mk r0 (0 : Nat) none)) ((0 : Nat)) ((0 : Nat)) (Src.sl a an) fun a1 n2 c3 =>
    π.ret (Go.Value.slice (a1) (n2) (c3))
  )
def ann_CloneF : Ann := { draws := [], join := [], loop := [] }
def la_CloneF : LA := { ptr := [], ty := [] }
set_option maxRecDepth 100000 in
theorem eq_CloneF {W : Type} (π : Prims W) (a : Option Addr) (an ac : Nat) : bodyL π Try.prog la_CloneF ann_CloneF (mkFr (maskA [] [.v (.slice a an ac)] 0) 8) Try.f76 (bodyOf Try.f76) (mkFr (List.map some [.v (.slice a an ac)]) 8) = vc_CloneF π a an ac := by kernel_rfl
theorem ok_CloneF (a : Option Addr) (an ac : Nat) (R : Value → PH → Prop) (s : PH) (h : vc_CloneF (RP Try.prog R) a an ac s) : DCalls Try.prog 76 (List.map AV.val [.v (.slice a an ac)]).toArray s R :=
  calls_vcL (c := bodyOf Try.f76) (ann := ann_CloneF) la_CloneF (by kernel_rfl) Try.func76 rfl (by kernel_rfl) [.v (.slice a an ac)] [] (by rw [Try.ntmps76]; exact Nat.le_of_ble_eq_true rfl) (by kernel_rfl) (by rw [show Try.f76.ntmps = 8 from Try.ntmps76, eq_CloneF]; exact h)
/-- lintel/schema.copied -/
def vc_copied {W : Type} (π : Prims W) (ti : Int) (tn : ByteArray) (ca : Option Addr) (can cac : Nat) (xa : Option Addr) (xan xac : Nat) (ka : Option Addr) (kan kac : Nat) : W :=
  π.call (66 : Nat) #[(Go.Value.slice (ca) (can) (cac))] (false, [(false, [.slice])]) fun ((((a0 : Option Addr), (n1 : Nat), (c2 : Nat)), _), _) =>
  π.call (75 : Nat) #[(Go.Value.slice (xa) (xan) (xac))] (false, [(false, [.slice])]) fun ((((a3 : Option Addr), (n4 : Nat), (c5 : Nat)), _), _) =>
  π.call (76 : Nat) #[(Go.Value.slice (ka) (kan) (kac))] (false, [(false, [.slice])]) fun ((((a6 : Option Addr), (n7 : Nat), (c8 : Nat)), _), _) =>
  π.ret (Go.Value.agg #[(Go.Value.int (IntKind.i64) (ti)), (Go.Value.string (tn)), (Go.Value.slice (a0) (n1) (c2)), (Go.Value.slice (a3) (n4) (c5)), (Go.Value.slice (a6) (n7) (c8))])
def ann_copied : Ann := { draws := [(1, { A := [0, 1, 3, 4, 6, 7], chkL := [(2, [4, 7]), (5, [7])], eag := [9, 11, 13] })], join := [], loop := [] }
def la_copied : LA := { ptr := [(1, 1, 0), (2, 2, 0), (3, 1, 2), (6, 1, 3), (9, 1, 4), (12, 1, 2), (13, 1, 3), (14, 1, 4)], ty := [(1, 42), (2, 42)] }
set_option maxRecDepth 100000 in
theorem eq_copied {W : Type} (π : Prims W) (ti : Int) (tn : ByteArray) (ca : Option Addr) (can cac : Nat) (xa : Option Addr) (xan xac : Nat) (ka : Option Addr) (kan kac : Nat) : bodyL π Try.prog la_copied ann_copied (mkFr (maskA [] [.v (.agg #[.int .i64 ti, .string tn, .slice ca can cac, .slice xa xan xac, .slice ka kan kac])] 0) 16) Try.f38 (bodyOf Try.f38) (mkFr (List.map some [.v (.agg #[.int .i64 ti, .string tn, .slice ca can cac, .slice xa xan xac, .slice ka kan kac])]) 16) = vc_copied π ti tn ca can cac xa xan xac ka kan kac := by kernel_rfl
theorem ok_copied (ti : Int) (tn : ByteArray) (ca : Option Addr) (can cac : Nat) (xa : Option Addr) (xan xac : Nat) (ka : Option Addr) (kan kac : Nat) (R : Value → PH → Prop) (s : PH) (h : vc_copied (RP Try.prog R) ti tn ca can cac xa xan xac ka kan kac s) : DCalls Try.prog 38 (List.map AV.val [.v (.agg #[.int .i64 ti, .string tn, .slice ca can cac, .slice xa xan xac, .slice ka kan kac])]).toArray s R :=
  calls_vcL (c := bodyOf Try.f38) (ann := ann_copied) la_copied (by kernel_rfl) Try.func38 rfl (by kernel_rfl) [.v (.agg #[.int .i64 ti, .string tn, .slice ca can cac, .slice xa xan xac, .slice ka kan kac])] [] (by rw [Try.ntmps38]; exact Nat.le_of_ble_eq_true rfl) (by kernel_rfl) (by rw [show Try.f38.ntmps = 16 from Try.ntmps38, eq_copied]; exact h)
/-- lintel/lintelref15.Named -/
def vc_rNamed {W : Type} (π : Prims W) (tx : ByteArray) : W :=
  π.ite ((↑tx.size : Int) == (0 : Int)) (
    π.ret (Go.Value.bool (false))
  ) (
    π.ite (decide ((↑tx.size : Int) > (16 : Int))) (
      π.ret (Go.Value.bool (false))
    ) (
      π.loop [(false, [.int .i64])] (((0 : Int), ()), ()) fun (((x1 : Int), _), _) again0 =>
        π.ite (decide (x1 < (↑tx.size : Int))) (
          π.guard ((0 : Int) ≤ x1 ∧ x1 < (↑tx.size : Int)) <|
          π.ite (decide ((↑(tx[x1.toNat]?.getD (0 : UInt8)).toNat : Int) ≥ (97 : Int))) (
            π.guard ((0 : Int) ≤ x1 ∧ x1 < (↑tx.size : Int)) <|
            π.guard ((0 : Int) ≤ x1 ∧ x1 < (↑tx.size : Int)) <|
            π.ite ((↑(tx[x1.toNat]?.getD (0 : UInt8)).toNat : Int) == (95 : Int)) (
              π.ite (!decide ((↑(tx[x1.toNat]?.getD (0 : UInt8)).toNat : Int) ≤ (122 : Int))) (
                π.ite (x1 == (0 : Int)) (
                  π.ret (Go.Value.bool (false))
                ) (
                  again0 ((IntKind.i64.wrap (x1 + (1 : Int)), ()), ())
                )
              ) (
                again0 ((IntKind.i64.wrap (x1 + (1 : Int)), ()), ())
              )
            ) (
              π.guard ((0 : Int) ≤ x1 ∧ x1 < (↑tx.size : Int)) <|
              π.ite (decide ((↑(tx[x1.toNat]?.getD (0 : UInt8)).toNat : Int) ≥ (48 : Int))) (
                π.guard ((0 : Int) ≤ x1 ∧ x1 < (↑tx.size : Int)) <|
                π.ite (!decide ((↑(tx[x1.toNat]?.getD (0 : UInt8)).toNat : Int) ≤ (122 : Int))) (
                  π.ite (!decide ((↑(tx[x1.toNat]?.getD (0 : UInt8)).toNat : Int) ≤ (57 : Int))) (
                    π.ret (Go.Value.bool (false))
                  ) (
                    π.ite (x1 == (0 : Int)) (
                      π.ret (Go.Value.bool (false))
                    ) (
                      again0 ((IntKind.i64.wrap (x1 + (1 : Int)), ()), ())
                    )
                  )
                ) (
                  again0 ((IntKind.i64.wrap (x1 + (1 : Int)), ()), ())
                )
              ) (
                π.ite (!decide ((↑(tx[x1.toNat]?.getD (0 : UInt8)).toNat : Int) ≤ (122 : Int))) (
                  π.ret (Go.Value.bool (false))
                ) (
                  again0 ((IntKind.i64.wrap (x1 + (1 : Int)), ()), ())
                )
              )
            )
          ) (
            π.guard ((0 : Int) ≤ x1 ∧ x1 < (↑tx.size : Int)) <|
            π.ite ((↑(tx[x1.toNat]?.getD (0 : UInt8)).toNat : Int) == (95 : Int)) (
              π.ite (x1 == (0 : Int)) (
                π.ret (Go.Value.bool (false))
              ) (
                again0 ((IntKind.i64.wrap (x1 + (1 : Int)), ()), ())
              )
            ) (
              π.guard ((0 : Int) ≤ x1 ∧ x1 < (↑tx.size : Int)) <|
              π.ite (decide ((↑(tx[x1.toNat]?.getD (0 : UInt8)).toNat : Int) ≥ (48 : Int))) (
                π.guard ((0 : Int) ≤ x1 ∧ x1 < (↑tx.size : Int)) <|
                π.ite (!decide ((↑(tx[x1.toNat]?.getD (0 : UInt8)).toNat : Int) ≤ (57 : Int))) (
                  π.ret (Go.Value.bool (false))
                ) (
                  π.ite (x1 == (0 : Int)) (
                    π.ret (Go.Value.bool (false))
                  ) (
                    again0 ((IntKind.i64.wrap (x1 + (1 : Int)), ()), ())
                  )
                )
              ) (
                π.ret (Go.Value.bool (false))
              )
            )
          )
        ) (
          π.ret (Go.Value.bool (true))
        )
    )
  )
def ann_rNamed : Ann := { draws := [], join := [], loop := [(4, [(3, 3)])] }
def la_rNamed : LA := { ptr := [], ty := [] }
set_option maxRecDepth 100000 in
theorem eq_rNamed {W : Type} (π : Prims W) (tx : ByteArray) : bodyL π Try.prog la_rNamed ann_rNamed (mkFr (maskA [] [.v (.string tx)] 0) 56) Try.f47 (bodyOf Try.f47) (mkFr (List.map some [.v (.string tx)]) 56) = vc_rNamed π tx := by kernel_rfl
theorem ok_rNamed (tx : ByteArray) (R : Value → PH → Prop) (s : PH) (h : vc_rNamed (RP Try.prog R) tx s) : DCalls Try.prog 47 (List.map AV.val [.v (.string tx)]).toArray s R :=
  calls_vcL (c := bodyOf Try.f47) (ann := ann_rNamed) la_rNamed (by kernel_rfl) Try.func47 rfl (by kernel_rfl) [.v (.string tx)] [] (by rw [Try.ntmps47]; exact Nat.le_of_ble_eq_true rfl) (by kernel_rfl) (by rw [show Try.f47.ntmps = 56 from Try.ntmps47, eq_rNamed]; exact h)
/-- lintel/lintelref15.Typed -/
def vc_rTyped {W : Type} (π : Prims W) (k : Int) : W :=
  π.ite (k == (1 : Int)) (
    π.ret (Go.Value.bool (true))
  ) (
    π.ret (Go.Value.bool (k == (2 : Int)))
  )
def ann_rTyped : Ann := { draws := [], join := [], loop := [] }
def la_rTyped : LA := { ptr := [], ty := [] }
set_option maxRecDepth 100000 in
theorem eq_rTyped {W : Type} (π : Prims W) (k : Int) : bodyL π Try.prog la_rTyped ann_rTyped (mkFr (maskA [] [.v (.int .i64 k)] 0) 9) Try.f49 (bodyOf Try.f49) (mkFr (List.map some [.v (.int .i64 k)]) 9) = vc_rTyped π k := by kernel_rfl
theorem ok_rTyped (k : Int) (R : Value → PH → Prop) (s : PH) (h : vc_rTyped (RP Try.prog R) k s) : DCalls Try.prog 49 (List.map AV.val [.v (.int .i64 k)]).toArray s R :=
  calls_vcL (c := bodyOf Try.f49) (ann := ann_rTyped) la_rTyped (by kernel_rfl) Try.func49 rfl (by kernel_rfl) [.v (.int .i64 k)] [] (by rw [Try.ntmps49]; exact Nat.le_of_ble_eq_true rfl) (by kernel_rfl) (by rw [show Try.f49.ntmps = 9 from Try.ntmps49, eq_rTyped]; exact h)
/-- lintel/lintelref01.Right -/
def vc_rRightV {W : Type} (π : Prims W) (vk vn : Int) (vs : ByteArray) : W :=
  π.ite (vk == (0 : Int)) (
    π.ite (vn == (0 : Int)) (
      π.ret (Go.Value.bool (vs.toList == (ByteArray.mk #[]).toList))
    ) (
      π.ret (Go.Value.bool (false))
    )
  ) (
    π.ite (vk == (1 : Int)) (
      π.ret (Go.Value.bool (vs.toList == (ByteArray.mk #[]).toList))
    ) (
      π.ite (vk == (2 : Int)) (
        π.ite (vn == (0 : Int)) (
          π.ret (Go.Value.bool (decide ((↑vs.size : Int) ≤ (64 : Int))))
        ) (
          π.ret (Go.Value.bool (false))
        )
      ) (
        π.ret (Go.Value.bool (false))
      )
    )
  )
def ann_rRightV : Ann := { draws := [], join := [], loop := [] }
def la_rRightV : LA := { ptr := [(1, 1, 0), (3, 1, 0), (6, 1, 1), (10, 1, 2), (14, 1, 0), (17, 1, 2), (20, 1, 0), (24, 1, 1), (29, 1, 2)], ty := [(1, 26)] }
set_option maxRecDepth 100000 in
theorem eq_rRightV {W : Type} (π : Prims W) (vk vn : Int) (vs : ByteArray) : bodyL π Try.prog la_rRightV ann_rRightV (mkFr (maskA [] [.v (.agg #[.int .i64 vk, .int .i64 vn, .string vs])] 0) 34) Try.f90 (bodyOf Try.f90) (mkFr (List.map some [.v (.agg #[.int .i64 vk, .int .i64 vn, .string vs])]) 34) = vc_rRightV π vk vn vs := by kernel_rfl
theorem ok_rRightV (vk vn : Int) (vs : ByteArray) (R : Value → PH → Prop) (s : PH) (h : vc_rRightV (RP Try.prog R) vk vn vs s) : DCalls Try.prog 90 (List.map AV.val [.v (.agg #[.int .i64 vk, .int .i64 vn, .string vs])]).toArray s R :=
  calls_vcL (c := bodyOf Try.f90) (ann := ann_rRightV) la_rRightV (by kernel_rfl) Try.func90 rfl (by kernel_rfl) [.v (.agg #[.int .i64 vk, .int .i64 vn, .string vs])] [] (by rw [Try.ntmps90]; exact Nat.le_of_ble_eq_true rfl) (by kernel_rfl) (by rw [show Try.f90.ntmps = 34 from Try.ntmps90, eq_rRightV]; exact h)
/-- lintel/lintelref15.Fits -/
def vc_rFits {W : Type} (π : Prims W) (vk vn : Int) (vs : ByteArray) (k : Int) : W :=
  π.call (90 : Nat) #[(Go.Value.agg #[(Go.Value.int (IntKind.i64) (vk)), (Go.Value.int (IntKind.i64) (vn)), (Go.Value.string (vs))])] (false, [(false, [.bool])]) fun (((b0 : Bool), _), _) =>
  π.ite (b0) (
    π.ite (vk == (0 : Int)) (
      π.ret (Go.Value.bool (true))
    ) (
      π.ret (Go.Value.bool (vk == k))
    )
  ) (
    π.ret (Go.Value.bool (false))
  )
def ann_rFits : Ann := { draws := [], join := [], loop := [] }
def la_rFits : LA := { ptr := [(2, 2, 0), (8, 2, 0), (12, 2, 0)], ty := [(2, 26)] }
set_option maxRecDepth 100000 in
theorem eq_rFits {W : Type} (π : Prims W) (vk vn : Int) (vs : ByteArray) (k : Int) : bodyL π Try.prog la_rFits ann_rFits (mkFr (maskA [] [.v (.agg #[.int .i64 vk, .int .i64 vn, .string vs]), .v (.int .i64 k)] 0) 18) Try.f50 (bodyOf Try.f50) (mkFr (List.map some [.v (.agg #[.int .i64 vk, .int .i64 vn, .string vs]), .v (.int .i64 k)]) 18) = vc_rFits π vk vn vs k := by kernel_rfl
theorem ok_rFits (vk vn : Int) (vs : ByteArray) (k : Int) (R : Value → PH → Prop) (s : PH) (h : vc_rFits (RP Try.prog R) vk vn vs k s) : DCalls Try.prog 50 (List.map AV.val [.v (.agg #[.int .i64 vk, .int .i64 vn, .string vs]), .v (.int .i64 k)]).toArray s R :=
  calls_vcL (c := bodyOf Try.f50) (ann := ann_rFits) la_rFits (by kernel_rfl) Try.func50 rfl (by kernel_rfl) [.v (.agg #[.int .i64 vk, .int .i64 vn, .string vs]), .v (.int .i64 k)] [] (by rw [Try.ntmps50]; exact Nat.le_of_ble_eq_true rfl) (by kernel_rfl) (by rw [show Try.f50.ntmps = 18 from Try.ntmps50, eq_rFits]; exact h)
/-- lintel/lintelref15.TableAt -/
def vc_rTableAt {W : Type} (π : Prims W) (sv sl : Int) (sa : Option Addr) (san sac : Nat) (name : ByteArray) : W :=
  π.loop [(true, [.int .i64, .int .i64, .slice]), (false, [.int .i64])] ((sv, sl, (sa, san, sac), ()), ((0 : Int), ()), ()) fun (((x1 : Int), (x2 : Int), ((a3 : Option Addr), (n4 : Nat), (c5 : Nat)), _), ((x6 : Int), _), _) again0 =>
    π.ite (decide (x6 < (↑n4 : Int))) (
      π.guard ((0 : Int) ≤ x6 ∧ x6 < (↑n4 : Int)) <|
      π.unSome (a3) fun p7 =>
      π.ld [.str] ((p7.add (x6.toNat * (5 : Nat))).add (1 : Nat)) fun ((t8 : ByteArray), _) =>
      π.ite (t8.toList == name.toList) (
        π.ret (Go.Value.int (IntKind.i64) (x6))
      ) (
        again0 ((x1, x2, (a3, n4, c5), ()), (IntKind.i64.wrap (x6 + (1 : Int)), ()), ())
      )
    ) (
      π.ret (Go.Value.int (IntKind.i64) ((-1 : Int)))
    )
def ann_rTableAt : Ann := { draws := [], join := [], loop := [(2, [(2, 24), (5, 3)])] }
def la_rTableAt : LA := { ptr := [(2, 2, 0), (7, 2, 2), (13, 2, 2)], ty := [(2, 24)] }
set_option maxRecDepth 100000 in
theorem eq_rTableAt {W : Type} (π : Prims W) (sv sl : Int) (sa : Option Addr) (san sac : Nat) (name : ByteArray) : bodyL π Try.prog la_rTableAt ann_rTableAt (mkFr (maskA [] [.v (.agg #[.int .i64 sv, .int .i64 sl, .slice sa san sac]), .v (.string name)] 0) 22) Try.f18 (bodyOf Try.f18) (mkFr (List.map some [.v (.agg #[.int .i64 sv, .int .i64 sl, .slice sa san sac]), .v (.string name)]) 22) = vc_rTableAt π sv sl sa san sac name := by kernel_rfl
theorem ok_rTableAt (sv sl : Int) (sa : Option Addr) (san sac : Nat) (name : ByteArray) (R : Value → PH → Prop) (s : PH) (h : vc_rTableAt (RP Try.prog R) sv sl sa san sac name s) : DCalls Try.prog 18 (List.map AV.val [.v (.agg #[.int .i64 sv, .int .i64 sl, .slice sa san sac]), .v (.string name)]).toArray s R :=
  calls_vcL (c := bodyOf Try.f18) (ann := ann_rTableAt) la_rTableAt (by kernel_rfl) Try.func18 rfl (by kernel_rfl) [.v (.agg #[.int .i64 sv, .int .i64 sl, .slice sa san sac]), .v (.string name)] [] (by rw [Try.ntmps18]; exact Nat.le_of_ble_eq_true rfl) (by kernel_rfl) (by rw [show Try.f18.ntmps = 22 from Try.ntmps18, eq_rTableAt]; exact h)
/-- lintel/lintelref15.TableOf -/
def vc_rTableOf {W : Type} (π : Prims W) (sv sl : Int) (sa : Option Addr) (san sac : Nat) (id : Int) : W :=
  π.loop [(true, [.int .i64, .int .i64, .slice]), (false, [.int .i64])] ((sv, sl, (sa, san, sac), ()), ((0 : Int), ()), ()) fun (((x1 : Int), (x2 : Int), ((a3 : Option Addr), (n4 : Nat), (c5 : Nat)), _), ((x6 : Int), _), _) again0 =>
    π.ite (decide (x6 < (↑n4 : Int))) (
      π.guard ((0 : Int) ≤ x6 ∧ x6 < (↑n4 : Int)) <|
      π.unSome (a3) fun p7 =>
      π.ld [.int .i64] ((p7.add (x6.toNat * (5 : Nat))).add (0 : Nat)) fun ((x8 : Int), _) =>
      π.ite (x8 == id) (
        π.ret (Go.Value.int (IntKind.i64) (x6))
      ) (
        again0 ((x1, x2, (a3, n4, c5), ()), (IntKind.i64.wrap (x6 + (1 : Int)), ()), ())
      )
    ) (
      π.ret (Go.Value.int (IntKind.i64) ((-1 : Int)))
    )
def ann_rTableOf : Ann := { draws := [], join := [], loop := [(2, [(2, 24), (5, 3)])] }
def la_rTableOf : LA := { ptr := [(2, 2, 0), (7, 2, 2), (13, 2, 2)], ty := [(2, 24)] }
set_option maxRecDepth 100000 in
theorem eq_rTableOf {W : Type} (π : Prims W) (sv sl : Int) (sa : Option Addr) (san sac : Nat) (id : Int) : bodyL π Try.prog la_rTableOf ann_rTableOf (mkFr (maskA [] [.v (.agg #[.int .i64 sv, .int .i64 sl, .slice sa san sac]), .v (.int .i64 id)] 0) 22) Try.f53 (bodyOf Try.f53) (mkFr (List.map some [.v (.agg #[.int .i64 sv, .int .i64 sl, .slice sa san sac]), .v (.int .i64 id)]) 22) = vc_rTableOf π sv sl sa san sac id := by kernel_rfl
theorem ok_rTableOf (sv sl : Int) (sa : Option Addr) (san sac : Nat) (id : Int) (R : Value → PH → Prop) (s : PH) (h : vc_rTableOf (RP Try.prog R) sv sl sa san sac id s) : DCalls Try.prog 53 (List.map AV.val [.v (.agg #[.int .i64 sv, .int .i64 sl, .slice sa san sac]), .v (.int .i64 id)]).toArray s R :=
  calls_vcL (c := bodyOf Try.f53) (ann := ann_rTableOf) la_rTableOf (by kernel_rfl) Try.func53 rfl (by kernel_rfl) [.v (.agg #[.int .i64 sv, .int .i64 sl, .slice sa san sac]), .v (.int .i64 id)] [] (by rw [Try.ntmps53]; exact Nat.le_of_ble_eq_true rfl) (by kernel_rfl) (by rw [show Try.f53.ntmps = 22 from Try.ntmps53, eq_rTableOf]; exact h)
/-- lintel/lintelref15.ColumnAt -/
def vc_rColumnAt {W : Type} (π : Prims W) (ti : Int) (tn : ByteArray) (ca : Option Addr) (can cac : Nat) (xa : Option Addr) (xan xac : Nat) (ka : Option Addr) (kan kac : Nat) (name : ByteArray) : W :=
  π.loop [(true, [.int .i64, .str, .slice, .slice, .slice]), (false, [.int .i64])] ((ti, tn, (ca, can, cac), (xa, xan, xac), (ka, kan, kac), ()), ((0 : Int), ()), ()) fun (((x1 : Int), (t2 : ByteArray), ((a3 : Option Addr), (n4 : Nat), (c5 : Nat)), ((a6 : Option Addr), (n7 : Nat), (c8 : Nat)), ((a9 : Option Addr), (n10 : Nat), (c11 : Nat)), _), ((x12 : Int), _), _) again0 =>
    π.ite (decide (x12 < (↑n4 : Int))) (
      π.guard ((0 : Int) ≤ x12 ∧ x12 < (↑n4 : Int)) <|
      π.unSome (a3) fun p13 =>
      π.ld [.str] ((p13.add (x12.toNat * (7 : Nat))).add (1 : Nat)) fun ((t14 : ByteArray), _) =>
      π.ite (t14.toList == name.toList) (
        π.ret (Go.Value.int (IntKind.i64) (x12))
      ) (
        again0 ((x1, t2, (a3, n4, c5), (a6, n7, c8), (a9, n10, c11), ()), (IntKind.i64.wrap (x12 + (1 : Int)), ()), ())
      )
    ) (
      π.ret (Go.Value.int (IntKind.i64) ((-1 : Int)))
    )
def ann_rColumnAt : Ann := { draws := [], join := [], loop := [(2, [(2, 42), (5, 3)])] }
def la_rColumnAt : LA := { ptr := [(2, 2, 0), (7, 2, 2), (13, 2, 2)], ty := [(2, 42)] }
set_option maxRecDepth 100000 in
theorem eq_rColumnAt {W : Type} (π : Prims W) (ti : Int) (tn : ByteArray) (ca : Option Addr) (can cac : Nat) (xa : Option Addr) (xan xac : Nat) (ka : Option Addr) (kan kac : Nat) (name : ByteArray) : bodyL π Try.prog la_rColumnAt ann_rColumnAt (mkFr (maskA [] [.v (.agg #[.int .i64 ti, .string tn, .slice ca can cac, .slice xa xan xac, .slice ka kan kac]), .v (.string name)] 0) 22) Try.f48 (bodyOf Try.f48) (mkFr (List.map some [.v (.agg #[.int .i64 ti, .string tn, .slice ca can cac, .slice xa xan xac, .slice ka kan kac]), .v (.string name)]) 22) = vc_rColumnAt π ti tn ca can cac xa xan xac ka kan kac name := by kernel_rfl
theorem ok_rColumnAt (ti : Int) (tn : ByteArray) (ca : Option Addr) (can cac : Nat) (xa : Option Addr) (xan xac : Nat) (ka : Option Addr) (kan kac : Nat) (name : ByteArray) (R : Value → PH → Prop) (s : PH) (h : vc_rColumnAt (RP Try.prog R) ti tn ca can cac xa xan xac ka kan kac name s) : DCalls Try.prog 48 (List.map AV.val [.v (.agg #[.int .i64 ti, .string tn, .slice ca can cac, .slice xa xan xac, .slice ka kan kac]), .v (.string name)]).toArray s R :=
  calls_vcL (c := bodyOf Try.f48) (ann := ann_rColumnAt) la_rColumnAt (by kernel_rfl) Try.func48 rfl (by kernel_rfl) [.v (.agg #[.int .i64 ti, .string tn, .slice ca can cac, .slice xa xan xac, .slice ka kan kac]), .v (.string name)] [] (by rw [Try.ntmps48]; exact Nat.le_of_ble_eq_true rfl) (by kernel_rfl) (by rw [show Try.f48.ntmps = 22 from Try.ntmps48, eq_rColumnAt]; exact h)
/-- lintel/lintelref15.ColumnOf -/
def vc_rColumnOf {W : Type} (π : Prims W) (ti : Int) (tn : ByteArray) (ca : Option Addr) (can cac : Nat) (xa : Option Addr) (xan xac : Nat) (ka : Option Addr) (kan kac : Nat) (id : Int) : W :=
  π.loop [(true, [.int .i64, .str, .slice, .slice, .slice]), (false, [.int .i64])] ((ti, tn, (ca, can, cac), (xa, xan, xac), (ka, kan, kac), ()), ((0 : Int), ()), ()) fun (((x1 : Int), (t2 : ByteArray), ((a3 : Option Addr), (n4 : Nat), (c5 : Nat)), ((a6 : Option Addr), (n7 : Nat), (c8 : Nat)), ((a9 : Option Addr), (n10 : Nat), (c11 : Nat)), _), ((x12 : Int), _), _) again0 =>
    π.ite (decide (x12 < (↑n4 : Int))) (
      π.guard ((0 : Int) ≤ x12 ∧ x12 < (↑n4 : Int)) <|
      π.unSome (a3) fun p13 =>
      π.ld [.int .i64] ((p13.add (x12.toNat * (7 : Nat))).add (0 : Nat)) fun ((x14 : Int), _) =>
      π.ite (x14 == id) (
        π.ret (Go.Value.int (IntKind.i64) (x12))
      ) (
        again0 ((x1, t2, (a3, n4, c5), (a6, n7, c8), (a9, n10, c11), ()), (IntKind.i64.wrap (x12 + (1 : Int)), ()), ())
      )
    ) (
      π.ret (Go.Value.int (IntKind.i64) ((-1 : Int)))
    )
def ann_rColumnOf : Ann := { draws := [], join := [], loop := [(2, [(2, 42), (5, 3)])] }
def la_rColumnOf : LA := { ptr := [(2, 2, 0), (7, 2, 2), (13, 2, 2)], ty := [(2, 42)] }
set_option maxRecDepth 100000 in
theorem eq_rColumnOf {W : Type} (π : Prims W) (ti : Int) (tn : ByteArray) (ca : Option Addr) (can cac : Nat) (xa : Option Addr) (xan xac : Nat) (ka : Option Addr) (kan kac : Nat) (id : Int) : bodyL π Try.prog la_rColumnOf ann_rColumnOf (mkFr (maskA [] [.v (.agg #[.int .i64 ti, .string tn, .slice ca can cac, .slice xa xan xac, .slice ka kan kac]), .v (.int .i64 id)] 0) 22) Try.f52 (bodyOf Try.f52) (mkFr (List.map some [.v (.agg #[.int .i64 ti, .string tn, .slice ca can cac, .slice xa xan xac, .slice ka kan kac]), .v (.int .i64 id)]) 22) = vc_rColumnOf π ti tn ca can cac xa xan xac ka kan kac id := by kernel_rfl
theorem ok_rColumnOf (ti : Int) (tn : ByteArray) (ca : Option Addr) (can cac : Nat) (xa : Option Addr) (xan xac : Nat) (ka : Option Addr) (kan kac : Nat) (id : Int) (R : Value → PH → Prop) (s : PH) (h : vc_rColumnOf (RP Try.prog R) ti tn ca can cac xa xan xac ka kan kac id s) : DCalls Try.prog 52 (List.map AV.val [.v (.agg #[.int .i64 ti, .string tn, .slice ca can cac, .slice xa xan xac, .slice ka kan kac]), .v (.int .i64 id)]).toArray s R :=
  calls_vcL (c := bodyOf Try.f52) (ann := ann_rColumnOf) la_rColumnOf (by kernel_rfl) Try.func52 rfl (by kernel_rfl) [.v (.agg #[.int .i64 ti, .string tn, .slice ca can cac, .slice xa xan xac, .slice ka kan kac]), .v (.int .i64 id)] [] (by rw [Try.ntmps52]; exact Nat.le_of_ble_eq_true rfl) (by kernel_rfl) (by rw [show Try.f52.ntmps = 22 from Try.ntmps52, eq_rColumnOf]; exact h)
/-- lintel/lintelref15.IndexAt -/
def vc_rIndexAt {W : Type} (π : Prims W) (ti : Int) (tn : ByteArray) (ca : Option Addr) (can cac : Nat) (xa : Option Addr) (xan xac : Nat) (ka : Option Addr) (kan kac : Nat) (name : ByteArray) : W :=
  π.loop [(true, [.int .i64, .str, .slice, .slice, .slice]), (false, [.int .i64])] ((ti, tn, (ca, can, cac), (xa, xan, xac), (ka, kan, kac), ()), ((0 : Int), ()), ()) fun (((x1 : Int), (t2 : ByteArray), ((a3 : Option Addr), (n4 : Nat), (c5 : Nat)), ((a6 : Option Addr), (n7 : Nat), (c8 : Nat)), ((a9 : Option Addr), (n10 : Nat), (c11 : Nat)), _), ((x12 : Int), _), _) again0 =>
    π.ite (decide (x12 < (↑n7 : Int))) (
      π.guard ((0 : Int) ≤ x12 ∧ x12 < (↑n7 : Int)) <|
      π.unSome (a6) fun p13 =>
      π.ld [.str] ((p13.add (x12.toNat * (5 : Nat))).add (1 : Nat)) fun ((t14 : ByteArray), _) =>
      π.ite (t14.toList == name.toList) (
        π.ret (Go.Value.int (IntKind.i64) (x12))
      ) (
        again0 ((x1, t2, (a3, n4, c5), (a6, n7, c8), (a9, n10, c11), ()), (IntKind.i64.wrap (x12 + (1 : Int)), ()), ())
      )
    ) (
      π.ret (Go.Value.int (IntKind.i64) ((-1 : Int)))
    )
def ann_rIndexAt : Ann := { draws := [], join := [], loop := [(2, [(2, 42), (5, 3)])] }
def la_rIndexAt : LA := { ptr := [(2, 2, 0), (7, 2, 3), (13, 2, 3)], ty := [(2, 42)] }
set_option maxRecDepth 100000 in
theorem eq_rIndexAt {W : Type} (π : Prims W) (ti : Int) (tn : ByteArray) (ca : Option Addr) (can cac : Nat) (xa : Option Addr) (xan xac : Nat) (ka : Option Addr) (kan kac : Nat) (name : ByteArray) : bodyL π Try.prog la_rIndexAt ann_rIndexAt (mkFr (maskA [] [.v (.agg #[.int .i64 ti, .string tn, .slice ca can cac, .slice xa xan xac, .slice ka kan kac]), .v (.string name)] 0) 22) Try.f51 (bodyOf Try.f51) (mkFr (List.map some [.v (.agg #[.int .i64 ti, .string tn, .slice ca can cac, .slice xa xan xac, .slice ka kan kac]), .v (.string name)]) 22) = vc_rIndexAt π ti tn ca can cac xa xan xac ka kan kac name := by kernel_rfl
theorem ok_rIndexAt (ti : Int) (tn : ByteArray) (ca : Option Addr) (can cac : Nat) (xa : Option Addr) (xan xac : Nat) (ka : Option Addr) (kan kac : Nat) (name : ByteArray) (R : Value → PH → Prop) (s : PH) (h : vc_rIndexAt (RP Try.prog R) ti tn ca can cac xa xan xac ka kan kac name s) : DCalls Try.prog 51 (List.map AV.val [.v (.agg #[.int .i64 ti, .string tn, .slice ca can cac, .slice xa xan xac, .slice ka kan kac]), .v (.string name)]).toArray s R :=
  calls_vcL (c := bodyOf Try.f51) (ann := ann_rIndexAt) la_rIndexAt (by kernel_rfl) Try.func51 rfl (by kernel_rfl) [.v (.agg #[.int .i64 ti, .string tn, .slice ca can cac, .slice xa xan xac, .slice ka kan kac]), .v (.string name)] [] (by rw [Try.ntmps51]; exact Nat.le_of_ble_eq_true rfl) (by kernel_rfl) (by rw [show Try.f51.ntmps = 22 from Try.ntmps51, eq_rIndexAt]; exact h)
/-- lintel/lintelref15.KeyAt -/
def vc_rKeyAt {W : Type} (π : Prims W) (ti : Int) (tn : ByteArray) (ca : Option Addr) (can cac : Nat) (xa : Option Addr) (xan xac : Nat) (ka : Option Addr) (kan kac : Nat) (name : ByteArray) : W :=
  π.loop [(true, [.int .i64, .str, .slice, .slice, .slice]), (false, [.int .i64])] ((ti, tn, (ca, can, cac), (xa, xan, xac), (ka, kan, kac), ()), ((0 : Int), ()), ()) fun (((x1 : Int), (t2 : ByteArray), ((a3 : Option Addr), (n4 : Nat), (c5 : Nat)), ((a6 : Option Addr), (n7 : Nat), (c8 : Nat)), ((a9 : Option Addr), (n10 : Nat), (c11 : Nat)), _), ((x12 : Int), _), _) again0 =>
    π.ite (decide (x12 < (↑n10 : Int))) (
      π.guard ((0 : Int) ≤ x12 ∧ x12 < (↑n10 : Int)) <|
      π.unSome (a9) fun p13 =>
      π.ld [.str] ((p13.add (x12.toNat * (5 : Nat))).add (1 : Nat)) fun ((t14 : ByteArray), _) =>
      π.ite (t14.toList == name.toList) (
        π.ret (Go.Value.int (IntKind.i64) (x12))
      ) (
        again0 ((x1, t2, (a3, n4, c5), (a6, n7, c8), (a9, n10, c11), ()), (IntKind.i64.wrap (x12 + (1 : Int)), ()), ())
      )
    ) (
      π.ret (Go.Value.int (IntKind.i64) ((-1 : Int)))
    )
def ann_rKeyAt : Ann := { draws := [], join := [], loop := [(2, [(2, 42), (5, 3)])] }
def la_rKeyAt : LA := { ptr := [(2, 2, 0), (7, 2, 4), (13, 2, 4)], ty := [(2, 42)] }
set_option maxRecDepth 100000 in
theorem eq_rKeyAt {W : Type} (π : Prims W) (ti : Int) (tn : ByteArray) (ca : Option Addr) (can cac : Nat) (xa : Option Addr) (xan xac : Nat) (ka : Option Addr) (kan kac : Nat) (name : ByteArray) : bodyL π Try.prog la_rKeyAt ann_rKeyAt (mkFr (maskA [] [.v (.agg #[.int .i64 ti, .string tn, .slice ca can cac, .slice xa xan xac, .slice ka kan kac]), .v (.string name)] 0) 22) Try.f54 (bodyOf Try.f54) (mkFr (List.map some [.v (.agg #[.int .i64 ti, .string tn, .slice ca can cac, .slice xa xan xac, .slice ka kan kac]), .v (.string name)]) 22) = vc_rKeyAt π ti tn ca can cac xa xan xac ka kan kac name := by kernel_rfl
theorem ok_rKeyAt (ti : Int) (tn : ByteArray) (ca : Option Addr) (can cac : Nat) (xa : Option Addr) (xan xac : Nat) (ka : Option Addr) (kan kac : Nat) (name : ByteArray) (R : Value → PH → Prop) (s : PH) (h : vc_rKeyAt (RP Try.prog R) ti tn ca can cac xa xan xac ka kan kac name s) : DCalls Try.prog 54 (List.map AV.val [.v (.agg #[.int .i64 ti, .string tn, .slice ca can cac, .slice xa xan xac, .slice ka kan kac]), .v (.string name)]).toArray s R :=
  calls_vcL (c := bodyOf Try.f54) (ann := ann_rKeyAt) la_rKeyAt (by kernel_rfl) Try.func54 rfl (by kernel_rfl) [.v (.agg #[.int .i64 ti, .string tn, .slice ca can cac, .slice xa xan xac, .slice ka kan kac]), .v (.string name)] [] (by rw [Try.ntmps54]; exact Nat.le_of_ble_eq_true rfl) (by kernel_rfl) (by rw [show Try.f54.ntmps = 22 from Try.ntmps54, eq_rKeyAt]; exact h)
/-- lintel/lintelref15.Copy -/
def vc_rCopy {W : Type} (π : Prims W) (sv sl : Int) (sa : Option Addr) (san sac : Nat) : W :=
  π.loop [(true, [.int .i64, .int .i64, .slice]), (true, [.int .i64, .int .i64, .slice]), (false, [.slice]), (false, [.int .i64])] ((sv, sl, (sa, san, sac), ()), ((0 : Int), (0 : Int), (none, (0 : Nat), (0 : Nat)), ()), ((none, (0 : Nat), (0 : Nat)), ()), ((0 : Int), ()), ()) fun (((x1 : Int), (x2 : Int), ((a3 : Option Addr), (n4 : Nat), (c5 : Nat)), _), ((x6 : Int), (x7 : Int), ((a8 : Option Addr), (n9 : Nat), (c10 : Nat)), _), (((a11 : Option Addr), (n12 : Nat), (c13 : Nat)), _), ((x14 : Int), _), _) again0 =>
    π.ite (decide (x14 < (↑n4 : Int))) (
      π.guard ((0 : Int) ≤ x14 ∧ x14 < (↑n4 : Int)) <|
      π.unSome (a3) fun p15 =>
      π.ld [.int .i64, .str, .slice, .slice, .slice] (p15.add (x14.toNat * (5 : Nat))) fun ((x16 : Int), (t17 : ByteArray), ((a18 : Option Addr), (n19 : Nat), (c20 : Nat)), ((a21 : Option Addr), (n22 : Nat), (c23 : Nat)), ((a24 : Option Addr), (n25 : Nat), (c26 : Nat)), _) =>
      π.nw (Go.Obj.cells #[] (44 : Nat) ((0 : Nat), (0 : Nat))) fun r27 =>
      π.app (44 : Nat) (7 : Nat) (72 : Nat) [(Go.Value.int (IntKind.i64) ((0 : Int))), (Go.Value.string (ByteArray.mk #[])), (Go.Value.int (IntKind.i64) ((0 : Int))), (Go.Value.int (IntKind.i64) ((0 : Int))), (Go.Value.int (IntKind.i64) ((0 : Int))), (Go.Value.int (IntKind.i64) ((0 : Int))), (Go.Value.string (ByteArray.mk #[]))] (some (Addr.mk r27 (0 : Nat) none)) ((0 : Nat)) ((0 : Nat)) (Src.sl a18 n19) fun a28 n29 c30 =>
      π.nw (Go.Obj.cells #[] (106 : Nat) ((0 : Nat), (0 : Nat))) fun r31 =>
      π.app (106 : Nat) (5 : Nat) (48 : Nat) [(Go.Value.int (IntKind.i64) ((0 : Int))), (Go.Value.string (ByteArray.mk #[])), (Go.Value.int (IntKind.i64) ((0 : Int))), (Go.Value.bool (false)), (Go.Value.int (IntKind.i64) ((0 : Int)))] (some (Addr.mk r31 (0 : Nat) none)) ((0 : Nat)) ((0 : Nat)) (Src.sl a21 n22) fun a32 n33 c34 =>
      π.nw (Go.Obj.cells #[] (109 : Nat) ((0 : Nat), (0 : Nat))) fun r35 =>
      π.app (109 : Nat) (5 : Nat) (48 : Nat) [(Go.Value.int (IntKind.i64) ((0 : Int))), (Go.Value.string (ByteArray.mk #[])), (Go.Value.int (IntKind.i64) ((0 : Int))), (Go.Value.int (IntKind.i64) ((0 : Int))), (Go.Value.int (IntKind.i64) ((0 : Int)))] (some (Addr.mk r35 (0 : Nat) none)) ((0 : Nat)) ((0 : Nat)) (Src.sl a24 n25) fun a36 n37 c38 =>
      π.nw (Go.Obj.cells #[(Go.Value.int (IntKind.i64) (x16)), (Go.Value.string (t17)), (Go.Value.slice (a28) (n29) (c30)), (Go.Value.slice (a32) (n33) (c34)), (Go.Value.slice (a36) (n37) (c38))] (42 : Nat) ((0 : Nat), (0 : Nat))) fun r39 =>
      π.app (42 : Nat) (5 : Nat) (96 : Nat) [(Go.Value.int (IntKind.i64) ((0 : Int))), (Go.Value.string (ByteArray.mk #[])), (Go.Value.slice (none) ((0 : Nat)) ((0 : Nat))), (Go.Value.slice (none) ((0 : Nat)) ((0 : Nat))), (Go.Value.slice (none) ((0 : Nat)) ((0 : Nat)))] (a11) (n12) (c13) (Src.sl (some (Addr.mk r39 (0 : Nat) none)) (1 : Nat)) fun a40 n41 c42 =>
      again0 ((x1, x2, (a3, n4, c5), ()), (x6, x7, (a8, n9, c10), ()), ((a40, n41, c42), ()), (IntKind.i64.wrap (x14 + (1 : Int)), ()), ())
    ) (
      π.ret (Go.Value.agg #[(Go.Value.int (IntKind.i64) (x1)), (Go.Value.int (IntKind.i64) (x2)), (Go.Value.slice (a11) (n12) (c13))])
    )
def ann_rCopy : Ann := { draws := [], join := [], loop := [(3, [(1, 24), (2, 24), (3, 22), (4, 3)])] }
def la_rCopy : LA := { ptr := [(1, 1, 0), (2, 2, 0), (5, 5, 0), (7, 1, 2), (13, 1, 2), (19, 5, 2), (22, 5, 2), (24, 5, 3), (27, 5, 3), (29, 5, 4), (32, 5, 4), (38, 1, 2)], ty := [(1, 24), (2, 24), (5, 42)] }
set_option maxRecDepth 100000 in
theorem eq_rCopy {W : Type} (π : Prims W) (sv sl : Int) (sa : Option Addr) (san sac : Nat) : bodyL π Try.prog la_rCopy ann_rCopy (mkFr (maskA [] [.v (.agg #[.int .i64 sv, .int .i64 sl, .slice sa san sac])] 0) 40) Try.f13 (bodyOf Try.f13) (mkFr (List.map some [.v (.agg #[.int .i64 sv, .int .i64 sl, .slice sa san sac])]) 40) = vc_rCopy π sv sl sa san sac := by kernel_rfl
theorem ok_rCopy (sv sl : Int) (sa : Option Addr) (san sac : Nat) (R : Value → PH → Prop) (s : PH) (h : vc_rCopy (RP Try.prog R) sv sl sa san sac s) : DCalls Try.prog 13 (List.map AV.val [.v (.agg #[.int .i64 sv, .int .i64 sl, .slice sa san sac])]).toArray s R :=
  calls_vcL (c := bodyOf Try.f13) (ann := ann_rCopy) la_rCopy (by kernel_rfl) Try.func13 rfl (by kernel_rfl) [.v (.agg #[.int .i64 sv, .int .i64 sl, .slice sa san sac])] [] (by rw [Try.ntmps13]; exact Nat.le_of_ble_eq_true rfl) (by kernel_rfl) (by rw [show Try.f13.ntmps = 40 from Try.ntmps13, eq_rCopy]; exact h)
/-- lintel/lintelref10.Num -/
def vc_Num {W : Type} (π : Prims W) (n : Int) : W :=
  π.join [(false, [.int .u64])] (fun J0 =>
    π.ite (decide (n < (0 : Int))) (
      J0 ((IntKind.u64.wrap (IntKind.u64.wrap (IntKind.u64.wrap (IntKind.i64.wrap ((0 : Int) - IntKind.i64.wrap (n + (1 : Int)))) * (2 : Int)) + (1 : Int)), ()), ())
    ) (
      J0 ((IntKind.u64.wrap (IntKind.u64.wrap n * (2 : Int)), ()), ())
    )
  ) (fun (((x1 : Int), _), _) =>
    π.loop [(false, [.int .u64]), (false, [.slice])] ((x1, ()), ((none, (0 : Nat), (0 : Nat)), ()), ()) fun (((x3 : Int), _), (((a4 : Option Addr), (n5 : Nat), (c6 : Nat)), _), _) again2 =>
      π.ite (decide (x3 ≥ (128 : Int))) (
        π.nw (Go.Obj.cells #[(Go.Value.int (IntKind.u8) (IntKind.u8.wrap (IntKind.u64.wrap (x3.tmod (128 : Int) + (128 : Int)))))] (5 : Nat) ((0 : Nat), (0 : Nat))) fun r7 =>
        π.app (5 : Nat) (1 : Nat) (1 : Nat) [(Go.Value.int (IntKind.u8) ((0 : Int)))] (a4) (n5) (c6) (Src.sl (some (Addr.mk r7 (0 : Nat) none)) (1 : Nat)) fun a8 n9 c10 =>
        again2 ((IntKind.u64.wrap (x3.tdiv (128 : Int)), ()), ((a8, n9, c10), ()), ())
      ) (
        π.nw (Go.Obj.cells #[(Go.Value.int (IntKind.u8) (IntKind.u8.wrap x3))] (5 : Nat) ((0 : Nat), (0 : Nat))) fun r11 =>
        π.app (5 : Nat) (1 : Nat) (1 : Nat) [(Go.Value.int (IntKind.u8) ((0 : Int)))] (a4) (n5) (c6) (Src.sl (some (Addr.mk r11 (0 : Nat) none)) (1 : Nat)) fun a12 n13 c14 =>
        π.b2s (a12) (n13) fun t15 =>
        π.ret (Go.Value.string (t15))
      )
  )
def ann_Num : Ann := { draws := [], join := [(4, [(3, 186)])], loop := [(5, [(3, 186), (4, 187)])] }
def la_Num : LA := { ptr := [], ty := [] }
set_option maxRecDepth 100000 in
theorem eq_Num {W : Type} (π : Prims W) (n : Int) : bodyL π Try.prog la_Num ann_Num (mkFr (maskA [] [.v (.int .i64 n)] 0) 34) Try.f84 (bodyOf Try.f84) (mkFr (List.map some [.v (.int .i64 n)]) 34) = vc_Num π n := by kernel_rfl
theorem ok_Num (n : Int) (R : Value → PH → Prop) (s : PH) (h : vc_Num (RP Try.prog R) n s) : DCalls Try.prog 84 (List.map AV.val [.v (.int .i64 n)]).toArray s R :=
  calls_vcL (c := bodyOf Try.f84) (ann := ann_Num) la_Num (by kernel_rfl) Try.func84 rfl (by kernel_rfl) [.v (.int .i64 n)] [] (by rw [Try.ntmps84]; exact Nat.le_of_ble_eq_true rfl) (by kernel_rfl) (by rw [show Try.f84.ntmps = 34 from Try.ntmps84, eq_Num]; exact h)
/-- lintel/lintelref10.nums -/
def vc_nums {W : Type} (π : Prims W) (a : Option Addr) (an ac : Nat) : W :=
  π.loop [(false, [.str]), (false, [.int .i64])] ((ByteArray.mk #[], ()), ((0 : Int), ()), ()) fun (((t1 : ByteArray), _), ((x2 : Int), _), _) again0 =>
    π.ite (decide (x2 < (↑an : Int))) (
      π.guard ((0 : Int) ≤ x2 ∧ x2 < (↑an : Int)) <|
      π.unSome (a) fun p3 =>
      π.ld [.int .i64] (p3.add (x2.toNat * (1 : Nat))) fun ((x4 : Int), _) =>
      π.call (84 : Nat) #[(Go.Value.int (IntKind.i64) (x4))] (false, [(false, [.str])]) fun (((t5 : ByteArray), _), _) =>
      π.guard ((↑(t1.size + t5.size) : Int) ≤ (9223372036854775807 : Int)) <|
      again0 ((t1 ++ t5, ()), (IntKind.i64.wrap (x2 + (1 : Int)), ()), ())
    ) (
      π.ret (Go.Value.string (t1))
    )
def ann_nums : Ann := { draws := [], join := [], loop := [(3, [(3, 9), (4, 3)])] }
def la_nums : LA := { ptr := [], ty := [] }
set_option maxRecDepth 100000 in
theorem eq_nums {W : Type} (π : Prims W) (a : Option Addr) (an ac : Nat) : bodyL π Try.prog la_nums ann_nums (mkFr (maskA [] [.v (.slice a an ac)] 0) 19) Try.f83 (bodyOf Try.f83) (mkFr (List.map some [.v (.slice a an ac)]) 19) = vc_nums π a an ac := by kernel_rfl
theorem ok_nums (a : Option Addr) (an ac : Nat) (R : Value → PH → Prop) (s : PH) (h : vc_nums (RP Try.prog R) a an ac s) : DCalls Try.prog 83 (List.map AV.val [.v (.slice a an ac)]).toArray s R :=
  calls_vcL (c := bodyOf Try.f83) (ann := ann_nums) la_nums (by kernel_rfl) Try.func83 rfl (by kernel_rfl) [.v (.slice a an ac)] [] (by rw [Try.ntmps83]; exact Nat.le_of_ble_eq_true rfl) (by kernel_rfl) (by rw [show Try.f83.ntmps = 19 from Try.ntmps83, eq_nums]; exact h)
/-- lintel/lintelref10.text -/
def vc_text {W : Type} (π : Prims W) (tx : ByteArray) : W :=
  π.call (84 : Nat) #[(Go.Value.int (IntKind.i64) ((↑tx.size : Int)))] (false, [(false, [.str])]) fun (((t0 : ByteArray), _), _) =>
  π.guard ((↑(t0.size + tx.size) : Int) ≤ (9223372036854775807 : Int)) <|
  π.ret (Go.Value.string (t0 ++ tx))
def ann_text : Ann := { draws := [], join := [], loop := [] }
def la_text : LA := { ptr := [], ty := [] }
set_option maxRecDepth 100000 in
theorem eq_text {W : Type} (π : Prims W) (tx : ByteArray) : bodyL π Try.prog la_text ann_text (mkFr (maskA [] [.v (.string tx)] 0) 8) Try.f85 (bodyOf Try.f85) (mkFr (List.map some [.v (.string tx)]) 8) = vc_text π tx := by kernel_rfl
theorem ok_text (tx : ByteArray) (R : Value → PH → Prop) (s : PH) (h : vc_text (RP Try.prog R) tx s) : DCalls Try.prog 85 (List.map AV.val [.v (.string tx)]).toArray s R :=
  calls_vcL (c := bodyOf Try.f85) (ann := ann_text) la_text (by kernel_rfl) Try.func85 rfl (by kernel_rfl) [.v (.string tx)] [] (by rw [Try.ntmps85]; exact Nat.le_of_ble_eq_true rfl) (by kernel_rfl) (by rw [show Try.f85.ntmps = 8 from Try.ntmps85, eq_text]; exact h)
/-- lintel/lintelref10.flag -/
def vc_flag {W : Type} (π : Prims W) (b : Bool) : W :=
  π.ite (b) (
    π.call (84 : Nat) #[(Go.Value.int (IntKind.i64) ((1 : Int)))] (false, [(false, [.str])]) fun (((t0 : ByteArray), _), _) =>
    π.ret (Go.Value.string (t0))
  ) (
    π.call (84 : Nat) #[(Go.Value.int (IntKind.i64) ((0 : Int)))] (false, [(false, [.str])]) fun (((t1 : ByteArray), _), _) =>
    π.ret (Go.Value.string (t1))
  )
def ann_flag : Ann := { draws := [], join := [], loop := [] }
def la_flag : LA := { ptr := [], ty := [] }
set_option maxRecDepth 100000 in
theorem eq_flag {W : Type} (π : Prims W) (b : Bool) : bodyL π Try.prog la_flag ann_flag (mkFr (maskA [] [.v (.bool b)] 0) 6) Try.f87 (bodyOf Try.f87) (mkFr (List.map some [.v (.bool b)]) 6) = vc_flag π b := by kernel_rfl
theorem ok_flag (b : Bool) (R : Value → PH → Prop) (s : PH) (h : vc_flag (RP Try.prog R) b s) : DCalls Try.prog 87 (List.map AV.val [.v (.bool b)]).toArray s R :=
  calls_vcL (c := bodyOf Try.f87) (ann := ann_flag) la_flag (by kernel_rfl) Try.func87 rfl (by kernel_rfl) [.v (.bool b)] [] (by rw [Try.ntmps87]; exact Nat.le_of_ble_eq_true rfl) (by kernel_rfl) (by rw [show Try.f87.ntmps = 6 from Try.ntmps87, eq_flag]; exact h)
/-- lintel/lintelref10.value -/
def vc_encV {W : Type} (π : Prims W) (vk vn : Int) (vs : ByteArray) : W :=
  π.callQ (84 : Nat) #[(Go.Value.int (IntKind.i64) (vk))] (false, [(false, [.str])]) fun (((t0 : ByteArray), _), _) =>
  π.callQ (84 : Nat) #[(Go.Value.int (IntKind.i64) (vn))] (false, [(false, [.str])]) fun (((t1 : ByteArray), _), _) =>
  π.guard ((↑(t0.size + t1.size) : Int) ≤ (9223372036854775807 : Int)) <|
  π.callQ (85 : Nat) #[(Go.Value.string (vs))] (false, [(false, [.str])]) fun (((t2 : ByteArray), _), _) =>
  π.guard ((↑((t0 ++ t1).size + t2.size) : Int) ≤ (9223372036854775807 : Int)) <|
  π.ret (Go.Value.string (t0 ++ t1 ++ t2))
def ann_encV : Ann := { draws := [(1, { A := [0, 1, 2, 3, 4, 5, 6, 7, 8, 9, 10, 11], quiet := [2, 5, 9] })], join := [], loop := [] }
def la_encV : LA := { ptr := [(1, 1, 0), (3, 1, 0), (6, 1, 1), (10, 1, 2)], ty := [(1, 26)] }
set_option maxRecDepth 100000 in
theorem eq_encV {W : Type} (π : Prims W) (vk vn : Int) (vs : ByteArray) : bodyL π Try.prog la_encV ann_encV (mkFr (maskA [] [.v (.agg #[.int .i64 vk, .int .i64 vn, .string vs])] 0) 14) Try.f132 (bodyOf Try.f132) (mkFr (List.map some [.v (.agg #[.int .i64 vk, .int .i64 vn, .string vs])]) 14) = vc_encV π vk vn vs := by kernel_rfl
theorem ok_encV (vk vn : Int) (vs : ByteArray) (R : Value → PH → Prop) (s : PH) (h : vc_encV (RP Try.prog R) vk vn vs s) : DCalls Try.prog 132 (List.map AV.val [.v (.agg #[.int .i64 vk, .int .i64 vn, .string vs])]).toArray s R :=
  calls_vcL (c := bodyOf Try.f132) (ann := ann_encV) la_encV (by kernel_rfl) Try.func132 rfl (by kernel_rfl) [.v (.agg #[.int .i64 vk, .int .i64 vn, .string vs])] [] (by rw [Try.ntmps132]; exact Nat.le_of_ble_eq_true rfl) (by kernel_rfl) (by rw [show Try.f132.ntmps = 14 from Try.ntmps132, eq_encV]; exact h)
/-- lintel/lintelref10.columns -/
def vc_encC {W : Type} (π : Prims W) (a : Option Addr) (an ac : Nat) : W :=
  π.call (84 : Nat) #[(Go.Value.int (IntKind.i64) ((↑an : Int)))] (false, [(false, [.str])]) fun (((t0 : ByteArray), _), _) =>
  π.loop [(false, [.str]), (false, [.int .i64])] ((t0, ()), ((0 : Int), ()), ()) fun (((t2 : ByteArray), _), ((x3 : Int), _), _) again1 =>
    π.ite (decide (x3 < (↑an : Int))) (
      π.guard ((0 : Int) ≤ x3 ∧ x3 < (↑an : Int)) <|
      π.unSome (a) fun p4 =>
      π.ld [.int .i64] ((p4.add (x3.toNat * (7 : Nat))).add (0 : Nat)) fun ((x5 : Int), _) =>
      π.callQ (84 : Nat) #[(Go.Value.int (IntKind.i64) (x5))] (false, [(false, [.str])]) fun (((t6 : ByteArray), _), _) =>
      π.guard ((↑(t2.size + t6.size) : Int) ≤ (9223372036854775807 : Int)) <|
      π.guard ((0 : Int) ≤ x3 ∧ x3 < (↑an : Int)) <|
      π.unSome (a) fun p7 =>
      π.ld [.str] ((p7.add (x3.toNat * (7 : Nat))).add (1 : Nat)) fun ((t8 : ByteArray), _) =>
      π.callQ (85 : Nat) #[(Go.Value.string (t8))] (false, [(false, [.str])]) fun (((t9 : ByteArray), _), _) =>
      π.guard ((↑((t2 ++ t6).size + t9.size) : Int) ≤ (9223372036854775807 : Int)) <|
      π.guard ((0 : Int) ≤ x3 ∧ x3 < (↑an : Int)) <|
      π.unSome (a) fun p10 =>
      π.ld [.int .i64] ((p10.add (x3.toNat * (7 : Nat))).add (2 : Nat)) fun ((x11 : Int), _) =>
      π.guard ((0 : Int) ≤ x3 ∧ x3 < (↑an : Int)) <|
      π.unSome (a) fun p12 =>
      π.ld [.int .i64] ((p12.add (x3.toNat * (7 : Nat))).add (3 : Nat)) fun ((x13 : Int), _) =>
      π.guard ((0 : Int) ≤ x3 ∧ x3 < (↑an : Int)) <|
      π.unSome (a) fun p14 =>
      π.ld [.int .i64, .int .i64, .str] ((p14.add (x3.toNat * (7 : Nat))).add (4 : Nat)) fun ((x15 : Int), (x16 : Int), (t17 : ByteArray), _) =>
      π.nw (Go.Obj.cells #[(Go.Value.int (IntKind.i64) (x11)), (Go.Value.int (IntKind.i64) (x13))] (3 : Nat) ((0 : Nat), (0 : Nat))) fun r18 =>
      π.call (83 : Nat) #[(Go.Value.slice (some (Addr.mk r18 (0 : Nat) none)) ((2 : Nat)) ((2 : Nat)))] (false, [(false, [.str])]) fun (((t19 : ByteArray), _), _) =>
      π.still [.int .i64, .int .i64, .str] ((p14.add (x3.toNat * (7 : Nat))).add (4 : Nat)) (x15, x16, t17, ()) <|
      π.guard ((↑((t2 ++ t6 ++ t9).size + t19.size) : Int) ≤ (9223372036854775807 : Int)) <|
      π.call (132 : Nat) #[(Go.Value.agg #[(Go.Value.int (IntKind.i64) (x15)), (Go.Value.int (IntKind.i64) (x16)), (Go.Value.string (t17))])] (false, [(false, [.str])]) fun (((t20 : ByteArray), _), _) =>
      π.guard ((↑((t2 ++ t6 ++ t9 ++ t19).size + t20.size) : Int) ≤ (9223372036854775807 : Int)) <|
      again1 ((t2 ++ t6 ++ t9 ++ t19 ++ t20, ()), (IntKind.i64.wrap (x3 + (1 : Int)), ()), ())
    ) (
      π.ret (Go.Value.string (t2))
    )
def ann_encC : Ann := { draws := [(5, { A := [0, 1, 2, 3, 4, 5, 6, 7, 8, 9, 10, 11, 12, 13, 14, 15, 16, 17, 18, 19, 20, 21, 22, 23, 24, 28, 29, 30, 31, 32], quiet := [6, 13, 26, 33], chkL := [(26, [32])], eag := [27, 34] })], join := [], loop := [(3, [(3, 9), (4, 3)])] }
def la_encC : LA := { ptr := [], ty := [] }
set_option maxRecDepth 100000 in
theorem eq_encC {W : Type} (π : Prims W) (a : Option Addr) (an ac : Nat) : bodyL π Try.prog la_encC ann_encC (mkFr (maskA [] [.v (.slice a an ac)] 0) 50) Try.f86 (bodyOf Try.f86) (mkFr (List.map some [.v (.slice a an ac)]) 50) = vc_encC π a an ac := by kernel_rfl
theorem ok_encC (a : Option Addr) (an ac : Nat) (R : Value → PH → Prop) (s : PH) (h : vc_encC (RP Try.prog R) a an ac s) : DCalls Try.prog 86 (List.map AV.val [.v (.slice a an ac)]).toArray s R :=
  calls_vcL (c := bodyOf Try.f86) (ann := ann_encC) la_encC (by kernel_rfl) Try.func86 rfl (by kernel_rfl) [.v (.slice a an ac)] [] (by rw [Try.ntmps86]; exact Nat.le_of_ble_eq_true rfl) (by kernel_rfl) (by rw [show Try.f86.ntmps = 50 from Try.ntmps86, eq_encC]; exact h)
/-- lintel/lintelref10.Schema -/
def vc_encS {W : Type} (π : Prims W) (sv sl : Int) (sa : Option Addr) (san sac : Nat) : W :=
  π.nw (Go.Obj.cells #[(Go.Value.int (IntKind.i64) (sv)), (Go.Value.int (IntKind.i64) (sl))] (3 : Nat) ((0 : Nat), (0 : Nat))) fun r0 =>
  π.call (83 : Nat) #[(Go.Value.slice (some (Addr.mk r0 (0 : Nat) none)) ((2 : Nat)) ((2 : Nat)))] (false, [(false, [.str])]) fun (((t1 : ByteArray), _), _) =>
  π.call (84 : Nat) #[(Go.Value.int (IntKind.i64) ((↑san : Int)))] (false, [(false, [.str])]) fun (((t2 : ByteArray), _), _) =>
  π.guard ((↑(t1.size + t2.size) : Int) ≤ (9223372036854775807 : Int)) <|
  π.loop [(true, [.int .i64, .int .i64, .slice]), (false, [.str]), (false, [.int .i64])] ((sv, sl, (sa, san, sac), ()), (t1 ++ t2, ()), ((0 : Int), ()), ()) fun (((x4 : Int), (x5 : Int), ((a6 : Option Addr), (n7 : Nat), (c8 : Nat)), _), ((t9 : ByteArray), _), ((x10 : Int), _), _) again3 =>
    π.ite (decide (x10 < (↑n7 : Int))) (
      π.guard ((0 : Int) ≤ x10 ∧ x10 < (↑n7 : Int)) <|
      π.unSome (a6) fun p11 =>
      π.ld [.int .i64, .str, .slice, .slice, .slice] (p11.add (x10.toNat * (5 : Nat))) fun ((x12 : Int), (t13 : ByteArray), ((a14 : Option Addr), (n15 : Nat), (c16 : Nat)), ((a17 : Option Addr), (n18 : Nat), (c19 : Nat)), ((a20 : Option Addr), (n21 : Nat), (c22 : Nat)), _) =>
      π.callQ (84 : Nat) #[(Go.Value.int (IntKind.i64) (x12))] (false, [(false, [.str])]) fun (((t23 : ByteArray), _), _) =>
      π.guard ((↑(t9.size + t23.size) : Int) ≤ (9223372036854775807 : Int)) <|
      π.callQ (85 : Nat) #[(Go.Value.string (t13))] (false, [(false, [.str])]) fun (((t24 : ByteArray), _), _) =>
      π.guard ((↑((t9 ++ t23).size + t24.size) : Int) ≤ (9223372036854775807 : Int)) <|
      π.callQ (86 : Nat) #[(Go.Value.slice (a14) (n15) (c16))] (false, [(false, [.str])]) fun (((t25 : ByteArray), _), _) =>
      π.guard ((↑((t9 ++ t23 ++ t24).size + t25.size) : Int) ≤ (9223372036854775807 : Int)) <|
      π.callQ (84 : Nat) #[(Go.Value.int (IntKind.i64) ((↑n18 : Int)))] (false, [(false, [.str])]) fun (((t26 : ByteArray), _), _) =>
      π.guard ((↑((t9 ++ t23 ++ t24 ++ t25).size + t26.size) : Int) ≤ (9223372036854775807 : Int)) <|
      π.loop [(true, [.int .i64, .int .i64, .slice]), (false, [.str]), (false, [.int .i64]), (true, [.int .i64, .str, .slice, .slice, .slice]), (false, [.int .i64])] ((x4, x5, (a6, n7, c8), ()), (t9 ++ t23 ++ t24 ++ t25 ++ t26, ()), (x10, ()), (x12, t13, (a14, n15, c16), (a17, n18, c19), (a20, n21, c22), ()), ((0 : Int), ()), ()) fun (((x28 : Int), (x29 : Int), ((a30 : Option Addr), (n31 : Nat), (c32 : Nat)), _), ((t33 : ByteArray), _), ((x34 : Int), _), ((x35 : Int), (t36 : ByteArray), ((a37 : Option Addr), (n38 : Nat), (c39 : Nat)), ((a40 : Option Addr), (n41 : Nat), (c42 : Nat)), ((a43 : Option Addr), (n44 : Nat), (c45 : Nat)), _), ((x46 : Int), _), _) again27 =>
        π.ite (decide (x46 < (↑n41 : Int))) (
          π.guard ((0 : Int) ≤ x46 ∧ x46 < (↑n41 : Int)) <|
          π.unSome (a40) fun p47 =>
          π.ld [.int .i64, .str, .int .i64, .bool, .int .i64] (p47.add (x46.toNat * (5 : Nat))) fun ((x48 : Int), (t49 : ByteArray), (x50 : Int), (b51 : Bool), (x52 : Int), _) =>
          π.callQ (84 : Nat) #[(Go.Value.int (IntKind.i64) (x48))] (false, [(false, [.str])]) fun (((t53 : ByteArray), _), _) =>
          π.guard ((↑(t33.size + t53.size) : Int) ≤ (9223372036854775807 : Int)) <|
          π.callQ (85 : Nat) #[(Go.Value.string (t49))] (false, [(false, [.str])]) fun (((t54 : ByteArray), _), _) =>
          π.guard ((↑((t33 ++ t53).size + t54.size) : Int) ≤ (9223372036854775807 : Int)) <|
          π.callQ (84 : Nat) #[(Go.Value.int (IntKind.i64) (x50))] (false, [(false, [.str])]) fun (((t55 : ByteArray), _), _) =>
          π.guard ((↑((t33 ++ t53 ++ t54).size + t55.size) : Int) ≤ (9223372036854775807 : Int)) <|
          π.callQ (87 : Nat) #[(Go.Value.bool (b51))] (false, [(false, [.str])]) fun (((t56 : ByteArray), _), _) =>
          π.guard ((↑((t33 ++ t53 ++ t54 ++ t55).size + t56.size) : Int) ≤ (9223372036854775807 : Int)) <|
          π.callQ (84 : Nat) #[(Go.Value.int (IntKind.i64) (x52))] (false, [(false, [.str])]) fun (((t57 : ByteArray), _), _) =>
          π.guard ((↑((t33 ++ t53 ++ t54 ++ t55 ++ t56).size + t57.size) : Int) ≤ (9223372036854775807 : Int)) <|
          again27 ((x28, x29, (a30, n31, c32), ()), (t33 ++ t53 ++ t54 ++ t55 ++ t56 ++ t57, ()), (x34, ()), (x35, t36, (a37, n38, c39), (a40, n41, c42), (a43, n44, c45), ()), (IntKind.i64.wrap (x46 + (1 : Int)), ()), ())
        ) (
          π.call (84 : Nat) #[(Go.Value.int (IntKind.i64) ((↑n44 : Int)))] (false, [(false, [.str])]) fun (((t58 : ByteArray), _), _) =>
          π.guard ((↑(t33.size + t58.size) : Int) ≤ (9223372036854775807 : Int)) <|
          π.loop [(true, [.int .i64, .int .i64, .slice]), (false, [.str]), (false, [.int .i64]), (true, [.int .i64, .str, .slice, .slice, .slice]), (false, [.int .i64])] ((x28, x29, (a30, n31, c32), ()), (t33 ++ t58, ()), (x34, ()), (x35, t36, (a37, n38, c39), (a40, n41, c42), (a43, n44, c45), ()), ((0 : Int), ()), ()) fun (((x60 : Int), (x61 : Int), ((a62 : Option Addr), (n63 : Nat), (c64 : Nat)), _), ((t65 : ByteArray), _), ((x66 : Int), _), ((x67 : Int), (t68 : ByteArray), ((a69 : Option Addr), (n70 : Nat), (c71 : Nat)), ((a72 : Option Addr), (n73 : Nat), (c74 : Nat)), ((a75 : Option Addr), (n76 : Nat), (c77 : Nat)), _), ((x78 : Int), _), _) again59 =>
            π.ite (decide (x78 < (↑n76 : Int))) (
              π.guard ((0 : Int) ≤ x78 ∧ x78 < (↑n76 : Int)) <|
              π.unSome (a75) fun p79 =>
              π.ld [.int .i64, .str, .int .i64, .int .i64, .int .i64] (p79.add (x78.toNat * (5 : Nat))) fun ((x80 : Int), (t81 : ByteArray), (x82 : Int), (x83 : Int), (x84 : Int), _) =>
              π.callQ (84 : Nat) #[(Go.Value.int (IntKind.i64) (x80))] (false, [(false, [.str])]) fun (((t85 : ByteArray), _), _) =>
              π.guard ((↑(t65.size + t85.size) : Int) ≤ (9223372036854775807 : Int)) <|
              π.callQ (85 : Nat) #[(Go.Value.string (t81))] (false, [(false, [.str])]) fun (((t86 : ByteArray), _), _) =>
              π.guard ((↑((t65 ++ t85).size + t86.size) : Int) ≤ (9223372036854775807 : Int)) <|
              π.nw (Go.Obj.cells #[(Go.Value.int (IntKind.i64) (x82)), (Go.Value.int (IntKind.i64) (x83)), (Go.Value.int (IntKind.i64) (x84))] (3 : Nat) ((0 : Nat), (0 : Nat))) fun r87 =>
              π.call (83 : Nat) #[(Go.Value.slice (some (Addr.mk r87 (0 : Nat) none)) ((3 : Nat)) ((3 : Nat)))] (false, [(false, [.str])]) fun (((t88 : ByteArray), _), _) =>
              π.guard ((↑((t65 ++ t85 ++ t86).size + t88.size) : Int) ≤ (9223372036854775807 : Int)) <|
              again59 ((x60, x61, (a62, n63, c64), ()), (t65 ++ t85 ++ t86 ++ t88, ()), (x66, ()), (x67, t68, (a69, n70, c71), (a72, n73, c74), (a75, n76, c77), ()), (IntKind.i64.wrap (x78 + (1 : Int)), ()), ())
            ) (
              again3 ((x60, x61, (a62, n63, c64), ()), (t65, ()), (IntKind.i64.wrap (x66 + (1 : Int)), ()), ())
            )
        )
    ) (
      π.ret (Go.Value.string (t9))
    )
def ann_encS : Ann := { draws := [(1, { A := [0, 1, 2, 3, 6, 7, 8], quiet := [5, 9], chkL := [(5, [7])], eag := [10, 11] }), (6, { A := [0, 1, 2, 3, 4, 5, 6, 7, 8, 9, 10, 11, 12, 13, 14, 15, 16, 17], quiet := [3, 7, 11, 16] }), (11, { A := [0, 1, 2, 3, 4, 5, 6, 7, 8, 9, 10, 11, 12, 13, 14, 15, 16, 17, 18, 19, 20], quiet := [3, 7, 11, 15, 19] }), (17, { A := [0, 1, 2, 3, 4, 5, 6, 7, 8, 9, 10, 11, 12, 13, 14], quiet := [3, 7, 16], eag := [17] })], join := [], loop := [(3, [(1, 24), (3, 9), (4, 3)]), (8, [(1, 24), (3, 9), (4, 3), (5, 42), (6, 3)]), (14, [(1, 24), (3, 9), (4, 3), (5, 42), (8, 3)])] }
def la_encS : LA := { ptr := [(1, 1, 0), (5, 5, 0), (7, 7, 0), (9, 9, 0), (10, 1, 0), (12, 1, 1), (16, 1, 2), (22, 1, 2), (28, 1, 2), (34, 5, 0), (38, 5, 1), (42, 5, 2), (46, 5, 3), (52, 5, 3), (58, 5, 3), (64, 7, 0), (68, 7, 1), (72, 7, 2), (76, 7, 3), (80, 7, 4), (85, 5, 4), (91, 5, 4), (97, 5, 4), (103, 9, 0), (107, 9, 1), (111, 9, 2), (113, 9, 3), (115, 9, 4)], ty := [(1, 24), (5, 42), (7, 106), (9, 109)] }
set_option maxRecDepth 100000 in
theorem eq_encS {W : Type} (π : Prims W) (sv sl : Int) (sa : Option Addr) (san sac : Nat) : bodyL π Try.prog la_encS ann_encS (mkFr (maskA [] [.v (.agg #[.int .i64 sv, .int .i64 sl, .slice sa san sac])] 0) 121) Try.f44 (bodyOf Try.f44) (mkFr (List.map some [.v (.agg #[.int .i64 sv, .int .i64 sl, .slice sa san sac])]) 121) = vc_encS π sv sl sa san sac := by kernel_rfl
theorem ok_encS (sv sl : Int) (sa : Option Addr) (san sac : Nat) (R : Value → PH → Prop) (s : PH) (h : vc_encS (RP Try.prog R) sv sl sa san sac s) : DCalls Try.prog 44 (List.map AV.val [.v (.agg #[.int .i64 sv, .int .i64 sl, .slice sa san sac])]).toArray s R :=
  calls_vcL (c := bodyOf Try.f44) (ann := ann_encS) la_encS (by kernel_rfl) Try.func44 rfl (by kernel_rfl) [.v (.agg #[.int .i64 sv, .int .i64 sl, .slice sa san sac])] [] (by rw [Try.ntmps44]; exact Nat.le_of_ble_eq_true rfl) (by kernel_rfl) (by rw [show Try.f44.ntmps = 121 from Try.ntmps44, eq_encS]; exact h)
/-- lintel/lintellaw15.same -/
def vc_same {W : Type} (π : Prims W) (sv sl : Int) (sa : Option Addr) (san sac : Nat) (sv2 sl2 : Int) (sb : Option Addr) (sbn sbc : Nat) : W :=
  π.callQ (44 : Nat) #[(Go.Value.agg #[(Go.Value.int (IntKind.i64) (sv)), (Go.Value.int (IntKind.i64) (sl)), (Go.Value.slice (sa) (san) (sac))])] (false, [(false, [.str])]) fun (((t0 : ByteArray), _), _) =>
  π.callQ (44 : Nat) #[(Go.Value.agg #[(Go.Value.int (IntKind.i64) (sv2)), (Go.Value.int (IntKind.i64) (sl2)), (Go.Value.slice (sb) (sbn) (sbc))])] (false, [(false, [.str])]) fun (((t1 : ByteArray), _), _) =>
  π.ret (Go.Value.bool (t0.toList == t1.toList))
def ann_same : Ann := { draws := [(1, { A := [0, 1, 2, 3, 4, 5], quiet := [1, 3] })], join := [], loop := [] }
def la_same : LA := { ptr := [(2, 2, 0), (3, 3, 0)], ty := [(2, 24), (3, 24)] }
set_option maxRecDepth 100000 in
theorem eq_same {W : Type} (π : Prims W) (sv sl : Int) (sa : Option Addr) (san sac : Nat) (sv2 sl2 : Int) (sb : Option Addr) (sbn sbc : Nat) : bodyL π Try.prog la_same ann_same (mkFr (maskA [] [.v (.agg #[.int .i64 sv, .int .i64 sl, .slice sa san sac]), .v (.agg #[.int .i64 sv2, .int .i64 sl2, .slice sb sbn sbc])] 0) 10) Try.f16 (bodyOf Try.f16) (mkFr (List.map some [.v (.agg #[.int .i64 sv, .int .i64 sl, .slice sa san sac]), .v (.agg #[.int .i64 sv2, .int .i64 sl2, .slice sb sbn sbc])]) 10) = vc_same π sv sl sa san sac sv2 sl2 sb sbn sbc := by kernel_rfl
theorem ok_same (sv sl : Int) (sa : Option Addr) (san sac : Nat) (sv2 sl2 : Int) (sb : Option Addr) (sbn sbc : Nat) (R : Value → PH → Prop) (s : PH) (h : vc_same (RP Try.prog R) sv sl sa san sac sv2 sl2 sb sbn sbc s) : DCalls Try.prog 16 (List.map AV.val [.v (.agg #[.int .i64 sv, .int .i64 sl, .slice sa san sac]), .v (.agg #[.int .i64 sv2, .int .i64 sl2, .slice sb sbn sbc])]).toArray s R :=
  calls_vcL (c := bodyOf Try.f16) (ann := ann_same) la_same (by kernel_rfl) Try.func16 rfl (by kernel_rfl) [.v (.agg #[.int .i64 sv, .int .i64 sl, .slice sa san sac]), .v (.agg #[.int .i64 sv2, .int .i64 sl2, .slice sb sbn sbc])] [] (by rw [Try.ntmps16]; exact Nat.le_of_ble_eq_true rfl) (by kernel_rfl) (by rw [show Try.f16.ntmps = 10 from Try.ntmps16, eq_same]; exact h)
end Go.Proofs.Ythepfbcgpbkbdaa
end
