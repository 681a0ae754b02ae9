/-
  Part 1 for the law: texts of this session's own, those parts that the claim needs, one behind the other.
  Conditions: none; it proves no statement by itself.
-/
import Derived.Test.YthepfbcgpbkbdaaGreatFwQ
import Derived.Test.YthepfbcgpbkbdaaGreatFwU
import Derived.Test.YthepfbcgpbkbdaaGreatProg
import Derived.Test.YthepfbcgpbkbdaaGreatFwW
import Derived.Test.YthepfbcgpbkbdaaGreatFwO
import Derived.KernelRfl
import Derived.WalkKit
import Derived.ProofKit
import Derived.OpenShut
import Derived.ShutString
import Derived.ChangeOld
import Derived.Below
import Derived.SizedLaws
set_option linter.unusedVariables false
set_option linter.unusedSectionVars false
set_option linter.unusedSimpArgs false
section
set_option linter.unusedVariables false
set_option maxHeartbeats 1000000
namespace Go.Proofs.YthepfbcgpbkbdaaGreat
open Fw Fw.W Go
/-- lintel/schema.named -/
def vc_named {W : Type} (π : Prims W) (tx : ByteArray) : W :=
  π.ite (decide ((↑tx.size : Int) < (1 : Int))) (
    π.ret (Go.Value.bool (false))
  ) (
    π.ite (decide ((↑tx.size : Int) > (16 : Int))) (
      π.ret (Go.Value.bool (false))
    ) (
      π.loop [(false, [.int .i64]), (false, [.int .i64])] (((↑tx.size : Int), ()), ((0 : Int), ()), ()) fun (((x1 : Int), _), ((x2 : Int), _), _) again0 =>
        π.ite (decide (x2 < x1)) (
          π.guard ((0 : Int) ≤ x2 ∧ x2 < (↑tx.size : Int)) <|
          π.ite (decide ((↑(tx[x2.toNat]?.getD (0 : UInt8)).toNat : Int) ≥ (97 : Int))) (
            π.ite (!decide ((↑(tx[x2.toNat]?.getD (0 : UInt8)).toNat : Int) ≤ (122 : Int))) (
              π.ite (x2 == (0 : Int)) (
                π.ret (Go.Value.bool (false))
              ) (
                π.ite ((↑(tx[x2.toNat]?.getD (0 : UInt8)).toNat : Int) != (95 : Int)) (
                  π.ite (decide ((↑(tx[x2.toNat]?.getD (0 : UInt8)).toNat : Int) < (48 : Int))) (
                    π.ret (Go.Value.bool (false))
                  ) (
                    π.ite (decide ((↑(tx[x2.toNat]?.getD (0 : UInt8)).toNat : Int) > (57 : Int))) (
                      π.ret (Go.Value.bool (false))
                    ) (
                      again0 ((x1, ()), (IntKind.i64.wrap (x2 + (1 : Int)), ()), ())
                    )
                  )
                ) (
                  again0 ((x1, ()), (IntKind.i64.wrap (x2 + (1 : Int)), ()), ())
                )
              )
            ) (
              again0 ((x1, ()), (IntKind.i64.wrap (x2 + (1 : Int)), ()), ())
            )
          ) (
            π.ite (x2 == (0 : Int)) (
              π.ret (Go.Value.bool (false))
            ) (
              π.ite ((↑(tx[x2.toNat]?.getD (0 : UInt8)).toNat : Int) != (95 : Int)) (
                π.ite (decide ((↑(tx[x2.toNat]?.getD (0 : UInt8)).toNat : Int) < (48 : Int))) (
                  π.ret (Go.Value.bool (false))
                ) (
                  π.ite (decide ((↑(tx[x2.toNat]?.getD (0 : UInt8)).toNat : Int) > (57 : Int))) (
                    π.ret (Go.Value.bool (false))
                  ) (
                    again0 ((x1, ()), (IntKind.i64.wrap (x2 + (1 : Int)), ()), ())
                  )
                )
              ) (
                again0 ((x1, ()), (IntKind.i64.wrap (x2 + (1 : Int)), ()), ())
              )
            )
          )
        ) (
          π.ret (Go.Value.bool (true))
        )
    )
  )
def ann_named : Ann := { draws := [], join := [], loop := [(4, [(15, 3), (16, 3)])] }
def la_named : LA := { ptr := [], ty := [] }
set_option maxRecDepth 100000 in
theorem eq_named {W : Type} (π : Prims W) (tx : ByteArray) : bodyL π Tryz.prog la_named ann_named (mkFr (maskA [] [.v (.string tx)] 0) 47) Tryz.f142 (bodyOf Tryz.f142) (mkFr (List.map some [.v (.string tx)]) 47) = vc_named π tx := by kernel_rfl
theorem ok_named (tx : ByteArray) (R : Value → PH → Prop) (s : PH) (h : vc_named (RP Tryz.prog R) tx s) : DCalls Tryz.prog 142 (List.map AV.val [.v (.string tx)]).toArray s R :=
  calls_vcL (c := bodyOf Tryz.f142) (ann := ann_named) la_named (by kernel_rfl) Tryz.func142 rfl (by kernel_rfl) [.v (.string tx)] [] (by rw [Tryz.ntmps142]; exact Nat.le_of_ble_eq_true rfl) (by kernel_rfl) (by rw [show Tryz.f142.ntmps = 47 from Tryz.ntmps142, eq_named]; exact h)
/-- lintel/schema.kind -/
def vc_kind {W : Type} (π : Prims W) (k : Int) : W :=
  π.ite (k == (1 : Int)) (
    π.ret (Go.Value.bool (true))
  ) (
    π.ret (Go.Value.bool (k == (2 : Int)))
  )
def ann_kind : Ann := { draws := [], join := [], loop := [] }
def la_kind : LA := { ptr := [], ty := [] }
set_option maxRecDepth 100000 in
theorem eq_kind {W : Type} (π : Prims W) (k : Int) : bodyL π Tryz.prog la_kind ann_kind (mkFr (maskA [] [.v (.int .i64 k)] 0) 9) Tryz.f151 (bodyOf Tryz.f151) (mkFr (List.map some [.v (.int .i64 k)]) 9) = vc_kind π k := by kernel_rfl
theorem ok_kind (k : Int) (R : Value → PH → Prop) (s : PH) (h : vc_kind (RP Tryz.prog R) k s) : DCalls Tryz.prog 151 (List.map AV.val [.v (.int .i64 k)]).toArray s R :=
  calls_vcL (c := bodyOf Tryz.f151) (ann := ann_kind) la_kind (by kernel_rfl) Tryz.func151 rfl (by kernel_rfl) [.v (.int .i64 k)] [] (by rw [Tryz.ntmps151]; exact Nat.le_of_ble_eq_true rfl) (by kernel_rfl) (by rw [show Tryz.f151.ntmps = 9 from Tryz.ntmps151, eq_kind]; exact h)
/-- lintel/value.Check -/
def vc_vCheck {W : Type} (π : Prims W) (vk vn : Int) (vs : ByteArray) : W :=
  π.ite (vk == (0 : Int)) (
    π.ite (vn == (0 : Int)) (
      π.ite (!vs.toList == (ByteArray.mk #[]).toList) (
        π.ret (Go.Value.int (IntKind.i64) ((10 : Int)))
      ) (
        π.ret (Go.Value.int (IntKind.i64) ((0 : Int)))
      )
    ) (
      π.ret (Go.Value.int (IntKind.i64) ((10 : Int)))
    )
  ) (
    π.ite (vk == (1 : Int)) (
      π.ite (!vs.toList == (ByteArray.mk #[]).toList) (
        π.ret (Go.Value.int (IntKind.i64) ((10 : Int)))
      ) (
        π.ret (Go.Value.int (IntKind.i64) ((0 : Int)))
      )
    ) (
      π.ite (vk == (2 : Int)) (
        π.ite (vn == (0 : Int)) (
          π.ite (!decide ((↑vs.size : Int) ≤ (64 : Int))) (
            π.ret (Go.Value.int (IntKind.i64) ((10 : Int)))
          ) (
            π.ret (Go.Value.int (IntKind.i64) ((0 : Int)))
          )
        ) (
          π.ret (Go.Value.int (IntKind.i64) ((10 : Int)))
        )
      ) (
        π.ret (Go.Value.int (IntKind.i64) ((10 : Int)))
      )
    )
  )
def ann_vCheck : Ann := { draws := [], join := [], loop := [] }
def la_vCheck : LA := { ptr := [(1, 1, 0), (4, 1, 0), (8, 1, 1), (12, 1, 2), (18, 1, 2), (23, 1, 1), (27, 1, 2)], ty := [(1, 33)] }
set_option maxRecDepth 100000 in
theorem eq_vCheck {W : Type} (π : Prims W) (vk vn : Int) (vs : ByteArray) : bodyL π Tryz.prog la_vCheck ann_vCheck (mkFr (maskA [] [.v (.agg #[.int .i64 vk, .int .i64 vn, .string vs])] 0) 34) Tryz.f184 (bodyOf Tryz.f184) (mkFr (List.map some [.v (.agg #[.int .i64 vk, .int .i64 vn, .string vs])]) 34) = vc_vCheck π vk vn vs := by kernel_rfl
theorem ok_vCheck (vk vn : Int) (vs : ByteArray) (R : Value → PH → Prop) (s : PH) (h : vc_vCheck (RP Tryz.prog R) vk vn vs s) : DCalls Tryz.prog 184 (List.map AV.val [.v (.agg #[.int .i64 vk, .int .i64 vn, .string vs])]).toArray s R :=
  calls_vcL (c := bodyOf Tryz.f184) (ann := ann_vCheck) la_vCheck (by kernel_rfl) Tryz.func184 rfl (by kernel_rfl) [.v (.agg #[.int .i64 vk, .int .i64 vn, .string vs])] [] (by rw [Tryz.ntmps184]; exact Nat.le_of_ble_eq_true rfl) (by kernel_rfl) (by rw [show Tryz.f184.ntmps = 34 from Tryz.ntmps184, eq_vCheck]; exact h)
/-- lintel/schema.fits -/
def vc_fits {W : Type} (π : Prims W) (vk vn : Int) (vs : ByteArray) (k : Int) : W :=
  π.call (184 : Nat) #[(Go.Value.agg #[(Go.Value.int (IntKind.i64) (vk)), (Go.Value.int (IntKind.i64) (vn)), (Go.Value.string (vs))])] (false, [(false, [.int .i64])]) fun (((x0 : Int), _), _) =>
  π.ite (x0 == (0 : Int)) (
    π.ite (vk == (0 : Int)) (
      π.ret (Go.Value.bool (true))
    ) (
      π.ret (Go.Value.bool (vk == k))
    )
  ) (
    π.ret (Go.Value.bool (false))
  )
def ann_fits : Ann := { draws := [], join := [], loop := [] }
def la_fits : LA := { ptr := [(2, 2, 0), (9, 2, 0), (13, 2, 0)], ty := [(2, 33)] }
set_option maxRecDepth 100000 in
theorem eq_fits {W : Type} (π : Prims W) (vk vn : Int) (vs : ByteArray) (k : Int) : bodyL π Tryz.prog la_fits ann_fits (mkFr (maskA [] [.v (.agg #[.int .i64 vk, .int .i64 vn, .string vs]), .v (.int .i64 k)] 0) 19) Tryz.f152 (bodyOf Tryz.f152) (mkFr (List.map some [.v (.agg #[.int .i64 vk, .int .i64 vn, .string vs]), .v (.int .i64 k)]) 19) = vc_fits π vk vn vs k := by kernel_rfl
theorem ok_fits (vk vn : Int) (vs : ByteArray) (k : Int) (R : Value → PH → Prop) (s : PH) (h : vc_fits (RP Tryz.prog R) vk vn vs k s) : DCalls Tryz.prog 152 (List.map AV.val [.v (.agg #[.int .i64 vk, .int .i64 vn, .string vs]), .v (.int .i64 k)]).toArray s R :=
  calls_vcL (c := bodyOf Tryz.f152) (ann := ann_fits) la_fits (by kernel_rfl) Tryz.func152 rfl (by kernel_rfl) [.v (.agg #[.int .i64 vk, .int .i64 vn, .string vs]), .v (.int .i64 k)] [] (by rw [Tryz.ntmps152]; exact Nat.le_of_ble_eq_true rfl) (by kernel_rfl) (by rw [show Tryz.f152.ntmps = 19 from Tryz.ntmps152, eq_fits]; exact h)
/-- lintel/schema.fresh -/
def vc_fresh {W : Type} (π : Prims W) (name : ByteArray) (n : Int) : W :=
  π.call (142 : Nat) #[(Go.Value.string (name))] (false, [(false, [.bool])]) fun (((b0 : Bool), _), _) =>
  π.ite (!b0) (
    π.ret (Go.Value.int (IntKind.i64) ((100 : Int)))
  ) (
    π.ite (decide (n ≥ (8 : Int))) (
      π.ret (Go.Value.int (IntKind.i64) ((156 : Int)))
    ) (
      π.ret (Go.Value.int (IntKind.i64) ((0 : Int)))
    )
  )
def ann_fresh : Ann := { draws := [], join := [], loop := [] }
def la_fresh : LA := { ptr := [], ty := [] }
set_option maxRecDepth 100000 in
theorem eq_fresh {W : Type} (π : Prims W) (name : ByteArray) (n : Int) : bodyL π Tryz.prog la_fresh ann_fresh (mkFr (maskA [] [.v (.string name), .v (.int .i64 n)] 0) 12) Tryz.f170 (bodyOf Tryz.f170) (mkFr (List.map some [.v (.string name), .v (.int .i64 n)]) 12) = vc_fresh π name n := by kernel_rfl
theorem ok_fresh (name : ByteArray) (n : Int) (R : Value → PH → Prop) (s : PH) (h : vc_fresh (RP Tryz.prog R) name n s) : DCalls Tryz.prog 170 (List.map AV.val [.v (.string name), .v (.int .i64 n)]).toArray s R :=
  calls_vcL (c := bodyOf Tryz.f170) (ann := ann_fresh) la_fresh (by kernel_rfl) Tryz.func170 rfl (by kernel_rfl) [.v (.string name), .v (.int .i64 n)] [] (by rw [Tryz.ntmps170]; exact Nat.le_of_ble_eq_true rfl) (by kernel_rfl) (by rw [show Tryz.f170.ntmps = 12 from Tryz.ntmps170, eq_fresh]; exact h)
/-- lintel/schema.table -/
def vc_fTable {W : Type} (π : Prims W) (ti : Int) (tn : ByteArray) (ca : Option Addr) (can cac : Nat) (xa : Option Addr) (xan xac : Nat) (ka : Option Addr) (kan kac : Nat) : W :=
  π.ret (Go.Value.string (tn))
def ann_fTable : Ann := { draws := [], join := [], loop := [] }
def la_fTable : LA := { ptr := [(1, 1, 0), (3, 1, 1)], ty := [(1, 139)] }
set_option maxRecDepth 100000 in
theorem eq_fTable {W : Type} (π : Prims W) (ti : Int) (tn : ByteArray) (ca : Option Addr) (can cac : Nat) (xa : Option Addr) (xan xac : Nat) (ka : Option Addr) (kan kac : Nat) : bodyL π Tryz.prog la_fTable ann_fTable (mkFr (maskA [] [.v (.agg #[.int .i64 ti, .string tn, .slice ca can cac, .slice xa xan xac, .slice ka kan kac])] 0) 5) Tryz.f112 (bodyOf Tryz.f112) (mkFr (List.map some [.v (.agg #[.int .i64 ti, .string tn, .slice ca can cac, .slice xa xan xac, .slice ka kan kac])]) 5) = vc_fTable π ti tn ca can cac xa xan xac ka kan kac := by kernel_rfl
theorem ok_fTable (ti : Int) (tn : ByteArray) (ca : Option Addr) (can cac : Nat) (xa : Option Addr) (xan xac : Nat) (ka : Option Addr) (kan kac : Nat) (R : Value → PH → Prop) (s : PH) (h : vc_fTable (RP Tryz.prog R) ti tn ca can cac xa xan xac ka kan kac s) : DCalls Tryz.prog 112 (List.map AV.val [.v (.agg #[.int .i64 ti, .string tn, .slice ca can cac, .slice xa xan xac, .slice ka kan kac])]).toArray s R :=
  calls_vcL (c := bodyOf Tryz.f112) (ann := ann_fTable) la_fTable (by kernel_rfl) Tryz.func112 rfl (by kernel_rfl) [.v (.agg #[.int .i64 ti, .string tn, .slice ca can cac, .slice xa xan xac, .slice ka kan kac])] [] (by rw [Tryz.ntmps112]; exact Nat.le_of_ble_eq_true rfl) (by kernel_rfl) (by rw [show Tryz.f112.ntmps = 5 from Tryz.ntmps112, eq_fTable]; exact h)
/-- lintel/schema.column -/
def vc_fColumn {W : Type} (π : Prims W) (ci : Int) (cn : ByteArray) (ck cs vk vn : Int) (vs : ByteArray) : W :=
  π.ret (Go.Value.string (cn))
def ann_fColumn : Ann := { draws := [], join := [], loop := [] }
def la_fColumn : LA := { ptr := [(1, 1, 0), (3, 1, 1)], ty := [(1, 97)] }
set_option maxRecDepth 100000 in
theorem eq_fColumn {W : Type} (π : Prims W) (ci : Int) (cn : ByteArray) (ck cs vk vn : Int) (vs : ByteArray) : bodyL π Tryz.prog la_fColumn ann_fColumn (mkFr (maskA [] [.v (.agg #[.int .i64 ci, .string cn, .int .i64 ck, .int .i64 cs, .int .i64 vk, .int .i64 vn, .string vs])] 0) 5) Tryz.f145 (bodyOf Tryz.f145) (mkFr (List.map some [.v (.agg #[.int .i64 ci, .string cn, .int .i64 ck, .int .i64 cs, .int .i64 vk, .int .i64 vn, .string vs])]) 5) = vc_fColumn π ci cn ck cs vk vn vs := by kernel_rfl
theorem ok_fColumn (ci : Int) (cn : ByteArray) (ck cs vk vn : Int) (vs : ByteArray) (R : Value → PH → Prop) (s : PH) (h : vc_fColumn (RP Tryz.prog R) ci cn ck cs vk vn vs s) : DCalls Tryz.prog 145 (List.map AV.val [.v (.agg #[.int .i64 ci, .string cn, .int .i64 ck, .int .i64 cs, .int .i64 vk, .int .i64 vn, .string vs])]).toArray s R :=
  calls_vcL (c := bodyOf Tryz.f145) (ann := ann_fColumn) la_fColumn (by kernel_rfl) Tryz.func145 rfl (by kernel_rfl) [.v (.agg #[.int .i64 ci, .string cn, .int .i64 ck, .int .i64 cs, .int .i64 vk, .int .i64 vn, .string vs])] [] (by rw [Tryz.ntmps145]; exact Nat.le_of_ble_eq_true rfl) (by kernel_rfl) (by rw [show Tryz.f145.ntmps = 5 from Tryz.ntmps145, eq_fColumn]; exact h)
/-- lintel/schema.index -/
def vc_fIndex {W : Type} (π : Prims W) (xi : Int) (xn : ByteArray) (xc : Int) (xu : Bool) (xs : Int) : W :=
  π.ret (Go.Value.string (xn))
def ann_fIndex : Ann := { draws := [], join := [], loop := [] }
def la_fIndex : LA := { ptr := [(1, 1, 0), (3, 1, 1)], ty := [(1, 142)] }
set_option maxRecDepth 100000 in
theorem eq_fIndex {W : Type} (π : Prims W) (xi : Int) (xn : ByteArray) (xc : Int) (xu : Bool) (xs : Int) : bodyL π Tryz.prog la_fIndex ann_fIndex (mkFr (maskA [] [.v (.agg #[.int .i64 xi, .string xn, .int .i64 xc, .bool xu, .int .i64 xs])] 0) 5) Tryz.f147 (bodyOf Tryz.f147) (mkFr (List.map some [.v (.agg #[.int .i64 xi, .string xn, .int .i64 xc, .bool xu, .int .i64 xs])]) 5) = vc_fIndex π xi xn xc xu xs := by kernel_rfl
theorem ok_fIndex (xi : Int) (xn : ByteArray) (xc : Int) (xu : Bool) (xs : Int) (R : Value → PH → Prop) (s : PH) (h : vc_fIndex (RP Tryz.prog R) xi xn xc xu xs s) : DCalls Tryz.prog 147 (List.map AV.val [.v (.agg #[.int .i64 xi, .string xn, .int .i64 xc, .bool xu, .int .i64 xs])]).toArray s R :=
  calls_vcL (c := bodyOf Tryz.f147) (ann := ann_fIndex) la_fIndex (by kernel_rfl) Tryz.func147 rfl (by kernel_rfl) [.v (.agg #[.int .i64 xi, .string xn, .int .i64 xc, .bool xu, .int .i64 xs])] [] (by rw [Tryz.ntmps147]; exact Nat.le_of_ble_eq_true rfl) (by kernel_rfl) (by rw [show Tryz.f147.ntmps = 5 from Tryz.ntmps147, eq_fIndex]; exact h)
/-- lintel/schema.foreign -/
def vc_fForeign {W : Type} (π : Prims W) (fi : Int) (fn : ByteArray) (fc fp fs : Int) : W :=
  π.ret (Go.Value.string (fn))
def ann_fForeign : Ann := { draws := [], join := [], loop := [] }
def la_fForeign : LA := { ptr := [(1, 1, 0), (3, 1, 1)], ty := [(1, 144)] }
set_option maxRecDepth 100000 in
theorem eq_fForeign {W : Type} (π : Prims W) (fi : Int) (fn : ByteArray) (fc fp fs : Int) : bodyL π Tryz.prog la_fForeign ann_fForeign (mkFr (maskA [] [.v (.agg #[.int .i64 fi, .string fn, .int .i64 fc, .int .i64 fp, .int .i64 fs])] 0) 5) Tryz.f149 (bodyOf Tryz.f149) (mkFr (List.map some [.v (.agg #[.int .i64 fi, .string fn, .int .i64 fc, .int .i64 fp, .int .i64 fs])]) 5) = vc_fForeign π fi fn fc fp fs := by kernel_rfl
theorem ok_fForeign (fi : Int) (fn : ByteArray) (fc fp fs : Int) (R : Value → PH → Prop) (s : PH) (h : vc_fForeign (RP Tryz.prog R) fi fn fc fp fs s) : DCalls Tryz.prog 149 (List.map AV.val [.v (.agg #[.int .i64 fi, .string fn, .int .i64 fc, .int .i64 fp, .int .i64 fs])]).toArray s R :=
  calls_vcL (c := bodyOf Tryz.f149) (ann := ann_fForeign) la_fForeign (by kernel_rfl) Tryz.func149 rfl (by kernel_rfl) [.v (.agg #[.int .i64 fi, .string fn, .int .i64 fc, .int .i64 fp, .int .i64 fs])] [] (by rw [Tryz.ntmps149]; exact Nat.le_of_ble_eq_true rfl) (by kernel_rfl) (by rw [show Tryz.f149.ntmps = 5 from Tryz.ntmps149, eq_fForeign]; exact h)
/-- lintel/schema.find[lintel/api.Table]$1 -/
def vc_find1 {W : Type} (π : Prims W) (ti : Int) (tn : ByteArray) (ca : Option Addr) (can cac : Nat) (xa : Option Addr) (xan xac : Nat) (ka : Option Addr) (kan kac : Nat) (p q : Nat) : W :=
  π.ld [.raw] (Addr.mk p (0 : Nat) none) fun ((v0 : Value), _) =>
  π.ld [.str] (Addr.mk q (0 : Nat) none) fun ((t1 : ByteArray), _) =>
  π.callV v0 #[(Go.Value.agg #[(Go.Value.int (IntKind.i64) (ti)), (Go.Value.string (tn)), (Go.Value.slice (ca) (can) (cac)), (Go.Value.slice (xa) (xan) (xac)), (Go.Value.slice (ka) (kan) (kac))])] (false, [(false, [.str])]) fun (((t2 : ByteArray), _), _) =>
  π.still [.str] (Addr.mk q (0 : Nat) none) (t1, ()) <|
  π.ret (Go.Value.bool (t2.toList == t1.toList))
def ann_find1 : Ann := { draws := [(1, { A := [0, 1, 3], chkL := [(2, [3])], eag := [4, 5] })], join := [], loop := [] }
def la_find1 : LA := { ptr := [(3, 3, 0)], ty := [(3, 139)] }
set_option maxRecDepth 100000 in
theorem eq_find1 {W : Type} (π : Prims W) (ti : Int) (tn : ByteArray) (ca : Option Addr) (can cac : Nat) (xa : Option Addr) (xan xac : Nat) (ka : Option Addr) (kan kac : Nat) (p q : Nat) : bodyL π Tryz.prog la_find1 ann_find1 (mkFr (maskA [] [.v (.agg #[.int .i64 ti, .string tn, .slice ca can cac, .slice xa xan xac, .slice ka kan kac]), .v (.pointer (some ⟨p, 0, none⟩)), .v (.pointer (some ⟨q, 0, none⟩))] 0) 10) Tryz.f155 (bodyOf Tryz.f155) (mkFr (List.map some [.v (.agg #[.int .i64 ti, .string tn, .slice ca can cac, .slice xa xan xac, .slice ka kan kac]), .v (.pointer (some ⟨p, 0, none⟩)), .v (.pointer (some ⟨q, 0, none⟩))]) 10) = vc_find1 π ti tn ca can cac xa xan xac ka kan kac p q := by kernel_rfl
theorem ok_find1 (ti : Int) (tn : ByteArray) (ca : Option Addr) (can cac : Nat) (xa : Option Addr) (xan xac : Nat) (ka : Option Addr) (kan kac : Nat) (p q : Nat) (R : Value → PH → Prop) (s : PH) (h : vc_find1 (RP Tryz.prog R) ti tn ca can cac xa xan xac ka kan kac p q s) : DCalls Tryz.prog 155 (List.map AV.val [.v (.agg #[.int .i64 ti, .string tn, .slice ca can cac, .slice xa xan xac, .slice ka kan kac]), .v (.pointer (some ⟨p, 0, none⟩)), .v (.pointer (some ⟨q, 0, none⟩))]).toArray s R :=
  calls_vcL (c := bodyOf Tryz.f155) (ann := ann_find1) la_find1 (by kernel_rfl) Tryz.func155 rfl (by kernel_rfl) [.v (.agg #[.int .i64 ti, .string tn, .slice ca can cac, .slice xa xan xac, .slice ka kan kac]), .v (.pointer (some ⟨p, 0, none⟩)), .v (.pointer (some ⟨q, 0, none⟩))] [] (by rw [Tryz.ntmps155]; exact Nat.le_of_ble_eq_true rfl) (by kernel_rfl) (by rw [show Tryz.f155.ntmps = 10 from Tryz.ntmps155, eq_find1]; exact h)
/-- lintel/schema.find[lintel/api.Column]$1 -/
def vc_find2 {W : Type} (π : Prims W) (ci : Int) (cn : ByteArray) (ck cs vk vn : Int) (vs : ByteArray) (p q : Nat) : W :=
  π.ld [.raw] (Addr.mk p (0 : Nat) none) fun ((v0 : Value), _) =>
  π.ld [.str] (Addr.mk q (0 : Nat) none) fun ((t1 : ByteArray), _) =>
  π.callV v0 #[(Go.Value.agg #[(Go.Value.int (IntKind.i64) (ci)), (Go.Value.string (cn)), (Go.Value.int (IntKind.i64) (ck)), (Go.Value.int (IntKind.i64) (cs)), (Go.Value.int (IntKind.i64) (vk)), (Go.Value.int (IntKind.i64) (vn)), (Go.Value.string (vs))])] (false, [(false, [.str])]) fun (((t2 : ByteArray), _), _) =>
  π.still [.str] (Addr.mk q (0 : Nat) none) (t1, ()) <|
  π.ret (Go.Value.bool (t2.toList == t1.toList))
def ann_find2 : Ann := { draws := [(1, { A := [0, 1, 3], chkL := [(2, [3])], eag := [4, 5] })], join := [], loop := [] }
def la_find2 : LA := { ptr := [(3, 3, 0)], ty := [(3, 97)] }
set_option maxRecDepth 100000 in
theorem eq_find2 {W : Type} (π : Prims W) (ci : Int) (cn : ByteArray) (ck cs vk vn : Int) (vs : ByteArray) (p q : Nat) : bodyL π Tryz.prog la_find2 ann_find2 (mkFr (maskA [] [.v (.agg #[.int .i64 ci, .string cn, .int .i64 ck, .int .i64 cs, .int .i64 vk, .int .i64 vn, .string vs]), .v (.pointer (some ⟨p, 0, none⟩)), .v (.pointer (some ⟨q, 0, none⟩))] 0) 10) Tryz.f193 (bodyOf Tryz.f193) (mkFr (List.map some [.v (.agg #[.int .i64 ci, .string cn, .int .i64 ck, .int .i64 cs, .int .i64 vk, .int .i64 vn, .string vs]), .v (.pointer (some ⟨p, 0, none⟩)), .v (.pointer (some ⟨q, 0, none⟩))]) 10) = vc_find2 π ci cn ck cs vk vn vs p q := by kernel_rfl
theorem ok_find2 (ci : Int) (cn : ByteArray) (ck cs vk vn : Int) (vs : ByteArray) (p q : Nat) (R : Value → PH → Prop) (s : PH) (h : vc_find2 (RP Tryz.prog R) ci cn ck cs vk vn vs p q s) : DCalls Tryz.prog 193 (List.map AV.val [.v (.agg #[.int .i64 ci, .string cn, .int .i64 ck, .int .i64 cs, .int .i64 vk, .int .i64 vn, .string vs]), .v (.pointer (some ⟨p, 0, none⟩)), .v (.pointer (some ⟨q, 0, none⟩))]).toArray s R :=
  calls_vcL (c := bodyOf Tryz.f193) (ann := ann_find2) la_find2 (by kernel_rfl) Tryz.func193 rfl (by kernel_rfl) [.v (.agg #[.int .i64 ci, .string cn, .int .i64 ck, .int .i64 cs, .int .i64 vk, .int .i64 vn, .string vs]), .v (.pointer (some ⟨p, 0, none⟩)), .v (.pointer (some ⟨q, 0, none⟩))] [] (by rw [Tryz.ntmps193]; exact Nat.le_of_ble_eq_true rfl) (by kernel_rfl) (by rw [show Tryz.f193.ntmps = 10 from Tryz.ntmps193, eq_find2]; exact h)
/-- lintel/schema.find[lintel/api.Index]$1 -/
def vc_find3 {W : Type} (π : Prims W) (xi : Int) (xn : ByteArray) (xc : Int) (xu : Bool) (xs : Int) (p q : Nat) : W :=
  π.ld [.raw] (Addr.mk p (0 : Nat) none) fun ((v0 : Value), _) =>
  π.ld [.str] (Addr.mk q (0 : Nat) none) fun ((t1 : ByteArray), _) =>
  π.callV v0 #[(Go.Value.agg #[(Go.Value.int (IntKind.i64) (xi)), (Go.Value.string (xn)), (Go.Value.int (IntKind.i64) (xc)), (Go.Value.bool (xu)), (Go.Value.int (IntKind.i64) (xs))])] (false, [(false, [.str])]) fun (((t2 : ByteArray), _), _) =>
  π.still [.str] (Addr.mk q (0 : Nat) none) (t1, ()) <|
  π.ret (Go.Value.bool (t2.toList == t1.toList))
def ann_find3 : Ann := { draws := [(1, { A := [0, 1, 3], chkL := [(2, [3])], eag := [4, 5] })], join := [], loop := [] }
def la_find3 : LA := { ptr := [(3, 3, 0)], ty := [(3, 142)] }
set_option maxRecDepth 100000 in
theorem eq_find3 {W : Type} (π : Prims W) (xi : Int) (xn : ByteArray) (xc : Int) (xu : Bool) (xs : Int) (p q : Nat) : bodyL π Tryz.prog la_find3 ann_find3 (mkFr (maskA [] [.v (.agg #[.int .i64 xi, .string xn, .int .i64 xc, .bool xu, .int .i64 xs]), .v (.pointer (some ⟨p, 0, none⟩)), .v (.pointer (some ⟨q, 0, none⟩))] 0) 10) Tryz.f195 (bodyOf Tryz.f195) (mkFr (List.map some [.v (.agg #[.int .i64 xi, .string xn, .int .i64 xc, .bool xu, .int .i64 xs]), .v (.pointer (some ⟨p, 0, none⟩)), .v (.pointer (some ⟨q, 0, none⟩))]) 10) = vc_find3 π xi xn xc xu xs p q := by kernel_rfl
theorem ok_find3 (xi : Int) (xn : ByteArray) (xc : Int) (xu : Bool) (xs : Int) (p q : Nat) (R : Value → PH → Prop) (s : PH) (h : vc_find3 (RP Tryz.prog R) xi xn xc xu xs p q s) : DCalls Tryz.prog 195 (List.map AV.val [.v (.agg #[.int .i64 xi, .string xn, .int .i64 xc, .bool xu, .int .i64 xs]), .v (.pointer (some ⟨p, 0, none⟩)), .v (.pointer (some ⟨q, 0, none⟩))]).toArray s R :=
  calls_vcL (c := bodyOf Tryz.f195) (ann := ann_find3) la_find3 (by kernel_rfl) Tryz.func195 rfl (by kernel_rfl) [.v (.agg #[.int .i64 xi, .string xn, .int .i64 xc, .bool xu, .int .i64 xs]), .v (.pointer (some ⟨p, 0, none⟩)), .v (.pointer (some ⟨q, 0, none⟩))] [] (by rw [Tryz.ntmps195]; exact Nat.le_of_ble_eq_true rfl) (by kernel_rfl) (by rw [show Tryz.f195.ntmps = 10 from Tryz.ntmps195, eq_find3]; exact h)
/-- lintel/schema.find[lintel/api.Foreign]$1 -/
def vc_find4 {W : Type} (π : Prims W) (fi : Int) (fn : ByteArray) (fc fp fs : Int) (p q : Nat) : W :=
  π.ld [.raw] (Addr.mk p (0 : Nat) none) fun ((v0 : Value), _) =>
  π.ld [.str] (Addr.mk q (0 : Nat) none) fun ((t1 : ByteArray), _) =>
  π.callV v0 #[(Go.Value.agg #[(Go.Value.int (IntKind.i64) (fi)), (Go.Value.string (fn)), (Go.Value.int (IntKind.i64) (fc)), (Go.Value.int (IntKind.i64) (fp)), (Go.Value.int (IntKind.i64) (fs))])] (false, [(false, [.str])]) fun (((t2 : ByteArray), _), _) =>
  π.still [.str] (Addr.mk q (0 : Nat) none) (t1, ()) <|
  π.ret (Go.Value.bool (t2.toList == t1.toList))
def ann_find4 : Ann := { draws := [(1, { A := [0, 1, 3], chkL := [(2, [3])], eag := [4, 5] })], join := [], loop := [] }
def la_find4 : LA := { ptr := [(3, 3, 0)], ty := [(3, 144)] }
set_option maxRecDepth 100000 in
theorem eq_find4 {W : Type} (π : Prims W) (fi : Int) (fn : ByteArray) (fc fp fs : Int) (p q : Nat) : bodyL π Tryz.prog la_find4 ann_find4 (mkFr (maskA [] [.v (.agg #[.int .i64 fi, .string fn, .int .i64 fc, .int .i64 fp, .int .i64 fs]), .v (.pointer (some ⟨p, 0, none⟩)), .v (.pointer (some ⟨q, 0, none⟩))] 0) 10) Tryz.f197 (bodyOf Tryz.f197) (mkFr (List.map some [.v (.agg #[.int .i64 fi, .string fn, .int .i64 fc, .int .i64 fp, .int .i64 fs]), .v (.pointer (some ⟨p, 0, none⟩)), .v (.pointer (some ⟨q, 0, none⟩))]) 10) = vc_find4 π fi fn fc fp fs p q := by kernel_rfl
theorem ok_find4 (fi : Int) (fn : ByteArray) (fc fp fs : Int) (p q : Nat) (R : Value → PH → Prop) (s : PH) (h : vc_find4 (RP Tryz.prog R) fi fn fc fp fs p q s) : DCalls Tryz.prog 197 (List.map AV.val [.v (.agg #[.int .i64 fi, .string fn, .int .i64 fc, .int .i64 fp, .int .i64 fs]), .v (.pointer (some ⟨p, 0, none⟩)), .v (.pointer (some ⟨q, 0, none⟩))]).toArray s R :=
  calls_vcL (c := bodyOf Tryz.f197) (ann := ann_find4) la_find4 (by kernel_rfl) Tryz.func197 rfl (by kernel_rfl) [.v (.agg #[.int .i64 fi, .string fn, .int .i64 fc, .int .i64 fp, .int .i64 fs]), .v (.pointer (some ⟨p, 0, none⟩)), .v (.pointer (some ⟨q, 0, none⟩))] [] (by rw [Tryz.ntmps197]; exact Nat.le_of_ble_eq_true rfl) (by kernel_rfl) (by rw [show Tryz.f197.ntmps = 10 from Tryz.ntmps197, eq_find4]; exact h)
/-- slices.IndexFunc[[]lintel/api.Table,lintel/api.Table] -/
def vc_IndexFuncT {W : Type} (π : Prims W) (a : Option Addr) (an ac : Nat) (p q : Nat) : W :=
  π.loop [(false, [.int .i64]), (false, [.int .i64])] (((↑an : Int), ()), ((0 : Int), ()), ()) fun (((x1 : Int), _), ((x2 : Int), _), _) again0 =>
    π.ite (decide (x2 < x1)) (
      π.guard ((0 : Int) ≤ x2 ∧ x2 < (↑an : Int)) <|
      π.unSome (a) fun p3 =>
      π.ld [.int .i64, .str, .slice, .slice, .slice] (p3.add (x2.toNat * (5 : Nat))) fun ((x4 : Int), (t5 : ByteArray), ((a6 : Option Addr), (n7 : Nat), (c8 : Nat)), ((a9 : Option Addr), (n10 : Nat), (c11 : Nat)), ((a12 : Option Addr), (n13 : Nat), (c14 : Nat)), _) =>
      π.call (155 : Nat) #[(Go.Value.agg #[(Go.Value.int (IntKind.i64) (x4)), (Go.Value.string (t5)), (Go.Value.slice (a6) (n7) (c8)), (Go.Value.slice (a9) (n10) (c11)), (Go.Value.slice (a12) (n13) (c14))]), (Go.Value.pointer (some (Addr.mk p (0 : Nat) none))), (Go.Value.pointer (some (Addr.mk q (0 : Nat) none)))] (false, [(false, [.bool])]) fun (((b15 : Bool), _), _) =>
      π.ite (b15) (
        π.ret (Go.Value.int (IntKind.i64) (x2))
      ) (
        again0 ((x1, ()), (IntKind.i64.wrap (x2 + (1 : Int)), ()), ())
      )
    ) (
      π.ret (Go.Value.int (IntKind.i64) ((-1 : Int)))
    )
def ann_IndexFuncT : Ann := { draws := [], join := [], loop := [(2, [(7, 3), (8, 3)])] }
def la_IndexFuncT : LA := { ptr := [], ty := [] }
set_option maxRecDepth 100000 in
theorem eq_IndexFuncT {W : Type} (π : Prims W) (a : Option Addr) (an ac : Nat) (p q : Nat) : bodyL π Tryz.prog la_IndexFuncT ann_IndexFuncT (mkFr (maskA [] [.v (.slice a an ac), .v (.func (.func 155) #[] #[.pointer (some ⟨p, 0, none⟩), .pointer (some ⟨q, 0, none⟩)])] 0) 19) Tryz.f132 (bodyOf Tryz.f132) (mkFr (List.map some [.v (.slice a an ac), .v (.func (.func 155) #[] #[.pointer (some ⟨p, 0, none⟩), .pointer (some ⟨q, 0, none⟩)])]) 19) = vc_IndexFuncT π a an ac p q := by kernel_rfl
theorem ok_IndexFuncT (a : Option Addr) (an ac : Nat) (p q : Nat) (R : Value → PH → Prop) (s : PH) (h : vc_IndexFuncT (RP Tryz.prog R) a an ac p q s) : DCalls Tryz.prog 132 (List.map AV.val [.v (.slice a an ac), .v (.func (.func 155) #[] #[.pointer (some ⟨p, 0, none⟩), .pointer (some ⟨q, 0, none⟩)])]).toArray s R :=
  calls_vcL (c := bodyOf Tryz.f132) (ann := ann_IndexFuncT) la_IndexFuncT (by kernel_rfl) Tryz.func132 rfl (by kernel_rfl) [.v (.slice a an ac), .v (.func (.func 155) #[] #[.pointer (some ⟨p, 0, none⟩), .pointer (some ⟨q, 0, none⟩)])] [] (by rw [Tryz.ntmps132]; exact Nat.le_of_ble_eq_true rfl) (by kernel_rfl) (by rw [show Tryz.f132.ntmps = 19 from Tryz.ntmps132, eq_IndexFuncT]; exact h)
/-- slices.IndexFunc[[]lintel/api.Column,lintel/api.Column] -/
def vc_IndexFuncC {W : Type} (π : Prims W) (a : Option Addr) (an ac : Nat) (p q : Nat) : W :=
  π.loop [(false, [.int .i64]), (false, [.int .i64])] (((↑an : Int), ()), ((0 : Int), ()), ()) fun (((x1 : Int), _), ((x2 : Int), _), _) again0 =>
    π.ite (decide (x2 < x1)) (
      π.guard ((0 : Int) ≤ x2 ∧ x2 < (↑an : Int)) <|
      π.unSome (a) fun p3 =>
      π.ld [.int .i64, .str, .int .i64, .int .i64, .int .i64, .int .i64, .str] (p3.add (x2.toNat * (7 : Nat))) fun ((x4 : Int), (t5 : ByteArray), (x6 : Int), (x7 : Int), (x8 : Int), (x9 : Int), (t10 : ByteArray), _) =>
      π.call (193 : Nat) #[(Go.Value.agg #[(Go.Value.int (IntKind.i64) (x4)), (Go.Value.string (t5)), (Go.Value.int (IntKind.i64) (x6)), (Go.Value.int (IntKind.i64) (x7)), (Go.Value.int (IntKind.i64) (x8)), (Go.Value.int (IntKind.i64) (x9)), (Go.Value.string (t10))]), (Go.Value.pointer (some (Addr.mk p (0 : Nat) none))), (Go.Value.pointer (some (Addr.mk q (0 : Nat) none)))] (false, [(false, [.bool])]) fun (((b11 : Bool), _), _) =>
      π.ite (b11) (
        π.ret (Go.Value.int (IntKind.i64) (x2))
      ) (
        again0 ((x1, ()), (IntKind.i64.wrap (x2 + (1 : Int)), ()), ())
      )
    ) (
      π.ret (Go.Value.int (IntKind.i64) ((-1 : Int)))
    )
def ann_IndexFuncC : Ann := { draws := [], join := [], loop := [(2, [(7, 3), (8, 3)])] }
def la_IndexFuncC : LA := { ptr := [], ty := [] }
set_option maxRecDepth 100000 in
theorem eq_IndexFuncC {W : Type} (π : Prims W) (a : Option Addr) (an ac : Nat) (p q : Nat) : bodyL π Tryz.prog la_IndexFuncC ann_IndexFuncC (mkFr (maskA [] [.v (.slice a an ac), .v (.func (.func 193) #[] #[.pointer (some ⟨p, 0, none⟩), .pointer (some ⟨q, 0, none⟩)])] 0) 19) Tryz.f84 (bodyOf Tryz.f84) (mkFr (List.map some [.v (.slice a an ac), .v (.func (.func 193) #[] #[.pointer (some ⟨p, 0, none⟩), .pointer (some ⟨q, 0, none⟩)])]) 19) = vc_IndexFuncC π a an ac p q := by kernel_rfl
theorem ok_IndexFuncC (a : Option Addr) (an ac : Nat) (p q : Nat) (R : Value → PH → Prop) (s : PH) (h : vc_IndexFuncC (RP Tryz.prog R) a an ac p q s) : DCalls Tryz.prog 84 (List.map AV.val [.v (.slice a an ac), .v (.func (.func 193) #[] #[.pointer (some ⟨p, 0, none⟩), .pointer (some ⟨q, 0, none⟩)])]).toArray s R :=
  calls_vcL (c := bodyOf Tryz.f84) (ann := ann_IndexFuncC) la_IndexFuncC (by kernel_rfl) Tryz.func84 rfl (by kernel_rfl) [.v (.slice a an ac), .v (.func (.func 193) #[] #[.pointer (some ⟨p, 0, none⟩), .pointer (some ⟨q, 0, none⟩)])] [] (by rw [Tryz.ntmps84]; exact Nat.le_of_ble_eq_true rfl) (by kernel_rfl) (by rw [show Tryz.f84.ntmps = 19 from Tryz.ntmps84, eq_IndexFuncC]; exact h)
/-- slices.IndexFunc[[]lintel/api.Index,lintel/api.Index] -/
def vc_IndexFuncX {W : Type} (π : Prims W) (a : Option Addr) (an ac : Nat) (p q : Nat) : W :=
  π.loop [(false, [.int .i64]), (false, [.int .i64])] (((↑an : Int), ()), ((0 : Int), ()), ()) fun (((x1 : Int), _), ((x2 : Int), _), _) again0 =>
    π.ite (decide (x2 < x1)) (
      π.guard ((0 : Int) ≤ x2 ∧ x2 < (↑an : Int)) <|
      π.unSome (a) fun p3 =>
      π.ld [.int .i64, .str, .int .i64, .bool, .int .i64] (p3.add (x2.toNat * (5 : Nat))) fun ((x4 : Int), (t5 : ByteArray), (x6 : Int), (b7 : Bool), (x8 : Int), _) =>
      π.call (195 : Nat) #[(Go.Value.agg #[(Go.Value.int (IntKind.i64) (x4)), (Go.Value.string (t5)), (Go.Value.int (IntKind.i64) (x6)), (Go.Value.bool (b7)), (Go.Value.int (IntKind.i64) (x8))]), (Go.Value.pointer (some (Addr.mk p (0 : Nat) none))), (Go.Value.pointer (some (Addr.mk q (0 : Nat) none)))] (false, [(false, [.bool])]) fun (((b9 : Bool), _), _) =>
      π.ite (b9) (
        π.ret (Go.Value.int (IntKind.i64) (x2))
      ) (
        again0 ((x1, ()), (IntKind.i64.wrap (x2 + (1 : Int)), ()), ())
      )
    ) (
      π.ret (Go.Value.int (IntKind.i64) ((-1 : Int)))
    )
def ann_IndexFuncX : Ann := { draws := [], join := [], loop := [(2, [(7, 3), (8, 3)])] }
def la_IndexFuncX : LA := { ptr := [], ty := [] }
set_option maxRecDepth 100000 in
theorem eq_IndexFuncX {W : Type} (π : Prims W) (a : Option Addr) (an ac : Nat) (p q : Nat) : bodyL π Tryz.prog la_IndexFuncX ann_IndexFuncX (mkFr (maskA [] [.v (.slice a an ac), .v (.func (.func 195) #[] #[.pointer (some ⟨p, 0, none⟩), .pointer (some ⟨q, 0, none⟩)])] 0) 19) Tryz.f82 (bodyOf Tryz.f82) (mkFr (List.map some [.v (.slice a an ac), .v (.func (.func 195) #[] #[.pointer (some ⟨p, 0, none⟩), .pointer (some ⟨q, 0, none⟩)])]) 19) = vc_IndexFuncX π a an ac p q := by kernel_rfl
theorem ok_IndexFuncX (a : Option Addr) (an ac : Nat) (p q : Nat) (R : Value → PH → Prop) (s : PH) (h : vc_IndexFuncX (RP Tryz.prog R) a an ac p q s) : DCalls Tryz.prog 82 (List.map AV.val [.v (.slice a an ac), .v (.func (.func 195) #[] #[.pointer (some ⟨p, 0, none⟩), .pointer (some ⟨q, 0, none⟩)])]).toArray s R :=
  calls_vcL (c := bodyOf Tryz.f82) (ann := ann_IndexFuncX) la_IndexFuncX (by kernel_rfl) Tryz.func82 rfl (by kernel_rfl) [.v (.slice a an ac), .v (.func (.func 195) #[] #[.pointer (some ⟨p, 0, none⟩), .pointer (some ⟨q, 0, none⟩)])] [] (by rw [Tryz.ntmps82]; exact Nat.le_of_ble_eq_true rfl) (by kernel_rfl) (by rw [show Tryz.f82.ntmps = 19 from Tryz.ntmps82, eq_IndexFuncX]; exact h)
/-- slices.IndexFunc[[]lintel/api.Foreign,lintel/api.Foreign] -/
def vc_IndexFuncF {W : Type} (π : Prims W) (a : Option Addr) (an ac : Nat) (p q : Nat) : W :=
  π.loop [(false, [.int .i64]), (false, [.int .i64])] (((↑an : Int), ()), ((0 : Int), ()), ()) fun (((x1 : Int), _), ((x2 : Int), _), _) again0 =>
    π.ite (decide (x2 < x1)) (
      π.guard ((0 : Int) ≤ x2 ∧ x2 < (↑an : Int)) <|
      π.unSome (a) fun p3 =>
      π.ld [.int .i64, .str, .int .i64, .int .i64, .int .i64] (p3.add (x2.toNat * (5 : Nat))) fun ((x4 : Int), (t5 : ByteArray), (x6 : Int), (x7 : Int), (x8 : Int), _) =>
      π.call (197 : Nat) #[(Go.Value.agg #[(Go.Value.int (IntKind.i64) (x4)), (Go.Value.string (t5)), (Go.Value.int (IntKind.i64) (x6)), (Go.Value.int (IntKind.i64) (x7)), (Go.Value.int (IntKind.i64) (x8))]), (Go.Value.pointer (some (Addr.mk p (0 : Nat) none))), (Go.Value.pointer (some (Addr.mk q (0 : Nat) none)))] (false, [(false, [.bool])]) fun (((b9 : Bool), _), _) =>
      π.ite (b9) (
        π.ret (Go.Value.int (IntKind.i64) (x2))
      ) (
        again0 ((x1, ()), (IntKind.i64.wrap (x2 + (1 : Int)), ()), ())
      )
    ) (
      π.ret (Go.Value.int (IntKind.i64) ((-1 : Int)))
    )
def ann_IndexFuncF : Ann := { draws := [], join := [], loop := [(2, [(7, 3), (8, 3)])] }
def la_IndexFuncF : LA := { ptr := [], ty := [] }
set_option maxRecDepth 100000 in
theorem eq_IndexFuncF {W : Type} (π : Prims W) (a : Option Addr) (an ac : Nat) (p q : Nat) : bodyL π Tryz.prog la_IndexFuncF ann_IndexFuncF (mkFr (maskA [] [.v (.slice a an ac), .v (.func (.func 197) #[] #[.pointer (some ⟨p, 0, none⟩), .pointer (some ⟨q, 0, none⟩)])] 0) 19) Tryz.f86 (bodyOf Tryz.f86) (mkFr (List.map some [.v (.slice a an ac), .v (.func (.func 197) #[] #[.pointer (some ⟨p, 0, none⟩), .pointer (some ⟨q, 0, none⟩)])]) 19) = vc_IndexFuncF π a an ac p q := by kernel_rfl
theorem ok_IndexFuncF (a : Option Addr) (an ac : Nat) (p q : Nat) (R : Value → PH → Prop) (s : PH) (h : vc_IndexFuncF (RP Tryz.prog R) a an ac p q s) : DCalls Tryz.prog 86 (List.map AV.val [.v (.slice a an ac), .v (.func (.func 197) #[] #[.pointer (some ⟨p, 0, none⟩), .pointer (some ⟨q, 0, none⟩)])]).toArray s R :=
  calls_vcL (c := bodyOf Tryz.f86) (ann := ann_IndexFuncF) la_IndexFuncF (by kernel_rfl) Tryz.func86 rfl (by kernel_rfl) [.v (.slice a an ac), .v (.func (.func 197) #[] #[.pointer (some ⟨p, 0, none⟩), .pointer (some ⟨q, 0, none⟩)])] [] (by rw [Tryz.ntmps86]; exact Nat.le_of_ble_eq_true rfl) (by kernel_rfl) (by rw [show Tryz.f86.ntmps = 19 from Tryz.ntmps86, eq_IndexFuncF]; exact h)
/-- lintel/schema.find[lintel/api.Table] -/
def vc_findT {W : Type} (π : Prims W) (a : Option Addr) (an ac : Nat) (name : ByteArray) : W :=
  π.nw (Go.Obj.cells #[(Go.Value.string (name))] (9 : Nat) ((0 : Nat), (0 : Nat))) fun r0 =>
  π.nw (Go.Obj.cells #[(Go.Value.func (Fn.func (112 : Nat)) #[] #[])] (203 : Nat) ((0 : Nat), (0 : Nat))) fun r1 =>
  π.call (132 : Nat) #[(Go.Value.slice (a) (an) (ac)), (Go.Value.func (Fn.func (155 : Nat)) #[] #[(Go.Value.pointer (some (Addr.mk r1 (0 : Nat) none))), (Go.Value.pointer (some (Addr.mk r0 (0 : Nat) none)))])] (false, [(false, [.int .i64])]) fun (((x2 : Int), _), _) =>
  π.ret (Go.Value.int (IntKind.i64) (x2))
def ann_findT : Ann := { draws := [], join := [], loop := [] }
def la_findT : LA := { ptr := [], ty := [] }
set_option maxRecDepth 100000 in
theorem eq_findT {W : Type} (π : Prims W) (a : Option Addr) (an ac : Nat) (name : ByteArray) : bodyL π Tryz.prog la_findT ann_findT (mkFr (maskA [] [.v (.slice a an ac), .v (.string name), .v (.func (.func 112) #[] #[])] 0) 10) Tryz.f114 (bodyOf Tryz.f114) (mkFr (List.map some [.v (.slice a an ac), .v (.string name), .v (.func (.func 112) #[] #[])]) 10) = vc_findT π a an ac name := by kernel_rfl
theorem ok_findT (a : Option Addr) (an ac : Nat) (name : ByteArray) (R : Value → PH → Prop) (s : PH) (h : vc_findT (RP Tryz.prog R) a an ac name s) : DCalls Tryz.prog 114 (List.map AV.val [.v (.slice a an ac), .v (.string name), .v (.func (.func 112) #[] #[])]).toArray s R :=
  calls_vcL (c := bodyOf Tryz.f114) (ann := ann_findT) la_findT (by kernel_rfl) Tryz.func114 rfl (by kernel_rfl) [.v (.slice a an ac), .v (.string name), .v (.func (.func 112) #[] #[])] [] (by rw [Tryz.ntmps114]; exact Nat.le_of_ble_eq_true rfl) (by kernel_rfl) (by rw [show Tryz.f114.ntmps = 10 from Tryz.ntmps114, eq_findT]; exact h)
/-- lintel/schema.find[lintel/api.Column] -/
def vc_findC {W : Type} (π : Prims W) (a : Option Addr) (an ac : Nat) (name : ByteArray) : W :=
  π.nw (Go.Obj.cells #[(Go.Value.string (name))] (9 : Nat) ((0 : Nat), (0 : Nat))) fun r0 =>
  π.nw (Go.Obj.cells #[(Go.Value.func (Fn.func (145 : Nat)) #[] #[])] (232 : Nat) ((0 : Nat), (0 : Nat))) fun r1 =>
  π.call (84 : Nat) #[(Go.Value.slice (a) (an) (ac)), (Go.Value.func (Fn.func (193 : Nat)) #[] #[(Go.Value.pointer (some (Addr.mk r1 (0 : Nat) none))), (Go.Value.pointer (some (Addr.mk r0 (0 : Nat) none)))])] (false, [(false, [.int .i64])]) fun (((x2 : Int), _), _) =>
  π.ret (Go.Value.int (IntKind.i64) (x2))
def ann_findC : Ann := { draws := [], join := [], loop := [] }
def la_findC : LA := { ptr := [], ty := [] }
set_option maxRecDepth 100000 in
theorem eq_findC {W : Type} (π : Prims W) (a : Option Addr) (an ac : Nat) (name : ByteArray) : bodyL π Tryz.prog la_findC ann_findC (mkFr (maskA [] [.v (.slice a an ac), .v (.string name), .v (.func (.func 145) #[] #[])] 0) 10) Tryz.f169 (bodyOf Tryz.f169) (mkFr (List.map some [.v (.slice a an ac), .v (.string name), .v (.func (.func 145) #[] #[])]) 10) = vc_findC π a an ac name := by kernel_rfl
theorem ok_findC (a : Option Addr) (an ac : Nat) (name : ByteArray) (R : Value → PH → Prop) (s : PH) (h : vc_findC (RP Tryz.prog R) a an ac name s) : DCalls Tryz.prog 169 (List.map AV.val [.v (.slice a an ac), .v (.string name), .v (.func (.func 145) #[] #[])]).toArray s R :=
  calls_vcL (c := bodyOf Tryz.f169) (ann := ann_findC) la_findC (by kernel_rfl) Tryz.func169 rfl (by kernel_rfl) [.v (.slice a an ac), .v (.string name), .v (.func (.func 145) #[] #[])] [] (by rw [Tryz.ntmps169]; exact Nat.le_of_ble_eq_true rfl) (by kernel_rfl) (by rw [show Tryz.f169.ntmps = 10 from Tryz.ntmps169, eq_findC]; exact h)
/-- lintel/schema.find[lintel/api.Index] -/
def vc_findX {W : Type} (π : Prims W) (a : Option Addr) (an ac : Nat) (name : ByteArray) : W :=
  π.nw (Go.Obj.cells #[(Go.Value.string (name))] (9 : Nat) ((0 : Nat), (0 : Nat))) fun r0 =>
  π.nw (Go.Obj.cells #[(Go.Value.func (Fn.func (147 : Nat)) #[] #[])] (234 : Nat) ((0 : Nat), (0 : Nat))) fun r1 =>
  π.call (82 : Nat) #[(Go.Value.slice (a) (an) (ac)), (Go.Value.func (Fn.func (195 : Nat)) #[] #[(Go.Value.pointer (some (Addr.mk r1 (0 : Nat) none))), (Go.Value.pointer (some (Addr.mk r0 (0 : Nat) none)))])] (false, [(false, [.int .i64])]) fun (((x2 : Int), _), _) =>
  π.ret (Go.Value.int (IntKind.i64) (x2))
def ann_findX : Ann := { draws := [], join := [], loop := [] }
def la_findX : LA := { ptr := [], ty := [] }
set_option maxRecDepth 100000 in
theorem eq_findX {W : Type} (π : Prims W) (a : Option Addr) (an ac : Nat) (name : ByteArray) : bodyL π Tryz.prog la_findX ann_findX (mkFr (maskA [] [.v (.slice a an ac), .v (.string name), .v (.func (.func 147) #[] #[])] 0) 10) Tryz.f177 (bodyOf Tryz.f177) (mkFr (List.map some [.v (.slice a an ac), .v (.string name), .v (.func (.func 147) #[] #[])]) 10) = vc_findX π a an ac name := by kernel_rfl
theorem ok_findX (a : Option Addr) (an ac : Nat) (name : ByteArray) (R : Value → PH → Prop) (s : PH) (h : vc_findX (RP Tryz.prog R) a an ac name s) : DCalls Tryz.prog 177 (List.map AV.val [.v (.slice a an ac), .v (.string name), .v (.func (.func 147) #[] #[])]).toArray s R :=
  calls_vcL (c := bodyOf Tryz.f177) (ann := ann_findX) la_findX (by kernel_rfl) Tryz.func177 rfl (by kernel_rfl) [.v (.slice a an ac), .v (.string name), .v (.func (.func 147) #[] #[])] [] (by rw [Tryz.ntmps177]; exact Nat.le_of_ble_eq_true rfl) (by kernel_rfl) (by rw [show Tryz.f177.ntmps = 10 from Tryz.ntmps177, eq_findX]; exact h)
/-- lintel/schema.find[lintel/api.Foreign] -/
def vc_findF {W : Type} (π : Prims W) (a : Option Addr) (an ac : Nat) (name : ByteArray) : W :=
  π.nw (Go.Obj.cells #[(Go.Value.string (name))] (9 : Nat) ((0 : Nat), (0 : Nat))) fun r0 =>
  π.nw (Go.Obj.cells #[(Go.Value.func (Fn.func (149 : Nat)) #[] #[])] (236 : Nat) ((0 : Nat), (0 : Nat))) fun r1 =>
  π.call (86 : Nat) #[(Go.Value.slice (a) (an) (ac)), (Go.Value.func (Fn.func (197 : Nat)) #[] #[(Go.Value.pointer (some (Addr.mk r1 (0 : Nat) none))), (Go.Value.pointer (some (Addr.mk r0 (0 : Nat) none)))])] (false, [(false, [.int .i64])]) fun (((x2 : Int), _), _) =>
  π.ret (Go.Value.int (IntKind.i64) (x2))
def ann_findF : Ann := { draws := [], join := [], loop := [] }
def la_findF : LA := { ptr := [], ty := [] }
set_option maxRecDepth 100000 in
theorem eq_findF {W : Type} (π : Prims W) (a : Option Addr) (an ac : Nat) (name : ByteArray) : bodyL π Tryz.prog la_findF ann_findF (mkFr (maskA [] [.v (.slice a an ac), .v (.string name), .v (.func (.func 149) #[] #[])] 0) 10) Tryz.f181 (bodyOf Tryz.f181) (mkFr (List.map some [.v (.slice a an ac), .v (.string name), .v (.func (.func 149) #[] #[])]) 10) = vc_findF π a an ac name := by kernel_rfl
theorem ok_findF (a : Option Addr) (an ac : Nat) (name : ByteArray) (R : Value → PH → Prop) (s : PH) (h : vc_findF (RP Tryz.prog R) a an ac name s) : DCalls Tryz.prog 181 (List.map AV.val [.v (.slice a an ac), .v (.string name), .v (.func (.func 149) #[] #[])]).toArray s R :=
  calls_vcL (c := bodyOf Tryz.f181) (ann := ann_findF) la_findF (by kernel_rfl) Tryz.func181 rfl (by kernel_rfl) [.v (.slice a an ac), .v (.string name), .v (.func (.func 149) #[] #[])] [] (by rw [Tryz.ntmps181]; exact Nat.le_of_ble_eq_true rfl) (by kernel_rfl) (by rw [show Tryz.f181.ntmps = 10 from Tryz.ntmps181, eq_findF]; exact h)
/-- lintel/schema.at$1 -/
def vc_at1 {W : Type} (π : Prims W) (ci : Int) (cn : ByteArray) (ck cs vk vn : Int) (vs : ByteArray) (p : Nat) : W :=
  π.ld [.int .i64] (Addr.mk p (0 : Nat) none) fun ((x0 : Int), _) =>
  π.ret (Go.Value.bool (ci == x0))
def ann_at1 : Ann := { draws := [], join := [], loop := [] }
def la_at1 : LA := { ptr := [(2, 2, 0), (4, 2, 0)], ty := [(2, 97)] }
set_option maxRecDepth 100000 in
theorem eq_at1 {W : Type} (π : Prims W) (ci : Int) (cn : ByteArray) (ck cs vk vn : Int) (vs : ByteArray) (p : Nat) : bodyL π Tryz.prog la_at1 ann_at1 (mkFr (maskA [] [.v (.agg #[.int .i64 ci, .string cn, .int .i64 ck, .int .i64 cs, .int .i64 vk, .int .i64 vn, .string vs]), .v (.pointer (some ⟨p, 0, none⟩))] 0) 8) Tryz.f185 (bodyOf Tryz.f185) (mkFr (List.map some [.v (.agg #[.int .i64 ci, .string cn, .int .i64 ck, .int .i64 cs, .int .i64 vk, .int .i64 vn, .string vs]), .v (.pointer (some ⟨p, 0, none⟩))]) 8) = vc_at1 π ci cn ck cs vk vn vs p := by kernel_rfl
theorem ok_at1 (ci : Int) (cn : ByteArray) (ck cs vk vn : Int) (vs : ByteArray) (p : Nat) (R : Value → PH → Prop) (s : PH) (h : vc_at1 (RP Tryz.prog R) ci cn ck cs vk vn vs p s) : DCalls Tryz.prog 185 (List.map AV.val [.v (.agg #[.int .i64 ci, .string cn, .int .i64 ck, .int .i64 cs, .int .i64 vk, .int .i64 vn, .string vs]), .v (.pointer (some ⟨p, 0, none⟩))]).toArray s R :=
  calls_vcL (c := bodyOf Tryz.f185) (ann := ann_at1) la_at1 (by kernel_rfl) Tryz.func185 rfl (by kernel_rfl) [.v (.agg #[.int .i64 ci, .string cn, .int .i64 ck, .int .i64 cs, .int .i64 vk, .int .i64 vn, .string vs]), .v (.pointer (some ⟨p, 0, none⟩))] [] (by rw [Tryz.ntmps185]; exact Nat.le_of_ble_eq_true rfl) (by kernel_rfl) (by rw [show Tryz.f185.ntmps = 8 from Tryz.ntmps185, eq_at1]; exact h)
/-- lintel/schema.byId$1 -/
def vc_byId1 {W : Type} (π : Prims W) (ti : Int) (tn : ByteArray) (ca : Option Addr) (can cac : Nat) (xa : Option Addr) (xan xac : Nat) (ka : Option Addr) (kan kac : Nat) (p : Nat) : W :=
  π.ld [.int .i64] (Addr.mk p (0 : Nat) none) fun ((x0 : Int), _) =>
  π.ret (Go.Value.bool (ti == x0))
def ann_byId1 : Ann := { draws := [], join := [], loop := [] }
def la_byId1 : LA := { ptr := [(2, 2, 0), (4, 2, 0)], ty := [(2, 139)] }
set_option maxRecDepth 100000 in
theorem eq_byId1 {W : Type} (π : Prims W) (ti : Int) (tn : ByteArray) (ca : Option Addr) (can cac : Nat) (xa : Option Addr) (xan xac : Nat) (ka : Option Addr) (kan kac : Nat) (p : Nat) : bodyL π Tryz.prog la_byId1 ann_byId1 (mkFr (maskA [] [.v (.agg #[.int .i64 ti, .string tn, .slice ca can cac, .slice xa xan xac, .slice ka kan kac]), .v (.pointer (some ⟨p, 0, none⟩))] 0) 8) Tryz.f186 (bodyOf Tryz.f186) (mkFr (List.map some [.v (.agg #[.int .i64 ti, .string tn, .slice ca can cac, .slice xa xan xac, .slice ka kan kac]), .v (.pointer (some ⟨p, 0, none⟩))]) 8) = vc_byId1 π ti tn ca can cac xa xan xac ka kan kac p := by kernel_rfl
theorem ok_byId1 (ti : Int) (tn : ByteArray) (ca : Option Addr) (can cac : Nat) (xa : Option Addr) (xan xac : Nat) (ka : Option Addr) (kan kac : Nat) (p : Nat) (R : Value → PH → Prop) (s : PH) (h : vc_byId1 (RP Tryz.prog R) ti tn ca can cac xa xan xac ka kan kac p s) : DCalls Tryz.prog 186 (List.map AV.val [.v (.agg #[.int .i64 ti, .string tn, .slice ca can cac, .slice xa xan xac, .slice ka kan kac]), .v (.pointer (some ⟨p, 0, none⟩))]).toArray s R :=
  calls_vcL (c := bodyOf Tryz.f186) (ann := ann_byId1) la_byId1 (by kernel_rfl) Tryz.func186 rfl (by kernel_rfl) [.v (.agg #[.int .i64 ti, .string tn, .slice ca can cac, .slice xa xan xac, .slice ka kan kac]), .v (.pointer (some ⟨p, 0, none⟩))] [] (by rw [Tryz.ntmps186]; exact Nat.le_of_ble_eq_true rfl) (by kernel_rfl) (by rw [show Tryz.f186.ntmps = 8 from Tryz.ntmps186, eq_byId1]; exact h)
/-- slices.IndexFunc[[]lintel/api.Column,lintel/api.Column] -/
def vc_IndexFuncAt {W : Type} (π : Prims W) (a : Option Addr) (an ac : Nat) (p : Nat) : W :=
  π.loop [(false, [.int .i64]), (false, [.int .i64])] (((↑an : Int), ()), ((0 : Int), ()), ()) fun (((x1 : Int), _), ((x2 : Int), _), _) again0 =>
    π.ite (decide (x2 < x1)) (
      π.guard ((0 : Int) ≤ x2 ∧ x2 < (↑an : Int)) <|
      π.unSome (a) fun p3 =>
      π.ld [.int .i64, .str, .int .i64, .int .i64, .int .i64, .int .i64, .str] (p3.add (x2.toNat * (7 : Nat))) fun ((x4 : Int), (t5 : ByteArray), (x6 : Int), (x7 : Int), (x8 : Int), (x9 : Int), (t10 : ByteArray), _) =>
      π.call (185 : Nat) #[(Go.Value.agg #[(Go.Value.int (IntKind.i64) (x4)), (Go.Value.string (t5)), (Go.Value.int (IntKind.i64) (x6)), (Go.Value.int (IntKind.i64) (x7)), (Go.Value.int (IntKind.i64) (x8)), (Go.Value.int (IntKind.i64) (x9)), (Go.Value.string (t10))]), (Go.Value.pointer (some (Addr.mk p (0 : Nat) none)))] (false, [(false, [.bool])]) fun (((b11 : Bool), _), _) =>
      π.ite (b11) (
        π.ret (Go.Value.int (IntKind.i64) (x2))
      ) (
        again0 ((x1, ()), (IntKind.i64.wrap (x2 + (1 : Int)), ()), ())
      )
    ) (
      π.ret (Go.Value.int (IntKind.i64) ((-1 : Int)))
    )
def ann_IndexFuncAt : Ann := { draws := [], join := [], loop := [(2, [(7, 3), (8, 3)])] }
def la_IndexFuncAt : LA := { ptr := [], ty := [] }
set_option maxRecDepth 100000 in
theorem eq_IndexFuncAt {W : Type} (π : Prims W) (a : Option Addr) (an ac : Nat) (p : Nat) : bodyL π Tryz.prog la_IndexFuncAt ann_IndexFuncAt (mkFr (maskA [] [.v (.slice a an ac), .v (.func (.func 185) #[] #[.pointer (some ⟨p, 0, none⟩)])] 0) 19) Tryz.f84 (bodyOf Tryz.f84) (mkFr (List.map some [.v (.slice a an ac), .v (.func (.func 185) #[] #[.pointer (some ⟨p, 0, none⟩)])]) 19) = vc_IndexFuncAt π a an ac p := by kernel_rfl
theorem ok_IndexFuncAt (a : Option Addr) (an ac : Nat) (p : Nat) (R : Value → PH → Prop) (s : PH) (h : vc_IndexFuncAt (RP Tryz.prog R) a an ac p s) : DCalls Tryz.prog 84 (List.map AV.val [.v (.slice a an ac), .v (.func (.func 185) #[] #[.pointer (some ⟨p, 0, none⟩)])]).toArray s R :=
  calls_vcL (c := bodyOf Tryz.f84) (ann := ann_IndexFuncAt) la_IndexFuncAt (by kernel_rfl) Tryz.func84 rfl (by kernel_rfl) [.v (.slice a an ac), .v (.func (.func 185) #[] #[.pointer (some ⟨p, 0, none⟩)])] [] (by rw [Tryz.ntmps84]; exact Nat.le_of_ble_eq_true rfl) (by kernel_rfl) (by rw [show Tryz.f84.ntmps = 19 from Tryz.ntmps84, eq_IndexFuncAt]; exact h)
/-- slices.IndexFunc[[]lintel/api.Table,lintel/api.Table] -/
def vc_IndexFuncById {W : Type} (π : Prims W) (a : Option Addr) (an ac : Nat) (p : Nat) : W :=
  π.loop [(false, [.int .i64]), (false, [.int .i64])] (((↑an : Int), ()), ((0 : Int), ()), ()) fun (((x1 : Int), _), ((x2 : Int), _), _) again0 =>
    π.ite (decide (x2 < x1)) (
      π.guard ((0 : Int) ≤ x2 ∧ x2 < (↑an : Int)) <|
      π.unSome (a) fun p3 =>
      π.ld [.int .i64, .str, .slice, .slice, .slice] (p3.add (x2.toNat * (5 : Nat))) fun ((x4 : Int), (t5 : ByteArray), ((a6 : Option Addr), (n7 : Nat), (c8 : Nat)), ((a9 : Option Addr), (n10 : Nat), (c11 : Nat)), ((a12 : Option Addr), (n13 : Nat), (c14 : Nat)), _) =>
      π.call (186 : Nat) #[(Go.Value.agg #[(Go.Value.int (IntKind.i64) (x4)), (Go.Value.string (t5)), (Go.Value.slice (a6) (n7) (c8)), (Go.Value.slice (a9) (n10) (c11)), (Go.Value.slice (a12) (n13) (c14))]), (Go.Value.pointer (some (Addr.mk p (0 : Nat) none)))] (false, [(false, [.bool])]) fun (((b15 : Bool), _), _) =>
      π.ite (b15) (
        π.ret (Go.Value.int (IntKind.i64) (x2))
      ) (
        again0 ((x1, ()), (IntKind.i64.wrap (x2 + (1 : Int)), ()), ())
      )
    ) (
      π.ret (Go.Value.int (IntKind.i64) ((-1 : Int)))
    )
def ann_IndexFuncById : Ann := { draws := [], join := [], loop := [(2, [(7, 3), (8, 3)])] }
def la_IndexFuncById : LA := { ptr := [], ty := [] }
set_option maxRecDepth 100000 in
theorem eq_IndexFuncById {W : Type} (π : Prims W) (a : Option Addr) (an ac : Nat) (p : Nat) : bodyL π Tryz.prog la_IndexFuncById ann_IndexFuncById (mkFr (maskA [] [.v (.slice a an ac), .v (.func (.func 186) #[] #[.pointer (some ⟨p, 0, none⟩)])] 0) 19) Tryz.f132 (bodyOf Tryz.f132) (mkFr (List.map some [.v (.slice a an ac), .v (.func (.func 186) #[] #[.pointer (some ⟨p, 0, none⟩)])]) 19) = vc_IndexFuncById π a an ac p := by kernel_rfl
theorem ok_IndexFuncById (a : Option Addr) (an ac : Nat) (p : Nat) (R : Value → PH → Prop) (s : PH) (h : vc_IndexFuncById (RP Tryz.prog R) a an ac p s) : DCalls Tryz.prog 132 (List.map AV.val [.v (.slice a an ac), .v (.func (.func 186) #[] #[.pointer (some ⟨p, 0, none⟩)])]).toArray s R :=
  calls_vcL (c := bodyOf Tryz.f132) (ann := ann_IndexFuncById) la_IndexFuncById (by kernel_rfl) Tryz.func132 rfl (by kernel_rfl) [.v (.slice a an ac), .v (.func (.func 186) #[] #[.pointer (some ⟨p, 0, none⟩)])] [] (by rw [Tryz.ntmps132]; exact Nat.le_of_ble_eq_true rfl) (by kernel_rfl) (by rw [show Tryz.f132.ntmps = 19 from Tryz.ntmps132, eq_IndexFuncById]; exact h)
/-- lintel/schema.at -/
def vc_at {W : Type} (π : Prims W) (ti : Int) (tn : ByteArray) (ca : Option Addr) (can cac : Nat) (xa : Option Addr) (xan xac : Nat) (ka : Option Addr) (kan kac : Nat) (id : Int) : W :=
  π.nw (Go.Obj.cells #[(Go.Value.int (IntKind.i64) (id))] (3 : Nat) ((0 : Nat), (0 : Nat))) fun r0 =>
  π.call (84 : Nat) #[(Go.Value.slice (ca) (can) (cac)), (Go.Value.func (Fn.func (185 : Nat)) #[] #[(Go.Value.pointer (some (Addr.mk r0 (0 : Nat) none)))])] (false, [(false, [.int .i64])]) fun (((x1 : Int), _), _) =>
  π.ret (Go.Value.int (IntKind.i64) (x1))
def ann_at : Ann := { draws := [], join := [], loop := [] }
def la_at : LA := { ptr := [(2, 2, 0), (5, 2, 2)], ty := [(2, 139)] }
set_option maxRecDepth 100000 in
theorem eq_at {W : Type} (π : Prims W) (ti : Int) (tn : ByteArray) (ca : Option Addr) (can cac : Nat) (xa : Option Addr) (xan xac : Nat) (ka : Option Addr) (kan kac : Nat) (id : Int) : bodyL π Tryz.prog la_at ann_at (mkFr (maskA [] [.v (.agg #[.int .i64 ti, .string tn, .slice ca can cac, .slice xa xan xac, .slice ka kan kac]), .v (.int .i64 id)] 0) 9) Tryz.f153 (bodyOf Tryz.f153) (mkFr (List.map some [.v (.agg #[.int .i64 ti, .string tn, .slice ca can cac, .slice xa xan xac, .slice ka kan kac]), .v (.int .i64 id)]) 9) = vc_at π ti tn ca can cac xa xan xac ka kan kac id := by kernel_rfl
theorem ok_at (ti : Int) (tn : ByteArray) (ca : Option Addr) (can cac : Nat) (xa : Option Addr) (xan xac : Nat) (ka : Option Addr) (kan kac : Nat) (id : Int) (R : Value → PH → Prop) (s : PH) (h : vc_at (RP Tryz.prog R) ti tn ca can cac xa xan xac ka kan kac id s) : DCalls Tryz.prog 153 (List.map AV.val [.v (.agg #[.int .i64 ti, .string tn, .slice ca can cac, .slice xa xan xac, .slice ka kan kac]), .v (.int .i64 id)]).toArray s R :=
  calls_vcL (c := bodyOf Tryz.f153) (ann := ann_at) la_at (by kernel_rfl) Tryz.func153 rfl (by kernel_rfl) [.v (.agg #[.int .i64 ti, .string tn, .slice ca can cac, .slice xa xan xac, .slice ka kan kac]), .v (.int .i64 id)] [] (by rw [Tryz.ntmps153]; exact Nat.le_of_ble_eq_true rfl) (by kernel_rfl) (by rw [show Tryz.f153.ntmps = 9 from Tryz.ntmps153, eq_at]; exact h)
/-- lintel/schema.byId -/
def vc_byId {W : Type} (π : Prims W) (sv sl : Int) (sa : Option Addr) (san sac : Nat) (id : Int) : W :=
  π.nw (Go.Obj.cells #[(Go.Value.int (IntKind.i64) (id))] (3 : Nat) ((0 : Nat), (0 : Nat))) fun r0 =>
  π.call (132 : Nat) #[(Go.Value.slice (sa) (san) (sac)), (Go.Value.func (Fn.func (186 : Nat)) #[] #[(Go.Value.pointer (some (Addr.mk r0 (0 : Nat) none)))])] (false, [(false, [.int .i64])]) fun (((x1 : Int), _), _) =>
  π.ret (Go.Value.int (IntKind.i64) (x1))
def ann_byId : Ann := { draws := [], join := [], loop := [] }
def la_byId : LA := { ptr := [(2, 2, 0), (5, 2, 2)], ty := [(2, 44)] }
set_option maxRecDepth 100000 in
theorem eq_byId {W : Type} (π : Prims W) (sv sl : Int) (sa : Option Addr) (san sac : Nat) (id : Int) : bodyL π Tryz.prog la_byId ann_byId (mkFr (maskA [] [.v (.agg #[.int .i64 sv, .int .i64 sl, .slice sa san sac]), .v (.int .i64 id)] 0) 9) Tryz.f154 (bodyOf Tryz.f154) (mkFr (List.map some [.v (.agg #[.int .i64 sv, .int .i64 sl, .slice sa san sac]), .v (.int .i64 id)]) 9) = vc_byId π sv sl sa san sac id := by kernel_rfl
theorem ok_byId (sv sl : Int) (sa : Option Addr) (san sac : Nat) (id : Int) (R : Value → PH → Prop) (s : PH) (h : vc_byId (RP Tryz.prog R) sv sl sa san sac id s) : DCalls Tryz.prog 154 (List.map AV.val [.v (.agg #[.int .i64 sv, .int .i64 sl, .slice sa san sac]), .v (.int .i64 id)]).toArray s R :=
  calls_vcL (c := bodyOf Tryz.f154) (ann := ann_byId) la_byId (by kernel_rfl) Tryz.func154 rfl (by kernel_rfl) [.v (.agg #[.int .i64 sv, .int .i64 sl, .slice sa san sac]), .v (.int .i64 id)] [] (by rw [Tryz.ntmps154]; exact Nat.le_of_ble_eq_true rfl) (by kernel_rfl) (by rw [show Tryz.f154.ntmps = 9 from Tryz.ntmps154, eq_byId]; exact h)
/-- slices.Clone[[]lintel/api.Column,lintel/api.Column] -/
def vc_CloneC {W : Type} (π : Prims W) (a : Option Addr) (an ac : Nat) : W :=
  π.ite (a.isNone) (
    π.ret (Go.Value.slice (none) ((0 : Nat)) ((0 : Nat)))
  ) (
    π.nw (Go.Obj.cells #[] (97 : Nat) ((0 : Nat), (0 : Nat))) fun r0 =>
    π.app (97 : Nat) (7 : Nat) (72 : Nat) [(Go.Value.int (IntKind.i64) ((0 : Int))), (Go.Value.string (ByteArray.mk #[])), (Go.Value.int (IntKind.i64) ((0 : Int))), (Go.Value.int (IntKind.i64) ((0 : Int))), (Go.Value.int (IntKind.i64) ((0 : Int))), (Go.Value.int (IntKind.i64) ((0 : Int))), (Go.Value.string (ByteArray.mk #[]))] (some (Addr.mk r0 (0 : Nat) none)) ((0 : Nat)) ((0 : Nat)) (Src.sl a an) fun a1 n2 c3 =>
    π.ret (Go.Value.slice (a1) (n2) (c3))
  )
def ann_CloneC : Ann := { draws := [], join := [], loop := [] }
def la_CloneC : LA := { ptr := [], ty := [] }
set_option maxRecDepth 100000 in
theorem eq_CloneC {W : Type} (π : Prims W) (a : Option Addr) (an ac : Nat) : bodyL π Tryz.prog la_CloneC ann_CloneC (mkFr (maskA [] [.v (.slice a an ac)] 0) 8) Tryz.f40 (bodyOf Tryz.f40) (mkFr (List.map some [.v (.slice a an ac)]) 8) = vc_CloneC π a an ac := by kernel_rfl
theorem ok_CloneC (a : Option Addr) (an ac : Nat) (R : Value → PH → Prop) (s : PH) (h : vc_CloneC (RP Tryz.prog R) a an ac s) : DCalls Tryz.prog 40 (List.map AV.val [.v (.slice a an ac)]).toArray s R :=
  calls_vcL (c := bodyOf Tryz.f40) (ann := ann_CloneC) la_CloneC (by kernel_rfl) Tryz.func40 rfl (by kernel_rfl) [.v (.slice a an ac)] [] (by rw [Tryz.ntmps40]; exact Nat.le_of_ble_eq_true rfl) (by kernel_rfl) (by rw [show Tryz.f40.ntmps = 8 from Tryz.ntmps40, eq_CloneC]; exact h)
/-- slices.Clone[[]lintel/api.Index,lintel/api.Index] -/
def vc_CloneX {W : Type} (π : Prims W) (a : Option Addr) (an ac : Nat) : W :=
  π.ite (a.isNone) (
    π.ret (Go.Value.slice (none) ((0 : Nat)) ((0 : Nat)))
  ) (
    π.nw (Go.Obj.cells #[] (142 : Nat) ((0 : Nat), (0 : Nat))) fun r0 =>
    π.app (142 : Nat) (5 : Nat) (48 : Nat) [(Go.Value.int (IntKind.i64) ((0 : Int))), (Go.Value.string (ByteArray.mk #[])), (Go.Value.int (IntKind.i64) ((0 : Int))), (Go.Value.bool (false)), (Go.Value.int (IntKind.i64) ((0 : Int)))] (some (Addr.mk r0 (0 : Nat) none)) ((0 : Nat)) ((0 : Nat)) (Src.sl a an) fun a1 n2 c3 =>
    π.ret (Go.Value.slice (a1) (n2) (c3))
  )
def ann_CloneX : Ann := { draws := [], join := [], loop := [] }
def la_CloneX : LA := { ptr := [], ty := [] }
set_option maxRecDepth 100000 in
theorem eq_CloneX {W : Type} (π : Prims W) (a : Option Addr) (an ac : Nat) : bodyL π Tryz.prog la_CloneX ann_CloneX (mkFr (maskA [] [.v (.slice a an ac)] 0) 8) Tryz.f97 (bodyOf Tryz.f97) (mkFr (List.map some [.v (.slice a an ac)]) 8) = vc_CloneX π a an ac := by kernel_rfl
theorem ok_CloneX (a : Option Addr) (an ac : Nat) (R : Value → PH → Prop) (s : PH) (h : vc_CloneX (RP Tryz.prog R) a an ac s) : DCalls Tryz.prog 97 (List.map AV.val [.v (.slice a an ac)]).toArray s R :=
  calls_vcL (c := bodyOf Tryz.f97) (ann := ann_CloneX) la_CloneX (by kernel_rfl) Tryz.func97 rfl (by kernel_rfl) [.v (.slice a an ac)] [] (by rw [Tryz.ntmps97]; exact Nat.le_of_ble_eq_true rfl) (by kernel_rfl) (by rw [show Tryz.f97.ntmps = 8 from Tryz.ntmps97, eq_CloneX]; exact h)
/-- slices.Clone[[]lintel/api.Foreign,lintel/api.Foreign] -/
def vc_CloneF {W : Type} (π : Prims W) (a : Option Addr) (an ac : Nat) : W :=
  π.ite (a.isNone) (
    π.ret (Go.Value.slice (none) ((0 : Nat)) ((0 : Nat)))
  ) (
    π.nw (Go.Obj.cells #[] (144 : Nat) ((0 : Nat), (0 : Nat))) fun r0 =>
    π.app (144 : Nat) (5 : Nat) (48 : Nat) [(Go.Value.int (IntKind.i64) ((0 : Int))), (Go.Value.string (ByteArray.mk #[])), (Go.Value.int (IntKind.i64) ((0 : Int))), (Go.Value.int (IntKind.i64) ((0 : Int))), (Go.Value.int (IntKind.i64) ((0 : Int)))] (some (Addr.mk r0 (0 : Nat) none)) ((0 : Nat)) ((0 : Nat)) (Src.sl a an) fun a1 n2 c3 =>
    π.ret (Go.Value.slice (a1) (n2) (c3))
  )
def ann_CloneF : Ann := { draws := [], join := [], loop := [] }
def la_CloneF : LA := { ptr := [], ty := [] }
set_option maxRecDepth 100000 in
theorem eq_CloneF {W : Type} (π : Prims W) (a : Option Addr) (an ac : Nat) : bodyL π Tryz.prog la_CloneF ann_CloneF (mkFr (maskA [] [.v (.slice a an ac)] 0) 8) Tryz.f98 (bodyOf Tryz.f98) (mkFr (List.map some [.v (.slice a an ac)]) 8) = vc_CloneF π a an ac := by kernel_rfl
theorem ok_CloneF (a : Option Addr) (an ac : Nat) (R : Value → PH → Prop) (s : PH) (h : vc_CloneF (RP Tryz.prog R) a an ac s) : DCalls Tryz.prog 98 (List.map AV.val [.v (.slice a an ac)]).toArray s R :=
  calls_vcL (c := bodyOf Tryz.f98) (ann := ann_CloneF) la_CloneF (by kernel_rfl) Tryz.func98 rfl (by kernel_rfl) [.v (.slice a an ac)] [] (by rw [Tryz.ntmps98]; exact Nat.le_of_ble_eq_true rfl) (by kernel_rfl) (by rw [show Tryz.f98.ntmps = 8 from Tryz.ntmps98, eq_CloneF]; exact h)
/-- lintel/schema.copied -/
def vc_copied {W : Type} (π : Prims W) (ti : Int) (tn : ByteArray) (ca : Option Addr) (can cac : Nat) (xa : Option Addr) (xan xac : Nat) (ka : Option Addr) (kan kac : Nat) : W :=
  π.call (40 : Nat) #[(Go.Value.slice (ca) (can) (cac))] (false, [(false, [.slice])]) fun ((((a0 : Option Addr), (n1 : Nat), (c2 : Nat)), _), _) =>
  π.call (97 : Nat) #[(Go.Value.slice (xa) (xan) (xac))] (false, [(false, [.slice])]) fun ((((a3 : Option Addr), (n4 : Nat), (c5 : Nat)), _), _) =>
  π.call (98 : Nat) #[(Go.Value.slice (ka) (kan) (kac))] (false, [(false, [.slice])]) fun ((((a6 : Option Addr), (n7 : Nat), (c8 : Nat)), _), _) =>
  π.ret (Go.Value.agg #[(Go.Value.int (IntKind.i64) (ti)), (Go.Value.string (tn)), (Go.Value.slice (a0) (n1) (c2)), (Go.Value.slice (a3) (n4) (c5)), (Go.Value.slice (a6) (n7) (c8))])
def ann_copied : Ann := { draws := [(1, { A := [0, 1, 3, 4, 6, 7], chkL := [(2, [4, 7]), (5, [7])], eag := [9, 11, 13] })], join := [], loop := [] }
def la_copied : LA := { ptr := [(1, 1, 0), (2, 2, 0), (3, 1, 2), (6, 1, 3), (9, 1, 4), (12, 1, 2), (13, 1, 3), (14, 1, 4)], ty := [(1, 139), (2, 139)] }
set_option maxRecDepth 100000 in
theorem eq_copied {W : Type} (π : Prims W) (ti : Int) (tn : ByteArray) (ca : Option Addr) (can cac : Nat) (xa : Option Addr) (xan xac : Nat) (ka : Option Addr) (kan kac : Nat) : bodyL π Tryz.prog la_copied ann_copied (mkFr (maskA [] [.v (.agg #[.int .i64 ti, .string tn, .slice ca can cac, .slice xa xan xac, .slice ka kan kac])] 0) 16) Tryz.f95 (bodyOf Tryz.f95) (mkFr (List.map some [.v (.agg #[.int .i64 ti, .string tn, .slice ca can cac, .slice xa xan xac, .slice ka kan kac])]) 16) = vc_copied π ti tn ca can cac xa xan xac ka kan kac := by kernel_rfl
theorem ok_copied (ti : Int) (tn : ByteArray) (ca : Option Addr) (can cac : Nat) (xa : Option Addr) (xan xac : Nat) (ka : Option Addr) (kan kac : Nat) (R : Value → PH → Prop) (s : PH) (h : vc_copied (RP Tryz.prog R) ti tn ca can cac xa xan xac ka kan kac s) : DCalls Tryz.prog 95 (List.map AV.val [.v (.agg #[.int .i64 ti, .string tn, .slice ca can cac, .slice xa xan xac, .slice ka kan kac])]).toArray s R :=
  calls_vcL (c := bodyOf Tryz.f95) (ann := ann_copied) la_copied (by kernel_rfl) Tryz.func95 rfl (by kernel_rfl) [.v (.agg #[.int .i64 ti, .string tn, .slice ca can cac, .slice xa xan xac, .slice ka kan kac])] [] (by rw [Tryz.ntmps95]; exact Nat.le_of_ble_eq_true rfl) (by kernel_rfl) (by rw [show Tryz.f95.ntmps = 16 from Tryz.ntmps95, eq_copied]; exact h)
/-- lintel/lintelref10.Num -/
def vc_Num {W : Type} (π : Prims W) (n : Int) : W :=
  π.join [(false, [.int .u64])] (fun J0 =>
    π.ite (decide (n < (0 : Int))) (
      J0 ((IntKind.u64.wrap (IntKind.u64.wrap (IntKind.u64.wrap (IntKind.i64.wrap ((0 : Int) - IntKind.i64.wrap (n + (1 : Int)))) * (2 : Int)) + (1 : Int)), ()), ())
    ) (
      J0 ((IntKind.u64.wrap (IntKind.u64.wrap n * (2 : Int)), ()), ())
    )
  ) (fun (((x1 : Int), _), _) =>
    π.loop [(false, [.int .u64]), (false, [.slice])] ((x1, ()), ((none, (0 : Nat), (0 : Nat)), ()), ()) fun (((x3 : Int), _), (((a4 : Option Addr), (n5 : Nat), (c6 : Nat)), _), _) again2 =>
      π.ite (decide (x3 ≥ (128 : Int))) (
        π.nw (Go.Obj.cells #[(Go.Value.int (IntKind.u8) (IntKind.u8.wrap (IntKind.u64.wrap (x3.tmod (128 : Int) + (128 : Int)))))] (5 : Nat) ((0 : Nat), (0 : Nat))) fun r7 =>
        π.app (5 : Nat) (1 : Nat) (1 : Nat) [(Go.Value.int (IntKind.u8) ((0 : Int)))] (a4) (n5) (c6) (Src.sl (some (Addr.mk r7 (0 : Nat) none)) (1 : Nat)) fun a8 n9 c10 =>
        again2 ((IntKind.u64.wrap (x3.tdiv (128 : Int)), ()), ((a8, n9, c10), ()), ())
      ) (
        π.nw (Go.Obj.cells #[(Go.Value.int (IntKind.u8) (IntKind.u8.wrap x3))] (5 : Nat) ((0 : Nat), (0 : Nat))) fun r11 =>
        π.app (5 : Nat) (1 : Nat) (1 : Nat) [(Go.Value.int (IntKind.u8) ((0 : Int)))] (a4) (n5) (c6) (Src.sl (some (Addr.mk r11 (0 : Nat) none)) (1 : Nat)) fun a12 n13 c14 =>
        π.b2s (a12) (n13) fun t15 =>
        π.ret (Go.Value.string (t15))
      )
  )
def ann_Num : Ann := { draws := [], join := [(4, [(3, 145)])], loop := [(5, [(3, 145), (4, 146)])] }
def la_Num : LA := { ptr := [], ty := [] }
set_option maxRecDepth 100000 in
theorem eq_Num {W : Type} (π : Prims W) (n : Int) : bodyL π Tryz.prog la_Num ann_Num (mkFr (maskA [] [.v (.int .i64 n)] 0) 34) Tryz.f32 (bodyOf Tryz.f32) (mkFr (List.map some [.v (.int .i64 n)]) 34) = vc_Num π n := by kernel_rfl
theorem ok_Num (n : Int) (R : Value → PH → Prop) (s : PH) (h : vc_Num (RP Tryz.prog R) n s) : DCalls Tryz.prog 32 (List.map AV.val [.v (.int .i64 n)]).toArray s R :=
  calls_vcL (c := bodyOf Tryz.f32) (ann := ann_Num) la_Num (by kernel_rfl) Tryz.func32 rfl (by kernel_rfl) [.v (.int .i64 n)] [] (by rw [Tryz.ntmps32]; exact Nat.le_of_ble_eq_true rfl) (by kernel_rfl) (by rw [show Tryz.f32.ntmps = 34 from Tryz.ntmps32, eq_Num]; exact h)
/-- lintel/lintelref10.nums -/
def vc_nums {W : Type} (π : Prims W) (a : Option Addr) (an ac : Nat) : W :=
  π.loop [(false, [.str]), (false, [.int .i64])] ((ByteArray.mk #[], ()), ((0 : Int), ()), ()) fun (((t1 : ByteArray), _), ((x2 : Int), _), _) again0 =>
    π.ite (decide (x2 < (↑an : Int))) (
      π.guard ((0 : Int) ≤ x2 ∧ x2 < (↑an : Int)) <|
      π.unSome (a) fun p3 =>
      π.ld [.int .i64] (p3.add (x2.toNat * (1 : Nat))) fun ((x4 : Int), _) =>
      π.call (32 : Nat) #[(Go.Value.int (IntKind.i64) (x4))] (false, [(false, [.str])]) fun (((t5 : ByteArray), _), _) =>
      π.guard ((↑(t1.size + t5.size) : Int) ≤ (9223372036854775807 : Int)) <|
      again0 ((t1 ++ t5, ()), (IntKind.i64.wrap (x2 + (1 : Int)), ()), ())
    ) (
      π.ret (Go.Value.string (t1))
    )
def ann_nums : Ann := { draws := [], join := [], loop := [(3, [(3, 9), (4, 3)])] }
def la_nums : LA := { ptr := [], ty := [] }
set_option maxRecDepth 100000 in
theorem eq_nums {W : Type} (π : Prims W) (a : Option Addr) (an ac : Nat) : bodyL π Tryz.prog la_nums ann_nums (mkFr (maskA [] [.v (.slice a an ac)] 0) 19) Tryz.f33 (bodyOf Tryz.f33) (mkFr (List.map some [.v (.slice a an ac)]) 19) = vc_nums π a an ac := by kernel_rfl
theorem ok_nums (a : Option Addr) (an ac : Nat) (R : Value → PH → Prop) (s : PH) (h : vc_nums (RP Tryz.prog R) a an ac s) : DCalls Tryz.prog 33 (List.map AV.val [.v (.slice a an ac)]).toArray s R :=
  calls_vcL (c := bodyOf Tryz.f33) (ann := ann_nums) la_nums (by kernel_rfl) Tryz.func33 rfl (by kernel_rfl) [.v (.slice a an ac)] [] (by rw [Tryz.ntmps33]; exact Nat.le_of_ble_eq_true rfl) (by kernel_rfl) (by rw [show Tryz.f33.ntmps = 19 from Tryz.ntmps33, eq_nums]; exact h)
/-- lintel/lintelref10.text -/
def vc_text {W : Type} (π : Prims W) (tx : ByteArray) : W :=
  π.call (32 : Nat) #[(Go.Value.int (IntKind.i64) ((↑tx.size : Int)))] (false, [(false, [.str])]) fun (((t0 : ByteArray), _), _) =>
  π.guard ((↑(t0.size + tx.size) : Int) ≤ (9223372036854775807 : Int)) <|
  π.ret (Go.Value.string (t0 ++ tx))
def ann_text : Ann := { draws := [], join := [], loop := [] }
def la_text : LA := { ptr := [], ty := [] }
set_option maxRecDepth 100000 in
theorem eq_text {W : Type} (π : Prims W) (tx : ByteArray) : bodyL π Tryz.prog la_text ann_text (mkFr (maskA [] [.v (.string tx)] 0) 8) Tryz.f37 (bodyOf Tryz.f37) (mkFr (List.map some [.v (.string tx)]) 8) = vc_text π tx := by kernel_rfl
theorem ok_text (tx : ByteArray) (R : Value → PH → Prop) (s : PH) (h : vc_text (RP Tryz.prog R) tx s) : DCalls Tryz.prog 37 (List.map AV.val [.v (.string tx)]).toArray s R :=
  calls_vcL (c := bodyOf Tryz.f37) (ann := ann_text) la_text (by kernel_rfl) Tryz.func37 rfl (by kernel_rfl) [.v (.string tx)] [] (by rw [Tryz.ntmps37]; exact Nat.le_of_ble_eq_true rfl) (by kernel_rfl) (by rw [show Tryz.f37.ntmps = 8 from Tryz.ntmps37, eq_text]; exact h)
/-- lintel/lintelref10.flag -/
def vc_flag {W : Type} (π : Prims W) (b : Bool) : W :=
  π.ite (b) (
    π.call (32 : Nat) #[(Go.Value.int (IntKind.i64) ((1 : Int)))] (false, [(false, [.str])]) fun (((t0 : ByteArray), _), _) =>
    π.ret (Go.Value.string (t0))
  ) (
    π.call (32 : Nat) #[(Go.Value.int (IntKind.i64) ((0 : Int)))] (false, [(false, [.str])]) fun (((t1 : ByteArray), _), _) =>
    π.ret (Go.Value.string (t1))
  )
def ann_flag : Ann := { draws := [], join := [], loop := [] }
def la_flag : LA := { ptr := [], ty := [] }
set_option maxRecDepth 100000 in
theorem eq_flag {W : Type} (π : Prims W) (b : Bool) : bodyL π Tryz.prog la_flag ann_flag (mkFr (maskA [] [.v (.bool b)] 0) 6) Tryz.f36 (bodyOf Tryz.f36) (mkFr (List.map some [.v (.bool b)]) 6) = vc_flag π b := by kernel_rfl
theorem ok_flag (b : Bool) (R : Value → PH → Prop) (s : PH) (h : vc_flag (RP Tryz.prog R) b s) : DCalls Tryz.prog 36 (List.map AV.val [.v (.bool b)]).toArray s R :=
  calls_vcL (c := bodyOf Tryz.f36) (ann := ann_flag) la_flag (by kernel_rfl) Tryz.func36 rfl (by kernel_rfl) [.v (.bool b)] [] (by rw [Tryz.ntmps36]; exact Nat.le_of_ble_eq_true rfl) (by kernel_rfl) (by rw [show Tryz.f36.ntmps = 6 from Tryz.ntmps36, eq_flag]; exact h)
/-- lintel/lintelref10.value -/
def vc_encV {W : Type} (π : Prims W) (vk vn : Int) (vs : ByteArray) : W :=
  π.callQ (32 : Nat) #[(Go.Value.int (IntKind.i64) (vk))] (false, [(false, [.str])]) fun (((t0 : ByteArray), _), _) =>
  π.callQ (32 : Nat) #[(Go.Value.int (IntKind.i64) (vn))] (false, [(false, [.str])]) fun (((t1 : ByteArray), _), _) =>
  π.guard ((↑(t0.size + t1.size) : Int) ≤ (9223372036854775807 : Int)) <|
  π.callQ (37 : Nat) #[(Go.Value.string (vs))] (false, [(false, [.str])]) fun (((t2 : ByteArray), _), _) =>
  π.guard ((↑((t0 ++ t1).size + t2.size) : Int) ≤ (9223372036854775807 : Int)) <|
  π.ret (Go.Value.string (t0 ++ t1 ++ t2))
def ann_encV : Ann := { draws := [(1, { A := [0, 1, 2, 3, 4, 5, 6, 7, 8, 9, 10, 11], quiet := [2, 5, 9] })], join := [], loop := [] }
def la_encV : LA := { ptr := [(1, 1, 0), (3, 1, 0), (6, 1, 1), (10, 1, 2)], ty := [(1, 33)] }
set_option maxRecDepth 100000 in
theorem eq_encV {W : Type} (π : Prims W) (vk vn : Int) (vs : ByteArray) : bodyL π Tryz.prog la_encV ann_encV (mkFr (maskA [] [.v (.agg #[.int .i64 vk, .int .i64 vn, .string vs])] 0) 14) Tryz.f67 (bodyOf Tryz.f67) (mkFr (List.map some [.v (.agg #[.int .i64 vk, .int .i64 vn, .string vs])]) 14) = vc_encV π vk vn vs := by kernel_rfl
theorem ok_encV (vk vn : Int) (vs : ByteArray) (R : Value → PH → Prop) (s : PH) (h : vc_encV (RP Tryz.prog R) vk vn vs s) : DCalls Tryz.prog 67 (List.map AV.val [.v (.agg #[.int .i64 vk, .int .i64 vn, .string vs])]).toArray s R :=
  calls_vcL (c := bodyOf Tryz.f67) (ann := ann_encV) la_encV (by kernel_rfl) Tryz.func67 rfl (by kernel_rfl) [.v (.agg #[.int .i64 vk, .int .i64 vn, .string vs])] [] (by rw [Tryz.ntmps67]; exact Nat.le_of_ble_eq_true rfl) (by kernel_rfl) (by rw [show Tryz.f67.ntmps = 14 from Tryz.ntmps67, eq_encV]; exact h)
/-- lintel/lintelref10.columns -/
def vc_encC {W : Type} (π : Prims W) (a : Option Addr) (an ac : Nat) : W :=
  π.call (32 : Nat) #[(Go.Value.int (IntKind.i64) ((↑an : Int)))] (false, [(false, [.str])]) fun (((t0 : ByteArray), _), _) =>
  π.loop [(false, [.str]), (false, [.int .i64])] ((t0, ()), ((0 : Int), ()), ()) fun (((t2 : ByteArray), _), ((x3 : Int), _), _) again1 =>
    π.ite (decide (x3 < (↑an : Int))) (
      π.guard ((0 : Int) ≤ x3 ∧ x3 < (↑an : Int)) <|
      π.unSome (a) fun p4 =>
      π.ld [.int .i64] ((p4.add (x3.toNat * (7 : Nat))).add (0 : Nat)) fun ((x5 : Int), _) =>
      π.callQ (32 : Nat) #[(Go.Value.int (IntKind.i64) (x5))] (false, [(false, [.str])]) fun (((t6 : ByteArray), _), _) =>
      π.guard ((↑(t2.size + t6.size) : Int) ≤ (9223372036854775807 : Int)) <|
      π.guard ((0 : Int) ≤ x3 ∧ x3 < (↑an : Int)) <|
      π.unSome (a) fun p7 =>
      π.ld [.str] ((p7.add (x3.toNat * (7 : Nat))).add (1 : Nat)) fun ((t8 : ByteArray), _) =>
      π.callQ (37 : Nat) #[(Go.Value.string (t8))] (false, [(false, [.str])]) fun (((t9 : ByteArray), _), _) =>
      π.guard ((↑((t2 ++ t6).size + t9.size) : Int) ≤ (9223372036854775807 : Int)) <|
      π.guard ((0 : Int) ≤ x3 ∧ x3 < (↑an : Int)) <|
      π.unSome (a) fun p10 =>
      π.ld [.int .i64] ((p10.add (x3.toNat * (7 : Nat))).add (2 : Nat)) fun ((x11 : Int), _) =>
      π.guard ((0 : Int) ≤ x3 ∧ x3 < (↑an : Int)) <|
      π.unSome (a) fun p12 =>
      π.ld [.int .i64] ((p12.add (x3.toNat * (7 : Nat))).add (3 : Nat)) fun ((x13 : Int), _) =>
      π.guard ((0 : Int) ≤ x3 ∧ x3 < (↑an : Int)) <|
      π.unSome (a) fun p14 =>
      π.ld [.int .i64, .int .i64, .str] ((p14.add (x3.toNat * (7 : Nat))).add (4 : Nat)) fun ((x15 : Int), (x16 : Int), (t17 : ByteArray), _) =>
      π.nw (Go.Obj.cells #[(Go.Value.int (IntKind.i64) (x11)), (Go.Value.int (IntKind.i64) (x13))] (3 : Nat) ((0 : Nat), (0 : Nat))) fun r18 =>
      π.call (33 : Nat) #[(Go.Value.slice (some (Addr.mk r18 (0 : Nat) none)) ((2 : Nat)) ((2 : Nat)))] (false, [(false, [.str])]) fun (((t19 : ByteArray), _), _) =>
      π.still [.int .i64, .int .i64, .str] ((p14.add (x3.toNat * (7 : Nat))).add (4 : Nat)) (x15, x16, t17, ()) <|
      π.guard ((↑((t2 ++ t6 ++ t9).size + t19.size) : Int) ≤ (9223372036854775807 : Int)) <|
      π.call (67 : Nat) #[(Go.Value.agg #[(Go.Value.int (IntKind.i64) (x15)), (Go.Value.int (IntKind.i64) (x16)), (Go.Value.string (t17))])] (false, [(false, [.str])]) fun (((t20 : ByteArray), _), _) =>
      π.guard ((↑((t2 ++ t6 ++ t9 ++ t19).size + t20.size) : Int) ≤ (9223372036854775807 : Int)) <|
      again1 ((t2 ++ t6 ++ t9 ++ t19 ++ t20, ()), (IntKind.i64.wrap (x3 + (1 : Int)), ()), ())
    ) (
      π.ret (Go.Value.string (t2))
    )
def ann_encC : Ann := { draws := [(5, { A := [0, 1, 2, 3, 4, 5, 6, 7, 8, 9, 10, 11, 12, 13, 14, 15, 16, 17, 18, 19, 20, 21, 22, 23, 24, 28, 29, 30, 31, 32], quiet := [6, 13, 26, 33], chkL := [(26, [32])], eag := [27, 34] })], join := [], loop := [(3, [(3, 9), (4, 3)])] }
def la_encC : LA := { ptr := [], ty := [] }
set_option maxRecDepth 100000 in
theorem eq_encC {W : Type} (π : Prims W) (a : Option Addr) (an ac : Nat) : bodyL π Tryz.prog la_encC ann_encC (mkFr (maskA [] [.v (.slice a an ac)] 0) 50) Tryz.f66 (bodyOf Tryz.f66) (mkFr (List.map some [.v (.slice a an ac)]) 50) = vc_encC π a an ac := by kernel_rfl
theorem ok_encC (a : Option Addr) (an ac : Nat) (R : Value → PH → Prop) (s : PH) (h : vc_encC (RP Tryz.prog R) a an ac s) : DCalls Tryz.prog 66 (List.map AV.val [.v (.slice a an ac)]).toArray s R :=
  calls_vcL (c := bodyOf Tryz.f66) (ann := ann_encC) la_encC (by kernel_rfl) Tryz.func66 rfl (by kernel_rfl) [.v (.slice a an ac)] [] (by rw [Tryz.ntmps66]; exact Nat.le_of_ble_eq_true rfl) (by kernel_rfl) (by rw [show Tryz.f66.ntmps = 50 from Tryz.ntmps66, eq_encC]; exact h)
/-- lintel/lintelref10.Schema -/
def vc_encS {W : Type} (π : Prims W) (sv sl : Int) (sa : Option Addr) (san sac : Nat) : W :=
  π.nw (Go.Obj.cells #[(Go.Value.int (IntKind.i64) (sv)), (Go.Value.int (IntKind.i64) (sl))] (3 : Nat) ((0 : Nat), (0 : Nat))) fun r0 =>
  π.call (33 : Nat) #[(Go.Value.slice (some (Addr.mk r0 (0 : Nat) none)) ((2 : Nat)) ((2 : Nat)))] (false, [(false, [.str])]) fun (((t1 : ByteArray), _), _) =>
  π.call (32 : Nat) #[(Go.Value.int (IntKind.i64) ((↑san : Int)))] (false, [(false, [.str])]) fun (((t2 : ByteArray), _), _) =>
  π.guard ((↑(t1.size + t2.size) : Int) ≤ (9223372036854775807 : Int)) <|
  π.loop [(true, [.int .i64, .int .i64, .slice]), (false, [.str]), (false, [.int .i64])] ((sv, sl, (sa, san, sac), ()), (t1 ++ t2, ()), ((0 : Int), ()), ()) fun (((x4 : Int), (x5 : Int), ((a6 : Option Addr), (n7 : Nat), (c8 : Nat)), _), ((t9 : ByteArray), _), ((x10 : Int), _), _) again3 =>
    π.ite (decide (x10 < (↑n7 : Int))) (
      π.guard ((0 : Int) ≤ x10 ∧ x10 < (↑n7 : Int)) <|
      π.unSome (a6) fun p11 =>
      π.ld [.int .i64, .str, .slice, .slice, .slice] (p11.add (x10.toNat * (5 : Nat))) fun ((x12 : Int), (t13 : ByteArray), ((a14 : Option Addr), (n15 : Nat), (c16 : Nat)), ((a17 : Option Addr), (n18 : Nat), (c19 : Nat)), ((a20 : Option Addr), (n21 : Nat), (c22 : Nat)), _) =>
      π.callQ (32 : Nat) #[(Go.Value.int (IntKind.i64) (x12))] (false, [(false, [.str])]) fun (((t23 : ByteArray), _), _) =>
      π.guard ((↑(t9.size + t23.size) : Int) ≤ (9223372036854775807 : Int)) <|
      π.callQ (37 : Nat) #[(Go.Value.string (t13))] (false, [(false, [.str])]) fun (((t24 : ByteArray), _), _) =>
      π.guard ((↑((t9 ++ t23).size + t24.size) : Int) ≤ (9223372036854775807 : Int)) <|
      π.callQ (66 : Nat) #[(Go.Value.slice (a14) (n15) (c16))] (false, [(false, [.str])]) fun (((t25 : ByteArray), _), _) =>
      π.guard ((↑((t9 ++ t23 ++ t24).size + t25.size) : Int) ≤ (9223372036854775807 : Int)) <|
      π.callQ (32 : Nat) #[(Go.Value.int (IntKind.i64) ((↑n18 : Int)))] (false, [(false, [.str])]) fun (((t26 : ByteArray), _), _) =>
      π.guard ((↑((t9 ++ t23 ++ t24 ++ t25).size + t26.size) : Int) ≤ (9223372036854775807 : Int)) <|
      π.loop [(true, [.int .i64, .int .i64, .slice]), (false, [.str]), (false, [.int .i64]), (true, [.int .i64, .str, .slice, .slice, .slice]), (false, [.int .i64])] ((x4, x5, (a6, n7, c8), ()), (t9 ++ t23 ++ t24 ++ t25 ++ t26, ()), (x10, ()), (x12, t13, (a14, n15, c16), (a17, n18, c19), (a20, n21, c22), ()), ((0 : Int), ()), ()) fun (((x28 : Int), (x29 : Int), ((a30 : Option Addr), (n31 : Nat), (c32 : Nat)), _), ((t33 : ByteArray), _), ((x34 : Int), _), ((x35 : Int), (t36 : ByteArray), ((a37 : Option Addr), (n38 : Nat), (c39 : Nat)), ((a40 : Option Addr), (n41 : Nat), (c42 : Nat)), ((a43 : Option Addr), (n44 : Nat), (c45 : Nat)), _), ((x46 : Int), _), _) again27 =>
        π.ite (decide (x46 < (↑n41 : Int))) (
          π.guard ((0 : Int) ≤ x46 ∧ x46 < (↑n41 : Int)) <|
          π.unSome (a40) fun p47 =>
          π.ld [.int .i64, .str, .int .i64, .bool, .int .i64] (p47.add (x46.toNat * (5 : Nat))) fun ((x48 : Int), (t49 : ByteArray), (x50 : Int), (b51 : Bool), (x52 : Int), _) =>
          π.callQ (32 : Nat) #[(Go.Value.int (IntKind.i64) (x48))] (false, [(false, [.str])]) fun (((t53 : ByteArray), _), _) =>
          π.guard ((↑(t33.size + t53.size) : Int) ≤ (9223372036854775807 : Int)) <|
          π.callQ (37 : Nat) #[(Go.Value.string (t49))] (false, [(false, [.str])]) fun (((t54 : ByteArray), _), _) =>
          π.guard ((↑((t33 ++ t53).size + t54.size) : Int) ≤ (9223372036854775807 : Int)) <|
          π.callQ (32 : Nat) #[(Go.Value.int (IntKind.i64) (x50))] (false, [(false, [.str])]) fun (((t55 : ByteArray), _), _) =>
          π.guard ((↑((t33 ++ t53 ++ t54).size + t55.size) : Int) ≤ (9223372036854775807 : Int)) <|
          π.callQ (36 : Nat) #[(Go.Value.bool (b51))] (false, [(false, [.str])]) fun (((t56 : ByteArray), _), _) =>
          π.guard ((↑((t33 ++ t53 ++ t54 ++ t55).size + t56.size) : Int) ≤ (9223372036854775807 : Int)) <|
          π.callQ (32 : Nat) #[(Go.Value.int (IntKind.i64) (x52))] (false, [(false, [.str])]) fun (((t57 : ByteArray), _), _) =>
          π.guard ((↑((t33 ++ t53 ++ t54 ++ t55 ++ t56).size + t57.size) : Int) ≤ (9223372036854775807 : Int)) <|
          again27 ((x28, x29, (a30, n31, c32), ()), (t33 ++ t53 ++ t54 ++ t55 ++ t56 ++ t57, ()), (x34, ()), (x35, t36, (a37, n38, c39), (a40, n41, c42), (a43, n44, c45), ()), (IntKind.i64.wrap (x46 + (1 : Int)), ()), ())
        ) (
          π.call (32 : Nat) #[(Go.Value.int (IntKind.i64) ((↑n44 : Int)))] (false, [(false, [.str])]) fun (((t58 : ByteArray), _), _) =>
          π.guard ((↑(t33.size + t58.size) : Int) ≤ (9223372036854775807 : Int)) <|
          π.loop [(true, [.int .i64, .int .i64, .slice]), (false, [.str]), (false, [.int .i64]), (true, [.int .i64, .str, .slice, .slice, .slice]), (false, [.int .i64])] ((x28, x29, (a30, n31, c32), ()), (t33 ++ t58, ()), (x34, ()), (x35, t36, (a37, n38, c39), (a40, n41, c42), (a43, n44, c45), ()), ((0 : Int), ()), ()) fun (((x60 : Int), (x61 : Int), ((a62 : Option Addr), (n63 : Nat), (c64 : Nat)), _), ((t65 : ByteArray), _), ((x66 : Int), _), ((x67 : Int), (t68 : ByteArray), ((a69 : Option Addr), (n70 : Nat), (c71 : Nat)), ((a72 : Option Addr), (n73 : Nat), (c74 : Nat)), ((a75 : Option Addr), (n76 : Nat), (c77 : Nat)), _), ((x78 : Int), _), _) again59 =>
            π.ite (decide (x78 < (↑n76 : Int))) (
              π.guard ((0 : Int) ≤ x78 ∧ x78 < (↑n76 : Int)) <|
              π.unSome (a75) fun p79 =>
              π.ld [.int .i64, .str, .int .i64, .int .i64, .int .i64] (p79.add (x78.toNat * (5 : Nat))) fun ((x80 : Int), (t81 : ByteArray), (x82 : Int), (x83 : Int), (x84 : Int), _) =>
              π.callQ (32 : Nat) #[(Go.Value.int (IntKind.i64) (x80))] (false, [(false, [.str])]) fun (((t85 : ByteArray), _), _) =>
              π.guard ((↑(t65.size + t85.size) : Int) ≤ (9223372036854775807 : Int)) <|
              π.callQ (37 : Nat) #[(Go.Value.string (t81))] (false, [(false, [.str])]) fun (((t86 : ByteArray), _), _) =>
              π.guard ((↑((t65 ++ t85).size + t86.size) : Int) ≤ (9223372036854775807 : Int)) <|
              π.nw (Go.Obj.cells #[(Go.Value.int (IntKind.i64) (x82)), (Go.Value.int (IntKind.i64) (x83)), (Go.Value.int (IntKind.i64) (x84))] (3 : Nat) ((0 : Nat), (0 : Nat))) fun r87 =>
              π.call (33 : Nat) #[(Go.Value.slice (some (Addr.mk r87 (0 : Nat) none)) ((3 : Nat)) ((3 : Nat)))] (false, [(false, [.str])]) fun (((t88 : ByteArray), _), _) =>
              π.guard ((↑((t65 ++ t85 ++ t86).size + t88.size) : Int) ≤ (9223372036854775807 : Int)) <|
              again59 ((x60, x61, (a62, n63, c64), ()), (t65 ++ t85 ++ t86 ++ t88, ()), (x66, ()), (x67, t68, (a69, n70, c71), (a72, n73, c74), (a75, n76, c77), ()), (IntKind.i64.wrap (x78 + (1 : Int)), ()), ())
            ) (
              again3 ((x60, x61, (a62, n63, c64), ()), (t65, ()), (IntKind.i64.wrap (x66 + (1 : Int)), ()), ())
            )
        )
    ) (
      π.ret (Go.Value.string (t9))
    )
def ann_encS : Ann := { draws := [(1, { A := [0, 1, 2, 3, 6, 7, 8], quiet := [5, 9], chkL := [(5, [7])], eag := [10, 11] }), (6, { A := [0, 1, 2, 3, 4, 5, 6, 7, 8, 9, 10, 11, 12, 13, 14, 15, 16, 17], quiet := [3, 7, 11, 16] }), (11, { A := [0, 1, 2, 3, 4, 5, 6, 7, 8, 9, 10, 11, 12, 13, 14, 15, 16, 17, 18, 19, 20], quiet := [3, 7, 11, 15, 19] }), (17, { A := [0, 1, 2, 3, 4, 5, 6, 7, 8, 9, 10, 11, 12, 13, 14], quiet := [3, 7, 16], eag := [17] })], join := [], loop := [(3, [(1, 44), (3, 9), (4, 3)]), (8, [(1, 44), (3, 9), (4, 3), (5, 139), (6, 3)]), (14, [(1, 44), (3, 9), (4, 3), (5, 139), (8, 3)])] }
def la_encS : LA := { ptr := [(1, 1, 0), (5, 5, 0), (7, 7, 0), (9, 9, 0), (10, 1, 0), (12, 1, 1), (16, 1, 2), (22, 1, 2), (28, 1, 2), (34, 5, 0), (38, 5, 1), (42, 5, 2), (46, 5, 3), (52, 5, 3), (58, 5, 3), (64, 7, 0), (68, 7, 1), (72, 7, 2), (76, 7, 3), (80, 7, 4), (85, 5, 4), (91, 5, 4), (97, 5, 4), (103, 9, 0), (107, 9, 1), (111, 9, 2), (113, 9, 3), (115, 9, 4)], ty := [(1, 44), (5, 139), (7, 142), (9, 144)] }
set_option maxRecDepth 100000 in
theorem eq_encS {W : Type} (π : Prims W) (sv sl : Int) (sa : Option Addr) (san sac : Nat) : bodyL π Tryz.prog la_encS ann_encS (mkFr (maskA [] [.v (.agg #[.int .i64 sv, .int .i64 sl, .slice sa san sac])] 0) 121) Tryz.f31 (bodyOf Tryz.f31) (mkFr (List.map some [.v (.agg #[.int .i64 sv, .int .i64 sl, .slice sa san sac])]) 121) = vc_encS π sv sl sa san sac := by kernel_rfl
theorem ok_encS (sv sl : Int) (sa : Option Addr) (san sac : Nat) (R : Value → PH → Prop) (s : PH) (h : vc_encS (RP Tryz.prog R) sv sl sa san sac s) : DCalls Tryz.prog 31 (List.map AV.val [.v (.agg #[.int .i64 sv, .int .i64 sl, .slice sa san sac])]).toArray s R :=
  calls_vcL (c := bodyOf Tryz.f31) (ann := ann_encS) la_encS (by kernel_rfl) Tryz.func31 rfl (by kernel_rfl) [.v (.agg #[.int .i64 sv, .int .i64 sl, .slice sa san sac])] [] (by rw [Tryz.ntmps31]; exact Nat.le_of_ble_eq_true rfl) (by kernel_rfl) (by rw [show Tryz.f31.ntmps = 121 from Tryz.ntmps31, eq_encS]; exact h)
end Go.Proofs.YthepfbcgpbkbdaaGreat
end
